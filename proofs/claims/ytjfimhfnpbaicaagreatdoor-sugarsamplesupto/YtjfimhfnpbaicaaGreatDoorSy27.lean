/- Lemmas: the set of rewriting rules; no condition. -/
import Derived.Test.YtjfimhfnpbaicaaGreatDoorSy26
import Derived.Attr
namespace Go.Sy
set_option linter.unusedVariables false
theorem oneOf_1 (x : AV) : oneOf [x] = x := rfl
theorem oneOf_0 : oneOf [] = .tup [] := rfl
theorem oneOf_2 (x y : AV) (l : List AV) : oneOf (x :: y :: l) = .tup (x :: y :: l) := rfl
def endP (n : Nat) (v : AV) : Option (List AV) → Prop
  | some l => Wk (oneOf l) v ∧ bel n v = true
  | none => False
theorem endP_some (n : Nat) (v : AV) (l : List AV) : endP n v (some l) = (Wk (oneOf l) v ∧ bel n v = true) := rfl
theorem aresults_nil (T : Nat → Option TI) (tm : Nat → AV) (s : St) : aresults T tm s [] = some [] := rfl
def consO (a : Option AV) (b : Option (List AV)) : Option (List AV) := match a, b with | some v, some q => some (v :: q) | _, _ => none
theorem consO_some (v : AV) (q : List AV) : consO (some v) (some q) = some (v :: q) := rfl
theorem aresults_cons (T : Nat → Option TI) (tm : Nat → AV) (s : St) (x : ResultVar) (r : List ResultVar) : aresults T tm s (x :: r) = consO (aresult T tm s x) (aresults T tm s r) := by
  rw [aresults]; rfl
/-- the end of a body that leaves nothing behind -/
theorem EndQ_pure {T : Nat → Option TI} {res : List ResultVar} {v : AV} {t : Sl} {s1 : St} {e : Ex} (he : (match e with | .exit _ => False | _ => True)) (h : endP 0 v (aresults T (look t) s1 res)) : EndQ T res ⟨0, [], 0⟩ v ⟨0, [], 0⟩ e t s1 := by
  cases hr : aresults T (look t) s1 res with
  | none => rw [hr] at h; exact h.elim
  | some l =>
    rw [hr] at h
    exact ⟨he, l, hr, h.1, .inr ⟨rfl, bel_sound h.2, fun i x hx => by cases hx⟩⟩
theorem strBeq_dec (a b : List UInt8) : strBeq a b = decide (a = b) := by
  rw [strBeq_iff]
  by_cases h : a = b
  · subst h; simp
  · simp [h]
theorem not_dec (p : Prop) [Decidable p] : (!decide p) = decide (¬ p) := by simp
attribute [go_sem] pops_nil pops_cons popG_true popG_false popK_some popK_none popC_some popR_some gVal_none gVal_some gWant_true gWant_false gSel callOf acallee opv lk_hit lk_miss lk_nil ag_hit ag_miss ag_nil as_hit as_miss putF_some putF_none least_zero St.push St.put AV.cells aop aload abuiltin abin intBin AV.pickCells TI.isAgg avOf av1 isLit idx_cast idx_0 idx_1 idx_2 optIdx AV.one AV.erase AV.erase1 AV.flat AV.flat1 fillCells placeParts fieldAt fillEls aappend_empty aappend_rsv0 aappend_rsv appRsv_some aappend_nil aappend_full aappend_tok appTok_some List.length_map beq_self_eq_true aslice sliceKind eqOther initF_nil initF_cons PRP_done PRP_call Vthen_n Vthen_e Vthen_r Vblock_n Vblock_e Vblock_r condP_b cond_true cond_false nbeq nble Nat.add_eq List.getElem?_toArray List.getElem?_cons_zero List.getElem?_cons_succ List.getElem?_nil Option.bind_some Option.bind_none Option.map_some Option.map_none List.map_cons List.map_nil List.drop_succ_cons List.drop_zero List.drop_nil List.take_succ_cons List.take_zero List.take_nil List.length_cons List.length_nil List.nil_append List.cons_append List.append_nil List.all_cons List.all_nil List.replicate_succ List.replicate_zero List.set_cons_zero List.set_cons_succ decide_true decide_false decide_eq_true_eq Bool.and_true Bool.true_and Bool.and_false Bool.false_and Bool.or_false Bool.or_true Bool.not_true Bool.not_false Option.isSome_some Option.isSome_none if_true if_false Option.getD_some Nat.zero_add Nat.add_zero List.isEmpty_nil List.isEmpty_cons true_implies forall_const Bool.false_eq_true Bool.true_eq_false false_implies and_true true_and implies_true List.reverse_cons List.reverse_nil ne_eq not_true_eq_false not_false_eq_true dpops_nil dpops_cons dG_true dG_false dA_some dA_none dFA_none dF_true dF_false dK_some dK_none dC_some dR_some dE_true dE_false dN_true dN_false DRP_done DRP_call isEff isPure needsSt allocOf small slotsOf Op.operands Call.operands preAlloc chkAll chkOne admits effsOf numbered preB gOK gat nodupB fixB slotsOK objsOK objOK bkV bkL bkTok wkO wksO wks_nil wks_refl wks_cons wk_refl wk_any wk_fro wk_niltok wk_agg wk_tup wk_fn bel bel0 bel1 obel Nat.blt List.any_cons List.any_nil strBeq_dec aresults_nil aresults_cons consO_some aresult endP_some oneOf_0 oneOf_1 oneOf_2
end Go.Sy
