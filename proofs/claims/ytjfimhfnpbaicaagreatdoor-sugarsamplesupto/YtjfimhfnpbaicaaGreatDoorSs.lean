/- Lemmas: the contract of SugarSamples as its row says it; the bound of the row's second form. -/
import Derived.Test.YtjfimhfnpbaicaaGreatDoorCards
import Derived.Test.YtjfimhfnpbaicaaGreatDoorTie
import Derived.Test.YtjfimhfnpbaicaaGreatDoorSr
import Derived.WalkKit
import Derived.ProofKit
import Derived.OpenShut
import Derived.ChangeMaps5
import Derived.Carry
import Derived.Deep.DeepHandedRow
namespace Go.Proofs.YtjfimhfnpbaicaaGreatDoor.sugarSamples
open Go.ChangeShapes Go.WideShapes Go.ChangeAt Go.RowKit
set_option linter.unusedSimpArgs false
set_option linter.unusedVariables false
set_option maxRecDepth 100000
theorem laidOut : laidOutB Tryz.prog = true := by kernel_rfl
theorem readable37 : Tryz.prog.readableRec 37 = true := by kernel_rfl
theorem readable9 : Tryz.prog.readableRec 9 = true := by kernel_rfl
theorem row37 : 37 < Tryz.prog.types.size := of_decide_eq_true (by kernel_rfl)
theorem row9 : 9 < Tryz.prog.types.size := of_decide_eq_true (by kernel_rfl)
theorem post_old {H : Type} {enc : TypeId × Value → H} {P : Program} {f : Func} {s : ChangeSpec} {apart fresh handsOn again : Bool} {W W' : World} {args : Array Value} {v : Value} {ds gs : List (DataW H)} {before pa pv : List MemPlace}
    (hW : DataW.Whole enc P f.params.toList s.vars apart W args.toList ds gs before)
    (hres : ∀ (b : Nat) (sp : Nat → Bool) (hd : Bool), DataW.TrodAll enc P W' b sp hd f.resultTypes.toList (v.resultList f.resultTypes.size) (s.fn H (ds ++ gs)).results [])
    (hargs : ∀ sp : Nat → Bool, (∀ p ∈ before, sp p.block = true) → DataW.TrodAll enc P W' 0 sp true f.params.toList args.toList (s.fn H (ds ++ gs)).args pa)
    (hvars : ∀ sp : Nat → Bool, (∀ p ∈ before, sp p.block = true) → DataW.TrodVars enc P W' sp s.vars (s.fn H (ds ++ gs)).vars pv)
    (hps : before = pa ++ pv) (hk : W.keptBut W' (· ∈ before)) (hfz : ∀ a, a.block < W.heap.size → W'.frozen? a = W.frozen? a)
    (hok : ∀ (j : Nat) (t : TypeId) (r : Value), f.resultTypes[j]? = some t → (v.resultList f.resultTypes.size)[j]? = some r → Value.okWide P W' .any 0 t r) :
    s.post enc P f apart fresh handsOn again W args v W' := by
  have hlt : ∀ p ∈ before, p.block < W.heap.size := fun p hp => hW.lt p hp
  have hold : ∀ p ∈ before, (fun b => decide (b < W.heap.size)) p.block = true := fun p hp => by simpa using hlt p hp
  refine ⟨ds, gs, before, [], pa, pv, hW, hres _ _ _, hargs _ hold, hvars _ hold, World.keptBut_mono (fun p hp => ⟨hp, ?_⟩) hk, fun _ => ?_⟩
  · rw [hps, List.mem_append] at hp
    exact Or.inr hp
  · obtain ⟨_, _, _, _, _, hz, hn⟩ := hW
    refine ⟨hok, _, _, ([] ++ pa) ++ pv, ⟨[] ++ pa, pv, trodAll_append (hargs _ (fun _ _ => rfl)) (hres _ _ _), hvars _ (fun _ _ => rfl), rfl, ?_, ?_⟩, ?_⟩
    · intro b off hp
      have hb : MemPlace.cell b off ∈ before := by rw [hps]; simpa using hp
      rw [hfz _ (hlt _ hb)]
      exact hz b off hb
    · intro ha
      have := hn ha
      rw [hps] at this
      simpa using this
    · intro p hp _
      rw [hps]
      simpa using hp
theorem contract (H : Type) (enc : TypeId × Value → H) (W : World) (base : Nat) (args : Array Value) (ds gs : List (DataW H)) (before : List MemPlace)
    (hval : ∀ (j : Nat) t v, Tryz.f4.params[j]? = some t → args[j]? = some v → Value.okWide Tryz.prog W .any base t v)
    (hW : DataW.Whole enc Tryz.prog Tryz.f4.params.toList Rows.sugarSamplesSpec.vars false W args.toList ds gs before) (hbulk : Rows.uptoBulkAll (ds ++ gs) ≤ 1048576) :
    Calls Tryz.prog 4 args W fun e W' => ∃ v, e = .returned v ∧ Rows.sugarSamplesSpec.post enc Tryz.prog Tryz.f4 false true false false W args v W' := by
  have hW' := hW
  obtain ⟨p, q, hA0, hV, rfl, hfz, hnd⟩ := hW
  have hA : DataW.TrodAll enc Tryz.prog W 0 (fun _ => true) true [37, 9, 9] args.toList ds p := hA0
  obtain ⟨v0, vs0, d0, ds0, p0, q0, hargs, rfl, rfl, h0, r0⟩ := trodAll_cons hA
  obtain ⟨v1, vs1, d1, ds1, p1, q1, rfl, rfl, rfl, h1, r1⟩ := trodAll_cons r0
  obtain ⟨v2, vs2, d2, ds2, p2, q2, rfl, rfl, rfl, h2, r2⟩ := trodAll_cons r1
  obtain ⟨rfl, rfl, rfl⟩ := trodAll_nil r2
  obtain rfl : args = #[v0, v1, v2] := by cases args; simp_all
  obtain ⟨rfl, rfl⟩ := trodVars_none hV
  have k0 := hval 0 37 v0 rfl rfl
  have h0' := h0
  have h1' := h1
  have h2' := h2
  obtain ⟨s1, rfl, rfl, rfl, _⟩ := Go.ChangeMaps.open_string Tryz.underlying9 (hval 1 9 v1 rfl rfl) h1
  obtain ⟨s2, rfl, rfl, rfl, _⟩ := Go.ChangeMaps.open_string Tryz.underlying9 (hval 2 9 v2 rfl rfl) h2
  obtain ⟨cs, rfl, _, _⟩ : ∃ cs, v0 = .agg cs ∧ cs.size = Tryz.prog.cellsOf 37 ∧ Row.okWide Tryz.prog W .any base 37 cs := by
    unfold Value.okWide at k0
    rw [Tryz.underlying37] at k0
    exact k0
  obtain ⟨fuel, hf⟩ := h0
  obtain ⟨e, e1, e2⟩ := Go.Sy.read_expr fuel _ _ hf
  simp only [List.append_nil] at hbulk hW'
  have hb : e.w ≤ 1048576 := by
    simp only [Rows.uptoBulkAll, List.cons_append, List.nil_append] at hbulk
    have : (d0, p0).1 = d0 := rfl
    rw [this] at e2
    omega
  have hsz := Go.Sy.Expr.size_le (Go.Sy.sample s1.data.toList s2.data.toList e)
  have hsw := Go.Sy.sample_w s1.data.toList s2.data.toList e
  have hlim : Go.Sy.lim = 1099511627776 := rfl
  have hlaw := (Go.Sy.law_samples e s1.data.toList s2.data.toList (by omega) (by omega) ⟨0, [], 0⟩).2
  have hvr : Go.Sy.VR (Go.Sy.cFirm W) e.emb (.agg cs) := by
    rw [Go.Sy.Expr.emb_eq] at e1 ⊢
    exact .agg _ _ e1
  refine (hlaw (Go.Sy.cFirm W) W #[.agg cs, .string s1, .string s2] (Go.Sy.inv_firm W) (.vcons _ _ _ _ hvr (.vcons _ _ _ _ (.str s1) (.vcons _ _ _ _ (.str s2) .vnil)))).mono ?_
  rintro x W' ⟨v, c', r, s', rfl, hle, hI', hr, rfl, rfl⟩
  cases hr
  obtain ⟨o1, o2, o3⟩ := Go.Sy.inv_old hle hI'
  have hlt : ∀ x ∈ p0, x.block < W.heap.size := fun x hx => hW'.lt x (by simp [hx])
  have hsame : ∀ x ∈ p0, W.sameAt W' x := fun x hx => by
    cases x with
    | cell b o => exact World.cell?_of_block (w := W) (o3 b (hlt _ hx))
    | map b => exact o3 b (hlt _ hx)
  refine ⟨_, rfl, post_old (pa := p0) (pv := []) hW' (fun _ _ _ => trodAll_cons_mk (shut_bool Tryz.underlying4 _) trodAll_mk0) (fun sp hsp => ?_) (fun _ _ => rfl) (by simp) ?_ (fun a ha => World.frozen?_of_block (w := W) (o3 _ ha)) (ok_one (by kernel_rfl) rfl (okWide_bool_mk Tryz.underlying4 _))⟩
  · have t0 := Go.WideElems.Trod_stays laidOut readable37 row37 h0' hsame (sp' := sp) (fun x hx => hsp x (by simp [hx]))
    have t1 := Go.WideElems.Trod_stays laidOut readable9 row9 h1' (W' := W') (sp' := sp) (fun x hx => by cases hx) (fun x hx => by cases hx)
    have t2 := Go.WideElems.Trod_stays laidOut readable9 row9 h2' (W' := W') (sp' := sp) (fun x hx => by cases hx) (fun x hx => by cases hx)
    have := trodAll_cons_mk t0 (trodAll_cons_mk t1 (trodAll_cons_mk t2 trodAll_mk0))
    simp only [List.append_nil] at this ⊢
    exact this
  · refine ⟨o1, o2, fun i hi => ?_⟩
    rw [o3 i hi]
    split <;> simp_all
theorem own : ownKnob Tryz.prog.godebug = none := by kernel_rfl
end Go.Proofs.YtjfimhfnpbaicaaGreatDoor.sugarSamples
