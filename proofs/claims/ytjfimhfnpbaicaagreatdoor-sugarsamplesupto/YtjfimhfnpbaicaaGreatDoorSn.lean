/- Lemmas about given functions: parse.read at lives' text (it defers a closure that recovers); no condition. -/
import Derived.Test.YtjfimhfnpbaicaaGreatDoorSm
import Derived.Test.YtjfimhfnpbaicaaGreatDoorSe0
import Derived.Recover
namespace Go.Sy
open Go.Proofs
set_option linter.unusedSimpArgs false
set_option linter.unusedVariables false
set_option maxRecDepth 100000
def nodes0 : List AV := match prog0 with | .agg [_, .sl _ l] => l | _ => []
theorem prog0_eq : prog0 = .agg [.sl .nil [], .sl .fro nodes0] := rfl
theorem stat39 : statCode dstatic 24 (bodyOf Tryz.f39) = true := (stat_fn (f := 39) (fn := Tryz.f39) rfl rfl (by decide)).1
theorem wp_V {nb m : Nat} {x y : Code} {Q0 : Exit → Act → World → Prop} {t T : Sl} {s S : St} (hV : V PG nb m x (fun e t s => e = .normal ∧ t = T ∧ s = S) t s) (hst : statCode dstatic m x = true) {ds : List Deferred} {cb c : Ctx} {w : World} {a : Act}
    (h1 : cb.le c) (h2 : Bd cb nb) (h3 : Inv c w s) (h4 : ARep ds c m (look t) a) (h : ∀ c' a' w', cb.le c' → Inv c' w' S → ARep ds c' m (look T) a' → y.wp PG Q0 a' w') : (x.seq y).wp PG Q0 a w := by
  refine wp_seq (wp_mono (hV hst ds cb c w a h1 h2 h3 h4) ?_)
  rintro e a w ⟨c', tm, s, k1, k2, k3, x', u, rfl, rfl, rfl, rfl, rfl⟩
  exact h c' a w k1 k2 k3
theorem statL {m : Nat} {x y : Code} (h : statCode dstatic m (.seq x y) = true) : statCode dstatic m x = true := by
  simp only [statCode, Bool.and_eq_true] at h; exact h.1
theorem statR {m : Nat} {x y : Code} (h : statCode dstatic m (.seq x y) = true) : statCode dstatic m y = true := by
  simp only [statCode, Bool.and_eq_true] at h; exact h.2
theorem ARep.init {c : Ctx} {args : List AV} {vs : Array Value} {m : Nat} (hv : VRs c args vs.toList) (hl : args.length ≤ m) : ARep [] c m (tm0 args) { tmps := vs ++ Array.replicate (m - vs.size) undef, defers := [] } := by
  have hlen := VRs.length hv
  simp only [Array.length_toList] at hlen
  refine ⟨rfl, by simp; omega, fun t => ?_⟩
  unfold tm0
  cases hx : args[t]? with
  | none => exact .any _
  | some x =>
    obtain ⟨v, g1, g2⟩ := VRs.get hv t x hx
    have hlt : t < vs.size := by have := (List.getElem?_eq_some_iff.1 hx).1; omega
    have g1' : vs[t]? = some v := by simpa using g1
    have : (vs ++ Array.replicate (m - vs.size) undef).getD t undef = v := by
      rw [Array.getD_eq_getD_getElem?, Array.getElem?_append_left hlt, g1']; rfl
    rw [this]; exact g2
theorem Inv.bd {c : Ctx} {w : World} {s : St} (hI : Inv c w s) : Bd c s.n := ⟨fun i b h => (hI.ids i b h).1, fun i q h => by obtain ⟨b, sz, cap⟩ := q; exact (hI.tks i b sz cap h).1, hI.pnd⟩
theorem stat67 : statCode dstatic 9 (bodyOf Tryz.f67) = true := (stat_fn (f := 67) (fn := Tryz.f67) rfl rfl (by decide)).1
/-- the deferred closure, when nothing panicked: it recovers nothing, and writes no fault -/
theorem closure_ok {c : Ctx} {w : World} {pc : List AV} (hI : Inv c w ⟨3, [(1, .cells z3), (0, .cells pc)], 0⟩) {v5 v4 : Value} (g5 : VR c (.ptr 1 0) v5) (g4 : VR c (.ptr 0 0) v4) {R : Ending → FrameMode → World → Prop}
    (h : ∀ c' v w', c.le c' → Inv c' w' ⟨3, [(1, .cells z3), (0, .cells pc)], 0⟩ → R (.returned v) .returning w') : CallsD PG 67 #[v5, v4] .returning w R := by
  refine callsD_of_wpS Tryz.func67 rfl fun c₀ cs hc => ?_
  have hst := stat67
  simp only [bodyOf, Tryz.f67] at hst ⊢
  refine wpS_seq (wpS_region ?_)
  change wpOpsS _ _ _ [0, 1, 2] _ _ _
  have hrec : ∀ ty w, Sem.run PG (builtin Builtin.recover #[] ty #[] #[]) w = .ok .recover w := fun _ _ => rfl
  simp [wpOpsS, Region.wanted, Oper.upon, execOp, resolve, Deferred.ofValue, Act.put, Act.eval, invoke, recoverD, hc, hrec]
  refine ((caught_ok _).2 c w #[.nilIface] hI (.vcons _ _ _ _ .nilifc .vnil)).mono ?_
  rintro e w1 ⟨v, c1, r, s1, rfl, hle, I1, hvr, rfl, rfl⟩
  cases g5 with
  | ptr _ _ b hb =>
    obtain ⟨w2, k1, I2⟩ := store_sound ty_ok I1 (off := 0) (ty_29) (aget_cons_same _ _ _) (hle.ι _ _ hb) hvr rfl rfl (by decide) 0
    dsimp only
    rw [k1]
    simp only [Result.andThen_ok]
    refine wpS_of_wp (wp_mono (((?hV : V PG 3 9 _ (fun e t s => e = .normal ∧ s = ⟨3, [(1, .cells z3), (0, .cells pc)], 0⟩) [(0, .ptr 1 0), (1, .ptr 0 0)] ⟨3, [(1, .cells z3), (0, .cells pc)], 0⟩) (statR hst) [] c1 c1 w2 _ (Ctx.le.refl _) I1.bd I2 ?_)) ?_)
    case hV =>
      refine V_seq ?_
      (repeat (first | refine V_seq ?_ | refine V_block ?_ | (refine goR ?_; simp only [go_sem, Nat.reduceBEq, Nat.reduceAdd, Nat.reduceSub, Nat.reduceMul, Nat.reduceLeDiff, Nat.reduceEqDiff, Nat.reduceLT, reduceIte, reduceCtorEq, z3]) | (refine goD rfl ?_; simp only [go_sem, Nat.reduceBEq, Nat.reduceAdd, Nat.reduceSub, Nat.reduceMul, Nat.reduceLeDiff, Nat.reduceEqDiff, Nat.reduceLT, reduceIte, reduceCtorEq, z3]) | (refine V_skip ?_; simp only [go_sem, Nat.reduceBEq, Nat.reduceAdd, Nat.reduceSub, Nat.reduceMul, Nat.reduceLeDiff, Nat.reduceEqDiff, Nat.reduceLT, reduceIte, reduceCtorEq, z3]) | (refine V_cond ?_; simp only [go_sem, Nat.reduceBEq, Nat.reduceAdd, Nat.reduceSub, Nat.reduceMul, Nat.reduceLeDiff, Nat.reduceEqDiff, Nat.reduceLT, reduceIte, reduceCtorEq, z3]) | (refine V_exit ?_; simp only [go_sem, Nat.reduceBEq, Nat.reduceAdd, Nat.reduceSub, Nat.reduceMul, Nat.reduceLeDiff, Nat.reduceEqDiff, Nat.reduceLT, reduceIte, reduceCtorEq, z3])))
    · refine ⟨rfl, by simp, fun t => ?_⟩
      match t with
      | 0 => exact .ptr _ _ b (hle.ι _ _ hb)
      | 1 => exact g4.mono hle
      | t + 2 => exact .any _
    · rintro e a w' ⟨c5, tm, s, l5, I5, r5, x, u, rfl, rfl, rfl, rfl⟩
      obtain ⟨v', q1, q2⟩ := results_sound (fn := Tryz.f67) ty_ok I5 r5 (l := []) rfl
      exact ⟨r5.defers, .returning, by rw [← hc], v', q1, h c5 v' w' (hle.trans l5) I5⟩
theorem read_det : Det PG 39 [.str txt0, .fn (.func 40) [] []] ⟨0, [], 0⟩ (.tup [prog0, .agg z3]) ⟨0, [], 0⟩ := by
  refine ⟨⟨_, Tryz.func39, rfl, rfl⟩, fun c w vs hI hv => ?_⟩
  refine calls_of_wp_defers Tryz.func39 rfl ?_
  have hst := stat39
  simp only [bodyOf, Tryz.f39] at hst
  have ha : ARep [] c 24 (look (initF [.str txt0, .fn (.func 40) [] []] 0)) { tmps := vs ++ Array.replicate (24 - vs.size) undef, defers := [] } := by
    rw [look_init]
    exact ARep.init hv (by decide)
  have hbd : Bd c 0 := ⟨fun i b h => (hI.ids i b h).1, fun i q h => by obtain ⟨b, sz, cap⟩ := q; exact (hI.tks i b sz cap h).1, hI.pnd⟩
  refine wp_V (T := [(5, .ptr 1 0), (4, .ptr 0 0), (0, .str txt0), (1, .fn (.func 40) [] [])]) (S := ⟨2, [(1, .cells z3), (0, .cells zp)], 0⟩) ?V1 (statL hst) (Ctx.le.refl c) hbd hI ha ?N1
  case V1 =>
    (repeat (first | refine V_seq ?_ | refine V_block ?_ | (refine goR ?_; simp only [go_sem, Nat.reduceBEq, Nat.reduceAdd, Nat.reduceSub, Nat.reduceMul, Nat.reduceLeDiff, Nat.reduceEqDiff, Nat.reduceLT, reduceIte, reduceCtorEq]) | (refine goD rfl ?_; simp only [go_sem, Nat.reduceBEq, Nat.reduceAdd, Nat.reduceSub, Nat.reduceMul, Nat.reduceLeDiff, Nat.reduceEqDiff, Nat.reduceLT, reduceIte, reduceCtorEq]) | (refine V_skip ?_; simp only [go_sem, Nat.reduceBEq, Nat.reduceAdd, Nat.reduceSub, Nat.reduceMul, Nat.reduceLeDiff, Nat.reduceEqDiff, Nat.reduceLT, reduceIte, reduceCtorEq]) | (refine V_cond ?_; simp only [go_sem, Nat.reduceBEq, Nat.reduceAdd, Nat.reduceSub, Nat.reduceMul, Nat.reduceLeDiff, Nat.reduceEqDiff, Nat.reduceLT, reduceIte, reduceCtorEq]) | (refine V_exit ?_; simp only [go_sem, Nat.reduceBEq, Nat.reduceAdd, Nat.reduceSub, Nat.reduceMul, Nat.reduceLeDiff, Nat.reduceEqDiff, Nat.reduceLT, reduceIte, reduceCtorEq])))
    first | exact ⟨rfl, rfl⟩ | rfl
  intro c1 a1 w1 l1 I1 r1
  refine wp_V (T := [(6, toks0), (11, .agg z3), (10, toks0), (7, .tup [toks0, .agg z3]), (9, .tup [toks0, .agg z3]), (8, .str txt0), (5, .ptr 1 0), (4, .ptr 0 0), (0, .str txt0), (1, .fn (.func 40) [] [])]) (S := ⟨2, [(1, .cells z3), (0, .cells zp)], 0⟩) ?V2 (statL (statR hst)) l1 hbd I1 r1 ?N2
  case V2 =>
    (repeat (first | refine V_seq ?_ | refine V_block ?_ | (refine goR ?_; simp only [go_sem, Nat.reduceBEq, Nat.reduceAdd, Nat.reduceSub, Nat.reduceMul, Nat.reduceLeDiff, Nat.reduceEqDiff, Nat.reduceLT, reduceIte, reduceCtorEq]) | (refine goD rfl ?_; simp only [go_sem, Nat.reduceBEq, Nat.reduceAdd, Nat.reduceSub, Nat.reduceMul, Nat.reduceLeDiff, Nat.reduceEqDiff, Nat.reduceLT, reduceIte, reduceCtorEq]) | (refine V_skip ?_; simp only [go_sem, Nat.reduceBEq, Nat.reduceAdd, Nat.reduceSub, Nat.reduceMul, Nat.reduceLeDiff, Nat.reduceEqDiff, Nat.reduceLT, reduceIte, reduceCtorEq]) | (refine V_cond ?_; simp only [go_sem, Nat.reduceBEq, Nat.reduceAdd, Nat.reduceSub, Nat.reduceMul, Nat.reduceLeDiff, Nat.reduceEqDiff, Nat.reduceLT, reduceIte, reduceCtorEq]) | (refine V_exit ?_; simp only [go_sem, Nat.reduceBEq, Nat.reduceAdd, Nat.reduceSub, Nat.reduceMul, Nat.reduceLeDiff, Nat.reduceEqDiff, Nat.reduceLT, reduceIte, reduceCtorEq])))
    refine CallP_pure scan_ok (by simp only [go_sem, Nat.reduceBEq, Nat.reduceAdd, Nat.reduceSub, Nat.reduceMul, Nat.reduceLeDiff, Nat.reduceEqDiff, Nat.reduceLT, reduceIte, reduceCtorEq]) ?_
    (refine goW ?_; simp only [go_sem, Nat.reduceBEq, Nat.reduceAdd, Nat.reduceSub, Nat.reduceMul, Nat.reduceLeDiff, Nat.reduceEqDiff, Nat.reduceLT, reduceIte, reduceCtorEq, z3])
  intro c2 a2 w2 l2 I2 r2
  refine wp_V (T := [(14, .bool false), (13, .int .i64 0), (12, .ptr 1 0), (6, toks0), (11, .agg z3), (10, toks0), (7, .tup [toks0, .agg z3]), (9, .tup [toks0, .agg z3]), (8, .str txt0), (5, .ptr 1 0), (4, .ptr 0 0), (0, .str txt0), (1, .fn (.func 40) [] [])]) (S := ⟨2, [(1, .cells z3), (0, .cells zp)], 0⟩) ?V3 (statL (statR (statR hst))) l2 hbd I2 r2 ?N3
  case V3 =>
    (repeat (first | refine V_seq ?_ | refine V_block ?_ | (refine goR ?_; simp only [go_sem, Nat.reduceBEq, Nat.reduceAdd, Nat.reduceSub, Nat.reduceMul, Nat.reduceLeDiff, Nat.reduceEqDiff, Nat.reduceLT, reduceIte, reduceCtorEq, z3]) | (refine goD rfl ?_; simp only [go_sem, Nat.reduceBEq, Nat.reduceAdd, Nat.reduceSub, Nat.reduceMul, Nat.reduceLeDiff, Nat.reduceEqDiff, Nat.reduceLT, reduceIte, reduceCtorEq, z3]) | (refine V_skip ?_; simp only [go_sem, Nat.reduceBEq, Nat.reduceAdd, Nat.reduceSub, Nat.reduceMul, Nat.reduceLeDiff, Nat.reduceEqDiff, Nat.reduceLT, reduceIte, reduceCtorEq, z3]) | (refine V_cond ?_; simp only [go_sem, Nat.reduceBEq, Nat.reduceAdd, Nat.reduceSub, Nat.reduceMul, Nat.reduceLeDiff, Nat.reduceEqDiff, Nat.reduceLT, reduceIte, reduceCtorEq, z3]) | (refine V_exit ?_; simp only [go_sem, Nat.reduceBEq, Nat.reduceAdd, Nat.reduceSub, Nat.reduceMul, Nat.reduceLeDiff, Nat.reduceEqDiff, Nat.reduceLT, reduceIte, reduceCtorEq, z3])))
  intro c3 a3 w3 l3 I3 r3
  have g5 : VR c3 (.ptr 1 0) (a3.tmps.getD 5 undef) := r3.get 5
  have g4 : VR c3 (.ptr 0 0) (a3.tmps.getD 4 undef) := r3.get 4
  generalize hv5 : a3.tmps.getD 5 undef = v5 at g5
  generalize hv4 : a3.tmps.getD 4 undef = v4 at g4
  have hsz := r3.size
  have hdf := r3.defers
  obtain ⟨tmps, defers⟩ := a3
  simp only at hv5 hv4 hsz hdf
  subst hdf
  refine wp_seq (wp_region ?_)
  have h17 : 17 < tmps.size := by omega
  simp only [Array.getD_eq_getD_getElem?] at hv5 hv4
  change wpOps _ _ _ [0, 1] _ _
  simp [wpOps, Region.wanted, Oper.wp, Oper.upon, execOp, Instr.makeFunc, resolve, Deferred.ofValue, Act.put, Act.eval, hv4, hv5, h17]
  refine .inl (.inl ?_)
  simp only [Exit.then]
  have r4 : ARep [{ target := Target.fn (Fn.func 67) #[v5, v4], args := #[] }] c3 24 (look [(17, .any), (14, .bool false), (13, .int .i64 0), (12, .ptr 1 0), (6, toks0), (11, .agg z3), (10, toks0), (7, .tup [toks0, .agg z3]), (9, .tup [toks0, .agg z3]), (8, .str txt0), (5, .ptr 1 0), (4, .ptr 0 0), (0, .str txt0), (1, .fn (.func 40) [] [])]) { tmps := tmps.setIfInBounds 17 (Value.func (Fn.func 67) #[] #[v5, v4]), defers := [{ target := Target.fn (Fn.func 67) #[v5, v4], args := #[] }] } := by
    have r := r3.put (d := some 17) (by decide) (Rep.any (Value.func (Fn.func 67) #[] #[v5, v4]))
    rw [← look_putF] at r
    exact ⟨rfl, r.size, r.get⟩
  refine wp_mono (((?hE : V PG 2 24 _ (fun e t s => e = .ret ∧ look t 5 = .ptr 1 0 ∧ look t 4 = .ptr 0 0 ∧ s = ⟨3, [(1, .cells z3), (0, .cells [.sl .nil [], .sl .fro nodes0])], 0⟩) _ _) (statR (statR (statR (statR hst)))) _ c3 c3 w3 _ (Ctx.le.refl _) I3.bd I3 r4)) ?_
  case hE =>
    have PO := program_ok
    rw [prog0_eq] at PO
    simp only [s3] at PO
    (repeat (first | refine V_seq ?_ | refine V_block ?_ | (refine goR ?_; simp only [go_sem, Nat.reduceBEq, Nat.reduceAdd, Nat.reduceSub, Nat.reduceMul, Nat.reduceLeDiff, Nat.reduceEqDiff, Nat.reduceLT, reduceIte, reduceCtorEq]) | (refine goD rfl ?_; simp only [go_sem, Nat.reduceBEq, Nat.reduceAdd, Nat.reduceSub, Nat.reduceMul, Nat.reduceLeDiff, Nat.reduceEqDiff, Nat.reduceLT, reduceIte, reduceCtorEq]) | (refine V_skip ?_; simp only [go_sem, Nat.reduceBEq, Nat.reduceAdd, Nat.reduceSub, Nat.reduceMul, Nat.reduceLeDiff, Nat.reduceEqDiff, Nat.reduceLT, reduceIte, reduceCtorEq]) | (refine V_cond ?_; simp only [go_sem, Nat.reduceBEq, Nat.reduceAdd, Nat.reduceSub, Nat.reduceMul, Nat.reduceLeDiff, Nat.reduceEqDiff, Nat.reduceLT, reduceIte, reduceCtorEq]) | (refine V_exit ?_; simp only [go_sem, Nat.reduceBEq, Nat.reduceAdd, Nat.reduceSub, Nat.reduceMul, Nat.reduceLeDiff, Nat.reduceEqDiff, Nat.reduceLT, reduceIte, reduceCtorEq])))
    refine CallP_of PO (by simp only [go_sem, Nat.reduceBEq, Nat.reduceAdd, Nat.reduceSub, Nat.reduceMul, Nat.reduceLeDiff, Nat.reduceEqDiff, Nat.reduceLT, reduceIte, reduceCtorEq]) ?_
    (refine goW ?_; simp only [go_sem, Nat.reduceBEq, Nat.reduceAdd, Nat.reduceSub, Nat.reduceMul, Nat.reduceLeDiff, Nat.reduceEqDiff, Nat.reduceLT, reduceIte, reduceCtorEq, zp, z3])
    (repeat (first | refine V_seq ?_ | refine V_block ?_ | (refine goR ?_; simp only [go_sem, Nat.reduceBEq, Nat.reduceAdd, Nat.reduceSub, Nat.reduceMul, Nat.reduceLeDiff, Nat.reduceEqDiff, Nat.reduceLT, reduceIte, reduceCtorEq]) | (refine goD rfl ?_; simp only [go_sem, Nat.reduceBEq, Nat.reduceAdd, Nat.reduceSub, Nat.reduceMul, Nat.reduceLeDiff, Nat.reduceEqDiff, Nat.reduceLT, reduceIte, reduceCtorEq]) | (refine V_skip ?_; simp only [go_sem, Nat.reduceBEq, Nat.reduceAdd, Nat.reduceSub, Nat.reduceMul, Nat.reduceLeDiff, Nat.reduceEqDiff, Nat.reduceLT, reduceIte, reduceCtorEq]) | (refine V_cond ?_; simp only [go_sem, Nat.reduceBEq, Nat.reduceAdd, Nat.reduceSub, Nat.reduceMul, Nat.reduceLeDiff, Nat.reduceEqDiff, Nat.reduceLT, reduceIte, reduceCtorEq]) | (refine V_exit ?_; simp only [go_sem, Nat.reduceBEq, Nat.reduceAdd, Nat.reduceSub, Nat.reduceMul, Nat.reduceLeDiff, Nat.reduceEqDiff, Nat.reduceLT, reduceIte, reduceCtorEq])))
    exact V_ret ⟨rfl, rfl, rfl, rfl⟩
  rintro e a5 w5 ⟨c5, tm, s, l5, I5, r5, x, u, rfl, rfl, rfl, h5, h4, rfl⟩
  show Leaves PG Tryz.f39 a5.tmps _ a5.defers .returning w5
  rw [r5.defers]
  refine leaves_cons (by simp) (by simp [invoke, callFunc, Tryz.f67]) (closure_ok I5 (g5.mono l5) (g4.mono l5) ?_)
  intro c6 v w6 l6 I6
  have hres : aresults ty (look u) ⟨3, [(1, .cells z3), (0, .cells [.sl .nil [], .sl .fro nodes0])], 0⟩ Tryz.f39.results.toList = some [prog0, .agg z3] := by
    simp only [Tryz.f39, aresults, aresult, h4, h5]
    rfl
  obtain ⟨v', q1, q2⟩ := results_sound (fn := Tryz.f39) ty_ok I6 (r5.mono l6) hres
  have lc := (l3.trans l5).trans l6
  refine ⟨v', q1, v', rfl, c6.cut 0, Ctx.le_cut lc hI.ids_lt hI.tks_lt hI.pnd, _, ⟨0, [], 0⟩, I6.gc 0 [] 0 (fun i x hx => by cases hx), q2.cut (bel_sound rfl), rfl, rfl⟩
theorem read_ok : Pure PG 39 [.str txt0, .fn (.func 40) [] []] (.tup [prog0, .agg z3]) := pure_of (bel_all rfl) (bel_sound rfl) read_det
end Go.Sy
