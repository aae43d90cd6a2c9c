/- Lemmas about given functions: the law SugarSamples; its condition is a size. -/
import Derived.Test.YtjfimhfnpbaicaaGreatDoorSo
namespace Go.Sy
open Go.Proofs
set_option linter.unusedSimpArgs false
set_option linter.unusedVariables false
set_option maxRecDepth 100000
theorem law_samples (e : Expr) (x con : Bytes) (he : 3 * e.w ≤ lim) (hz : (sample x con e).size ≤ lim) : Pure PG 4 [e.emb, .str x, .str con] (.bool true) := by
  have hs := sample_size x con e
  have hsw := sample_w x con e
  have hlim : lim = 1099511627776 := rfl
  have k9 := lives_ok
  have k13 := sample_ok x con e (by omega)
  have k15 := refSample_ok x con e (by omega)
  have k14 := refSameExpr_ok (sample x con e) (by omega) (sample x con e)
  have k16a := size_ok (sample x con e) hz
  have k16b := size_ok e (by omega)
  have k17 := vars_ok e (by omega)
  rw [sameE_refl] at k14
  rw [hs] at k16a
  generalize sample x con e = s at k13 k15 k14 k16a
  rw [Expr.emb_eq e] at k13 k15 k16b k17 ⊢
  rw [Expr.emb_eq s] at k13 k15 k14 k16a
  refine enterP (f := 4) (fn := Tryz.f4) rfl rfl (by decide) (by simp [Tryz.f4]) ?_ ?_ ?_
  · exact bel_all rfl
  · exact bel_sound rfl
  simp only [bodyOf, Tryz.f4]
  (repeat (first | refine V_seq ?_ | refine V_block ?_ | (refine goR ?_; simp only [go_sem, Nat.reduceBEq, Nat.reduceAdd, Nat.reduceSub, Nat.reduceMul, Nat.reduceLeDiff, Nat.reduceEqDiff, Nat.reduceLT, reduceIte, reduceCtorEq]) | (refine goD rfl ?_; simp only [go_sem, Nat.reduceBEq, Nat.reduceAdd, Nat.reduceSub, Nat.reduceMul, Nat.reduceLeDiff, Nat.reduceEqDiff, Nat.reduceLT, reduceIte, reduceCtorEq]) | (refine V_skip ?_; simp only [go_sem, Nat.reduceBEq, Nat.reduceAdd, Nat.reduceSub, Nat.reduceMul, Nat.reduceLeDiff, Nat.reduceEqDiff, Nat.reduceLT, reduceIte, reduceCtorEq]) | (refine V_cond ?_; simp only [go_sem, Nat.reduceBEq, Nat.reduceAdd, Nat.reduceSub, Nat.reduceMul, Nat.reduceLeDiff, Nat.reduceEqDiff, Nat.reduceLT, reduceIte, reduceCtorEq]) | (refine V_exit ?_; simp only [go_sem, Nat.reduceBEq, Nat.reduceAdd, Nat.reduceSub, Nat.reduceMul, Nat.reduceLeDiff, Nat.reduceEqDiff, Nat.reduceLT, reduceIte, reduceCtorEq])))
  refine CallP_pure k9 (by simp only [go_sem, Nat.reduceBEq, Nat.reduceAdd, Nat.reduceSub, Nat.reduceMul, Nat.reduceLeDiff, Nat.reduceEqDiff, Nat.reduceLT, reduceIte, reduceCtorEq]) ?_
  (refine goW ?_; simp only [go_sem, Nat.reduceBEq, Nat.reduceAdd, Nat.reduceSub, Nat.reduceMul, Nat.reduceLeDiff, Nat.reduceEqDiff, Nat.reduceLT, reduceIte, reduceCtorEq])
  (repeat (first | refine V_seq ?_ | refine V_block ?_ | (refine goR ?_; simp only [go_sem, Nat.reduceBEq, Nat.reduceAdd, Nat.reduceSub, Nat.reduceMul, Nat.reduceLeDiff, Nat.reduceEqDiff, Nat.reduceLT, reduceIte, reduceCtorEq]) | (refine goD rfl ?_; simp only [go_sem, Nat.reduceBEq, Nat.reduceAdd, Nat.reduceSub, Nat.reduceMul, Nat.reduceLeDiff, Nat.reduceEqDiff, Nat.reduceLT, reduceIte, reduceCtorEq]) | (refine V_skip ?_; simp only [go_sem, Nat.reduceBEq, Nat.reduceAdd, Nat.reduceSub, Nat.reduceMul, Nat.reduceLeDiff, Nat.reduceEqDiff, Nat.reduceLT, reduceIte, reduceCtorEq]) | (refine V_cond ?_; simp only [go_sem, Nat.reduceBEq, Nat.reduceAdd, Nat.reduceSub, Nat.reduceMul, Nat.reduceLeDiff, Nat.reduceEqDiff, Nat.reduceLT, reduceIte, reduceCtorEq]) | (refine V_exit ?_; simp only [go_sem, Nat.reduceBEq, Nat.reduceAdd, Nat.reduceSub, Nat.reduceMul, Nat.reduceLeDiff, Nat.reduceEqDiff, Nat.reduceLT, reduceIte, reduceCtorEq])))
  refine CallP_pure k13 (by simp only [go_sem, Nat.reduceBEq, Nat.reduceAdd, Nat.reduceSub, Nat.reduceMul, Nat.reduceLeDiff, Nat.reduceEqDiff, Nat.reduceLT, reduceIte, reduceCtorEq]) ?_
  (refine goW ?_; simp only [go_sem, Nat.reduceBEq, Nat.reduceAdd, Nat.reduceSub, Nat.reduceMul, Nat.reduceLeDiff, Nat.reduceEqDiff, Nat.reduceLT, reduceIte, reduceCtorEq])
  (repeat (first | refine V_seq ?_ | refine V_block ?_ | (refine goR ?_; simp only [go_sem, Nat.reduceBEq, Nat.reduceAdd, Nat.reduceSub, Nat.reduceMul, Nat.reduceLeDiff, Nat.reduceEqDiff, Nat.reduceLT, reduceIte, reduceCtorEq]) | (refine goD rfl ?_; simp only [go_sem, Nat.reduceBEq, Nat.reduceAdd, Nat.reduceSub, Nat.reduceMul, Nat.reduceLeDiff, Nat.reduceEqDiff, Nat.reduceLT, reduceIte, reduceCtorEq]) | (refine V_skip ?_; simp only [go_sem, Nat.reduceBEq, Nat.reduceAdd, Nat.reduceSub, Nat.reduceMul, Nat.reduceLeDiff, Nat.reduceEqDiff, Nat.reduceLT, reduceIte, reduceCtorEq]) | (refine V_cond ?_; simp only [go_sem, Nat.reduceBEq, Nat.reduceAdd, Nat.reduceSub, Nat.reduceMul, Nat.reduceLeDiff, Nat.reduceEqDiff, Nat.reduceLT, reduceIte, reduceCtorEq]) | (refine V_exit ?_; simp only [go_sem, Nat.reduceBEq, Nat.reduceAdd, Nat.reduceSub, Nat.reduceMul, Nat.reduceLeDiff, Nat.reduceEqDiff, Nat.reduceLT, reduceIte, reduceCtorEq])))
  refine DCallP_pure k15 (by simp only [go_sem, Nat.reduceBEq, Nat.reduceAdd, Nat.reduceSub, Nat.reduceMul, Nat.reduceLeDiff, Nat.reduceEqDiff, Nat.reduceLT, reduceIte, reduceCtorEq]) ?_
  (refine goDW ?_; simp only [go_sem, Nat.reduceBEq, Nat.reduceAdd, Nat.reduceSub, Nat.reduceMul, Nat.reduceLeDiff, Nat.reduceEqDiff, Nat.reduceLT, reduceIte, reduceCtorEq])
  refine DCallP_pure k14 (by simp only [go_sem, Nat.reduceBEq, Nat.reduceAdd, Nat.reduceSub, Nat.reduceMul, Nat.reduceLeDiff, Nat.reduceEqDiff, Nat.reduceLT, reduceIte, reduceCtorEq]) ?_
  (refine goDW ?_; simp only [go_sem, Nat.reduceBEq, Nat.reduceAdd, Nat.reduceSub, Nat.reduceMul, Nat.reduceLeDiff, Nat.reduceEqDiff, Nat.reduceLT, reduceIte, reduceCtorEq])
  refine DCallP_pure k16a (by simp only [go_sem, Nat.reduceBEq, Nat.reduceAdd, Nat.reduceSub, Nat.reduceMul, Nat.reduceLeDiff, Nat.reduceEqDiff, Nat.reduceLT, reduceIte, reduceCtorEq]) ?_
  (refine goDW ?_; simp only [go_sem, Nat.reduceBEq, Nat.reduceAdd, Nat.reduceSub, Nat.reduceMul, Nat.reduceLeDiff, Nat.reduceEqDiff, Nat.reduceLT, reduceIte, reduceCtorEq])
  refine DCallP_pure k16b (by simp only [go_sem, Nat.reduceBEq, Nat.reduceAdd, Nat.reduceSub, Nat.reduceMul, Nat.reduceLeDiff, Nat.reduceEqDiff, Nat.reduceLT, reduceIte, reduceCtorEq]) ?_
  (refine goDW ?_; simp only [go_sem, Nat.reduceBEq, Nat.reduceAdd, Nat.reduceSub, Nat.reduceMul, Nat.reduceLeDiff, Nat.reduceEqDiff, Nat.reduceLT, reduceIte, reduceCtorEq])
  refine DCallP_pure k17 (by simp only [go_sem, Nat.reduceBEq, Nat.reduceAdd, Nat.reduceSub, Nat.reduceMul, Nat.reduceLeDiff, Nat.reduceEqDiff, Nat.reduceLT, reduceIte, reduceCtorEq]) ?_
  have w1 : wr .i64 ((e.size : Int) + (vars e : Int)) = ((e.size + vars e : Nat) : Int) := wr_nat (by omega) (by omega)
  (refine goDW ?_; simp only [go_sem, Nat.reduceBEq, Nat.reduceAdd, Nat.reduceSub, Nat.reduceMul, Nat.reduceLeDiff, Nat.reduceEqDiff, Nat.reduceLT, reduceIte, reduceCtorEq, w1])
  refine ⟨by repeat' (first | exact trivial | apply And.intro), ?_⟩
  (repeat (first | refine V_seq ?_ | refine V_block ?_ | (refine goR ?_; simp only [go_sem, Nat.reduceBEq, Nat.reduceAdd, Nat.reduceSub, Nat.reduceMul, Nat.reduceLeDiff, Nat.reduceEqDiff, Nat.reduceLT, reduceIte, reduceCtorEq]) | (refine goD rfl ?_; simp only [go_sem, Nat.reduceBEq, Nat.reduceAdd, Nat.reduceSub, Nat.reduceMul, Nat.reduceLeDiff, Nat.reduceEqDiff, Nat.reduceLT, reduceIte, reduceCtorEq]) | (refine V_skip ?_; simp only [go_sem, Nat.reduceBEq, Nat.reduceAdd, Nat.reduceSub, Nat.reduceMul, Nat.reduceLeDiff, Nat.reduceEqDiff, Nat.reduceLT, reduceIte, reduceCtorEq]) | (refine V_cond ?_; simp only [go_sem, Nat.reduceBEq, Nat.reduceAdd, Nat.reduceSub, Nat.reduceMul, Nat.reduceLeDiff, Nat.reduceEqDiff, Nat.reduceLT, reduceIte, reduceCtorEq]) | (refine V_exit ?_; simp only [go_sem, Nat.reduceBEq, Nat.reduceAdd, Nat.reduceSub, Nat.reduceMul, Nat.reduceLeDiff, Nat.reduceEqDiff, Nat.reduceLT, reduceIte, reduceCtorEq])))
  (refine V_ret ?_; (try simp only [Vthen_r, Vblock_r]); refine EndQ_pure trivial ?_; simp only [go_sem, Nat.reduceBEq, Nat.reduceAdd, Nat.reduceSub, Nat.reduceMul, Nat.reduceLeDiff, Nat.reduceEqDiff, Nat.reduceLT, reduceIte, reduceCtorEq])
end Go.Sy
