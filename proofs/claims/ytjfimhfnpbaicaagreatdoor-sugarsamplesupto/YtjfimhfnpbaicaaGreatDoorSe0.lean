/- Lemmas by program: contracts of the functions of the expressions (copying, comparing, counting, sampling); their conditions are bounds on the sizes. -/
import Derived.Test.YtjfimhfnpbaicaaGreatDoorTt
import Derived.Test.YtjfimhfnpbaicaaGreatDoorSd1
namespace Go.Sy
open Go.Proofs
set_option linter.unusedSimpArgs false
set_option linter.unusedVariables false
set_option maxRecDepth 100000
theorem clone_strs (l : List Bytes) (hl : l.length ≤ lim) : Pure PG 24 [strs l] (strs l) := by
  unfold lim at hl
  refine Pure_fro [] [] (fun h => ?_) ?_
  · have hl0 : l = [] := by simpa using h
    subst hl0
    refine enterP (f := 24) (fn := Tryz.f24) rfl rfl (by decide) (by simp [Tryz.f24]) ?_ ?_ ?_
    · exact bel_all rfl
    · exact bel_sound rfl
    simp only [bodyOf, Tryz.f24]
    (repeat (first | refine V_seq ?_ | refine V_block ?_ | (refine goR ?_; simp only [go_sem, Nat.reduceBEq, Nat.reduceAdd, Nat.reduceSub, Nat.reduceMul, Nat.reduceLeDiff, Nat.reduceEqDiff, Nat.reduceLT, reduceIte, reduceCtorEq]) | (refine goD rfl ?_; simp only [go_sem, Nat.reduceBEq, Nat.reduceAdd, Nat.reduceSub, Nat.reduceMul, Nat.reduceLeDiff, Nat.reduceEqDiff, Nat.reduceLT, reduceIte, reduceCtorEq]) | (refine V_skip ?_; simp only [go_sem, Nat.reduceBEq, Nat.reduceAdd, Nat.reduceSub, Nat.reduceMul, Nat.reduceLeDiff, Nat.reduceEqDiff, Nat.reduceLT, reduceIte, reduceCtorEq]) | (refine V_cond ?_; simp only [go_sem, Nat.reduceBEq, Nat.reduceAdd, Nat.reduceSub, Nat.reduceMul, Nat.reduceLeDiff, Nat.reduceEqDiff, Nat.reduceLT, reduceIte, reduceCtorEq]) | (refine V_exit ?_; simp only [go_sem, Nat.reduceBEq, Nat.reduceAdd, Nat.reduceSub, Nat.reduceMul, Nat.reduceLeDiff, Nat.reduceEqDiff, Nat.reduceLT, reduceIte, reduceCtorEq])))
    (refine V_ret ?_; (try simp only [Vthen_r, Vblock_r]); refine EndQ_pure trivial ?_; simp only [go_sem, Nat.reduceBEq, Nat.reduceAdd, Nat.reduceSub, Nat.reduceMul, Nat.reduceLeDiff, Nat.reduceEqDiff, Nat.reduceLT, reduceIte, reduceCtorEq])
  · refine enterP (f := 24) (fn := Tryz.f24) rfl rfl (by decide) (by simp [Tryz.f24]) ?_ ?_ ?_
    · exact bel_all rfl
    · exact bel_sound rfl
    simp only [bodyOf, Tryz.f24]
    cases l with
    | nil =>
      (repeat (first | refine V_seq ?_ | refine V_block ?_ | (refine goR ?_; simp only [go_sem, Nat.reduceBEq, Nat.reduceAdd, Nat.reduceSub, Nat.reduceMul, Nat.reduceLeDiff, Nat.reduceEqDiff, Nat.reduceLT, reduceIte, reduceCtorEq]) | (refine goD rfl ?_; simp only [go_sem, Nat.reduceBEq, Nat.reduceAdd, Nat.reduceSub, Nat.reduceMul, Nat.reduceLeDiff, Nat.reduceEqDiff, Nat.reduceLT, reduceIte, reduceCtorEq]) | (refine V_skip ?_; simp only [go_sem, Nat.reduceBEq, Nat.reduceAdd, Nat.reduceSub, Nat.reduceMul, Nat.reduceLeDiff, Nat.reduceEqDiff, Nat.reduceLT, reduceIte, reduceCtorEq]) | (refine V_cond ?_; simp only [go_sem, Nat.reduceBEq, Nat.reduceAdd, Nat.reduceSub, Nat.reduceMul, Nat.reduceLeDiff, Nat.reduceEqDiff, Nat.reduceLT, reduceIte, reduceCtorEq]) | (refine V_exit ?_; simp only [go_sem, Nat.reduceBEq, Nat.reduceAdd, Nat.reduceSub, Nat.reduceMul, Nat.reduceLeDiff, Nat.reduceEqDiff, Nat.reduceLT, reduceIte, reduceCtorEq])))
      (refine V_ret ?_; (try simp only [Vthen_r, Vblock_r]); refine EndQ_pure trivial ?_; simp only [go_sem, Nat.reduceBEq, Nat.reduceAdd, Nat.reduceSub, Nat.reduceMul, Nat.reduceLeDiff, Nat.reduceEqDiff, Nat.reduceLT, reduceIte, reduceCtorEq])
    | cons x l =>
      have hok : appOK 1 16 [] (AV.str x :: l.map AV.str) = true := appOK_of rfl (el_strs (x :: l)) (ones_strs (x :: l)) (by decide) (by simp at hl ⊢; omega) (by decide)
      (repeat (first | refine V_seq ?_ | refine V_block ?_ | (refine goR ?_; simp only [go_sem, Nat.reduceBEq, Nat.reduceAdd, Nat.reduceSub, Nat.reduceMul, Nat.reduceLeDiff, Nat.reduceEqDiff, Nat.reduceLT, reduceIte, reduceCtorEq, hok]) | (refine goD rfl ?_; simp only [go_sem, Nat.reduceBEq, Nat.reduceAdd, Nat.reduceSub, Nat.reduceMul, Nat.reduceLeDiff, Nat.reduceEqDiff, Nat.reduceLT, reduceIte, reduceCtorEq, hok]) | (refine V_skip ?_; simp only [go_sem, Nat.reduceBEq, Nat.reduceAdd, Nat.reduceSub, Nat.reduceMul, Nat.reduceLeDiff, Nat.reduceEqDiff, Nat.reduceLT, reduceIte, reduceCtorEq, hok]) | (refine V_cond ?_; simp only [go_sem, Nat.reduceBEq, Nat.reduceAdd, Nat.reduceSub, Nat.reduceMul, Nat.reduceLeDiff, Nat.reduceEqDiff, Nat.reduceLT, reduceIte, reduceCtorEq, hok]) | (refine V_exit ?_; simp only [go_sem, Nat.reduceBEq, Nat.reduceAdd, Nat.reduceSub, Nat.reduceMul, Nat.reduceLeDiff, Nat.reduceEqDiff, Nat.reduceLT, reduceIte, reduceCtorEq, hok])))
      (refine V_ret ?_; (try simp only [Vthen_r, Vblock_r]); refine EndQ_pure trivial ?_; simp only [go_sem, Nat.reduceBEq, Nat.reduceAdd, Nat.reduceSub, Nat.reduceMul, Nat.reduceLeDiff, Nat.reduceEqDiff, Nat.reduceLT, reduceIte, reduceCtorEq])
theorem sameNames_ok (a b : List Bytes) (ha : a.length ≤ lim) : Pure PG 20 [strs a, strs b] (.bool (decide (a = b))) := by
  unfold lim at ha
  refine enterP (f := 20) (fn := Tryz.f20) rfl rfl (by decide) (by simp [Tryz.f20]) ?_ ?_ ?_
  · exact bel_all rfl
  · exact bel_sound rfl
  simp only [bodyOf, Tryz.f20]
  by_cases hl : a.length = b.length
  · have hl' : ((a.length : Int) = (b.length : Int)) = True := eq_true (by omega)
    (repeat (first | refine V_seq ?_ | refine V_block ?_ | (refine goR ?_; simp only [go_sem, Nat.reduceBEq, Nat.reduceAdd, Nat.reduceSub, Nat.reduceMul, Nat.reduceLeDiff, Nat.reduceEqDiff, Nat.reduceLT, reduceIte, reduceCtorEq, hl']) | (refine goD rfl ?_; simp only [go_sem, Nat.reduceBEq, Nat.reduceAdd, Nat.reduceSub, Nat.reduceMul, Nat.reduceLeDiff, Nat.reduceEqDiff, Nat.reduceLT, reduceIte, reduceCtorEq, hl']) | (refine V_skip ?_; simp only [go_sem, Nat.reduceBEq, Nat.reduceAdd, Nat.reduceSub, Nat.reduceMul, Nat.reduceLeDiff, Nat.reduceEqDiff, Nat.reduceLT, reduceIte, reduceCtorEq, hl']) | (refine V_cond ?_; simp only [go_sem, Nat.reduceBEq, Nat.reduceAdd, Nat.reduceSub, Nat.reduceMul, Nat.reduceLeDiff, Nat.reduceEqDiff, Nat.reduceLT, reduceIte, reduceCtorEq, hl']) | (refine V_exit ?_; simp only [go_sem, Nat.reduceBEq, Nat.reduceAdd, Nat.reduceSub, Nat.reduceMul, Nat.reduceLeDiff, Nat.reduceEqDiff, Nat.reduceLT, reduceIte, reduceCtorEq, hl'])))
    refine V_loop (a.length + 1) ?_
    refine Vr_head [] [(5, .int .i64 0), (1, strs b), (0, strs a)] ⟨0, [], 0⟩ rfl (by simp only [go_sem, Nat.reduceBEq, Nat.reduceAdd, Nat.reduceSub, Nat.reduceMul, Nat.reduceLeDiff, Nat.reduceEqDiff, Nat.reduceLT, reduceIte, reduceCtorEq]) trivial ?_
    refine Vr_for a.length (fun i => a.take i = b.take i) (fun i => [(5, .int .i64 (i : Int)), (1, strs b), (0, strs a)]) (fun _ => ⟨0, [], 0⟩) rfl ?_ ?_
    · intro i hi hI n hn
      have hi' : i < b.length := by omega
      have h1 : ((i : Int) < (a.length : Int)) = True := eq_true (by omega)
      have ka : (a.map AV.str)[i]? = some (.str a[i]) := by simp [hi]
      have kb : (b.map AV.str)[i]? = some (.str b[i]) := by simp [hi']
      have w1 : wr .i64 ((i : Int) + 1) = ((i + 1 : Nat) : Int) := wr_nat (by omega) (by omega)
      by_cases hx : a[i] = b[i]
      · (repeat (first | refine V_seq ?_ | refine V_block ?_ | (refine goR ?_; simp only [go_sem, Nat.reduceBEq, Nat.reduceAdd, Nat.reduceSub, Nat.reduceMul, Nat.reduceLeDiff, Nat.reduceEqDiff, Nat.reduceLT, reduceIte, reduceCtorEq, h1, ka, kb, hx, w1]) | (refine goD rfl ?_; simp only [go_sem, Nat.reduceBEq, Nat.reduceAdd, Nat.reduceSub, Nat.reduceMul, Nat.reduceLeDiff, Nat.reduceEqDiff, Nat.reduceLT, reduceIte, reduceCtorEq, h1, ka, kb, hx, w1]) | (refine V_skip ?_; simp only [go_sem, Nat.reduceBEq, Nat.reduceAdd, Nat.reduceSub, Nat.reduceMul, Nat.reduceLeDiff, Nat.reduceEqDiff, Nat.reduceLT, reduceIte, reduceCtorEq, h1, ka, kb, hx, w1]) | (refine V_cond ?_; simp only [go_sem, Nat.reduceBEq, Nat.reduceAdd, Nat.reduceSub, Nat.reduceMul, Nat.reduceLeDiff, Nat.reduceEqDiff, Nat.reduceLT, reduceIte, reduceCtorEq, h1, ka, kb, hx, w1]) | (refine V_exit ?_; simp only [go_sem, Nat.reduceBEq, Nat.reduceAdd, Nat.reduceSub, Nat.reduceMul, Nat.reduceLeDiff, Nat.reduceEqDiff, Nat.reduceLT, reduceIte, reduceCtorEq, h1, ka, kb, hx, w1])))
        exact Vr_head [] _ ⟨0, [], 0⟩ rfl (by simp only [go_sem, Nat.reduceBEq, Nat.reduceAdd, Nat.reduceSub, Nat.reduceMul, Nat.reduceLeDiff, Nat.reduceEqDiff, Nat.reduceLT, reduceIte, reduceCtorEq]) trivial (hn (by rw [← List.take_append_getElem hi, ← List.take_append_getElem hi', hI, hx]))
      · have hne : a ≠ b := fun e => hx (by subst e; rfl)
        (repeat (first | refine V_seq ?_ | refine V_block ?_ | (refine goR ?_; simp only [go_sem, Nat.reduceBEq, Nat.reduceAdd, Nat.reduceSub, Nat.reduceMul, Nat.reduceLeDiff, Nat.reduceEqDiff, Nat.reduceLT, reduceIte, reduceCtorEq, h1, ka, kb, hx, w1]) | (refine goD rfl ?_; simp only [go_sem, Nat.reduceBEq, Nat.reduceAdd, Nat.reduceSub, Nat.reduceMul, Nat.reduceLeDiff, Nat.reduceEqDiff, Nat.reduceLT, reduceIte, reduceCtorEq, h1, ka, kb, hx, w1]) | (refine V_skip ?_; simp only [go_sem, Nat.reduceBEq, Nat.reduceAdd, Nat.reduceSub, Nat.reduceMul, Nat.reduceLeDiff, Nat.reduceEqDiff, Nat.reduceLT, reduceIte, reduceCtorEq, h1, ka, kb, hx, w1]) | (refine V_cond ?_; simp only [go_sem, Nat.reduceBEq, Nat.reduceAdd, Nat.reduceSub, Nat.reduceMul, Nat.reduceLeDiff, Nat.reduceEqDiff, Nat.reduceLT, reduceIte, reduceCtorEq, h1, ka, kb, hx, w1]) | (refine V_exit ?_; simp only [go_sem, Nat.reduceBEq, Nat.reduceAdd, Nat.reduceSub, Nat.reduceMul, Nat.reduceLeDiff, Nat.reduceEqDiff, Nat.reduceLT, reduceIte, reduceCtorEq, h1, ka, kb, hx, w1])))
        (refine V_ret ?_; (try simp only [Vthen_r, Vblock_r]); refine EndQ_pure trivial ?_; simp only [go_sem, Nat.reduceBEq, Nat.reduceAdd, Nat.reduceSub, Nat.reduceMul, Nat.reduceLeDiff, Nat.reduceEqDiff, Nat.reduceLT, reduceIte, reduceCtorEq, hne])
    · intro hI n
      have h1 : ((a.length : Int) < (a.length : Int)) = False := eq_false (by omega)
      have he : a = b := by
        have := hI
        rwa [List.take_length, hl, List.take_length] at this
      subst he
      (repeat (first | refine V_seq ?_ | refine V_block ?_ | (refine goR ?_; simp only [go_sem, Nat.reduceBEq, Nat.reduceAdd, Nat.reduceSub, Nat.reduceMul, Nat.reduceLeDiff, Nat.reduceEqDiff, Nat.reduceLT, reduceIte, reduceCtorEq, h1]) | (refine goD rfl ?_; simp only [go_sem, Nat.reduceBEq, Nat.reduceAdd, Nat.reduceSub, Nat.reduceMul, Nat.reduceLeDiff, Nat.reduceEqDiff, Nat.reduceLT, reduceIte, reduceCtorEq, h1]) | (refine V_skip ?_; simp only [go_sem, Nat.reduceBEq, Nat.reduceAdd, Nat.reduceSub, Nat.reduceMul, Nat.reduceLeDiff, Nat.reduceEqDiff, Nat.reduceLT, reduceIte, reduceCtorEq, h1]) | (refine V_cond ?_; simp only [go_sem, Nat.reduceBEq, Nat.reduceAdd, Nat.reduceSub, Nat.reduceMul, Nat.reduceLeDiff, Nat.reduceEqDiff, Nat.reduceLT, reduceIte, reduceCtorEq, h1]) | (refine V_exit ?_; simp only [go_sem, Nat.reduceBEq, Nat.reduceAdd, Nat.reduceSub, Nat.reduceMul, Nat.reduceLeDiff, Nat.reduceEqDiff, Nat.reduceLT, reduceIte, reduceCtorEq, h1])))
      (refine V_ret ?_; (try simp only [Vthen_r, Vblock_r]); refine EndQ_pure trivial ?_; simp only [go_sem, Nat.reduceBEq, Nat.reduceAdd, Nat.reduceSub, Nat.reduceMul, Nat.reduceLeDiff, Nat.reduceEqDiff, Nat.reduceLT, reduceIte, reduceCtorEq])
  · have hl' : ((a.length : Int) = (b.length : Int)) = False := eq_false (by omega)
    have hne : a ≠ b := fun e => hl (by rw [e])
    (repeat (first | refine V_seq ?_ | refine V_block ?_ | (refine goR ?_; simp only [go_sem, Nat.reduceBEq, Nat.reduceAdd, Nat.reduceSub, Nat.reduceMul, Nat.reduceLeDiff, Nat.reduceEqDiff, Nat.reduceLT, reduceIte, reduceCtorEq, hl']) | (refine goD rfl ?_; simp only [go_sem, Nat.reduceBEq, Nat.reduceAdd, Nat.reduceSub, Nat.reduceMul, Nat.reduceLeDiff, Nat.reduceEqDiff, Nat.reduceLT, reduceIte, reduceCtorEq, hl']) | (refine V_skip ?_; simp only [go_sem, Nat.reduceBEq, Nat.reduceAdd, Nat.reduceSub, Nat.reduceMul, Nat.reduceLeDiff, Nat.reduceEqDiff, Nat.reduceLT, reduceIte, reduceCtorEq, hl']) | (refine V_cond ?_; simp only [go_sem, Nat.reduceBEq, Nat.reduceAdd, Nat.reduceSub, Nat.reduceMul, Nat.reduceLeDiff, Nat.reduceEqDiff, Nat.reduceLT, reduceIte, reduceCtorEq, hl']) | (refine V_exit ?_; simp only [go_sem, Nat.reduceBEq, Nat.reduceAdd, Nat.reduceSub, Nat.reduceMul, Nat.reduceLeDiff, Nat.reduceEqDiff, Nat.reduceLT, reduceIte, reduceCtorEq, hl'])))
    (refine V_ret ?_; (try simp only [Vthen_r, Vblock_r]); refine EndQ_pure trivial ?_; simp only [go_sem, Nat.reduceBEq, Nat.reduceAdd, Nat.reduceSub, Nat.reduceMul, Nat.reduceLeDiff, Nat.reduceEqDiff, Nat.reduceLT, reduceIte, reduceCtorEq, hne])
theorem size_ok : ∀ e : Expr, e.size ≤ lim → Pure PG 16 [e.emb] (.int .i64 e.size) := by
  refine Expr.ind fun e ih hs => ?_
  refine enterP (f := 16) (fn := Tryz.f16) rfl rfl (by decide) (by simp [Tryz.f16]) ?_ ?_ ?_
  · simpa using emb_bel 0 e
  · exact bel_sound rfl
  have hse := Expr.size_eq e
  have hlen := length_sizes e.kids
  unfold lim at hs ih
  rw [Expr.emb_eq]
  simp only [bodyOf, Tryz.f16]
  (repeat (first | refine V_seq ?_ | refine V_block ?_ | (refine goR ?_; simp only [go_sem, Nat.reduceBEq, Nat.reduceAdd, Nat.reduceSub, Nat.reduceMul, Nat.reduceLeDiff, Nat.reduceEqDiff, Nat.reduceLT, reduceIte, reduceCtorEq]) | (refine goD rfl ?_; simp only [go_sem, Nat.reduceBEq, Nat.reduceAdd, Nat.reduceSub, Nat.reduceMul, Nat.reduceLeDiff, Nat.reduceEqDiff, Nat.reduceLT, reduceIte, reduceCtorEq]) | (refine V_skip ?_; simp only [go_sem, Nat.reduceBEq, Nat.reduceAdd, Nat.reduceSub, Nat.reduceMul, Nat.reduceLeDiff, Nat.reduceEqDiff, Nat.reduceLT, reduceIte, reduceCtorEq]) | (refine V_cond ?_; simp only [go_sem, Nat.reduceBEq, Nat.reduceAdd, Nat.reduceSub, Nat.reduceMul, Nat.reduceLeDiff, Nat.reduceEqDiff, Nat.reduceLT, reduceIte, reduceCtorEq]) | (refine V_exit ?_; simp only [go_sem, Nat.reduceBEq, Nat.reduceAdd, Nat.reduceSub, Nat.reduceMul, Nat.reduceLeDiff, Nat.reduceEqDiff, Nat.reduceLT, reduceIte, reduceCtorEq])))
  refine V_loop (e.kids.length + 1) ?_
  refine Vr_head [] [(9, .int .i64 0), (8, .int .i64 (e.kids.length : Int)), (7, exprs e.kids), (3, .int .i64 1)] ⟨0, [], 0⟩ rfl (by simp only [go_sem, Nat.reduceBEq, Nat.reduceAdd, Nat.reduceSub, Nat.reduceMul, Nat.reduceLeDiff, Nat.reduceEqDiff, Nat.reduceLT, reduceIte, reduceCtorEq, List.length_map]) trivial ?_
  refine Vr_for e.kids.length (fun _ => True) (fun i => [(9, .int .i64 (i : Int)), (8, .int .i64 (e.kids.length : Int)), (7, exprs e.kids), (3, .int .i64 ((1 + sizes (e.kids.take i) : Nat) : Int))]) (fun _ => ⟨0, [], 0⟩) trivial ?_ ?_
  · intro i hi _ n hn
    have hk : (e.kids.map Expr.emb)[i]? = some (e.kids[i]).emb := by simp [hi]
    have h1 : ((i : Int) < (e.kids.length : Int)) = True := eq_true (by omega)
    have hst := sizes_take hi
    have hle := sizes_le (l := e.kids) (i + 1)
    have hmem : e.kids[i] ∈ e.kids := List.getElem_mem hi
    have hsz := size_pos e.kids[i]
    have w1 : wr .i64 ((i : Int) + 1) = ((i + 1 : Nat) : Int) := wr_nat (by omega) (by omega)
    have w2 : wr .i64 (((1 + sizes (e.kids.take i) : Nat) : Int) + (e.kids[i].size : Int)) = ((1 + sizes (e.kids.take (i + 1)) : Nat) : Int) := wr_nat (by omega) (by omega)
    (repeat (first | refine V_seq ?_ | refine V_block ?_ | (refine goR ?_; simp only [go_sem, Nat.reduceBEq, Nat.reduceAdd, Nat.reduceSub, Nat.reduceMul, Nat.reduceLeDiff, Nat.reduceEqDiff, Nat.reduceLT, reduceIte, reduceCtorEq, h1, hk, emb_cells, emb_flat, Expr.emb_eq]) | (refine goD rfl ?_; simp only [go_sem, Nat.reduceBEq, Nat.reduceAdd, Nat.reduceSub, Nat.reduceMul, Nat.reduceLeDiff, Nat.reduceEqDiff, Nat.reduceLT, reduceIte, reduceCtorEq, h1, hk, emb_cells, emb_flat, Expr.emb_eq]) | (refine V_skip ?_; simp only [go_sem, Nat.reduceBEq, Nat.reduceAdd, Nat.reduceSub, Nat.reduceMul, Nat.reduceLeDiff, Nat.reduceEqDiff, Nat.reduceLT, reduceIte, reduceCtorEq, h1, hk, emb_cells, emb_flat, Expr.emb_eq]) | (refine V_cond ?_; simp only [go_sem, Nat.reduceBEq, Nat.reduceAdd, Nat.reduceSub, Nat.reduceMul, Nat.reduceLeDiff, Nat.reduceEqDiff, Nat.reduceLT, reduceIte, reduceCtorEq, h1, hk, emb_cells, emb_flat, Expr.emb_eq]) | (refine V_exit ?_; simp only [go_sem, Nat.reduceBEq, Nat.reduceAdd, Nat.reduceSub, Nat.reduceMul, Nat.reduceLeDiff, Nat.reduceEqDiff, Nat.reduceLT, reduceIte, reduceCtorEq, h1, hk, emb_cells, emb_flat, Expr.emb_eq])))
    refine CallP_pure (ih _ hmem (by omega)) (by rw [Expr.emb_eq]; exact Wks.refl _) ?_
    (refine goW ?_; simp only [go_sem, Nat.reduceBEq, Nat.reduceAdd, Nat.reduceSub, Nat.reduceMul, Nat.reduceLeDiff, Nat.reduceEqDiff, Nat.reduceLT, reduceIte, reduceCtorEq, w2])
    (repeat (first | refine V_seq ?_ | refine V_block ?_ | (refine goR ?_; simp only [go_sem, Nat.reduceBEq, Nat.reduceAdd, Nat.reduceSub, Nat.reduceMul, Nat.reduceLeDiff, Nat.reduceEqDiff, Nat.reduceLT, reduceIte, reduceCtorEq, w1]) | (refine goD rfl ?_; simp only [go_sem, Nat.reduceBEq, Nat.reduceAdd, Nat.reduceSub, Nat.reduceMul, Nat.reduceLeDiff, Nat.reduceEqDiff, Nat.reduceLT, reduceIte, reduceCtorEq, w1]) | (refine V_skip ?_; simp only [go_sem, Nat.reduceBEq, Nat.reduceAdd, Nat.reduceSub, Nat.reduceMul, Nat.reduceLeDiff, Nat.reduceEqDiff, Nat.reduceLT, reduceIte, reduceCtorEq, w1]) | (refine V_cond ?_; simp only [go_sem, Nat.reduceBEq, Nat.reduceAdd, Nat.reduceSub, Nat.reduceMul, Nat.reduceLeDiff, Nat.reduceEqDiff, Nat.reduceLT, reduceIte, reduceCtorEq, w1]) | (refine V_exit ?_; simp only [go_sem, Nat.reduceBEq, Nat.reduceAdd, Nat.reduceSub, Nat.reduceMul, Nat.reduceLeDiff, Nat.reduceEqDiff, Nat.reduceLT, reduceIte, reduceCtorEq, w1])))
    exact Vr_head [] _ ⟨0, [], 0⟩ rfl (by simp only [go_sem, Nat.reduceBEq, Nat.reduceAdd, Nat.reduceSub, Nat.reduceMul, Nat.reduceLeDiff, Nat.reduceEqDiff, Nat.reduceLT, reduceIte, reduceCtorEq]) trivial (hn trivial)
  · intro _ n
    have h1 : ((e.kids.length : Int) < (e.kids.length : Int)) = False := eq_false (by omega)
    (repeat (first | refine V_seq ?_ | refine V_block ?_ | (refine goR ?_; simp only [go_sem, Nat.reduceBEq, Nat.reduceAdd, Nat.reduceSub, Nat.reduceMul, Nat.reduceLeDiff, Nat.reduceEqDiff, Nat.reduceLT, reduceIte, reduceCtorEq, h1]) | (refine goD rfl ?_; simp only [go_sem, Nat.reduceBEq, Nat.reduceAdd, Nat.reduceSub, Nat.reduceMul, Nat.reduceLeDiff, Nat.reduceEqDiff, Nat.reduceLT, reduceIte, reduceCtorEq, h1]) | (refine V_skip ?_; simp only [go_sem, Nat.reduceBEq, Nat.reduceAdd, Nat.reduceSub, Nat.reduceMul, Nat.reduceLeDiff, Nat.reduceEqDiff, Nat.reduceLT, reduceIte, reduceCtorEq, h1]) | (refine V_cond ?_; simp only [go_sem, Nat.reduceBEq, Nat.reduceAdd, Nat.reduceSub, Nat.reduceMul, Nat.reduceLeDiff, Nat.reduceEqDiff, Nat.reduceLT, reduceIte, reduceCtorEq, h1]) | (refine V_exit ?_; simp only [go_sem, Nat.reduceBEq, Nat.reduceAdd, Nat.reduceSub, Nat.reduceMul, Nat.reduceLeDiff, Nat.reduceEqDiff, Nat.reduceLT, reduceIte, reduceCtorEq, h1])))
    (refine V_ret ?_; (try simp only [Vthen_r, Vblock_r]); refine EndQ_pure trivial ?_; simp only [go_sem, Nat.reduceBEq, Nat.reduceAdd, Nat.reduceSub, Nat.reduceMul, Nat.reduceLeDiff, Nat.reduceEqDiff, Nat.reduceLT, reduceIte, reduceCtorEq, List.take_length, hse])

theorem vars_ok : ∀ e : Expr, e.size ≤ lim → Pure PG 17 [e.emb] (.int .i64 (vars e)) := by
  refine Expr.ind fun e ih hs => ?_
  refine enterP (f := 17) (fn := Tryz.f17) rfl rfl (by decide) (by simp [Tryz.f17]) ?_ ?_ ?_
  · simpa using emb_bel 0 e
  · exact bel_sound rfl
  have hse := Expr.size_eq e
  have hve := vars_eq e
  have hlen := length_sizes e.kids
  unfold lim at hs ih
  rw [Expr.emb_eq]
  simp only [bodyOf, Tryz.f17]
  by_cases h4 : e.op = 4
  · have h4' : (e.op = 4) = True := eq_true h4
    rw [if_pos h4] at hve
    have hve' : ((vars e : Nat) : Int) = 1 := by omega
    (repeat (first | refine V_seq ?_ | refine V_block ?_ | (refine goR ?_; simp only [go_sem, Nat.reduceBEq, Nat.reduceAdd, Nat.reduceSub, Nat.reduceMul, Nat.reduceLeDiff, Nat.reduceEqDiff, Nat.reduceLT, reduceIte, reduceCtorEq, h4']) | (refine goD rfl ?_; simp only [go_sem, Nat.reduceBEq, Nat.reduceAdd, Nat.reduceSub, Nat.reduceMul, Nat.reduceLeDiff, Nat.reduceEqDiff, Nat.reduceLT, reduceIte, reduceCtorEq, h4']) | (refine V_skip ?_; simp only [go_sem, Nat.reduceBEq, Nat.reduceAdd, Nat.reduceSub, Nat.reduceMul, Nat.reduceLeDiff, Nat.reduceEqDiff, Nat.reduceLT, reduceIte, reduceCtorEq, h4']) | (refine V_cond ?_; simp only [go_sem, Nat.reduceBEq, Nat.reduceAdd, Nat.reduceSub, Nat.reduceMul, Nat.reduceLeDiff, Nat.reduceEqDiff, Nat.reduceLT, reduceIte, reduceCtorEq, h4']) | (refine V_exit ?_; simp only [go_sem, Nat.reduceBEq, Nat.reduceAdd, Nat.reduceSub, Nat.reduceMul, Nat.reduceLeDiff, Nat.reduceEqDiff, Nat.reduceLT, reduceIte, reduceCtorEq, h4'])))
    (refine V_ret ?_; (try simp only [Vthen_r, Vblock_r]); refine EndQ_pure trivial ?_; simp only [go_sem, Nat.reduceBEq, Nat.reduceAdd, Nat.reduceSub, Nat.reduceMul, Nat.reduceLeDiff, Nat.reduceEqDiff, Nat.reduceLT, reduceIte, reduceCtorEq, hve'])
  have h4' : (e.op = 4) = False := eq_false h4
  rw [if_neg h4] at hve
  (repeat (first | refine V_seq ?_ | refine V_block ?_ | (refine goR ?_; simp only [go_sem, Nat.reduceBEq, Nat.reduceAdd, Nat.reduceSub, Nat.reduceMul, Nat.reduceLeDiff, Nat.reduceEqDiff, Nat.reduceLT, reduceIte, reduceCtorEq, h4']) | (refine goD rfl ?_; simp only [go_sem, Nat.reduceBEq, Nat.reduceAdd, Nat.reduceSub, Nat.reduceMul, Nat.reduceLeDiff, Nat.reduceEqDiff, Nat.reduceLT, reduceIte, reduceCtorEq, h4']) | (refine V_skip ?_; simp only [go_sem, Nat.reduceBEq, Nat.reduceAdd, Nat.reduceSub, Nat.reduceMul, Nat.reduceLeDiff, Nat.reduceEqDiff, Nat.reduceLT, reduceIte, reduceCtorEq, h4']) | (refine V_cond ?_; simp only [go_sem, Nat.reduceBEq, Nat.reduceAdd, Nat.reduceSub, Nat.reduceMul, Nat.reduceLeDiff, Nat.reduceEqDiff, Nat.reduceLT, reduceIte, reduceCtorEq, h4']) | (refine V_exit ?_; simp only [go_sem, Nat.reduceBEq, Nat.reduceAdd, Nat.reduceSub, Nat.reduceMul, Nat.reduceLeDiff, Nat.reduceEqDiff, Nat.reduceLT, reduceIte, reduceCtorEq, h4'])))
  refine V_loop (e.kids.length + 1) ?_
  refine Vr_head [(0, 0)] [(4, .int .i64 0), (3, .int .i64 0), (1, .ptr 0 0)] ⟨1, [(0, .cells [.int .i64 e.op, .str e.name, .int .i64 e.n, strs e.cons, exprs e.kids])], 0⟩ rfl (by simp only [go_sem, Nat.reduceBEq, Nat.reduceAdd, Nat.reduceSub, Nat.reduceMul, Nat.reduceLeDiff, Nat.reduceEqDiff, Nat.reduceLT, reduceIte, reduceCtorEq]) (by simp only [go_sem, Nat.reduceBEq, Nat.reduceAdd, Nat.reduceSub, Nat.reduceMul, Nat.reduceLeDiff, Nat.reduceEqDiff, Nat.reduceLT, reduceIte, reduceCtorEq]) ?_
  refine Vr_for e.kids.length (fun _ => True) (fun i => [(4, .int .i64 (i : Int)), (3, .int .i64 ((varsL (e.kids.take i) : Nat) : Int)), (1, .ptr 0 0)]) (fun _ => ⟨1, [(0, .cells [.int .i64 e.op, .str e.name, .int .i64 e.n, strs e.cons, exprs e.kids])], 0⟩) trivial ?_ ?_
  · intro i hi _ n hn
    have hk : (e.kids.map Expr.emb)[i]? = some (e.kids[i]).emb := by simp [hi]
    have h1 : ((i : Int) < (e.kids.length : Int)) = True := eq_true (by omega)
    have hst := varsL_take hi
    have hmem : e.kids[i] ∈ e.kids := List.getElem_mem hi
    have hsz := sizes_take hi
    have hsl := sizes_le (l := e.kids) (i + 1)
    have hv1 := vars_le e.kids[i]
    have hv2 : varsL (e.kids.take i) ≤ sizes e.kids := by
      have : ∀ l : List Expr, varsL l ≤ sizes l := by
        intro l
        induction l with
        | nil => exact Nat.le_refl _
        | cons k l ihl => have := vars_le k; simp only [varsL, sizes]; omega
      exact Nat.le_trans (this _) (sizes_le i)
    have w1 : wr .i64 ((i : Int) + 1) = ((i + 1 : Nat) : Int) := wr_nat (by omega) (by omega)
    have w2 : wr .i64 (((varsL (e.kids.take i) : Nat) : Int) + (vars e.kids[i] : Int)) = ((varsL (e.kids.take (i + 1)) : Nat) : Int) := wr_nat (by omega) (by omega)
    (repeat (first | refine V_seq ?_ | refine V_block ?_ | (refine goR ?_; simp only [go_sem, Nat.reduceBEq, Nat.reduceAdd, Nat.reduceSub, Nat.reduceMul, Nat.reduceLeDiff, Nat.reduceEqDiff, Nat.reduceLT, reduceIte, reduceCtorEq, h1, hk, emb_cells, emb_flat, Expr.emb_eq]) | (refine goD rfl ?_; simp only [go_sem, Nat.reduceBEq, Nat.reduceAdd, Nat.reduceSub, Nat.reduceMul, Nat.reduceLeDiff, Nat.reduceEqDiff, Nat.reduceLT, reduceIte, reduceCtorEq, h1, hk, emb_cells, emb_flat, Expr.emb_eq]) | (refine V_skip ?_; simp only [go_sem, Nat.reduceBEq, Nat.reduceAdd, Nat.reduceSub, Nat.reduceMul, Nat.reduceLeDiff, Nat.reduceEqDiff, Nat.reduceLT, reduceIte, reduceCtorEq, h1, hk, emb_cells, emb_flat, Expr.emb_eq]) | (refine V_cond ?_; simp only [go_sem, Nat.reduceBEq, Nat.reduceAdd, Nat.reduceSub, Nat.reduceMul, Nat.reduceLeDiff, Nat.reduceEqDiff, Nat.reduceLT, reduceIte, reduceCtorEq, h1, hk, emb_cells, emb_flat, Expr.emb_eq]) | (refine V_exit ?_; simp only [go_sem, Nat.reduceBEq, Nat.reduceAdd, Nat.reduceSub, Nat.reduceMul, Nat.reduceLeDiff, Nat.reduceEqDiff, Nat.reduceLT, reduceIte, reduceCtorEq, h1, hk, emb_cells, emb_flat, Expr.emb_eq])))
    refine CallP_pure (ih _ hmem (by omega)) (by rw [Expr.emb_eq]; exact Wks.refl _) ?_
    (refine goW ?_; simp only [go_sem, Nat.reduceBEq, Nat.reduceAdd, Nat.reduceSub, Nat.reduceMul, Nat.reduceLeDiff, Nat.reduceEqDiff, Nat.reduceLT, reduceIte, reduceCtorEq, w2])
    (repeat (first | refine V_seq ?_ | refine V_block ?_ | (refine goR ?_; simp only [go_sem, Nat.reduceBEq, Nat.reduceAdd, Nat.reduceSub, Nat.reduceMul, Nat.reduceLeDiff, Nat.reduceEqDiff, Nat.reduceLT, reduceIte, reduceCtorEq, w1]) | (refine goD rfl ?_; simp only [go_sem, Nat.reduceBEq, Nat.reduceAdd, Nat.reduceSub, Nat.reduceMul, Nat.reduceLeDiff, Nat.reduceEqDiff, Nat.reduceLT, reduceIte, reduceCtorEq, w1]) | (refine V_skip ?_; simp only [go_sem, Nat.reduceBEq, Nat.reduceAdd, Nat.reduceSub, Nat.reduceMul, Nat.reduceLeDiff, Nat.reduceEqDiff, Nat.reduceLT, reduceIte, reduceCtorEq, w1]) | (refine V_cond ?_; simp only [go_sem, Nat.reduceBEq, Nat.reduceAdd, Nat.reduceSub, Nat.reduceMul, Nat.reduceLeDiff, Nat.reduceEqDiff, Nat.reduceLT, reduceIte, reduceCtorEq, w1]) | (refine V_exit ?_; simp only [go_sem, Nat.reduceBEq, Nat.reduceAdd, Nat.reduceSub, Nat.reduceMul, Nat.reduceLeDiff, Nat.reduceEqDiff, Nat.reduceLT, reduceIte, reduceCtorEq, w1])))
    exact Vr_head [(0, 0)] _ _ rfl (by simp only [go_sem, Nat.reduceBEq, Nat.reduceAdd, Nat.reduceSub, Nat.reduceMul, Nat.reduceLeDiff, Nat.reduceEqDiff, Nat.reduceLT, reduceIte, reduceCtorEq]) (by simp only [go_sem, Nat.reduceBEq, Nat.reduceAdd, Nat.reduceSub, Nat.reduceMul, Nat.reduceLeDiff, Nat.reduceEqDiff, Nat.reduceLT, reduceIte, reduceCtorEq]) (hn trivial)
  · intro _ n
    have h1 : ((e.kids.length : Int) < (e.kids.length : Int)) = False := eq_false (by omega)
    (repeat (first | refine V_seq ?_ | refine V_block ?_ | (refine goR ?_; simp only [go_sem, Nat.reduceBEq, Nat.reduceAdd, Nat.reduceSub, Nat.reduceMul, Nat.reduceLeDiff, Nat.reduceEqDiff, Nat.reduceLT, reduceIte, reduceCtorEq, h1]) | (refine goD rfl ?_; simp only [go_sem, Nat.reduceBEq, Nat.reduceAdd, Nat.reduceSub, Nat.reduceMul, Nat.reduceLeDiff, Nat.reduceEqDiff, Nat.reduceLT, reduceIte, reduceCtorEq, h1]) | (refine V_skip ?_; simp only [go_sem, Nat.reduceBEq, Nat.reduceAdd, Nat.reduceSub, Nat.reduceMul, Nat.reduceLeDiff, Nat.reduceEqDiff, Nat.reduceLT, reduceIte, reduceCtorEq, h1]) | (refine V_cond ?_; simp only [go_sem, Nat.reduceBEq, Nat.reduceAdd, Nat.reduceSub, Nat.reduceMul, Nat.reduceLeDiff, Nat.reduceEqDiff, Nat.reduceLT, reduceIte, reduceCtorEq, h1]) | (refine V_exit ?_; simp only [go_sem, Nat.reduceBEq, Nat.reduceAdd, Nat.reduceSub, Nat.reduceMul, Nat.reduceLeDiff, Nat.reduceEqDiff, Nat.reduceLT, reduceIte, reduceCtorEq, h1])))
    (refine V_ret ?_; (try simp only [Vthen_r, Vblock_r]); refine EndQ_pure trivial ?_; simp only [go_sem, Nat.reduceBEq, Nat.reduceAdd, Nat.reduceSub, Nat.reduceMul, Nat.reduceLeDiff, Nat.reduceEqDiff, Nat.reduceLT, reduceIte, reduceCtorEq, List.take_length, hve])
/-- two expressions are the same (the document's) -/
theorem refSameExpr_ok : ∀ a : Expr, a.w ≤ lim → ∀ b : Expr, Pure PG 14 [a.emb, b.emb] (.bool (sameE a b)) := by
  refine Expr.ind fun a ih ha b => ?_
  refine enterP (f := 14) (fn := Tryz.f14) rfl rfl (by decide) (by simp [Tryz.f14]) ?_ ?_ ?_
  · intro x hx; rcases List.mem_cons.1 hx with rfl | hx
    · exact emb_bel 0 a
    · simp only [List.mem_singleton] at hx; subst hx; exact emb_bel 0 b
  · exact bel_sound rfl
  have hw := Expr.w_eq a
  have hlen := length_ws a.kids
  unfold lim at ha ih
  rw [Expr.emb_eq, Expr.emb_eq]
  simp only [bodyOf, Tryz.f14]
  by_cases h1 : a.op = b.op
  case neg =>
    have h1' : (a.op = b.op) = False := eq_false h1
    have hr : sameE a b = false := sameE_ne fun e => h1 (by rw [e])
    (repeat (first | refine V_seq ?_ | refine V_block ?_ | (refine goR ?_; simp only [go_sem, Nat.reduceBEq, Nat.reduceAdd, Nat.reduceSub, Nat.reduceMul, Nat.reduceLeDiff, Nat.reduceEqDiff, Nat.reduceLT, reduceIte, reduceCtorEq, h1']) | (refine goD rfl ?_; simp only [go_sem, Nat.reduceBEq, Nat.reduceAdd, Nat.reduceSub, Nat.reduceMul, Nat.reduceLeDiff, Nat.reduceEqDiff, Nat.reduceLT, reduceIte, reduceCtorEq, h1']) | (refine V_skip ?_; simp only [go_sem, Nat.reduceBEq, Nat.reduceAdd, Nat.reduceSub, Nat.reduceMul, Nat.reduceLeDiff, Nat.reduceEqDiff, Nat.reduceLT, reduceIte, reduceCtorEq, h1']) | (refine V_cond ?_; simp only [go_sem, Nat.reduceBEq, Nat.reduceAdd, Nat.reduceSub, Nat.reduceMul, Nat.reduceLeDiff, Nat.reduceEqDiff, Nat.reduceLT, reduceIte, reduceCtorEq, h1']) | (refine V_exit ?_; simp only [go_sem, Nat.reduceBEq, Nat.reduceAdd, Nat.reduceSub, Nat.reduceMul, Nat.reduceLeDiff, Nat.reduceEqDiff, Nat.reduceLT, reduceIte, reduceCtorEq, h1'])))
    (refine V_ret ?_; (try simp only [Vthen_r, Vblock_r]); refine EndQ_pure trivial ?_; simp only [go_sem, Nat.reduceBEq, Nat.reduceAdd, Nat.reduceSub, Nat.reduceMul, Nat.reduceLeDiff, Nat.reduceEqDiff, Nat.reduceLT, reduceIte, reduceCtorEq, hr])
  have h1' : (a.op = b.op) = True := eq_true h1
  by_cases h2 : a.name = b.name
  case neg =>
    have h2' : (a.name = b.name) = False := eq_false h2
    have hr : sameE a b = false := sameE_ne fun e => h2 (by rw [e])
    (repeat (first | refine V_seq ?_ | refine V_block ?_ | (refine goR ?_; simp only [go_sem, Nat.reduceBEq, Nat.reduceAdd, Nat.reduceSub, Nat.reduceMul, Nat.reduceLeDiff, Nat.reduceEqDiff, Nat.reduceLT, reduceIte, reduceCtorEq, h1', h2']) | (refine goD rfl ?_; simp only [go_sem, Nat.reduceBEq, Nat.reduceAdd, Nat.reduceSub, Nat.reduceMul, Nat.reduceLeDiff, Nat.reduceEqDiff, Nat.reduceLT, reduceIte, reduceCtorEq, h1', h2']) | (refine V_skip ?_; simp only [go_sem, Nat.reduceBEq, Nat.reduceAdd, Nat.reduceSub, Nat.reduceMul, Nat.reduceLeDiff, Nat.reduceEqDiff, Nat.reduceLT, reduceIte, reduceCtorEq, h1', h2']) | (refine V_cond ?_; simp only [go_sem, Nat.reduceBEq, Nat.reduceAdd, Nat.reduceSub, Nat.reduceMul, Nat.reduceLeDiff, Nat.reduceEqDiff, Nat.reduceLT, reduceIte, reduceCtorEq, h1', h2']) | (refine V_exit ?_; simp only [go_sem, Nat.reduceBEq, Nat.reduceAdd, Nat.reduceSub, Nat.reduceMul, Nat.reduceLeDiff, Nat.reduceEqDiff, Nat.reduceLT, reduceIte, reduceCtorEq, h1', h2'])))
    (refine V_ret ?_; (try simp only [Vthen_r, Vblock_r]); refine EndQ_pure trivial ?_; simp only [go_sem, Nat.reduceBEq, Nat.reduceAdd, Nat.reduceSub, Nat.reduceMul, Nat.reduceLeDiff, Nat.reduceEqDiff, Nat.reduceLT, reduceIte, reduceCtorEq, hr])
  have h2' : (a.name = b.name) = True := eq_true h2
  by_cases h3 : a.n = b.n
  case neg =>
    have h3' : (a.n = b.n) = False := eq_false h3
    have hr : sameE a b = false := sameE_ne fun e => h3 (by rw [e])
    (repeat (first | refine V_seq ?_ | refine V_block ?_ | (refine goR ?_; simp only [go_sem, Nat.reduceBEq, Nat.reduceAdd, Nat.reduceSub, Nat.reduceMul, Nat.reduceLeDiff, Nat.reduceEqDiff, Nat.reduceLT, reduceIte, reduceCtorEq, h1', h2', h3']) | (refine goD rfl ?_; simp only [go_sem, Nat.reduceBEq, Nat.reduceAdd, Nat.reduceSub, Nat.reduceMul, Nat.reduceLeDiff, Nat.reduceEqDiff, Nat.reduceLT, reduceIte, reduceCtorEq, h1', h2', h3']) | (refine V_skip ?_; simp only [go_sem, Nat.reduceBEq, Nat.reduceAdd, Nat.reduceSub, Nat.reduceMul, Nat.reduceLeDiff, Nat.reduceEqDiff, Nat.reduceLT, reduceIte, reduceCtorEq, h1', h2', h3']) | (refine V_cond ?_; simp only [go_sem, Nat.reduceBEq, Nat.reduceAdd, Nat.reduceSub, Nat.reduceMul, Nat.reduceLeDiff, Nat.reduceEqDiff, Nat.reduceLT, reduceIte, reduceCtorEq, h1', h2', h3']) | (refine V_exit ?_; simp only [go_sem, Nat.reduceBEq, Nat.reduceAdd, Nat.reduceSub, Nat.reduceMul, Nat.reduceLeDiff, Nat.reduceEqDiff, Nat.reduceLT, reduceIte, reduceCtorEq, h1', h2', h3'])))
    (refine V_ret ?_; (try simp only [Vthen_r, Vblock_r]); refine EndQ_pure trivial ?_; simp only [go_sem, Nat.reduceBEq, Nat.reduceAdd, Nat.reduceSub, Nat.reduceMul, Nat.reduceLeDiff, Nat.reduceEqDiff, Nat.reduceLT, reduceIte, reduceCtorEq, hr])
  have h3' : (a.n = b.n) = True := eq_true h3
  (repeat (first | refine V_seq ?_ | refine V_block ?_ | (refine goR ?_; simp only [go_sem, Nat.reduceBEq, Nat.reduceAdd, Nat.reduceSub, Nat.reduceMul, Nat.reduceLeDiff, Nat.reduceEqDiff, Nat.reduceLT, reduceIte, reduceCtorEq, h1', h2', h3']) | (refine goD rfl ?_; simp only [go_sem, Nat.reduceBEq, Nat.reduceAdd, Nat.reduceSub, Nat.reduceMul, Nat.reduceLeDiff, Nat.reduceEqDiff, Nat.reduceLT, reduceIte, reduceCtorEq, h1', h2', h3']) | (refine V_skip ?_; simp only [go_sem, Nat.reduceBEq, Nat.reduceAdd, Nat.reduceSub, Nat.reduceMul, Nat.reduceLeDiff, Nat.reduceEqDiff, Nat.reduceLT, reduceIte, reduceCtorEq, h1', h2', h3']) | (refine V_cond ?_; simp only [go_sem, Nat.reduceBEq, Nat.reduceAdd, Nat.reduceSub, Nat.reduceMul, Nat.reduceLeDiff, Nat.reduceEqDiff, Nat.reduceLT, reduceIte, reduceCtorEq, h1', h2', h3']) | (refine V_exit ?_; simp only [go_sem, Nat.reduceBEq, Nat.reduceAdd, Nat.reduceSub, Nat.reduceMul, Nat.reduceLeDiff, Nat.reduceEqDiff, Nat.reduceLT, reduceIte, reduceCtorEq, h1', h2', h3'])))
  refine CallP_pure (sameNames_ok a.cons b.cons (by unfold lim; omega)) (Wks.refl _) ?_
  by_cases h4 : a.cons = b.cons
  case neg =>
    have h4' : (a.cons = b.cons) = False := eq_false h4
    have hr : sameE a b = false := sameE_ne fun e => h4 (by rw [e])
    (refine goW ?_; simp only [go_sem, Nat.reduceBEq, Nat.reduceAdd, Nat.reduceSub, Nat.reduceMul, Nat.reduceLeDiff, Nat.reduceEqDiff, Nat.reduceLT, reduceIte, reduceCtorEq, h4'])
    (repeat (first | refine V_seq ?_ | refine V_block ?_ | (refine goR ?_; simp only [go_sem, Nat.reduceBEq, Nat.reduceAdd, Nat.reduceSub, Nat.reduceMul, Nat.reduceLeDiff, Nat.reduceEqDiff, Nat.reduceLT, reduceIte, reduceCtorEq]) | (refine goD rfl ?_; simp only [go_sem, Nat.reduceBEq, Nat.reduceAdd, Nat.reduceSub, Nat.reduceMul, Nat.reduceLeDiff, Nat.reduceEqDiff, Nat.reduceLT, reduceIte, reduceCtorEq]) | (refine V_skip ?_; simp only [go_sem, Nat.reduceBEq, Nat.reduceAdd, Nat.reduceSub, Nat.reduceMul, Nat.reduceLeDiff, Nat.reduceEqDiff, Nat.reduceLT, reduceIte, reduceCtorEq]) | (refine V_cond ?_; simp only [go_sem, Nat.reduceBEq, Nat.reduceAdd, Nat.reduceSub, Nat.reduceMul, Nat.reduceLeDiff, Nat.reduceEqDiff, Nat.reduceLT, reduceIte, reduceCtorEq]) | (refine V_exit ?_; simp only [go_sem, Nat.reduceBEq, Nat.reduceAdd, Nat.reduceSub, Nat.reduceMul, Nat.reduceLeDiff, Nat.reduceEqDiff, Nat.reduceLT, reduceIte, reduceCtorEq])))
    (refine V_ret ?_; (try simp only [Vthen_r, Vblock_r]); refine EndQ_pure trivial ?_; simp only [go_sem, Nat.reduceBEq, Nat.reduceAdd, Nat.reduceSub, Nat.reduceMul, Nat.reduceLeDiff, Nat.reduceEqDiff, Nat.reduceLT, reduceIte, reduceCtorEq, hr])
  have h4' : (a.cons = b.cons) = True := eq_true h4
  by_cases h5 : a.kids.length = b.kids.length
  case neg =>
    have h5' : ((a.kids.length : Int) = (b.kids.length : Int)) = False := eq_false (by omega)
    have hr : sameE a b = false := sameE_ne fun e => h5 (by rw [e])
    (refine goW ?_; simp only [go_sem, Nat.reduceBEq, Nat.reduceAdd, Nat.reduceSub, Nat.reduceMul, Nat.reduceLeDiff, Nat.reduceEqDiff, Nat.reduceLT, reduceIte, reduceCtorEq, h4', h5'])
    (repeat (first | refine V_seq ?_ | refine V_block ?_ | (refine goR ?_; simp only [go_sem, Nat.reduceBEq, Nat.reduceAdd, Nat.reduceSub, Nat.reduceMul, Nat.reduceLeDiff, Nat.reduceEqDiff, Nat.reduceLT, reduceIte, reduceCtorEq]) | (refine goD rfl ?_; simp only [go_sem, Nat.reduceBEq, Nat.reduceAdd, Nat.reduceSub, Nat.reduceMul, Nat.reduceLeDiff, Nat.reduceEqDiff, Nat.reduceLT, reduceIte, reduceCtorEq]) | (refine V_skip ?_; simp only [go_sem, Nat.reduceBEq, Nat.reduceAdd, Nat.reduceSub, Nat.reduceMul, Nat.reduceLeDiff, Nat.reduceEqDiff, Nat.reduceLT, reduceIte, reduceCtorEq]) | (refine V_cond ?_; simp only [go_sem, Nat.reduceBEq, Nat.reduceAdd, Nat.reduceSub, Nat.reduceMul, Nat.reduceLeDiff, Nat.reduceEqDiff, Nat.reduceLT, reduceIte, reduceCtorEq]) | (refine V_exit ?_; simp only [go_sem, Nat.reduceBEq, Nat.reduceAdd, Nat.reduceSub, Nat.reduceMul, Nat.reduceLeDiff, Nat.reduceEqDiff, Nat.reduceLT, reduceIte, reduceCtorEq])))
    (refine V_ret ?_; (try simp only [Vthen_r, Vblock_r]); refine EndQ_pure trivial ?_; simp only [go_sem, Nat.reduceBEq, Nat.reduceAdd, Nat.reduceSub, Nat.reduceMul, Nat.reduceLeDiff, Nat.reduceEqDiff, Nat.reduceLT, reduceIte, reduceCtorEq, hr])
  have h5' : ((a.kids.length : Int) = (b.kids.length : Int)) = True := eq_true (by omega)
  (refine goW ?_; simp only [go_sem, Nat.reduceBEq, Nat.reduceAdd, Nat.reduceSub, Nat.reduceMul, Nat.reduceLeDiff, Nat.reduceEqDiff, Nat.reduceLT, reduceIte, reduceCtorEq, h4', h5'])
  (repeat (first | refine V_seq ?_ | refine V_block ?_ | (refine goR ?_; simp only [go_sem, Nat.reduceBEq, Nat.reduceAdd, Nat.reduceSub, Nat.reduceMul, Nat.reduceLeDiff, Nat.reduceEqDiff, Nat.reduceLT, reduceIte, reduceCtorEq]) | (refine goD rfl ?_; simp only [go_sem, Nat.reduceBEq, Nat.reduceAdd, Nat.reduceSub, Nat.reduceMul, Nat.reduceLeDiff, Nat.reduceEqDiff, Nat.reduceLT, reduceIte, reduceCtorEq]) | (refine V_skip ?_; simp only [go_sem, Nat.reduceBEq, Nat.reduceAdd, Nat.reduceSub, Nat.reduceMul, Nat.reduceLeDiff, Nat.reduceEqDiff, Nat.reduceLT, reduceIte, reduceCtorEq]) | (refine V_cond ?_; simp only [go_sem, Nat.reduceBEq, Nat.reduceAdd, Nat.reduceSub, Nat.reduceMul, Nat.reduceLeDiff, Nat.reduceEqDiff, Nat.reduceLT, reduceIte, reduceCtorEq]) | (refine V_exit ?_; simp only [go_sem, Nat.reduceBEq, Nat.reduceAdd, Nat.reduceSub, Nat.reduceMul, Nat.reduceLeDiff, Nat.reduceEqDiff, Nat.reduceLT, reduceIte, reduceCtorEq])))
  refine V_loop (a.kids.length + 1) ?_
  refine Vr_head [(0, 0), (1, 1)] [(5, .int .i64 0), (3, .ptr 1 0), (2, .ptr 0 0)] ⟨2, [(1, .cells [.int .i64 b.op, .str b.name, .int .i64 b.n, strs b.cons, exprs b.kids]), (0, .cells [.int .i64 a.op, .str a.name, .int .i64 a.n, strs a.cons, exprs a.kids])], 0⟩ rfl (by simp only [go_sem, Nat.reduceBEq, Nat.reduceAdd, Nat.reduceSub, Nat.reduceMul, Nat.reduceLeDiff, Nat.reduceEqDiff, Nat.reduceLT, reduceIte, reduceCtorEq]) (by simp only [go_sem, Nat.reduceBEq, Nat.reduceAdd, Nat.reduceSub, Nat.reduceMul, Nat.reduceLeDiff, Nat.reduceEqDiff, Nat.reduceLT, reduceIte, reduceCtorEq]) ?_
  refine Vr_for a.kids.length (fun i => a.kids.take i = b.kids.take i) (fun i => [(5, .int .i64 (i : Int)), (3, .ptr 1 0), (2, .ptr 0 0)]) (fun _ => ⟨2, [(1, .cells [.int .i64 b.op, .str b.name, .int .i64 b.n, strs b.cons, exprs b.kids]), (0, .cells [.int .i64 a.op, .str a.name, .int .i64 a.n, strs a.cons, exprs a.kids])], 0⟩) rfl ?_ ?_
  · intro i hi hI n hn
    have hi' : i < b.kids.length := by omega
    have h6 : ((i : Int) < (a.kids.length : Int)) = True := eq_true (by omega)
    have ka : (a.kids.map Expr.emb)[i]? = some (a.kids[i]).emb := by simp [hi]
    have kb : (b.kids.map Expr.emb)[i]? = some (b.kids[i]).emb := by simp [hi']
    have w1 : wr .i64 ((i : Int) + 1) = ((i + 1 : Nat) : Int) := wr_nat (by omega) (by omega)
    have hmem : a.kids[i] ∈ a.kids := List.getElem_mem hi
    have hwk := w_kid hi
    (repeat (first | refine V_seq ?_ | refine V_block ?_ | (refine goR ?_; simp only [go_sem, Nat.reduceBEq, Nat.reduceAdd, Nat.reduceSub, Nat.reduceMul, Nat.reduceLeDiff, Nat.reduceEqDiff, Nat.reduceLT, reduceIte, reduceCtorEq, h6, ka, kb, emb_cells, emb_flat, Expr.emb_eq]) | (refine goD rfl ?_; simp only [go_sem, Nat.reduceBEq, Nat.reduceAdd, Nat.reduceSub, Nat.reduceMul, Nat.reduceLeDiff, Nat.reduceEqDiff, Nat.reduceLT, reduceIte, reduceCtorEq, h6, ka, kb, emb_cells, emb_flat, Expr.emb_eq]) | (refine V_skip ?_; simp only [go_sem, Nat.reduceBEq, Nat.reduceAdd, Nat.reduceSub, Nat.reduceMul, Nat.reduceLeDiff, Nat.reduceEqDiff, Nat.reduceLT, reduceIte, reduceCtorEq, h6, ka, kb, emb_cells, emb_flat, Expr.emb_eq]) | (refine V_cond ?_; simp only [go_sem, Nat.reduceBEq, Nat.reduceAdd, Nat.reduceSub, Nat.reduceMul, Nat.reduceLeDiff, Nat.reduceEqDiff, Nat.reduceLT, reduceIte, reduceCtorEq, h6, ka, kb, emb_cells, emb_flat, Expr.emb_eq]) | (refine V_exit ?_; simp only [go_sem, Nat.reduceBEq, Nat.reduceAdd, Nat.reduceSub, Nat.reduceMul, Nat.reduceLeDiff, Nat.reduceEqDiff, Nat.reduceLT, reduceIte, reduceCtorEq, h6, ka, kb, emb_cells, emb_flat, Expr.emb_eq])))
    refine DCallP_pure (ih _ hmem (by omega) b.kids[i]) (by rw [Expr.emb_eq, Expr.emb_eq]; exact Wks.refl _) ?_
    by_cases hx : a.kids[i] = b.kids[i]
    · have hr : sameE a.kids[i] b.kids[i] = true := (sameE_iff _ _).2 hx
      (refine goDW ?_; simp only [go_sem, Nat.reduceBEq, Nat.reduceAdd, Nat.reduceSub, Nat.reduceMul, Nat.reduceLeDiff, Nat.reduceEqDiff, Nat.reduceLT, reduceIte, reduceCtorEq, hr])
      (repeat (first | refine V_seq ?_ | refine V_block ?_ | (refine goR ?_; simp only [go_sem, Nat.reduceBEq, Nat.reduceAdd, Nat.reduceSub, Nat.reduceMul, Nat.reduceLeDiff, Nat.reduceEqDiff, Nat.reduceLT, reduceIte, reduceCtorEq, w1]) | (refine goD rfl ?_; simp only [go_sem, Nat.reduceBEq, Nat.reduceAdd, Nat.reduceSub, Nat.reduceMul, Nat.reduceLeDiff, Nat.reduceEqDiff, Nat.reduceLT, reduceIte, reduceCtorEq, w1]) | (refine V_skip ?_; simp only [go_sem, Nat.reduceBEq, Nat.reduceAdd, Nat.reduceSub, Nat.reduceMul, Nat.reduceLeDiff, Nat.reduceEqDiff, Nat.reduceLT, reduceIte, reduceCtorEq, w1]) | (refine V_cond ?_; simp only [go_sem, Nat.reduceBEq, Nat.reduceAdd, Nat.reduceSub, Nat.reduceMul, Nat.reduceLeDiff, Nat.reduceEqDiff, Nat.reduceLT, reduceIte, reduceCtorEq, w1]) | (refine V_exit ?_; simp only [go_sem, Nat.reduceBEq, Nat.reduceAdd, Nat.reduceSub, Nat.reduceMul, Nat.reduceLeDiff, Nat.reduceEqDiff, Nat.reduceLT, reduceIte, reduceCtorEq, w1])))
      exact Vr_head [(0, 0), (1, 1)] _ _ rfl (by simp only [go_sem, Nat.reduceBEq, Nat.reduceAdd, Nat.reduceSub, Nat.reduceMul, Nat.reduceLeDiff, Nat.reduceEqDiff, Nat.reduceLT, reduceIte, reduceCtorEq]) (by simp only [go_sem, Nat.reduceBEq, Nat.reduceAdd, Nat.reduceSub, Nat.reduceMul, Nat.reduceLeDiff, Nat.reduceEqDiff, Nat.reduceLT, reduceIte, reduceCtorEq]) (hn (by rw [← List.take_append_getElem hi, ← List.take_append_getElem hi', hI, hx]))
    · have hr : sameE a.kids[i] b.kids[i] = false := sameE_ne hx
      have hne : sameE a b = false := sameE_ne fun e => hx (by subst e; rfl)
      (refine goDW ?_; simp only [go_sem, Nat.reduceBEq, Nat.reduceAdd, Nat.reduceSub, Nat.reduceMul, Nat.reduceLeDiff, Nat.reduceEqDiff, Nat.reduceLT, reduceIte, reduceCtorEq, hr])
      (repeat (first | refine V_seq ?_ | refine V_block ?_ | (refine goR ?_; simp only [go_sem, Nat.reduceBEq, Nat.reduceAdd, Nat.reduceSub, Nat.reduceMul, Nat.reduceLeDiff, Nat.reduceEqDiff, Nat.reduceLT, reduceIte, reduceCtorEq]) | (refine goD rfl ?_; simp only [go_sem, Nat.reduceBEq, Nat.reduceAdd, Nat.reduceSub, Nat.reduceMul, Nat.reduceLeDiff, Nat.reduceEqDiff, Nat.reduceLT, reduceIte, reduceCtorEq]) | (refine V_skip ?_; simp only [go_sem, Nat.reduceBEq, Nat.reduceAdd, Nat.reduceSub, Nat.reduceMul, Nat.reduceLeDiff, Nat.reduceEqDiff, Nat.reduceLT, reduceIte, reduceCtorEq]) | (refine V_cond ?_; simp only [go_sem, Nat.reduceBEq, Nat.reduceAdd, Nat.reduceSub, Nat.reduceMul, Nat.reduceLeDiff, Nat.reduceEqDiff, Nat.reduceLT, reduceIte, reduceCtorEq]) | (refine V_exit ?_; simp only [go_sem, Nat.reduceBEq, Nat.reduceAdd, Nat.reduceSub, Nat.reduceMul, Nat.reduceLeDiff, Nat.reduceEqDiff, Nat.reduceLT, reduceIte, reduceCtorEq])))
      (refine V_ret ?_; (try simp only [Vthen_r, Vblock_r]); refine EndQ_pure trivial ?_; simp only [go_sem, Nat.reduceBEq, Nat.reduceAdd, Nat.reduceSub, Nat.reduceMul, Nat.reduceLeDiff, Nat.reduceEqDiff, Nat.reduceLT, reduceIte, reduceCtorEq, hne])
  · intro hI n
    have h6 : ((a.kids.length : Int) < (a.kids.length : Int)) = False := eq_false (by omega)
    have he : a = b := by
      have hk : a.kids = b.kids := by
        have := hI
        rwa [List.take_length, h5, List.take_length] at this
      cases a; cases b; simp_all
    have hr : sameE a b = true := (sameE_iff a b).2 he
    (repeat (first | refine V_seq ?_ | refine V_block ?_ | (refine goR ?_; simp only [go_sem, Nat.reduceBEq, Nat.reduceAdd, Nat.reduceSub, Nat.reduceMul, Nat.reduceLeDiff, Nat.reduceEqDiff, Nat.reduceLT, reduceIte, reduceCtorEq, h6]) | (refine goD rfl ?_; simp only [go_sem, Nat.reduceBEq, Nat.reduceAdd, Nat.reduceSub, Nat.reduceMul, Nat.reduceLeDiff, Nat.reduceEqDiff, Nat.reduceLT, reduceIte, reduceCtorEq, h6]) | (refine V_skip ?_; simp only [go_sem, Nat.reduceBEq, Nat.reduceAdd, Nat.reduceSub, Nat.reduceMul, Nat.reduceLeDiff, Nat.reduceEqDiff, Nat.reduceLT, reduceIte, reduceCtorEq, h6]) | (refine V_cond ?_; simp only [go_sem, Nat.reduceBEq, Nat.reduceAdd, Nat.reduceSub, Nat.reduceMul, Nat.reduceLeDiff, Nat.reduceEqDiff, Nat.reduceLT, reduceIte, reduceCtorEq, h6]) | (refine V_exit ?_; simp only [go_sem, Nat.reduceBEq, Nat.reduceAdd, Nat.reduceSub, Nat.reduceMul, Nat.reduceLeDiff, Nat.reduceEqDiff, Nat.reduceLT, reduceIte, reduceCtorEq, h6])))
    (refine V_ret ?_; (try simp only [Vthen_r, Vblock_r]); refine EndQ_pure trivial ?_; simp only [go_sem, Nat.reduceBEq, Nat.reduceAdd, Nat.reduceSub, Nat.reduceMul, Nat.reduceLeDiff, Nat.reduceEqDiff, Nat.reduceLT, reduceIte, reduceCtorEq, hr])
/-- sampling (the document's) -/
theorem refSample_ok (x con : Bytes) : ∀ e : Expr, e.w ≤ lim → Pure PG 15 [e.emb, .str x, .str con] (sample x con e).emb := by
  refine Expr.ind fun e ih hs => ?_
  refine enterP (f := 15) (fn := Tryz.f15) rfl rfl (by decide) (by simp [Tryz.f15]) ?_ ?_ ?_
  · intro y hy; rcases List.mem_cons.1 hy with rfl | hy
    · exact emb_bel 0 e
    · exact bel_all (l := [.str x, .str con]) rfl y hy
  · exact emb_bel 0 _
  have hw := Expr.w_eq e
  have hlen := length_ws e.kids
  have hse := sample_eq x con e
  unfold lim at hs ih
  generalize hR : (sample x con e).emb = R
  rw [Expr.emb_eq e]
  simp only [bodyOf, Tryz.f15]
  by_cases h4 : e.op = 4
  · have h4' : (e.op = 4) = True := eq_true h4
    rw [if_pos h4] at hse
    (repeat (first | refine V_seq ?_ | refine V_block ?_ | (refine goR ?_; simp only [go_sem, Nat.reduceBEq, Nat.reduceAdd, Nat.reduceSub, Nat.reduceMul, Nat.reduceLeDiff, Nat.reduceEqDiff, Nat.reduceLT, reduceIte, reduceCtorEq, h4']) | (refine goD rfl ?_; simp only [go_sem, Nat.reduceBEq, Nat.reduceAdd, Nat.reduceSub, Nat.reduceMul, Nat.reduceLeDiff, Nat.reduceEqDiff, Nat.reduceLT, reduceIte, reduceCtorEq, h4']) | (refine V_skip ?_; simp only [go_sem, Nat.reduceBEq, Nat.reduceAdd, Nat.reduceSub, Nat.reduceMul, Nat.reduceLeDiff, Nat.reduceEqDiff, Nat.reduceLT, reduceIte, reduceCtorEq, h4']) | (refine V_cond ?_; simp only [go_sem, Nat.reduceBEq, Nat.reduceAdd, Nat.reduceSub, Nat.reduceMul, Nat.reduceLeDiff, Nat.reduceEqDiff, Nat.reduceLT, reduceIte, reduceCtorEq, h4']) | (refine V_exit ?_; simp only [go_sem, Nat.reduceBEq, Nat.reduceAdd, Nat.reduceSub, Nat.reduceMul, Nat.reduceLeDiff, Nat.reduceEqDiff, Nat.reduceLT, reduceIte, reduceCtorEq, h4'])))
    (refine V_ret ?_; (try simp only [Vthen_r, Vblock_r]); refine EndQ_pure trivial ?_; simp only [go_sem, Nat.reduceBEq, Nat.reduceAdd, Nat.reduceSub, Nat.reduceMul, Nat.reduceLeDiff, Nat.reduceEqDiff, Nat.reduceLT, reduceIte, reduceCtorEq, ← hR, hse, Expr.emb_eq])
  have h4' : (e.op = 4) = False := eq_false h4
  rw [if_neg h4] at hse
  (repeat (first | refine V_seq ?_ | refine V_block ?_ | (refine goR ?_; simp only [go_sem, Nat.reduceBEq, Nat.reduceAdd, Nat.reduceSub, Nat.reduceMul, Nat.reduceLeDiff, Nat.reduceEqDiff, Nat.reduceLT, reduceIte, reduceCtorEq, h4']) | (refine goD rfl ?_; simp only [go_sem, Nat.reduceBEq, Nat.reduceAdd, Nat.reduceSub, Nat.reduceMul, Nat.reduceLeDiff, Nat.reduceEqDiff, Nat.reduceLT, reduceIte, reduceCtorEq, h4']) | (refine V_skip ?_; simp only [go_sem, Nat.reduceBEq, Nat.reduceAdd, Nat.reduceSub, Nat.reduceMul, Nat.reduceLeDiff, Nat.reduceEqDiff, Nat.reduceLT, reduceIte, reduceCtorEq, h4']) | (refine V_cond ?_; simp only [go_sem, Nat.reduceBEq, Nat.reduceAdd, Nat.reduceSub, Nat.reduceMul, Nat.reduceLeDiff, Nat.reduceEqDiff, Nat.reduceLT, reduceIte, reduceCtorEq, h4']) | (refine V_exit ?_; simp only [go_sem, Nat.reduceBEq, Nat.reduceAdd, Nat.reduceSub, Nat.reduceMul, Nat.reduceLeDiff, Nat.reduceEqDiff, Nat.reduceLT, reduceIte, reduceCtorEq, h4'])))
  refine V_loop (e.kids.length + 1) ?_
  refine Vr_head [(0, 0), (1, 1), (2, 2)] [(8, .int .i64 0), (7, .ptr 2 0), (6, .ptr 1 0), (3, .ptr 0 0), (2, .str con), (1, .str x)] ⟨4, [(3, .tok 0), (2, .cells [.int .i64 e.op, .str e.name, .int .i64 e.n, strs e.cons, .sl (.tok 3) []]), (1, .cells [.int .i64 0, .str [], .int .i64 0, .sl .nil [], .sl .nil []]), (0, .cells [.int .i64 e.op, .str e.name, .int .i64 e.n, strs e.cons, exprs e.kids])], 0⟩ rfl (by simp only [go_sem, Nat.reduceBEq, Nat.reduceAdd, Nat.reduceSub, Nat.reduceMul, Nat.reduceLeDiff, Nat.reduceEqDiff, Nat.reduceLT, reduceIte, reduceCtorEq]) (by simp only [go_sem, Nat.reduceBEq, Nat.reduceAdd, Nat.reduceSub, Nat.reduceMul, Nat.reduceLeDiff, Nat.reduceEqDiff, Nat.reduceLT, reduceIte, reduceCtorEq]) ?_
  refine Vr_for e.kids.length (fun _ => True) (fun i => [(8, .int .i64 (i : Int)), (7, .ptr 2 0), (6, .ptr 1 0), (3, .ptr 0 0), (2, .str con), (1, .str x)])
    (fun i => ⟨4, [(3, .tok (e.kids.take i).length), (2, .cells [.int .i64 e.op, .str e.name, .int .i64 e.n, strs e.cons, .sl (.tok 3) (((e.kids.take i).map (sample x con)).map Expr.emb)]), (1, .cells [.int .i64 0, .str [], .int .i64 0, .sl .nil [], .sl .nil []]), (0, .cells [.int .i64 e.op, .str e.name, .int .i64 e.n, strs e.cons, exprs e.kids])], 0⟩) trivial ?_ ?_
  · intro i hi _ n hn
    have hk : (e.kids.map Expr.emb)[i]? = some (e.kids[i]).emb := by simp [hi]
    have h1 : ((i : Int) < (e.kids.length : Int)) = True := eq_true (by omega)
    have hmem : e.kids[i] ∈ e.kids := List.getElem_mem hi
    have hwk := w_kid hi
    have w1 : wr .i64 ((i : Int) + 1) = ((i + 1 : Nat) : Int) := wr_nat (by omega) (by omega)
    have ht : e.kids.take (i + 1) = e.kids.take i ++ [e.kids[i]] := (List.take_append_getElem hi).symm
    have hle : (e.kids.take i).length ≤ e.kids.length := List.length_take_le' i e.kids
    have hok : appOK 5 80 (((e.kids.take i).map (sample x con)).map Expr.emb) [(sample x con e.kids[i]).emb] = true := appOK_of (el_embs _) (el_embs [_]) (ones_embs [_]) (by decide) (by simp only [List.length_map, List.length_cons, List.length_nil]; omega) (by decide)
    simp only [Expr.emb_eq, strs, exprs] at hok
    (repeat (first | refine V_seq ?_ | refine V_block ?_ | (refine goR ?_; simp only [go_sem, Nat.reduceBEq, Nat.reduceAdd, Nat.reduceSub, Nat.reduceMul, Nat.reduceLeDiff, Nat.reduceEqDiff, Nat.reduceLT, reduceIte, reduceCtorEq, h1, hk, emb_cells, emb_flat, Expr.emb_eq]) | (refine goD rfl ?_; simp only [go_sem, Nat.reduceBEq, Nat.reduceAdd, Nat.reduceSub, Nat.reduceMul, Nat.reduceLeDiff, Nat.reduceEqDiff, Nat.reduceLT, reduceIte, reduceCtorEq, h1, hk, emb_cells, emb_flat, Expr.emb_eq]) | (refine V_skip ?_; simp only [go_sem, Nat.reduceBEq, Nat.reduceAdd, Nat.reduceSub, Nat.reduceMul, Nat.reduceLeDiff, Nat.reduceEqDiff, Nat.reduceLT, reduceIte, reduceCtorEq, h1, hk, emb_cells, emb_flat, Expr.emb_eq]) | (refine V_cond ?_; simp only [go_sem, Nat.reduceBEq, Nat.reduceAdd, Nat.reduceSub, Nat.reduceMul, Nat.reduceLeDiff, Nat.reduceEqDiff, Nat.reduceLT, reduceIte, reduceCtorEq, h1, hk, emb_cells, emb_flat, Expr.emb_eq]) | (refine V_exit ?_; simp only [go_sem, Nat.reduceBEq, Nat.reduceAdd, Nat.reduceSub, Nat.reduceMul, Nat.reduceLeDiff, Nat.reduceEqDiff, Nat.reduceLT, reduceIte, reduceCtorEq, h1, hk, emb_cells, emb_flat, Expr.emb_eq])))
    refine CallP_pure (ih _ hmem (by omega)) (by rw [Expr.emb_eq]; exact Wks.refl _) ?_
    (refine goW ?_; simp only [go_sem, Nat.reduceBEq, Nat.reduceAdd, Nat.reduceSub, Nat.reduceMul, Nat.reduceLeDiff, Nat.reduceEqDiff, Nat.reduceLT, reduceIte, reduceCtorEq, Expr.emb_eq])
    (repeat (first | refine V_seq ?_ | refine V_block ?_ | (refine goR ?_; simp only [go_sem, Nat.reduceBEq, Nat.reduceAdd, Nat.reduceSub, Nat.reduceMul, Nat.reduceLeDiff, Nat.reduceEqDiff, Nat.reduceLT, reduceIte, reduceCtorEq, w1, hok]) | (refine goD rfl ?_; simp only [go_sem, Nat.reduceBEq, Nat.reduceAdd, Nat.reduceSub, Nat.reduceMul, Nat.reduceLeDiff, Nat.reduceEqDiff, Nat.reduceLT, reduceIte, reduceCtorEq, w1, hok]) | (refine V_skip ?_; simp only [go_sem, Nat.reduceBEq, Nat.reduceAdd, Nat.reduceSub, Nat.reduceMul, Nat.reduceLeDiff, Nat.reduceEqDiff, Nat.reduceLT, reduceIte, reduceCtorEq, w1, hok]) | (refine V_cond ?_; simp only [go_sem, Nat.reduceBEq, Nat.reduceAdd, Nat.reduceSub, Nat.reduceMul, Nat.reduceLeDiff, Nat.reduceEqDiff, Nat.reduceLT, reduceIte, reduceCtorEq, w1, hok]) | (refine V_exit ?_; simp only [go_sem, Nat.reduceBEq, Nat.reduceAdd, Nat.reduceSub, Nat.reduceMul, Nat.reduceLeDiff, Nat.reduceEqDiff, Nat.reduceLT, reduceIte, reduceCtorEq, w1, hok])))
    exact Vr_head [(0, 0), (1, 1), (2, 2), (3, 5)] _ _ rfl (by simp only [go_sem, Nat.reduceBEq, Nat.reduceAdd, Nat.reduceSub, Nat.reduceMul, Nat.reduceLeDiff, Nat.reduceEqDiff, Nat.reduceLT, reduceIte, reduceCtorEq, ht, Expr.emb_eq]) (by simp only [go_sem, Nat.reduceBEq, Nat.reduceAdd, Nat.reduceSub, Nat.reduceMul, Nat.reduceLeDiff, Nat.reduceEqDiff, Nat.reduceLT, reduceIte, reduceCtorEq, ht, Expr.emb_eq, List.map_append, List.length_append]) (hn trivial)
  · intro _ n
    have h1 : ((e.kids.length : Int) < (e.kids.length : Int)) = False := eq_false (by omega)
    (repeat (first | refine V_seq ?_ | refine V_block ?_ | (refine goR ?_; simp only [go_sem, Nat.reduceBEq, Nat.reduceAdd, Nat.reduceSub, Nat.reduceMul, Nat.reduceLeDiff, Nat.reduceEqDiff, Nat.reduceLT, reduceIte, reduceCtorEq, h1]) | (refine goD rfl ?_; simp only [go_sem, Nat.reduceBEq, Nat.reduceAdd, Nat.reduceSub, Nat.reduceMul, Nat.reduceLeDiff, Nat.reduceEqDiff, Nat.reduceLT, reduceIte, reduceCtorEq, h1]) | (refine V_skip ?_; simp only [go_sem, Nat.reduceBEq, Nat.reduceAdd, Nat.reduceSub, Nat.reduceMul, Nat.reduceLeDiff, Nat.reduceEqDiff, Nat.reduceLT, reduceIte, reduceCtorEq, h1]) | (refine V_cond ?_; simp only [go_sem, Nat.reduceBEq, Nat.reduceAdd, Nat.reduceSub, Nat.reduceMul, Nat.reduceLeDiff, Nat.reduceEqDiff, Nat.reduceLT, reduceIte, reduceCtorEq, h1]) | (refine V_exit ?_; simp only [go_sem, Nat.reduceBEq, Nat.reduceAdd, Nat.reduceSub, Nat.reduceMul, Nat.reduceLeDiff, Nat.reduceEqDiff, Nat.reduceLT, reduceIte, reduceCtorEq, h1])))
    (refine V_ret ?_; (try simp only [Vthen_r, Vblock_r]); refine EndQ_pure trivial ?_; simp only [go_sem, Nat.reduceBEq, Nat.reduceAdd, Nat.reduceSub, Nat.reduceMul, Nat.reduceLeDiff, Nat.reduceEqDiff, Nat.reduceLT, reduceIte, reduceCtorEq, List.take_length, ← hR, hse, Expr.emb_eq])
/-- each part turned -/
theorem rebuilt_ok (g : Nat) (cap : List AV) (F : Expr → Expr) (hcap : cap.all AV.flat1 = true) (hF : ∀ e, e.w ≤ lim → Pure PG g (e.emb :: cap) (F e).emb) : ∀ e : Expr, rbOK F e → Pure PG 32 [e.emb, .fn (.func g) [] cap] (rebuilt F e).emb := by
  refine Expr.ind fun e ih hs => ?_
  rw [rbOK_eq] at hs
  obtain ⟨hs, hks⟩ := hs
  have hre := rebuilt_eq F e
  have hF' := hF _ hs
  refine enterP (f := 32) (fn := Tryz.f32) rfl rfl (by decide) (by simp [Tryz.f32]) ?_ ?_ ?_
  · intro y hy; rcases List.mem_cons.1 hy with rfl | hy
    · exact emb_bel 0 e
    · simp only [List.mem_singleton] at hy; subst hy; exact fn_bel hcap
  · exact emb_bel 0 _
  generalize hR : (rebuilt F e).emb = R
  have hw := Expr.w_eq ⟨e.op, e.name, e.n, e.cons, e.kids.map (rebuilt F)⟩
  have hlen := length_ws (e.kids.map (rebuilt F))
  simp only [List.length_map] at hw hlen
  unfold lim at hs
  have hbk : ∀ gl, bkL gl cap = some cap := fun gl => bkL_flat hcap
  have hbe : ∀ n, cap.all (bel0 n) = true := fun n => bel0s_flat hcap
  rw [Expr.emb_eq e]
  simp only [bodyOf, Tryz.f32]
  (repeat (first | refine V_seq ?_ | refine V_block ?_ | (refine goR ?_; simp only [go_sem, Nat.reduceBEq, Nat.reduceAdd, Nat.reduceSub, Nat.reduceMul, Nat.reduceLeDiff, Nat.reduceEqDiff, Nat.reduceLT, reduceIte, reduceCtorEq]) | (refine goD rfl ?_; simp only [go_sem, Nat.reduceBEq, Nat.reduceAdd, Nat.reduceSub, Nat.reduceMul, Nat.reduceLeDiff, Nat.reduceEqDiff, Nat.reduceLT, reduceIte, reduceCtorEq]) | (refine V_skip ?_; simp only [go_sem, Nat.reduceBEq, Nat.reduceAdd, Nat.reduceSub, Nat.reduceMul, Nat.reduceLeDiff, Nat.reduceEqDiff, Nat.reduceLT, reduceIte, reduceCtorEq]) | (refine V_cond ?_; simp only [go_sem, Nat.reduceBEq, Nat.reduceAdd, Nat.reduceSub, Nat.reduceMul, Nat.reduceLeDiff, Nat.reduceEqDiff, Nat.reduceLT, reduceIte, reduceCtorEq]) | (refine V_exit ?_; simp only [go_sem, Nat.reduceBEq, Nat.reduceAdd, Nat.reduceSub, Nat.reduceMul, Nat.reduceLeDiff, Nat.reduceEqDiff, Nat.reduceLT, reduceIte, reduceCtorEq])))
  refine CallP_pure (clone_strs e.cons (by unfold lim; omega)) (Wks.refl _) ?_
  (refine goW ?_; simp only [go_sem, Nat.reduceBEq, Nat.reduceAdd, Nat.reduceSub, Nat.reduceMul, Nat.reduceLeDiff, Nat.reduceEqDiff, Nat.reduceLT, reduceIte, reduceCtorEq])
  (repeat (first | refine V_seq ?_ | refine V_block ?_ | (refine goR ?_; simp only [go_sem, Nat.reduceBEq, Nat.reduceAdd, Nat.reduceSub, Nat.reduceMul, Nat.reduceLeDiff, Nat.reduceEqDiff, Nat.reduceLT, reduceIte, reduceCtorEq]) | (refine goD rfl ?_; simp only [go_sem, Nat.reduceBEq, Nat.reduceAdd, Nat.reduceSub, Nat.reduceMul, Nat.reduceLeDiff, Nat.reduceEqDiff, Nat.reduceLT, reduceIte, reduceCtorEq]) | (refine V_skip ?_; simp only [go_sem, Nat.reduceBEq, Nat.reduceAdd, Nat.reduceSub, Nat.reduceMul, Nat.reduceLeDiff, Nat.reduceEqDiff, Nat.reduceLT, reduceIte, reduceCtorEq]) | (refine V_cond ?_; simp only [go_sem, Nat.reduceBEq, Nat.reduceAdd, Nat.reduceSub, Nat.reduceMul, Nat.reduceLeDiff, Nat.reduceEqDiff, Nat.reduceLT, reduceIte, reduceCtorEq]) | (refine V_exit ?_; simp only [go_sem, Nat.reduceBEq, Nat.reduceAdd, Nat.reduceSub, Nat.reduceMul, Nat.reduceLeDiff, Nat.reduceEqDiff, Nat.reduceLT, reduceIte, reduceCtorEq])))
  refine V_loop (e.kids.length + 1) ?_
  refine Vr_head [(0, 0), (1, 1)] [(15, .int .i64 0), (14, .int .i64 (e.kids.length : Int)), (13, exprs e.kids), (5, .sl (.tok 2) []), (4, .ptr 1 0), (2, .ptr 0 0), (1, .fn (.func g) [] cap)] ⟨3, [(2, .tok 0), (1, .cells [.int .i64 0, .str [], .int .i64 0, .sl .nil [], .sl .nil []]), (0, .cells [.int .i64 e.op, .str e.name, .int .i64 e.n, strs e.cons, exprs e.kids])], 0⟩ rfl (by simp only [go_sem, Nat.reduceBEq, Nat.reduceAdd, Nat.reduceSub, Nat.reduceMul, Nat.reduceLeDiff, Nat.reduceEqDiff, Nat.reduceLT, reduceIte, reduceCtorEq, hbk, hbe]) (by simp only [go_sem, Nat.reduceBEq, Nat.reduceAdd, Nat.reduceSub, Nat.reduceMul, Nat.reduceLeDiff, Nat.reduceEqDiff, Nat.reduceLT, reduceIte, reduceCtorEq]) ?_
  refine Vr_for e.kids.length (fun _ => True) (fun i => [(15, .int .i64 (i : Int)), (14, .int .i64 (e.kids.length : Int)), (13, exprs e.kids), (5, .sl (.tok 2) (((e.kids.take i).map (rebuilt F)).map Expr.emb)), (4, .ptr 1 0), (2, .ptr 0 0), (1, .fn (.func g) [] cap)])
    (fun i => ⟨3, [(2, .tok (e.kids.take i).length), (1, .cells [.int .i64 0, .str [], .int .i64 0, .sl .nil [], .sl .nil []]), (0, .cells [.int .i64 e.op, .str e.name, .int .i64 e.n, strs e.cons, exprs e.kids])], 0⟩) trivial ?_ ?_
  · intro i hi _ n hn
    have hk : (e.kids.map Expr.emb)[i]? = some (e.kids[i]).emb := by simp [hi]
    have h1 : ((i : Int) < (e.kids.length : Int)) = True := eq_true (by omega)
    have hmem : e.kids[i] ∈ e.kids := List.getElem_mem hi
    have w1 : wr .i64 ((i : Int) + 1) = ((i + 1 : Nat) : Int) := wr_nat (by omega) (by omega)
    have ht : e.kids.take (i + 1) = e.kids.take i ++ [e.kids[i]] := (List.take_append_getElem hi).symm
    have hle : (e.kids.take i).length ≤ e.kids.length := List.length_take_le' i e.kids
    have hok : appOK 5 80 (((e.kids.take i).map (rebuilt F)).map Expr.emb) [(rebuilt F e.kids[i]).emb] = true := appOK_of (el_embs _) (el_embs [_]) (ones_embs [_]) (by decide) (by simp only [List.length_map, List.length_cons, List.length_nil]; omega) (by decide)
    simp only [Expr.emb_eq, strs, exprs] at hok
    (repeat (first | refine V_seq ?_ | refine V_block ?_ | (refine goR ?_; simp only [go_sem, Nat.reduceBEq, Nat.reduceAdd, Nat.reduceSub, Nat.reduceMul, Nat.reduceLeDiff, Nat.reduceEqDiff, Nat.reduceLT, reduceIte, reduceCtorEq, h1, hk, emb_cells, emb_flat, Expr.emb_eq]) | (refine goD rfl ?_; simp only [go_sem, Nat.reduceBEq, Nat.reduceAdd, Nat.reduceSub, Nat.reduceMul, Nat.reduceLeDiff, Nat.reduceEqDiff, Nat.reduceLT, reduceIte, reduceCtorEq, h1, hk, emb_cells, emb_flat, Expr.emb_eq]) | (refine V_skip ?_; simp only [go_sem, Nat.reduceBEq, Nat.reduceAdd, Nat.reduceSub, Nat.reduceMul, Nat.reduceLeDiff, Nat.reduceEqDiff, Nat.reduceLT, reduceIte, reduceCtorEq, h1, hk, emb_cells, emb_flat, Expr.emb_eq]) | (refine V_cond ?_; simp only [go_sem, Nat.reduceBEq, Nat.reduceAdd, Nat.reduceSub, Nat.reduceMul, Nat.reduceLeDiff, Nat.reduceEqDiff, Nat.reduceLT, reduceIte, reduceCtorEq, h1, hk, emb_cells, emb_flat, Expr.emb_eq]) | (refine V_exit ?_; simp only [go_sem, Nat.reduceBEq, Nat.reduceAdd, Nat.reduceSub, Nat.reduceMul, Nat.reduceLeDiff, Nat.reduceEqDiff, Nat.reduceLT, reduceIte, reduceCtorEq, h1, hk, emb_cells, emb_flat, Expr.emb_eq])))
    refine CallP_pure (ih _ hmem (hks _ hmem)) (by rw [Expr.emb_eq]; exact Wks.refl _) ?_
    (refine goW ?_; simp only [go_sem, Nat.reduceBEq, Nat.reduceAdd, Nat.reduceSub, Nat.reduceMul, Nat.reduceLeDiff, Nat.reduceEqDiff, Nat.reduceLT, reduceIte, reduceCtorEq, Expr.emb_eq, hok])
    (repeat (first | refine V_seq ?_ | refine V_block ?_ | (refine goR ?_; simp only [go_sem, Nat.reduceBEq, Nat.reduceAdd, Nat.reduceSub, Nat.reduceMul, Nat.reduceLeDiff, Nat.reduceEqDiff, Nat.reduceLT, reduceIte, reduceCtorEq, w1]) | (refine goD rfl ?_; simp only [go_sem, Nat.reduceBEq, Nat.reduceAdd, Nat.reduceSub, Nat.reduceMul, Nat.reduceLeDiff, Nat.reduceEqDiff, Nat.reduceLT, reduceIte, reduceCtorEq, w1]) | (refine V_skip ?_; simp only [go_sem, Nat.reduceBEq, Nat.reduceAdd, Nat.reduceSub, Nat.reduceMul, Nat.reduceLeDiff, Nat.reduceEqDiff, Nat.reduceLT, reduceIte, reduceCtorEq, w1]) | (refine V_cond ?_; simp only [go_sem, Nat.reduceBEq, Nat.reduceAdd, Nat.reduceSub, Nat.reduceMul, Nat.reduceLeDiff, Nat.reduceEqDiff, Nat.reduceLT, reduceIte, reduceCtorEq, w1]) | (refine V_exit ?_; simp only [go_sem, Nat.reduceBEq, Nat.reduceAdd, Nat.reduceSub, Nat.reduceMul, Nat.reduceLeDiff, Nat.reduceEqDiff, Nat.reduceLT, reduceIte, reduceCtorEq, w1])))
    exact Vr_head [(0, 0), (1, 1), (2, 4)] _ _ rfl (by simp only [go_sem, Nat.reduceBEq, Nat.reduceAdd, Nat.reduceSub, Nat.reduceMul, Nat.reduceLeDiff, Nat.reduceEqDiff, Nat.reduceLT, reduceIte, reduceCtorEq, ht, Expr.emb_eq, List.map_append, hbk, hbe]) (by simp only [go_sem, Nat.reduceBEq, Nat.reduceAdd, Nat.reduceSub, Nat.reduceMul, Nat.reduceLeDiff, Nat.reduceEqDiff, Nat.reduceLT, reduceIte, reduceCtorEq, ht, Expr.emb_eq, List.map_append, List.length_append]) (hn trivial)
  · intro _ n
    have h1 : ((e.kids.length : Int) < (e.kids.length : Int)) = False := eq_false (by omega)
    (repeat (first | refine V_seq ?_ | refine V_block ?_ | (refine goR ?_; simp only [go_sem, Nat.reduceBEq, Nat.reduceAdd, Nat.reduceSub, Nat.reduceMul, Nat.reduceLeDiff, Nat.reduceEqDiff, Nat.reduceLT, reduceIte, reduceCtorEq, h1, List.take_length]) | (refine goD rfl ?_; simp only [go_sem, Nat.reduceBEq, Nat.reduceAdd, Nat.reduceSub, Nat.reduceMul, Nat.reduceLeDiff, Nat.reduceEqDiff, Nat.reduceLT, reduceIte, reduceCtorEq, h1, List.take_length]) | (refine V_skip ?_; simp only [go_sem, Nat.reduceBEq, Nat.reduceAdd, Nat.reduceSub, Nat.reduceMul, Nat.reduceLeDiff, Nat.reduceEqDiff, Nat.reduceLT, reduceIte, reduceCtorEq, h1, List.take_length]) | (refine V_cond ?_; simp only [go_sem, Nat.reduceBEq, Nat.reduceAdd, Nat.reduceSub, Nat.reduceMul, Nat.reduceLeDiff, Nat.reduceEqDiff, Nat.reduceLT, reduceIte, reduceCtorEq, h1, List.take_length]) | (refine V_exit ?_; simp only [go_sem, Nat.reduceBEq, Nat.reduceAdd, Nat.reduceSub, Nat.reduceMul, Nat.reduceLeDiff, Nat.reduceEqDiff, Nat.reduceLT, reduceIte, reduceCtorEq, h1, List.take_length])))
    rw [Expr.emb_eq] at hF'
    refine CallP_pure hF' (by simp only [go_sem, Nat.reduceBEq, Nat.reduceAdd, Nat.reduceSub, Nat.reduceMul, Nat.reduceLeDiff, Nat.reduceEqDiff, Nat.reduceLT, reduceIte, reduceCtorEq]) ?_
    (refine goW ?_; simp only [go_sem, Nat.reduceBEq, Nat.reduceAdd, Nat.reduceSub, Nat.reduceMul, Nat.reduceLeDiff, Nat.reduceEqDiff, Nat.reduceLT, reduceIte, reduceCtorEq, Expr.emb_eq])
    (repeat (first | refine V_seq ?_ | refine V_block ?_ | (refine goR ?_; simp only [go_sem, Nat.reduceBEq, Nat.reduceAdd, Nat.reduceSub, Nat.reduceMul, Nat.reduceLeDiff, Nat.reduceEqDiff, Nat.reduceLT, reduceIte, reduceCtorEq]) | (refine goD rfl ?_; simp only [go_sem, Nat.reduceBEq, Nat.reduceAdd, Nat.reduceSub, Nat.reduceMul, Nat.reduceLeDiff, Nat.reduceEqDiff, Nat.reduceLT, reduceIte, reduceCtorEq]) | (refine V_skip ?_; simp only [go_sem, Nat.reduceBEq, Nat.reduceAdd, Nat.reduceSub, Nat.reduceMul, Nat.reduceLeDiff, Nat.reduceEqDiff, Nat.reduceLT, reduceIte, reduceCtorEq]) | (refine V_cond ?_; simp only [go_sem, Nat.reduceBEq, Nat.reduceAdd, Nat.reduceSub, Nat.reduceMul, Nat.reduceLeDiff, Nat.reduceEqDiff, Nat.reduceLT, reduceIte, reduceCtorEq]) | (refine V_exit ?_; simp only [go_sem, Nat.reduceBEq, Nat.reduceAdd, Nat.reduceSub, Nat.reduceMul, Nat.reduceLeDiff, Nat.reduceEqDiff, Nat.reduceLT, reduceIte, reduceCtorEq])))
    (refine V_ret ?_; (try simp only [Vthen_r, Vblock_r]); refine EndQ_pure trivial ?_; simp only [go_sem, Nat.reduceBEq, Nat.reduceAdd, Nat.reduceSub, Nat.reduceMul, Nat.reduceLeDiff, Nat.reduceEqDiff, Nat.reduceLT, reduceIte, reduceCtorEq, ← hR, hre, Expr.emb_eq])
theorem sampleId_ok (e : Expr) (he : e.w ≤ lim) : Pure PG 33 (e.emb :: []) e.emb := by
  refine enterP (f := 33) (fn := Tryz.f33) rfl rfl (by decide) (by simp [Tryz.f33]) ?_ ?_ ?_
  · intro y hy; simp only [List.mem_singleton] at hy; subst hy; exact emb_bel 0 e
  · exact emb_bel 0 _
  generalize hR : e.emb = R
  rw [← hR, Expr.emb_eq e]
  rw [Expr.emb_eq e] at hR
  simp only [bodyOf, Tryz.f33]
  (repeat (first | refine V_seq ?_ | refine V_block ?_ | (refine goR ?_; simp only [go_sem, Nat.reduceBEq, Nat.reduceAdd, Nat.reduceSub, Nat.reduceMul, Nat.reduceLeDiff, Nat.reduceEqDiff, Nat.reduceLT, reduceIte, reduceCtorEq]) | (refine goD rfl ?_; simp only [go_sem, Nat.reduceBEq, Nat.reduceAdd, Nat.reduceSub, Nat.reduceMul, Nat.reduceLeDiff, Nat.reduceEqDiff, Nat.reduceLT, reduceIte, reduceCtorEq]) | (refine V_skip ?_; simp only [go_sem, Nat.reduceBEq, Nat.reduceAdd, Nat.reduceSub, Nat.reduceMul, Nat.reduceLeDiff, Nat.reduceEqDiff, Nat.reduceLT, reduceIte, reduceCtorEq]) | (refine V_cond ?_; simp only [go_sem, Nat.reduceBEq, Nat.reduceAdd, Nat.reduceSub, Nat.reduceMul, Nat.reduceLeDiff, Nat.reduceEqDiff, Nat.reduceLT, reduceIte, reduceCtorEq]) | (refine V_exit ?_; simp only [go_sem, Nat.reduceBEq, Nat.reduceAdd, Nat.reduceSub, Nat.reduceMul, Nat.reduceLeDiff, Nat.reduceEqDiff, Nat.reduceLT, reduceIte, reduceCtorEq])))
  (refine V_ret ?_; (try simp only [Vthen_r, Vblock_r]); refine EndQ_pure trivial ?_; simp only [go_sem, Nat.reduceBEq, Nat.reduceAdd, Nat.reduceSub, Nat.reduceMul, Nat.reduceLeDiff, Nat.reduceEqDiff, Nat.reduceLT, reduceIte, reduceCtorEq, ← hR])
/-- sampling (the program's) -/
theorem sample_ok (x con : Bytes) : ∀ e : Expr, e.w ≤ lim → Pure PG 13 [e.emb, .str x, .str con] (sample x con e).emb := by
  refine Expr.ind fun e ih hs => ?_
  have hrb : Pure PG 32 [e.emb, .fn (.func 33) [] []] e.emb := by
    have := rebuilt_ok 33 [] id rfl (fun e he => sampleId_ok e he) e (rbOK_id e hs)
    rwa [rebuilt_id] at this
  refine enterP (f := 13) (fn := Tryz.f13) rfl rfl (by decide) (by simp [Tryz.f13]) ?_ ?_ ?_
  · intro y hy; rcases List.mem_cons.1 hy with rfl | hy
    · exact emb_bel 0 e
    · exact bel_all (l := [.str x, .str con]) rfl y hy
  · exact emb_bel 0 _
  generalize hR : (sample x con e).emb = R
  have hw := Expr.w_eq e
  have hlen := length_ws e.kids
  have hse := sample_eq x con e
  unfold lim at hs ih
  rw [Expr.emb_eq e] at hrb ⊢
  simp only [bodyOf, Tryz.f13]
  by_cases h4 : e.op = 4
  · have h4' : (e.op = 4) = True := eq_true h4
    rw [if_pos h4] at hse
    (repeat (first | refine V_seq ?_ | refine V_block ?_ | (refine goR ?_; simp only [go_sem, Nat.reduceBEq, Nat.reduceAdd, Nat.reduceSub, Nat.reduceMul, Nat.reduceLeDiff, Nat.reduceEqDiff, Nat.reduceLT, reduceIte, reduceCtorEq, h4']) | (refine goD rfl ?_; simp only [go_sem, Nat.reduceBEq, Nat.reduceAdd, Nat.reduceSub, Nat.reduceMul, Nat.reduceLeDiff, Nat.reduceEqDiff, Nat.reduceLT, reduceIte, reduceCtorEq, h4']) | (refine V_skip ?_; simp only [go_sem, Nat.reduceBEq, Nat.reduceAdd, Nat.reduceSub, Nat.reduceMul, Nat.reduceLeDiff, Nat.reduceEqDiff, Nat.reduceLT, reduceIte, reduceCtorEq, h4']) | (refine V_cond ?_; simp only [go_sem, Nat.reduceBEq, Nat.reduceAdd, Nat.reduceSub, Nat.reduceMul, Nat.reduceLeDiff, Nat.reduceEqDiff, Nat.reduceLT, reduceIte, reduceCtorEq, h4']) | (refine V_exit ?_; simp only [go_sem, Nat.reduceBEq, Nat.reduceAdd, Nat.reduceSub, Nat.reduceMul, Nat.reduceLeDiff, Nat.reduceEqDiff, Nat.reduceLT, reduceIte, reduceCtorEq, h4'])))
    refine CallP_pure hrb (by simp only [go_sem, Nat.reduceBEq, Nat.reduceAdd, Nat.reduceSub, Nat.reduceMul, Nat.reduceLeDiff, Nat.reduceEqDiff, Nat.reduceLT, reduceIte, reduceCtorEq]) ?_
    (refine goW ?_; simp only [go_sem, Nat.reduceBEq, Nat.reduceAdd, Nat.reduceSub, Nat.reduceMul, Nat.reduceLeDiff, Nat.reduceEqDiff, Nat.reduceLT, reduceIte, reduceCtorEq])
    (repeat (first | refine V_seq ?_ | refine V_block ?_ | (refine goR ?_; simp only [go_sem, Nat.reduceBEq, Nat.reduceAdd, Nat.reduceSub, Nat.reduceMul, Nat.reduceLeDiff, Nat.reduceEqDiff, Nat.reduceLT, reduceIte, reduceCtorEq]) | (refine goD rfl ?_; simp only [go_sem, Nat.reduceBEq, Nat.reduceAdd, Nat.reduceSub, Nat.reduceMul, Nat.reduceLeDiff, Nat.reduceEqDiff, Nat.reduceLT, reduceIte, reduceCtorEq]) | (refine V_skip ?_; simp only [go_sem, Nat.reduceBEq, Nat.reduceAdd, Nat.reduceSub, Nat.reduceMul, Nat.reduceLeDiff, Nat.reduceEqDiff, Nat.reduceLT, reduceIte, reduceCtorEq]) | (refine V_cond ?_; simp only [go_sem, Nat.reduceBEq, Nat.reduceAdd, Nat.reduceSub, Nat.reduceMul, Nat.reduceLeDiff, Nat.reduceEqDiff, Nat.reduceLT, reduceIte, reduceCtorEq]) | (refine V_exit ?_; simp only [go_sem, Nat.reduceBEq, Nat.reduceAdd, Nat.reduceSub, Nat.reduceMul, Nat.reduceLeDiff, Nat.reduceEqDiff, Nat.reduceLT, reduceIte, reduceCtorEq])))
    (refine V_ret ?_; (try simp only [Vthen_r, Vblock_r]); refine EndQ_pure trivial ?_; simp only [go_sem, Nat.reduceBEq, Nat.reduceAdd, Nat.reduceSub, Nat.reduceMul, Nat.reduceLeDiff, Nat.reduceEqDiff, Nat.reduceLT, reduceIte, reduceCtorEq, ← hR, hse, Expr.emb_eq])
  have h4' : (e.op = 4) = False := eq_false h4
  rw [if_neg h4] at hse
  (repeat (first | refine V_seq ?_ | refine V_block ?_ | (refine goR ?_; simp only [go_sem, Nat.reduceBEq, Nat.reduceAdd, Nat.reduceSub, Nat.reduceMul, Nat.reduceLeDiff, Nat.reduceEqDiff, Nat.reduceLT, reduceIte, reduceCtorEq, h4']) | (refine goD rfl ?_; simp only [go_sem, Nat.reduceBEq, Nat.reduceAdd, Nat.reduceSub, Nat.reduceMul, Nat.reduceLeDiff, Nat.reduceEqDiff, Nat.reduceLT, reduceIte, reduceCtorEq, h4']) | (refine V_skip ?_; simp only [go_sem, Nat.reduceBEq, Nat.reduceAdd, Nat.reduceSub, Nat.reduceMul, Nat.reduceLeDiff, Nat.reduceEqDiff, Nat.reduceLT, reduceIte, reduceCtorEq, h4']) | (refine V_cond ?_; simp only [go_sem, Nat.reduceBEq, Nat.reduceAdd, Nat.reduceSub, Nat.reduceMul, Nat.reduceLeDiff, Nat.reduceEqDiff, Nat.reduceLT, reduceIte, reduceCtorEq, h4']) | (refine V_exit ?_; simp only [go_sem, Nat.reduceBEq, Nat.reduceAdd, Nat.reduceSub, Nat.reduceMul, Nat.reduceLeDiff, Nat.reduceEqDiff, Nat.reduceLT, reduceIte, reduceCtorEq, h4'])))
  refine CallP_pure (clone_strs e.cons (by unfold lim; omega)) (by simp only [go_sem, Nat.reduceBEq, Nat.reduceAdd, Nat.reduceSub, Nat.reduceMul, Nat.reduceLeDiff, Nat.reduceEqDiff, Nat.reduceLT, reduceIte, reduceCtorEq]) ?_
  (refine goW ?_; simp only [go_sem, Nat.reduceBEq, Nat.reduceAdd, Nat.reduceSub, Nat.reduceMul, Nat.reduceLeDiff, Nat.reduceEqDiff, Nat.reduceLT, reduceIte, reduceCtorEq])
  (repeat (first | refine V_seq ?_ | refine V_block ?_ | (refine goR ?_; simp only [go_sem, Nat.reduceBEq, Nat.reduceAdd, Nat.reduceSub, Nat.reduceMul, Nat.reduceLeDiff, Nat.reduceEqDiff, Nat.reduceLT, reduceIte, reduceCtorEq]) | (refine goD rfl ?_; simp only [go_sem, Nat.reduceBEq, Nat.reduceAdd, Nat.reduceSub, Nat.reduceMul, Nat.reduceLeDiff, Nat.reduceEqDiff, Nat.reduceLT, reduceIte, reduceCtorEq]) | (refine V_skip ?_; simp only [go_sem, Nat.reduceBEq, Nat.reduceAdd, Nat.reduceSub, Nat.reduceMul, Nat.reduceLeDiff, Nat.reduceEqDiff, Nat.reduceLT, reduceIte, reduceCtorEq]) | (refine V_cond ?_; simp only [go_sem, Nat.reduceBEq, Nat.reduceAdd, Nat.reduceSub, Nat.reduceMul, Nat.reduceLeDiff, Nat.reduceEqDiff, Nat.reduceLT, reduceIte, reduceCtorEq]) | (refine V_exit ?_; simp only [go_sem, Nat.reduceBEq, Nat.reduceAdd, Nat.reduceSub, Nat.reduceMul, Nat.reduceLeDiff, Nat.reduceEqDiff, Nat.reduceLT, reduceIte, reduceCtorEq])))
  refine V_loop (e.kids.length + 1) ?_
  refine Vr_head [(0, 0), (1, 1)] [(29, .int .i64 0), (28, .int .i64 (e.kids.length : Int)), (27, exprs e.kids), (8, .sl (.tok 2) []), (6, .ptr 1 0), (3, .ptr 0 0), (2, .str con), (1, .str x)] ⟨3, [(2, .tok 0), (1, .cells [.int .i64 0, .str [], .int .i64 0, .sl .nil [], .sl .nil []]), (0, .cells [.int .i64 e.op, .str e.name, .int .i64 e.n, strs e.cons, exprs e.kids])], 0⟩ rfl (by simp only [go_sem, Nat.reduceBEq, Nat.reduceAdd, Nat.reduceSub, Nat.reduceMul, Nat.reduceLeDiff, Nat.reduceEqDiff, Nat.reduceLT, reduceIte, reduceCtorEq]) (by simp only [go_sem, Nat.reduceBEq, Nat.reduceAdd, Nat.reduceSub, Nat.reduceMul, Nat.reduceLeDiff, Nat.reduceEqDiff, Nat.reduceLT, reduceIte, reduceCtorEq]) ?_
  refine Vr_for e.kids.length (fun _ => True) (fun i => [(29, .int .i64 (i : Int)), (28, .int .i64 (e.kids.length : Int)), (27, exprs e.kids), (8, .sl (.tok 2) (((e.kids.take i).map (sample x con)).map Expr.emb)), (6, .ptr 1 0), (3, .ptr 0 0), (2, .str con), (1, .str x)])
    (fun i => ⟨3, [(2, .tok (e.kids.take i).length), (1, .cells [.int .i64 0, .str [], .int .i64 0, .sl .nil [], .sl .nil []]), (0, .cells [.int .i64 e.op, .str e.name, .int .i64 e.n, strs e.cons, exprs e.kids])], 0⟩) trivial ?_ ?_
  · intro i hi _ n hn
    have hk : (e.kids.map Expr.emb)[i]? = some (e.kids[i]).emb := by simp [hi]
    have h1 : ((i : Int) < (e.kids.length : Int)) = True := eq_true (by omega)
    have hmem : e.kids[i] ∈ e.kids := List.getElem_mem hi
    have hwk := w_kid hi
    have w1 : wr .i64 ((i : Int) + 1) = ((i + 1 : Nat) : Int) := wr_nat (by omega) (by omega)
    have ht : e.kids.take (i + 1) = e.kids.take i ++ [e.kids[i]] := (List.take_append_getElem hi).symm
    have hle : (e.kids.take i).length ≤ e.kids.length := List.length_take_le' i e.kids
    have hok : appOK 5 80 (((e.kids.take i).map (sample x con)).map Expr.emb) [(sample x con e.kids[i]).emb] = true := appOK_of (el_embs _) (el_embs [_]) (ones_embs [_]) (by decide) (by simp only [List.length_map, List.length_cons, List.length_nil]; omega) (by decide)
    simp only [Expr.emb_eq, strs, exprs] at hok
    (repeat (first | refine V_seq ?_ | refine V_block ?_ | (refine goR ?_; simp only [go_sem, Nat.reduceBEq, Nat.reduceAdd, Nat.reduceSub, Nat.reduceMul, Nat.reduceLeDiff, Nat.reduceEqDiff, Nat.reduceLT, reduceIte, reduceCtorEq, h1, hk, emb_cells, emb_flat, Expr.emb_eq]) | (refine goD rfl ?_; simp only [go_sem, Nat.reduceBEq, Nat.reduceAdd, Nat.reduceSub, Nat.reduceMul, Nat.reduceLeDiff, Nat.reduceEqDiff, Nat.reduceLT, reduceIte, reduceCtorEq, h1, hk, emb_cells, emb_flat, Expr.emb_eq]) | (refine V_skip ?_; simp only [go_sem, Nat.reduceBEq, Nat.reduceAdd, Nat.reduceSub, Nat.reduceMul, Nat.reduceLeDiff, Nat.reduceEqDiff, Nat.reduceLT, reduceIte, reduceCtorEq, h1, hk, emb_cells, emb_flat, Expr.emb_eq]) | (refine V_cond ?_; simp only [go_sem, Nat.reduceBEq, Nat.reduceAdd, Nat.reduceSub, Nat.reduceMul, Nat.reduceLeDiff, Nat.reduceEqDiff, Nat.reduceLT, reduceIte, reduceCtorEq, h1, hk, emb_cells, emb_flat, Expr.emb_eq]) | (refine V_exit ?_; simp only [go_sem, Nat.reduceBEq, Nat.reduceAdd, Nat.reduceSub, Nat.reduceMul, Nat.reduceLeDiff, Nat.reduceEqDiff, Nat.reduceLT, reduceIte, reduceCtorEq, h1, hk, emb_cells, emb_flat, Expr.emb_eq])))
    refine CallP_pure (ih _ hmem (by omega)) (by rw [Expr.emb_eq]; exact Wks.refl _) ?_
    (refine goW ?_; simp only [go_sem, Nat.reduceBEq, Nat.reduceAdd, Nat.reduceSub, Nat.reduceMul, Nat.reduceLeDiff, Nat.reduceEqDiff, Nat.reduceLT, reduceIte, reduceCtorEq, Expr.emb_eq, hok])
    (repeat (first | refine V_seq ?_ | refine V_block ?_ | (refine goR ?_; simp only [go_sem, Nat.reduceBEq, Nat.reduceAdd, Nat.reduceSub, Nat.reduceMul, Nat.reduceLeDiff, Nat.reduceEqDiff, Nat.reduceLT, reduceIte, reduceCtorEq, w1]) | (refine goD rfl ?_; simp only [go_sem, Nat.reduceBEq, Nat.reduceAdd, Nat.reduceSub, Nat.reduceMul, Nat.reduceLeDiff, Nat.reduceEqDiff, Nat.reduceLT, reduceIte, reduceCtorEq, w1]) | (refine V_skip ?_; simp only [go_sem, Nat.reduceBEq, Nat.reduceAdd, Nat.reduceSub, Nat.reduceMul, Nat.reduceLeDiff, Nat.reduceEqDiff, Nat.reduceLT, reduceIte, reduceCtorEq, w1]) | (refine V_cond ?_; simp only [go_sem, Nat.reduceBEq, Nat.reduceAdd, Nat.reduceSub, Nat.reduceMul, Nat.reduceLeDiff, Nat.reduceEqDiff, Nat.reduceLT, reduceIte, reduceCtorEq, w1]) | (refine V_exit ?_; simp only [go_sem, Nat.reduceBEq, Nat.reduceAdd, Nat.reduceSub, Nat.reduceMul, Nat.reduceLeDiff, Nat.reduceEqDiff, Nat.reduceLT, reduceIte, reduceCtorEq, w1])))
    exact Vr_head [(0, 0), (1, 1), (2, 4)] _ _ rfl (by simp only [go_sem, Nat.reduceBEq, Nat.reduceAdd, Nat.reduceSub, Nat.reduceMul, Nat.reduceLeDiff, Nat.reduceEqDiff, Nat.reduceLT, reduceIte, reduceCtorEq, ht, Expr.emb_eq, List.map_append]) (by simp only [go_sem, Nat.reduceBEq, Nat.reduceAdd, Nat.reduceSub, Nat.reduceMul, Nat.reduceLeDiff, Nat.reduceEqDiff, Nat.reduceLT, reduceIte, reduceCtorEq, ht, Expr.emb_eq, List.map_append, List.length_append]) (hn trivial)
  · intro _ n
    have h1 : ((e.kids.length : Int) < (e.kids.length : Int)) = False := eq_false (by omega)
    (repeat (first | refine V_seq ?_ | refine V_block ?_ | (refine goR ?_; simp only [go_sem, Nat.reduceBEq, Nat.reduceAdd, Nat.reduceSub, Nat.reduceMul, Nat.reduceLeDiff, Nat.reduceEqDiff, Nat.reduceLT, reduceIte, reduceCtorEq, h1]) | (refine goD rfl ?_; simp only [go_sem, Nat.reduceBEq, Nat.reduceAdd, Nat.reduceSub, Nat.reduceMul, Nat.reduceLeDiff, Nat.reduceEqDiff, Nat.reduceLT, reduceIte, reduceCtorEq, h1]) | (refine V_skip ?_; simp only [go_sem, Nat.reduceBEq, Nat.reduceAdd, Nat.reduceSub, Nat.reduceMul, Nat.reduceLeDiff, Nat.reduceEqDiff, Nat.reduceLT, reduceIte, reduceCtorEq, h1]) | (refine V_cond ?_; simp only [go_sem, Nat.reduceBEq, Nat.reduceAdd, Nat.reduceSub, Nat.reduceMul, Nat.reduceLeDiff, Nat.reduceEqDiff, Nat.reduceLT, reduceIte, reduceCtorEq, h1]) | (refine V_exit ?_; simp only [go_sem, Nat.reduceBEq, Nat.reduceAdd, Nat.reduceSub, Nat.reduceMul, Nat.reduceLeDiff, Nat.reduceEqDiff, Nat.reduceLT, reduceIte, reduceCtorEq, h1])))
    (refine V_ret ?_; (try simp only [Vthen_r, Vblock_r]); refine EndQ_pure trivial ?_; simp only [go_sem, Nat.reduceBEq, Nat.reduceAdd, Nat.reduceSub, Nat.reduceMul, Nat.reduceLeDiff, Nat.reduceEqDiff, Nat.reduceLT, reduceIte, reduceCtorEq, List.take_length, ← hR, hse, Expr.emb_eq])
end Go.Sy
