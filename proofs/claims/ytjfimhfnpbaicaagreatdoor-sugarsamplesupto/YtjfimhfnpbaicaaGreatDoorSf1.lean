/- Lemmas about given functions: sugar.plain; conditions in the statements. -/
import Derived.Test.YtjfimhfnpbaicaaGreatDoorSf0
namespace Go.Sy
open Go.Proofs
set_option linter.unusedSimpArgs false
set_option linter.unusedVariables false
set_option maxRecDepth 100000
def rw32 (K : List Expr) (cap : Nat) : List AV := fe K ++ List.replicate ((cap - K.length) * 5) AV.any
theorem rw32_flat (K : List Expr) (cap : Nat) : (rw32 K cap).all AV.flat1 = true := by
  rw [rw32, List.all_append, fe_flat, Bool.true_and, List.all_eq_true]
  intro x hx
  rw [(List.mem_replicate.1 hx).2]; rfl
def sl32 (i : Nat) (cap : Nat) : AV := match i with | 0 => .sl .nil [] | i + 1 => .osl 2 (i + 1) cap
def ob32 (K : List Expr) (cap : Nat) : List (Nat × AObj) := match K with | [] => [] | K => [(2, .cells (rw32 K cap))]
theorem okA_of {te : TI} {n : Nat} {ys : List AV} (h1 : (n + ys.length) * te.bytes ≤ 140737488355328) (h2 : 0 < te.size) (h3 : ys.all (fun y => y.cells.all AV.one) = true) (h4 : n + ys.length ≤ 9223372036854775807) (h5 : elSize te.size ys = true) : okA te n ys = true := by
  simp only [okA, Bool.and_eq_true]
  exact ⟨⟨⟨⟨Nat.ble_eq_true_of_le h1, Nat.ble_eq_true_of_le h2⟩, h3⟩, Nat.ble_eq_true_of_le h4⟩, h5⟩
theorem plain32_ok : ∀ e : Expr, plOK e → Pure PG 32 [e.emb, .fn (.func 91) [] []] (plainE e).emb := by
  refine Expr.ind fun e ih hs => ?_
  rw [plOK_eq] at hs
  obtain ⟨hs, hcs, hks⟩ := hs
  have hre := plainE_eq e
  refine enterP (f := 32) (fn := Tryz.f32) rfl rfl (by decide) (by simp [Tryz.f32]) ?_ ?_ ?_
  · intro y hy; rcases List.mem_cons.1 hy with rfl | hy
    · exact emb_bel 0 e
    · simp only [List.mem_singleton] at hy; subst hy; exact fn_bel rfl
  · exact emb_bel 0 _
  generalize hR : (plainE e).emb = R
  have hw := Expr.w_eq ⟨e.op, e.name, e.n, e.cons, e.kids.map plainE⟩
  have hlen := length_ws (e.kids.map plainE)
  simp only [List.length_map] at hw hlen
  have hs0 := hs
  unfold lim at hs
  rw [Expr.emb_eq e]
  simp only [bodyOf, Tryz.f32]
  (repeat (first | refine V_seq ?_ | refine V_block ?_ | (refine goR ?_; simp only [go_sem, Nat.reduceBEq, Nat.reduceAdd, Nat.reduceSub, Nat.reduceMul, Nat.reduceLeDiff, Nat.reduceEqDiff, Nat.reduceLT, reduceIte, reduceCtorEq]) | (refine goD rfl ?_; simp only [go_sem, Nat.reduceBEq, Nat.reduceAdd, Nat.reduceSub, Nat.reduceMul, Nat.reduceLeDiff, Nat.reduceEqDiff, Nat.reduceLT, reduceIte, reduceCtorEq]) | (refine V_skip ?_; simp only [go_sem, Nat.reduceBEq, Nat.reduceAdd, Nat.reduceSub, Nat.reduceMul, Nat.reduceLeDiff, Nat.reduceEqDiff, Nat.reduceLT, reduceIte, reduceCtorEq]) | (refine V_cond ?_; simp only [go_sem, Nat.reduceBEq, Nat.reduceAdd, Nat.reduceSub, Nat.reduceMul, Nat.reduceLeDiff, Nat.reduceEqDiff, Nat.reduceLT, reduceIte, reduceCtorEq]) | (refine V_exit ?_; simp only [go_sem, Nat.reduceBEq, Nat.reduceAdd, Nat.reduceSub, Nat.reduceMul, Nat.reduceLeDiff, Nat.reduceEqDiff, Nat.reduceLT, reduceIte, reduceCtorEq])))
  refine CallP_pure (clone_strs e.cons (by unfold lim; omega)) (Wks.refl _) ?_
  (refine goW ?_; simp only [go_sem, Nat.reduceBEq, Nat.reduceAdd, Nat.reduceSub, Nat.reduceMul, Nat.reduceLeDiff, Nat.reduceEqDiff, Nat.reduceLT, reduceIte, reduceCtorEq])
  (repeat (first | refine V_seq ?_ | refine V_block ?_ | (refine goR ?_; simp only [go_sem, Nat.reduceBEq, Nat.reduceAdd, Nat.reduceSub, Nat.reduceMul, Nat.reduceLeDiff, Nat.reduceEqDiff, Nat.reduceLT, reduceIte, reduceCtorEq]) | (refine goD rfl ?_; simp only [go_sem, Nat.reduceBEq, Nat.reduceAdd, Nat.reduceSub, Nat.reduceMul, Nat.reduceLeDiff, Nat.reduceEqDiff, Nat.reduceLT, reduceIte, reduceCtorEq]) | (refine V_skip ?_; simp only [go_sem, Nat.reduceBEq, Nat.reduceAdd, Nat.reduceSub, Nat.reduceMul, Nat.reduceLeDiff, Nat.reduceEqDiff, Nat.reduceLT, reduceIte, reduceCtorEq]) | (refine V_cond ?_; simp only [go_sem, Nat.reduceBEq, Nat.reduceAdd, Nat.reduceSub, Nat.reduceMul, Nat.reduceLeDiff, Nat.reduceEqDiff, Nat.reduceLT, reduceIte, reduceCtorEq]) | (refine V_exit ?_; simp only [go_sem, Nat.reduceBEq, Nat.reduceAdd, Nat.reduceSub, Nat.reduceMul, Nat.reduceLeDiff, Nat.reduceEqDiff, Nat.reduceLT, reduceIte, reduceCtorEq])))
  refine V_loop (e.kids.length + 1) ?_
  cases hkk : e.kids with
  | nil =>
    refine Vr_for 0 (fun _ => True) (fun _ => _) (fun _ => _) trivial (fun i hi => absurd hi (by omega)) fun _ n => ?_
    have h1 : ((0 : Int) < ((0 : Nat) : Int)) = False := eq_false (by omega)
    (repeat (first | refine V_seq ?_ | refine V_block ?_ | (refine goR ?_; simp only [go_sem, Nat.reduceBEq, Nat.reduceAdd, Nat.reduceSub, Nat.reduceMul, Nat.reduceLeDiff, Nat.reduceEqDiff, Nat.reduceLT, reduceIte, reduceCtorEq, h1, hkk]) | (refine goD rfl ?_; simp only [go_sem, Nat.reduceBEq, Nat.reduceAdd, Nat.reduceSub, Nat.reduceMul, Nat.reduceLeDiff, Nat.reduceEqDiff, Nat.reduceLT, reduceIte, reduceCtorEq, h1, hkk]) | (refine V_skip ?_; simp only [go_sem, Nat.reduceBEq, Nat.reduceAdd, Nat.reduceSub, Nat.reduceMul, Nat.reduceLeDiff, Nat.reduceEqDiff, Nat.reduceLT, reduceIte, reduceCtorEq, h1, hkk]) | (refine V_cond ?_; simp only [go_sem, Nat.reduceBEq, Nat.reduceAdd, Nat.reduceSub, Nat.reduceMul, Nat.reduceLeDiff, Nat.reduceEqDiff, Nat.reduceLT, reduceIte, reduceCtorEq, h1, hkk]) | (refine V_exit ?_; simp only [go_sem, Nat.reduceBEq, Nat.reduceAdd, Nat.reduceSub, Nat.reduceMul, Nat.reduceLeDiff, Nat.reduceEqDiff, Nat.reduceLT, reduceIte, reduceCtorEq, h1, hkk])))
    have hres : R = .agg [.int .i64 (if e.op = 13 then 12 else e.op), .str e.name, .int .i64 e.n, strs e.cons, exprs []] := by
      rw [← hR, hre, plainTurn, hkk]
      by_cases hop : e.op = 13
      · rw [if_pos hop, if_pos hop, Expr.emb_eq]
        cases e.cons <;> rfl
      · rw [if_neg hop, if_neg hop, Expr.emb_eq]; rfl
    refine CallP_pure (turn_nil e.op e.name e.n e.cons) (by simp only [go_sem, Nat.reduceBEq, Nat.reduceAdd, Nat.reduceSub, Nat.reduceMul, Nat.reduceLeDiff, Nat.reduceEqDiff, Nat.reduceLT, reduceIte, reduceCtorEq]) ?_
    (refine goW ?_; simp only [go_sem, Nat.reduceBEq, Nat.reduceAdd, Nat.reduceSub, Nat.reduceMul, Nat.reduceLeDiff, Nat.reduceEqDiff, Nat.reduceLT, reduceIte, reduceCtorEq])
    (repeat (first | refine V_seq ?_ | refine V_block ?_ | (refine goR ?_; simp only [go_sem, Nat.reduceBEq, Nat.reduceAdd, Nat.reduceSub, Nat.reduceMul, Nat.reduceLeDiff, Nat.reduceEqDiff, Nat.reduceLT, reduceIte, reduceCtorEq]) | (refine goD rfl ?_; simp only [go_sem, Nat.reduceBEq, Nat.reduceAdd, Nat.reduceSub, Nat.reduceMul, Nat.reduceLeDiff, Nat.reduceEqDiff, Nat.reduceLT, reduceIte, reduceCtorEq]) | (refine V_skip ?_; simp only [go_sem, Nat.reduceBEq, Nat.reduceAdd, Nat.reduceSub, Nat.reduceMul, Nat.reduceLeDiff, Nat.reduceEqDiff, Nat.reduceLT, reduceIte, reduceCtorEq]) | (refine V_cond ?_; simp only [go_sem, Nat.reduceBEq, Nat.reduceAdd, Nat.reduceSub, Nat.reduceMul, Nat.reduceLeDiff, Nat.reduceEqDiff, Nat.reduceLT, reduceIte, reduceCtorEq]) | (refine V_exit ?_; simp only [go_sem, Nat.reduceBEq, Nat.reduceAdd, Nat.reduceSub, Nat.reduceMul, Nat.reduceLeDiff, Nat.reduceEqDiff, Nat.reduceLT, reduceIte, reduceCtorEq])))
    (refine V_ret ?_; (try simp only [Vthen_r, Vblock_r]); refine EndQ_pure trivial ?_; simp only [go_sem, Nat.reduceBEq, Nat.reduceAdd, Nat.reduceSub, Nat.reduceMul, Nat.reduceLeDiff, Nat.reduceEqDiff, Nat.reduceLT, reduceIte, reduceCtorEq, hres])
  | cons k0 kr =>
  rw [← hkk]
  have hlk : 0 < e.kids.length := by rw [hkk]; simp
  refine Vr_head [(0, 0), (1, 1)] [(15, .int .i64 0), (14, .int .i64 (e.kids.length : Int)), (13, exprs e.kids), (5, .sl .nil []), (4, .ptr 1 0), (2, .ptr 0 0), (1, .fn (.func 91) [] [])] ⟨2, [(1, .cells [.int .i64 0, .str [], .int .i64 0, .sl .nil [], .sl .nil []]), (0, .cells [.int .i64 e.op, .str e.name, .int .i64 e.n, strs e.cons, exprs e.kids])], 0⟩ rfl (by simp only [go_sem, Nat.reduceBEq, Nat.reduceAdd, Nat.reduceSub, Nat.reduceMul, Nat.reduceLeDiff, Nat.reduceEqDiff, Nat.reduceLT, reduceIte, reduceCtorEq]) (by simp only [go_sem, Nat.reduceBEq, Nat.reduceAdd, Nat.reduceSub, Nat.reduceMul, Nat.reduceLeDiff, Nat.reduceEqDiff, Nat.reduceLT, reduceIte, reduceCtorEq]) ?_
  refine Vr_fora e.kids.length (fun i a => 0 < i → i ≤ a) (fun i a => [(15, .int .i64 (i : Int)), (14, .int .i64 (e.kids.length : Int)), (13, exprs e.kids), (5, match i with | 0 => .sl .nil [] | i + 1 => .osl 2 (i + 1) a), (4, .ptr 1 0), (2, .ptr 0 0), (1, .fn (.func 91) [] [])])
    (fun i a => match i with
      | 0 => ⟨2, [(1, .cells [.int .i64 0, .str [], .int .i64 0, .sl .nil [], .sl .nil []]), (0, .cells [.int .i64 e.op, .str e.name, .int .i64 e.n, strs e.cons, exprs e.kids])], 0⟩
      | i + 1 => ⟨3, [(2, .cells (rw32 ((e.kids.take (i + 1)).map plainE) a)), (1, .cells [.int .i64 0, .str [], .int .i64 0, .sl .nil [], .sl .nil []]), (0, .cells [.int .i64 e.op, .str e.name, .int .i64 e.n, strs e.cons, exprs e.kids])], 0⟩) 0 (fun h => absurd h (by omega)) ?_ ?_
  · intro i hi a ha n hn
    have hk : (e.kids.map Expr.emb)[i]? = some (e.kids[i]).emb := by simp [hi]
    have h1 : ((i : Int) < (e.kids.length : Int)) = True := eq_true (by omega)
    have hmem : e.kids[i] ∈ e.kids := List.getElem_mem hi
    have w1 : wr .i64 ((i : Int) + 1) = ((i + 1 : Nat) : Int) := wr_nat (by omega) (by omega)
    have ht : e.kids.take (i + 1) = e.kids.take i ++ [e.kids[i]] := (List.take_append_getElem hi).symm
    have hle : (e.kids.take i).length = i := by rw [List.length_take]; omega
    cases i with
    | zero =>
      dsimp only
      (repeat (first | refine V_seq ?_ | refine V_block ?_ | (refine goR ?_; simp only [go_sem, Nat.reduceBEq, Nat.reduceAdd, Nat.reduceSub, Nat.reduceMul, Nat.reduceLeDiff, Nat.reduceEqDiff, Nat.reduceLT, reduceIte, reduceCtorEq, h1, hk, emb_cells, emb_flat, Expr.emb_eq]) | (refine goD rfl ?_; simp only [go_sem, Nat.reduceBEq, Nat.reduceAdd, Nat.reduceSub, Nat.reduceMul, Nat.reduceLeDiff, Nat.reduceEqDiff, Nat.reduceLT, reduceIte, reduceCtorEq, h1, hk, emb_cells, emb_flat, Expr.emb_eq]) | (refine V_skip ?_; simp only [go_sem, Nat.reduceBEq, Nat.reduceAdd, Nat.reduceSub, Nat.reduceMul, Nat.reduceLeDiff, Nat.reduceEqDiff, Nat.reduceLT, reduceIte, reduceCtorEq, h1, hk, emb_cells, emb_flat, Expr.emb_eq]) | (refine V_cond ?_; simp only [go_sem, Nat.reduceBEq, Nat.reduceAdd, Nat.reduceSub, Nat.reduceMul, Nat.reduceLeDiff, Nat.reduceEqDiff, Nat.reduceLT, reduceIte, reduceCtorEq, h1, hk, emb_cells, emb_flat, Expr.emb_eq]) | (refine V_exit ?_; simp only [go_sem, Nat.reduceBEq, Nat.reduceAdd, Nat.reduceSub, Nat.reduceMul, Nat.reduceLeDiff, Nat.reduceEqDiff, Nat.reduceLT, reduceIte, reduceCtorEq, h1, hk, emb_cells, emb_flat, Expr.emb_eq])))
      refine CallP_pure (ih _ hmem (hks _ hmem)) (by rw [Expr.emb_eq]; exact Wks.refl _) ?_
      rw [Expr.emb_eq (plainE e.kids[0])]
      refine WL_one ty_ok rfl (v := .sl .full [.agg [.int .i64 (plainE e.kids[0]).op, .str (plainE e.kids[0]).name, .int .i64 (plainE e.kids[0]).n, strs (plainE e.kids[0]).cons, exprs (plainE e.kids[0]).kids]]) (s' := _) (by simp only [go_sem, Nat.reduceBEq, Nat.reduceAdd, Nat.reduceSub, Nat.reduceMul, Nat.reduceLeDiff, Nat.reduceEqDiff, Nat.reduceLT, reduceIte, reduceCtorEq]; rfl) ?_
      refine WL_append0 ty_ok (ty := 35) (e := 37) rfl rfl ty_35 rfl ty_37 (by simp only [go_sem, Nat.reduceBEq, Nat.reduceAdd, Nat.reduceSub, Nat.reduceMul, Nat.reduceLeDiff, Nat.reduceEqDiff, Nat.reduceLT, reduceIte, reduceCtorEq]) rfl rfl fun cap hcap => ?_
      (refine goW ?_; simp only [go_sem, Nat.reduceBEq, Nat.reduceAdd, Nat.reduceSub, Nat.reduceMul, Nat.reduceLeDiff, Nat.reduceEqDiff, Nat.reduceLT, reduceIte, reduceCtorEq])
      (repeat (first | refine V_seq ?_ | refine V_block ?_ | (refine goR ?_; simp only [go_sem, Nat.reduceBEq, Nat.reduceAdd, Nat.reduceSub, Nat.reduceMul, Nat.reduceLeDiff, Nat.reduceEqDiff, Nat.reduceLT, reduceIte, reduceCtorEq, w1]) | (refine goD rfl ?_; simp only [go_sem, Nat.reduceBEq, Nat.reduceAdd, Nat.reduceSub, Nat.reduceMul, Nat.reduceLeDiff, Nat.reduceEqDiff, Nat.reduceLT, reduceIte, reduceCtorEq, w1]) | (refine V_skip ?_; simp only [go_sem, Nat.reduceBEq, Nat.reduceAdd, Nat.reduceSub, Nat.reduceMul, Nat.reduceLeDiff, Nat.reduceEqDiff, Nat.reduceLT, reduceIte, reduceCtorEq, w1]) | (refine V_cond ?_; simp only [go_sem, Nat.reduceBEq, Nat.reduceAdd, Nat.reduceSub, Nat.reduceMul, Nat.reduceLeDiff, Nat.reduceEqDiff, Nat.reduceLT, reduceIte, reduceCtorEq, w1]) | (refine V_exit ?_; simp only [go_sem, Nat.reduceBEq, Nat.reduceAdd, Nat.reduceSub, Nat.reduceMul, Nat.reduceLeDiff, Nat.reduceEqDiff, Nat.reduceLT, reduceIte, reduceCtorEq, w1])))
      have hbk : ∀ gl, bkL gl (rw32 ((e.kids.take 1).map plainE) cap) = some (rw32 ((e.kids.take 1).map plainE) cap) := fun gl => bkL_flat (rw32_flat _ _)
      have hbe : ∀ n, (rw32 ((e.kids.take 1).map plainE) cap).all (bel0 n) = true := fun n => bel0s_flat (rw32_flat _ _)
      have hb1 : ∀ n, (rw32 ((e.kids.take 1).map plainE) cap).all (bel1 n) = true := fun n => bel1s_flat (rw32_flat _ _)
      have hrow : rw32 ((e.kids.take 1).map plainE) cap = List.flatMap AV.cells [(plainE e.kids[0]).emb] ++ List.replicate ((cap - 1) * 5) AV.any := by
        have ht : e.kids.take 1 = [e.kids[0]] := by simpa using ht
        rw [ht]; simp [rw32, fe]
      refine Vr_head [(0, 0), (1, 1), (2, 3)] _ _ rfl (by simp only [go_sem, Nat.reduceBEq, Nat.reduceAdd, Nat.reduceSub, Nat.reduceMul, Nat.reduceLeDiff, Nat.reduceEqDiff, Nat.reduceLT, reduceIte, reduceCtorEq, hbk, hbe]) ?_ (hn cap (fun _ => hcap))
      simp only [go_sem, Nat.reduceBEq, Nat.reduceAdd, Nat.reduceSub, Nat.reduceMul, Nat.reduceLeDiff, Nat.reduceEqDiff, Nat.reduceLT, reduceIte, reduceCtorEq, hbk, hbe, hb1]
      rw [hrow, Expr.emb_eq]
      exact Wks.refl _
    | succ i =>
      dsimp only
      have ha := ha (by omega)
      have hlk1 : ((e.kids.take (i + 1)).map plainE).length = i + 1 := by rw [List.length_map]; exact hle
      have hrw : rw32 ((e.kids.take (i + 1)).map plainE) a = fe ((e.kids.take (i + 1)).map plainE) ++ List.replicate ((a - (i + 1)) * 5) AV.any := by rw [rw32, hlk1]
      have hnext : ∀ cap, rw32 ((e.kids.take (i + 1 + 1)).map plainE) cap = fe ((e.kids.take (i + 1)).map plainE) ++ List.flatMap AV.cells [(plainE e.kids[i + 1]).emb] ++ List.replicate ((cap - (i + 1 + 1)) * 5) AV.any := fun cap => by
        rw [ht, List.map_append, rw32, fe_append, List.length_append, hlk1]
        simp [fe]
      have hbk : ∀ gl cap, bkL gl (rw32 ((e.kids.take (i + 1 + 1)).map plainE) cap) = some (rw32 ((e.kids.take (i + 1 + 1)).map plainE) cap) := fun gl cap => bkL_flat (rw32_flat _ _)
      have hbe : ∀ n cap, (rw32 ((e.kids.take (i + 1 + 1)).map plainE) cap).all (bel0 n) = true := fun n cap => bel0s_flat (rw32_flat _ _)
      have hb1 : ∀ n cap, (rw32 ((e.kids.take (i + 1 + 1)).map plainE) cap).all (bel1 n) = true := fun n cap => bel1s_flat (rw32_flat _ _)
      (repeat (first | refine V_seq ?_ | refine V_block ?_ | (refine goR ?_; simp only [go_sem, Nat.reduceBEq, Nat.reduceAdd, Nat.reduceSub, Nat.reduceMul, Nat.reduceLeDiff, Nat.reduceEqDiff, Nat.reduceLT, reduceIte, reduceCtorEq, h1, hk, emb_cells, emb_flat, Expr.emb_eq]) | (refine goD rfl ?_; simp only [go_sem, Nat.reduceBEq, Nat.reduceAdd, Nat.reduceSub, Nat.reduceMul, Nat.reduceLeDiff, Nat.reduceEqDiff, Nat.reduceLT, reduceIte, reduceCtorEq, h1, hk, emb_cells, emb_flat, Expr.emb_eq]) | (refine V_skip ?_; simp only [go_sem, Nat.reduceBEq, Nat.reduceAdd, Nat.reduceSub, Nat.reduceMul, Nat.reduceLeDiff, Nat.reduceEqDiff, Nat.reduceLT, reduceIte, reduceCtorEq, h1, hk, emb_cells, emb_flat, Expr.emb_eq]) | (refine V_cond ?_; simp only [go_sem, Nat.reduceBEq, Nat.reduceAdd, Nat.reduceSub, Nat.reduceMul, Nat.reduceLeDiff, Nat.reduceEqDiff, Nat.reduceLT, reduceIte, reduceCtorEq, h1, hk, emb_cells, emb_flat, Expr.emb_eq]) | (refine V_exit ?_; simp only [go_sem, Nat.reduceBEq, Nat.reduceAdd, Nat.reduceSub, Nat.reduceMul, Nat.reduceLeDiff, Nat.reduceEqDiff, Nat.reduceLT, reduceIte, reduceCtorEq, h1, hk, emb_cells, emb_flat, Expr.emb_eq])))
      refine CallP_pure (ih _ hmem (hks _ hmem)) (by rw [Expr.emb_eq]; exact Wks.refl _) ?_
      rw [Expr.emb_eq (plainE e.kids[i + 1])]
      refine WL_one ty_ok rfl (v := .sl .full [.agg [.int .i64 (plainE e.kids[i + 1]).op, .str (plainE e.kids[i + 1]).name, .int .i64 (plainE e.kids[i + 1]).n, strs (plainE e.kids[i + 1]).cons, exprs (plainE e.kids[i + 1]).kids]]) (s' := _) (by simp only [go_sem, Nat.reduceBEq, Nat.reduceAdd, Nat.reduceSub, Nat.reduceMul, Nat.reduceLeDiff, Nat.reduceEqDiff, Nat.reduceLT, reduceIte, reduceCtorEq]; rfl) ?_
      refine WL_append1 ty_ok (ty := 35) (e := 37) (id := 2) (n := i + 1) (cap := a) (cs := fe ((e.kids.take (i + 1)).map plainE)) rfl rfl ty_35 rfl ty_37 (by simp only [go_sem, Nat.reduceBEq, Nat.reduceAdd, Nat.reduceSub, Nat.reduceMul, Nat.reduceLeDiff, Nat.reduceEqDiff, Nat.reduceLT, reduceIte, reduceCtorEq]) (by simp only [go_sem, Nat.reduceBEq, Nat.reduceAdd, Nat.reduceSub, Nat.reduceMul, Nat.reduceLeDiff, Nat.reduceEqDiff, Nat.reduceLT, reduceIte, reduceCtorEq, hrw]) (by rw [fe_length, hlk1]) rfl ?_ ?_ ?_
      · exact okA_of (by simp only [List.length_cons, List.length_nil]; omega) (by decide) rfl (by simp only [List.length_cons, List.length_nil]; omega) rfl
      · intro hroom
        (refine goW ?_; simp only [go_sem, Nat.reduceBEq, Nat.reduceAdd, Nat.reduceSub, Nat.reduceMul, Nat.reduceLeDiff, Nat.reduceEqDiff, Nat.reduceLT, reduceIte, reduceCtorEq])
        (repeat (first | refine V_seq ?_ | refine V_block ?_ | (refine goR ?_; simp only [go_sem, Nat.reduceBEq, Nat.reduceAdd, Nat.reduceSub, Nat.reduceMul, Nat.reduceLeDiff, Nat.reduceEqDiff, Nat.reduceLT, reduceIte, reduceCtorEq, w1]) | (refine goD rfl ?_; simp only [go_sem, Nat.reduceBEq, Nat.reduceAdd, Nat.reduceSub, Nat.reduceMul, Nat.reduceLeDiff, Nat.reduceEqDiff, Nat.reduceLT, reduceIte, reduceCtorEq, w1]) | (refine V_skip ?_; simp only [go_sem, Nat.reduceBEq, Nat.reduceAdd, Nat.reduceSub, Nat.reduceMul, Nat.reduceLeDiff, Nat.reduceEqDiff, Nat.reduceLT, reduceIte, reduceCtorEq, w1]) | (refine V_cond ?_; simp only [go_sem, Nat.reduceBEq, Nat.reduceAdd, Nat.reduceSub, Nat.reduceMul, Nat.reduceLeDiff, Nat.reduceEqDiff, Nat.reduceLT, reduceIte, reduceCtorEq, w1]) | (refine V_exit ?_; simp only [go_sem, Nat.reduceBEq, Nat.reduceAdd, Nat.reduceSub, Nat.reduceMul, Nat.reduceLeDiff, Nat.reduceEqDiff, Nat.reduceLT, reduceIte, reduceCtorEq, w1])))
        refine Vr_head [(0, 0), (1, 1), (2, 2)] _ _ rfl (by simp only [go_sem, Nat.reduceBEq, Nat.reduceAdd, Nat.reduceSub, Nat.reduceMul, Nat.reduceLeDiff, Nat.reduceEqDiff, Nat.reduceLT, reduceIte, reduceCtorEq, hbk, hbe]) ?_ (hn a (fun _ => hroom))
        simp only [go_sem, Nat.reduceBEq, Nat.reduceAdd, Nat.reduceSub, Nat.reduceMul, Nat.reduceLeDiff, Nat.reduceEqDiff, Nat.reduceLT, reduceIte, reduceCtorEq, hbk, hbe, hb1]
        rw [hnext, Expr.emb_eq]
        exact Wks.refl _
      · intro cap' hcap
        (refine goW ?_; simp only [go_sem, Nat.reduceBEq, Nat.reduceAdd, Nat.reduceSub, Nat.reduceMul, Nat.reduceLeDiff, Nat.reduceEqDiff, Nat.reduceLT, reduceIte, reduceCtorEq])
        (repeat (first | refine V_seq ?_ | refine V_block ?_ | (refine goR ?_; simp only [go_sem, Nat.reduceBEq, Nat.reduceAdd, Nat.reduceSub, Nat.reduceMul, Nat.reduceLeDiff, Nat.reduceEqDiff, Nat.reduceLT, reduceIte, reduceCtorEq, w1]) | (refine goD rfl ?_; simp only [go_sem, Nat.reduceBEq, Nat.reduceAdd, Nat.reduceSub, Nat.reduceMul, Nat.reduceLeDiff, Nat.reduceEqDiff, Nat.reduceLT, reduceIte, reduceCtorEq, w1]) | (refine V_skip ?_; simp only [go_sem, Nat.reduceBEq, Nat.reduceAdd, Nat.reduceSub, Nat.reduceMul, Nat.reduceLeDiff, Nat.reduceEqDiff, Nat.reduceLT, reduceIte, reduceCtorEq, w1]) | (refine V_cond ?_; simp only [go_sem, Nat.reduceBEq, Nat.reduceAdd, Nat.reduceSub, Nat.reduceMul, Nat.reduceLeDiff, Nat.reduceEqDiff, Nat.reduceLT, reduceIte, reduceCtorEq, w1]) | (refine V_exit ?_; simp only [go_sem, Nat.reduceBEq, Nat.reduceAdd, Nat.reduceSub, Nat.reduceMul, Nat.reduceLeDiff, Nat.reduceEqDiff, Nat.reduceLT, reduceIte, reduceCtorEq, w1])))
        refine Vr_head [(0, 0), (1, 1), (2, 4)] _ _ rfl (by simp only [go_sem, Nat.reduceBEq, Nat.reduceAdd, Nat.reduceSub, Nat.reduceMul, Nat.reduceLeDiff, Nat.reduceEqDiff, Nat.reduceLT, reduceIte, reduceCtorEq, hbk, hbe]) ?_ (hn cap' (fun _ => hcap))
        simp only [go_sem, Nat.reduceBEq, Nat.reduceAdd, Nat.reduceSub, Nat.reduceMul, Nat.reduceLeDiff, Nat.reduceEqDiff, Nat.reduceLT, reduceIte, reduceCtorEq, hbk, hbe, hb1]
        rw [hnext, Expr.emb_eq]
        exact Wks.refl _
  · intro a ha n
    have ha := ha hlk
    obtain ⟨m, hm⟩ : ∃ m, e.kids.length = m + 1 := ⟨e.kids.length - 1, by omega⟩
    have htk : e.kids.take (m + 1) = e.kids := by rw [← hm]; exact List.take_length
    have h1 : (((m + 1 : Nat) : Int) < ((m + 1 : Nat) : Int)) = False := eq_false (by omega)
    rw [hm]
    dsimp only
    rw [htk]
    (repeat (first | refine V_seq ?_ | refine V_block ?_ | (refine goR ?_; simp only [go_sem, Nat.reduceBEq, Nat.reduceAdd, Nat.reduceSub, Nat.reduceMul, Nat.reduceLeDiff, Nat.reduceEqDiff, Nat.reduceLT, reduceIte, reduceCtorEq, h1]) | (refine goD rfl ?_; simp only [go_sem, Nat.reduceBEq, Nat.reduceAdd, Nat.reduceSub, Nat.reduceMul, Nat.reduceLeDiff, Nat.reduceEqDiff, Nat.reduceLT, reduceIte, reduceCtorEq, h1]) | (refine V_skip ?_; simp only [go_sem, Nat.reduceBEq, Nat.reduceAdd, Nat.reduceSub, Nat.reduceMul, Nat.reduceLeDiff, Nat.reduceEqDiff, Nat.reduceLT, reduceIte, reduceCtorEq, h1]) | (refine V_cond ?_; simp only [go_sem, Nat.reduceBEq, Nat.reduceAdd, Nat.reduceSub, Nat.reduceMul, Nat.reduceLeDiff, Nat.reduceEqDiff, Nat.reduceLT, reduceIte, reduceCtorEq, h1]) | (refine V_exit ?_; simp only [go_sem, Nat.reduceBEq, Nat.reduceAdd, Nat.reduceSub, Nat.reduceMul, Nat.reduceLeDiff, Nat.reduceEqDiff, Nat.reduceLT, reduceIte, reduceCtorEq, h1])))
    have hrep : ∀ k, (List.replicate k AV.any).all AV.flat1 = true := fun k => List.all_eq_true.2 fun x hx => by rw [(List.mem_replicate.1 hx).2]; rfl
    have hrw : rw32 (List.map plainE e.kids) a = fe (List.map plainE e.kids) ++ List.replicate ((a - (m + 1)) * 5) AV.any := by rw [rw32, List.length_map, hm]
    have hend : ∀ (A : List Expr), A.length = m + 1 → (List.map Expr.emb A).length = m + 1 := fun A h => by rw [List.length_map, h]
    by_cases hop : e.op = 13
    · have D := turn_osl ⟨e.op, e.name, e.n, e.cons, e.kids.map plainE⟩ a (List.replicate ((a - (m + 1)) * 5) AV.any) (hrep _) hop hs0 (by rw [List.length_map]; exact hcs hop)
      have hA := armsOf_length e.name e.cons (e.kids.map plainE)
      simp only [rowOf_0, rowOf_n _ _ _ hA] at D
      simp only [List.length_map, hm] at D hA
      rw [← hrw] at D
      refine CallP_of D (by simp only [go_sem, Nat.reduceBEq, Nat.reduceAdd, Nat.reduceSub, Nat.reduceMul, Nat.reduceLeDiff, Nat.reduceEqDiff, Nat.reduceLT, reduceIte, reduceCtorEq]) ?_
      generalize hAe : armsOf e.name e.cons (e.kids.map plainE) = A at D hA ⊢
      have hres : R = .agg [.int .i64 12, .str e.name, .int .i64 e.n, strs e.cons, exprs A] := by
        rw [← hR, hre, plainTurn, if_pos hop, Expr.emb_eq, hAe]
      refine WL_freeze 2 (A.map Expr.emb) (List.replicate ((a - (m + 1)) * 5) AV.any) 5 rfl (by rw [List.all_append]; exact Bool.and_eq_true_iff.2 ⟨fe_flat A, hrep _⟩) (fun x hx => by obtain ⟨q, _, rfl⟩ := List.mem_map.1 hx; exact ⟨emb_cells q, emb_flat q⟩) ?_
      (refine goW ?_; simp only [go_sem, Nat.reduceBEq, Nat.reduceAdd, Nat.reduceSub, Nat.reduceMul, Nat.reduceLeDiff, Nat.reduceEqDiff, Nat.reduceLT, reduceIte, reduceCtorEq, fzs, fzs1, hA])
      (repeat (first | refine V_seq ?_ | refine V_block ?_ | (refine goR ?_; simp only [go_sem, Nat.reduceBEq, Nat.reduceAdd, Nat.reduceSub, Nat.reduceMul, Nat.reduceLeDiff, Nat.reduceEqDiff, Nat.reduceLT, reduceIte, reduceCtorEq]) | (refine goD rfl ?_; simp only [go_sem, Nat.reduceBEq, Nat.reduceAdd, Nat.reduceSub, Nat.reduceMul, Nat.reduceLeDiff, Nat.reduceEqDiff, Nat.reduceLT, reduceIte, reduceCtorEq]) | (refine V_skip ?_; simp only [go_sem, Nat.reduceBEq, Nat.reduceAdd, Nat.reduceSub, Nat.reduceMul, Nat.reduceLeDiff, Nat.reduceEqDiff, Nat.reduceLT, reduceIte, reduceCtorEq]) | (refine V_cond ?_; simp only [go_sem, Nat.reduceBEq, Nat.reduceAdd, Nat.reduceSub, Nat.reduceMul, Nat.reduceLeDiff, Nat.reduceEqDiff, Nat.reduceLT, reduceIte, reduceCtorEq]) | (refine V_exit ?_; simp only [go_sem, Nat.reduceBEq, Nat.reduceAdd, Nat.reduceSub, Nat.reduceMul, Nat.reduceLeDiff, Nat.reduceEqDiff, Nat.reduceLT, reduceIte, reduceCtorEq])))
      (refine V_ret ?_; (try simp only [Vthen_r, Vblock_r]); refine EndQ_pure trivial ?_; simp only [go_sem, Nat.reduceBEq, Nat.reduceAdd, Nat.reduceSub, Nat.reduceMul, Nat.reduceLeDiff, Nat.reduceEqDiff, Nat.reduceLT, reduceIte, reduceCtorEq, hres])
    · have D := turn_osl_no ⟨e.op, e.name, e.n, e.cons, e.kids.map plainE⟩ a (rw32 (e.kids.map plainE) a) (rw32_flat _ _) hop
      simp only [List.length_map, hm] at D
      have hA : (e.kids.map plainE).length = m + 1 := by rw [List.length_map, hm]
      have hres : R = .agg [.int .i64 e.op, .str e.name, .int .i64 e.n, strs e.cons, exprs (e.kids.map plainE)] := by
        rw [← hR, hre, plainTurn, if_neg hop, Expr.emb_eq]
      refine CallP_of D (by simp only [go_sem, Nat.reduceBEq, Nat.reduceAdd, Nat.reduceSub, Nat.reduceMul, Nat.reduceLeDiff, Nat.reduceEqDiff, Nat.reduceLT, reduceIte, reduceCtorEq]) ?_
      rw [hrw]
      generalize e.kids.map plainE = A at hA hres ⊢
      refine WL_freeze 2 (A.map Expr.emb) (List.replicate ((a - (m + 1)) * 5) AV.any) 5 rfl (by rw [List.all_append]; exact Bool.and_eq_true_iff.2 ⟨fe_flat A, hrep _⟩) (fun x hx => by obtain ⟨q, _, rfl⟩ := List.mem_map.1 hx; exact ⟨emb_cells q, emb_flat q⟩) ?_
      (refine goW ?_; simp only [go_sem, Nat.reduceBEq, Nat.reduceAdd, Nat.reduceSub, Nat.reduceMul, Nat.reduceLeDiff, Nat.reduceEqDiff, Nat.reduceLT, reduceIte, reduceCtorEq, fzs, fzs1, hA])
      (repeat (first | refine V_seq ?_ | refine V_block ?_ | (refine goR ?_; simp only [go_sem, Nat.reduceBEq, Nat.reduceAdd, Nat.reduceSub, Nat.reduceMul, Nat.reduceLeDiff, Nat.reduceEqDiff, Nat.reduceLT, reduceIte, reduceCtorEq]) | (refine goD rfl ?_; simp only [go_sem, Nat.reduceBEq, Nat.reduceAdd, Nat.reduceSub, Nat.reduceMul, Nat.reduceLeDiff, Nat.reduceEqDiff, Nat.reduceLT, reduceIte, reduceCtorEq]) | (refine V_skip ?_; simp only [go_sem, Nat.reduceBEq, Nat.reduceAdd, Nat.reduceSub, Nat.reduceMul, Nat.reduceLeDiff, Nat.reduceEqDiff, Nat.reduceLT, reduceIte, reduceCtorEq]) | (refine V_cond ?_; simp only [go_sem, Nat.reduceBEq, Nat.reduceAdd, Nat.reduceSub, Nat.reduceMul, Nat.reduceLeDiff, Nat.reduceEqDiff, Nat.reduceLT, reduceIte, reduceCtorEq]) | (refine V_exit ?_; simp only [go_sem, Nat.reduceBEq, Nat.reduceAdd, Nat.reduceSub, Nat.reduceMul, Nat.reduceLeDiff, Nat.reduceEqDiff, Nat.reduceLT, reduceIte, reduceCtorEq])))
      (refine V_ret ?_; (try simp only [Vthen_r, Vblock_r]); refine EndQ_pure trivial ?_; simp only [go_sem, Nat.reduceBEq, Nat.reduceAdd, Nat.reduceSub, Nat.reduceMul, Nat.reduceLeDiff, Nat.reduceEqDiff, Nat.reduceLT, reduceIte, reduceCtorEq, hres])
/-- what a program without matches has instead -/
theorem plain44_ok (e : Expr) (he : plOK e) : Pure PG 44 [e.emb] (plainE e).emb := by
  refine enterP (f := 44) (fn := Tryz.f44) rfl rfl (by decide) (by simp [Tryz.f44]) ?_ ?_ ?_
  · intro y hy; simp only [List.mem_singleton] at hy; subst hy; exact emb_bel 0 e
  · exact emb_bel 0 _
  generalize hR : (plainE e).emb = R
  have H := plain32_ok e he
  rw [hR] at H
  rw [Expr.emb_eq e] at H ⊢
  have hRe : R = .agg [.int .i64 (plainE e).op, .str (plainE e).name, .int .i64 (plainE e).n, strs (plainE e).cons, exprs (plainE e).kids] := by rw [← hR, Expr.emb_eq]
  rw [hRe] at H ⊢
  simp only [bodyOf, Tryz.f44]
  (repeat (first | refine V_seq ?_ | refine V_block ?_ | (refine goR ?_; simp only [go_sem, Nat.reduceBEq, Nat.reduceAdd, Nat.reduceSub, Nat.reduceMul, Nat.reduceLeDiff, Nat.reduceEqDiff, Nat.reduceLT, reduceIte, reduceCtorEq]) | (refine goD rfl ?_; simp only [go_sem, Nat.reduceBEq, Nat.reduceAdd, Nat.reduceSub, Nat.reduceMul, Nat.reduceLeDiff, Nat.reduceEqDiff, Nat.reduceLT, reduceIte, reduceCtorEq]) | (refine V_skip ?_; simp only [go_sem, Nat.reduceBEq, Nat.reduceAdd, Nat.reduceSub, Nat.reduceMul, Nat.reduceLeDiff, Nat.reduceEqDiff, Nat.reduceLT, reduceIte, reduceCtorEq]) | (refine V_cond ?_; simp only [go_sem, Nat.reduceBEq, Nat.reduceAdd, Nat.reduceSub, Nat.reduceMul, Nat.reduceLeDiff, Nat.reduceEqDiff, Nat.reduceLT, reduceIte, reduceCtorEq]) | (refine V_exit ?_; simp only [go_sem, Nat.reduceBEq, Nat.reduceAdd, Nat.reduceSub, Nat.reduceMul, Nat.reduceLeDiff, Nat.reduceEqDiff, Nat.reduceLT, reduceIte, reduceCtorEq])))
  refine CallP_pure H (by simp only [go_sem, Nat.reduceBEq, Nat.reduceAdd, Nat.reduceSub, Nat.reduceMul, Nat.reduceLeDiff, Nat.reduceEqDiff, Nat.reduceLT, reduceIte, reduceCtorEq]) ?_
  (refine goW ?_; simp only [go_sem, Nat.reduceBEq, Nat.reduceAdd, Nat.reduceSub, Nat.reduceMul, Nat.reduceLeDiff, Nat.reduceEqDiff, Nat.reduceLT, reduceIte, reduceCtorEq])
  (repeat (first | refine V_seq ?_ | refine V_block ?_ | (refine goR ?_; simp only [go_sem, Nat.reduceBEq, Nat.reduceAdd, Nat.reduceSub, Nat.reduceMul, Nat.reduceLeDiff, Nat.reduceEqDiff, Nat.reduceLT, reduceIte, reduceCtorEq]) | (refine goD rfl ?_; simp only [go_sem, Nat.reduceBEq, Nat.reduceAdd, Nat.reduceSub, Nat.reduceMul, Nat.reduceLeDiff, Nat.reduceEqDiff, Nat.reduceLT, reduceIte, reduceCtorEq]) | (refine V_skip ?_; simp only [go_sem, Nat.reduceBEq, Nat.reduceAdd, Nat.reduceSub, Nat.reduceMul, Nat.reduceLeDiff, Nat.reduceEqDiff, Nat.reduceLT, reduceIte, reduceCtorEq]) | (refine V_cond ?_; simp only [go_sem, Nat.reduceBEq, Nat.reduceAdd, Nat.reduceSub, Nat.reduceMul, Nat.reduceLeDiff, Nat.reduceEqDiff, Nat.reduceLT, reduceIte, reduceCtorEq]) | (refine V_exit ?_; simp only [go_sem, Nat.reduceBEq, Nat.reduceAdd, Nat.reduceSub, Nat.reduceMul, Nat.reduceLeDiff, Nat.reduceEqDiff, Nat.reduceLT, reduceIte, reduceCtorEq])))
  (refine V_ret ?_; (try simp only [Vthen_r, Vblock_r]); refine EndQ_pure trivial ?_; simp only [go_sem, Nat.reduceBEq, Nat.reduceAdd, Nat.reduceSub, Nat.reduceMul, Nat.reduceLeDiff, Nat.reduceEqDiff, Nat.reduceLT, reduceIte, reduceCtorEq])
end Go.Sy
