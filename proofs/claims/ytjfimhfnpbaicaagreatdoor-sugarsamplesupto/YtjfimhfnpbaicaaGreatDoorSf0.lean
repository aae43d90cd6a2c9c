/- Lemmas about given functions: sugar.plain (its closure writes its argument's parts in place); conditions in the statements. -/
import Derived.Test.YtjfimhfnpbaicaaGreatDoorSe0
import Derived.Test.YtjfimhfnpbaicaaGreatDoorSd2
import Derived.Test.YtjfimhfnpbaicaaGreatDoorSy29
namespace Go.Sy
open Go.Proofs
set_option linter.unusedSimpArgs false
set_option linter.unusedVariables false
set_option maxRecDepth 100000
theorem bel1s_flat {n : Nat} {l : List AV} (h : l.all AV.flat1 = true) : l.all (bel1 n) = true := List.all_eq_true.2 fun x hx => by
  have h1 := List.all_eq_true.1 h x hx
  have h0 := bel0_flat (n := n) h1
  cases x with
  | fn f fs cs =>
    simp only [AV.flat1, Bool.and_eq_true, List.isEmpty_iff] at h1
    simp [bel1, h1.1, h1.2]
  | agg cs => cases h1
  | ifc t v =>
    cases v <;> first | rfl | cases h1
  | _ => exact h0
theorem aget3 {a b c x : AObj} {i : Nat} (h : aget [(2, a), (1, b), (0, c)] i = some x) : (i = 2 ∧ x = a) ∨ (i = 1 ∧ x = b) ∨ (i = 0 ∧ x = c) := by
  have := aget_mem h
  simp only [List.mem_cons, Prod.mk.injEq, List.not_mem_nil, or_false] at this
  exact this
/-- the closure at a match: its arms are written anew, in place -/
theorem turn_osl (e : Expr) (cap : Nat) (rest : List AV) (hr : rest.all AV.flat1 = true) (hop : e.op = 13) (hs : 3 * e.w ≤ lim) (hc : e.kids.length ≤ e.cons.length) :
    Det PG 91 [.agg [.int .i64 e.op, .str e.name, .int .i64 e.n, strs e.cons, .osl 2 e.kids.length cap]]
      ⟨3, [(2, .cells (rowOf (armsOf e.name e.cons e.kids) e.kids rest 0)), (1, .cells [.int .i64 0, .str [], .int .i64 0, .sl .nil [], .sl .nil []]), (0, .cells [.int .i64 e.op, .str e.name, .int .i64 e.n, strs e.cons, .osl 2 e.kids.length cap])], 0⟩
      (.agg [.int .i64 12, .str e.name, .int .i64 e.n, strs e.cons, .osl 2 e.kids.length cap])
      ⟨3, [(2, .cells (rowOf (armsOf e.name e.cons e.kids) e.kids rest e.kids.length)), (1, .cells [.int .i64 0, .str [], .int .i64 0, .sl .nil [], .sl .nil []]), (0, .cells [.int .i64 e.op, .str e.name, .int .i64 e.n, strs e.cons, .osl 2 e.kids.length cap])], 0⟩ := by
  have hA := armsOf_length e.name e.cons e.kids
  have hget := fun i h => armsOf_get e.name e.cons e.kids i h
  have hload := fun i hi => rowOf_load (armsOf e.name e.cons e.kids) e.kids rest (i := i) hi hA
  have hstore := fun i hi a ha => rowOf_store (armsOf e.name e.cons e.kids) e.kids rest (i := i) hi hA (a := a) ha
  have hrl := fun i hi => rowOf_len (armsOf e.name e.cons e.kids) e.kids rest (i := i) hi hA
  have hfl := rowOf_flat (armsOf e.name e.cons e.kids) e.kids hr
  generalize rowOf (armsOf e.name e.cons e.kids) e.kids rest = R at hload hstore hrl hfl ⊢
  have hbk : ∀ gl i, bkL gl (R i) = some (R i) := fun gl i => bkL_flat (hfl i)
  have hbe : ∀ n i, (R i).all (bel0 n) = true := fun n i => bel0s_flat (hfl i)
  have hb1 : ∀ n i, (R i).all (bel1 n) = true := fun n i => bel1s_flat (hfl i)
  have hlen := length_ws e.kids
  have hw := Expr.w_eq e
  unfold lim at hs
  have hop' : ((e.op : Int) = 13) = True := eq_true (by omega)
  refine enter (f := 91) (fn := Tryz.f91) rfl rfl (by decide) (by simp [Tryz.f91]) ?_
  simp only [bodyOf, Tryz.f91]
  (repeat (first | refine V_seq ?_ | refine V_block ?_ | (refine goR ?_; simp only [go_sem, Nat.reduceBEq, Nat.reduceAdd, Nat.reduceSub, Nat.reduceMul, Nat.reduceLeDiff, Nat.reduceEqDiff, Nat.reduceLT, reduceIte, reduceCtorEq, hop']) | (refine goD rfl ?_; simp only [go_sem, Nat.reduceBEq, Nat.reduceAdd, Nat.reduceSub, Nat.reduceMul, Nat.reduceLeDiff, Nat.reduceEqDiff, Nat.reduceLT, reduceIte, reduceCtorEq, hop']) | (refine V_skip ?_; simp only [go_sem, Nat.reduceBEq, Nat.reduceAdd, Nat.reduceSub, Nat.reduceMul, Nat.reduceLeDiff, Nat.reduceEqDiff, Nat.reduceLT, reduceIte, reduceCtorEq, hop']) | (refine V_cond ?_; simp only [go_sem, Nat.reduceBEq, Nat.reduceAdd, Nat.reduceSub, Nat.reduceMul, Nat.reduceLeDiff, Nat.reduceEqDiff, Nat.reduceLT, reduceIte, reduceCtorEq, hop']) | (refine V_exit ?_; simp only [go_sem, Nat.reduceBEq, Nat.reduceAdd, Nat.reduceSub, Nat.reduceMul, Nat.reduceLeDiff, Nat.reduceEqDiff, Nat.reduceLT, reduceIte, reduceCtorEq, hop'])))
  refine V_loop (e.kids.length + 1) ?_
  refine Vr_head [(0, 0), (1, 1), (2, 2), (3, 3), (4, 4)] [(13, .int .i64 0), (12, .int .i64 (e.kids.length : Int)), (11, .osl 2 e.kids.length cap), (2, .ptr 4 0), (1, .ptr 3 0)]
    ⟨5, [(4, .cells [.int .i64 0, .str [], .int .i64 0, .sl .nil [], .sl .nil []]), (3, .cells [.int .i64 12, .str e.name, .int .i64 e.n, strs e.cons, .osl 2 e.kids.length cap]), (2, .cells (R 0)), (1, .cells [.int .i64 0, .str [], .int .i64 0, .sl .nil [], .sl .nil []]), (0, .cells [.int .i64 e.op, .str e.name, .int .i64 e.n, strs e.cons, .osl 2 e.kids.length cap])], 0⟩ rfl (by simp only [go_sem, Nat.reduceBEq, Nat.reduceAdd, Nat.reduceSub, Nat.reduceMul, Nat.reduceLeDiff, Nat.reduceEqDiff, Nat.reduceLT, reduceIte, reduceCtorEq, hbk, hbe]) (by simp only [go_sem, Nat.reduceBEq, Nat.reduceAdd, Nat.reduceSub, Nat.reduceMul, Nat.reduceLeDiff, Nat.reduceEqDiff, Nat.reduceLT, reduceIte, reduceCtorEq, hbk, hbe, hb1]) ?_
  refine Vr_for e.kids.length (fun _ => True) (fun i => [(13, .int .i64 (i : Int)), (12, .int .i64 (e.kids.length : Int)), (11, .osl 2 e.kids.length cap), (2, .ptr 4 0), (1, .ptr 3 0)])
    (fun i => ⟨5, [(4, .cells [.int .i64 0, .str [], .int .i64 0, .sl .nil [], .sl .nil []]), (3, .cells [.int .i64 12, .str e.name, .int .i64 e.n, strs e.cons, .osl 2 e.kids.length cap]), (2, .cells (R i)), (1, .cells [.int .i64 0, .str [], .int .i64 0, .sl .nil [], .sl .nil []]), (0, .cells [.int .i64 e.op, .str e.name, .int .i64 e.n, strs e.cons, .osl 2 e.kids.length cap])], 0⟩) trivial ?_ ?_
  · intro i hi _ n hn
    have h1 : ((i : Int) < (e.kids.length : Int)) = True := eq_true (by omega)
    have h2 : (i + 1 ≤ e.kids.length) = True := eq_true (by omega)
    have hwk := w_kid hi
    have w1 : wr .i64 ((i : Int) + 1) = ((i + 1 : Nat) : Int) := wr_nat (by omega) (by omega)
    have hci : i < e.cons.length := by omega
    have hcon : (e.cons.map AV.str)[i]? = some (.str e.cons[i]) := by simp [hci]
    have hl := hload i hi
    rw [Expr.emb_eq] at hl
    simp only [AV.cells, strs, exprs] at hl
    have hrl' : (i * 5 + 5 ≤ (R i).length) = True := eq_true (hrl i hi)
    have hst := hstore i hi _ (hget i hi hci)
    rw [Expr.emb_eq] at hst
    simp only [AV.cells, strs, exprs] at hst
    (repeat (first | refine V_seq ?_ | refine V_block ?_ | (refine goR ?_; simp only [go_sem, Nat.reduceBEq, Nat.reduceAdd, Nat.reduceSub, Nat.reduceMul, Nat.reduceLeDiff, Nat.reduceEqDiff, Nat.reduceLT, reduceIte, reduceCtorEq, h1, h2, hl, hcon]) | (refine goD rfl ?_; simp only [go_sem, Nat.reduceBEq, Nat.reduceAdd, Nat.reduceSub, Nat.reduceMul, Nat.reduceLeDiff, Nat.reduceEqDiff, Nat.reduceLT, reduceIte, reduceCtorEq, h1, h2, hl, hcon]) | (refine V_skip ?_; simp only [go_sem, Nat.reduceBEq, Nat.reduceAdd, Nat.reduceSub, Nat.reduceMul, Nat.reduceLeDiff, Nat.reduceEqDiff, Nat.reduceLT, reduceIte, reduceCtorEq, h1, h2, hl, hcon]) | (refine V_cond ?_; simp only [go_sem, Nat.reduceBEq, Nat.reduceAdd, Nat.reduceSub, Nat.reduceMul, Nat.reduceLeDiff, Nat.reduceEqDiff, Nat.reduceLT, reduceIte, reduceCtorEq, h1, h2, hl, hcon]) | (refine V_exit ?_; simp only [go_sem, Nat.reduceBEq, Nat.reduceAdd, Nat.reduceSub, Nat.reduceMul, Nat.reduceLeDiff, Nat.reduceEqDiff, Nat.reduceLT, reduceIte, reduceCtorEq, h1, h2, hl, hcon])))
    refine DCallP_pure (sample_ok e.name e.cons[i] e.kids[i] (by unfold lim; omega)) (by rw [Expr.emb_eq]; simp only [go_sem, Nat.reduceBEq, Nat.reduceAdd, Nat.reduceSub, Nat.reduceMul, Nat.reduceLeDiff, Nat.reduceEqDiff, Nat.reduceLT, reduceIte, reduceCtorEq]) ?_
    (refine goDW ?_; simp only [go_sem, Nat.reduceBEq, Nat.reduceAdd, Nat.reduceSub, Nat.reduceMul, Nat.reduceLeDiff, Nat.reduceEqDiff, Nat.reduceLT, reduceIte, reduceCtorEq, hst, hrl', Expr.emb_eq, h2])
    refine ⟨by repeat' (first | exact trivial | apply And.intro), ?_⟩
    (repeat (first | refine V_seq ?_ | refine V_block ?_ | (refine goR ?_; simp only [go_sem, Nat.reduceBEq, Nat.reduceAdd, Nat.reduceSub, Nat.reduceMul, Nat.reduceLeDiff, Nat.reduceEqDiff, Nat.reduceLT, reduceIte, reduceCtorEq, w1]) | (refine goD rfl ?_; simp only [go_sem, Nat.reduceBEq, Nat.reduceAdd, Nat.reduceSub, Nat.reduceMul, Nat.reduceLeDiff, Nat.reduceEqDiff, Nat.reduceLT, reduceIte, reduceCtorEq, w1]) | (refine V_skip ?_; simp only [go_sem, Nat.reduceBEq, Nat.reduceAdd, Nat.reduceSub, Nat.reduceMul, Nat.reduceLeDiff, Nat.reduceEqDiff, Nat.reduceLT, reduceIte, reduceCtorEq, w1]) | (refine V_cond ?_; simp only [go_sem, Nat.reduceBEq, Nat.reduceAdd, Nat.reduceSub, Nat.reduceMul, Nat.reduceLeDiff, Nat.reduceEqDiff, Nat.reduceLT, reduceIte, reduceCtorEq, w1]) | (refine V_exit ?_; simp only [go_sem, Nat.reduceBEq, Nat.reduceAdd, Nat.reduceSub, Nat.reduceMul, Nat.reduceLeDiff, Nat.reduceEqDiff, Nat.reduceLT, reduceIte, reduceCtorEq, w1])))
    exact Vr_head [(0, 0), (1, 1), (2, 2), (3, 3), (4, 4)] _ _ rfl (by simp only [go_sem, Nat.reduceBEq, Nat.reduceAdd, Nat.reduceSub, Nat.reduceMul, Nat.reduceLeDiff, Nat.reduceEqDiff, Nat.reduceLT, reduceIte, reduceCtorEq, hbk, hbe]) (by simp only [go_sem, Nat.reduceBEq, Nat.reduceAdd, Nat.reduceSub, Nat.reduceMul, Nat.reduceLeDiff, Nat.reduceEqDiff, Nat.reduceLT, reduceIte, reduceCtorEq, hbk, hbe, hb1]) (hn trivial)
  · intro _ n
    have h1 : ((e.kids.length : Int) < (e.kids.length : Int)) = False := eq_false (by omega)
    (repeat (first | refine V_seq ?_ | refine V_block ?_ | (refine goR ?_; simp only [go_sem, Nat.reduceBEq, Nat.reduceAdd, Nat.reduceSub, Nat.reduceMul, Nat.reduceLeDiff, Nat.reduceEqDiff, Nat.reduceLT, reduceIte, reduceCtorEq, h1]) | (refine goD rfl ?_; simp only [go_sem, Nat.reduceBEq, Nat.reduceAdd, Nat.reduceSub, Nat.reduceMul, Nat.reduceLeDiff, Nat.reduceEqDiff, Nat.reduceLT, reduceIte, reduceCtorEq, h1]) | (refine V_skip ?_; simp only [go_sem, Nat.reduceBEq, Nat.reduceAdd, Nat.reduceSub, Nat.reduceMul, Nat.reduceLeDiff, Nat.reduceEqDiff, Nat.reduceLT, reduceIte, reduceCtorEq, h1]) | (refine V_cond ?_; simp only [go_sem, Nat.reduceBEq, Nat.reduceAdd, Nat.reduceSub, Nat.reduceMul, Nat.reduceLeDiff, Nat.reduceEqDiff, Nat.reduceLT, reduceIte, reduceCtorEq, h1]) | (refine V_exit ?_; simp only [go_sem, Nat.reduceBEq, Nat.reduceAdd, Nat.reduceSub, Nat.reduceMul, Nat.reduceLeDiff, Nat.reduceEqDiff, Nat.reduceLT, reduceIte, reduceCtorEq, h1])))
    refine V_ret ⟨trivial, _, rfl, Wk.refl _, .inr ⟨rfl, bel_sound rfl, fun i x hx => ?_⟩⟩
    rcases aget3 hx with ⟨rfl, rfl⟩ | ⟨rfl, rfl⟩ | ⟨rfl, rfl⟩
    · exact ⟨show 2 < 3 by decide, fun y hy => flat1_bel _ (List.all_eq_true.1 (hfl _) y hy), rfl⟩
    · exact ⟨show 1 < 3 by decide, bel_all rfl, rfl⟩
    · exact ⟨show 0 < 3 by decide, bel_all rfl, rfl⟩
/-- the closure at what is no match: nothing turns -/
theorem turn_osl_no (e : Expr) (cap : Nat) (R : List AV) (hfl : R.all AV.flat1 = true) (hop : e.op ≠ 13) :
    Det PG 91 [.agg [.int .i64 e.op, .str e.name, .int .i64 e.n, strs e.cons, .osl 2 e.kids.length cap]]
      ⟨3, [(2, .cells R), (1, .cells [.int .i64 0, .str [], .int .i64 0, .sl .nil [], .sl .nil []]), (0, .cells [.int .i64 e.op, .str e.name, .int .i64 e.n, strs e.cons, .osl 2 e.kids.length cap])], 0⟩
      (.agg [.int .i64 e.op, .str e.name, .int .i64 e.n, strs e.cons, .osl 2 e.kids.length cap])
      ⟨3, [(2, .cells R), (1, .cells [.int .i64 0, .str [], .int .i64 0, .sl .nil [], .sl .nil []]), (0, .cells [.int .i64 e.op, .str e.name, .int .i64 e.n, strs e.cons, .osl 2 e.kids.length cap])], 0⟩ := by
  have hop' : ((e.op : Int) = 13) = False := eq_false (by omega)
  refine enter (f := 91) (fn := Tryz.f91) rfl rfl (by decide) (by simp [Tryz.f91]) ?_
  simp only [bodyOf, Tryz.f91]
  (repeat (first | refine V_seq ?_ | refine V_block ?_ | (refine goR ?_; simp only [go_sem, Nat.reduceBEq, Nat.reduceAdd, Nat.reduceSub, Nat.reduceMul, Nat.reduceLeDiff, Nat.reduceEqDiff, Nat.reduceLT, reduceIte, reduceCtorEq, hop']) | (refine goD rfl ?_; simp only [go_sem, Nat.reduceBEq, Nat.reduceAdd, Nat.reduceSub, Nat.reduceMul, Nat.reduceLeDiff, Nat.reduceEqDiff, Nat.reduceLT, reduceIte, reduceCtorEq, hop']) | (refine V_skip ?_; simp only [go_sem, Nat.reduceBEq, Nat.reduceAdd, Nat.reduceSub, Nat.reduceMul, Nat.reduceLeDiff, Nat.reduceEqDiff, Nat.reduceLT, reduceIte, reduceCtorEq, hop']) | (refine V_cond ?_; simp only [go_sem, Nat.reduceBEq, Nat.reduceAdd, Nat.reduceSub, Nat.reduceMul, Nat.reduceLeDiff, Nat.reduceEqDiff, Nat.reduceLT, reduceIte, reduceCtorEq, hop']) | (refine V_exit ?_; simp only [go_sem, Nat.reduceBEq, Nat.reduceAdd, Nat.reduceSub, Nat.reduceMul, Nat.reduceLeDiff, Nat.reduceEqDiff, Nat.reduceLT, reduceIte, reduceCtorEq, hop'])))
  refine V_ret ⟨trivial, _, rfl, Wk.refl _, .inr ⟨rfl, bel_sound rfl, fun i x hx => ?_⟩⟩
  rcases aget3 hx with ⟨rfl, rfl⟩ | ⟨rfl, rfl⟩ | ⟨rfl, rfl⟩
  · exact ⟨show 2 < 3 by decide, fun y hy => flat1_bel _ (List.all_eq_true.1 hfl y hy), rfl⟩
  · exact ⟨show 1 < 3 by decide, bel_all rfl, rfl⟩
  · exact ⟨show 0 < 3 by decide, bel_all rfl, rfl⟩
/-- the closure at what has no parts -/
theorem turn_nil (op : Int) (name : Bytes) (n : Int) (cons : List Bytes) :
    Pure PG 91 [.agg [.int .i64 op, .str name, .int .i64 n, strs cons, .sl .nil []]] (.agg [.int .i64 (if op = 13 then 12 else op), .str name, .int .i64 n, strs cons, .sl .nil []]) := by
  refine enterP (f := 91) (fn := Tryz.f91) rfl rfl (by decide) (by simp [Tryz.f91]) ?_ ?_ ?_
  · exact bel_all rfl
  · exact bel_sound rfl
  by_cases hop : op = 13
  · have hop' : (op = 13) = True := eq_true hop
    rw [if_pos hop]
    simp only [bodyOf, Tryz.f91]
    (repeat (first | refine V_seq ?_ | refine V_block ?_ | (refine goR ?_; simp only [go_sem, Nat.reduceBEq, Nat.reduceAdd, Nat.reduceSub, Nat.reduceMul, Nat.reduceLeDiff, Nat.reduceEqDiff, Nat.reduceLT, reduceIte, reduceCtorEq, hop']) | (refine goD rfl ?_; simp only [go_sem, Nat.reduceBEq, Nat.reduceAdd, Nat.reduceSub, Nat.reduceMul, Nat.reduceLeDiff, Nat.reduceEqDiff, Nat.reduceLT, reduceIte, reduceCtorEq, hop']) | (refine V_skip ?_; simp only [go_sem, Nat.reduceBEq, Nat.reduceAdd, Nat.reduceSub, Nat.reduceMul, Nat.reduceLeDiff, Nat.reduceEqDiff, Nat.reduceLT, reduceIte, reduceCtorEq, hop']) | (refine V_cond ?_; simp only [go_sem, Nat.reduceBEq, Nat.reduceAdd, Nat.reduceSub, Nat.reduceMul, Nat.reduceLeDiff, Nat.reduceEqDiff, Nat.reduceLT, reduceIte, reduceCtorEq, hop']) | (refine V_exit ?_; simp only [go_sem, Nat.reduceBEq, Nat.reduceAdd, Nat.reduceSub, Nat.reduceMul, Nat.reduceLeDiff, Nat.reduceEqDiff, Nat.reduceLT, reduceIte, reduceCtorEq, hop'])))
    refine V_loop 1 ?_
    refine Vr_for 0 (fun _ => True) (fun _ => _) (fun _ => _) trivial (fun i hi => absurd hi (by omega)) fun _ n => ?_
    have h1 : ((0 : Int) < ((0 : Nat) : Int)) = False := eq_false (by omega)
    (repeat (first | refine V_seq ?_ | refine V_block ?_ | (refine goR ?_; simp only [go_sem, Nat.reduceBEq, Nat.reduceAdd, Nat.reduceSub, Nat.reduceMul, Nat.reduceLeDiff, Nat.reduceEqDiff, Nat.reduceLT, reduceIte, reduceCtorEq, h1]) | (refine goD rfl ?_; simp only [go_sem, Nat.reduceBEq, Nat.reduceAdd, Nat.reduceSub, Nat.reduceMul, Nat.reduceLeDiff, Nat.reduceEqDiff, Nat.reduceLT, reduceIte, reduceCtorEq, h1]) | (refine V_skip ?_; simp only [go_sem, Nat.reduceBEq, Nat.reduceAdd, Nat.reduceSub, Nat.reduceMul, Nat.reduceLeDiff, Nat.reduceEqDiff, Nat.reduceLT, reduceIte, reduceCtorEq, h1]) | (refine V_cond ?_; simp only [go_sem, Nat.reduceBEq, Nat.reduceAdd, Nat.reduceSub, Nat.reduceMul, Nat.reduceLeDiff, Nat.reduceEqDiff, Nat.reduceLT, reduceIte, reduceCtorEq, h1]) | (refine V_exit ?_; simp only [go_sem, Nat.reduceBEq, Nat.reduceAdd, Nat.reduceSub, Nat.reduceMul, Nat.reduceLeDiff, Nat.reduceEqDiff, Nat.reduceLT, reduceIte, reduceCtorEq, h1])))
    (refine V_ret ?_; (try simp only [Vthen_r, Vblock_r]); refine EndQ_pure trivial ?_; simp only [go_sem, Nat.reduceBEq, Nat.reduceAdd, Nat.reduceSub, Nat.reduceMul, Nat.reduceLeDiff, Nat.reduceEqDiff, Nat.reduceLT, reduceIte, reduceCtorEq])
  · have hop' : (op = 13) = False := eq_false hop
    rw [if_neg hop]
    simp only [bodyOf, Tryz.f91]
    (repeat (first | refine V_seq ?_ | refine V_block ?_ | (refine goR ?_; simp only [go_sem, Nat.reduceBEq, Nat.reduceAdd, Nat.reduceSub, Nat.reduceMul, Nat.reduceLeDiff, Nat.reduceEqDiff, Nat.reduceLT, reduceIte, reduceCtorEq, hop']) | (refine goD rfl ?_; simp only [go_sem, Nat.reduceBEq, Nat.reduceAdd, Nat.reduceSub, Nat.reduceMul, Nat.reduceLeDiff, Nat.reduceEqDiff, Nat.reduceLT, reduceIte, reduceCtorEq, hop']) | (refine V_skip ?_; simp only [go_sem, Nat.reduceBEq, Nat.reduceAdd, Nat.reduceSub, Nat.reduceMul, Nat.reduceLeDiff, Nat.reduceEqDiff, Nat.reduceLT, reduceIte, reduceCtorEq, hop']) | (refine V_cond ?_; simp only [go_sem, Nat.reduceBEq, Nat.reduceAdd, Nat.reduceSub, Nat.reduceMul, Nat.reduceLeDiff, Nat.reduceEqDiff, Nat.reduceLT, reduceIte, reduceCtorEq, hop']) | (refine V_exit ?_; simp only [go_sem, Nat.reduceBEq, Nat.reduceAdd, Nat.reduceSub, Nat.reduceMul, Nat.reduceLeDiff, Nat.reduceEqDiff, Nat.reduceLT, reduceIte, reduceCtorEq, hop'])))
    (refine V_ret ?_; (try simp only [Vthen_r, Vblock_r]); refine EndQ_pure trivial ?_; simp only [go_sem, Nat.reduceBEq, Nat.reduceAdd, Nat.reduceSub, Nat.reduceMul, Nat.reduceLeDiff, Nat.reduceEqDiff, Nat.reduceLT, reduceIte, reduceCtorEq])
end Go.Sy
