/- Lemmas by program: what slices.Grow makes of nil, and slices.Concat; a bound on the lengths. -/
import Derived.Test.YtjfimhfnpbaicaaGreatDoorTt
import Derived.Test.YtjfimhfnpbaicaaGreatDoorSd1
import Derived.Shelf.RegionOpenPlain
import Derived.WalkKit
import Derived.Lib.Walk
import Derived.Lib.SliceRun
import Derived.Lib.AppendZerosOnto
set_option linter.unusedSimpArgs false
set_option linter.unusedVariables false
set_option maxRecDepth 100000
namespace Go.Sy
section
open Go.Proofs Go.RowKit Go.Lib Go
theorem info9 : (Tryz.prog.info? 9).map (fun i => (i.zero, i.size, i.bytes)) = some (some (.string ⟨#[]⟩), 1, 16) := by kernel_rfl
set_option maxHeartbeats 4000000 in
set_option maxRecDepth 100000 in
theorem grow_raw (n : Nat) (w : World) (h0 : 0 < n) (hn : n ≤ 1099511627776) :
    Calls Tryz.prog 150 #[.slice none 0 0, .int .i64 n] w fun e w' =>
      e = .returned (.slice (some ⟨w.heap.size, 0, none⟩) 0 (grownCap w n 0 9)) ∧
      w' = w.drew.alloc (.cells (#[] ++ Builtin.zeroCells #[Value.string ⟨#[]⟩] n ++ Builtin.zeroCells #[Value.string ⟨#[]⟩] (grownCap w n 0 9 - n)) 9) := by
  obtain ⟨i0, hi0, hz0, hs0, hb0⟩ := info_parts info9
  have h1 : ¬ ((n : Int) < 0) := by omega
  have h4 : (n : Int) > 0 := by omega
  have hold : (Builtin.firstCells i0.size 0 (.slice none 0 0)).run Tryz.prog w.drew = .ok #[] w.drew := run_firstCells_none w.drew i0.size 0 0 0
  have hrz : ∀ ty, (Builtin.append_ #[34, 3] ty #[.slice none 0 0, .int .i64 n]).run Tryz.prog w =
      .ok (.slice (some ⟨w.heap.size, 0, none⟩) n (grownCap w n 0 9)) (w.drew.alloc (.cells (#[] ++ Builtin.zeroCells #[Value.string ⟨#[]⟩] n ++ Builtin.zeroCells #[Value.string ⟨#[]⟩] (grownCap w n 0 9 - n)) 9)) := fun ty => by
    have h := Lib.run_append_grow_zeros w 34 3 ty 9 i0 (.string ⟨#[]⟩) .i64 .i64 Tryz.underlying34 Tryz.underlying3 hi0 hz0 none 0 0 [] hold n (by omega) (by omega) (by omega) (by omega)
      (by rw [hb0]; omega) (growslice_fits (by omega) (by rw [hb0]; omega))
    simpa [Value.cells] using h
  have hGn : n ≤ grownCap w n 0 9 := grownCap_ge w _ _ _
  obtain ⟨G, hG⟩ : ∃ G, G = grownCap w n 0 9 := ⟨_, rfl⟩
  rw [← hG] at hrz hGn ⊢
  have hG63 : G ≤ 9223372036854775807 := by
    have := grownCap_le_maxLen w n 0 9 (by unfold maxLen; omega)
    rw [← hG] at this
    unfold maxLen at this
    omega
  clear hold hG hi0 hz0 hs0 hb0
  go_enter Tryz.func150, Tryz.ntmps150
  go_wp2_with (at_builtin; refine Lib.wpList_append_run _ rfl _ _ _ _ rfl _ _ rfl rfl _ _ (hrz _) ?_)
  all_goals (go_ret; exact ⟨rfl, rfl⟩)

set_option maxHeartbeats 4000000 in
theorem grow_raw0 (w : World) : Calls Tryz.prog 150 #[.slice none 0 0, .int .i64 0] w fun e w' => e = .returned (.slice none 0 0) ∧ w = w' := by
  go_enter Tryz.func150, Tryz.ntmps150
  go_wp2
  go_ret
  exact ⟨rfl, rfl⟩
end

theorem grow0_ok : Pure PG 150 [.sl .nil [], .int .i64 0] (.sl .nil []) := by
  intro s
  refine ⟨⟨_, Go.Proofs.Tryz.func150, rfl, rfl⟩, fun c w vs hI hv => ?_⟩
  obtain ⟨vs⟩ := vs
  cases hv with
  | vcons _ _ v1 vs h1 h2 =>
  cases h2 with
  | vcons _ _ v2 vs h2 h3 =>
  cases h3
  cases h2
  cases h1 with
  | sl _ _ b o cap sz k1 => exact absurd rfl k1
  | sle _ _ _ hkk => rcases hkk with e | e | ⟨e, _⟩ <;> cases e
  | slnil _ _ =>
    refine (grow_raw0 w).mono ?_
    rintro e w' ⟨rfl, rfl⟩
    exact ⟨_, c, _, s, rfl, Ctx.le.refl c, hI, .slnil _ (.inl rfl), rfl, rfl⟩
theorem grow_ok (n : Nat) (h0 : 0 < n) (hn : n ≤ lim) (s : St) : Det PG 150 [.sl .nil [], .int .i64 n] s (.rsv s.n 1) (s.push (.tok 0)) := by
  refine ⟨⟨_, Go.Proofs.Tryz.func150, rfl, rfl⟩, fun c w vs hI hv => ?_⟩
  obtain ⟨vs⟩ := vs
  cases hv with
  | vcons _ _ v1 vs h1 h2 =>
  cases h2 with
  | vcons _ _ v2 vs h2 h3 =>
  cases h3
  cases h2
  cases h1 with
  | sl _ _ b o cap sz k1 => exact absurd rfl k1
  | sle _ _ _ hkk => rcases hkk with e | e | ⟨e, _⟩ <;> cases e
  | slnil _ _ =>
    refine (grow_raw n w h0 hn).mono ?_
    rintro e w' ⟨rfl, rfl⟩
    generalize hvs : (#[] ++ Builtin.zeroCells #[Value.string ⟨#[]⟩] n ++ Builtin.zeroCells #[Value.string ⟨#[]⟩] (grownCap w n 0 9 - n) : Array Value) = vs
    have hsz : grownCap w n 0 9 ≤ vs.size := by
      rw [← hvs]
      have := grownCap_ge w n 0 9
      simp only [Array.size_append, size_zeroCells]
      simp; omega
    have k1 := hI.drew.alloc (.cells vs 9)
    have k2 := k1.push (.tok 0) trivial
    have hn : c.τ s.n = none := τ_new hI
    have k3 := k2.ownNew (t := s.n) (len := 0) (b := w.heap.size) (sz := 1) (cap := grownCap w n 0 9) hn (aget_cons_same _ _ _) (fun hk => Nat.lt_irrefl _ (hI.base_le _ hk)) (by simp)
      (fun i hi => by have := (hI.ids i _ hi).2.2; omega) (fun t' sz' cap' len' ht' _ => by have := (hI.tks t' _ sz' cap' ht').2.2.1; omega) (Nat.zero_le _) (by decide) ⟨vs, 9, heap_alloc_new w.drew _, by simpa using hsz⟩ (fun p _ => hI.f_new (Nat.le_refl _) p)
    exact ⟨_, _, _, _, rfl, Ctx.le_own hn, k3, .rsv _ _ _ _ (by simp [Ctx.own]), rfl, rfl⟩

open Go.Proofs
def accV (xs : List Bytes) : AV := match xs with | [] => .rsv 0 1 | x :: xs => .sl (.tok 0) ((x :: xs).map .str)
theorem flat1 {α : Type} (l : List α) : [l].flatten = l := by simp
theorem strs_bel (l : List Bytes) : Bel 0 (strs l) := bel_sound rfl
theorem concat_ok (ls : List (List Bytes)) (hls : ls.length ≤ lim) (htot : ls.flatten.length ≤ lim) : Pure PG 111 [.sl .fro (ls.map strs)] (strs ls.flatten) := by
  unfold lim at hls htot
  refine enterP (f := 111) (fn := Tryz.f111) rfl rfl (by decide) (by simp [Tryz.f111]) ?_ ?_ ?_
  · exact bel_all rfl
  · exact bel_sound rfl
  generalize hR : strs ls.flatten = R
  simp only [bodyOf, Tryz.f111]
  (repeat (first | refine V_seq ?_ | refine V_block ?_ | (refine goR ?_; simp only [go_sem, Nat.reduceBEq, Nat.reduceAdd, Nat.reduceSub, Nat.reduceMul, Nat.reduceLeDiff, Nat.reduceEqDiff, Nat.reduceLT, reduceIte, reduceCtorEq]) | (refine goD rfl ?_; simp only [go_sem, Nat.reduceBEq, Nat.reduceAdd, Nat.reduceSub, Nat.reduceMul, Nat.reduceLeDiff, Nat.reduceEqDiff, Nat.reduceLT, reduceIte, reduceCtorEq]) | (refine V_skip ?_; simp only [go_sem, Nat.reduceBEq, Nat.reduceAdd, Nat.reduceSub, Nat.reduceMul, Nat.reduceLeDiff, Nat.reduceEqDiff, Nat.reduceLT, reduceIte, reduceCtorEq]) | (refine V_cond ?_; simp only [go_sem, Nat.reduceBEq, Nat.reduceAdd, Nat.reduceSub, Nat.reduceMul, Nat.reduceLeDiff, Nat.reduceEqDiff, Nat.reduceLT, reduceIte, reduceCtorEq]) | (refine V_exit ?_; simp only [go_sem, Nat.reduceBEq, Nat.reduceAdd, Nat.reduceSub, Nat.reduceMul, Nat.reduceLeDiff, Nat.reduceEqDiff, Nat.reduceLT, reduceIte, reduceCtorEq])))
  refine V_loop (ls.length + 1) ?_
  refine Vr_head [] [(11, .int .i64 0), (10, .int .i64 (ls.length : Int)), (9, .sl .fro (ls.map strs)), (3, .int .i64 0), (0, .sl .fro (ls.map strs))] ⟨0, [], 0⟩ rfl (by simp only [go_sem, Nat.reduceBEq, Nat.reduceAdd, Nat.reduceSub, Nat.reduceMul, Nat.reduceLeDiff, Nat.reduceEqDiff, Nat.reduceLT, reduceIte, reduceCtorEq]) trivial ?_
  refine Vr_for ls.length (fun _ => True) (fun i => [(11, .int .i64 (i : Int)), (10, .int .i64 (ls.length : Int)), (9, .sl .fro (ls.map strs)), (3, .int .i64 ((ls.take i).flatten.length : Int)), (0, .sl .fro (ls.map strs))]) (fun _ => ⟨0, [], 0⟩) trivial ?_ ?_
  · intro i hi _ n hn
    have hk : (ls.map strs)[i]? = some (.sl .fro (ls[i].map .str)) := by simp [hi, strs]
    have h1 : ((i : Int) < (ls.length : Int)) = True := eq_true (by omega)
    have ht : ls.take (i + 1) = ls.take i ++ [ls[i]] := (List.take_append_getElem hi).symm
    have hf : (ls.take (i + 1)).flatten.length = (ls.take i).flatten.length + ls[i].length := by rw [ht, List.flatten_append, List.length_append, flat1]
    have hfl : (ls.take (i + 1)).flatten.length ≤ ls.flatten.length := by
      have := congrArg (fun l => l.flatten.length) (List.take_append_drop (i + 1) ls)
      simp only [List.flatten_append, List.length_append] at this
      omega
    have w1 : wr .i64 ((i : Int) + 1) = ((i + 1 : Nat) : Int) := wr_nat (by omega) (by omega)
    have w2 : wr .i64 (((ls.take i).flatten.length : Int) + (ls[i].length : Int)) = ((ls.take (i + 1)).flatten.length : Int) := wr_nat (by omega) (by omega)
    have h2 : (((ls.take (i + 1)).flatten.length : Int) < 0) = False := eq_false (by omega)
    (repeat (first | refine V_seq ?_ | refine V_block ?_ | (refine goR ?_; simp only [go_sem, Nat.reduceBEq, Nat.reduceAdd, Nat.reduceSub, Nat.reduceMul, Nat.reduceLeDiff, Nat.reduceEqDiff, Nat.reduceLT, reduceIte, reduceCtorEq, h1, hk, w1, w2, h2]) | (refine goD rfl ?_; simp only [go_sem, Nat.reduceBEq, Nat.reduceAdd, Nat.reduceSub, Nat.reduceMul, Nat.reduceLeDiff, Nat.reduceEqDiff, Nat.reduceLT, reduceIte, reduceCtorEq, h1, hk, w1, w2, h2]) | (refine V_skip ?_; simp only [go_sem, Nat.reduceBEq, Nat.reduceAdd, Nat.reduceSub, Nat.reduceMul, Nat.reduceLeDiff, Nat.reduceEqDiff, Nat.reduceLT, reduceIte, reduceCtorEq, h1, hk, w1, w2, h2]) | (refine V_cond ?_; simp only [go_sem, Nat.reduceBEq, Nat.reduceAdd, Nat.reduceSub, Nat.reduceMul, Nat.reduceLeDiff, Nat.reduceEqDiff, Nat.reduceLT, reduceIte, reduceCtorEq, h1, hk, w1, w2, h2]) | (refine V_exit ?_; simp only [go_sem, Nat.reduceBEq, Nat.reduceAdd, Nat.reduceSub, Nat.reduceMul, Nat.reduceLeDiff, Nat.reduceEqDiff, Nat.reduceLT, reduceIte, reduceCtorEq, h1, hk, w1, w2, h2])))
    exact Vr_head [] _ ⟨0, [], 0⟩ rfl (by simp only [go_sem, Nat.reduceBEq, Nat.reduceAdd, Nat.reduceSub, Nat.reduceMul, Nat.reduceLeDiff, Nat.reduceEqDiff, Nat.reduceLT, reduceIte, reduceCtorEq]) trivial (hn trivial)
  · intro _ n
    have h1 : ((ls.length : Int) < (ls.length : Int)) = False := eq_false (by omega)
    (repeat (first | refine V_seq ?_ | refine V_block ?_ | (refine goR ?_; simp only [go_sem, Nat.reduceBEq, Nat.reduceAdd, Nat.reduceSub, Nat.reduceMul, Nat.reduceLeDiff, Nat.reduceEqDiff, Nat.reduceLT, reduceIte, reduceCtorEq, h1, List.take_length]) | (refine goD rfl ?_; simp only [go_sem, Nat.reduceBEq, Nat.reduceAdd, Nat.reduceSub, Nat.reduceMul, Nat.reduceLeDiff, Nat.reduceEqDiff, Nat.reduceLT, reduceIte, reduceCtorEq, h1, List.take_length]) | (refine V_skip ?_; simp only [go_sem, Nat.reduceBEq, Nat.reduceAdd, Nat.reduceSub, Nat.reduceMul, Nat.reduceLeDiff, Nat.reduceEqDiff, Nat.reduceLT, reduceIte, reduceCtorEq, h1, List.take_length]) | (refine V_cond ?_; simp only [go_sem, Nat.reduceBEq, Nat.reduceAdd, Nat.reduceSub, Nat.reduceMul, Nat.reduceLeDiff, Nat.reduceEqDiff, Nat.reduceLT, reduceIte, reduceCtorEq, h1, List.take_length]) | (refine V_exit ?_; simp only [go_sem, Nat.reduceBEq, Nat.reduceAdd, Nat.reduceSub, Nat.reduceMul, Nat.reduceLeDiff, Nat.reduceEqDiff, Nat.reduceLT, reduceIte, reduceCtorEq, h1, List.take_length])))
    by_cases h0 : ls.flatten.length = 0
    · rw [h0]
      refine CallP_pure grow0_ok (Wks.refl _) ?_
      (refine goW ?_; simp only [go_sem, Nat.reduceBEq, Nat.reduceAdd, Nat.reduceSub, Nat.reduceMul, Nat.reduceLeDiff, Nat.reduceEqDiff, Nat.reduceLT, reduceIte, reduceCtorEq])
      (repeat (first | refine V_seq ?_ | refine V_block ?_ | (refine goR ?_; simp only [go_sem, Nat.reduceBEq, Nat.reduceAdd, Nat.reduceSub, Nat.reduceMul, Nat.reduceLeDiff, Nat.reduceEqDiff, Nat.reduceLT, reduceIte, reduceCtorEq]) | (refine goD rfl ?_; simp only [go_sem, Nat.reduceBEq, Nat.reduceAdd, Nat.reduceSub, Nat.reduceMul, Nat.reduceLeDiff, Nat.reduceEqDiff, Nat.reduceLT, reduceIte, reduceCtorEq]) | (refine V_skip ?_; simp only [go_sem, Nat.reduceBEq, Nat.reduceAdd, Nat.reduceSub, Nat.reduceMul, Nat.reduceLeDiff, Nat.reduceEqDiff, Nat.reduceLT, reduceIte, reduceCtorEq]) | (refine V_cond ?_; simp only [go_sem, Nat.reduceBEq, Nat.reduceAdd, Nat.reduceSub, Nat.reduceMul, Nat.reduceLeDiff, Nat.reduceEqDiff, Nat.reduceLT, reduceIte, reduceCtorEq]) | (refine V_exit ?_; simp only [go_sem, Nat.reduceBEq, Nat.reduceAdd, Nat.reduceSub, Nat.reduceMul, Nat.reduceLeDiff, Nat.reduceEqDiff, Nat.reduceLT, reduceIte, reduceCtorEq])))
      refine V_loop (ls.length + 1) ?_
      refine Vr_head [] [(27, .int .i64 0), (26, .int .i64 (ls.length : Int)), (25, .sl .fro (ls.map strs)), (6, .sl .nil [])] ⟨0, [], 0⟩ rfl (by simp only [go_sem, Nat.reduceBEq, Nat.reduceAdd, Nat.reduceSub, Nat.reduceMul, Nat.reduceLeDiff, Nat.reduceEqDiff, Nat.reduceLT, reduceIte, reduceCtorEq]) trivial ?_
      refine Vr_for ls.length (fun _ => True) (fun i => [(27, .int .i64 (i : Int)), (26, .int .i64 (ls.length : Int)), (25, .sl .fro (ls.map strs)), (6, .sl .nil [])]) (fun _ => ⟨0, [], 0⟩) trivial ?_ ?_
      · intro i hi _ n hn
        have he : ls[i] = [] := List.flatten_eq_nil_iff.1 (List.length_eq_zero_iff.1 h0) _ (List.getElem_mem hi)
        have hk : (ls.map strs)[i]? = some (.sl .fro []) := by simp [hi, strs, he]
        have h1 : ((i : Int) < (ls.length : Int)) = True := eq_true (by omega)
        have w1 : wr .i64 ((i : Int) + 1) = ((i + 1 : Nat) : Int) := wr_nat (by omega) (by omega)
        (repeat (first | refine V_seq ?_ | refine V_block ?_ | (refine goR ?_; simp only [go_sem, Nat.reduceBEq, Nat.reduceAdd, Nat.reduceSub, Nat.reduceMul, Nat.reduceLeDiff, Nat.reduceEqDiff, Nat.reduceLT, reduceIte, reduceCtorEq, h1, hk, w1]) | (refine goD rfl ?_; simp only [go_sem, Nat.reduceBEq, Nat.reduceAdd, Nat.reduceSub, Nat.reduceMul, Nat.reduceLeDiff, Nat.reduceEqDiff, Nat.reduceLT, reduceIte, reduceCtorEq, h1, hk, w1]) | (refine V_skip ?_; simp only [go_sem, Nat.reduceBEq, Nat.reduceAdd, Nat.reduceSub, Nat.reduceMul, Nat.reduceLeDiff, Nat.reduceEqDiff, Nat.reduceLT, reduceIte, reduceCtorEq, h1, hk, w1]) | (refine V_cond ?_; simp only [go_sem, Nat.reduceBEq, Nat.reduceAdd, Nat.reduceSub, Nat.reduceMul, Nat.reduceLeDiff, Nat.reduceEqDiff, Nat.reduceLT, reduceIte, reduceCtorEq, h1, hk, w1]) | (refine V_exit ?_; simp only [go_sem, Nat.reduceBEq, Nat.reduceAdd, Nat.reduceSub, Nat.reduceMul, Nat.reduceLeDiff, Nat.reduceEqDiff, Nat.reduceLT, reduceIte, reduceCtorEq, h1, hk, w1])))
        exact Vr_head [] _ ⟨0, [], 0⟩ rfl (by simp only [go_sem, Nat.reduceBEq, Nat.reduceAdd, Nat.reduceSub, Nat.reduceMul, Nat.reduceLeDiff, Nat.reduceEqDiff, Nat.reduceLT, reduceIte, reduceCtorEq]) trivial (hn trivial)
      · intro _ n
        have hfl : ls.flatten = [] := List.length_eq_zero_iff.1 h0
        (repeat (first | refine V_seq ?_ | refine V_block ?_ | (refine goR ?_; simp only [go_sem, Nat.reduceBEq, Nat.reduceAdd, Nat.reduceSub, Nat.reduceMul, Nat.reduceLeDiff, Nat.reduceEqDiff, Nat.reduceLT, reduceIte, reduceCtorEq, h1]) | (refine goD rfl ?_; simp only [go_sem, Nat.reduceBEq, Nat.reduceAdd, Nat.reduceSub, Nat.reduceMul, Nat.reduceLeDiff, Nat.reduceEqDiff, Nat.reduceLT, reduceIte, reduceCtorEq, h1]) | (refine V_skip ?_; simp only [go_sem, Nat.reduceBEq, Nat.reduceAdd, Nat.reduceSub, Nat.reduceMul, Nat.reduceLeDiff, Nat.reduceEqDiff, Nat.reduceLT, reduceIte, reduceCtorEq, h1]) | (refine V_cond ?_; simp only [go_sem, Nat.reduceBEq, Nat.reduceAdd, Nat.reduceSub, Nat.reduceMul, Nat.reduceLeDiff, Nat.reduceEqDiff, Nat.reduceLT, reduceIte, reduceCtorEq, h1]) | (refine V_exit ?_; simp only [go_sem, Nat.reduceBEq, Nat.reduceAdd, Nat.reduceSub, Nat.reduceMul, Nat.reduceLeDiff, Nat.reduceEqDiff, Nat.reduceLT, reduceIte, reduceCtorEq, h1])))
        (refine V_ret ?_; (try simp only [Vthen_r, Vblock_r]); refine EndQ_pure trivial ?_; simp only [go_sem, Nat.reduceBEq, Nat.reduceAdd, Nat.reduceSub, Nat.reduceMul, Nat.reduceLeDiff, Nat.reduceEqDiff, Nat.reduceLT, reduceIte, reduceCtorEq, ← hR, hfl])
    · refine CallP_of (grow_ok _ (by omega) (by unfold lim; omega) _) (Wks.refl _) ?_
      (refine goW ?_; simp only [go_sem, Nat.reduceBEq, Nat.reduceAdd, Nat.reduceSub, Nat.reduceMul, Nat.reduceLeDiff, Nat.reduceEqDiff, Nat.reduceLT, reduceIte, reduceCtorEq])
      (repeat (first | refine V_seq ?_ | refine V_block ?_ | (refine goR ?_; simp only [go_sem, Nat.reduceBEq, Nat.reduceAdd, Nat.reduceSub, Nat.reduceMul, Nat.reduceLeDiff, Nat.reduceEqDiff, Nat.reduceLT, reduceIte, reduceCtorEq]) | (refine goD rfl ?_; simp only [go_sem, Nat.reduceBEq, Nat.reduceAdd, Nat.reduceSub, Nat.reduceMul, Nat.reduceLeDiff, Nat.reduceEqDiff, Nat.reduceLT, reduceIte, reduceCtorEq]) | (refine V_skip ?_; simp only [go_sem, Nat.reduceBEq, Nat.reduceAdd, Nat.reduceSub, Nat.reduceMul, Nat.reduceLeDiff, Nat.reduceEqDiff, Nat.reduceLT, reduceIte, reduceCtorEq]) | (refine V_cond ?_; simp only [go_sem, Nat.reduceBEq, Nat.reduceAdd, Nat.reduceSub, Nat.reduceMul, Nat.reduceLeDiff, Nat.reduceEqDiff, Nat.reduceLT, reduceIte, reduceCtorEq]) | (refine V_exit ?_; simp only [go_sem, Nat.reduceBEq, Nat.reduceAdd, Nat.reduceSub, Nat.reduceMul, Nat.reduceLeDiff, Nat.reduceEqDiff, Nat.reduceLT, reduceIte, reduceCtorEq])))
      refine V_loop (ls.length + 1) ?_
      refine Vr_head [(0, 0)] [(27, .int .i64 0), (26, .int .i64 (ls.length : Int)), (25, .sl .fro (ls.map strs)), (6, accV [])] ⟨1, [(0, .tok 0)], 0⟩ rfl (by simp only [go_sem, Nat.reduceBEq, Nat.reduceAdd, Nat.reduceSub, Nat.reduceMul, Nat.reduceLeDiff, Nat.reduceEqDiff, Nat.reduceLT, reduceIte, reduceCtorEq, accV]) (by simp only [go_sem, Nat.reduceBEq, Nat.reduceAdd, Nat.reduceSub, Nat.reduceMul, Nat.reduceLeDiff, Nat.reduceEqDiff, Nat.reduceLT, reduceIte, reduceCtorEq]) ?_
      refine Vr_for ls.length (fun _ => True) (fun i => [(27, .int .i64 (i : Int)), (26, .int .i64 (ls.length : Int)), (25, .sl .fro (ls.map strs)), (6, accV (ls.take i).flatten)]) (fun i => ⟨1, [(0, .tok (ls.take i).flatten.length)], 0⟩) trivial ?_ ?_
      · intro i hi _ n hn
        have h1 : ((i : Int) < (ls.length : Int)) = True := eq_true (by omega)
        have w1 : wr .i64 ((i : Int) + 1) = ((i + 1 : Nat) : Int) := wr_nat (by omega) (by omega)
        have ht : (ls.take (i + 1)).flatten = (ls.take i).flatten ++ ls[i] := by rw [← List.take_append_getElem hi, List.flatten_append, flat1]
        have hfl : (ls.take (i + 1)).flatten.length ≤ ls.flatten.length := by
          have := congrArg (fun l => l.flatten.length) (List.take_append_drop (i + 1) ls)
          simp only [List.flatten_append, List.length_append] at this
          omega
        rw [ht] at hn hfl
        simp only [List.length_append] at hfl
        have hk : (ls.map strs)[i]? = some (.sl .fro (ls[i].map .str)) := by simp [hi, strs]
        generalize (ls.take i).flatten = xs at hn hfl ⊢
        generalize ls[i] = l at hk hn hfl
        cases l with
        | nil =>
          cases xs with
          | nil =>
            (repeat (first | refine V_seq ?_ | refine V_block ?_ | (refine goR ?_; simp only [go_sem, Nat.reduceBEq, Nat.reduceAdd, Nat.reduceSub, Nat.reduceMul, Nat.reduceLeDiff, Nat.reduceEqDiff, Nat.reduceLT, reduceIte, reduceCtorEq, h1, hk, w1, accV]) | (refine goD rfl ?_; simp only [go_sem, Nat.reduceBEq, Nat.reduceAdd, Nat.reduceSub, Nat.reduceMul, Nat.reduceLeDiff, Nat.reduceEqDiff, Nat.reduceLT, reduceIte, reduceCtorEq, h1, hk, w1, accV]) | (refine V_skip ?_; simp only [go_sem, Nat.reduceBEq, Nat.reduceAdd, Nat.reduceSub, Nat.reduceMul, Nat.reduceLeDiff, Nat.reduceEqDiff, Nat.reduceLT, reduceIte, reduceCtorEq, h1, hk, w1, accV]) | (refine V_cond ?_; simp only [go_sem, Nat.reduceBEq, Nat.reduceAdd, Nat.reduceSub, Nat.reduceMul, Nat.reduceLeDiff, Nat.reduceEqDiff, Nat.reduceLT, reduceIte, reduceCtorEq, h1, hk, w1, accV]) | (refine V_exit ?_; simp only [go_sem, Nat.reduceBEq, Nat.reduceAdd, Nat.reduceSub, Nat.reduceMul, Nat.reduceLeDiff, Nat.reduceEqDiff, Nat.reduceLT, reduceIte, reduceCtorEq, h1, hk, w1, accV])))
            exact Vr_head [(0, 0)] _ ⟨1, [(0, .tok 0)], 0⟩ rfl (by simp only [go_sem, Nat.reduceBEq, Nat.reduceAdd, Nat.reduceSub, Nat.reduceMul, Nat.reduceLeDiff, Nat.reduceEqDiff, Nat.reduceLT, reduceIte, reduceCtorEq, accV]) (by simp only [go_sem, Nat.reduceBEq, Nat.reduceAdd, Nat.reduceSub, Nat.reduceMul, Nat.reduceLeDiff, Nat.reduceEqDiff, Nat.reduceLT, reduceIte, reduceCtorEq]) (hn trivial)
          | cons x xs =>
            (repeat (first | refine V_seq ?_ | refine V_block ?_ | (refine goR ?_; simp only [go_sem, Nat.reduceBEq, Nat.reduceAdd, Nat.reduceSub, Nat.reduceMul, Nat.reduceLeDiff, Nat.reduceEqDiff, Nat.reduceLT, reduceIte, reduceCtorEq, h1, hk, w1, accV]) | (refine goD rfl ?_; simp only [go_sem, Nat.reduceBEq, Nat.reduceAdd, Nat.reduceSub, Nat.reduceMul, Nat.reduceLeDiff, Nat.reduceEqDiff, Nat.reduceLT, reduceIte, reduceCtorEq, h1, hk, w1, accV]) | (refine V_skip ?_; simp only [go_sem, Nat.reduceBEq, Nat.reduceAdd, Nat.reduceSub, Nat.reduceMul, Nat.reduceLeDiff, Nat.reduceEqDiff, Nat.reduceLT, reduceIte, reduceCtorEq, h1, hk, w1, accV]) | (refine V_cond ?_; simp only [go_sem, Nat.reduceBEq, Nat.reduceAdd, Nat.reduceSub, Nat.reduceMul, Nat.reduceLeDiff, Nat.reduceEqDiff, Nat.reduceLT, reduceIte, reduceCtorEq, h1, hk, w1, accV]) | (refine V_exit ?_; simp only [go_sem, Nat.reduceBEq, Nat.reduceAdd, Nat.reduceSub, Nat.reduceMul, Nat.reduceLeDiff, Nat.reduceEqDiff, Nat.reduceLT, reduceIte, reduceCtorEq, h1, hk, w1, accV])))
            exact Vr_head [(0, 0)] _ ⟨1, [(0, .tok _)], 0⟩ rfl (by simp only [go_sem, Nat.reduceBEq, Nat.reduceAdd, Nat.reduceSub, Nat.reduceMul, Nat.reduceLeDiff, Nat.reduceEqDiff, Nat.reduceLT, reduceIte, reduceCtorEq, accV]) (by simp only [go_sem, Nat.reduceBEq, Nat.reduceAdd, Nat.reduceSub, Nat.reduceMul, Nat.reduceLeDiff, Nat.reduceEqDiff, Nat.reduceLT, reduceIte, reduceCtorEq]) (hn trivial)
        | cons y l =>
          cases xs with
          | nil =>
            have hok : appOK 1 16 [] (AV.str y :: l.map AV.str) = true := appOK_of rfl (el_strs (y :: l)) (ones_strs (y :: l)) (by decide) (by simp only [List.length_cons, List.length_nil, List.length_map] at hfl ⊢; omega) (by decide)
            (repeat (first | refine V_seq ?_ | refine V_block ?_ | (refine goR ?_; simp only [go_sem, Nat.reduceBEq, Nat.reduceAdd, Nat.reduceSub, Nat.reduceMul, Nat.reduceLeDiff, Nat.reduceEqDiff, Nat.reduceLT, reduceIte, reduceCtorEq, h1, hk, w1, accV, hok]) | (refine goD rfl ?_; simp only [go_sem, Nat.reduceBEq, Nat.reduceAdd, Nat.reduceSub, Nat.reduceMul, Nat.reduceLeDiff, Nat.reduceEqDiff, Nat.reduceLT, reduceIte, reduceCtorEq, h1, hk, w1, accV, hok]) | (refine V_skip ?_; simp only [go_sem, Nat.reduceBEq, Nat.reduceAdd, Nat.reduceSub, Nat.reduceMul, Nat.reduceLeDiff, Nat.reduceEqDiff, Nat.reduceLT, reduceIte, reduceCtorEq, h1, hk, w1, accV, hok]) | (refine V_cond ?_; simp only [go_sem, Nat.reduceBEq, Nat.reduceAdd, Nat.reduceSub, Nat.reduceMul, Nat.reduceLeDiff, Nat.reduceEqDiff, Nat.reduceLT, reduceIte, reduceCtorEq, h1, hk, w1, accV, hok]) | (refine V_exit ?_; simp only [go_sem, Nat.reduceBEq, Nat.reduceAdd, Nat.reduceSub, Nat.reduceMul, Nat.reduceLeDiff, Nat.reduceEqDiff, Nat.reduceLT, reduceIte, reduceCtorEq, h1, hk, w1, accV, hok])))
            exact Vr_head [(0, 1)] _ ⟨1, [(0, .tok _)], 0⟩ rfl (by simp only [go_sem, Nat.reduceBEq, Nat.reduceAdd, Nat.reduceSub, Nat.reduceMul, Nat.reduceLeDiff, Nat.reduceEqDiff, Nat.reduceLT, reduceIte, reduceCtorEq, accV]) (by simp only [go_sem, Nat.reduceBEq, Nat.reduceAdd, Nat.reduceSub, Nat.reduceMul, Nat.reduceLeDiff, Nat.reduceEqDiff, Nat.reduceLT, reduceIte, reduceCtorEq]) (hn trivial)
          | cons x xs =>
            have hok : appOK 1 16 (AV.str x :: xs.map AV.str) (AV.str y :: l.map AV.str) = true := appOK_of (el_strs (x :: xs)) (el_strs (y :: l)) (ones_strs (y :: l)) (by decide) (by simp only [List.length_cons, List.length_nil, List.length_map] at hfl ⊢; omega) (by decide)
            (repeat (first | refine V_seq ?_ | refine V_block ?_ | (refine goR ?_; simp only [go_sem, Nat.reduceBEq, Nat.reduceAdd, Nat.reduceSub, Nat.reduceMul, Nat.reduceLeDiff, Nat.reduceEqDiff, Nat.reduceLT, reduceIte, reduceCtorEq, h1, hk, w1, accV, hok]) | (refine goD rfl ?_; simp only [go_sem, Nat.reduceBEq, Nat.reduceAdd, Nat.reduceSub, Nat.reduceMul, Nat.reduceLeDiff, Nat.reduceEqDiff, Nat.reduceLT, reduceIte, reduceCtorEq, h1, hk, w1, accV, hok]) | (refine V_skip ?_; simp only [go_sem, Nat.reduceBEq, Nat.reduceAdd, Nat.reduceSub, Nat.reduceMul, Nat.reduceLeDiff, Nat.reduceEqDiff, Nat.reduceLT, reduceIte, reduceCtorEq, h1, hk, w1, accV, hok]) | (refine V_cond ?_; simp only [go_sem, Nat.reduceBEq, Nat.reduceAdd, Nat.reduceSub, Nat.reduceMul, Nat.reduceLeDiff, Nat.reduceEqDiff, Nat.reduceLT, reduceIte, reduceCtorEq, h1, hk, w1, accV, hok]) | (refine V_exit ?_; simp only [go_sem, Nat.reduceBEq, Nat.reduceAdd, Nat.reduceSub, Nat.reduceMul, Nat.reduceLeDiff, Nat.reduceEqDiff, Nat.reduceLT, reduceIte, reduceCtorEq, h1, hk, w1, accV, hok])))
            exact Vr_head [(0, 1)] _ ⟨1, [(0, .tok _)], 0⟩ rfl (by simp only [go_sem, Nat.reduceBEq, Nat.reduceAdd, Nat.reduceSub, Nat.reduceMul, Nat.reduceLeDiff, Nat.reduceEqDiff, Nat.reduceLT, reduceIte, reduceCtorEq, accV, List.map_append]) (by simp only [go_sem, Nat.reduceBEq, Nat.reduceAdd, Nat.reduceSub, Nat.reduceMul, Nat.reduceLeDiff, Nat.reduceEqDiff, Nat.reduceLT, reduceIte, reduceCtorEq, List.length_append]; exact congrArg (fun n => some (AObj.tok n)) (by omega)) (hn trivial)
      · intro _ n
        have hx : ∃ x xs, ls.flatten = x :: xs := by
          cases hf : ls.flatten with
          | nil => rw [hf] at h0; exact absurd rfl h0
          | cons x xs => exact ⟨x, xs, rfl⟩
        obtain ⟨x, xs, hx⟩ := hx
        (repeat (first | refine V_seq ?_ | refine V_block ?_ | (refine goR ?_; simp only [go_sem, Nat.reduceBEq, Nat.reduceAdd, Nat.reduceSub, Nat.reduceMul, Nat.reduceLeDiff, Nat.reduceEqDiff, Nat.reduceLT, reduceIte, reduceCtorEq, h1, List.take_length, hx, accV]) | (refine goD rfl ?_; simp only [go_sem, Nat.reduceBEq, Nat.reduceAdd, Nat.reduceSub, Nat.reduceMul, Nat.reduceLeDiff, Nat.reduceEqDiff, Nat.reduceLT, reduceIte, reduceCtorEq, h1, List.take_length, hx, accV]) | (refine V_skip ?_; simp only [go_sem, Nat.reduceBEq, Nat.reduceAdd, Nat.reduceSub, Nat.reduceMul, Nat.reduceLeDiff, Nat.reduceEqDiff, Nat.reduceLT, reduceIte, reduceCtorEq, h1, List.take_length, hx, accV]) | (refine V_cond ?_; simp only [go_sem, Nat.reduceBEq, Nat.reduceAdd, Nat.reduceSub, Nat.reduceMul, Nat.reduceLeDiff, Nat.reduceEqDiff, Nat.reduceLT, reduceIte, reduceCtorEq, h1, List.take_length, hx, accV]) | (refine V_exit ?_; simp only [go_sem, Nat.reduceBEq, Nat.reduceAdd, Nat.reduceSub, Nat.reduceMul, Nat.reduceLeDiff, Nat.reduceEqDiff, Nat.reduceLT, reduceIte, reduceCtorEq, h1, List.take_length, hx, accV])))
        (refine V_ret ?_; (try simp only [Vthen_r, Vblock_r]); refine EndQ_pure trivial ?_; simp only [go_sem, Nat.reduceBEq, Nat.reduceAdd, Nat.reduceSub, Nat.reduceMul, Nat.reduceLeDiff, Nat.reduceEqDiff, Nat.reduceLT, reduceIte, reduceCtorEq, ← hR, hx])
end Go.Sy
