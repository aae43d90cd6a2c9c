/- Lemmas: an expression as a row reads it; no condition. -/
import Derived.Test.YtjfimhfnpbaicaaGreatDoorSq
namespace Go.Sy
open Go.Proofs Go.WideShapes Go.ChangeShapes
open Go.Proofs.YtjfimhfnpbaicaaGreatDoor.Rows (uptoBulk uptoBulkAll)
set_option linter.unusedSimpArgs false
set_option linter.unusedVariables false
set_option maxRecDepth 100000
variable {H : Type} {enc : TypeId × Value → H} {W : World} {sp : Nat → Bool} {held : Bool}
theorem c9 : PG.cellsOf 9 = 1 := by kernel_rfl
theorem c3 : PG.cellsOf 3 = 1 := by kernel_rfl
theorem c2 : PG.cellsOf 2 = 1 := by kernel_rfl
theorem c34 : PG.cellsOf 34 = 1 := by kernel_rfl
theorem c35 : PG.cellsOf 35 = 1 := by kernel_rfl
theorem c37 : PG.cellsOf 37 = 5 := by kernel_rfl
theorem bulk_pos (d : DataW H) : 1 ≤ uptoBulk d := by
  cases d with
  | lit l => cases l <;> simp [uptoBulk]
  | nil => simp [uptoBulk]
  | ptr d => simp [uptoBulk]
  | slice elems spare => simp [uptoBulk]
  | agg parts => simp [uptoBulk]
  | iface t d => simp [uptoBulk]
  | map entries => simp [uptoBulk]
  | held h => simp [uptoBulk]
theorem bulk_len {β : Type} {M : β → DataW H → Prop} : ∀ {bs : List β} {ds : List (DataW H)}, All2 M bs ds → bs.length ≤ uptoBulkAll ds
  | [], [], _ => Nat.zero_le _
  | b :: bs, d :: ds, h => by
    have := bulk_len h.2
    have := bulk_pos d
    simp only [List.length_cons, uptoBulkAll]; omega
theorem bulk_ws : ∀ {bs : List Expr} {ds : List (DataW H)}, All2 (fun e d => e.w ≤ uptoBulk d) bs ds → ws bs ≤ uptoBulkAll ds
  | [], [], _ => Nat.zero_le _
  | b :: bs, d :: ds, h => by
    have h1 := bulk_ws h.2
    have h2 := h.1
    simp only [ws, uptoBulkAll]
    omega
theorem read_strs {fuel : Nat} {cs : List Value} {x : DataW H × List MemPlace} (h : DataW.trod enc PG W 0 sp held fuel 34 cs = some x) : ∃ l : List Bytes, VRs (cFirm W) [strs l] cs ∧ l.length + 1 ≤ uptoBulk x.1 := by
  rcases DataW.trod_slice Tryz.underlying34 h with ⟨rfl, rfl⟩ | ⟨a, len, cap, elems, rest, n, _, rfl, rfl, hb, hl, hm, hlen, hel, hsp, hns⟩
  · exact ⟨[], .vcons _ _ _ _ (.slnil _ (.inr (.inl rfl))) .vnil, by simp [uptoBulk]⟩
  · rw [c9] at hel
    obtain ⟨bs, e1, e2, e3⟩ := read_sl (W := W) (emb := AV.str) (M := fun _ _ => True) (sz := 1) (by decide) (fun cs y hy => by
      obtain ⟨s, rfl, rfl, _⟩ := DataW.trod_string Tryz.underlying9 hy
      exact ⟨s.data.toList, .vcons _ _ _ _ (.str s) .vnil, trivial⟩) (fun b => ⟨rfl, rfl⟩) hlen hl hel
    refine ⟨bs, .vcons _ _ _ _ e2 .vnil, ?_⟩
    have := bulk_len e3
    simp only [uptoBulk]
    omega
theorem read_expr : ∀ (fuel : Nat) (cs : List Value) (x : DataW H × List MemPlace), DataW.trod enc PG W 0 sp held fuel 37 cs = some x → ∃ e : Expr, VRs (cFirm W) e.emb.cells cs ∧ e.w ≤ uptoBulk x.1 := by
  intro fuel
  induction fuel using Nat.strongRecOn with
  | _ fuel ih =>
  intro cs x h
  obtain ⟨xs, n, rfl, rfl, hl, hxs, hf⟩ := DataW.trod_struct Tryz.underlying37 h
  have f0 : DataW.trod enc PG W 0 sp held n 3 ((cs.drop 0).take (PG.cellsOf 3)) = xs[0]? := hf 0 _ rfl
  have f1 : DataW.trod enc PG W 0 sp held n 9 ((cs.drop 1).take (PG.cellsOf 9)) = xs[1]? := hf 1 _ rfl
  have f2 : DataW.trod enc PG W 0 sp held n 2 ((cs.drop 2).take (PG.cellsOf 2)) = xs[2]? := hf 2 _ rfl
  have f3 : DataW.trod enc PG W 0 sp held n 34 ((cs.drop 3).take (PG.cellsOf 34)) = xs[3]? := hf 3 _ rfl
  have f4 : DataW.trod enc PG W 0 sp held n 35 ((cs.drop 4).take (PG.cellsOf 35)) = xs[4]? := hf 4 _ rfl
  rw [c37] at hl
  rw [c3] at f0
  rw [c9] at f1
  rw [c2] at f2
  rw [c34] at f3
  rw [c35] at f4
  have hxs : xs.length = 5 := hxs
  clear hf
  match xs, hxs, cs, hl with
  | [x0, x1, x2, x3, x4], _, [v0, v1, v2, v3, v4], _ =>
    obtain ⟨n0, q0, q0', _⟩ := DataW.trod_int Tryz.underlying3 f0
    obtain ⟨s1, q1, q1', _⟩ := DataW.trod_string Tryz.underlying9 f1
    obtain ⟨n2, q2, q2', _⟩ := DataW.trod_int Tryz.underlying2 f2
    obtain ⟨l3, q3, q3'⟩ := read_strs f3
    have f4 : DataW.trod enc PG W 0 sp held n 35 [v4] = some x4 := f4
    simp at q0 q1 q2
    subst q0 q1 q2 q0' q1' q2'
    have hk : ∃ ks : List Expr, VRs (cFirm W) [exprs ks] [v4] ∧ ws ks + 1 ≤ uptoBulk x4.1 := by
      rcases DataW.trod_slice Tryz.underlying35 f4 with ⟨e1, rfl⟩ | ⟨a, len, cap, elems, rest, n', hn', e1, rfl, hb, hl, hm, hlen, hel, hsp, hns⟩
      · have e1 : [v4] = [Value.slice none 0 0] := e1
        rw [e1]
        exact ⟨[], .vcons _ _ _ _ (.slnil _ (.inr (.inl rfl))) .vnil, by simp [uptoBulk, ws]⟩
      · rw [c37] at hel
        obtain ⟨bs, k1, k2, k3⟩ := read_sl (W := W) (emb := Expr.emb) (M := fun e d => e.w ≤ uptoBulk d) (sz := 5) (by decide) (fun cs y hy => ih n' (by omega) cs y hy) (fun b => ⟨emb_flat b, emb_cells b⟩) hlen hl hel
        have e1 : [v4] = [Value.slice (some a) len cap] := e1
        rw [e1]
        refine ⟨bs, .vcons _ _ _ _ k2 .vnil, ?_⟩
        have := bulk_ws k3
        simp only [uptoBulk]
        omega
    obtain ⟨ks, k1, k2⟩ := hk
    refine ⟨⟨n0, s1.data.toList, n2, l3, ks⟩, ?_, ?_⟩
    · rw [Expr.emb_eq]
      refine .vcons _ _ _ _ (.int _ _) (.vcons _ _ _ _ (.str s1) (.vcons _ _ _ _ (.int _ _) ?_))
      exact VRs.append (l := [strs l3]) q3 k1
    · rw [Expr.w_eq]
      simp only [uptoBulk, uptoBulkAll, List.map_cons, List.map_nil]
      omega
end Go.Sy
