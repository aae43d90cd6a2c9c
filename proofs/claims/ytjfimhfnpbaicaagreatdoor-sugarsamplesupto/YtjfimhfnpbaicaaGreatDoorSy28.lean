/- Lemmas: a world in which only new blocks came; what is kept of a call's end; no condition. -/
import Derived.Below
import Derived.Test.YtjfimhfnpbaicaaGreatDoorSy27
namespace Go.Sy
set_option linter.unusedSimpArgs false
set_option linter.unusedVariables false
theorem Inv.below {c : Ctx} {w w' : World} {s : St} (h : Inv c w s) (hb : Go.RowKit.Below w.heap.size w w') : Inv c w' s := by
  have hsz := hb.size
  refine ⟨h.pnd, h.bel, fun b k => Nat.lt_of_lt_of_le (h.base_le b k) hsz, fun b k => ⟨(hb.block b (h.base_le b k)).trans (h.old b k).1, (h.old b k).2⟩, hb.os.trans h.os, hb.output.trans h.out, fun b o v hv => ?_, fun i b hi => ?_, h.free, h.inj, fun i x b hx hi => ?_, fun t b sz cap ht => ?_, h.two, fun t len b sz cap hl ht => ?_⟩
  · have := h.fro b o v hv
    have hlt := World.block_lt_of_cell? w _ this
    simp only [World.cell?] at this ⊢
    rw [hb.block b hlt]; exact this
  · have := h.ids i b hi; exact ⟨this.1, this.2.1, Nat.lt_of_lt_of_le this.2.2 hsz⟩
  · exact (h.obj i x b hx hi).mono (Ctx.le.refl c) (hb.block b (h.ids i b hi).2.2)
  · have := h.tks t b sz cap ht; exact ⟨this.1, this.2.1, Nat.lt_of_lt_of_le this.2.2.1 hsz, this.2.2.2⟩
  · obtain ⟨h1, h2, ⟨vs, el, h3, h4⟩, h5⟩ := h.tok t len b sz cap hl ht
    exact ⟨h1, h2, ⟨vs, el, (hb.block b (h.tks t b sz cap ht).2.2.1).trans h3, h4⟩, h5⟩
/-- of a call's end less is kept -/
theorem Det_gc {P : Program} {f : FuncId} {args : List AV} {v v' : AV} {s' : St} (h : Det P f args ⟨0, [], 0⟩ v s') (hw : Wk v v') (hv : Bel 0 v') : Det P f args ⟨0, [], 0⟩ v' ⟨0, [], 0⟩ := by
  refine ⟨h.1, fun c w vs hI hvs => (h.2 c w vs hI hvs).mono ?_⟩
  rintro e w' ⟨u, c', r, s2, rfl, hle, hI', hr, rfl, rfl⟩
  have hcut := hI'.gc 0 [] 0 fun i x hx => by cases hx
  exact ⟨u, c'.cut 0, _, _, rfl, Ctx.le_cut hle hI.ids_lt hI.tks_lt hI.pnd, hcut, (hw c' u hr).cut hv, rfl, rfl⟩
/-- the texts of a slice, as the machine holds them -/
theorem strs_vals {c : Ctx} : ∀ {l : List (List UInt8)} {vs : List Value}, VRs c (l.map .str) vs → vs = l.map fun b => Value.string ⟨b.toArray⟩
  | [], vs, h => by cases h; rfl
  | x :: l, vs, h => by
    cases h with
    | vcons _ _ v vs h1 h2 =>
      cases h1
      rw [List.map_cons, strs_vals h2]
theorem strs_flatMap (l : List (List UInt8)) : (l.map AV.str).flatMap AV.cells = l.map AV.str := by
  induction l with
  | nil => rfl
  | cons x l ih => rw [List.map_cons, List.flatMap_cons, ih]; rfl
end Go.Sy
