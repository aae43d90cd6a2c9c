/- Lemmas about given functions: strings.Join of firm texts; no condition but sizes. -/
import Derived.Test.YtjfimhfnpbaicaaGreatDoorSj
import Derived.Test.YtjfimhfnpbaicaaGreatDoorSy28
import Derived.Test.YtjfimhfnpbaicaaGreatDoorSe1
namespace Go.Sy
open Go.Proofs
set_option linter.unusedSimpArgs false
set_option linter.unusedVariables false
theorem join_det (k : SK) (l : List Bytes) (sep : Bytes) (hl : l.length ≤ 140737488355328) (hj : (Lib.join l sep).length ≤ 140737488355328) (s : St) :
    Det PG 82 [.sl k (l.map .str), .str sep] s (.str (Lib.join l sep)) s := by
  refine ⟨⟨_, Go.Proofs.Tryz.func82, rfl, rfl⟩, fun c w vs hI hv => ?_⟩
  obtain ⟨vs⟩ := vs
  cases hv with
  | vcons _ _ v1 vs h1 h2 =>
  cases h2 with
  | vcons _ _ v2 vs h2 h3 =>
  cases h3
  cases h2
  rename_i sp
  generalize hx : l.map AV.str = xs at h1
  cases h1 with
  | sle _ ad cap _ =>
    have : l = [] := by simpa using hx
    subst this
    refine (Tryz.strings_Join_none _ cap sp w).mono ?_
    rintro e w' ⟨rfl, rfl⟩
    exact ⟨_, c, _, s, rfl, Ctx.le.refl c, hI, Rep.str ⟨#[]⟩, rfl, rfl⟩
  | slnil _ _ =>
    have : l = [] := by simpa using hx
    subst this
    refine (Tryz.strings_Join_none none 0 sp w).mono ?_
    rintro e w' ⟨rfl, rfl⟩
    exact ⟨_, c, _, s, rfl, Ctx.le.refl c, hI, Rep.str ⟨#[]⟩, rfl, rfl⟩
  | sl _ _ b o cap sz k1 k2 k3 k4 k5 =>
    subst hx
    cases l with
    | nil =>
      refine (Tryz.strings_Join_none _ cap sp w).mono ?_
      rintro e w' ⟨rfl, rfl⟩
      exact ⟨_, c, _, s, rfl, Ctx.le.refl c, hI, Rep.str ⟨#[]⟩, rfl, rfl⟩
    | cons x l =>
      obtain ⟨g1, g2⟩ := els_cells k2
      rw [strs_flatMap] at g1
      obtain ⟨us, u1, u2⟩ := cellsR g1
      have hus := strs_vals u1
      have hcell : ∀ (j : Nat) y, ((x :: l).map fun b => (⟨b.toArray⟩ : ByteArray))[j]? = some y → w.cell? ⟨b, o + j, none⟩ = some (.string y) := by
        intro j y hy
        refine hI.fro b (o + j) _ (u2 j _ ?_)
        rw [hus]
        rw [List.getElem?_map] at hy ⊢
        cases h : (x :: l)[j]? with
        | none => rw [h] at hy; cases hy
        | some z => rw [h] at hy; cases hy; rfl
      have hb : b < w.heap.size := World.block_lt_of_cell? w _ (hcell 0 ⟨x.toArray⟩ rfl)
      have hm : ((x :: l).map fun b => (⟨b.toArray⟩ : ByteArray)).map (·.data.toList) = x :: l := by simp [List.map_map, Function.comp_def]
      have hJ := Tryz.strings_Join b o cap ((x :: l).map fun b => (⟨b.toArray⟩ : ByteArray)) sp w hcell hb (by simpa using hl) (by simpa using k3) (by rw [hm]; exact hj)
      rw [hm] at hJ
      rw [show ((x :: l).map fun b => (⟨b.toArray⟩ : ByteArray)).length = ((x :: l).map AV.str).length by simp] at hJ
      refine hJ.mono ?_
      rintro e w' ⟨rfl, hbel⟩
      refine ⟨_, c, _, s, rfl, Ctx.le.refl c, hI.below hbel, ?_, rfl, rfl⟩
      have := Rep.str (c := c) ⟨(Lib.join (x :: l) sp.data.toList).toArray⟩
      simpa using this
end Go.Sy
