/- Lemmas: from a world as a row gives it to the abstract state: all cells are firm; no condition. -/
import Derived.Test.YtjfimhfnpbaicaaGreatDoorRows
import Derived.Test.YtjfimhfnpbaicaaGreatDoorSp
import Derived.ChangeSame
import Derived.SliceStrings
namespace Go.Sy
open Go.Proofs Go.WideShapes Go.ChangeShapes
set_option linter.unusedSimpArgs false
set_option linter.unusedVariables false
def cFirm (W : World) : Ctx := { keep := fun b => b < W.heap.size, heap0 := fun b => (W.heap[b]?, fun o => W.cell? ⟨b, o, none⟩), os := W.os, out := W.output, ι := fun _ => none, τ := fun _ => none, f := fun b o => W.cell? ⟨b, o, none⟩, pend := fun _ => false }
theorem inv_firm (W : World) : Inv (cFirm W) W ⟨0, [], 0⟩ where
  pnd := fun i h => by cases h
  bel := fun i x h => by cases h
  base_le := fun b h => h
  old := fun b h => ⟨rfl, fun o => rfl⟩
  os := rfl
  out := rfl
  fro := fun b o v h => h
  ids := fun i b h => by cases h
  free := fun i x b h => by cases h
  inj := fun i j b h => by cases h
  obj := fun i x b h => by cases h
  tks := fun t b sz cap h => by cases h
  two := fun t t' b sz cap sz' cap' len len' h => by cases h
  tok := fun t len b sz cap h => by cases h
/-- all below the old end is as it was -/
theorem inv_old {W W' : World} {c' : Ctx} {s : St} (hle : (cFirm W).le c') (hI : Inv c' W' s) : W'.os = W.os ∧ W'.output = W.output ∧ ∀ b, b < W.heap.size → W'.heap[b]? = W.heap[b]? := by
  refine ⟨hI.os.trans hle.os, hI.out.trans hle.out, fun b hb => ?_⟩
  have hk : c'.keep b := by rw [hle.base]; exact hb
  have := (hI.old b hk).1
  rw [hle.heap0] at this
  exact this
theorem cells_get {W : World} {a : Addr} {n : Nat} {cs : List Value} (h : W.cells? 0 a n = some cs) : cs.length = n ∧ ∀ j, j < n → W.cell? (a.add j) = cs[j]? := by
  unfold World.cells? at h
  rw [if_pos (Nat.zero_le _)] at h
  refine ⟨by simpa using mapM_some_length h, fun j hj => ?_⟩
  exact mapM_some_get h j j (by simp [hj])
def All2 {α β : Type} (M : α → β → Prop) : List α → List β → Prop
  | [], [] => True
  | a :: l, b :: m => M a b ∧ All2 M l m
  | _, _ => False
/-- a slice as a row reads it -/
theorem read_sl {H : Type} {W : World} {β : Type} {f : List Value → Option (DataW H × List MemPlace)} {emb : β → AV} {M : β → DataW H → Prop} {sz : Nat} (hsz : 0 < sz)
    (hf : ∀ cs y, f cs = some y → ∃ b : β, VRs (cFirm W) (emb b).cells cs ∧ M b y.1) (hb : ∀ b, (emb b).flat = true ∧ (emb b).cells.length = sz)
    {a : Addr} {len cap : Nat} {elems : List (DataW H × List MemPlace)} (hl : elems.length = len) (hcap : len ≤ cap) (hel : ∀ i, i < len → (W.cells? 0 (a.add (i * sz)) sz).bind f = elems[i]?) :
    ∃ bs : List β, bs.length = len ∧ VR (cFirm W) (.sl .fro (bs.map emb)) (.slice (some a) len cap) ∧ All2 M bs (elems.map (·.1)) := by
  rcases Nat.eq_zero_or_pos len with h0 | hpos
  · subst h0
    have : elems = [] := List.length_eq_zero_iff.1 hl
    subst this
    exact ⟨[], rfl, .sle .fro a cap (.inl rfl), trivial⟩
  · have one : ∀ i, i < len → ∃ cs y, W.cells? 0 (a.add (i * sz)) sz = some cs ∧ f cs = some y ∧ elems[i]? = some y := by
      intro i hi
      have h := hel i hi
      rw [List.getElem?_eq_getElem (by omega : i < elems.length)] at h
      obtain ⟨cs, h1, h2⟩ := Option.bind_eq_some_iff.1 h
      exact ⟨cs, _, h1, h2, List.getElem?_eq_getElem (by omega)⟩
    have hspot : a = ⟨a.block, a.off, none⟩ := by
      obtain ⟨cs, y, h1, _, _⟩ := one 0 hpos
      obtain ⟨g1, g2⟩ := cells_get h1
      have g3 := g2 0 hsz
      rw [List.getElem?_eq_getElem (by omega : 0 < cs.length)] at g3
      have := World.cell?_spot g3
      simp [Addr.add] at this
      obtain ⟨b, o, s⟩ := a
      simp at this
      rw [this]
    have key : ∀ k, k ≤ len → ∃ bs : List β, bs.length = k ∧ Rep (cFirm W) (.els sz (bs.map emb) a.block (a.off + (len - k) * sz)) ∧ All2 M bs ((elems.drop (len - k)).map (·.1)) := by
      intro k
      induction k with
      | zero => intro _; exact ⟨[], rfl, .enil _ _ _, by rw [Nat.sub_zero, List.drop_of_length_le (by omega)]; exact True.intro⟩
      | succ k ih =>
        intro hk
        obtain ⟨bs, e1, e2, e3⟩ := ih (by omega)
        obtain ⟨cs, y, h1, h2, h3⟩ := one (len - (k + 1)) (by omega)
        obtain ⟨b, m1, m2⟩ := hf cs y h2
        obtain ⟨g1, g2⟩ := cells_get h1
        refine ⟨b :: bs, by simp [e1], .econs sz _ _ _ _ (hb b).2 (hb b).1 (cellsR_mk m1 fun j v hj => ?_) ?_, ?_⟩
        · have hjl : j < sz := by have := (List.getElem?_eq_some_iff.1 hj).1; omega
          have g3 := (g2 j hjl).trans hj
          show W.cell? ⟨a.block, a.off + (len - (k + 1)) * sz + j, none⟩ = some v
          have : (a.add ((len - (k + 1)) * sz)).add j = ⟨a.block, a.off + (len - (k + 1)) * sz + j, none⟩ := by
            rw [hspot, addr_add, addr_add]
          rw [this] at g3
          exact g3
        · have : a.off + (len - (k + 1)) * sz + sz = a.off + (len - k) * sz := by
            have : len - k = (len - (k + 1)) + 1 := by omega
            rw [this, Nat.add_mul]; omega
          rw [this]; exact e2
        · have hd : elems.drop (len - (k + 1)) = y :: elems.drop (len - k) := by
            have hlt : len - (k + 1) < elems.length := by omega
            rw [List.drop_eq_getElem_cons hlt]
            have : elems[len - (k + 1)] = y := by
              rw [List.getElem?_eq_getElem hlt] at h3; exact Option.some.inj h3
            rw [this]
            congr 2
            omega
          rw [hd]
          exact ⟨m2, e3⟩
    obtain ⟨bs, e1, e2, e3⟩ := key len (Nat.le_refl _)
    refine ⟨bs, e1, ?_, by simpa using e3⟩
    rw [hspot]
    have := Rep.sl (c := cFirm W) .fro (bs.map emb) a.block a.off cap sz (by simp) (by simpa using e2) (by simpa [e1] using hcap) ⟨by simp, by simp⟩ (by simp)
    simpa [e1] using this
end Go.Sy
