/- Lemmas: the abstract state, how it stands for a world, and what each kind of step does to both; no condition. -/
import Derived.Test.YtjfimhfnpbaicaaGreatDoorSy0
import Derived.Laws.CopyRow
set_option linter.unusedSimpArgs false
set_option linter.unusedVariables false
namespace Go.Sy

inductive AObj where
  | cells (cs : List AV)
  | map (es : List (AV × AV))
  | tok (len : Nat)
  | dead
  deriving Inhabited

structure St where
  n : Nat
  objs : List (Nat × AObj)
  /-- what has been written since is not below -/
  lo : Nat := 0

def aget : List (Nat × AObj) → Nat → Option AObj
  | [], _ => none
  | (j, x) :: r, i => cond (Nat.beq j i) (some x) (aget r i)
def aset : List (Nat × AObj) → Nat → AObj → List (Nat × AObj)
  | [], _, _ => []
  | (j, x) :: r, i, y => cond (Nat.beq j i) ((j, y) :: r) ((j, x) :: aset r i y)

theorem beq_of {j i : Nat} (h : j = i) : Nat.beq j i = true := by subst h; exact Nat.beq_refl j
theorem beq_ne {j i : Nat} (h : j ≠ i) : Nat.beq j i = false := by
  cases e : Nat.beq j i with
  | false => rfl
  | true => exact absurd (Nat.eq_of_beq_eq_true e) h
theorem aget_cons_same (i : Nat) (x : AObj) (r : List (Nat × AObj)) : aget ((i, x) :: r) i = some x := by simp [aget, beq_of]
theorem aget_cons_ne {j i : Nat} (h : j ≠ i) (x : AObj) (r : List (Nat × AObj)) : aget ((j, x) :: r) i = aget r i := by simp [aget, beq_ne h]
theorem aget_aset_ne {k i : Nat} (h : k ≠ i) (y : AObj) : ∀ l : List (Nat × AObj), aget (aset l k y) i = aget l i
  | [] => rfl
  | (j, x) :: r => by
    by_cases e : j = k
    · subst e; simp [aset, beq_of, aget, beq_ne h]
    · simp only [aset, beq_ne e, cond_false, aget]
      rw [aget_aset_ne h y r]
theorem aget_aset_same {k : Nat} (y : AObj) : ∀ (l : List (Nat × AObj)) (x : AObj), aget l k = some x → aget (aset l k y) k = some y
  | [], x, h => by cases h
  | (j, z) :: r, x, h => by
    by_cases e : j = k
    · subst e; simp [aset, beq_of, aget]
    · simp only [aset, beq_ne e, cond_false, aget] at h ⊢
      exact aget_aset_same y r x h

inductive Ents (c : Ctx) : List (AV × AV) → List MapEntry → Prop where
  | nil : Ents c [] []
  | cons (k v : AV) (es : List (AV × AV)) (e : MapEntry) (l : List MapEntry) : VR c k e.key → VR c v e.val → Ents c es l → Ents c ((k, v) :: es) (e :: l)
theorem Ents.mono {c c' : Ctx} (h : c.le c') {es : List (AV × AV)} {l : List MapEntry} (g : Ents c es l) : Ents c' es l := by
  induction g with
  | nil => exact .nil
  | cons k v es e l h1 h2 _ ih => exact .cons k v es e l (h1.mono h) (h2.mono h) ih

def OObj (c : Ctx) (w : World) (b : Nat) : AObj → Prop
  | .cells cs => ∃ (vs : Array Value) (elem : TypeId), w.heap[b]? = some (.cells vs elem (0, 0)) ∧ VRs c cs vs.toList
  | .map es => ∃ (ents : Array MapEntry) (clock : Nat), w.heap[b]? = some (.map ents clock) ∧ Ents c es ents.toList
  | .tok _ => False
  | .dead => True
/-- one that is still looked at -/
def AObj.live : AObj → Bool
  | .cells _ | .map _ => true
  | _ => false

def OBel (n : Nat) : AObj → Prop
  | .cells cs => ∀ x ∈ cs, Bel n x
  | .map es => ∀ x ∈ es, Bel n x.1 ∧ Bel n x.2
  | .tok _ | .dead => True
theorem OBel.mono {n m : Nat} (h : n ≤ m) {x : AObj} (g : OBel n x) : OBel m x := by
  cases x with
  | cells cs => exact fun y hy => (g y hy).mono h
  | map es => exact fun y hy => ⟨(g y hy).1.mono h, (g y hy).2.mono h⟩
  | tok _ => trivial
  | dead => trivial

structure Inv (c : Ctx) (w : World) (s : St) : Prop where
  pnd : ∀ i, c.pend i = true → i < s.n
  bel : ∀ i x, aget s.objs i = some x → i < s.n ∧ OBel s.n x
  base_le : ∀ b, c.keep b → b < w.heap.size
  old : ∀ b, c.keep b → w.heap[b]? = (c.heap0 b).1 ∧ ∀ o, c.f b o = (c.heap0 b).2 o
  os : w.os = c.os
  out : w.output = c.out
  fro : ∀ b o v, c.f b o = some v → w.cell? ⟨b, o, none⟩ = some v
  ids : ∀ i b, c.ι i = some b → i < s.n ∧ ¬ c.keep b ∧ b < w.heap.size
  free : ∀ i x b, aget s.objs i = some x → x.live = true → c.ι i = some b → ∀ o, c.f b o = none
  inj : ∀ i j b, c.ι i = some b → c.ι j = some b → i = j
  obj : ∀ i x b, aget s.objs i = some x → c.ι i = some b → OObj c w b x
  tks : ∀ t b sz cap, c.τ t = some (b, sz, cap) → t < s.n ∧ ¬ c.keep b ∧ b < w.heap.size ∧ (∀ i, c.ι i ≠ some b)
  two : ∀ t t' b sz cap sz' cap' len len', c.τ t = some (b, sz, cap) → c.τ t' = some (b, sz', cap') → aget s.objs t = some (.tok len) → aget s.objs t' = some (.tok len') → t = t'
  tok : ∀ t len b sz cap, aget s.objs t = some (.tok len) → c.τ t = some (b, sz, cap) →
    len ≤ cap ∧ 0 < sz ∧ (∃ (vs : Array Value) (elem : TypeId), w.heap[b]? = some (.cells vs elem (0, 0)) ∧ cap * sz ≤ vs.size) ∧ ∀ p, len * sz ≤ p → c.f b p = none

theorem OObj.mono {c c' : Ctx} {w w' : World} {b : Nat} {x : AObj} (h : c.le c') (hb : w'.heap[b]? = w.heap[b]?) (g : OObj c w b x) : OObj c' w' b x := by
  cases x with
  | cells cs => obtain ⟨vs, e, h1, h2⟩ := g; exact ⟨vs, e, hb.trans h1, h2.mono h⟩
  | map es => obtain ⟨vs, e, h1, h2⟩ := g; exact ⟨vs, e, hb.trans h1, h2.mono h⟩
  | tok _ => exact g
  | dead => exact g

/-- a world that only drew -/
theorem Inv.drew {c : Ctx} {w : World} {s : St} (h : Inv c w s) : Inv c w.drew s :=
  ⟨h.pnd, h.bel, h.base_le, h.old, h.os, h.out, h.fro, h.ids, h.free, h.inj, h.obj, h.tks, h.two, h.tok⟩

theorem cell_alloc {w : World} (o : Obj) {b p : Nat} {v : Value} (h : w.cell? ⟨b, p, none⟩ = some v) : (w.alloc o).cell? ⟨b, p, none⟩ = some v := by
  rw [World.cell?_alloc_lt w o ⟨b, p, none⟩ (World.block_lt_of_cell? w _ h)]; exact h

/-- an id more, that nothing stands for yet -/
theorem Inv.push {c : Ctx} {w : World} {s : St} (h : Inv c w s) (x : AObj) (hx : OBel s.n x) : Inv c w { n := s.n + 1, objs := (s.n, x) :: s.objs, lo := s.lo } := by
  refine ⟨fun i hi => Nat.lt_succ_of_lt (h.pnd i hi), fun i y hy => ?_, h.base_le, h.old, h.os, h.out, h.fro, fun i b hi => ?_, fun i y b hy hv hi => ?_, h.inj, fun i y b hy hi => ?_, fun t b sz cap ht => ?_, fun t t' b sz cap sz' cap' len len' ht ht' hl hl' => ?_, fun t len b sz cap hl ht => ?_⟩
  · by_cases e : s.n = i
    · subst e; rw [aget_cons_same] at hy; cases hy; exact ⟨Nat.lt_succ_self _, hx.mono (Nat.le_succ _)⟩
    · rw [aget_cons_ne e] at hy; exact ⟨Nat.lt_succ_of_lt (h.bel i y hy).1, (h.bel i y hy).2.mono (Nat.le_succ _)⟩
  · have := h.ids i b hi; exact ⟨by show i < s.n + 1; omega, this.2⟩
  · have hlt := (h.ids i b hi).1
    rw [aget_cons_ne (by omega)] at hy
    exact h.free i y b hy hv hi
  · have hlt := (h.ids i b hi).1
    rw [aget_cons_ne (by omega)] at hy
    exact h.obj i y b hy hi
  · have := h.tks t b sz cap ht; exact ⟨by show t < s.n + 1; omega, this.2⟩
  · have h1 := (h.tks t b sz cap ht).1
    have h2 := (h.tks t' b sz' cap' ht').1
    rw [aget_cons_ne (by omega)] at hl hl'
    exact h.two t t' b sz cap sz' cap' len len' ht ht' hl hl'
  · have hlt := (h.tks t b sz cap ht).1
    rw [aget_cons_ne (by omega)] at hl
    exact h.tok t len b sz cap hl ht

def Ctx.bind (c : Ctx) (i b : Nat) : Ctx := { c with ι := fun j => if j = i then some b else c.ι j }
def Ctx.frz (c : Ctx) (b : Nat) (g : Nat → Option Value) : Ctx := { c with f := fun b' o => if b' = b then g o else c.f b' o }
def Ctx.own (c : Ctx) (t : Nat) (q : Nat × Nat × Nat) : Ctx := { c with τ := fun j => if j = t then some q else c.τ j }

theorem Ctx.le_bind {c : Ctx} {i b : Nat} (h : c.ι i = none) (hp : c.pend i = false) : c.le (c.bind i b) :=
  ⟨rfl, rfl, rfl, rfl, fun j b' hj => by simp only [Ctx.bind]; rw [if_neg (fun e => by subst e; rw [h] at hj; cases hj)]; exact hj, fun _ _ x => x, fun _ _ _ x => x, fun j hj => ⟨hj, by simp only [Ctx.bind]; rw [if_neg (fun e => by subst e; rw [hp] at hj; cases hj)]⟩⟩
theorem Ctx.le_own {c : Ctx} {t : Nat} {q : Nat × Nat × Nat} (h : c.τ t = none) : c.le (c.own t q) :=
  ⟨rfl, rfl, rfl, rfl, fun _ _ x => x, fun j q' hj => by simp only [Ctx.own]; rw [if_neg (fun e => by subst e; rw [h] at hj; cases hj)]; exact hj, fun _ _ _ x => x, fun _ x => ⟨x, rfl⟩⟩
theorem Ctx.le_frz {c : Ctx} {b : Nat} {g : Nat → Option Value} (h : ∀ o v, c.f b o = some v → g o = some v) : c.le (c.frz b g) :=
  ⟨rfl, rfl, rfl, rfl, fun _ _ x => x, fun _ _ x => x, fun b' o v hv => by
    simp only [Ctx.frz]; split
    · subst_vars; exact h o v hv
    · exact hv, fun _ x => ⟨x, rfl⟩⟩

theorem Inv.f_new {c : Ctx} {w : World} {s : St} (h : Inv c w s) {b : Nat} (hb : w.heap.size ≤ b) (o : Nat) : c.f b o = none := by
  cases e : c.f b o with
  | none => rfl
  | some v => have := World.block_lt_of_cell? w _ (h.fro b o v e); simp at this; omega

/-- a new block of cells for an id that had none -/
theorem Inv.bindNew {c : Ctx} {w : World} {s : St} (h : Inv c w s) {i : Nat} {x : AObj} {o : Obj} (hi : i < s.n) (hn : c.ι i = none) (hx : aget s.objs i = some x) (hp : c.pend i = false)
    (ho : ∀ (c' : Ctx) (w' : World), c.le c' → w'.heap[w.heap.size]? = some o → OObj c' w' w.heap.size x) : Inv (c.bind i w.heap.size) (w.alloc o) s := by
  have hle := Ctx.le_bind (b := w.heap.size) hn hp
  have hold : ∀ b, b < w.heap.size → (w.alloc o).heap[b]? = w.heap[b]? := fun b hb => heap_alloc_old w o b hb
  refine ⟨h.pnd, h.bel, fun b hb => by have := h.base_le b hb; simp; omega, fun b hb => ⟨(hold b (h.base_le b hb)).trans (h.old b hb).1, (h.old b hb).2⟩, h.os, h.out, fun b p v hv => cell_alloc o (h.fro b p v hv), fun j b hj => ?_, fun j y b hy hv hj => ?_, fun j k b hj hk => ?_, fun j y b hy hj => ?_, fun t b sz cap ht => ?_, h.two, fun t len b sz cap hl ht => ?_⟩
  · simp only [Ctx.bind] at hj ⊢
    split at hj
    · cases hj; subst_vars; exact ⟨hi, fun hk => Nat.lt_irrefl _ (h.base_le _ hk), by simp⟩
    · have := h.ids j b hj; exact ⟨this.1, this.2.1, by simp; omega⟩
  · simp only [Ctx.bind] at hj ⊢
    split at hj
    · cases hj; exact fun p => h.f_new (Nat.le_refl _) p
    · exact h.free j y b hy hv hj
  · simp only [Ctx.bind] at hj hk
    split at hj <;> split at hk
    · subst_vars; rfl
    · cases hj; have := (h.ids k _ hk).2.2; omega
    · cases hk; have := (h.ids j _ hj).2.2; omega
    · exact h.inj j k b hj hk
  · simp only [Ctx.bind] at hj
    split at hj
    · cases hj; subst_vars
      rw [hx] at hy; cases hy
      exact ho _ _ hle (heap_alloc_new w o)
    · exact (h.obj j y b hy hj).mono hle (hold b (h.ids j b hj).2.2)
  · obtain ⟨h1, h2, h3, h4⟩ := h.tks t b sz cap ht
    refine ⟨h1, h2, by simp; omega, fun j hj => ?_⟩
    simp only [Ctx.bind] at hj
    split at hj
    · cases hj; omega
    · exact h4 j hj
  · obtain ⟨h1, h2, ⟨vs, el, h3, h4⟩, h5⟩ := h.tok t len b sz cap hl ht
    exact ⟨h1, h2, ⟨vs, el, (hold b (h.tks t b sz cap ht).2.2.1).trans h3, h4⟩, h5⟩

/-- a new block that nothing stands for -/
theorem Inv.alloc {c : Ctx} {w : World} {s : St} (h : Inv c w s) (o : Obj) : Inv c (w.alloc o) s := by
  have hold : ∀ b, b < w.heap.size → (w.alloc o).heap[b]? = w.heap[b]? := fun b hb => heap_alloc_old w o b hb
  refine ⟨h.pnd, h.bel, fun b hb => by have := h.base_le b hb; simp; omega, fun b hb => ⟨(hold b (h.base_le b hb)).trans (h.old b hb).1, (h.old b hb).2⟩, h.os, h.out, fun b p v hv => cell_alloc o (h.fro b p v hv), fun j b hj => ?_, h.free, h.inj, fun j y b hy hj => (h.obj j y b hy hj).mono (Ctx.le.refl c) (hold b (h.ids j b hj).2.2), fun t b sz cap ht => ?_, h.two, fun t len b sz cap hl ht => ?_⟩
  · have := h.ids j b hj; exact ⟨this.1, this.2.1, by simp; omega⟩
  · obtain ⟨h1, h2, h3, h4⟩ := h.tks t b sz cap ht
    exact ⟨h1, h2, by simp; omega, h4⟩
  · obtain ⟨h1, h2, ⟨vs, el, h3, h4⟩, h5⟩ := h.tok t len b sz cap hl ht
    exact ⟨h1, h2, ⟨vs, el, (hold b (h.tks t b sz cap ht).2.2.1).trans h3, h4⟩, h5⟩

/-- cells of a block that is nobody's object become firm -/
theorem Inv.frz {c : Ctx} {w : World} {s : St} (h : Inv c w s) (b : Nat) (g : Nat → Option Value) (hg : ∀ o v, g o = some v → w.cell? ⟨b, o, none⟩ = some v)
    (hk : ¬ c.keep b) (hι : ∀ i x, aget s.objs i = some x → x.live = true → c.ι i ≠ some b) (hτ : ∀ t sz cap len, c.τ t = some (b, sz, cap) → aget s.objs t = some (.tok len) → ∀ p, len * sz ≤ p → g p = none) (hle : c.le (c.frz b g)) : Inv (c.frz b g) w s := by
  refine ⟨h.pnd, h.bel, h.base_le, fun b' hb => ⟨(h.old b' hb).1, ?_⟩, h.os, h.out, fun b' p v hv => ?_, h.ids, fun j y b' hy hv hj => ?_, h.inj, fun j y b' hy hj => (h.obj j y b' hy hj).mono hle rfl, h.tks, h.two, fun t len b' sz cap hl ht => ?_⟩
  · intro o
    simp only [Ctx.frz]
    rw [if_neg (fun e => by subst e; exact hk hb)]
    exact (h.old b' hb).2 o
  · simp only [Ctx.frz] at hv
    split at hv
    · subst_vars; exact hg p v hv
    · exact h.fro b' p v hv
  · intro p
    simp only [Ctx.frz]
    rw [if_neg (fun e => by subst e; exact hι j y hy hv hj)]
    exact h.free j y b' hy hv hj p
  · obtain ⟨h1, h2, h3, h5⟩ := h.tok t len b' sz cap hl ht
    refine ⟨h1, h2, h3, fun p hp => ?_⟩
    simp only [Ctx.frz]
    split
    · subst_vars; exact hτ t sz cap len ht hl p hp
    · exact h5 p hp

/-- a new block, all of it firm from the start -/
theorem Inv.allocFirm {c : Ctx} {w : World} {s : St} (h : Inv c w s) (vs : Array Value) (elem : TypeId) (n : Nat) :
    c.le (c.frz w.heap.size fun o => if o < n then vs[o]? else none) ∧ Inv (c.frz w.heap.size fun o => if o < n then vs[o]? else none) (w.alloc (.cells vs elem)) s := by
  have hle : c.le (c.frz w.heap.size fun o => if o < n then vs[o]? else none) := Ctx.le_frz fun o v hv => by rw [h.f_new (Nat.le_refl _) o] at hv; cases hv
  refine ⟨hle, (h.alloc (.cells vs elem)).frz _ _ (fun o v hv => ?_) (fun hk => Nat.lt_irrefl _ (h.base_le _ hk)) (fun i x _ _ hi => ?_) (fun t sz cap len ht _ => ?_) hle⟩
  · split at hv
    · rw [World.cell?_alloc_new]; exact hv
    · cases hv
  · have := (h.ids i _ hi).2.2; omega
  · have := (h.tks t _ sz cap ht).2.2.1; omega

theorem Ents.bel {c : Ctx} {n : Nat} (hi : ∀ i b, c.ι i = some b → i < n) (ht : ∀ t q, c.τ t = some q → t < n) {es : List (AV × AV)} {l : List MapEntry} (g : Ents c es l) :
    ∀ x ∈ es, Bel n x.1 ∧ Bel n x.2 := by
  induction g with
  | nil => intro x hx; cases hx
  | cons k v es e l h1 h2 _ ih =>
    intro x hx
    rcases List.mem_cons.1 hx with rfl | hx
    · exact ⟨Rep.bel hi ht h1, Rep.bel hi ht h2⟩
    · exact ih x hx
theorem OObj.bel {c : Ctx} {w w' : World} {s : St} {b : Nat} {x : AObj} (g : OObj c w' b x) (h : Inv c w s) : OBel s.n x := by
  have hi : ∀ i b, c.ι i = some b → i < s.n := fun i b e => (h.ids i b e).1
  have ht : ∀ t q, c.τ t = some q → t < s.n := fun t q e => (h.tks t q.1 q.2.1 q.2.2 e).1
  cases x with
  | cells cs => obtain ⟨vs, e, h1, h2⟩ := g; exact Rep.bel hi ht h2
  | map es => obtain ⟨vs, e, h1, h2⟩ := g; exact h2.bel hi ht
  | tok _ => trivial
  | dead => trivial
/-- what an object holds is turned -/
theorem Inv.turn {c : Ctx} {w w' : World} {s : St} (h : Inv c w s) {i b : Nat} {x x' : AObj} (hx : aget s.objs i = some x) (hlive : x.live = true) (hi : c.ι i = some b)
    (hsz : w'.heap.size = w.heap.size) (hother : ∀ k, k ≠ b → w'.heap[k]? = w.heap[k]?) (hos : w'.os = w.os) (hout : w'.output = w.output) (ho : OObj c w' b x') (e : Nat) : Inv c w' { n := s.n, objs := aset s.objs i x', lo := e } := by
  obtain ⟨i1, i2, i3⟩ := h.ids i b hi
  have i4 := h.free i x b hx hlive hi
  have hb' : OBel s.n x' := ho.bel h
  refine ⟨h.pnd, fun j y hy => ?_, by rw [hsz]; exact h.base_le, fun k hk => ⟨(hother k fun e => i2 (e ▸ hk)).trans (h.old k hk).1, (h.old k hk).2⟩, hos.trans h.os, hout.trans h.out, fun b' p v hv => ?_, fun j b' hj => ?_, fun j y b' hy hv hj => ?_, h.inj, fun j y b' hy hj => ?_, fun t b' sz cap ht => ?_, fun t t' b' sz cap sz' cap' len len' ht ht' hl hl' => ?_, fun t len b' sz cap hl ht => ?_⟩
  · by_cases e : i = j
    · subst e; rw [aget_aset_same x' s.objs x hx] at hy; cases hy; exact ⟨i1, hb'⟩
    · rw [aget_aset_ne e] at hy; exact h.bel j y hy
  · have hne : b' ≠ b := fun e => by subst e; rw [i4 p] at hv; cases hv
    have := h.fro b' p v hv
    simp only [World.cell?] at this ⊢
    rw [hother b' hne]; exact this
  · rw [hsz]; exact h.ids j b' hj
  · by_cases e : i = j
    · subst e
      rw [hi] at hj; cases hj
      exact i4
    · rw [aget_aset_ne e] at hy; exact h.free j y b' hy hv hj
  · by_cases e : i = j
    · subst e
      rw [hi] at hj; cases hj
      rw [aget_aset_same x' s.objs x hx] at hy; cases hy
      exact ho
    · rw [aget_aset_ne e] at hy
      exact (h.obj j y b' hy hj).mono (Ctx.le.refl c) (hother b' fun e' => by subst e'; exact e (h.inj i j _ hi hj))
  · rw [hsz]; exact h.tks t b' sz cap ht
  · have hni : ∀ j l, aget (aset s.objs i x') j = some (.tok l) → aget s.objs j = some (.tok l) := by
      intro j l hj
      by_cases e : i = j
      · subst e
        rw [aget_aset_same x' s.objs x hx] at hj; cases hj
        exact ho.elim
      · rwa [aget_aset_ne e] at hj
    exact h.two t t' b' sz cap sz' cap' len len' ht ht' (hni _ _ hl) (hni _ _ hl')
  · obtain ⟨t1, t2, t3, t4⟩ := h.tks t b' sz cap ht
    have hne : b' ≠ b := fun e => by subst e; exact t4 i hi
    have hit : i ≠ t := by
      intro e; subst e
      rw [aget_aset_same x' s.objs x hx] at hl; cases hl
      exact ho
    rw [aget_aset_ne hit] at hl
    obtain ⟨h1, h2, ⟨vs, el, h3, h4⟩, h5⟩ := h.tok t len b' sz cap hl ht
    exact ⟨h1, h2, ⟨vs, el, (hother b' hne).trans h3, h4⟩, h5⟩

/-- what stands behind a call: ids from n0 on are forgotten -/
theorem Inv.gc {c : Ctx} {w : World} {s : St} (h : Inv c w s) (n0 : Nat) (objs : List (Nat × AObj)) (e : Nat) (hsub : ∀ i x, aget objs i = some x → i < n0 ∧ OBel n0 x ∧ aget s.objs i = some x) :
    Inv (c.cut n0) w { n := n0, objs := objs, lo := e } := by
  refine ⟨fun i hi => by simp only [Ctx.cut, Bool.and_eq_true, Nat.blt, Nat.ble_eq] at hi; exact hi.2, fun i x hx => ⟨(hsub i x hx).1, (hsub i x hx).2.1⟩, h.base_le, h.old, h.os, h.out, h.fro, fun i b hi => ?_, fun i x b hx hv hi => ?_, fun i j b hi hj => ?_, fun i x b hx hi => ?_, fun t b sz cap ht => ?_, fun t t' b sz cap sz' cap' len len' ht ht' hl hl' => ?_, fun t len b sz cap hl ht => ?_⟩
  · simp only [Ctx.cut] at hi
    split at hi
    · exact ⟨by assumption, (h.ids i b hi).2⟩
    · cases hi
  · obtain ⟨h1, h2, h3⟩ := hsub i x hx
    simp only [Ctx.cut] at hi
    rw [if_pos h1] at hi
    exact h.free i x b h3 hv hi
  · simp only [Ctx.cut] at hi hj
    split at hi <;> split at hj
    · exact h.inj i j b hi hj
    all_goals first | cases hi | cases hj
  · obtain ⟨h1, h2, h3⟩ := hsub i x hx
    simp only [Ctx.cut] at hi
    rw [if_pos h1] at hi
    have ho := h.obj i x b h3 hi
    cases x with
    | cells cs => obtain ⟨vs, el, g1, g2⟩ := ho; exact ⟨vs, el, g1, g2.cut h2⟩
    | map es =>
      obtain ⟨vs, el, g1, g2⟩ := ho
      refine ⟨vs, el, g1, ?_⟩
      clear g1 h3 hx hsub
      generalize vs.toList = l at g2
      induction g2 with
      | nil => exact .nil
      | cons k v es e l a1 a2 _ ih => exact .cons k v es e l (a1.cut (h2 (k, v) (by simp)).1) (a2.cut (h2 (k, v) (by simp)).2) (ih fun y hy => h2 y (by simp [hy]))
    | tok _ => exact ho
    | dead => exact ho
  · simp only [Ctx.cut] at ht
    split at ht
    · obtain ⟨h1, h2, h3, h4⟩ := h.tks t b sz cap ht
      refine ⟨by assumption, h2, h3, fun i hi => ?_⟩
      simp only [Ctx.cut] at hi
      split at hi
      · exact h4 i hi
      · cases hi
    · cases ht
  · simp only [Ctx.cut] at ht ht'
    split at ht
    · split at ht'
      · exact h.two t t' b sz cap sz' cap' len len' ht ht' (hsub t _ hl).2.2 (hsub t' _ hl').2.2
      · cases ht'
    · cases ht
  · simp only [Ctx.cut] at ht
    split at ht
    · exact h.tok t len b sz cap (hsub t _ hl).2.2 ht
    · cases ht
theorem Ctx.le_cut {c c' : Ctx} (h : c.le c') {n : Nat} (hi : ∀ i b, c.ι i = some b → i < n) (ht : ∀ t q, c.τ t = some q → t < n) (hp : ∀ i, c.pend i = true → i < n) : c.le (c'.cut n) :=
  ⟨h.base, h.heap0, h.os, h.out, fun i b e => by simp only [Ctx.cut]; rw [if_pos (hi i b e)]; exact h.ι i b e, fun i q e => by simp only [Ctx.cut]; rw [if_pos (ht i q e)]; exact h.τ i q e, h.f, fun i e => ⟨by simp only [Ctx.cut, Bool.and_eq_true]; exact ⟨(h.pend i e).1, by simp [Nat.blt]; exact hp i e⟩, by simp only [Ctx.cut]; rw [if_pos (hp i e)]; exact (h.pend i e).2⟩⟩
theorem Inv.ids_lt {c : Ctx} {w : World} {s : St} (h : Inv c w s) : ∀ i b, c.ι i = some b → i < s.n := fun i b e => (h.ids i b e).1
theorem Inv.tks_lt {c : Ctx} {w : World} {s : St} (h : Inv c w s) : ∀ t q, c.τ t = some q → t < s.n := fun t q e => (h.tks t q.1 q.2.1 q.2.2 e).1
end Go.Sy
