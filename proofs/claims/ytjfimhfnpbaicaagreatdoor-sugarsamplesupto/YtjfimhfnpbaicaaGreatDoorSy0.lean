/- Lemmas: abstract values and the relation by which they stand for the machine's values and memory; no condition. -/
import Derived.Orders
import Derived.Laws.AppendOwn
import Derived.Laws.Rows
namespace Go.Sy

inductive SK where
  | nil | fro | non | full | tok (t : Nat)
  deriving DecidableEq

inductive AV where
  | bool (b : Bool)
  | int (k : IntKind) (n : Int)
  | str (s : List UInt8)
  | nilptr
  | ptr (id off : Nat)
  | fp (v : AV)
  | sl (k : SK) (xs : List AV)
  | nilmap
  | map (id : Nat)
  | fn (f : Fn) (first captured : List AV)
  | nilfn
  | ifc (t : TypeId) (v : AV)
  | nilifc
  /-- an empty slice in memory of its own, kept for elements of so many cells -/
  | rsv (t sz : Nat)
  /-- a slice of what an object holds: so many elements, so much room -/
  | osl (id n cap : Nat)
  | agg (cs : List AV)
  | tup (vs : List AV)
  | any
  deriving Inhabited

def AV.cells : AV → List AV
  | .agg cs => cs
  | x => [x]

/-- no id in it -/
def AV.flat1 : AV → Bool
  | .ptr .. | .map _ | .sl (.tok _) _ | .rsv .. | .osl .. | .agg _ | .tup _ => false
  | .fn _ fs cs => fs.isEmpty && cs.isEmpty
  | .ifc _ v => match v with | .bool _ | .int .. | .str _ => true | _ => false
  | _ => true
def AV.flat : AV → Bool
  | .agg cs => cs.all AV.flat1
  | x => x.flat1
def AV.erase1 : AV → AV
  | .sl (.tok _) xs => .sl .fro xs
  | x => x
def AV.erase : AV → AV
  | .agg cs => .agg (cs.map AV.erase1)
  | x => x.erase1
/-- the value of one cell, known -/
def AV.one : AV → Bool
  | .agg _ | .tup _ | .any => false
  | _ => true

structure Ctx where
  /-- the blocks that stay as they were: what they held, and which of their cells were firm -/
  keep : Nat → Prop
  heap0 : Nat → Option Obj × (Nat → Option Value)
  os : Os
  out : Array (Nat × ByteArray)
  ι : Nat → Option Nat
  τ : Nat → Option (Nat × Nat × Nat)
  f : Nat → Nat → Option Value
  /-- ids kept for an operation that is still to come -/
  pend : Nat → Bool

structure Ctx.le (c c' : Ctx) : Prop where
  base : c'.keep = c.keep
  heap0 : c'.heap0 = c.heap0
  os : c'.os = c.os
  out : c'.out = c.out
  ι : ∀ i b, c.ι i = some b → c'.ι i = some b
  τ : ∀ i q, c.τ i = some q → c'.τ i = some q
  f : ∀ b o v, c.f b o = some v → c'.f b o = some v
  pend : ∀ i, c.pend i = true → c'.pend i = true ∧ c'.ι i = c.ι i

theorem Ctx.le.refl (c : Ctx) : c.le c := ⟨rfl, rfl, rfl, rfl, fun _ _ h => h, fun _ _ h => h, fun _ _ _ h => h, fun _ h => ⟨h, rfl⟩⟩
theorem Ctx.le.trans {a b c : Ctx} (h : a.le b) (h' : b.le c) : a.le c :=
  ⟨h'.base.trans h.base, h'.heap0.trans h.heap0, h'.os.trans h.os, h'.out.trans h.out, fun i b x => h'.ι i b (h.ι i b x), fun i q x => h'.τ i q (h.τ i q x), fun b o v x => h'.f b o v (h.f b o v x), fun i x => ⟨(h'.pend i (h.pend i x).1).1, (h'.pend i (h.pend i x).1).2.trans (h.pend i x).2⟩⟩

inductive Tgt where
  | val (a : AV) (v : Value)
  | cells (l : List AV) (b o : Nat)
  | vals (l : List AV) (vs : List Value)
  | els (sz : Nat) (l : List AV) (b o : Nat)

inductive Rep (c : Ctx) : Tgt → Prop where
  | any (v : Value) : Rep c (.val .any v)
  | bool (b : Bool) : Rep c (.val (.bool b) (.bool b))
  | int (k : IntKind) (n : Int) : Rep c (.val (.int k n) (.int k n))
  | str (s : ByteArray) : Rep c (.val (.str s.data.toList) (.string s))
  | nilptr : Rep c (.val .nilptr (.pointer none))
  | ptr (id off b : Nat) : c.ι id = some b → Rep c (.val (.ptr id off) (.pointer (some ⟨b, off, none⟩)))
  | fp (x : AV) (b o : Nat) : x.flat = true → Rep c (.cells x.cells b o) → Rep c (.val (.fp x) (.pointer (some ⟨b, o, none⟩)))
  | slnil (k : SK) : k = .nil ∨ k = .fro ∨ (∃ t, k = .tok t) → Rep c (.val (.sl k []) (.slice none 0 0))
  | sle (k : SK) (a : Addr) (cap : Nat) : k = .fro ∨ k = .non ∨ (k = .full ∧ cap = 0) → Rep c (.val (.sl k []) (.slice (some a) 0 cap))
  | sl (k : SK) (xs : List AV) (b o cap sz : Nat) : k ≠ .nil → Rep c (.els sz xs b o) → xs.length ≤ cap → ((k = .full → cap = xs.length) ∧ ∀ t, k = .tok t → xs ≠ []) →
      (∀ t, k = .tok t → o = 0 ∧ c.τ t = some (b, sz, cap)) → Rep c (.val (.sl k xs) (.slice (some ⟨b, o, none⟩) xs.length cap))
  | nilmap : Rep c (.val .nilmap (.map none))
  | map (id b : Nat) : c.ι id = some b → Rep c (.val (.map id) (.map (some b)))
  | fn (f : Fn) (fs cs : List AV) (vfs vcs : Array Value) : Rep c (.vals fs vfs.toList) → Rep c (.vals cs vcs.toList) → Rep c (.val (.fn f fs cs) (.func f vfs vcs))
  | nilfn : Rep c (.val .nilfn .nilFunc)
  | ifc (t : TypeId) (a : AV) (v : Value) : Rep c (.val a v) → Rep c (.val (.ifc t a) (.iface t v))
  | nilifc : Rep c (.val .nilifc .nilIface)
  | rsv (t sz b cap : Nat) : c.τ t = some (b, sz, cap) → Rep c (.val (.rsv t sz) (.slice (some ⟨b, 0, none⟩) 0 cap))
  | osl (id n cap b : Nat) : c.ι id = some b → n ≤ cap → Rep c (.val (.osl id n cap) (.slice (some ⟨b, 0, none⟩) n cap))
  | agg (l : List AV) (vs : Array Value) : Rep c (.vals l vs.toList) → Rep c (.val (.agg l) (.agg vs))
  | tup (l : List AV) (vs : Array Value) : Rep c (.vals l vs.toList) → Rep c (.val (.tup l) (.tuple vs))
  | cnil (b o : Nat) : Rep c (.cells [] b o)
  | ccons (x : AV) (l : List AV) (b o : Nat) (v : Value) : c.f b o = some v → Rep c (.val x v) → Rep c (.cells l b (o + 1)) → Rep c (.cells (x :: l) b o)
  | vnil : Rep c (.vals [] [])
  | vcons (x : AV) (l : List AV) (v : Value) (vs : List Value) : Rep c (.val x v) → Rep c (.vals l vs) → Rep c (.vals (x :: l) (v :: vs))
  | enil (sz b o : Nat) : Rep c (.els sz [] b o)
  | econs (sz : Nat) (x : AV) (l : List AV) (b o : Nat) : x.cells.length = sz → x.flat = true → Rep c (.cells x.cells b o) → Rep c (.els sz l b (o + sz)) → Rep c (.els sz (x :: l) b o)

theorem Rep.mono {c c' : Ctx} (h : c.le c') {t : Tgt} (r : Rep c t) : Rep c' t := by
  induction r with
  | any v => exact .any v
  | bool b => exact .bool b
  | int k n => exact .int k n
  | str s => exact .str s
  | nilptr => exact .nilptr
  | ptr id off b h1 => exact .ptr id off b (h.ι _ _ h1)
  | fp x b o hf _ ih => exact .fp x b o hf ih
  | slnil k h1 => exact .slnil k h1
  | sle k a cap h1 => exact .sle k a cap h1
  | sl k xs b o cap sz h1 _ h3 h4 h5 ih => exact .sl k xs b o cap sz h1 ih h3 h4 (fun t e => ⟨(h5 t e).1, h.τ _ _ (h5 t e).2⟩)
  | nilmap => exact .nilmap
  | map id b h1 => exact .map id b (h.ι _ _ h1)
  | fn f fs cs vfs vcs _ _ i1 i2 => exact .fn f fs cs vfs vcs i1 i2
  | nilfn => exact .nilfn
  | ifc t a v _ i1 => exact .ifc t a v i1
  | nilifc => exact .nilifc
  | rsv t sz b cap h1 => exact .rsv t sz b cap (h.τ _ _ h1)
  | osl id n cap b h1 h2 => exact .osl id n cap b (h.ι _ _ h1) h2
  | agg l vs _ i1 => exact .agg l vs i1
  | tup l vs _ i1 => exact .tup l vs i1
  | cnil b o => exact .cnil b o
  | ccons x l b o v h1 _ _ i1 i2 => exact .ccons x l b o v (h.f _ _ _ h1) i1 i2
  | vnil => exact .vnil
  | vcons x l v vs _ _ i1 i2 => exact .vcons x l v vs i1 i2
  | enil sz b o => exact .enil sz b o
  | econs sz x l b o h1 h2 _ _ i1 i2 => exact .econs sz x l b o h1 h2 i1 i2

abbrev VR (c : Ctx) (a : AV) (v : Value) : Prop := Rep c (.val a v)
abbrev VRs (c : Ctx) (a : List AV) (v : List Value) : Prop := Rep c (.vals a v)

theorem VRs.length {c : Ctx} : ∀ {l : List AV} {vs : List Value}, VRs c l vs → l.length = vs.length
  | [], vs, h => by cases h; rfl
  | x :: l, vs, h => by cases h with | vcons _ _ v vs _ h2 => simp [VRs.length h2]
theorem VRs.get {c : Ctx} : ∀ {l : List AV} {vs : List Value} (_ : VRs c l vs) (i : Nat) (x : AV), l[i]? = some x → ∃ v, vs[i]? = some v ∧ VR c x v
  | [], _, _, i, x, hx => by simp at hx
  | y :: l, vs, h, i, x, hx => by
    cases h with
    | vcons _ _ v vs h1 h2 =>
      cases i with
      | zero => simp at hx; subst hx; exact ⟨v, rfl, h1⟩
      | succ i => simpa using VRs.get h2 i x (by simpa using hx)
theorem VRs.of {c : Ctx} : ∀ {l : List AV} {vs : List Value}, l.length = vs.length → (∀ (i : Nat) x v, l[i]? = some x → vs[i]? = some v → VR c x v) → VRs c l vs
  | [], [], _, _ => .vnil
  | [], v :: vs, h, _ => by simp at h
  | x :: l, [], h, _ => by simp at h
  | x :: l, v :: vs, h, g => .vcons _ _ _ _ (g 0 x v rfl rfl) (VRs.of (by simpa using h) fun i y u h1 h2 => g (i + 1) y u (by simpa using h1) (by simpa using h2))
theorem VRs.append {c : Ctx} : ∀ {l m : List AV} {vs us : List Value}, VRs c l vs → VRs c m us → VRs c (l ++ m) (vs ++ us)
  | [], m, vs, us, h, g => by cases h; simpa using g
  | x :: l, m, vs, us, h, g => by cases h with | vcons _ _ v vs h1 h2 => exact .vcons _ _ _ _ h1 (VRs.append h2 g)
theorem VRs.drop {c : Ctx} : ∀ {l : List AV} {vs : List Value} (n : Nat), VRs c l vs → VRs c (l.drop n) (vs.drop n)
  | l, vs, 0, h => by simpa using h
  | [], vs, n + 1, h => by cases h; simpa using Rep.vnil
  | x :: l, vs, n + 1, h => by cases h with | vcons _ _ v vs h1 h2 => simpa using VRs.drop n h2
theorem VRs.take {c : Ctx} : ∀ {l : List AV} {vs : List Value} (n : Nat), VRs c l vs → VRs c (l.take n) (vs.take n)
  | l, vs, 0, h => by simpa using Rep.vnil
  | [], vs, n + 1, h => by cases h; simpa using Rep.vnil
  | x :: l, vs, n + 1, h => by cases h with | vcons _ _ v vs h1 h2 => simpa using Rep.vcons _ _ _ _ h1 (VRs.take n h2)

/-- cells as a list -/
theorem cellsR {c : Ctx} : ∀ {l : List AV} {b o : Nat}, Rep c (.cells l b o) → ∃ vs : List Value, VRs c l vs ∧ ∀ j v, vs[j]? = some v → c.f b (o + j) = some v
  | [], b, o, h => ⟨[], .vnil, fun j v h => by simp at h⟩
  | x :: l, b, o, h => by
    cases h with
    | ccons _ _ _ _ v h1 h2 h3 =>
      obtain ⟨vs, g1, g2⟩ := cellsR h3
      refine ⟨v :: vs, .vcons _ _ _ _ h2 g1, fun j u hj => ?_⟩
      cases j with
      | zero => simp at hj; subst hj; simpa using h1
      | succ j => have := g2 j u (by simpa using hj); rw [show o + (j + 1) = o + 1 + j by omega]; exact this
theorem cellsR_mk {c : Ctx} : ∀ {l : List AV} {vs : List Value} {b o : Nat}, VRs c l vs → (∀ j v, vs[j]? = some v → c.f b (o + j) = some v) → Rep c (.cells l b o)
  | [], vs, b, o, h, g => .cnil b o
  | x :: l, vs, b, o, h, g => by
    cases h with
    | vcons _ _ v vs h1 h2 =>
      exact .ccons _ _ _ _ v (by simpa using g 0 v rfl) h1 (cellsR_mk h2 fun j u hj => by rw [show o + 1 + j = o + (j + 1) by omega]; exact g (j + 1) u (by simpa using hj))
theorem cells_drop {c : Ctx} : ∀ {l : List AV} {b o : Nat} (n : Nat), Rep c (.cells l b o) → Rep c (.cells (l.drop n) b (o + n))
  | l, b, o, 0, h => by simpa using h
  | [], b, o, n + 1, h => by simpa using Rep.cnil b _
  | x :: l, b, o, n + 1, h => by
    cases h with
    | ccons _ _ _ _ v h1 h2 h3 => have := cells_drop n h3; rw [show o + (n + 1) = o + 1 + n by omega]; simpa using this
theorem cells_take {c : Ctx} : ∀ {l : List AV} {b o : Nat} (n : Nat), Rep c (.cells l b o) → Rep c (.cells (l.take n) b o)
  | l, b, o, 0, h => by simpa using Rep.cnil b o
  | [], b, o, n + 1, h => by simpa using Rep.cnil b _
  | x :: l, b, o, n + 1, h => by
    cases h with
    | ccons _ _ _ _ v h1 h2 h3 => simpa using Rep.ccons _ _ _ _ v h1 h2 (cells_take n h3)

/-- an element of a slice -/
theorem els_get {c : Ctx} {sz : Nat} : ∀ {l : List AV} {b o : Nat} (_ : Rep c (.els sz l b o)) (i : Nat) (x : AV), l[i]? = some x →
    x.cells.length = sz ∧ x.flat = true ∧ Rep c (.cells x.cells b (o + i * sz))
  | [], b, o, _, i, x, hx => by simp at hx
  | y :: l, b, o, h, i, x, hx => by
    cases h with
    | econs _ _ _ _ _ h1 h2 h3 h4 =>
      cases i with
      | zero => simp at hx; subst hx; exact ⟨h1, h2, by simpa using h3⟩
      | succ i =>
        have := els_get h4 i x (by simpa using hx)
        rw [show o + (i + 1) * sz = o + sz + i * sz by rw [Nat.add_mul]; omega]
        exact this
theorem els_take {c : Ctx} {sz : Nat} : ∀ {l : List AV} {b o : Nat} (n : Nat), Rep c (.els sz l b o) → Rep c (.els sz (l.take n) b o)
  | l, b, o, 0, h => by simpa using Rep.enil sz b o
  | [], b, o, n + 1, h => by simpa using Rep.enil sz b _
  | x :: l, b, o, n + 1, h => by
    cases h with
    | econs _ _ _ _ _ h1 h2 h3 h4 => simpa using Rep.econs _ _ _ _ _ h1 h2 h3 (els_take n h4)
theorem els_drop {c : Ctx} {sz : Nat} : ∀ {l : List AV} {b o : Nat} (n : Nat), n ≤ l.length → Rep c (.els sz l b o) → Rep c (.els sz (l.drop n) b (o + n * sz))
  | l, b, o, 0, _, h => by simpa using h
  | [], b, o, n + 1, hn, h => by simp at hn
  | x :: l, b, o, n + 1, hn, h => by
    cases h with
    | econs _ _ _ _ _ h1 h2 h3 h4 =>
      have := els_drop n (by simpa using hn) h4
      rw [show o + (n + 1) * sz = o + sz + n * sz by rw [Nat.add_mul]; omega]
      simpa using this
theorem els_append {c : Ctx} {sz : Nat} : ∀ {l m : List AV} {b o : Nat}, Rep c (.els sz l b o) → Rep c (.els sz m b (o + l.length * sz)) → Rep c (.els sz (l ++ m) b o)
  | [], m, b, o, h, g => by simpa using g
  | x :: l, m, b, o, h, g => by
    cases h with
    | econs _ _ _ _ _ h1 h2 h3 h4 =>
      refine .econs _ _ _ _ _ h1 h2 h3 (els_append h4 ?_)
      rw [show o + sz + l.length * sz = o + (x :: l).length * sz by simp [Nat.add_mul]; omega]
      exact g
theorem els_flat {c : Ctx} {sz : Nat} {l : List AV} {b o : Nat} (h : Rep c (.els sz l b o)) {x : AV} (hx : x ∈ l) : x.flat = true := by
  obtain ⟨i, hi⟩ := List.mem_iff_getElem?.1 hx
  exact (els_get h i x hi).2.1
/-- all cells of a slice, one behind the other -/
theorem els_cells {c : Ctx} {sz : Nat} : ∀ {l : List AV} {b o : Nat}, Rep c (.els sz l b o) → Rep c (.cells (l.flatMap AV.cells) b o) ∧ (l.flatMap AV.cells).length = l.length * sz
  | [], b, o, h => ⟨.cnil b o, by simp⟩
  | x :: l, b, o, h => by
    cases h with
    | econs _ _ _ _ _ h1 h2 h3 h4 =>
      obtain ⟨g1, g2⟩ := els_cells h4
      obtain ⟨vs, k1, k2⟩ := cellsR h3
      obtain ⟨us, m1, m2⟩ := cellsR g1
      have hl := VRs.length k1
      refine ⟨?_, by simp [h1, g2, Nat.add_mul]; omega⟩
      rw [List.flatMap_cons]
      refine cellsR_mk (VRs.append k1 m1) fun j v hj => ?_
      by_cases hlt : j < vs.length
      · exact k2 j v (by rwa [List.getElem?_append_left hlt] at hj)
      · rw [List.getElem?_append_right (by omega)] at hj
        have := m2 _ v hj
        rw [show o + j = o + sz + (j - vs.length) by omega]; exact this
theorem els_mk {c : Ctx} {sz : Nat} : ∀ {l : List AV} {vs : List Value} {b o : Nat}, (∀ x ∈ l, x.cells.length = sz ∧ x.flat = true) → VRs c (l.flatMap AV.cells) vs →
    (∀ j v, vs[j]? = some v → c.f b (o + j) = some v) → Rep c (.els sz l b o)
  | [], vs, b, o, _, _, _ => .enil sz b o
  | x :: l, vs, b, o, h, g, k => by
    obtain ⟨h1, h2⟩ := h x (by simp)
    rw [List.flatMap_cons] at g
    have hl := VRs.length g
    have g1 := VRs.take sz g
    have g2 := VRs.drop sz g
    rw [List.take_append_of_le_length (by omega), List.take_of_length_le (by omega)] at g1
    rw [List.drop_append_of_le_length (by omega), List.drop_of_length_le (by omega), List.nil_append] at g2
    refine .econs _ _ _ _ _ h1 h2 (cellsR_mk g1 fun j v hj => ?_) (els_mk (fun y hy => h y (by simp [hy])) g2 fun j v hj => ?_)
    · rw [List.getElem?_take] at hj
      split at hj
      · exact k j v hj
      · cases hj
    · rw [List.getElem?_drop] at hj
      rw [show o + sz + j = o + (sz + j) by omega]; exact k _ v hj

theorem erase1_rep {c : Ctx} {x : AV} {v : Value} (h : VR c x v) : VR c x.erase1 v := by
  unfold AV.erase1
  split
  · cases h with
    | slnil k h1 => exact .slnil .fro (.inr (.inl rfl))
    | sle k a cap h1 => exact .sle .fro a cap (.inl rfl)
    | sl k xs b o cap sz h1 h2 h3 h4 h5 => exact .sl .fro _ b o cap sz (by simp) h2 h3 (by simp) (by simp)
  · exact h
theorem erase_cells (x : AV) : x.erase.cells = x.cells.map AV.erase1 := by
  cases x with
  | sl k xs => cases k <;> rfl
  | agg cs => rfl
  | _ => rfl
theorem VRs.erase {c : Ctx} : ∀ {l : List AV} {vs : List Value}, VRs c l vs → VRs c (l.map AV.erase1) vs
  | [], _, h => by cases h; exact .vnil
  | x :: l, _, h => by cases h with | vcons _ _ v vs h1 h2 => exact .vcons _ _ _ _ (erase1_rep h1) (VRs.erase h2)
/-- a value's cells -/
theorem cells_rep {c : Ctx} {x : AV} {v : Value} (h : VR c x v) (hx : x ≠ .any) : VRs c x.cells v.cells.toList := by
  cases h with
  | any => exact absurd rfl hx
  | agg l vs h => exact h
  | _ => exact .vcons _ _ _ _ (by constructor <;> assumption) .vnil
theorem one_rep {c : Ctx} {x : AV} {v : Value} (h : VR c x v) (hx : x.one = true) : v.oneCell' = true := by
  cases h <;> first | rfl | (simp [AV.one] at hx)
theorem forget {c : Ctx} {k : SK} {xs : List AV} {v : Value} (h : VR c (.sl k xs) v) : VR c (.sl .fro xs) v := by
  cases h with
  | slnil k h1 => exact .slnil _ (.inr (.inl rfl))
  | sle k a cap h1 => exact .sle _ a cap (.inl rfl)
  | sl k xs b o cap sz h1 h2 h3 h4 h5 => exact .sl .fro _ b o cap sz (by simp) h2 h3 (by simp) (by simp)

/-- only ids below n -/
inductive Bel (n : Nat) : AV → Prop where
  | bool (b : Bool) : Bel n (.bool b)
  | int (k : IntKind) (i : Int) : Bel n (.int k i)
  | str (s : List UInt8) : Bel n (.str s)
  | nilptr : Bel n .nilptr
  | ptr (id off : Nat) : id < n → Bel n (.ptr id off)
  | fp (x : AV) : Bel n (.fp x)
  | sl (k : SK) (xs : List AV) : (∀ t, k = .tok t → xs = [] ∨ t < n) → Bel n (.sl k xs)
  | nilmap : Bel n .nilmap
  | map (id : Nat) : id < n → Bel n (.map id)
  | fn (f : Fn) (fs cs : List AV) : (∀ x ∈ fs, Bel n x) → (∀ x ∈ cs, Bel n x) → Bel n (.fn f fs cs)
  | nilfn : Bel n .nilfn
  | ifc (t : TypeId) (v : AV) : Bel n v → Bel n (.ifc t v)
  | nilifc : Bel n .nilifc
  | rsv (t sz : Nat) : t < n → Bel n (.rsv t sz)
  | osl (id k cap : Nat) : id < n → Bel n (.osl id k cap)
  | agg (cs : List AV) : (∀ x ∈ cs, Bel n x) → Bel n (.agg cs)
  | tup (cs : List AV) : (∀ x ∈ cs, Bel n x) → Bel n (.tup cs)
  | any : Bel n .any

theorem Bel.mono {n m : Nat} (h : n ≤ m) {a : AV} (b : Bel n a) : Bel m a := by
  induction b with
  | bool b => exact .bool b
  | int k i => exact .int k i
  | str s => exact .str s
  | nilptr => exact .nilptr
  | ptr id off h1 => exact .ptr id off (by omega)
  | fp x => exact .fp x
  | sl k xs h1 => exact .sl k xs fun t e => (h1 t e).imp id fun h => by omega
  | nilmap => exact .nilmap
  | map id h1 => exact .map id (by omega)
  | fn f fs cs _ _ i1 i2 => exact .fn f fs cs i1 i2
  | nilfn => exact .nilfn
  | ifc t v _ i1 => exact .ifc t v i1
  | nilifc => exact .nilifc
  | rsv t sz h1 => exact .rsv t sz (by omega)
  | osl id k cap h1 => exact .osl id k cap (by omega)
  | agg cs _ i1 => exact .agg cs i1
  | tup cs _ i1 => exact .tup cs i1
  | any => exact .any

theorem flat1_bel {x : AV} (n : Nat) (h : x.flat1 = true) : Bel n x := by
  cases x with
  | bool b => exact .bool b
  | int k i => exact .int k i
  | str s => exact .str s
  | nilptr => exact .nilptr
  | ptr id off => cases h
  | fp x => exact .fp x
  | sl k xs => exact .sl k xs fun t e => by subst e; cases h
  | nilmap => exact .nilmap
  | map id => cases h
  | fn f fs cs =>
    simp only [AV.flat1, Bool.and_eq_true, List.isEmpty_iff] at h
    obtain ⟨rfl, rfl⟩ := h
    exact .fn f [] [] (by simp) (by simp)
  | nilfn => exact .nilfn
  | ifc t v =>
    refine .ifc t v ?_
    cases v <;> first | exact .bool _ | exact .int _ _ | exact .str _ | cases h
  | nilifc => exact .nilifc
  | rsv t sz => cases h
  | osl id k cap => cases h
  | agg cs => cases h
  | tup cs => cases h
  | any => exact .any
theorem flat_bel {x : AV} (n : Nat) (h : x.flat = true) : ∀ y ∈ x.cells, Bel n y := by
  cases x with
  | agg cs =>
    intro y hy
    exact flat1_bel n (List.all_eq_true.1 h y hy)
  | _ =>
    intro y hy
    simp only [AV.cells, List.mem_singleton] at hy
    subst hy
    exact flat1_bel n h

def TBel (n : Nat) : Tgt → Prop
  | .val a _ => Bel n a
  | .cells l _ _ => ∀ x ∈ l, Bel n x
  | .vals l _ => ∀ x ∈ l, Bel n x
  | .els .. => True

theorem Rep.bel {c : Ctx} {n : Nat} (hi : ∀ i b, c.ι i = some b → i < n) (ht : ∀ t q, c.τ t = some q → t < n) {t : Tgt} (r : Rep c t) : TBel n t := by
  induction r with
  | any v => exact Bel.any
  | bool b => exact Bel.bool b
  | int k n => exact Bel.int k n
  | str s => exact Bel.str _
  | nilptr => exact Bel.nilptr
  | ptr id off b h1 => exact Bel.ptr id off (hi _ _ h1)
  | fp x b o hf _ ih => exact Bel.fp x
  | slnil k h1 => exact Bel.sl k _ fun t e => .inl rfl
  | sle k a cap h1 => exact Bel.sl k _ fun t e => .inl rfl
  | sl k xs b o cap sz h1 _ h3 h4 h5 ih => exact Bel.sl k xs fun t e => .inr (ht _ _ (h5 t e).2)
  | nilmap => exact Bel.nilmap
  | map id b h1 => exact Bel.map id (hi _ _ h1)
  | fn f fs cs vfs vcs _ _ i1 i2 => exact Bel.fn f fs cs i1 i2
  | nilfn => exact Bel.nilfn
  | ifc t a v _ i1 => exact Bel.ifc t a i1
  | nilifc => exact Bel.nilifc
  | rsv t sz b cap h1 => exact Bel.rsv t sz (ht _ _ h1)
  | osl id k cap b h1 h2 => exact Bel.osl id k cap (hi _ _ h1)
  | agg l vs _ i1 => exact Bel.agg l i1
  | tup l vs _ i1 => exact Bel.tup l i1
  | cnil b o => intro x hx; cases hx
  | ccons x l b o v h1 _ _ i1 i2 => exact fun y hy => (List.mem_cons.1 hy).elim (fun e => e ▸ i1) (i2 y)
  | vnil => intro x hx; cases hx
  | vcons x l v vs _ _ i1 i2 => exact fun y hy => (List.mem_cons.1 hy).elim (fun e => e ▸ i1) (i2 y)
  | enil sz b o => trivial
  | econs sz x l b o h1 h2 _ _ i1 i2 => trivial

/-- ids from n on forgotten -/
def Ctx.cut (c : Ctx) (n : Nat) : Ctx := { c with ι := fun i => if i < n then c.ι i else none, τ := fun i => if i < n then c.τ i else none, pend := fun i => c.pend i && Nat.blt i n }
theorem Rep.cut {c : Ctx} {n : Nat} {t : Tgt} (r : Rep c t) : TBel n t → Rep (c.cut n) t := by
  induction r with
  | any v => exact fun _ => .any v
  | bool b => exact fun _ => .bool b
  | int k n => exact fun _ => .int k n
  | str s => exact fun _ => .str s
  | nilptr => exact fun _ => .nilptr
  | ptr id off b h1 => intro h; cases h with | ptr _ _ h2 => exact .ptr id off b (by simp only [Ctx.cut]; rw [if_pos h2]; exact h1)
  | fp x b o hf _ ih => exact fun _ => .fp x b o hf (ih (flat_bel n hf))
  | slnil k h1 => exact fun _ => .slnil k h1
  | sle k a cap h1 => exact fun _ => .sle k a cap h1
  | sl k xs b o cap sz h1 _ h3 h4 h5 ih =>
    intro h
    cases h with
    | sl _ _ h2 => exact .sl k xs b o cap sz h1 (ih trivial) h3 h4 fun t e => ⟨(h5 t e).1, by simp only [Ctx.cut]; rw [if_pos ((h2 t e).resolve_left (h4.2 t e))]; exact (h5 t e).2⟩
  | nilmap => exact fun _ => .nilmap
  | map id b h1 => intro h; cases h with | map _ h2 => exact .map id b (by simp only [Ctx.cut]; rw [if_pos h2]; exact h1)
  | fn f fs cs vfs vcs _ _ i1 i2 => intro h; cases h with | fn _ _ _ h1 h2 => exact .fn f fs cs vfs vcs (i1 h1) (i2 h2)
  | nilfn => exact fun _ => .nilfn
  | ifc t a v _ i1 => intro h; cases h with | ifc _ _ h1 => exact .ifc t a v (i1 h1)
  | nilifc => exact fun _ => .nilifc
  | rsv t sz b cap h1 => intro h; cases h with | rsv _ _ h2 => exact .rsv t sz b cap (by simp only [Ctx.cut]; rw [if_pos h2]; exact h1)
  | osl id k cap b h1 h3 => intro h; cases h with | osl _ _ _ h2 => exact .osl id k cap b (by simp only [Ctx.cut]; rw [if_pos h2]; exact h1) h3
  | agg l vs _ i1 => intro h; cases h with | agg _ h1 => exact .agg l vs (i1 h1)
  | tup l vs _ i1 => intro h; cases h with | tup _ h1 => exact .tup l vs (i1 h1)
  | cnil b o => exact fun _ => .cnil b o
  | ccons x l b o v h1 _ _ i1 i2 => exact fun h => .ccons x l b o v h1 (i1 (h x (by simp))) (i2 fun y hy => h y (by simp [hy]))
  | vnil => exact fun _ => .vnil
  | vcons x l v vs _ _ i1 i2 => exact fun h => .vcons x l v vs (i1 (h x (by simp))) (i2 fun y hy => h y (by simp [hy]))
  | enil sz b o => exact fun _ => .enil sz b o
  | econs sz x l b o h1 h2 _ _ i1 i2 => exact fun _ => .econs sz x l b o h1 h2 (i1 (flat_bel n h2)) (i2 trivial)

/-- a check by computing: enough for 'Bel' -/
def bel0 (n : Nat) : AV → Bool
  | .ptr i _ => Nat.blt i n
  | .map i => Nat.blt i n
  | .sl (.tok t) _ => Nat.blt t n
  | .rsv t _ => Nat.blt t n
  | .osl i _ _ => Nat.blt i n
  | .agg _ | .tup _ => false
  | .fn _ fs cs => fs.isEmpty && cs.isEmpty
  | .ifc _ v => match v with | .bool _ | .int .. | .str _ => true | _ => false
  | _ => true
def bel1 (n : Nat) : AV → Bool
  | .fn _ fs cs => fs.all (bel0 n) && cs.all (bel0 n)
  | .agg cs => cs.all (bel0 n)
  | .ifc _ v => bel0 n v
  | x => bel0 n x
def bel (n : Nat) : AV → Bool
  | .agg cs => cs.all (bel1 n)
  | .tup cs => cs.all (bel1 n)
  | x => bel1 n x
theorem bel0_sound {n : Nat} {x : AV} (h : bel0 n x = true) : Bel n x := by
  cases x with
  | ptr i o => exact .ptr i o (by simpa [bel0] using h)
  | map i => exact .map i (by simpa [bel0] using h)
  | rsv t sz => exact .rsv t sz (by simpa [bel0] using h)
  | osl i k cap => exact .osl i k cap (by simpa [bel0] using h)
  | sl k xs => cases k with
    | tok t => exact .sl _ xs fun t' e => by cases e; exact .inr (by simpa [bel0] using h)
    | _ => exact .sl _ xs fun t' e => by cases e
  | agg cs => cases h
  | tup cs => cases h
  | fn f fs cs => exact flat1_bel n h
  | ifc t v => exact flat1_bel n h
  | _ => exact flat1_bel n rfl
theorem bel1_sound {n : Nat} {x : AV} (h : bel1 n x = true) : Bel n x := by
  cases x with
  | fn f fs cs =>
    simp only [bel1, Bool.and_eq_true, List.all_eq_true] at h
    exact .fn f fs cs (fun x hx => bel0_sound (h.1 x hx)) fun x hx => bel0_sound (h.2 x hx)
  | agg cs => exact .agg cs fun x hx => bel0_sound (List.all_eq_true.1 h x hx)
  | ifc t v => exact .ifc t v (bel0_sound h)
  | _ => exact bel0_sound h
theorem bel_sound {n : Nat} {x : AV} (h : bel n x = true) : Bel n x := by
  cases x with
  | agg cs => exact .agg cs fun x hx => bel1_sound (List.all_eq_true.1 h x hx)
  | tup cs => exact .tup cs fun x hx => bel1_sound (List.all_eq_true.1 h x hx)
  | _ => exact bel1_sound h
end Go.Sy
