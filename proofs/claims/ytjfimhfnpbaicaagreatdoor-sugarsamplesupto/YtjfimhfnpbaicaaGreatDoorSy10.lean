/- Lemma: whatever operation the abstract one answers, the machine's does the same; no condition. -/
import Derived.Test.YtjfimhfnpbaicaaGreatDoorSy9
namespace Go.Sy
set_option linter.unusedSimpArgs false
set_option linter.unusedVariables false
section
variable {P : Program} {T : Nat → Option TI} {c : Ctx} {w : World} {s : St}

def OpOK (P : Program) (c : Ctx) (s' : St) (r : AV) (res : Result Next) : Prop :=
  ∃ v w' c', (res = .ok (.value v) w' ∨ (res = .ok .skip w' ∧ v = undef)) ∧ c.le c' ∧ Inv c' w' s' ∧ VR c' r v

/-- an operation that leaves the world alone -/
theorem OpOK.same (hI : Inv c w s) {r : AV} {x : Sem Value} (h : ∃ v, x.run P w = .ok v w ∧ VR c r v) : OpOK P c s r ((do pure (.value (← x)) : Sem Next).run P w) := by
  obtain ⟨v, h1, h2⟩ := h
  exact ⟨v, w, c, .inl (by simp [h1]), Ctx.le.refl c, hI, h2⟩
theorem OpOK.val (hI : Inv c w s) {r : AV} {v : Value} (h : VR c r v) : OpOK P c s r ((pure (.value v) : Sem Next).run P w) :=
  ⟨v, w, c, .inl rfl, Ctx.le.refl c, hI, h⟩
theorem OpOK.of {s' : St} {r : AV} {x : Sem Value} (h : ∃ v w' c', x.run P w = .ok v w' ∧ c.le c' ∧ Inv c' w' s' ∧ VR c' r v) : OpOK P c s' r ((do pure (.value (← x)) : Sem Next).run P w) := by
  obtain ⟨v, w', c', h1, h2, h3, h4⟩ := h
  exact ⟨v, w', c', .inl (by simp [h1]), h2, h3, h4⟩
theorem OpOK.unit {s' : St} {x : Sem Unit} (h : ∃ w', x.run P w = .ok () w' ∧ Inv c w' s') : OpOK P c s' .any ((do x; pure .skip : Sem Next).run P w) := by
  obtain ⟨w', h1, h2⟩ := h
  exact ⟨undef, w', c, .inr ⟨by simp [h1], rfl⟩, Ctx.le.refl c, h2, .any _⟩

/-- a new object of cells -/
theorem newCells (hI : Inv c w s) {cs : List AV} {v : Value} (el : TypeId) (h : VRs c cs v.cells.toList) :
    ∃ v' w' c', (do pure (.pointer (some (← newVar el v))) : Sem Value).run P w = .ok v' w' ∧ c.le c' ∧ Inv c' w' (s.push (.cells cs)) ∧ VR c' (.ptr s.n 0) v' := by
  have hb : OBel s.n (.cells cs) := Rep.bel hI.ids_lt hI.tks_lt h
  have hn : c.ι s.n = none := by
    cases e : c.ι s.n with
    | none => rfl
    | some q => have := hI.ids_lt _ _ e; omega
  have hpd : c.pend s.n = false := by
    cases e : c.pend s.n with
    | false => rfl
    | true => have := hI.pnd _ e; omega
  have h1 := (hI.push (.cells cs) hb).bindNew (i := s.n) (x := .cells cs) (o := .cells v.cells el) (Nat.lt_succ_self _) hn (aget_cons_same _ _ _) hpd (fun c' w' hle hw => ⟨v.cells, el, hw, h.mono hle⟩)
  exact ⟨.pointer (some ⟨w.heap.size, 0, none⟩), w.alloc (.cells v.cells el), c.bind s.n w.heap.size, by simp [newVar, newRow], Ctx.le_bind hn hpd, h1, .ptr _ _ _ (by simp [Ctx.bind])⟩
theorem newMap (hI : Inv c w s) : ∃ v' w' c', (do pure (.map (some (← newObj (.map #[] 0)))) : Sem Value).run P w = .ok v' w' ∧ c.le c' ∧ Inv c' w' (s.push (.map [])) ∧ VR c' (.map s.n) v' := by
  have hn : c.ι s.n = none := by
    cases e : c.ι s.n with
    | none => rfl
    | some q => have := hI.ids_lt _ _ e; omega
  have hpd : c.pend s.n = false := by
    cases e : c.pend s.n with
    | false => rfl
    | true => have := hI.pnd _ e; omega
  have h1 := (hI.push (.map []) (by intro x hx; cases hx)).bindNew (i := s.n) (x := .map []) (o := .map #[] 0) (Nat.lt_succ_self _) hn (aget_cons_same _ _ _) hpd (fun c' w' hle hw => ⟨#[], 0, hw, .nil⟩)
  exact ⟨.map (some w.heap.size), w.alloc (.map #[] 0), c.bind s.n w.heap.size, by simp, Ctx.le_bind hn hpd, h1, .map _ _ (by simp [Ctx.bind])⟩

theorem map_ev {f : Operand → AV} {g : Operand → Value} (h : ∀ x, VR c (f x) (g x)) : ∀ l : List Operand, VRs c (l.map f) (l.map g)
  | [] => .vnil
  | x :: l => .vcons _ _ _ _ (h x) (map_ev h l)

theorem aload_sound (hT : TOK P T) (hI : Inv c w s) {t : TypeId} {a r : AV} (h : aload T s t a = some r) {va : Value} (ha : VR c a va) : ∃ v, (Instr.loadAt t va).run P w = .ok v w ∧ VR c r v ∧ ∃ ad, va = .pointer (some ad) := by
  unfold aload at h
  split at h
  · cases h
  · rename_i ti ht
    split at h
    · rename_i id off
      split at h
      · rename_i cs hcs
        cases ha with
        | ptr _ _ b hb =>
          have hl := (Lies.of_obj hI hcs hb).drop off
          rw [Nat.zero_add] at hl
          obtain ⟨v, h1, h2⟩ := load_lies hT ht hl h
          exact ⟨v, by simp only [Instr.loadAt, Instr.sureAddr, Sem.run_bind, Sem.run_pure, Result.andThen_ok, h1], h2, _, rfl⟩
      · cases h
    · cases ha with
      | fp _ b o hfl hcs =>
        obtain ⟨v, h1, h2⟩ := load_lies hT ht (Lies.of_cells hI hcs) h
        exact ⟨v, by simp only [Instr.loadAt, Instr.sureAddr, Sem.run_bind, Sem.run_pure, Result.andThen_ok, h1], h2, _, rfl⟩
    · cases h

theorem pick_flat {agg : Bool} {size : Nat} {cs : List AV} {u : AV} (h : AV.pickCells agg size cs = some u) (hcs : ∀ x ∈ cs, x.flat1 = true) : u.flat = true ∧ u.cells = cs.take u.cells.length := by
  unfold AV.pickCells at h
  cases agg with
  | true =>
    simp only [cond_true] at h
    cases hb : Nat.beq (cs.take size).length size with
    | false => rw [hb] at h; cases h
    | true =>
      rw [hb] at h; cases h
      have := Nat.eq_of_beq_eq_true hb
      refine ⟨List.all_eq_true.2 fun x hx => hcs x (List.mem_of_mem_take hx), ?_⟩
      simp only [AV.cells]
      rw [this]
  | false =>
    simp only [cond_false] at h
    cases cs with
    | nil => cases h
    | cons x r =>
      cases h
      have hx : u.flat1 = true := hcs u (by simp)
      have hc : u.cells = [u] := by
        cases u <;> first | rfl | cases hx
      refine ⟨?_, by rw [hc]; rfl⟩
      cases u <;> first | exact hx | cases hx

theorem ints_max (k : IntKind) : ∀ (l : List AV) (vs : List Value) (m : Int) (r : AV), VRs c l vs → intsMax k m l = some r → ∃ v, (vs.foldlM Builtin.max2 (.int k m)).run P w = .ok v w ∧ VR c r v
  | [], vs, m, r, h, g => by cases h; simp only [intsMax] at g; cases g; exact ⟨_, rfl, .int _ _⟩
  | a :: l, vs, m, r, h, g => by
    cases h with
    | vcons _ _ v vs h1 h2 =>
      unfold intsMax at g
      split at g
      · rename_i e; cases e
      · rename_i e
        split at g
        · subst_vars
          cases e
          cases h1
          obtain ⟨v', g1, g2⟩ := ints_max _ l vs _ r h2 g
          exact ⟨v', by rw [List.foldlM_cons]; simp only [Sem.run_bind, Builtin.max2, Sem.run_pure, Result.andThen_ok]; exact g1, g2⟩
        · cases g
      · cases g
theorem min2_int (k : IntKind) (x y : Int) : Builtin.min2 (.int k x) (.int k y) = pure (.int k (if y < x then y else x)) := rfl
theorem ints_min (k : IntKind) : ∀ (l : List AV) (vs : List Value) (m : Int) (r : AV), VRs c l vs → intsMin k m l = some r → ∃ v, (vs.foldlM Builtin.min2 (.int k m)).run P w = .ok v w ∧ VR c r v
  | [], vs, m, r, h, g => by cases h; simp only [intsMin] at g; cases g; exact ⟨_, rfl, .int _ _⟩
  | a :: l, vs, m, r, h, g => by
    cases h with
    | vcons _ _ v vs h1 h2 =>
      unfold intsMin at g
      split at g
      · rename_i e; cases e
      · rename_i e
        split at g
        · subst_vars
          cases e
          cases h1
          obtain ⟨v', g1, g2⟩ := ints_min _ l vs _ r h2 g
          exact ⟨v', by rw [List.foldlM_cons]; simp only [Sem.run_bind, min2_int, Sem.run_pure, Result.andThen_ok]; exact g1, g2⟩
        · cases g
      · cases g

theorem abuiltin_sound (hT : TOK P T) (hI : Inv c w s) {b : Builtin} {ts : Array TypeId} {ty : TypeId} {cs : Array Bool} {args : List AV} {vs : Array Value} {r : AV} {s' : St} (h : abuiltin T b ts.toList args s = some (r, s')) (ha : VRs c args vs.toList) :
    OpOK P c s' r ((builtin b ts ty cs vs).run P w) := by
  obtain ⟨ts⟩ := ts
  obtain ⟨vs⟩ := vs
  simp only at h ha
  unfold abuiltin at h
  split at h
  · -- len
    rename_i t tr x
    cases ha with
    | vcons _ _ v vs hx hr =>
    cases hr
    split at h
    · rename_i ti ht
      obtain ⟨i, d, z, hf⟩ := tfacts hT ht
      have key : ∀ {n : Int}, s' = s → r = .int .i64 n → (Builtin.len_ #[t] ty #[v]).run P w = .ok (goInt n) w → OpOK P c s' r ((builtin .len (⟨t :: tr⟩ : Array TypeId) ty cs ⟨[v]⟩).run P w) := by
        intro n e1 e2 hl
        subst e1 e2
        refine OpOK.same (s := s') hI ⟨_, ?_, .int _ _⟩
        have : Builtin.len_ (⟨t :: tr⟩ : Array TypeId) ty ⟨[v]⟩ = Builtin.len_ #[t] ty #[v] := by simp [Builtin.len_]
        rw [this]; exact hl
      split at h
      · cases h; cases hx
        rename_i hk sb
        have hd := tk_str (hf.k.symm.trans hk)
        exact key rfl rfl (by simp [Builtin.len_, run_underlying (hd ▸ hf.und), goInt])
      · cases h
        rename_i hk
        have hd := tk_slice (hf.k.symm.trans hk)
        refine key rfl rfl ?_
        cases hx <;> simp [Builtin.len_, run_underlying (hd ▸ hf.und), goInt]
      · cases h
        rename_i hk
        have hd := tk_slice (hf.k.symm.trans hk)
        refine key rfl rfl ?_
        cases hx <;> simp [Builtin.len_, run_underlying (hd ▸ hf.und), goInt]
      · cases h
        rename_i hk
        have hd := tk_arr (hf.k.symm.trans hk)
        exact key rfl rfl (by simp [Builtin.len_, run_underlying (hd ▸ hf.und)])
      · cases h; cases hx
        rename_i hk
        have hd := tk_map (hf.k.symm.trans hk)
        exact key rfl rfl (by simp [Builtin.len_, run_underlying (hd ▸ hf.und), goInt])
      · rename_i hk
        have hd := tk_map (hf.k.symm.trans hk)
        split at h
        · rename_i es hes
          cases h
          cases hx with
          | map _ b hb =>
          obtain ⟨ents, clock, g1, g2⟩ := hI.obj _ _ b hes hb
          have hlen : es.length = ents.size := by
            rw [← Array.length_toList]
            clear g1 hes key hb
            generalize ents.toList = l at g2
            induction g2 with
            | nil => rfl
            | cons _ _ _ _ _ _ _ _ ih => simp [ih]
          exact key rfl rfl (by simp [Builtin.len_, run_underlying (hd ▸ hf.und), run_getMap g1, goInt, hlen])
        · cases h
      · cases h
    · cases h
  · -- append
    rename_i t t' x y
    cases ha with
    | vcons _ _ vx vs hx hr =>
    cases hr with
    | vcons _ _ vy vs hy hr =>
    cases hr
    cases hb : Nat.beq t t' with
    | false => rw [hb] at h; cases h
    | true =>
      rw [hb] at h
      have := Nat.eq_of_beq_eq_true hb
      subst this
      simp only [cond_true] at h
      split at h
      · rename_i ti ht
        split at h
        · rename_i e hk
          split at h
          · rename_i te hte
            exact OpOK.of (aappend_sound hT hI ht hk hte h hx hy)
          · cases h
        · cases h
      · cases h
  · -- max
    cases ha with
    | vcons _ _ v vs hx hr =>
    split at h
    · rename_i v' hv'
      cases h; cases hx
      exact OpOK.same hI (ints_max _ _ _ _ _ hr hv')
    · cases h
  · -- min
    cases ha with
    | vcons _ _ v vs hx hr =>
    split at h
    · rename_i v' hv'
      cases h; cases hx
      exact OpOK.same hI (ints_min _ _ _ _ _ hr hv')
    · cases h
  · cases h
end
end Go.Sy
