/- Lemma: a region that draws its order, run in the order of the text, with what the checks ask; no condition. -/
import Derived.Test.YtjfimhfnpbaicaaGreatDoorSy19
namespace Go.Sy
set_option linter.unusedSimpArgs false
set_option linter.unusedVariables false

theorem numbered_get : ∀ (l : List Oper) (k j : Nat), (numbered k l)[j]? = (l[j]?).map fun o => (k + j, o)
  | [], k, j => by simp [numbered]
  | o :: l, k, 0 => by simp [numbered]
  | o :: l, k, j + 1 => by simp [numbered, numbered_get l (k + 1) j]; congr 1; funext o; rw [Nat.add_right_comm]; rfl
theorem numbered_mem {l : List Oper} {k i : Nat} {o : Oper} : (i, o) ∈ numbered k l ↔ ∃ j, i = k + j ∧ l[j]? = some o := by
  rw [List.mem_iff_getElem?]
  constructor
  · rintro ⟨j, hj⟩
    rw [numbered_get] at hj
    cases h : l[j]? with
    | none => rw [h] at hj; cases hj
    | some o' => rw [h] at hj; cases hj; exact ⟨j, rfl, h⟩
  · rintro ⟨j, rfl, h⟩; exact ⟨j, by rw [numbered_get, h]; rfl⟩
theorem effsOf_mem : ∀ {l : List (Nat × Oper)} {q : Nat × Oper}, q ∈ effsOf l ↔ q ∈ l ∧ isEff q.2 = true
  | [], q => by simp [effsOf]
  | (i, o) :: l, q => by
    simp only [effsOf]
    cases h : isEff o with
    | true =>
      rw [cond_true, List.mem_cons, List.mem_cons, effsOf_mem]
      constructor
      · rintro (rfl | ⟨h1, h2⟩)
        · exact ⟨.inl rfl, h⟩
        · exact ⟨.inr h1, h2⟩
      · rintro ⟨rfl | h1, h2⟩
        · exact .inl rfl
        · exact .inr ⟨h1, h2⟩
    | false =>
      rw [cond_false, effsOf_mem, List.mem_cons]
      constructor
      · rintro ⟨h1, h2⟩; exact ⟨.inr h1, h2⟩
      · rintro ⟨rfl | h1, h2⟩
        · rw [h] at h2; cases h2
        · exact ⟨h1, h2⟩
theorem effs_ge : ∀ (l : List Oper) (k : Nat), ∀ i ∈ (effsOf (numbered k l)).map (·.1), k ≤ i
  | l, k, i, hi => by
    obtain ⟨q, hq, rfl⟩ := List.mem_map.1 hi
    obtain ⟨j, h, _⟩ := numbered_mem.1 (effsOf_mem.1 hq).1
    omega
theorem effs_sorted : ∀ (l : List Oper) (k : Nat), ((effsOf (numbered k l)).map (·.1)).Pairwise (· < ·)
  | [], k => by simp [numbered, effsOf]
  | o :: l, k => by
    simp only [numbered, effsOf]
    cases h : isEff o with
    | true =>
      rw [cond_true, List.map_cons, List.pairwise_cons]
      exact ⟨fun i hi => effs_ge l (k + 1) i hi, effs_sorted l (k + 1)⟩
    | false => rw [cond_false]; exact effs_sorted l (k + 1)

theorem fresh_of {d : Nat} : ∀ {l : List (Nat × Oper)}, fresh d l = true → ∀ q ∈ l, q.2.dst ≠ some d
  | [], _, q, hq => by cases hq
  | (i, o) :: l, h, q, hq => by
    simp only [fresh, Bool.and_eq_true] at h
    rcases List.mem_cons.1 hq with rfl | hq
    · intro e
      rw [e] at h
      simp only [beq_of rfl, Bool.not_true, Bool.false_eq_true, false_and] at h
    · exact fresh_of h.2 q hq
theorem dstsOK_of : ∀ {l : List Oper} {k : Nat}, dstsOK (numbered k l) = true → ∀ (i j : Nat) (o o' : Oper) (d : Tmp), l[i]? = some o → l[j]? = some o' → o.dst = some d → o'.dst = some d → i = j
  | [], k, _, i, j, o, o', d, hi, _, _, _ => by simp at hi
  | x :: l, k, h, i, j, o, o', d, hi, hj, hd, hd' => by
    simp only [numbered, dstsOK, Bool.and_eq_true] at h
    have key : ∀ (i : Nat) (o o' : Oper), (x :: l)[0]? = some o → (x :: l)[i + 1]? = some o' → o.dst = some d → o'.dst = some d → False := by
      intro i o o' h0 h1 e0 e1
      simp only [List.getElem?_cons_zero, Option.some.injEq] at h0
      subst h0
      have h2 := h.1
      rw [e0] at h2
      exact fresh_of h2 (k + 1 + i, o') (numbered_mem.2 ⟨i, rfl, by simpa using h1⟩) e1
    cases i with
    | zero => cases j with
      | zero => rfl
      | succ j => exact (key j o o' hi hj hd hd').elim
    | succ i => cases j with
      | zero => exact (key i o' o hj hi hd' hd).elim
      | succ j => rw [dstsOK_of h.2 i j o o' d (by simpa using hi) (by simpa using hj) hd hd']
theorem opndOK_of {i t : Nat} {o : Oper} : ∀ {l : List (Nat × Oper)}, opndOK i o t l = true → ∀ q ∈ l, q.2.dst = some t → preB o q.1 = true ∨ preB q.2 i = true ∨ i = q.1
  | [], _, q, hq, _ => by cases hq
  | (j, o') :: l, h, q, hq, hd => by
    simp only [opndOK, Bool.and_eq_true] at h
    rcases List.mem_cons.1 hq with rfl | hq
    · have h1 := h.1
      rw [hd] at h1
      simp only [beq_of rfl, cond_true, Bool.or_eq_true] at h1
      rcases h1 with (h1 | h1) | h1
      · exact .inl h1
      · exact .inr (.inl h1)
      · exact .inr (.inr (Nat.eq_of_beq_eq_true h1))
    · exact opndOK_of h.2 q hq hd
theorem ordOK_of {ops : Array Oper} : ∀ {l : List (Nat × Oper)}, ordOK ops l = true → ∀ (q : Nat) (x y : Nat × Oper), l[q]? = some x → l[q + 1]? = some y → preB2 ops y.2 x.1 = true
  | [], _, q, x, y, hx, _ => by simp at hx
  | [_], _, q, x, y, _, hy => by simp at hy
  | (i, a) :: (j, b) :: l, h, q, x, y, hx, hy => by
    simp only [ordOK, Bool.and_eq_true] at h
    cases q with
    | zero =>
      simp only [List.getElem?_cons_zero, Option.some.injEq] at hx
      simp only [List.getElem?_cons_succ, List.getElem?_cons_zero, Option.some.injEq] at hy
      subst hx; subst hy
      exact h.1
    | succ q => exact ordOK_of h.2 q x y (by simpa using hx) (by simpa using hy)
theorem preB2_of {ops : Array Oper} {o : Oper} {i : Nat} (h : preB2 ops o i = true) : preB o i = true ∨ ∃ (l : Nat) (o' : Oper), preB o l = true ∧ ops[l]? = some o' ∧ preB o' i = true := by
  simp only [preB2, Bool.or_eq_true, List.any_eq_true, Bool.and_eq_true] at h
  rcases h with h | ⟨e, h1, h2, h3⟩
  · exact .inl h
  · cases ho : ops[e.on]? with
    | none => rw [ho] at h3; cases h3
    | some o' => rw [ho] at h3; exact .inr ⟨e.on, o', preB_iff.2 ⟨e, h1, h2, rfl⟩, ho, h3⟩
theorem admits_of {o : Oper} {i p : Nat} : ∀ (l : List (Nat × Oper)) (q0 : Nat), (∀ q x, l[q]? = some x → preB o x.1 = true → q0 + q < p) → (∀ q x, l[q]? = some x → preB x.2 i = true → p ≤ q0 + q) → admits o i p q0 l = true
  | [], _, _, _ => rfl
  | (j, oj) :: l, q0, h1, h2 => by
    simp only [admits, Bool.and_eq_true]
    refine ⟨⟨?_, ?_⟩, admits_of l (q0 + 1) (fun q x hx hp => ?_) (fun q x hx hp => ?_)⟩
    · cases e : preB o j with
      | false => rfl
      | true => rw [cond_true]; have := h1 0 (j, oj) rfl e; exact Nat.ble_eq_true_of_le (by omega)
    · cases e : preB oj i with
      | false => rfl
      | true => rw [cond_true]; have := h2 0 (j, oj) rfl e; exact Nat.ble_eq_true_of_le (by omega)
    · have := h1 (q + 1) x (by simpa using hx) hp; omega
    · have := h2 (q + 1) x (by simpa using hx) hp; omega

/-- how many allocs -/
def allocs : List Oper → Nat
  | [] => 0
  | o :: r => (match allocOf o with | some _ => 1 | none => 0) + allocs r
theorem preAlloc_of {P : Program} {T : Nat → Option TI} (hT : TOK P T) : ∀ {l : List Oper} {s s0 : St}, preAlloc T l s = some s0 →
    s0.n = s.n + allocs l ∧ s0.lo = s.lo ∧ (∀ i, i < s.n → aget s0.objs i = aget s.objs i) ∧ (∀ c w, Inv c w s → Inv c w s0) ∧ ∀ o ∈ l, ∀ e, allocOf o = some e → ∃ ti, T e = some ti
  | [], s, s0, h => by
    simp only [preAlloc, Option.some.injEq] at h
    subst h
    exact ⟨rfl, rfl, fun _ _ => rfl, fun _ _ h => h, fun o ho => by cases ho⟩
  | o :: l, s, s0, h => by
    simp only [preAlloc] at h
    cases ha : allocOf o with
    | none =>
      rw [ha] at h
      obtain ⟨h1, h2, h3, h4, h5⟩ := preAlloc_of hT h
      refine ⟨by simp only [allocs, ha]; omega, h2, h3, h4, fun x hx e he => ?_⟩
      rcases List.mem_cons.1 hx with rfl | hx
      · rw [ha] at he; cases he
      · exact h5 x hx e he
    | some e =>
      rw [ha] at h
      simp only at h
      cases ht : T e with
      | none => rw [ht] at h; cases h
      | some ti =>
        rw [ht] at h
        simp only at h
        obtain ⟨h1, h2, h3, h4, h5⟩ := preAlloc_of hT h
        refine ⟨by simp only [allocs, ha]; simp only [St.push] at h1; omega, h2, fun i hi => ?_, fun c w hI => ?_, fun x hx e' he => ?_⟩
        · rw [h3 i (Nat.lt_succ_of_lt hi)]
          exact aget_cons_ne (by omega) _ _
        · refine h4 c w (hI.push _ ?_)
          obtain ⟨i, d, z, hf⟩ := tfacts hT ht
          exact Rep.bel hI.ids_lt hI.tks_lt (zero_cells hf c)
        · rcases List.mem_cons.1 hx with rfl | hx
          · rw [ha] at he; cases he; exact ⟨ti, ht⟩
          · exact h5 x hx e' he

/-- what the checks ask of an operation that looks at the state -/
def CheckAt (T : Nat → Option TI) (ops : Array Oper) (tm vals : Nat → AV) (i : Nat) (o : Oper) (st : St) : Prop :=
  match allocOf o with
  | some e => ∃ id ti, vals i = .ptr id 0 ∧ T e = some ti ∧ aget st.objs id = some (.cells ti.zero.cells)
  | none => aop T (opv (view ops o vals tm)) st o.op = some (vals i, st)
def ChecksP (T : Nat → Option TI) (ops : Array Oper) (tm vals : Nat → AV) (sts : List St) : Prop :=
  ∀ i o, ops[i]? = some o → isEff o = false → isPure o.op = false → wantB vals o = true → ∀ p st, sts[p]? = some st → admits o i p 0 (effsOf (numbered 0 ops.toList)) = true → CheckAt T ops tm vals i o st

section
variable {P : Program} {T : Nat → Option TI} {m : Nat} {ops : Array Oper} {tm : Nat → AV} {s s0 : St}
structure DTr (P : Program) (T : Nat → Option TI) (ops : Array Oper) (tm : Nat → AV) (s s0 : St) (tr : Nat → DSt) : Prop where
  z : tr 0 = { i := 0, next := s.n, vals := [], sts := [s0], effs := [], ids := [], cur := s0 }
  step : ∀ j o, ops[j]? = some o → ∃ v, DStep P T ops tm o (tr j) (tr (j + 1)) v

variable {tr : Nat → DSt}
theorem DTr.at (h : DTr P T ops tm s s0 tr) {j : Nat} (hj : j < ops.size) : ∃ o v, ops[j]? = some o ∧ DStep P T ops tm o (tr j) (tr (j + 1)) v := by
  have ho : ops[j]? = some ops[j] := Array.getElem?_eq_getElem hj
  obtain ⟨v, hv⟩ := h.step j _ ho
  exact ⟨_, v, ho, hv⟩
theorem DTr.i (h : DTr P T ops tm s s0 tr) : ∀ j, j ≤ ops.size → (tr j).i = j
  | 0, _ => by rw [h.z]
  | j + 1, hj => by
    obtain ⟨o, v, ho, hv⟩ := h.at (Nat.lt_of_succ_le hj)
    rw [hv.i, h.i j (by omega)]
theorem DTr.valEq (h : DTr P T ops tm s s0 tr) {i : Nat} : ∀ (j k : Nat), i < j → j ≤ k → k ≤ ops.size → look (tr k).vals i = look (tr j).vals i
  | j, 0, hij, hjk, _ => by omega
  | j, k + 1, hij, hjk, hk => by
    by_cases e : j = k + 1
    · subst e; rfl
    · obtain ⟨o, v, ho, hv⟩ := h.at (Nat.lt_of_succ_le hk)
      rw [hv.vals, look_cons, h.i k (by omega), beq_ne (by omega), cond_false]
      exact h.valEq j k hij (by omega) (by omega)
theorem DTr.val (h : DTr P T ops tm s s0 tr) {j : Nat} {o : Oper} {v : AV} (hv : DStep P T ops tm o (tr j) (tr (j + 1)) v) (hj : j < ops.size) : look (tr ops.size).vals j = v := by
  rw [h.valEq (j + 1) ops.size (by omega) (by omega) (Nat.le_refl _), hv.vals, look_cons, h.i j (by omega), beq_of rfl, cond_true]
theorem DTr.valOld (h : DTr P T ops tm s s0 tr) {i j : Nat} (hij : i < j) (hj : j ≤ ops.size) : look (tr j).vals i = look (tr ops.size).vals i := (h.valEq j ops.size hij hj (Nat.le_refl _)).symm
theorem DTr.next (h : DTr P T ops tm s s0 tr) : ∀ j, j ≤ ops.size → (tr j).next = s.n + allocs (ops.toList.take j)
  | 0, _ => by rw [h.z]; rfl
  | j + 1, hj => by
    obtain ⟨o, v, ho, hv⟩ := h.at (Nat.lt_of_succ_le hj)
    have ih := h.next j (by omega)
    have ho' : ops.toList[j]? = some o := by simpa using ho
    have happ : ∀ (a : List Oper) (o : Oper), allocs (a ++ [o]) = allocs a + (match allocOf o with | some _ => 1 | none => 0) := by
      intro a o
      induction a with
      | nil => simp [allocs]
      | cons x a ih => simp only [List.cons_append, allocs, ih]; omega
    have ht : ops.toList.take (j + 1) = ops.toList.take j ++ [o] := by
      rw [List.take_succ, ho']; rfl
    rw [ht, happ]
    cases ha : allocOf o with
    | none => rw [(hv.noal ha).1, ih]; simp
    | some e => rw [(hv.al e ha).2, ih]; simp; omega
theorem DTr.nextLe (h : DTr P T ops tm s s0 tr) : ∀ j k, j ≤ k → k ≤ ops.size → (tr j).next ≤ (tr k).next
  | j, 0, hjk, _ => by have : j = 0 := by omega
                       subst this; exact Nat.le_refl _
  | j, k + 1, hjk, hk => by
    by_cases e : j = k + 1
    · subst e; exact Nat.le_refl _
    · obtain ⟨o, v, ho, hv⟩ := h.at (Nat.lt_of_succ_le hk)
      have := h.nextLe j k (by omega) (by omega)
      cases ha : allocOf o with
      | none => rw [(hv.noal ha).1]; exact this
      | some e => rw [(hv.al e ha).2]; omega
/-- effects and states, from j on -/
theorem DTr.effs (h : DTr P T ops tm s s0 tr) : ∀ (r : List Oper) (j : Nat), ops.toList.drop j = r → j ≤ ops.size → (tr ops.size).effs = ((effsOf (numbered j r)).map (·.1)).reverse ++ (tr j).effs ∧ ∃ X, (tr ops.size).sts = X ++ (tr j).sts
  | [], j, hr, hj => by
    have : j = ops.size := by
      have := List.drop_eq_nil_iff.1 hr
      simp at this; omega
    subst this
    exact ⟨by simp [numbered, effsOf], [], rfl⟩
  | o :: r, j, hr, hj => by
    have hlt : j < ops.size := by
      rcases Nat.lt_or_ge j ops.size with h | h
      · exact h
      · rw [List.drop_of_length_le (by simpa using h)] at hr; cases hr
    obtain ⟨o', v, ho, hv⟩ := h.at hlt
    have ho' : ops.toList[j]? = some o := by
      have := List.getElem?_drop (xs := ops.toList) (i := j) (j := 0)
      rw [hr] at this; simpa using this.symm
    have : o' = o := by
      have h1 : ops.toList[j]? = some o' := by simpa using ho
      rw [ho'] at h1; exact (Option.some.inj h1).symm
    subst this
    have hr' : ops.toList.drop (j + 1) = r := by
      have := congrArg List.tail hr
      simpa using this
    obtain ⟨h1, X, h2⟩ := h.effs r (j + 1) hr' hlt
    simp only [numbered, effsOf]
    cases he : isEff o' with
    | true =>
      obtain ⟨g1, g2, g3⟩ := hv.isEff he
      rw [cond_true, List.map_cons, List.reverse_cons, h1, g2, h.i j (by omega)]
      exact ⟨by simp, X ++ [(tr (j + 1)).cur], by rw [h2, g1]; simp⟩
    | false =>
      obtain ⟨g1, g2, g3⟩ := hv.nonEff he
      rw [cond_false, h1, g2]
      exact ⟨rfl, X, by rw [h2, g1]⟩
theorem DTr.stsOf (h : DTr P T ops tm s s0 tr) : ∀ j, j ≤ ops.size → (∃ X, (tr j).sts = (tr j).cur :: X) ∧ (tr j).sts.length = (tr j).effs.length + 1
  | 0, _ => by rw [h.z]; exact ⟨⟨[], rfl⟩, rfl⟩
  | j + 1, hj => by
    obtain ⟨o, v, ho, hv⟩ := h.at (Nat.lt_of_succ_le hj)
    obtain ⟨⟨X, h1⟩, h2⟩ := h.stsOf j (by omega)
    cases he : isEff o with
    | true =>
      obtain ⟨g1, g2, g3⟩ := hv.isEff he
      rw [g1, g2]
      exact ⟨⟨_, rfl⟩, by simp [h2]⟩
    | false =>
      obtain ⟨g1, g2, g3⟩ := hv.nonEff he
      rw [g1, g2, g3]
      exact ⟨⟨X, h1⟩, h2⟩
end
end Go.Sy
