/- Lemma: a region that draws its order comes to one end, whatever order is drawn; no condition beyond what 'DOK' lists. -/
import Derived.Test.YtjfimhfnpbaicaaGreatDoorSy12
namespace Go.Sy
set_option linter.unusedSimpArgs false
set_option linter.unusedVariables false

/-- op i has an edge to op j that binds -/
def preB (o : Oper) (j : Nat) : Bool := o.after.toList.any fun e => Region.binds .any e && Nat.beq e.on j
def slotsOf : List Operand → List Nat
  | [] => []
  | .tmp t :: r => t :: slotsOf r
  | _ :: r => slotsOf r
/-- what an operation sees in its slots -/
def view (ops : Array Oper) (o : Oper) (vals : Nat → AV) (tm : Nat → AV) : Nat → AV := fun t =>
  cond ((slotsOf o.op.operands.toList).any (Nat.beq t))
    (match o.after.toList.find? (fun e => Region.binds .any e && (match (ops[e.on]?).bind (·.dst) with | some d => Nat.beq d t | none => false)) with
      | some e => vals e.on
      | none => tm t)
    .any
def wantB (vals : Nat → AV) (o : Oper) : Bool :=
  match o.guard with
  | none => true
  | some (j, want) => match vals j with | .bool b => Bool.xor (!b) want | _ => false

structure DOK (P : Program) (T : Nat → Option TI) (m : Nat) (ops : Array Oper) (tm : Nat → AV) (vals : Nat → AV) (effs : List Nat) (sts : Nat → St) (idof : Nat → Option Nat) : Prop where
  edges : ∀ (i : Nat) (o : Oper), ops[i]? = some o → ∀ e ∈ o.after.toList, Region.binds .any e = true → e.on < i
  dsts : ∀ (i j : Nat) (o o' : Oper) (d : Tmp), ops[i]? = some o → ops[j]? = some o' → o.dst = some d → o'.dst = some d → i = j
  fits : ∀ (i : Nat) (o : Oper), ops[i]? = some o → fitsDst m o.dst = true
  opnd : ∀ (i j : Nat) (o o' : Oper) (t : Nat), ops[i]? = some o → ops[j]? = some o' → o'.dst = some t → t ∈ slotsOf o.op.operands.toList → preB o j = true ∨ preB o' i = true ∨ i = j
  guard : ∀ (i : Nat) (o : Oper) (j : Nat) (want : Bool), ops[i]? = some o → o.guard = some (j, want) → preB o j = true ∧ ∃ (o' : Oper) (d : Tmp) (b : Bool), ops[j]? = some o' ∧ o'.dst = some d ∧ vals j = .bool b
  effOrd : ∀ (q i j : Nat) (o : Oper), effs[q]? = some i → effs[q + 1]? = some j → ops[j]? = some o → preB o i = true ∨ ∃ (l : Nat) (o' : Oper), preB o l = true ∧ ops[l]? = some o' ∧ preB o' i = true
  effLt : ∀ q i : Nat, effs[q]? = some i → i < ops.size
  effNodup : effs.Nodup
  skip : ∀ (i : Nat) (o : Oper), ops[i]? = some o → wantB vals o = false → vals i = .any ∧ ∀ q : Nat, effs[q]? = some i → sts (q + 1) = sts q
  plain : ∀ (i : Nat) (o : Oper), ops[i]? = some o → wantB vals o = true → i ∉ effs → idof i = none → ∀ p, p ≤ effs.length → (∀ q j : Nat, effs[q]? = some j → preB o j = true → q < p) →
    (∀ (q j : Nat) (o' : Oper), effs[q]? = some j → ops[j]? = some o' → preB o' i = true → p ≤ q) → aop T (opv (view ops o vals tm)) (sts p) o.op = some (vals i, sts p)
  alloc : ∀ (i : Nat) (o : Oper) (id : Nat), ops[i]? = some o → idof i = some id → i ∉ effs ∧ ∃ e ti, o.op = .alloc e ∧ T e = some ti ∧ (wantB vals o = true → vals i = .ptr id 0) ∧
    ∀ p, p ≤ effs.length → (∀ q j : Nat, effs[q]? = some j → preB o j = true → q < p) →
      (∀ (q j : Nat) (o' : Oper), effs[q]? = some j → ops[j]? = some o' → preB o' i = true → p ≤ q) → aget (sts p).objs id = some (.cells ti.zero.cells)
  ids : ∀ i j id, idof i = some id → idof j = some id → i = j
  eff : ∀ (q i : Nat) (o : Oper), effs[q]? = some i → ops[i]? = some o → wantB vals o = true →
    (aop T (opv (view ops o vals tm)) (sts q) o.op = some (vals i, sts (q + 1))) ∨
    (∃ ca f args, o.op = .call ca ∧ acallee (view ops o vals tm) ca = some (f, args) ∧ bodied P f ∧ ACalls P f args (sts q) fun r s' => r = vals i ∧ s' = sts (q + 1))

theorem preB_iff {o : Oper} {j : Nat} : preB o j = true ↔ ∃ e ∈ o.after.toList, Region.binds .any e = true ∧ e.on = j := by
  simp only [preB, List.any_eq_true, Bool.and_eq_true]
  constructor
  · rintro ⟨e, h1, h2, h3⟩; exact ⟨e, h1, h2, Nat.eq_of_beq_eq_true h3⟩
  · rintro ⟨e, h1, h2, h3⟩; exact ⟨e, h1, h2, beq_of h3⟩

/-- where a run stands: what is listed, and what that means -/
structure At (ds : List Deferred) (c0 c : Ctx) (m : Nat) (ops : Array Oper) (tm vals : Nat → AV) (effs : List Nat) (sts : Nat → St) (idof : Nat → Option Nat) (listed : Array Bool) (a : Act) (w : World) (p : Nat) : Prop where
  size : listed.size = ops.size
  down : ∀ (i : Nat) (o : Oper), ops[i]? = some o → listed[i]? = some true → ∀ j, preB o j = true → listed[j]? = some true
  pos : p ≤ effs.length
  effL : ∀ (q i : Nat), effs[q]? = some i → (listed[i]? = some true ↔ q < p)
  le : c0.le c
  inv : Inv c w (sts p)
  defers : a.defers = ds
  tsize : a.tmps.size = m
  got : ∀ (t j : Nat) (o : Oper), ops[j]? = some o → o.dst = some t → listed[j]? = some true → VR c (vals j) (a.tmps.getD t undef)
  old : ∀ t : Nat, (∀ (j : Nat) (o : Oper), ops[j]? = some o → o.dst = some t → listed[j]? ≠ some true) → VR c (tm t) (a.tmps.getD t undef)
  pend : ∀ (i id : Nat), idof i = some id → i < ops.size → listed[i]? ≠ some true → c.pend id = true ∧ c.ι id = none

section
variable {P : Program} {T : Nat → Option TI} {ds : List Deferred} {m : Nat} {ops : Array Oper} {tm vals : Nat → AV} {effs : List Nat} {sts : Nat → St} {idof : Nat → Option Nat}

theorem listed_set {listed : Array Bool} {i j : Nat} (hi : i < listed.size) : (listed.setIfInBounds i true)[j]? = some true ↔ (j = i ∨ listed[j]? = some true) := by
  by_cases e : i = j
  · subst e; simp [Array.getElem?_setIfInBounds, hi]
  · rw [Array.getElem?_setIfInBounds_ne e]
    constructor
    · exact .inr
    · rintro (h | h)
      · exact absurd h.symm e
      · exact h

theorem At.step {c0 c c' : Ctx} {listed : Array Bool} {a : Act} {w w' : World} {p : Nat} (D : DOK P T m ops tm vals effs sts idof) (h : At ds c0 c m ops tm vals effs sts idof listed a w p) {i : Nat} {o : Oper} (ho : ops[i]? = some o)
    (hi : listed[i]? ≠ some true) (hready : ∀ j, preB o j = true → listed[j]? = some true) (hle0 : c0.le c') (hrep : ∀ x v, VR c x v → VR c' x v) {v : Value} (hv : VR c' (vals i) v) {p' : Nat}
    (hp : p' ≤ effs.length) (heff : ∀ q j : Nat, effs[q]? = some j → ((j = i ∨ listed[j]? = some true) ↔ q < p')) (hI : Inv c' w' (sts p'))
    (hpend : ∀ (j id : Nat), idof j = some id → j < ops.size → j ≠ i → listed[j]? ≠ some true → c'.pend id = true ∧ c'.ι id = none) :
    At ds c0 c' m ops tm vals effs sts idof (listed.setIfInBounds i true) (a.put o.dst v) w' p' := by
  have hlt : i < ops.size := (Array.getElem?_eq_some_iff.1 ho).1
  have hlt' : i < listed.size := by rw [h.size]; exact hlt
  have hput : ∀ t, (a.put o.dst v).tmps.getD t undef = if o.dst = some t then v else a.tmps.getD t undef := by
    intro t
    cases hd : o.dst with
    | none => simp [Act.put]
    | some d =>
      have hf := D.fits i o ho
      rw [hd] at hf
      have hdm : d < a.tmps.size := by rw [h.tsize]; exact Nat.le_of_ble_eq_true hf
      by_cases e : d = t
      · subst e; simp [Act.put, Array.getElem?_setIfInBounds, hdm]
      · have : ¬ some d = some t := fun x => e (Option.some.inj x)
        simp [Act.put, Array.getElem?_setIfInBounds_ne e, e]
  refine ⟨by simp; exact h.size, fun j o' hj hjl l hl => ?_, hp, fun q j hq => ?_, hle0, hI, ?_, ?_, fun t j o' hj hd hjl => ?_, fun t ht => ?_, fun j id hid hjs hjl => ?_⟩
  · rw [listed_set hlt'] at hjl ⊢
    rcases hjl with rfl | hjl
    · rw [ho] at hj; cases hj; exact .inr (hready l hl)
    · exact .inr (h.down j o' hj hjl l hl)
  · rw [listed_set hlt']; exact heff q j hq
  · cases hd : o.dst <;> simp [Act.put, h.defers]
  · cases hd : o.dst <;> simp [Act.put, h.tsize]
  · rw [listed_set hlt'] at hjl
    rw [hput]
    by_cases e : o.dst = some t
    · rw [if_pos e]
      obtain rfl := D.dsts i j o o' t ho hj e hd
      exact hv
    · rw [if_neg e]
      rcases hjl with rfl | hjl
      · rw [ho] at hj; cases hj; exact absurd hd e
      · exact hrep _ _ (h.got t j o' hj hd hjl)
  · rw [hput]
    have hne : ¬ o.dst = some t := fun e => ht i o ho e ((listed_set hlt').2 (.inl rfl))
    rw [if_neg hne]
    exact hrep _ _ (h.old t fun j o' hj hd hjl => ht j o' hj hd ((listed_set hlt').2 (.inr hjl)))
  · have hne : j ≠ i := fun e => by subst e; exact hjl ((listed_set hlt').2 (.inl rfl))
    exact hpend j id hid hjs hne fun x => hjl ((listed_set hlt').2 (.inr x))

/-- what an operation that is ready sees -/
theorem At.eval {c0 c : Ctx} {listed : Array Bool} {a : Act} {w : World} {p : Nat} (D : DOK P T m ops tm vals effs sts idof) (h : At ds c0 c m ops tm vals effs sts idof listed a w p) {i : Nat} {o : Oper} (ho : ops[i]? = some o)
    (hi : listed[i]? ≠ some true) (hready : ∀ j, preB o j = true → listed[j]? = some true) (x : Operand) : VR c (opv (view ops o vals tm) x) (a.eval x) := by
  cases x with
  | const v => exact avOf_rep c v
  | global g => exact .any _
  | func f => exact .fn _ [] [] #[] #[] .vnil .vnil
  | tmp t =>
    show VR c (view ops o vals tm t) (a.tmps.getD t undef)
    unfold view
    cases hs : (slotsOf o.op.operands.toList).any (Nat.beq t) with
    | false => exact .any _
    | true =>
      simp only [cond_true]
      have hmem : t ∈ slotsOf o.op.operands.toList := by
        obtain ⟨u, h1, h2⟩ := List.any_eq_true.1 hs
        rw [Nat.eq_of_beq_eq_true h2]; exact h1
      split
      · rename_i e he
        have hm := List.mem_of_find?_eq_some he
        have hp := List.find?_some he
        simp only [Bool.and_eq_true] at hp
        obtain ⟨hp1, hp2⟩ := hp
        cases hd : (ops[e.on]?).bind (·.dst) with
        | none => rw [hd] at hp2; cases hp2
        | some d =>
          rw [hd] at hp2
          have := Nat.eq_of_beq_eq_true hp2
          subst this
          obtain ⟨o', ho', hd'⟩ := Option.bind_eq_some_iff.1 hd
          exact h.got d e.on o' ho' hd' (hready _ (preB_iff.2 ⟨e, hm, hp1, rfl⟩))
      · rename_i hnone
        refine h.old t fun j o' hj hd hjl => ?_
        rcases D.opnd i j o o' t ho hj hd hmem with hpre | hpre | rfl
        · obtain ⟨e, he1, he2, rfl⟩ := preB_iff.1 hpre
          have := List.find?_eq_none.1 hnone e he1
          simp [he2, hj, hd, beq_of] at this
        · exact hi (h.down j o' hj hjl i hpre)
        · exact hi hjl

theorem At.wanted {c0 c : Ctx} {listed : Array Bool} {a : Act} {w : World} {p : Nat} (D : DOK P T m ops tm vals effs sts idof) (h : At ds c0 c m ops tm vals effs sts idof listed a w p) {i : Nat} {o : Oper} (ho : ops[i]? = some o)
    (hready : ∀ j, preB o j = true → listed[j]? = some true) : Region.wanted o (yielded ops a.tmps) = wantB vals o := by
  unfold Region.wanted wantB
  cases hg : o.guard with
  | none => rfl
  | some q =>
    obtain ⟨j, want⟩ := q
    obtain ⟨h1, o', d, b, h2, h3, h4⟩ := D.guard i o j want ho hg
    have hv := h.got d j o' h2 h3 (hready j h1)
    rw [h4] at hv
    have hy : yielded ops a.tmps j = some b := by
      unfold yielded
      simp only [h2, Option.bind_some, h3]
      generalize hgt : a.tmps.getD d undef = v at hv
      cases hv
      have hg' : (a.tmps[d]?).getD undef = .bool b := by simpa using hgt
      cases hq : a.tmps[d]? with
      | none => rw [hq] at hg'; cases hg'
      | some x => rw [hq] at hg'; simp only [Option.getD_some] at hg'; subst hg'; rfl
    simp only [hy, h4]
    cases b <;> cases want <;> rfl

/-- the values behind all -/
def finalTm (ops : Array Oper) (vals tm : Nat → AV) : Nat → AV := fun t =>
  match (List.range ops.size).find? (fun i => match (ops[i]?).bind (·.dst) with | some d => Nat.beq d t | none => false) with
  | some i => vals i
  | none => tm t

theorem At.final {c0 c : Ctx} {listed : Array Bool} {a : Act} {w : World} {p : Nat} (D : DOK P T m ops tm vals effs sts idof) (h : At ds c0 c m ops tm vals effs sts idof listed a w p) (hall : ∀ i, i < ops.size → listed[i]? = some true)
    {Q : Exit → (Nat → AV) → St → Prop} (hQ : Q .normal (finalTm ops vals tm) (sts effs.length)) : lift ds c0 m Q .normal a w := by
  have hp : p = effs.length := by
    have := h.pos
    rcases Nat.lt_or_ge p effs.length with hlt | hge
    · have hq : effs[p]? = some effs[p] := List.getElem?_eq_getElem hlt
      have := (h.effL p _ hq).1 (hall _ (D.effLt p _ hq))
      omega
    · omega
  subst hp
  refine ⟨c, _, _, h.le, h.inv, ⟨h.defers, h.tsize, fun t => ?_⟩, hQ⟩
  unfold finalTm
  split
  · rename_i i hi
    have hm := List.mem_of_find?_eq_some hi
    have hp := List.find?_some hi
    cases hd : (ops[i]?).bind (·.dst) with
    | none => rw [hd] at hp; cases hp
    | some d =>
      rw [hd] at hp
      have := Nat.eq_of_beq_eq_true hp
      subst this
      obtain ⟨o', ho', hd'⟩ := Option.bind_eq_some_iff.1 hd
      exact h.got d i o' ho' hd' (hall i (by simpa using hm))
  · rename_i hnone
    refine h.old t fun j o' hj hd _ => ?_
    have hlt := (Array.getElem?_eq_some_iff.1 hj).1
    have := List.find?_eq_none.1 hnone j (by simpa using hlt)
    simp [hj, hd, beq_of] at this

theorem ready_iff {listed : Array Bool} (hsz : listed.size = ops.size) {i : Nat} : i ∈ Region.ready .any ops listed ↔ ∃ o, ops[i]? = some o ∧ listed[i]? ≠ some true ∧ ∀ j, preB o j = true → listed[j]? = some true := by
  have hg1 : ∀ j : Nat, listed.getD j false = true ↔ listed[j]? = some true := fun j => by
    rw [Array.getD_eq_getD_getElem?]
    cases listed[j]? with
    | none => simp
    | some b => cases b <;> simp
  unfold Region.ready
  rw [List.mem_filter, List.mem_range]
  constructor
  · rintro ⟨hlt, h⟩
    simp only [Bool.and_eq_true, Bool.not_eq_true'] at h
    obtain ⟨h1, h2⟩ := h
    have ho : ops[i]? = some ops[i] := Array.getElem?_eq_getElem hlt
    refine ⟨ops[i], ho, fun e => ?_, fun j hj => ?_⟩
    · rw [Array.getD_eq_getD_getElem?, e] at h1; cases h1
    · rw [ho] at h2
      simp only [Option.map_some, Option.getD_some] at h2
      obtain ⟨e, he1, he2, rfl⟩ := preB_iff.1 hj
      have h2' := Array.all_eq_true'.1 h2 e (Array.mem_toList_iff.1 he1)
      rw [he2] at h2'
      simp only [Bool.not_true, Bool.false_or] at h2'
      exact (hg1 _).1 h2'
  · rintro ⟨o, ho, h1, h2⟩
    have hlt := (Array.getElem?_eq_some_iff.1 ho).1
    refine ⟨hlt, ?_⟩
    simp only [Bool.and_eq_true, Bool.not_eq_true']
    constructor
    · rw [Array.getD_eq_getD_getElem?]
      have hl : i < listed.size := by rw [hsz]; exact hlt
      rw [Array.getElem?_eq_getElem hl] at h1 ⊢
      cases hb : listed[i] with
      | false => rfl
      | true => rw [hb] at h1; exact absurd rfl h1
    · rw [ho]
      simp only [Option.map_some, Option.getD_some]
      refine Array.all_eq_true'.2 fun e he => ?_
      cases hb : Region.binds .any e with
      | false => rfl
      | true => simp only [Bool.not_true, Bool.false_or]; exact (hg1 _).2 (h2 _ (preB_iff.2 ⟨e, Array.mem_toList_iff.2 he, hb, rfl⟩))

/-- how many are not yet listed -/
def left (n : Nat) (listed : Array Bool) : Nat := ((List.range n).filter fun i => !(listed.getD i false)).length
theorem left_set {n : Nat} {listed : Array Bool} (hsz : listed.size = n) {i : Nat} (hlt : i < n) (hi : listed[i]? ≠ some true) : left n (listed.setIfInBounds i true) + 1 = left n listed := by
  have hi' : listed.getD i false = false := by
    rw [Array.getD_eq_getD_getElem?]
    cases h : listed[i]? with
    | none => rfl
    | some b => cases b with
      | false => rfl
      | true => exact absurd h hi
  unfold left
  have key : ∀ l : List Nat, l.Nodup → i ∈ l → (l.filter fun j => !((listed.setIfInBounds i true).getD j false)).length + 1 = (l.filter fun j => !(listed.getD j false)).length := by
    intro l
    induction l with
    | nil => intro _ h; cases h
    | cons x l ih =>
      intro hnd hm
      have hnd' := List.nodup_cons.1 hnd
      by_cases e : x = i
      · subst e
        have h1 : (listed.setIfInBounds x true).getD x false = true := by
          rw [Array.getD_eq_getD_getElem?, Array.getElem?_setIfInBounds]; simp [hsz, hlt]
        have h2 : l.filter (fun j => !((listed.setIfInBounds x true).getD j false)) = l.filter fun j => !(listed.getD j false) := by
          apply List.filter_congr
          intro j hj
          have hne : x ≠ j := fun e => hnd'.1 (e ▸ hj)
          rw [Array.getD_eq_getD_getElem?, Array.getElem?_setIfInBounds_ne hne, ← Array.getD_eq_getD_getElem?]
        rw [List.filter_cons, List.filter_cons, h1, hi', h2]
        simp
      · have h1 : (listed.setIfInBounds i true).getD x false = listed.getD x false := by
          rw [Array.getD_eq_getD_getElem?, Array.getElem?_setIfInBounds_ne (Ne.symm e), ← Array.getD_eq_getD_getElem?]
        have hm' : i ∈ l := (List.mem_cons.1 hm).resolve_left fun h => e h.symm
        have := ih hnd'.2 hm'
        rw [List.filter_cons, List.filter_cons, h1]
        split <;> (try simp only [List.length_cons]) <;> omega
  exact key _ List.nodup_range (List.mem_range.2 hlt)
theorem left_zero {n : Nat} {listed : Array Bool} (h : left n listed = 0) {i : Nat} (hi : i < n) : listed[i]? = some true := by
  have hf := List.length_eq_zero_iff.1 h
  have := List.filter_eq_nil_iff.1 hf i (List.mem_range.2 hi)
  simp only [Bool.not_eq_true', Bool.not_eq_false] at this
  rw [Array.getD_eq_getD_getElem?] at this
  cases h : listed[i]? with
  | none => rw [h] at this; cases this
  | some b => rw [h] at this; simp only [Option.getD_some] at this; rw [this]

/-- the first that is not listed is ready -/
theorem some_ready {c0 c : Ctx} {listed : Array Bool} {a : Act} {w : World} {p : Nat} (D : DOK P T m ops tm vals effs sts idof) (h : At ds c0 c m ops tm vals effs sts idof listed a w p) (hr : Region.ready .any ops listed = []) : ∀ i, i < ops.size → listed[i]? = some true := by
  intro i
  induction i using Nat.strongRecOn with
  | _ i ih =>
    intro hlt
    by_cases hi : listed[i]? = some true
    · exact hi
    · have ho : ops[i]? = some ops[i] := Array.getElem?_eq_getElem hlt
      have : i ∈ Region.ready .any ops listed := (ready_iff h.size).2 ⟨ops[i], ho, hi, fun j hj => by
        obtain ⟨e, he1, he2, rfl⟩ := preB_iff.1 hj
        have hlt2 := D.edges i _ ho e he1 he2
        exact ih e.on hlt2 (by omega)⟩
      rw [hr] at this; cases this

theorem one_op (hT : TOK P T) {c0 c : Ctx} (D0 : ∀ i id, idof i = some id → c0.pend id = false) {listed : Array Bool} {a : Act} {w : World} {p : Nat} (D : DOK P T m ops tm vals effs sts idof) (h : At ds c0 c m ops tm vals effs sts idof listed a w p) {i : Nat} {o : Oper} (ho : ops[i]? = some o)
    (hi : listed[i]? ≠ some true) (hready : ∀ j, preB o j = true → listed[j]? = some true) {K : Act → World → Prop} {Q : Exit → (Nat → AV) → St → Prop}
    (hK : ∀ c' a' w' p', At ds c0 c' m ops tm vals effs sts idof (listed.setIfInBounds i true) a' w' p' → K a' w') : wpOp P ops (lift ds c0 m Q) i K a w := by
  have hlt : i < ops.size := (Array.getElem?_eq_some_iff.1 ho).1
  have hwant := h.wanted D ho hready
  have hev := h.eval D ho hi hready
  -- the place among the effects
  have hlow : ∀ q j : Nat, effs[q]? = some j → preB o j = true → q < p := fun q j hq hj => (h.effL q j hq).1 (hready j hj)
  have hhigh : ∀ (q j : Nat) (o' : Oper), effs[q]? = some j → ops[j]? = some o' → preB o' i = true → p ≤ q := by
    intro q j o' hq hj hp
    rcases Nat.lt_or_ge q p with hlt | hge
    · exact absurd (h.down j o' hj ((h.effL q j hq).2 hlt) i hp) hi
    · exact hge
  have heffSame : i ∉ effs → ∀ q j : Nat, effs[q]? = some j → ((j = i ∨ listed[j]? = some true) ↔ q < p) := by
    intro hne q j hq
    have hji : j ≠ i := fun e => by subst e; exact hne (List.mem_of_getElem? hq)
    rw [← h.effL q j hq]
    exact ⟨fun x => x.resolve_left hji, .inr⟩
  have heffNext : ∀ q0 : Nat, effs[q0]? = some i → q0 = p ∧ ∀ q j : Nat, effs[q]? = some j → ((j = i ∨ listed[j]? = some true) ↔ q < p + 1) := by
    intro q0 hq0
    have hge : p ≤ q0 := by
      rcases Nat.lt_or_ge q0 p with hlt | hge
      · exact absurd ((h.effL q0 i hq0).2 hlt) hi
      · exact hge
    have heq : q0 = p := by
      rcases Nat.lt_or_eq_of_le hge with hlt | he
      · exfalso
        obtain ⟨q1, rfl⟩ : ∃ q1, q0 = q1 + 1 := ⟨q0 - 1, by omega⟩
        have hq1lt : q1 < effs.length := by have := (List.getElem?_eq_some_iff.1 hq0).1; omega
        have hq1 : effs[q1]? = some effs[q1] := List.getElem?_eq_getElem hq1lt
        have hnl : ¬ listed[effs[q1]]? = some true := fun e => by have := (h.effL q1 _ hq1).1 e; omega
        rcases D.effOrd q1 _ i o hq1 hq0 ho with hp | ⟨l, o', hl1, hl2, hl3⟩
        · exact hnl (hready _ hp)
        · exact hnl (h.down l o' hl2 (hready l hl1) _ hl3)
      · exact he.symm
    refine ⟨heq, fun q j hq => ?_⟩
    constructor
    · rintro (rfl | hj)
      · have : q = q0 := by
          have h1 := (List.getElem?_eq_some_iff.1 hq).1
          exact (List.getElem?_inj h1 D.effNodup).1 (hq.trans hq0.symm)
        omega
      · have := (h.effL q j hq).1 hj; omega
    · intro hlt
      rcases Nat.lt_or_eq_of_le (Nat.le_of_lt_succ hlt) with h1 | h1
      · exact .inr ((h.effL q j hq).2 h1)
      · left
        subst h1
        subst heq
        rw [hq0] at hq
        exact (Option.some.inj hq).symm
  have hpendSame : ∀ c' : Ctx, c.le c' → ∀ (j id : Nat), idof j = some id → j < ops.size → j ≠ i → listed[j]? ≠ some true → c'.pend id = true ∧ c'.ι id = none := by
    intro c' hle j id hid hjs _ hjl
    obtain ⟨h1, h2⟩ := h.pend j id hid hjs hjl
    obtain ⟨g1, g2⟩ := hle.pend id h1
    exact ⟨g1, g2.trans h2⟩
  unfold wpOp
  rw [ho]
  simp only
  cases hw : wantB vals o with
  | false =>
    rw [if_neg (by rw [hwant, hw]; exact Bool.false_ne_true)]
    obtain ⟨hval, hst⟩ := D.skip i o ho hw
    by_cases he : i ∈ effs
    · obtain ⟨q0, hq0⟩ := List.mem_iff_getElem?.1 he
      obtain ⟨rfl, hnext⟩ := heffNext q0 hq0
      refine hK c _ w (q0 + 1) (h.step D ho hi hready h.le (fun _ _ x => x) (by rw [hval]; exact .any _) (by have := (List.getElem?_eq_some_iff.1 hq0).1; omega) hnext (by rw [hst q0 hq0]; exact h.inv) fun j id a b _ e => h.pend j id a b e)
    · exact hK c _ w p (h.step D ho hi hready h.le (fun _ _ x => x) (by rw [hval]; exact .any _) h.pos (heffSame he) h.inv fun j id a b _ e => h.pend j id a b e)
  | true =>
    rw [if_pos (by rw [hwant, hw])]
    refine .inl ?_
    by_cases he : i ∈ effs
    · obtain ⟨q0, hq0⟩ := List.mem_iff_getElem?.1 he
      obtain ⟨rfl, hnext⟩ := heffNext q0 hq0
      have hq1 : q0 + 1 ≤ effs.length := by have := (List.getElem?_eq_some_iff.1 hq0).1; omega
      rcases D.eff q0 i o hq0 ho hw with hop | ⟨ca, f, args, hca, hcal, hb, hcalls⟩
      · obtain ⟨v, w', c', h1, h2, h3, h4⟩ := aop_sound hT h.inv hev o hop
        have hk : K (a.put o.dst v) w' := hK c' _ w' (q0 + 1) (h.step D ho hi hready (h.le.trans h2) (fun _ _ x => x.mono h2) h4 hq1 hnext h3 (hpendSame c' h2))
        unfold Oper.wp
        rcases h1 with h1 | ⟨h1, rfl⟩
        · rw [h1]; exact hk
        · rw [h1]; exact hk
      · unfold acallee at hcal
        split at hcal
        · rename_i x hx
          split at hcal
          · rename_i g first captured hfv
            cases hcal
            have hv := hev x
            rw [hfv] at hv
            generalize hevx : a.eval x = v at hv
            cases hv with
            | fn _ _ _ vfs vcs h1 h2 =>
            obtain ⟨fn, hfn, hname, hbody⟩ := hb
            have hrun : (execOp a.eval o).run P w = .ok (.enter f (vfs ++ ca.args.map a.eval ++ vcs)) w := by
              obtain ⟨dst, op, ty, pos, after, guard⟩ := o
              simp only at hca
              subst hca
              have hn : ¬ fn.name = "runtime.NumGoroutine" := by simpa using hname
              have hbn : ¬ fn.body = none := by intro e; rw [e] at hbody; cases hbody
              simp [execOp, resolve, hx, hevx, Deferred.ofValue, invoke, callFunc, hfn, hn, hbn]
            have hargs : VRs c (first ++ ca.args.toList.map (opv (view ops o vals tm)) ++ captured) (vfs ++ ca.args.map a.eval ++ vcs).toList := by
              simp only [Array.toList_append, Array.toList_map]
              exact VRs.append (VRs.append h1 (map_ev (fun x => hev x) _)) h2
            have := hcalls c w _ h.inv hargs
            unfold Oper.wp
            rw [hrun]
            refine Calls.mono this ?_
            rintro e w' ⟨v, c', r, s', rfl, g1, g2, g3, rfl, rfl⟩
            exact hK c' _ w' (q0 + 1) (h.step D ho hi hready (h.le.trans g1) (fun _ _ x => x.mono g1) g3 hq1 hnext g2 (hpendSame c' g1))
          · cases hcal
        · cases hcal
    · cases hid : idof i with
      | none =>
        have hop := D.plain i o ho hw he hid p h.pos hlow hhigh
        obtain ⟨v, w', c', h1, h2, h3, h4⟩ := aop_sound hT h.inv hev o hop
        have hk : K (a.put o.dst v) w' := hK c' _ w' p (h.step D ho hi hready (h.le.trans h2) (fun _ _ x => x.mono h2) h4 h.pos (heffSame he) h3 (hpendSame c' h2))
        unfold Oper.wp
        rcases h1 with h1 | ⟨h1, rfl⟩
        · rw [h1]; exact hk
        · rw [h1]; exact hk
      | some id =>
        obtain ⟨_, e, ti, hop, hte, hval, hcells⟩ := D.alloc i o id ho hid
        have hc := hcells p h.pos hlow hhigh
        obtain ⟨i', d, z, hf⟩ := tfacts hT hte
        obtain ⟨hp1, hp2⟩ := h.pend i id hid hlt hi
        -- the id is no longer kept
        let c1 : Ctx := { c with pend := fun j => cond (Nat.beq j id) false (c.pend j) }
        have hI1 : Inv c1 w (sts p) := by
          have hrep : ∀ {t}, Rep c t → Rep c1 t := fun {t} r => by
            induction r with
            | any v => exact .any v
            | bool b => exact .bool b
            | int k n => exact .int k n
            | str s => exact .str s
            | nilptr => exact .nilptr
            | ptr id off b h1 => exact .ptr id off b h1
            | fp x b o hf _ ih => exact .fp x b o hf ih
            | slnil k h1 => exact .slnil k h1
            | sle k a cap h1 => exact .sle k a cap h1
            | sl k xs b o cap sz h1 _ h3 h4 h5 ih => exact .sl k xs b o cap sz h1 ih h3 h4 h5
            | nilmap => exact .nilmap
            | map id b h1 => exact .map id b h1
            | fn f fs cs vfs vcs _ _ i1 i2 => exact .fn f fs cs vfs vcs i1 i2
            | nilfn => exact .nilfn
            | ifc t a v _ i1 => exact .ifc t a v i1
            | nilifc => exact .nilifc
            | rsv t sz b cap h1 => exact .rsv t sz b cap h1
            | osl id k cap b h1 h2 => exact .osl id k cap b h1 h2
            | agg l vs _ i1 => exact .agg l vs i1
            | tup l vs _ i1 => exact .tup l vs i1
            | cnil b o => exact .cnil b o
            | ccons x l b o v h1 _ _ i1 i2 => exact .ccons x l b o v h1 i1 i2
            | vnil => exact .vnil
            | vcons x l v vs _ _ i1 i2 => exact .vcons x l v vs i1 i2
            | enil sz b o => exact .enil sz b o
            | econs sz x l b o h1 h2 _ _ i1 i2 => exact .econs sz x l b o h1 h2 i1 i2
          have hents : ∀ {es l}, Ents c es l → Ents c1 es l := fun {es l} g => by
            induction g with
            | nil => exact .nil
            | cons k v es e l h1 h2 _ ih => exact .cons k v es e l (hrep h1) (hrep h2) ih
          refine ⟨fun j hj => h.inv.pnd j ?_, h.inv.bel, h.inv.base_le, h.inv.old, h.inv.os, h.inv.out, h.inv.fro, h.inv.ids, h.inv.free, h.inv.inj, fun j x b hx hb => ?_, h.inv.tks, h.inv.two, h.inv.tok⟩
          · have : cond (Nat.beq j id) false (c.pend j) = true := hj
            cases hb : Nat.beq j id with
            | true => rw [hb] at this; cases this
            | false => rw [hb] at this; exact this
          · have := h.inv.obj j x b hx hb
            cases x with
            | cells cs => obtain ⟨vs, e, k1, k2⟩ := this; exact ⟨vs, e, k1, hrep k2⟩
            | map es => obtain ⟨vs, e, k1, k2⟩ := this; exact ⟨vs, e, k1, hents k2⟩
            | tok _ => exact this
            | dead => exact this
        have hpd : c1.pend id = false := by show cond (Nat.beq id id) false _ = false; rw [beq_of rfl]; rfl
        have hn1 : c1.ι id = none := hp2
        have hbind := hI1.bindNew (i := id) (x := .cells ti.zero.cells) (o := .cells z.cells e) (h.inv.pnd id hp1) hn1 hc hpd (fun c' w' hle hwn => ⟨z.cells, e, hwn, zero_cells hf c'⟩)
        have hrepB : ∀ x v, VR c x v → VR (c1.bind id w.heap.size) x v := by
          intro x v r
          have hle1 := Ctx.le_bind (b := w.heap.size) hn1 hpd
          have : ∀ {t}, Rep c t → Rep (c1.bind id w.heap.size) t := fun {t} r => by
            induction r with
            | any v => exact .any v
            | bool b => exact .bool b
            | int k n => exact .int k n
            | str s => exact .str s
            | nilptr => exact .nilptr
            | ptr id off b h1 => exact .ptr id off b (hle1.ι _ _ h1)
            | fp x b o hf _ ih => exact .fp x b o hf ih
            | slnil k h1 => exact .slnil k h1
            | sle k a cap h1 => exact .sle k a cap h1
            | sl k xs b o cap sz h1 _ h3 h4 h5 ih => exact .sl k xs b o cap sz h1 ih h3 h4 h5
            | nilmap => exact .nilmap
            | map id b h1 => exact .map id b (hle1.ι _ _ h1)
            | fn f fs cs vfs vcs _ _ i1 i2 => exact .fn f fs cs vfs vcs i1 i2
            | nilfn => exact .nilfn
            | ifc t a v _ i1 => exact .ifc t a v i1
            | nilifc => exact .nilifc
            | rsv t sz b cap h1 => exact .rsv t sz b cap h1
            | osl id k cap b h1 h2 => exact .osl id k cap b (hle1.ι _ _ h1) h2
            | agg l vs _ i1 => exact .agg l vs i1
            | tup l vs _ i1 => exact .tup l vs i1
            | cnil b o => exact .cnil b o
            | ccons x l b o v h1 _ _ i1 i2 => exact .ccons x l b o v h1 i1 i2
            | vnil => exact .vnil
            | vcons x l v vs _ _ i1 i2 => exact .vcons x l v vs i1 i2
            | enil sz b o => exact .enil sz b o
            | econs sz x l b o h1 h2 _ _ i1 i2 => exact .econs sz x l b o h1 h2 i1 i2
          exact this r
        have hidf : ∀ j, j ≠ id → (c1.bind id w.heap.size).ι j = c.ι j := fun j hj => by simp only [Ctx.bind]; rw [if_neg hj]
        have hle0 : c0.le (c1.bind id w.heap.size) := by
          have hc0 : c0.pend id = false := D0 i id hid
          refine ⟨h.le.base, h.le.heap0, h.le.os, h.le.out, fun j b hj => ?_, h.le.τ, h.le.f, fun j hj => ?_⟩
          · have hj' := h.le.ι j b hj
            rw [hidf j fun e => by subst e; rw [hp2] at hj'; cases hj']; exact hj'
          · have hne : j ≠ id := fun e => by subst e; rw [hc0] at hj; cases hj
            obtain ⟨g1, g2⟩ := h.le.pend j hj
            refine ⟨?_, by rw [hidf j hne]; exact g2⟩
            show cond (Nat.beq j id) false (c.pend j) = true
            rw [beq_ne hne]; exact g1
        have hrun : (execOp a.eval o).run P w = .ok (.value (.pointer (some ⟨w.heap.size, 0, none⟩))) (w.alloc (.cells z.cells e)) := by
          obtain ⟨dst, op, ty, pos, after, guard⟩ := o
          simp only at hop
          subst hop
          simp [execOp, Instr.alloc, run_zero' hf, newVar, newRow]
        unfold Oper.wp
        rw [hrun]
        refine hK (c1.bind id w.heap.size) _ _ p (h.step D ho hi hready hle0 hrepB (by rw [hval hw]; exact .ptr _ _ _ (by simp [Ctx.bind])) h.pos (heffSame he) hbind fun j id' hj hjs hji hjl => ?_)
        obtain ⟨g1, g2⟩ := h.pend j id' hj hjs hjl
        have hne : id' ≠ id := fun e => by subst e; exact hji (D.ids j i id' hj hid)
        refine ⟨?_, by rw [hidf id' hne]; exact g2⟩
        show cond (Nat.beq id' id) false (c.pend id') = true
        rw [beq_ne hne]; exact g1

theorem any_order (hT : TOK P T) {c0 : Ctx} (D0 : ∀ i id, idof i = some id → c0.pend id = false) (D : DOK P T m ops tm vals effs sts idof) {Q : Exit → (Nat → AV) → St → Prop} (hQ : Q .normal (finalTm ops vals tm) (sts effs.length)) :
    ∀ (fuel : Nat) (listed : Array Bool) (c : Ctx) (a : Act) (w : World) (p : Nat), left ops.size listed = fuel → At ds c0 c m ops tm vals effs sts idof listed a w p → wpAny P .any ops (lift ds c0 m Q) fuel listed a w
  | 0, listed, c, a, w, p, hf, h => by
    have hall := fun i (hi : i < ops.size) => left_zero hf hi
    refine ⟨?_, h.final D hall hQ⟩
    refine List.eq_nil_iff_forall_not_mem.2 fun i hi => ?_
    obtain ⟨o, ho, h1, _⟩ := (ready_iff h.size).1 hi
    exact h1 (hall i (Array.getElem?_eq_some_iff.1 ho).1)
  | fuel + 1, listed, c, a, w, p, hf, h => by
    refine ⟨fun hr => h.final D (some_ready D h hr) hQ, fun i hi => ?_⟩
    obtain ⟨o, ho, h1, h2⟩ := (ready_iff h.size).1 hi
    have hlt := (Array.getElem?_eq_some_iff.1 ho).1
    refine one_op hT D0 D h ho h1 h2 fun c' a' w' p' h' => any_order hT D0 D hQ fuel _ c' a' w' p' ?_ h'
    have := left_set h.size hlt h1
    omega

theorem left_all (n : Nat) : left n (Array.replicate n false) = n := by
  unfold left
  have : (List.range n).filter (fun i => !((Array.replicate n false).getD i false)) = List.range n := by
    apply List.filter_eq_self.2
    intro i hi
    have := List.mem_range.1 hi
    simp [Array.getD_eq_getD_getElem?, this]
  rw [this]; simp

/-- objects that are kept for operations to come -/
theorem Inv.keepIds {c : Ctx} {w : World} {s : St} (h : Inv c w s) (ps : Nat → Bool) (hp : ∀ i, ps i = true → i < s.n) : Inv { c with pend := fun i => c.pend i || ps i } w s ∧ c.le { c with pend := fun i => c.pend i || ps i } ∧ ∀ {x v}, VR c x v → VR { c with pend := fun i => c.pend i || ps i } x v := by
  have hle : c.le { c with pend := fun i => c.pend i || ps i } := ⟨rfl, rfl, rfl, rfl, fun _ _ x => x, fun _ _ x => x, fun _ _ _ x => x, fun i x => ⟨by simp [x], rfl⟩⟩
  refine ⟨⟨fun i hi => ?_, h.bel, h.base_le, h.old, h.os, h.out, h.fro, h.ids, h.free, h.inj, fun i x b hx hb => (h.obj i x b hx hb).mono hle rfl, h.tks, h.two, h.tok⟩, hle, fun r => r.mono hle⟩
  have hi' : (c.pend i || ps i) = true := hi
  rcases Bool.or_eq_true_iff.1 hi' with h1 | h1
  · exact h.pnd i h1
  · exact hp i h1

theorem W_draw (hT : TOK P T) (hm : P.follows .mixedOrders = true) {id : Nat} {s : St} (D : DOK P T m ops tm vals effs sts idof) (hs : ∀ c w, Inv c w s → Inv c w (sts 0)) (hid : ∀ i id, idof i = some id → s.n ≤ id ∧ id < (sts 0).n ∧ i < ops.size)
    {Q : Exit → (Nat → AV) → St → Prop} (hQ : Q .normal (finalTm ops vals tm) (sts effs.length)) : W P m (.region id ops true) Q tm s := by
  intro ds c w a hI ha
  have hI0 := hs c w hI
  -- which ids are kept
  let ps : Nat → Bool := fun k => (List.range ops.size).any fun i => match idof i with | some id => Nat.beq id k | none => false
  have hps : ∀ k, ps k = true → s.n ≤ k ∧ k < (sts 0).n := by
    intro k hk
    obtain ⟨i, hi, h⟩ := List.any_eq_true.1 hk
    cases e : idof i with
    | none => rw [e] at h; cases h
    | some id =>
      rw [e] at h
      have := Nat.eq_of_beq_eq_true h
      subst this
      exact ⟨(hid i id e).1, (hid i id e).2.1⟩
  obtain ⟨k1, k2, k3⟩ := (hI0.drew).keepIds ps fun k hk => (hps k hk).2
  have D0 : ∀ i id, idof i = some id → c.pend id = false := by
    intro i id e
    cases h : c.pend id with
    | false => rfl
    | true => have := hI.pnd id h; have := (hid i id e).1; omega
  refine wp_region_any hm (any_order hT (c0 := c) D0 D hQ ops.size _ { c with pend := fun i => c.pend i || ps i } a _ 0 (left_all _) ?_)
  refine ⟨by simp, fun i o ho hl => ?_, Nat.zero_le _, fun q i hq => ?_, k2, k1, ha.defers, ha.size, fun t j o ho hd hl => ?_, fun t _ => k3 (ha.get t), fun i id e hlt _ => ?_⟩
  · have := (Array.getElem?_eq_some_iff.1 hl); obtain ⟨h1, h2⟩ := this; simp at h2
  · constructor
    · intro hl; obtain ⟨h1, h2⟩ := Array.getElem?_eq_some_iff.1 hl; simp at h2
    · intro h; omega
  · obtain ⟨h1, h2⟩ := Array.getElem?_eq_some_iff.1 hl; simp at h2
  · constructor
    · show (c.pend id || ps id) = true
      have : ps id = true := List.any_eq_true.2 ⟨i, List.mem_range.2 hlt, by simp only [e]; exact beq_of rfl⟩
      rw [this]; simp
    · show c.ι id = none
      cases h : c.ι id with
      | none => rfl
      | some b => have := hI.ids_lt id b h; have := (hid i id e).1; omega
end
end Go.Sy
