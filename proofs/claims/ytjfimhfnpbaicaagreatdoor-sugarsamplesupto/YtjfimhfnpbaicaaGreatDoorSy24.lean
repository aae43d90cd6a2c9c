/- Lemmas: regions that draw their order, in the calculus for rewriting; no condition. -/
import Derived.Test.YtjfimhfnpbaicaaGreatDoorSy23
namespace Go.Sy
set_option linter.unusedSimpArgs false
set_option linter.unusedVariables false

theorem slotsOf_mem {t : Nat} : ∀ {l : List Operand}, Operand.tmp t ∈ l → t ∈ slotsOf l
  | [], h => by cases h
  | x :: l, h => by
    rcases List.mem_cons.1 h with rfl | h
    · simp [slotsOf]
    · have := slotsOf_mem h
      cases x <;> simp [slotsOf, this]
theorem opv_congr {f g : Nat → AV} {l : List Operand} (h : ∀ x ∈ slotsOf l, f x = g x) : ∀ o ∈ l, opv f o = opv g o := by
  intro o ho
  cases o with
  | tmp t => exact h t (slotsOf_mem ho)
  | const v => rfl
  | global g => rfl
  | func f => rfl
theorem aop_congr {T : Nat → Option TI} {ev ev' : Operand → AV} {s : St} {op : Op} (h : ∀ o ∈ op.operands.toList, ev o = ev' o) : aop T ev s op = aop T ev' s op := by
  have hparts : ∀ ps : Array (Nat × Operand), (∀ o ∈ ps.toList.map (·.2), ev o = ev' o) → (ps.toList.map fun p => (p.1, ev p.2)) = ps.toList.map fun p => (p.1, ev' p.2) := by
    intro ps hp
    refine List.map_congr_left fun p hp' => ?_
    rw [hp p.2 (List.mem_map.2 ⟨p, hp', rfl⟩)]
  have hmap : ∀ l : List Operand, (∀ o ∈ l, ev o = ev' o) → l.map ev = l.map ev' := fun l hl => List.map_congr_left hl
  cases op
  case build t ps =>
    have := hparts ps (by simpa [Op.operands] using h)
    simp only [aop, this]
  case buildSlice t n ps =>
    have := hparts ps (by simpa [Op.operands] using h)
    simp only [aop, this]
  case makeFunc f a b =>
    have h1 := hmap a.toList fun o ho => h o (by simp [Op.operands]; exact .inl (by simpa using ho))
    have h2 := hmap b.toList fun o ho => h o (by simp [Op.operands]; exact .inr (by simpa using ho))
    simp only [aop, h1, h2]
  case makeMap t r =>
    cases r with
    | none => rfl
    | some x => have := h x (by simp [Op.operands]); simp only [aop, this]
  case slice t x lo hi mx =>
    have h1 := h x (by simp [Op.operands])
    have h2 : lo.map ev = lo.map ev' := by cases lo with | none => rfl | some y => simp only [Option.map_some, Option.some.injEq]; exact h y (by simp [Op.operands])
    have h3 : hi.map ev = hi.map ev' := by cases hi with | none => rfl | some y => simp only [Option.map_some, Option.some.injEq]; exact h y (by simp [Op.operands])
    have h4 : mx.map ev = mx.map ev' := by cases mx with | none => rfl | some y => simp only [Option.map_some, Option.some.injEq]; exact h y (by simp [Op.operands])
    simp only [aop, h1, h2, h3, h4]
  case call c =>
    have h1 := hmap c.args.toList fun o ho => h o (by simp [Op.operands, Call.operands]; exact .inr (by simpa using ho))
    simp only [aop, h1]
  all_goals first
    | rfl
    | (simp only [Op.operands, List.mem_cons, List.not_mem_nil, or_false, forall_eq, forall_eq_or_imp] at h; simp only [aop, h])
theorem acallee_congr {f g : Nat → AV} {c : Call} (h : ∀ o ∈ (Op.call c).operands.toList, opv f o = opv g o) : acallee f c = acallee g c := by
  have h1 : c.args.toList.map (opv f) = c.args.toList.map (opv g) := List.map_congr_left fun o ho => h o (by simp [Op.operands, Call.operands]; exact .inr (by simpa using ho))
  unfold acallee
  cases hc : c.callee with
  | value x =>
    have := h x (by simp [Op.operands, Call.operands, hc])
    simp only [this, h1]
  | invoke _ _ => rfl
  | builtin _ => rfl

abbrev Ld := Nat × Oper × Sl × AV
inductive DR where
  | done (t : Sl) (s : St) (sts : List St) (ld : List Ld)
  | call (d : Option Nat) (l : List Oper) (j next : Nat) (t : Sl) (sts : List St) (ld : List Ld) (f : FuncId) (args : List AV) (s : St)
  | stuck
/-- what an operation sees, and no more -/
noncomputable def small (o : Oper) (t : Sl) : Sl := (slotsOf o.op.operands.toList).map fun x => (x, look t x)
/-- does its value hang on the state? -/
noncomputable def needsSt (op : Op) (t : Sl) : Bool := match op with
  | .load _ x => (match opv (look t) x with | .fp _ => false | _ => true)
  | op => !(isPure op)
noncomputable def dpops (T : Nat → Option TI) (ops : Array Oper) : List Oper → Nat → Nat → Sl → St → List St → List Ld → DR
  | [], j, next, t, s, sts, ld => .done t s sts ld
  | o :: l, j, next, t, s, sts, ld => match gVal ops t o.guard with
    | .bool true => (match allocOf o with
      | some _ => dpops T ops l (j + 1) (next + 1) (putF o.dst (.ptr next 0) t) s sts ((j, o, [], .ptr next 0) :: ld)
      | none => (match callOf o.op with
        | some ca => (match acallee (look t) ca with | some (f, args) => .call o.dst l (j + 1) next t sts ld f args s | none => .stuck)
        | none => (match aop T (opv (look t)) s o.op with
          | some (v, s') => (match isEff o with
            | true => dpops T ops l (j + 1) next (putF o.dst v t) s' (s' :: sts) ld
            | false => (match needsSt o.op t with
              | true => dpops T ops l (j + 1) next (putF o.dst v t) s sts ((j, o, small o t, v) :: ld)
              | false => dpops T ops l (j + 1) next (putF o.dst v t) s sts ld))
          | none => .stuck)))
    | .bool false => (match allocOf o with
      | some _ => .stuck
      | none => (match isEff o with
        | true => dpops T ops l (j + 1) next (putF o.dst .any t) s (s :: sts) ld
        | false => dpops T ops l (j + 1) next (putF o.dst .any t) s sts ld))
    | _ => .stuck

theorem load_firm {T : Nat → Option TI} {t : Sl} {s : St} {op : Op} {v : AV} (hp : isPure op = false) (hn : needsSt op t = false) (hop : aop T (opv (look t)) s op = some (v, s)) (st : St) : aop T (opv (look t)) st op = some (v, st) := by
  cases op
  case load ty ax =>
    simp only [needsSt] at hn
    simp only [aop] at hop ⊢
    cases hx : opv (look t) ax with
    | fp y =>
      rw [hx] at hop
      rw [show aload T st ty (.fp y) = aload T s ty (.fp y) by unfold aload; cases T ty <;> rfl]
      cases hal : aload T s ty (.fp y) with
      | none => rw [hal] at hop; cases hop
      | some u => rw [hal] at hop; simp only [Option.some.injEq, Prod.mk.injEq] at hop; rw [hop.1]
    | _ => rw [hx] at hn; cases hn
  all_goals (simp only [needsSt, Bool.not_eq_false'] at hn; simp only [hn] at hp; cases hp)

/-- what is asked at the end -/
def chkOne (T : Nat → Option TI) (effs : List (Nat × Oper)) (x : Ld) : Nat → List St → Prop
  | _, [] => True
  | p, st :: r => (match admits x.2.1 x.1 p 0 effs with
    | true => (match allocOf x.2.1 with
      | some e => (match T e, x.2.2.2 with | some ti, .ptr id 0 => aget st.objs id = some (.cells ti.zero.cells) | _, _ => False)
      | none => aop T (opv (look x.2.2.1)) st x.2.1.op = some (x.2.2.2, st))
    | false => True) ∧ chkOne T effs x (p + 1) r
def chkAll (T : Nat → Option TI) (effs : List (Nat × Oper)) (sts : List St) : List Ld → Prop
  | [] => True
  | x :: r => chkOne T effs x 0 sts ∧ chkAll T effs sts r
theorem chkAll_of {T : Nat → Option TI} {effs : List (Nat × Oper)} {sts : List St} : ∀ {ld : List Ld}, chkAll T effs sts ld → ∀ x ∈ ld, chkOne T effs x 0 sts
  | [], _, x, hx => by cases hx
  | y :: r, h, x, hx => by
    rcases List.mem_cons.1 hx with rfl | hx
    · exact h.1
    · exact chkAll_of h.2 x hx
theorem chkOne_of {T : Nat → Option TI} {effs : List (Nat × Oper)} {x : Ld} : ∀ {sts : List St} {p0 : Nat}, chkOne T effs x p0 sts → ∀ p st, sts[p]? = some st → admits x.2.1 x.1 (p0 + p) 0 effs = true →
    (match allocOf x.2.1 with
      | some e => (match T e, x.2.2.2 with | some ti, .ptr id 0 => aget st.objs id = some (.cells ti.zero.cells) | _, _ => False)
      | none => aop T (opv (look x.2.2.1)) st x.2.1.op = some (x.2.2.2, st))
  | [], p0, _, p, st, hp, _ => by simp at hp
  | s0 :: r, p0, h, p, st, hp, ha => by
    cases p with
    | zero =>
      simp only [List.getElem?_cons_zero, Option.some.injEq] at hp
      subst hp
      have h1 := h.1
      rw [Nat.add_zero] at ha
      rw [ha] at h1
      exact h1
    | succ p => exact chkOne_of h.2 p st (by simpa using hp) (by rw [Nat.add_right_comm]; exact ha)

section
variable {P : Program} {T : Nat → Option TI} {m : Nat} {ops : Array Oper} {Q : QT} {t0 : Sl} {s s0 : St}

structure DPre (P : Program) (T : Nat → Option TI) (ops : Array Oper) (t0 : Sl) (s s0 : St) (l : List Oper) (j next : Nat) (t : Sl) (cur : St) (sts : List St) (ld : List Ld) (tr : Nat → DSt) : Prop where
  z : tr 0 = { i := 0, next := s.n, vals := [], sts := [s0], effs := [], ids := [], cur := s0 }
  rest : ops.toList.drop j = l
  le : j ≤ ops.size
  step : ∀ i, i < j → ∃ o v, ops[i]? = some o ∧ DStep P T ops (look t0) o (tr i) (tr (i + 1)) v
  next : (tr j).next = next
  cur : (tr j).cur = cur
  sts : (tr j).sts = sts
  wr : ∀ i o x, i < j → ops[i]? = some o → o.dst = some x → look t x = look (tr (i + 1)).vals i
  old : ∀ x, (∀ i o, i < j → ops[i]? = some o → o.dst ≠ some x) → look t x = look t0 x
  ld : ∀ i o, i < j → ops[i]? = some o → isEff o = false → isPure o.op = false → wantB (look (tr i).vals) o = true →
    (allocOf o = none ∧ ∀ st, aop T (opv (view ops o (look (tr i).vals) (look t0))) st o.op = some (look (tr (i + 1)).vals i, st)) ∨
    (∃ sm, (i, o, sm, look (tr (i + 1)).vals i) ∈ ld ∧ (allocOf o = none → ∀ st, aop T (opv (look sm)) st o.op = aop T (opv (view ops o (look (tr i).vals) (look t0))) st o.op))

/-- the end: a whole trace and what is asked of it -/
def DFin (P : Program) (T : Nat → Option TI) (ops : Array Oper) (Q : QT) (t0 : Sl) (s s0 : St) (tr : Nat → DSt) : Prop :=
  ∃ next t cur sts ld, DPre P T ops t0 s s0 [] ops.size next t cur sts ld tr ∧ Q .normal t cur ∧ chkAll T (effsOf (numbered 0 ops.toList)) sts.reverse ld
/-- the rest of a region that draws -/
def DWL (P : Program) (T : Nat → Option TI) (m : Nat) (ops : Array Oper) (Q : QT) (t0 : Sl) (s s0 : St) (l : List Oper) (j next : Nat) (t : Sl) (cur : St) (sts : List St) (ld : List Ld) : Prop :=
  DStat m ops → ∀ tr, DPre P T ops t0 s s0 l j next t cur sts ld tr → ∃ tr', DFin P T ops Q t0 s s0 tr'
def DCallP (P : Program) (T : Nat → Option TI) (m : Nat) (ops : Array Oper) (Q : QT) (t0 : Sl) (s s0 : St) (d : Option Nat) (l : List Oper) (j next : Nat) (t : Sl) (sts : List St) (ld : List Ld) (f : FuncId) (args : List AV) (cur : St) : Prop :=
  ∃ v s', Det P f args cur v s' ∧ Fr cur s' ∧ DWL P T m ops Q t0 s s0 l j next (putF d v t) s' (s' :: sts) ld
def DRP (P : Program) (T : Nat → Option TI) (m : Nat) (ops : Array Oper) (Q : QT) (t0 : Sl) (s s0 : St) : DR → Prop
  | .done t cur sts ld => chkAll T (effsOf (numbered 0 ops.toList)) sts.reverse ld ∧ Q .normal t cur
  | .call d l j next t sts ld f args cur => DCallP P T m ops Q t0 s s0 d l j next t sts ld f args cur
  | .stuck => False

variable {l : List Oper} {j next : Nat} {t : Sl} {cur : St} {sts : List St} {ld : List Ld} {tr : Nat → DSt}
theorem DPre.i (h : DPre P T ops t0 s s0 l j next t cur sts ld tr) : ∀ k, k ≤ j → (tr k).i = k
  | 0, _ => by rw [h.z]
  | k + 1, hk => by
    obtain ⟨o, v, ho, hv⟩ := h.step k hk
    rw [hv.i, h.i k (by omega)]
theorem DPre.valEq (h : DPre P T ops t0 s s0 l j next t cur sts ld tr) {i : Nat} : ∀ k, i < k → k ≤ j → look (tr k).vals i = look (tr (i + 1)).vals i
  | 0, hi, _ => by omega
  | k + 1, hi, hk => by
    by_cases e : i = k
    · subst e; rfl
    · obtain ⟨o, v, ho, hv⟩ := h.step k hk
      rw [hv.vals, look_cons, h.i k (by omega), beq_ne (by omega), cond_false]
      exact h.valEq k (by omega) (by omega)
theorem DPre.viewEq (h : DPre P T ops t0 s s0 l j next t cur sts ld tr) (hs : DStat m ops) {o : Oper} (ho : ops[j]? = some o) : ∀ x ∈ slotsOf o.op.operands.toList, view ops o (look (tr j).vals) (look t0) x = look t x := by
  intro x hx
  unfold view
  have hany : (slotsOf o.op.operands.toList).any (Nat.beq x) = true := List.any_eq_true.2 ⟨x, hx, beq_of rfl⟩
  rw [hany, cond_true]
  split
  · rename_i e he
    have hm := List.mem_of_find?_eq_some he
    have hp := List.find?_some he
    simp only [Bool.and_eq_true] at hp
    obtain ⟨hp1, hp2⟩ := hp
    have hlt := hs.edges j o ho e hm hp1
    cases hd : (ops[e.on]?).bind (·.dst) with
    | none => rw [hd] at hp2; cases hp2
    | some d =>
      rw [hd] at hp2
      have := Nat.eq_of_beq_eq_true hp2
      subst this
      obtain ⟨o', ho', hd'⟩ := Option.bind_eq_some_iff.1 hd
      rw [h.wr e.on o' d hlt ho' hd', h.valEq j hlt (Nat.le_refl _)]
  · rename_i hnone
    refine (h.old x fun i o' hi ho' hd' => ?_).symm
    rcases hs.opnd j i o o' x ho ho' hd' hx with hpre | hpre | e
    · obtain ⟨e, he1, he2, rfl⟩ := preB_iff.1 hpre
      have := List.find?_eq_none.1 hnone e he1
      simp [he2, ho', hd', beq_of] at this
    · obtain ⟨e, he1, he2, e3⟩ := preB_iff.1 hpre
      have := hs.edges i o' ho' e he1 he2
      omega
    · omega
theorem DPre.guard (h : DPre P T ops t0 s s0 l j next t cur sts ld tr) (hs : DStat m ops) {o : Oper} (ho : ops[j]? = some o) {b : Bool} (hg : gVal ops t o.guard = .bool b) : wantB (look (tr j).vals) o = b ∧ gboolB (look (tr j).vals) o = true := by
  unfold wantB gboolB
  cases hgd : o.guard with
  | none => rw [hgd] at hg; cases hg; exact ⟨rfl, rfl⟩
  | some q =>
    obtain ⟨g, want⟩ := q
    obtain ⟨h1, o', d, h2, h3⟩ := hs.guard j o g want ho hgd
    obtain ⟨e, he1, he2, rfl⟩ := preB_iff.1 h1
    have hlt := hs.edges j o ho e he1 he2
    rw [hgd] at hg
    simp only [gVal, gSel, h2, Option.bind_some, h3] at hg
    rw [h.wr e.on o' d hlt h2 h3, ← h.valEq j hlt (Nat.le_refl _)] at hg
    simp only
    cases hv : look (tr j).vals e.on with
    | bool c =>
      rw [hv] at hg
      simp only [gWant, AV.bool.injEq] at hg
      subst hg
      exact ⟨by cases c <;> cases want <;> rfl, rfl⟩
    | _ => rw [hv] at hg; cases hg
/-- one step more -/
theorem DPre.next' {o : Oper} (h : DPre P T ops t0 s s0 (o :: l) j next t cur sts ld tr) (hs : DStat m ops) (ho : ops[j]? = some o) {d1 : DSt} {v : AV} (hv : DStep P T ops (look t0) o (tr j) d1 v) {next' : Nat} {cur' : St} {sts' : List St} {ld' : List Ld}
    (h1 : d1.next = next') (h2 : d1.cur = cur') (h3 : d1.sts = sts') (hsub : ∀ x ∈ ld, x ∈ ld')
    (hld : isEff o = false → isPure o.op = false → wantB (look (tr j).vals) o = true → (allocOf o = none ∧ ∀ st, aop T (opv (view ops o (look (tr j).vals) (look t0))) st o.op = some (v, st)) ∨
      (∃ sm, (j, o, sm, v) ∈ ld' ∧ (allocOf o = none → ∀ st, aop T (opv (look sm)) st o.op = aop T (opv (view ops o (look (tr j).vals) (look t0))) st o.op))) :
    DPre P T ops t0 s s0 l (j + 1) next' (putF o.dst v t) cur' sts' ld' (fun k => if k ≤ j then tr k else d1) := by
  have hj := (Array.getElem?_eq_some_iff.1 ho).1
  have hd1 : look d1.vals j = v := by rw [hv.vals, look_cons, h.i j (Nat.le_refl _), beq_of rfl, cond_true]
  have htr : ∀ k, k ≤ j → (if k ≤ j then tr k else d1) = tr k := fun k hk => if_pos hk
  have htr1 : (if j + 1 ≤ j then tr (j + 1) else d1) = d1 := if_neg (by omega)
  refine ⟨(htr 0 (Nat.zero_le _)).trans h.z, ?_, hj, fun i hi => ?_, by rw [htr1]; exact h1, by rw [htr1]; exact h2, by rw [htr1]; exact h3, fun i o' x hi ho' hd' => ?_, fun x hx => ?_, fun i o' hi ho' he hp hw => ?_⟩
  · have := congrArg List.tail h.rest; simpa using this
  · rcases Nat.lt_or_eq_of_le (Nat.le_of_lt_succ hi) with hlt | rfl
    · obtain ⟨o', v', g1, g2⟩ := h.step i hlt
      refine ⟨o', v', g1, ?_⟩
      rw [htr i (by omega), htr (i + 1) (by omega)]; exact g2
    · refine ⟨o, v, ho, ?_⟩
      rw [htr i (Nat.le_refl _), htr1]; exact hv
  · rcases Nat.lt_or_eq_of_le (Nat.le_of_lt_succ hi) with hlt | rfl
    · rw [htr (i + 1) (by omega), ← h.wr i o' x hlt ho' hd', look_putF]
      cases hdo : o.dst with
      | none => rfl
      | some d =>
        simp only [upd]
        rw [beq_ne, cond_false]
        intro e
        subst e
        have := hs.dsts i j o' o x ho' ho hd' hdo
        omega
    · rw [ho] at ho'; cases ho'
      rw [htr1, hd1, look_putF, hd']
      simp only [upd]
      rw [beq_of rfl, cond_true]
  · rw [← h.old x fun i o' hi ho' => hx i o' (by omega) ho', look_putF]
    have := hx j o (by omega) ho
    cases hdo : o.dst with
    | none => rfl
    | some d =>
      simp only [upd]
      rw [beq_ne, cond_false]
      intro e; subst e; exact this hdo
  · rcases Nat.lt_or_eq_of_le (Nat.le_of_lt_succ hi) with hlt | rfl
    · simp only [htr i (by omega), htr (i + 1) (show i + 1 ≤ j by omega)] at hw ⊢
      rcases h.ld i o' hlt ho' he hp hw with g | ⟨sm, g1, g2⟩
      · exact .inl g
      · exact .inr ⟨sm, hsub _ g1, g2⟩
    · rw [ho] at ho'; cases ho'
      simp only [htr i (Nat.le_refl _), htr1] at hw ⊢
      rw [hd1]
      exact hld he hp hw

theorem look_small (o : Oper) (t : Sl) : ∀ x ∈ slotsOf o.op.operands.toList, look (small o t) x = look t x := by
  unfold small
  generalize slotsOf o.op.operands.toList = l
  induction l with
  | nil => intro x hx; cases hx
  | cons y l ih =>
    intro x hx
    rw [List.map_cons, look_cons]
    by_cases e : y = x
    · subst e; rw [beq_of rfl, cond_true]
    · rw [beq_ne e, cond_false]
      rcases List.mem_cons.1 hx with rfl | hx
      · exact absurd rfl e
      · exact ih x hx

theorem dpops_sound (hT : TOK P T) : ∀ (l : List Oper) (j next : Nat) (t : Sl) (cur : St) (sts : List St) (ld : List Ld), DRP P T m ops Q t0 s s0 (dpops T ops l j next t cur sts ld) → DWL P T m ops Q t0 s s0 l j next t cur sts ld
  | [], j, next, t, cur, sts, ld, h, _, tr, hp => by
    have hj : j = ops.size := by
      have := List.drop_eq_nil_iff.1 hp.rest
      have := hp.le
      simp at *; omega
    subst hj
    exact ⟨tr, next, t, cur, sts, ld, hp, h.2, h.1⟩
  | o :: l, j, next, t, cur, sts, ld, h, hs, tr, hp => by
    have ho' : ops.toList[j]? = some o := by
      have := List.getElem?_drop (xs := ops.toList) (i := j) (j := 0)
      rw [hp.rest] at this; simpa using this.symm
    have ho : ops[j]? = some o := by simpa using ho'
    have hview : ∀ x ∈ o.op.operands.toList, opv (look t) x = opv (view ops o (look (tr j).vals) (look t0)) x := opv_congr fun x hx => (hp.viewEq hs ho x hx).symm
    have haop : ∀ st, aop T (opv (look t)) st o.op = aop T (opv (view ops o (look (tr j).vals) (look t0))) st o.op := fun st => aop_congr hview
    have hsmall : ∀ st, aop T (opv (look (small o t))) st o.op = aop T (opv (view ops o (look (tr j).vals) (look t0))) st o.op := fun st => by
      rw [← haop st]; exact aop_congr (opv_congr (look_small o t))
    rw [dpops] at h
    cases hg : gVal ops t o.guard with
    | bool b =>
      obtain ⟨hw, hgb⟩ := hp.guard hs ho hg
      rw [hg] at h
      cases b with
      | true =>
        simp only at h
        cases ha : allocOf o with
        | some e =>
          rw [ha] at h
          simp only at h
          have he := (isEff_alloc ha).1
          refine dpops_sound hT l _ _ _ _ _ _ h hs _ (hp.next' (d1 := { i := j + 1, next := next + 1, vals := (j, .ptr next 0) :: (tr j).vals, sts := (tr j).sts, effs := (tr j).effs, ids := (tr j).ids, cur := (tr j).cur }) (v := .ptr next 0) hs ho ?_ rfl hp.cur hp.sts (fun x hx => List.mem_cons_of_mem _ hx) fun _ _ _ => .inr ⟨[], List.mem_cons_self .., fun e => by rw [ha] at e; cases e⟩)
          refine ⟨by rw [hp.i j (Nat.le_refl _)], by rw [hp.i j (Nat.le_refl _)], hgb, Fr.refl _, fun _ => ⟨rfl, rfl, rfl⟩, fun x => ?_, fun x => ?_, fun e' _ => ⟨by rw [hp.next], by rw [hp.next]⟩, fun x => ?_⟩
          · rw [he] at x; cases x
          · rw [hw] at x; cases x
          · rw [ha] at x; cases x
        | none =>
          rw [ha] at h
          simp only at h
          cases hc : callOf o.op with
          | some ca =>
            rw [hc] at h
            simp only at h
            have hop : o.op = .call ca := by
              obtain ⟨dst, op, ty, pos, after, guard⟩ := o
              cases op <;> simp only [callOf] at hc <;> first | (cases hc; done) | skip
              split at hc
              · cases hc; rfl
              · cases hc
            have hef : isEff o = true := by
              obtain ⟨dst, op, ty, pos, after, guard⟩ := o
              cases op <;> simp only [callOf] at hc <;> first | (cases hc; done) | skip
              split at hc
              · rename_i hcv; simp only [isEff, hcv]
              · cases hc
            cases hac : acallee (look t) ca with
            | none => rw [hac] at h; exact h.elim
            | some q =>
              obtain ⟨f, args⟩ := q
              rw [hac] at h
              obtain ⟨v, s', hdet, hfr, hl⟩ := h
              refine hl hs _ (hp.next' (d1 := { i := j + 1, next := next, vals := (j, v) :: (tr j).vals, sts := s' :: (tr j).sts, effs := (tr j).i :: (tr j).effs, ids := (tr j).ids, cur := s' }) (v := v) hs ho ?_ rfl rfl (by rw [hp.sts]) (fun x hx => hx) fun x => (by rw [hef] at x; cases x))
              refine ⟨by rw [hp.i j (Nat.le_refl _)], by rw [hp.i j (Nat.le_refl _)], hgb, by rw [hp.cur]; exact hfr, fun x => ?_, fun _ => ⟨rfl, rfl, ha⟩, fun x => ?_, fun e' x => ?_, fun _ => ⟨hp.next.symm, fun _ => ?_⟩⟩
              · rw [hef] at x; cases x
              · rw [hw] at x; cases x
              · rw [ha] at x; cases x
              · rw [hp.cur]
                refine .inr ⟨ca, f, args, hop, ?_, hdet.1, hdet.2⟩
                rw [← hac]
                exact acallee_congr fun x hx => (hview x (by rw [hop]; exact hx)).symm
          | none =>
            rw [hc] at h
            simp only at h
            cases hop : aop T (opv (look t)) cur o.op with
            | none => rw [hop] at h; exact h.elim
            | some q =>
              obtain ⟨v, s'⟩ := q
              rw [hop] at h
              simp only at h
              have hop' := hop
              rw [haop] at hop'
              cases hef : isEff o with
              | true =>
                rw [hef] at h
                simp only at h
                refine dpops_sound hT l _ _ _ _ _ _ h hs _ (hp.next' (d1 := { i := j + 1, next := next, vals := (j, v) :: (tr j).vals, sts := s' :: (tr j).sts, effs := (tr j).i :: (tr j).effs, ids := (tr j).ids, cur := s' }) (v := v) hs ho ?_ rfl rfl (by rw [hp.sts]) (fun x hx => hx) fun x => (by rw [hef] at x; cases x))
                refine ⟨by rw [hp.i j (Nat.le_refl _)], by rw [hp.i j (Nat.le_refl _)], hgb, by rw [hp.cur]; exact aop_fr hop, fun x => ?_, fun _ => ⟨rfl, rfl, ha⟩, fun x => ?_, fun e' x => ?_, fun _ => ⟨hp.next.symm, fun _ => ?_⟩⟩
                · rw [hef] at x; cases x
                · rw [hw] at x; cases x
                · rw [ha] at x; cases x
                · rw [hp.cur]; exact .inl hop'
              | false =>
                rw [hef] at h
                simp only at h
                have hsame := aop_same hef ha hop
                subst hsame
                have hstep : DStep P T ops (look t0) o (tr j) { i := j + 1, next := next, vals := (j, v) :: (tr j).vals, sts := (tr j).sts, effs := (tr j).effs, ids := (tr j).ids, cur := (tr j).cur } v := by
                  refine ⟨by rw [hp.i j (Nat.le_refl _)], by rw [hp.i j (Nat.le_refl _)], hgb, Fr.refl _, fun _ => ⟨rfl, rfl, rfl⟩, fun x => ?_, fun x => ?_, fun e' x => ?_, fun _ => ⟨hp.next.symm, fun _ => ?_⟩⟩
                  · rw [hef] at x; cases x
                  · rw [hw] at x; cases x
                  · rw [ha] at x; cases x
                  · rw [hp.cur]; exact .inl hop'
                cases hn : needsSt o.op t with
                | true =>
                  rw [hn] at h
                  exact dpops_sound hT l _ _ _ _ _ _ h hs _ (hp.next' hs ho hstep rfl hp.cur hp.sts (fun x hx => List.mem_cons_of_mem _ hx) fun _ _ _ => .inr ⟨small o t, List.mem_cons_self .., fun _ st => hsmall st⟩)
                | false =>
                  rw [hn] at h
                  refine dpops_sound hT l _ _ _ _ _ _ h hs _ (hp.next' hs ho hstep rfl hp.cur hp.sts (fun x hx => hx) fun _ hpu _ => .inl ⟨ha, fun st => ?_⟩)
                  rw [← haop]
                  exact load_firm hpu hn hop st
      | false =>
        simp only at h
        cases ha : allocOf o with
        | some e => rw [ha] at h; exact h.elim
        | none =>
          rw [ha] at h
          simp only at h
          cases hef : isEff o with
          | true =>
            rw [hef] at h
            refine dpops_sound hT l _ _ _ _ _ _ h hs _ (hp.next' (d1 := { i := j + 1, next := next, vals := (j, .any) :: (tr j).vals, sts := (tr j).cur :: (tr j).sts, effs := (tr j).i :: (tr j).effs, ids := (tr j).ids, cur := (tr j).cur }) (v := .any) hs ho ?_ rfl hp.cur (by rw [hp.sts, hp.cur]) (fun x hx => hx) fun x => (by rw [hef] at x; cases x))
            refine ⟨by rw [hp.i j (Nat.le_refl _)], by rw [hp.i j (Nat.le_refl _)], hgb, Fr.refl _, fun x => ?_, fun _ => ⟨rfl, rfl, ha⟩, fun _ => ⟨rfl, rfl, ha, hp.next.symm⟩, fun e' x => ?_, fun _ => ⟨hp.next.symm, fun x => ?_⟩⟩
            · rw [hef] at x; cases x
            · rw [ha] at x; cases x
            · rw [hw] at x; cases x
          | false =>
            rw [hef] at h
            refine dpops_sound hT l _ _ _ _ _ _ h hs _ (hp.next' (d1 := { i := j + 1, next := next, vals := (j, .any) :: (tr j).vals, sts := (tr j).sts, effs := (tr j).effs, ids := (tr j).ids, cur := (tr j).cur }) (v := .any) hs ho ?_ rfl hp.cur hp.sts (fun x hx => hx) fun _ _ x => (by rw [hw] at x; cases x))
            refine ⟨by rw [hp.i j (Nat.le_refl _)], by rw [hp.i j (Nat.le_refl _)], hgb, Fr.refl _, fun _ => ⟨rfl, rfl, rfl⟩, fun x => ?_, fun _ => ⟨rfl, rfl, ha, hp.next.symm⟩, fun e' x => ?_, fun _ => ⟨hp.next.symm, fun x => ?_⟩⟩
            · rw [hef] at x; cases x
            · rw [ha] at x; cases x
            · rw [hw] at x; cases x
    | _ => rw [hg] at h; exact h.elim

theorem V_draw (hT : TOK P T) (hm : P.follows .mixedOrders = true) {nb id : Nat} (hpre : preAlloc T ops.toList s = some s0) (h : DRP P T m ops Q t0 s s0 (dpops T ops ops.toList 0 s.n t0 s0 [s0] [])) : V P nb m (.region id ops true) Q t0 s := by
  refine V_of_W fun hst => ?_
  simp only [statCode, Bool.and_eq_true, cond_true] at hst
  have hs := dstat_of hst.2 hst.1
  obtain ⟨tr, next, t, cur, sts, ld, hp, hQ, hck⟩ := dpops_sound (m := m) hT ops.toList 0 s.n t0 s0 [s0] [] h hs (fun _ => { i := 0, next := s.n, vals := [], sts := [s0], effs := [], ids := [], cur := s0 })
    ⟨rfl, rfl, Nat.zero_le _, fun i hi => by omega, rfl, rfl, rfl, fun i o x hi => by omega, fun x _ => rfl, fun i o hi => by omega⟩
  have htr : DTr P T ops (look t0) s s0 tr := ⟨hp.z, fun j o ho => by
    obtain ⟨o', v, g1, g2⟩ := hp.step j (Array.getElem?_eq_some_iff.1 ho).1
    rw [ho] at g1; cases g1; exact ⟨v, g2⟩⟩
  have hfin : look t = finalTm ops (look (tr ops.size).vals) (look t0) := by
    funext x
    unfold finalTm
    split
    · rename_i i hi
      have hpr := List.find?_some hi
      have hmem := List.mem_of_find?_eq_some hi
      have hlt : i < ops.size := by simpa using hmem
      cases hb : (ops[i]?).bind (·.dst) with
      | none => rw [hb] at hpr; cases hpr
      | some d =>
        rw [hb] at hpr
        have := Nat.eq_of_beq_eq_true hpr
        subst this
        obtain ⟨o, ho, hdo⟩ := Option.bind_eq_some_iff.1 hb
        rw [hp.wr i o d hlt ho hdo, ← hp.valEq ops.size hlt (Nat.le_refl _)]
    · rename_i hnone
      refine hp.old x fun i o hi ho hd => ?_
      have := List.find?_eq_none.1 hnone i (by simpa using hi)
      simp [ho, hd, beq_of] at this
  refine W_dtrace hT hm hs hpre htr (fun i o ho he hpu hw p st hps hadm => ?_) ⟨.normal, t, rfl, hfin.symm, by rw [hp.cur]; exact hQ⟩
  have hi := (Array.getElem?_eq_some_iff.1 ho).1
  have hve : look (tr (i + 1)).vals i = look (tr ops.size).vals i := (hp.valEq ops.size hi (Nat.le_refl _)).symm
  have hvw := htr.viewEq hs ho
  have hw' : wantB (look (tr i).vals) o = true := by rw [(htr.want hs ho).1]; exact hw
  unfold CheckAt
  rcases hp.ld i o hi ho he hpu hw' with ⟨g1, g2⟩ | ⟨sm, g1, g2⟩
  · rw [g1]
    have := g2 st
    rw [hvw, hve] at this
    exact this
  · rw [hp.sts] at hps
    have hc := chkOne_of (chkAll_of hck _ g1) p st hps (by rw [Nat.zero_add]; exact hadm)
    simp only at hc
    cases ha : allocOf o with
    | some e =>
      rw [ha] at hc
      simp only at hc
      split at hc
      · rename_i ti id' hti hv
        exact ⟨id', ti, by rw [← hve]; exact hv, hti, hc⟩
      · exact hc.elim
    | none =>
      rw [ha] at hc
      simp only at hc
      rw [g2 ha st, hvw, hve] at hc
      exact hc
end
end Go.Sy
