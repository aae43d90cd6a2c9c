/- Lemmas: regions that draw their order: what the checks say is so; no condition. -/
import Derived.Test.YtjfimhfnpbaicaaGreatDoorSy18
namespace Go.Sy
set_option linter.unusedSimpArgs false
set_option linter.unusedVariables false

/-- an operation that is no effect leaves the state -/
theorem aop_same {T : Nat → Option TI} {ev : Operand → AV} {s s' : St} {o : Oper} {v : AV} (he : isEff o = false) (ha : allocOf o = none) (h : aop T ev s o.op = some (v, s')) : s' = s := by
  obtain ⟨dst, op, ty, pos, after, guard⟩ := o
  cases op
  all_goals (simp only [isEff, allocOf] at he ha)
  all_goals first
    | (cases he; done)
    | (cases ha; done)
    | skip
  all_goals (simp only [aop, Bool.cond_eq_ite] at h)
  case call c =>
    obtain ⟨callee, args, tys⟩ := c
    cases callee with
    | value f => cases he
    | invoke f g => cases he
    | builtin b =>
      cases b <;> first | (exact absurd he (by decide)) | (simp at he; done) | skip
      all_goals (unfold abuiltin at h)
      all_goals (simp only [Bool.cond_eq_ite] at h)
      all_goals (repeat' split at h)
      all_goals first
        | (cases h; done)
        | contradiction
        | (simp only [Option.some.injEq, Prod.mk.injEq] at h; exact h.2.symm)
  all_goals (repeat' split at h)
  all_goals first
    | (cases h; done)
    | (simp only [Option.some.injEq, Prod.mk.injEq] at h; exact h.2.symm)
/-- a pure operation answers the same in any state -/
theorem aop_pure {T : Nat → Option TI} {ev : Operand → AV} {s s' : St} {op : Op} {v : AV} (he : isPure op = true) (h : aop T ev s op = some (v, s')) (s2 : St) : aop T ev s2 op = some (v, s2) := by
  cases op
  all_goals (simp only [isPure] at he)
  all_goals first
    | (cases he; done)
    | skip
  all_goals (simp only [aop, Bool.cond_eq_ite] at h ⊢)
  all_goals (repeat' split at h)
  all_goals first
    | (cases h; done)
    | (simp only [Option.some.injEq, Prod.mk.injEq] at h; obtain ⟨rfl, _⟩ := h; simp [*])

/-- what one step of the pass does -/
structure DStep (P : Program) (T : Nat → Option TI) (ops : Array Oper) (tm : Nat → AV) (o : Oper) (d d1 : DSt) (v : AV) : Prop where
  i : d1.i = d.i + 1
  vals : d1.vals = (d.i, v) :: d.vals
  gb : gboolB (look d.vals) o = true
  fr : Fr d.cur d1.cur
  nonEff : isEff o = false → d1.sts = d.sts ∧ d1.effs = d.effs ∧ d1.cur = d.cur
  isEff : isEff o = true → d1.sts = d1.cur :: d.sts ∧ d1.effs = d.i :: d.effs ∧ allocOf o = none
  skip : wantB (look d.vals) o = false → v = .any ∧ d1.cur = d.cur ∧ allocOf o = none ∧ d1.next = d.next
  al : ∀ e, allocOf o = some e → v = .ptr d.next 0 ∧ d1.next = d.next + 1
  noal : allocOf o = none → d1.next = d.next ∧ (wantB (look d.vals) o = true → OpStep P T (view ops o (look d.vals) tm) d.cur o.op v d1.cur)

theorem oneOp_sound {P : Program} {T : Nat → Option TI} {call : CallC} (hC : CallOK P call) {tm : Nat → AV} {s s' : St} {op : Op} {v : AV} (h : oneOp T call tm s op = some (v, s')) : OpStep P T tm s op v s' ∧ Fr s s' := by
  unfold oneOp at h
  split at h
  · split at h
    · exact ⟨.inl h, aop_fr h⟩
    · split at h
      · rename_i f args e
        obtain ⟨v1, s1, h1, h2, h3, h4⟩ := hC _ _ _ _ _ h
        simp only [Option.some.injEq, Prod.mk.injEq] at h1
        obtain ⟨rfl, rfl⟩ := h1
        exact ⟨.inr ⟨_, f, args, rfl, e, h2, h3⟩, h4⟩
      · cases h
  · exact ⟨.inl h, aop_fr h⟩
theorem isEff_alloc {o : Oper} {e : Nat} (h : allocOf o = some e) : isEff o = false ∧ o.op = .alloc e := by
  obtain ⟨dst, op, ty, pos, after, guard⟩ := o
  cases op <;> simp only [allocOf] at h <;> first | (cases h; done) | skip
  cases h; exact ⟨rfl, rfl⟩
theorem OpStep_same {P : Program} {T : Nat → Option TI} {tm : Nat → AV} {s s' : St} {o : Oper} {v : AV} (he : isEff o = false) (ha : allocOf o = none) (h : OpStep P T tm s o.op v s') : aop T (opv tm) s o.op = some (v, s) ∧ s' = s := by
  rcases h with h | ⟨ca, f, args, h1, h2, _⟩
  · have := aop_same he ha h
    subst this
    exact ⟨h, rfl⟩
  · exfalso
    unfold isEff at he
    rw [h1] at he
    unfold acallee at h2
    obtain ⟨callee, as, tys⟩ := ca
    cases callee with
    | value f => cases he
    | invoke f g => cases he
    | builtin b => cases h2
theorem dstep_sound {P : Program} {T : Nat → Option TI} {call : CallC} (hC : CallOK P call) {ops : Array Oper} {tm : Nat → AV} {o : Oper} {d d1 : DSt} (h : dstep T call ops tm o d = some d1) : ∃ v, DStep P T ops tm o d d1 v := by
  unfold dstep at h
  cases hg : gboolB (look d.vals) o with
  | false => rw [hg] at h; cases h
  | true =>
    rw [hg, cond_true] at h
    cases hw : wantB (look d.vals) o with
    | true =>
      rw [hw, cond_true] at h
      cases ha : allocOf o with
      | some e =>
        rw [ha] at h
        simp only [Option.some.injEq] at h
        subst h
        exact ⟨_, rfl, rfl, hg, Fr.refl _, fun _ => ⟨rfl, rfl, rfl⟩, fun he => (by rw [(isEff_alloc ha).1] at he; cases he), fun h => (by rw [hw] at h; cases h), fun e' _ => ⟨rfl, rfl⟩, fun h => (by rw [ha] at h; cases h)⟩
      | none =>
        rw [ha] at h
        simp only at h
        split at h
        · rename_i v s' e
          obtain ⟨h1, h2⟩ := oneOp_sound hC e
          cases he : isEff o with
          | true =>
            rw [he, cond_true, Option.some.injEq] at h
            subst h
            exact ⟨v, rfl, rfl, hg, h2, fun h => (by rw [he] at h; cases h), fun _ => ⟨rfl, rfl, ha⟩, fun h => (by rw [hw] at h; cases h), fun e' h => (by rw [ha] at h; cases h), fun _ => ⟨rfl, fun _ => h1⟩⟩
          | false =>
            rw [he, cond_false, Option.some.injEq] at h
            subst h
            obtain ⟨g1, g2⟩ := OpStep_same he ha h1
            subst g2
            exact ⟨v, rfl, rfl, hg, Fr.refl _, fun _ => ⟨rfl, rfl, rfl⟩, fun h => (by rw [he] at h; cases h), fun h => (by rw [hw] at h; cases h), fun e' h => (by rw [ha] at h; cases h), fun _ => ⟨rfl, fun _ => .inl g1⟩⟩
        · cases h
    | false =>
      rw [hw, cond_false] at h
      cases ha : allocOf o with
      | some e => rw [ha] at h; cases h
      | none =>
        rw [ha] at h
        simp only at h
        cases he : isEff o with
        | true =>
          rw [he, cond_true, Option.some.injEq] at h
          subst h
          exact ⟨.any, rfl, rfl, hg, Fr.refl _, fun h => (by rw [he] at h; cases h), fun _ => ⟨rfl, rfl, ha⟩, fun _ => ⟨rfl, rfl, ha, rfl⟩, fun e' h => (by rw [ha] at h; cases h), fun _ => ⟨rfl, fun h => (by rw [hw] at h; cases h)⟩⟩
        | false =>
          rw [he, cond_false, Option.some.injEq] at h
          subst h
          exact ⟨.any, rfl, rfl, hg, Fr.refl _, fun _ => ⟨rfl, rfl, rfl⟩, fun h => (by rw [he] at h; cases h), fun _ => ⟨rfl, rfl, ha, rfl⟩, fun e' h => (by rw [ha] at h; cases h), fun _ => ⟨rfl, fun h => (by rw [hw] at h; cases h)⟩⟩

/-- the pass, as a row of states -/
theorem dpass_trace {P : Program} {T : Nat → Option TI} {call : CallC} (hC : CallOK P call) {ops : Array Oper} {tm : Nat → AV} : ∀ (l : List Oper) (d d' : DSt), dpass T call ops tm l d = some d' →
    ∃ tr : Nat → DSt, tr 0 = d ∧ tr l.length = d' ∧ ∀ j o, l[j]? = some o → ∃ v, DStep P T ops tm o (tr j) (tr (j + 1)) v
  | [], d, d', h => by
    simp only [dpass, Option.some.injEq] at h
    exact ⟨fun _ => d, rfl, h, fun j o h => by simp at h⟩
  | o :: l, d, d', h => by
    simp only [dpass] at h
    split at h
    · rename_i d1 e
      obtain ⟨tr, h1, h2, h3⟩ := dpass_trace hC l d1 d' h
      refine ⟨fun j => match j with | 0 => d | j + 1 => tr j, rfl, h2, fun j o' hj => ?_⟩
      cases j with
      | zero =>
        simp only [List.getElem?_cons_zero, Option.some.injEq] at hj
        subst hj
        obtain ⟨v, hv⟩ := dstep_sound hC e
        exact ⟨v, by rw [← h1] at hv; exact hv⟩
      | succ j => exact h3 j o' (by simpa using hj)
    · cases h
end Go.Sy
