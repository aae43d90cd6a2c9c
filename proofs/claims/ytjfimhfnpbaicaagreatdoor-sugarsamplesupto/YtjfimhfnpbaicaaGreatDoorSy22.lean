/- Lemma: the fast run of a region that draws its order is sound; no condition. -/
import Derived.Test.YtjfimhfnpbaicaaGreatDoorSy21
namespace Go.Sy
set_option linter.unusedSimpArgs false
set_option linter.unusedVariables false

theorem putAll_none {vals : Nat → AV} {x : Nat} : ∀ (l : List (Nat × Oper)) (t : Sl), (∀ q ∈ l, q.2.dst ≠ some x) → look (putAll vals l t) x = look t x
  | [], t, _ => rfl
  | (i, o) :: l, t, h => by
    simp only [putAll]
    rw [putAll_none l _ fun q hq => h q (List.mem_cons_of_mem _ hq), look_putF]
    have h0 := h (i, o) (List.mem_cons_self ..)
    cases hd : o.dst with
    | none => rfl
    | some d =>
      simp only [upd]
      rw [beq_ne, cond_false]
      intro e; exact h0 (by rw [hd, e])
theorem putAll_some {vals : Nat → AV} {x : Nat} : ∀ (l : List (Nat × Oper)) (t : Sl), dstsOK l = true → ∀ q ∈ l, q.2.dst = some x → look (putAll vals l t) x = vals q.1
  | [], t, _, q, hq, _ => by cases hq
  | (i, o) :: l, t, h, q, hq, hd => by
    simp only [dstsOK, Bool.and_eq_true] at h
    simp only [putAll]
    rcases List.mem_cons.1 hq with rfl | hq
    · have h1 := h.1
      simp only at hd
      rw [hd] at h1
      rw [putAll_none l _ fun q' hq' => fresh_of h1 q' hq', look_putF, hd]
      simp only [upd]
      rw [beq_of rfl, cond_true]
    · exact putAll_some l _ h.2 q hq hd
theorem final_eq {ops : Array Oper} (hd : dstsOK (numbered 0 ops.toList) = true) (vals : Nat → AV) (t : Sl) : look (putAll vals (numbered 0 ops.toList) t) = finalTm ops vals (look t) := by
  funext x
  unfold finalTm
  split
  · rename_i i hi
    have hm := List.mem_of_find?_eq_some hi
    have hp := List.find?_some hi
    cases hb : (ops[i]?).bind (·.dst) with
    | none => rw [hb] at hp; cases hp
    | some d =>
      rw [hb] at hp
      have := Nat.eq_of_beq_eq_true hp
      subst this
      obtain ⟨o, ho, hdo⟩ := Option.bind_eq_some_iff.1 hb
      exact putAll_some _ t hd (i, o) (numbered_mem.2 ⟨i, by simp, by simpa using ho⟩) hdo
  · rename_i hnone
    refine putAll_none _ t fun q hq hdq => ?_
    obtain ⟨i, o⟩ := q
    obtain ⟨k, hk, hk'⟩ := numbered_mem.1 hq
    simp only [Nat.zero_add] at hk
    subst hk
    have ho : ops[i]? = some o := by simpa using hk'
    have hlt := (Array.getElem?_eq_some_iff.1 ho).1
    have := List.find?_eq_none.1 hnone i (by simpa using hlt)
    have hdq' : o.dst = some x := hdq
    simp [ho, hdq', beq_of] at this

theorem sameAt_of {T : Nat → Option TI} {ops : Array Oper} {tm vals : Nat → AV} {effs : List (Nat × Oper)} {i : Nat} {o : Oper} (he : isEff o = false) : ∀ (sts : List St) (p0 : Nat), sameAt T ops tm vals effs i o p0 sts = true →
    ∀ p st, sts[p]? = some st → admits o i (p0 + p) 0 effs = true → CheckAt T ops tm vals i o st
  | [], p0, _, p, st, hp, _ => by simp at hp
  | st0 :: sts, p0, h, p, st, hp, ha => by
    simp only [sameAt, Bool.and_eq_true] at h
    cases p with
    | succ p => exact sameAt_of he sts (p0 + 1) h.2 p st (by simpa using hp) (by rw [Nat.add_right_comm]; exact ha)
    | zero =>
      simp only [List.getElem?_cons_zero, Option.some.injEq] at hp
      subst hp
      have h1 := h.1
      rw [Nat.add_zero] at ha
      rw [ha, cond_true] at h1
      unfold CheckAt
      cases hal : allocOf o with
      | some e =>
        rw [hal] at h1
        simp only at h1
        split at h1
        · rename_i ti id ht hv
          split at h1
          · rename_i cs hg
            exact ⟨id, ti, hv, ht, by rw [hg, AV.beqs_eq h1]⟩
          · cases h1
        · cases h1
      | none =>
        rw [hal] at h1
        simp only at h1
        split at h1
        · rename_i v st' hop
          have := aop_same he hal hop
          subst this
          rw [hop, AV.beq_eq h1]
        · cases h1
theorem dchecks_of {T : Nat → Option TI} {ops : Array Oper} {tm vals : Nat → AV} {effs : List (Nat × Oper)} {sts : List St} : ∀ (l : List (Nat × Oper)), dchecks T ops tm vals effs sts l = true →
    ∀ q ∈ l, isEff q.2 = false → isPure q.2.op = false → wantB vals q.2 = true → sameAt T ops tm vals effs q.1 q.2 0 sts = true
  | [], _, q, hq, _, _, _ => by cases hq
  | (i, o) :: l, h, q, hq, he, hp, hw => by
    simp only [dchecks, Bool.and_eq_true] at h
    rcases List.mem_cons.1 hq with rfl | hq
    · have h1 := h.1
      rw [he, hp, hw] at h1
      exact h1
    · exact dchecks_of l h.2 q hq he hp hw
theorem preAlloc_fr {P : Program} {T : Nat → Option TI} (hT : TOK P T) {l : List Oper} {s s0 : St} (h : preAlloc T l s = some s0) : Fr s s0 := by
  obtain ⟨p1, p2, p3, _, _⟩ := preAlloc_of hT h
  exact ⟨by omega, by omega, fun i h1 _ => p3 i h1⟩
theorem DTr.fr {P : Program} {T : Nat → Option TI} {ops : Array Oper} {tm : Nat → AV} {s s0 : St} {tr : Nat → DSt} (h : DTr P T ops tm s s0 tr) : ∀ j, j ≤ ops.size → Fr s0 (tr j).cur
  | 0, _ => by rw [h.z]; exact Fr.refl _
  | j + 1, hj => by
    obtain ⟨o, v, ho, hv⟩ := h.at (Nat.lt_of_succ_le hj)
    exact (h.fr j (by omega)).trans hv.fr

theorem drawOK {P : Program} (hm : P.follows .mixedOrders = true) : DrawOK P dstatic drawF := by
  intro E m id ops t s k r hT hC hfit hst h
  unfold drawF at h
  cases hpre : preAlloc E.T ops.toList s with
  | none => rw [hpre] at h; cases h
  | some s0 =>
    rw [hpre] at h
    simp only at h
    cases hd : dpass E.T E.call ops (look t) ops.toList { i := 0, next := s.n, vals := [], sts := [s0], effs := [], ids := [], cur := s0 } with
    | none => rw [hd] at h; cases h
    | some d =>
      rw [hd] at h
      simp only at h
      cases hck : dchecks E.T ops (look t) (look d.vals) (effsOf (numbered 0 ops.toList)) d.sts.reverse (numbered 0 ops.toList) with
      | false => rw [hck] at h; cases h
      | true =>
        rw [hck, cond_true] at h
        obtain ⟨tr, h1, h2, h3⟩ := dpass_trace hC ops.toList _ d hd
        rw [Array.length_toList] at h2
        have htr : DTr P E.T ops (look t) s s0 tr := ⟨h1, fun j o ho => h3 j o (by simpa using ho)⟩
        have hstat := dstat_of (m := m) hst hfit
        refine ⟨_, _, h, ?_, fun Q hQ => ?_⟩
        · rw [← h2]
          exact (preAlloc_fr hT hpre).trans (htr.fr ops.size (Nat.le_refl _))
        · have hdst : dstsOK (numbered 0 ops.toList) = true := by
            have := hst
            simp only [dstatic, Bool.and_eq_true] at this
            exact this.1.1
          rw [final_eq hdst, ← h2] at hQ
          refine W_dtrace hT hm hstat hpre htr (fun i o ho he hp hw p st hps ha => ?_) hQ
          rw [h2] at hw hps ⊢
          exact sameAt_of he _ 0 (dchecks_of _ hck (i, o) (numbered_mem.2 ⟨i, by simp, by simpa using ho⟩) he hp hw) p st hps (by rw [Nat.zero_add]; exact ha)
end Go.Sy
