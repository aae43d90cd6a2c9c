/- Lemmas: code and calls, run fast: what they come to; no condition. -/
import Derived.Test.YtjfimhfnpbaicaaGreatDoorSy15
namespace Go.Sy
set_option linter.unusedSimpArgs false
set_option linter.unusedVariables false

noncomputable def guardF (g : Option (Nat × Bool)) : Array Oper → Sl → Fi → Fi → Fi :=
  @Option.casesOn (Nat × Bool) (fun _ => Array Oper → Sl → Fi → Fi → Fi) g (fun _ _ a _ => a) (fun g ops t a b => match awanted ops (look t) (some g) with | some true => a | some false => b | none => none)
theorem guardF_some {g : Option (Nat × Bool)} {ops : Array Oper} {t : Sl} {a b : Fi} {r : AV × St} (h : guardF g ops t a b = some r) :
    (awanted ops (look t) g = some true ∧ a = some r) ∨ (awanted ops (look t) g = some false ∧ b = some r) := by
  cases g with
  | none => exact .inl ⟨rfl, h⟩
  | some g =>
    have h' : (match awanted ops (look t) (some g) with | some true => a | some false => b | none => none) = some r := h
    split at h'
    · rename_i e; exact .inl ⟨e, h'⟩
    · rename_i e; exact .inr ⟨e, h'⟩
    · cases h'
abbrev KS := Sl → St → Fi
noncomputable def opsF (l : List Oper) : Cx → Array Oper → Sl → St → KS → Fi :=
  @List.rec Oper (fun _ => Cx → Array Oper → Sl → St → KS → Fi) (fun E ops t s k => k t s)
    (fun o r ih E ops t s k => guardF o.guard ops t (opF o.op E t s (fun v s' => ih E ops (putF o.dst v t) s' k)) (ih E ops (putF o.dst .any t) s k)) l

theorem WOps_step {P : Program} {T : Nat → Option TI} (hT : TOK P T) {m : Nat} {Q : Exit → (Nat → AV) → St → Prop} {tm : Nat → AV} {s s' : St} {v : AV} {ops : Array Oper} {i : Nat} {l : List Nat} {o : Oper} (ho : ops[i]? = some o)
    (hg : awanted ops tm o.guard = some true) (hd : fitsDst m o.dst = true) (hs : OpStep P T tm s o.op v s') (h : WOps P m ops Q l (upd tm o.dst v) s') : WOps P m ops Q (i :: l) tm s := by
  rcases hs with hs | ⟨ca, f, args, h1, h2, h3, h4⟩
  · exact WOps_op hT ho hg hd hs h
  · exact WOps_call ho hg hd h1 h2 h3 (h4.mono fun r s'' e => by obtain ⟨rfl, rfl⟩ := e; exact h)

theorem opsF_sound {P : Program} {E : Cx} (hT : TOK P E.T) (hC : CallOK P E.call) {m : Nat} {ops : Array Oper} : ∀ (l : List Oper) (n : Nat) (t : Sl) (s : St) (k : KS) (r : AV × St), (∀ j, j < l.length → ops[n + j]? = l[j]?) → (∀ o ∈ l, fitsDst m o.dst = true) →
    opsF l E ops t s k = some r → ∃ t' s', k t' s' = some r ∧ Fr s s' ∧ ∀ Q, Q .normal (look t') s' → WOps P m ops Q (List.range' n l.length) (look t) s
  | [], n, t, s, k, r, _, _, h => ⟨t, s, h, Fr.refl s, fun Q hQ => WOps_nil hQ⟩
  | o :: l, n, t, s, k, r, ho, hf, h => by
    have h0 : ops[n]? = some o := by simpa using ho 0 (by simp)
    have ho' : ∀ j, j < l.length → ops[n + 1 + j]? = l[j]? := fun j hj => by
      have := ho (j + 1) (by simpa using hj)
      rw [show n + 1 + j = n + (j + 1) by omega, this]; simp
    have hf' : ∀ x ∈ l, fitsDst m x.dst = true := fun x hx => hf x (List.mem_cons_of_mem _ hx)
    have hd := hf o (List.mem_cons_self ..)
    rcases guardF_some (a := opF o.op E t s (fun v s' => opsF l E ops (putF o.dst v t) s' k)) (b := opsF l E ops (putF o.dst .any t) s k) h with ⟨hg, h⟩ | ⟨hg, h⟩
    · obtain ⟨v, s1, h1, h2, h3⟩ := opF_sound hC h
      obtain ⟨t', s', h4, h5, h6⟩ := opsF_sound hT hC l (n + 1) _ _ _ _ ho' hf' h1
      refine ⟨t', s', h4, h3.trans h5, fun Q hQ => ?_⟩
      have := h6 Q hQ
      rw [look_putF] at this
      exact WOps_step hT h0 hg hd h2 this
    · obtain ⟨t', s', h4, h5, h6⟩ := opsF_sound hT hC l (n + 1) _ _ _ _ ho' hf' h
      refine ⟨t', s', h4, h5, fun Q hQ => ?_⟩
      have := h6 Q hQ
      rw [look_putF] at this
      exact WOps_skip h0 hg hd this
end Go.Sy
