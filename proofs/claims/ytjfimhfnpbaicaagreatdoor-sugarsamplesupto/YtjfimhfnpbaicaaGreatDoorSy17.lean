/- Lemmas: code and calls, run fast: what they come to; no condition. -/
import Derived.Test.YtjfimhfnpbaicaaGreatDoorSy16
namespace Go.Sy
set_option linter.unusedSimpArgs false
set_option linter.unusedVariables false

abbrev KC := Ex → Sl → St → Fi
/-- a region that draws its order -/
abbrev DrawF := Cx → Nat → Array Oper → Sl → St → KS → Fi
noncomputable def isExit (e : Ex) (id : Nat) : Ex := @Ex.casesOn (fun _ => Ex) e .normal (fun j => cond (Nat.beq j id) .normal (.exit j)) .ret
noncomputable def onEx (e : Ex) (n x : Fi) : Fi := @Ex.casesOn (fun _ => Fi) e n (fun _ => x) x
noncomputable def loopF (f : Sl → St → KC → Fi) (n : Nat) : Sl → St → KC → Fi :=
  @Nat.rec (fun _ => Sl → St → KC → Fi) (fun _ _ _ => none) (fun _ ih t s k => f (compact t) s (fun e t s => onEx e (ih t s k) (k e t s))) n
noncomputable def codeF (c : Code) : DrawF → Cx → Nat → Nat → Sl → St → KC → Fi :=
  @Code.rec (fun _ => DrawF → Cx → Nat → Nat → Sl → St → KC → Fi)
    (fun D E R m t s k => k .normal t s)
    (fun id ops draw D E R m t s k => cond draw (D E m ops t s (fun t s => k .normal t s)) (opsF ops.toList E ops t s (fun t s => k .normal t s)))
    (fun a b ia ib D E R m t s k => ia D E R m t s (fun e t s => onEx e (ib D E R m t s k) (k e t s)))
    (fun c a b ia ib D E R m t s k => asBool (opvF c t) (fun q => cond q (ia D E R m t s k) (ib D E R m t s k)) none)
    (fun id a ia D E R m t s k => ia D E R m t s (fun e t s => k (isExit e id) t s))
    (fun a ia D E R m t s k => loopF (ia D E R m) R t s k)
    (fun _ _ _ _ _ _ D E R m t s k => none)
    (fun id D E R m t s k => k (.exit id) t s)
    (fun _ _ D E R m t s k => none) (fun _ D E R m t s k => none) (fun _ D E R m t s k => none)
    (fun D E R m t s k => k .ret t s)
    (fun _ D E R m t s k => none) c

/-- what hangs on the text alone -/
def statOps (m : Nat) : List Oper → Bool
  | [] => true
  | o :: r => fitsDst m o.dst && statOps m r
theorem statOps_mem {m : Nat} {l : List Oper} (h : statOps m l = true) : ∀ o ∈ l, fitsDst m o.dst = true := by
  induction l with
  | nil => intro o ho; cases ho
  | cons x l ih =>
    simp only [statOps, Bool.and_eq_true] at h
    intro o ho
    rcases List.mem_cons.1 ho with rfl | ho
    · exact h.1
    · exact ih h.2 o ho
def statCode (S : Array Oper → Bool) (m : Nat) : Code → Bool
  | .region _ ops draw => statOps m ops.toList && cond draw (S ops) true
  | .seq a b => statCode S m a && statCode S m b
  | .cond _ a b => statCode S m a && statCode S m b
  | .block _ a => statCode S m a
  | .loop a => statCode S m a
  | _ => true

def DrawOK (P : Program) (S : Array Oper → Bool) (D : DrawF) : Prop :=
  ∀ (E : Cx) (m : Nat) (id : Nat) (ops : Array Oper) (t : Sl) (s : St) (k : KS) (r : AV × St), TOK P E.T → CallOK P E.call → statOps m ops.toList = true → S ops = true → D E m ops t s k = some r →
    ∃ t' s', k t' s' = some r ∧ Fr s s' ∧ ∀ Q, Q .normal (look t') s' → W P m (.region id ops true) Q (look t) s

theorem onEx_some {e : Ex} {n x : Fi} {r : AV × St} (h : onEx e n x = some r) : (e = .normal ∧ n = some r) ∨ (e ≠ .normal ∧ x = some r) := by
  cases e with
  | normal => exact .inl ⟨rfl, h⟩
  | exit id => exact .inr ⟨by simp, h⟩
  | ret => exact .inr ⟨by simp, h⟩
theorem Ethen_ne {e : Ex} (h : e ≠ .normal) {next : (Nat → AV) → St → Prop} {Q : Exit → (Nat → AV) → St → Prop} {tm : Nat → AV} {s : St} : Ethen next Q e.to tm s = Q e.to tm s := by
  cases e with
  | normal => exact absurd rfl h
  | exit id => rfl
  | ret => rfl
/-- what is shown of a piece of code -/
def CodeOK (P : Program) (m : Nat) (c : Code) (f : Sl → St → KC → Fi) : Prop :=
  ∀ t s k r, f t s k = some r → ∃ e t' s', k e t' s' = some r ∧ Fr s s' ∧ ∀ Q, Q (Ex.to e) (look t') s' → W P m c Q (look t) s

theorem loopF_sound {P : Program} {m : Nat} {a : Code} {f : Sl → St → KC → Fi} (h : CodeOK P m a f) : ∀ (n : Nat) (t : Sl) (s : St) (k : KC) (r : AV × St), loopF f n t s k = some r →
    ∃ e t' s', k e t' s' = some r ∧ Fr s s' ∧ ∀ Q, Q (Ex.to e) (look t') s' → Wrounds P m a Q n (look t) s
  | 0, _, _, _, _, h0 => by cases h0
  | n + 1, t, s, k, r, h0 => by
    obtain ⟨e, t1, s1, h1, h2, h3⟩ := h (compact t) s _ r h0
    rw [look_compact] at h3
    rcases onEx_some h1 with ⟨rfl, h4⟩ | ⟨hne, h4⟩
    · obtain ⟨e2, t2, s2, g1, g2, g3⟩ := loopF_sound h n t1 s1 k r h4
      exact ⟨e2, t2, s2, g1, h2.trans g2, fun Q hQ => h3 _ (g3 Q hQ)⟩
    · refine ⟨e, t1, s1, h4, h2, fun Q hQ => h3 _ ?_⟩
      show Ethen _ Q e.to _ _
      rw [Ethen_ne hne]; exact hQ

theorem codeF_sound {P : Program} {S : Array Oper → Bool} {D : DrawF} (hD : DrawOK P S D) {E : Cx} (hT : TOK P E.T) (hC : CallOK P E.call) (R m : Nat) (c : Code) (hs : statCode S m c = true) : CodeOK P m c (codeF c D E R m) := by
  induction c with
  | skip => intro t s k r h; exact ⟨.normal, t, s, h, Fr.refl s, fun Q hQ => W_skip hQ⟩
  | region id ops draw =>
    intro t s k r h
    simp only [statCode, Bool.and_eq_true] at hs
    have h' : cond draw (D E m ops t s (fun t s => k .normal t s)) (opsF ops.toList E ops t s (fun t s => k .normal t s)) = some r := h
    cases draw with
    | true =>
      obtain ⟨t', s', h1, h2, h3⟩ := hD E m id ops t s _ r hT hC hs.1 hs.2 h'
      exact ⟨.normal, t', s', h1, h2, h3⟩
    | false =>
      obtain ⟨t', s', h1, h2, h3⟩ := opsF_sound hT hC ops.toList 0 t s _ r (fun j _ => by simp) (statOps_mem hs.1) h'
      refine ⟨.normal, t', s', h1, h2, fun Q hQ => W_region ?_⟩
      have := h3 Q hQ
      rwa [Array.length_toList, ← List.range_eq_range'] at this
  | seq a b iha ihb =>
    intro t s k r h
    simp only [statCode, Bool.and_eq_true] at hs
    obtain ⟨e, t1, s1, h1, h2, h3⟩ := iha hs.1 t s _ r h
    rcases onEx_some h1 with ⟨rfl, h4⟩ | ⟨hne, h4⟩
    · obtain ⟨e2, t2, s2, g1, g2, g3⟩ := ihb hs.2 t1 s1 k r h4
      exact ⟨e2, t2, s2, g1, h2.trans g2, fun Q hQ => W_seq (h3 _ (g3 Q hQ))⟩
    · refine ⟨e, t1, s1, h4, h2, fun Q hQ => W_seq (h3 _ ?_)⟩
      rw [Ethen_ne hne]; exact hQ
  | cond co a b iha ihb =>
    intro t s k r h
    simp only [statCode, Bool.and_eq_true] at hs
    rcases asBool_some h with ⟨q, e, h1⟩ | h1
    · rw [opvF_eq] at e
      cases q with
      | true =>
        obtain ⟨e1, t1, s1, g1, g2, g3⟩ := iha hs.1 t s k r h1
        exact ⟨e1, t1, s1, g1, g2, fun Q hQ => W_cond e (g3 Q hQ)⟩
      | false =>
        obtain ⟨e1, t1, s1, g1, g2, g3⟩ := ihb hs.2 t s k r h1
        exact ⟨e1, t1, s1, g1, g2, fun Q hQ => W_cond e (g3 Q hQ)⟩
    · cases h1
  | block id a ih =>
    intro t s k r h
    obtain ⟨e, t1, s1, h1, h2, h3⟩ := ih hs t s _ r h
    refine ⟨isExit e id, t1, s1, h1, h2, fun Q hQ => W_block (h3 _ ?_)⟩
    cases e with
    | normal => exact hQ
    | ret => exact hQ
    | exit j =>
      have hQ' : Q (Ex.to (cond (Nat.beq j id) .normal (.exit j))) (look t1) s1 := hQ
      show cond (Nat.beq j id) (Q .normal (look t1) s1) (Q (.exit j) (look t1) s1)
      cases e : Nat.beq j id <;> rw [e] at hQ' <;> exact hQ'
  | loop a ih =>
    intro t s k r h
    obtain ⟨e, t1, s1, h1, h2, h3⟩ := loopF_sound (ih hs) R t s k r h
    exact ⟨e, t1, s1, h1, h2, fun Q hQ => W_loop R (h3 Q hQ)⟩
  | exit id => intro t s k r h; exact ⟨.exit id, t, s, h, Fr.refl s, fun Q hQ => W_exit hQ⟩
  | ret => intro t s k r h; exact ⟨.ret, t, s, h, Fr.refl s, fun Q hQ => W_ret hQ⟩
  | rangeFunc _ _ _ _ _ _ => intro t s k r h; cases h
  | scope _ _ => intro t s k r h; cases h
  | label _ => intro t s k r h; cases h
  | goto _ => intro t s k r h; cases h
  | refuse _ => intro t s k r h; cases h

noncomputable def resF (l : List ResultVar) : (Nat → Option TI) → Sl → St → (List AV → Fi) → Fi :=
  @List.rec ResultVar (fun _ => (Nat → Option TI) → Sl → St → (List AV → Fi) → Fi) (fun T t s k => k [])
    (fun x r ih T t s k => @ResultVar.casesOn (fun _ => Fi) x (fun d => ih T t s (fun q => k (look t d :: q))) (fun a ty => match aload T s ty (look t a) with | some v => ih T t s (fun q => k (v :: q)) | none => none)) l
theorem resF_some {T : Nat → Option TI} {t : Sl} {s : St} {r : AV × St} : ∀ {l : List ResultVar} {k : List AV → Fi}, resF l T t s k = some r → ∃ q, aresults T (look t) s l = some q ∧ k q = some r
  | [], k, h => ⟨[], rfl, h⟩
  | .tmp d :: l, k, h => by
    obtain ⟨q, h1, h2⟩ := resF_some (l := l) h
    exact ⟨look t d :: q, by simp [aresults, aresult, h1], h2⟩
  | .cell a ty :: l, k, h => by
    have h' : (match aload T s ty (look t a) with | some v => resF l T t s (fun q => k (v :: q)) | none => none) = some r := h
    split at h'
    · rename_i v e
      obtain ⟨q, h1, h2⟩ := resF_some (l := l) h'
      exact ⟨v :: q, by simp [aresults, aresult, h1, e], h2⟩
    · cases h'
noncomputable def oneF (l : List AV) : AV := @List.casesOn AV (fun _ => AV) l (.tup []) (fun x r => @List.casesOn AV (fun _ => AV) r x (fun y q => .tup (x :: y :: q)))
theorem oneF_eq (l : List AV) : oneF l = oneOf l := by
  match l with
  | [] => rfl
  | [x] => rfl
  | x :: y :: q => rfl

def obel (n : Nat) : AObj → Bool
  | .cells cs => cs.all (bel1 n)
  | .map es => es.all fun q => bel1 n q.1 && bel1 n q.2
  | _ => true
theorem obel_sound {n : Nat} {x : AObj} (h : obel n x = true) : OBel n x := by
  cases x with
  | cells cs => exact fun y hy => bel1_sound (List.all_eq_true.1 h y hy)
  | map es =>
    intro y hy
    have := List.all_eq_true.1 h y hy
    simp only [Bool.and_eq_true] at this
    exact ⟨bel1_sound this.1, bel1_sound this.2⟩
  | tok _ => trivial
  | dead => trivial
def dropNew (n : Nat) : List (Nat × AObj) → List (Nat × AObj)
  | [] => []
  | (i, x) :: r => cond (Nat.ble n i) (dropNew n r) ((i, x) :: dropNew n r)
theorem aget_dropNew {n i : Nat} : ∀ l : List (Nat × AObj), aget (dropNew n l) i = cond (Nat.blt i n) (aget l i) none
  | [] => by cases Nat.blt i n <;> rfl
  | (j, x) :: r => by
    simp only [dropNew]
    cases e : Nat.ble n j with
    | true =>
      rw [cond_true, aget_dropNew r]
      have := Nat.le_of_ble_eq_true e
      cases h : Nat.blt i n with
      | false => rfl
      | true =>
        have h' := Nat.le_of_ble_eq_true h
        rw [cond_true, cond_true, aget_cons_ne (by omega)]
    | false =>
      rw [cond_false]
      by_cases hji : j = i
      · subst hji
        rw [aget_cons_same]
        have : Nat.blt j n = true := by
          rcases Nat.lt_or_ge j n with h | h
          · exact Nat.ble_eq_true_of_le h
          · rw [Nat.ble_eq_true_of_le h] at e; cases e
        rw [this, cond_true, aget_cons_same]
      · rw [aget_cons_ne hji, aget_dropNew r, aget_cons_ne hji]
theorem aget_mem {i : Nat} {x : AObj} : ∀ {l : List (Nat × AObj)}, aget l i = some x → (i, x) ∈ l
  | [], h => by cases h
  | (j, y) :: r, h => by
    by_cases e : j = i
    · subst e; rw [aget_cons_same] at h; cases h; exact List.mem_cons_self ..
    · rw [aget_cons_ne e] at h; exact List.mem_cons_of_mem _ (aget_mem h)

noncomputable def keepF (s0 s1 : St) : St := { n := s1.n, objs := s1.objs, lo := least s0.lo s1.lo }
noncomputable def backF (s0 s1 : St) (r : AV) : St :=
  cond (Nat.beq s1.n s0.n) (keepF s0 s1)
    (cond (bel s0.n r)
      (cond (Nat.ble s0.n s1.lo) s0
        (cond ((dropNew s0.n s1.objs).all fun q => obel s0.n q.2) { n := s0.n, objs := dropNew s0.n s1.objs, lo := least s0.lo s1.lo } (keepF s0 s1)))
      (keepF s0 s1))
theorem keepF_ok {s0 s1 : St} (h : Fr { n := s0.n, objs := s0.objs, lo := s0.n } s1) (r : AV) : Keeps s0 s1 (keepF s0 s1) r ∧ Fr s0 (keepF s0 s1) :=
  ⟨.inl ⟨rfl, rfl⟩, h.1, (least_le _ _).1, fun i h1 h2 => h.2.2 i h1 (Nat.lt_of_lt_of_le h2 (least_le _ _).2)⟩
theorem backF_fr {s0 s1 : St} (h : Fr { n := s0.n, objs := s0.objs, lo := s0.n } s1) (r : AV) : Fr s0 (backF s0 s1 r) := by
  unfold backF
  cases e1 : Nat.beq s1.n s0.n with
  | true => exact (keepF_ok h r).2
  | false =>
    rw [cond_false]
    cases e2 : bel s0.n r with
    | false => exact (keepF_ok h r).2
    | true =>
      rw [cond_true]
      cases e3 : Nat.ble s0.n s1.lo with
      | true => exact Fr.refl s0
      | false =>
        rw [cond_false]
        cases e4 : ((dropNew s0.n s1.objs).all fun q => obel s0.n q.2) with
        | false => exact (keepF_ok h r).2
        | true =>
          rw [cond_true]
          refine ⟨Nat.le_refl _, (least_le _ _).1, fun i h1 h2 => ?_⟩
          show aget (dropNew s0.n s1.objs) i = _
          have hlt : Nat.blt i s0.n = true := Nat.ble_eq_true_of_le h1
          rw [aget_dropNew, hlt, cond_true]
          exact h.2.2 i h1 (Nat.lt_of_lt_of_le h2 (least_le _ _).2)
theorem backF_keeps {s0 s1 : St} (hb : ∀ i x, aget s0.objs i = some x → i < s0.n ∧ OBel s0.n x) (h : Fr { n := s0.n, objs := s0.objs, lo := s0.n } s1) (r : AV) : Keeps s0 s1 (backF s0 s1 r) r := by
  unfold backF
  cases e1 : Nat.beq s1.n s0.n with
  | true => exact (keepF_ok h r).1
  | false =>
    rw [cond_false]
    cases e2 : bel s0.n r with
    | false => exact (keepF_ok h r).1
    | true =>
      rw [cond_true]
      cases e3 : Nat.ble s0.n s1.lo with
      | true =>
        rw [cond_true]
        have := Nat.le_of_ble_eq_true e3
        exact .inr ⟨rfl, bel_sound e2, fun i x hx => ⟨(hb i x hx).1, (hb i x hx).2, (h.2.2 i (hb i x hx).1 (Nat.lt_of_lt_of_le (hb i x hx).1 this)).trans hx⟩⟩
      | false =>
        rw [cond_false]
        cases e4 : ((dropNew s0.n s1.objs).all fun q => obel s0.n q.2) with
        | false => exact (keepF_ok h r).1
        | true =>
          rw [cond_true]
          have hall := List.all_eq_true.1 e4
          refine .inr ⟨rfl, bel_sound e2, fun i x hx => ?_⟩
          have hm := hall _ (aget_mem hx)
          change aget (dropNew s0.n s1.objs) i = some x at hx
          rw [aget_dropNew] at hx
          cases hlt : Nat.blt i s0.n with
          | false => rw [hlt] at hx; cases hx
          | true => rw [hlt] at hx; exact ⟨Nat.le_of_ble_eq_true hlt, obel_sound hm, hx⟩

structure Env where
  T : Nat → Option TI
  F : Nat → Option Func
  /-- functions that are not run by their code -/
  O : Nat → Option (CallC → List AV → St → Ko → Fi)
  D : DrawF
  R : Nat
noncomputable def asSome {α : Type} (o : Option α) (f : α → Fi) (d : Fi) : Fi := @Option.casesOn α (fun _ => Fi) o d f
noncomputable def runF (n : Nat) : Env → CallC :=
  @Nat.rec (fun _ => Env → CallC) (fun _ _ _ _ _ => none) (fun n ih E f args s k =>
    asSome (E.O f) (fun o => o (ih E) args s k) (asSome (E.F f) (fun fn => asSome fn.body (fun code => cond (Nat.ble args.length fn.ntmps)
      (codeF code E.D ⟨E.T, ih E⟩ E.R fn.ntmps (initF args 0) { n := s.n, objs := s.objs, lo := s.n } (fun e t s1 => resF fn.results.toList E.T t s1 (fun l => @Ex.casesOn (fun _ => Fi) e (k (oneF l) (backF s s1 (oneF l))) (fun _ => none) (k (oneF l) (backF s s1 (oneF l)))))) none) none) none)) n

structure EnvOK (P : Program) (S : Array Oper → Bool) (E : Env) : Prop where
  T : TOK P E.T
  F : ∀ f fn, E.F f = some fn → P.funcs[f]? = some fn ∧ (fn.name == "runtime.NumGoroutine") = false ∧ ∀ code, fn.body = some code → statCode S fn.ntmps code = true
  O : ∀ f o, E.O f = some o → ∀ call, CallOK P call → ∀ args s k r, o call args s k = some r → ∃ v s', k v s' = some r ∧ bodied P f ∧ (ACalls P f args s fun r s'' => r = v ∧ s'' = s') ∧ Fr s s'
  D : DrawOK P S E.D
theorem W_inv {P : Program} {m : Nat} {code : Code} {Q : Exit → (Nat → AV) → St → Prop} {tm : Nat → AV} {s : St} (h : (∃ c w, Inv c w s) → W P m code Q tm s) : W P m code Q tm s :=
  fun ds c w a hI ha => h ⟨c, w, hI⟩ ds c w a hI ha

theorem runF_sound {P : Program} {S : Array Oper → Bool} {E : Env} (hE : EnvOK P S E) : ∀ n, CallOK P (runF n E)
  | 0 => fun f args s k r h => by cases h
  | n + 1 => by
    intro f args s k r h
    have ih := runF_sound hE n
    have h' : asSome (E.O f) (fun o => o (runF n E) args s k) (asSome (E.F f) (fun fn => asSome fn.body (fun code => cond (Nat.ble args.length fn.ntmps)
      (codeF code E.D ⟨E.T, runF n E⟩ E.R fn.ntmps (initF args 0) { n := s.n, objs := s.objs, lo := s.n } (fun e t s1 => resF fn.results.toList E.T t s1 (fun l => @Ex.casesOn (fun _ => Fi) e (k (oneF l) (backF s s1 (oneF l))) (fun _ => none) (k (oneF l) (backF s s1 (oneF l)))))) none) none) none) = some r := h
    cases ho : E.O f with
    | some o =>
      rw [ho] at h'
      exact hE.O f o ho _ ih _ _ _ _ h'
    | none =>
      rw [ho] at h'
      cases hf : E.F f with
      | none => rw [hf] at h'; cases h'
      | some fn =>
        rw [hf] at h'
        obtain ⟨f1, f2, f3⟩ := hE.F f fn hf
        have h1 : asSome fn.body (fun code => cond (Nat.ble args.length fn.ntmps)
      (codeF code E.D ⟨E.T, runF n E⟩ E.R fn.ntmps (initF args 0) { n := s.n, objs := s.objs, lo := s.n } (fun e t s1 => resF fn.results.toList E.T t s1 (fun l => @Ex.casesOn (fun _ => Fi) e (k (oneF l) (backF s s1 (oneF l))) (fun _ => none) (k (oneF l) (backF s s1 (oneF l)))))) none) none = some r := h'
        cases hb : fn.body with
        | none => rw [hb] at h1; cases h1
        | some code =>
          rw [hb] at h1
          have h2 : cond (Nat.ble args.length fn.ntmps) (codeF code E.D ⟨E.T, runF n E⟩ E.R fn.ntmps (initF args 0) { n := s.n, objs := s.objs, lo := s.n } (fun e t s1 => resF fn.results.toList E.T t s1 (fun l => @Ex.casesOn (fun _ => Fi) e (k (oneF l) (backF s s1 (oneF l))) (fun _ => none) (k (oneF l) (backF s s1 (oneF l)))))) none = some r := h1
          cases hl : Nat.ble args.length fn.ntmps with
          | false => rw [hl] at h2; cases h2
          | true =>
            rw [hl, cond_true] at h2
            have hle := Nat.le_of_ble_eq_true hl
            obtain ⟨e, t1, s1, g1, g2, g3⟩ := codeF_sound hE.D (E := ⟨E.T, runF n E⟩) hE.T ih E.R fn.ntmps code (f3 code hb) _ _ _ _ h2
            obtain ⟨l, g4, g5⟩ := resF_some g1
            have hk : (Ex.to e = .normal ∨ Ex.to e = .ret) ∧ k (oneOf l) (backF s s1 (oneOf l)) = some r := by
              rw [oneF_eq] at g5
              cases e with
              | normal => exact ⟨.inl rfl, g5⟩
              | ret => exact ⟨.inr rfl, g5⟩
              | exit id => cases g5
            have hbod : bodied P f := ⟨fn, f1, f2, by rw [hb]; rfl⟩
            by_cases hinv : ∃ c w, Inv c w s
            · obtain ⟨c, w, hI⟩ := hinv
              have k1 := backF_keeps (s0 := s) hI.bel g2 (oneOf l)
              refine ⟨_, _, hk.2, hbod, ?_, backF_fr g2 _⟩
              refine ACalls_of_W hE.T f1 hb hle ?_
              have := g3 (Ends E.T fn s fun r s'' => r = oneOf l ∧ s'' = backF s s1 (oneOf l)) ⟨hk.1, l, g4, _, k1, rfl, rfl⟩
              rw [look_init] at this
              intro ds c w a hI ha
              exact this ds c w a (by obtain ⟨n', o', e'⟩ := s; exact hI.lo _) ha
            · exact ⟨_, _, hk.2, hbod, fun c w vs hI _ => absurd ⟨c, w, hI⟩ hinv, backF_fr g2 _⟩
end Go.Sy
