/- Lemmas: one operation, run fast: what it comes to; no condition. -/
import Derived.Test.YtjfimhfnpbaicaaGreatDoorSy14
namespace Go.Sy
set_option linter.unusedSimpArgs false
set_option linter.unusedVariables false

/-- what was there before is there still, as far as 'lo' does not tell otherwise -/
def Fr (s s' : St) : Prop := s.n ≤ s'.n ∧ s'.lo ≤ s.lo ∧ ∀ i, i < s.n → i < s'.lo → aget s'.objs i = aget s.objs i
theorem Fr.refl (s : St) : Fr s s := ⟨Nat.le_refl _, Nat.le_refl _, fun _ _ _ => rfl⟩
theorem Fr.trans {a b c : St} (h : Fr a b) (g : Fr b c) : Fr a c :=
  ⟨Nat.le_trans h.1 g.1, Nat.le_trans g.2.1 h.2.1, fun i h1 h2 => (g.2.2 i (Nat.lt_of_lt_of_le h1 h.1) h2).trans (h.2.2 i h1 (Nat.lt_of_lt_of_le h2 g.2.1))⟩
theorem Fr.push (s : St) (x : AObj) : Fr s (s.push x) :=
  ⟨Nat.le_succ _, Nat.le_refl _, fun i h _ => aget_cons_ne (by omega) _ _⟩
theorem least_le (a b : Nat) : least a b ≤ a ∧ least a b ≤ b := by
  unfold least
  cases h : Nat.ble a b with
  | true => exact ⟨Nat.le_refl _, Nat.le_of_ble_eq_true h⟩
  | false =>
    refine ⟨?_, Nat.le_refl _⟩
    rcases Nat.le_total a b with g | g
    · rw [Nat.ble_eq_true_of_le g] at h; cases h
    · exact g
theorem Fr.put (s : St) (i : Nat) (x : AObj) : Fr s (s.put i x) := by
  refine ⟨Nat.le_refl _, (least_le _ _).1, fun j _ h => ?_⟩
  have : j < least s.lo i := h
  exact aget_aset_ne (by have := (least_le s.lo i).2; omega) _ _

theorem aappend_fr {te : TI} {s s' : St} {x y v : AV} (h : aappend te s x y = some (v, s')) : Fr s s' := by
  unfold aappend at h
  simp only [Bool.cond_eq_ite] at h
  repeat' split at h
  all_goals first
    | (cases h; done)
    | (simp only [Option.some.injEq, Prod.mk.injEq] at h; obtain ⟨_, rfl⟩ := h; first | exact Fr.refl _ | exact Fr.push _ _ | exact Fr.put _ _ _ | exact (Fr.put _ _ _).trans (Fr.push _ _) | exact (Fr.push _ _).trans (Fr.put _ _ _))
theorem abuiltin_fr {T : Nat → Option TI} {b : Builtin} {ts : List TypeId} {args : List AV} {s s' : St} {v : AV} (h : abuiltin T b ts args s = some (v, s')) : Fr s s' := by
  unfold abuiltin at h
  simp only [Bool.cond_eq_ite] at h
  repeat' split at h
  all_goals first
    | (cases h; done)
    | exact aappend_fr h
    | (simp only [Option.some.injEq, Prod.mk.injEq] at h; obtain ⟨_, rfl⟩ := h; exact Fr.refl _)
theorem aop_fr {T : Nat → Option TI} {ev : Operand → AV} {s s' : St} {op : Op} {v : AV} (h : aop T ev s op = some (v, s')) : Fr s s' := by
  cases op
  all_goals (unfold aop at h)
  all_goals first
    | (cases h; done)
    | skip
  all_goals (simp only [Bool.cond_eq_ite] at h)
  all_goals (repeat' split at h)
  all_goals first
    | (cases h; done)
    | exact abuiltin_fr h
    | (simp only [Option.some.injEq, Prod.mk.injEq] at h; obtain ⟨_, rfl⟩ := h; first | exact Fr.refl _ | exact Fr.push _ _ | exact Fr.put _ _ _)

/-- one operation's step: of the operations themselves, or a call of a function with a body -/
def OpStep (P : Program) (T : Nat → Option TI) (tm : Nat → AV) (s : St) (op : Op) (v : AV) (s' : St) : Prop :=
  (aop T (opv tm) s op = some (v, s')) ∨ ∃ ca f args, op = .call ca ∧ acallee tm ca = some (f, args) ∧ bodied P f ∧ ACalls P f args s fun r s'' => r = v ∧ s'' = s'
def CallOK (P : Program) (call : CallC) : Prop :=
  ∀ f args s k r, call f args s k = some r → ∃ v s', k v s' = some r ∧ bodied P f ∧ (ACalls P f args s fun r s'' => r = v ∧ s'' = s') ∧ Fr s s'

noncomputable def ints (x y : AV) (f : IntKind → Int → Int → AV) (s : St) (k : Ko) (d : Fi) : Fi :=
  asInt x (fun kk a => asInt y (fun k' b => cond (Nat.beq (knum kk) (knum k')) (k (f kk a b) s) none) d) d
theorem ints_some {x y : AV} {f : IntKind → Int → Int → AV} {s : St} {k : Ko} {d : Fi} {r : AV × St} (h : ints x y f s k d = some r) :
    d = some r ∨ ∃ kk a b, x = .int kk a ∧ y = .int kk b ∧ k (f kk a b) s = some r := by
  rcases asInt_some h with ⟨kk, a, ex, h1⟩ | h1
  · rcases asInt_some h1 with ⟨k', b, ey, h2⟩ | h2
    · cases e : Nat.beq (knum kk) (knum k') with
      | false => rw [e] at h2; cases h2
      | true =>
        rw [e] at h2
        have := knum_eq e
        subst this
        exact .inr ⟨kk, a, b, ex, ey, h2⟩
    · exact .inl h2
  · exact .inl h1
noncomputable def binF (op : BinOp) : AV → AV → St → Ko → Fi → Fi :=
  @BinOp.casesOn (fun _ => AV → AV → St → Ko → Fi → Fi) op
    (fun x y s q d => ints x y (fun k a b => .int k (wrF k (iadd a b))) s q d)
    (fun x y s q d => ints x y (fun k a b => .int k (wrF k (isub a b))) s q d)
    (fun x y s q d => d) (fun x y s q d => d) (fun x y s q d => d) (fun x y s q d => d) (fun x y s q d => d) (fun x y s q d => d) (fun x y s q d => d) (fun x y s q d => d) (fun x y s q d => d)
    (fun x y s q d => ints x y (fun k a b => .bool (ieq a b)) s q (asStr x (fun l => asStr y (fun r => q (.bool (strBeq l r)) s) d) d))
    (fun x y s q d => ints x y (fun k a b => .bool (!(ieq a b))) s q (asStr x (fun l => asStr y (fun r => q (.bool (!(strBeq l r))) s) d) d))
    (fun x y s q d => ints x y (fun k a b => .bool (ilt a b)) s q d)
    (fun x y s q d => ints x y (fun k a b => .bool (!(ilt b a))) s q d)
    (fun x y s q d => ints x y (fun k a b => .bool (ilt b a)) s q d)
    (fun x y s q d => ints x y (fun k a b => .bool (!(ilt a b))) s q d)
theorem le_not_lt (a b : Int) : (!decide (b < a)) = decide (a ≤ b) := by
  by_cases h : b < a
  · rw [decide_eq_true h, decide_eq_false (by omega)]; rfl
  · rw [decide_eq_false h, decide_eq_true (by omega)]; rfl
theorem binF_some {op : BinOp} {x y : AV} {s : St} {k : Ko} {d : Fi} {r : AV × St} (h : binF op x y s k d = some r) :
    d = some r ∨ ∃ v, k v s = some r ∧ ∀ T t lit, abin T op t lit x y = some v := by
  have strs : ∀ (g : Bool → Bool), asStr x (fun l => asStr y (fun r => k (.bool (g (strBeq l r))) s) d) d = some r → d = some r ∨ ∃ l m, x = .str l ∧ y = .str m ∧ k (.bool (g (strBeq l m))) s = some r := by
    intro g h
    rcases asStr_some h with ⟨l, ex, h1⟩ | h1
    · rcases asStr_some h1 with ⟨m, ey, h2⟩ | h2
      · exact .inr ⟨l, m, ex, ey, h2⟩
      · exact .inl h2
    · exact .inl h1
  cases op
  case eql =>
    rcases ints_some h with h1 | ⟨kk, a, b, ex, ey, h1⟩
    · rcases strs (fun b => b) h1 with h2 | ⟨l, m, ex, ey, h2⟩
      · exact .inl h2
      · exact .inr ⟨_, h2, fun T t lit => by simp [abin, ex, ey]⟩
    · exact .inr ⟨_, h1, fun T t lit => by simp [abin, intBin, ieq_eq, ex, ey]⟩
  case neq =>
    rcases ints_some h with h1 | ⟨kk, a, b, ex, ey, h1⟩
    · rcases strs (fun b => !b) h1 with h2 | ⟨l, m, ex, ey, h2⟩
      · exact .inl h2
      · exact .inr ⟨_, h2, fun T t lit => by simp [abin, ex, ey]⟩
    · exact .inr ⟨_, h1, fun T t lit => by simp [abin, intBin, ieq_eq, ex, ey]⟩
  case add | sub | lss | leq | gtr | geq =>
    rcases ints_some h with h1 | ⟨kk, a, b, ex, ey, h1⟩
    · exact .inl h1
    · exact .inr ⟨_, h1, fun T t lit => by simp only [abin, intBin, if_true, wrF_eq, iadd_eq, isub_eq, ilt_eq, le_not_lt, ex, ey]⟩
  all_goals exact .inl h

noncomputable def opv' (tm : Sl) (x : Operand) : AV := opvF x tm
theorem opv'_eq (t : Sl) : opv' t = opv (look t) := funext fun x => opvF_eq x t
abbrev OpFn := Cx → Sl → St → Ko → Fi
noncomputable def slow (op : Op) : OpFn := fun E tm s k => match aop E.T (opv' tm) s op with | some (v, s) => k v s | none => none
theorem slow_some {op : Op} {E : Cx} {t : Sl} {s : St} {k : Ko} {r : AV × St} (h : slow op E t s k = some r) : ∃ v s', k v s' = some r ∧ aop E.T (opv (look t)) s op = some (v, s') := by
  unfold slow at h
  rw [opv'_eq] at h
  split at h
  · rename_i v s' e; exact ⟨v, s', h, e⟩
  · cases h
noncomputable def opvs (l : List Operand) : Sl → List AV → List AV := @List.rec Operand (fun _ => Sl → List AV → List AV) (fun _ r => r) (fun x _ ih tm r => opvF x tm :: ih tm r) l
theorem opvs_eq (l : List Operand) (t : Sl) (r : List AV) : opvs l t r = l.map (opv (look t)) ++ r := by
  induction l with
  | nil => rfl
  | cons x l ih => show opvF x t :: opvs l t r = _; rw [opvF_eq, ih]; rfl
noncomputable def appF (l : List AV) : List AV → List AV := @List.rec AV (fun _ => List AV → List AV) (fun r => r) (fun x _ ih r => x :: ih r) l
theorem appF_eq (l r : List AV) : appF l r = l ++ r := by
  induction l with
  | nil => rfl
  | cons x l ih => show x :: appF l r = _; rw [ih]; rfl
noncomputable def asGo (f : Fn) : (Nat → Fi) → Fi := match f with | .func g => fun k => k g | _ => fun _ => none
theorem asGo_some {f : Fn} {k : Nat → Fi} {r : AV × St} (h : asGo f k = some r) : ∃ g, f = .func g ∧ k g = some r := by
  unfold asGo at h
  split at h
  · exact ⟨_, rfl, h⟩
  · cases h
noncomputable def nth (l : List UInt8) : Nat → (UInt8 → Fi) → Fi := @List.rec UInt8 (fun _ => Nat → (UInt8 → Fi) → Fi) (fun _ _ => none) (fun x _ ih i k => cond (Nat.beq i 0) (k x) (ih (Nat.sub i 1) k)) l
theorem nth_some {k : UInt8 → Fi} {r : AV × St} : ∀ {l : List UInt8} {i : Nat}, nth l i k = some r → ∃ b, l[i]? = some b ∧ k b = some r
  | [], i, h => by cases h
  | x :: l, i, h => by
    have h' : cond (Nat.beq i 0) (k x) (nth l (Nat.sub i 1) k) = some r := h
    cases i with
    | zero => exact ⟨x, rfl, h'⟩
    | succ i => exact nth_some (l := l) h'
noncomputable def strlen (l : List UInt8) : Nat → Nat := @List.rec UInt8 (fun _ => Nat → Nat) (fun n => n) (fun _ _ ih n => ih (Nat.add n 1)) l
theorem strlen_eq (l : List UInt8) (n : Nat) : strlen l n = l.length + n := by
  induction l generalizing n with
  | nil => exact (Nat.zero_add n).symm
  | cons x l ih => show strlen l (n + 1) = _; rw [ih]; simp; omega
/-- is the type a text's? -/
noncomputable def isStrT (o : Option TI) : Bool := match o with | some ti => (match ti.k with | .str => true | _ => false) | none => false
theorem isStrT_some {o : Option TI} (h : isStrT o = true) : ∃ ti, o = some ti ∧ ti.k = .str := by
  cases o with
  | none => cases h
  | some ti =>
    refine ⟨ti, rfl, ?_⟩
    obtain ⟨k, a, b, c, d⟩ := ti
    cases k <;> first | rfl | cases h
noncomputable def idxF (t : Nat) (x i : AV) (E : Cx) (s : St) (k : Ko) (d : Fi) : Fi :=
  asStr x (fun l => asInt i (fun _ n => @Int.casesOn (fun _ => Fi) n (fun m => cond (isStrT (E.T t)) (nth l m (fun b => k (.int .u8 (.ofNat b.toNat)) s)) none) (fun _ => none)) none) d
noncomputable def lenF (c : Call) (E : Cx) (tm : Sl) (s : St) (k : Ko) (d : Fi) : Fi := match c.callee, c.args.toList, c.argTypes.toList with
  | .builtin .len, [x], t :: _ => asStr (opvF x tm) (fun l => cond (isStrT (E.T t)) (k (.int .i64 (.ofNat (strlen l 0))) s) none) d
  | _, _, _ => d
noncomputable def callF (c : Call) : OpFn := fun E tm s k => @Callee.casesOn (fun _ => Fi) c.callee (fun f => asFn (opvF f tm) (fun g a b => asGo g (fun g => E.call g (appF a (opvs c.args.toList tm b)) s k)) none) (fun _ _ => none)
  (fun _ => lenF c E tm s k (slow (.call c) E tm s k))
noncomputable def nop : OpFn := fun _ _ _ _ => none
noncomputable def opF (op : Op) : OpFn :=
  @Op.casesOn (fun _ => OpFn) op
    (fun x E tm s k => k (opvF x tm) s)
    (fun x E tm s k => k (opvF x tm) s)
    (fun c a b E tm s k => asBool (opvF c tm) (fun t => k (cond t (opvF a tm) (opvF b tm)) s) none)
    (fun a => slow (.alloc a)) (fun a b => slow (.box a b)) (fun a b => slow (.build a b)) (fun a b c => slow (.buildSlice a b c)) (fun a b c d => slow (.insert a b c d)) (fun a b => slow (.load a b)) (fun a b c => slow (.store a b c))
    (fun _ => nop) (fun _ => nop) (fun a => slow (.nilCheck a))
    (fun op t x y u E tm s k => binF op (opvF x tm) (opvF y tm) s k (slow (.binOp op t x y u) E tm s k))
    (fun a b c => slow (.unOp a b c)) (fun a b c => slow (.convert a b c)) (fun _ _ => nop) (fun a b => slow (.makeInterface a b)) (fun a b c => slow (.makeFunc a b c)) (fun a b => slow (.makeMap a b)) (fun _ _ => nop) (fun _ _ _ => nop)
    (fun a b c d e => slow (.slice a b c d e)) (fun a b c => slow (.fieldAddr a b c)) (fun a b c => slow (.field a b c)) (fun a b c => slow (.indexAddr a b c)) (fun a b c E tm s k => idxF a (opvF b tm) (opvF c tm) E s k (slow (.index a b c) E tm s k))
    (fun a b c d => slow (.lookup a b c d)) (fun a b c d => slow (.mapUpdate a b c d))
    (fun _ _ _ => nop) (fun _ _ _ _ => nop) (fun _ _ => nop) (fun _ _ => nop) (fun _ => nop)
    (fun a b c d => slow (.typeAssert a b c d)) (fun a b => slow (.extract a b)) (fun c => callF c)
    (fun _ => nop) (fun _ => nop) (fun _ => nop) (fun _ _ => nop) (fun _ _ _ => nop) (fun _ _ => nop)

theorem opF_sound {P : Program} {E : Cx} (hC : CallOK P E.call) {op : Op} {t : Sl} {s : St} {k : Ko} {r : AV × St} (h : opF op E t s k = some r) :
    ∃ v s', k v s' = some r ∧ OpStep P E.T (look t) s op v s' ∧ Fr s s' := by
  have hslow : ∀ op : Op, slow op E t s k = some r → ∃ v s', k v s' = some r ∧ OpStep P E.T (look t) s op v s' ∧ Fr s s' := by
    intro op h
    obtain ⟨v, s', h1, h2⟩ := slow_some h
    exact ⟨v, s', h1, .inl h2, aop_fr h2⟩
  have hop : ∀ (op : Op) (v : AV), k v s = some r → aop E.T (opv (look t)) s op = some (v, s) → ∃ v s', k v s' = some r ∧ OpStep P E.T (look t) s op v s' ∧ Fr s s' :=
    fun op v h1 h2 => ⟨v, s, h1, .inl h2, Fr.refl s⟩
  cases op
  case move x => exact hop _ _ h (by rw [opvF_eq]; rfl)
  case assign x => exact hop _ _ h (by rw [opvF_eq]; rfl)
  case pick c a b =>
    rcases asBool_some h with ⟨q, e, h1⟩ | h1
    · refine hop _ _ h1 ?_
      rw [opvF_eq] at e
      simp only [aop, e, opvF_eq]
    · cases h1
  case binOp op ty x y u =>
    rcases binF_some h with h1 | ⟨v, h1, hb⟩
    · exact hslow _ h1
    · refine hop _ _ h1 ?_
      simp only [opvF_eq] at hb
      simp only [aop, hb]
  case index ty x i =>
    rcases asStr_some h with ⟨l, ex, h1⟩ | h1
    · rcases asInt_some h1 with ⟨kk, n, ei, h2⟩ | h2
      · cases n with
        | negSucc n => cases h2
        | ofNat n =>
          have h' : cond (isStrT (E.T ty)) (nth l n (fun b => k (.int .u8 (.ofNat b.toNat)) s)) none = some r := h2
          cases hs : isStrT (E.T ty) with
          | false => rw [hs] at h'; cases h'
          | true =>
            rw [hs, cond_true] at h'
            obtain ⟨ti, ht, hk⟩ := isStrT_some hs
            obtain ⟨b, hb, h3⟩ := nth_some h'
            refine hop _ _ h3 ?_
            rw [opvF_eq] at ex ei
            simp [aop, ht, hk, ex, ei, idxOf, hb]
      · cases h2
    · exact hslow _ h1
  case call c =>
    obtain ⟨callee, args, tys⟩ := c
    cases callee with
    | value f =>
      rcases asFn_some (f := fun g a b => asGo g (fun g => E.call g (appF a (opvs args.toList t b)) s k)) h with ⟨g, a, b, e, h1⟩ | h1
      · obtain ⟨g, eg, h2⟩ := asGo_some h1
        obtain ⟨v, s', h3, h4, h5, h6⟩ := hC _ _ _ _ _ h2
        refine ⟨v, s', h3, .inr ⟨_, g, _, rfl, ?_, h4, h5⟩, h6⟩
        rw [opvF_eq] at e
        simp [acallee, e, eg, appF_eq, opvs_eq]
      · cases h1
    | invoke _ _ => cases h
    | builtin b =>
      have h' : lenF ⟨.builtin b, args, tys⟩ E t s k (slow (.call ⟨.builtin b, args, tys⟩) E t s k) = some r := h
      unfold lenF at h'
      split at h'
      · rename_i x ty q e1 e2 e3
        cases e1
        simp only at e2 e3
        rcases asStr_some h' with ⟨l, ex, h1⟩ | h1
        · cases hs : isStrT (E.T ty) with
          | false => rw [hs] at h1; cases h1
          | true =>
            rw [hs, cond_true] at h1
            obtain ⟨ti, ht, hk⟩ := isStrT_some hs
            refine hop _ _ h1 ?_
            rw [opvF_eq] at ex
            simp [aop, e2, e3, abuiltin, ht, hk, ex, strlen_eq]
        · exact hslow _ h1
      · exact hslow _ h'
  all_goals first
    | exact hslow _ h
    | (exfalso; exact absurd h (by intro h; cases h))
end Go.Sy
