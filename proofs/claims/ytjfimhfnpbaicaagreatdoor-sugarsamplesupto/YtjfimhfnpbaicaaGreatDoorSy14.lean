/- Definitions: the pieces of an interpreter over abstract values, written so that the kernel runs them fast; no condition. -/
import Derived.Test.YtjfimhfnpbaicaaGreatDoorSy13
namespace Go.Sy
set_option linter.unusedSimpArgs false
set_option linter.unusedVariables false

mutual
def AV.beq : AV → AV → Bool
  | .bool a, .bool b => a == b
  | .int k a, .int k' b => decide (k = k') && decide (a = b)
  | .str a, .str b => strBeq a b
  | .nilptr, .nilptr => true
  | .ptr i o, .ptr i' o' => Nat.beq i i' && Nat.beq o o'
  | .fp x, .fp y => AV.beq x y
  | .sl k xs, .sl k' ys => decide (k = k') && AV.beqs xs ys
  | .nilmap, .nilmap => true
  | .map i, .map j => Nat.beq i j
  | .fn (.func f) [] cs, .fn (.func g) [] ds => Nat.beq f g && AV.beqs cs ds
  | .nilfn, .nilfn => true
  | .ifc t x, .ifc u y => Nat.beq t u && AV.beq x y
  | .nilifc, .nilifc => true
  | .agg xs, .agg ys => AV.beqs xs ys
  | .tup xs, .tup ys => AV.beqs xs ys
  | .any, .any => true
  | _, _ => false
def AV.beqs : List AV → List AV → Bool
  | [], [] => true
  | x :: xs, y :: ys => AV.beq x y && AV.beqs xs ys
  | _, _ => false
end
theorem strBeq_eq {a b : List UInt8} (h : strBeq a b = true) : a = b := by rw [strBeq_iff] at h; simpa using h
mutual
theorem AV.beq_eq : ∀ {a b : AV}, AV.beq a b = true → a = b
  | .bool a, b, h => by cases b <;> simp [AV.beq] at h; subst h; rfl
  | .int k a, b, h => by cases b <;> simp [AV.beq] at h; obtain ⟨rfl, rfl⟩ := h; rfl
  | .str a, b, h => by cases b <;> simp [AV.beq] at h; rw [strBeq_eq h]
  | .nilptr, b, h => by cases b <;> simp [AV.beq] at h; rfl
  | .ptr i o, b, h => by cases b <;> simp [AV.beq] at h; obtain ⟨rfl, rfl⟩ := h; rfl
  | .fp x, b, h => by cases b <;> simp [AV.beq] at h; rw [AV.beq_eq h]
  | .sl k xs, b, h => by cases b <;> simp [AV.beq] at h; obtain ⟨rfl, h⟩ := h; rw [AV.beqs_eq h]
  | .nilmap, b, h => by cases b <;> simp [AV.beq] at h; rfl
  | .map i, b, h => by cases b <;> simp [AV.beq] at h; subst h; rfl
  | .fn f fs cs, b, h => by
    cases b <;> first | (simp [AV.beq] at h; done) | skip
    rename_i g gs ds
    cases f <;> cases g <;> cases fs <;> cases gs <;> simp [AV.beq] at h
    rw [h.1, AV.beqs_eq h.2]
  | .nilfn, b, h => by cases b <;> simp [AV.beq] at h; rfl
  | .ifc t x, b, h => by cases b <;> simp [AV.beq] at h; obtain ⟨rfl, h⟩ := h; rw [AV.beq_eq h]
  | .nilifc, b, h => by cases b <;> simp [AV.beq] at h; rfl
  | .rsv _ _, b, h => by cases b <;> simp [AV.beq] at h
  | .osl _ _ _, b, h => by cases b <;> simp [AV.beq] at h
  | .agg xs, b, h => by cases b <;> simp [AV.beq] at h; rw [AV.beqs_eq h]
  | .tup xs, b, h => by cases b <;> simp [AV.beq] at h; rw [AV.beqs_eq h]
  | .any, b, h => by cases b <;> simp [AV.beq] at h; rfl
theorem AV.beqs_eq : ∀ {a b : List AV}, AV.beqs a b = true → a = b
  | [], b, h => by cases b <;> simp [AV.beqs] at h; rfl
  | x :: xs, b, h => by
    cases b <;> simp [AV.beqs] at h
    rw [AV.beq_eq h.1, AV.beqs_eq h.2]
end


inductive Ex where
  | normal | exit (id : Nat) | ret
def Ex.to : Ex → Exit
  | .normal => .normal
  | .exit id => .exit id
  | .ret => .ret

abbrev Fi := Option (AV × St)
abbrev Ko := AV → St → Fi
abbrev CallC := FuncId → List AV → St → Ko → Fi
structure Cx where
  T : Nat → Option TI
  call : CallC

/-- slots: the last written first -/
abbrev Sl := List (Nat × AV)
noncomputable def look (l : Sl) : Nat → AV := @List.rec (Nat × AV) (fun _ => Nat → AV) (fun _ => .any) (fun p _ ih i => cond (Nat.beq p.1 i) p.2 (ih i)) l
noncomputable def mem (l : Sl) : Nat → Bool := @List.rec (Nat × AV) (fun _ => Nat → Bool) (fun _ => false) (fun p _ ih i => cond (Nat.beq p.1 i) true (ih i)) l
noncomputable def dd (l : Sl) : Sl → Sl := @List.rec (Nat × AV) (fun _ => Sl → Sl) (fun acc => acc) (fun p _ ih acc => cond (mem acc p.1) (ih acc) (ih (p :: acc))) l
noncomputable def slen (l : Sl) : Nat → Nat := @List.rec (Nat × AV) (fun _ => Nat → Nat) (fun n => n) (fun _ _ ih n => ih (Nat.add n 1)) l
noncomputable def compact (l : Sl) : Sl := cond (Nat.ble (slen l 0) 60) l (dd l [])
noncomputable def putF (d : Option Nat) (v : AV) (t : Sl) : Sl := @Option.casesOn Nat (fun _ => Sl) d t (fun d => (d, v) :: t)
noncomputable def initF (l : List AV) : Nat → Sl := @List.rec AV (fun _ => Nat → Sl) (fun _ => []) (fun x _ ih i => (i, x) :: ih (Nat.add i 1)) l

theorem look_cons (p : Nat × AV) (l : Sl) (i : Nat) : look (p :: l) i = cond (Nat.beq p.1 i) p.2 (look l i) := rfl
theorem mem_cons (p : Nat × AV) (l : Sl) (i : Nat) : mem (p :: l) i = cond (Nat.beq p.1 i) true (mem l i) := rfl
theorem dd_cons (p : Nat × AV) (l acc : Sl) : dd (p :: l) acc = cond (mem acc p.1) (dd l acc) (dd l (p :: acc)) := rfl
theorem beq_comm (a b : Nat) : Nat.beq a b = Nat.beq b a := by
  by_cases h : a = b
  · subst h; rfl
  · rw [beq_ne h, beq_ne (Ne.symm h)]
theorem look_dd : ∀ (l acc : Sl) (i : Nat), look (dd l acc) i = cond (mem acc i) (look acc i) (look l i)
  | [], acc, i => by
    show look acc i = _
    cases h : mem acc i with
    | true => rfl
    | false =>
      have : ∀ acc : Sl, mem acc i = false → look acc i = .any := by
        intro acc
        induction acc with
        | nil => intro _; rfl
        | cons p r ih =>
          intro h
          rw [mem_cons] at h
          rw [look_cons]
          cases e : Nat.beq p.1 i with
          | true => rw [e] at h; cases h
          | false => rw [e] at h; exact ih h
      exact this acc h
  | p :: l, acc, i => by
    rw [dd_cons, look_cons]
    cases hm : mem acc p.1 with
    | true =>
      rw [cond_true, look_dd l acc i]
      cases e : Nat.beq p.1 i with
      | true => rw [Nat.eq_of_beq_eq_true e] at hm; rw [hm]; rfl
      | false => rfl
    | false =>
      rw [cond_false, look_dd l (p :: acc) i, mem_cons, look_cons]
      cases e : Nat.beq p.1 i with
      | true => rw [Nat.eq_of_beq_eq_true e] at hm; rw [hm]; rfl
      | false => rfl
theorem look_compact (l : Sl) : look (compact l) = look l := by
  unfold compact
  cases Nat.ble (slen l 0) 60 with
  | true => rfl
  | false => funext i; rw [cond_false, look_dd]; rfl
theorem look_putF (d : Option Nat) (v : AV) (t : Sl) : look (putF d v t) = upd (look t) d v := by
  cases d with
  | none => rfl
  | some d => funext i; show look ((d, v) :: t) i = cond (Nat.beq i d) v (look t i); rw [look_cons, beq_comm]
theorem look_initF : ∀ (l : List AV) (k i : Nat), look (initF l k) i = cond (Nat.ble k i) ((l[i - k]?).getD .any) .any
  | [], k, i => by show AV.any = _; cases Nat.ble k i <;> rfl
  | x :: l, k, i => by
    show look ((k, x) :: initF l (k + 1)) i = _
    rw [look_cons, look_initF l (k + 1) i]
    by_cases e : k = i
    · subst e
      rw [beq_of rfl, Nat.ble_eq_true_of_le (Nat.le_refl _)]; simp
    · rw [beq_ne e, cond_false]
      by_cases h : k < i
      · rw [Nat.ble_eq_true_of_le h, Nat.ble_eq_true_of_le (Nat.le_of_lt h)]
        have : i - k = (i - (k + 1)) + 1 := by omega
        rw [cond_true, cond_true, this]; rfl
      · have h1 : Nat.ble (k + 1) i = false := by
          cases h' : Nat.ble (k + 1) i with
          | false => rfl
          | true => exact absurd (Nat.le_of_ble_eq_true h') (by omega)
        have h2 : Nat.ble k i = false := by
          cases h' : Nat.ble k i with
          | false => rfl
          | true => exact absurd (Nat.le_of_ble_eq_true h') (by omega)
        rw [h1, h2]; rfl
theorem look_init (l : List AV) : look (initF l 0) = tm0 l := by
  funext i
  rw [look_initF, Nat.ble_eq_true_of_le (Nat.zero_le _)]; rfl

noncomputable def opvF (x : Operand) : Sl → AV :=
  @Operand.casesOn (fun _ => Sl → AV) x (fun t tm => look tm t) (fun v _ => avOf v) (fun _ _ => .any) (fun f _ => .fn (.func f) [] [])
theorem opvF_eq (x : Operand) (t : Sl) : opvF x t = opv (look t) x := by cases x <;> rfl

noncomputable def asInt (x : AV) : (IntKind → Int → Fi) → Fi → Fi :=
  @AV.casesOn (fun _ => (IntKind → Int → Fi) → Fi → Fi) x (fun _ _ d => d) (fun a0 a1 f _ => f a0 a1) (fun _ _ d => d) (fun _ d => d) (fun _ _ _ d => d) (fun _ _ d => d) (fun _ _ _ d => d) (fun _ d => d) (fun _ _ d => d) (fun _ _ _ _ d => d) (fun _ d => d) (fun _ _ _ d => d) (fun _ d => d) (fun _ _ _ d => d) (fun _ _ _ _ d => d) (fun _ _ d => d) (fun _ _ d => d) (fun _ d => d)
noncomputable def asBool (x : AV) : (Bool → Fi) → Fi → Fi :=
  @AV.casesOn (fun _ => (Bool → Fi) → Fi → Fi) x (fun a0 f _ => f a0) (fun _ _ _ d => d) (fun _ _ d => d) (fun _ d => d) (fun _ _ _ d => d) (fun _ _ d => d) (fun _ _ _ d => d) (fun _ d => d) (fun _ _ d => d) (fun _ _ _ _ d => d) (fun _ d => d) (fun _ _ _ d => d) (fun _ d => d) (fun _ _ _ d => d) (fun _ _ _ _ d => d) (fun _ _ d => d) (fun _ _ d => d) (fun _ d => d)
noncomputable def asStr (x : AV) : (List UInt8 → Fi) → Fi → Fi :=
  @AV.casesOn (fun _ => (List UInt8 → Fi) → Fi → Fi) x (fun _ _ d => d) (fun _ _ _ d => d) (fun a0 f _ => f a0) (fun _ d => d) (fun _ _ _ d => d) (fun _ _ d => d) (fun _ _ _ d => d) (fun _ d => d) (fun _ _ d => d) (fun _ _ _ _ d => d) (fun _ d => d) (fun _ _ _ d => d) (fun _ d => d) (fun _ _ _ d => d) (fun _ _ _ _ d => d) (fun _ _ d => d) (fun _ _ d => d) (fun _ d => d)
noncomputable def asFn (x : AV) : (Fn → List AV → List AV → Fi) → Fi → Fi :=
  @AV.casesOn (fun _ => (Fn → List AV → List AV → Fi) → Fi → Fi) x (fun _ _ d => d) (fun _ _ _ d => d) (fun _ _ d => d) (fun _ d => d) (fun _ _ _ d => d) (fun _ _ d => d) (fun _ _ _ d => d) (fun _ d => d) (fun _ _ d => d) (fun a0 a1 a2 f _ => f a0 a1 a2) (fun _ d => d) (fun _ _ _ d => d) (fun _ d => d) (fun _ _ _ d => d) (fun _ _ _ _ d => d) (fun _ _ d => d) (fun _ _ d => d) (fun _ d => d)
theorem asInt_some {x : AV} {f : IntKind → Int → Fi} {d : Fi} {r : AV × St} (h : asInt x f d = some r) : (∃ k n, x = .int k n ∧ f k n = some r) ∨ d = some r := by
  cases x <;> first | exact .inr h | exact .inl ⟨_, _, rfl, h⟩
theorem asBool_some {x : AV} {f : Bool → Fi} {d : Fi} {r : AV × St} (h : asBool x f d = some r) : (∃ b, x = .bool b ∧ f b = some r) ∨ d = some r := by
  cases x <;> first | exact .inr h | exact .inl ⟨_, rfl, h⟩
theorem asStr_some {x : AV} {f : List UInt8 → Fi} {d : Fi} {r : AV × St} (h : asStr x f d = some r) : (∃ l, x = .str l ∧ f l = some r) ∨ d = some r := by
  cases x <;> first | exact .inr h | exact .inl ⟨_, rfl, h⟩
theorem asFn_some {x : AV} {f : Fn → List AV → List AV → Fi} {d : Fi} {r : AV × St} (h : asFn x f d = some r) : (∃ g a b, x = .fn g a b ∧ f g a b = some r) ∨ d = some r := by
  cases x <;> first | exact .inr h | exact .inl ⟨_, _, _, rfl, h⟩

noncomputable def knum (k : IntKind) : Nat := @IntKind.casesOn (fun _ => Nat) k 0 1 2 3 4 5 6 7
theorem knum_eq {k k' : IntKind} (h : Nat.beq (knum k) (knum k') = true) : k = k' := by cases k <;> cases k' <;> first | rfl | cases h
noncomputable def kmax (k : IntKind) : Nat := @IntKind.casesOn (fun _ => Nat) k 128 32768 2147483648 9223372036854775808 256 65536 4294967296 18446744073709551616
noncomputable def wrF (k : IntKind) (n : Int) : Int := @Int.casesOn (fun _ => Int) n (fun m => cond (Nat.blt m (kmax k)) (.ofNat m) (k.wrap (.ofNat m))) (fun m => wr k (.negSucc m))
noncomputable def ieq (a b : Int) : Bool := @Int.casesOn (fun _ => Bool) a (fun m => @Int.casesOn (fun _ => Bool) b (fun n => Nat.beq m n) (fun _ => false)) (fun m => @Int.casesOn (fun _ => Bool) b (fun n => false) (fun n => Nat.beq m n))
noncomputable def ilt (a b : Int) : Bool := @Int.casesOn (fun _ => Bool) a (fun m => @Int.casesOn (fun _ => Bool) b (fun n => Nat.blt m n) (fun _ => false)) (fun m => @Int.casesOn (fun _ => Bool) b (fun n => true) (fun n => Nat.blt n m))
noncomputable def iadd (a b : Int) : Int := @Int.casesOn (fun _ => Int) a (fun m => @Int.casesOn (fun _ => Int) b (fun n => .ofNat (Nat.add m n)) (fun n => Int.add (.ofNat m) (.negSucc n))) (fun m => Int.add (.negSucc m) b)
noncomputable def isub (a b : Int) : Int := @Int.casesOn (fun _ => Int) a (fun m => @Int.casesOn (fun _ => Int) b (fun n => cond (Nat.ble n m) (.ofNat (Nat.sub m n)) (Int.sub (.ofNat m) (.ofNat n))) (fun n => Int.sub (.ofNat m) (.negSucc n))) (fun m => Int.sub (.negSucc m) b)
theorem nbeq_dec (a b : Nat) : Nat.beq a b = decide (a = b) := by
  by_cases h : a = b
  · rw [beq_of h, decide_eq_true h]
  · rw [beq_ne h, decide_eq_false h]
theorem nblt_dec (a b : Nat) : Nat.blt a b = decide (a < b) := by
  by_cases h : a < b
  · rw [decide_eq_true h]; exact Nat.ble_eq_true_of_le h
  · rw [decide_eq_false h]
    cases e : Nat.blt a b with
    | false => rfl
    | true => exact absurd (Nat.le_of_ble_eq_true e) h
theorem ieq_eq (a b : Int) : ieq a b = decide (a = b) := by
  cases a <;> cases b <;> simp [ieq, nbeq_dec] <;> omega
theorem ilt_eq (a b : Int) : ilt a b = decide (a < b) := by
  cases a <;> cases b
  · simp [ilt, nblt_dec]
  · simp [ilt]; omega
  · simp [ilt]; omega
  · simp [ilt, nblt_dec]; omega
theorem iadd_eq (a b : Int) : iadd a b = a + b := by
  cases a <;> cases b <;> simp [iadd] <;> rfl
theorem isub_eq (a b : Int) : isub a b = a - b := by
  cases a with
  | ofNat m =>
    cases b with
    | ofNat n =>
      simp only [isub]
      cases h : Nat.ble n m with
      | true => have := Nat.le_of_ble_eq_true h; simp; omega
      | false => rfl
    | negSucc n => rfl
  | negSucc m => rfl
theorem wrF_eq (k : IntKind) (n : Int) : wrF k n = wr k n := by
  cases n with
  | negSucc m => rfl
  | ofNat m =>
    simp only [wrF, nblt_dec]
    by_cases h : m < kmax k
    · rw [decide_eq_true h, cond_true, wr_eq]
      cases k <;> simp [kmax] at h <;> simp [IntKind.wrap, IntKind.bits, IntKind.signed] <;> omega
    · rw [decide_eq_false h, cond_false, wr_eq]
end Go.Sy
