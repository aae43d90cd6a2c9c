/- Lemmas: comparisons, arithmetic and the other operations that touch no memory; no condition. -/
import Derived.Test.YtjfimhfnpbaicaaGreatDoorSy3
import Derived.Laws.StructEq
namespace Go.Sy
set_option linter.unusedSimpArgs false
set_option linter.unusedVariables false
section
variable {P : Program} {T : Nat → Option TI} {c : Ctx} {w : World} {s : St}

theorem wr_eq (k : IntKind) (n : Int) : wr k n = k.wrap n := by
  cases k <;> try rfl
  simp only [wr]
  split
  · simp [IntKind.wrap, IntKind.bits, IntKind.signed]; omega
  · rfl

theorem strBeq_iff : ∀ a b : List UInt8, strBeq a b = (a == b)
  | [], [] => rfl
  | [], b :: y => rfl
  | a :: x, [] => rfl
  | a :: x, b :: y => by
    simp only [strBeq]
    by_cases h : a = b
    · subst h
      rw [beq_of rfl, cond_true, strBeq_iff x y]
      simp
    · have : a.toNat ≠ b.toNat := fun e => h (UInt8.toNat_inj.1 e)
      rw [beq_ne this, cond_false]
      simp [h]

theorem kind_equalIn {t : TypeId} {x y : AV} {b : Bool} {vx vy : Value} (h : kindBeq (kindOf P t) x y = some b) (hx : VR c x vx) (hy : VR c y vy) (d : Nat) (w : World) :
    (Op.equalIn (d + 1) t vx vy).run P w = .ok b w := by
  unfold kindOf at h
  cases hd : P.underlying t with
  | none => rw [hd] at h; simp [kindBeq] at h
  | some d' =>
    rw [hd] at h
    cases d' <;> try (simp [kindBeq] at h; done)
    · simp only [kindBeq] at h
      split at h <;> first | (rename_i e; cases e; done) | skip
      all_goals first | (cases h; done) | skip
      cases h; cases hx; cases hy
      exact run_equalIn_bool' w d t _ _ hd
    · simp only [kindBeq] at h
      split at h <;> first | (rename_i e; cases e; done) | skip
      all_goals first | (cases h; done) | skip
      split at h
      · subst_vars; cases h; cases hx; cases hy
        rw [run_equalIn_int w d t _ _ _ _ hd]
        congr 1
      · cases h
    · simp only [kindBeq] at h
      split at h <;> first | (rename_i e; cases e; done) | skip
      all_goals first | (cases h; done) | skip
      cases h; cases hx; cases hy
      rw [run_equalIn_string w d t _ _ hd, strBeq_iff, ByteArray.toList_eq, ByteArray.toList_eq]

theorem run_part_kind {t : TypeId} (hu : kindOf P t < 3) {xs : Array Value} {off : Nat} {v : Value} (hx : xs[off]? = some v) (w : World) :
    (part t xs off).run P w = .ok v w := by
  cases hd : P.underlying t with
  | none => simp [kindOf, hd] at hu
  | some d =>
    have : (isAgg t).run P w = .ok false w := by
      unfold isAgg
      simp only [Sem.run_bind, run_underlying hd, Result.andThen_ok]
      cases d <;> first | rfl | (simp [kindOf, hd] at hu)
    simp [part, this, hx]
theorem kindBeq_lt {k : Nat} {x y : AV} {b : Bool} (h : kindBeq k x y = some b) : k < 3 := by
  unfold kindBeq at h
  split at h <;> first | omega | cases h

theorem eqFields_run (d : Nat) (w : World) {xs ys : Array Value} : ∀ (fs : List Field) (o : Nat) (l m : List AV) (b : Bool), (∀ f ∈ fs, f.name ≠ "_") → fs.map (·.offset) = List.range' o fs.length →
    scalsBeq (fs.map fun f => kindOf P f.type) l m = some b → VRs c l (xs.toList.drop o) → VRs c m (ys.toList.drop o) →
    (Op.eqFields (d + 1) xs ys fs).run P w = .ok b w
  | [], o, l, m, b, _, _, h, _, _ => by
    cases l <;> cases m <;> simp [scalsBeq] at h
    subst h; rfl
  | f :: fs, o, l, m, b, hn, ho, h, hl, hm => by
    cases l with
    | nil => simp [scalsBeq] at h
    | cons x l =>
      cases m with
      | nil => simp [scalsBeq] at h
      | cons y m =>
        simp only [List.map_cons, scalsBeq] at h
        simp only [List.map_cons, List.length_cons, List.range'_succ, List.cons.injEq] at ho
        obtain ⟨ho1, ho2⟩ := ho
        obtain ⟨vx, hvx, hx⟩ := VRs.get hl 0 x rfl
        obtain ⟨vy, hvy, hy⟩ := VRs.get hm 0 y rfl
        simp only [List.getElem?_drop, Nat.add_zero] at hvx hvy
        have hl' : VRs c l (xs.toList.drop (o + 1)) := by
          have := VRs.drop 1 hl; simpa [List.drop_drop] using this
        have hm' : VRs c m (ys.toList.drop (o + 1)) := by
          have := VRs.drop 1 hm; simpa [List.drop_drop] using this
        cases hk : kindBeq (kindOf P f.type) x y with
        | none => rw [hk] at h; cases h
        | some r =>
          have hlt := kindBeq_lt hk
          have e1 : (part f.type xs f.offset).run P w = .ok vx w := run_part_kind hlt (by rw [ho1]; simpa using hvx) w
          have e2 : (part f.type ys f.offset).run P w = .ok vy w := run_part_kind hlt (by rw [ho1]; simpa using hvy) w
          have e3 := kind_equalIn hk hx hy d w
          have hne := hn f (by simp)
          simp only [Op.eqFields, if_pos hne, Sem.run_bind, e1, e2, e3, Result.andThen_ok]
          rw [hk] at h
          cases r with
          | false => simp only at h; cases h; rfl
          | true =>
            simp only at h
            simp only [Bool.not_true, Bool.false_eq_true, if_false]
            exact eqFields_run d w fs (o + 1) l m b (fun g hg => hn g (by simp [hg])) ho2 h hl' hm'

def otherV : Value → Bool
  | .int _ _ | .string _ | .float _ _ | .complex _ _ _ => false
  | _ => true
theorem binOp_other_eql {t : TypeId} {vx vy : Value} (h : otherV vx = true) {b : Bool} {w : World} (he : (Op.equal t vx vy).run P w = .ok b w) : (binOp .eql t vx vy).run P w = .ok (.bool b) w := by
  have : binOp .eql t vx vy = (do pure (.bool (← Op.equal t vx vy))) := by cases vx <;> first | (cases h; done) | (cases vy <;> rfl)
  rw [this]; simp [he]
theorem binOp_other_neq {t : TypeId} {vx vy : Value} (h : otherV vx = true) {b : Bool} {w : World} (he : (Op.equal t vx vy).run P w = .ok b w) : (binOp .neq t vx vy).run P w = .ok (.bool (!b)) w := by
  have : binOp .neq t vx vy = (do pure (.bool (!(← Op.equal t vx vy)))) := by cases vx <;> first | (cases h; done) | (cases vy <;> rfl)
  rw [this]; simp [he]
theorem guard_plain {op : BinOp} {t : TypeId} {ox oy : Operand} {a b : Value} (hab : (match a with | .nilIface | .agg _ => false | _ => true) = true) (w : World) : (eqGuard op t ox oy a b).run P w = .ok () w := by
  unfold eqGuard
  cases op <;> simp <;> (cases a <;> first | (cases hab; done) | (cases b <;> rfl))
theorem guard_ifc {op : BinOp} {t : TypeId} {ox oy : Operand} {u : TypeId} {b : Value} (w : World) : (eqGuard op t ox oy .nilIface (.iface u b)).run P w = .ok () w := by
  unfold eqGuard
  cases op <;> simp
theorem guard_nil {op : BinOp} {t : TypeId} {ox oy : Operand} (h : (isLit ox || isLit oy) = true) (w : World) : (eqGuard op t ox oy .nilIface .nilIface).run P w = .ok () w := by
  cases ox <;> cases oy <;> first | (cases h; done) | (cases op <;> rfl)

section
variable (w : World) (N : Nat) {t : TypeId}
theorem eq_slice1 {e : TypeId} (h : P.underlying t = some (.slice e)) (a b : Nat) (x : Option Addr) (a' b' : Nat) : (Op.equalIn (N + 1) t (.slice none a b) (.slice x a' b')).run P w = .ok x.isNone w := by
  simp [Op.equalIn, run_underlying h]
theorem eq_slice2 {e : TypeId} (h : P.underlying t = some (.slice e)) (x : Addr) (a b : Nat) (a' b' : Nat) : (Op.equalIn (N + 1) t (.slice (some x) a b) (.slice none a' b')).run P w = .ok false w := by
  simp [Op.equalIn, run_underlying h]
theorem eq_ptr1 {e : TypeId} (h : P.underlying t = some (.pointer e)) (x : Option Addr) : (Op.equalIn (N + 1) t (.pointer none) (.pointer x)).run P w = .ok x.isNone w := by
  simp [Op.equalIn, run_underlying h]
theorem eq_ptr2 {e : TypeId} (h : P.underlying t = some (.pointer e)) (x : Addr) : (Op.equalIn (N + 1) t (.pointer (some x)) (.pointer none)).run P w = .ok false w := by
  simp [Op.equalIn, run_underlying h]
theorem eq_map1 {k e : TypeId} (h : P.underlying t = some (.map k e)) (x : Option Nat) : (Op.equalIn (N + 1) t (.map none) (.map x)).run P w = .ok x.isNone w := by
  simp [Op.equalIn, run_underlying h]
theorem eq_map2 {k e : TypeId} (h : P.underlying t = some (.map k e)) (x : Nat) : (Op.equalIn (N + 1) t (.map (some x)) (.map none)).run P w = .ok false w := by
  simp [Op.equalIn, run_underlying h]
theorem eq_fn1 {a b : Array TypeId} {v : Bool} (h : P.underlying t = some (.func a b v)) : (Op.equalIn (N + 1) t .nilFunc .nilFunc).run P w = .ok true w := by
  simp [Op.equalIn, run_underlying h]
theorem eq_fn2 {a b : Array TypeId} {v : Bool} (h : P.underlying t = some (.func a b v)) (f : Fn) (x y : Array Value) : (Op.equalIn (N + 1) t .nilFunc (.func f x y)).run P w = .ok false w := by
  simp [Op.equalIn, run_underlying h]
theorem eq_fn3 {a b : Array TypeId} {v : Bool} (h : P.underlying t = some (.func a b v)) (f : Fn) (x y : Array Value) : (Op.equalIn (N + 1) t (.func f x y) .nilFunc).run P w = .ok false w := by
  simp [Op.equalIn, run_underlying h]
theorem eq_ifc1 {e : Array (String × TypeId)} (h : P.underlying t = some (.interface e)) : (Op.equalIn (N + 1) t .nilIface .nilIface).run P w = .ok true w := by
  simp [Op.equalIn, run_underlying h]
theorem eq_ifc2 {e : Array (String × TypeId)} (h : P.underlying t = some (.interface e)) (u : TypeId) (v : Value) : (Op.equalIn (N + 1) t .nilIface (.iface u v)).run P w = .ok false w := by
  simp [Op.equalIn, run_underlying h]
theorem eq_ifc3 {e : Array (String × TypeId)} (h : P.underlying t = some (.interface e)) (u : TypeId) (v : Value) : (Op.equalIn (N + 1) t (.iface u v) .nilIface).run P w = .ok false w := by
  simp [Op.equalIn, run_underlying h]
end

theorem eqOther_sound {t : TypeId} {ti : TI} (hT : TOK P T) (ht : T t = some ti) {lit : Bool} {x y : AV} {b : Bool} (h : eqOther ti lit x y = some b) {vx vy : Value} (hx : VR c x vx) (hy : VR c y vy)
    (op : BinOp) (ox oy : Operand) (hlit : lit = (isLit ox || isLit oy)) (w : World) : (eqGuard op t ox oy vx vy).run P w = .ok () w ∧ (Op.equal t vx vy).run P w = .ok b w ∧ otherV vx = true := by
  obtain ⟨i, d, z, hf⟩ := tfacts hT ht
  have hk := hf.k
  have hu := hf.und
  have hd : ∀ k, ti.k = k → tkOf d = k := fun k e => hk.symm.trans e
  unfold Op.equal Op.maxDepth
  obtain ⟨N, hN⟩ : ∃ N, 10000 = N + 2 := ⟨9998, rfl⟩
  rw [hN]
  clear hN
  cases hkk : ti.k with
  | bool =>
    simp only [eqOther, hkk] at h
    split at h <;> first | (rename_i e; cases e; done) | skip
    all_goals first | (cases h; done) | skip
    cases h; cases hx; cases hy
    have hu' : P.underlying t = some .bool := by rw [hu]; have := hd _ hkk; cases d <;> first | rfl | cases this
    exact ⟨guard_plain rfl w, run_equalIn_bool' w (N + 1) t _ _ hu', rfl⟩
  | struct fs0 =>
    simp only [eqOther, hkk] at h
    split at h <;> first | (rename_i e; cases e; done) | skip
    all_goals first | (cases h; done) | skip
    cases hx with
    | agg l vs hvs =>
    cases hy with
    | agg m us hus =>
    cases he : ti.eq with
    | nil => rw [he] at h; cases h
    | cons k0 ks =>
      rw [he] at h
      simp only at h
      have he' := hf.eq
      rw [he] at he'
      unfold eqOk at he'
      rw [hu] at he'
      have hdd := hd _ hkk
      cases d with
      | struct fields =>
        simp only at he'
        cases hc : (!P.eqGuardType P.depth t && !P.stoodInHeld t && decide (fields.toList.map (·.offset) = List.range fields.size) && fields.toList.all (fun f => f.name != "_")) with
        | false => rw [hc] at he'; cases he'
        | true =>
          rw [hc] at he'
          simp only [cond_true] at he'
          simp only [Bool.and_eq_true, Bool.not_eq_true', decide_eq_true_eq, List.all_eq_true, bne_iff_ne] at hc
          obtain ⟨⟨⟨c1, c2⟩, c3⟩, c4⟩ := hc
          refine ⟨run_eqGuard_agg w op t ox oy vs us c1, ?_, rfl⟩
          have hfo : P.fieldsOf t = fields := by simp [Program.fieldsOf, hu]
          have := run_equalIn_struct (P := P) w (N + 1) t vs us (by rw [hfo]; exact hu) c2
          rw [hfo] at this
          rw [this]
          rw [he'] at h
          exact eqFields_run N w fields.toList 0 _ _ b c4 (by rw [c3, List.range_eq_range']; simp) h (by simpa using hvs) (by simpa using hus)
      | _ => cases hdd
  | slice e =>
    have hu' : ∃ e, P.underlying t = some (.slice e) := by rw [hu]; have := hd _ hkk; cases d <;> first | exact ⟨_, rfl⟩ | cases this
    obtain ⟨e', hu'⟩ := hu'
    simp only [eqOther, hkk] at h
    split at h <;> first | (rename_i e; cases e; done) | skip
    all_goals first | (cases h; done) | skip
    all_goals (cases h; cases hx <;> first | contradiction | skip) <;> (cases hy <;> first | contradiction | skip)
    all_goals first | exact ⟨guard_plain rfl w, eq_slice1 w _ hu' _ _ _ _ _, rfl⟩ | exact ⟨guard_plain rfl w, eq_slice2 w _ hu' _ _ _ _ _, rfl⟩ | simp_all
  | ptr e =>
    have hu' : ∃ e, P.underlying t = some (.pointer e) := by rw [hu]; have := hd _ hkk; cases d <;> first | exact ⟨_, rfl⟩ | cases this
    obtain ⟨e', hu'⟩ := hu'
    simp only [eqOther, hkk] at h
    split at h <;> first | (rename_i e; cases e; done) | skip
    all_goals first | (cases h; done) | skip
    all_goals (cases h; cases hx; cases hy; first | exact ⟨guard_plain rfl w, eq_ptr1 w _ hu' _, rfl⟩ | exact ⟨guard_plain rfl w, eq_ptr2 w _ hu' _, rfl⟩)
  | map k e =>
    have hu' : ∃ k e, P.underlying t = some (.map k e) := by rw [hu]; have := hd _ hkk; cases d <;> first | exact ⟨_, _, rfl⟩ | cases this
    obtain ⟨k', e', hu'⟩ := hu'
    simp only [eqOther, hkk] at h
    split at h <;> first | (rename_i e; cases e; done) | skip
    all_goals first | (cases h; done) | skip
    all_goals (cases h; cases hx; cases hy; first | exact ⟨guard_plain rfl w, eq_map1 w _ hu' _, rfl⟩ | exact ⟨guard_plain rfl w, eq_map2 w _ hu' _, rfl⟩)
  | func =>
    have hu' : ∃ a b e, P.underlying t = some (.func a b e) := by rw [hu]; have := hd _ hkk; cases d <;> first | exact ⟨_, _, _, rfl⟩ | cases this
    obtain ⟨a', b', e', hu'⟩ := hu'
    simp only [eqOther, hkk] at h
    split at h <;> first | (rename_i e; cases e; done) | skip
    all_goals first | (cases h; done) | skip
    all_goals (cases h; cases hx; cases hy; first | exact ⟨guard_plain rfl w, eq_fn1 w _ hu', rfl⟩ | exact ⟨guard_plain rfl w, eq_fn2 w _ hu' _ _ _, rfl⟩ | exact ⟨guard_plain rfl w, eq_fn3 w _ hu' _ _ _, rfl⟩)
  | ifc =>
    have hu' : ∃ e, P.underlying t = some (.interface e) := by rw [hu]; have := hd _ hkk; cases d <;> first | exact ⟨_, rfl⟩ | cases this
    obtain ⟨e', hu'⟩ := hu'
    simp only [eqOther, hkk] at h
    split at h <;> first | (rename_i e; cases e; done) | skip
    all_goals first | (cases h; done) | skip
    · cases hl : lit with
      | false => rw [hl] at h; cases h
      | true =>
        rw [hl] at h; cases h; cases hx; cases hy
        exact ⟨guard_nil (by rw [← hlit, hl]) w, eq_ifc1 w _ hu', rfl⟩
    · cases h; cases hx; cases hy
      exact ⟨guard_ifc w, eq_ifc2 w _ hu' _ _, rfl⟩
    · cases h; cases hx; cases hy
      exact ⟨guard_plain rfl w, eq_ifc3 w _ hu' _ _, rfl⟩
  | int k => simp only [eqOther, hkk] at h; cases h
  | str => simp only [eqOther, hkk] at h; cases h
  | arr n e => simp only [eqOther, hkk] at h; cases h
  | tup => simp only [eqOther, hkk] at h; cases h
  | oth => simp only [eqOther, hkk] at h; cases h

theorem intBin_sound {op : BinOp} {k : IntKind} {a b : Int} {r : AV} (h : intBin op k a b = some r) (hs : op ≠ .shl ∧ op ≠ .shr) (t : TypeId) (c : Ctx) (w : World) :
    ∃ v, (binOp op t (.int k a) (.int k b)).run P w = .ok v w ∧ VR c r v := by
  cases op <;> simp only [intBin] at h <;> first | (cases h; done) | skip
  case quo =>
    split at h
    · cases h
    · rename_i hb
      cases h
      exact ⟨.int k (k.wrap (a.tdiv b)), by simp [binOp, Op.intDiv, hb], by rw [wr_eq]; exact .int _ _⟩
  case rem =>
    split at h
    · cases h
    · rename_i hb
      cases h
      exact ⟨_, by simp [binOp, Op.intDiv, hb], .int _ _⟩
  case add => cases h; exact ⟨.int k (k.wrap (a + b)), by simp [binOp, Op.intArith], by rw [wr_eq]; exact .int _ _⟩
  case sub => cases h; exact ⟨.int k (k.wrap (a - b)), by simp [binOp, Op.intArith], by rw [wr_eq]; exact .int _ _⟩
  case mul => cases h; exact ⟨.int k (k.wrap (a * b)), by simp [binOp, Op.intArith], by rw [wr_eq]; exact .int _ _⟩
  case eql => cases h; exact ⟨.bool (decide (a = b)), by simp [binOp, Op.intCmp]; rfl, .bool _⟩
  case neq => cases h; exact ⟨.bool (!decide (a = b)), by simp [binOp, Op.intCmp, bne]; rfl, .bool _⟩
  case lss => cases h; exact ⟨_, by simp [binOp, Op.intCmp], .bool _⟩
  case leq => cases h; exact ⟨_, by simp [binOp, Op.intCmp], .bool _⟩
  case gtr => cases h; exact ⟨_, by simp [binOp, Op.intCmp], .bool _⟩
  case geq => cases h; exact ⟨_, by simp [binOp, Op.intCmp], .bool _⟩

theorem abin_sound (hT : TOK P T) {op : BinOp} {t : TypeId} {ox oy : Operand} {x y r : AV} (h : abin T op t (isLit ox || isLit oy) x y = some r) {vx vy : Value} (hx : VR c x vx) (hy : VR c y vy) (w : World) :
    ∃ v, (do eqGuard op t ox oy vx vy; binOp op t vx vy : Sem Value).run P w = .ok v w ∧ VR c r v := by
  unfold abin at h
  split at h
  · rename_i k a k' b
    split at h
    · cases h
    · rename_i hb
      cases h; cases hx; cases hy
      exact ⟨.int k (k.wrap (a * 2 ^ min b.toNat k.bits)), by rw [Sem.run_bind, guard_plain rfl w]; simp [binOp, Op.shift, hb], by rw [wr_eq]; exact .int _ _⟩
  · cases h
  · cases h
  · rename_i hs0 hs1 hs2
    split at h
    · subst_vars; cases hx; cases hy
      obtain ⟨v, h1, h2⟩ := intBin_sound (P := P) h ⟨fun e => by simp_all, fun e => by simp_all⟩ t c w
      exact ⟨v, by rw [Sem.run_bind, guard_plain rfl w]; exact h1, h2⟩
    · cases h
  · rename_i a b
    cases hb : Nat.ble (a.length + b.length) 9223372036854775807 with
    | false => rw [hb] at h; cases h
    | true =>
      rw [hb] at h; cases h; cases hx; cases hy
      rename_i s1 s2
      have hle := Nat.le_of_ble_eq_true hb
      refine ⟨.string (s1 ++ s2), ?_, ?_⟩
      · rw [Sem.run_bind, guard_plain rfl w]
        have hsz : ¬ (((s1.size + s2.size : Nat) : Int) > IntKind.i64.max) := by
          have e1 : s1.data.toList.length = s1.size := by rw [Array.length_toList]; rfl
          have e2 : s2.data.toList.length = s2.size := by rw [Array.length_toList]; rfl
          rw [e1, e2] at hle
          simp only [IntKind.max, IntKind.signed, IntKind.bits]
          simp
          omega
        rw [Result.andThen_ok]
        simp only [binOp, Op.stringOp, if_neg hsz, Sem.run_pure]
      · have := Rep.str (c := c) (s1 ++ s2)
        simpa using this
  · cases h; cases hx; cases hy
    rename_i s1 s2
    exact ⟨.bool (s1.data.toList == s2.data.toList), by rw [Sem.run_bind, guard_plain rfl w]; simp only [Result.andThen_ok, binOp_string_eql, Sem.run_pure, ByteArray.toList_eq], by rw [strBeq_iff]; exact .bool _⟩
  · cases h; cases hx; cases hy
    rename_i s1 s2
    exact ⟨.bool (!(s1.data.toList == s2.data.toList)), by rw [Sem.run_bind, guard_plain rfl w]; simp only [Result.andThen_ok, binOp_string_neq, Sem.run_pure, ByteArray.toList_eq], by rw [strBeq_iff]; exact .bool _⟩
  · split at h
    · rename_i ti ht
      split at h
      · rename_i b hb
        cases h
        obtain ⟨g1, g2, g3⟩ := eqOther_sound hT ht hb hx hy .eql ox oy rfl w
        exact ⟨_, by rw [Sem.run_bind, g1]; exact binOp_other_eql g3 g2, .bool _⟩
      · cases h
    · cases h
  · split at h
    · rename_i ti ht
      split at h
      · rename_i b hb
        cases h
        obtain ⟨g1, g2, g3⟩ := eqOther_sound hT ht hb hx hy .neq ox oy rfl w
        exact ⟨_, by rw [Sem.run_bind, g1]; exact binOp_other_neq g3 g2, .bool _⟩
      · cases h
    · cases h
  · cases h
end
end Go.Sy
