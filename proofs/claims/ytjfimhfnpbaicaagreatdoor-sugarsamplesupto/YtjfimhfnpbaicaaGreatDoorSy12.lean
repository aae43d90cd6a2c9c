/- Lemmas: a calculus for code over abstract values and states; no condition. -/
import Derived.Test.YtjfimhfnpbaicaaGreatDoorSy11
import Derived.LoopN
namespace Go.Sy
set_option linter.unusedSimpArgs false
set_option linter.unusedVariables false

def upd (tm : Nat → AV) (d : Option Tmp) (v : AV) : Nat → AV :=
  match d with
  | some d => fun t => cond (Nat.beq t d) v (tm t)
  | none => tm
structure ARep (ds : List Deferred) (c : Ctx) (m : Nat) (tm : Nat → AV) (a : Act) : Prop where
  defers : a.defers = ds
  size : a.tmps.size = m
  get : ∀ t, VR c (tm t) (a.tmps.getD t undef)
theorem ARep.mono {ds : List Deferred} {c c' : Ctx} (h : c.le c') {m : Nat} {tm : Nat → AV} {a : Act} (r : ARep ds c m tm a) : ARep ds c' m tm a := ⟨r.defers, r.size, fun t => (r.get t).mono h⟩
theorem ARep.eval {ds : List Deferred} {c : Ctx} {m : Nat} {tm : Nat → AV} {a : Act} (r : ARep ds c m tm a) (x : Operand) : VR c (opv tm x) (a.eval x) := by
  cases x with
  | tmp t => exact r.get t
  | const v => exact avOf_rep c v
  | global g => exact .any _
  | func f => exact .fn _ [] [] #[] #[] .vnil .vnil
def fitsDst (m : Nat) : Option Tmp → Bool
  | some d => Nat.blt d m
  | none => true
theorem ARep.put {ds : List Deferred} {c : Ctx} {m : Nat} {tm : Nat → AV} {a : Act} (r : ARep ds c m tm a) {d : Option Tmp} (hd : fitsDst m d = true) {x : AV} {v : Value} (hv : VR c x v) : ARep ds c m (upd tm d x) (a.put d v) := by
  cases d with
  | none => exact r
  | some d =>
    have hlt : d < m := Nat.le_of_ble_eq_true hd
    refine ⟨r.defers, by simp [Act.put]; exact r.size, fun t => ?_⟩
    simp only [upd, Act.put]
    by_cases e : t = d
    · subst e
      rw [beq_of rfl, cond_true]
      have : t < a.tmps.size := by rw [r.size]; exact hlt
      simp [Array.getElem?_setIfInBounds, this]
      exact hv
    · rw [beq_ne e, cond_false]
      have := r.get t
      simpa [Array.getElem?_setIfInBounds_ne (Ne.symm e)] using this

def lift (ds : List Deferred) (c : Ctx) (m : Nat) (Q : Exit → (Nat → AV) → St → Prop) : Exit → Act → World → Prop := fun e a w => ∃ c' tm s, c.le c' ∧ Inv c' w s ∧ ARep ds c' m tm a ∧ Q e tm s
theorem lift_le {ds : List Deferred} {c c' : Ctx} (h : c.le c') {m : Nat} {Q : Exit → (Nat → AV) → St → Prop} {e : Exit} {a : Act} {w : World} (g : lift ds c' m Q e a w) : lift ds c m Q e a w := by
  obtain ⟨c2, tm, s, h1, h2⟩ := g
  exact ⟨c2, tm, s, h.trans h1, h2⟩

/-- what a call comes to -/
def ACalls (P : Program) (f : FuncId) (args : List AV) (s : St) (R : AV → St → Prop) : Prop :=
  ∀ (c : Ctx) (w : World) (vs : Array Value), Inv c w s → VRs c args vs.toList → Calls P f vs w fun e w' => ∃ v c' r s', e = .returned v ∧ c.le c' ∧ Inv c' w' s' ∧ VR c' r v ∧ R r s'
theorem ACalls.mono {P : Program} {f : FuncId} {args : List AV} {s : St} {R R' : AV → St → Prop} (h : ACalls P f args s R) (hr : ∀ r s', R r s' → R' r s') : ACalls P f args s R' :=
  fun c w vs hI hv => (h c w vs hI hv).mono fun e w' ⟨v, c', r, s', h1, h2, h3, h4, h5⟩ => ⟨v, c', r, s', h1, h2, h3, h4, hr _ _ h5⟩

def W (P : Program) (m : Nat) (code : Code) (Q : Exit → (Nat → AV) → St → Prop) (tm : Nat → AV) (s : St) : Prop :=
  ∀ (ds : List Deferred) (c : Ctx) (w : World) (a : Act), Inv c w s → ARep ds c m tm a → code.wp P (lift ds c m Q) a w
def WOps (P : Program) (m : Nat) (ops : Array Oper) (Q : Exit → (Nat → AV) → St → Prop) (l : List Nat) (tm : Nat → AV) (s : St) : Prop :=
  ∀ (ds : List Deferred) (c : Ctx) (w : World) (a : Act), Inv c w s → ARep ds c m tm a → wpOps P ops (lift ds c m Q) l a w
def Ethen (next : (Nat → AV) → St → Prop) (Q : Exit → (Nat → AV) → St → Prop) : Exit → (Nat → AV) → St → Prop
  | .normal, tm, s => next tm s
  | e, tm, s => Q e tm s
def Eblock (id : Nat) (Q : Exit → (Nat → AV) → St → Prop) : Exit → (Nat → AV) → St → Prop
  | .exit id', tm, s => cond (Nat.beq id' id) (Q .normal tm s) (Q (.exit id') tm s)
  | e, tm, s => Q e tm s

section
variable {P : Program} {m : Nat} {Q : Exit → (Nat → AV) → St → Prop} {tm : Nat → AV} {s : St}
theorem W.mono {code : Code} {Q' : Exit → (Nat → AV) → St → Prop} (h : W P m code Q tm s) (hq : ∀ e tm s, Q e tm s → Q' e tm s) : W P m code Q' tm s :=
  fun ds c w a hI ha => wp_mono (h ds c w a hI ha) fun e a w ⟨c', tm, s, h1, h2, h3, h4⟩ => ⟨c', tm, s, h1, h2, h3, hq _ _ _ h4⟩
theorem W_skip (h : Q .normal tm s) : W P m .skip Q tm s := fun ds c w a hI ha => wp_skip ⟨c, tm, s, Ctx.le.refl c, hI, ha, h⟩
theorem W_exit {id : Nat} (h : Q (.exit id) tm s) : W P m (.exit id) Q tm s := fun ds c w a hI ha => wp_exit ⟨c, tm, s, Ctx.le.refl c, hI, ha, h⟩
theorem W_ret (h : Q .ret tm s) : W P m .ret Q tm s := fun ds c w a hI ha => wp_ret ⟨c, tm, s, Ctx.le.refl c, hI, ha, h⟩
theorem W_seq {x y : Code} (h : W P m x (Ethen (fun tm s => W P m y Q tm s) Q) tm s) : W P m (.seq x y) Q tm s := by
  intro ds c w a hI ha
  refine wp_seq (wp_mono (h ds c w a hI ha) ?_)
  rintro e a w ⟨c', tm, s, h1, h2, h3, h4⟩
  cases e with
  | normal => exact wp_mono (h4 ds c' w a h2 h3) fun e a w g => lift_le h1 g
  | _ => exact ⟨c', tm, s, h1, h2, h3, h4⟩
theorem W_cond {co : Operand} {x y : Code} {t : Bool} (hc : opv tm co = .bool t) (h : W P m (if t then x else y) Q tm s) : W P m (.cond co x y) Q tm s := by
  intro ds c w a hI ha
  have hv := ha.eval co
  rw [hc] at hv
  generalize hx : a.eval co = v at hv
  cases hv
  exact wp_cond hx (h ds c w a hI ha)
theorem W_block {id : Nat} {x : Code} (h : W P m x (Eblock id Q) tm s) : W P m (.block id x) Q tm s := by
  intro ds c w a hI ha
  refine wp_block (wp_mono (h ds c w a hI ha) ?_)
  rintro e a w ⟨c', tm, s, h1, h2, h3, h4⟩
  cases e with
  | exit id' =>
    simp only [Eblock] at h4
    simp only [Exit.inBlock]
    by_cases e : id' = id
    · rw [beq_of e, cond_true] at h4; rw [if_pos e]; exact ⟨c', tm, s, h1, h2, h3, h4⟩
    · rw [beq_ne e, cond_false] at h4; rw [if_neg e]; exact ⟨c', tm, s, h1, h2, h3, h4⟩
  | _ => exact ⟨c', tm, s, h1, h2, h3, h4⟩
def Wrounds (P : Program) (m : Nat) (x : Code) (Q : Exit → (Nat → AV) → St → Prop) : Nat → (Nat → AV) → St → Prop
  | 0, _, _ => False
  | n + 1, tm, s => W P m x (Ethen (Wrounds P m x Q n) Q) tm s
theorem Wrounds.run {x : Code} (ds : List Deferred) (c : Ctx) : ∀ (n : Nat) (tm : Nat → AV) (s : St) (c' : Ctx) (w : World) (a : Act), Wrounds P m x Q n tm s → c.le c' → Inv c' w s → ARep ds c' m tm a → Code.rounds P x (lift ds c m Q) n a w
  | 0, _, _, _, _, _, h, _, _, _ => h.elim
  | n + 1, tm, s, c', w, a, h, hle, hI, ha => by
    refine wp_mono (h ds c' w a hI ha) ?_
    rintro e a w ⟨c2, tm, s, h1, h2, h3, h4⟩
    cases e with
    | normal => exact Wrounds.run ds c n tm s c2 w a h4 (hle.trans h1) h2 h3
    | _ => exact ⟨c2, tm, s, hle.trans h1, h2, h3, h4⟩
theorem W_loop {x : Code} (n : Nat) (h : Wrounds P m x Q n tm s) : W P m (.loop x) Q tm s :=
  fun ds c w a hI ha => wp_loop_rounds n (Wrounds.run ds c n tm s c w a h (Ctx.le.refl c) hI ha)
theorem W_region {id : Nat} {ops : Array Oper} (h : WOps P m ops Q (List.range ops.size) tm s) : W P m (.region id ops false) Q tm s :=
  fun ds c w a hI ha => wp_region (h ds c w a hI ha)

theorem upon_mono {P : Program} {o : Oper} {a : Act} {K K' : Act → World → Prop} {Q Q' : Exit → Act → World → Prop} (hk : ∀ a w, K a w → K' a w) (hq : ∀ e a w, Q e a w → Q' e a w) :
    ∀ r : Result Next, o.upon P a K Q r → o.upon P a K' Q' r := by
  intro r h
  cases r with
  | ok n w' =>
    cases n with
    | value v => exact hk _ _ h
    | skip => exact hk _ _ h
    | defer d => exact hk _ _ h
    | enter f args =>
      refine Calls.mono h fun e w'' he => ?_
      cases e with
      | returned v => exact hk _ _ he
      | panicked ch => exact hq _ _ _ he
      | outgrown => obtain ⟨a0, w0, h0⟩ := he; exact ⟨a0, w0, hq _ _ _ h0⟩
    | row r args => exact Rows.mono h fun v w'' he => hk _ _ he
    | _ => exact h
  | halt x w' =>
    cases x with
    | panic v => exact hq _ _ _ h
    | _ => exact h
theorem wpOps_monoQ {P : Program} {ops : Array Oper} {Q Q' : Exit → Act → World → Prop} (hq : ∀ e a w, Q e a w → Q' e a w) : ∀ (l : List Nat) (a : Act) (w : World), wpOps P ops Q l a w → wpOps P ops Q' l a w
  | [], a, w, h => hq _ _ _ h
  | i :: l, a, w, h => by
    unfold wpOps at h ⊢
    split
    · rename_i ho; rw [ho] at h; exact wpOps_monoQ hq l _ _ h
    · rename_i o ho
      rw [ho] at h
      simp only at h
      split
      · rename_i hw
        rw [if_pos hw] at h
        rcases h with h | ⟨h1, a0, w0, h0⟩
        · exact .inl (upon_mono (fun a w g => wpOps_monoQ hq l a w g) hq _ h)
        · exact .inr ⟨h1, a0, w0, hq _ _ _ h0⟩
      · rename_i hw
        rw [if_neg hw] at h
        exact wpOps_monoQ hq l _ _ h

theorem WOps_nil {ops : Array Oper} (h : Q .normal tm s) : WOps P m ops Q [] tm s := fun ds c w a hI ha => ⟨c, tm, s, Ctx.le.refl c, hI, ha, h⟩
/-- was a guard's value what is wanted? none: not known -/
def awanted (ops : Array Oper) (tm : Nat → AV) (g : Option (Nat × Bool)) : Option Bool :=
  match g with
  | none => some true
  | some (j, want) => match (ops[j]?).bind (·.dst) with
    | some d => (match tm d with | .bool b => some (Bool.xor (!b) want) | _ => none)
    | none => none
theorem wanted_of {ds : List Deferred} {c : Ctx} {ops : Array Oper} {a : Act} (ha : ARep ds c m tm a) {o : Oper} {b : Bool} (h : awanted ops tm o.guard = some b) : Region.wanted o (yielded ops a.tmps) = b := by
  unfold awanted at h
  unfold Region.wanted
  split at h
  · rename_i e; cases h; rw [e]
  · rename_i j want e
    rw [e]
    split at h
    · rename_i d hd
      split at h
      · rename_i b' hb
        cases h
        have hv := ha.get d
        rw [hb] at hv
        have hy : yielded ops a.tmps j = some b' := by
          unfold yielded
          rw [hd]
          simp only [Option.bind_some]
          generalize hg : a.tmps.getD d undef = v at hv
          cases hv
          have hg' : (a.tmps[d]?).getD undef = .bool b' := by simpa using hg
          cases hq : a.tmps[d]? with
          | none => rw [hq] at hg'; cases hg'
          | some x => rw [hq] at hg'; simp only [Option.getD_some] at hg'; subst hg'; rfl
        simp only [hy]
        cases b' <;> cases want <;> rfl
      · cases h
    · cases h
theorem WOps_skip {ops : Array Oper} {i : Nat} {l : List Nat} {o : Oper} (ho : ops[i]? = some o) (hg : awanted ops tm o.guard = some false) (hd : fitsDst m o.dst = true) (h : WOps P m ops Q l (upd tm o.dst .any) s) : WOps P m ops Q (i :: l) tm s := by
  intro ds c w a hI ha
  simp only [wpOps, ho, wanted_of ha hg, Bool.false_eq_true, if_false]
  exact h ds c w _ hI (ha.put hd (.any _))
theorem WOps_op {T : Nat → Option TI} (hT : TOK P T) {ops : Array Oper} {i : Nat} {l : List Nat} {o : Oper} (ho : ops[i]? = some o) (hg : awanted ops tm o.guard = some true) (hd : fitsDst m o.dst = true) {r : AV} {s' : St}
    (hop : aop T (opv tm) s o.op = some (r, s')) (h : WOps P m ops Q l (upd tm o.dst r) s') : WOps P m ops Q (i :: l) tm s := by
  intro ds c w a hI ha
  simp only [wpOps, ho, wanted_of ha hg, if_true]
  refine .inl ?_
  obtain ⟨v, w', c', h1, h2, h3, h4⟩ := aop_sound hT hI (fun x => ha.eval x) o hop
  have hk : wpOps P ops (lift ds c m Q) l (a.put o.dst v) w' := by
    have := h ds c' w' _ h3 ((ha.mono h2).put hd h4)
    exact wpOps_monoQ (fun e a w g => lift_le h2 g) l _ _ this
  unfold Oper.wp
  rcases h1 with h1 | ⟨h1, rfl⟩
  · rw [h1]; exact hk
  · rw [h1]; exact hk

/-- a call of a Go function -/
def acallee (tm : Nat → AV) (c : Call) : Option (FuncId × List AV) :=
  match c.callee with
  | .value f => (match opv tm f with
    | .fn (.func g) first captured => some (g, first ++ c.args.toList.map (opv tm) ++ captured)
    | _ => none)
  | _ => none
def bodied (P : Program) (f : FuncId) : Prop := ∃ fn, P.funcs[f]? = some fn ∧ (fn.name == "runtime.NumGoroutine") = false ∧ fn.body.isNone = false
theorem WOps_call {ops : Array Oper} {i : Nat} {l : List Nat} {o : Oper} (ho : ops[i]? = some o) (hg : awanted ops tm o.guard = some true) (hd : fitsDst m o.dst = true) {ca : Call} (hc : o.op = .call ca) {f : FuncId} {args : List AV}
    (hcal : acallee tm ca = some (f, args)) (hb : bodied P f) (h : ACalls P f args s fun r s' => WOps P m ops Q l (upd tm o.dst r) s') : WOps P m ops Q (i :: l) tm s := by
  intro ds c w a hI ha
  simp only [wpOps, ho, wanted_of ha hg, if_true]
  refine .inl ?_
  unfold acallee at hcal
  split at hcal
  · rename_i x hx
    split at hcal
    · rename_i g first captured hfv
      cases hcal
      have hv := ha.eval x
      rw [hfv] at hv
      generalize hev : a.eval x = v at hv
      cases hv with
      | fn _ _ _ vfs vcs h1 h2 =>
      obtain ⟨fn, hfn, hname, hbody⟩ := hb
      have hrun : (execOp a.eval o).run P w = .ok (.enter f (vfs ++ ca.args.map a.eval ++ vcs)) w := by
        obtain ⟨dst, op, ty, pos, after, guard⟩ := o
        simp only at hc
        subst hc
        have hn : ¬ fn.name = "runtime.NumGoroutine" := by simpa using hname
        have hbn : ¬ fn.body = none := by intro e; rw [e] at hbody; cases hbody
        simp [execOp, resolve, hx, hev, Deferred.ofValue, invoke, callFunc, hfn, hn, hbn]
      have hargs : VRs c (first ++ ca.args.toList.map (opv tm) ++ captured) (vfs ++ ca.args.map a.eval ++ vcs).toList := by
        simp only [Array.toList_append, Array.toList_map]
        exact VRs.append (VRs.append h1 (map_ev (fun x => ha.eval x) _)) h2
      have := h c w _ hI hargs
      unfold Oper.wp
      rw [hrun]
      refine Calls.mono this ?_
      rintro e w' ⟨v, c', r, s', rfl, g1, g2, g3, g4⟩
      have := g4 ds c' w' _ g2 ((ha.mono g1).put hd g3)
      exact wpOps_monoQ (fun e a w g => lift_le g1 g) l _ _ this
    · cases hcal
  · cases hcal
end

/-- the results, when a body has ended -/
def aresult (T : Nat → Option TI) (tm : Nat → AV) (s : St) : ResultVar → Option AV
  | .tmp t => some (tm t)
  | .cell a t => aload T s t (tm a)
def aresults (T : Nat → Option TI) (tm : Nat → AV) (s : St) : List ResultVar → Option (List AV)
  | [] => some []
  | x :: r => match aresult T tm s x, aresults T tm s r with
    | some v, some q => some (v :: q)
    | _, _ => none
def oneOf : List AV → AV
  | [x] => x
  | l => .tup l
theorem results_sound {P : Program} {T : Nat → Option TI} (hT : TOK P T) {c : Ctx} {w : World} {s : St} (hI : Inv c w s) {ds : List Deferred} {m : Nat} {tm : Nat → AV} {a : Act} (ha : ARep ds c m tm a) {fn : Func} {l : List AV} (h : aresults T tm s fn.results.toList = some l) :
    ∃ v, (results fn a.tmps).run P w = .ok v w ∧ VR c (oneOf l) v := by
  have key : ∀ (rs : List ResultVar) (l : List AV), aresults T tm s rs = some l → ∃ vs : List Value, (rs.mapM fun
      | .tmp t => pure (a.tmps.getD t undef)
      | .cell x t => do loadVar t (← asAddr (a.tmps.getD x undef)) : Sem (List Value)).run P w = .ok vs w ∧ VRs c l vs := by
    intro rs
    induction rs with
    | nil => intro l h; simp only [aresults] at h; cases h; exact ⟨[], by simp, .vnil⟩
    | cons x rs ih =>
      intro l h
      simp only [aresults] at h
      split at h
      · rename_i v q h1 h2
        cases h
        obtain ⟨vs, g1, g2⟩ := ih q h2
        have hx : ∃ u, (match x with | .tmp t => pure (a.tmps.getD t undef) | .cell x t => do loadVar t (← asAddr (a.tmps.getD x undef)) : Sem Value).run P w = .ok u w ∧ VR c v u := by
          cases x with
          | tmp t => simp only [aresult] at h1; cases h1; exact ⟨_, rfl, ha.get t⟩
          | cell x t =>
            simp only [aresult] at h1
            obtain ⟨u, k1, k2, ad, k3⟩ := aload_sound hT hI h1 (ha.get x)
            refine ⟨u, ?_, k2⟩
            dsimp only
            rw [k3] at k1 ⊢
            simpa [Instr.loadAt, Instr.sureAddr, asAddr] using k1
        obtain ⟨u, k1, k2⟩ := hx
        refine ⟨u :: vs, ?_, .vcons _ _ _ _ k2 g2⟩
        rw [List.mapM_cons]
        simp only [Sem.run_bind, k1, Result.andThen_ok, g1, Sem.run_pure]
      · cases h
  obtain ⟨vs, g1, g2⟩ := key _ _ h
  have hm : (fn.results.mapM fun
      | .tmp t => pure (a.tmps.getD t undef)
      | .cell x t => do loadVar t (← asAddr (a.tmps.getD x undef)) : Sem (Array Value)).run P w = .ok vs.toArray w := by
    rw [Array.mapM_eq_mapM_toList]
    simp only [Sem.run_map, g1, Result.andThen_ok]
  have hl := VRs.length g2
  have hrun : ∀ v : Value, (if h : vs.toArray.size = 1 then vs.toArray[0] else .tuple vs.toArray) = v → (results fn a.tmps).run P w = .ok v w := by
    intro v hv
    unfold results
    rw [Sem.run_bind]
    refine (congrArg (fun r => Result.andThen r _) hm).trans ?_
    rw [Result.andThen_ok, hv]
    rfl
  by_cases hone : vs.length = 1
  · obtain ⟨v, rfl⟩ := List.length_eq_one_iff.1 hone
    obtain ⟨x, rfl⟩ := List.length_eq_one_iff.1 (hl.trans hone)
    refine ⟨v, hrun v (by simp), ?_⟩
    cases g2 with
    | vcons _ _ _ _ k1 k2 => exact k1
  · refine ⟨.tuple vs.toArray, hrun _ (by simp [hone]), ?_⟩
    have : oneOf l = .tup l := by
      match l, hl with
      | [], _ => rfl
      | [x], hl => exact absurd hl.symm hone
      | x :: y :: r, _ => rfl
    rw [this]
    exact .tup _ _ (by simpa using g2)

/-- what is kept behind a call: all, or only what was there before -/
def Keeps (s0 s1 s' : St) (r : AV) : Prop := (s'.n = s1.n ∧ s'.objs = s1.objs) ∨ (s'.n = s0.n ∧ Bel s0.n r ∧ ∀ i x, aget s'.objs i = some x → i < s0.n ∧ OBel s0.n x ∧ aget s1.objs i = some x)
def tm0 (args : List AV) : Nat → AV := fun t => (args[t]?).getD .any
def Ends (T : Nat → Option TI) (fn : Func) (s0 : St) (R : AV → St → Prop) : Exit → (Nat → AV) → St → Prop := fun e tm s1 =>
  (e = .normal ∨ e = .ret) ∧ ∃ l, aresults T tm s1 fn.results.toList = some l ∧ ∃ s', Keeps s0 s1 s' (oneOf l) ∧ R (oneOf l) s'

theorem Inv.lo {c : Ctx} {w : World} {n : Nat} {o : List (Nat × AObj)} {e : Nat} (h : Inv c w ⟨n, o, e⟩) (e' : Nat) : Inv c w ⟨n, o, e'⟩ :=
  ⟨h.pnd, h.bel, h.base_le, h.old, h.os, h.out, h.fro, h.ids, h.free, h.inj, h.obj, h.tks, h.two, h.tok⟩
theorem ACalls_of_W {P : Program} {T : Nat → Option TI} (hT : TOK P T) {f : FuncId} {fn : Func} {code : Code} (hf : P.funcs[f]? = some fn) (hb : fn.body = some code) {args : List AV} (hl : args.length ≤ fn.ntmps) {s : St} {R : AV → St → Prop}
    (h : W P fn.ntmps code (Ends T fn s R) (tm0 args) s) : ACalls P f args s R := by
  intro c w vs hI hv
  have hlen := VRs.length hv
  simp only [Array.length_toList] at hlen
  refine calls_of_wp hf hb (wp_mono (h [] c w { tmps := vs ++ Array.replicate (fn.ntmps - vs.size) undef, defers := [] } hI ⟨rfl, by simp; omega, fun t => ?_⟩) ?_)
  · unfold tm0
    cases hx : args[t]? with
    | none => exact .any _
    | some x =>
      obtain ⟨v, g1, g2⟩ := VRs.get hv t x hx
      have hlt : t < vs.size := by have := (List.getElem?_eq_some_iff.1 hx).1; omega
      have g1' : vs[t]? = some v := by simpa using g1
      have : (vs ++ Array.replicate (fn.ntmps - vs.size) undef).getD t undef = v := by
        rw [Array.getD_eq_getD_getElem?, Array.getElem?_append_left hlt, g1']; rfl
      rw [this]; exact g2
  · rintro e a w1 ⟨c1, tm, s1, h1, h2, h3, h4, l, h5, s', h6, h7⟩
    obtain ⟨v, k1, k2⟩ := results_sound hT h2 h3 h5
    have fin : ∃ c', c.le c' ∧ Inv c' w1 s' ∧ VR c' (oneOf l) v := by
      rcases h6 with ⟨g1, g2⟩ | ⟨g1, g2, g3⟩
      · refine ⟨c1, h1, ?_, k2⟩
        obtain ⟨n', o', e'⟩ := s'
        obtain ⟨n1, o1, e1⟩ := s1
        simp only at g1 g2
        subst g1 g2
        exact h2.lo e'
      · have hcut := h2.gc s.n s'.objs s'.lo g3
        refine ⟨c1.cut s.n, Ctx.le_cut h1 hI.ids_lt hI.tks_lt hI.pnd, ?_, k2.cut g2⟩
        obtain ⟨n', o', e'⟩ := s'
        simp only at g1
        subst g1
        exact hcut
    obtain ⟨c', f1, f2, f3⟩ := fin
    rcases h4 with rfl | rfl
    · exact ⟨h3.defers, v, k1, v, c', _, s', rfl, f1, f2, f3, h7⟩
    · exact ⟨h3.defers, v, k1, v, c', _, s', rfl, f1, f2, f3, h7⟩
end Go.Sy
