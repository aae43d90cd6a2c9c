/- Lemmas: a calculus over lists of slots, made for rewriting; no condition. -/
import Derived.Test.YtjfimhfnpbaicaaGreatDoorSy22
namespace Go.Sy
set_option linter.unusedSimpArgs false
set_option linter.unusedVariables false

/-- what a call comes to: one value, one state -/
def Det (P : Program) (f : FuncId) (args : List AV) (s : St) (v : AV) (s' : St) : Prop := bodied P f ∧ ACalls P f args s fun r t => r = v ∧ t = s'
/-- the same in every state, and the state stays -/
def Pure (P : Program) (f : FuncId) (args : List AV) (v : AV) : Prop := ∀ s, Det P f args s v s

abbrev QT := Ex → Sl → St → Prop
def Lq (Q : QT) : Exit → (Nat → AV) → St → Prop := fun e tm s => ∃ x t, e = Ex.to x ∧ tm = look t ∧ Q x t s
/-- the ids that are bound from the start are below nb -/
structure Bd (c : Ctx) (nb : Nat) : Prop where
  ι : ∀ i b, c.ι i = some b → i < nb
  τ : ∀ i q, c.τ i = some q → i < nb
  pend : ∀ i, c.pend i = true → i < nb
def V (P : Program) (nb m : Nat) (code : Code) (Q : QT) (t : Sl) (s : St) : Prop := statCode dstatic m code = true →
  ∀ (ds : List Deferred) (cb c : Ctx) (w : World) (a : Act), cb.le c → Bd cb nb → Inv c w s → ARep ds c m (look t) a → code.wp P (lift ds cb m (Lq Q)) a w
def Vthen (K : Sl → St → Prop) (Q : QT) : QT
  | .normal, t, s => K t s
  | e, t, s => Q e t s
def Vblock (id : Nat) (Q : QT) : QT
  | .exit j, t, s => (j = id → Q .normal t s) ∧ (j ≠ id → Q (.exit j) t s)
  | e, t, s => Q e t s
def condP : AV → Prop → Prop → Prop
  | .bool b, X, Y => (b = true → X) ∧ (b = false → Y)
  | _, _, _ => False

/-- what a slot's value is weaker than -/
def Wk (a b : AV) : Prop := ∀ c v, VR c a v → VR c b v
theorem Wk.refl (a : AV) : Wk a a := fun _ _ h => h
theorem Wk.any (a : AV) : Wk a .any := fun _ v _ => .any v
theorem Wk.trans {a b c : AV} (h : Wk a b) (g : Wk b c) : Wk a c := fun x v r => g x v (h x v r)
theorem Wk.fro (k : SK) (xs : List AV) : Wk (.sl k xs) (.sl .fro xs) := fun _ _ h => forget h
def Wks : List AV → List AV → Prop
  | [], [] => True
  | a :: l, b :: m => Wk a b ∧ Wks l m
  | _, _ => False
theorem Wks.refl : ∀ l : List AV, Wks l l
  | [] => trivial
  | a :: l => ⟨Wk.refl a, Wks.refl l⟩
theorem Wks.run {c : Ctx} : ∀ {l m : List AV} {vs : List Value}, Wks l m → VRs c l vs → VRs c m vs
  | [], [], _, _, h => h
  | a :: l, b :: m, vs, h, g => by cases g with | vcons _ _ v vs g1 g2 => exact .vcons _ _ _ _ (h.1 c v g1) (Wks.run h.2 g2)
  | [], b :: m, _, h, _ => h.elim
  | a :: l, [], _, h, _ => h.elim
theorem Wk.agg {l m : List AV} (h : Wks l m) : Wk (.agg l) (.agg m) := fun c v r => by
  cases r with | agg _ vs r => exact .agg _ _ (h.run r)
theorem Wk.fn {f : Fn} {a b a' b' : List AV} (h : Wks a a') (g : Wks b b') : Wk (.fn f a b) (.fn f a' b') := fun c v r => by
  cases r with | fn _ _ _ vfs vcs r1 r2 => exact .fn _ _ _ _ _ (h.run r1) (g.run r2)
theorem Wk.tup {l m : List AV} (h : Wks l m) : Wk (.tup l) (.tup m) := fun c v r => by
  cases r with | tup _ vs r => exact .tup _ _ (h.run r)

/-- fewer slots, or weaker -/
def Sub (t : Sl) : Sl → Prop
  | [] => True
  | (i, v) :: r => Wk (look t i) v ∧ Sub t r
theorem Sub.look {t : Sl} : ∀ {r : Sl}, Sub t r → ∀ i, Wk (look t i) (look r i)
  | [], _, i => Wk.any _
  | (j, v) :: r, h, i => by
    rw [look_cons]
    cases e : Nat.beq j i with
    | true => rw [cond_true]; have := Nat.eq_of_beq_eq_true e; subst this; exact h.1
    | false => rw [cond_false]; exact Sub.look h.2 i

section
variable {P : Program} {nb m : Nat} {Q : QT} {t : Sl} {s : St}
theorem V_of_W {code : Code} (h : statCode dstatic m code = true → W P m code (Lq Q) (look t) s) : V P nb m code Q t s :=
  fun hs ds cb c w a hle _ hI ha => wp_mono (h hs ds c w a hI ha) fun e a w g => lift_le hle g
theorem V.mono {code : Code} {Q' : QT} (h : V P nb m code Q t s) (hq : ∀ e t s, Q e t s → Q' e t s) : V P nb m code Q' t s :=
  fun hs ds cb c w a hle hb hI ha => wp_mono (h hs ds cb c w a hle hb hI ha) fun e a w ⟨c', tm, s, h1, h2, h3, x, u, h4, h5, h6⟩ => ⟨c', tm, s, h1, h2, h3, x, u, h4, h5, hq _ _ _ h6⟩
theorem V_weak {code : Code} (t' : Sl) (h : V P nb m code Q t' s) (hs : Sub t t') : V P nb m code Q t s :=
  fun hst ds cb c w a hle hb hI ha => h hst ds cb c w a hle hb hI ⟨ha.defers, ha.size, fun i => hs.look i c _ (ha.get i)⟩
theorem V_skip (h : Q .normal t s) : V P nb m .skip Q t s := V_of_W fun _ => W_skip ⟨.normal, t, rfl, rfl, h⟩
theorem V_exit {id : Nat} (h : Q (.exit id) t s) : V P nb m (.exit id) Q t s := V_of_W fun _ => W_exit ⟨.exit id, t, rfl, rfl, h⟩
theorem V_ret (h : Q .ret t s) : V P nb m .ret Q t s := V_of_W fun _ => W_ret ⟨.ret, t, rfl, rfl, h⟩
theorem V_seq {x y : Code} (h : V P nb m x (Vthen (V P nb m y Q) Q) t s) : V P nb m (.seq x y) Q t s := by
  intro hs ds cb c w a hle hb hI ha
  simp only [statCode, Bool.and_eq_true] at hs
  refine wp_seq (wp_mono (h hs.1 ds cb c w a hle hb hI ha) ?_)
  rintro e a w ⟨c', tm, s, h1, h2, h3, x', u, rfl, rfl, h4⟩
  cases x' with
  | normal => exact h4 hs.2 ds cb c' w a h1 hb h2 h3
  | exit id => exact ⟨c', _, s, h1, h2, h3, .exit id, u, rfl, rfl, h4⟩
  | ret => exact ⟨c', _, s, h1, h2, h3, .ret, u, rfl, rfl, h4⟩
theorem V_cond {co : Operand} {x y : Code} (h : condP (opv (look t) co) (V P nb m x Q t s) (V P nb m y Q t s)) : V P nb m (.cond co x y) Q t s := by
  intro hs ds cb c w a hle hb hI ha
  simp only [statCode, Bool.and_eq_true] at hs
  have hv := ha.eval co
  cases hx : opv (look t) co with
  | bool b =>
    rw [hx] at h hv
    generalize hy : a.eval co = v at hv
    cases hv
    cases b with
    | true => exact wp_cond hy (h.1 rfl hs.1 ds cb c w a hle hb hI ha)
    | false => exact wp_cond hy (h.2 rfl hs.2 ds cb c w a hle hb hI ha)
  | _ => rw [hx] at h; exact h.elim
theorem V_block {id : Nat} {x : Code} (h : V P nb m x (Vblock id Q) t s) : V P nb m (.block id x) Q t s := by
  intro hs ds cb c w a hle hb hI ha
  refine wp_block (wp_mono (h hs ds cb c w a hle hb hI ha) ?_)
  rintro e a w ⟨c', tm, s, h1, h2, h3, x', u, rfl, rfl, h4⟩
  cases x' with
  | normal => exact ⟨c', _, s, h1, h2, h3, .normal, u, rfl, rfl, h4⟩
  | exit j =>
    simp only [Ex.to, Exit.inBlock]
    by_cases e : j = id
    · rw [if_pos e]; exact ⟨c', _, s, h1, h2, h3, .normal, u, rfl, rfl, h4.1 e⟩
    · rw [if_neg e]; exact ⟨c', _, s, h1, h2, h3, .exit j, u, rfl, rfl, h4.2 e⟩
  | ret => exact ⟨c', _, s, h1, h2, h3, .ret, u, rfl, rfl, h4⟩
/-- n rounds at most -/
def Vr (P : Program) (nb m : Nat) (x : Code) (Q : QT) : Nat → Sl → St → Prop
  | 0, _, _ => False
  | n + 1, t, s => V P nb m x (Vthen (Vr P nb m x Q n) Q) t s
theorem Vr.run {x : Code} (hs : statCode dstatic m x = true) (ds : List Deferred) (cb : Ctx) (hb : Bd cb nb) : ∀ (n : Nat) (t : Sl) (s : St) (c : Ctx) (w : World) (a : Act), Vr P nb m x Q n t s → cb.le c → Inv c w s → ARep ds c m (look t) a → Code.rounds P x (lift ds cb m (Lq Q)) n a w
  | 0, _, _, _, _, _, h, _, _, _ => h.elim
  | n + 1, t, s, c, w, a, h, hle, hI, ha => by
    refine wp_mono (h hs ds cb c w a hle hb hI ha) ?_
    rintro e a w ⟨c', tm, s, h1, h2, h3, x', u, rfl, rfl, h4⟩
    cases x' with
    | normal => exact Vr.run hs ds cb hb n u s c' w a h4 h1 h2 h3
    | exit id => exact ⟨c', _, s, h1, h2, h3, .exit id, u, rfl, rfl, h4⟩
    | ret => exact ⟨c', _, s, h1, h2, h3, .ret, u, rfl, rfl, h4⟩
theorem V_loop {x : Code} (n : Nat) (h : Vr P nb m x Q n t s) : V P nb m (.loop x) Q t s :=
  fun hs ds cb c w a hle hb hI ha => wp_loop_rounds n (Vr.run (show statCode dstatic m x = true from hs) ds cb hb n t s c w a h hle hI ha)
end

/-- is it a call of a Go function? -/
def callOf : Op → Option Call
  | .call c => (match c.callee with | .value _ => some c | _ => none)
  | _ => none
noncomputable def gSel (ops : Array Oper) (t : Sl) (j : Nat) : AV := match (ops[j]?).bind (·.dst) with
  | some d => look t d
  | none => .any
inductive PR where
  | done (t : Sl) (s : St)
  | call (d : Option Nat) (l : List Oper) (t : Sl) (f : FuncId) (args : List AV) (s : St)
  | stuck
noncomputable def pops (T : Nat → Option TI) (ops : Array Oper) : List Oper → Sl → St → PR
  | [], t, s => .done t s
  | o :: l, t, s => match (match o.guard with | none => AV.bool true | some (j, want) => match gSel ops t j with | .bool b => .bool (match want with | true => b | false => !b) | x => .any) with
    | .bool true => (match callOf o.op with
      | some ca => (match acallee (look t) ca with | some (f, args) => .call o.dst l t f args s | none => .stuck)
      | none => (match aop T (opv (look t)) s o.op with | some (v, s') => pops T ops l (putF o.dst v t) s' | none => .stuck))
    | .bool false => pops T ops l (putF o.dst .any t) s
    | _ => .stuck

/-- the parts of one step, for rewriting -/
noncomputable def popR (T : Nat → Option TI) (ops : Array Oper) (r : Option (AV × St)) (d : Option Nat) (l : List Oper) (t : Sl) : PR := match r with | some (v, s') => pops T ops l (putF d v t) s' | none => .stuck
noncomputable def popC (T : Nat → Option TI) (ops : Array Oper) (r : Option (FuncId × List AV)) (d : Option Nat) (l : List Oper) (t : Sl) (s : St) : PR := match r with | some (f, args) => .call d l t f args s | none => .stuck
noncomputable def popK (T : Nat → Option TI) (ops : Array Oper) (c : Option Call) (o : Oper) (l : List Oper) (t : Sl) (s : St) : PR := match c with
  | some ca => popC T ops (acallee (look t) ca) o.dst l t s
  | none => popR T ops (aop T (opv (look t)) s o.op) o.dst l t
noncomputable def popG (T : Nat → Option TI) (ops : Array Oper) (g : AV) (o : Oper) (l : List Oper) (t : Sl) (s : St) : PR := match g with
  | .bool true => popK T ops (callOf o.op) o l t s
  | .bool false => pops T ops l (putF o.dst .any t) s
  | _ => .stuck
noncomputable def gWant (x : AV) (want : Bool) : AV := match x with | .bool b => .bool (match want with | true => b | false => !b) | x => .any
noncomputable def gVal (ops : Array Oper) (t : Sl) : Option (Nat × Bool) → AV
  | none => .bool true
  | some (j, want) => gWant (gSel ops t j) want
section
variable (T : Nat → Option TI) (ops : Array Oper) (o : Oper) (l : List Oper) (t : Sl) (s : St) (d : Option Nat)
theorem pops_nil : pops T ops [] t s = .done t s := rfl
theorem pops_cons : pops T ops (o :: l) t s = popG T ops (gVal ops t o.guard) o l t s := by
  unfold popG popK popR popC gVal gWant
  rw [pops]
theorem popG_true : popG T ops (.bool true) o l t s = popK T ops (callOf o.op) o l t s := rfl
theorem popG_false : popG T ops (.bool false) o l t s = pops T ops l (putF o.dst .any t) s := rfl
theorem popK_some (ca : Call) : popK T ops (some ca) o l t s = popC T ops (acallee (look t) ca) o.dst l t s := rfl
theorem popK_none : popK T ops none o l t s = popR T ops (aop T (opv (look t)) s o.op) o.dst l t := rfl
theorem popC_some (f : FuncId) (args : List AV) : popC T ops (some (f, args)) d l t s = .call d l t f args s := rfl
theorem popR_some (v : AV) (s' : St) : popR T ops (some (v, s')) d l t = pops T ops l (putF d v t) s' := rfl
theorem gVal_none : gVal ops t none = .bool true := rfl
theorem gVal_some (j : Nat) (want : Bool) : gVal ops t (some (j, want)) = gWant (gSel ops t j) want := rfl
theorem gWant_true (b : Bool) : gWant (.bool b) true = .bool b := rfl
theorem gWant_false (b : Bool) : gWant (.bool b) false = .bool (!b) := rfl
end

section
variable {P : Program} {T : Nat → Option TI} {m : Nat} {ops : Array Oper} {Q : QT} {t : Sl} {s : St}
/-- the rest of a region that goes in order -/
def WL (P : Program) (m : Nat) (ops : Array Oper) (Q : QT) (l : List Oper) (t : Sl) (s : St) : Prop :=
  ∀ n, (∀ j, j < l.length → ops[n + j]? = l[j]?) → (∀ o ∈ l, fitsDst m o.dst = true) → WOps P m ops (Lq Q) (List.range' n l.length) (look t) s
def CallP (P : Program) (m : Nat) (ops : Array Oper) (Q : QT) (d : Option Nat) (l : List Oper) (t : Sl) (f : FuncId) (args : List AV) (s : St) : Prop :=
  ∃ v s', Det P f args s v s' ∧ WL P m ops Q l (putF d v t) s'
def PRP (P : Program) (m : Nat) (ops : Array Oper) (Q : QT) : PR → Prop
  | .done t s => Q .normal t s
  | .call d l t f args s => CallP P m ops Q d l t f args s
  | .stuck => False
theorem gVal_of (g : Option (Nat × Bool)) {b : Bool} (h : gVal ops t g = .bool b) : awanted ops (look t) g = some b := by
  cases g with
  | none => cases h; rfl
  | some q =>
    obtain ⟨j, want⟩ := q
    simp only [gVal, gSel, gWant] at h
    unfold awanted
    cases hd : (ops[j]?).bind (·.dst) with
    | none => rw [hd] at h; cases h
    | some d =>
      rw [hd] at h
      simp only at h ⊢
      cases hx : look t d with
      | bool c => rw [hx] at h; simp only [AV.bool.injEq] at h; subst h; simp only [hd, hx]; cases c <;> cases want <;> rfl
      | _ => rw [hx] at h; cases h
theorem pops_sound (hT : TOK P T) : ∀ (l : List Oper) (t : Sl) (s : St), PRP P m ops Q (pops T ops l t s) → WL P m ops Q l t s
  | [], t, s, h => fun n _ _ => WOps_nil ⟨.normal, t, rfl, rfl, h⟩
  | o :: l, t, s, h => by
    intro n hn hf
    have h0 : ops[n]? = some o := by simpa using hn 0 (by simp)
    have ho' : ∀ j, j < l.length → ops[n + 1 + j]? = l[j]? := fun j hj => by
      have := hn (j + 1) (by simpa using hj)
      rw [show n + 1 + j = n + (j + 1) by omega, this]; simp
    have hf' : ∀ x ∈ l, fitsDst m x.dst = true := fun x hx => hf x (List.mem_cons_of_mem _ hx)
    have hd := hf o (List.mem_cons_self ..)
    rw [pops_cons] at h
    show WOps P m ops (Lq Q) (n :: List.range' (n + 1) l.length) (look t) s
    cases hg : gVal ops t o.guard with
    | bool b =>
      have hw := gVal_of o.guard hg
      rw [hg] at h
      cases b with
      | false =>
        rw [popG_false] at h
        have := pops_sound hT l _ s h (n + 1) ho' hf'
        rw [look_putF] at this
        exact WOps_skip h0 hw hd this
      | true =>
        rw [popG_true] at h
        cases hc : callOf o.op with
        | none =>
          rw [hc, popK_none] at h
          cases hop : aop T (opv (look t)) s o.op with
          | none => rw [hop] at h; exact h.elim
          | some r =>
            obtain ⟨v, s'⟩ := r
            rw [hop, popR_some] at h
            have := pops_sound hT l _ s' h (n + 1) ho' hf'
            rw [look_putF] at this
            exact WOps_op hT h0 hw hd hop this
        | some ca =>
          rw [hc, popK_some] at h
          have hop : o.op = .call ca := by
            obtain ⟨dst, op, ty, pos, after, guard⟩ := o
            cases op <;> simp only [callOf] at hc <;> first | (cases hc; done) | skip
            split at hc
            · cases hc; rfl
            · cases hc
          cases hac : acallee (look t) ca with
          | none => rw [hac] at h; exact h.elim
          | some q =>
            obtain ⟨f, args⟩ := q
            rw [hac, popC_some] at h
            obtain ⟨v, s', ⟨hb, hcalls⟩, hl⟩ := h
            refine WOps_call h0 hw hd hop hac hb (hcalls.mono fun r s'' e => ?_)
            obtain ⟨rfl, rfl⟩ := e
            have := hl (n + 1) ho' hf'
            rw [look_putF] at this
            exact this
    | _ => rw [hg] at h; exact h.elim
theorem V_region (hT : TOK P T) {nb id : Nat} {ops : Array Oper} (h : PRP P m ops Q (pops T ops ops.toList t s)) : V P nb m (.region id ops false) Q t s := by
  refine V_of_W fun hs => ?_
  simp only [statCode, Bool.and_eq_true] at hs
  refine W_region ?_
  have := pops_sound (m := m) hT ops.toList t s h 0 (fun j _ => by simp) (statOps_mem hs.1)
  rwa [Array.length_toList, ← List.range_eq_range'] at this
theorem WL_go (hT : TOK P T) {l : List Oper} (h : PRP P m ops Q (pops T ops l t s)) : WL P m ops Q l t s := pops_sound hT l t s h
/-- the end of a call: its contract -/
theorem CallP_of {d : Option Nat} {l : List Oper} {f : FuncId} {args args' : List AV} {v : AV} {s' : St} (h : Det P f args' s v s') (hw : Wks args args') (hl : WL P m ops Q l (putF d v t) s') : CallP P m ops Q d l t f args s :=
  ⟨v, s', ⟨h.1, fun c w vs hI hv => h.2 c w vs hI (hw.run hv)⟩, hl⟩
end

/-- what a body's end must be -/
def EndQ (T : Nat → Option TI) (res : List ResultVar) (s0 : St) (v : AV) (s' : St) : QT := fun e t s1 =>
  (match e with | .exit _ => False | _ => True) ∧ ∃ l, aresults T (look t) s1 res = some l ∧ Wk (oneOf l) v ∧ ((s'.n = s1.n ∧ s'.objs = s1.objs) ∨ (s'.n = s0.n ∧ Bel s0.n v ∧ ∀ i x, aget s'.objs i = some x → i < s0.n ∧ OBel s0.n x ∧ aget s1.objs i = some x))
theorem Det_of_V {P : Program} {T : Nat → Option TI} (hT : TOK P T) {f : FuncId} {fn : Func} {code : Code} (hf : P.funcs[f]? = some fn) (hname : (fn.name == "runtime.NumGoroutine") = false) (hb : fn.body = some code) (hstat : statCode dstatic fn.ntmps code = true)
    {args : List AV} (hl : args.length ≤ fn.ntmps) {s s' : St} {v : AV} (h : V P s.n fn.ntmps code (EndQ T fn.results.toList s v s') (initF args 0) s) : Det P f args s v s' := by
  refine ⟨⟨fn, hf, hname, by rw [hb]; rfl⟩, fun c w vs hI hv => ?_⟩
  have hlen := VRs.length hv
  simp only [Array.length_toList] at hlen
  refine calls_of_wp hf hb (wp_mono (h hstat [] c c w { tmps := vs ++ Array.replicate (fn.ntmps - vs.size) undef, defers := [] } (Ctx.le.refl c) ⟨hI.ids_lt, hI.tks_lt, hI.pnd⟩ hI ⟨rfl, by simp; omega, fun t => ?_⟩) ?_)
  · rw [look_init]
    unfold tm0
    cases hx : args[t]? with
    | none => exact .any _
    | some x =>
      obtain ⟨v, g1, g2⟩ := VRs.get hv t x hx
      have hlt : t < vs.size := by have := (List.getElem?_eq_some_iff.1 hx).1; omega
      have g1' : vs[t]? = some v := by simpa using g1
      have : (vs ++ Array.replicate (fn.ntmps - vs.size) undef).getD t undef = v := by
        rw [Array.getD_eq_getD_getElem?, Array.getElem?_append_left hlt, g1']; rfl
      rw [this]; exact g2
  · rintro e a w1 ⟨c1, tm, s1, h1, h2, h3, x, t1, rfl, rfl, h4, l, h5, h6, h7⟩
    obtain ⟨u, k1, k2⟩ := results_sound hT h2 h3 h5
    have k3 := h6 c1 u k2
    have fin : ∃ c', c.le c' ∧ Inv c' w1 s' ∧ VR c' v u := by
      rcases h7 with ⟨g1, g2⟩ | ⟨g1, g2, g3⟩
      · refine ⟨c1, h1, ?_, k3⟩
        obtain ⟨n', o', e'⟩ := s'
        obtain ⟨n1, o1, e1⟩ := s1
        simp only at g1 g2
        subst g1 g2
        exact h2.lo e'
      · have hcut := h2.gc s.n s'.objs s'.lo g3
        refine ⟨c1.cut s.n, Ctx.le_cut h1 hI.ids_lt hI.tks_lt hI.pnd, ?_, k3.cut g2⟩
        obtain ⟨n', o', e'⟩ := s'
        simp only at g1
        subst g1
        exact hcut
    obtain ⟨c', f1, f2, f3⟩ := fin
    cases x with
    | normal => exact ⟨h3.defers, u, k1, u, c', _, s', rfl, f1, f2, f3, rfl, rfl⟩
    | ret => exact ⟨h3.defers, u, k1, u, c', _, s', rfl, f1, f2, f3, rfl, rfl⟩
    | exit id => exact h4.elim

/-- values without ids stand for the same under any bindings -/
theorem Rep.noid {c c' : Ctx} (hf : ∀ b o v, c.f b o = some v → c'.f b o = some v) {t : Tgt} (r : Rep c t) : TBel 0 t → Rep c' t := by
  induction r with
  | any v => exact fun _ => .any v
  | bool b => exact fun _ => .bool b
  | int k n => exact fun _ => .int k n
  | str s => exact fun _ => .str s
  | nilptr => exact fun _ => .nilptr
  | ptr id off b h1 => intro h; cases h with | ptr _ _ h2 => exact absurd h2 (Nat.not_lt_zero _)
  | fp x b o hfl _ ih => exact fun _ => .fp x b o hfl (ih (flat_bel 0 hfl))
  | slnil k h1 => exact fun _ => .slnil k h1
  | sle k a cap h1 => exact fun _ => .sle k a cap h1
  | sl k xs b o cap sz h1 _ h3 h4 h5 ih =>
    intro h
    cases h with
    | sl _ _ h2 => exact .sl k xs b o cap sz h1 (ih trivial) h3 h4 fun t e => absurd ((h2 t e).resolve_left (h4.2 t e)) (Nat.not_lt_zero _)
  | nilmap => exact fun _ => .nilmap
  | map id b h1 => intro h; cases h with | map _ h2 => exact absurd h2 (Nat.not_lt_zero _)
  | fn f fs cs vfs vcs _ _ i1 i2 => intro h; cases h with | fn _ _ _ h1 h2 => exact .fn f fs cs vfs vcs (i1 h1) (i2 h2)
  | nilfn => exact fun _ => .nilfn
  | ifc t a v _ i1 => intro h; cases h with | ifc _ _ h1 => exact .ifc t a v (i1 h1)
  | nilifc => exact fun _ => .nilifc
  | rsv t sz b cap h1 => intro h; cases h with | rsv _ _ h2 => exact absurd h2 (Nat.not_lt_zero _)
  | osl id k cap b h1 h3 => intro h; cases h with | osl _ _ _ h2 => exact absurd h2 (Nat.not_lt_zero _)
  | agg l vs _ i1 => intro h; cases h with | agg _ h1 => exact .agg l vs (i1 h1)
  | tup l vs _ i1 => intro h; cases h with | tup _ h1 => exact .tup l vs (i1 h1)
  | cnil b o => exact fun _ => .cnil b o
  | ccons x l b o v h1 _ _ i1 i2 => exact fun h => .ccons x l b o v (hf _ _ _ h1) (i1 (h x (by simp))) (i2 fun y hy => h y (by simp [hy]))
  | vnil => exact fun _ => .vnil
  | vcons x l v vs _ _ i1 i2 => exact fun h => .vcons x l v vs (i1 (h x (by simp))) (i2 fun y hy => h y (by simp [hy]))
  | enil sz b o => exact fun _ => .enil sz b o
  | econs sz x l b o h1 h2 _ _ i1 i2 => exact fun _ => .econs sz x l b o h1 h2 (i1 (flat_bel 0 h2)) (i2 trivial)

/-- a call that is shown from nothing holds beside whatever else there is -/
theorem pure_of {P : Program} {f : FuncId} {args : List AV} {v : AV} (ha : ∀ a ∈ args, Bel 0 a) (hv : Bel 0 v) (h : Det P f args ⟨0, [], 0⟩ v ⟨0, [], 0⟩) : Pure P f args v := by
  intro s
  refine ⟨h.1, fun c w vs hI hvs => ?_⟩
  let c0 : Ctx := { keep := fun b => b < w.heap.size, heap0 := fun b => (w.heap[b]?, c.f b), os := w.os, out := w.output, ι := fun _ => none, τ := fun _ => none, f := c.f, pend := fun _ => false }
  have hI0 : Inv c0 w ⟨0, [], 0⟩ :=
    ⟨fun i h => (by cases h), fun i x h => (by cases h), fun b h => h, fun b _ => ⟨rfl, fun _ => rfl⟩, rfl, rfl, hI.fro, fun i b h => (by cases h), fun i x b h => (by cases h), fun i j b h => (by cases h), fun i x b h => (by cases h),
      fun t b sz cap h => (by cases h), fun t t' b sz cap sz' cap' len len' h => (by cases h), fun t len b sz cap h => (by cases h)⟩
  have hv0 : VRs c0 args vs.toList := Rep.noid (c := c) (c' := c0) (fun _ _ _ h => h) hvs ha
  refine (h.2 c0 w vs hI0 hv0).mono ?_
  rintro e w' ⟨u, c1, r, s1, rfl, hle, hI1, hr, rfl, rfl⟩
  have hsz : ∀ b, b < w.heap.size → b < w'.heap.size := fun b hb => hI1.base_le b (by rw [hle.base]; exact hb)
  have hheap : ∀ b, b < w.heap.size → w'.heap[b]? = w.heap[b]? ∧ ∀ o, c1.f b o = c.f b o := fun b hb => by
    have := hI1.old b (by rw [hle.base]; exact hb)
    rw [hle.heap0] at this
    exact this
  let c' : Ctx := { c with f := c1.f }
  have hle' : c.le c' := ⟨rfl, rfl, rfl, rfl, fun _ _ h => h, fun _ _ h => h, fun b o v h => hle.f b o v h, fun _ h => ⟨h, rfl⟩⟩
  refine ⟨u, c', r, s, rfl, hle', ?_, Rep.noid (c := c1) (c' := c') (fun _ _ _ h => h) hr hv, rfl, rfl⟩
  refine ⟨hI.pnd, hI.bel, fun b hb => hsz b (hI.base_le b hb), fun b hb => ?_, ?_, ?_, hI1.fro, fun i b hi => ?_, fun i x b hx hl hi o => ?_, hI.inj, fun i x b hx hi => ?_, fun t b sz cap ht => ?_, hI.two, fun t len b sz cap hl ht => ?_⟩
  · obtain ⟨g1, g2⟩ := hheap b (hI.base_le b hb)
    exact ⟨g1.trans (hI.old b hb).1, fun o => (g2 o).trans ((hI.old b hb).2 o)⟩
  · exact (hI1.os.trans hle.os).trans hI.os
  · exact (hI1.out.trans hle.out).trans hI.out
  · have := hI.ids i b hi; exact ⟨this.1, this.2.1, hsz b this.2.2⟩
  · exact ((hheap b (hI.ids i b hi).2.2).2 o).trans (hI.free i x b hx hl hi o)
  · exact (hI.obj i x b hx hi).mono hle' (hheap b (hI.ids i b hi).2.2).1
  · have := hI.tks t b sz cap ht; exact ⟨this.1, this.2.1, hsz b this.2.2.1, this.2.2.2⟩
  · obtain ⟨k1, k2, ⟨us, el, k3, k4⟩, k5⟩ := hI.tok t len b sz cap hl ht
    have hb := (hI.tks t b sz cap ht).2.2.1
    exact ⟨k1, k2, ⟨us, el, (hheap b hb).1.trans k3, k4⟩, fun p hp => ((hheap b hb).2 p).trans (k5 p hp)⟩
end Go.Sy
