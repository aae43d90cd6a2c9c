/- Definitions: regions that draw their order, run in one order, with checks that no other order tells otherwise; no condition. -/
import Derived.Test.YtjfimhfnpbaicaaGreatDoorSy17
namespace Go.Sy
set_option linter.unusedSimpArgs false
set_option linter.unusedVariables false

/-- the operations that turn the state, or may -/
def isEff (o : Oper) : Bool :=
  match o.op with
  | .call c => (match c.callee with | .builtin .len | .builtin .max | .builtin .min => false | _ => true)
  | .move _ | .assign _ | .pick .. | .build .. | .buildSlice .. | .load .. | .nilCheck _ | .binOp .. | .unOp .. | .convert .. | .makeInterface .. | .makeFunc .. | .slice .. | .fieldAddr .. | .field .. | .indexAddr .. | .index .. | .lookup .. | .typeAssert .. | .extract .. => false
  | .alloc _ => false
  | _ => true
/-- the operations that look at no state -/
def isPure (op : Op) : Bool :=
  match op with
  | .move _ | .assign _ | .pick .. | .build .. | .buildSlice .. | .nilCheck _ | .binOp .. | .unOp .. | .convert .. | .makeInterface .. | .makeFunc .. | .slice .. | .fieldAddr .. | .field .. | .indexAddr .. | .index .. | .typeAssert .. | .extract .. => true
  | _ => false
def allocOf (o : Oper) : Option Nat := match o.op with | .alloc e => some e | _ => none

/-- the objects of the allocs, made ahead -/
def preAlloc (T : Nat → Option TI) : List Oper → St → Option St
  | [], s => some s
  | o :: r, s => match allocOf o with
    | some e => (match T e with | some ti => preAlloc T r (s.push (.cells ti.zero.cells)) | none => none)
    | none => preAlloc T r s

structure DSt where
  i : Nat
  next : Nat
  vals : Sl
  sts : List St    -- behind each effect, the last one first
  effs : List Nat  -- the last one first
  ids : List (Nat × Nat)
  cur : St

noncomputable def oneOp (T : Nat → Option TI) (call : CallC) (tm : Nat → AV) (s : St) (op : Op) : Fi :=
  match op with
  | .call c => (match c.callee with
    | .builtin _ => aop T (opv tm) s (.call c)
    | _ => (match acallee tm c with | some (f, args) => call f args s (fun v s => some (v, s)) | none => none))
  | op => aop T (opv tm) s op

/-- a guard's value is a bool -/
def gboolB (vals : Nat → AV) (o : Oper) : Bool :=
  match o.guard with
  | none => true
  | some (j, _) => match vals j with | .bool _ => true | _ => false
noncomputable def dstep (T : Nat → Option TI) (call : CallC) (ops : Array Oper) (tm : Nat → AV) (o : Oper) (d : DSt) : Option DSt :=
  cond (gboolB (look d.vals) o) (cond (wantB (look d.vals) o)
    (match allocOf o with
      | some _ => some { i := d.i + 1, next := d.next + 1, vals := (d.i, .ptr d.next 0) :: d.vals, sts := d.sts, effs := d.effs, ids := (d.i, d.next) :: d.ids, cur := d.cur }
      | none => (match oneOp T call (view ops o (look d.vals) tm) d.cur o.op with
        | some (v, s') => cond (isEff o)
            (some { i := d.i + 1, next := d.next, vals := (d.i, v) :: d.vals, sts := s' :: d.sts, effs := d.i :: d.effs, ids := d.ids, cur := s' })
            (some { i := d.i + 1, next := d.next, vals := (d.i, v) :: d.vals, sts := d.sts, effs := d.effs, ids := d.ids, cur := d.cur })
        | none => none))
    (match allocOf o with
      | some _ => none
      | none => cond (isEff o)
        (some { i := d.i + 1, next := d.next, vals := (d.i, .any) :: d.vals, sts := d.cur :: d.sts, effs := d.i :: d.effs, ids := d.ids, cur := d.cur })
        (some { i := d.i + 1, next := d.next, vals := (d.i, .any) :: d.vals, sts := d.sts, effs := d.effs, ids := d.ids, cur := d.cur }))) none
noncomputable def dpass (T : Nat → Option TI) (call : CallC) (ops : Array Oper) (tm : Nat → AV) : List Oper → DSt → Option DSt
  | [], d => some d
  | o :: r, d => match dstep T call ops tm o d with
    | some d => dpass T call ops tm r d
    | none => none

def numbered : Nat → List Oper → List (Nat × Oper)
  | _, [] => []
  | i, o :: r => (i, o) :: numbered (i + 1) r
def fresh (d : Nat) : List (Nat × Oper) → Bool
  | [] => true
  | (_, o) :: r => (match o.dst with | some d' => !(Nat.beq d d') | none => true) && fresh d r
def dstsOK : List (Nat × Oper) → Bool
  | [] => true
  | (_, o) :: r => (match o.dst with | some d => fresh d r | none => true) && dstsOK r
def opndOK (i : Nat) (o : Oper) (t : Nat) : List (Nat × Oper) → Bool
  | [] => true
  | (j, o') :: r => (match o'.dst with | some d => cond (Nat.beq d t) (preB o j || preB o' i || Nat.beq i j) true | none => true) && opndOK i o t r
def edgesOK (i : Nat) (o : Oper) : Bool := o.after.toList.all fun e => cond (Region.binds .any e) (Nat.blt e.on i) true
def guardOK (ops : Array Oper) (o : Oper) : Bool :=
  match o.guard with
  | none => true
  | some (j, _) => preB o j && (match (ops[j]?).bind (·.dst) with | some _ => true | none => false)
def effsOf : List (Nat × Oper) → List (Nat × Oper)
  | [] => []
  | (i, o) :: r => cond (isEff o) ((i, o) :: effsOf r) (effsOf r)
def preB2 (ops : Array Oper) (o : Oper) (i : Nat) : Bool := preB o i || o.after.toList.any fun e => Region.binds .any e && (match ops[e.on]? with | some o' => preB o' i | none => false)
def ordOK (ops : Array Oper) : List (Nat × Oper) → Bool
  | (i, _) :: (j, o) :: r => preB2 ops o i && ordOK ops ((j, o) :: r)
  | _ => true
/-- what hangs on the text alone -/
def dstatic (ops : Array Oper) : Bool :=
  let l := numbered 0 ops.toList
  dstsOK l && l.all (fun q => edgesOK q.1 q.2 && guardOK ops q.2 && (slotsOf q.2.op.operands.toList).all fun t => opndOK q.1 q.2 t l) && ordOK ops (effsOf l)

/-- may op i stand behind so many effects? -/
def admits (o : Oper) (i p : Nat) : Nat → List (Nat × Oper) → Bool
  | _, [] => true
  | q, (j, oj) :: r => cond (preB o j) (Nat.blt q p) true && cond (preB oj i) (Nat.ble p q) true && admits o i p (q + 1) r
noncomputable def sameAt (T : Nat → Option TI) (ops : Array Oper) (tm vals : Nat → AV) (effs : List (Nat × Oper)) (i : Nat) (o : Oper) : Nat → List St → Bool
  | _, [] => true
  | p, st :: r => cond (admits o i p 0 effs)
      (match allocOf o with
        | some e => (match T e, vals i with
          | some ti, .ptr id 0 => (match aget st.objs id with | some (.cells cs) => AV.beqs cs ti.zero.cells | _ => false)
          | _, _ => false)
        | none => (match aop T (opv (view ops o vals tm)) st o.op with | some (v, _) => AV.beq v (vals i) | none => false)) true && sameAt T ops tm vals effs i o (p + 1) r
noncomputable def dchecks (T : Nat → Option TI) (ops : Array Oper) (tm vals : Nat → AV) (effs : List (Nat × Oper)) (sts : List St) : List (Nat × Oper) → Bool
  | [] => true
  | (i, o) :: r => cond (isEff o || isPure o.op) true (cond (wantB vals o) (sameAt T ops tm vals effs i o 0 sts) true) && dchecks T ops tm vals effs sts r

noncomputable def putAll (vals : Nat → AV) : List (Nat × Oper) → Sl → Sl
  | [], t => t
  | (i, o) :: r, t => putAll vals r (putF o.dst (vals i) t)

noncomputable def drawF : DrawF := fun E m ops t s k =>
  match preAlloc E.T ops.toList s with
  | none => none
  | some s0 => (match dpass E.T E.call ops (look t) ops.toList { i := 0, next := s.n, vals := [], sts := [s0], effs := [], ids := [], cur := s0 } with
    | none => none
    | some d => cond (dchecks E.T ops (look t) (look d.vals) (effsOf (numbered 0 ops.toList)) d.sts.reverse (numbered 0 ops.toList)) (k (putAll (look d.vals) (numbered 0 ops.toList) t) d.cur) none)
end Go.Sy
