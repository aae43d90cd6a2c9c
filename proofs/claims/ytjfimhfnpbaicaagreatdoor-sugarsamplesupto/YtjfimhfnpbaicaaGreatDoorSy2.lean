/- Definitions: a table of types, and what one operation does to abstract values and states; no condition. -/
import Derived.Test.YtjfimhfnpbaicaaGreatDoorSy1
namespace Go.Sy

inductive TK where
  | bool | int (k : IntKind) | str | slice (e : Nat) | struct (fs : List (Nat × Nat)) | arr (n e : Nat) | map (k e : Nat) | ptr (e : Nat) | func | ifc | tup | oth
structure TI where
  k : TK
  size : Nat
  bytes : Nat
  zero : AV
  eq : List Nat   -- of a struct that may be compared cell by cell: its cells' kinds (0 a number, 1 a text, 2 a bool)
def TI.isAgg (t : TI) : Bool := match t.k with | .struct _ | .arr _ _ => true | _ => false

/-- a value that holds no address, of one cell -/
def av1 : Value → AV
  | .bool b => .bool b
  | .int k n => .int k n
  | .string s => .str s.data.toList
  | .pointer none => .nilptr
  | .slice none 0 0 => .sl .nil []
  | .map none => .nilmap
  | .func f a b => if a.isEmpty && b.isEmpty then .fn f [] [] else .any
  | .nilFunc => .nilfn
  | .nilIface => .nilifc
  | _ => .any
def avOf : Value → AV
  | .agg cs => .agg (cs.toList.map av1)
  | .tuple cs => .tup (cs.toList.map av1)
  | .iface t v => .ifc t (av1 v)
  | v => av1 v

def opv (tm : Nat → AV) : Operand → AV
  | .tmp t => tm t
  | .const v => avOf v
  | .global _ => .any
  | .func f => .fn (.func f) [] []

def St.push (s : St) (x : AObj) : St := { n := s.n + 1, objs := (s.n, x) :: s.objs, lo := s.lo }
def least (a b : Nat) : Nat := cond (Nat.ble a b) a b
/-- an object turned -/
def St.put (s : St) (i : Nat) (x : AObj) : St := { n := s.n, objs := aset s.objs i x, lo := least s.lo i }

def wr (k : IntKind) (n : Int) : Int :=
  match k with
  | .i64 => if -9223372036854775808 ≤ n ∧ n < 9223372036854775808 then n else IntKind.wrap .i64 n
  | k => k.wrap n

/-- n cells from off on, as a value of a type -/
def AV.pickCells (agg : Bool) (size : Nat) (cs : List AV) : Option AV :=
  cond agg (let sub := cs.take size; cond (Nat.beq sub.length size) (some (.agg sub)) none)
    (match cs with | x :: _ => some x | [] => none)

def strBeq : List UInt8 → List UInt8 → Bool
  | [], [] => true
  | a :: x, b :: y => cond (Nat.beq a.toNat b.toNat) (strBeq x y) false
  | _, _ => false

def scalBeq : AV → AV → Option Bool
  | .bool a, .bool b => some (a == b)
  | .int k a, .int k' b => if k = k' then some (decide (a = b)) else none
  | .str a, .str b => some (strBeq a b)
  | _, _ => none
def kindBeq : Nat → AV → AV → Option Bool
  | 0, .int k a, .int k' b => if k = k' then some (decide (a = b)) else none
  | 1, .str a, .str b => some (strBeq a b)
  | 2, .bool a, .bool b => some (a == b)
  | _, _, _ => none
def scalsBeq : List Nat → List AV → List AV → Option Bool
  | [], [], [] => some true
  | k :: ks, x :: r, y :: q => match kindBeq k x y with
    | some true => scalsBeq ks r q
    | some false => some false
    | none => none
  | _, _, _ => none

/-- '==' of what is no number and no text -/
def eqOther (ti : TI) (lit : Bool) (x y : AV) : Option Bool :=
  match ti.k, x, y with
  | .bool, .bool a, .bool b => some (a == b)
  | .struct _, .agg a, .agg b => (match ti.eq with | [] => none | ks => scalsBeq ks a b)
  | .slice _, .sl .nil [], .sl .nil [] => some true
  | .slice _, .sl .nil [], .sl .non _ | .slice _, .sl .nil [], .sl .full _ | .slice _, .sl .nil [], .sl (.tok _) (_ :: _) => some false
  | .slice _, .sl .non _, .sl .nil [] | .slice _, .sl .full _, .sl .nil [] | .slice _, .sl (.tok _) (_ :: _), .sl .nil [] => some false
  | .ptr _, .nilptr, .nilptr => some true
  | .ptr _, .nilptr, .ptr _ _ | .ptr _, .ptr _ _, .nilptr | .ptr _, .nilptr, .fp _ | .ptr _, .fp _, .nilptr => some false
  | .map _ _, .nilmap, .nilmap => some true
  | .map _ _, .nilmap, .map _ | .map _ _, .map _, .nilmap => some false
  | .func, .nilfn, .nilfn => some true
  | .func, .nilfn, .fn .. | .func, .fn .., .nilfn => some false
  | .ifc, .nilifc, .nilifc => cond lit (some true) none
  | .ifc, .nilifc, .ifc .. | .ifc, .ifc .., .nilifc => some false
  | _, _, _ => none

def intBin (op : BinOp) (k : IntKind) (a b : Int) : Option AV :=
  match op with
  | .add => some (.int k (wr k (a + b)))
  | .sub => some (.int k (wr k (a - b)))
  | .mul => some (.int k (wr k (a * b)))
  | .quo => if b = 0 then none else some (.int k (wr k (a.tdiv b)))
  | .rem => if b = 0 then none else some (.int k (a.tmod b))
  | .eql => some (.bool (decide (a = b)))
  | .neq => some (.bool (!decide (a = b)))
  | .lss => some (.bool (decide (a < b)))
  | .leq => some (.bool (decide (a ≤ b)))
  | .gtr => some (.bool (decide (b < a)))
  | .geq => some (.bool (decide (b ≤ a)))
  | _ => none

def isLit : Operand → Bool
  | .const _ => true
  | _ => false

def abin (T : Nat → Option TI) (op : BinOp) (t : TypeId) (lit : Bool) (x y : AV) : Option AV :=
  match op, x, y with
  | .shl, .int k a, .int _ b => if b < 0 then none else some (.int k (wr k (a * 2 ^ (min b.toNat k.bits))))
  | .shl, _, _ | .shr, _, _ => none
  | op, .int k a, .int k' b => if k = k' then intBin op k a b else none
  | .add, .str a, .str b => cond (Nat.ble (a.length + b.length) 9223372036854775807) (some (.str (a ++ b))) none
  | .eql, .str a, .str b => some (.bool (strBeq a b))
  | .neq, .str a, .str b => some (.bool (!strBeq a b))
  | .eql, x, y => match T t with
    | some ti => (match eqOther ti lit x y with | some b => some (.bool b) | none => none)
    | none => none
  | .neq, x, y => match T t with
    | some ti => (match eqOther ti lit x y with | some b => some (.bool (!b)) | none => none)
    | none => none
  | _, _, _ => none

/-- the parts of a struct or an array, put into the cells -/
def fillCells : List AV → List (Nat × AV) → Option (List AV)
  | cs, [] => some cs
  | cs, (off, v) :: r =>
    match v with
    | .any => none
    | v => cond (Nat.ble (off + v.cells.length) cs.length) (fillCells (cs.take off ++ v.cells ++ cs.drop (off + v.cells.length)) r) none
def placeParts (T : Nat → Option TI) (place : Nat → Option (Nat × Nat)) : List (Nat × AV) → Option (List (Nat × AV))
  | [] => some []
  | (i, v) :: r =>
    match place i with
    | none => none
    | some (off, size) => cond (Nat.beq v.cells.length size) (match placeParts T place r with | some q => some ((off, v) :: q) | none => none) none
def fieldAt (T : Nat → Option TI) (fs : List (Nat × Nat)) (i : Nat) : Option (Nat × Nat) :=
  match fs[i]? with
  | some (off, t) => (match T t with | some ti => some (off, ti.size) | none => none)
  | none => none

/-- the elements of a slice that is written out -/
def fillEls (size : Nat) : List AV → List (Nat × AV) → Option (List AV)
  | xs, [] => some xs
  | xs, (i, v) :: r =>
    match v with
    | .any => none
    | v => cond (Nat.blt i xs.length && Nat.beq v.cells.length size && v.erase.flat) (fillEls size (xs.set i v.erase) r) none

/-- an entry of a map, by key: only keys that are numbers of one kind or texts; none: not known -/
def mfind (kd : Nat) (k : AV) : List (AV × AV) → Option (Option AV)
  | [] => some none
  | (x, v) :: r => match kindBeq kd k x with
    | some true => some (some v)
    | some false => mfind kd k r
    | none => none
def mput (kd : Nat) (k v : AV) : List (AV × AV) → List (AV × AV)
  | [] => [(k, v)]
  | (x, u) :: r => match kindBeq kd k x with
    | some true => (k, v) :: r
    | _ => (x, u) :: mput kd k v r
def mlook (s : St) (kd : Nat) (m k : AV) : Option (Option AV) :=
  match m with
  | .nilmap => some none
  | .map id => (match aget s.objs id with | some (.map es) => mfind kd k es | _ => none)
  | _ => none
def noAssert : TK → Bool
  | .ifc | .oth => true
  | _ => false
def plainKey (ti : TI) : Option Nat := match ti.k with | .int _ => some 0 | .str => some 1 | _ => none

def sliceKind (k : SK) (len lo hi : Nat) : SK :=
  match k with
  | .nil => .nil
  | .fro => .fro
  | k => cond (Nat.beq lo 0 && Nat.beq hi len) k .non

def idxOf : AV → Option Nat
  | .int _ (.ofNat n) => some n
  | _ => none

def optIdx (d : Nat) : Option AV → Option Nat
  | none => some d
  | some v => idxOf v
/-- are the elements of so many cells? (the first one tells) -/
def elSize (n : Nat) : List AV → Bool
  | [] => true
  | x :: _ => Nat.beq x.cells.length n

def aslice (ti : TI) (esz : Nat) (x : AV) (lo hi mx : Option AV) : Option AV :=
  match optIdx 0 lo with
  | none => none
  | some l =>
  match ti.k, x with
  | .str, .str s =>
    (match mx, optIdx s.length hi with
    | none, some h => cond (Nat.ble l h && Nat.ble h s.length) (some (.str ((s.take h).drop l))) none
    | _, _ => none)
  | .slice _, .sl k xs =>
    (match mx with
    | none => (match optIdx xs.length hi with
      | some h => cond (Nat.ble l h && Nat.ble h xs.length && elSize esz xs) (some (.sl (sliceKind k xs.length l h) ((xs.take h).drop l))) none
      | none => none)
    | some m => (match idxOf m, hi.isSome, optIdx 0 hi, k with
      | some 0, true, some 0, .non => cond (Nat.beq l 0) (some (.sl .full [])) none
      | _, _, _, _ => none))
  | _, _ => none

def aappend (te : TI) (s : St) (x y : AV) : Option (AV × St) :=
  match x, y with
  | .rsv t sz, .sl _ (y :: ys) =>
    cond (Nat.ble ((y :: ys).length * te.bytes) 140737488355328 && Nat.blt 0 te.size && (y :: ys).all (fun y => y.cells.all AV.one) && Nat.ble (y :: ys).length 9223372036854775807 && elSize te.size (y :: ys) && Nat.beq sz te.size)
      (match aget s.objs t with
      | some (.tok len) => cond (Nat.beq len 0) (some (.sl (.tok s.n) (y :: ys), St.push (s.put t .dead) (.tok (y :: ys).length))) none
      | _ => none) none
  | .rsv t sz, .sl _ [] => some (.rsv t sz, s)
  | x, .sl _ [] => (match x with | .sl _ _ => some (x, s) | _ => none)
  | .sl k xs, .sl _ ys =>
    cond (Nat.ble ((xs.length + ys.length) * te.bytes) 140737488355328 && Nat.blt 0 te.size && ys.all (fun y => y.cells.all AV.one) && Nat.ble (xs.length + ys.length) 9223372036854775807 && elSize te.size xs && elSize te.size ys)
    (match k with
    | .nil | .full => some (.sl (.tok s.n) (xs ++ ys), s.push (.tok (xs.length + ys.length)))
    | .tok t => (match aget s.objs t with
      | some (.tok len) => cond (Nat.beq len xs.length) (some (.sl (.tok s.n) (xs ++ ys), St.push (s.put t .dead) (.tok (xs.length + ys.length)))) none
      | _ => none)
    | _ => none) none
  | _, _ => none

def intsMax (k : IntKind) : Int → List AV → Option AV
  | m, [] => some (.int k m)
  | m, .int k' n :: r => if k = k' then intsMax k (if n > m then n else m) r else none
  | _, _ => none
def intsMin (k : IntKind) : Int → List AV → Option AV
  | m, [] => some (.int k m)
  | m, .int k' n :: r => if k = k' then intsMin k (if n < m then n else m) r else none
  | _, _ => none

def abuiltin (T : Nat → Option TI) (b : Builtin) (ts : List TypeId) (args : List AV) (s : St) : Option (AV × St) :=
  match b, ts, args with
  | .len, t :: _, [x] => (match T t with
    | some ti => (match ti.k, x with
      | .str, .str l => some (.int .i64 l.length, s)
      | .slice _, .sl _ l => some (.int .i64 l.length, s)
      | .slice _, .osl _ n _ => some (.int .i64 n, s)
      | .arr n _, _ => some (.int .i64 n, s)
      | .map _ _, .nilmap => some (.int .i64 0, s)
      | .map _ _, .map id => (match aget s.objs id with | some (.map es) => some (.int .i64 es.length, s) | _ => none)
      | _, _ => none)
    | none => none)
  | .append, [t, t'], [x, y] => cond (Nat.beq t t') (match T t with
    | some ti => (match ti.k with
      | .slice e => (match T e with | some te => aappend te s x y | none => none)
      | _ => none)
    | none => none) none
  | .max, _, .int k n :: r => (match intsMax k n r with | some v => some (v, s) | none => none)
  | .min, _, .int k n :: r => (match intsMin k n r with | some v => some (v, s) | none => none)
  | _, _, _ => none

def aload (T : Nat → Option TI) (s : St) (t : TypeId) (a : AV) : Option AV :=
  match T t with
  | none => none
  | some ti =>
  match a with
  | .ptr id off => (match aget s.objs id with
    | some (.cells cs) => AV.pickCells ti.isAgg ti.size (cs.drop off)
    | _ => none)
  | .fp v => AV.pickCells ti.isAgg ti.size v.cells
  | _ => none

def aop (T : Nat → Option TI) (ev : Operand → AV) (s : St) : Op → Option (AV × St)
  | .move x | .assign x => some (ev x, s)
  | .pick c a b => match ev c with | .bool t => some (cond t (ev a) (ev b), s) | _ => none
  | .alloc e => match T e with | some ti => some (.ptr s.n 0, s.push (.cells ti.zero.cells)) | none => none
  | .box _ x => match ev x with | .any => none | v => some (.ptr s.n 0, s.push (.cells v.cells))
  | .build t parts => match T t with
    | some ti => (match ti.k with
      | .struct fs => (match cond (fs.all fun q => (T q.2).isSome) (placeParts T (fieldAt T fs) (parts.toList.map fun p => (p.1, ev p.2))) none with
        | some ps => (match fillCells ti.zero.cells ps with | some cs => some (.agg cs, s) | none => none)
        | none => none)
      | .arr _ e => (match T e with
        | some te => (match placeParts T (fun i => some (i * te.size, te.size)) (parts.toList.map fun p => (p.1, ev p.2)) with
          | some ps => (match fillCells ti.zero.cells ps with | some cs => some (.agg cs, s) | none => none)
          | none => none)
        | none => none)
      | _ => none)
    | none => none
  | .buildSlice t len parts => match T t with
    | some ti => (match ti.k with
      | .slice e => (match T e with
        | some te => cond (Nat.ble (len * te.size) 16777216 && te.zero.flat) (match fillEls te.size (List.replicate len te.zero) (parts.toList.map fun p => (p.1, ev p.2)) with
          | some xs => some (.sl .full xs, s)
          | none => none) none
        | none => none)
      | _ => none)
    | none => none
  | .load t a => match aload T s t (ev a) with | some v => some (v, s) | none => none
  | .store t a x => match T t, ev a, ev x with
    | some ti, .ptr id off, v => (match aget s.objs id with
      | some (.cells cs) => cond (Nat.beq v.cells.length ti.size && v.cells.all AV.one && Nat.ble (off + ti.size) cs.length)
          (some (.any, s.put id (.cells (cs.take off ++ v.cells ++ cs.drop (off + ti.size))))) none
      | _ => none)
    | _, _, _ => none
  | .nilCheck x => match ev x with
    | .ptr i o => some (.ptr i o, s)
    | .fp v => some (.fp v, s)
    | .fn (.func f) a b => some (.fn (.func f) a b, s)
    | _ => none
  | .binOp op t x y _ => match abin T op t (isLit x || isLit y) (ev x) (ev y) with | some v => some (v, s) | none => none
  | .unOp op _ x => match op, ev x with
    | .not, .bool b => some (.bool (!b), s)
    | .neg, .int k n => some (.int k (wr k (0 - n)), s)
    | _, _ => none
  | .convert src dst x => match T src, T dst, ev x with
    | some _, some td, .int _ n => (match td.k with | .int k => some (.int k (wr k n), s) | _ => none)
    | some ts, some td, .str l => (match ts.k, td.k with
      | .str, .str => some (.str l, s)
      | .str, .slice e => (match T e with
        | some te => (match te.k with | .int .u8 => some (.sl .non (l.map fun b => .int .u8 b.toNat), s) | _ => none)
        | none => none)
      | _, _ => none)
    | _, _, _ => none
  | .makeInterface t x => match T t with
    | some ti => (match ti.k with | .ifc | .oth => none | _ => some (.ifc t (ev x), s))
    | none => none
  | .makeFunc fn first captured => some (.fn fn (first.toList.map ev) (captured.toList.map ev), s)
  | .makeMap t r => match r with
    | none => some (.map s.n, s.push (.map []))
    | some h => (match T t, ev h with
      | some ti, .int _ _ => (match ti.k with | .map _ _ => some (.map s.n, s.push (.map [])) | _ => none)
      | _, _ => none)
  | .slice t x lo hi mx => match T t with
    | some ti => (match (match ti.k with | .slice e => (match T e with | some te => aslice ti te.size (ev x) (lo.map ev) (hi.map ev) (mx.map ev) | none => none) | _ => aslice ti 0 (ev x) (lo.map ev) (hi.map ev) (mx.map ev)) with | some v => some (v, s) | none => none)
    | none => none
  | .fieldAddr st x f => match T st with
    | some ti => (match ti.k with
      | .struct fs => (match fs[f]? with
        | some (off, ft) => (match T ft with
          | some tf => cond (Nat.beq tf.size 0) none (match ev x with
            | .ptr id o => some (.ptr id (o + off), s)
            | .fp v => (match v with
              | .agg cs => (match AV.pickCells tf.isAgg tf.size (cs.drop off) with | some u => some (.fp u, s) | none => none)
              | _ => none)
            | _ => none)
          | none => none)
        | none => none)
      | _ => none)
    | none => none
  | .field st x f => match T st with
    | some ti => (match ti.k with
      | .struct fs => (match fs[f]? with
        | some (off, ft) => (match T ft, ev x with
          | some tf, .agg cs => (match AV.pickCells tf.isAgg tf.size (cs.drop off) with | some u => some (u, s) | none => none)
          | _, _ => none)
        | none => none)
      | _ => none)
    | none => none
  | .indexAddr t x i => match T t with
    | some ti => (match ti.k, ev x, idxOf (ev i) with
      | .slice e, .sl _ xs, some n => (match T e, xs[n]? with
        | some te, some v => cond (Nat.beq v.cells.length te.size && AV.flat v) (some (.fp v, s)) none
        | _, _ => none)
      | .slice e, .osl id k _, some n => (match T e with
        | some te => cond (Nat.blt n k) (some (.ptr id (n * te.size), s)) none
        | none => none)
      | .arr len e, .ptr id o, some n => (match T e with
        | some te => cond (Nat.blt n len) (some (.ptr id (o + n * te.size), s)) none
        | none => none)
      | _, _, _ => none)
    | none => none
  | .index t x i => match T t with
    | some ti => (match ti.k, ev x, idxOf (ev i) with
      | .str, .str l, some n => (match l[n]? with | some b => some (.int .u8 b.toNat, s) | none => none)
      | .arr len e, .agg cs, some n => (match T e with
        | some te => cond (Nat.blt n len) (match AV.pickCells te.isAgg te.size (cs.drop (n * te.size)) with | some u => some (u, s) | none => none) none
        | none => none)
      | _, _, _ => none)
    | none => none
  | .lookup t m k ok => match T t with
    | some ti => (match ti.k with
      | .map kt et => (match T kt, T et with
        | some tk, some te => (match plainKey tk with
          | some kd => (match mlook s kd (ev m) (ev k) with
            | some (some v) => some (cond ok (.tup [v, .bool true]) v, s)
            | some none => some (cond ok (.tup [te.zero, .bool false]) te.zero, s)
            | none => none)
          | none => none)
        | _, _ => none)
      | _ => none)
    | none => none
  | .mapUpdate t m k x | .insert t m k x => match T t with
    | some ti => (match ti.k with
      | .map kt _ => (match T kt, ev m with
        | some tk, .map id => (match plainKey tk with
          | some kd => (match aget s.objs id with
            | some (.map es) => (match mfind kd (ev k) es with
              | some _ => some (.any, s.put id (.map (mput kd (ev k) (ev x) es)))
              | none => none)
            | _ => none)
          | none => none)
        | _, _ => none)
      | _ => none)
    | none => none
  | .typeAssert x _ asserted ok => match T asserted with
    | some ta => cond (noAssert ta.k) none (match ev x with
      | .nilifc => cond ok (some (.tup [ta.zero, .bool false], s)) none
      | .ifc t v => cond (Nat.beq t asserted) (some (cond ok (.tup [v, .bool true]) v, s)) (cond ok (some (.tup [ta.zero, .bool false], s)) none)
      | _ => none)
    | none => none
  | .extract t i => match ev t with
    | .tup vs => (match vs[i]? with | some v => some (v, s) | none => none)
    | _ => none
  | .call c => match c.callee with
    | .builtin b => abuiltin T b c.argTypes.toList (c.args.toList.map ev) s
    | _ => none
  | _ => none
end Go.Sy
