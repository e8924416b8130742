/-
  The abstract machine: operations that only compute and read.
-/
import Derived.Test.YtengjcdilnikhaaDoorAmBase
namespace Go.Proofs.YtengjcdilnikhaaDoor.Am
set_option linter.unusedSimpArgs false
set_option linter.unusedVariables false
set_option linter.unnecessarySimpa false
open Go

/-! ### what the program's table tells of types -/
def tsz (P : Program) (t : TypeId) : Option Nat := (P.info? t).map (·.size)
def tagg (P : Program) (t : TypeId) : Option Bool :=
  match P.underlying t with
  | some (.struct _) | some (.array _ _) => some true
  | some _ => some false
  | none => none
def slE (P : Program) (t : TypeId) : Option TypeId :=
  match P.underlying t with
  | some (.slice e) => some e
  | _ => none
def slS (P : Program) (t : TypeId) : Option Nat := (slE P t).bind (tsz P)
def arE (P : Program) (t : TypeId) : Option (Nat × TypeId) :=
  match P.underlying t with
  | some (.array n e) => some (n, e)
  | _ => none
def arS (P : Program) (t : TypeId) : Option (Nat × Nat) := (arE P t).bind fun (n, e) => (tsz P e).map fun z => (n, z)
/-- a field's place, if it has cells -/
def fldO (P : Program) (s : TypeId) (f : Nat) : Option Nat :=
  match P.underlying s with
  | some (.struct fs) => match fs[f]? with
    | some x => match tsz P x.type with
      | some (_ + 1) => some x.offset
      | _ => none
    | none => none
  | _ => none
/-- a field's type and place -/
def fldT (P : Program) (s : TypeId) (f : Nat) : Option (TypeId × Nat) :=
  match P.underlying s with
  | some (.struct fs) => (fs[f]?).map fun x => (x.type, x.offset)
  | _ => none
def isStr (P : Program) (t : TypeId) : Bool :=
  match P.underlying t with
  | some .string => true
  | _ => false
def isFlt (P : Program) (t : TypeId) : Bool :=
  match P.underlying t with
  | some (.float _) => true
  | _ => false
def intK (P : Program) (t : TypeId) : Option IntKind :=
  match P.underlying t with
  | some (.int k) => some k
  | _ => none
def hasU (P : Program) (t : TypeId) : Bool := (P.underlying t).isSome
def isBoolT (P : Program) (t : TypeId) : Bool :=
  match P.underlying t with
  | some .bool => true
  | _ => false
def isTup (P : Program) (t : TypeId) : Bool :=
  match P.underlying t with
  | some (.tuple _) => true
  | _ => false

/-! ### the operations -/
/-- a value of a type, out of cells from a place on -/
def partA (P : Program) (t : TypeId) (cs : List Cell) (off : Nat) : Option AV :=
  match tagg P t with
  | some true => match tsz P t with
    | some n => if off + n ≤ cs.length then some (.agg ((cs.drop off).take n)) else none
    | none => none
  | some false => (cs[off]?).map .one
  | none => none

def ldA (P : Program) (t : TypeId) (h : Heap) (x : AV) : Option AV :=
  match x with
  | .one (.ptr id ver off) => match h id with
    | some b => if b.ver = ver then partA P t b.cells off else none
    | none => none
  | .one (.ro cs) => partA P t (cs.map .p) 0
  | _ => none

def liveB (h : Heap) (id ver : Nat) : Bool :=
  match h id with
  | some b => decide (b.ver = ver)
  | none => false

def fldA (P : Program) (s : TypeId) (h : Heap) (x : AV) (f : Nat) : Option AV :=
  match fldO P s f with
  | some o => match x with
    | .one (.ptr id ver off) => if liveB h id ver = true then some (.one (.ptr id ver (off + o))) else none
    | .one (.ro cs) => some (.one (.ro (cs.drop o)))
    | _ => none
  | none => none

def idxA (P : Program) (t : TypeId) (h : Heap) (x i : AV) : Option AV :=
  match i with
  | .one (.p (.v (.int _ i))) => match x with
    | .one (.p (.sl sz es)) => match slS P t with
      | some z => if z = sz ∧ 0 ≤ i ∧ i < es.length then some (.one (.ro (es.getD i.toNat []))) else none
      | none => none
    | .one (.win id ver off len _) => match slS P t with
      | some z => if liveB h id ver = true ∧ 0 ≤ i ∧ i < len then some (.one (.ptr id ver (off + i.toNat * z))) else none
      | none => none
    | .one (.ptr id ver off) => match arS P t with
      | some (n, z) => if liveB h id ver = true ∧ 0 ≤ i ∧ i < n then some (.one (.ptr id ver (off + i.toNat * z))) else none
      | none => none
    | _ => none
  | _ => none

def strAt (s : ByteArray) (i : Nat) : Int := ((s.data.toList.getD i 0).toNat : Int)

def idxV (P : Program) (t : TypeId) (x i : AV) : Option AV :=
  match i with
  | .one (.p (.v (.int _ i))) => match x with
    | .one (.p (.v (.string s))) => if isStr P t = true ∧ 0 ≤ i ∧ i < s.size then some (.one (.p (.v (.int .u8 (strAt s i.toNat))))) else none
    | .agg cs => match arE P t with
      | some (n, e) => match tsz P e with
        | some z => if 0 ≤ i ∧ i < n then partA P e cs (i.toNat * z) else none
        | none => none
      | none => none
    | _ => none
  | _ => none

def andI (k : IntKind) (a b : Int) : Int := k.wrap ((BitVec.ofInt k.bits a &&& BitVec.ofInt k.bits b).toNat)
def orI (k : IntKind) (a b : Int) : Int := k.wrap ((BitVec.ofInt k.bits a ||| BitVec.ofInt k.bits b).toNat)
def xorI (k : IntKind) (a b : Int) : Int := k.wrap ((BitVec.ofInt k.bits a ^^^ BitVec.ofInt k.bits b).toNat)
def andNotI (k : IntKind) (a b : Int) : Int := k.wrap ((BitVec.ofInt k.bits a &&& ~~~ (BitVec.ofInt k.bits b)).toNat)
def notI (k : IntKind) (n : Int) : Int := k.wrap ((BitVec.ofInt k.bits (if k.signed then -1 else k.max) ^^^ BitVec.ofInt k.bits n).toNat)
def intB (op : BinOp) (k : IntKind) (a b : Int) : Option Value :=
  match op with
  | .add => some (.int k (k.wrap (a + b)))
  | .sub => some (.int k (k.wrap (a - b)))
  | .mul => some (.int k (k.wrap (a * b)))
  | .quo => if b = 0 then none else some (.int k (k.wrap (a.tdiv b)))
  | .rem => if b = 0 then none else some (.int k (a.tmod b))
  | .and => some (.int k (andI k a b))
  | .or => some (.int k (orI k a b))
  | .xor => some (.int k (xorI k a b))
  | .andNot => some (.int k (andNotI k a b))
  | .eql => some (.bool (decide (a = b)))
  | .neq => some (.bool (!decide (a = b)))
  | .lss => some (.bool (decide (a < b)))
  | .leq => some (.bool (decide (a ≤ b)))
  | .gtr => some (.bool (decide (b < a)))
  | .geq => some (.bool (decide (b ≤ a)))
  | _ => none

def shiftB (op : BinOp) (k : IntKind) (a b : Int) : Option Value :=
  match op with
  | .shl => if b < 0 then none else some (.int k (k.wrap (a * 2 ^ (min b.toNat k.bits))))
  | .shr => if b < 0 then none else some (.int k (a.fdiv (2 ^ (min b.toNat k.bits))))
  | _ => none

def strB (op : BinOp) (x y : ByteArray) : Option Value :=
  match op with
  | .add => if x.size + y.size ≤ 9223372036854775807 then some (.string (x ++ y)) else none
  | .eql => some (.bool (decide (x.data.toList = y.data.toList)))
  | .neq => some (.bool (!decide (x.data.toList = y.data.toList)))
  | .lss => some (.bool (Op.bytesLess x.data.toList y.data.toList))
  | .leq => some (.bool (Op.bytesLess x.data.toList y.data.toList || decide (x.data.toList = y.data.toList)))
  | .gtr => some (.bool !(Op.bytesLess x.data.toList y.data.toList || decide (x.data.toList = y.data.toList)))
  | .geq => some (.bool !(Op.bytesLess x.data.toList y.data.toList))
  | _ => none

def floatB (op : BinOp) (k : FloatKind) (a b : Nat) : Option Value :=
  match op with
  | .eql => some (.bool (k.format.order a b == some .eq))
  | .neq => some (.bool (k.format.order a b != some .eq))
  | .lss => some (.bool (k.format.order a b == some .lt))
  | .gtr => some (.bool (k.format.order a b == some .gt))
  | _ => none

def isShift : BinOp → Bool
  | .shl | .shr => true
  | _ => false

def binV (P : Program) (t : TypeId) (op : BinOp) (x y : Value) : Option Value :=
  match x, y with
  | .int k a, .int k' b => if isShift op then shiftB op k a b else if k = k' then intB op k a b else none
  | .string a, .string b => strB op a b
  | .bool a, .bool b => if isBoolT P t = true then (match op with
    | .eql => some (.bool (a == b))
    | .neq => some (.bool (a != b))
    | _ => none) else none
  | .float k a, .float k' b => if k = k' then floatB op k a b else none
  | _, _ => none

/-- a struct's fields, if it can be compared plainly: place and type -/
def flds (P : Program) (t : TypeId) : Option (List (Nat × TypeId)) :=
  if P.stoodInHeld t = false ∧ P.eqGuardType P.depth t = false then match P.underlying t with
    | some (.struct fs) => if fs.toList.all (fun f => f.name != "_") = true then some (fs.toList.map fun f => (f.offset, f.type)) else none
    | _ => none
  else none

def eqV (P : Program) (t : TypeId) (a b : Value) : Option Bool :=
  match a, b with
  | .int k x, .int k' y => if k = k' ∧ (intK P t).isSome = true then some (decide (x = y)) else none
  | .string x, .string y => if isStr P t = true then some (decide (x.data.toList = y.data.toList)) else none
  | .bool x, .bool y => if isBoolT P t = true then some (x == y) else none
  | .float k x, .float k' y => if k = k' ∧ isFlt P t = true then some (k.format.order x y == some .eq) else none
  | _, _ => none

def eqFs (P : Program) (rec : TypeId → AV → AV → Option Bool) : List (Nat × TypeId) → List Cell → List Cell → Option Bool
  | [], _, _ => some true
  | (o, t) :: fs, cs, ds => match partA P t cs o, partA P t ds o with
    | some a, some b => match rec t a b, eqFs P rec fs cs ds with
      | some r, some q => some (r && q)
      | _, _ => none
    | _, _ => none

def eqAV (P : Program) : Nat → TypeId → AV → AV → Option Bool
  | 0, _, _, _ => none
  | f + 1, t, x, y => match x, y with
    | .one (.p (.v a)), .one (.p (.v b)) => eqV P t a b
    | .agg cs, .agg ds => match flds P t with
      | some fs => eqFs P (eqAV P f) fs cs ds
      | none => none
    | _, _ => none

def eqR (op : BinOp) (r : Bool) : Option AV :=
  match op with
  | .eql => some (.one (.p (.v (.bool r))))
  | .neq => some (.one (.p (.v (.bool !r))))
  | _ => none

def binA (P : Program) (ty : TypeId) (op : BinOp) (x y : AV) : Option AV :=
  match x, y with
  | .one (.p (.v a)), .one (.p (.v b)) => (binV P ty op a b).map fun v => .one (.p (.v v))
  | .agg cs, .agg ds => (eqAV P 4 ty (.agg cs) (.agg ds)).bind (eqR op)
  | _, _ => none

def unV (op : UnOp) (x : Value) : Option Value :=
  match op, x with
  | .not, .bool b => some (.bool !b)
  | .neg, .int k n => some (.int k (k.wrap (0 - n)))
  | .xor, .int k n => some (.int k (notI k n))
  | _, _ => none

def unA (op : UnOp) (x : AV) : Option AV :=
  match x with
  | .one (.p (.v a)) => (unV op a).map fun v => .one (.p (.v v))
  | _ => none

/-- octets as a text -/
def octV : PD → Option UInt8
  | .v (.int .u8 n) => if 0 ≤ n ∧ n < 256 then some (UInt8.ofNat n.toNat) else none
  | _ => none
def octE : List (List PD) → Option (List UInt8)
  | [] => some []
  | [x] :: es => match octV x, octE es with
    | some c, some cs => some (c :: cs)
    | _, _ => none
  | _ => none
def octC : List Cell → Option (List UInt8)
  | [] => some []
  | .p x :: es => match octV x, octC es with
    | some c, some cs => some (c :: cs)
    | _, _ => none
  | _ => none
def octT (P : Program) (src dst : TypeId) : Bool :=
  match slE P src with
  | some e => decide (intK P e = some .u8) && isStr P dst
  | none => false
def txtV (o : Option (List UInt8)) : Option AV := o.map fun cs => .one (.p (.v (.string ⟨cs.toArray⟩)))

def convA (P : Program) (h : Heap) (src dst : TypeId) (x : AV) : Option AV :=
  match x with
  | .one (.p (.v (.int _ n))) => match intK P dst with
    | some k => if hasU P src = true then some (.one (.p (.v (.int k (k.wrap n))))) else none
    | none => none
  | .one (.p (.v (.string s))) => if hasU P src = true ∧ isStr P dst = true then some (.one (.p (.v (.string s)))) else none
  | .one (.p (.v (.slice none 0 0))) => if octT P src dst = true then txtV (some []) else none
  | .one (.p (.sl 1 es)) => if octT P src dst = true then txtV (octE es) else none
  | .one (.win id ver off len _) => match h id with
    | some b => if b.ver = ver ∧ octT P src dst = true ∧ off + len ≤ b.cells.length then txtV (octC ((b.cells.drop off).take len)) else none
    | none => none
  | _ => none

def fieldA (P : Program) (t : TypeId) (x : AV) (f : Nat) : Option AV :=
  match x with
  | .agg cs => match fldT P t f with
    | some (u, o) => partA P u cs o
    | none => none
  | _ => none

def intOfA : AV → Option Int
  | .one (.p (.v (.int _ i))) => some i
  | _ => none

/-- the bounds of a slice expression: low, high, max -/
def bnd1 (x : AV) (y : Nat) : Option Nat := (intOfA x).bind fun i => if 0 ≤ i ∧ i ≤ (y : Int) then some i.toNat else none
def bndMx (cap : Nat) : Option AV → Option Nat
  | some v => bnd1 v cap
  | none => some cap
def bndHi (len m : Nat) (mx : Bool) : Option AV → Option Nat
  | some v => bnd1 v m
  | none => if mx = true then none else some len
def bndLo (h : Nat) : Option AV → Option Nat
  | some v => bnd1 v h
  | none => some 0
def bndA (len cap : Nat) (lo hi mx : Option AV) : Option (Nat × Nat × Nat) :=
  (bndMx cap mx).bind fun m => (bndHi len m mx.isSome hi).bind fun h => (bndLo h lo).map fun l => (l, h, m)

def slcA (P : Program) (t : TypeId) (h : Heap) (x : AV) (lo hi mx : Option AV) : Option AV :=
  match x with
  | .one (.p (.v (.string s))) => if isStr P t = true ∧ mx.isNone = true then (bndA s.size s.size lo hi none).map fun (l, h, _) => .one (.p (.v (.string (s.extract l h)))) else none
  | .one (.p (.sl sz es)) => match slS P t with
    | some z => if z = sz then (bndA es.length es.length lo hi mx).map fun (l, h, _) => .one (.p (.sl sz ((es.drop l).take (h - l)))) else none
    | none => none
  | .one (.win id ver off len cap) => match slS P t with
    | some z => if liveB h id ver = true then (bndA len cap lo hi mx).map fun (l, h, m) => .one (.win id ver (if m = l then off else off + l * z) (h - l) (m - l)) else none
    | none => none
  | .one (.ptr id ver off) => match arS P t with
    | some (n, z) => if liveB h id ver = true then (bndA n n lo hi mx).map fun (l, h, m) => .one (.win id ver (if m = l then off else off + l * z) (h - l) (m - l)) else none
    | none => none
  | _ => none

def lenA (P : Program) (t : TypeId) (h : Heap) (x : AV) : Option AV :=
  match x with
  | .one (.p (.v (.string s))) => if isStr P t = true then some (.one (.p (.v (.int .i64 s.size)))) else none
  | .one (.p (.v (.slice none 0 0))) => if (slE P t).isSome = true then some (.one (.p (.v (.int .i64 0)))) else none
  | .one (.p (.sl _ es)) => if (slE P t).isSome = true then some (.one (.p (.v (.int .i64 es.length)))) else none
  | .one (.win id ver _ len _) => if liveB h id ver = true ∧ (slE P t).isSome = true then some (.one (.p (.v (.int .i64 len)))) else none
  | _ => none

def capA (P : Program) (t : TypeId) (h : Heap) (x : AV) : Option AV :=
  match x with
  | .one (.p (.v (.slice none 0 0))) => if (slE P t).isSome = true then some (.one (.p (.v (.int .i64 0)))) else none
  | .one (.win id ver _ _ cap) => if liveB h id ver = true ∧ (slE P t).isSome = true then some (.one (.p (.v (.int .i64 cap)))) else none
  | _ => none

def exA (x : AV) (i : Nat) : Option AV :=
  match x with
  | .tup vs => vs[i]?
  | _ => none

def mm2 (mx : Bool) (x y : AV) : Option AV :=
  match x, y with
  | .one (.p (.v (.int k a))), .one (.p (.v (.int k' b))) => if k = k' then some (.one (.p (.v (.int k (bif mx then max a b else min a b))))) else none
  | _, _ => none

def cellsA : AV → List Cell
  | .one c => [c]
  | .agg cs => cs
  | .tup _ => [.junk]

def spl (cells : List Cell) (off : Nat) (cs : List Cell) : List Cell := cells.take off ++ (cs ++ cells.drop (off + cs.length))

/-- surely the value of one cell -/
def okC (h : Heap) : Cell → Bool
  | .p (.v x) => x.oneCell'
  | .p (.sl _ _) | .p (.slc _ _) | .ro _ | .clo _ _ _ => true
  | .junk => false
  | .ptr id ver _ | .win id ver _ _ _ => liveB h id ver

/-- parts into their places -/
def fillA (h : Heap) (place : Nat → Option (Nat × Nat)) (cells : List Cell) : List (Nat × AV) → Option (List Cell)
  | [] => some cells
  | (i, v) :: rest => match place i with
    | some (off, size) => match v with
      | .one c => if okC h c = true ∧ size = 1 ∧ off + 1 ≤ cells.length then fillA h place (spl cells off [c]) rest else none
      | .agg cs => if cs.length = size ∧ off + cs.length ≤ cells.length then fillA h place (spl cells off cs) rest else none
      | .tup _ => none
    | none => none

def tzero (P : Program) (t : TypeId) : Option (List Value) := ((P.info? t).bind (·.zero)).map (·.cells.toList)
/-- the fields' places and sizes -/
def stPl (P : Program) (t : TypeId) : Option (List (Nat × Nat)) :=
  match P.underlying t with
  | some (.struct fs) => fs.toList.mapM (fun f => (P.info? f.type).map fun i => (f.offset, i.size))
  | _ => none

def bldA (P : Program) (h : Heap) (t : TypeId) (parts : List (Nat × AV)) : Option AV :=
  match tzero P t with
  | some zs => match arS P t with
    | some (_, z) => (fillA h (fun i => some (i * z, z)) (zs.map fun v => .p (.v v)) parts).map .agg
    | none => match stPl P t with
      | some pl => (fillA h (pl[·]?) (zs.map fun v => .p (.v v)) parts).map .agg
      | none => none
  | none => none

def cellOnes : List AV → Option (List Cell)
  | [] => some []
  | .one c :: r => (cellOnes r).map (c :: ·)
  | _ :: _ => none

def valP (t : Nat → AV) (x : Nat × Operand) : Nat × AV := (x.1, val t x.2)

def nilV (h : Heap) : AV → Option AV
  | .one (.ptr id ver off) => if liveB h id ver = true then some (.one (.ptr id ver off)) else none
  | .one (.ro cs) => some (.one (.ro cs))
  | .one (.clo (.func f) a b) => some (.one (.clo (.func f) a b))
  | _ => none

/-- a value as an interface's -/
def isCon (P : Program) (t : TypeId) : Bool :=
  match P.underlying t with
  | some (.interface _) => false
  | some _ => true
  | none => false
def mkIf (P : Program) (t : TypeId) (x : AV) : Option AV :=
  match x with
  | .one (.p (.v v)) => if isCon P t = true then some (.one (.p (.v (.iface t v)))) else none
  | .agg [] => if isCon P t = true then some (.one (.p (.v (.iface t (.agg #[]))))) else none
  | _ => none

/-- an interface's value as one of a type that is none -/
def tasA (P : Program) (x : AV) (t : TypeId) (ok : Bool) : Option AV :=
  match x with
  | .one (.p (.v (.iface u v))) => if isCon P t = true ∧ u = t ∧ ok = true then some (.tup [ofV v, .one (.p (.v (.bool true)))]) else none
  | _ => none

/-- operations that only compute and read -/
def sop (P : Program) (t : Nat → AV) (h : Heap) (o : Oper) : Option AV :=
  match o.op with
  | .move x | .assign x => some (val t x)
  | .pick c a b => match val t c with
    | .one (.p (.v (.bool g))) => some (bif g then val t a else val t b)
    | _ => none
  | .load ty x => ldA P ty h (val t x)
  | .fieldAddr s x f => fldA P s h (val t x) f
  | .field s x f => fieldA P s (val t x) f
  | .indexAddr ty x i => idxA P ty h (val t x) (val t i)
  | .index ty x i => idxV P ty (val t x) (val t i)
  | .binOp op ty x y _ => binA P ty op (val t x) (val t y)
  | .unOp op _ x => unA op (val t x)
  | .convert s d x => convA P h s d (val t x)
  | .slice ty x lo hi mx => slcA P ty h (val t x) (lo.map (val t)) (hi.map (val t)) (mx.map (val t))
  | .extract x i => exA (val t x) i
  | .nilCheck x => nilV h (val t x)
  | .makeInterface ty x => mkIf P ty (val t x)
  | .typeAssert x _ u ok => tasA P (val t x) u ok
  | .build ty parts => bldA P h ty (parts.toList.map fun (i, x) => (i, val t x))
  | .makeFunc fn first cap => match cellOnes (first.toList.map (val t)), cellOnes (cap.toList.map (val t)) with
    | some a, some b => some (.one (.clo fn a b))
    | _, _ => none
  | .call { callee := .builtin .len, args := args, argTypes := tys } => match args.toList, tys.toList with
    | [x], [ty] => lenA P ty h (val t x)
    | _, _ => none
  | .call { callee := .builtin .cap, args := args, argTypes := tys } => match args.toList, tys.toList with
    | [x], [ty] => capA P ty h (val t x)
    | _, _ => none
  | .call { callee := .builtin .min, args := args, argTypes := _ } => match args.toList with
    | [x, y] => mm2 false (val t x) (val t y)
    | _ => none
  | .call { callee := .builtin .max, args := args, argTypes := _ } => match args.toList with
    | [x, y] => mm2 true (val t x) (val t y)
    | _ => none
  | _ => none

end Go.Proofs.YtengjcdilnikhaaDoor.Am
