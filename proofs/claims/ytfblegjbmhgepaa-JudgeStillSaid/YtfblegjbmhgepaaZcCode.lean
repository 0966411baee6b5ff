/- The clean interpreter: what a compiled Go function does to clean values. No condition. -/
import Derived.Test.YtfblegjbmhgepaaZcVal
import Derived.Test.YtfblegjbmhgepaaZcEqb
import GoSem.Dispatch
set_option linter.all false
namespace Go.Zc

/-! ### What is compiled -/

inductive Opd where
  | t (n : Nat)
  | c (v : CV)
  deriving Inhabited

inductive EqT where
  | bool
  | int
  | ptr
  | sl
  | mp
  | fn
  | ifc
  | parts (l : List (Nat × Bool × Nat × EqT))
  deriving Inhabited

inductive POp where
  | mov
  | pick
  | nchk
  | bld (zero : List CV) (parts : List (Nat × Nat))
  | bin (op : BinOp) (e : EqT)
  | un (op : UnOp)
  | toInt (k : IntKind)
  | toFloat (k : FloatKind)
  | mkif (t : TypeId)
  | mkfn (f : Fn) (nfirst : Nat)
  | faddr (off : Nat)
  | fld (agg : Bool) (n off : Nat)
  | iaddr (sz : Nat)
  | iaddrA (len sz : Nat)
  | idxA (len : Nat) (agg : Bool) (n : Nat)
  | idxS
  | slc (sz : Nat) (lo hi : Bool)
  | slcS (lo hi : Bool)
  | ext (i : Nat)
  | len
  | lenS
  | lenK (n : Nat)
  | cap
  | cplx
  | re
  | im
  | min
  | max
  deriving Inhabited

inductive HOp where
  | box (s : Nat)
  | boxh
  | newl (s : Nat) (zero : List CV)
  | newh (zero : List CV)
  | bslF (sz len : Nat) (zero : List CV) (parts : List (Nat × Nat))
  | bslO (sz len : Nat) (zero : List CV) (parts : List (Nat × Nat))
  | load (agg : Bool) (n : Nat)
  | store (n : Nat)
  | app (sz bytes : Nat) (zero : List CV)
  | appz (sz bytes : Nat) (zero : List CV)   -- of zeros, to nil
  | copy (sz : Nat)
  | clear (sz : Nat) (zero : List CV)
  | mksl (sz bytes : Nat) (zero : List CV)
  | mkslF (sz bytes : Nat) (zero : List CV)   -- of zeros that nobody writes
  | mkmap
  | look (kk : Nat) (zero : CV) (ok : Bool)
  | mput (kk : Nat)
  | mdel (kk : Nat)
  | lenM
  deriving Inhabited

inductive COp where
  | p (o : POp)
  | h (o : HOp)
  | hb (o : HOp)             -- in blocks alone
  | hl (s : Nat) (o : HOp)   -- in the box s alone
  | callb                    -- a call to which the boxes are nothing
  | callp                    -- one that leaves the blocks that there are
  | callv                    -- one to which no memory is anything
  | call
  deriving Inhabited

structure CStm where
  dst : Option Nat
  op : COp
  args : List Opd
  guard : Option (Nat × Bool)
  deriving Inhabited

inductive CCode where
  | skip
  | ops (l : List CStm)
  | seq (a b : CCode)
  | cond (c : Opd) (a b : CCode)
  | block (id : Nat) (lo : Option (List Nat)) (c : CCode)
  | bloop (id : Nat) (li lo : List Nat) (c : CCode)
  | exit (id : Nat)
  | ret (rs : List Nat)
  deriving Inhabited

/-! ### What the ops come to -/

def intBin (op : BinOp) (k : IntKind) (a b : Int) : Option CV :=
  match op with
  | .add => some (.int k (k.wrap (a + b)))
  | .sub => some (.int k (k.wrap (a - b)))
  | .mul => some (.int k (k.wrap (a * b)))
  | .quo => if b = 0 then none else some (.int k (k.wrap (a.tdiv b)))
  | .rem => if b = 0 then none else some (.int k (a.tmod b))
  | .and => some (.int k (k.wrap (BitVec.ofInt k.bits a &&& BitVec.ofInt k.bits b).toNat))
  | .or => some (.int k (k.wrap (BitVec.ofInt k.bits a ||| BitVec.ofInt k.bits b).toNat))
  | .xor => some (.int k (k.wrap (BitVec.ofInt k.bits a ^^^ BitVec.ofInt k.bits b).toNat))
  | .andNot => some (.int k (k.wrap (BitVec.ofInt k.bits a &&& ~~~BitVec.ofInt k.bits b).toNat))
  | .eql => some (.bool (a == b))
  | .neq => some (.bool (a != b))
  | .lss => some (.bool (decide (a < b)))
  | .leq => some (.bool (decide (a ≤ b)))
  | .gtr => some (.bool (decide (a > b)))
  | .geq => some (.bool (decide (a ≥ b)))
  | .shl | .shr => none

def shiftBin (op : BinOp) (k : IntKind) (a b : Int) : Option CV :=
  if b < 0 then none else
  match op with
  | .shl => some (.int k (k.wrap (a * 2 ^ (min b.toNat k.bits))))
  | .shr => some (.int k (a.fdiv (2 ^ (min b.toNat k.bits))))
  | _ => none

def fArith (op : BinOp) (k : FloatKind) (x y : Nat) : Option Nat :=
  match op with
  | .add => k.format.add x y
  | .sub => k.format.sub x y
  | .mul => k.format.mul x y
  | .quo => k.format.div x y
  | _ => none

def fCmp (op : BinOp) (k : FloatKind) (x y : Nat) : Option Bool :=
  let c := k.format.order x y
  match op with
  | .eql => some (c == some .eq)
  | .neq => some (c != some .eq)
  | .lss => some (c == some .lt)
  | .leq => some (c == some .lt || c == some .eq)
  | .gtr => some (c == some .gt)
  | .geq => some (c == some .gt || c == some .eq)
  | _ => none

def floatBin (op : BinOp) (k : FloatKind) (x y : Nat) : Option CV :=
  match op with
  | .add | .sub | .mul | .quo => (fArith op k x y).map (.float k)
  | _ => (fCmp op k x y).map .bool

def strBin (op : BinOp) (x y : ByteArray) : Option CV :=
  match op with
  | .add => if ((x.size + y.size : Nat) : Int) > IntKind.i64.max then none else some (.str (x ++ y))
  | .eql => some (.bool (x.toList == y.toList))
  | .neq => some (.bool (!(x.toList == y.toList)))
  | _ => none

/-- A quotient that is a number. -/
def quoC (a b c d : Nat) : Option (Nat × Nat) :=
  (fCmp .geq .f64 (Op.Complex.abs c) (Op.Complex.abs d)).bind fun g =>
  (bif g then
    (fArith .quo .f64 d c).bind fun ratio => (fArith .mul .f64 ratio d).bind fun rd => (fArith .add .f64 c rd).bind fun denom =>
    (fArith .mul .f64 b ratio).bind fun br => (fArith .add .f64 a br).bind fun n1 => (fArith .quo .f64 n1 denom).bind fun e =>
    (fArith .mul .f64 a ratio).bind fun ar => (fArith .sub .f64 b ar).bind fun n2 => (fArith .quo .f64 n2 denom).map fun f => (e, f)
  else
    (fArith .quo .f64 c d).bind fun ratio => (fArith .mul .f64 ratio c).bind fun rd => (fArith .add .f64 d rd).bind fun denom =>
    (fArith .mul .f64 a ratio).bind fun br => (fArith .add .f64 br b).bind fun n1 => (fArith .quo .f64 n1 denom).bind fun e =>
    (fArith .mul .f64 b ratio).bind fun ar => (fArith .sub .f64 ar a).bind fun n2 => (fArith .quo .f64 n2 denom).map fun f => (e, f)).bind fun x =>
  bif Op.Complex.isNaN x.1 && Op.Complex.isNaN x.2 then none else some x

/-- Complex numbers of two float64's. -/
def cplxBin (op : BinOp) (k : FloatKind) (a b c d : Nat) : Option CV :=
  match op, k with
  | .add, k => (fArith .add k a c).bind fun x => (fArith .add k b d).map fun y => .cplx k x y
  | .sub, k => (fArith .sub k a c).bind fun x => (fArith .sub k b d).map fun y => .cplx k x y
  | .mul, .f64 =>
    (fArith .mul .f64 a c).bind fun ac => (fArith .mul .f64 b d).bind fun bd => (fArith .sub .f64 ac bd).bind fun x =>
    (fArith .mul .f64 a d).bind fun ad => (fArith .mul .f64 b c).bind fun bc => (fArith .add .f64 ad bc).map fun y => .cplx .f64 x y
  | .quo, .f64 => (quoC a b c d).map fun x => .cplx .f64 x.1 x.2
  | .eql, k => some (.bool ((k.format.order a c == some .eq) && (k.format.order b d == some .eq)))
  | .neq, k => some (.bool !((k.format.order a c == some .eq) && (k.format.order b d == some .eq)))
  | _, _ => none

def partC (agg : Bool) (n off : Nat) (cs : List CV) : Option CV :=
  if agg then some (.agg ((cs.drop off).take n)) else cs[off]?

mutual
def eqC : EqT → CV → CV → Option Bool
  | .bool, x, y =>
    match x, y with
    | .bool a, .bool b => some (a == b)
    | _, _ => none
  | .int, x, y =>
    match x, y with
    | .int k a, .int k' b => if k = k' then some (a == b) else none
    | _, _ => none
  | .ptr, x, y =>
    match x, y with
    | .nilp, .nilp => some true
    | .nilp, .op .. | .nilp, .vp _ | .op .., .nilp | .vp _, .nilp => some false
    | _, _ => none
  | .sl, x, y =>
    match x, y with
    | .nils, .nils => some true
    | .nils, .vs (_ :: _) _ | .vs (_ :: _) _, .nils => some false
    | _, _ => none
  | .mp, x, y =>
    match x, y with
    | .nilm, .nilm => some true
    | .nilm, .om _ | .om _, .nilm => some false
    | _, _ => none
  | .fn, x, y =>
    match x, y with
    | .nilf, .nilf => some true
    | .nilf, .fn .. | .fn .., .nilf => some false
    | _, _ => none
  | .ifc, _, _ => none
  | .parts l, x, y =>
    match x, y with
    | .agg xs, .agg ys => eqCs l xs ys
    | _, _ => none
def eqCs : List (Nat × Bool × Nat × EqT) → List CV → List CV → Option Bool
  | [], _, _ => some true
  | (off, agg, n, e) :: r, xs, ys =>
    match partC agg n off xs, partC agg n off ys with
    | some a, some b =>
      match eqC e a b with
      | some true => eqCs r xs ys
      | some false => some false
      | none => none
    | _, _ => none
end

def binC (op : BinOp) (e : EqT) (x y : CV) : Option CV :=
  match x, y with
  | .int k a, .int k' b =>
    match op with
    | .shl | .shr => shiftBin op k a b
    | _ => if k = k' then intBin op k a b else none
  | .float k a, .float k' b => if k = k' then floatBin op k a b else none
  | .cplx k a b, .cplx k' c d => if k = k' then cplxBin op k a b c d else none
  | .str a, .str b => strBin op a b
  | x, y =>
    match op with
    | .eql => (eqC e x y).map .bool
    | .neq => (eqC e x y).map fun b => .bool (!b)
    | _ => none

def unC (op : UnOp) (x : CV) : Option CV :=
  match op, x with
  | .neg, .int k n => some (.int k (k.wrap (0 - n)))
  | .xor, .int k n => some (.int k (k.wrap (BitVec.ofInt k.bits (if k.signed then -1 else k.max) ^^^ BitVec.ofInt k.bits n).toNat))
  | .neg, .float k b => some (.float k (Op.negFloat k b))
  | .neg, .cplx k a b => some (.cplx k (Op.negFloat k a) (Op.negFloat k b))
  | .not, .bool b => some (.bool (!b))
  | _, _ => none

def setMany : List CV → Nat → List CV → List CV
  | cs, _, [] => cs
  | cs, o, c :: r => setMany (cs.set o c) (o + 1) r

def CV.und? : CV → Bool
  | .und => true
  | _ => false

def fillC : List CV → List ((Nat × Nat) × CV) → Option (List CV)
  | cs, [] => some cs
  | cs, ((off, size), v) :: r =>
    if v.cells.length = size ∧ off + size ≤ cs.length ∧ v.und? = false then fillC (setMany cs off v.cells) r else none

def sbound (x : Option CV) (dflt most : Nat) : Option Nat :=
  match x with
  | none => some dflt
  | some (.int _ n) => if 0 ≤ n ∧ n ≤ most then some n.toNat else none
  | some _ => none

/-- 'x[lo:hi]' of a slice. -/
def slcC (sz : Nat) (x : CV) (lo hi : Option CV) : Option CV :=
  match x with
  | .nils => (sbound hi 0 0).bind fun _ => (sbound lo 0 0).map fun _ => .nils
  | .vs cs len => (sbound hi len len).bind fun h => (sbound lo 0 h).map fun l => .vs ((cs.take (h * sz)).drop (l * sz)) (h - l)
  | .os s i off len => if s = sz then (sbound hi len len).bind fun h => (sbound lo 0 h).map fun l => .os sz i (off + l * sz) (h - l) else none
  | _ => none

def min2C : CV → CV → Option CV
  | .int k x, .int _ y => some (.int k (if y < x then y else x))
  | _, _ => none

def max2C : CV → CV → Option CV
  | .int k x, .int _ y => some (.int k (if y > x then y else x))
  | _, _ => none

def foldC (f : CV → CV → Option CV) : CV → List CV → Option CV
  | x, [] => some x
  | x, y :: r => (f x y).bind fun z => foldC f z r

def pickC : CV → CV → CV → Option CV
  | .bool c, a, b => some (if c then a else b)
  | _, _, _ => none

def nchkC : CV → Option CV
  | .op i o => some (.op i o)
  | .vp cs => some (.vp cs)
  | .fn (.func f) x y => some (.fn (.func f) x y)
  | _ => none

def toIntC (k : IntKind) : CV → Option CV
  | .int _ n => some (.int k (k.wrap n))
  | .float s b =>
    match (s.decode b).toInt .zero with
    | some n => if k.min ≤ n ∧ n ≤ k.max then some (.int k n) else none
    | none => none
  | _ => none

def toFloatC (k : FloatKind) : CV → Option CV
  | .int _ n => some (.float k (k.nearest n))
  | _ => none

def faddrC (off : Nat) : CV → Option CV
  | .op i o => some (.op i (o + off))
  | .vp cs => some (.vp (cs.drop off))
  | _ => none

def fldC (agg : Bool) (n off : Nat) : CV → Option CV
  | .agg cs => partC agg n off cs
  | _ => none

def iaddrN (sz : Nat) (n : Int) : CV → Option CV
  | .os s i off len => if s = sz ∧ 0 ≤ n ∧ n < len then some (.op i (off + n.toNat * sz)) else none
  | .vs cs len => if 0 ≤ n ∧ n < len ∧ cs ≠ [] then some (.vp (cs.drop (n.toNat * sz))) else none
  | _ => none

def iaddrC (sz : Nat) (x : CV) : CV → Option CV
  | .int _ n => iaddrN sz n x
  | _ => none

def iaddrAC (len sz : Nat) (x : CV) : CV → Option CV
  | .int _ n => if 0 ≤ n ∧ n < len then faddrC (n.toNat * sz) x else none
  | _ => none

def idxAC (len : Nat) (agg : Bool) (n : Nat) (x : CV) : CV → Option CV
  | .int _ i => if 0 ≤ i ∧ i < len then fldC agg n (i.toNat * n) x else none
  | _ => none

def idxSN (n : Int) : CV → Option CV
  | .str s => if 0 ≤ n then (s[n.toNat]?).map fun b => .int .u8 b.toNat else none
  | _ => none

def idxSC (x : CV) : CV → Option CV
  | .int _ n => idxSN n x
  | _ => none

def extC (i : Nat) : CV → Option CV
  | .tup cs => cs[i]?
  | _ => none

def lenC : CV → Option CV
  | .nils => some (.int .i64 0)
  | .os _ _ _ n => some (.int .i64 n)
  | .vs _ n => some (.int .i64 n)
  | _ => none

/-- Of nil alone: nobody else's is told. -/
def capC : CV → Option CV
  | .nils => some (.int .i64 0)
  | _ => none

def lenSC : CV → Option CV
  | .str s => some (.int .i64 s.size)
  | _ => none

def cplxC : CV → CV → Option CV
  | .float k a, .float k' b => if k = k' then some (.cplx k a b) else none
  | _, _ => none

def reC : CV → Option CV
  | .cplx k a _ => some (.float k a)
  | _ => none

def imC : CV → Option CV
  | .cplx k _ b => some (.float k b)
  | _ => none

def pureOp : POp → List CV → Option CV
  | .mov, [x] => some x
  | .pick, [c, a, b] => pickC c a b
  | .nchk, [x] => nchkC x
  | .bld zero parts, vs => if vs.length = parts.length then (fillC zero (parts.zip vs)).map .agg else none
  | .bin op e, [x, y] => binC op e x y
  | .un op, [x] => unC op x
  | .toInt k, [x] => toIntC k x
  | .toFloat k, [x] => toFloatC k x
  | .mkif t, [x] => if x.und? then none else some (.ifc t x)
  | .mkfn f n, vs => some (.fn f (vs.take n) (vs.drop n))
  | .faddr off, [x] => faddrC off x
  | .fld agg n off, [x] => fldC agg n off x
  | .iaddr sz, [x, i] => iaddrC sz x i
  | .iaddrA len sz, [x, i] => iaddrAC len sz x i
  | .idxA len agg n, [x, i] => idxAC len agg n x i
  | .idxS, [x, i] => idxSC x i
  | .slc sz false false, [x] => slcC sz x none none
  | .slc sz true false, [x, l] => slcC sz x (some l) none
  | .slc sz false true, [x, h] => slcC sz x none (some h)
  | .slc sz true true, [x, l, h] => slcC sz x (some l) (some h)
  | .ext i, [x] => extC i x
  | .len, [x] => lenC x
  | .lenS, [x] => lenSC x
  | .cap, [x] => capC x
  | .lenK n, [_] => some (.int .i64 n)
  | .cplx, [x, y] => cplxC x y
  | .re, [x] => reC x
  | .im, [x] => imC x
  | .min, x :: r => foldC min2C x r
  | .max, x :: r => foldC max2C x r
  | _, _ => none

/-! ### The heap -/

def Id.loc? : Id → Bool
  | .loc _ => true
  | .blk _ => false

mutual
/-- Does it hold the address of a local box? -/
def CV.locv : CV → Bool
  | .op i _ => i.loc?
  | .os _ i _ _ => i.loc?
  | .fn _ a b => CV.locs a || CV.locs b
  | .ifc _ v => CV.locv v
  | .agg cs => CV.locs cs
  | .tup cs => CV.locs cs
  | _ => false
def CV.locs : List CV → Bool
  | [] => false
  | c :: cs => CV.locv c || CV.locs cs
end

def setBx : List (Nat × List CV) → Nat → List CV → List (Nat × List CV)
  | [], s, cs => [(s, cs)]
  | (i, x) :: r, s, cs => bif Nat.beq i s then (i, cs) :: r else (i, x) :: setBx r s cs

def Heap.put (H : Heap) : Id → List CV → Heap
  | .loc s, cs => { H with bx := setBx H.bx s cs }
  | .blk n, cs => { H with bl := H.bl.set n (.cells cs) }

def Heap.kill (H : Heap) : Id → Heap
  | .loc _ => H
  | .blk n => { H with bl := H.bl.set n .dead }

def Heap.push (H : Heap) (b : Blk) : Heap := { H with bl := H.bl ++ [b] }

def ones (cs : List CV) : Bool := cs.all CV.one

/-- Keys of maps: whole numbers (0), strings (1), bools (2). -/
def mkey : Nat → CV → CV → Option Bool
  | 0, .int k a, .int k' b => if k = k' then some (a == b) else none
  | 1, .str a, .str b => some (a == b)
  | 2, .bool a, .bool b => some (a == b)
  | _, _, _ => none

def mfind (kk : Nat) (k : CV) : List (CV × CV) → Nat → Option (Option (Nat × CV))
  | [], _ => some none
  | e :: es, i =>
    match mkey kk k e.1 with
    | some true => some (some (i, e.2))
    | some false => mfind kk k es (i + 1)
    | none => none

/-- The cells that a slice shows: by value. -/
def shown (H : Heap) (sz : Nat) : CV → Option (List CV)
  | .nils => some []
  | .vs cs n => if cs.length = n * sz then some cs else none
  | .os s i off n => if s = sz then (H.get i).bind fun cs => if off + n * sz ≤ cs.length then some ((cs.drop off).take (n * sz)) else none else none
  | _ => none

def lenOf : CV → Nat
  | .vs _ n => n
  | .os _ _ _ n => n
  | _ => 0

def isSl : CV → Bool
  | .nils => true
  | .vs _ _ => true
  | .os _ _ _ _ => true
  | _ => false

def repC (zero : List CV) : Nat → List CV
  | 0 => []
  | n + 1 => zero ++ repC zero n

def loadC (agg : Bool) (n : Nat) (H : Heap) : CV → Option CV
  | .op i off => (H.get i).bind fun cs => if off + n ≤ cs.length then partC agg n off cs else none
  | .vp cs => if n ≤ cs.length then partC agg n 0 cs else none
  | _ => none

def storeC (n : Nat) (x : CV) (H : Heap) : CV → Option Heap
  | .op i off => (H.get i).bind fun cs =>
      if x.cells.length = n ∧ off + n ≤ cs.length ∧ ones x.cells = true ∧ (i.loc? = true ∨ CV.locs x.cells = false) then some (H.put i (setMany cs off x.cells)) else none
  | _ => none

/-- 'append(s, new...)', of k elements, at least one. -/
def appC (sz k : Nat) (new : List CV) (H : Heap) : CV → Option (CV × Heap)
  | .nils => some (.os sz (.blk H.bl.length) 0 k, H.push (.cells new))
  | .os s (.blk m) 0 n =>
    if s = sz then
      (H.get (.blk m)).bind fun cs => if n * sz ≤ cs.length then some (.os sz (.blk H.bl.length) 0 (n + k), (H.kill (.blk m)).push (.cells (cs.take (n * sz) ++ new))) else none
    else none
  | _ => none

def copyC (sz k : Nat) (new : List CV) (H : Heap) : CV → Option (CV × Heap)
  | .os s i off n =>
    if s = sz then
      (H.get i).bind fun cs => if off + n * sz ≤ cs.length then some (.int .i64 (min k n : Nat), H.put i (setMany cs off (new.take (min k n * sz)))) else none
    else none
  | _ => none

def clearC (sz : Nat) (zero : List CV) (H : Heap) : CV → Option Heap
  | .os s i off n =>
    if s = sz then (H.get i).bind fun cs => if off + n * sz ≤ cs.length then some (H.put i (setMany cs off (repC zero n))) else none
    else none
  | _ => none

def mkslC (sz bytes : Nat) (zero : List CV) (H : Heap) : CV → CV → Option (CV × Heap)
  | .int _ l, .int _ c =>
    if 0 ≤ l ∧ l ≤ c ∧ c * bytes ≤ 140737488355328 ∧ c ≤ 140737488355328 then some (.os sz (.blk H.bl.length) 0 l.toNat, H.push (.cells (repC zero c.toNat)))
    else none
  | _, _ => none

def mkslFC (bytes : Nat) (zero : List CV) (H : Heap) : CV → CV → Option (CV × Heap)
  | .int _ l, .int _ c => if 0 ≤ l ∧ l = c ∧ c * bytes ≤ 140737488355328 ∧ c ≤ 140737488355328 then some (.vs (repC zero l.toNat) l.toNat, H) else none
  | _, _ => none

def lookC (kk : Nat) (zero : CV) (ok : Bool) (k : CV) (H : Heap) : CV → Option CV
  | .nilm => (mkey kk k k).map fun _ => if ok then .tup [zero, .bool false] else zero
  | .om n =>
    match H.bl[n]? with
    | some (.map es) =>
      (mfind kk k es 0).bind fun
        | some (_, v) => some (if ok then .tup [v, .bool true] else v)
        | none => (mkey kk k k).map fun _ => if ok then .tup [zero, .bool false] else zero
    | _ => none
  | _ => none

def mputC (kk : Nat) (k v : CV) (H : Heap) : CV → Option Heap
  | .om n =>
    if kk = 1 then none else
    match H.bl[n]? with
    | some (.map es) =>
      (mfind kk k es 0).bind fun
        | some (i, _) => some { H with bl := H.bl.set n (.map (es.modify i fun e => (e.1, v))) }
        | none => (mkey kk k k).map fun _ => { H with bl := H.bl.set n (.map (es ++ [(k, v)])) }
    | _ => none
  | _ => none

def mdelC (kk : Nat) (k : CV) (H : Heap) : CV → Option Heap
  | .om n =>
    match H.bl[n]? with
    | some (.map es) =>
      (mfind kk k es 0).bind fun
        | some (i, _) => some { H with bl := H.bl.set n (.map (es.eraseIdx i)) }
        | none => (mkey kk k k).map fun _ => H
    | _ => none
  | _ => none

def lenMC (H : Heap) : CV → Option CV
  | .nilm => some (.int .i64 0)
  | .om n =>
    match H.bl[n]? with
    | some (.map es) => some (.int .i64 es.length)
    | _ => none
  | _ => none

/-- Cells that may lie in memory that outlives the frame: no local box. -/
def heapOp : HOp → List CV → Heap → Option (CV × Heap)
  | .box s, [x], H => if ones x.cells && (look H.bx s).isNone then some (.op (.loc s) 0, H.put (.loc s) x.cells) else none
  | .boxh, [x], H => if ones x.cells && !CV.locs x.cells then some (.op (.blk H.bl.length) 0, H.push (.cells x.cells)) else none
  | .newl s zero, [], H => if (look H.bx s).isNone && ones zero && !CV.locs zero then some (.op (.loc s) 0, H.put (.loc s) zero) else none
  | .newh zero, [], H => if ones zero && !CV.locs zero then some (.op (.blk H.bl.length) 0, H.push (.cells zero)) else none
  | .bslF sz len zero parts, vs, H =>
    if vs.length = parts.length then
      (fillC (repC zero len) (parts.zip vs)).bind fun cs =>
        if ones cs && !CV.refs cs && decide (cs.length = len * sz) then some (.vs cs len, H) else none
    else none
  | .bslO sz len zero parts, vs, H =>
    if vs.length = parts.length then
      (fillC (repC zero len) (parts.zip vs)).bind fun cs =>
        if ones cs && !CV.locs cs && decide (cs.length = len * sz) then some (.os sz (.blk H.bl.length) 0 len, H.push (.cells cs)) else none
    else none
  | .load agg n, [x], H => (loadC agg n H x).map fun v => (v, H)
  | .store n, [p, x], H => (storeC n x H p).map fun H' => (.tup [], H')
  | .app sz bytes zero, [s, x], H =>
    if lenOf x = 0 then (if isSl s && isSl x then some (s, H) else none) else
    (shown H sz x).bind fun new =>
      if decide (0 < sz) && decide (0 < bytes) && ones new && !CV.locs new && decide ((lenOf s + lenOf x) * bytes ≤ 140737488355328) && decide (zero.length = sz) && ones zero then
        appC sz (lenOf x) new H s
      else none
  | .appz sz bytes zero, [.nils, .int _ l], H =>
    if decide (0 < sz) && decide (0 < bytes) && decide (0 < l) && decide (l * bytes ≤ 140737488355328) && decide (zero.length = sz) && ones zero && !CV.locs zero then some (.os sz (.blk H.bl.length) 0 l.toNat, H.push (.cells (repC zero l.toNat))) else none
  | .copy sz, [d, x], H => (shown H sz x).bind fun new => if ones new && !CV.locs new then copyC sz (lenOf x) new H d else none
  | .clear sz zero, [s], H => if ones zero && !CV.locs zero && decide (zero.length = sz) then (clearC sz zero H s).map fun H' => (.tup [], H') else none
  | .mksl sz bytes zero, [l, c], H => if decide (zero.length = sz) && ones zero && !CV.locs zero then mkslC sz bytes zero H l c else none
  | .mkslF sz bytes zero, [l, c], H => if decide (zero.length = sz) && !CV.refs zero then mkslFC bytes zero H l c else none
  | .mkmap, [], H => some (.om H.bl.length, H.push (.map []))
  | .look kk zero ok, [m, k], H => (lookC kk zero ok k H m).map fun v => (v, H)
  | .mput kk, [m, k, v], H => if v.und? || v.locv then none else (mputC kk k v H m).map fun H' => (.tup [], H')
  | .mdel kk, [m, k], H => (mdelC kk k H m).map fun H' => (.tup [], H')
  | .lenM, [m], H => (lenMC H m).map fun v => (v, H)
  | _, _, _ => none

/-! ### By value: of what is owned -/

def mapC (f : CV → Option CV) : List CV → Option (List CV)
  | [] => some []
  | c :: cs => (f c).bind fun c' => (mapC f cs).map fun r => c' :: r

mutual
/-- A value as whoever may not write sees it. 'st': it must lie in owned memory alone. 'kn': nil slices stay nil. 'f': for what lies in owned memory. -/
def snapV (H : Heap) (st kn : Bool) (f : CV → Option CV) : CV → Option CV
  | .op i off => (H.get i).bind fun cs => if off ≤ cs.length then (mapC f (cs.drop off)).map .vp else none
  | .os sz i off n =>
    if n = 0 then some (.vs [] 0) else
    (H.get i).bind fun cs => if off + n * sz ≤ cs.length then (mapC f ((cs.drop off).take (n * sz))).map (.vs · n) else none
  | .om _ => none
  | .nils => some (if kn then .nils else .vs [] 0)
  | .vp cs => if st then none else some (.vp cs)
  | .vs cs n => if st && !cs.isEmpty then none else some (.vs cs n)
  | .fn g a c => (snapVs H st kn f a).bind fun a' => (snapVs H st kn f c).map fun c' => .fn g a' c'
  | .ifc t x => (snapV H st kn f x).map (.ifc t)
  | .agg cs => (snapVs H st kn f cs).map .agg
  | .tup cs => (snapVs H st kn f cs).map .tup
  | .und => some .und
  | .bool b => some (.bool b)
  | .int k n => some (.int k n)
  | .float k n => some (.float k n)
  | .cplx k a b => some (.cplx k a b)
  | .str s => some (.str s)
  | .nilp => some .nilp
  | .nilm => some .nilm
  | .nilf => some .nilf
  | .nili => some .nili
def snapVs (H : Heap) (st kn : Bool) (f : CV → Option CV) : List CV → Option (List CV)
  | [] => some []
  | c :: cs => (snapV H st kn f c).bind fun c' => (snapVs H st kn f cs).map fun r => c' :: r
end

def snapN (H : Heap) (st kn : Bool) : Nat → CV → Option CV
  | 0 => fun _ => none
  | n + 1 => snapV H st kn (snapN H st kn n)

/-- Owned memory lies at most so deep. -/
def deep : Nat := 8

def snap (H : Heap) (st kn : Bool) (v : CV) : Option CV := snapN H st kn deep v
def snapL (H : Heap) (st kn : Bool) (l : List CV) : Option (List CV) := mapC (snap H st kn) l

/-! ### Running -/

abbrev Env := List (Nat × CV)

def Env.at (env : Env) (t : Nat) : CV :=
  match look env t with
  | some v => v
  | none => .und

def ev (env : Env) : Opd → CV
  | .t n => Env.at env n
  | .c v => v

def evs (env : Env) : List Opd → List CV
  | [] => []
  | x :: r => ev env x :: evs env r

def keep (env : Env) : List Nat → Env
  | [] => []
  | t :: r => (t, Env.at env t) :: keep env r

def keepB (bx : List (Nat × List CV)) : List Nat → List (Nat × List CV)
  | [] => []
  | t :: r =>
    match look bx t with
    | some cs => (t, cs) :: keepB bx r
    | none => keepB bx r

/-- May a value go on where these slots' boxes alone do? -/
def chkV (l : List Nat) : CV → Bool
  | .op (.loc s) _ => l.contains s
  | v => !v.locv

def chk (l : List Nat) (env : Env) (bx : List (Nat × List CV)) : Bool := (env.all fun x => chkV l x.2) && (bx.all fun x => !CV.locs x.2)

/-- These slots alone go on. -/
def keepE (l : List Nat) (env : Env) (H : Heap) : Option (Env × Heap) :=
  if chk l (keep env l) (keepB H.bx l) then some (keep env l, ⟨keepB H.bx l, H.bl⟩) else none

inductive Ex where
  | norm
  | exit (id : Nat)
  | ret
  deriving DecidableEq

abbrev Caller := CV → List CV → Heap → Option (CV × Heap)

def putD (env : Env) (dst : Option Nat) (v : CV) : Env :=
  match dst with
  | some d => (d, v) :: env
  | none => env

def runOp (call : Caller) (o : COp) (vs : List CV) (H : Heap) : Option (CV × Heap) :=
  match o with
  | .p o => (pureOp o vs).map fun v => (v, H)
  | .h o => heapOp o vs H
  | .hb o => if CV.locs vs then none else heapOp o vs H
  | .hl s o =>
    match vs with
    | .op (.loc t) off :: r => if t = s ∧ CV.locs r = false then heapOp o (.op (.loc t) off :: r) H else none
    | _ => none
  | .callb =>
    match vs with
    | f :: args => (call f args ⟨[], H.bl⟩).map fun x => (x.1, ⟨H.bx, x.2.bl⟩)
    | [] => none
  | .callp =>
    match vs with
    | f :: args => (call f args ⟨[], H.bl⟩).bind fun x => if isPre H.bl x.2.bl then some (x.1, ⟨H.bx, x.2.bl⟩) else none
    | [] => none
  | .callv =>
    match vs with
    | f :: args => if CV.refs (f :: args) then none else (call f args ⟨[], []⟩).map fun x => (x.1, H)
    | [] => none
  | .call =>
    match vs with
    | f :: args => call f args H
    | [] => none

/-- What a guard's slot says: a bool, or that its own statement was passed over. -/
def gvC : CV → Option (Option Bool)
  | .bool b => some (some b)
  | .tup [] => some none
  | _ => none

def runOps (call : Caller) : List CStm → Env → Heap → Option (Env × Heap)
  | [], env, H => some (env, H)
  | s :: r, env, H =>
    match s.guard with
    | none => (runOp call s.op (evs env s.args) H).bind fun x => runOps call r (putD env s.dst x.1) x.2
    | some (g, want) =>
      match gvC (Env.at env g) with
      | some c =>
        if c = some want then (runOp call s.op (evs env s.args) H).bind fun x => runOps call r (putD env s.dst x.1) x.2
        else runOps call r (putD env s.dst (.tup [])) H
      | none => none

abbrev Out := Option (Ex × Env × Heap)

def joinE : Option (List Nat) → Env → Heap → Out
  | none, env, H => some (.norm, env, H)
  | some l, env, H => (keepE l env H).map fun x => (.norm, x.1, x.2)

def iter (id : Nat) (li lo : List Nat) (f : Env → Heap → Out) : Nat → Env → Heap → Out
  | 0, _, _ => none
  | n + 1, env, H =>
    (keepE li env H).bind fun x => (f x.1 x.2).bind fun
      | (.norm, env', H') => iter id li lo f n env' H'
      | (.exit k, env', H') => if k = id then (keepE lo env' H').map fun x => (.norm, x.1, x.2) else some (.exit k, env', H')
      | (.ret, env', H') => some (.ret, env', H')

def runC (call : Caller) (lf : Nat) : CCode → Env → Heap → Out
  | .skip, env, H => some (.norm, env, H)
  | .ops l, env, H => (runOps call l env H).map fun x => (.norm, x.1, x.2)
  | .seq a b, env, H =>
    (runC call lf a env H).bind fun
      | (.norm, env', H') => runC call lf b env' H'
      | r => some r
  | .cond c a b, env, H =>
    match ev env c with
    | .bool t => if t then runC call lf a env H else runC call lf b env H
    | _ => none
  | .block id lo c, env, H =>
    (runC call lf c env H).bind fun
      | (.exit k, env', H') => if k = id then joinE lo env' H' else some (.exit k, env', H')
      | (.norm, env', H') => joinE lo env' H'
      | r => some r
  | .bloop id li lo c, env, H => iter id li lo (fun e h => runC call lf c e h) lf env H
  | .exit id, env, H => some (.exit id, env, H)
  | .ret rs, env, H => some (.ret, Zc.keep env rs, H)

inductive Mode where
  | ref
  | fz (kn : Bool)
  | own
  deriving DecidableEq, Inhabited

inductive Res where
  | tmp (t : Nat)
  | cell (t : Nat) (agg : Bool) (n : Nat)
  deriving Inhabited

structure FInfo where
  mode : Mode
  np : Nat
  code : CCode
  res : List Res
  deriving Inhabited

structure Ctx where
  info : FuncId → Option FInfo
  prim : FuncId → Option (List CV → List Blk → Option (CV × List Blk))

def enterC : Nat → List CV → Env
  | _, [] => []
  | i, v :: r => (i, v) :: enterC (i + 1) r

def resOne (env : Env) (H : Heap) : Res → Option CV
  | .tmp t => some (Env.at env t)
  | .cell t agg n => (heapOp (.load agg n) [Env.at env t] H).map (·.1)

def resAll (env : Env) (H : Heap) : List Res → Option (List CV)
  | [] => some []
  | r :: rs => (resOne env H r).bind fun v => (resAll env H rs).map fun l => v :: l

def resV : List CV → CV
  | [v] => v
  | l => .tup l

/-- A body: what it hands back. -/
def bodyC (run : CCode → Env → Heap → Out) (I : FInfo) (as : List CV) (bl : List Blk) : Option (CV × Heap) :=
  if as.length = I.np then
    (run I.code (enterC 0 as) ⟨[], bl⟩).bind fun
      | (.exit _, _, _) => none
      | (_, env, H) => (resAll env H I.res).map fun vs => (resV vs, H)
  else none

/-- Slices alone: the cells of the one that is handed over. -/
def ownOf (st : Bool) (H : Heap) : CV → Option (Option (Nat × Nat × List CV))
  | .nils => some none
  | .os sz (.blk m) 0 n => (H.get (.blk m)).bind fun cs => if n * sz ≤ cs.length then (mapC (snap (H.kill (.blk m)) st false) cs).map fun cs' => some (sz, n, cs') else none
  | _ => none

def callC (C : Ctx) (run : CCode → Env → Heap → Out) (f : CV) (args : List CV) (H : Heap) : Option (CV × Heap) :=
  match f with
  | .fn (.func k) first cap =>
    let as := first ++ (args ++ cap)
    match C.prim k with
    | some s =>
      if CV.locs as then none else
      (s as H.bl).bind fun x => if x.1.locv then none else some (x.1, ⟨H.bx, x.2⟩)
    | none =>
      match C.info k with
      | none => none
      | some I =>
        match I.mode with
        | .ref =>
          if CV.locs as then none else
          (bodyC run I as H.bl).bind fun x => if x.1.locv then none else some (x.1, ⟨H.bx, x.2.bl⟩)
        | .fz kn =>
          (snapL H false false as).bind fun as' =>
            (bodyC run I as' []).bind fun x => (snap x.2 (CV.refs as) kn x.1).map fun v => (v, H)
        | .own =>
          (snapL H false false as).bind fun as' =>
            (bodyC run I as' []).bind fun x =>
              (ownOf (CV.refs as) x.2 x.1).map fun
                | none => (.nils, H)
                | some (sz, n, cs) => (.os sz (.blk H.bl.length) 0 n, H.push (.cells cs))
  | _ => none

def run (C : Ctx) : Nat → CCode → Env → Heap → Out
  | 0 => fun _ _ _ => none
  | n + 1 => runC (callC C (run C n)) n

end Go.Zc
