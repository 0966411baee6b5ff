/- From the model's code to the interpreter's. No condition. -/
import Derived.Test.YtfblegjbmhgepaaZcCode
set_option linter.all false
namespace Go.Zc

def cOfV : Value → Option CV
  | .bool b => some (.bool b)
  | .int k n => some (.int k n)
  | .float k b => some (.float k b)
  | .complex k a b => some (.cplx k a b)
  | .string s => some (.str s)
  | .pointer none => some .nilp
  | .slice none 0 0 => some .nils
  | .map none => some .nilm
  | .nilFunc => some .nilf
  | .nilIface => some .nili
  | _ => none

def cOfVs : List Value → Option (List CV)
  | [] => some []
  | v :: r => (cOfV v).bind fun c => (cOfVs r).map fun l => c :: l

def cOfA : Value → Option CV
  | .agg vs => (cOfVs vs.toList).map .agg
  | v => cOfV v

def opd : Operand → Option Opd
  | .tmp t => some (.t t)
  | .const v => (cOfA v).map .c
  | .func f => some (.c (.fn (.func f) [] []))
  | .global _ => none

def opds : List Operand → Option (List Opd)
  | [] => some []
  | x :: r => (opd x).bind fun y => (opds r).map fun l => y :: l

def oopd : Option Operand → Option (List Opd)
  | none => some []
  | some x => (opd x).map fun y => [y]

/-- What is told of a function from outside: which memory it makes is for others, which slices it writes; which slots live at a loop's head, and behind it. -/
structure Ann where
  heap : List Nat
  own : List Nat
  loops : List (Nat × List Nat × List Nat)
  blocks : List (Nat × List Nat)
  boxes : List Nat
  deriving Inhabited

def szOf (P : Program) (t : TypeId) : Option Nat := (P.info? t).map (·.size)

def isAggT (P : Program) (t : TypeId) : Option Bool :=
  match P.underlying t with
  | some (.struct _) | some (.array _ _) => some true
  | some _ => some false
  | none => none

/-- Is it an aggregate, and how many cells has it; what is none has one. -/
def shapeOf (P : Program) (t : TypeId) : Option (Bool × Nat) :=
  match isAggT P t, szOf P t with
  | some true, some n => some (true, n)
  | some false, some 1 => some (false, 1)
  | _, _ => none

def zeroCV (P : Program) (t : TypeId) : Option CV := ((P.info? t).bind (·.zero)).bind cOfA

def zeroCs (P : Program) (t : TypeId) : Option (List CV) := ((P.info? t).bind (·.zero)).bind fun z => cOfVs z.cells.toList

def eqFs (P : Program) (f : TypeId → Option EqT) : List Field → Option (List (Nat × Bool × Nat × EqT))
  | [] => some []
  | fd :: r =>
    if fd.name = "_" then none else
    match shapeOf P fd.type, f fd.type with
    | some s, some e => (eqFs P f r).map fun l => (fd.offset, s.1, s.2, e) :: l
    | _, _ => none

def eqT (P : Program) : Nat → TypeId → Option EqT
  | 0, _ => none
  | d + 1, t =>
    match P.underlying t with
    | some .bool => some .bool
    | some (.int _) => some .int
    | some (.pointer _) => some .ptr
    | some (.slice _) => some .sl
    | some (.map _ _) => some .mp
    | some (.func ..) => some .fn
    | some (.struct fs) =>
      if P.stoodInHeld t || P.eqGuardType P.depth t then none else
      (eqFs P (eqT P d) fs.toList).map .parts
    | _ => none

def places (P : Program) (fs : Array Field) : List (Nat × Operand) → Option (List (Nat × Nat) × List Opd)
  | [] => some ([], [])
  | (i, x) :: r =>
    match fs[i]?, opd x, places P fs r with
    | some f, some y, some (ps, ys) => (szOf P f.type).map fun n => ((f.offset, n) :: ps, y :: ys)
    | _, _, _ => none

def placesA (sz : Nat) : List (Nat × Operand) → Option (List (Nat × Nat) × List Opd)
  | [] => some ([], [])
  | (i, x) :: r =>
    match opd x, placesA sz r with
    | some y, some (ps, ys) => some ((i * sz, sz) :: ps, y :: ys)
    | _, _ => none

def allSized (P : Program) (fs : Array Field) : Bool := fs.toList.all fun f => (szOf P f.type).isSome

def plainKey (P : Program) (t : TypeId) : Option Nat :=
  match P.underlying t with
  | some (.int _) => some 0
  | some .string => some 1
  | some .bool => some 2
  | _ => none

def comp1 (P : Program) (an : Ann) (dst : Option Nat) : Op → Option (COp × List Opd)
  | .move x => (opd x).map fun y => (.p .mov, [y])
  | .assign x => (opd x).map fun y => (.p .mov, [y])
  | .pick c a b => (opds [c, a, b]).map fun l => (.p .pick, l)
  | .alloc e =>
    match zeroCs P e, dst with
    | some z, some d => if ones z && !CV.locs z then some (.h (if an.heap.contains d then .newh z else .newl d z), []) else none
    | _, _ => none
  | .box _ x =>
    match opd x, dst with
    | some y, some d => some (.h (if an.heap.contains d then .boxh else .box d), [y])
    | _, _ => none
  | .build t parts =>
    match zeroCs P t, P.underlying t with
    | some z, some (.struct fs) => if allSized P fs then (places P fs parts.toList).map fun x => (.p (.bld z x.1), x.2) else none
    | some z, some (.array _ e) => (szOf P e).bind fun n => (placesA n parts.toList).map fun x => (.p (.bld z x.1), x.2)
    | _, _ => none
  | .buildSlice t len parts =>
    match P.underlying t, dst with
    | some (.slice e), some d =>
      match szOf P e, zeroCs P e with
      | some n, some z =>
        if z.length = n ∧ 0 < n ∧ len * n ≤ 16777216 ∧ ones z = true then
          (placesA n parts.toList).map fun x => (.h (if an.own.contains d then .bslO n len z x.1 else .bslF n len z x.1), x.2)
        else none
      | _, _ => none
    | _, _ => none
  | .load t a => (shapeOf P t).bind fun s => (opd a).map fun y => (.h (.load s.1 s.2), [y])
  | .store t a x => (szOf P t).bind fun n => (opds [a, x]).map fun l => (.h (.store n), l)
  | .nilCheck x => (opd x).map fun y => (.p .nchk, [y])
  | .binOp op t x y _ =>
    match op with
    | .eql | .neq => (opds [x, y]).map fun l => (.p (.bin op ((eqT P 20 t).getD .ifc)), l)
    | _ => (opds [x, y]).map fun l => (.p (.bin op .ifc), l)
  | .unOp op _ x => (opd x).map fun y => (.p (.un op), [y])
  | .convert src dst x =>
    match P.underlying src, P.underlying dst with
    | some _, some (.int k) => (opd x).map fun y => (.p (.toInt k), [y])
    | some _, some (.float k) => (opd x).map fun y => (.p (.toFloat k), [y])
    | _, _ => none
  | .makeInterface t x =>
    match P.underlying t with
    | some (.interface _) | none => none
    | _ => (opd x).map fun y => (.p (.mkif t), [y])
  | .makeFunc f a c => (opds a.toList).bind fun x => (opds c.toList).map fun y => (.p (.mkfn f x.length), x ++ y)
  | .makeMap _ none => some (.h .mkmap, [])
  | .makeSlice t l c =>
    match P.underlying t with
    | some (.slice e) =>
      match P.info? e, zeroCs P e with
      | some i, some z => if 0 < i.size then (opds [l, c]).map fun xs => (.h (match dst with | some d => if an.own.contains d then .mkslF i.size i.bytes z else .mksl i.size i.bytes z | none => .mksl i.size i.bytes z), xs) else none
      | _, _ => none
    | _ => none
  | .slice t x lo hi none =>
    match P.underlying t with
    | some (.slice e) => (szOf P e).bind fun n => (opd x).bind fun y => (oopd lo).bind fun l => (oopd hi).map fun h => (.p (.slc n lo.isSome hi.isSome), y :: (l ++ h))
    | _ => none
  | .fieldAddr s x f =>
    match P.underlying s with
    | some (.struct fs) =>
      (fs[f]?).bind fun fd =>
        match szOf P fd.type with
        | some (_ + 1) => (opd x).map fun y => (.p (.faddr fd.offset), [y])
        | _ => none
    | _ => none
  | .field t x f =>
    match P.underlying t with
    | some (.struct fs) => (fs[f]?).bind fun fd => (shapeOf P fd.type).bind fun s => (opd x).map fun y => (.p (.fld s.1 s.2 fd.offset), [y])
    | _ => none
  | .indexAddr t x i =>
    match P.underlying t with
    | some (.slice e) => (szOf P e).bind fun n => (opds [x, i]).map fun l => (.p (.iaddr n), l)
    | some (.array len e) => (szOf P e).bind fun n => (opds [x, i]).map fun l => (.p (.iaddrA len n), l)
    | _ => none
  | .index t x i =>
    match P.underlying t with
    | some (.array len e) => (shapeOf P e).bind fun s => (opds [x, i]).map fun l => (.p (.idxA len s.1 s.2), l)
    | some .string => (opds [x, i]).map fun l => (.p .idxS, l)
    | _ => none
  | .lookup t m k ok =>
    match P.underlying t with
    | some (.map kt e) => (plainKey P kt).bind fun kk => (zeroCV P e).bind fun z => (opds [m, k]).map fun l => (.h (.look kk z ok), l)
    | _ => none
  | .mapUpdate t m k v =>
    match P.underlying t with
    | some (.map kt _) => (plainKey P kt).bind fun kk => (opds [m, k, v]).map fun l => (.h (.mput kk), l)
    | _ => none
  | .extract x i => (opd x).map fun y => (.p (.ext i), [y])
  | .call { callee := .value f, args, .. } => (opd f).bind fun g => (opds args.toList).map fun l => (.call, g :: l)
  | .call { callee := .builtin b, args, argTypes } =>
    match b, argTypes.toList, args.toList with
    | .len, [t], [x] =>
      match P.underlying t with
      | some .string => (opd x).map fun y => (.p .lenS, [y])
      | some (.slice _) => (opd x).map fun y => (.p .len, [y])
      | some (.array n _) => (opd x).map fun y => (.p (.lenK n), [y])
      | some (.map _ _) => (opd x).map fun y => (.h .lenM, [y])
      | _ => none
    | .append, [t, u], [s, x] =>
      match P.underlying t, P.underlying u with
      | some (.slice e), some (.slice _) =>
        match P.info? e, zeroCs P e with
        | some i, some z => (opds [s, x]).map fun l => (.h (.app i.size i.bytes z), l)
        | _, _ => none
      | some (.slice e), some (.int _) =>
        match P.info? e, zeroCs P e with
        | some i, some z => (opds [s, x]).map fun l => (.h (.appz i.size i.bytes z), l)
        | _, _ => none
      | _, _ => none
    | .copy, [t, _], [d, x] =>
      match P.underlying t with
      | some (.slice e) => (szOf P e).bind fun n => (opds [d, x]).map fun l => (.h (.copy n), l)
      | _ => none
    | .clear, [t], [x] =>
      match P.underlying t with
      | some (.slice e) =>
        match szOf P e, zeroCs P e with
        | some n, some z => (opd x).map fun y => (.h (.clear n z), [y])
        | _, _ => none
      | _ => none
    | .delete, [t, _], [m, k] =>
      match P.underlying t with
      | some (.map kt _) => (plainKey P kt).bind fun kk => (opds [m, k]).map fun l => (.h (.mdel kk), l)
      | _ => none
    | .complex, _, [a, b] => (opds [a, b]).map fun l => (.p .cplx, l)
    | .real, _, [a] => (opds [a]).map fun l => (.p .re, l)
    | .imag, _, [a] => (opds [a]).map fun l => (.p .im, l)
    | .min, _, l => (opds l).map fun l => (.p .min, l)
    | .max, _, l => (opds l).map fun l => (.p .max, l)
    | .cap, [t], [x] =>
      match P.underlying t with
      | some (.slice _) => (opd x).map fun y => (.p .cap, [y])
      | _ => none
    | _, _, _ => none
  | _ => none

def gOf (ops : Array Oper) : Option (Nat × Bool) → Option (Option (Nat × Bool))
  | none => some none
  | some (j, want) => ((ops[j]?).bind (·.dst)).map fun t => some (t, want)

def compStm (P : Program) (an : Ann) (nt : Nat) (ops : Array Oper) (o : Oper) : Option CStm :=
  if o.dst.all (· < nt) then
    match comp1 P an o.dst o.op, gOf ops o.guard with
    | some (c, args), some g => some ⟨o.dst, c, args, g⟩
    | _, _ => none
  else none

def compStms (P : Program) (an : Ann) (nt : Nat) (ops : Array Oper) : List Oper → Option (List CStm)
  | [] => some []
  | o :: r => (compStm P an nt ops o).bind fun s => (compStms P an nt ops r).map fun l => s :: l

/-- What a statement of a region may look at, or turn: a box, or the blocks. -/
inductive Rsc where
  | loc (s : Nat)
  | bl
  deriving DecidableEq

/-- What it looks at (or all), what it turns (or all). -/
structure Foot where
  ra : Bool
  r : List Rsc
  wa : Bool
  w : List Rsc

def footOf (quiet : FuncId → Bool) (s : CStm) : Foot :=
  match s.op with
  | .p _ => ⟨false, [], false, []⟩
  | .h (.bslF ..) => ⟨false, [], false, []⟩
  | .h (.newl d _) => ⟨false, [.loc d], false, [.loc d]⟩
  | .h (.box d) => ⟨false, [.loc d], false, [.loc d]⟩
  | .h (.load ..) | .h (.look ..) | .h .lenM => ⟨true, [], false, []⟩
  | .h _ => ⟨true, [], true, []⟩
  | .hl d (.load ..) => ⟨false, [.loc d], false, []⟩
  | .hl d (.store ..) => ⟨false, [.loc d], false, [.loc d]⟩
  | .hl _ _ => ⟨true, [], true, []⟩
  | .hb (.load ..) | .hb (.look ..) | .hb .lenM => ⟨false, [.bl], false, []⟩
  | .hb (.box _) | .hb (.newl ..) => ⟨true, [], true, []⟩
  | .hb _ => ⟨false, [.bl], false, [.bl]⟩
  | .callb =>
    match s.args with
    | .c (.fn (.func k) _ _) :: _ => if quiet k then ⟨false, [.bl], false, []⟩ else ⟨false, [.bl], false, [.bl]⟩
    | _ => ⟨false, [.bl], false, [.bl]⟩
  | .callp => ⟨false, [.bl], false, [.bl]⟩
  | .callv =>
    match s.args with
    | .c (.fn (.func k) _ _) :: _ => if quiet k then ⟨false, [], false, []⟩ else ⟨true, [], true, []⟩
    | _ => ⟨true, [], true, []⟩
  | .call =>
    match s.args with
    | .c (.fn (.func k) _ _) :: _ => if quiet k then ⟨true, [], false, []⟩ else ⟨true, [], true, []⟩
    | _ => ⟨true, [], true, []⟩

/-- What looks at blocks alone, by an address. -/
def steady (s : CStm) : Bool :=
  match s.op, s.args with
  | .hb (.load ..), .t _ :: _ | .hb (.look ..), .t _ :: _ | .hb .lenM, .t _ :: _ => true
  | _, _ => false
/-- What leaves the blocks that there are. -/
def grows (s : CStm) : Bool :=
  match s.op with
  | .callp | .hb .boxh | .hb (.newh _) | .hb .mkmap => true
  | _ => false
def swaps (x y : CStm) : Bool := (steady x && grows y) || (grows x && steady y)

def hit (a : Bool) (l : List Rsc) (b : Bool) (m : List Rsc) : Bool := (a && (b || !m.isEmpty)) || (b && !l.isEmpty) || l.any fun r => m.contains r

def Foot.clash (x y : Foot) : Bool := hit x.wa x.w y.ra y.r || hit x.wa x.w y.wa y.w || hit y.wa y.w x.ra x.r

def temps : List Opd → List Nat
  | [] => []
  | .t n :: r => n :: temps r
  | .c _ :: r => temps r

def reads (s : CStm) : List Nat :=
  match s.guard with
  | some (g, _) => g :: temps s.args
  | none => temps s.args

/-- May two statements of a region be turned about? -/
def meet (quiet : FuncId → Bool) (x y : CStm) : Bool :=
  ((footOf quiet x).clash (footOf quiet y) && !swaps x y) ||
  (match x.dst with | some d => (reads y).contains d || y.dst == some d | none => false) ||
  (match y.dst with | some d => (reads x).contains d | none => false)

/-- No statement waits for itself or a later one. -/
def early (ops : Array Oper) : Bool := ops.toList.zipIdx.all fun x => x.1.after.toList.all fun e => !Region.binds .any e || decide (e.on < x.2)

def maskOf (acc : List Nat) (o : Oper) : Nat := o.after.toList.foldl (fun s e => if Region.binds .any e then s ||| 2 ^ e.on ||| acc.getD e.on 0 else s) 0

/-- Which operations each one waits for. -/
def masks : List Nat → List Oper → List Nat
  | acc, [] => acc
  | acc, o :: r => masks (acc ++ [maskOf acc o]) r

def meets (quiet : FuncId → Bool) (b : List Nat) (l : List CStm) (y : CStm) (j : Nat) : Bool :=
  (l.take j).zipIdx.all fun x => !meet quiet x.1 y || (b.getD j 0).testBit x.2

def drawOk (quiet : FuncId → Bool) (ops : Array Oper) (l : List CStm) : Bool :=
  early ops && l.zipIdx.all fun y => meets quiet (masks [] ops.toList) l y.1 y.2

/-- Where an address comes from, in a region. -/
def rootIn (l : List CStm) : Nat → Nat → Nat
  | 0, t => t
  | n + 1, t =>
    match l.find? fun s => s.dst == some t with
    | some ⟨_, .p (.faddr _), [.t u], _⟩ => rootIn l n u
    | some ⟨_, .p (.iaddrA _ _), .t u :: _, _⟩ => rootIn l n u
    | some ⟨_, .p .mov, [.t u], _⟩ => rootIn l n u
    | _ => t

/-- A statement, with where it works: looked at when it runs. -/
def focus (boxes : List Nat) (l : List CStm) (s : CStm) : CStm :=
  match s.op, s.args with
  | .h (.load a n), .t t :: _ => if boxes.contains (rootIn l 20 t) then { s with op := .hl (rootIn l 20 t) (.load a n) } else { s with op := .hb (.load a n) }
  | .h (.store n), .t t :: _ => if boxes.contains (rootIn l 20 t) then { s with op := .hl (rootIn l 20 t) (.store n) } else { s with op := .hb (.store n) }
  | .h (.box _), _ | .h (.newl ..), _ | .h (.bslF ..), _ => s
  | .h o, _ => { s with op := .hb o }
  | .call, _ => { s with op := .callb }
  | _, _ => s

/-- The same, its calls looked at more narrowly. -/
def focusC (quiet : FuncId → Bool) (v : Bool) (s : CStm) : CStm :=
  match s.op, s.args with
  | .callb, .c (.fn (.func k) _ _) :: _ => if quiet k then (if v then { s with op := .callv } else s) else { s with op := .callp }
  | _, _ => s

/-- What the interpreter does not speak of: it hands nothing back. -/
def bad : CCode := .cond (.c .und) .skip .skip

def compC (P : Program) (quiet : FuncId → Bool) (an : Ann) (nt : Nat) (rs : List Nat) : Code → Option CCode
  | .skip => some .skip
  | .region _ ops draw =>
    match compStms P an nt ops ops.toList with
    | some l =>
      if !draw || drawOk quiet ops l then some (.ops l) else
      if drawOk quiet ops (l.map (focus an.boxes l)) then some (.ops (l.map (focus an.boxes l))) else
      if drawOk quiet ops ((l.map (focus an.boxes l)).map (focusC quiet false)) then some (.ops ((l.map (focus an.boxes l)).map (focusC quiet false))) else
      if drawOk quiet ops ((l.map (focus an.boxes l)).map (focusC quiet true)) then some (.ops ((l.map (focus an.boxes l)).map (focusC quiet true))) else some bad
    | none => some bad
  | .seq a b => (compC P quiet an nt rs a).bind fun x => (compC P quiet an nt rs b).map fun y => .seq x y
  | .cond c a b => (opd c).bind fun c => (compC P quiet an nt rs a).bind fun x => (compC P quiet an nt rs b).map fun y => .cond c x y
  | .block id (.loop c) =>
    (compC P quiet an nt rs c).bind fun x => (look an.loops id).map fun l => .bloop id l.1 l.2 x
  | .block id c => (compC P quiet an nt rs c).bind fun x => some (.block id (look an.blocks id) x)
  | .exit id => some (.exit id)
  | .ret => some (.ret rs)
  | _ => some bad

def compRes (P : Program) : List ResultVar → Option (List Res)
  | [] => some []
  | .tmp t :: r => (compRes P r).map fun l => .tmp t :: l
  | .cell a t :: r => (shapeOf P t).bind fun s => (compRes P r).map fun l => .cell a s.1 s.2 :: l

def resSlots : List ResultVar → List Nat
  | [] => []
  | .tmp t :: r => t :: resSlots r
  | .cell a _ :: r => a :: resSlots r

def compF (P : Program) (quiet : FuncId → Bool) (an : Ann) (mode : Mode) (fn : Func) : Option FInfo :=
  match fn.body with
  | none => none
  | some c =>
    if fn.name == "runtime.NumGoroutine" then none else
    (compC P quiet an fn.ntmps (resSlots fn.results.toList) c).bind fun x => (compRes P fn.results.toList).map fun rs => ⟨mode, fn.params.size + fn.nfree, x, rs⟩

end Go.Zc
