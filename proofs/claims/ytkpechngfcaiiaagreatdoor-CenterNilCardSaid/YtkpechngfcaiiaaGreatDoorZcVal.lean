/- Clean values: what a run of Go code computes, without addresses, capacities, orders and the tape; how they stand to the model's values. No condition. -/
import Derived.Calls
import Derived.Below
import Derived.MapKept
import GoSem.Dispatch
import GoSem.Core.Utf8
import Derived.Laws.Cells
import Derived.Laws.IdiomCopy
set_option linter.all false
section
namespace Go.Zc

inductive Id where
  | loc (s : Nat)
  | blk (n : Nat)
  deriving DecidableEq

inductive CV where
  | und
  | bool (b : Bool)
  | int (k : IntKind) (n : Int)
  | float (k : FloatKind) (bits : Nat)
  | cplx (k : FloatKind) (re im : Nat)
  | str (s : ByteArray)
  | nilp
  | op (i : Id) (off : Nat)
  | vp (cs : List CV)
  | nils
  | os (sz : Nat) (i : Id) (off len : Nat)
  | vs (cs : List CV) (len : Nat)
  | nilm
  | om (n : Nat)
  | fn (f : Fn) (first captured : List CV)
  | nilf
  | ifc (t : TypeId) (v : CV)
  | nili
  | agg (cs : List CV)
  | tup (cs : List CV)
  deriving Inhabited

def CV.cells : CV → List CV
  | .agg cs => cs
  | v => [v]

/-- May it lie in one cell? -/
def CV.one : CV → Bool
  | .und | .agg _ | .tup _ => false
  | _ => true

def oneV : Value → Bool
  | .agg _ | .tuple _ => false
  | _ => true

mutual
/-- Does it hold a reference to what somebody owns? -/
def CV.ref : CV → Bool
  | .op .. => true
  | .os .. => true
  | .om .. => true
  | .fn _ a b => CV.refs a || CV.refs b
  | .ifc _ v => CV.ref v
  | .agg cs => CV.refs cs
  | .tup cs => CV.refs cs
  | _ => false
def CV.refs : List CV → Bool
  | [] => false
  | c :: cs => CV.ref c || CV.refs cs
end

inductive Blk where
  | dead
  | cells (cs : List CV)
  | map (es : List (CV × CV))
  deriving Inhabited

structure Heap where
  bx : List (Nat × List CV)
  bl : List Blk
  deriving Inhabited

def Heap.nil : Heap := ⟨[], []⟩

def look {α : Type} : List (Nat × α) → Nat → Option α
  | [], _ => none
  | (i, x) :: r, j => bif Nat.beq i j then some x else look r j

def Heap.get (H : Heap) : Id → Option (List CV)
  | .loc s => look H.bx s
  | .blk n => match H.bl[n]? with
    | some (.cells cs) => some cs
    | _ => none

def Blk.dead? : Blk → Bool
  | .dead => true
  | _ => false

def Heap.live (H : Heap) : Id → Prop
  | .loc s => ∃ cs, look H.bx s = some cs
  | .blk n => ∃ b, H.bl[n]? = some b ∧ b.dead? = false

structure IM where
  lo : Nat → Option Nat
  bl : List Nat

def IM.get (ι : IM) : Id → Option Nat
  | .loc s => ι.lo s
  | .blk n => ι.bl[n]?

/-- Without the frame's own boxes. -/
def IM.glob (ι : IM) : IM := ⟨fun _ => none, ι.bl⟩

/-- Under which map what lies in a block is told. -/
def IM.of (ι : IM) : Id → IM
  | .loc _ => ι
  | .blk _ => ι.glob

def IM.nil : IM := ⟨fun _ => none, []⟩

def csize (w : World) (b : Nat) : Option Nat :=
  match w.heap[b]? with
  | some (.cells c _ _) => some c.size
  | _ => none

mutual
/-- By value: a clean value and the model's. 'F': blocks that nobody writes any more. -/
def BR (w : World) (F : Nat → Prop) : CV → Value → Prop
  | .und, _ => True
  | .bool b, v => v = .bool b
  | .int k n, v => v = .int k n
  | .float k n, v => v = .float k n
  | .cplx k a b, v => v = .complex k a b
  | .str s, v => v = .string s
  | .nilp, v => v = .pointer none
  | .op _ _, _ => False
  | .vp cs, v => ∃ b o, v = .pointer (some ⟨b, o, none⟩) ∧ F b ∧ BRc w F cs b o
  | .nils, v => v = .slice none 0 0
  | .os _ _ _ _, _ => False
  | .vs cs len, v => ∃ base cap, v = .slice base len cap ∧ len ≤ cap ∧ (cs = [] ∨ ∃ b o, base = some ⟨b, o, none⟩ ∧ F b ∧ BRc w F cs b o)
  | .nilm, v => v = .map none
  | .om _, _ => False
  | .fn f a c, v => ∃ a' c', v = .func f a' c' ∧ BRl w F a a'.toList ∧ BRl w F c c'.toList
  | .nilf, v => v = .nilFunc
  | .ifc t x, v => ∃ y, v = .iface t y ∧ BR w F x y
  | .nili, v => v = .nilIface
  | .agg cs, v => ∃ vs, v = .agg vs ∧ BRl w F cs vs.toList
  | .tup cs, v => ∃ vs, v = .tuple vs ∧ BRl w F cs vs.toList
def BRl (w : World) (F : Nat → Prop) : List CV → List Value → Prop
  | [], vs => vs = []
  | c :: cs, vs => ∃ u us, vs = u :: us ∧ BR w F c u ∧ BRl w F cs us
def BRc (w : World) (F : Nat → Prop) : List CV → Nat → Nat → Prop
  | [], _, _ => True
  | c :: cs, b, o => (∃ u, w.cell? ⟨b, o, none⟩ = some u ∧ BR w F c u) ∧ BRc w F cs b (o + 1)
end

mutual
/-- With what is owned: 'ι' tells which block each is. -/
def VR (w : World) (F : Nat → Prop) (ι : IM) : CV → Value → Prop
  | .op i off, v => ∃ b, ι.get i = some b ∧ v = .pointer (some ⟨b, off, none⟩)
  | .os sz i off len, v => ∃ base cap, v = .slice base len cap ∧ len ≤ cap ∧
      (cap = 0 ∨ ∃ b n, ι.get i = some b ∧ base = some ⟨b, off, none⟩ ∧ csize w b = some n ∧ off + cap * sz ≤ n)
  | .om n, v => ∃ b, ι.bl[n]? = some b ∧ v = .map (some b)
  | .fn f a c, v => ∃ a' c', v = .func f a' c' ∧ VRl w F ι a a'.toList ∧ VRl w F ι c c'.toList
  | .ifc t x, v => ∃ y, v = .iface t y ∧ VR w F ι x y
  | .agg cs, v => ∃ vs, v = .agg vs ∧ VRl w F ι cs vs.toList
  | .tup cs, v => ∃ vs, v = .tuple vs ∧ VRl w F ι cs vs.toList
  | .und, v => BR w F .und v
  | .bool b, v => BR w F (.bool b) v
  | .int k n, v => BR w F (.int k n) v
  | .float k n, v => BR w F (.float k n) v
  | .cplx k a b, v => BR w F (.cplx k a b) v
  | .str s, v => BR w F (.str s) v
  | .nilp, v => BR w F .nilp v
  | .vp cs, v => BR w F (.vp cs) v
  | .nils, v => BR w F .nils v
  | .vs cs len, v => BR w F (.vs cs len) v
  | .nilm, v => BR w F .nilm v
  | .nilf, v => BR w F .nilf v
  | .nili, v => BR w F .nili v
def VRl (w : World) (F : Nat → Prop) (ι : IM) : List CV → List Value → Prop
  | [], vs => vs = []
  | c :: cs, vs => ∃ u us, vs = u :: us ∧ VR w F ι c u ∧ VRl w F ι cs us
end

theorem cell?_of_block {w w' : World} {b o : Nat} (h : w'.heap[b]? = w.heap[b]?) : w'.cell? ⟨b, o, none⟩ = w.cell? ⟨b, o, none⟩ := by
  simp only [World.cell?, h]

structure Mo (w w' : World) (F F' : Nat → Prop) : Prop where
  f : ∀ b, F b → F' b
  h : ∀ b, F b → w'.heap[b]? = w.heap[b]?

mutual
theorem BR.mono {w w' : World} {F F' : Nat → Prop} (m : Mo w w' F F') : ∀ (c : CV) (v : Value), BR w F c v → BR w' F' c v
  | .und, _, _ => by simp [BR]
  | .bool _, _, h => by simpa [BR] using h
  | .int _ _, _, h => by simpa [BR] using h
  | .float _ _, _, h => by simpa [BR] using h
  | .cplx _ _ _, _, h => by simpa [BR] using h
  | .str _, _, h => by simpa [BR] using h
  | .nilp, _, h => by simpa [BR] using h
  | .op _ _, _, h => by simp [BR] at h
  | .vp cs, v, h => by
    simp only [BR] at h ⊢
    obtain ⟨b, o, h1, h2, h3⟩ := h
    exact ⟨b, o, h1, m.f _ h2, BRc.mono m cs b o h2 h3⟩
  | .nils, _, h => by simpa [BR] using h
  | .os _ _ _ _, _, h => by simp [BR] at h
  | .vs cs len, v, h => by
    simp only [BR] at h ⊢
    obtain ⟨base, cap, h1, h2, h3⟩ := h
    refine ⟨base, cap, h1, h2, ?_⟩
    rcases h3 with h3 | ⟨b, o, h3, h4, h5⟩
    · exact .inl h3
    · exact .inr ⟨b, o, h3, m.f _ h4, BRc.mono m cs b o h4 h5⟩
  | .nilm, _, h => by simpa [BR] using h
  | .om _, _, h => by simp [BR] at h
  | .fn f a c, v, h => by
    simp only [BR] at h ⊢
    obtain ⟨a', c', h1, h2, h3⟩ := h
    exact ⟨a', c', h1, BRl.mono m a _ h2, BRl.mono m c _ h3⟩
  | .nilf, _, h => by simpa [BR] using h
  | .ifc t x, v, h => by
    simp only [BR] at h ⊢
    obtain ⟨y, h1, h2⟩ := h
    exact ⟨y, h1, BR.mono m x y h2⟩
  | .nili, _, h => by simpa [BR] using h
  | .agg cs, v, h => by
    simp only [BR] at h ⊢
    obtain ⟨vs, h1, h2⟩ := h
    exact ⟨vs, h1, BRl.mono m cs _ h2⟩
  | .tup cs, v, h => by
    simp only [BR] at h ⊢
    obtain ⟨vs, h1, h2⟩ := h
    exact ⟨vs, h1, BRl.mono m cs _ h2⟩
theorem BRl.mono {w w' : World} {F F' : Nat → Prop} (m : Mo w w' F F') : ∀ (cs : List CV) (vs : List Value), BRl w F cs vs → BRl w' F' cs vs
  | [], _, h => by simpa [BRl] using h
  | c :: cs, vs, h => by
    simp only [BRl] at h ⊢
    obtain ⟨u, us, h1, h2, h3⟩ := h
    exact ⟨u, us, h1, BR.mono m c u h2, BRl.mono m cs us h3⟩
theorem BRc.mono {w w' : World} {F F' : Nat → Prop} (m : Mo w w' F F') : ∀ (cs : List CV) (b o : Nat), F b → BRc w F cs b o → BRc w' F' cs b o
  | [], _, _, _, _ => by simp [BRc]
  | c :: cs, b, o, hb, h => by
    simp only [BRc] at h ⊢
    obtain ⟨⟨u, h1, h2⟩, h3⟩ := h
    exact ⟨⟨u, (cell?_of_block (m.h b hb)).trans h1, BR.mono m c u h2⟩, BRc.mono m cs b (o + 1) hb h3⟩
end

/-- ι' knows all that ι knows. -/
def IM.le (ι ι' : IM) : Prop := ∀ i b, ι.get i = some b → ι'.get i = some b

theorem IM.glob_le (ι : IM) : ι.glob.le ι := fun i b h => by cases i <;> simp_all [IM.glob, IM.get]
theorem IM.of_le (ι : IM) (i : Id) : (ι.of i).le ι := by cases i <;> first | exact fun _ _ h => h | exact ι.glob_le

theorem IM.le.refl (ι : IM) : ι.le ι := fun _ _ h => h
theorem IM.le.trans {a b c : IM} (h : a.le b) (k : b.le c) : a.le c := fun i x e => k i x (h i x e)

structure MoV (w w' : World) (F F' : Nat → Prop) (ι ι' : IM) : Prop extends Mo w w' F F' where
  i : ι.le ι'
  c : ∀ b n, csize w b = some n → csize w' b = some n

mutual
theorem VR.mono {w w' : World} {F F' : Nat → Prop} {ι ι' : IM} (m : MoV w w' F F' ι ι') : ∀ (c : CV) (v : Value), VR w F ι c v → VR w' F' ι' c v
  | .op i off, v, h => by
    simp only [VR] at h ⊢
    obtain ⟨b, h1, h2⟩ := h
    exact ⟨b, m.i _ _ h1, h2⟩
  | .os sz i off len, v, h => by
    simp only [VR] at h ⊢
    obtain ⟨base, cap, h1, h2, h3⟩ := h
    refine ⟨base, cap, h1, h2, ?_⟩
    rcases h3 with h3 | ⟨b, n, h3, h4, h5, h6⟩
    · exact .inl h3
    · exact .inr ⟨b, n, m.i _ _ h3, h4, m.c _ _ h5, h6⟩
  | .om n, v, h => by
    simp only [VR] at h ⊢
    obtain ⟨b, h1, h2⟩ := h
    exact ⟨b, m.i (.blk n) b h1, h2⟩
  | .fn f a c, v, h => by
    simp only [VR] at h ⊢
    obtain ⟨a', c', h1, h2, h3⟩ := h
    exact ⟨a', c', h1, VRl.mono m a _ h2, VRl.mono m c _ h3⟩
  | .ifc t x, v, h => by
    simp only [VR] at h ⊢
    obtain ⟨y, h1, h2⟩ := h
    exact ⟨y, h1, VR.mono m x y h2⟩
  | .agg cs, v, h => by
    simp only [VR] at h ⊢
    obtain ⟨vs, h1, h2⟩ := h
    exact ⟨vs, h1, VRl.mono m cs _ h2⟩
  | .tup cs, v, h => by
    simp only [VR] at h ⊢
    obtain ⟨vs, h1, h2⟩ := h
    exact ⟨vs, h1, VRl.mono m cs _ h2⟩
  | .und, v, h => by simp only [VR] at h ⊢; exact BR.mono m.toMo _ _ h
  | .bool b, v, h => by simp only [VR] at h ⊢; exact BR.mono m.toMo _ _ h
  | .int k n, v, h => by simp only [VR] at h ⊢; exact BR.mono m.toMo _ _ h
  | .float k n, v, h => by simp only [VR] at h ⊢; exact BR.mono m.toMo _ _ h
  | .cplx k a b, v, h => by simp only [VR] at h ⊢; exact BR.mono m.toMo _ _ h
  | .str s, v, h => by simp only [VR] at h ⊢; exact BR.mono m.toMo _ _ h
  | .nilp, v, h => by simp only [VR] at h ⊢; exact BR.mono m.toMo _ _ h
  | .vp cs, v, h => by simp only [VR] at h ⊢; exact BR.mono m.toMo _ _ h
  | .nils, v, h => by simp only [VR] at h ⊢; exact BR.mono m.toMo _ _ h
  | .vs cs len, v, h => by simp only [VR] at h ⊢; exact BR.mono m.toMo _ _ h
  | .nilm, v, h => by simp only [VR] at h ⊢; exact BR.mono m.toMo _ _ h
  | .nilf, v, h => by simp only [VR] at h ⊢; exact BR.mono m.toMo _ _ h
  | .nili, v, h => by simp only [VR] at h ⊢; exact BR.mono m.toMo _ _ h
theorem VRl.mono {w w' : World} {F F' : Nat → Prop} {ι ι' : IM} (m : MoV w w' F F' ι ι') : ∀ (cs : List CV) (vs : List Value), VRl w F ι cs vs → VRl w' F' ι' cs vs
  | [], _, h => by simpa [VRl] using h
  | c :: cs, vs, h => by
    simp only [VRl] at h ⊢
    obtain ⟨u, us, h1, h2, h3⟩ := h
    exact ⟨u, us, h1, VR.mono m c u h2, VRl.mono m cs us h3⟩
end

mutual
/-- What holds no reference is by value. -/
theorem VR.bv {w : World} {F : Nat → Prop} {ι : IM} : ∀ (c : CV) (v : Value), c.ref = false → VR w F ι c v → BR w F c v
  | .op i off, v, hr, _ => by simp [CV.ref] at hr
  | .os sz i off len, v, hr, _ => by simp [CV.ref] at hr
  | .om n, v, hr, _ => by simp [CV.ref] at hr
  | .fn f a c, v, hr, h => by
    simp only [CV.ref, Bool.or_eq_false_iff] at hr
    simp only [VR, BR] at h ⊢
    obtain ⟨a', c', h1, h2, h3⟩ := h
    exact ⟨a', c', h1, VRl.bv a _ hr.1 h2, VRl.bv c _ hr.2 h3⟩
  | .ifc t x, v, hr, h => by
    simp only [CV.ref] at hr
    simp only [VR, BR] at h ⊢
    obtain ⟨y, h1, h2⟩ := h
    exact ⟨y, h1, VR.bv x y hr h2⟩
  | .agg cs, v, hr, h => by
    simp only [CV.ref] at hr
    simp only [VR, BR] at h ⊢
    obtain ⟨vs, h1, h2⟩ := h
    exact ⟨vs, h1, VRl.bv cs _ hr h2⟩
  | .tup cs, v, hr, h => by
    simp only [CV.ref] at hr
    simp only [VR, BR] at h ⊢
    obtain ⟨vs, h1, h2⟩ := h
    exact ⟨vs, h1, VRl.bv cs _ hr h2⟩
  | .und, v, _, h => by simpa only [VR] using h
  | .bool b, v, _, h => by simpa only [VR] using h
  | .int k n, v, _, h => by simpa only [VR] using h
  | .float k n, v, _, h => by simpa only [VR] using h
  | .cplx k a b, v, _, h => by simpa only [VR] using h
  | .str s, v, _, h => by simpa only [VR] using h
  | .nilp, v, _, h => by simpa only [VR] using h
  | .vp cs, v, _, h => by simpa only [VR] using h
  | .nils, v, _, h => by simpa only [VR] using h
  | .vs cs len, v, _, h => by simpa only [VR] using h
  | .nilm, v, _, h => by simpa only [VR] using h
  | .nilf, v, _, h => by simpa only [VR] using h
  | .nili, v, _, h => by simpa only [VR] using h
theorem VRl.bv {w : World} {F : Nat → Prop} {ι : IM} : ∀ (cs : List CV) (vs : List Value), CV.refs cs = false → VRl w F ι cs vs → BRl w F cs vs
  | [], _, _, h => by simpa only [VRl, BRl] using h
  | c :: cs, vs, hr, h => by
    simp only [CV.refs, Bool.or_eq_false_iff] at hr
    simp only [VRl, BRl] at h ⊢
    obtain ⟨u, us, h1, h2, h3⟩ := h
    exact ⟨u, us, h1, VR.bv c u hr.1 h2, VRl.bv cs us hr.2 h3⟩
end

mutual
theorem BR.vr {w : World} {F : Nat → Prop} {ι : IM} : ∀ (c : CV) (v : Value), BR w F c v → VR w F ι c v
  | .op i off, v, h => by simp [BR] at h
  | .os sz i off len, v, h => by simp [BR] at h
  | .om n, v, h => by simp [BR] at h
  | .fn f a c, v, h => by
    simp only [VR, BR] at h ⊢
    obtain ⟨a', c', h1, h2, h3⟩ := h
    exact ⟨a', c', h1, BRl.vr a _ h2, BRl.vr c _ h3⟩
  | .ifc t x, v, h => by
    simp only [VR, BR] at h ⊢
    obtain ⟨y, h1, h2⟩ := h
    exact ⟨y, h1, BR.vr x y h2⟩
  | .agg cs, v, h => by
    simp only [VR, BR] at h ⊢
    obtain ⟨vs, h1, h2⟩ := h
    exact ⟨vs, h1, BRl.vr cs _ h2⟩
  | .tup cs, v, h => by
    simp only [VR, BR] at h ⊢
    obtain ⟨vs, h1, h2⟩ := h
    exact ⟨vs, h1, BRl.vr cs _ h2⟩
  | .und, v, h => by simpa only [VR] using h
  | .bool b, v, h => by simpa only [VR] using h
  | .int k n, v, h => by simpa only [VR] using h
  | .float k n, v, h => by simpa only [VR] using h
  | .cplx k a b, v, h => by simpa only [VR] using h
  | .str s, v, h => by simpa only [VR] using h
  | .nilp, v, h => by simpa only [VR] using h
  | .vp cs, v, h => by simpa only [VR] using h
  | .nils, v, h => by simpa only [VR] using h
  | .vs cs len, v, h => by simpa only [VR] using h
  | .nilm, v, h => by simpa only [VR] using h
  | .nilf, v, h => by simpa only [VR] using h
  | .nili, v, h => by simpa only [VR] using h
theorem BRl.vr {w : World} {F : Nat → Prop} {ι : IM} : ∀ (cs : List CV) (vs : List Value), BRl w F cs vs → VRl w F ι cs vs
  | [], _, h => by simpa only [VRl, BRl] using h
  | c :: cs, vs, h => by
    simp only [VRl, BRl] at h ⊢
    obtain ⟨u, us, h1, h2, h3⟩ := h
    exact ⟨u, us, h1, BR.vr c u h2, BRl.vr cs us h3⟩
end

theorem VR.one {w : World} {F : Nat → Prop} {ι : IM} {c : CV} {v : Value} (h : VR w F ι c v) (h1 : c.one = true) : oneV v = true := by
  cases c <;> simp only [CV.one, Bool.false_eq_true] at h1 <;> simp only [VR, BR] at h
  all_goals first
    | (subst h; rfl)
    | (obtain ⟨_, _, rfl⟩ := h; rfl)
    | (obtain ⟨_, _, rfl, _⟩ := h; rfl)
    | (obtain ⟨_, rfl, _⟩ := h; rfl)

theorem VRl.length {w : World} {F : Nat → Prop} {ι : IM} : ∀ {cs : List CV} {vs : List Value}, VRl w F ι cs vs → vs.length = cs.length
  | [], _, h => by simp only [VRl] at h; simp [h]
  | c :: cs, vs, h => by
    simp only [VRl] at h
    obtain ⟨u, us, rfl, _, h3⟩ := h
    simp [VRl.length h3]

theorem VRl.get {w : World} {F : Nat → Prop} {ι : IM} : ∀ {cs : List CV} {vs : List Value}, VRl w F ι cs vs → ∀ (j : Nat) (c : CV), cs[j]? = some c → ∃ u, vs[j]? = some u ∧ VR w F ι c u
  | [], _, _, j, c, e => by simp at e
  | c :: cs, vs, h, j, x, e => by
    simp only [VRl] at h
    obtain ⟨u, us, rfl, h2, h3⟩ := h
    cases j with
    | zero => simp at e; subst e; exact ⟨u, rfl, h2⟩
    | succ j => simp at e; simpa using VRl.get h3 j x e

theorem VRl.of_get {w : World} {F : Nat → Prop} {ι : IM} : ∀ {cs : List CV} {vs : List Value}, vs.length = cs.length → (∀ (j : Nat) (c : CV) (u : Value), cs[j]? = some c → vs[j]? = some u → VR w F ι c u) → VRl w F ι cs vs
  | [], vs, hl, _ => by simp only [VRl]; exact List.length_eq_zero_iff.1 (by simpa using hl)
  | c :: cs, [], hl, _ => by simp at hl
  | c :: cs, u :: us, hl, h => by
    simp only [VRl]
    exact ⟨u, us, rfl, h 0 c u rfl rfl, VRl.of_get (by simpa using hl) fun j c u h1 h2 => h (j + 1) c u (by simpa using h1) (by simpa using h2)⟩

theorem VRl.append {w : World} {F : Nat → Prop} {ι : IM} : ∀ {cs cs' : List CV} {vs vs' : List Value}, VRl w F ι cs vs → VRl w F ι cs' vs' → VRl w F ι (cs ++ cs') (vs ++ vs')
  | [], _, vs, _, h, k => by simp only [VRl] at h; subst h; simpa using k
  | c :: cs, _, vs, _, h, k => by
    simp only [VRl] at h
    obtain ⟨u, us, rfl, h2, h3⟩ := h
    simp only [List.cons_append, VRl]
    exact ⟨u, _, rfl, h2, VRl.append h3 k⟩

theorem VRl.take {w : World} {F : Nat → Prop} {ι : IM} {cs : List CV} {vs : List Value} (h : VRl w F ι cs vs) (n : Nat) : VRl w F ι (cs.take n) (vs.take n) :=
  .of_get (by simp [VRl.length h]) fun j c u h1 h2 => by
    rw [List.getElem?_take] at h1 h2
    split at h1
    · rename_i hj
      rw [if_pos hj] at h2
      obtain ⟨u', h3, h4⟩ := h.get j c h1
      rw [h2] at h3; cases h3; exact h4
    · simp at h1

theorem VRl.drop {w : World} {F : Nat → Prop} {ι : IM} {cs : List CV} {vs : List Value} (h : VRl w F ι cs vs) (n : Nat) : VRl w F ι (cs.drop n) (vs.drop n) :=
  .of_get (by simp [VRl.length h]) fun j c u h1 h2 => by
    rw [List.getElem?_drop] at h1 h2
    obtain ⟨u', h3, h4⟩ := h.get _ c h1
    rw [h2] at h3; cases h3; exact h4

theorem VRl.set {w : World} {F : Nat → Prop} {ι : IM} {cs : List CV} {vs : List Value} (h : VRl w F ι cs vs) (n : Nat) {c : CV} {u : Value} (hu : VR w F ι c u) : VRl w F ι (cs.set n c) (vs.set n u) :=
  .of_get (by simp [VRl.length h]) fun j c' u' h1 h2 => by
    rw [List.getElem?_set] at h1 h2
    split at h1
    · rename_i hj
      rw [if_pos hj] at h2
      split at h1
      · rename_i hlt
        rw [if_pos (by rw [VRl.length h]; exact hlt)] at h2
        cases h1; cases h2; exact hu
      · simp at h1
    · rename_i hj
      rw [if_neg hj] at h2
      obtain ⟨u2, h3, h4⟩ := h.get _ c' h1
      rw [h2] at h3; cases h3; exact h4

theorem VR.cells {w : World} {F : Nat → Prop} {ι : IM} {c : CV} {v : Value} (h : VR w F ι c v) (hu : c ≠ .und) : VRl w F ι c.cells v.cells.toList := by
  by_cases ha : ∃ cs, c = .agg cs
  · obtain ⟨cs, rfl⟩ := ha
    simp only [VR] at h
    obtain ⟨vs, rfl, h2⟩ := h
    exact h2
  · have hc : c.cells = [c] := by cases c <;> first | rfl | exact (ha ⟨_, rfl⟩).elim
    have hv : v.cells = #[v] := by
      cases c <;> simp only [VR, BR] at h <;> first
        | exact (hu rfl).elim
        | exact (ha ⟨_, rfl⟩).elim
        | (subst h; rfl)
        | (obtain ⟨_, _, rfl⟩ := h; rfl)
        | (obtain ⟨_, _, rfl, _⟩ := h; rfl)
        | (obtain ⟨_, rfl, _⟩ := h; rfl)
    rw [hc, hv]
    simp only [VRl]
    exact ⟨v, [], rfl, h, rfl⟩

/-- The cells of an owned block: at least the clean ones. -/
def CR (w : World) (F : Nat → Prop) (ι : IM) (cs : List CV) (c : Array Value) : Prop :=
  ∀ (j : Nat) (x : CV), cs[j]? = some x → ∃ u, c[j]? = some u ∧ VR w F ι x u

structure ER (w : World) (F : Nat → Prop) (ι : IM) (e : CV × CV) (m : MapEntry) : Prop where
  key : BR w F e.1 m.key
  one : e.1.one = true
  val : VR w F ι e.2 m.val
  vund : e.2 ≠ .und

inductive MR (w : World) (F : Nat → Prop) (ι : IM) : List (CV × CV) → List MapEntry → Prop where
  | nil : MR w F ι [] []
  | cons {e : CV × CV} {m : MapEntry} {es : List (CV × CV)} {ms : List MapEntry} : ER w F ι e m → MR w F ι es ms → MR w F ι (e :: es) (m :: ms)

def Live (ι : IM) (H : Heap) (b : Nat) : Prop := ∃ i, H.live i ∧ ι.get i = some b

/-- What the program's variables hold, that nobody writes. -/
class Globs where
  cells : List (Nat × List CV)
variable [Globs]
def GlobOk (w : World) (F : Nat → Prop) : Prop := ∀ g cs, look Globs.cells g = some cs → F g ∧ BRc w F cs g 0
theorem GlobOk.mono {w w' : World} {F F' : Nat → Prop} (m : Mo w w' F F') (h : GlobOk w F) : GlobOk w' F' := fun g cs e => ⟨m.f _ (h g cs e).1, BRc.mono m cs g 0 (h g cs e).1 (h g cs e).2⟩

/-- Is it an iterator's block, not a map's? -/
def itE : List (CV × CV) → Bool
  | (.und, _) :: _ => true
  | _ => false
/-- An iterator's block: over a text, or over a map at which it stands ahead of all. -/
def ItOk (ι : IM) (es : List (CV × CV)) (o : Option Obj) : Prop :=
  (∃ (s : ByteArray) (pos : Nat), es = [(.und, .tup [.str s, .int .i64 pos])] ∧ o = some (.stringIter s pos)) ∨
  (es = [(.und, .tup [.nilm])] ∧ ∃ c d, o = some (.mapIter none c #[] d)) ∨
  (∃ m b c d, es = [(.und, .tup [.om m])] ∧ ι.bl[m]? = some b ∧ o = some (.mapIter (some b) c #[] d))

structure Inv (w : World) (F : Nat → Prop) (ι : IM) (H : Heap) : Prop where
  len : ι.bl.length = H.bl.length
  cells : ∀ i cs, H.get i = some cs → ∃ b c e, ι.get i = some b ∧ w.heap[b]? = some (.cells c e (0, 0)) ∧ CR w F (ι.of i) cs c ∧ ∀ (j : Nat) (x : Value), c[j]? = some x → oneV x = true
  maps : ∀ (n : Nat) (es : List (CV × CV)), H.bl[n]? = some (.map es) → (∃ b ms clock, ι.bl[n]? = some b ∧ w.heap[b]? = some (.map ms clock) ∧ MR w F ι.glob es ms.toList ∧ Go.MapKept.Stamped ms clock) ∨
    ∃ b, ι.bl[n]? = some b ∧ ItOk ι es w.heap[b]?
  inj : ∀ i j b, H.live i → H.live j → ι.get i = some b → ι.get j = some b → i = j
  dis : ∀ b, F b → ¬ Live ι H b
  lt : ∀ b, F b → b < w.heap.size
  lo : ∀ s, look H.bx s = none → ι.lo s = none
  gl : GlobOk w F

/-- What a step may turn. -/
structure Ext (w : World) (F : Nat → Prop) (ι : IM) (H : Heap) (w' : World) (F' : Nat → Prop) (ι' : IM) (H' : Heap) : Prop where
  os : w'.os = w.os
  tape : w'.tape = w.tape
  output : w'.output = w.output
  pre : ∀ (n b : Nat), ι.bl[n]? = some b → ι'.bl[n]? = some b
  fmono : ∀ b, F b → F' b
  fnew : ∀ b, F' b → F b ∨ w.heap.size ≤ b ∨ Live ι H b
  size : w.heap.size ≤ w'.heap.size
  csz : ∀ b n, csize w b = some n → csize w' b = some n
  frame : ∀ b, b < w.heap.size → ¬ Live ι H b → w'.heap[b]? = w.heap[b]?
  live : ∀ b, Live ι' H' b → Live ι H b ∨ w.heap.size ≤ b

theorem Ext.refl (w : World) (F : Nat → Prop) (ι : IM) (H : Heap) : Ext w F ι H w F ι H :=
  ⟨rfl, rfl, rfl, fun _ _ h => h, fun _ h => h, fun _ h => .inl h, Nat.le_refl _, fun _ _ h => h, fun _ _ _ => rfl, fun _ h => .inl h⟩

theorem Ext.trans {w w' w'' : World} {F F' F'' : Nat → Prop} {ι ι' ι'' : IM} {H H' H'' : Heap} (a : Ext w F ι H w' F' ι' H') (b : Ext w' F' ι' H' w'' F'' ι'' H'') :
    Ext w F ι H w'' F'' ι'' H'' where
  os := b.os.trans a.os
  tape := b.tape.trans a.tape
  output := b.output.trans a.output
  pre := fun n x h => b.pre _ _ (a.pre _ _ h)
  fmono := fun x h => b.fmono _ (a.fmono _ h)
  fnew := fun x h => by
    rcases b.fnew x h with h | h | h
    · exact a.fnew x h
    · exact .inr (.inl (Nat.le_trans a.size h))
    · rcases a.live x h with h | h
      · exact .inr (.inr h)
      · exact .inr (.inl h)
  size := Nat.le_trans a.size b.size
  csz := fun x n h => b.csz _ _ (a.csz _ _ h)
  frame := fun x hx hl => by
    have h1 := a.frame x hx hl
    have h2 := b.frame x (Nat.lt_of_lt_of_le hx a.size) (fun h => by
      rcases a.live x h with h | h
      · exact hl h
      · omega)
    exact h2.trans h1
  live := fun x h => by
    rcases b.live x h with h | h
    · exact a.live x h
    · exact .inr (Nat.le_trans a.size h)

theorem Ext.frozen {w w' : World} {F F' : Nat → Prop} {ι ι' : IM} {H H' : Heap} (a : Ext w F ι H w' F' ι' H') (hi : Inv w F ι H) (b : Nat) (hb : F b) : w'.heap[b]? = w.heap[b]? :=
  a.frame b (hi.lt b hb) (hi.dis b hb)

end Go.Zc
end
section
namespace Go.Zc

mutual
def CV.eqb : CV → CV → Bool
  | .und, .und => true
  | .bool a, .bool b => decide (a = b)
  | .int k a, .int l b => decide (k = l) && decide (a = b)
  | .float k a, .float l b => decide (k = l) && decide (a = b)
  | .cplx k a b, .cplx l c d => decide (k = l) && (decide (a = c) && decide (b = d))
  | .str a, .str b => decide (a = b)
  | .nilp, .nilp => true
  | .op i a, .op j b => decide (i = j) && decide (a = b)
  | .vp a, .vp b => CV.eqbs a b
  | .nils, .nils => true
  | .os s i o n, .os t j p m => decide (s = t) && (decide (i = j) && (decide (o = p) && decide (n = m)))
  | .vs a n, .vs b m => decide (n = m) && CV.eqbs a b
  | .nilm, .nilm => true
  | .om a, .om b => decide (a = b)
  | .fn f a c, .fn g b d => decide (f = g) && (CV.eqbs a b && CV.eqbs c d)
  | .nilf, .nilf => true
  | .ifc t x, .ifc u y => decide (t = u) && CV.eqb x y
  | .nili, .nili => true
  | .agg a, .agg b => CV.eqbs a b
  | .tup a, .tup b => CV.eqbs a b
  | _, _ => false
def CV.eqbs : List CV → List CV → Bool
  | [], [] => true
  | a :: as, b :: bs => CV.eqb a b && CV.eqbs as bs
  | _, _ => false
end

mutual
theorem CV.eqb_eq : ∀ (a b : CV), CV.eqb a b = true → a = b
  | .und, b, h => by cases b <;> simp_all [CV.eqb]
  | .bool _, b, h => by cases b <;> simp_all [CV.eqb]
  | .int _ _, b, h => by cases b <;> simp_all [CV.eqb]
  | .float _ _, b, h => by cases b <;> simp_all [CV.eqb]
  | .cplx _ _ _, b, h => by cases b <;> simp_all [CV.eqb]
  | .str _, b, h => by cases b <;> simp_all [CV.eqb]
  | .nilp, b, h => by cases b <;> simp_all [CV.eqb]
  | .op _ _, b, h => by cases b <;> simp_all [CV.eqb]
  | .vp a, b, h => by
    cases b with
    | vp b => rw [CV.eqbs_eq a b (by simpa [CV.eqb] using h)]
    | _ => simp [CV.eqb] at h
  | .nils, b, h => by cases b <;> simp_all [CV.eqb]
  | .os _ _ _ _, b, h => by cases b <;> simp_all [CV.eqb]
  | .vs a n, b, h => by
    cases b with
    | vs b m =>
      simp only [CV.eqb, Bool.and_eq_true, decide_eq_true_eq] at h
      rw [h.1, CV.eqbs_eq a b h.2]
    | _ => simp [CV.eqb] at h
  | .nilm, b, h => by cases b <;> simp_all [CV.eqb]
  | .om _, b, h => by cases b <;> simp_all [CV.eqb]
  | .fn f a c, b, h => by
    cases b with
    | fn g b d =>
      simp only [CV.eqb, Bool.and_eq_true, decide_eq_true_eq] at h
      rw [h.1, CV.eqbs_eq a b h.2.1, CV.eqbs_eq c d h.2.2]
    | _ => simp [CV.eqb] at h
  | .nilf, b, h => by cases b <;> simp_all [CV.eqb]
  | .ifc t x, b, h => by
    cases b with
    | ifc u y =>
      simp only [CV.eqb, Bool.and_eq_true, decide_eq_true_eq] at h
      rw [h.1, CV.eqb_eq x y h.2]
    | _ => simp [CV.eqb] at h
  | .nili, b, h => by cases b <;> simp_all [CV.eqb]
  | .agg a, b, h => by
    cases b with
    | agg b => rw [CV.eqbs_eq a b (by simpa [CV.eqb] using h)]
    | _ => simp [CV.eqb] at h
  | .tup a, b, h => by
    cases b with
    | tup b => rw [CV.eqbs_eq a b (by simpa [CV.eqb] using h)]
    | _ => simp [CV.eqb] at h
theorem CV.eqbs_eq : ∀ (a b : List CV), CV.eqbs a b = true → a = b
  | [], b, h => by cases b <;> simp_all [CV.eqbs]
  | a :: as, b, h => by
    cases b with
    | nil => simp [CV.eqbs] at h
    | cons b bs =>
      simp only [CV.eqbs, Bool.and_eq_true] at h
      rw [CV.eqb_eq a b h.1, CV.eqbs_eq as bs h.2]
end

mutual
theorem CV.eqb_refl : ∀ (a : CV), CV.eqb a a = true
  | .und | .bool _ | .int _ _ | .float _ _ | .cplx _ _ _ | .str _ | .nilp | .op _ _ | .nils | .os _ _ _ _ | .nilm | .om _ | .nilf | .nili => by simp [CV.eqb]
  | .vp a => by simp [CV.eqb, CV.eqbs_refl a]
  | .vs a n => by simp [CV.eqb, CV.eqbs_refl a]
  | .fn f a c => by simp [CV.eqb, CV.eqbs_refl a, CV.eqbs_refl c]
  | .ifc t x => by simp [CV.eqb, CV.eqb_refl x]
  | .agg a => by simp [CV.eqb, CV.eqbs_refl a]
  | .tup a => by simp [CV.eqb, CV.eqbs_refl a]
theorem CV.eqbs_refl : ∀ (a : List CV), CV.eqbs a a = true
  | [] => rfl
  | a :: as => by simp [CV.eqbs, CV.eqb_refl a, CV.eqbs_refl as]
end

def mapEqb : List (CV × CV) → List (CV × CV) → Bool
  | [], [] => true
  | a :: as, b :: bs => CV.eqb a.1 b.1 && (CV.eqb a.2 b.2 && mapEqb as bs)
  | _, _ => false
theorem mapEqb_eq : ∀ a b, mapEqb a b = true → a = b
  | [], b, h => by cases b <;> simp_all [mapEqb]
  | a :: as, b, h => by
    cases b with
    | nil => simp [mapEqb] at h
    | cons b bs =>
      simp only [mapEqb, Bool.and_eq_true] at h
      obtain ⟨a1, a2⟩ := a
      obtain ⟨b1, b2⟩ := b
      rw [CV.eqb_eq a1 b1 h.1, CV.eqb_eq a2 b2 h.2.1, mapEqb_eq as bs h.2.2]
theorem mapEqb_refl : ∀ a, mapEqb a a = true
  | [] => rfl
  | a :: as => by simp [mapEqb, CV.eqb_refl, mapEqb_refl as]

def Blk.eqb : Blk → Blk → Bool
  | .dead, .dead => true
  | .cells a, .cells b => CV.eqbs a b
  | .map a, .map b => mapEqb a b
  | _, _ => false
theorem Blk.eqb_eq (a b : Blk) (h : Blk.eqb a b = true) : a = b := by
  cases a <;> cases b <;> simp only [Blk.eqb] at h <;> first | rfl | cases h | (rw [CV.eqbs_eq _ _ h]) | (rw [mapEqb_eq _ _ h])
theorem Blk.eqb_refl (a : Blk) : Blk.eqb a a = true := by
  cases a <;> simp [Blk.eqb, CV.eqbs_refl, mapEqb_refl]

/-- Has a heap but grown? -/
def isPre : List Blk → List Blk → Bool
  | [], _ => true
  | a :: as, b :: bs => Blk.eqb a b && isPre as bs
  | _ :: _, [] => false
theorem isPre_app : ∀ (a X : List Blk), isPre a (a ++ X) = true
  | [], _ => rfl
  | a :: as, X => by simp only [List.cons_append, isPre, Blk.eqb_refl, isPre_app as X, Bool.and_self]
theorem isPre_refl (a : List Blk) : isPre a a = true := by simpa using isPre_app a []
theorem isPre_ex : ∀ {a b : List Blk}, isPre a b = true → ∃ X, b = a ++ X
  | [], b, _ => ⟨b, rfl⟩
  | a :: as, [], h => by simp [isPre] at h
  | a :: as, b :: bs, h => by
    simp only [isPre, Bool.and_eq_true] at h
    obtain ⟨X, hX⟩ := isPre_ex h.2
    exact ⟨X, by rw [Blk.eqb_eq a b h.1, hX]; rfl⟩
theorem isPre_of {a b X : List Blk} (h : b = a ++ X) : isPre a b = true := h ▸ isPre_app a X
end Go.Zc
end
section
namespace Go.Zc

/-! ### What is compiled -/

inductive Opd where
  | t (n : Nat)
  | c (v : CV)
  deriving Inhabited

inductive EqT where
  | bool
  | int
  | ptr
  | sl
  | mp
  | fn
  | ifc
  | parts (l : List (Nat × Bool × Nat × EqT))
  deriving Inhabited

inductive POp where
  | mov
  | pick
  | nchk
  | bld (zero : List CV) (parts : List (Nat × Nat))
  | bin (op : BinOp) (e : EqT)
  | un (op : UnOp)
  | toInt (k : IntKind)
  | toFloat (k : FloatKind)
  | mkif (t : TypeId)
  | mkfn (f : Fn) (nfirst : Nat)
  | faddr (off : Nat)
  | fld (agg : Bool) (n off : Nat)
  | iaddr (sz : Nat)
  | iaddrA (len sz : Nat)
  | idxA (len : Nat) (agg : Bool) (n : Nat)
  | idxS
  | slc (sz : Nat) (lo hi : Bool)
  | slcS (lo hi : Bool)
  | ext (i : Nat)
  | len
  | lenS
  | lenK (n : Nat)
  | cap
  | cplx
  | re
  | im
  | min
  | max
  | isund
  deriving Inhabited

inductive HOp where
  | box (s : Nat)
  | boxh
  | newl (s : Nat) (zero : List CV)
  | newh (zero : List CV)
  | bslF (sz len : Nat) (zero : List CV) (parts : List (Nat × Nat))
  | bslO (sz len : Nat) (zero : List CV) (parts : List (Nat × Nat))
  | load (agg : Bool) (n : Nat)
  | store (n : Nat)
  | app (sz bytes : Nat) (zero : List CV)
  | appz (sz bytes : Nat) (zero : List CV)   -- of zeros, to nil
  | copy (sz : Nat)
  | clear (sz : Nat) (zero : List CV)
  | mksl (sz bytes : Nat) (zero : List CV)
  | mkslF (sz bytes : Nat) (zero : List CV)   -- of zeros that nobody writes
  | mkmap
  | look (kk : Nat) (zero : CV) (ok : Bool)
  | mput (kk : Nat)
  | mdel (kk : Nat)
  | lenM
  | bstr
  | srng
  | mrng
  | nxtS
  | nxtM
  deriving Inhabited

inductive COp where
  | p (o : POp)
  | h (o : HOp)
  | hb (o : HOp)             -- in blocks alone
  | hl (s : Nat) (o : HOp)   -- in the box s alone
  | callb                    -- a call to which the boxes are nothing
  | callp                    -- one that leaves the blocks that there are
  | callk (n : Nat)          -- one that leaves the blocks that its last n operands show
  | callv                    -- one to which no memory is anything
  | call
  deriving Inhabited

structure CStm where
  dst : Option Nat
  op : COp
  args : List Opd
  guard : Option (Nat × Bool)
  deriving Inhabited

inductive CCode where
  | skip
  | ops (l : List CStm)
  | seq (a b : CCode)
  | cond (c : Opd) (a b : CCode)
  | block (id : Nat) (lo : Option (List Nat)) (c : CCode)
  | bloop (id : Nat) (li lo : List Nat) (c : CCode)
  | exit (id : Nat)
  | ret (rs : List Nat)
  | frz (t : Nat)
  deriving Inhabited

/-! ### What the ops come to -/

def intBin (op : BinOp) (k : IntKind) (a b : Int) : Option CV :=
  match op with
  | .add => some (.int k (k.wrap (a + b)))
  | .sub => some (.int k (k.wrap (a - b)))
  | .mul => some (.int k (k.wrap (a * b)))
  | .quo => if b = 0 then none else some (.int k (k.wrap (a.tdiv b)))
  | .rem => if b = 0 then none else some (.int k (a.tmod b))
  | .and => some (.int k (k.wrap (BitVec.ofInt k.bits a &&& BitVec.ofInt k.bits b).toNat))
  | .or => some (.int k (k.wrap (BitVec.ofInt k.bits a ||| BitVec.ofInt k.bits b).toNat))
  | .xor => some (.int k (k.wrap (BitVec.ofInt k.bits a ^^^ BitVec.ofInt k.bits b).toNat))
  | .andNot => some (.int k (k.wrap (BitVec.ofInt k.bits a &&& ~~~BitVec.ofInt k.bits b).toNat))
  | .eql => some (.bool (a == b))
  | .neq => some (.bool (a != b))
  | .lss => some (.bool (decide (a < b)))
  | .leq => some (.bool (decide (a ≤ b)))
  | .gtr => some (.bool (decide (a > b)))
  | .geq => some (.bool (decide (a ≥ b)))
  | .shl | .shr => none

def shiftBin (op : BinOp) (k : IntKind) (a b : Int) : Option CV :=
  if b < 0 then none else
  match op with
  | .shl => some (.int k (k.wrap (a * 2 ^ (min b.toNat k.bits))))
  | .shr => some (.int k (a.fdiv (2 ^ (min b.toNat k.bits))))
  | _ => none

def fArith (op : BinOp) (k : FloatKind) (x y : Nat) : Option Nat :=
  match op with
  | .add => k.format.add x y
  | .sub => k.format.sub x y
  | .mul => k.format.mul x y
  | .quo => k.format.div x y
  | _ => none

def fCmp (op : BinOp) (k : FloatKind) (x y : Nat) : Option Bool :=
  let c := k.format.order x y
  match op with
  | .eql => some (c == some .eq)
  | .neq => some (c != some .eq)
  | .lss => some (c == some .lt)
  | .leq => some (c == some .lt || c == some .eq)
  | .gtr => some (c == some .gt)
  | .geq => some (c == some .gt || c == some .eq)
  | _ => none

def floatBin (op : BinOp) (k : FloatKind) (x y : Nat) : Option CV :=
  match op with
  | .add | .sub | .mul | .quo => (fArith op k x y).map (.float k)
  | _ => (fCmp op k x y).map .bool

def strBin (op : BinOp) (x y : ByteArray) : Option CV :=
  match op with
  | .add => if ((x.size + y.size : Nat) : Int) > IntKind.i64.max then none else some (.str (x ++ y))
  | .eql => some (.bool (x.toList == y.toList))
  | .neq => some (.bool (!(x.toList == y.toList)))
  | _ => none

/-- A quotient that is a number. -/
def quoC (a b c d : Nat) : Option (Nat × Nat) :=
  (fCmp .geq .f64 (Op.Complex.abs c) (Op.Complex.abs d)).bind fun g =>
  (bif g then
    (fArith .quo .f64 d c).bind fun ratio => (fArith .mul .f64 ratio d).bind fun rd => (fArith .add .f64 c rd).bind fun denom =>
    (fArith .mul .f64 b ratio).bind fun br => (fArith .add .f64 a br).bind fun n1 => (fArith .quo .f64 n1 denom).bind fun e =>
    (fArith .mul .f64 a ratio).bind fun ar => (fArith .sub .f64 b ar).bind fun n2 => (fArith .quo .f64 n2 denom).map fun f => (e, f)
  else
    (fArith .quo .f64 c d).bind fun ratio => (fArith .mul .f64 ratio c).bind fun rd => (fArith .add .f64 d rd).bind fun denom =>
    (fArith .mul .f64 a ratio).bind fun br => (fArith .add .f64 br b).bind fun n1 => (fArith .quo .f64 n1 denom).bind fun e =>
    (fArith .mul .f64 b ratio).bind fun ar => (fArith .sub .f64 ar a).bind fun n2 => (fArith .quo .f64 n2 denom).map fun f => (e, f)).bind fun x =>
  bif Op.Complex.isNaN x.1 && Op.Complex.isNaN x.2 then none else some x

/-- Complex numbers of two float64's. -/
def cplxBin (op : BinOp) (k : FloatKind) (a b c d : Nat) : Option CV :=
  match op, k with
  | .add, k => (fArith .add k a c).bind fun x => (fArith .add k b d).map fun y => .cplx k x y
  | .sub, k => (fArith .sub k a c).bind fun x => (fArith .sub k b d).map fun y => .cplx k x y
  | .mul, .f64 =>
    (fArith .mul .f64 a c).bind fun ac => (fArith .mul .f64 b d).bind fun bd => (fArith .sub .f64 ac bd).bind fun x =>
    (fArith .mul .f64 a d).bind fun ad => (fArith .mul .f64 b c).bind fun bc => (fArith .add .f64 ad bc).map fun y => .cplx .f64 x y
  | .quo, .f64 => (quoC a b c d).map fun x => .cplx .f64 x.1 x.2
  | .eql, k => some (.bool ((k.format.order a c == some .eq) && (k.format.order b d == some .eq)))
  | .neq, k => some (.bool !((k.format.order a c == some .eq) && (k.format.order b d == some .eq)))
  | _, _ => none

def partC (agg : Bool) (n off : Nat) (cs : List CV) : Option CV :=
  if agg then some (.agg ((cs.drop off).take n)) else cs[off]?

mutual
def eqC : EqT → CV → CV → Option Bool
  | .bool, x, y =>
    match x, y with
    | .bool a, .bool b => some (a == b)
    | _, _ => none
  | .int, x, y =>
    match x, y with
    | .int k a, .int k' b => if k = k' then some (a == b) else none
    | _, _ => none
  | .ptr, x, y =>
    match x, y with
    | .nilp, .nilp => some true
    | .nilp, .op .. | .nilp, .vp _ | .op .., .nilp | .vp _, .nilp => some false
    | _, _ => none
  | .sl, x, y =>
    match x, y with
    | .nils, .nils => some true
    | .nils, .vs (_ :: _) _ | .vs (_ :: _) _, .nils => some false
    | _, _ => none
  | .mp, x, y =>
    match x, y with
    | .nilm, .nilm => some true
    | .nilm, .om _ | .om _, .nilm => some false
    | _, _ => none
  | .fn, x, y =>
    match x, y with
    | .nilf, .nilf => some true
    | .nilf, .fn .. | .fn .., .nilf => some false
    | _, _ => none
  | .ifc, _, _ => none
  | .parts l, x, y =>
    match x, y with
    | .agg xs, .agg ys => eqCs l xs ys
    | _, _ => none
def eqCs : List (Nat × Bool × Nat × EqT) → List CV → List CV → Option Bool
  | [], _, _ => some true
  | (off, agg, n, e) :: r, xs, ys =>
    match partC agg n off xs, partC agg n off ys with
    | some a, some b =>
      match eqC e a b with
      | some true => eqCs r xs ys
      | some false => some false
      | none => none
    | _, _ => none
end

def binC (op : BinOp) (e : EqT) (x y : CV) : Option CV :=
  match x, y with
  | .int k a, .int k' b =>
    match op with
    | .shl | .shr => shiftBin op k a b
    | _ => if k = k' then intBin op k a b else none
  | .float k a, .float k' b => if k = k' then floatBin op k a b else none
  | .cplx k a b, .cplx k' c d => if k = k' then cplxBin op k a b c d else none
  | .str a, .str b => strBin op a b
  | x, y =>
    match op with
    | .eql => (eqC e x y).map .bool
    | .neq => (eqC e x y).map fun b => .bool (!b)
    | _ => none

def unC (op : UnOp) (x : CV) : Option CV :=
  match op, x with
  | .neg, .int k n => some (.int k (k.wrap (0 - n)))
  | .xor, .int k n => some (.int k (k.wrap (BitVec.ofInt k.bits (if k.signed then -1 else k.max) ^^^ BitVec.ofInt k.bits n).toNat))
  | .neg, .float k b => some (.float k (Op.negFloat k b))
  | .neg, .cplx k a b => some (.cplx k (Op.negFloat k a) (Op.negFloat k b))
  | .not, .bool b => some (.bool (!b))
  | _, _ => none

def setMany : List CV → Nat → List CV → List CV
  | cs, _, [] => cs
  | cs, o, c :: r => setMany (cs.set o c) (o + 1) r

def CV.und? : CV → Bool
  | .und => true
  | _ => false

def fillC : List CV → List ((Nat × Nat) × CV) → Option (List CV)
  | cs, [] => some cs
  | cs, ((off, size), v) :: r =>
    if v.cells.length = size ∧ off + size ≤ cs.length ∧ v.und? = false then fillC (setMany cs off v.cells) r else none

def sbound (x : Option CV) (dflt most : Nat) : Option Nat :=
  match x with
  | none => some dflt
  | some (.int _ n) => if 0 ≤ n ∧ n ≤ most then some n.toNat else none
  | some _ => none

/-- 'x[lo:hi]' of a slice. -/
def slcC (sz : Nat) (x : CV) (lo hi : Option CV) : Option CV :=
  match x with
  | .nils => (sbound hi 0 0).bind fun _ => (sbound lo 0 0).map fun _ => .nils
  | .vs cs len => (sbound hi len len).bind fun h => (sbound lo 0 h).map fun l => .vs ((cs.take (h * sz)).drop (l * sz)) (h - l)
  | .os s i off len => if s = sz then (sbound hi len len).bind fun h => (sbound lo 0 h).map fun l => .os sz i (off + l * sz) (h - l) else none
  | _ => none

def min2C : CV → CV → Option CV
  | .int k x, .int _ y => some (.int k (if y < x then y else x))
  | _, _ => none

def max2C : CV → CV → Option CV
  | .int k x, .int _ y => some (.int k (if y > x then y else x))
  | _, _ => none

def foldC (f : CV → CV → Option CV) : CV → List CV → Option CV
  | x, [] => some x
  | x, y :: r => (f x y).bind fun z => foldC f z r

def pickC : CV → CV → CV → Option CV
  | .bool c, a, b => some (if c then a else b)
  | _, _, _ => none

def nchkC : CV → Option CV
  | .op i o => some (.op i o)
  | .vp cs => some (.vp cs)
  | .fn (.func f) x y => some (.fn (.func f) x y)
  | _ => none

def toIntC (k : IntKind) : CV → Option CV
  | .int _ n => some (.int k (k.wrap n))
  | .float s b =>
    match (s.decode b).toInt .zero with
    | some n => if k.min ≤ n ∧ n ≤ k.max then some (.int k n) else none
    | none => none
  | _ => none

def toFloatC (k : FloatKind) : CV → Option CV
  | .int _ n => some (.float k (k.nearest n))
  | _ => none

def faddrC (off : Nat) : CV → Option CV
  | .op i o => some (.op i (o + off))
  | .vp cs => some (.vp (cs.drop off))
  | _ => none

def fldC (agg : Bool) (n off : Nat) : CV → Option CV
  | .agg cs => partC agg n off cs
  | _ => none

def iaddrN (sz : Nat) (n : Int) : CV → Option CV
  | .os s i off len => if s = sz ∧ 0 ≤ n ∧ n < len then some (.op i (off + n.toNat * sz)) else none
  | .vs cs len => if 0 ≤ n ∧ n < len ∧ cs ≠ [] then some (.vp (cs.drop (n.toNat * sz))) else none
  | _ => none

def iaddrC (sz : Nat) (x : CV) : CV → Option CV
  | .int _ n => iaddrN sz n x
  | _ => none

def iaddrAC (len sz : Nat) (x : CV) : CV → Option CV
  | .int _ n => if 0 ≤ n ∧ n < len then faddrC (n.toNat * sz) x else none
  | _ => none

def idxAC (len : Nat) (agg : Bool) (n : Nat) (x : CV) : CV → Option CV
  | .int _ i => if 0 ≤ i ∧ i < len then fldC agg n (i.toNat * n) x else none
  | _ => none

def idxSN (n : Int) : CV → Option CV
  | .str s => if 0 ≤ n then (s[n.toNat]?).map fun b => .int .u8 b.toNat else none
  | _ => none

def idxSC (x : CV) : CV → Option CV
  | .int _ n => idxSN n x
  | _ => none

def extC (i : Nat) : CV → Option CV
  | .tup cs => cs[i]?
  | _ => none

def lenC : CV → Option CV
  | .nils => some (.int .i64 0)
  | .os _ _ _ n => some (.int .i64 n)
  | .vs _ n => some (.int .i64 n)
  | _ => none

/-- Of nil alone: nobody else's is told. -/
def capC : CV → Option CV
  | .nils => some (.int .i64 0)
  | _ => none

def lenSC : CV → Option CV
  | .str s => some (.int .i64 s.size)
  | _ => none

def cplxC : CV → CV → Option CV
  | .float k a, .float k' b => if k = k' then some (.cplx k a b) else none
  | _, _ => none

def reC : CV → Option CV
  | .cplx k a _ => some (.float k a)
  | _ => none

def imC : CV → Option CV
  | .cplx k _ b => some (.float k b)
  | _ => none

def pureOp : POp → List CV → Option CV
  | .mov, [x] => some x
  | .pick, [c, a, b] => pickC c a b
  | .nchk, [x] => nchkC x
  | .bld zero parts, vs => if vs.length = parts.length then (fillC zero (parts.zip vs)).map .agg else none
  | .bin op e, [x, y] => binC op e x y
  | .un op, [x] => unC op x
  | .toInt k, [x] => toIntC k x
  | .toFloat k, [x] => toFloatC k x
  | .mkif t, [x] => if x.und? then none else some (.ifc t x)
  | .mkfn f n, vs => some (.fn f (vs.take n) (vs.drop n))
  | .faddr off, [x] => faddrC off x
  | .fld agg n off, [x] => fldC agg n off x
  | .iaddr sz, [x, i] => iaddrC sz x i
  | .iaddrA len sz, [x, i] => iaddrAC len sz x i
  | .idxA len agg n, [x, i] => idxAC len agg n x i
  | .idxS, [x, i] => idxSC x i
  | .slc sz false false, [x] => slcC sz x none none
  | .slc sz true false, [x, l] => slcC sz x (some l) none
  | .slc sz false true, [x, h] => slcC sz x none (some h)
  | .slc sz true true, [x, l, h] => slcC sz x (some l) (some h)
  | .ext i, [x] => extC i x
  | .len, [x] => lenC x
  | .lenS, [x] => lenSC x
  | .cap, [x] => capC x
  | .lenK n, [_] => some (.int .i64 n)
  | .cplx, [x, y] => cplxC x y
  | .re, [x] => reC x
  | .im, [x] => imC x
  | .min, x :: r => foldC min2C x r
  | .max, x :: r => foldC max2C x r
  | .isund, [x] => if x.und? then some (.tup []) else none
  | _, _ => none

/-! ### The heap -/

def Id.loc? : Id → Bool
  | .loc _ => true
  | .blk _ => false

mutual
/-- Does it hold the address of a local box? -/
def CV.locv : CV → Bool
  | .op i _ => i.loc?
  | .os _ i _ _ => i.loc?
  | .fn _ a b => CV.locs a || CV.locs b
  | .ifc _ v => CV.locv v
  | .agg cs => CV.locs cs
  | .tup cs => CV.locs cs
  | _ => false
def CV.locs : List CV → Bool
  | [] => false
  | c :: cs => CV.locv c || CV.locs cs
end

def setBx : List (Nat × List CV) → Nat → List CV → List (Nat × List CV)
  | [], s, cs => [(s, cs)]
  | (i, x) :: r, s, cs => bif Nat.beq i s then (i, cs) :: r else (i, x) :: setBx r s cs

def Heap.put (H : Heap) : Id → List CV → Heap
  | .loc s, cs => { H with bx := setBx H.bx s cs }
  | .blk n, cs => { H with bl := H.bl.set n (.cells cs) }

def Heap.kill (H : Heap) : Id → Heap
  | .loc _ => H
  | .blk n => { H with bl := H.bl.set n .dead }

def Heap.push (H : Heap) (b : Blk) : Heap := { H with bl := H.bl ++ [b] }

def ones (cs : List CV) : Bool := cs.all CV.one

/-- Keys of maps: whole numbers (0), strings (1), bools (2). -/
def mkey : Nat → CV → CV → Option Bool
  | 0, .int k a, .int k' b => if k = k' then some (a == b) else none
  | 1, .str a, .str b => some (a == b)
  | 2, .bool a, .bool b => some (a == b)
  | _, _, _ => none

def mfind (kk : Nat) (k : CV) : List (CV × CV) → Nat → Option (Option (Nat × CV))
  | [], _ => some none
  | e :: es, i =>
    match mkey kk k e.1 with
    | some true => some (some (i, e.2))
    | some false => mfind kk k es (i + 1)
    | none => none

/-- The cells that a slice shows: by value. -/
def shown (H : Heap) (sz : Nat) : CV → Option (List CV)
  | .nils => some []
  | .vs cs n => if cs.length = n * sz then some cs else none
  | .os s i off n => if s = sz then (H.get i).bind fun cs => if off + n * sz ≤ cs.length then some ((cs.drop off).take (n * sz)) else none else none
  | _ => none

def lenOf : CV → Nat
  | .vs _ n => n
  | .os _ _ _ n => n
  | _ => 0

def isSl : CV → Bool
  | .nils => true
  | .vs _ _ => true
  | .os _ _ _ _ => true
  | _ => false

def isNils : CV → Bool
  | .nils => true
  | _ => false

def repC (zero : List CV) : Nat → List CV
  | 0 => []
  | n + 1 => zero ++ repC zero n

def loadC (agg : Bool) (n : Nat) (H : Heap) : CV → Option CV
  | .op i off => (H.get i).bind fun cs => if off + n ≤ cs.length then partC agg n off cs else none
  | .vp cs => if n ≤ cs.length then partC agg n 0 cs else none
  | _ => none

def storeC (n : Nat) (x : CV) (H : Heap) : CV → Option Heap
  | .op i off => (H.get i).bind fun cs =>
      if x.cells.length = n ∧ off + n ≤ cs.length ∧ ones x.cells = true ∧ (i.loc? = true ∨ CV.locs x.cells = false) then some (H.put i (setMany cs off x.cells)) else none
  | _ => none

/-- 'append(s, new...)', of k elements, at least one. -/
def appC (sz k : Nat) (new : List CV) (H : Heap) : CV → Option (CV × Heap)
  | .nils => some (.os sz (.blk H.bl.length) 0 k, H.push (.cells new))
  | .os s (.blk m) 0 n =>
    if s = sz then
      (H.get (.blk m)).bind fun cs => if n * sz ≤ cs.length then some (.os sz (.blk H.bl.length) 0 (n + k), (H.kill (.blk m)).push (.cells (cs.take (n * sz) ++ new))) else none
    else none
  | _ => none

def copyC (sz k : Nat) (new : List CV) (H : Heap) : CV → Option (CV × Heap)
  | .os s i off n =>
    if s = sz then
      (H.get i).bind fun cs => if off + n * sz ≤ cs.length then some (.int .i64 (min k n : Nat), H.put i (setMany cs off (new.take (min k n * sz)))) else none
    else none
  | _ => none

def clearC (sz : Nat) (zero : List CV) (H : Heap) : CV → Option Heap
  | .os s i off n =>
    if s = sz then (H.get i).bind fun cs => if off + n * sz ≤ cs.length then some (H.put i (setMany cs off (repC zero n))) else none
    else none
  | _ => none

def mkslC (sz bytes : Nat) (zero : List CV) (H : Heap) : CV → CV → Option (CV × Heap)
  | .int _ l, .int _ c =>
    if 0 ≤ l ∧ l ≤ c ∧ c * bytes ≤ 140737488355328 ∧ c ≤ 140737488355328 then some (.os sz (.blk H.bl.length) 0 l.toNat, H.push (.cells (repC zero c.toNat)))
    else none
  | _, _ => none

def mkslFC (bytes : Nat) (zero : List CV) (H : Heap) : CV → CV → Option (CV × Heap)
  | .int _ l, .int _ c => if 0 ≤ l ∧ l = c ∧ c * bytes ≤ 140737488355328 ∧ c ≤ 140737488355328 then some (.vs (repC zero l.toNat) l.toNat, H) else none
  | _, _ => none

def lookC (kk : Nat) (zero : CV) (ok : Bool) (k : CV) (H : Heap) : CV → Option CV
  | .nilm => (mkey kk k k).map fun _ => if ok then .tup [zero, .bool false] else zero
  | .om n =>
    match H.bl[n]? with
    | some (.map es) =>
      (mfind kk k es 0).bind fun
        | some (_, v) => some (if ok then .tup [v, .bool true] else v)
        | none => (mkey kk k k).map fun _ => if ok then .tup [zero, .bool false] else zero
    | _ => none
  | _ => none

def mputC (kk : Nat) (k v : CV) (H : Heap) : CV → Option Heap
  | .om n =>
    if kk = 1 then none else
    match H.bl[n]? with
    | some (.map es) =>
      (mfind kk k es 0).bind fun
        | some (i, _) => some { H with bl := H.bl.set n (.map (es.modify i fun e => (e.1, v))) }
        | none => (mkey kk k k).map fun _ => { H with bl := H.bl.set n (.map (es ++ [(k, v)])) }
    | _ => none
  | _ => none

def mdelC (kk : Nat) (k : CV) (H : Heap) : CV → Option Heap
  | .om n =>
    match H.bl[n]? with
    | some (.map es) =>
      (mfind kk k es 0).bind fun
        | some (i, _) => some { H with bl := H.bl.set n (.map (es.eraseIdx i)) }
        | none => (mkey kk k k).map fun _ => H
    | _ => none
  | _ => none

def lenMC (H : Heap) : CV → Option CV
  | .nilm => some (.int .i64 0)
  | .om n =>
    match H.bl[n]? with
    | some (.map es) => if itE es then none else some (.int .i64 es.length)
    | _ => none
  | _ => none

/-- Bytes. -/
def bytesC : List CV → Option (List Int)
  | [] => some []
  | .int .u8 n :: r => (bytesC r).map fun l => n :: l
  | _ => none
def strOf (ns : List Int) : ByteArray := ns.foldl (fun r n => r.push (UInt8.ofNat n.toNat)) ByteArray.empty

/-- Iterators: over a text; over a map that is empty. -/
def mrngC (H : Heap) : CV → Option (CV × Heap)
  | .nilm => some (.op (.blk H.bl.length) 0, H.push (.map [(.und, .tup [.nilm])]))
  | .om m =>
    match H.bl[m]? with
    | some (.map es) => if itE es then none else some (.op (.blk H.bl.length) 0, H.push (.map [(.und, .tup [.om m])]))
    | _ => none
  | _ => none
def nxtSC (n : Nat) (H : Heap) : Option (CV × Heap) :=
  match H.bl[n]? with
  | some (.map [(.und, .tup [.str s, .int .i64 p])]) =>
    if p.toNat < s.size then some (.tup [.bool true, .int .i64 p.toNat, .int .i32 (Utf8.decode s p.toNat).1], { H with bl := H.bl.set n (.map [(.und, .tup [.str s, .int .i64 (p.toNat + (Utf8.decode s p.toNat).2 : Nat)])]) })
    else some (.tup [.bool false], H)
  | _ => none
def nxtMC (n : Nat) (H : Heap) : Option (CV × Heap) :=
  match H.bl[n]? with
  | some (.map [(.und, .tup [.nilm])]) => some (.tup [.bool false], H)
  | some (.map [(.und, .tup [.om m])]) =>
    match H.bl[m]? with
    | some (.map []) => some (.tup [.bool false], H)
    | _ => none
  | _ => none

/-- Cells that may lie in memory that outlives the frame: no local box. -/
def heapOp : HOp → List CV → Heap → Option (CV × Heap)
  | .box s, [x], H => if ones x.cells && (look H.bx s).isNone then some (.op (.loc s) 0, H.put (.loc s) x.cells) else none
  | .boxh, [x], H => if ones x.cells && !CV.locs x.cells then some (.op (.blk H.bl.length) 0, H.push (.cells x.cells)) else none
  | .newl s zero, [], H => if (look H.bx s).isNone && ones zero && !CV.locs zero then some (.op (.loc s) 0, H.put (.loc s) zero) else none
  | .newh zero, [], H => if ones zero && !CV.locs zero then some (.op (.blk H.bl.length) 0, H.push (.cells zero)) else none
  | .bslF sz len zero parts, vs, H =>
    if vs.length = parts.length then
      (fillC (repC zero len) (parts.zip vs)).bind fun cs =>
        if ones cs && !CV.refs cs && decide (cs.length = len * sz) then some (.vs cs len, H) else none
    else none
  | .bslO sz len zero parts, vs, H =>
    if vs.length = parts.length then
      (fillC (repC zero len) (parts.zip vs)).bind fun cs =>
        if ones cs && !CV.locs cs && decide (cs.length = len * sz) then some (.os sz (.blk H.bl.length) 0 len, H.push (.cells cs)) else none
    else none
  | .load agg n, [x], H => (loadC agg n H x).map fun v => (v, H)
  | .store n, [p, x], H => (storeC n x H p).map fun H' => (.tup [], H')
  | .app sz bytes zero, [s, x], H =>
    if lenOf x = 0 then (if isSl s && isSl x then some (s, H) else none) else
    (shown H sz x).bind fun new =>
      if decide (0 < sz) && decide (0 < bytes) && ones new && !CV.locs new && decide ((lenOf s + lenOf x) * bytes ≤ 140737488355328) && decide (zero.length = sz) && ones zero then
        appC sz (lenOf x) new H s
      else none
  | .appz sz bytes zero, [s, .int _ l], H =>
    if l = 0 then (if isSl s then some (s, H) else none) else
    if isNils s && decide (0 < sz) && decide (0 < bytes) && decide (0 < l) && decide (l * bytes ≤ 140737488355328) && decide (zero.length = sz) && ones zero && !CV.locs zero then some (.os sz (.blk H.bl.length) 0 l.toNat, H.push (.cells (repC zero l.toNat))) else none
  | .copy sz, [d, x], H => (shown H sz x).bind fun new => if ones new && !CV.locs new then copyC sz (lenOf x) new H d else none
  | .clear sz zero, [s], H => if ones zero && !CV.locs zero && decide (zero.length = sz) then (clearC sz zero H s).map fun H' => (.tup [], H') else none
  | .mksl sz bytes zero, [l, c], H => if decide (zero.length = sz) && ones zero && !CV.locs zero then mkslC sz bytes zero H l c else none
  | .mkslF sz bytes zero, [l, c], H => if decide (zero.length = sz) && !CV.refs zero then mkslFC bytes zero H l c else none
  | .mkmap, [], H => some (.om H.bl.length, H.push (.map []))
  | .look kk zero ok, [m, k], H => (lookC kk zero ok k H m).map fun v => (v, H)
  | .mput kk, [m, k, v], H => if v.und? || v.locv then none else (mputC kk k v H m).map fun H' => (.tup [], H')
  | .mdel kk, [m, k], H => (mdelC kk k H m).map fun H' => (.tup [], H')
  | .lenM, [m], H => (lenMC H m).map fun v => (v, H)
  | .srng, [.str s], H => some (.op (.blk H.bl.length) 0, H.push (.map [(.und, .tup [.str s, .int .i64 0])]))
  | .mrng, [x], H => mrngC H x
  | .nxtS, [.op (.blk n) 0], H => nxtSC n H
  | .nxtM, [.op (.blk n) 0], H => nxtMC n H
  | .bstr, [x], H => (shown H 1 x).bind fun cs => match bytesC cs with | some l => some (.str (strOf l), H) | none => none
  | _, _, _ => none

/-! ### By value: of what is owned -/

def mapC (f : CV → Option CV) : List CV → Option (List CV)
  | [] => some []
  | c :: cs => (f c).bind fun c' => (mapC f cs).map fun r => c' :: r

mutual
/-- A value as whoever may not write sees it. 'st': it must lie in owned memory alone. 'kn': nil slices stay nil. 'f': for what lies in owned memory. -/
def snapV (H : Heap) (st kn : Bool) (f : CV → Option CV) : CV → Option CV
  | .op i off => (H.get i).bind fun cs => if off ≤ cs.length then (mapC f (cs.drop off)).map .vp else none
  | .os sz i off n =>
    if n = 0 then some (.vs [] 0) else
    (H.get i).bind fun cs => if off + n * sz ≤ cs.length then (mapC f ((cs.drop off).take (n * sz))).map (.vs · n) else none
  | .om _ => none
  | .nils => some (if kn then .nils else .vs [] 0)
  | .vp cs => if st then none else some (.vp cs)
  | .vs cs n => if st && !cs.isEmpty then none else some (.vs cs n)
  | .fn g a c => (snapVs H st kn f a).bind fun a' => (snapVs H st kn f c).map fun c' => .fn g a' c'
  | .ifc t x => (snapV H st kn f x).map (.ifc t)
  | .agg cs => (snapVs H st kn f cs).map .agg
  | .tup cs => (snapVs H st kn f cs).map .tup
  | .und => some .und
  | .bool b => some (.bool b)
  | .int k n => some (.int k n)
  | .float k n => some (.float k n)
  | .cplx k a b => some (.cplx k a b)
  | .str s => some (.str s)
  | .nilp => some .nilp
  | .nilm => some .nilm
  | .nilf => some .nilf
  | .nili => some .nili
def snapVs (H : Heap) (st kn : Bool) (f : CV → Option CV) : List CV → Option (List CV)
  | [] => some []
  | c :: cs => (snapV H st kn f c).bind fun c' => (snapVs H st kn f cs).map fun r => c' :: r
end

def snapN (H : Heap) (st kn : Bool) : Nat → CV → Option CV
  | 0 => fun _ => none
  | n + 1 => snapV H st kn (snapN H st kn n)

/-- Owned memory lies at most so deep. -/
def deep : Nat := 8

def snap (H : Heap) (st kn : Bool) (v : CV) : Option CV := snapN H st kn deep v
def snapL (H : Heap) (st kn : Bool) (l : List CV) : Option (List CV) := mapC (snap H st kn) l

/-! ### Running -/

abbrev Env := List (Nat × CV)

def Env.at (env : Env) (t : Nat) : CV :=
  match look env t with
  | some v => v
  | none => .und

def ev (env : Env) : Opd → CV
  | .t n => Env.at env n
  | .c v => v

def evs (env : Env) : List Opd → List CV
  | [] => []
  | x :: r => ev env x :: evs env r

def keep (env : Env) : List Nat → Env
  | [] => []
  | t :: r => (t, Env.at env t) :: keep env r

def keepB (bx : List (Nat × List CV)) : List Nat → List (Nat × List CV)
  | [] => []
  | t :: r =>
    match look bx t with
    | some cs => (t, cs) :: keepB bx r
    | none => keepB bx r

/-- May a value go on where these slots' boxes alone do? -/
def chkV (l : List Nat) : CV → Bool
  | .op (.loc s) _ => l.contains s
  | v => !v.locv

def chk (l : List Nat) (env : Env) (bx : List (Nat × List CV)) : Bool := (env.all fun x => chkV l x.2) && (bx.all fun x => !CV.locs x.2)

/-- These slots alone go on. -/
def keepE (l : List Nat) (env : Env) (H : Heap) : Option (Env × Heap) :=
  if chk l (keep env l) (keepB H.bx l) then some (keep env l, ⟨keepB H.bx l, H.bl⟩) else none

inductive Ex where
  | norm
  | exit (id : Nat)
  | ret
  deriving DecidableEq

abbrev Caller := CV → List CV → Heap → Option (CV × Heap)

def putD (env : Env) (dst : Option Nat) (v : CV) : Env :=
  match dst with
  | some d => (d, v) :: env
  | none => env

/-- Which block a look goes to. -/
def idOf : CV → Option Nat
  | .op (.blk k) _ => some k
  | .om k => some k
  | _ => none
def oEqb : Option Blk → Option Blk → Bool
  | some x, some y => Blk.eqb x y
  | none, none => true
  | _, _ => false
/-- Are the blocks that these show as they were? -/
def sparesC : List CV → List Blk → List Blk → Bool
  | [], _, _ => true
  | v :: r, a, b => (match idOf v with | some k => oEqb a[k]? b[k]? | none => true) && sparesC r a b

def runOp (call : Caller) (o : COp) (vs : List CV) (H : Heap) : Option (CV × Heap) :=
  match o with
  | .p o => (pureOp o vs).map fun v => (v, H)
  | .h o => heapOp o vs H
  | .hb o => if CV.locs vs then none else heapOp o vs H
  | .hl s o =>
    match vs with
    | .op (.loc t) off :: r => if t = s ∧ CV.locs r = false then heapOp o (.op (.loc t) off :: r) H else none
    | _ => none
  | .callb =>
    match vs with
    | f :: args => (call f args ⟨[], H.bl⟩).map fun x => (x.1, ⟨H.bx, x.2.bl⟩)
    | [] => none
  | .callp =>
    match vs with
    | f :: args => (call f args ⟨[], H.bl⟩).bind fun x => if isPre H.bl x.2.bl then some (x.1, ⟨H.bx, x.2.bl⟩) else none
    | [] => none
  | .callk n =>
    match vs with
    | f :: rest => (call f (rest.take (rest.length - n)) ⟨[], H.bl⟩).bind fun x => if sparesC (rest.drop (rest.length - n)) H.bl x.2.bl then some (x.1, ⟨H.bx, x.2.bl⟩) else none
    | [] => none
  | .callv =>
    match vs with
    | f :: args => if CV.refs (f :: args) then none else (call f args ⟨[], []⟩).map fun x => (x.1, H)
    | [] => none
  | .call =>
    match vs with
    | f :: args => call f args H
    | [] => none

/-- What a guard's slot says: a bool, or that its own statement was passed over. -/
def gvC : CV → Option (Option Bool)
  | .bool b => some (some b)
  | .tup [] => some none
  | _ => none

def runOps (call : Caller) : List CStm → Env → Heap → Option (Env × Heap)
  | [], env, H => some (env, H)
  | s :: r, env, H =>
    match s.guard with
    | none => (runOp call s.op (evs env s.args) H).bind fun x => runOps call r (putD env s.dst x.1) x.2
    | some (g, want) =>
      match gvC (Env.at env g) with
      | some c =>
        if c = some want then (runOp call s.op (evs env s.args) H).bind fun x => runOps call r (putD env s.dst x.1) x.2
        else runOps call r (putD env s.dst (.tup [])) H
      | none => none

abbrev Out := Option (Ex × Env × Heap)

def joinE : Option (List Nat) → Env → Heap → Out
  | none, env, H => some (.norm, env, H)
  | some l, env, H => (keepE l env H).map fun x => (.norm, x.1, x.2)

def iter (id : Nat) (li lo : List Nat) (f : Env → Heap → Out) : Nat → Env → Heap → Out
  | 0, _, _ => none
  | n + 1, env, H =>
    (keepE li env H).bind fun x => (f x.1 x.2).bind fun
      | (.norm, env', H') => iter id li lo f n env' H'
      | (.exit k, env', H') => if k = id then (keepE lo env' H').map fun x => (.norm, x.1, x.2) else some (.exit k, env', H')
      | (.ret, env', H') => some (.ret, env', H')

/-- A box that nobody writes any more: by value from here on. -/
def frzC (t : Nat) (env : Env) (H : Heap) : Option (Env × Heap) :=
  match Env.at env t with
  | .op (.blk k) 0 =>
    match H.get (.blk k) with
    | some cs => if CV.refs cs then none else some ((t, .vp cs) :: env, H.kill (.blk k))
    | none => none
  | _ => none

def runC (call : Caller) (lf : Nat) : CCode → Env → Heap → Out
  | .skip, env, H => some (.norm, env, H)
  | .ops l, env, H => (runOps call l env H).map fun x => (.norm, x.1, x.2)
  | .seq a b, env, H =>
    (runC call lf a env H).bind fun
      | (.norm, env', H') => runC call lf b env' H'
      | r => some r
  | .cond c a b, env, H =>
    match ev env c with
    | .bool t => if t then runC call lf a env H else runC call lf b env H
    | _ => none
  | .block id lo c, env, H =>
    (runC call lf c env H).bind fun
      | (.exit k, env', H') => if k = id then joinE lo env' H' else some (.exit k, env', H')
      | (.norm, env', H') => joinE lo env' H'
      | r => some r
  | .bloop id li lo c, env, H => iter id li lo (fun e h => runC call lf c e h) lf env H
  | .exit id, env, H => some (.exit id, env, H)
  | .ret rs, env, H => some (.ret, Zc.keep env rs, H)
  | .frz t, env, H => (frzC t env H).map fun x => (.norm, x.1, x.2)

inductive Mode where
  | ref
  | fz (kn : Bool)
  | own
  deriving DecidableEq, Inhabited

inductive Res where
  | tmp (t : Nat)
  | cell (t : Nat) (agg : Bool) (n : Nat)
  deriving Inhabited

structure FInfo where
  mode : Mode
  np : Nat
  code : CCode
  res : List Res
  deriving Inhabited

structure Ctx where
  info : FuncId → Option FInfo
  prim : FuncId → Option (List CV → List Blk → Option (CV × List Blk))

def enterC : Nat → List CV → Env
  | _, [] => []
  | i, v :: r => (i, v) :: enterC (i + 1) r

def resOne (env : Env) (H : Heap) : Res → Option CV
  | .tmp t => some (Env.at env t)
  | .cell t agg n => (heapOp (.load agg n) [Env.at env t] H).map (·.1)

def resAll (env : Env) (H : Heap) : List Res → Option (List CV)
  | [] => some []
  | r :: rs => (resOne env H r).bind fun v => (resAll env H rs).map fun l => v :: l

def resV : List CV → CV
  | [v] => v
  | l => .tup l

/-- A body: what it hands back. -/
def bodyC (run : CCode → Env → Heap → Out) (I : FInfo) (as : List CV) (bl : List Blk) : Option (CV × Heap) :=
  if as.length = I.np then
    (run I.code (enterC 0 as) ⟨[], bl⟩).bind fun
      | (.exit _, _, _) => none
      | (_, env, H) => (resAll env H I.res).map fun vs => (resV vs, H)
  else none

/-- Slices alone: the cells of the one that is handed over. -/
def ownOf (st : Bool) (H : Heap) : CV → Option (Option (Nat × Nat × List CV))
  | .nils => some none
  | .os sz (.blk m) 0 n => (H.get (.blk m)).bind fun cs => if n * sz ≤ cs.length then (mapC (snap (H.kill (.blk m)) st false) cs).map fun cs' => some (sz, n, cs') else none
  | _ => none

def callC (C : Ctx) (run : CCode → Env → Heap → Out) (f : CV) (args : List CV) (H : Heap) : Option (CV × Heap) :=
  match f with
  | .fn (.func k) first cap =>
    let as := first ++ (args ++ cap)
    match C.prim k with
    | some s =>
      if CV.locs as then none else
      (s as H.bl).bind fun x => if x.1.locv then none else some (x.1, ⟨H.bx, x.2⟩)
    | none =>
      match C.info k with
      | none => none
      | some I =>
        match I.mode with
        | .ref =>
          if CV.locs as then none else
          (bodyC run I as H.bl).bind fun x => if x.1.locv then none else some (x.1, ⟨H.bx, x.2.bl⟩)
        | .fz kn =>
          (snapL H false false as).bind fun as' =>
            (bodyC run I as' []).bind fun x => (snap x.2 (CV.refs as) kn x.1).map fun v => (v, H)
        | .own =>
          (snapL H false false as).bind fun as' =>
            (bodyC run I as' []).bind fun x =>
              (ownOf (CV.refs as) x.2 x.1).map fun
                | none => (.nils, H)
                | some (sz, n, cs) => (.os sz (.blk H.bl.length) 0 n, H.push (.cells cs))
  | _ => none

def run (C : Ctx) : Nat → CCode → Env → Heap → Out
  | 0 => fun _ _ _ => none
  | n + 1 => runC (callC C (run C n)) n

end Go.Zc
end
section
namespace Go.Zc

def cOfV : Value → Option CV
  | .bool b => some (.bool b)
  | .int k n => some (.int k n)
  | .float k b => some (.float k b)
  | .complex k a b => some (.cplx k a b)
  | .string s => some (.str s)
  | .pointer none => some .nilp
  | .slice none 0 0 => some .nils
  | .map none => some .nilm
  | .nilFunc => some .nilf
  | .nilIface => some .nili
  | _ => none

def cOfVs : List Value → Option (List CV)
  | [] => some []
  | v :: r => (cOfV v).bind fun c => (cOfVs r).map fun l => c :: l

def cOfA : Value → Option CV
  | .agg vs => (cOfVs vs.toList).map .agg
  | v => cOfV v

variable [Globs]

def opd : Operand → Option Opd
  | .tmp t => some (.t t)
  | .const v => (cOfA v).map .c
  | .func f => some (.c (.fn (.func f) [] []))
  | .global g => (look Globs.cells g).map fun cs => .c (.vp cs)

def opds : List Operand → Option (List Opd)
  | [] => some []
  | x :: r => (opd x).bind fun y => (opds r).map fun l => y :: l

def oopd : Option Operand → Option (List Opd)
  | none => some []
  | some x => (opd x).map fun y => [y]

/-- What is told of a function from outside: which memory it makes is for others, which slices it writes; which slots live at a loop's head, and behind it. -/
structure Ann where
  heap : List Nat
  own : List Nat
  loops : List (Nat × List Nat × List Nat)
  blocks : List (Nat × List Nat)
  boxes : List Nat
  deriving Inhabited

def szOf (P : Program) (t : TypeId) : Option Nat := (P.info? t).map (·.size)

def isAggT (P : Program) (t : TypeId) : Option Bool :=
  match P.underlying t with
  | some (.struct _) | some (.array _ _) => some true
  | some _ => some false
  | none => none

/-- Is it an aggregate, and how many cells has it; what is none has one. -/
def shapeOf (P : Program) (t : TypeId) : Option (Bool × Nat) :=
  match isAggT P t, szOf P t with
  | some true, some n => some (true, n)
  | some false, some 1 => some (false, 1)
  | _, _ => none

def zeroCV (P : Program) (t : TypeId) : Option CV := ((P.info? t).bind (·.zero)).bind cOfA

def zeroCs (P : Program) (t : TypeId) : Option (List CV) := ((P.info? t).bind (·.zero)).bind fun z => cOfVs z.cells.toList

def eqFs (P : Program) (f : TypeId → Option EqT) : List Field → Option (List (Nat × Bool × Nat × EqT))
  | [] => some []
  | fd :: r =>
    if fd.name = "_" then none else
    match shapeOf P fd.type, f fd.type with
    | some s, some e => (eqFs P f r).map fun l => (fd.offset, s.1, s.2, e) :: l
    | _, _ => none

def eqT (P : Program) : Nat → TypeId → Option EqT
  | 0, _ => none
  | d + 1, t =>
    match P.underlying t with
    | some .bool => some .bool
    | some (.int _) => some .int
    | some (.pointer _) => some .ptr
    | some (.slice _) => some .sl
    | some (.map _ _) => some .mp
    | some (.func ..) => some .fn
    | some (.struct fs) =>
      if P.stoodInHeld t || P.eqGuardType P.depth t then none else
      (eqFs P (eqT P d) fs.toList).map .parts
    | _ => none

def places (P : Program) (fs : Array Field) : List (Nat × Operand) → Option (List (Nat × Nat) × List Opd)
  | [] => some ([], [])
  | (i, x) :: r =>
    match fs[i]?, opd x, places P fs r with
    | some f, some y, some (ps, ys) => (szOf P f.type).map fun n => ((f.offset, n) :: ps, y :: ys)
    | _, _, _ => none

def placesA (sz : Nat) : List (Nat × Operand) → Option (List (Nat × Nat) × List Opd)
  | [] => some ([], [])
  | (i, x) :: r =>
    match opd x, placesA sz r with
    | some y, some (ps, ys) => some ((i * sz, sz) :: ps, y :: ys)
    | _, _ => none

def allSized (P : Program) (fs : Array Field) : Bool := fs.toList.all fun f => (szOf P f.type).isSome

def plainKey (P : Program) (t : TypeId) : Option Nat :=
  match P.underlying t with
  | some (.int _) => some 0
  | some .string => some 1
  | some .bool => some 2
  | _ => none

def comp1 (P : Program) (an : Ann) (dst : Option Nat) : Op → Option (COp × List Opd)
  | .move x => (opd x).map fun y => (.p .mov, [y])
  | .assign x => (opd x).map fun y => (.p .mov, [y])
  | .pick c a b => (opds [c, a, b]).map fun l => (.p .pick, l)
  | .alloc e =>
    match zeroCs P e, dst with
    | some z, some d => if ones z && !CV.locs z then some (.h (if an.heap.contains d then .newh z else .newl d z), []) else none
    | _, _ => none
  | .box _ x =>
    match opd x, dst with
    | some y, some d => some (.h (if an.heap.contains d then .boxh else .box d), [y])
    | _, _ => none
  | .build t parts =>
    match zeroCs P t, P.underlying t with
    | some z, some (.struct fs) => if allSized P fs then (places P fs parts.toList).map fun x => (.p (.bld z x.1), x.2) else none
    | some z, some (.array _ e) => (szOf P e).bind fun n => (placesA n parts.toList).map fun x => (.p (.bld z x.1), x.2)
    | _, _ => none
  | .buildSlice t len parts =>
    match P.underlying t, dst with
    | some (.slice e), some d =>
      match szOf P e, zeroCs P e with
      | some n, some z =>
        if z.length = n ∧ 0 < n ∧ len * n ≤ 16777216 ∧ ones z = true then
          (placesA n parts.toList).map fun x => (.h (if an.own.contains d then .bslO n len z x.1 else .bslF n len z x.1), x.2)
        else none
      | _, _ => none
    | _, _ => none
  | .load t a => (shapeOf P t).bind fun s => (opd a).map fun y => (.h (.load s.1 s.2), [y])
  | .store t a x => (szOf P t).bind fun n => (opds [a, x]).map fun l => (.h (.store n), l)
  | .nilCheck x => (opd x).map fun y => (.p .nchk, [y])
  | .binOp op t x y _ =>
    match op with
    | .eql | .neq => (opds [x, y]).map fun l => (.p (.bin op ((eqT P 20 t).getD .ifc)), l)
    | _ => (opds [x, y]).map fun l => (.p (.bin op .ifc), l)
  | .unOp op _ x => (opd x).map fun y => (.p (.un op), [y])
  | .convert src dst x =>
    match P.underlying src, P.underlying dst with
    | some _, some (.int k) => (opd x).map fun y => (.p (.toInt k), [y])
    | some _, some (.float k) => (opd x).map fun y => (.p (.toFloat k), [y])
    | some (.slice e), some .string => match P.underlying e with
      | some (.int .u8) => (opd x).map fun y => (.h .bstr, [y])
      | _ => none
    | _, _ => none
  | .makeInterface t x =>
    match P.underlying t with
    | some (.interface _) | none => none
    | _ => (opd x).map fun y => (.p (.mkif t), [y])
  | .makeFunc f a c => (opds a.toList).bind fun x => (opds c.toList).map fun y => (.p (.mkfn f x.length), x ++ y)
  | .makeMap _ none => some (.h .mkmap, [])
  | .makeSlice t l c =>
    match P.underlying t with
    | some (.slice e) =>
      match P.info? e, zeroCs P e with
      | some i, some z => if 0 < i.size then (opds [l, c]).map fun xs => (.h (match dst with | some d => if an.own.contains d then .mkslF i.size i.bytes z else .mksl i.size i.bytes z | none => .mksl i.size i.bytes z), xs) else none
      | _, _ => none
    | _ => none
  | .slice t x lo hi none =>
    match P.underlying t with
    | some (.slice e) => (szOf P e).bind fun n => (opd x).bind fun y => (oopd lo).bind fun l => (oopd hi).map fun h => (.p (.slc n lo.isSome hi.isSome), y :: (l ++ h))
    | _ => none
  | .fieldAddr s x f =>
    match P.underlying s with
    | some (.struct fs) =>
      (fs[f]?).bind fun fd =>
        match szOf P fd.type with
        | some (_ + 1) => (opd x).map fun y => (.p (.faddr fd.offset), [y])
        | _ => none
    | _ => none
  | .field t x f =>
    match P.underlying t with
    | some (.struct fs) => (fs[f]?).bind fun fd => (shapeOf P fd.type).bind fun s => (opd x).map fun y => (.p (.fld s.1 s.2 fd.offset), [y])
    | _ => none
  | .indexAddr t x i =>
    match P.underlying t with
    | some (.slice e) => (szOf P e).bind fun n => (opds [x, i]).map fun l => (.p (.iaddr n), l)
    | some (.array len e) => (szOf P e).bind fun n => (opds [x, i]).map fun l => (.p (.iaddrA len n), l)
    | _ => none
  | .index t x i =>
    match P.underlying t with
    | some (.array len e) => (shapeOf P e).bind fun s => (opds [x, i]).map fun l => (.p (.idxA len s.1 s.2), l)
    | some .string => (opds [x, i]).map fun l => (.p .idxS, l)
    | _ => none
  | .lookup t m k ok =>
    match P.underlying t with
    | some (.map kt e) => (plainKey P kt).bind fun kk => (zeroCV P e).bind fun z => (opds [m, k]).map fun l => (.h (.look kk z ok), l)
    | _ => none
  | .mapUpdate t m k v =>
    match P.underlying t with
    | some (.map kt _) => (plainKey P kt).bind fun kk => (opds [m, k, v]).map fun l => (.h (.mput kk), l)
    | _ => none
  | .range t x =>
    match P.underlying t with
    | some .string => (opd x).map fun y => (.h .srng, [y])
    | some (.map _ _) => (opd x).map fun y => (.h .mrng, [y])
    | _ => none
  | .next x s => (opd x).map fun y => (.h (if s then .nxtS else .nxtM), [y])
  | .extract x i => (opd x).map fun y => (.p (.ext i), [y])
  | .call { callee := .value f, args, .. } => (opd f).bind fun g => (opds args.toList).map fun l => (.call, g :: l)
  | .call { callee := .builtin b, args, argTypes } =>
    match b, argTypes.toList, args.toList with
    | .len, [t], [x] =>
      match P.underlying t with
      | some .string => (opd x).map fun y => (.p .lenS, [y])
      | some (.slice _) => (opd x).map fun y => (.p .len, [y])
      | some (.array n _) => (opd x).map fun y => (.p (.lenK n), [y])
      | some (.map _ _) => (opd x).map fun y => (.h .lenM, [y])
      | _ => none
    | .append, [t, u], [s, x] =>
      match P.underlying t, P.underlying u with
      | some (.slice e), some (.slice _) =>
        match P.info? e, zeroCs P e with
        | some i, some z => (opds [s, x]).map fun l => (.h (.app i.size i.bytes z), l)
        | _, _ => none
      | some (.slice e), some (.int _) =>
        match P.info? e, zeroCs P e with
        | some i, some z => (opds [s, x]).map fun l => (.h (.appz i.size i.bytes z), l)
        | _, _ => none
      | _, _ => none
    | .copy, [t, _], [d, x] =>
      match P.underlying t with
      | some (.slice e) => (szOf P e).bind fun n => (opds [d, x]).map fun l => (.h (.copy n), l)
      | _ => none
    | .clear, [t], [x] =>
      match P.underlying t with
      | some (.slice e) =>
        match szOf P e, zeroCs P e with
        | some n, some z => (opd x).map fun y => (.h (.clear n z), [y])
        | _, _ => none
      | _ => none
    | .delete, [t, _], [m, k] =>
      match P.underlying t with
      | some (.map kt _) => (plainKey P kt).bind fun kk => (opds [m, k]).map fun l => (.h (.mdel kk), l)
      | _ => none
    | .complex, _, [a, b] => (opds [a, b]).map fun l => (.p .cplx, l)
    | .real, _, [a] => (opds [a]).map fun l => (.p .re, l)
    | .imag, _, [a] => (opds [a]).map fun l => (.p .im, l)
    | .min, _, l => (opds l).map fun l => (.p .min, l)
    | .max, _, l => (opds l).map fun l => (.p .max, l)
    | .cap, [t], [x] =>
      match P.underlying t with
      | some (.slice _) => (opd x).map fun y => (.p .cap, [y])
      | _ => none
    | _, _, _ => none
  | _ => none

def gOf (ops : Array Oper) : Option (Nat × Bool) → Option (Option (Nat × Bool))
  | none => some none
  | some (j, want) => ((ops[j]?).bind (·.dst)).map fun t => some (t, want)

def compStm (P : Program) (an : Ann) (nt : Nat) (ops : Array Oper) (o : Oper) : Option CStm :=
  if o.dst.all (· < nt) then
    match comp1 P an o.dst o.op, gOf ops o.guard with
    | some (c, args), some g => some ⟨o.dst, c, args, g⟩
    | _, _ => none
  else none

def compStms (P : Program) (an : Ann) (nt : Nat) (ops : Array Oper) : List Oper → Option (List CStm)
  | [] => some []
  | o :: r => (compStm P an nt ops o).bind fun s => (compStms P an nt ops r).map fun l => s :: l

/-- What a statement of a region may look at, or turn: a box, or the blocks. -/
inductive Rsc where
  | loc (s : Nat)
  | bl
  deriving DecidableEq

/-- What it looks at (or all), what it turns (or all). -/
structure Foot where
  ra : Bool
  r : List Rsc
  wa : Bool
  w : List Rsc

def footOf (quiet : FuncId → Bool) (s : CStm) : Foot :=
  match s.op with
  | .p _ => ⟨false, [], false, []⟩
  | .h (.bslF ..) => ⟨false, [], false, []⟩
  | .h (.newl d _) => ⟨false, [.loc d], false, [.loc d]⟩
  | .h (.box d) => ⟨false, [.loc d], false, [.loc d]⟩
  | .h (.load ..) | .h (.look ..) | .h .lenM => ⟨true, [], false, []⟩
  | .h _ => ⟨true, [], true, []⟩
  | .hl d (.load ..) => ⟨false, [.loc d], false, []⟩
  | .hl d (.store ..) => ⟨false, [.loc d], false, [.loc d]⟩
  | .hl _ _ => ⟨true, [], true, []⟩
  | .hb (.load ..) | .hb (.look ..) | .hb .lenM => ⟨false, [.bl], false, []⟩
  | .hb (.box _) | .hb (.newl ..) => ⟨true, [], true, []⟩
  | .hb _ => ⟨false, [.bl], false, [.bl]⟩
  | .callb =>
    match s.args with
    | .c (.fn (.func k) _ _) :: _ => if quiet k then ⟨false, [.bl], false, []⟩ else ⟨false, [.bl], false, [.bl]⟩
    | _ => ⟨false, [.bl], false, [.bl]⟩
  | .callp => ⟨false, [.bl], false, [.bl]⟩
  | .callk _ => ⟨false, [.bl], false, [.bl]⟩
  | .callv =>
    match s.args with
    | .c (.fn (.func k) _ _) :: _ => if quiet k then ⟨false, [], false, []⟩ else ⟨true, [], true, []⟩
    | _ => ⟨true, [], true, []⟩
  | .call =>
    match s.args with
    | .c (.fn (.func k) _ _) :: _ => if quiet k then ⟨true, [], false, []⟩ else ⟨true, [], true, []⟩
    | _ => ⟨true, [], true, []⟩

/-- What looks at blocks alone, by an address. -/
def steady (s : CStm) : Bool :=
  match s.op, s.args with
  | .hb (.load ..), .t _ :: _ | .hb (.look ..), .t _ :: _ | .hb .lenM, .t _ :: _ => true
  | _, _ => false
/-- What leaves the blocks that there are. -/
def grows (s : CStm) : Bool :=
  match s.op with
  | .callp | .hb .boxh | .hb (.newh _) | .hb .mkmap | .hb (.bslO ..) => true
  | _ => false
def temps : List Opd → List Nat
  | [] => []
  | .t n :: r => n :: temps r
  | .c _ :: r => temps r

/-- Which slots show what a call leaves. -/
def shows (y : CStm) : List Nat :=
  match y.op, y.args with
  | .callk n, _ :: r => temps (r.drop (r.length - n))
  | _, _ => []
/-- Does a call leave what a look looks at? -/
def spare (x y : CStm) : Bool :=
  match x.args with
  | .t t :: _ => (shows y).contains t
  | _ => false
def swaps (x y : CStm) : Bool := (steady x && (grows y || spare x y)) || ((grows x || spare y x) && steady y)
/-- What calls leave is shown by slots that the region doesn't write. -/
def stays (l : List CStm) : Bool := l.all fun y => (shows y).all fun t => l.all fun z => z.dst != some t

def hit (a : Bool) (l : List Rsc) (b : Bool) (m : List Rsc) : Bool := (a && (b || !m.isEmpty)) || (b && !l.isEmpty) || l.any fun r => m.contains r

def Foot.clash (x y : Foot) : Bool := hit x.wa x.w y.ra y.r || hit x.wa x.w y.wa y.w || hit y.wa y.w x.ra x.r

def reads (s : CStm) : List Nat :=
  match s.guard with
  | some (g, _) => g :: temps s.args
  | none => temps s.args

/-- May two statements of a region be turned about? -/
def meet (quiet : FuncId → Bool) (x y : CStm) : Bool :=
  ((footOf quiet x).clash (footOf quiet y) && !swaps x y) ||
  (match x.dst with | some d => (reads y).contains d || y.dst == some d | none => false) ||
  (match y.dst with | some d => (reads x).contains d | none => false)

/-- No statement waits for itself or a later one. -/
def early (ops : Array Oper) : Bool := ops.toList.zipIdx.all fun x => x.1.after.toList.all fun e => !Region.binds .any e || decide (e.on < x.2)

def maskOf (acc : List Nat) (o : Oper) : Nat := o.after.toList.foldl (fun s e => if Region.binds .any e then s ||| 2 ^ e.on ||| acc.getD e.on 0 else s) 0

/-- Which operations each one waits for. -/
def masks : List Nat → List Oper → List Nat
  | acc, [] => acc
  | acc, o :: r => masks (acc ++ [maskOf acc o]) r

def meets (quiet : FuncId → Bool) (b : List Nat) (l : List CStm) (y : CStm) (j : Nat) : Bool :=
  (l.take j).zipIdx.all fun x => !meet quiet x.1 y || (b.getD j 0).testBit x.2

def drawOk (quiet : FuncId → Bool) (ops : Array Oper) (l : List CStm) : Bool :=
  early ops && (l.zipIdx.all fun y => meets quiet (masks [] ops.toList) l y.1 y.2) && stays l

/-- What is carried out late in the text waits for all ahead of it. -/
def lateMasks (ms : List Nat) (B : Nat) : List Nat := ms.set B (ms.getD B 0 ||| (2 ^ B - 1))
/-- May a new map be made at any time, though the text has it at B? -/
def lateOk (quiet : FuncId → Bool) (ops : Array Oper) (l : List CStm) (B d : Nat) : Bool :=
  early ops && (l.zipIdx.all fun y => meets quiet (lateMasks (masks [] ops.toList) B) l y.1 y.2) && (l.zipIdx.all fun x => x.2 == B || x.1.dst != some d) &&
  !((masks [] ops.toList).getD B 0).testBit B && ((masks [] ops.toList).all fun m => !m.testBit B || (List.range B).all fun k => m.testBit k) && stays l
/-- Where a region makes a new map. -/
def mkAt : List CStm → Nat → Option (Nat × Nat)
  | [], _ => none
  | ⟨some d, .h .mkmap, [], none⟩ :: _, i => some (i, d)
  | _ :: r, i => mkAt r (i + 1)
def chkS (d : Nat) : CStm := ⟨none, .p .isund, [.t d], none⟩

/-- Where an address comes from, in a region. -/
def rootIn (l : List CStm) : Nat → Nat → Nat
  | 0, t => t
  | n + 1, t =>
    match l.find? fun s => s.dst == some t with
    | some ⟨_, .p (.faddr _), [.t u], _⟩ => rootIn l n u
    | some ⟨_, .p (.iaddrA _ _), .t u :: _, _⟩ => rootIn l n u
    | some ⟨_, .p .mov, [.t u], _⟩ => rootIn l n u
    | _ => t

/-- A statement, with where it works: looked at when it runs. -/
def focus (boxes : List Nat) (l : List CStm) (s : CStm) : CStm :=
  match s.op, s.args with
  | .h (.load a n), .t t :: _ => if boxes.contains (rootIn l 20 t) then { s with op := .hl (rootIn l 20 t) (.load a n) } else { s with op := .hb (.load a n) }
  | .h (.store n), .t t :: _ => if boxes.contains (rootIn l 20 t) then { s with op := .hl (rootIn l 20 t) (.store n) } else { s with op := .hb (.store n) }
  | .h (.box _), _ | .h (.newl ..), _ | .h (.bslF ..), _ => s
  | .h o, _ => { s with op := .hb o }
  | .call, _ => { s with op := .callb }
  | _, _ => s

/-- The same, its calls looked at more narrowly. -/
def focusC (quiet : FuncId → Bool) (v : Bool) (s : CStm) : CStm :=
  match s.op, s.args with
  | .callb, .c (.fn (.func k) _ _) :: _ => if quiet k then (if v then { s with op := .callv } else s) else { s with op := .callp }
  | _, _ => s

/-- The slots by which looks look, that the region doesn't write. -/
def lookSlots (l : List CStm) : List CStm → List Nat
  | [] => []
  | s :: r =>
    match s.op, s.args with
    | .hb (.load ..), .t t :: _ => if (lookSlots l r).contains t || l.any (fun z => z.dst == some t) then lookSlots l r else t :: lookSlots l r
    | _, _ => lookSlots l r
/-- The same, of its calls told what they leave. -/
def focusK (quiet : FuncId → Bool) (ss : List Nat) (s : CStm) : CStm :=
  match s.op, s.args with
  | .callb, .c (.fn (.func k) a b) :: r => if quiet k then s else { s with op := .callk ss.length, args := .c (.fn (.func k) a b) :: (r ++ ss.map .t) }
  | .callb, f :: r => { s with op := .callk ss.length, args := f :: (r ++ ss.map .t) }
  | _, _ => s

/-- What the interpreter does not speak of: it hands nothing back. -/
def bad : CCode := .cond (.c .und) .skip .skip

/-- A region. -/
def compReg (P : Program) (quiet : FuncId → Bool) (an : Ann) (nt : Nat) (ops : Array Oper) (draw : Bool) : Option CCode :=
  match compStms P an nt ops ops.toList with
  | some l =>
    if !draw || drawOk quiet ops l then some (.ops l) else
    if drawOk quiet ops (l.map (focus an.boxes l)) then some (.ops (l.map (focus an.boxes l))) else
    if an.own.contains 2000000 && drawOk quiet ops ((l.map (focus an.boxes l)).map (focusK quiet (lookSlots (l.map (focus an.boxes l)) (l.map (focus an.boxes l))))) then some (.ops ((l.map (focus an.boxes l)).map (focusK quiet (lookSlots (l.map (focus an.boxes l)) (l.map (focus an.boxes l)))))) else
    if drawOk quiet ops ((l.map (focus an.boxes l)).map (focusC quiet false)) then some (.ops ((l.map (focus an.boxes l)).map (focusC quiet false))) else
    if drawOk quiet ops ((l.map (focus an.boxes l)).map (focusC quiet true)) then some (.ops ((l.map (focus an.boxes l)).map (focusC quiet true))) else
    match mkAt l 0 with
    | some (B, d) => if lateOk quiet ops ((l.map (focus an.boxes l)).map (focusC quiet false)) B d then some (.ops (chkS d :: (l.map (focus an.boxes l)).map (focusC quiet false))) else some bad
    | none => some bad
  | none => some bad
/-- Which boxes nobody writes behind a region. -/
def frzOf (an : Ann) : List Oper → List Nat
  | [] => []
  | o :: r =>
    match o.dst with
    | some d => if an.own.contains (1000000 + d) then d :: frzOf an r else frzOf an r
    | none => frzOf an r
def frzAll (c : CCode) : List Nat → CCode
  | [] => c
  | t :: r => frzAll (.seq c (.frz t)) r

def compC (P : Program) (quiet : FuncId → Bool) (an : Ann) (nt : Nat) (rs : List Nat) : Code → Option CCode
  | .skip => some .skip
  | .region _ ops draw => (compReg P quiet an nt ops draw).map fun c => frzAll c (frzOf an ops.toList)
  | .seq a b => (compC P quiet an nt rs a).bind fun x => (compC P quiet an nt rs b).map fun y => .seq x y
  | .cond c a b => (opd c).bind fun c => (compC P quiet an nt rs a).bind fun x => (compC P quiet an nt rs b).map fun y => .cond c x y
  | .block id (.loop c) =>
    (compC P quiet an nt rs c).bind fun x => (look an.loops id).map fun l => .bloop id l.1 l.2 x
  | .block id c => (compC P quiet an nt rs c).bind fun x => some (.block id (look an.blocks id) x)
  | .exit id => some (.exit id)
  | .ret => some (.ret rs)
  | _ => some bad

def compRes (P : Program) : List ResultVar → Option (List Res)
  | [] => some []
  | .tmp t :: r => (compRes P r).map fun l => .tmp t :: l
  | .cell a t :: r => (shapeOf P t).bind fun s => (compRes P r).map fun l => .cell a s.1 s.2 :: l

def resSlots : List ResultVar → List Nat
  | [] => []
  | .tmp t :: r => t :: resSlots r
  | .cell a _ :: r => a :: resSlots r

def compF (P : Program) (quiet : FuncId → Bool) (an : Ann) (mode : Mode) (fn : Func) : Option FInfo :=
  match fn.body with
  | none => none
  | some c =>
    if fn.name == "runtime.NumGoroutine" then none else
    (compC P quiet an fn.ntmps (resSlots fn.results.toList) c).bind fun x => (compRes P fn.results.toList).map fun rs => ⟨mode, fn.params.size + fn.nfree, x, rs⟩

end Go.Zc
end
section
namespace Go.Zc
variable [Globs]

section
variable {P : Program} {w : World} {F : Nat → Prop} {ι : IM} {env : Env} {a : Act}

structure EnvR (w : World) (F : Nat → Prop) (ι : IM) (env : Env) (a : Act) : Prop where
  t : ∀ t, VR w F ι (Env.at env t) (a.tmps.getD t undef)
  g : GlobOk w F
instance : CoeFun (EnvR w F ι env a) (fun _ => ∀ t, VR w F ι (Env.at env t) (a.tmps.getD t undef)) := ⟨EnvR.t⟩

theorem cOfV_ok : ∀ {v : Value} {c : CV}, cOfV v = some c → VR w F ι c v
  | .bool _, _, h | .int _ _, _, h | .float _ _, _, h | .complex _ _ _, _, h | .string _, _, h | .nilFunc, _, h | .nilIface, _, h => by
    simp only [cOfV, Option.some.injEq] at h; subst h; simp [VR, BR]
  | .pointer none, _, h | .map none, _, h => by simp only [cOfV, Option.some.injEq] at h; subst h; simp [VR, BR]
  | .slice none 0 0, _, h => by simp only [cOfV, Option.some.injEq] at h; subst h; simp [VR, BR]
  | .slice none (_ + 1) _, _, h | .slice none 0 (_ + 1), _, h | .slice (some _) _ _, _, h => by simp [cOfV] at h
  | .pointer (some _), _, h | .map (some _), _, h | .chan _, _, h | .func _ _ _, _, h | .iface _ _, _, h | .agg _, _, h | .tuple _, _, h => by simp [cOfV] at h

theorem cOfVs_ok : ∀ {vs : List Value} {cs : List CV}, cOfVs vs = some cs → VRl w F ι cs vs
  | [], _, h => by simp only [cOfVs, Option.some.injEq] at h; subst h; simp [VRl]
  | v :: vs, _, h => by
    simp only [cOfVs, Option.bind_eq_some_iff, Option.map_eq_some_iff] at h
    obtain ⟨c, h1, l, h2, rfl⟩ := h
    simp only [VRl]
    exact ⟨v, vs, rfl, cOfV_ok h1, cOfVs_ok h2⟩

theorem cOfA_ok {v : Value} {c : CV} (h : cOfA v = some c) : VR w F ι c v := by
  unfold cOfA at h
  split at h
  · simp only [Option.map_eq_some_iff] at h
    obtain ⟨l, h1, rfl⟩ := h
    simp only [VR]
    exact ⟨_, rfl, cOfVs_ok h1⟩
  · exact cOfV_ok h

theorem opd_ok (he : EnvR w F ι env a) {x : Operand} {y : Opd} (h : opd x = some y) : VR w F ι (ev env y) (a.eval x) := by
  cases x with
  | tmp t => simp only [opd, Option.some.injEq] at h; subst h; exact he t
  | const v =>
    simp only [opd, Option.map_eq_some_iff] at h
    obtain ⟨c, h1, rfl⟩ := h
    exact cOfA_ok h1
  | func f =>
    simp only [opd, Option.some.injEq] at h; subst h
    simp only [ev, Act.eval, VR]
    exact ⟨#[], #[], rfl, rfl, rfl⟩
  | global g =>
    simp only [opd, Option.map_eq_some_iff] at h
    obtain ⟨cs, h1, rfl⟩ := h
    obtain ⟨h2, h3⟩ := he.g g cs h1
    simp only [ev, Act.eval, VR, BR]
    exact ⟨g, 0, rfl, h2, h3⟩

theorem opds_ok (he : EnvR w F ι env a) : ∀ {xs : List Operand} {ys : List Opd}, opds xs = some ys → VRl w F ι (evs env ys) (xs.map a.eval)
  | [], _, h => by simp only [opds, Option.some.injEq] at h; subst h; simp [VRl, evs]
  | x :: xs, _, h => by
    simp only [opds, Option.bind_eq_some_iff, Option.map_eq_some_iff] at h
    obtain ⟨y, h1, l, h2, rfl⟩ := h
    simp only [VRl, evs, List.map_cons]
    exact ⟨_, _, rfl, opd_ok he h1, opds_ok he h2⟩

theorem opds1 {x : Operand} {ys : List Opd} (h : opds [x] = some ys) : ∃ y, opd x = some y ∧ ys = [y] := by
  simp only [opds, Option.bind_eq_some_iff, Option.map_eq_some_iff, Option.some.injEq] at h
  obtain ⟨y, h1, l, rfl, rfl⟩ := h
  exact ⟨y, h1, rfl⟩

theorem opds2 {x z : Operand} {ys : List Opd} (h : opds [x, z] = some ys) : ∃ y u, opd x = some y ∧ opd z = some u ∧ ys = [y, u] := by
  simp only [opds, Option.bind_eq_some_iff, Option.map_eq_some_iff, Option.some.injEq] at h
  obtain ⟨y, h1, l, ⟨u, h2, m, rfl, rfl⟩, rfl⟩ := h
  exact ⟨y, u, h1, h2, rfl⟩

theorem opds3 {x z q : Operand} {ys : List Opd} (h : opds [x, z, q] = some ys) : ∃ y u v, opd x = some y ∧ opd z = some u ∧ opd q = some v ∧ ys = [y, u, v] := by
  simp only [opds, Option.bind_eq_some_iff, Option.map_eq_some_iff, Option.some.injEq] at h
  obtain ⟨y, h1, l, ⟨u, h2, m, ⟨v, h3, n, rfl, rfl⟩, rfl⟩, rfl⟩ := h
  exact ⟨y, u, v, h1, h2, h3, rfl⟩

/-! ### Shapes of values -/

theorem VR.int {k : IntKind} {n : Int} {v : Value} (h : VR w F ι (.int k n) v) : v = .int k n := by simpa [VR, BR] using h
theorem VR.bool {b : Bool} {v : Value} (h : VR w F ι (.bool b) v) : v = .bool b := by simpa [VR, BR] using h
theorem VR.float {k : FloatKind} {n : Nat} {v : Value} (h : VR w F ι (.float k n) v) : v = .float k n := by simpa [VR, BR] using h
theorem VR.cplx {k : FloatKind} {n m : Nat} {v : Value} (h : VR w F ι (.cplx k n m) v) : v = .complex k n m := by simpa [VR, BR] using h
theorem VR.str {s : ByteArray} {v : Value} (h : VR w F ι (.str s) v) : v = .string s := by simpa [VR, BR] using h

theorem vr_int (k : IntKind) (n : Int) : VR w F ι (.int k n) (.int k n) := by simp [VR, BR]
theorem vr_bool (b : Bool) : VR w F ι (.bool b) (.bool b) := by simp [VR, BR]
theorem vr_float (k : FloatKind) (n : Nat) : VR w F ι (.float k n) (.float k n) := by simp [VR, BR]
theorem vr_cplx (k : FloatKind) (n m : Nat) : VR w F ι (.cplx k n m) (.complex k n m) := by simp [VR, BR]
theorem vr_str (s : ByteArray) : VR w F ι (.str s) (.string s) := by simp [VR, BR]

theorem addr_add (b o n : Nat) : (⟨b, o, none⟩ : Addr).add n = ⟨b, o + n, none⟩ := by unfold Addr.add; split <;> simp_all

theorem BRc.drop {w : World} {F : Nat → Prop} : ∀ (n : Nat) {cs : List CV} {b o : Nat}, BRc w F cs b o → BRc w F (cs.drop n) b (o + n)
  | 0, _, _, _, h => by simpa using h
  | n + 1, [], _, _, _ => by simp [BRc]
  | n + 1, c :: cs, b, o, h => by
    simp only [BRc] at h
    have := BRc.drop n h.2
    simpa [show o + 1 + n = o + (n + 1) by omega] using this

theorem BRc.take {w : World} {F : Nat → Prop} : ∀ (n : Nat) {cs : List CV} {b o : Nat}, BRc w F cs b o → BRc w F (cs.take n) b o
  | 0, _, _, _, _ => by simp [BRc]
  | n + 1, [], _, _, _ => by simp [BRc]
  | n + 1, c :: cs, b, o, h => by
    simp only [BRc, List.take_succ_cons] at h ⊢
    exact ⟨h.1, BRc.take n h.2⟩

theorem BRc.get {w : World} {F : Nat → Prop} : ∀ {cs : List CV} {b o : Nat}, BRc w F cs b o → ∀ (j : Nat) (c : CV), cs[j]? = some c → ∃ u, w.cell? ⟨b, o + j, none⟩ = some u ∧ BR w F c u
  | [], _, _, _, j, c, e => by simp at e
  | c :: cs, b, o, h, j, x, e => by
    simp only [BRc] at h
    cases j with
    | zero => simp at e; subst e; simpa using h.1
    | succ j =>
      have := BRc.get h.2 j x (by simpa using e)
      simpa [show o + 1 + j = o + (j + 1) by omega] using this

/-! ### Running in the model -/

theorem run_under {t : TypeId} {d : TypeDesc} (h : P.underlying t = some d) : (underlying t).run P w = .ok d w := by simp [underlying, h]

theorem run_sizeOf' {t : TypeId} {n : Nat} (h : szOf P t = some n) : (sizeOf t).run P w = .ok n w := by
  simp only [szOf, Option.map_eq_some_iff] at h
  obtain ⟨i, h1, h2⟩ := h
  simp [sizeOf, typeInfo, h1, h2]

theorem run_isAgg' {t : TypeId} {b : Bool} (h : isAggT P t = some b) : (isAgg t).run P w = .ok b w := by
  unfold isAggT at h
  split at h <;> (try cases h) <;> simp_all [isAgg, underlying]
  all_goals (split <;> simp_all)

theorem shapeOf_ok {t : TypeId} {s : Bool × Nat} (h : shapeOf P t = some s) : isAggT P t = some s.1 ∧ szOf P t = some s.2 ∧ (s.1 = false → s.2 = 1) := by
  unfold shapeOf at h
  split at h <;> (try cases h) <;> simp_all

theorem run_part' {t : TypeId} {s : Bool × Nat} (hs : shapeOf P t = some s) {cs : List CV} {vs : Array Value} (h : VRl w F ι cs vs.toList) {off : Nat} {c : CV}
    (hp : partC s.1 s.2 off cs = some c) : ∃ v, (part t vs off).run P w = .ok v w ∧ VR w F ι c v := by
  obtain ⟨h1, h2, h3⟩ := shapeOf_ok hs
  cases hb : s.1 with
  | true =>
    rw [hb] at h1
    simp only [partC, hb, if_true, Option.some.injEq] at hp
    subst hp
    refine ⟨.agg (vs.extract off (off + s.2)), by simp [part, run_isAgg' h1, run_sizeOf' h2], ?_⟩
    simp only [VR]
    refine ⟨_, rfl, ?_⟩
    have := (h.drop off).take s.2
    simpa [List.extract_eq_take_drop] using this
  | false =>
    rw [hb] at h1
    simp only [partC, hb, Bool.false_eq_true, if_false] at hp
    obtain ⟨u, h4, h5⟩ := h.get _ _ hp
    have h4' : vs[off]? = some u := by simpa using h4
    exact ⟨u, by simp [part, run_isAgg' h1, h4'], h5⟩

end
end Go.Zc
end
section
namespace Go.Zc
variable [Globs]

section
variable {P : Program} {w : World} {F : Nat → Prop} {ι : IM}

theorem VR.agg {cs : List CV} {v : Value} (h : VR w F ι (.agg cs) v) : ∃ vs, v = .agg vs ∧ VRl w F ι cs vs.toList := by simpa only [VR] using h

theorem eqFs_ok {n : Nat} {f : TypeId → Option EqT} (ih : ∀ (t : TypeId) (e : EqT), f t = some e → ∀ (x y : CV) (u v : Value) (b : Bool), eqC e x y = some b → VR w F ι x u → VR w F ι y v → (Op.equalIn n t u v).run P w = .ok b w)
    {cs ds : List CV} {xs ys : Array Value} (hx : VRl w F ι cs xs.toList) (hy : VRl w F ι ds ys.toList) :
    ∀ (fs : List Field) (l : List (Nat × Bool × Nat × EqT)), eqFs P f fs = some l → ∀ b, eqCs l cs ds = some b →
      Sem.run P (forIn (m := Sem) fs ((none : Option Bool), ()) fun f __s =>
            if f.name = "_" then pure (ForInStep.yield (none, ()))
            else do
              let __do_lift ← part f.type xs f.offset
              let __do_lift_1 ← part f.type ys f.offset
              let __do_lift ← Op.equalIn n f.type __do_lift __do_lift_1
              if __do_lift = false then pure (ForInStep.done (some false, ())) else pure (ForInStep.yield (none, ()))) w = .ok (if b then none else some false, ()) w
  | [], l, hl, b, hb => by
    simp only [eqFs, Option.some.injEq] at hl; subst hl
    simp only [eqCs, Option.some.injEq] at hb; subst hb
    simp
  | fd :: r, l, hl, b, hb => by
    simp only [eqFs] at hl
    split at hl
    · cases hl
    · rename_i hname
      split at hl
      · rename_i s e hs he
        simp only [Option.map_eq_some_iff] at hl
        obtain ⟨l', hl', rfl⟩ := hl
        simp only [eqCs] at hb
        split at hb
        · rename_i p q hp hq
          obtain ⟨u, hu, hpu⟩ := run_part' (P := P) hs hx hp
          obtain ⟨v, hv, hqv⟩ := run_part' (P := P) hs hy hq
          cases hc : eqC e p q with
          | none => simp [hc] at hb
          | some c =>
            have h1 := ih _ _ he _ _ _ _ _ hc hpu hqv
            cases c with
            | true =>
              simp only [hc] at hb
              have h2 := eqFs_ok ih hx hy r l' hl' b hb
              simp only [List.forIn_cons, if_neg hname, Sem.run_bind, hu, hv, h1, Result.andThen_ok, Bool.true_eq_false, if_false, Sem.run_pure]
              exact h2
            | false =>
              simp only [hc, Option.some.injEq] at hb
              subst hb
              simp only [List.forIn_cons, if_neg hname, Sem.run_bind, hu, hv, h1, Result.andThen_ok, if_true, Sem.run_pure, Bool.false_eq_true, if_false]
        · cases hb
      · cases hl

theorem eqC_ok : ∀ (d : Nat) (t : TypeId) (e : EqT), eqT P d t = some e → ∀ (n : Nat), d ≤ n → ∀ (x y : CV) (u v : Value) (b : Bool), eqC e x y = some b → VR w F ι x u → VR w F ι y v →
    (Op.equalIn n t u v).run P w = .ok b w
  | 0, t, e, he, _, _, _, _, _, _, _, _, _, _ => by simp [eqT] at he
  | d + 1, t, e, he, n, hn, x, y, u, v, b, hb, hu, hv => by
    obtain ⟨n, rfl⟩ : ∃ m, n = m + 1 := ⟨n - 1, by omega⟩
    unfold eqT at he
    split at he
    · rename_i ht
      cases he
      simp only [eqC] at hb
      split at hb
      · cases hb; rw [hu.bool, hv.bool]; simp [Op.equalIn, run_under ht]
      · cases hb
    · rename_i k ht
      cases he
      simp only [eqC] at hb
      split at hb
      · split at hb
        · rename_i hk'
          cases hb
          rw [hu.int, hv.int]
          simp [Op.equalIn, run_under ht, hk']
        · cases hb
      · cases hb
    · rename_i e' ht
      cases he
      simp only [eqC] at hb
      split at hb <;> (try cases hb) <;> simp only [VR, BR] at hu hv
      · subst hu; subst hv; simp [Op.equalIn, run_under ht]
      · subst hu; obtain ⟨_, _, rfl⟩ := hv; simp [Op.equalIn, run_under ht]
      · subst hu; obtain ⟨_, _, rfl, _⟩ := hv; simp [Op.equalIn, run_under ht]
      · subst hv; obtain ⟨_, _, rfl⟩ := hu; simp [Op.equalIn, run_under ht]
      · subst hv; obtain ⟨_, _, rfl, _⟩ := hu; simp [Op.equalIn, run_under ht]
    · rename_i e' ht
      cases he
      simp only [eqC] at hb
      split at hb <;> (try cases hb) <;> simp only [VR, BR] at hu hv
      · subst hu; subst hv; simp [Op.equalIn, run_under ht]
      · subst hu; obtain ⟨_, _, rfl, _, h3⟩ := hv
        rcases h3 with h3 | ⟨_, _, rfl, _⟩
        · cases h3
        · simp [Op.equalIn, run_under ht]
      · subst hv; obtain ⟨_, _, rfl, _, h3⟩ := hu
        rcases h3 with h3 | ⟨_, _, rfl, _⟩
        · cases h3
        · simp [Op.equalIn, run_under ht]
    · rename_i k' e' ht
      cases he
      simp only [eqC] at hb
      split at hb <;> (try cases hb) <;> simp only [VR, BR] at hu hv
      · subst hu; subst hv; simp [Op.equalIn, run_under ht]
      · subst hu; obtain ⟨_, _, rfl⟩ := hv; simp [Op.equalIn, run_under ht]
      · subst hv; obtain ⟨_, _, rfl⟩ := hu; simp [Op.equalIn, run_under ht]
    · rename_i ht
      cases he
      simp only [eqC] at hb
      split at hb <;> (try cases hb) <;> simp only [VR, BR] at hu hv
      · subst hu; subst hv; simp [Op.equalIn, run_under ht]
      · subst hu; obtain ⟨_, _, rfl, _⟩ := hv; simp [Op.equalIn, run_under ht]
      · subst hv; obtain ⟨_, _, rfl, _⟩ := hu; simp [Op.equalIn, run_under ht]
    · rename_i fs ht
      split at he
      · cases he
      · rename_i hno
        simp only [Option.map_eq_some_iff] at he
        obtain ⟨l, hl, rfl⟩ := he
        simp only [eqC] at hb
        split at hb <;> (try cases hb)
        obtain ⟨us, rfl, hus⟩ := hu.agg
        obtain ⟨vs, rfl, hvs⟩ := hv.agg
        have hst : P.stoodInHeld t = false := by
          cases h : P.stoodInHeld t <;> simp_all
        have := eqFs_ok (P := P) (n := n) (f := eqT P d) (fun t e he x y u v b hb hu hv => eqC_ok d t e he n (by omega) x y u v b hb hu hv) hus hvs fs.toList l hl b hb
        simp only [Op.equalIn, Sem.run_bind, run_under ht, Result.andThen_ok, run_program, hst]
        simp only [Bool.false_eq_true, if_false]
        rw [← Array.forIn_toList]
        simp only [ne_eq, ite_not, Bool.not_eq_eq_eq_not, Bool.not_true]
        rw [Sem.run_bind, this]
        cases b <;> simp
    · cases he

theorem eqGuard_other {op : BinOp} {t : TypeId} {x y : Operand} {a b : Value} (h : ∀ p q, a = .agg p → b = .agg q → P.eqGuardType P.depth t = false)
    (h2 : a ≠ .nilIface ∨ b ≠ .nilIface) : (eqGuard op t x y a b).run P w = .ok () w := by
  unfold eqGuard
  cases op <;> simp only [Bool.not_true, Bool.not_false, Bool.false_eq_true, if_true, if_false, Sem.run_pure] <;> 
  · split
    · simp at h2
    · rename_i p q
      simp [h p q rfl rfl]
    · rfl

theorem intBin_ok {op : BinOp} {e : EqT} {t : TypeId} {k k' : IntKind} {a b : Int} {c : CV}
    (h : binC op e (.int k a) (.int k' b) = some c) : ∃ v, (binOp op t (.int k a) (.int k' b)).run P w = .ok v w ∧ VR w F ι c v := by
  unfold binC at h
  cases op <;> simp only [shiftBin, intBin] at h
  case shl | shr =>
    split at h
    · cases h
    · rename_i hb
      cases h
      exact ⟨_, by simp [binOp, Op.shift, hb], vr_int _ _⟩
  case quo | rem =>
    split at h
    · rename_i hk
      split at h
      · cases h
      · rename_i hb
        cases h
        exact ⟨_, by simp [binOp, Op.intDiv, hk, hb], vr_int _ _⟩
    · cases h
  case add | sub | mul =>
    split at h
    · rename_i hk
      subst hk
      cases h
      refine ⟨_, ?_, vr_int _ _⟩
      simp [binOp, Op.intArith]
    · cases h
  case and | or | xor | andNot =>
    split at h
    · rename_i hk
      subst hk
      cases h
      refine ⟨_, ?_, vr_int _ _⟩
      simp [binOp, Op.intBits]
    · cases h
  all_goals
    split at h
    · rename_i hk
      subst hk
      cases h
      refine ⟨_, ?_, vr_bool _⟩
      simp [binOp, Op.intCmp]
    · cases h

theorem fArith_ok {op : BinOp} {k : FloatKind} {x y z : Nat} (h : fArith op k x y = some z) : (Op.floatArith op k x y).run P w = .ok (.float k z) w := by
  cases op <;> simp only [fArith] at h <;> (try cases h) <;> simp [Op.floatArith, h]

theorem fCmp_ok {op : BinOp} {k : FloatKind} {x y : Nat} {z : Bool} (h : fCmp op k x y = some z) : (Op.floatCmp op k x y).run P w = .ok (.bool z) w := by
  cases op <;> simp only [fCmp] at h <;> (try cases h) <;> simp [Op.floatCmp]

theorem floatBin_ok {op : BinOp} {e : EqT} {t : TypeId} {k k' : FloatKind} {a b : Nat} {c : CV}
    (h : binC op e (.float k a) (.float k' b) = some c) : ∃ v, (binOp op t (.float k a) (.float k' b)).run P w = .ok v w ∧ VR w F ι c v := by
  unfold binC at h
  simp only at h
  split at h
  · rename_i hk
    subst hk
    cases op <;> simp only [floatBin, Option.map_eq_some_iff] at h <;> obtain ⟨z, hz, rfl⟩ := h
    case add | sub | mul | quo => exact ⟨_, by simp [binOp, fArith_ok hz], vr_float _ _⟩
    case rem | and | or | xor | shl | shr | andNot => simp [fCmp] at hz
    all_goals
      refine ⟨_, ?_, vr_bool _⟩
      simp only [binOp, ne_eq, not_true_eq_false, if_false]
      exact fCmp_ok hz
  · cases h

theorem cplx_arith {op : BinOp} {k : FloatKind} {x y z : Nat} (h : fArith op k x y = some z) : (Op.Complex.arith op k x y).run P w = .ok z w := by
  simp [Op.Complex.arith, fArith_ok h]

theorem cplx_cmp {op : BinOp} {k : FloatKind} {x y : Nat} {z : Bool} (h : fCmp op k x y = some z) : (Op.Complex.cmp op k x y).run P w = .ok z w := by
  simp [Op.Complex.cmp, fCmp_ok h, asBool]

theorem quoC_ok {a b c d : Nat} {x : Nat × Nat} (h : quoC a b c d = some x) : (Op.Complex.quotient a b c d).run P w = .ok x w := by
  unfold quoC at h
  unfold Op.Complex.quotient
  generalize Op.Complex.isNaN = N at *
  generalize Op.Complex.isInf = I at *
  generalize Op.Complex.isFinite = U at *
  generalize Op.Complex.copysign = S at *
  generalize Op.Complex.inf2one = O at *
  generalize Op.Complex.abs = B at *
  generalize Op.Complex.inf = J at *
  generalize Op.Complex.corrected = K at *
  obtain ⟨g, hg, h⟩ := Option.bind_eq_some_iff.1 h
  obtain ⟨⟨e, f⟩, hy, h⟩ := Option.bind_eq_some_iff.1 h
  have he : ∀ x y : Nat, (Op.Complex.cmp .eql .f64 x y).run P w = .ok (FloatKind.f64.format.order x y == some .eq) w := fun x y => cplx_cmp rfl
  cases hq : (N e && N f) with
  | true => simp only [hq, cond_true] at h; cases h
  | false =>
    simp only [hq, cond_false, Option.some.injEq] at h
    subst h
    have hn : (!(N e && N f)) = true := by rw [hq]; rfl
    simp only [Op.Complex.mul, Op.Complex.sub, Op.Complex.add, Op.Complex.quo]
    cases g with
    | true =>
      simp only [cond_true, Option.bind_eq_some_iff, Option.map_eq_some_iff, Prod.mk.injEq] at hy
      obtain ⟨r, h1, rd, h2, dn, h3, br, h4, n1, h5, e', h6, ar, h7, n2, h8, f', h9, rfl, rfl⟩ := hy
      rw [Sem.run_bind, cplx_cmp hg]
      simp only [Result.andThen_ok, if_true, Sem.run_bind, cplx_arith h1, cplx_arith h2, cplx_arith h3, cplx_arith h4, cplx_arith h5, cplx_arith h6, cplx_arith h7, cplx_arith h8, cplx_arith h9, Sem.run_pure, he]
      rw [if_pos hn, Sem.run_pure]
    | false =>
      simp only [cond_false, Option.bind_eq_some_iff, Option.map_eq_some_iff, Prod.mk.injEq] at hy
      obtain ⟨r, h1, rd, h2, dn, h3, br, h4, n1, h5, e', h6, ar, h7, n2, h8, f', h9, rfl, rfl⟩ := hy
      rw [Sem.run_bind, cplx_cmp hg]
      simp only [Result.andThen_ok, Bool.false_eq_true, if_false, Sem.run_bind, cplx_arith h1, cplx_arith h2, cplx_arith h3, cplx_arith h4, cplx_arith h5, cplx_arith h6, cplx_arith h7, cplx_arith h8, cplx_arith h9, Sem.run_pure, he]
      rw [if_pos hn, Sem.run_pure]

theorem cplxBin_ok {op : BinOp} {e : EqT} {t : TypeId} {k k' : FloatKind} {a b c d : Nat} {x : CV}
    (h : binC op e (.cplx k a b) (.cplx k' c d) = some x) : ∃ v, (binOp op t (.complex k a b) (.complex k' c d)).run P w = .ok v w ∧ VR w F ι x v := by
  unfold binC at h
  simp only at h
  split at h
  · rename_i hk
    subst hk
    unfold cplxBin at h
    split at h
    · simp only [Option.bind_eq_some_iff, Option.map_eq_some_iff] at h
      obtain ⟨p, hp, q, hq, rfl⟩ := h
      exact ⟨_, by simp [binOp, Op.complexOp, cplx_arith hp, cplx_arith hq], vr_cplx _ _ _⟩
    · simp only [Option.bind_eq_some_iff, Option.map_eq_some_iff] at h
      obtain ⟨p, hp, q, hq, rfl⟩ := h
      exact ⟨_, by simp [binOp, Op.complexOp, cplx_arith hp, cplx_arith hq], vr_cplx _ _ _⟩
    · simp only [Option.bind_eq_some_iff, Option.map_eq_some_iff] at h
      obtain ⟨ac, h1, bd, h2, p, h3, ad, h4, bc, h5, q, h6, rfl⟩ := h
      refine ⟨_, ?_, vr_cplx _ _ _⟩
      simp [binOp, Op.complexOp, Op.Complex.conv, Op.Complex.product, Op.Complex.mul, Op.Complex.sub, Op.Complex.add, cplx_arith h1, cplx_arith h2, cplx_arith h3, cplx_arith h4, cplx_arith h5, cplx_arith h6]
    · simp only [Option.map_eq_some_iff] at h
      obtain ⟨⟨p, q⟩, h1, rfl⟩ := h
      refine ⟨_, ?_, vr_cplx _ _ _⟩
      simp [binOp, Op.complexOp, Op.Complex.conv, quoC_ok h1]
    · cases h
      refine ⟨_, ?_, vr_bool _⟩
      simp [binOp, Op.complexOp, Op.Complex.cmp, Op.floatCmp, asBool]
    · cases h
      refine ⟨_, ?_, vr_bool _⟩
      simp [binOp, Op.complexOp, Op.Complex.cmp, Op.floatCmp, asBool]
    · cases h
  · cases h

theorem strBin_ok {op : BinOp} {e : EqT} {t : TypeId} {a b : ByteArray} {x : CV}
    (h : binC op e (.str a) (.str b) = some x) : ∃ v, (binOp op t (.string a) (.string b)).run P w = .ok v w ∧ VR w F ι x v := by
  unfold binC at h
  simp only at h
  cases op <;> simp only [strBin] at h <;> (try cases h)
  · split at h
    · cases h
    · rename_i hb
      cases h
      exact ⟨_, by simp only [binOp, Op.stringOp]; rw [if_neg hb]; rfl, vr_str _⟩
  · exact ⟨_, by simp [binOp, Op.stringOp], vr_bool _⟩
  · exact ⟨_, by simp [binOp, Op.stringOp], vr_bool _⟩
end
end Go.Zc
end
section
namespace Go.Zc
variable [Globs]

section
variable {P : Program} {w : World} {F : Nat → Prop} {ι : IM} {env : Env} {a : Act}

/-- The model hands back what the interpreter does, and nothing has turned. -/
def POk (P : Program) (w : World) (F : Nat → Prop) (ι : IM) (a : Act) (o : Oper) (v : CV) : Prop :=
  ∃ v', (execOp a.eval o).run P w = .ok (.value v') w ∧ VR w F ι v v'

theorem VR.tup {cs : List CV} {v : Value} (h : VR w F ι (.tup cs) v) : ∃ vs, v = .tuple vs ∧ VRl w F ι cs vs.toList := by simpa only [VR] using h

theorem mov_ok (he : EnvR w F ι env a) {o : Oper} {x : Operand} {y : Opd} (ho : o.op = .move x ∨ o.op = .assign x) (hx : opd x = some y) : POk P w F ι a o (ev env y) := by
  refine ⟨a.eval x, ?_, opd_ok he hx⟩
  rcases ho with ho | ho <;> simp [execOp, ho]

theorem pick_ok {o : Oper} {c x y : Operand} (ho : o.op = .pick c x y) {b : Bool} {p q : CV} (hc : VR w F ι (.bool b) (a.eval c)) (hx : VR w F ι p (a.eval x)) (hy : VR w F ι q (a.eval y)) :
    POk P w F ι a o (if b then p else q) := by
  refine ⟨if b then a.eval x else a.eval y, ?_, ?_⟩
  · cases b <;> simp [execOp, ho, hc.bool, asBool]
  · cases b <;> assumption

theorem nchk_ok {o : Oper} {x : Operand} (ho : o.op = .nilCheck x) {c v : CV} (hx : VR w F ι c (a.eval x)) (h : nchkC c = some v) : POk P w F ι a o v := by
  unfold nchkC at h
  split at h <;> (try cases h)
  · refine ⟨a.eval x, ?_, hx⟩
    simp only [VR] at hx
    obtain ⟨b, _, e⟩ := hx
    simp [execOp, ho, e]
  · refine ⟨a.eval x, ?_, hx⟩
    simp only [VR, BR] at hx
    obtain ⟨b, _, e, _⟩ := hx
    simp [execOp, ho, e]
  · refine ⟨a.eval x, ?_, hx⟩
    simp only [VR] at hx
    obtain ⟨b, _, e, _⟩ := hx
    simp [execOp, ho, e]

theorem places_ok (he : EnvR w F ι env a) {fs : Array Field} : ∀ {parts : List (Nat × Operand)} {ps : List (Nat × Nat)} {ys : List Opd}, places P fs parts = some (ps, ys) →
    ps.length = parts.length ∧ ys.length = parts.length ∧ VRl w F ι (evs env ys) (parts.map fun x => a.eval x.2) ∧
    ∀ (j : Nat) (p : Nat × Operand), parts[j]? = some p → ∃ f n, fs[p.1]? = some f ∧ szOf P f.type = some n ∧ ps[j]? = some (f.offset, n)
  | [], _, _, h => by
    simp only [places, Option.some.injEq, Prod.mk.injEq] at h
    obtain ⟨rfl, rfl⟩ := h
    simp [VRl, evs]
  | (i, x) :: r, _, _, h => by
    simp only [places] at h
    split at h
    · rename_i f y ps' ys' h1 h2 h3
      simp only [Option.map_eq_some_iff, Prod.mk.injEq] at h
      obtain ⟨n, h4, rfl, rfl⟩ := h
      obtain ⟨i1, i2, i3, i4⟩ := places_ok he h3
      refine ⟨by simp [i1], by simp [i2], ?_, ?_⟩
      · simp only [evs, List.map_cons, VRl]
        exact ⟨_, _, rfl, opd_ok he h2, i3⟩
      · intro j p hp
        cases j with
        | zero => simp at hp; subst hp; exact ⟨f, n, h1, h4, rfl⟩
        | succ j => simpa using i4 j p (by simpa using hp)
    · cases h

theorem placesA_ok (he : EnvR w F ι env a) {sz : Nat} : ∀ {parts : List (Nat × Operand)} {ps : List (Nat × Nat)} {ys : List Opd}, placesA sz parts = some (ps, ys) →
    ps.length = parts.length ∧ ys.length = parts.length ∧ VRl w F ι (evs env ys) (parts.map fun x => a.eval x.2) ∧
    ∀ (j : Nat) (p : Nat × Operand), parts[j]? = some p → ps[j]? = some (p.1 * sz, sz)
  | [], _, _, h => by
    simp only [placesA, Option.some.injEq, Prod.mk.injEq] at h
    obtain ⟨rfl, rfl⟩ := h
    simp [VRl, evs]
  | (i, x) :: r, _, _, h => by
    simp only [placesA] at h
    split at h
    · rename_i y ps' ys' h2 h3
      simp only [Option.some.injEq, Prod.mk.injEq] at h
      obtain ⟨rfl, rfl⟩ := h
      obtain ⟨i1, i2, i3, i4⟩ := placesA_ok he h3
      refine ⟨by simp [i1], by simp [i2], ?_, ?_⟩
      · simp only [evs, List.map_cons, VRl]
        exact ⟨_, _, rfl, opd_ok he h2, i3⟩
      · intro j p hp
        cases j with
        | zero => simp at hp; subst hp; rfl
        | succ j => simpa using i4 j p (by simpa using hp)
    · cases h

theorem setMany_length : ∀ (r cs : List CV) (o : Nat), (setMany cs o r).length = cs.length
  | [], _, _ => rfl
  | c :: r, cs, o => by simp [setMany, setMany_length r]

theorem fold_set {c : CV} {v : Value} {off : Nat} : ∀ (xs : List CV) (us : List Value) (k : Nat) (cs : List CV) (vs : Array Value), VRl w F ι xs us → VRl w F ι cs vs.toList →
    VRl w F ι (setMany cs (off + k) xs) (((us.zipIdx k).foldl (fun cs x => cs.setIfInBounds (off + x.2) x.1) vs).toList)
  | [], us, k, cs, vs, hx, h => by
    simp only [VRl] at hx; subst hx
    simpa [setMany] using h
  | x :: xs, us, k, cs, vs, hx, h => by
    simp only [VRl] at hx
    obtain ⟨u, us', rfl, h1, h2⟩ := hx
    simp only [List.zipIdx_cons, List.foldl_cons, setMany]
    have := fold_set (c := c) (v := v) (off := off) xs us' (k + 1) (cs.set (off + k) x) (vs.setIfInBounds (off + k) u) h2 (by simpa using h.set (off + k) h1)
    rwa [show off + (k + 1) = off + k + 1 by omega] at this

theorem fill_ok {place : Nat → Option (Nat × Nat)} : ∀ (parts : List (Nat × Value)) (ps : List (Nat × Nat)) (vs : List CV) (cs out : List CV) (us : Array Value),
    VRl w F ι vs (parts.map (·.2)) → ps.length = parts.length → (∀ (j : Nat) (p : Nat × Value), parts[j]? = some p → ∃ q, ps[j]? = some q ∧ place p.1 = some q) →
    VRl w F ι cs us.toList → fillC cs (ps.zip vs) = some out → ∃ us', Instr.fill place us parts = some us' ∧ VRl w F ι out us'.toList
  | [], ps, vs, cs, out, us, _, hl, _, hc, h => by
    have : ps = [] := List.length_eq_zero_iff.1 (by simpa using hl)
    subst this
    simp only [List.zip_nil_left, fillC, Option.some.injEq] at h
    subst h
    exact ⟨us, rfl, hc⟩
  | (i, u) :: r, ps, vs, cs, out, us, hv, hl, hp, hc, h => by
    cases ps with
    | nil => simp at hl
    | cons p ps =>
      cases vs with
      | nil =>
        simp only [VRl] at hv
        cases hv
      | cons x vs =>
        simp only [List.map_cons, VRl] at hv
        obtain ⟨u', us', hu, h1, h2⟩ := hv
        cases hu
        obtain ⟨q, hq, hpl⟩ := hp 0 (i, u) rfl
        simp only [List.getElem?_cons_zero, Option.some.injEq] at hq
        subst hq
        obtain ⟨off, size⟩ := p
        simp only [List.zip_cons_cons, fillC] at h
        split at h
        · rename_i hcond
          obtain ⟨e1, e2, e3⟩ := hcond
          have hcells := h1.cells (by intro e; subst e; simp [CV.und?] at e3)
          have hlen := VRl.length hcells
          have hl2 := VRl.length hc
          simp only [Instr.fill, hpl]
          have hsz : u.cells.size = size := by simpa [e1] using hlen
          have hsz2 : us.size = cs.length := by simpa using hl2
          rw [if_neg (by simp [hsz, hsz2]; omega)]
          refine fill_ok r ps vs (setMany cs off x.cells) out _ h2 (by simpa using hl) (fun j p hp' => hp (j + 1) p (by simpa using hp')) ?_ h
          have := fold_set (c := x) (v := u) (off := off) x.cells u.cells.toList 0 cs us hcells hc
          have hz : (u.cells.zipIdx.foldl (fun cs (x : Value × Nat) => cs.setIfInBounds (off + x.2) x.1) us) = (u.cells.toList.zipIdx 0).foldl (fun cs x => cs.setIfInBounds (off + x.2) x.1) us := by
            rw [← Array.foldl_toList]; simp
          simp only [Nat.add_zero] at this
          rw [← hz] at this
          exact this
        · cases h

theorem run_zero {t : TypeId} {z : List CV} (h : zeroCs P t = some z) : ∃ v, (zeroValue t).run P w = .ok v w ∧ VRl w F ι z v.cells.toList := by
  simp only [zeroCs, Option.bind_eq_some_iff] at h
  obtain ⟨v, ⟨i, h1, h2⟩, h3⟩ := h
  exact ⟨v, by simp [zeroValue, typeInfo, h1, h2], cOfVs_ok h3⟩

theorem mapM_places {fs : Array Field} (h : allSized P fs = true) : ∃ l : Array (Nat × Nat), (fs.mapM (m := Sem) fun f => do pure (f.offset, ← sizeOf f.type)).run P w = .ok l w ∧
    ∀ (i : Nat) (f : Field), fs[i]? = some f → ∃ n, szOf P f.type = some n ∧ l[i]? = some (f.offset, n) := by
  rw [Array.mapM_eq_mapM_toList]
  have key : ∀ (l : List Field), (∀ f ∈ l, (szOf P f.type).isSome = true) → ∃ r : List (Nat × Nat), (l.mapM (m := Sem) fun f => do pure (f.offset, ← sizeOf f.type)).run P w = .ok r w ∧
      ∀ (i : Nat) (f : Field), l[i]? = some f → ∃ n, szOf P f.type = some n ∧ r[i]? = some (f.offset, n) := by
    intro l
    induction l with
    | nil => intro _; exact ⟨[], by simp, by simp⟩
    | cons f l ih =>
      intro hf
      obtain ⟨n, hn⟩ := Option.isSome_iff_exists.1 (hf f (by simp))
      obtain ⟨r, h1, h2⟩ := ih fun g hg => hf g (by simp [hg])
      refine ⟨(f.offset, n) :: r, ?_, ?_⟩
      · simp only [List.mapM_cons, Sem.run_bind, run_sizeOf' hn, Result.andThen_ok, Sem.run_pure, h1]
      · intro i g hg
        cases i with
        | zero => simp at hg; subst hg; exact ⟨n, hn, rfl⟩
        | succ i => simpa using h2 i g (by simpa using hg)
  obtain ⟨r, h1, h2⟩ := key fs.toList (List.all_eq_true.1 h)
  refine ⟨r.toArray, ?_, ?_⟩
  · simp only [Sem.run_map, h1, Result.andThen_ok]
  · intro i f hf
    simpa using h2 i f (by simpa using hf)

theorem build_ok (he : EnvR w F ι env a) {o : Oper} {t : TypeId} {parts : Array (Nat × Operand)} (ho : o.op = .build t parts) {an : Ann} {p : POp} {ys : List Opd} {v : CV}
    (hc : comp1 P an o.dst o.op = some (.p p, ys)) (h : pureOp p (evs env ys) = some v) : POk P w F ι a o v := by
  rw [ho] at hc
  simp only [comp1] at hc
  split at hc
  · rename_i z fs hz hu
    split at hc
    · rename_i hall
      simp only [Option.map_eq_some_iff, Prod.mk.injEq, COp.p.injEq] at hc
      obtain ⟨⟨ps, ys'⟩, hp, rfl, rfl⟩ := hc
      obtain ⟨h1, h2, h3, h4⟩ := places_ok he hp
      simp only [pureOp] at h
      split at h
      · simp only [Option.map_eq_some_iff] at h
        obtain ⟨out, h5, rfl⟩ := h
        obtain ⟨zv, hz1, hz2⟩ := run_zero (P := P) (w := w) (F := F) (ι := ι) hz
        obtain ⟨pl, hp1, hp2⟩ := mapM_places (P := P) (w := w) hall
        obtain ⟨us', h6, h7⟩ := fill_ok (w := w) (F := F) (ι := ι) (place := (pl[·]?)) (parts.toList.map fun x => (x.1, a.eval x.2)) ps (evs env ys') z out zv.cells
          (by simpa [Function.comp_def] using h3) (by simpa using h1) (fun j q hq => by
            simp only [List.getElem?_map, Option.map_eq_some_iff] at hq
            obtain ⟨q', hq', rfl⟩ := hq
            obtain ⟨f, n, e1, e2, e3⟩ := h4 j q' hq'
            obtain ⟨m, e4, e5⟩ := hp2 _ f e1
            rw [e2] at e4; cases e4
            exact ⟨_, e3, e5⟩) hz2 h5
        refine ⟨.agg us', ?_, by simp only [VR]; exact ⟨_, rfl, h7⟩⟩
        simp only [execOp, ho, Instr.build, Sem.run_bind, hz1, Result.andThen_ok, run_under hu, hp1]
        have : (parts.map fun (x : Nat × Operand) => (x.1, a.eval x.2)).toList = parts.toList.map fun x => (x.1, a.eval x.2) := by simp
        simp only [this, h6]
        simp
      · cases h
    · cases hc
  · rename_i z len e hz hu
    simp only [Option.bind_eq_some_iff, Option.map_eq_some_iff, Prod.mk.injEq, COp.p.injEq] at hc
    obtain ⟨n, hn, ⟨ps, ys'⟩, hp, rfl, rfl⟩ := hc
    obtain ⟨h1, h2, h3, h4⟩ := placesA_ok he hp
    simp only [pureOp] at h
    split at h
    · simp only [Option.map_eq_some_iff] at h
      obtain ⟨out, h5, rfl⟩ := h
      obtain ⟨zv, hz1, hz2⟩ := run_zero (P := P) (w := w) (F := F) (ι := ι) hz
      obtain ⟨us', h6, h7⟩ := fill_ok (w := w) (F := F) (ι := ι) (place := fun i => some (i * n, n)) (parts.toList.map fun x => (x.1, a.eval x.2)) ps (evs env ys') z out zv.cells
        (by simpa [Function.comp_def] using h3) (by simpa using h1) (fun j q hq => by
          simp only [List.getElem?_map, Option.map_eq_some_iff] at hq
          obtain ⟨q', hq', rfl⟩ := hq
          exact ⟨_, h4 j q' hq', rfl⟩) hz2 h5
      refine ⟨.agg us', ?_, by simp only [VR]; exact ⟨_, rfl, h7⟩⟩
      simp only [execOp, ho, Instr.build, Sem.run_bind, hz1, Result.andThen_ok, run_under hu, run_sizeOf' hn]
      have : (parts.map fun (x : Nat × Operand) => (x.1, a.eval x.2)).toList = parts.toList.map fun x => (x.1, a.eval x.2) := by simp
      simp only [this, h6]
      simp
    · cases h
  · cases hc
end
end Go.Zc
end
section
namespace Go.Zc
variable [Globs]

section
variable {P : Program} {w : World} {F : Nat → Prop} {ι : IM} {env : Env} {a : Act}

theorem VR.not_iface {c : CV} {v : Value} (h : VR w F ι c v) (hc : c ≠ .nili) (hu : c ≠ .und) : v ≠ .nilIface := by
  intro e
  subst e
  cases c <;> simp_all [VR, BR]

theorem VR.not_agg {c : CV} {v : Value} (h : VR w F ι c v) (hc : ∀ l, c ≠ .agg l) (hu : c ≠ .und) : ∀ l, v ≠ .agg l := by
  intro l e
  subst e
  cases c <;> simp_all [VR, BR]

/-- '==' of what is no number and no string. -/
theorem eqBin_ok {o : Oper} {op : BinOp} {t yt : TypeId} {x y : Operand} (ho : o.op = .binOp op t x y yt) (hop : op = .eql ∨ op = .neq) {e : EqT} (he : eqT P 20 t = some e) {p q : CV} {b : Bool}
    (hb : eqC e p q = some b) (hp : VR w F ι p (a.eval x)) (hq : VR w F ι q (a.eval y))
    (hpq : binC op e p q = some (.bool (if op = .eql then b else !b))) : POk P w F ι a o (.bool (if op = .eql then b else !b)) := by
  have heq := eqC_ok 20 t e he Op.maxDepth (by unfold Op.maxDepth; omega) p q _ _ b hb hp hq
  refine ⟨.bool (if op = .eql then b else !b), ?_, vr_bool _⟩
  have hpu : p ≠ .und := by rintro rfl; cases e <;> simp [eqC] at hb
  have hqu : q ≠ .und := by rintro rfl; cases e <;> simp [eqC] at hb
  have hpi : p ≠ .nili := by rintro rfl; cases e <;> simp [eqC] at hb
  have hg : (eqGuard op t x y (a.eval x) (a.eval y)).run P w = .ok () w := by
    refine eqGuard_other (fun l m h1 h2 => ?_) (.inl (hp.not_iface hpi hpu))
    -- a struct type that asks no guard
    unfold eqT at he
    split at he <;> (try cases he)
    · simp only [eqC] at hb
      split at hb <;> (try cases hb)
      rw [hp.bool] at h1; cases h1
    · simp only [eqC] at hb
      split at hb <;> (try cases hb)
      rw [hp.int] at h1; cases h1
    · simp only [eqC] at hb
      split at hb <;> (try cases hb) <;> simp_all [VR, BR]
    · simp only [eqC] at hb
      split at hb <;> (try cases hb) <;> simp_all [VR, BR]
    · simp only [eqC] at hb
      split at hb <;> (try cases hb) <;> simp_all [VR, BR]
    · simp only [eqC] at hb
      split at hb <;> (try cases hb) <;> simp_all [VR, BR]
    · split at he
      · cases he
      · rename_i hno
        cases h : P.eqGuardType P.depth t <;> simp_all
  simp only [execOp, ho, Sem.run_bind, hg, Result.andThen_ok]
  have hbin : (binOp op t (a.eval x) (a.eval y)).run P w = .ok (.bool (if op = .eql then b else !b)) w := by
    have hi : ∀ k n, p ≠ .int k n ∨ (e = .int) := by
      intro k n
      cases e <;> simp [eqC] at hb ⊢ <;> (rintro rfl; simp at hb)
    by_cases hint : ∃ k n, p = .int k n
    · obtain ⟨k, n, rfl⟩ := hint
      have he' : e = .int := (hi k n).resolve_left (by simp)
      subst he'
      simp only [eqC] at hb
      split at hb
      · rename_i k1 a1 k2 b1 hh1
        cases hh1
        split at hb
        · rename_i hk
          subst hk
          cases hb
          rw [hp.int, hq.int]
          rcases hop with rfl | rfl <;> simp [binOp, Op.intCmp, bne]
        · cases hb
      · cases hb
    · have hne : ∀ k n, a.eval x ≠ .int k n := by
        intro k n h
        rw [h] at hp
        cases p <;> simp_all [VR, BR]
      have hnf : ∀ k n, a.eval x ≠ .float k n := by
        intro k n h
        rw [h] at hp
        cases p <;> simp_all [VR, BR]
        cases e <;> simp [eqC] at hb
      have hnc : ∀ k n m, a.eval x ≠ .complex k n m := by
        intro k n m h
        rw [h] at hp
        cases p <;> simp_all [VR, BR]
        cases e <;> simp [eqC] at hb
      have hns : ∀ s, a.eval x ≠ .string s := by
        intro s h
        rw [h] at hp
        cases p <;> simp_all [VR, BR]
        cases e <;> simp [eqC] at hb
      rcases hop with rfl | rfl
      · unfold binOp
        split <;> simp_all [Op.equal]
      · unfold binOp
        split <;> simp_all [Op.equal]
  rw [hbin]
  simp

theorem bin_ok {o : Oper} {op : BinOp} {t yt : TypeId} {x y : Operand} (ho : o.op = .binOp op t x y yt) {e : EqT} {p q c : CV}
    (he : (op = .eql ∨ op = .neq) → e = (eqT P 20 t).getD .ifc) (hp : VR w F ι p (a.eval x)) (hq : VR w F ι q (a.eval y)) (h : binC op e p q = some c) : POk P w F ι a o c := by
  have lift : ∀ {v : Value}, (binOp op t (a.eval x) (a.eval y)).run P w = .ok v w → VR w F ι c v → (∀ l, a.eval x ≠ .agg l) → a.eval x ≠ .nilIface → POk P w F ι a o c := by
    intro v h1 h2 h3 h4
    refine ⟨v, ?_, h2⟩
    have hg : (eqGuard op t x y (a.eval x) (a.eval y)).run P w = .ok () w := eqGuard_other (fun l m h1 _ => (h3 l h1).elim) (.inl h4)
    simp only [execOp, ho, Sem.run_bind, hg, Result.andThen_ok, h1, Sem.run_pure]
  by_cases hi : ∃ k n k' n', p = .int k n ∧ q = .int k' n'
  · obtain ⟨k, n, k', n', rfl, rfl⟩ := hi
    obtain ⟨v, h1, h2⟩ := intBin_ok (P := P) (w := w) (F := F) (ι := ι) (t := t) h
    rw [← hp.int, ← hq.int] at h1
    exact lift h1 h2 (by rw [hp.int]; simp) (by rw [hp.int]; simp)
  by_cases hf : ∃ k n k' n', p = .float k n ∧ q = .float k' n'
  · obtain ⟨k, n, k', n', rfl, rfl⟩ := hf
    obtain ⟨v, h1, h2⟩ := floatBin_ok (P := P) (w := w) (F := F) (ι := ι) (t := t) h
    rw [← hp.float, ← hq.float] at h1
    exact lift h1 h2 (by rw [hp.float]; simp) (by rw [hp.float]; simp)
  by_cases hc : ∃ k n m k' n' m', p = .cplx k n m ∧ q = .cplx k' n' m'
  · obtain ⟨k, n, m, k', n', m', rfl, rfl⟩ := hc
    obtain ⟨v, h1, h2⟩ := cplxBin_ok (P := P) (w := w) (F := F) (ι := ι) (t := t) h
    rw [← hp.cplx, ← hq.cplx] at h1
    exact lift h1 h2 (by rw [hp.cplx]; simp) (by rw [hp.cplx]; simp)
  by_cases hs : ∃ s s', p = .str s ∧ q = .str s'
  · obtain ⟨s, s', rfl, rfl⟩ := hs
    obtain ⟨v, h1, h2⟩ := strBin_ok (P := P) (w := w) (F := F) (ι := ι) (t := t) h
    rw [← hp.str, ← hq.str] at h1
    exact lift h1 h2 (by rw [hp.str]; simp) (by rw [hp.str]; simp)
  have hb : ∃ b, eqC e p q = some b ∧ c = .bool (if op = .eql then b else !b) ∧ (op = .eql ∨ op = .neq) := by
    unfold binC at h
    split at h
    · exact (hi ⟨_, _, _, _, rfl, rfl⟩).elim
    · exact (hf ⟨_, _, _, _, rfl, rfl⟩).elim
    · exact (hc ⟨_, _, _, _, _, _, rfl, rfl⟩).elim
    · exact (hs ⟨_, _, rfl, rfl⟩).elim
    · cases op <;> simp only [Option.map_eq_some_iff, reduceCtorEq] at h
      · obtain ⟨b, h1, rfl⟩ := h; exact ⟨b, h1, by simp, by simp⟩
      · obtain ⟨b, h1, rfl⟩ := h; exact ⟨b, h1, by simp, by simp⟩
  obtain ⟨b, h1, rfl, hop⟩ := hb
  cases het : eqT P 20 t with
  | none =>
    rw [he hop, het] at h1
    simp [eqC] at h1
  | some e' =>
    have : e = e' := by rw [he hop, het]; rfl
    subst this
    exact eqBin_ok ho hop het h1 hp hq h

theorem un_ok {o : Oper} {op : UnOp} {t : TypeId} {x : Operand} (ho : o.op = .unOp op t x) {p c : CV} (hp : VR w F ι p (a.eval x)) (h : unC op p = some c) : POk P w F ι a o c := by
  unfold unC at h
  split at h <;> (try cases h)
  · exact ⟨_, by simp [execOp, ho, hp.int, Op.unary, Op.intArith], vr_int _ _⟩
  · exact ⟨_, by simp [execOp, ho, hp.int, Op.unary, Op.intBits], vr_int _ _⟩
  · exact ⟨_, by simp [execOp, ho, hp.float, Op.unary], vr_float _ _⟩
  · exact ⟨_, by simp [execOp, ho, hp.cplx, Op.unary], vr_cplx _ _ _⟩
  · exact ⟨_, by simp [execOp, ho, hp.bool, Op.unary], vr_bool _⟩

theorem toInt_ok {o : Oper} {s t : TypeId} {x : Operand} {k : IntKind} {d : TypeDesc} (ho : o.op = .convert s t x) (hs : P.underlying s = some d) (ht : P.underlying t = some (.int k)) {p c : CV}
    (hp : VR w F ι p (a.eval x)) (h : toIntC k p = some c) : POk P w F ι a o c := by
  unfold toIntC at h
  split at h <;> (try cases h)
  · exact ⟨_, by simp [execOp, ho, convert, run_under hs, run_under ht, hp.int, Conv.intToInt], vr_int _ _⟩
  · split at h
    · rename_i n hn
      split at h
      · rename_i hb
        cases h
        exact ⟨_, by simp [execOp, ho, convert, run_under hs, run_under ht, hp.float, Conv.floatToInt, hn, hb], vr_int _ _⟩
      · cases h
    · cases h

theorem toFloat_ok {o : Oper} {s t : TypeId} {x : Operand} {k : FloatKind} {d : TypeDesc} (ho : o.op = .convert s t x) (hs : P.underlying s = some d) (ht : P.underlying t = some (.float k)) {p c : CV}
    (hp : VR w F ι p (a.eval x)) (h : toFloatC k p = some c) : POk P w F ι a o c := by
  unfold toFloatC at h
  split at h <;> (try cases h)
  exact ⟨_, by simp [execOp, ho, convert, run_under hs, run_under ht, hp.int, Conv.intToFloat], vr_float _ _⟩

theorem mkif_ok {o : Oper} {t : TypeId} {x : Operand} {d : TypeDesc} (ho : o.op = .makeInterface t x) (ht : P.underlying t = some d) (hd : ∀ m, d ≠ .interface m) {p : CV} (hp : VR w F ι p (a.eval x)) :
    POk P w F ι a o (.ifc t p) := by
  refine ⟨.iface t (a.eval x), ?_, by simp only [VR]; exact ⟨_, rfl, hp⟩⟩
  simp only [execOp, ho, Instr.makeInterface, Sem.run_bind, run_under ht, Result.andThen_ok]
  cases d <;> simp_all

theorem faddr_ok {o : Oper} {s : TypeId} {x : Operand} {f : Nat} {fs : Array Field} {fd : Field} {n : Nat} (ho : o.op = .fieldAddr s x f) (hs : P.underlying s = some (.struct fs)) (hf : fs[f]? = some fd)
    (hn : szOf P fd.type = some (n + 1)) {p c : CV} (hp : VR w F ι p (a.eval x)) (h : faddrC fd.offset p = some c) : POk P w F ι a o c := by
  unfold faddrC at h
  split at h <;> (try cases h)
  · rename_i i off
    simp only [VR] at hp
    obtain ⟨b, h1, h2⟩ := hp
    refine ⟨.pointer (some ⟨b, off + fd.offset, none⟩), ?_, by simp only [VR]; exact ⟨b, h1, rfl⟩⟩
    simp [execOp, ho, Instr.fieldAt, run_under hs, hf, h2, Instr.sureAddr, fieldPlace, run_sizeOf' hn, addr_add]
  · rename_i cs
    simp only [VR, BR] at hp
    obtain ⟨b, off, h2, h3, h4⟩ := hp
    refine ⟨.pointer (some ⟨b, off + fd.offset, none⟩), ?_, by simp only [VR, BR]; exact ⟨b, _, rfl, h3, h4.drop _⟩⟩
    simp [execOp, ho, Instr.fieldAt, run_under hs, hf, h2, Instr.sureAddr, fieldPlace, run_sizeOf' hn, addr_add]

theorem fld_ok {o : Oper} {s : TypeId} {x : Operand} {f : Nat} {fs : Array Field} {fd : Field} {sh : Bool × Nat} (ho : o.op = .field s x f) (hs : P.underlying s = some (.struct fs)) (hf : fs[f]? = some fd)
    (hn : shapeOf P fd.type = some sh) {p c : CV} (hp : VR w F ι p (a.eval x)) (h : fldC sh.1 sh.2 fd.offset p = some c) : POk P w F ι a o c := by
  unfold fldC at h
  split at h <;> (try cases h)
  obtain ⟨vs, h1, h2⟩ := hp.agg
  obtain ⟨v, h3, h4⟩ := run_part' (P := P) hn h2 h
  exact ⟨v, by simp [execOp, ho, Instr.field, run_under hs, hf, h1, asAgg, h3], h4⟩

theorem iaddr_ok {o : Oper} {t e : TypeId} {x i : Operand} {n : Nat} (ho : o.op = .indexAddr t x i) (ht : P.underlying t = some (.slice e)) (hn : szOf P e = some n) {p q c : CV}
    (hp : VR w F ι p (a.eval x)) (hq : VR w F ι q (a.eval i)) (h : iaddrC n p q = some c) : POk P w F ι a o c := by
  unfold iaddrC at h
  split at h <;> (try cases h)
  rename_i k m
  unfold iaddrN at h
  split at h <;> (try cases h)
  · rename_i s id off len
    split at h
    · rename_i hb
      obtain ⟨rfl, hb1, hb2⟩ := hb
      cases h
      simp only [VR] at hp
      obtain ⟨base, cap, h1, h2, h3⟩ := hp
      rcases h3 with h3 | ⟨b, sz, h3, rfl, _, _⟩
      · omega
      · refine ⟨.pointer (some ⟨b, off + m.toNat * s, none⟩), ?_, by simp only [VR]; exact ⟨b, h3, rfl⟩⟩
        simp [execOp, ho, Instr.indexAt, hq.int, asIntOf, run_under ht, h1, hb1, hb2, run_sizeOf' hn, addr_add]
    · cases h
  · rename_i cs len
    split at h
    · rename_i hb
      obtain ⟨hb1, hb2, hb3⟩ := hb
      cases h
      simp only [VR, BR] at hp
      obtain ⟨base, cap, h1, h2, h3⟩ := hp
      rcases h3 with h3 | ⟨b, off, rfl, h4, h5⟩
      · exact (hb3 h3).elim
      · refine ⟨.pointer (some ⟨b, off + m.toNat * n, none⟩), ?_, by simp only [VR, BR]; exact ⟨b, _, rfl, h4, h5.drop _⟩⟩
        simp [execOp, ho, Instr.indexAt, hq.int, asIntOf, run_under ht, h1, hb1, hb2, run_sizeOf' hn, addr_add]
    · cases h

theorem iaddrA_ok {o : Oper} {t e : TypeId} {x i : Operand} {n len : Nat} (ho : o.op = .indexAddr t x i) (ht : P.underlying t = some (.array len e)) (hn : szOf P e = some n) {p q c : CV}
    (hp : VR w F ι p (a.eval x)) (hq : VR w F ι q (a.eval i)) (h : iaddrAC len n p q = some c) : POk P w F ι a o c := by
  unfold iaddrAC at h
  split at h <;> (try cases h)
  rename_i k m
  split at h <;> (try cases h)
  rename_i hb
  obtain ⟨hb1, hb2⟩ := hb
  unfold faddrC at h
  split at h <;> (try cases h)
  · rename_i id off
    simp only [VR] at hp
    obtain ⟨b, h1, h2⟩ := hp
    refine ⟨.pointer (some ⟨b, off + m.toNat * n, none⟩), ?_, by simp only [VR]; exact ⟨b, h1, rfl⟩⟩
    simp [execOp, ho, Instr.indexAt, hq.int, asIntOf, run_under ht, h2, Instr.sureAddr, hb1, hb2, run_sizeOf' hn, addr_add]
  · rename_i cs
    simp only [VR, BR] at hp
    obtain ⟨b, off, h2, h3, h4⟩ := hp
    refine ⟨.pointer (some ⟨b, off + m.toNat * n, none⟩), ?_, by simp only [VR, BR]; exact ⟨b, _, rfl, h3, h4.drop _⟩⟩
    simp [execOp, ho, Instr.indexAt, hq.int, asIntOf, run_under ht, h2, Instr.sureAddr, hb1, hb2, run_sizeOf' hn, addr_add]

theorem idxA_ok {o : Oper} {t e : TypeId} {x i : Operand} {len : Nat} {sh : Bool × Nat} (ho : o.op = .index t x i) (ht : P.underlying t = some (.array len e)) (hn : shapeOf P e = some sh) {p q c : CV}
    (hp : VR w F ι p (a.eval x)) (hq : VR w F ι q (a.eval i)) (h : idxAC len sh.1 sh.2 p q = some c) : POk P w F ι a o c := by
  unfold idxAC at h
  split at h <;> (try cases h)
  rename_i k m
  split at h <;> (try cases h)
  rename_i hb
  obtain ⟨hb1, hb2⟩ := hb
  unfold fldC at h
  split at h <;> (try cases h)
  obtain ⟨vs, h1, h2⟩ := hp.agg
  obtain ⟨_, hsz, _⟩ := shapeOf_ok hn
  obtain ⟨v, h3, h4⟩ := run_part' (P := P) hn h2 h
  exact ⟨v, by simp [execOp, ho, Instr.index, hq.int, asIntOf, run_under ht, h1, hb1, hb2, run_sizeOf' hsz, h3], h4⟩

theorem idxS_ok {o : Oper} {t : TypeId} {x i : Operand} (ho : o.op = .index t x i) (ht : P.underlying t = some .string) {p q c : CV}
    (hp : VR w F ι p (a.eval x)) (hq : VR w F ι q (a.eval i)) (h : idxSC p q = some c) : POk P w F ι a o c := by
  unfold idxSC at h
  split at h <;> (try cases h)
  rename_i k m
  unfold idxSN at h
  split at h <;> (try cases h)
  split at h <;> (try cases h)
  rename_i hb
  simp only [Option.map_eq_some_iff] at h
  obtain ⟨b, h1, rfl⟩ := h
  exact ⟨_, by simp [execOp, ho, Instr.index, hq.int, asIntOf, run_under ht, hp.str, hb, h1], vr_int _ _⟩

theorem ext_ok {o : Oper} {x : Operand} {i : Nat} (ho : o.op = .extract x i) {p c : CV} (hp : VR w F ι p (a.eval x)) (h : extC i p = some c) : POk P w F ι a o c := by
  unfold extC at h
  split at h <;> (try cases h)
  obtain ⟨vs, h1, h2⟩ := hp.tup
  obtain ⟨v, h3, h4⟩ := h2.get _ _ h
  have h3' : vs[i]? = some v := by simpa using h3
  exact ⟨v, by simp [execOp, ho, Instr.extract, h1, h3'], h4⟩

end
end Go.Zc
end
