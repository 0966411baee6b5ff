/- Clean values: what a run of Go code computes, without addresses, capacities, orders and the tape; how they stand to the model's values. No condition. -/
import Derived.Calls
import Derived.Below
import Derived.MapKept
set_option linter.all false
namespace Go.Zc

inductive Id where
  | loc (s : Nat)
  | blk (n : Nat)
  deriving DecidableEq

inductive CV where
  | und
  | bool (b : Bool)
  | int (k : IntKind) (n : Int)
  | float (k : FloatKind) (bits : Nat)
  | cplx (k : FloatKind) (re im : Nat)
  | str (s : ByteArray)
  | nilp
  | op (i : Id) (off : Nat)
  | vp (cs : List CV)
  | nils
  | os (sz : Nat) (i : Id) (off len : Nat)
  | vs (cs : List CV) (len : Nat)
  | nilm
  | om (n : Nat)
  | fn (f : Fn) (first captured : List CV)
  | nilf
  | ifc (t : TypeId) (v : CV)
  | nili
  | agg (cs : List CV)
  | tup (cs : List CV)
  deriving Inhabited

def CV.cells : CV → List CV
  | .agg cs => cs
  | v => [v]

/-- May it lie in one cell? -/
def CV.one : CV → Bool
  | .und | .agg _ | .tup _ => false
  | _ => true

def oneV : Value → Bool
  | .agg _ | .tuple _ => false
  | _ => true

mutual
/-- Does it hold a reference to what somebody owns? -/
def CV.ref : CV → Bool
  | .op .. => true
  | .os .. => true
  | .om .. => true
  | .fn _ a b => CV.refs a || CV.refs b
  | .ifc _ v => CV.ref v
  | .agg cs => CV.refs cs
  | .tup cs => CV.refs cs
  | _ => false
def CV.refs : List CV → Bool
  | [] => false
  | c :: cs => CV.ref c || CV.refs cs
end

inductive Blk where
  | dead
  | cells (cs : List CV)
  | map (es : List (CV × CV))
  deriving Inhabited

structure Heap where
  bx : List (Nat × List CV)
  bl : List Blk
  deriving Inhabited

def Heap.nil : Heap := ⟨[], []⟩

def look {α : Type} : List (Nat × α) → Nat → Option α
  | [], _ => none
  | (i, x) :: r, j => bif Nat.beq i j then some x else look r j

def Heap.get (H : Heap) : Id → Option (List CV)
  | .loc s => look H.bx s
  | .blk n => match H.bl[n]? with
    | some (.cells cs) => some cs
    | _ => none

def Blk.dead? : Blk → Bool
  | .dead => true
  | _ => false

def Heap.live (H : Heap) : Id → Prop
  | .loc s => ∃ cs, look H.bx s = some cs
  | .blk n => ∃ b, H.bl[n]? = some b ∧ b.dead? = false

structure IM where
  lo : Nat → Option Nat
  bl : List Nat

def IM.get (ι : IM) : Id → Option Nat
  | .loc s => ι.lo s
  | .blk n => ι.bl[n]?

/-- Without the frame's own boxes. -/
def IM.glob (ι : IM) : IM := ⟨fun _ => none, ι.bl⟩

/-- Under which map what lies in a block is told. -/
def IM.of (ι : IM) : Id → IM
  | .loc _ => ι
  | .blk _ => ι.glob

def IM.nil : IM := ⟨fun _ => none, []⟩

def csize (w : World) (b : Nat) : Option Nat :=
  match w.heap[b]? with
  | some (.cells c _ _) => some c.size
  | _ => none

mutual
/-- By value: a clean value and the model's. 'F': blocks that nobody writes any more. -/
def BR (w : World) (F : Nat → Prop) : CV → Value → Prop
  | .und, _ => True
  | .bool b, v => v = .bool b
  | .int k n, v => v = .int k n
  | .float k n, v => v = .float k n
  | .cplx k a b, v => v = .complex k a b
  | .str s, v => v = .string s
  | .nilp, v => v = .pointer none
  | .op _ _, _ => False
  | .vp cs, v => ∃ b o, v = .pointer (some ⟨b, o, none⟩) ∧ F b ∧ BRc w F cs b o
  | .nils, v => v = .slice none 0 0
  | .os _ _ _ _, _ => False
  | .vs cs len, v => ∃ base cap, v = .slice base len cap ∧ len ≤ cap ∧ (cs = [] ∨ ∃ b o, base = some ⟨b, o, none⟩ ∧ F b ∧ BRc w F cs b o)
  | .nilm, v => v = .map none
  | .om _, _ => False
  | .fn f a c, v => ∃ a' c', v = .func f a' c' ∧ BRl w F a a'.toList ∧ BRl w F c c'.toList
  | .nilf, v => v = .nilFunc
  | .ifc t x, v => ∃ y, v = .iface t y ∧ BR w F x y
  | .nili, v => v = .nilIface
  | .agg cs, v => ∃ vs, v = .agg vs ∧ BRl w F cs vs.toList
  | .tup cs, v => ∃ vs, v = .tuple vs ∧ BRl w F cs vs.toList
def BRl (w : World) (F : Nat → Prop) : List CV → List Value → Prop
  | [], vs => vs = []
  | c :: cs, vs => ∃ u us, vs = u :: us ∧ BR w F c u ∧ BRl w F cs us
def BRc (w : World) (F : Nat → Prop) : List CV → Nat → Nat → Prop
  | [], _, _ => True
  | c :: cs, b, o => (∃ u, w.cell? ⟨b, o, none⟩ = some u ∧ BR w F c u) ∧ BRc w F cs b (o + 1)
end

mutual
/-- With what is owned: 'ι' tells which block each is. -/
def VR (w : World) (F : Nat → Prop) (ι : IM) : CV → Value → Prop
  | .op i off, v => ∃ b, ι.get i = some b ∧ v = .pointer (some ⟨b, off, none⟩)
  | .os sz i off len, v => ∃ base cap, v = .slice base len cap ∧ len ≤ cap ∧
      (cap = 0 ∨ ∃ b n, ι.get i = some b ∧ base = some ⟨b, off, none⟩ ∧ csize w b = some n ∧ off + cap * sz ≤ n)
  | .om n, v => ∃ b, ι.bl[n]? = some b ∧ v = .map (some b)
  | .fn f a c, v => ∃ a' c', v = .func f a' c' ∧ VRl w F ι a a'.toList ∧ VRl w F ι c c'.toList
  | .ifc t x, v => ∃ y, v = .iface t y ∧ VR w F ι x y
  | .agg cs, v => ∃ vs, v = .agg vs ∧ VRl w F ι cs vs.toList
  | .tup cs, v => ∃ vs, v = .tuple vs ∧ VRl w F ι cs vs.toList
  | .und, v => BR w F .und v
  | .bool b, v => BR w F (.bool b) v
  | .int k n, v => BR w F (.int k n) v
  | .float k n, v => BR w F (.float k n) v
  | .cplx k a b, v => BR w F (.cplx k a b) v
  | .str s, v => BR w F (.str s) v
  | .nilp, v => BR w F .nilp v
  | .vp cs, v => BR w F (.vp cs) v
  | .nils, v => BR w F .nils v
  | .vs cs len, v => BR w F (.vs cs len) v
  | .nilm, v => BR w F .nilm v
  | .nilf, v => BR w F .nilf v
  | .nili, v => BR w F .nili v
def VRl (w : World) (F : Nat → Prop) (ι : IM) : List CV → List Value → Prop
  | [], vs => vs = []
  | c :: cs, vs => ∃ u us, vs = u :: us ∧ VR w F ι c u ∧ VRl w F ι cs us
end

theorem cell?_of_block {w w' : World} {b o : Nat} (h : w'.heap[b]? = w.heap[b]?) : w'.cell? ⟨b, o, none⟩ = w.cell? ⟨b, o, none⟩ := by
  simp only [World.cell?, h]

structure Mo (w w' : World) (F F' : Nat → Prop) : Prop where
  f : ∀ b, F b → F' b
  h : ∀ b, F b → w'.heap[b]? = w.heap[b]?

mutual
theorem BR.mono {w w' : World} {F F' : Nat → Prop} (m : Mo w w' F F') : ∀ (c : CV) (v : Value), BR w F c v → BR w' F' c v
  | .und, _, _ => by simp [BR]
  | .bool _, _, h => by simpa [BR] using h
  | .int _ _, _, h => by simpa [BR] using h
  | .float _ _, _, h => by simpa [BR] using h
  | .cplx _ _ _, _, h => by simpa [BR] using h
  | .str _, _, h => by simpa [BR] using h
  | .nilp, _, h => by simpa [BR] using h
  | .op _ _, _, h => by simp [BR] at h
  | .vp cs, v, h => by
    simp only [BR] at h ⊢
    obtain ⟨b, o, h1, h2, h3⟩ := h
    exact ⟨b, o, h1, m.f _ h2, BRc.mono m cs b o h2 h3⟩
  | .nils, _, h => by simpa [BR] using h
  | .os _ _ _ _, _, h => by simp [BR] at h
  | .vs cs len, v, h => by
    simp only [BR] at h ⊢
    obtain ⟨base, cap, h1, h2, h3⟩ := h
    refine ⟨base, cap, h1, h2, ?_⟩
    rcases h3 with h3 | ⟨b, o, h3, h4, h5⟩
    · exact .inl h3
    · exact .inr ⟨b, o, h3, m.f _ h4, BRc.mono m cs b o h4 h5⟩
  | .nilm, _, h => by simpa [BR] using h
  | .om _, _, h => by simp [BR] at h
  | .fn f a c, v, h => by
    simp only [BR] at h ⊢
    obtain ⟨a', c', h1, h2, h3⟩ := h
    exact ⟨a', c', h1, BRl.mono m a _ h2, BRl.mono m c _ h3⟩
  | .nilf, _, h => by simpa [BR] using h
  | .ifc t x, v, h => by
    simp only [BR] at h ⊢
    obtain ⟨y, h1, h2⟩ := h
    exact ⟨y, h1, BR.mono m x y h2⟩
  | .nili, _, h => by simpa [BR] using h
  | .agg cs, v, h => by
    simp only [BR] at h ⊢
    obtain ⟨vs, h1, h2⟩ := h
    exact ⟨vs, h1, BRl.mono m cs _ h2⟩
  | .tup cs, v, h => by
    simp only [BR] at h ⊢
    obtain ⟨vs, h1, h2⟩ := h
    exact ⟨vs, h1, BRl.mono m cs _ h2⟩
theorem BRl.mono {w w' : World} {F F' : Nat → Prop} (m : Mo w w' F F') : ∀ (cs : List CV) (vs : List Value), BRl w F cs vs → BRl w' F' cs vs
  | [], _, h => by simpa [BRl] using h
  | c :: cs, vs, h => by
    simp only [BRl] at h ⊢
    obtain ⟨u, us, h1, h2, h3⟩ := h
    exact ⟨u, us, h1, BR.mono m c u h2, BRl.mono m cs us h3⟩
theorem BRc.mono {w w' : World} {F F' : Nat → Prop} (m : Mo w w' F F') : ∀ (cs : List CV) (b o : Nat), F b → BRc w F cs b o → BRc w' F' cs b o
  | [], _, _, _, _ => by simp [BRc]
  | c :: cs, b, o, hb, h => by
    simp only [BRc] at h ⊢
    obtain ⟨⟨u, h1, h2⟩, h3⟩ := h
    exact ⟨⟨u, (cell?_of_block (m.h b hb)).trans h1, BR.mono m c u h2⟩, BRc.mono m cs b (o + 1) hb h3⟩
end

/-- ι' knows all that ι knows. -/
def IM.le (ι ι' : IM) : Prop := ∀ i b, ι.get i = some b → ι'.get i = some b

theorem IM.glob_le (ι : IM) : ι.glob.le ι := fun i b h => by cases i <;> simp_all [IM.glob, IM.get]
theorem IM.of_le (ι : IM) (i : Id) : (ι.of i).le ι := by cases i <;> first | exact fun _ _ h => h | exact ι.glob_le

theorem IM.le.refl (ι : IM) : ι.le ι := fun _ _ h => h
theorem IM.le.trans {a b c : IM} (h : a.le b) (k : b.le c) : a.le c := fun i x e => k i x (h i x e)

structure MoV (w w' : World) (F F' : Nat → Prop) (ι ι' : IM) : Prop extends Mo w w' F F' where
  i : ι.le ι'
  c : ∀ b n, csize w b = some n → csize w' b = some n

mutual
theorem VR.mono {w w' : World} {F F' : Nat → Prop} {ι ι' : IM} (m : MoV w w' F F' ι ι') : ∀ (c : CV) (v : Value), VR w F ι c v → VR w' F' ι' c v
  | .op i off, v, h => by
    simp only [VR] at h ⊢
    obtain ⟨b, h1, h2⟩ := h
    exact ⟨b, m.i _ _ h1, h2⟩
  | .os sz i off len, v, h => by
    simp only [VR] at h ⊢
    obtain ⟨base, cap, h1, h2, h3⟩ := h
    refine ⟨base, cap, h1, h2, ?_⟩
    rcases h3 with h3 | ⟨b, n, h3, h4, h5, h6⟩
    · exact .inl h3
    · exact .inr ⟨b, n, m.i _ _ h3, h4, m.c _ _ h5, h6⟩
  | .om n, v, h => by
    simp only [VR] at h ⊢
    obtain ⟨b, h1, h2⟩ := h
    exact ⟨b, m.i (.blk n) b h1, h2⟩
  | .fn f a c, v, h => by
    simp only [VR] at h ⊢
    obtain ⟨a', c', h1, h2, h3⟩ := h
    exact ⟨a', c', h1, VRl.mono m a _ h2, VRl.mono m c _ h3⟩
  | .ifc t x, v, h => by
    simp only [VR] at h ⊢
    obtain ⟨y, h1, h2⟩ := h
    exact ⟨y, h1, VR.mono m x y h2⟩
  | .agg cs, v, h => by
    simp only [VR] at h ⊢
    obtain ⟨vs, h1, h2⟩ := h
    exact ⟨vs, h1, VRl.mono m cs _ h2⟩
  | .tup cs, v, h => by
    simp only [VR] at h ⊢
    obtain ⟨vs, h1, h2⟩ := h
    exact ⟨vs, h1, VRl.mono m cs _ h2⟩
  | .und, v, h => by simp only [VR] at h ⊢; exact BR.mono m.toMo _ _ h
  | .bool b, v, h => by simp only [VR] at h ⊢; exact BR.mono m.toMo _ _ h
  | .int k n, v, h => by simp only [VR] at h ⊢; exact BR.mono m.toMo _ _ h
  | .float k n, v, h => by simp only [VR] at h ⊢; exact BR.mono m.toMo _ _ h
  | .cplx k a b, v, h => by simp only [VR] at h ⊢; exact BR.mono m.toMo _ _ h
  | .str s, v, h => by simp only [VR] at h ⊢; exact BR.mono m.toMo _ _ h
  | .nilp, v, h => by simp only [VR] at h ⊢; exact BR.mono m.toMo _ _ h
  | .vp cs, v, h => by simp only [VR] at h ⊢; exact BR.mono m.toMo _ _ h
  | .nils, v, h => by simp only [VR] at h ⊢; exact BR.mono m.toMo _ _ h
  | .vs cs len, v, h => by simp only [VR] at h ⊢; exact BR.mono m.toMo _ _ h
  | .nilm, v, h => by simp only [VR] at h ⊢; exact BR.mono m.toMo _ _ h
  | .nilf, v, h => by simp only [VR] at h ⊢; exact BR.mono m.toMo _ _ h
  | .nili, v, h => by simp only [VR] at h ⊢; exact BR.mono m.toMo _ _ h
theorem VRl.mono {w w' : World} {F F' : Nat → Prop} {ι ι' : IM} (m : MoV w w' F F' ι ι') : ∀ (cs : List CV) (vs : List Value), VRl w F ι cs vs → VRl w' F' ι' cs vs
  | [], _, h => by simpa [VRl] using h
  | c :: cs, vs, h => by
    simp only [VRl] at h ⊢
    obtain ⟨u, us, h1, h2, h3⟩ := h
    exact ⟨u, us, h1, VR.mono m c u h2, VRl.mono m cs us h3⟩
end

mutual
/-- What holds no reference is by value. -/
theorem VR.bv {w : World} {F : Nat → Prop} {ι : IM} : ∀ (c : CV) (v : Value), c.ref = false → VR w F ι c v → BR w F c v
  | .op i off, v, hr, _ => by simp [CV.ref] at hr
  | .os sz i off len, v, hr, _ => by simp [CV.ref] at hr
  | .om n, v, hr, _ => by simp [CV.ref] at hr
  | .fn f a c, v, hr, h => by
    simp only [CV.ref, Bool.or_eq_false_iff] at hr
    simp only [VR, BR] at h ⊢
    obtain ⟨a', c', h1, h2, h3⟩ := h
    exact ⟨a', c', h1, VRl.bv a _ hr.1 h2, VRl.bv c _ hr.2 h3⟩
  | .ifc t x, v, hr, h => by
    simp only [CV.ref] at hr
    simp only [VR, BR] at h ⊢
    obtain ⟨y, h1, h2⟩ := h
    exact ⟨y, h1, VR.bv x y hr h2⟩
  | .agg cs, v, hr, h => by
    simp only [CV.ref] at hr
    simp only [VR, BR] at h ⊢
    obtain ⟨vs, h1, h2⟩ := h
    exact ⟨vs, h1, VRl.bv cs _ hr h2⟩
  | .tup cs, v, hr, h => by
    simp only [CV.ref] at hr
    simp only [VR, BR] at h ⊢
    obtain ⟨vs, h1, h2⟩ := h
    exact ⟨vs, h1, VRl.bv cs _ hr h2⟩
  | .und, v, _, h => by simpa only [VR] using h
  | .bool b, v, _, h => by simpa only [VR] using h
  | .int k n, v, _, h => by simpa only [VR] using h
  | .float k n, v, _, h => by simpa only [VR] using h
  | .cplx k a b, v, _, h => by simpa only [VR] using h
  | .str s, v, _, h => by simpa only [VR] using h
  | .nilp, v, _, h => by simpa only [VR] using h
  | .vp cs, v, _, h => by simpa only [VR] using h
  | .nils, v, _, h => by simpa only [VR] using h
  | .vs cs len, v, _, h => by simpa only [VR] using h
  | .nilm, v, _, h => by simpa only [VR] using h
  | .nilf, v, _, h => by simpa only [VR] using h
  | .nili, v, _, h => by simpa only [VR] using h
theorem VRl.bv {w : World} {F : Nat → Prop} {ι : IM} : ∀ (cs : List CV) (vs : List Value), CV.refs cs = false → VRl w F ι cs vs → BRl w F cs vs
  | [], _, _, h => by simpa only [VRl, BRl] using h
  | c :: cs, vs, hr, h => by
    simp only [CV.refs, Bool.or_eq_false_iff] at hr
    simp only [VRl, BRl] at h ⊢
    obtain ⟨u, us, h1, h2, h3⟩ := h
    exact ⟨u, us, h1, VR.bv c u hr.1 h2, VRl.bv cs us hr.2 h3⟩
end

mutual
theorem BR.vr {w : World} {F : Nat → Prop} {ι : IM} : ∀ (c : CV) (v : Value), BR w F c v → VR w F ι c v
  | .op i off, v, h => by simp [BR] at h
  | .os sz i off len, v, h => by simp [BR] at h
  | .om n, v, h => by simp [BR] at h
  | .fn f a c, v, h => by
    simp only [VR, BR] at h ⊢
    obtain ⟨a', c', h1, h2, h3⟩ := h
    exact ⟨a', c', h1, BRl.vr a _ h2, BRl.vr c _ h3⟩
  | .ifc t x, v, h => by
    simp only [VR, BR] at h ⊢
    obtain ⟨y, h1, h2⟩ := h
    exact ⟨y, h1, BR.vr x y h2⟩
  | .agg cs, v, h => by
    simp only [VR, BR] at h ⊢
    obtain ⟨vs, h1, h2⟩ := h
    exact ⟨vs, h1, BRl.vr cs _ h2⟩
  | .tup cs, v, h => by
    simp only [VR, BR] at h ⊢
    obtain ⟨vs, h1, h2⟩ := h
    exact ⟨vs, h1, BRl.vr cs _ h2⟩
  | .und, v, h => by simpa only [VR] using h
  | .bool b, v, h => by simpa only [VR] using h
  | .int k n, v, h => by simpa only [VR] using h
  | .float k n, v, h => by simpa only [VR] using h
  | .cplx k a b, v, h => by simpa only [VR] using h
  | .str s, v, h => by simpa only [VR] using h
  | .nilp, v, h => by simpa only [VR] using h
  | .vp cs, v, h => by simpa only [VR] using h
  | .nils, v, h => by simpa only [VR] using h
  | .vs cs len, v, h => by simpa only [VR] using h
  | .nilm, v, h => by simpa only [VR] using h
  | .nilf, v, h => by simpa only [VR] using h
  | .nili, v, h => by simpa only [VR] using h
theorem BRl.vr {w : World} {F : Nat → Prop} {ι : IM} : ∀ (cs : List CV) (vs : List Value), BRl w F cs vs → VRl w F ι cs vs
  | [], _, h => by simpa only [VRl, BRl] using h
  | c :: cs, vs, h => by
    simp only [VRl, BRl] at h ⊢
    obtain ⟨u, us, h1, h2, h3⟩ := h
    exact ⟨u, us, h1, BR.vr c u h2, BRl.vr cs us h3⟩
end

theorem VR.one {w : World} {F : Nat → Prop} {ι : IM} {c : CV} {v : Value} (h : VR w F ι c v) (h1 : c.one = true) : oneV v = true := by
  cases c <;> simp only [CV.one, Bool.false_eq_true] at h1 <;> simp only [VR, BR] at h
  all_goals first
    | (subst h; rfl)
    | (obtain ⟨_, _, rfl⟩ := h; rfl)
    | (obtain ⟨_, _, rfl, _⟩ := h; rfl)
    | (obtain ⟨_, rfl, _⟩ := h; rfl)

theorem VRl.length {w : World} {F : Nat → Prop} {ι : IM} : ∀ {cs : List CV} {vs : List Value}, VRl w F ι cs vs → vs.length = cs.length
  | [], _, h => by simp only [VRl] at h; simp [h]
  | c :: cs, vs, h => by
    simp only [VRl] at h
    obtain ⟨u, us, rfl, _, h3⟩ := h
    simp [VRl.length h3]

theorem VRl.get {w : World} {F : Nat → Prop} {ι : IM} : ∀ {cs : List CV} {vs : List Value}, VRl w F ι cs vs → ∀ (j : Nat) (c : CV), cs[j]? = some c → ∃ u, vs[j]? = some u ∧ VR w F ι c u
  | [], _, _, j, c, e => by simp at e
  | c :: cs, vs, h, j, x, e => by
    simp only [VRl] at h
    obtain ⟨u, us, rfl, h2, h3⟩ := h
    cases j with
    | zero => simp at e; subst e; exact ⟨u, rfl, h2⟩
    | succ j => simp at e; simpa using VRl.get h3 j x e

theorem VRl.of_get {w : World} {F : Nat → Prop} {ι : IM} : ∀ {cs : List CV} {vs : List Value}, vs.length = cs.length → (∀ (j : Nat) (c : CV) (u : Value), cs[j]? = some c → vs[j]? = some u → VR w F ι c u) → VRl w F ι cs vs
  | [], vs, hl, _ => by simp only [VRl]; exact List.length_eq_zero_iff.1 (by simpa using hl)
  | c :: cs, [], hl, _ => by simp at hl
  | c :: cs, u :: us, hl, h => by
    simp only [VRl]
    exact ⟨u, us, rfl, h 0 c u rfl rfl, VRl.of_get (by simpa using hl) fun j c u h1 h2 => h (j + 1) c u (by simpa using h1) (by simpa using h2)⟩

theorem VRl.append {w : World} {F : Nat → Prop} {ι : IM} : ∀ {cs cs' : List CV} {vs vs' : List Value}, VRl w F ι cs vs → VRl w F ι cs' vs' → VRl w F ι (cs ++ cs') (vs ++ vs')
  | [], _, vs, _, h, k => by simp only [VRl] at h; subst h; simpa using k
  | c :: cs, _, vs, _, h, k => by
    simp only [VRl] at h
    obtain ⟨u, us, rfl, h2, h3⟩ := h
    simp only [List.cons_append, VRl]
    exact ⟨u, _, rfl, h2, VRl.append h3 k⟩

theorem VRl.take {w : World} {F : Nat → Prop} {ι : IM} {cs : List CV} {vs : List Value} (h : VRl w F ι cs vs) (n : Nat) : VRl w F ι (cs.take n) (vs.take n) :=
  .of_get (by simp [VRl.length h]) fun j c u h1 h2 => by
    rw [List.getElem?_take] at h1 h2
    split at h1
    · rename_i hj
      rw [if_pos hj] at h2
      obtain ⟨u', h3, h4⟩ := h.get j c h1
      rw [h2] at h3; cases h3; exact h4
    · simp at h1

theorem VRl.drop {w : World} {F : Nat → Prop} {ι : IM} {cs : List CV} {vs : List Value} (h : VRl w F ι cs vs) (n : Nat) : VRl w F ι (cs.drop n) (vs.drop n) :=
  .of_get (by simp [VRl.length h]) fun j c u h1 h2 => by
    rw [List.getElem?_drop] at h1 h2
    obtain ⟨u', h3, h4⟩ := h.get _ c h1
    rw [h2] at h3; cases h3; exact h4

theorem VRl.set {w : World} {F : Nat → Prop} {ι : IM} {cs : List CV} {vs : List Value} (h : VRl w F ι cs vs) (n : Nat) {c : CV} {u : Value} (hu : VR w F ι c u) : VRl w F ι (cs.set n c) (vs.set n u) :=
  .of_get (by simp [VRl.length h]) fun j c' u' h1 h2 => by
    rw [List.getElem?_set] at h1 h2
    split at h1
    · rename_i hj
      rw [if_pos hj] at h2
      split at h1
      · rename_i hlt
        rw [if_pos (by rw [VRl.length h]; exact hlt)] at h2
        cases h1; cases h2; exact hu
      · simp at h1
    · rename_i hj
      rw [if_neg hj] at h2
      obtain ⟨u2, h3, h4⟩ := h.get _ c' h1
      rw [h2] at h3; cases h3; exact h4

theorem VR.cells {w : World} {F : Nat → Prop} {ι : IM} {c : CV} {v : Value} (h : VR w F ι c v) (hu : c ≠ .und) : VRl w F ι c.cells v.cells.toList := by
  by_cases ha : ∃ cs, c = .agg cs
  · obtain ⟨cs, rfl⟩ := ha
    simp only [VR] at h
    obtain ⟨vs, rfl, h2⟩ := h
    exact h2
  · have hc : c.cells = [c] := by cases c <;> first | rfl | exact (ha ⟨_, rfl⟩).elim
    have hv : v.cells = #[v] := by
      cases c <;> simp only [VR, BR] at h <;> first
        | exact (hu rfl).elim
        | exact (ha ⟨_, rfl⟩).elim
        | (subst h; rfl)
        | (obtain ⟨_, _, rfl⟩ := h; rfl)
        | (obtain ⟨_, _, rfl, _⟩ := h; rfl)
        | (obtain ⟨_, rfl, _⟩ := h; rfl)
    rw [hc, hv]
    simp only [VRl]
    exact ⟨v, [], rfl, h, rfl⟩

/-- The cells of an owned block: at least the clean ones. -/
def CR (w : World) (F : Nat → Prop) (ι : IM) (cs : List CV) (c : Array Value) : Prop :=
  ∀ (j : Nat) (x : CV), cs[j]? = some x → ∃ u, c[j]? = some u ∧ VR w F ι x u

structure ER (w : World) (F : Nat → Prop) (ι : IM) (e : CV × CV) (m : MapEntry) : Prop where
  key : BR w F e.1 m.key
  one : e.1.one = true
  val : VR w F ι e.2 m.val
  vund : e.2 ≠ .und

inductive MR (w : World) (F : Nat → Prop) (ι : IM) : List (CV × CV) → List MapEntry → Prop where
  | nil : MR w F ι [] []
  | cons {e : CV × CV} {m : MapEntry} {es : List (CV × CV)} {ms : List MapEntry} : ER w F ι e m → MR w F ι es ms → MR w F ι (e :: es) (m :: ms)

def Live (ι : IM) (H : Heap) (b : Nat) : Prop := ∃ i, H.live i ∧ ι.get i = some b

structure Inv (w : World) (F : Nat → Prop) (ι : IM) (H : Heap) : Prop where
  len : ι.bl.length = H.bl.length
  cells : ∀ i cs, H.get i = some cs → ∃ b c e, ι.get i = some b ∧ w.heap[b]? = some (.cells c e (0, 0)) ∧ CR w F (ι.of i) cs c ∧ ∀ (j : Nat) (x : Value), c[j]? = some x → oneV x = true
  maps : ∀ (n : Nat) (es : List (CV × CV)), H.bl[n]? = some (.map es) → ∃ b ms clock, ι.bl[n]? = some b ∧ w.heap[b]? = some (.map ms clock) ∧ MR w F ι.glob es ms.toList ∧ Go.MapKept.Stamped ms clock
  inj : ∀ i j b, H.live i → H.live j → ι.get i = some b → ι.get j = some b → i = j
  dis : ∀ b, F b → ¬ Live ι H b
  lt : ∀ b, F b → b < w.heap.size
  lo : ∀ s, look H.bx s = none → ι.lo s = none

/-- What a step may turn. -/
structure Ext (w : World) (F : Nat → Prop) (ι : IM) (H : Heap) (w' : World) (F' : Nat → Prop) (ι' : IM) (H' : Heap) : Prop where
  os : w'.os = w.os
  tape : w'.tape = w.tape
  output : w'.output = w.output
  pre : ∀ (n b : Nat), ι.bl[n]? = some b → ι'.bl[n]? = some b
  fmono : ∀ b, F b → F' b
  fnew : ∀ b, F' b → F b ∨ w.heap.size ≤ b
  size : w.heap.size ≤ w'.heap.size
  csz : ∀ b n, csize w b = some n → csize w' b = some n
  frame : ∀ b, b < w.heap.size → ¬ Live ι H b → w'.heap[b]? = w.heap[b]?
  live : ∀ b, Live ι' H' b → Live ι H b ∨ w.heap.size ≤ b

theorem Ext.refl (w : World) (F : Nat → Prop) (ι : IM) (H : Heap) : Ext w F ι H w F ι H :=
  ⟨rfl, rfl, rfl, fun _ _ h => h, fun _ h => h, fun _ h => .inl h, Nat.le_refl _, fun _ _ h => h, fun _ _ _ => rfl, fun _ h => .inl h⟩

theorem Ext.trans {w w' w'' : World} {F F' F'' : Nat → Prop} {ι ι' ι'' : IM} {H H' H'' : Heap} (a : Ext w F ι H w' F' ι' H') (b : Ext w' F' ι' H' w'' F'' ι'' H'') :
    Ext w F ι H w'' F'' ι'' H'' where
  os := b.os.trans a.os
  tape := b.tape.trans a.tape
  output := b.output.trans a.output
  pre := fun n x h => b.pre _ _ (a.pre _ _ h)
  fmono := fun x h => b.fmono _ (a.fmono _ h)
  fnew := fun x h => by
    rcases b.fnew x h with h | h
    · exact a.fnew x h
    · exact .inr (Nat.le_trans a.size h)
  size := Nat.le_trans a.size b.size
  csz := fun x n h => b.csz _ _ (a.csz _ _ h)
  frame := fun x hx hl => by
    have h1 := a.frame x hx hl
    have h2 := b.frame x (Nat.lt_of_lt_of_le hx a.size) (fun h => by
      rcases a.live x h with h | h
      · exact hl h
      · omega)
    exact h2.trans h1
  live := fun x h => by
    rcases b.live x h with h | h
    · exact a.live x h
    · exact .inr (Nat.le_trans a.size h)

theorem Ext.frozen {w w' : World} {F F' : Nat → Prop} {ι ι' : IM} {H H' : Heap} (a : Ext w F ι H w' F' ι' H') (hi : Inv w F ι H) (b : Nat) (hb : F b) : w'.heap[b]? = w.heap[b]? :=
  a.frame b (hi.lt b hb) (hi.dis b hb)

end Go.Zc
