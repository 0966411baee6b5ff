/- Layouts, ends, points as cells. No condition. -/
import Derived.Test.YtkpechngfcaiiaaGreatDoorZcRun
import Derived.IntWalk
import Derived.KernelRfl
import Derived.LaidMore
import Derived.OpenShut
import Derived.Stop.Joined
import Derived.Handed
import Derived.MakeChecks
set_option linter.all false
section
namespace Go.Zc

def small : Nat := 1000000000

theorem wrapN {n : Nat} (h : n ≤ 4 * small) : IntKind.i64.wrap ((n : Int) + 1) = ((n + 1 : Nat) : Int) := by
  unfold small at h
  rw [IntKind.wrap_i64]; omega
theorem wrapM {n : Nat} (h : n < 9223372036854775807) : IntKind.i64.wrap ((n : Int) + 1) = ((n + 1 : Nat) : Int) := by
  rw [IntKind.wrap_i64]; omega
theorem wrap64 {n : Int} (h : -9223372036854775808 ≤ n) (h' : n ≤ 9223372036854775807) : IntKind.i64.wrap n = n := by
  rw [IntKind.wrap_i64]; omega

def fI (n : Int) : List CV := [.int .i64 n]
def fU (n : Int) : List CV := [.int .u8 n]
def fB (b : Bool) : List CV := [.bool b]
def fL (l : List Int) : List CV := [sl fI l]
def fZ (z : Nat × Nat) : List CV := [.cplx .f64 z.1 z.2]

structure Ed where
  s : Int
  e : Int
  deriving DecidableEq
def fE (x : Ed) : List CV := [.int .i64 x.s, .int .i64 x.e]
structure Sec where
  len : Int
  a : Int
  b : Int
  deriving DecidableEq
def fS (x : Sec) : List CV := [.int .i64 x.len, .int .i64 x.a, .int .i64 x.b]
structure Pt where
  node : Int
  stem : Int
  left : Int
  right : Int
  deriving DecidableEq
def fP (x : Pt) : List CV := [.int .i64 x.node, .int .i64 x.stem, .int .i64 x.left, .int .i64 x.right]

theorem flatI : Flat fI 1 := ⟨fun _ => rfl, by decide, fun _ => rfl, fun _ => rfl, fun _ => rfl⟩
theorem flatU : Flat fU 1 := ⟨fun _ => rfl, by decide, fun _ => rfl, fun _ => rfl, fun _ => rfl⟩
theorem flatB : Flat fB 1 := ⟨fun _ => rfl, by decide, fun _ => rfl, fun _ => rfl, fun _ => rfl⟩
theorem flatL : Flat fL 1 := ⟨fun _ => rfl, by decide, fun _ => rfl, fun _ => rfl, fun _ => rfl⟩
theorem flatZ : Flat fZ 1 := ⟨fun _ => rfl, by decide, fun _ => rfl, fun _ => rfl, fun _ => rfl⟩
theorem flatE : Flat fE 2 := ⟨fun _ => rfl, by decide, fun _ => rfl, fun _ => rfl, fun _ => rfl⟩
theorem flatS : Flat fS 3 := ⟨fun _ => rfl, by decide, fun _ => rfl, fun _ => rfl, fun _ => rfl⟩
theorem flatP : Flat fP 4 := ⟨fun _ => rfl, by decide, fun _ => rfl, fun _ => rfl, fun _ => rfl⟩

theorem iaddr_mid {α : Type} {f : α → List CV} {sz : Nat} (hf : Flat f sz) (k : IntKind) (pre suf : List α) (x : α) : iaddrC sz (sl f (pre ++ x :: suf)) (.int k pre.length) = some (.vp (f x ++ suf.flatMap f)) := by
  have := iaddr_sl hf.len hf.pos (l := pre ++ x :: suf) (k := k) (i := pre.length) (by simp)
  rw [this]
  simp

theorem iaddr_midI (k : IntKind) (pre suf : List Int) (x : Int) : iaddrC 1 (sl fI (pre ++ x :: suf)) (.int k pre.length) = some (.vp (.int .i64 x :: suf.flatMap fI)) := iaddr_mid flatI k pre suf x
theorem iaddr_midE (k : IntKind) (pre suf : List Ed) (x : Ed) : iaddrC 2 (sl fE (pre ++ x :: suf)) (.int k pre.length) = some (.vp (.int .i64 x.s :: .int .i64 x.e :: suf.flatMap fE)) := iaddr_mid flatE k pre suf x
theorem iaddr_midS (k : IntKind) (pre suf : List Sec) (x : Sec) : iaddrC 3 (sl fS (pre ++ x :: suf)) (.int k pre.length) = some (.vp (.int .i64 x.len :: .int .i64 x.a :: .int .i64 x.b :: suf.flatMap fS)) := iaddr_mid flatS k pre suf x
theorem iaddr_midP (k : IntKind) (pre suf : List Pt) (x : Pt) : iaddrC 4 (sl fP (pre ++ x :: suf)) (.int k pre.length) = some (.vp (.int .i64 x.node :: .int .i64 x.stem :: .int .i64 x.left :: .int .i64 x.right :: suf.flatMap fP)) := iaddr_mid flatP k pre suf x
theorem iaddr_midL (k : IntKind) (pre suf : List (List Int)) (x : List Int) : iaddrC 1 (sl fL (pre ++ x :: suf)) (.int k pre.length) = some (.vp (sl fI x :: suf.flatMap fL)) := iaddr_mid flatL k pre suf x
theorem iaddr_midB (k : IntKind) (pre suf : List Bool) (x : Bool) : iaddrC 1 (sl fB (pre ++ x :: suf)) (.int k pre.length) = some (.vp (.bool x :: suf.flatMap fB)) := iaddr_mid flatB k pre suf x

theorem iaddr_atI {k : IntKind} {l : List Int} {i : Nat} (h : i < l.length) : iaddrC 1 (sl fI l) (.int k i) = some (.vp (.int .i64 l[i] :: (l.drop (i + 1)).flatMap fI)) := iaddr_sl flatI.len flatI.pos h
theorem iaddr_atE {k : IntKind} {l : List Ed} {i : Nat} (h : i < l.length) : iaddrC 2 (sl fE l) (.int k i) = some (.vp (.int .i64 l[i].s :: .int .i64 l[i].e :: (l.drop (i + 1)).flatMap fE)) := iaddr_sl flatE.len flatE.pos h
theorem iaddr_atS {k : IntKind} {l : List Sec} {i : Nat} (h : i < l.length) : iaddrC 3 (sl fS l) (.int k i) = some (.vp (.int .i64 l[i].len :: .int .i64 l[i].a :: .int .i64 l[i].b :: (l.drop (i + 1)).flatMap fS)) := iaddr_sl flatS.len flatS.pos h
theorem iaddr_atP {k : IntKind} {l : List Pt} {i : Nat} (h : i < l.length) : iaddrC 4 (sl fP l) (.int k i) = some (.vp (.int .i64 l[i].node :: .int .i64 l[i].stem :: .int .i64 l[i].left :: .int .i64 l[i].right :: (l.drop (i + 1)).flatMap fP)) := iaddr_sl flatP.len flatP.pos h
theorem iaddr_atL {k : IntKind} {l : List (List Int)} {i : Nat} (h : i < l.length) : iaddrC 1 (sl fL l) (.int k i) = some (.vp (sl fI l[i] :: (l.drop (i + 1)).flatMap fL)) := iaddr_sl flatL.len flatL.pos h

theorem slc_sl {α : Type} {f : α → List CV} {sz : Nat} (hf : Flat f sz) (l : List α) (a b : Nat) (h : a ≤ b) (h' : b ≤ l.length) (k k' : IntKind) : slcC sz (sl f l) (some (.int k a)) (some (.int k' b)) = some (sl f ((l.take b).drop a)) := by
  unfold slcC sl
  simp only [sbound]
  rw [if_pos ⟨by omega, by omega⟩]
  simp only [Option.bind_some, Int.toNat_natCast]
  rw [if_pos ⟨by omega, by omega⟩]
  simp only [Option.map_some, Int.toNat_natCast, flatMap_take hf.len, flatMap_drop hf.len]
  congr 1
  simp
  omega
theorem slc_lo {α : Type} {f : α → List CV} {sz : Nat} (hf : Flat f sz) (l : List α) (a : Nat) (h : a ≤ l.length) (k : IntKind) : slcC sz (sl f l) (some (.int k a)) none = some (sl f (l.drop a)) := by
  unfold slcC sl
  simp only [sbound]
  simp only [Option.bind_some]
  rw [if_pos ⟨by omega, by omega⟩]
  simp only [Option.map_some, Int.toNat_natCast, flatMap_take hf.len, flatMap_drop hf.len]
  congr 1
  simp
theorem slc_hi {α : Type} {f : α → List CV} {sz : Nat} (hf : Flat f sz) (l : List α) (b : Nat) (h' : b ≤ l.length) (k' : IntKind) : slcC sz (sl f l) none (some (.int k' b)) = some (sl f (l.take b)) := by
  unfold slcC sl
  simp only [sbound]
  rw [if_pos ⟨by omega, by omega⟩]
  simp only [Option.bind_some, Int.toNat_natCast, Option.map_some, Nat.zero_mul, List.drop_zero, flatMap_take hf.len, Nat.sub_zero]
  congr 1
  simp
  omega

/-- A layout. -/
structure Lay where
  nodes : List (Nat × Nat)
  secs : List Sec
  parts : List (List Int)
  pts : List Pt
  routes : List (List Int)
  speed : Int
  mute : Int
  wait : Int
  cancel : Int
  stay : Int
abbrev layC (l : Lay) : List CV := [sl fZ l.nodes, sl fS l.secs, sl fL l.parts, sl fP l.pts, sl fL l.routes, .int .i64 l.speed, .int .i64 l.mute, .int .i64 l.wait, .int .i64 l.cancel, .int .i64 l.stay]
structure Lay.ok (l : Lay) : Prop where
  nodes : l.nodes.length ≤ small
  secs : l.secs.length ≤ small
  parts : l.parts.length ≤ small
  pts : l.pts.length ≤ small
  routes : l.routes.length ≤ small
  part : ∀ p ∈ l.parts, p.length ≤ small
  route : ∀ p ∈ l.routes, p.length ≤ small

def secAt (l : Lay) (n : Int) : Option Sec := if 0 ≤ n then l.secs[n.toNat]? else none
def secC : Option Sec → List CV
  | some x => fS x
  | none => [.int .i64 0, .int .i64 0, .int .i64 0]

/-! ### What a track tells -/
def endsFrom (at' : Int) : Nat → List Sec → List Ed
  | _, [] => []
  | i, s :: r => (if s.a = at' then [⟨i, 0⟩] else []) ++ (if s.b = at' then [⟨i, 1⟩] else []) ++ endsFrom at' (i + 1) r
def ends (l : Lay) (at' : Int) : List Ed := endsFrom at' 0 l.secs
def nodeOf (l : Lay) (x : Ed) : Option Int := (if 0 ≤ x.s then l.secs[x.s.toNat]? else none).bind fun s => if x.e = 0 then some s.a else if x.e = 1 then some s.b else none
def ptOf (l : Lay) (at' : Int) : Option Nat := l.pts.findIdx? fun p => p.node == at'
def oneOf (l : Lay) (sec at' : Int) : List Ed := match (ends l at').find? fun x => x.s == sec with
  | some x => [x]
  | none => []
def around (l : Lay) (x : Ed) : List Ed :=
  match nodeOf l x with
  | none => []
  | some n =>
    match l.pts.find? fun p => p.node == n with
    | some p => if x.s = p.stem then oneOf l p.left n ++ oneOf l p.right n else if x.s = p.left ∨ x.s = p.right then oneOf l p.stem n else []
    | none => if ((ends l n).filter fun y => y ≠ x).length = 1 then (ends l n).filter fun y => y ≠ x else []

def lenAt (l : Lay) (s : Int) : Int := ((if 0 ≤ s then l.secs[s.toNat]? else none).map Sec.len).getD 0

/-- Which of some ends a number turns to. -/
def turn (turns : List Int) (i n : Nat) : Nat := match turns[i]? with
  | some t => t.toNat % n
  | none => 0
def walkFrom (l : Lay) (turns : List Int) : Nat → Nat → List Int → Ed → List Int
  | 0, _, out, _ => out
  | n + 1, i, out, x =>
    match (around l x)[turn turns i (around l x).length]? with
    | none => out
    | some y => if y.s ∈ out then out else walkFrom l turns n (i + 1) (out ++ [y.s]) ⟨y.s, 1 - y.e⟩
def walk (l : Lay) (s e : Int) (turns : List Int) (most : Int) : List Int := walkFrom l turns (most - 1).toNat 0 [s] ⟨s, e⟩

theorem eqE (x y : Ed) : eqCs [(0, false, 1, .int), (1, false, 1, .int)] (fE x) (fE y) = some (decide (x = y)) := by
  obtain ⟨a, b⟩ := x
  obtain ⟨c, d⟩ := y
  simp only [fE, eqCs, partC, Bool.false_eq_true, if_false, List.getElem?_cons_zero, List.getElem?_cons_succ, eqC, if_true]
  by_cases h1 : a = c
  · subst h1
    by_cases h2 : b = d
    · subst h2; simp
    · have : (b == d) = false := by simpa using h2
      simp [this, h2]
  · have : (a == c) = false := by simpa using h1
    simp [this, h1]

/-! ### Lists of lists that are being made -/
/-- The outer block's cells. -/
def nest : List Nat → List (List Int) → List CV
  | k :: ks, p :: ps => .os 1 (.blk k) 0 p.length :: nest ks ps
  | _, _ => []
/-- Each inner one lies in its block. -/
def Inner (bl : List Blk) : List Nat → List (List Int) → Prop
  | k :: ks, p :: ps => bl[k]? = some (.cells (p.flatMap fI)) ∧ Inner bl ks ps
  | [], [] => True
  | _, _ => False
/-- A slice of slices of numbers, all of it being made; 'ids': the blocks. -/
def OwnL (bl : List Blk) (v : CV) (ids : List Nat) (ps : List (List Int)) : Prop :=
  (v = .nils ∧ ps = [] ∧ ids = []) ∨ ∃ m ks, ids = m :: ks ∧ v = .os 1 (.blk m) 0 ps.length ∧ bl[m]? = some (.cells (nest ks ps)) ∧ Inner bl ks ps ∧ (m :: ks).Nodup

theorem Inner.length {bl : List Blk} : ∀ {ks : List Nat} {ps : List (List Int)}, Inner bl ks ps → ks.length = ps.length
  | [], [], _ => rfl
  | _ :: _, _ :: _, h => by simp [Inner.length h.2]
  | [], _ :: _, h => h.elim
  | _ :: _, [], h => h.elim
theorem Inner.mono {bl bl' : List Blk} : ∀ {ks : List Nat} {ps : List (List Int)}, Inner bl ks ps → (∀ k ∈ ks, ∀ b, bl[k]? = some b → bl'[k]? = some b) → Inner bl' ks ps
  | [], [], _, _ => trivial
  | k :: ks, p :: ps, h, hk => ⟨hk k (by simp) _ h.1, Inner.mono h.2 fun k' h' => hk k' (by simp [h'])⟩
  | [], _ :: _, h, _ => h.elim
  | _ :: _, [], h, _ => h.elim
theorem Inner.lt {bl : List Blk} : ∀ {ks : List Nat} {ps : List (List Int)}, Inner bl ks ps → ∀ k ∈ ks, k < bl.length
  | [], [], _, k, hk => by simp at hk
  | k :: ks, p :: ps, h, k', hk => by
    rcases List.mem_cons.1 hk with rfl | hk
    · exact (List.getElem?_eq_some_iff.1 h.1).1
    · exact Inner.lt h.2 _ hk
  | [], _ :: _, h, _, _ => h.elim
  | _ :: _, [], h, _, _ => h.elim
theorem Inner.app {bl : List Blk} : ∀ {ks : List Nat} {ps : List (List Int)} {k : Nat} {p : List Int}, Inner bl ks ps → bl[k]? = some (.cells (p.flatMap fI)) → Inner bl (ks ++ [k]) (ps ++ [p])
  | [], [], _, _, _, h => ⟨h, trivial⟩
  | _ :: _, _ :: _, _, _, h, h' => ⟨h.1, Inner.app h.2 h'⟩
  | [], _ :: _, _, _, h, _ => h.elim
  | _ :: _, [], _, _, h, _ => h.elim
theorem Inner.split {bl : List Blk} : ∀ {ks : List Nat} {ps : List (List Int)} {p : List Int}, Inner bl ks (ps ++ [p]) → ∃ ks' k, ks = ks' ++ [k] ∧ Inner bl ks' ps ∧ bl[k]? = some (.cells (p.flatMap fI))
  | [k], [], _, h => ⟨[], k, rfl, trivial, h.1⟩
  | k :: ks, q :: ps, p, h => by
    obtain ⟨ks', k', rfl, h1, h2⟩ := Inner.split (ps := ps) h.2
    exact ⟨k :: ks', k', rfl, ⟨h.1, h1⟩, h2⟩
  | [], [], _, h => h.elim
  | [], _ :: _, _, h => h.elim
  | _ :: _ :: _, [], _, h => h.2.elim
theorem nest_app : ∀ {ks : List Nat} {ps : List (List Int)} (k : Nat) (p : List Int), ks.length = ps.length → nest (ks ++ [k]) (ps ++ [p]) = nest ks ps ++ [.os 1 (.blk k) 0 p.length]
  | [], [], _, _, _ => rfl
  | _ :: ks, _ :: ps, k, p, h => by simp only [List.cons_append, nest, nest_app k p (by simpa using h)]
  | [], _ :: _, _, _, h => by simp at h
  | _ :: _, [], _, _, h => by simp at h
theorem nest_length : ∀ {ks : List Nat} {ps : List (List Int)}, ks.length = ps.length → (nest ks ps).length = ps.length
  | [], [], _ => rfl
  | _ :: ks, _ :: ps, h => by simp only [nest, List.length_cons, nest_length (by simpa using h)]
  | [], _ :: _, h => by simp at h
  | _ :: _, [], h => by simp at h

theorem OwnL.len {bl : List Blk} {v : CV} {ids : List Nat} {ps : List (List Int)} (h : OwnL bl v ids ps) : lenC v = some (.int .i64 ps.length) := by
  rcases h with ⟨rfl, rfl, _⟩ | ⟨m, ks, _, rfl, _⟩ <;> rfl
theorem OwnL.locv {bl : List Blk} {v : CV} {ids : List Nat} {ps : List (List Int)} (h : OwnL bl v ids ps) : v.locv = false := by
  rcases h with ⟨rfl, rfl, _⟩ | ⟨m, ks, _, rfl, _⟩ <;> rfl
theorem OwnL.one {bl : List Blk} {v : CV} {ids : List Nat} {ps : List (List Int)} (h : OwnL bl v ids ps) : v.one = true := by
  rcases h with ⟨rfl, rfl, _⟩ | ⟨m, ks, _, rfl, _⟩ <;> rfl
theorem OwnL.cells {bl : List Blk} {v : CV} {ids : List Nat} {ps : List (List Int)} (h : OwnL bl v ids ps) : v.cells = [v] := by
  rcases h with ⟨rfl, rfl, _⟩ | ⟨m, ks, _, rfl, _⟩ <;> rfl
theorem OwnL.und {bl : List Blk} {v : CV} {ids : List Nat} {ps : List (List Int)} (h : OwnL bl v ids ps) : v.und? = false := by
  rcases h with ⟨rfl, rfl, _⟩ | ⟨m, ks, _, rfl, _⟩ <;> rfl

/-- Blocks beside some are as they were. -/
def FrL (bl bl' : List Blk) (ids : List Nat) : Prop := ∀ (k : Nat) (b : Blk), bl[k]? = some b → k ∉ ids → bl'[k]? = some b
def DjL (ids : List Nat) (w : CV) : Prop := ∀ k, blkOf w = some k → k ∉ ids
theorem Own.frL {α : Type} {g : α → List CV} {sz : Nat} {w : CV} {r : List α} {bl bl' : List Blk} {ids : List Nat} (h : Own g sz bl w r) (hf : FrL bl bl' ids) (hd : DjL ids w) : Own g sz bl' w r := by
  rcases h with h | ⟨m, rfl, h2⟩
  · exact .inl h
  · exact .inr ⟨m, rfl, hf m _ h2 (hd m rfl)⟩
theorem OwnF.frL {α : Type} {g : α → List CV} {sz : Nat} {w : CV} {r : List α} {bl bl' : List Blk} {ids : List Nat} (h : OwnF g sz bl w r) (hf : FrL bl bl' ids) (hd : DjL ids w) : OwnF g sz bl' w r := by
  rcases h with h | h
  · exact .inl h
  · exact .inr (h.frL hf hd)

/-- A new list at the end: the inner block, the literal's, the outer one's are new. -/
theorem OwnL.appNew {bl : List Blk} {v : CV} {ids : List Nat} {ps : List (List Int)} (h : OwnL bl v ids ps) (x : Int) (hm : (ps.length + 1) * 24 ≤ 140737488355328) :
    ∃ v' bl' ids', (∀ bx, heapOp (.app 1 24 [.nils]) [v, .os 1 (.blk (bl ++ [Blk.cells [.int .i64 x]]).length) 0 1] ⟨bx, bl ++ [Blk.cells [.int .i64 x]] ++ [Blk.cells [.os 1 (.blk bl.length) 0 1]]⟩ = some (v', ⟨bx, bl'⟩)) ∧
      OwnL bl' v' ids' (ps ++ [[x]]) ∧ FrL bl bl' ids ∧ (∀ k ∈ ids', k ∈ ids ∨ bl.length ≤ k) := by
  have hsh : ∀ bx : List (Nat × List CV), shown ⟨bx, bl ++ [Blk.cells [.int .i64 x]] ++ [Blk.cells [.os 1 (.blk bl.length) 0 1]]⟩ 1 (.os 1 (.blk (bl ++ [Blk.cells [.int .i64 x]]).length) 0 1) = some [.os 1 (.blk bl.length) 0 1] := by
    intro bx
    simp [shown, Heap.get]
  rcases h with ⟨rfl, rfl, rfl⟩ | ⟨m, ks, rfl, rfl, h1, h2, h3⟩
  · refine ⟨.os 1 (.blk (bl.length + 2)) 0 1, bl ++ [Blk.cells [.int .i64 x]] ++ [Blk.cells [.os 1 (.blk bl.length) 0 1]] ++ [Blk.cells [.os 1 (.blk bl.length) 0 1]], [bl.length + 2, bl.length], fun bx => ?_, .inr ⟨_, _, rfl, rfl, ?_, ?_, ?_⟩, fun k b hk _ => ?_, fun k hk => ?_⟩
    · simp only [heapOp, hsh, Option.bind_some, lenOf]
      simp [ones, CV.one, CV.locs, CV.locv, Id.loc?, appC, Heap.push]
    · simp [nest]
    · simp [Inner, fI]
    · simp
    · have := (List.getElem?_eq_some_iff.1 hk).1
      rw [List.getElem?_append_left (by simp; omega), List.getElem?_append_left (by simp; omega), List.getElem?_append_left (by omega)]
      exact hk
    · simp at hk; omega
  · have hml : m < bl.length := (List.getElem?_eq_some_iff.1 h1).1
    have hlen := h2.length
    have hg : (bl ++ [Blk.cells [.int .i64 x]] ++ [Blk.cells [.os 1 (.blk bl.length) 0 1]])[m]? = some (.cells (nest ks ps)) := by
      rw [List.getElem?_append_left (by simp; omega), List.getElem?_append_left (by omega)]; exact h1
    refine ⟨.os 1 (.blk (bl.length + 2)) 0 (ps.length + 1), ((bl ++ [Blk.cells [.int .i64 x]] ++ [Blk.cells [.os 1 (.blk bl.length) 0 1]]).set m .dead) ++ [Blk.cells (nest ks ps ++ [.os 1 (.blk bl.length) 0 1])], (bl.length + 2) :: (ks ++ [bl.length]), fun bx => ?_, .inr ⟨_, _, rfl, by simp, ?_, ?_, ?_⟩, fun k b hk hne => ?_, fun k hk => ?_⟩
    · have hc := decide_eq_true hm
      simp only [heapOp, hsh, Option.bind_some, lenOf, Nat.one_ne_zero, Nat.succ_ne_self, Nat.reduceEqDiff, if_false, hc, decide_true, Bool.and_true, Bool.true_and, ones_cons, ones_nil, one_os, one_int, one_nils, CV.locs, CV.locv, loc_blk, Bool.or_false, Bool.not_false, List.length_cons, List.length_nil, Nat.zero_add, Nat.reduceLT, Nat.lt_add_one, if_true, appC, get_blk _ _ _ _ hg, Option.bind_some, nest_length hlen, Nat.mul_one, Nat.le_refl, Heap.kill, Heap.push]
      rw [if_pos (by exact decide_eq_true hm), List.take_of_length_le (by rw [nest_length hlen]; exact Nat.le_refl _)]
      simp
    · have := nest_app (ks := ks) (ps := ps) bl.length [x] hlen
      simp only [List.length_cons, List.length_nil, Nat.zero_add] at this
      rw [this]
      simp
    · refine Inner.app (h2.mono fun k hk b hb => ?_) ?_
      · have := h2.lt k hk
        have hkm : m ≠ k := fun h => by subst h; simp [hk] at h3
        rw [List.getElem?_append_left (by simp; omega), List.getElem?_set_ne hkm, List.getElem?_append_left (by simp; omega), List.getElem?_append_left (by omega)]
        exact hb
      · rw [List.getElem?_append_left (by simp), List.getElem?_set_ne (by omega), List.getElem?_append_left (by simp), List.getElem?_append_right (Nat.le_refl _)]
        simp [fI]
    · have hks := h2.lt
      simp only [List.nodup_cons] at h3 ⊢
      refine ⟨?_, ?_⟩
      · simp only [List.mem_append, List.mem_singleton]
        rintro (h | h)
        · have := hks _ h; omega
        · omega
      · rw [List.nodup_append]
        refine ⟨h3.2, by simp, fun a ha b hb => ?_⟩
        simp only [List.mem_singleton] at hb
        subst hb
        have := hks _ ha
        omega
    · have hkl := (List.getElem?_eq_some_iff.1 hk).1
      have hkm : m ≠ k := fun h => by subst h; simp at hne
      rw [List.getElem?_append_left (by simp; omega), List.getElem?_set_ne hkm, List.getElem?_append_left (by simp; omega), List.getElem?_append_left (by omega)]
      exact hk
    · simp only [List.mem_cons, List.mem_append, List.mem_singleton, List.not_mem_nil, or_false] at hk ⊢
      rcases hk with rfl | hk | rfl
      · right; omega
      · left; right; exact hk
      · right; exact Nat.le_refl _

/-- A number more in the last list. -/
theorem OwnL.appLast {bl : List Blk} {v : CV} {ids : List Nat} {ps : List (List Int)} {p : List Int} (h : OwnL bl v ids (ps ++ [p])) (x : Int) (hm : (p.length + 1) * 8 ≤ 140737488355328) :
    ∃ m k w bl1 bl' ids', iaddrC 1 v (.int .i64 ps.length) = some (.op (.blk m) ps.length) ∧ (∃ cs, (∀ bx, Heap.get ⟨bx, bl⟩ (.blk m) = some cs) ∧ headO (cs.drop ps.length) = some (.os 1 (.blk k) 0 p.length)) ∧
      (∀ bx, heapOp (.app 1 8 [.int .i64 0]) [.os 1 (.blk k) 0 p.length, .vs [.int .i64 x] 1] ⟨bx, bl⟩ = some (w, ⟨bx, bl1⟩)) ∧ w.locv = false ∧ w.one = true ∧
      (∃ cs, (∀ bx, Heap.get ⟨bx, bl1⟩ (.blk m) = some cs) ∧ ∀ bx, stE 1 ps.length w ⟨bx, bl1⟩ (.blk m) cs = some ⟨bx, bl'⟩) ∧ OwnL bl' v ids' (ps ++ [p ++ [x]]) ∧ FrL bl bl' ids ∧ (∀ k ∈ ids', k ∈ ids ∨ bl.length ≤ k) := by
  rcases h with ⟨_, h, _⟩ | ⟨m, ks, rfl, rfl, h1, h2, h3⟩
  · simp at h
  · obtain ⟨ks', k, rfl, h4, h5⟩ := h2.split
    have hlen := h4.length
    have hks := h2.lt
    have hml : m < bl.length := (List.getElem?_eq_some_iff.1 h1).1
    have hkl : k < bl.length := (List.getElem?_eq_some_iff.1 h5).1
    rw [nest_app k p hlen] at h1
    have hnl := nest_length hlen
    have hmk : m ≠ k := fun h => by subst h; simp at h3
    have hg : ∀ bx : List (Nat × List CV), Heap.get ⟨bx, bl⟩ (.blk m) = some (nest ks' ps ++ [.os 1 (.blk k) 0 p.length]) := fun bx => get_blk bx bl m _ h1
    have hgk : ∀ bx : List (Nat × List CV), Heap.get ⟨bx, bl⟩ (.blk k) = some (p.flatMap fI) := fun bx => get_blk bx bl k _ h5
    have hg1 : ((bl.set k .dead) ++ [Blk.cells (p.flatMap fI ++ [.int .i64 x])])[m]? = some (.cells (nest ks' ps ++ [.os 1 (.blk k) 0 p.length])) := by
      rw [List.getElem?_append_left (by simpa using hml), List.getElem?_set_ne (Ne.symm hmk)]; exact h1
    refine ⟨m, k, .os 1 (.blk bl.length) 0 (p.length + 1), (bl.set k .dead) ++ [Blk.cells (p.flatMap fI ++ [.int .i64 x])], ((bl.set k .dead) ++ [Blk.cells (p.flatMap fI ++ [.int .i64 x])]).set m (.cells (nest ks' ps ++ [.os 1 (.blk bl.length) 0 (p.length + 1)])), m :: (ks' ++ [bl.length]), ?_, ⟨_, hg, ?_⟩, fun bx => ?_, rfl, rfl, ⟨_, fun bx => get_blk _ _ _ _ hg1, fun bx => ?_⟩, .inr ⟨m, _, rfl, by simp, ?_, ?_, ?_⟩, fun j b hj hne => ?_, fun j hj => ?_⟩
    · unfold iaddrC iaddrN
      simp only [Int.toNat_natCast, Nat.zero_add, Nat.mul_one]
      rw [if_pos ⟨trivial, by omega, by simp; omega⟩]
    · rw [← hnl, List.drop_left]; rfl
    · have hc := decide_eq_true hm
      simp only [heapOp, lenOf, shown, Nat.mul_one, Option.bind_some, Nat.one_ne_zero, Nat.succ_ne_self, Nat.reduceEqDiff, if_false, hc, decide_true, Bool.and_true, Bool.true_and, ones_cons, ones_nil, one_os, one_int, one_nils, CV.locs, CV.locv, loc_blk, Bool.or_false, Bool.not_false, List.length_cons, List.length_nil, Nat.zero_add, Nat.reduceLT, Nat.lt_add_one, if_true, appC, hgk, Option.bind_some, flatI.length, Nat.mul_one, Nat.le_refl, Heap.kill, Heap.push]
      rw [if_pos (by exact decide_eq_true hm), List.take_of_length_le (by rw [flatI.length]; omega)]
    · unfold stE
      rw [if_pos (by simp [CV.cells, ones, CV.one, CV.locs, CV.locv, Id.loc?]; omega)]
      simp only [CV.cells, setMany, Heap.put]
      congr 3
      simp [hnl]
    · rw [List.getElem?_set_self (by simp; omega)]
      have := nest_app (ks := ks') (ps := ps) bl.length (p ++ [x]) hlen
      simp only [List.length_append, List.length_cons, List.length_nil, Nat.zero_add] at this
      rw [this]
    · refine Inner.app (h4.mono fun j hj b hb => ?_) ?_
      · have hjl := h4.lt j hj
        have hjm : m ≠ j := fun h => by subst h; simp [hj] at h3
        have hjk : k ≠ j := fun h => by
          subst h
          simp only [List.nodup_cons] at h3
          have := (List.nodup_append.1 h3.2).2.2 _ hj k (by simp)
          exact this rfl
        rw [List.getElem?_set_ne hjm, List.getElem?_append_left (by simp; omega), List.getElem?_set_ne hjk]
        exact hb
      · rw [List.getElem?_set_ne (by omega), List.getElem?_append_right (by simp)]
        simp [fI]
    · simp only [List.nodup_cons, List.mem_append, List.mem_singleton, not_or] at h3 ⊢
      refine ⟨⟨h3.1.1, by omega⟩, ?_⟩
      rw [List.nodup_append] at h3 ⊢
      refine ⟨h3.2.1, by simp, fun a ha b hb => ?_⟩
      simp only [List.mem_singleton] at hb
      subst hb
      have := h4.lt _ ha
      omega
    · have hjl := (List.getElem?_eq_some_iff.1 hj).1
      simp only [List.mem_cons, List.mem_append, not_or, List.not_mem_nil, not_false_eq_true, and_true] at hne
      rw [List.getElem?_set_ne (Ne.symm hne.1), List.getElem?_append_left (by simpa using hjl), List.getElem?_set_ne (Ne.symm hne.2.2)]
      exact hj
    · simp only [List.mem_cons, List.mem_append, List.not_mem_nil, or_false] at hj ⊢
      rcases hj with rfl | hj | rfl
      · exact .inl (.inl rfl)
      · exact .inl (.inr (.inl hj))
      · exact .inr (Nat.le_refl _)

theorem inner_snap {bl : List Blk} (bx : List (Nat × List CV)) (st kn : Bool) (n : Nat) : ∀ {ks : List Nat} {ps : List (List Int)}, Inner bl ks ps → mapC (snapN ⟨bx, bl⟩ st kn (n + 2)) (nest ks ps) = some (ps.flatMap fL)
  | [], [], _ => rfl
  | k :: ks, p :: ps, h => by
    have h1 : snapN ⟨bx, bl⟩ st kn (n + 2) (.os 1 (.blk k) 0 p.length) = some (sl fI p) := by
      show snapV ⟨bx, bl⟩ st kn (snapN ⟨bx, bl⟩ st kn (n + 1)) (.os 1 (.blk k) 0 p.length) = _
      by_cases hp : p = []
      · subst hp; rfl
      · exact Own.snapK flatI (.inr ⟨k, rfl, h.1⟩) hp bx st kn _ (by
          intro x c hc
          simp only [fI, List.mem_singleton] at hc
          subst hc
          rfl)
    simp only [nest, mapC_cons, h1, bind_some', inner_snap bx st kn n h.2, consO_some, List.flatMap_cons, fL, List.cons_append, List.nil_append]
  | [], _ :: _, h => h.elim
  | _ :: _, [], h => h.elim
theorem OwnL.snapK {bl : List Blk} {v : CV} {ids : List Nat} {ps : List (List Int)} (h : OwnL bl v ids ps) (h0 : ps ≠ []) (bx : List (Nat × List CV)) (st kn : Bool) (n : Nat) : snapV ⟨bx, bl⟩ st kn (snapN ⟨bx, bl⟩ st kn (n + 2)) v = some (sl fL ps) := by
  rcases h with ⟨_, h, _⟩ | ⟨m, ks, rfl, rfl, h1, h2, h3⟩
  · exact (h0 h).elim
  · unfold snapV
    have hl := nest_length h2.length
    split
    · rename_i h1
      exact (h0 (List.eq_nil_of_length_eq_zero h1)).elim
    · rw [get_blk bx bl m _ h1]
      simp only [Option.bind_some, Nat.zero_add, Nat.mul_one, hl, Nat.le_refl, if_true, List.drop_zero]
      rw [List.take_of_length_le (by omega), inner_snap bx st kn n h2]
      rfl

/-! ### Drafts -/
def fUL (l : List Int) : List CV := [sl fU l]
theorem flatUL : Flat fUL 1 := ⟨fun _ => rfl, by decide, fun _ => rfl, fun _ => rfl, fun _ => rfl⟩
theorem iaddr_midU (k : IntKind) (pre suf : List Int) (x : Int) : iaddrC 1 (sl fU (pre ++ x :: suf)) (.int k pre.length) = some (.vp (.int .u8 x :: suf.flatMap fU)) := iaddr_mid flatU k pre suf x
theorem iaddr_atU {k : IntKind} {l : List Int} {i : Nat} (h : i < l.length) : iaddrC 1 (sl fU l) (.int k i) = some (.vp (.int .u8 l[i] :: (l.drop (i + 1)).flatMap fU)) := iaddr_sl flatU.len flatU.pos h
theorem iaddr_midUL (k : IntKind) (pre suf : List (List Int)) (x : List Int) : iaddrC 1 (sl fUL (pre ++ x :: suf)) (.int k pre.length) = some (.vp (sl fU x :: suf.flatMap fUL)) := iaddr_mid flatUL k pre suf x
structure Draft where
  form : Int
  len : Int
  speed : Int
  mute : Int
  wait : Int
  cancel : Int
  stay : Int
  join : Int
  routes : List (List Int)
abbrev draftC (d : Draft) : List CV := [.int .u8 d.form, .int .u8 d.len, .int .u8 d.speed, .int .u16 d.mute, .int .u16 d.wait, .int .u8 d.cancel, .int .u8 d.stay, .int .u8 d.join, sl fUL d.routes]
structure Draft.ok (d : Draft) : Prop where
  form : 0 ≤ d.form ∧ d.form ≤ 255
  len : 0 ≤ d.len ∧ d.len ≤ 255
  speed : 0 ≤ d.speed ∧ d.speed ≤ 255
  mute : 0 ≤ d.mute ∧ d.mute ≤ 65535
  wait : 0 ≤ d.wait ∧ d.wait ≤ 65535
  cancel : 0 ≤ d.cancel ∧ d.cancel ≤ 255
  stay : 0 ≤ d.stay ∧ d.stay ≤ 255
  join : 0 ≤ d.join ∧ d.join ≤ 255
  routes : d.routes.length ≤ maxLen
  route : ∀ r ∈ d.routes, r.length ≤ maxLen ∧ ∀ t ∈ r, 0 ≤ t ∧ t ≤ 255
/-! ### The layout that a draft makes -/
def fl (n : Int) : Nat := FloatKind.nearest .f64 n
def fl2 (z : Int × Int) : Nat × Nat := (fl z.1, fl z.2)
def mkN (form : Int) : Nat := 3 + (form / 4 % 6).toNat
def mkEnds (form : Int) : List Ed :=
  if form % 4 = 0 then (List.range (mkN form)).map fun (i : Nat) => (⟨(i : Int), ((i + 1 : Nat) : Int)⟩ : Ed)
  else if form % 4 = 1 then [⟨0, 1⟩, ⟨1, 2⟩, ⟨3, 1⟩]
  else if form % 4 = 2 then [⟨0, 1⟩, ⟨1, 2⟩, ⟨2, 3⟩, ⟨2, 4⟩, ⟨5, 3⟩, ⟨4, 5⟩, ⟨5, 6⟩, ⟨6, 7⟩]
  else [⟨0, 1⟩, ⟨2, 1⟩, ⟨2, 3⟩, ⟨2, 4⟩, ⟨3, 5⟩, ⟨4, 6⟩]
def mkPts (form : Int) : List Pt :=
  if form % 4 = 0 then []
  else if form % 4 = 1 then [⟨1, 0, 1, 2⟩]
  else if form % 4 = 2 then [⟨2, 1, 2, 3⟩, ⟨5, 6, 4, 5⟩]
  else [⟨2, 1, 3, 2⟩]
def mkXY (form u : Int) : List (Int × Int) :=
  if form % 4 = 0 then (List.range (mkN form + 1)).map fun (i : Nat) => (u * (i : Int), (0 : Int))
  else if form % 4 = 1 then [(0, 0), (u, 0), (2 * u, u), (2 * u, -u)]
  else if form % 4 = 2 then [(0, 0), (u, 0), (2 * u, 0), (3 * u, u / 2), (3 * u, -(u / 2)), (4 * u, 0), (5 * u, 0), (6 * u, 0)]
  else [(0, 0), (u, 0), (2 * u, 0), (3 * u, u), (3 * u, -u), (4 * u, u), (4 * u, -u)]
def mkSecs (u : Int) : Nat → List Ed → List Sec
  | _, [] => []
  | i, x :: r => ⟨2 * u + (i % 3 : Nat), x.s, x.e⟩ :: mkSecs u (i + 1) r
/-- A number more in the last list. -/
def addLast (i : Int) : List (List Int) → List (List Int)
  | [] => []
  | [l] => [l ++ [i]]
  | l :: r => l :: addLast i r
def joinAt (join : Int) (i : Nat) : Bool := decide (0 < i) && decide (join / 2 ^ (i % 8) % 2 = 1)
def mkParts (join : Int) : Nat → Nat → List (List Int) → List (List Int)
  | _, 0, acc => acc
  | i, n + 1, acc => mkParts join (i + 1) n (if joinAt join i then addLast i acc else acc ++ [[(i : Int)]])
def unitOf (len : Int) : Int := 10 * (1 + len % 20)
def make (d : Draft) : Lay where
  nodes := (mkXY d.form (unitOf d.len)).map fl2
  secs := mkSecs (unitOf d.len) 0 (mkEnds d.form)
  parts := mkParts d.join 0 (mkEnds d.form).length []
  pts := mkPts d.form
  routes := []
  speed := 1 + d.speed % (2 * unitOf d.len)
  mute := 1 + d.mute % 1000
  wait := 1 + d.wait % 1000
  cancel := 1 + d.cancel
  stay := d.stay % 4

/-! ### Its places, as they are reckoned -/
def isC (o : Option CV) (x y : Nat) : Bool := match o with
  | some (.cplx .f64 a b) => Nat.beq a x && Nat.beq b y
  | _ => false
theorem isC_eq {o : Option CV} {x y : Nat} (h : isC o x y = true) : o = some (.cplx .f64 x y) := by
  unfold isC at h
  split at h
  · simp only [Bool.and_eq_true, Nat.beq_eq] at h
    rw [h.1, h.2]
  · cases h
def okMul (u : Int) (C : Nat) (c : Int) : Bool := isC (binC .mul .ifc (.cplx .f64 C 0) (.cplx .f64 (fl u) 0)) (fl (c * u)) 0
def okAdd (a b : Int) : Bool := isC (binC .add .ifc (.cplx .f64 (fl a) 0) (.cplx .f64 0 (fl b))) (fl a) (fl b) && isC (binC .sub .ifc (.cplx .f64 (fl a) 0) (.cplx .f64 0 (fl b))) (fl a) (fl (-b))
def okU (u : Int) : Bool :=
  okMul u 4611686018427387904 2 && okMul u 4613937818241073152 3 && okMul u 4616189618054758400 4 && okMul u 4617315517961601024 5 && okMul u 4618441417868443648 6 &&
  okAdd (2 * u) u && okAdd (3 * u) u && okAdd (4 * u) u && okAdd (3 * u) (u / 2) &&
  isC (binC .quo .ifc (.cplx .f64 0 (fl u)) (.cplx .f64 4611686018427387904 0)) 0 (fl (u / 2))
theorem okUs : ((List.range 20).all fun k => okU (10 * (1 + (k : Int)))) = true := by kernel_rfl
theorem fl_zero : fl 0 = 0 := by kernel_rfl

/-- A slice that may be nil. -/
def nz {α : Type} (f : α → List CV) (l : List α) : CV := match l with
  | [] => .nils
  | l => sl f l
theorem snapV_nz {α : Type} (f : α → List CV) (l : List α) (H : Heap) (g : CV → Option CV) : snapV H false false g (nz f l) = some (sl f l) := by
  cases l <;> rfl
theorem locv_nz {α : Type} (f : α → List CV) (l : List α) : (nz f l).locv = false := by cases l <;> rfl
theorem one_nz {α : Type} (f : α → List CV) (l : List α) : (nz f l).one = true := by cases l <;> rfl
theorem und_nz {α : Type} (f : α → List CV) (l : List α) : (nz f l).und? = false := by cases l <;> rfl
theorem cells_nz {α : Type} (f : α → List CV) (l : List α) : (nz f l).cells = [nz f l] := by cases l <;> rfl
theorem ref_nz {α : Type} (f : α → List CV) (l : List α) : (nz f l).ref = false := by cases l <;> rfl
theorem lenC_nz {α : Type} (f : α → List CV) (l : List α) : lenC (nz f l) = some (.int .i64 l.length) := by cases l <;> rfl

/-- The ways that a draft tells. -/
def wayOf (l : Lay) (x : List Int) : List Int := walk l (x.headD 0 % l.secs.length) (x.headD 0 / 128) (x.drop 2) ((2 + (x.drop 1).headD 0 % 5).toNat : Nat)
def fullFrom (l : Lay) : List (List Int) → List (List Int) → List (List Int)
  | [], acc => acc
  | x :: r, acc => if 16 ≤ acc.length then acc else fullFrom l r (if 2 ≤ x.length ∧ 2 ≤ (wayOf l x).length then acc ++ [wayOf l x] else acc)
def full (d : Draft) : Lay := { make d with routes := fullFrom (make d) d.routes [] }
theorem around_routes (l : Lay) (r : List (List Int)) (x : Ed) : around { l with routes := r } x = around l x := rfl
theorem walkFrom_routes (l : Lay) (r : List (List Int)) (turns : List Int) : ∀ (n i : Nat) (out : List Int) (x : Ed), walkFrom { l with routes := r } turns n i out x = walkFrom l turns n i out x
  | 0, _, _, _ => rfl
  | n + 1, i, out, x => by
    simp only [walkFrom, around_routes, walkFrom_routes l r turns n]
theorem walk_routes (l : Lay) (r : List (List Int)) (s e : Int) (turns : List Int) (m : Int) : walk { l with routes := r } s e turns m = walk l s e turns m := walkFrom_routes l r turns _ _ _ _
theorem walkFrom_len (l : Lay) (turns : List Int) : ∀ (n i : Nat) (out : List Int) (x : Ed), (walkFrom l turns n i out x).length ≤ out.length + n
  | 0, _, _, _ => by simp [walkFrom]
  | n + 1, i, out, x => by
    simp only [walkFrom]
    split
    · omega
    · rename_i y _
      split
      · omega
      · have := walkFrom_len l turns n (i + 1) (out ++ [y.s]) ⟨y.s, 1 - y.e⟩
        simp only [List.length_append, List.length_cons, List.length_nil] at this
        omega
theorem walk_len (l : Lay) (s e : Int) (turns : List Int) (m : Nat) : (walk l s e turns m).length ≤ 1 + m := by
  have := walkFrom_len l turns ((m : Int) - 1).toNat 0 [s] ⟨s, e⟩
  simp only [List.length_cons, List.length_nil] at this
  unfold walk; omega
theorem fullFrom_ok (l : Lay) : ∀ (r acc : List (List Int)), acc.length ≤ 16 → (∀ p ∈ acc, p.length ≤ 7) → (fullFrom l r acc).length ≤ 16 ∧ ∀ p ∈ fullFrom l r acc, p.length ≤ 7
  | [], acc, h, h' => ⟨h, h'⟩
  | x :: r, acc, h, h' => by
    simp only [fullFrom]
    split
    · exact ⟨h, h'⟩
    · refine fullFrom_ok l r _ ?_ ?_
      · split
        · simp; omega
        · exact h
      · split
        · intro p hp
          rcases List.mem_append.1 hp with hp | hp
          · exact h' p hp
          · simp only [List.mem_singleton] at hp
            subst hp
            have := walk_len l (x.headD 0 % l.secs.length) (x.headD 0 / 128) (x.drop 2) (2 + (x.drop 1).headD 0 % 5).toNat
            unfold wayOf
            omega
        · exact h'
def Draft.small (d : Draft) : Bool := (d.routes.all fun r => decide (r.length ≤ 10)) && decide (d.routes.length ≤ 20)

/-! ### Numbers, rising -/
def gtO : Option Int → Int → Bool
  | none, _ => true
  | some y, x => decide (y < x)
def minO : List Int → Option Int
  | [] => none
  | x :: r => match minO r with
    | none => some x
    | some y => some (if x ≤ y then x else y)
theorem minO_some {l : List Int} {m : Int} : minO l = some m ↔ m ∈ l ∧ ∀ y ∈ l, m ≤ y := by
  induction l generalizing m with
  | nil => simp [minO]
  | cons x r ih =>
    simp only [minO]
    cases h : minO r with
    | none =>
      have hr : r = [] := by
        cases r with
        | nil => rfl
        | cons a r => simp only [minO] at h; split at h <;> cases h
      subst hr
      simp only [Option.some.injEq, List.mem_singleton, forall_eq]
      constructor
      · rintro rfl; exact ⟨rfl, Int.le_refl _⟩
      · rintro ⟨h, _⟩; exact h.symm
    | some y =>
      obtain ⟨h1, h2⟩ := ih.1 h
      simp only [Option.some.injEq, List.mem_cons, forall_eq_or_imp]
      constructor
      · rintro rfl
        split
        · exact ⟨.inl rfl, Int.le_refl _, fun z hz => by have := h2 z hz; omega⟩
        · exact ⟨.inr h1, by omega, h2⟩
      · rintro ⟨h3, h4, h5⟩
        have := h5 y h1
        rcases h3 with rfl | h3
        · rw [if_pos this]
        · have := h2 m h3
          split <;> omega
theorem minO_none {l : List Int} : minO l = none ↔ l = [] := by
  cases l with
  | nil => simp [minO]
  | cons x r => simp only [minO]; split <;> simp
def riseN (l : List Int) : Nat → Option Int → List Int
  | 0, _ => []
  | n + 1, last => match minO (l.filter (gtO last)) with
    | none => []
    | some x => x :: riseN l n (some x)
def rise (l : List Int) : List Int := riseN l l.length none

theorem filter_gt {l : List Int} {last : Option Int} {x : Int} (hx : minO (l.filter (gtO last)) = some x) : (l.filter (gtO (some x))).length < (l.filter (gtO last)).length := by
  obtain ⟨h1, h2⟩ := minO_some.1 hx
  obtain ⟨h3, h4⟩ := List.mem_filter.1 h1
  have hsub : ∀ y, gtO (some x) y = true → gtO last y = true := by
    intro y hy
    cases last with
    | none => rfl
    | some z => simp only [gtO, decide_eq_true_eq] at hy h4 ⊢; omega
  have : l.filter (gtO (some x)) = (l.filter (gtO last)).filter (gtO (some x)) := by
    rw [List.filter_filter]
    congr 1
    funext y
    by_cases hy : gtO (some x) y = true
    · simp [hy, hsub y hy]
    · simp [hy]
  rw [this]
  refine List.length_filter_lt_length_iff_exists.2 ⟨x, h1, ?_⟩
  simp [gtO]

theorem riseN_spec (l : List Int) : ∀ (n : Nat) (last : Option Int), (l.filter (gtO last)).length ≤ n → (∀ y, y ∈ riseN l n last ↔ y ∈ l ∧ gtO last y = true) ∧ (riseN l n last).Pairwise (· < ·)
  | 0, last, h => by
    have : l.filter (gtO last) = [] := List.eq_nil_of_length_eq_zero (by omega)
    refine ⟨fun y => ?_, by simp [riseN]⟩
    simp only [riseN, List.not_mem_nil, false_iff]
    intro hy
    have := this ▸ List.mem_filter.2 hy
    simp at this
  | n + 1, last, h => by
    simp only [riseN]
    cases hm : minO (l.filter (gtO last)) with
    | none =>
      have := minO_none.1 hm
      refine ⟨fun y => ?_, by simp⟩
      simp only [List.not_mem_nil, false_iff]
      intro hy
      have := this ▸ List.mem_filter.2 hy
      simp at this
    | some x =>
      have hlt := filter_gt hm
      obtain ⟨h1, h2⟩ := minO_some.1 hm
      obtain ⟨h3, h4⟩ := List.mem_filter.1 h1
      obtain ⟨i1, i2⟩ := riseN_spec l n (some x) (by omega)
      refine ⟨fun y => ?_, ?_⟩
      · simp only [List.mem_cons, i1]
        constructor
        · rintro (rfl | ⟨h5, h6⟩)
          · exact ⟨h3, h4⟩
          · refine ⟨h5, ?_⟩
            cases last with
            | none => rfl
            | some z => simp only [gtO, decide_eq_true_eq] at h6 h4 ⊢; omega
        · rintro ⟨h5, h6⟩
          have := h2 y (List.mem_filter.2 ⟨h5, h6⟩)
          by_cases hxy : y = x
          · exact .inl hxy
          · right; exact ⟨h5, by simp only [gtO, decide_eq_true_eq]; omega⟩
      · rw [List.pairwise_cons]
        refine ⟨fun y hy => ?_, i2⟩
        have := (i1 y).1 hy
        simpa [gtO] using this.2
theorem rise_mem (l : List Int) (y : Int) : y ∈ rise l ↔ y ∈ l := by
  have := (riseN_spec l l.length none (List.length_filter_le _ _)).1 y
  simpa [rise, gtO] using this
theorem rise_sorted (l : List Int) : (rise l).Pairwise (· < ·) := (riseN_spec l l.length none (List.length_filter_le _ _)).2
theorem rise_nodup (l : List Int) : (rise l).Nodup := (rise_sorted l).imp fun h => by omega
theorem nodup_le {α : Type} : ∀ {a b : List α}, a.Nodup → (∀ x ∈ a, x ∈ b) → a.length ≤ b.length
  | [], _, _, _ => Nat.zero_le _
  | x :: a, b, hn, hs => by
    obtain ⟨b1, b2, rfl⟩ := List.append_of_mem (hs x (by simp))
    have h1 := List.nodup_cons.1 hn
    have := nodup_le (b := b1 ++ b2) h1.2 (fun y hy => by
      have := hs y (by simp [hy])
      simp only [List.mem_append, List.mem_cons] at this ⊢
      rcases this with h | rfl | h
      · exact .inl h
      · exact (h1.1 hy).elim
      · exact .inr h)
    simp only [List.length_append, List.length_cons] at this ⊢
    omega
theorem rise_len (l : List Int) : (rise l).length = l.length ↔ l.Nodup := by
  constructor
  · intro h
    induction l with
    | nil => simp
    | cons x r ih =>
      by_cases hx : x ∈ r
      · have := nodup_le (rise_nodup (x :: r)) (b := r) (fun y hy => by
          rcases List.mem_cons.1 ((rise_mem _ y).1 hy) with rfl | h
          · exact hx
          · exact h)
        simp at h; omega
      · refine List.nodup_cons.2 ⟨hx, ih ?_⟩
        have h1 := nodup_le (rise_nodup r) (b := r) fun y hy => (rise_mem _ y).1 hy
        have h2 := nodup_le (rise_nodup (x :: r)) (b := x :: rise r) (fun y hy => by
          rcases List.mem_cons.1 ((rise_mem _ y).1 hy) with rfl | h
          · simp
          · simp [(rise_mem r y).2 h])
        simp only [List.length_cons] at h h2
        omega
  · intro h
    have h1 := nodup_le (rise_nodup l) (b := l) fun y hy => (rise_mem _ y).1 hy
    have h2 := nodup_le h (b := rise l) fun y hy => (rise_mem _ y).2 hy
    omega

/-! ### Acts -/
structure Deed where
  act : Int
  train : Int
  ticks : Int
  from' : Int
  turns : List Int
  ahead : Int
  whole : Bool
  most : Int
abbrev actC (a : Deed) : List CV := [.int .u8 a.act, .int .u8 a.train, .int .u8 a.ticks, .int .u8 a.from', sl fU a.turns, .int .u16 a.ahead, .bool a.whole, .int .u8 a.most]
structure Deed.ok (a : Deed) : Prop where
  train : 0 ≤ a.train ∧ a.train ≤ 255
  from' : 0 ≤ a.from' ∧ a.from' ≤ 255
  turns : a.turns.length ≤ maxLen
  turn : ∀ t ∈ a.turns, 0 ≤ t ∧ t ≤ 255
  ahead : 0 ≤ a.ahead ∧ a.ahead ≤ 65535
  most : 0 ≤ a.most ∧ a.most ≤ 255
/-- A track with sections of some length. -/
structure Lay.good (l : Lay) : Prop where
  ok : l.ok
  pos : 0 < l.secs.length
  len : ∀ s ∈ l.secs, 1 ≤ s.len ∧ s.len ≤ 1000
theorem Lay.good.lenAt {l : Lay} (h : l.good) {s : Int} (h0 : 0 ≤ s) (h1 : s < l.secs.length) : 1 ≤ Zc.lenAt l s ∧ Zc.lenAt l s ≤ 1000 := by
  obtain ⟨n, rfl⟩ := Int.eq_ofNat_of_zero_le h0
  have hn : n < l.secs.length := by omega
  have : Zc.lenAt l n = l.secs[n].len := by simp [Zc.lenAt, List.getElem?_eq_getElem hn]
  rw [this]
  exact h.len _ (List.getElem_mem hn)
theorem walkFrom_head (l : Lay) (turns : List Int) : ∀ (n i : Nat) (s : Int) (out : List Int) (x : Ed), ∃ t, walkFrom l turns n i (s :: out) x = s :: t
  | 0, _, s, out, _ => ⟨out, rfl⟩
  | n + 1, i, s, out, x => by
    simp only [walkFrom]
    split
    · exact ⟨out, rfl⟩
    · split
      · exact ⟨out, rfl⟩
      · exact walkFrom_head l turns n (i + 1) s _ _
theorem walk_head (l : Lay) (s e : Int) (turns : List Int) (m : Int) : ∃ t, walk l s e turns m = s :: t := walkFrom_head l turns _ 0 s [] _

/-! ### What is around is there -/
theorem endsFrom_len (at' : Int) : ∀ (i : Nat) (s : List Sec), (endsFrom at' i s).length ≤ 2 * s.length
  | _, [] => by simp [endsFrom]
  | i, x :: s => by
    have := endsFrom_len at' (i + 1) s
    simp only [endsFrom, List.length_append, List.length_cons]
    split <;> split <;> simp <;> omega
theorem ends_len {l : Lay} (hl : l.ok) (at' : Int) : (ends l at').length ≤ 2 * small := by
  have := endsFrom_len at' 0 l.secs
  have := hl.secs
  unfold ends; omega
theorem oneOf_len (l : Lay) (s at' : Int) : (oneOf l s at').length ≤ 1 := by
  unfold oneOf; split <;> simp
theorem around_len (l : Lay) (x : Ed) : (around l x).length ≤ 2 := by
  unfold around
  cases nodeOf l x with
  | none => simp
  | some n =>
    cases hf : l.pts.find? fun p => p.node == n with
    | some p =>
      have h1 := oneOf_len l p.left n
      have h2 := oneOf_len l p.right n
      have h3 := oneOf_len l p.stem n
      simp only [hf]
      split
      · simp; omega
      · split
        · omega
        · simp
    | none =>
      simp only [hf]
      split
      · rename_i h; rw [h]; omega
      · simp

theorem endsFrom_mem {at' : Int} {y : Ed} : ∀ {i : Nat} {s : List Sec}, y ∈ endsFrom at' i s → (i ≤ y.s ∧ y.s < i + s.length) ∧ (y.e = 0 ∨ y.e = 1)
  | _, [], h => by simp [endsFrom] at h
  | i, x :: s, h => by
    simp only [endsFrom, List.mem_append] at h
    rcases h with (h | h) | h
    · split at h
      · simp only [List.mem_singleton] at h; subst h; simp; omega
      · simp at h
    · split at h
      · simp only [List.mem_singleton] at h; subst h; simp; omega
      · simp at h
    · have := endsFrom_mem h
      simp only [List.length_cons]
      omega
theorem ends_mem {l : Lay} {at' : Int} {y : Ed} (h : y ∈ ends l at') : (0 ≤ y.s ∧ y.s < l.secs.length) ∧ (y.e = 0 ∨ y.e = 1) := by
  have := endsFrom_mem h
  omega
theorem oneOf_mem {l : Lay} {s at' : Int} {y : Ed} (h : y ∈ oneOf l s at') : y ∈ ends l at' ∧ y.s = s := by
  unfold oneOf at h
  cases hf : (ends l at').find? fun x => x.s == s with
  | none => simp [hf] at h
  | some x =>
    simp only [hf, List.mem_singleton] at h
    subst h
    exact ⟨List.mem_of_find?_eq_some hf, by simpa using List.find?_some hf⟩
theorem around_mem {l : Lay} {x y : Ed} (h : y ∈ around l x) : ∃ n, y ∈ ends l n := by
  unfold around at h
  cases hn : nodeOf l x with
  | none => simp [hn] at h
  | some n =>
    refine ⟨n, ?_⟩
    simp only [hn] at h
    cases hf : l.pts.find? fun p => p.node == n with
    | some p =>
      simp only [hf] at h
      split at h
      · rcases List.mem_append.1 h with h | h <;> exact (oneOf_mem h).1
      · split at h
        · exact (oneOf_mem h).1
        · simp at h
    | none =>
      simp only [hf] at h
      split at h
      · exact (List.mem_filter.1 h).1
      · simp at h
theorem around_in {l : Lay} {x y : Ed} (h : y ∈ around l x) : (0 ≤ y.s ∧ y.s < l.secs.length) ∧ (y.e = 0 ∨ y.e = 1) := by
  obtain ⟨n, h⟩ := around_mem h
  exact ends_mem h

end Go.Zc
end
section
namespace Go.Zc

/-! ### Ends alone tell what is around -/
def endsG (at' : Int) : Nat → List Ed → List Ed
  | _, [] => []
  | i, s :: r => (if s.s = at' then [⟨i, 0⟩] else []) ++ (if s.e = at' then [⟨i, 1⟩] else []) ++ endsG at' (i + 1) r
def nodeG (E : List Ed) (x : Ed) : Option Int := (if 0 ≤ x.s then E[x.s.toNat]? else none).bind fun s => if x.e = 0 then some s.s else if x.e = 1 then some s.e else none
def oneG (E : List Ed) (sec at' : Int) : List Ed := match (endsG at' 0 E).find? fun x => x.s == sec with
  | some x => [x]
  | none => []
def aroundG (E : List Ed) (pts : List Pt) (x : Ed) : List Ed :=
  match nodeG E x with
  | none => []
  | some n =>
    match pts.find? fun p => p.node == n with
    | some p => if x.s = p.stem then oneG E p.left n ++ oneG E p.right n else if x.s = p.left ∨ x.s = p.right then oneG E p.stem n else []
    | none => if ((endsG n 0 E).filter fun y => y ≠ x).length = 1 then (endsG n 0 E).filter fun y => y ≠ x else []

theorem ends_mk (u at' : Int) : ∀ (i j : Nat) (E : List Ed), endsFrom at' i (mkSecs u j E) = endsG at' i E
  | _, _, [] => rfl
  | i, j, x :: E => by simp only [mkSecs, endsFrom, endsG, ends_mk u at' (i + 1) (j + 1) E]
theorem mkSecs_get (u : Int) : ∀ (E : List Ed) (j n : Nat), (mkSecs u j E)[n]? = E[n]?.map fun x => ⟨2 * u + ((j + n) % 3 : Nat), x.s, x.e⟩
  | [], _, _ => by simp [mkSecs]
  | x :: E, j, 0 => by simp [mkSecs]
  | x :: E, j, n + 1 => by
    simp only [mkSecs, List.getElem?_cons_succ, mkSecs_get u E (j + 1) n]
    rw [show j + 1 + n = j + (n + 1) by omega]
theorem around_mk (l : Lay) (u : Int) (E : List Ed) (h : l.secs = mkSecs u 0 E) (x : Ed) : around l x = aroundG E l.pts x := by
  have hn : nodeOf l x = nodeG E x := by
    unfold nodeOf nodeG
    rw [h]
    split
    · rw [mkSecs_get]
      cases E[x.s.toNat]? <;> rfl
    · rfl
  have he : ∀ n, ends l n = endsG n 0 E := fun n => by unfold ends; rw [h, ends_mk]
  have ho : ∀ s n, oneOf l s n = oneG E s n := fun s n => by unfold oneOf oneG; rw [he] <;> (cases (endsG n 0 E).find? (fun x => x.s == s) <;> rfl)
  unfold around aroundG
  rw [hn]
  cases hG : nodeG E x with
  | none => first | rfl | simp only [he, ho]
  | some n =>
    simp only [he, ho] <;> (cases l.pts.find? (fun p => p.node == n) <;> rfl)

/-! ### The nine tracks -/
def shapes : List (List Ed × List Pt) := [0, 4, 8, 12, 16, 20, 1, 2, 3].map fun f => (mkEnds f, mkPts f)
theorem shape_mem (form : Int) : (mkEnds form, mkPts form) ∈ shapes := by
  have h4 : form % 4 = 0 ∨ form % 4 = 1 ∨ form % 4 = 2 ∨ form % 4 = 3 := by omega
  rcases h4 with h | h | h | h
  · have h6 : form / 4 % 6 = 0 ∨ form / 4 % 6 = 1 ∨ form / 4 % 6 = 2 ∨ form / 4 % 6 = 3 ∨ form / 4 % 6 = 4 ∨ form / 4 % 6 = 5 := by omega
    have hp : mkPts form = mkPts 0 := by simp [mkPts, h]
    have he : ∀ k : Int, form / 4 % 6 = k → mkEnds form = (List.range (3 + k.toNat)).map fun (i : Nat) => (⟨(i : Int), ((i + 1 : Nat) : Int)⟩ : Ed) := by
      intro k hk; simp [mkEnds, h, mkN, hk]
    rcases h6 with k | k | k | k | k | k <;> (rw [he _ k, hp]; decide)
  · have : mkEnds form = mkEnds 1 ∧ mkPts form = mkPts 1 := by simp [mkEnds, mkPts, h]
    rw [this.1, this.2]; decide
  · have : mkEnds form = mkEnds 2 ∧ mkPts form = mkPts 2 := by simp [mkEnds, mkPts, h]
    rw [this.1, this.2]; decide
  · have : mkEnds form = mkEnds 3 ∧ mkPts form = mkPts 3 := by simp [mkEnds, mkPts, h]
    rw [this.1, this.2]; decide

/-- Of all ends that there are. -/
def allEnds (E : List Ed) (p : Ed → Bool) : Bool := (List.range E.length).all fun s => p ⟨s, 0⟩ && p ⟨s, 1⟩
theorem allEnds_of {E : List Ed} {p : Ed → Bool} (h : allEnds E p = true) {x : Ed} (hx : nodeG E x ≠ none) : p x = true := by
  obtain ⟨s, e⟩ := x
  unfold nodeG at hx
  simp only at hx
  split at hx
  · rename_i h0
    obtain ⟨n, rfl⟩ := Int.eq_ofNat_of_zero_le h0
    simp only [Int.toNat_natCast] at hx
    by_cases hn : n < E.length
    · have := List.all_eq_true.1 h n (List.mem_range.2 hn)
      rw [Bool.and_eq_true] at this
      rw [List.getElem?_eq_getElem hn] at hx
      simp only [Option.bind_some] at hx
      by_cases h1 : e = 0
      · subst h1; exact this.1
      · by_cases h2 : e = 1
        · subst h2; exact this.2
        · simp [h1, h2] at hx
    · simp [List.getElem?_eq_none (Nat.le_of_not_lt hn)] at hx
  · simp at hx

/-- No section stands twice around an end. -/
def apart (E : List Ed) (pts : List Pt) : Bool := allEnds E fun x => (aroundG E pts x).all fun y => decide ((aroundG E pts x).find? (fun z => z.s == y.s) = some y)
theorem apart_all : shapes.all (fun S => apart S.1 S.2) = true := by kernel_rfl
theorem make_secs (d : Draft) : (full d).secs = mkSecs (unitOf d.len) 0 (mkEnds d.form) := rfl
theorem make_pts (d : Draft) : (full d).pts = mkPts d.form := rfl
theorem full_around (d : Draft) (x : Ed) : around (full d) x = aroundG (mkEnds d.form) (mkPts d.form) x := around_mk _ _ _ (make_secs d) x
theorem full_apart (d : Draft) (x y : Ed) (h : y ∈ around (full d) x) : (around (full d) x).find? (fun z => z.s == y.s) = some y := by
  rw [full_around] at h ⊢
  have h1 := List.all_eq_true.1 apart_all _ (shape_mem d.form)
  have hx : nodeG (mkEnds d.form) x ≠ none := by
    intro h0
    simp [aroundG, h0] at h
  have h2 := allEnds_of h1 hx
  have h3 := List.all_eq_true.1 h2 y h
  exact of_decide_eq_true h3

/-! ### A way is one -/
theorem walk_follows {l : Lay} (hap : ∀ x y, y ∈ around l x → (around l x).find? (fun z => z.s == y.s) = some y) (hin : ∀ x y, y ∈ around l x → lenAt l y.s ≠ 0) (turns : List Int) : ∀ (n i : Nat) (out : List Int) (x : Ed), out.Nodup →
    ∃ t, walkFrom l turns n i out x = out ++ t ∧ (out ++ t).Nodup ∧ (∀ s ∈ t, lenAt l s ≠ 0) ∧
      ∀ F : Ed → List Int → Bool, (∀ e, F e [] = true) → (∀ e s r, F e (s :: r) = match (around l e).find? fun x => x.s == s with | some y => F ⟨s, 1 - y.e⟩ r | none => false) → F x t = true
  | 0, _, out, x, h => ⟨[], by simp [walkFrom], by simpa using h, by simp, fun F h1 _ => h1 x⟩
  | n + 1, i, out, x, h => by
    simp only [walkFrom]
    cases hy : (around l x)[turn turns i (around l x).length]? with
    | none => exact ⟨[], by simp, by simpa using h, by simp, fun F h1 _ => h1 x⟩
    | some y =>
      have hm := List.mem_of_getElem? hy
      dsimp only
      split
      · exact ⟨[], by simp, by simpa using h, by simp, fun F h1 _ => h1 x⟩
      · rename_i hno
        obtain ⟨t, h1, h2, h3, h4⟩ := walk_follows hap hin turns n (i + 1) (out ++ [y.s]) ⟨y.s, 1 - y.e⟩ (by
          rw [List.nodup_append]
          refine ⟨h, by simp, fun a ha b hb => ?_⟩
          simp only [List.mem_singleton] at hb
          subst hb
          intro e
          exact hno (e ▸ ha))
        refine ⟨y.s :: t, by rw [h1]; simp, by simpa using h2, fun s hs => ?_, fun F f1 f2 => ?_⟩
        · rcases List.mem_cons.1 hs with rfl | hs
          · exact hin x y hm
          · exact h3 s hs
        · rw [f2, hap x y hm]
          exact h4 F f1 f2
theorem full_good (d : Draft) (hok : (full d).ok) : (full d).good := by
  refine ⟨hok, ?_, fun s hs => ?_⟩
  · rw [make_secs]
    have h1 := mkSecs_get (unitOf d.len) (mkEnds d.form) 0 0
    have hne : ∃ x, (mkEnds d.form)[0]? = some x := by
      have : 0 < (mkEnds d.form).length := by
        unfold mkEnds
        split
        · simp [mkN]; omega
        · split
          · simp
          · split <;> simp
      exact ⟨_, List.getElem?_eq_getElem this⟩
    obtain ⟨x, hx⟩ := hne
    rw [hx] at h1
    exact (List.getElem?_eq_some_iff.1 h1).1
  · rw [make_secs] at hs
    obtain ⟨n, hn, rfl⟩ := List.mem_iff_getElem.1 hs
    have h1 := mkSecs_get (unitOf d.len) (mkEnds d.form) 0 n
    rw [List.getElem?_eq_getElem hn] at h1
    cases hE : (mkEnds d.form)[n]? with
    | none => rw [hE] at h1; cases h1
    | some x =>
      rw [hE] at h1
      simp only [Option.map_some, Option.some.injEq] at h1
      rw [h1]
      have hu : unitOf d.len = 10 * (1 + d.len % 20) := rfl
      simp only
      omega
end Go.Zc
end
section
namespace Go.Zc

theorem wf_u8 {n : Int} (h : (Lit.int .u8 n).wf = true) : 0 ≤ n ∧ n ≤ 255 := by
  simp only [Lit.wf, Bool.and_eq_true, decide_eq_true_eq] at h
  exact h
theorem wf_u16 {n : Int} (h : (Lit.int .u16 n).wf = true) : 0 ≤ n ∧ n ≤ 65535 := by
  simp only [Lit.wf, Bool.and_eq_true, decide_eq_true_eq] at h
  exact h
theorem wf_i64 {n : Int} (h : (Lit.int .i64 n).wf = true) : -9223372036854775808 ≤ n ∧ n ≤ 9223372036854775807 := by
  simp only [Lit.wf, Bool.and_eq_true, decide_eq_true_eq] at h
  exact h

theorem rows_of {α : Type} {f : α → List CV} {Q : α → Prop} {T : Ty} (h : ∀ r, HasTy T r → ∃ x, r = f x ∧ Q x) : ∀ rows : List (List CV), (∀ r ∈ rows, HasTy T r) → ∃ l : List α, rows = l.map f ∧ ∀ x ∈ l, Q x
  | [], _ => ⟨[], rfl, by simp⟩
  | r :: rows, hr => by
    obtain ⟨x, rfl, hx⟩ := h r (hr r (by simp))
    obtain ⟨l, rfl, hl⟩ := rows_of h rows fun r' h' => hr r' (by simp [h'])
    exact ⟨x :: l, rfl, fun y hy => by
      rcases List.mem_cons.1 hy with rfl | hy
      · exact hx
      · exact hl y hy⟩
theorem slice_of {α : Type} {f : α → List CV} {Q : α → Prop} {T : Ty} (h : ∀ r, HasTy T r → ∃ x, r = f x ∧ Q x) {cs : List CV} (hs : HasTy (.slice T) cs) : ∃ l : List α, cs = [sl f l] ∧ l.length ≤ maxLen ∧ ∀ x ∈ l, Q x := by
  simp only [HasTy] at hs
  obtain ⟨rows, rfl, hm, hr⟩ := hs
  obtain ⟨l, rfl, hl⟩ := rows_of h rows hr
  exact ⟨l, by simp [sl, List.flatMap], by simpa using hm, hl⟩

theorem u8_of (r : List CV) (h : HasTy (.int .u8) r) : ∃ x : Int, r = fU x ∧ (0 ≤ x ∧ x ≤ 255) := by
  simp only [HasTy] at h
  obtain ⟨n, rfl, hw⟩ := h
  exact ⟨n, rfl, wf_u8 hw⟩
theorem u16_of (r : List CV) (h : HasTy (.int .u16) r) : ∃ x : Int, r = [.int .u16 x] ∧ (0 ≤ x ∧ x ≤ 65535) := by
  simp only [HasTy] at h
  obtain ⟨n, rfl, hw⟩ := h
  exact ⟨n, rfl, wf_u16 hw⟩
theorem i64_of (r : List CV) (h : HasTy (.int .i64) r) : ∃ x : Int, r = fI x ∧ (-9223372036854775808 ≤ x ∧ x ≤ 9223372036854775807) := by
  simp only [HasTy] at h
  obtain ⟨n, rfl, hw⟩ := h
  exact ⟨n, rfl, wf_i64 hw⟩
theorem bool_of (r : List CV) (h : HasTy .bool r) : ∃ x : Bool, r = fB x ∧ True := by
  simp only [HasTy] at h
  obtain ⟨n, rfl⟩ := h
  exact ⟨n, rfl, trivial⟩
theorem u8s_of (r : List CV) (h : HasTy (.slice (.int .u8)) r) : ∃ l : List Int, r = fUL l ∧ (l.length ≤ maxLen ∧ ∀ t ∈ l, 0 ≤ t ∧ t ≤ 255) := by
  obtain ⟨l, h1, h2, h3⟩ := slice_of u8_of h
  exact ⟨l, h1, h2, h3⟩

def tDraft : Ty := .struct [.int .u8, .int .u8, .int .u8, .int .u16, .int .u16, .int .u8, .int .u8, .int .u8, .slice (.slice (.int .u8))]
def tDeed : Ty := .struct [.int .u8, .int .u8, .int .u8, .int .u8, .slice (.int .u8), .int .u16, .bool, .int .u8]

theorem draft_of {c : CV} (h : HasArg tDraft c) : ∃ d : Draft, c = .agg (draftC d) ∧ d.ok := by
  obtain ⟨cs, rfl, h⟩ := h
  simp only [HasTys] at h
  obtain ⟨a1, _, rfl, h1, a2, _, rfl, h2, a3, _, rfl, h3, a4, _, rfl, h4, a5, _, rfl, h5, a6, _, rfl, h6, a7, _, rfl, h7, a8, _, rfl, h8, a9, _, rfl, h9, rfl⟩ := h
  obtain ⟨x1, rfl, q1⟩ := u8_of _ h1
  obtain ⟨x2, rfl, q2⟩ := u8_of _ h2
  obtain ⟨x3, rfl, q3⟩ := u8_of _ h3
  obtain ⟨x4, rfl, q4⟩ := u16_of _ h4
  obtain ⟨x5, rfl, q5⟩ := u16_of _ h5
  obtain ⟨x6, rfl, q6⟩ := u8_of _ h6
  obtain ⟨x7, rfl, q7⟩ := u8_of _ h7
  obtain ⟨x8, rfl, q8⟩ := u8_of _ h8
  obtain ⟨l, rfl, hl, hq⟩ := slice_of u8s_of h9
  exact ⟨⟨x1, x2, x3, x4, x5, x6, x7, x8, l⟩, rfl, q1, q2, q3, q4, q5, q6, q7, q8, hl, hq⟩
theorem deed_of {c : CV} (h : HasArg tDeed c) : ∃ a : Deed, c = .agg (actC a) ∧ a.ok := by
  obtain ⟨cs, rfl, h⟩ := h
  simp only [HasTys] at h
  obtain ⟨a1, _, rfl, h1, a2, _, rfl, h2, a3, _, rfl, h3, a4, _, rfl, h4, a5, _, rfl, h5, a6, _, rfl, h6, a7, _, rfl, h7, a8, _, rfl, h8, rfl⟩ := h
  obtain ⟨x1, rfl, q1⟩ := u8_of _ h1
  obtain ⟨x2, rfl, q2⟩ := u8_of _ h2
  obtain ⟨x3, rfl, q3⟩ := u8_of _ h3
  obtain ⟨x4, rfl, q4⟩ := u8_of _ h4
  obtain ⟨l, rfl, hl, hq⟩ := u8s_of _ h5
  obtain ⟨x6, rfl, q6⟩ := u16_of _ h6
  obtain ⟨x7, rfl, _⟩ := bool_of _ h7
  obtain ⟨x8, rfl, q8⟩ := u8_of _ h8
  exact ⟨⟨x1, x2, x3, x4, l, x6, x7, x8⟩, rfl, q2, q4, hl, hq, q6, q8⟩
end Go.Zc
end
section
namespace Go.Zc
open Go.ChangeShapes Go.WideShapes Go.ChangeAt Go.RowKit

theorem take_one {α : Type} : ∀ {c : List α} {i : Nat} {v : α}, (c.drop i).take 1 = [v] → c[i]? = some v := by
  intro c i v h
  have := congrArg (fun l : List α => l[0]?) h
  simpa [List.getElem?_take, List.getElem?_drop] using this

theorem row_cells {P : Program} {W : World} {t1 t2 : TypeId} {m fuel : Nat} (h2 : P.underlying t1 = some (.array m t2)) (h3 : P.underlying t2 = some (.int .u8)) (c2 : P.cellsOf t1 = m) (c3 : P.cellsOf t2 = 1) {sp : Nat → Bool}
    {r : List Int} {c : List Value} {p : List MemPlace} (h : DataW.trod (fun _ => ()) P W 0 sp false fuel t1 c = some (.agg (r.map fun x => .lit (.int .u8 x)), p)) : c = r.map (Value.int .u8) := by
  obtain ⟨xs, k, rfl, hx, hl, hn, hel⟩ := DataW.trod_array h2 h
  simp only [Prod.mk.injEq, DataW.agg.injEq] at hx
  have hr : r.length = m := by have := congrArg List.length hx.1; simpa [hn] using this
  have hl' : c.length = m := by rw [hl, c2]
  refine List.ext_getElem? fun i => ?_
  by_cases hi : i < m
  · have he := hel i hi
    have hxi : xs[i]? = some (xs[i]'(by omega)) := List.getElem?_eq_getElem _
    rw [hxi, c3, Nat.mul_one] at he
    obtain ⟨n, e1, e2, _⟩ := DataW.trod_int h3 he
    have hri := congrArg (fun l : List (DataW Unit) => l[i]?) hx.1
    simp only [List.getElem?_map, hxi, e2, Option.map_some, List.getElem?_eq_getElem (show i < r.length by omega), Option.some.injEq, DataW.lit.injEq, Lit.int.injEq, true_and] at hri
    rw [take_one e1, List.getElem?_map, List.getElem?_eq_getElem (show i < r.length by omega), Option.map_some, hri]
  · rw [List.getElem?_eq_none (by omega), List.getElem?_eq_none (by simp; omega)]

theorem chunks {α β : Type} {f : α → β} {m : Nat} : ∀ (rows : List (List α)) (cs : List β), cs.length = rows.length * m → (∀ i r, rows[i]? = some r → (cs.drop (i * m)).take m = r.map f) → cs = rows.flatMap fun r => r.map f
  | [], cs, h, _ => by simpa using h
  | r :: rows, cs, h, hc => by
    have h0 := hc 0 r rfl
    simp only [Nat.zero_mul, List.drop_zero] at h0
    have ih := chunks (f := f) (m := m) rows (cs.drop m) (by simp only [List.length_drop, h, List.length_cons, Nat.succ_mul]; omega) (fun i r' hr => by
      have := hc (i + 1) r' (by simpa using hr)
      rw [List.drop_drop, show m + i * m = (i + 1) * m by rw [Nat.succ_mul]; omega]
      exact this)
    rw [List.flatMap_cons, ← ih, ← h0, List.take_append_drop]

/-- A table of bytes, as it is laid. -/
theorem laid_table {P : Program} {n : String} {g : Nat} {t t1 t2 : TypeId} {k m : Nat} {rows : List (List Int)} (hg : P.globalNamed n = some g) (ht : (P.globals[g]?).map (·.type) = some t)
    (h1 : P.underlying t = some (.array k t1)) (h2 : P.underlying t1 = some (.array m t2)) (h3 : P.underlying t2 = some (.int .u8)) (c1 : P.cellsOf t = k * m) (c2 : P.cellsOf t1 = m) (c3 : P.cellsOf t2 = 1)
    {W : World} (h : laidMetH P [(n, .agg (rows.map fun r => .agg (r.map fun x => .lit (.int .u8 x))))] W) : g < W.heap.size ∧ ∀ F, BRc W F (rows.flatMap fun r => r.map (CV.int .u8)) g 0 := by
  rw [MakeChecks.laidMetH_plain _ _ _ (by simp [DataW.handleName?])] at h
  obtain ⟨ps, ⟨g0, t0, cs, fuel, p, q, hg0, ht0, hv, hd, _, _⟩, _, _⟩ := h
  obtain rfl := Option.some.inj (hg.symm.trans hg0)
  obtain rfl := Option.some.inj (ht.symm.trans ht0)
  obtain ⟨xs, k', rfl, hx, hl, hn, hel⟩ := DataW.trod_array h1 hd
  simp only [Prod.mk.injEq, DataW.agg.injEq] at hx
  have hr : rows.length = k := by have := congrArg List.length hx.1; simpa [hn] using this
  have hcs : cs.toList = rows.flatMap fun r => r.map (Value.int .u8) := by
    refine chunks (m := m) rows cs.toList (by rw [hl, c1, hr]) fun i r hi => ?_
    have hik : i < k := by have := (List.getElem?_eq_some_iff.1 hi).1; omega
    have he := hel i hik
    have hxi : xs[i]? = some (xs[i]'(by omega)) := List.getElem?_eq_getElem _
    rw [hxi, c2] at he
    have hri := congrArg (fun l : List (DataW Unit) => l[i]?) hx.1
    simp only [List.getElem?_map, hxi, hi, Option.map_some, Option.some.injEq] at hri
    exact row_cells h2 h3 c2 c3 (he.trans (by rw [hri]))
  constructor
  · have hv' := hv
    simp only [World.var?, hg, Option.bind_some] at hv'
    split at hv' <;> (try cases hv')
    rename_i hb
    exact (Array.getElem?_eq_some_iff.1 hb).1
  · intro F
    have hc : ∀ i, W.cell? ⟨g, i, none⟩ = (rows.flatMap fun r => r.map (Value.int .u8))[i]? := fun i => by
      rw [World.var?_cell hg hv i, ← hcs, Array.getElem?_toList]
    have e : (rows.flatMap fun r => r.map (CV.int .u8)) = (rows.flatMap fun r => r).map (CV.int .u8) := by rw [List.map_flatMap]
    have e' : (rows.flatMap fun r => r.map (Value.int .u8)) = (rows.flatMap fun r => r).map (Value.int .u8) := by rw [List.map_flatMap]
    rw [e]
    rw [e'] at hc
    have go : ∀ (l : List Int) (o : Nat), (∀ j x, l[j]? = some x → W.cell? ⟨g, o + j, none⟩ = some (Value.int .u8 x)) → BRc W F (l.map (CV.int .u8)) g o := by
      intro l
      induction l with
      | nil => intro o _; simp [BRc]
      | cons x l ih =>
        intro o hl
        simp only [List.map_cons, BRc]
        refine ⟨⟨_, by simpa using hl 0 x rfl, by simp [BR]⟩, ih (o + 1) fun j y hy => ?_⟩
        have := hl (j + 1) y (by simpa using hy)
        rwa [show o + (j + 1) = o + 1 + j by omega] at this
    refine go _ 0 fun j x hj => ?_
    rw [Nat.zero_add, hc j, List.getElem?_map, hj]
    rfl

variable [Globs]
theorem law_laid {C : Checked} {K : Ctx} (hK : CtxOk C.prog K) {f : FuncId} {fn : Func} {s : ChangeSpec} {n : Nat} {Ts : List Ty} {tb : TypeId} {conds : List PathCond} {laid : List (String × DataW Unit)}
    (own : ownKnob C.prog.godebug = none) (laidO : laidOutB C.prog = true) (noInit : C.prog.inits.idxOf? f = none) (hfn : C.prog.funcs[f]? = some fn)
    (hres : fn.resultTypes = #[tb]) (hb : C.prog.underlying tb = some .bool) (hvars : s.vars = []) (hty : argsTy C.prog n fn.params.toList = some Ts)
    (hspec : ∀ (H : Type) (ds : List (DataW H)), ds.length = Ts.length → s.fn H ds = { results := [.lit (.bool true)], args := ds })
    (hgl : ∀ W : World, laidMetH C.prog laid W → GlobOk W (Old W))
    (law : ∀ cs, HasArgs Ts cs → ∃ H', call K (.fn (.func f) [] []) cs ⟨[], []⟩ = some (.bool true, H'))
    (os : Os) (started : os.Started) (H : Type) (enc : TypeId × Value → H)
    (witness : ∃ (w : World) (tape : Tape) (i : Input), w.os = os ∧ (w.forCall tape i).Shaped C.prog ∧ i.vars = [] ∧ Input.okWide C.prog (w.forCall tape i) .any w.heap.size f i ∧
      ((s.pre enc C.prog fn conds false (w.forCall tape i).memory i.args ∧ laidMetH C.prog laid (w.forCall tape i).memory) ∧ sizedMet enc C.prog fn (OpenSpec.ofChange s) false (w.forCall tape i).memory i.args) ∧ ({} : Assume).holds C.prog (lone (Frame.enter C.prog f i.args .normal) [] (w.forCall tape i))) :
    ReturnsInHanded {} C os f .any (fun w args => (s.pre enc C.prog fn conds false w args ∧ laidMetH C.prog laid w) ∧ sizedMet enc C.prog fn (OpenSpec.ofChange s) false w args) (s.post enc C.prog fn false true false false) := by
  refine returnsInHanded_of_change_and (X := fun w _ => laidMetH C.prog laid w) (fun _ _ _ hh h => h.of_heap hh) own started noInit hfn witness ?_
  intro W base args ds gs before hval hW hcnd _ hL _
  have hW' := hW
  obtain ⟨p, q, hA, hV, rfl, hfz, hnd⟩ := hW
  rw [hvars] at hV
  obtain ⟨rfl, rfl⟩ := trodVars_none hV
  have hlen : ds.length = Ts.length := by
    have l1 : ∀ {ts : List TypeId} {vs : List Value} {ds : List (DataW H)} {p : List MemPlace}, DataW.TrodAll enc C.prog W 0 (fun _ => true) true ts vs ds p → ds.length = ts.length := by
      intro ts
      induction ts with
      | nil => intro vs ds p h; obtain ⟨_, rfl, _⟩ := trodAll_nil h; rfl
      | cons t ts ih => intro vs ds p h; obtain ⟨_, _, _, _, _, _, rfl, rfl, rfl, _, hr⟩ := trodAll_cons h; simp [ih hr]
    have l2 : ∀ {ts : List TypeId} {Ts : List Ty}, argsTy C.prog n ts = some Ts → Ts.length = ts.length := by
      intro ts
      induction ts with
      | nil => intro Ts h; simp only [argsTy, Option.some.injEq] at h; subst h; rfl
      | cons t ts ih =>
        intro Ts h
        simp only [argsTy, Option.bind_eq_some_iff, Option.map_eq_some_iff] at h
        obtain ⟨T, _, Ts', hTs, rfl⟩ := h
        simp [ih hTs]
    rw [l1 hA, l2 hty]
  obtain ⟨cs, hcs, hargs⟩ := open_args hty (fun j t v a b => hval j t v (by simpa using a) (by simpa using b)) hA
  obtain ⟨H', hcall⟩ := law cs hargs
  refine (calls_of_call hK hcall (hgl W hL) hcs).mono ?_
  rintro e W' ⟨F', ι', v', rfl, hv, bel⟩
  simp only [VR, BR] at hv
  subst hv
  refine ⟨_, rfl, ds, [], _, [], p, [], hW', ?_, ?_, ?_, bel.frame _, fun h => by cases h⟩
  · rw [List.append_nil, hspec H ds hlen, hres]
    exact trodAll_mk1 (shut_bool hb _)
  · rw [List.append_nil, hspec H ds hlen]
    exact again_args laidO bel hty hA
  · rw [hvars, List.append_nil, hspec H ds hlen]
    rfl

end Go.Zc
end
section
namespace Go.Zc

/-- One more, let down into what stands before it (turned about). -/
def sinkR : List Int → Int → List Int
  | [], x => [x]
  | y :: rp, x => if x < y then sinkR rp x ++ [y] else (y :: rp).reverse ++ [x]
def insAll : List Int → List Int → List Int
  | s, [] => s
  | s, x :: r => insAll (sinkR s.reverse x) r
def isort : List Int → List Int
  | [] => []
  | x :: r => insAll [x] r

theorem sinkR_perm (x : Int) : ∀ rp : List Int, (sinkR rp x).Perm (x :: rp)
  | [] => .refl _
  | y :: rp => by
    simp only [sinkR]
    split
    · exact (List.perm_append_singleton y _).trans (((sinkR_perm x rp).cons y).trans (.swap x y rp))
    · exact (List.perm_append_singleton x _).trans ((List.reverse_perm _).cons x)
theorem sinkR_len (x : Int) (rp : List Int) : (sinkR rp x).length = rp.length + 1 := by
  have := (sinkR_perm x rp).length_eq
  simpa using this
theorem sinkR_sorted (x : Int) : ∀ rp : List Int, rp.reverse.Pairwise (· ≤ ·) → (sinkR rp x).Pairwise (· ≤ ·)
  | [], _ => by simp [sinkR]
  | y :: rp, h => by
    simp only [List.reverse_cons, List.pairwise_append, List.mem_singleton, forall_eq, List.mem_reverse] at h
    simp only [sinkR]
    split
    · rename_i hlt
      rw [List.pairwise_append]
      refine ⟨sinkR_sorted x rp h.1, by simp, fun a ha b hb => ?_⟩
      simp only [List.mem_singleton] at hb
      subst hb
      rcases List.mem_cons.1 ((sinkR_perm x rp).mem_iff.1 ha) with rfl | ha
      · omega
      · exact h.2.2 a ha
    · rename_i hge
      simp only [List.reverse_cons, List.pairwise_append, List.mem_singleton, forall_eq, List.mem_append, List.mem_reverse]
      refine ⟨⟨h.1, by simp, h.2.2⟩, by simp, fun a ha => ?_⟩
      rcases ha with ha | rfl
      · have := h.2.2 a ha; omega
      · omega
theorem insAll_perm : ∀ (r s : List Int), (insAll s r).Perm (s ++ r)
  | [], s => by simp [insAll]
  | x :: r, s => by
    simp only [insAll]
    refine (insAll_perm r _).trans ?_
    have h1 : (sinkR s.reverse x).Perm (s ++ [x]) := (sinkR_perm x s.reverse).trans (((List.reverse_perm s).cons x).trans (List.perm_append_singleton x s).symm)
    have := h1.append_right r
    simpa using this
theorem insAll_sorted : ∀ (r s : List Int), s.Pairwise (· ≤ ·) → (insAll s r).Pairwise (· ≤ ·)
  | [], _, h => h
  | x :: r, s, h => insAll_sorted r _ (sinkR_sorted x s.reverse (by simpa using h))
theorem isort_perm (l : List Int) : (isort l).Perm l := by
  cases l with
  | nil => exact .refl _
  | cons x r => exact insAll_perm r [x]
theorem isort_sorted (l : List Int) : (isort l).Pairwise (· ≤ ·) := by
  cases l with
  | nil => exact .nil
  | cons x r => exact insAll_sorted r [x] (by simp)

/-- Numbers that are alike once, where they stand beside each other. -/
def compact : List Int → List Int
  | [] => []
  | [x] => [x]
  | x :: y :: r => if x = y then compact (y :: r) else x :: compact (y :: r)
theorem compact_head : ∀ (x : Int) (r : List Int), ∃ t, compact (x :: r) = x :: t
  | x, [] => ⟨[], rfl⟩
  | x, y :: r => by
    simp only [compact]
    split
    · rename_i h
      obtain ⟨t, ht⟩ := compact_head y r
      exact ⟨t, by rw [ht, h]⟩
    · exact ⟨_, rfl⟩
theorem compact_mem : ∀ (l : List Int) (z : Int), z ∈ compact l ↔ z ∈ l
  | [], z => by simp [compact]
  | [x], z => by simp [compact]
  | x :: y :: r, z => by
    have ih := compact_mem (y :: r) z
    simp only [compact]
    split
    · rename_i h
      subst h
      rw [ih]; simp
    · rw [List.mem_cons, ih]; simp
theorem compact_sorted : ∀ (l : List Int), l.Pairwise (· ≤ ·) → (compact l).Pairwise (· < ·)
  | [], _ => by simp [compact]
  | [x], _ => by simp [compact]
  | x :: y :: r, h => by
    rw [List.pairwise_cons] at h
    have ih := compact_sorted (y :: r) h.2
    simp only [compact]
    split
    · exact ih
    · rename_i hne
      rw [List.pairwise_cons]
      refine ⟨fun z hz => ?_, ih⟩
      have hz' := (compact_mem (y :: r) z).1 hz
      have h1 := h.1 z hz'
      have h2 := h.1 y (by simp)
      have h3 : y ≤ z := by
        rcases List.mem_cons.1 hz' with rfl | hz'
        · exact Int.le_refl _
        · exact (List.pairwise_cons.1 h.2).1 z hz'
      omega

/-- Rising lists of the same numbers are one. -/
theorem rising_eq : ∀ {a b : List Int}, a.Pairwise (· < ·) → b.Pairwise (· < ·) → (∀ z, z ∈ a ↔ z ∈ b) → a = b
  | [], [], _, _, _ => rfl
  | [], y :: b, _, _, h => by have := (h y).2 (by simp); simp at this
  | x :: a, [], _, _, h => by have := (h x).1 (by simp); simp at this
  | x :: a, y :: b, ha, hb, h => by
    rw [List.pairwise_cons] at ha hb
    have hxy : x = y := by
      rcases List.mem_cons.1 ((h x).1 (by simp)) with h1 | h1
      · exact h1
      · rcases List.mem_cons.1 ((h y).2 (by simp)) with h2 | h2
        · exact h2.symm
        · have := ha.1 y h2; have := hb.1 x h1; omega
    subst hxy
    congr 1
    refine rising_eq ha.2 hb.2 fun z => ?_
    have := h z
    simp only [List.mem_cons] at this
    constructor
    · intro hz
      rcases this.1 (.inr hz) with rfl | h1
      · have := ha.1 z hz; omega
      · exact h1
    · intro hz
      rcases this.2 (.inr hz) with rfl | h1
      · have := hb.1 z hz; omega
      · exact h1
theorem compact_isort (l : List Int) : compact (isort l) = rise l :=
  rising_eq (compact_sorted _ (isort_sorted l)) (rise_sorted l) fun z => by rw [compact_mem, (isort_perm l).mem_iff, rise_mem]
end Go.Zc
end
section
namespace Go.Zc
set_option maxRecDepth 10000

theorem y1 : (type_of% (@Go.Zc.eval_seq)) ∧
  (type_of% (@Go.Zc.eval_frz')) ∧
  (type_of% (@Go.Zc.frzV_op)) ∧
  (type_of% (@Go.Zc.frzG_some)) ∧
  (type_of% (@Go.Zc.kill_blk)) ∧
  (type_of% (@Go.Zc.eval_ops')) ∧
  (type_of% (@Go.Zc.eval_cond)) ∧
  (type_of% (@Go.Zc.eval_block)) ∧
  (type_of% (@Go.Zc.eval_skip)) ∧
  (type_of% (@Go.Zc.eval_ret)) ∧
  (type_of% (@Go.Zc.eval_exit)) ∧
  (type_of% (@Go.Zc.runOps_nil)) ∧
  (type_of% (@Go.Zc.runOps_mov)) ∧
  (type_of% (@Go.Zc.runOps_p)) ∧
  (type_of% (@Go.Zc.runOps_h)) ∧
  (type_of% (@Go.Zc.runOps_hb)) ∧
  (type_of% (@Go.Zc.runOps_hl)) ∧
  (type_of% (@Go.Zc.runOps_call)) ∧
  (type_of% (@Go.Zc.runOps_callb)) ∧
  (type_of% (@Go.Zc.runOps_callp)) ∧
  (type_of% (@Go.Zc.runOps_callv)) ∧
  (type_of% (@Go.Zc.isPre_refl)) ∧
  (type_of% (@Go.Zc.isPre_app)) ∧
  (type_of% (@Go.Zc.runOps_guard)) ∧
  (type_of% (@Go.Zc.guardE_bool)) ∧
  (type_of% (@Go.Zc.guardE_skip)) ∧
  (type_of% (@Go.Zc.restE_mk)) ∧
  (type_of% (@Go.Zc.map_bind_some)) ∧
  (type_of% (@Go.Zc.bind_some')) ∧
  (type_of% (@Go.Zc.bind_none')) ∧
  (type_of% (@Go.Zc.map_some')) ∧
  (type_of% (@Go.Zc.map_none')) ∧
  (type_of% (@Go.Zc.normE_mk)) ∧
  (type_of% (@Go.Zc.thenE_norm)) ∧
  (type_of% (@Go.Zc.thenE_exit)) ∧
  (type_of% (@Go.Zc.thenE_ret)) ∧
  (type_of% (@Go.Zc.outE_norm)) ∧
  (type_of% (@Go.Zc.outE_ret)) ∧
  (type_of% (@Go.Zc.outE_exit)) ∧
  (type_of% (@Go.Zc.fzE_eq)) :=
  ⟨@Go.Zc.eval_seq, @Go.Zc.eval_frz', @Go.Zc.frzV_op, @Go.Zc.frzG_some, @Go.Zc.kill_blk, @Go.Zc.eval_ops', @Go.Zc.eval_cond, @Go.Zc.eval_block, @Go.Zc.eval_skip, @Go.Zc.eval_ret, @Go.Zc.eval_exit, @Go.Zc.runOps_nil, @Go.Zc.runOps_mov, @Go.Zc.runOps_p, @Go.Zc.runOps_h, @Go.Zc.runOps_hb, @Go.Zc.runOps_hl, @Go.Zc.runOps_call, @Go.Zc.runOps_callb, @Go.Zc.runOps_callp, @Go.Zc.runOps_callv, @Go.Zc.isPre_refl, @Go.Zc.isPre_app, @Go.Zc.runOps_guard, @Go.Zc.guardE_bool, @Go.Zc.guardE_skip, @Go.Zc.restE_mk, @Go.Zc.map_bind_some, @Go.Zc.bind_some', @Go.Zc.bind_none', @Go.Zc.map_some', @Go.Zc.map_none', @Go.Zc.normE_mk, @Go.Zc.thenE_norm, @Go.Zc.thenE_exit, @Go.Zc.thenE_ret, @Go.Zc.outE_norm, @Go.Zc.outE_ret, @Go.Zc.outE_exit, @Go.Zc.fzE_eq⟩

theorem y2 : (type_of% (@Go.Zc.fzOut_norm)) ∧
  (type_of% (@Go.Zc.fzOut_ret)) ∧
  (type_of% (@Go.Zc.fzSnap_eq)) ∧
  (type_of% (@Go.Zc.oE_eq)) ∧
  (type_of% (@Go.Zc.ownOut_norm)) ∧
  (type_of% (@Go.Zc.ownOut_ret)) ∧
  (type_of% (@Go.Zc.refOut_norm)) ∧
  (type_of% (@Go.Zc.refOut_ret)) ∧
  (type_of% (@Go.Zc.refSnap_eq)) ∧
  (type_of% (@Go.Zc.condE_bool)) ∧
  (type_of% (@Go.Zc.joinE_none)) ∧
  (type_of% (@Go.Zc.joinE_some)) ∧
  (type_of% (@Go.Zc.bind_ite)) ∧
  (type_of% (@Go.Zc.map_ite)) ∧
  (type_of% (@Go.Zc.at_hit)) ∧
  (type_of% (@Go.Zc.at_miss)) ∧
  (type_of% (@Go.Zc.ev_t)) ∧
  (type_of% (@Go.Zc.ev_c)) ∧
  (type_of% (@Go.Zc.evs_nil)) ∧
  (type_of% (@Go.Zc.evs_cons)) ∧
  (type_of% (@Go.Zc.putD_some)) ∧
  (type_of% (@Go.Zc.putD_none)) ∧
  (type_of% (@Go.Zc.keep_nil)) ∧
  (type_of% (@Go.Zc.keep_cons)) ∧
  (type_of% (@List.all_nil.{0})) ∧
  (type_of% (@List.all_cons.{0})) ∧
  (type_of% (@Go.Zc.chkV_sl)) ∧
  (type_of% (@Go.Zc.chkV_int)) ∧
  (type_of% (@Go.Zc.chkV_bool)) ∧
  (type_of% (@Go.Zc.chkV_loc)) ∧
  (type_of% (@Go.Zc.chkV_blk)) ∧
  (type_of% (@Go.Zc.chkV_agg)) ∧
  (type_of% (@Go.Zc.chkV_tup)) ∧
  (type_of% (@Go.Zc.chkV_vp)) ∧
  (type_of% (@Go.Zc.chkV_vs)) ∧
  (type_of% (@Go.Zc.chkV_os)) ∧
  (type_of% (@Go.Zc.chkV_om)) ∧
  (type_of% (@Go.Zc.chkV_und)) ∧
  (type_of% (@Go.Zc.chkV_nils)) ∧
  (type_of% (@Go.Zc.chkV_nilp)) :=
  ⟨@Go.Zc.fzOut_norm, @Go.Zc.fzOut_ret, @Go.Zc.fzSnap_eq, @Go.Zc.oE_eq, @Go.Zc.ownOut_norm, @Go.Zc.ownOut_ret, @Go.Zc.refOut_norm, @Go.Zc.refOut_ret, @Go.Zc.refSnap_eq, @Go.Zc.condE_bool, @Go.Zc.joinE_none, @Go.Zc.joinE_some, @Go.Zc.bind_ite, @Go.Zc.map_ite, @Go.Zc.at_hit, @Go.Zc.at_miss, @Go.Zc.ev_t, @Go.Zc.ev_c, @Go.Zc.evs_nil, @Go.Zc.evs_cons, @Go.Zc.putD_some, @Go.Zc.putD_none, @Go.Zc.keep_nil, @Go.Zc.keep_cons, @List.all_nil.{0}, @List.all_cons.{0}, @Go.Zc.chkV_sl, @Go.Zc.chkV_int, @Go.Zc.chkV_bool, @Go.Zc.chkV_loc, @Go.Zc.chkV_blk, @Go.Zc.chkV_agg, @Go.Zc.chkV_tup, @Go.Zc.chkV_vp, @Go.Zc.chkV_vs, @Go.Zc.chkV_os, @Go.Zc.chkV_om, @Go.Zc.chkV_und, @Go.Zc.chkV_nils, @Go.Zc.chkV_nilp⟩

theorem y3 : (type_of% (@Go.Zc.chkV_nilm)) ∧
  (type_of% (@Go.Zc.chkV_nilf)) ∧
  (type_of% (@Go.Zc.chkV_nili)) ∧
  (type_of% (@Go.Zc.chkV_float)) ∧
  (type_of% (@Go.Zc.chkV_cplx)) ∧
  (type_of% (@Go.Zc.chkV_str)) ∧
  (type_of% (@Go.Zc.chkV_fn)) ∧
  (type_of% (@Go.Zc.one_int)) ∧
  (type_of% (@Go.Zc.und_int)) ∧
  (type_of% (@Go.Zc.cells_int)) ∧
  (type_of% (@Go.Zc.one_bool)) ∧
  (type_of% (@Go.Zc.und_bool)) ∧
  (type_of% (@Go.Zc.cells_bool)) ∧
  (type_of% (@Go.Zc.one_op)) ∧
  (type_of% (@Go.Zc.und_op)) ∧
  (type_of% (@Go.Zc.cells_op)) ∧
  (type_of% (@Go.Zc.one_vp)) ∧
  (type_of% (@Go.Zc.und_vp)) ∧
  (type_of% (@Go.Zc.cells_vp)) ∧
  (type_of% (@Go.Zc.one_vs)) ∧
  (type_of% (@Go.Zc.und_vs)) ∧
  (type_of% (@Go.Zc.cells_vs)) ∧
  (type_of% (@Go.Zc.one_os)) ∧
  (type_of% (@Go.Zc.und_os)) ∧
  (type_of% (@Go.Zc.cells_os)) ∧
  (type_of% (@Go.Zc.one_om)) ∧
  (type_of% (@Go.Zc.und_om)) ∧
  (type_of% (@Go.Zc.cells_om)) ∧
  (type_of% (@Go.Zc.one_nils)) ∧
  (type_of% (@Go.Zc.und_nils)) ∧
  (type_of% (@Go.Zc.cells_nils)) ∧
  (type_of% (@Go.Zc.one_nilp)) ∧
  (type_of% (@Go.Zc.und_nilp)) ∧
  (type_of% (@Go.Zc.cells_nilp)) ∧
  (type_of% (@Go.Zc.one_nilm)) ∧
  (type_of% (@Go.Zc.und_nilm)) ∧
  (type_of% (@Go.Zc.cells_nilm)) ∧
  (type_of% (@Go.Zc.one_nilf)) ∧
  (type_of% (@Go.Zc.und_nilf)) ∧
  (type_of% (@Go.Zc.cells_nilf)) :=
  ⟨@Go.Zc.chkV_nilm, @Go.Zc.chkV_nilf, @Go.Zc.chkV_nili, @Go.Zc.chkV_float, @Go.Zc.chkV_cplx, @Go.Zc.chkV_str, @Go.Zc.chkV_fn, @Go.Zc.one_int, @Go.Zc.und_int, @Go.Zc.cells_int, @Go.Zc.one_bool, @Go.Zc.und_bool, @Go.Zc.cells_bool, @Go.Zc.one_op, @Go.Zc.und_op, @Go.Zc.cells_op, @Go.Zc.one_vp, @Go.Zc.und_vp, @Go.Zc.cells_vp, @Go.Zc.one_vs, @Go.Zc.und_vs, @Go.Zc.cells_vs, @Go.Zc.one_os, @Go.Zc.und_os, @Go.Zc.cells_os, @Go.Zc.one_om, @Go.Zc.und_om, @Go.Zc.cells_om, @Go.Zc.one_nils, @Go.Zc.und_nils, @Go.Zc.cells_nils, @Go.Zc.one_nilp, @Go.Zc.und_nilp, @Go.Zc.cells_nilp, @Go.Zc.one_nilm, @Go.Zc.und_nilm, @Go.Zc.cells_nilm, @Go.Zc.one_nilf, @Go.Zc.und_nilf, @Go.Zc.cells_nilf⟩

theorem y4 : (type_of% (@Go.Zc.one_nili)) ∧
  (type_of% (@Go.Zc.und_nili)) ∧
  (type_of% (@Go.Zc.cells_nili)) ∧
  (type_of% (@Go.Zc.one_float)) ∧
  (type_of% (@Go.Zc.und_float)) ∧
  (type_of% (@Go.Zc.cells_float)) ∧
  (type_of% (@Go.Zc.one_cplx)) ∧
  (type_of% (@Go.Zc.und_cplx)) ∧
  (type_of% (@Go.Zc.cells_cplx)) ∧
  (type_of% (@Go.Zc.one_str)) ∧
  (type_of% (@Go.Zc.und_str)) ∧
  (type_of% (@Go.Zc.cells_str)) ∧
  (type_of% (@Go.Zc.one_fn)) ∧
  (type_of% (@Go.Zc.und_fn)) ∧
  (type_of% (@Go.Zc.cells_fn)) ∧
  (type_of% (@Go.Zc.one_ifc)) ∧
  (type_of% (@Go.Zc.und_ifc)) ∧
  (type_of% (@Go.Zc.cells_ifc)) ∧
  (type_of% (@Go.Zc.cells_agg)) ∧
  (type_of% (@Go.Zc.und_agg)) ∧
  (type_of% (@Go.Zc.loc_loc)) ∧
  (type_of% (@Go.Zc.loc_blk)) ∧
  (type_of% (@Go.Zc.lenOf_vs)) ∧
  (type_of% (@Go.Zc.lenOf_os)) ∧
  (type_of% (@Go.Zc.lenOf_nils)) ∧
  (type_of% (@Go.Zc.isSl_vs)) ∧
  (type_of% (@Go.Zc.isSl_os)) ∧
  (type_of% (@Go.Zc.isSl_nils)) ∧
  (type_of% (@Go.Zc.locv_sl)) ∧
  (type_of% (@Go.Zc.ref_sl)) ∧
  (type_of% (@Go.Zc.one_sl)) ∧
  (type_of% (@Go.Zc.cells_sl)) ∧
  (type_of% (@Go.Zc.und_sl)) ∧
  (type_of% (@Go.Zc.isSl_sl)) ∧
  (type_of% (@Go.Zc.lenOf_sl)) ∧
  (type_of% (@Go.Zc.lenC_sl)) ∧
  (type_of% (@Go.Zc.pick_bool)) ∧
  (type_of% (@Go.Zc.nchk_op)) ∧
  (type_of% (@Go.Zc.nchk_vp)) ∧
  (type_of% (@Go.Zc.nchk_fn)) :=
  ⟨@Go.Zc.one_nili, @Go.Zc.und_nili, @Go.Zc.cells_nili, @Go.Zc.one_float, @Go.Zc.und_float, @Go.Zc.cells_float, @Go.Zc.one_cplx, @Go.Zc.und_cplx, @Go.Zc.cells_cplx, @Go.Zc.one_str, @Go.Zc.und_str, @Go.Zc.cells_str, @Go.Zc.one_fn, @Go.Zc.und_fn, @Go.Zc.cells_fn, @Go.Zc.one_ifc, @Go.Zc.und_ifc, @Go.Zc.cells_ifc, @Go.Zc.cells_agg, @Go.Zc.und_agg, @Go.Zc.loc_loc, @Go.Zc.loc_blk, @Go.Zc.lenOf_vs, @Go.Zc.lenOf_os, @Go.Zc.lenOf_nils, @Go.Zc.isSl_vs, @Go.Zc.isSl_os, @Go.Zc.isSl_nils, @Go.Zc.locv_sl, @Go.Zc.ref_sl, @Go.Zc.one_sl, @Go.Zc.cells_sl, @Go.Zc.und_sl, @Go.Zc.isSl_sl, @Go.Zc.lenOf_sl, @Go.Zc.lenC_sl, @Go.Zc.pick_bool, @Go.Zc.nchk_op, @Go.Zc.nchk_vp, @Go.Zc.nchk_fn⟩

theorem y5 : (type_of% (@Go.Zc.fld_agg)) ∧
  (type_of% (@Go.Zc.part_t)) ∧
  (type_of% (@Go.Zc.part_f)) ∧
  (type_of% (@Go.Zc.ext_tup)) ∧
  (type_of% (@Go.Zc.cap_nils)) ∧
  (type_of% (@Go.Zc.lenC_nils)) ∧
  (type_of% (@Go.Zc.lenC_os)) ∧
  (type_of% (@Go.Zc.lenC_vs)) ∧
  (type_of% (@Go.Zc.un_not)) ∧
  (type_of% (@Go.Zc.wrap64)) ∧
  (type_of% (@Go.Zc.toInt_int)) ∧
  (type_of% (@Go.Zc.toFloat_int)) ∧
  (type_of% (@Go.Zc.cplx_float)) ∧
  (type_of% (@Go.Zc.bin_add)) ∧
  (type_of% (@Go.Zc.bin_sub)) ∧
  (type_of% (@Go.Zc.bin_mul)) ∧
  (type_of% (@Go.Zc.bin_quo)) ∧
  (type_of% (@Go.Zc.bin_rem)) ∧
  (type_of% (@Go.Zc.bin_eql)) ∧
  (type_of% (@Go.Zc.bin_neq)) ∧
  (type_of% (@Go.Zc.bin_lss)) ∧
  (type_of% (@Go.Zc.bin_leq)) ∧
  (type_of% (@Go.Zc.bin_gtr)) ∧
  (type_of% (@Go.Zc.bin_geq)) ∧
  (type_of% (@Go.Zc.bin_eqlb)) ∧
  (type_of% (@Go.Zc.bin_neqb)) ∧
  (type_of% (@Go.Zc.bin_eqla)) ∧
  (type_of% (@Go.Zc.bin_neqa)) ∧
  (type_of% (@Go.Zc.hop_appz)) ∧
  (type_of% (@Go.Zc.hop_mksl)) ∧
  (type_of% (@Go.Zc.hop_mkslF)) ∧
  (type_of% (@Go.Zc.hop_clear)) ∧
  (type_of% (@Go.Zc.hl_one)) ∧
  (type_of% (@Go.Zc.hl_two)) ∧
  (type_of% (@Go.Zc.hb_eq)) ∧
  (type_of% (@Go.Zc.iaddrA_int)) ∧
  (type_of% (@Go.Zc.hop_load)) ∧
  (type_of% (@Go.Zc.hop_store)) ∧
  (type_of% (@Go.Zc.hop_box)) ∧
  (type_of% (@Go.Zc.hop_newl)) :=
  ⟨@Go.Zc.fld_agg, @Go.Zc.part_t, @Go.Zc.part_f, @Go.Zc.ext_tup, @Go.Zc.cap_nils, @Go.Zc.lenC_nils, @Go.Zc.lenC_os, @Go.Zc.lenC_vs, @Go.Zc.un_not, @Go.Zc.wrap64, @Go.Zc.toInt_int, @Go.Zc.toFloat_int, @Go.Zc.cplx_float, @Go.Zc.bin_add, @Go.Zc.bin_sub, @Go.Zc.bin_mul, @Go.Zc.bin_quo, @Go.Zc.bin_rem, @Go.Zc.bin_eql, @Go.Zc.bin_neq, @Go.Zc.bin_lss, @Go.Zc.bin_leq, @Go.Zc.bin_gtr, @Go.Zc.bin_geq, @Go.Zc.bin_eqlb, @Go.Zc.bin_neqb, @Go.Zc.bin_eqla, @Go.Zc.bin_neqa, @Go.Zc.hop_appz, @Go.Zc.hop_mksl, @Go.Zc.hop_mkslF, @Go.Zc.hop_clear, @Go.Zc.hl_one, @Go.Zc.hl_two, @Go.Zc.hb_eq, @Go.Zc.iaddrA_int, @Go.Zc.hop_load, @Go.Zc.hop_store, @Go.Zc.hop_box, @Go.Zc.hop_newl⟩

theorem y6 : (type_of% (@Go.Zc.hop_boxh)) ∧
  (type_of% (@Go.Zc.hop_newh)) ∧
  (type_of% (@Go.Zc.hop_bslF)) ∧
  (type_of% (@Go.Zc.hop_bslO)) ∧
  (type_of% (@Go.Zc.frzE_eq)) ∧
  (type_of% (@Go.Zc.ownE_eq)) ∧
  (type_of% (@Go.Zc.push_eq)) ∧
  (type_of% (@Go.Zc.fillC_nil)) ∧
  (type_of% (@Go.Zc.fillC_cons)) ∧
  (type_of% (@Go.Zc.pure_bld)) ∧
  (type_of% (@Go.Zc.setMany_nil)) ∧
  (type_of% (@Go.Zc.setMany_cons)) ∧
  (type_of% (@Go.Zc.unitH_mk)) ∧
  (type_of% (@Go.Zc.load_vp_t)) ∧
  (type_of% (@Go.Zc.load_vp_f)) ∧
  (type_of% (@Go.Zc.load_op)) ∧
  (type_of% (@Go.Zc.ldE_t)) ∧
  (type_of% (@Go.Zc.ldE_f)) ∧
  (type_of% (@Go.Zc.headO_cons)) ∧
  (type_of% (@Go.Zc.faddr_vp)) ∧
  (type_of% (@Go.Zc.faddr_op)) ∧
  (type_of% (@Go.Zc.get_loc)) ∧
  (type_of% (@Go.Zc.get_b0)) ∧
  (type_of% (@Go.Zc.get_b1)) ∧
  (type_of% (@Go.Zc.get_b2)) ∧
  (type_of% (@Go.Zc.look_hit)) ∧
  (type_of% (@Go.Zc.look_miss)) ∧
  (type_of% (@Go.Zc.look_nil)) ∧
  (type_of% (@Go.Zc.setBx_hit)) ∧
  (type_of% (@Go.Zc.setBx_miss)) ∧
  (type_of% (@Go.Zc.setBx_nil)) ∧
  (type_of% (@Go.Zc.storeC_op)) ∧
  (type_of% (@Go.Zc.stE_loc)) ∧
  (type_of% (@Go.Zc.put_loc)) ∧
  (type_of% (@Go.Zc.put_blk)) ∧
  (type_of% (@Go.Zc.ones_nil)) ∧
  (type_of% (@Go.Zc.ones_cons)) ∧
  (type_of% (@Go.Zc.snap_eq)) ∧
  (type_of% (@Go.Zc.snapN_succ)) ∧
  (type_of% (@Go.Zc.mapC_nil)) :=
  ⟨@Go.Zc.hop_boxh, @Go.Zc.hop_newh, @Go.Zc.hop_bslF, @Go.Zc.hop_bslO, @Go.Zc.frzE_eq, @Go.Zc.ownE_eq, @Go.Zc.push_eq, @Go.Zc.fillC_nil, @Go.Zc.fillC_cons, @Go.Zc.pure_bld, @Go.Zc.setMany_nil, @Go.Zc.setMany_cons, @Go.Zc.unitH_mk, @Go.Zc.load_vp_t, @Go.Zc.load_vp_f, @Go.Zc.load_op, @Go.Zc.ldE_t, @Go.Zc.ldE_f, @Go.Zc.headO_cons, @Go.Zc.faddr_vp, @Go.Zc.faddr_op, @Go.Zc.get_loc, @Go.Zc.get_b0, @Go.Zc.get_b1, @Go.Zc.get_b2, @Go.Zc.look_hit, @Go.Zc.look_miss, @Go.Zc.look_nil, @Go.Zc.setBx_hit, @Go.Zc.setBx_miss, @Go.Zc.setBx_nil, @Go.Zc.storeC_op, @Go.Zc.stE_loc, @Go.Zc.put_loc, @Go.Zc.put_blk, @Go.Zc.ones_nil, @Go.Zc.ones_cons, @Go.Zc.snap_eq, @Go.Zc.snapN_succ, @Go.Zc.mapC_nil⟩

theorem y7 : (type_of% (@Go.Zc.mapC_cons)) ∧
  (type_of% (@Go.Zc.snapL_nil)) ∧
  (type_of% (@Go.Zc.snapL_cons)) ∧
  (type_of% (@Go.Zc.consO_some)) ∧
  (type_of% (@Go.Zc.snapV_sl)) ∧
  (type_of% (@Go.Zc.snapV_int)) ∧
  (type_of% (@Go.Zc.snapV_bool)) ∧
  (type_of% (@Go.Zc.snapV_str)) ∧
  (type_of% (@Go.Zc.snapV_cplx)) ∧
  (type_of% (@Go.Zc.snapV_float)) ∧
  (type_of% (@Go.Zc.snapV_nilp)) ∧
  (type_of% (@Go.Zc.snapV_nils)) ∧
  (type_of% (@Go.Zc.snapV_nilsk)) ∧
  (type_of% (@Go.Zc.snapV_vp)) ∧
  (type_of% (@Go.Zc.snapV_vs)) ∧
  (type_of% (@Go.Zc.snapVs_nil)) ∧
  (type_of% (@Go.Zc.snapVs_cons)) ∧
  (type_of% (@Go.Zc.snapV_agg)) ∧
  (type_of% (@Go.Zc.snapV_tup)) ∧
  (type_of% (@Go.Zc.snapV_op)) ∧
  (type_of% (@Go.Zc.snapP_eq)) ∧
  (type_of% (@Go.Zc.snapV_fn)) ∧
  (type_of% (@Go.Zc.fnO_some)) ∧
  (type_of% (@Go.Zc.resAll_nil)) ∧
  (type_of% (@Go.Zc.resAll_cons)) ∧
  (type_of% (@Go.Zc.resOne_tmp)) ∧
  (type_of% (@Go.Zc.resOne_cell)) ∧
  (type_of% (@List.set_cons_zero.{0})) ∧
  (type_of% (@List.set_cons_succ.{0})) ∧
  (type_of% (@List.drop_succ_cons.{0})) ∧
  (type_of% (@List.drop_zero.{0})) ∧
  (type_of% (@List.take_succ_cons.{0})) ∧
  (type_of% (@List.take_zero.{0})) ∧
  (type_of% (@List.cons_append.{0})) ∧
  (type_of% (@List.nil_append.{0})) ∧
  (type_of% (@List.append_nil.{0})) ∧
  (type_of% (@List.length_cons.{0})) ∧
  (type_of% (@List.length_nil.{0})) ∧
  (type_of% (@List.zip_cons_cons.{0, 0})) ∧
  (type_of% (@List.zip_nil_left.{0, 0})) :=
  ⟨@Go.Zc.mapC_cons, @Go.Zc.snapL_nil, @Go.Zc.snapL_cons, @Go.Zc.consO_some, @Go.Zc.snapV_sl, @Go.Zc.snapV_int, @Go.Zc.snapV_bool, @Go.Zc.snapV_str, @Go.Zc.snapV_cplx, @Go.Zc.snapV_float, @Go.Zc.snapV_nilp, @Go.Zc.snapV_nils, @Go.Zc.snapV_nilsk, @Go.Zc.snapV_vp, @Go.Zc.snapV_vs, @Go.Zc.snapVs_nil, @Go.Zc.snapVs_cons, @Go.Zc.snapV_agg, @Go.Zc.snapV_tup, @Go.Zc.snapV_op, @Go.Zc.snapP_eq, @Go.Zc.snapV_fn, @Go.Zc.fnO_some, @Go.Zc.resAll_nil, @Go.Zc.resAll_cons, @Go.Zc.resOne_tmp, @Go.Zc.resOne_cell, @List.set_cons_zero.{0}, @List.set_cons_succ.{0}, @List.drop_succ_cons.{0}, @List.drop_zero.{0}, @List.take_succ_cons.{0}, @List.take_zero.{0}, @List.cons_append.{0}, @List.nil_append.{0}, @List.append_nil.{0}, @List.length_cons.{0}, @List.length_nil.{0}, @List.zip_cons_cons.{0, 0}, @List.zip_nil_left.{0, 0}⟩

theorem y8 : (type_of% (@List.zip_nil_right.{0, 0})) ∧
  (type_of% (@List.contains_cons.{0})) ∧
  (type_of% (@List.contains_nil.{0})) ∧
  (type_of% (@List.getElem?_cons_zero.{0})) ∧
  (type_of% (@List.getElem?_cons_succ.{0})) ∧
  (type_of% (@Option.isNone_none.{0})) ∧
  (type_of% (@Option.isNone_some.{0})) ∧
  (type_of% (@Option.isSome_none.{0})) ∧
  (type_of% (@Option.isSome_some.{0})) ∧
  (type_of% (@Nat.add_zero)) ∧
  (type_of% (@Nat.zero_add)) ∧
  (type_of% (@Nat.le_refl)) ∧
  (type_of% (@Nat.zero_le)) ∧
  (type_of% (@Nat.lt_add_one)) ∧
  (type_of% (@ne_eq.{1})) ∧
  (type_of% (@not_false_eq_true)) ∧
  (type_of% (@not_true_eq_false)) ∧
  (type_of% (@and_self)) ∧
  (type_of% (@and_true)) ∧
  (type_of% (@true_and)) ∧
  (type_of% (@and_false)) ∧
  (type_of% (@false_and)) ∧
  (type_of% (@or_true)) ∧
  (type_of% (@true_or)) ∧
  (type_of% (@or_false)) ∧
  (type_of% (@false_or)) ∧
  (type_of% (@Bool.and_true)) ∧
  (type_of% (@Bool.true_and)) ∧
  (type_of% (@Bool.and_false)) ∧
  (type_of% (@Bool.false_and)) ∧
  (type_of% (@Bool.or_false)) ∧
  (type_of% (@Bool.false_or)) ∧
  (type_of% (@Bool.or_true)) ∧
  (type_of% (@Bool.true_or)) ∧
  (type_of% (@Bool.not_true)) ∧
  (type_of% (@Bool.not_false)) ∧
  (type_of% (@decide_true)) ∧
  (type_of% (@decide_false)) ∧
  (type_of% (@Go.Zc.decide_true')) ∧
  (type_of% (@Go.Zc.decide_not')) :=
  ⟨@List.zip_nil_right.{0, 0}, @List.contains_cons.{0}, @List.contains_nil.{0}, @List.getElem?_cons_zero.{0}, @List.getElem?_cons_succ.{0}, @Option.isNone_none.{0}, @Option.isNone_some.{0}, @Option.isSome_none.{0}, @Option.isSome_some.{0}, @Nat.add_zero, @Nat.zero_add, @Nat.le_refl, @Nat.zero_le, @Nat.lt_add_one, @ne_eq.{1}, @not_false_eq_true, @not_true_eq_false, @and_self, @and_true, @true_and, @and_false, @false_and, @or_true, @true_or, @or_false, @false_or, @Bool.and_true, @Bool.true_and, @Bool.and_false, @Bool.false_and, @Bool.or_false, @Bool.false_or, @Bool.or_true, @Bool.true_or, @Bool.not_true, @Bool.not_false, @decide_true, @decide_false, @Go.Zc.decide_true', @Go.Zc.decide_not'⟩

theorem y9 : (type_of% (@Bool.not_eq_true')) ∧
  (type_of% (@if_true.{1})) ∧
  (type_of% (@if_false.{1})) ∧
  (type_of% (@Bool.false_eq_true)) ∧
  (type_of% (@Bool.true_eq_false)) ∧
  (type_of% (@eq_self.{1})) ∧
  (type_of% (@beq_self_eq_true.{0})) ∧
  (type_of% (@Int.lt_irrefl)) ∧
  (type_of% (@Nat.lt_irrefl)) ∧
  (type_of% (@Int.cast_ofNat_Int)) ∧
  (type_of% (@Int.toNat_zero)) ∧
  (type_of% (@Int.toNat_one)) ∧
  (type_of% (@Go.Zc.keepE_def)) ∧
  (type_of% (@Go.Zc.keepB.eq_1)) ∧
  (type_of% (@Go.Zc.keepB.eq_2)) ∧
  (type_of% (@Go.Zc.chk.eq_1)) ∧
  (type_of% (@Go.Zc.CV.locs.eq_1)) ∧
  (type_of% (@Go.Zc.CV.locs.eq_2)) ∧
  (type_of% (@Go.Zc.CV.locv.eq_1)) ∧
  (type_of% (@Go.Zc.CV.locv.eq_2)) ∧
  (type_of% (@Go.Zc.CV.locv.eq_3)) ∧
  (type_of% (@Go.Zc.CV.locv.eq_4)) ∧
  (type_of% (@Go.Zc.CV.locv.eq_5)) ∧
  (type_of% (@Go.Zc.CV.locv.eq_6)) ∧
  (type_of% (@Go.Zc.CV.refs.eq_1)) ∧
  (type_of% (@Go.Zc.CV.refs.eq_2)) ∧
  (type_of% (@Go.Zc.CV.ref.eq_1)) ∧
  (type_of% (@Go.Zc.CV.ref.eq_2)) ∧
  (type_of% (@Go.Zc.CV.ref.eq_3)) ∧
  (type_of% (@Go.Zc.CV.ref.eq_4)) ∧
  (type_of% (@Go.Zc.CV.ref.eq_5)) ∧
  (type_of% (@Go.Zc.CV.ref.eq_6)) ∧
  (type_of% (@Go.Zc.CV.ref.eq_7)) ∧
  (type_of% (@Go.Zc.pureOp.eq_1)) ∧
  (type_of% (@Go.Zc.pureOp.eq_2)) ∧
  (type_of% (@Go.Zc.pureOp.eq_3)) ∧
  (type_of% (@Go.Zc.pureOp.eq_4)) ∧
  (type_of% (@Go.Zc.pureOp.eq_5)) ∧
  (type_of% (@Go.Zc.pureOp.eq_6)) ∧
  (type_of% (@Go.Zc.pureOp.eq_7)) :=
  ⟨@Bool.not_eq_true', @if_true.{1}, @if_false.{1}, @Bool.false_eq_true, @Bool.true_eq_false, @eq_self.{1}, @beq_self_eq_true.{0}, @Int.lt_irrefl, @Nat.lt_irrefl, @Int.cast_ofNat_Int, @Int.toNat_zero, @Int.toNat_one, @Go.Zc.keepE_def, @Go.Zc.keepB.eq_1, @Go.Zc.keepB.eq_2, @Go.Zc.chk.eq_1, @Go.Zc.CV.locs.eq_1, @Go.Zc.CV.locs.eq_2, @Go.Zc.CV.locv.eq_1, @Go.Zc.CV.locv.eq_2, @Go.Zc.CV.locv.eq_3, @Go.Zc.CV.locv.eq_4, @Go.Zc.CV.locv.eq_5, @Go.Zc.CV.locv.eq_6, @Go.Zc.CV.refs.eq_1, @Go.Zc.CV.refs.eq_2, @Go.Zc.CV.ref.eq_1, @Go.Zc.CV.ref.eq_2, @Go.Zc.CV.ref.eq_3, @Go.Zc.CV.ref.eq_4, @Go.Zc.CV.ref.eq_5, @Go.Zc.CV.ref.eq_6, @Go.Zc.CV.ref.eq_7, @Go.Zc.pureOp.eq_1, @Go.Zc.pureOp.eq_2, @Go.Zc.pureOp.eq_3, @Go.Zc.pureOp.eq_4, @Go.Zc.pureOp.eq_5, @Go.Zc.pureOp.eq_6, @Go.Zc.pureOp.eq_7⟩

theorem y10 : (type_of% (@Go.Zc.pureOp.eq_8)) ∧
  (type_of% (@Go.Zc.pureOp.eq_9)) ∧
  (type_of% (@Go.Zc.pureOp.eq_10)) ∧
  (type_of% (@Go.Zc.pureOp.eq_11)) ∧
  (type_of% (@Go.Zc.pureOp.eq_12)) ∧
  (type_of% (@Go.Zc.pureOp.eq_13)) ∧
  (type_of% (@Go.Zc.pureOp.eq_14)) ∧
  (type_of% (@Go.Zc.pureOp.eq_15)) ∧
  (type_of% (@Go.Zc.pureOp.eq_16)) ∧
  (type_of% (@Go.Zc.pureOp.eq_17)) ∧
  (type_of% (@Go.Zc.pureOp.eq_18)) ∧
  (type_of% (@Go.Zc.pureOp.eq_19)) ∧
  (type_of% (@Go.Zc.pureOp.eq_20)) ∧
  (type_of% (@Go.Zc.pureOp.eq_21)) ∧
  (type_of% (@Go.Zc.pureOp.eq_22)) ∧
  (type_of% (@Go.Zc.pureOp.eq_23)) ∧
  (type_of% (@Go.Zc.pureOp.eq_24)) ∧
  (type_of% (@Go.Zc.pureOp.eq_25)) ∧
  (type_of% (@Go.Zc.pureOp.eq_26)) ∧
  (type_of% (@Go.Zc.pureOp.eq_27)) ∧
  (type_of% (@Go.Zc.pureOp.eq_28)) ∧
  (type_of% (@Go.Zc.pureOp.eq_29)) ∧
  (type_of% (@Go.Zc.pureOp.eq_30)) ∧
  (type_of% (@Go.Zc.repC.eq_1)) ∧
  (type_of% (@Go.Zc.repC.eq_2)) ∧
  (type_of% (@Go.Zc.takeN.eq_1)) ∧
  (type_of% (@Go.Zc.takeN.eq_2)) ∧
  (type_of% (@Go.Zc.takeN.eq_3)) ∧
  (type_of% (@Go.Zc.resV.eq_1)) ∧
  (type_of% (@Go.Zc.resV_nil)) ∧
  (type_of% (@Go.Zc.resV_two)) ∧
  (type_of% (@Go.Zc.enterC.eq_1)) ∧
  (type_of% (@Go.Zc.enterC.eq_2)) ∧
  (type_of% (@Go.Zc.locv_und)) ∧
  (type_of% (@Go.Zc.locv_bool)) ∧
  (type_of% (@Go.Zc.locv_int)) ∧
  (type_of% (@Go.Zc.locv_float)) ∧
  (type_of% (@Go.Zc.locv_cplx)) ∧
  (type_of% (@Go.Zc.locv_str)) ∧
  (type_of% (@Go.Zc.locv_nilp)) :=
  ⟨@Go.Zc.pureOp.eq_8, @Go.Zc.pureOp.eq_9, @Go.Zc.pureOp.eq_10, @Go.Zc.pureOp.eq_11, @Go.Zc.pureOp.eq_12, @Go.Zc.pureOp.eq_13, @Go.Zc.pureOp.eq_14, @Go.Zc.pureOp.eq_15, @Go.Zc.pureOp.eq_16, @Go.Zc.pureOp.eq_17, @Go.Zc.pureOp.eq_18, @Go.Zc.pureOp.eq_19, @Go.Zc.pureOp.eq_20, @Go.Zc.pureOp.eq_21, @Go.Zc.pureOp.eq_22, @Go.Zc.pureOp.eq_23, @Go.Zc.pureOp.eq_24, @Go.Zc.pureOp.eq_25, @Go.Zc.pureOp.eq_26, @Go.Zc.pureOp.eq_27, @Go.Zc.pureOp.eq_28, @Go.Zc.pureOp.eq_29, @Go.Zc.pureOp.eq_30, @Go.Zc.repC.eq_1, @Go.Zc.repC.eq_2, @Go.Zc.takeN.eq_1, @Go.Zc.takeN.eq_2, @Go.Zc.takeN.eq_3, @Go.Zc.resV.eq_1, @Go.Zc.resV_nil, @Go.Zc.resV_two, @Go.Zc.enterC.eq_1, @Go.Zc.enterC.eq_2, @Go.Zc.locv_und, @Go.Zc.locv_bool, @Go.Zc.locv_int, @Go.Zc.locv_float, @Go.Zc.locv_cplx, @Go.Zc.locv_str, @Go.Zc.locv_nilp⟩

theorem y11 : (type_of% (@Go.Zc.locv_vp)) ∧
  (type_of% (@Go.Zc.locv_nils)) ∧
  (type_of% (@Go.Zc.locv_vs)) ∧
  (type_of% (@Go.Zc.locv_nilm)) ∧
  (type_of% (@Go.Zc.locv_om)) ∧
  (type_of% (@Go.Zc.locv_nilf)) ∧
  (type_of% (@Go.Zc.locv_nili)) ∧
  (type_of% (@Go.Zc.ref_und)) ∧
  (type_of% (@Go.Zc.ref_bool)) ∧
  (type_of% (@Go.Zc.ref_int)) ∧
  (type_of% (@Go.Zc.ref_float)) ∧
  (type_of% (@Go.Zc.ref_cplx)) ∧
  (type_of% (@Go.Zc.ref_str)) ∧
  (type_of% (@Go.Zc.ref_nilp)) ∧
  (type_of% (@Go.Zc.ref_vp)) ∧
  (type_of% (@Go.Zc.ref_nils)) ∧
  (type_of% (@Go.Zc.ref_vs)) ∧
  (type_of% (@Go.Zc.ref_nilm)) ∧
  (type_of% (@Go.Zc.ref_nilf)) ∧
  (type_of% (@Go.Zc.ref_nili)) ∧
  (type_of% (@Go.Zc.runOps_sM)) ∧
  (type_of% (@Go.Zc.runOps_sP)) ∧
  (type_of% (@Go.Zc.runOps_sH)) ∧
  (type_of% (@Go.Zc.runOps_sHn)) ∧
  (type_of% (@Go.Zc.runOps_sB)) ∧
  (type_of% (@Go.Zc.runOps_sBn)) ∧
  (type_of% (@Go.Zc.runOps_sL)) ∧
  (type_of% (@Go.Zc.runOps_sLn)) ∧
  (type_of% (@Go.Zc.runOps_sC)) ∧
  (type_of% (@Go.Zc.runOps_sCb)) ∧
  (type_of% (@Go.Zc.runOps_sCp)) ∧
  (type_of% (@Go.Zc.runOps_sCv)) ∧
  (type_of% (@Go.Zc.runOps_sG)) ∧
  (type_of% (@Go.Zc.guardS_bool)) ∧
  (type_of% (@Go.Zc.guardS_skip)) ∧
  (type_of% (@Go.Zc.sM_g)) ∧
  (type_of% (@Go.Zc.sP_g)) ∧
  (type_of% (@Go.Zc.sH_g)) ∧
  (type_of% (@Go.Zc.sHn_g)) ∧
  (type_of% (@Go.Zc.sB_g)) :=
  ⟨@Go.Zc.locv_vp, @Go.Zc.locv_nils, @Go.Zc.locv_vs, @Go.Zc.locv_nilm, @Go.Zc.locv_om, @Go.Zc.locv_nilf, @Go.Zc.locv_nili, @Go.Zc.ref_und, @Go.Zc.ref_bool, @Go.Zc.ref_int, @Go.Zc.ref_float, @Go.Zc.ref_cplx, @Go.Zc.ref_str, @Go.Zc.ref_nilp, @Go.Zc.ref_vp, @Go.Zc.ref_nils, @Go.Zc.ref_vs, @Go.Zc.ref_nilm, @Go.Zc.ref_nilf, @Go.Zc.ref_nili, @Go.Zc.runOps_sM, @Go.Zc.runOps_sP, @Go.Zc.runOps_sH, @Go.Zc.runOps_sHn, @Go.Zc.runOps_sB, @Go.Zc.runOps_sBn, @Go.Zc.runOps_sL, @Go.Zc.runOps_sLn, @Go.Zc.runOps_sC, @Go.Zc.runOps_sCb, @Go.Zc.runOps_sCp, @Go.Zc.runOps_sCv, @Go.Zc.runOps_sG, @Go.Zc.guardS_bool, @Go.Zc.guardS_skip, @Go.Zc.sM_g, @Go.Zc.sP_g, @Go.Zc.sH_g, @Go.Zc.sHn_g, @Go.Zc.sB_g⟩

theorem y12 : (type_of% (@Go.Zc.sBn_g)) ∧
  (type_of% (@Go.Zc.sL_g)) ∧
  (type_of% (@Go.Zc.sLn_g)) ∧
  (type_of% (@Go.Zc.sC_g)) ∧
  (type_of% (@Go.Zc.sCb_g)) ∧
  (type_of% (@Go.Zc.sCp_g)) ∧
  (type_of% (@Go.Zc.sCv_g)) ∧
  (type_of% (@Go.Zc.sM_d)) ∧
  (type_of% (@Go.Zc.sP_d)) ∧
  (type_of% (@Go.Zc.sH_d)) ∧
  (type_of% (@Go.Zc.sHn_d)) ∧
  (type_of% (@Go.Zc.sB_d)) ∧
  (type_of% (@Go.Zc.sBn_d)) ∧
  (type_of% (@Go.Zc.sL_d)) ∧
  (type_of% (@Go.Zc.sLn_d)) ∧
  (type_of% (@Go.Zc.sC_d)) ∧
  (type_of% (@Go.Zc.sCb_d)) ∧
  (type_of% (@Go.Zc.sCp_d)) ∧
  (type_of% (@Go.Zc.sCv_d)) ∧
  (type_of% (@Go.Zc.stm_d)) ∧
  (type_of% (@Go.Zc.stm_g)) :=
  ⟨@Go.Zc.sBn_g, @Go.Zc.sL_g, @Go.Zc.sLn_g, @Go.Zc.sC_g, @Go.Zc.sCb_g, @Go.Zc.sCp_g, @Go.Zc.sCv_g, @Go.Zc.sM_d, @Go.Zc.sP_d, @Go.Zc.sH_d, @Go.Zc.sHn_d, @Go.Zc.sB_d, @Go.Zc.sBn_d, @Go.Zc.sL_d, @Go.Zc.sLn_d, @Go.Zc.sC_d, @Go.Zc.sCb_d, @Go.Zc.sCp_d, @Go.Zc.sCv_d, @Go.Zc.stm_d, @Go.Zc.stm_g⟩

theorem zy : (type_of% @y1) ∧ (type_of% @y2) ∧ (type_of% @y3) ∧ (type_of% @y4) ∧ (type_of% @y5) ∧ (type_of% @y6) ∧ (type_of% @y7) ∧ (type_of% @y8) ∧ (type_of% @y9) ∧ (type_of% @y10) ∧ (type_of% @y11) ∧ (type_of% @y12) := ⟨y1, y2, y3, y4, y5, y6, y7, y8, y9, y10, y11, y12⟩
end Go.Zc
end
section
namespace Go.Zc
section
variable {α : Type} {f : α → List CV} {sz : Nat} {bl : List Blk} {v : CV} {l : List α}

/-- An element is written over. -/
theorem Own.set (hf : Flat f sz) (h : Own f sz bl v l) {i : Nat} (hi : i < l.length) (y : α) (w : CV) (hw : w.cells = f y) :
    ∃ m, (∀ k, iaddrC sz v (.int k i) = some (.op (.blk m) (i * sz))) ∧ ∃ cs, (∀ bx, Heap.get ⟨bx, bl⟩ (.blk m) = some cs) ∧ cs.drop (i * sz) = f l[i] ++ (l.drop (i + 1)).flatMap f ∧
      ∃ bl', (∀ bx, stE sz (i * sz) w ⟨bx, bl⟩ (.blk m) cs = some ⟨bx, bl'⟩) ∧ Own f sz bl' v (l.set i y) ∧ bl'.length = bl.length ∧ (∀ (k : Nat) (b : Blk), bl[k]? = some b → blkOf v ≠ some k → bl'[k]? = some b) := by
  obtain ⟨m, h1, h2, h3⟩ := h.iaddr hf (k := .i64) hi
  have hs : l = l.take i ++ l[i] :: l.drop (i + 1) := by rw [← List.drop_eq_getElem_cons hi, List.take_append_drop]
  have hl : (l.take i).length = i := by rw [List.length_take]; omega
  have hst : l.set i y = l.take i ++ y :: l.drop (i + 1) := by
    rw [List.set_eq_take_append_cons_drop]; simp [hi]
  have hm : m < bl.length := (List.getElem?_eq_some_iff.1 h2).1
  refine ⟨m, fun k => ?_, l.flatMap f, fun bx => get_blk bx bl m _ h2, ?_, bl.set m (.cells ((l.set i y).flatMap f)), fun bx => ?_, ?_, by simp, fun k b hk hne => ?_⟩
  · rw [h3] at h1 ⊢
    exact h1
  · rw [flatMap_drop hf.len, List.drop_eq_getElem_cons hi, List.flatMap_cons]
  · have hsm := setMany_mid hf (l.take i) (l.drop (i + 1)) y l[i]
    rw [hl, ← hs, ← hst] at hsm
    have hb : (i + 1) * sz ≤ l.length * sz := Nat.mul_le_mul_right sz hi
    rw [Nat.add_mul, Nat.one_mul] at hb
    unfold stE
    rw [if_pos ⟨by rw [hw, hf.len], by rw [hf.length]; exact hb, by rw [hw]; exact hf.one y, .inr (by rw [hw]; exact hf.loc y)⟩, hw, hsm]
    rfl
  · rw [h3]
    exact .inr ⟨m, by simp, by simp [hm]⟩
  · rw [List.getElem?_set_ne (fun e => hne (by rw [h3, blkOf_os, e]))]
    exact hk

theorem repC_eq (f : α → List CV) (z : α) : ∀ n, repC (f z) n = (List.replicate n z).flatMap f
  | 0 => rfl
  | n + 1 => by simp only [repC, repC_eq f z n, List.replicate_succ, List.flatMap_cons]
/-- A slice is made, of zeros. -/
theorem Own.mk (hf : Flat f sz) (z : α) (n bytes : Nat) (hm : (n : Int) * bytes ≤ 140737488355328 ∧ (n : Int) ≤ 140737488355328) (k k' : IntKind) (bx : List (Nat × List CV)) (bl : List Blk) :
    heapOp (.mksl sz bytes (f z)) [.int k n, .int k' n] ⟨bx, bl⟩ = some (.os sz (.blk bl.length) 0 n, ⟨bx, bl ++ [.cells ((List.replicate n z).flatMap f)]⟩) ∧
    Own f sz (bl ++ [.cells ((List.replicate n z).flatMap f)]) (.os sz (.blk bl.length) 0 n) (List.replicate n z) := by
  refine ⟨?_, .inr ⟨bl.length, by simp, by simp⟩⟩
  rw [hop_mksl, if_pos (by simp [hf.len, hf.one, hf.loc]), if_pos ⟨by omega, by omega, hm.1, hm.2⟩, Int.toNat_natCast, repC_eq]

/-- Handed out of a body that makes it: the same, whatever boxes there are. -/
theorem Own.handed' (hf : Flat f sz) (h : Own f sz bl v l) (bl' : List Blk) (hg : ∀ (st : Bool) (H : Heap) (x : α), ∀ c ∈ f x, snap H st false c = some c) :
    ∃ v' bl'', (∀ st bx bx', ownSnap st ⟨bx', bl'⟩ ⟨bx, bl⟩ [v] = some (v', ⟨bx', bl''⟩)) ∧ Own f sz bl'' v' l ∧ (∀ (k : Nat) (b : Blk), bl'[k]? = some b → bl''[k]? = some b) ∧ (∀ k, blkOf v' = some k → bl'.length ≤ k) := by
  rcases h with ⟨rfl, rfl⟩ | ⟨m, rfl, h2⟩
  · exact ⟨.nils, bl', fun _ _ _ => rfl, .inl ⟨rfl, rfl⟩, fun _ _ h => h, fun k h => by cases h⟩
  · refine ⟨.os sz (.blk bl'.length) 0 l.length, bl' ++ [.cells (l.flatMap f)], fun st bx bx' => ?_, .inr ⟨bl'.length, rfl, by simp⟩, fun k b hk => ?_, fun k h => by cases h; exact Nat.le_refl _⟩
    · unfold ownSnap ownOf resV
      simp only [get_blk bx bl m _ h2, Option.bind_some, hf.length, Nat.le_refl, if_true]
      rw [mapC_id]
      · rfl
      · intro c hc
        obtain ⟨x, _, hx⟩ := List.mem_flatMap.1 hc
        exact hg st _ x c hx
    · rw [List.getElem?_append_left (List.getElem?_eq_some_iff.1 hk).1]; exact hk
end
end Go.Zc
end
section
namespace Go.Zc

/-- What a cell in memory shows: itself, or the numbers of a slice. -/
def CellOk (bl : List Blk) (c y : CV) : Prop :=
  (c = y ∧ blkOf c = none ∧ c.one = true ∧ c.locv = false ∧ ∀ (H : Heap) (st kn : Bool) (n : Nat), snapN H st kn (n + 1) c = some c) ∨ ∃ l : List Int, Own fI 1 bl c l ∧ y = sl fI l
theorem cell_int (bl : List Blk) (k : IntKind) (n : Int) : CellOk bl (.int k n) (.int k n) := .inl ⟨rfl, rfl, rfl, rfl, fun _ _ _ _ => rfl⟩
theorem cell_bool (bl : List Blk) (b : Bool) : CellOk bl (.bool b) (.bool b) := .inl ⟨rfl, rfl, rfl, rfl, fun _ _ _ _ => rfl⟩
theorem cell_own {bl : List Blk} {c : CV} {l : List Int} (h : Own fI 1 bl c l) : CellOk bl c (sl fI l) := .inr ⟨l, h, rfl⟩
theorem CellOk.one {bl : List Blk} {c y : CV} (h : CellOk bl c y) : c.one = true := by
  rcases h with ⟨_, _, h, _⟩ | ⟨l, h, _⟩
  · exact h
  · exact h.one
theorem CellOk.locv {bl : List Blk} {c y : CV} (h : CellOk bl c y) : c.locv = false := by
  rcases h with ⟨_, _, _, h, _⟩ | ⟨l, h, _⟩
  · exact h
  · exact h.locv
theorem CellOk.keep {bl bl' : List Blk} {c y : CV} (h : CellOk bl c y) (hk : ∀ (m : Nat) (b : Blk), bl[m]? = some b → blkOf c = some m → bl'[m]? = some b) : CellOk bl' c y := by
  rcases h with h | ⟨l, h | ⟨m, rfl, h2⟩, hy⟩
  · exact .inl h
  · exact .inr ⟨l, .inl h, hy⟩
  · exact .inr ⟨l, .inr ⟨m, rfl, hk m _ h2 rfl⟩, hy⟩
theorem CellOk.snap {bl : List Blk} {c y : CV} (h : CellOk bl c y) (bx : List (Nat × List CV)) (st : Bool) (n : Nat) : snapN ⟨bx, bl⟩ st false (n + 2) c = some y := by
  rcases h with ⟨rfl, _, _, _, h⟩ | ⟨l, h, rfl⟩
  · exact h _ _ _ _
  · exact h.snapV flatI bx st _ (fun x c hc => by
      simp only [fI, List.mem_cons, List.not_mem_nil, or_false] at hc
      subst hc
      rfl)
theorem CellOk.lt {bl : List Blk} {c y : CV} (h : CellOk bl c y) {k : Nat} (hk : blkOf c = some k) : k < bl.length := by
  rcases h with ⟨_, h, _⟩ | ⟨l, h, _⟩
  · rw [h] at hk; cases hk
  · exact h.lt hk

def Cells (bl : List Blk) : List CV → List CV → Prop
  | [], [] => True
  | c :: cs, y :: ys => CellOk bl c y ∧ Cells bl cs ys
  | _, _ => False
theorem Cells.length {bl : List Blk} : ∀ {cs ys : List CV}, Cells bl cs ys → cs.length = ys.length
  | [], [], _ => rfl
  | _ :: _, _ :: _, h => by simp [Cells.length h.2]
  | [], _ :: _, h => h.elim
  | _ :: _, [], h => h.elim
theorem Cells.app {bl : List Blk} : ∀ {cs ys cs' ys' : List CV}, Cells bl cs ys → Cells bl cs' ys' → Cells bl (cs ++ cs') (ys ++ ys')
  | [], [], _, _, _, h => h
  | _ :: _, _ :: _, _, _, h, h' => ⟨h.1, Cells.app h.2 h'⟩
  | [], _ :: _, _, _, h, _ => h.elim
  | _ :: _, [], _, _, h, _ => h.elim
theorem Cells.keep {bl bl' : List Blk} : ∀ {cs ys : List CV}, Cells bl cs ys → (∀ c ∈ cs, ∀ (m : Nat) (b : Blk), bl[m]? = some b → blkOf c = some m → bl'[m]? = some b) → Cells bl' cs ys
  | [], [], _, _ => trivial
  | c :: cs, _ :: _, h, hk => ⟨h.1.keep (hk c (by simp)), Cells.keep h.2 fun x hx => hk x (by simp [hx])⟩
  | [], _ :: _, h, _ => h.elim
  | _ :: _, [], h, _ => h.elim
theorem Cells.ones {bl : List Blk} : ∀ {cs ys : List CV}, Cells bl cs ys → Zc.ones cs = true
  | [], [], _ => rfl
  | _ :: _, _ :: _, h => by rw [ones_cons, h.1.one, Cells.ones h.2]; rfl
  | [], _ :: _, h => h.elim
  | _ :: _, [], h => h.elim
theorem Cells.locs {bl : List Blk} : ∀ {cs ys : List CV}, Cells bl cs ys → CV.locs cs = false
  | [], [], _ => rfl
  | _ :: _, _ :: _, h => by simp only [CV.locs, h.1.locv, Cells.locs h.2, Bool.or_self]
  | [], _ :: _, h => h.elim
  | _ :: _, [], h => h.elim
theorem Cells.snap {bl : List Blk} (bx : List (Nat × List CV)) (st : Bool) (n : Nat) : ∀ {cs ys : List CV}, Cells bl cs ys → mapC (snapN ⟨bx, bl⟩ st false (n + 2)) cs = some ys
  | [], [], _ => rfl
  | _ :: _, _ :: _, h => by simp only [mapC, h.1.snap bx st n, Cells.snap bx st n h.2, Option.bind_some, Option.map_some]
  | [], _ :: _, h => h.elim
  | _ :: _, [], h => h.elim
theorem Cells.lt {bl : List Blk} : ∀ {cs ys : List CV}, Cells bl cs ys → ∀ c ∈ cs, ∀ k, blkOf c = some k → k < bl.length
  | [], [], _, c, hc => by simp at hc
  | d :: cs, _ :: _, h, c, hc => by
    rcases List.mem_cons.1 hc with rfl | hc
    · exact fun k hk => h.1.lt hk
    · exact Cells.lt h.2 c hc
  | [], _ :: _, h, _, _ => h.elim
  | _ :: _, [], h, _, _ => h.elim

section
variable {α : Type} {f : α → List CV} {sz : Nat} {bl : List Blk} {v : CV} {l : List α}

def Deep (f : α → List CV) (sz : Nat) (bl : List Blk) (v : CV) (l : List α) : Prop :=
  (v = .nils ∧ l = []) ∨ ∃ m cs, v = .os sz (.blk m) 0 l.length ∧ bl[m]? = some (.cells cs) ∧ Cells bl cs (l.flatMap f) ∧ ∀ c ∈ cs, blkOf c ≠ some m
theorem Deep.nil (f : α → List CV) (sz : Nat) (bl : List Blk) : Deep f sz bl .nils [] := .inl ⟨rfl, rfl⟩
theorem Deep.len (h : Deep f sz bl v l) : lenC v = some (.int .i64 l.length) := by
  rcases h with ⟨rfl, rfl⟩ | ⟨m, cs, rfl, _⟩ <;> rfl
theorem Deep.locv (h : Deep f sz bl v l) : v.locv = false := by
  rcases h with ⟨rfl, rfl⟩ | ⟨m, cs, rfl, _⟩ <;> rfl
theorem Deep.one (h : Deep f sz bl v l) : v.one = true := by
  rcases h with ⟨rfl, rfl⟩ | ⟨m, cs, rfl, _⟩ <;> rfl
theorem Deep.cells (h : Deep f sz bl v l) : v.cells = [v] := by
  rcases h with ⟨rfl, rfl⟩ | ⟨m, cs, rfl, _⟩ <;> rfl
theorem Deep.und (h : Deep f sz bl v l) : v.und? = false := by
  rcases h with ⟨rfl, rfl⟩ | ⟨m, cs, rfl, _⟩ <;> rfl
theorem Deep.chkV (h : Deep f sz bl v l) (s : List Nat) : chkV s v = true := chkV_of h.locv s
theorem Deep.lt (h : Deep f sz bl v l) {k : Nat} (hk : blkOf v = some k) : k < bl.length := by
  rcases h with ⟨rfl, rfl⟩ | ⟨m, cs, rfl, h2, _⟩
  · cases hk
  · cases hk; exact (List.getElem?_eq_some_iff.1 h2).1
/-- The blocks that it reaches. -/
def Deep.reach (bl : List Blk) (v : CV) (k : Nat) : Prop := blkOf v = some k ∨ ∃ m cs, blkOf v = some m ∧ bl[m]? = some (.cells cs) ∧ ∃ c ∈ cs, blkOf c = some k
theorem Deep.keep {bl' : List Blk} (h : Deep f sz bl v l) (hk : ∀ (m : Nat) (b : Blk), bl[m]? = some b → Deep.reach bl v m → bl'[m]? = some b) : Deep f sz bl' v l := by
  rcases h with h | ⟨m, cs, rfl, h2, h3, h4⟩
  · exact .inl h
  · exact .inr ⟨m, cs, rfl, hk m _ h2 (.inl rfl), h3.keep fun c hc k b hb hck => hk k b hb (.inr ⟨m, cs, rfl, h2, c, hc, hck⟩), h4⟩
theorem Deep.snapV (hl : ∀ x, (f x).length = sz) (h : Deep f sz bl v l) (bx : List (Nat × List CV)) (st : Bool) : snapV ⟨bx, bl⟩ st false (snapN ⟨bx, bl⟩ st false 7) v = some (sl f l) := by
  rcases h with ⟨rfl, rfl⟩ | ⟨m, cs, rfl, h2, h3, _⟩
  · rfl
  · have hlen := h3.length
    rw [flatMap_len hl] at hlen
    by_cases h0 : l.length = 0
    · have : l = [] := List.eq_nil_of_length_eq_zero h0
      subst this
      rfl
    · unfold Zc.snapV
      rw [if_neg h0, get_blk bx bl m _ h2]
      simp only [Option.bind_some, Nat.zero_add, List.drop_zero]
      rw [if_pos (by omega), List.take_of_length_le (by omega), h3.snap bx st 5]
      rfl

/-- An append of one: a literal's, in a block of its own. -/
theorem Deep.app (hl : ∀ x, (f x).length = sz) (hp : 0 < sz) (h : Deep f sz bl v l) {bytes : Nat} {zero : List CV} (hb : 0 < bytes) (hz : zero.length = sz) (hz1 : Zc.ones zero = true) (x : α) (row : List CV)
    (hr : Cells bl row (f x)) (hrv : ∀ c ∈ row, ∀ k, blkOf c = some k → blkOf v ≠ some k) (hm : (l.length + 1) * bytes ≤ 140737488355328) :
    ∃ v' bl', (∀ bx, heapOp (.app sz bytes zero) [v, .os sz (.blk bl.length) 0 1] ⟨bx, bl ++ [.cells row]⟩ = some (v', ⟨bx, bl'⟩)) ∧ Deep f sz bl' v' (l ++ [x]) ∧
      Fr bl bl' v ∧ blkOf v' = some (bl.length + 1) ∧ (∀ k, Deep.reach bl' v' k → k = bl.length + 1 ∨ Deep.reach bl v k ∨ ∃ c ∈ row, blkOf c = some k) := by
  have hrl := hr.length
  rw [hl] at hrl
  have hsh : ∀ bx, shown ⟨bx, bl ++ [Blk.cells row]⟩ sz (.os sz (.blk bl.length) 0 1) = some row := by
    intro bx
    unfold shown
    simp only [if_true]
    rw [get_blk bx _ bl.length row (by simp)]
    simp only [Option.bind_some, Nat.zero_add, Nat.one_mul, hrl, Nat.le_refl, if_true, List.drop_zero]
    rw [List.take_of_length_le (by omega)]
  have hc := decide_eq_true hm
  rcases h with ⟨rfl, rfl⟩ | ⟨m, cs, rfl, h2, h3, h4⟩
  · refine ⟨.os sz (.blk (bl.length + 1)) 0 1, bl ++ [.cells row] ++ [.cells row], fun bx => ?_, .inr ⟨bl.length + 1, row, by simp, by simp, ?_, fun c hc e => ?_⟩, fun k b hk _ => ?_, rfl, fun k hk => ?_⟩
    · simp only [heapOp, lenOf, Nat.one_ne_zero, if_false, hsh, Option.bind_some, hr.ones, hr.locs, hz, hz1, decide_true, hp, hb, Bool.true_and, Bool.not_false, Bool.and_true, appC, Heap.push]
      rw [if_pos (by simpa [lenOf] using hm)]
      simp
    · simp only [List.nil_append, List.flatMap_cons, List.flatMap_nil, List.append_nil]
      exact hr.keep fun c hc k b hb _ => by
        have := (List.getElem?_eq_some_iff.1 hb).1
        rw [List.append_assoc, List.getElem?_append_left this]; exact hb
    · have := hr.lt c hc _ e; omega
    · have := (List.getElem?_eq_some_iff.1 hk).1
      rw [List.append_assoc, List.getElem?_append_left this]; exact hk
    · rcases hk with hk | ⟨m, cs, h1, h2, c, hc, hck⟩
      · cases hk; exact .inl rfl
      · cases h1
        have : cs = row := by simpa using h2.symm
        subst this
        exact .inr (.inr ⟨c, hc, hck⟩)
  · have hml : m < bl.length := (List.getElem?_eq_some_iff.1 h2).1
    have hlen := h3.length
    rw [flatMap_len hl] at hlen
    have h2' : (bl ++ [Blk.cells row])[m]? = some (.cells cs) := by rw [List.getElem?_append_left hml]; exact h2
    have hkeep : ∀ (k : Nat) (b : Blk), bl[k]? = some b → k ≠ m → (((bl ++ [Blk.cells row]).set m .dead) ++ [Blk.cells (cs ++ row)])[k]? = some b := fun k b hb hne => by
      have hkl := (List.getElem?_eq_some_iff.1 hb).1
      rw [List.getElem?_append_left (by simp; omega), List.getElem?_set_ne (Ne.symm hne), List.getElem?_append_left hkl]; exact hb
    refine ⟨.os sz (.blk (bl.length + 1)) 0 (l.length + 1), ((bl ++ [Blk.cells row]).set m .dead) ++ [Blk.cells (cs ++ row)], fun bx => ?_, .inr ⟨bl.length + 1, cs ++ row, by simp, ?_, ?_, fun c hc e => ?_⟩, fun k b hk hne => ?_, rfl, fun k hk => ?_⟩
    · simp only [heapOp, lenOf, Nat.one_ne_zero, if_false, hsh, Option.bind_some, hr.ones, hr.locs, hz, hz1, hc, decide_true, hp, hb, Bool.true_and, Bool.not_false, Bool.and_true, if_true, appC]
      rw [get_blk bx _ m _ h2']
      simp only [Option.bind_some, hlen, Nat.le_refl, if_true, Heap.kill, Heap.push]
      rw [List.take_of_length_le (by omega)]
      simp [hm]
    · simp
    · rw [List.flatMap_append, List.flatMap_cons, List.flatMap_nil, List.append_nil]
      refine Cells.app (h3.keep fun c hc k b hb hck => hkeep k b hb fun e => ?_) (hr.keep fun c hc k b hb hck => hkeep k b hb fun e => ?_)
      · subst e; exact h4 c hc hck
      · subst e; exact hrv c hc _ hck rfl
    · rcases List.mem_append.1 hc with hc | hc
      · have := h3.lt c hc _ e; omega
      · have := hr.lt c hc _ e; omega
    · exact hkeep k b hk fun e => hne (by rw [e]; rfl)
    · rcases hk with hk | ⟨m', cs', h1, h2', c, hc, hck⟩
      · cases hk; exact .inl rfl
      · cases h1
        have : cs' = cs ++ row := by
          rw [List.getElem?_append_right (by simp)] at h2'
          simpa using h2'.symm
        subst this
        rcases List.mem_append.1 hc with hc | hc
        · exact .inr (.inl (.inr ⟨m, cs, rfl, h2, c, hc, hck⟩))
        · exact .inr (.inr ⟨c, hc, hck⟩)
end

theorem Deep.reach_lt {α : Type} {f : α → List CV} {sz : Nat} {bl : List Blk} {v : CV} {l : List α} (h : Deep f sz bl v l) {k : Nat} (hk : Deep.reach bl v k) : k < bl.length := by
  rcases hk with hk | ⟨m, cs, h1, h2, c, hc, hck⟩
  · exact h.lt hk
  · rcases h with ⟨rfl, rfl⟩ | ⟨m', cs', rfl, h2', h3, _⟩
    · cases h1
    · cases h1
      rw [h2'] at h2
      cases h2
      exact h3.lt c hc k hck
/-- What it reaches stays, if its block does. -/
theorem Deep.reach_keep {α : Type} {f : α → List CV} {sz : Nat} {bl bl' : List Blk} {v : CV} {l : List α} (h : Deep f sz bl v l) (hk : ∀ (m : Nat) (b : Blk), bl[m]? = some b → blkOf v = some m → bl'[m]? = some b) {k : Nat} (hr : Deep.reach bl' v k) : Deep.reach bl v k := by
  rcases hr with hr | ⟨m, cs, h1, h2, c, hc, hck⟩
  · exact .inl hr
  · rcases h with ⟨rfl, rfl⟩ | ⟨m', cs', rfl, h2', h3, _⟩
    · cases h1
    · cases h1
      have := hk _ _ h2' rfl
      rw [this] at h2
      cases h2
      exact .inr ⟨_, _, rfl, h2', c, hc, hck⟩
theorem Deep.reach_nils {bl : List Blk} {k : Nat} (h : Deep.reach bl .nils k) : False := by
  rcases h with h | ⟨m, cs, h1, _⟩
  · cases h
  · cases h1
end Go.Zc
end
section
namespace Go.Zc

def nearL (l : Lay) (n : Int) : List Int := (around l ⟨n, 0⟩).map Ed.s ++ (around l ⟨n, 1⟩).map Ed.s
def near (l : Lay) (n : Int) : List Int := rise (nearL l n)
def partOf (l : Lay) (n : Int) : Int := match l.parts.findIdx? fun p => decide (n ∈ p) with
  | some i => i
  | none => -1
def besideL (l : Lay) (p : Int) (q : List Int) : List Int := q.flatMap fun s => ((near l s).map (partOf l)).filter fun k => decide (0 ≤ k) && decide (k ≠ p)
def partIx (l : Lay) (p : Int) : Option (List Int) := if 0 ≤ p then l.parts[p.toNat]? else none
def beside (l : Lay) (p : Int) : List Int := match partIx l p with
  | some q => rise (besideL l p q)
  | none => []
theorem partIx_some {l : Lay} {p : Int} {q : List Int} (h : partIx l p = some q) : ∃ n : Nat, ∃ hn : n < l.parts.length, p = n ∧ q = l.parts[n] := by
  unfold partIx at h
  split at h
  · obtain ⟨n, rfl⟩ := Int.eq_ofNat_of_zero_le ‹0 ≤ p›
    obtain ⟨hn, h⟩ := List.getElem?_eq_some_iff.1 h
    exact ⟨n, hn, rfl, h.symm⟩
  · cases h
theorem partIx_none {l : Lay} {p : Int} (h : partIx l p = none) : p < 0 ∨ (0 ≤ p ∧ (l.parts.length : Int) ≤ p) := by
  unfold partIx at h
  split at h
  · obtain ⟨n, rfl⟩ := Int.eq_ofNat_of_zero_le ‹0 ≤ p›
    have := List.getElem?_eq_none_iff.1 h
    right
    simp at this; omega
  · left; omega

theorem near_len (l : Lay) (n : Int) : (near l n).length ≤ 4 := by
  have h1 := nodup_le (rise_nodup (nearL l n)) (b := nearL l n) fun y hy => (rise_mem _ y).1 hy
  have hb0 := around_len l ⟨n, 0⟩
  have hb1 := around_len l ⟨n, 1⟩
  unfold near
  simp only [nearL, List.length_append, List.length_map] at h1 ⊢
  omega
end Go.Zc
end
section
namespace Go.Zc

/-! ### The way back -/
def backs (E : List Ed) (pts : List Pt) : Bool := allEnds E fun x => (aroundG E pts x).all fun y => decide (x ∈ aroundG E pts y)
theorem backs_all : shapes.all (fun S => backs S.1 S.2) = true := by kernel_rfl
theorem full_back (d : Draft) (x y : Ed) (h : y ∈ around (full d) x) : x ∈ around (full d) y := by
  rw [full_around] at h ⊢
  have h1 := List.all_eq_true.1 backs_all _ (shape_mem d.form)
  have hx : nodeG (mkEnds d.form) x ≠ none := by
    intro h0
    simp [aroundG, h0] at h
  have h2 := allEnds_of h1 hx
  have h3 := List.all_eq_true.1 h2 y h
  exact of_decide_eq_true h3

theorem around_ends {l : Lay} {x y : Ed} (h : y ∈ around l x) : x.e = 0 ∨ x.e = 1 := by
  unfold around nodeOf at h
  by_cases h0 : x.e = 0
  · exact .inl h0
  · by_cases h1 : x.e = 1
    · exact .inr h1
    · exfalso
      cases hs : (if 0 ≤ x.s then l.secs[x.s.toNat]? else none) <;> simp [hs, h0, h1] at h

theorem near_of {l : Lay} {x y : Ed} (h : y ∈ around l x) : y.s ∈ near l x.s := by
  unfold near nearL
  rw [rise_mem, List.mem_append, List.mem_map, List.mem_map]
  obtain ⟨s, e⟩ := x
  rcases around_ends h with h0 | h0 <;> simp only at h0 <;> subst h0
  · exact .inl ⟨y, h, rfl⟩
  · exact .inr ⟨y, h, rfl⟩
theorem near_to {l : Lay} {s n : Int} (h : n ∈ near l s) : ∃ x y, x.s = s ∧ y.s = n ∧ y ∈ around l x := by
  unfold near nearL at h
  rw [rise_mem, List.mem_append, List.mem_map, List.mem_map] at h
  rcases h with ⟨y, hy, rfl⟩ | ⟨y, hy, rfl⟩
  · exact ⟨_, y, rfl, rfl, hy⟩
  · exact ⟨_, y, rfl, rfl, hy⟩
theorem full_near (d : Draft) {s n : Int} (h : n ∈ near (full d) s) : s ∈ near (full d) n := by
  obtain ⟨x, y, rfl, rfl, h'⟩ := near_to h
  exact near_of (full_back d x y h')

/-! ### Forms -/
def forms : List Int := [0, 4, 8, 12, 16, 20, 1, 2, 3]
theorem form_in (form : Int) : ∃ f ∈ forms, mkEnds form = mkEnds f ∧ mkPts form = mkPts f ∧ ∀ u, (mkXY form u).length = (mkXY f 0).length := by
  have h4 : form % 4 = 0 ∨ form % 4 = 1 ∨ form % 4 = 2 ∨ form % 4 = 3 := by omega
  rcases h4 with h | h | h | h
  · have h6 : form / 4 % 6 = 0 ∨ form / 4 % 6 = 1 ∨ form / 4 % 6 = 2 ∨ form / 4 % 6 = 3 ∨ form / 4 % 6 = 4 ∨ form / 4 % 6 = 5 := by omega
    rcases h6 with k | k | k | k | k | k
    · exact ⟨0, by decide, by simp [mkEnds, h, mkN, k], by simp [mkPts, h], by intro u; simp [mkXY, h, mkN, k]⟩
    · exact ⟨4, by decide, by simp [mkEnds, h, mkN, k], by simp [mkPts, h], by intro u; simp [mkXY, h, mkN, k]⟩
    · exact ⟨8, by decide, by simp [mkEnds, h, mkN, k], by simp [mkPts, h], by intro u; simp [mkXY, h, mkN, k]⟩
    · exact ⟨12, by decide, by simp [mkEnds, h, mkN, k], by simp [mkPts, h], by intro u; simp [mkXY, h, mkN, k]⟩
    · exact ⟨16, by decide, by simp [mkEnds, h, mkN, k], by simp [mkPts, h], by intro u; simp [mkXY, h, mkN, k]⟩
    · exact ⟨20, by decide, by simp [mkEnds, h, mkN, k], by simp [mkPts, h], by intro u; simp [mkXY, h, mkN, k]⟩
  · exact ⟨1, by decide, by simp [mkEnds, h], by simp [mkPts, h], by intro u; simp [mkXY, h]⟩
  · exact ⟨2, by decide, by simp [mkEnds, h], by simp [mkPts, h], by intro u; simp [mkXY, h]⟩
  · exact ⟨3, by decide, by simp [mkEnds, h], by simp [mkPts, h], by intro u; simp [mkXY, h]⟩

/-! ### Each end is at one node -/
def endSum (E : List Ed) (n : Nat) : Nat := ((List.range n).map fun i => (endsG (i : Nat) 0 E).length).sum
theorem endSums : forms.all (fun f => Nat.beq (endSum (mkEnds f) (mkXY f 0).length) (2 * (mkEnds f).length)) = true := by kernel_rfl
theorem full_ends (d : Draft) (n : Int) : ends (full d) n = endsG n 0 (mkEnds d.form) := by
  unfold ends
  rw [make_secs, ends_mk]
theorem mkSecs_len (u : Int) : ∀ (E : List Ed) (j : Nat), (mkSecs u j E).length = E.length
  | [], _ => rfl
  | _ :: E, j => by simp [mkSecs, mkSecs_len u E]
theorem full_secs_len (d : Draft) : (full d).secs.length = (mkEnds d.form).length := by rw [make_secs, mkSecs_len]
theorem full_endSum (d : Draft) : ((List.range (full d).nodes.length).map fun i => (ends (full d) (i : Nat)).length).sum = 2 * (full d).secs.length := by
  obtain ⟨f, hf, h1, _, h3⟩ := form_in d.form
  have h4 := List.all_eq_true.1 endSums f hf
  rw [Nat.beq_eq] at h4
  have hn : (full d).nodes.length = (mkXY f 0).length := by
    show ((mkXY d.form (unitOf d.len)).map fl2).length = _
    rw [List.length_map, h3]
  rw [hn, full_secs_len, h1, ← h4]
  unfold endSum
  simp only [full_ends, h1]

/-! ### Parts -/
def partG (P : List (List Int)) (n : Int) : Int := match P.findIdx? fun p => decide (n ∈ p) with
  | some i => i
  | none => -1
theorem partOf_eq (l : Lay) (n : Int) : partOf l n = partG l.parts n := rfl
def nearG (E : List Ed) (pts : List Pt) (n : Int) : List Int := rise ((aroundG E pts ⟨n, 0⟩).map Ed.s ++ (aroundG E pts ⟨n, 1⟩).map Ed.s)
theorem full_nearG (d : Draft) (n : Int) : near (full d) n = nearG (mkEnds d.form) (mkPts d.form) n := by
  unfold near nearL nearG
  simp only [full_around]
def nearT (f : Int) : List (List Int) := (List.range (mkEnds f).length).map fun s => nearG (mkEnds f) (mkPts f) (s : Nat)
def nearTs : List (Int × List (List Int)) := [(0, [[1], [0, 2], [1]]), (4, [[1], [0, 2], [1, 3], [2]]), (8, [[1], [0, 2], [1, 3], [2, 4], [3]]), (12, [[1], [0, 2], [1, 3], [2, 4], [3, 5], [4]]), (16, [[1], [0, 2], [1, 3], [2, 4], [3, 5], [4, 6], [5]]), (20, [[1], [0, 2], [1, 3], [2, 4], [3, 5], [4, 6], [5, 7], [6]]), (1, [[1, 2], [0], [0]]), (2, [[1], [0, 2, 3], [1, 4], [1, 5], [2, 6], [3, 6], [4, 5, 7], [6]]), (3, [[1], [0, 2, 3], [1, 4], [1, 5], [2], [3]])]
theorem nearTs_ok : nearTs.all (fun x => decide (nearT x.1 = x.2)) = true := by kernel_rfl
theorem nearTs_all : forms = nearTs.map (·.1) := by decide
def besT (T P : List (List Int)) (k : Int) (q : List Int) : List Int := q.flatMap fun s => ((T[s.toNat]?.getD []).map (partG P)).filter fun x => decide (0 ≤ x) && decide (x ≠ k)
/-- Each section is in just one part; few parts are beside one. -/
def partsOk (T P : List (List Int)) : Bool :=
  ((List.range T.length).all fun s => (fun k : Int => decide (0 ≤ k) && decide (k.toNat < P.length) && decide ((s : Int) ∈ P[k.toNat]?.getD [])) (partG P s)) &&
  ((List.range P.length).all fun k => (P[k]?.getD []).all fun s => decide (partG P s = k) && decide (0 ≤ s) && decide (s.toNat < T.length)) &&
  (List.range P.length).all fun k => Nat.ble (besT T P k (P[k]?.getD [])).length 12
def joinsOk (n : Nat) : Bool := nearTs.all fun x => (List.range n).all fun j => partsOk x.2 (mkParts j 0 x.2.length [])
set_option maxRecDepth 100000 in
theorem joinsOk_256 : joinsOk 256 = true := by kernel_rfl
end Go.Zc
end
section
namespace Go.Zc

theorem fz_run {C : Ctx} {kn : Bool} {np : Nat} {code : CCode} {res : List Res} {st : Bool} {H : Heap} {xs : List CV} {r : CV × Heap} (n : Nat)
    (h : (if xs.length = np then (run C n code (enterC 0 xs) ⟨[], []⟩).bind (fzOut res st kn H) else none) = some r) : fzE C kn np code res st H xs = some r := by
  unfold fzE
  split at h
  · rename_i hl
    rw [if_pos hl]
    obtain ⟨x, hx, hr⟩ := Option.bind_eq_some_iff.1 h
    rw [run_eval C n _ _ _ _ hx]
    exact hr
  · cases h


theorem near_in {l : Lay} {s n : Int} (h : n ∈ near l s) : 0 ≤ n ∧ n < l.secs.length := by
  obtain ⟨x, y, _, rfl, h'⟩ := near_to h
  exact (around_in h').1

theorem mkParts_of (d : Draft) : (full d).parts = mkParts d.join 0 (mkEnds d.form).length [] := rfl

theorem full_partsOk (d : Draft) (hd : d.ok) : ∃ T : List (List Int), T.length = (full d).secs.length ∧ (∀ n : Nat, n < T.length → near (full d) n = T[n]?.getD []) ∧ partsOk T (full d).parts = true := by
  obtain ⟨f, hf, h1, h2, _⟩ := form_in d.form
  rw [nearTs_all, List.mem_map] at hf
  obtain ⟨⟨f', T⟩, hm, rfl⟩ := hf
  have hT := of_decide_eq_true (List.all_eq_true.1 nearTs_ok _ hm)
  simp only at hT h1 h2
  have hj := List.all_eq_true.1 joinsOk_256 _ hm
  have hjo := hd.join
  obtain ⟨j, hj'⟩ := Int.eq_ofNat_of_zero_le hjo.1
  have hj2 := List.all_eq_true.1 hj j (List.mem_range.2 (by omega))
  have hl : T.length = (mkEnds d.form).length := by
    rw [← hT, h1]
    simp [nearT]
  refine ⟨T, by rw [full_secs_len, hl], fun n hn => ?_, ?_⟩
  · rw [full_nearG, h1, h2, ← hT]
    rw [hl, h1] at hn
    simp [nearT, hn]
  · rw [mkParts_of, ← hl, hj']
    exact hj2

theorem full_part (d : Draft) (hd : d.ok) {s : Int} (h0 : 0 ≤ s) (h1 : s < (full d).secs.length) : ∃ n : Nat, ∃ hn : n < (full d).parts.length, partOf (full d) s = n ∧ s ∈ (full d).parts[n] := by
  obtain ⟨T, hT, _, h⟩ := full_partsOk d hd
  unfold partsOk at h
  simp only [Bool.and_eq_true, List.all_eq_true, List.mem_range, decide_eq_true_eq] at h
  obtain ⟨n, rfl⟩ := Int.eq_ofNat_of_zero_le h0
  obtain ⟨⟨a, b⟩, c⟩ := h.1.1 n (by omega)
  rw [← partOf_eq] at a b c
  refine ⟨(partOf (full d) n).toNat, b, by omega, ?_⟩
  rw [List.getElem?_eq_getElem b] at c
  exact c
theorem full_partIx (d : Draft) (hd : d.ok) {k : Nat} (hk : k < (full d).parts.length) {s : Int} (hs : s ∈ (full d).parts[k]) : partOf (full d) s = k ∧ 0 ≤ s ∧ s < (full d).secs.length := by
  obtain ⟨T, hT, _, h⟩ := full_partsOk d hd
  unfold partsOk at h
  simp only [Bool.and_eq_true, List.all_eq_true, List.mem_range, decide_eq_true_eq] at h
  have := h.1.2 k hk
  rw [List.getElem?_eq_getElem hk] at this
  obtain ⟨⟨a, b⟩, c⟩ := this s hs
  rw [← partOf_eq] at a
  exact ⟨a, b, by omega⟩

theorem flatMap_congr' {α β : Type} {f g : α → List β} : ∀ {l : List α}, (∀ x ∈ l, f x = g x) → l.flatMap f = l.flatMap g
  | [], _ => rfl
  | x :: l, h => by
    rw [List.flatMap_cons, List.flatMap_cons, h x (by simp), flatMap_congr' fun y hy => h y (by simp [hy])]
/-- Few parts are beside one. -/
theorem full_beside (d : Draft) (hd : d.ok) (pt : Int) : ∀ q, partIx (full d) pt = some q → (besideL (full d) pt q).length ≤ 12 := by
  intro q hq
  obtain ⟨n, hn, rfl, rfl⟩ := partIx_some hq
  have hin := fun s => full_partIx d hd hn (s := s)
  obtain ⟨T, hT, hN, h⟩ := full_partsOk d hd
  unfold partsOk at h
  simp only [Bool.and_eq_true, List.all_eq_true, List.mem_range] at h
  have h2 := Nat.le_of_ble_eq_true (h.2 n hn)
  rw [List.getElem?_eq_getElem hn] at h2
  have : besideL (full d) n (full d).parts[n] = besT T (full d).parts n (full d).parts[n] := by
    unfold besideL besT
    refine flatMap_congr' fun s hs => ?_
    obtain ⟨_, s0, s1⟩ := hin s hs
    obtain ⟨m, rfl⟩ := Int.eq_ofNat_of_zero_le s0
    rw [hN m (by omega)]
    rfl
  rw [this]
  exact h2

theorem beside_mem {l : Lay} {p b : Int} (h : b ∈ beside l p) : ∃ q, partIx l p = some q ∧ ∃ s ∈ q, ∃ n ∈ near l s, partOf l n = b ∧ 0 ≤ b ∧ b ≠ p := by
  unfold beside at h
  cases hq : partIx l p with
  | none => simp [hq] at h
  | some q =>
    simp only [hq, rise_mem, besideL, List.mem_flatMap, List.mem_filter, List.mem_map, Bool.and_eq_true, decide_eq_true_eq] at h
    obtain ⟨s, hs, ⟨n, hn, rfl⟩, h0, h1⟩ := h
    exact ⟨q, rfl, s, hs, n, hn, rfl, h0, h1⟩
/-- What is beside a part has it beside itself. -/
theorem full_besides (d : Draft) (hd : d.ok) {p b : Int} (h : b ∈ beside (full d) p) : b ≠ p ∧ p ∈ beside (full d) b ∧ 0 ≤ b ∧ b < (full d).parts.length := by
  obtain ⟨q, hq, s, hs, n, hn, hb, h0, h1⟩ := beside_mem h
  obtain ⟨k, hk, rfl, rfl⟩ := partIx_some hq
  obtain ⟨s1, s2, s3⟩ := full_partIx d hd hk hs
  obtain ⟨n1, n2⟩ := near_in hn
  obtain ⟨m, hm, m1, m2⟩ := full_part d hd n1 n2
  rw [hb] at m1
  subst m1
  refine ⟨h1, ?_, h0, by omega⟩
  have hix : partIx (full d) m = some (full d).parts[m] := by
    unfold partIx
    simp only [Int.toNat_natCast, Int.natCast_nonneg, if_true, List.getElem?_eq_getElem hm]
  unfold beside
  simp only [hix, rise_mem, besideL, List.mem_flatMap, List.mem_filter, List.mem_map, Bool.and_eq_true, decide_eq_true_eq]
  exact ⟨n, m2, ⟨s, full_near d hn, s1⟩, by omega, fun e => h1 e.symm⟩
theorem beside_len (d : Draft) (hd : d.ok) (p : Int) : (beside (full d) p).length ≤ 12 := by
  unfold beside
  cases hq : partIx (full d) p with
  | none => simp
  | some q =>
    have h1 := full_beside d hd p q hq
    have h2 := nodup_le (rise_nodup (besideL (full d) p q)) (b := besideL (full d) p q) fun y hy => (rise_mem _ y).1 hy
    simp only
    omega
end Go.Zc
end
