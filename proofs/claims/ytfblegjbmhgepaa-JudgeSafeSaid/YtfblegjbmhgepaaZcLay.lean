/- Layouts, ends, points as cells. No condition. -/
import Derived.Test.YtfblegjbmhgepaaZcRun
import Derived.IntWalk
import Derived.KernelRfl
import Derived.Shelf.SlIterI.Sorted
import Derived.Shelf.SlIterI.Nil
set_option linter.all false
section
namespace Go.Zc

def small : Nat := 1000000000

theorem wrapN {n : Nat} (h : n ≤ 4 * small) : IntKind.i64.wrap ((n : Int) + 1) = ((n + 1 : Nat) : Int) := by
 unfold small at h
 rw [IntKind.wrap_i64]; omega
theorem wrapM {n : Nat} (h : n < 9223372036854775807) : IntKind.i64.wrap ((n : Int) + 1) = ((n + 1 : Nat) : Int) := by
 rw [IntKind.wrap_i64]; omega
theorem wrap64 {n : Int} (h : -9223372036854775808 ≤ n) (h' : n ≤ 9223372036854775807) : IntKind.i64.wrap n = n := by
 rw [IntKind.wrap_i64]; omega

def fI (n : Int) : List CV := [.int .i64 n]
def fU (n : Int) : List CV := [.int .u8 n]
def fB (b : Bool) : List CV := [.bool b]
def fL (l : List Int) : List CV := [sl fI l]
def fZ (z : Nat × Nat) : List CV := [.cplx .f64 z.1 z.2]

structure Ed where
 s : Int
 e : Int
 deriving DecidableEq
def fE (x : Ed) : List CV := [.int .i64 x.s, .int .i64 x.e]
structure Sec where
 len : Int
 a : Int
 b : Int
 deriving DecidableEq
def fS (x : Sec) : List CV := [.int .i64 x.len, .int .i64 x.a, .int .i64 x.b]
structure Pt where
 node : Int
 stem : Int
 left : Int
 right : Int
 deriving DecidableEq
def fP (x : Pt) : List CV := [.int .i64 x.node, .int .i64 x.stem, .int .i64 x.left, .int .i64 x.right]

theorem flatI : Flat fI 1 := ⟨fun _ => rfl, by decide, fun _ => rfl, fun _ => rfl, fun _ => rfl⟩
theorem flatU : Flat fU 1 := ⟨fun _ => rfl, by decide, fun _ => rfl, fun _ => rfl, fun _ => rfl⟩
theorem flatB : Flat fB 1 := ⟨fun _ => rfl, by decide, fun _ => rfl, fun _ => rfl, fun _ => rfl⟩
theorem flatL : Flat fL 1 := ⟨fun _ => rfl, by decide, fun _ => rfl, fun _ => rfl, fun _ => rfl⟩
theorem flatZ : Flat fZ 1 := ⟨fun _ => rfl, by decide, fun _ => rfl, fun _ => rfl, fun _ => rfl⟩
theorem flatE : Flat fE 2 := ⟨fun _ => rfl, by decide, fun _ => rfl, fun _ => rfl, fun _ => rfl⟩
theorem flatS : Flat fS 3 := ⟨fun _ => rfl, by decide, fun _ => rfl, fun _ => rfl, fun _ => rfl⟩
theorem flatP : Flat fP 4 := ⟨fun _ => rfl, by decide, fun _ => rfl, fun _ => rfl, fun _ => rfl⟩

theorem iaddr_mid {α : Type} {f : α → List CV} {sz : Nat} (hf : Flat f sz) (k : IntKind) (pre suf : List α) (x : α) : iaddrC sz (sl f (pre ++ x :: suf)) (.int k pre.length) = some (.vp (f x ++ suf.flatMap f)) := by
 have := iaddr_sl hf.len hf.pos (l := pre ++ x :: suf) (k := k) (i := pre.length) (by simp)
 rw [this]
 simp

theorem iaddr_midI (k : IntKind) (pre suf : List Int) (x : Int) : iaddrC 1 (sl fI (pre ++ x :: suf)) (.int k pre.length) = some (.vp (.int .i64 x :: suf.flatMap fI)) := iaddr_mid flatI k pre suf x
theorem iaddr_midE (k : IntKind) (pre suf : List Ed) (x : Ed) : iaddrC 2 (sl fE (pre ++ x :: suf)) (.int k pre.length) = some (.vp (.int .i64 x.s :: .int .i64 x.e :: suf.flatMap fE)) := iaddr_mid flatE k pre suf x
theorem iaddr_midS (k : IntKind) (pre suf : List Sec) (x : Sec) : iaddrC 3 (sl fS (pre ++ x :: suf)) (.int k pre.length) = some (.vp (.int .i64 x.len :: .int .i64 x.a :: .int .i64 x.b :: suf.flatMap fS)) := iaddr_mid flatS k pre suf x
theorem iaddr_midP (k : IntKind) (pre suf : List Pt) (x : Pt) : iaddrC 4 (sl fP (pre ++ x :: suf)) (.int k pre.length) = some (.vp (.int .i64 x.node :: .int .i64 x.stem :: .int .i64 x.left :: .int .i64 x.right :: suf.flatMap fP)) := iaddr_mid flatP k pre suf x
theorem iaddr_midL (k : IntKind) (pre suf : List (List Int)) (x : List Int) : iaddrC 1 (sl fL (pre ++ x :: suf)) (.int k pre.length) = some (.vp (sl fI x :: suf.flatMap fL)) := iaddr_mid flatL k pre suf x
theorem iaddr_midB (k : IntKind) (pre suf : List Bool) (x : Bool) : iaddrC 1 (sl fB (pre ++ x :: suf)) (.int k pre.length) = some (.vp (.bool x :: suf.flatMap fB)) := iaddr_mid flatB k pre suf x

theorem iaddr_atI {k : IntKind} {l : List Int} {i : Nat} (h : i < l.length) : iaddrC 1 (sl fI l) (.int k i) = some (.vp (.int .i64 l[i] :: (l.drop (i + 1)).flatMap fI)) := iaddr_sl flatI.len flatI.pos h
theorem iaddr_atE {k : IntKind} {l : List Ed} {i : Nat} (h : i < l.length) : iaddrC 2 (sl fE l) (.int k i) = some (.vp (.int .i64 l[i].s :: .int .i64 l[i].e :: (l.drop (i + 1)).flatMap fE)) := iaddr_sl flatE.len flatE.pos h
theorem iaddr_atS {k : IntKind} {l : List Sec} {i : Nat} (h : i < l.length) : iaddrC 3 (sl fS l) (.int k i) = some (.vp (.int .i64 l[i].len :: .int .i64 l[i].a :: .int .i64 l[i].b :: (l.drop (i + 1)).flatMap fS)) := iaddr_sl flatS.len flatS.pos h
theorem iaddr_atP {k : IntKind} {l : List Pt} {i : Nat} (h : i < l.length) : iaddrC 4 (sl fP l) (.int k i) = some (.vp (.int .i64 l[i].node :: .int .i64 l[i].stem :: .int .i64 l[i].left :: .int .i64 l[i].right :: (l.drop (i + 1)).flatMap fP)) := iaddr_sl flatP.len flatP.pos h
theorem iaddr_atL {k : IntKind} {l : List (List Int)} {i : Nat} (h : i < l.length) : iaddrC 1 (sl fL l) (.int k i) = some (.vp (sl fI l[i] :: (l.drop (i + 1)).flatMap fL)) := iaddr_sl flatL.len flatL.pos h

theorem slc_sl {α : Type} {f : α → List CV} {sz : Nat} (hf : Flat f sz) (l : List α) (a b : Nat) (h : a ≤ b) (h' : b ≤ l.length) (k k' : IntKind) : slcC sz (sl f l) (some (.int k a)) (some (.int k' b)) = some (sl f ((l.take b).drop a)) := by
 unfold slcC sl
 simp only [sbound]
 rw [if_pos ⟨by omega, by omega⟩]
 simp only [Option.bind_some, Int.toNat_natCast]
 rw [if_pos ⟨by omega, by omega⟩]
 simp only [Option.map_some, Int.toNat_natCast, flatMap_take hf.len, flatMap_drop hf.len]
 congr 1
 simp
 omega
theorem slc_lo {α : Type} {f : α → List CV} {sz : Nat} (hf : Flat f sz) (l : List α) (a : Nat) (h : a ≤ l.length) (k : IntKind) : slcC sz (sl f l) (some (.int k a)) none = some (sl f (l.drop a)) := by
 unfold slcC sl
 simp only [sbound]
 simp only [Option.bind_some]
 rw [if_pos ⟨by omega, by omega⟩]
 simp only [Option.map_some, Int.toNat_natCast, flatMap_take hf.len, flatMap_drop hf.len]
 congr 1
 simp
theorem slc_hi {α : Type} {f : α → List CV} {sz : Nat} (hf : Flat f sz) (l : List α) (b : Nat) (h' : b ≤ l.length) (k' : IntKind) : slcC sz (sl f l) none (some (.int k' b)) = some (sl f (l.take b)) := by
 unfold slcC sl
 simp only [sbound]
 rw [if_pos ⟨by omega, by omega⟩]
 simp only [Option.bind_some, Int.toNat_natCast, Option.map_some, Nat.zero_mul, List.drop_zero, flatMap_take hf.len, Nat.sub_zero]
 congr 1
 simp
 omega

/-- A layout. -/
structure Lay where
 nodes : List (Nat × Nat)
 secs : List Sec
 parts : List (List Int)
 pts : List Pt
 routes : List (List Int)
 speed : Int
 mute : Int
 wait : Int
 cancel : Int
 stay : Int
abbrev layC (l : Lay) : List CV := [sl fZ l.nodes, sl fS l.secs, sl fL l.parts, sl fP l.pts, sl fL l.routes, .int .i64 l.speed, .int .i64 l.mute, .int .i64 l.wait, .int .i64 l.cancel, .int .i64 l.stay]
structure Lay.ok (l : Lay) : Prop where
 nodes : l.nodes.length ≤ small
 secs : l.secs.length ≤ small
 parts : l.parts.length ≤ small
 pts : l.pts.length ≤ small
 routes : l.routes.length ≤ small
 part : ∀ p ∈ l.parts, p.length ≤ small
 route : ∀ p ∈ l.routes, p.length ≤ small

def secAt (l : Lay) (n : Int) : Option Sec := if 0 ≤ n then l.secs[n.toNat]? else none
def secC : Option Sec → List CV
 | some x => fS x
 | none => [.int .i64 0, .int .i64 0, .int .i64 0]

/-! ### What a track tells -/
def endsFrom (at' : Int) : Nat → List Sec → List Ed
 | _, [] => []
 | i, s :: r => (if s.a = at' then [⟨i, 0⟩] else []) ++ (if s.b = at' then [⟨i, 1⟩] else []) ++ endsFrom at' (i + 1) r
def ends (l : Lay) (at' : Int) : List Ed := endsFrom at' 0 l.secs
def nodeOf (l : Lay) (x : Ed) : Option Int := (if 0 ≤ x.s then l.secs[x.s.toNat]? else none).bind fun s => if x.e = 0 then some s.a else if x.e = 1 then some s.b else none
def ptOf (l : Lay) (at' : Int) : Option Nat := l.pts.findIdx? fun p => p.node == at'
def oneOf (l : Lay) (sec at' : Int) : List Ed := match (ends l at').find? fun x => x.s == sec with
 | some x => [x]
 | none => []
def around (l : Lay) (x : Ed) : List Ed :=
 match nodeOf l x with
 | none => []
 | some n =>
  match l.pts.find? fun p => p.node == n with
  | some p => if x.s = p.stem then oneOf l p.left n ++ oneOf l p.right n else if x.s = p.left ∨ x.s = p.right then oneOf l p.stem n else []
  | none => if ((ends l n).filter fun y => y ≠ x).length = 1 then (ends l n).filter fun y => y ≠ x else []

def lenAt (l : Lay) (s : Int) : Int := ((if 0 ≤ s then l.secs[s.toNat]? else none).map Sec.len).getD 0

/-- Which of some ends a number turns to. -/
def turn (turns : List Int) (i n : Nat) : Nat := match turns[i]? with
 | some t => t.toNat % n
 | none => 0
def walkFrom (l : Lay) (turns : List Int) : Nat → Nat → List Int → Ed → List Int
 | 0, _, out, _ => out
 | n + 1, i, out, x =>
  match (around l x)[turn turns i (around l x).length]? with
  | none => out
  | some y => if y.s ∈ out then out else walkFrom l turns n (i + 1) (out ++ [y.s]) ⟨y.s, 1 - y.e⟩
def walk (l : Lay) (s e : Int) (turns : List Int) (most : Int) : List Int := walkFrom l turns (most - 1).toNat 0 [s] ⟨s, e⟩

theorem eqE (x y : Ed) : eqCs [(0, false, 1, .int), (1, false, 1, .int)] (fE x) (fE y) = some (decide (x = y)) := by
 obtain ⟨a, b⟩ := x
 obtain ⟨c, d⟩ := y
 simp only [fE, eqCs, partC, Bool.false_eq_true, if_false, List.getElem?_cons_zero, List.getElem?_cons_succ, eqC, if_true]
 by_cases h1 : a = c
 · subst h1
  by_cases h2 : b = d
  · subst h2; simp
  · have : (b == d) = false := by simpa using h2
   simp [this, h2]
 · have : (a == c) = false := by simpa using h1
  simp [this, h1]

/-! ### Lists of lists that are being made -/
/-- The outer block's cells. -/
def nest : List Nat → List (List Int) → List CV
 | k :: ks, p :: ps => .os 1 (.blk k) 0 p.length :: nest ks ps
 | _, _ => []
/-- Each inner one lies in its block. -/
def Inner (bl : List Blk) : List Nat → List (List Int) → Prop
 | k :: ks, p :: ps => bl[k]? = some (.cells (p.flatMap fI)) ∧ Inner bl ks ps
 | [], [] => True
 | _, _ => False
/-- A slice of slices of numbers, all of it being made; 'ids': the blocks. -/
def OwnL (bl : List Blk) (v : CV) (ids : List Nat) (ps : List (List Int)) : Prop :=
 (v = .nils ∧ ps = [] ∧ ids = []) ∨ ∃ m ks, ids = m :: ks ∧ v = .os 1 (.blk m) 0 ps.length ∧ bl[m]? = some (.cells (nest ks ps)) ∧ Inner bl ks ps ∧ (m :: ks).Nodup

theorem Inner.length {bl : List Blk} : ∀ {ks : List Nat} {ps : List (List Int)}, Inner bl ks ps → ks.length = ps.length
 | [], [], _ => rfl
 | _ :: _, _ :: _, h => by simp [Inner.length h.2]
 | [], _ :: _, h => h.elim
 | _ :: _, [], h => h.elim
theorem Inner.mono {bl bl' : List Blk} : ∀ {ks : List Nat} {ps : List (List Int)}, Inner bl ks ps → (∀ k ∈ ks, ∀ b, bl[k]? = some b → bl'[k]? = some b) → Inner bl' ks ps
 | [], [], _, _ => trivial
 | k :: ks, p :: ps, h, hk => ⟨hk k (by simp) _ h.1, Inner.mono h.2 fun k' h' => hk k' (by simp [h'])⟩
 | [], _ :: _, h, _ => h.elim
 | _ :: _, [], h, _ => h.elim
theorem Inner.lt {bl : List Blk} : ∀ {ks : List Nat} {ps : List (List Int)}, Inner bl ks ps → ∀ k ∈ ks, k < bl.length
 | [], [], _, k, hk => by simp at hk
 | k :: ks, p :: ps, h, k', hk => by
  rcases List.mem_cons.1 hk with rfl | hk
  · exact (List.getElem?_eq_some_iff.1 h.1).1
  · exact Inner.lt h.2 _ hk
 | [], _ :: _, h, _, _ => h.elim
 | _ :: _, [], h, _, _ => h.elim
theorem Inner.app {bl : List Blk} : ∀ {ks : List Nat} {ps : List (List Int)} {k : Nat} {p : List Int}, Inner bl ks ps → bl[k]? = some (.cells (p.flatMap fI)) → Inner bl (ks ++ [k]) (ps ++ [p])
 | [], [], _, _, _, h => ⟨h, trivial⟩
 | _ :: _, _ :: _, _, _, h, h' => ⟨h.1, Inner.app h.2 h'⟩
 | [], _ :: _, _, _, h, _ => h.elim
 | _ :: _, [], _, _, h, _ => h.elim
theorem Inner.split {bl : List Blk} : ∀ {ks : List Nat} {ps : List (List Int)} {p : List Int}, Inner bl ks (ps ++ [p]) → ∃ ks' k, ks = ks' ++ [k] ∧ Inner bl ks' ps ∧ bl[k]? = some (.cells (p.flatMap fI))
 | [k], [], _, h => ⟨[], k, rfl, trivial, h.1⟩
 | k :: ks, q :: ps, p, h => by
  obtain ⟨ks', k', rfl, h1, h2⟩ := Inner.split (ps := ps) h.2
  exact ⟨k :: ks', k', rfl, ⟨h.1, h1⟩, h2⟩
 | [], [], _, h => h.elim
 | [], _ :: _, _, h => h.elim
 | _ :: _ :: _, [], _, h => h.2.elim
theorem nest_app : ∀ {ks : List Nat} {ps : List (List Int)} (k : Nat) (p : List Int), ks.length = ps.length → nest (ks ++ [k]) (ps ++ [p]) = nest ks ps ++ [.os 1 (.blk k) 0 p.length]
 | [], [], _, _, _ => rfl
 | _ :: ks, _ :: ps, k, p, h => by simp only [List.cons_append, nest, nest_app k p (by simpa using h)]
 | [], _ :: _, _, _, h => by simp at h
 | _ :: _, [], _, _, h => by simp at h
theorem nest_length : ∀ {ks : List Nat} {ps : List (List Int)}, ks.length = ps.length → (nest ks ps).length = ps.length
 | [], [], _ => rfl
 | _ :: ks, _ :: ps, h => by simp only [nest, List.length_cons, nest_length (by simpa using h)]
 | [], _ :: _, h => by simp at h
 | _ :: _, [], h => by simp at h

theorem OwnL.len {bl : List Blk} {v : CV} {ids : List Nat} {ps : List (List Int)} (h : OwnL bl v ids ps) : lenC v = some (.int .i64 ps.length) := by
 rcases h with ⟨rfl, rfl, _⟩ | ⟨m, ks, _, rfl, _⟩ <;> rfl
theorem OwnL.locv {bl : List Blk} {v : CV} {ids : List Nat} {ps : List (List Int)} (h : OwnL bl v ids ps) : v.locv = false := by
 rcases h with ⟨rfl, rfl, _⟩ | ⟨m, ks, _, rfl, _⟩ <;> rfl
theorem OwnL.one {bl : List Blk} {v : CV} {ids : List Nat} {ps : List (List Int)} (h : OwnL bl v ids ps) : v.one = true := by
 rcases h with ⟨rfl, rfl, _⟩ | ⟨m, ks, _, rfl, _⟩ <;> rfl
theorem OwnL.cells {bl : List Blk} {v : CV} {ids : List Nat} {ps : List (List Int)} (h : OwnL bl v ids ps) : v.cells = [v] := by
 rcases h with ⟨rfl, rfl, _⟩ | ⟨m, ks, _, rfl, _⟩ <;> rfl
theorem OwnL.und {bl : List Blk} {v : CV} {ids : List Nat} {ps : List (List Int)} (h : OwnL bl v ids ps) : v.und? = false := by
 rcases h with ⟨rfl, rfl, _⟩ | ⟨m, ks, _, rfl, _⟩ <;> rfl

/-- Blocks beside some are as they were. -/
def FrL (bl bl' : List Blk) (ids : List Nat) : Prop := ∀ (k : Nat) (b : Blk), bl[k]? = some b → k ∉ ids → bl'[k]? = some b
def DjL (ids : List Nat) (w : CV) : Prop := ∀ k, blkOf w = some k → k ∉ ids
theorem Own.frL {α : Type} {g : α → List CV} {sz : Nat} {w : CV} {r : List α} {bl bl' : List Blk} {ids : List Nat} (h : Own g sz bl w r) (hf : FrL bl bl' ids) (hd : DjL ids w) : Own g sz bl' w r := by
 rcases h with h | ⟨m, rfl, h2⟩
 · exact .inl h
 · exact .inr ⟨m, rfl, hf m _ h2 (hd m rfl)⟩
theorem OwnF.frL {α : Type} {g : α → List CV} {sz : Nat} {w : CV} {r : List α} {bl bl' : List Blk} {ids : List Nat} (h : OwnF g sz bl w r) (hf : FrL bl bl' ids) (hd : DjL ids w) : OwnF g sz bl' w r := by
 rcases h with h | h
 · exact .inl h
 · exact .inr (h.frL hf hd)

/-- A new list at the end: the inner block, the literal's, the outer one's are new. -/
theorem OwnL.appNew {bl : List Blk} {v : CV} {ids : List Nat} {ps : List (List Int)} (h : OwnL bl v ids ps) (x : Int) (hm : (ps.length + 1) * 24 ≤ 140737488355328) :
  ∃ v' bl' ids', (∀ bx, heapOp (.app 1 24 [.nils]) [v, .os 1 (.blk (bl ++ [Blk.cells [.int .i64 x]]).length) 0 1] ⟨bx, bl ++ [Blk.cells [.int .i64 x]] ++ [Blk.cells [.os 1 (.blk bl.length) 0 1]]⟩ = some (v', ⟨bx, bl'⟩)) ∧
   OwnL bl' v' ids' (ps ++ [[x]]) ∧ FrL bl bl' ids ∧ (∀ k ∈ ids', k ∈ ids ∨ bl.length ≤ k) := by
 have hsh : ∀ bx : List (Nat × List CV), shown ⟨bx, bl ++ [Blk.cells [.int .i64 x]] ++ [Blk.cells [.os 1 (.blk bl.length) 0 1]]⟩ 1 (.os 1 (.blk (bl ++ [Blk.cells [.int .i64 x]]).length) 0 1) = some [.os 1 (.blk bl.length) 0 1] := by
  intro bx
  simp [shown, Heap.get]
 rcases h with ⟨rfl, rfl, rfl⟩ | ⟨m, ks, rfl, rfl, h1, h2, h3⟩
 · refine ⟨.os 1 (.blk (bl.length + 2)) 0 1, bl ++ [Blk.cells [.int .i64 x]] ++ [Blk.cells [.os 1 (.blk bl.length) 0 1]] ++ [Blk.cells [.os 1 (.blk bl.length) 0 1]], [bl.length + 2, bl.length], fun bx => ?_, .inr ⟨_, _, rfl, rfl, ?_, ?_, ?_⟩, fun k b hk _ => ?_, fun k hk => ?_⟩
  · simp only [heapOp, hsh, Option.bind_some, lenOf]
   simp [ones, CV.one, CV.locs, CV.locv, Id.loc?, appC, Heap.push]
  · simp [nest]
  · simp [Inner, fI]
  · simp
  · have := (List.getElem?_eq_some_iff.1 hk).1
   rw [List.getElem?_append_left (by simp; omega), List.getElem?_append_left (by simp; omega), List.getElem?_append_left (by omega)]
   exact hk
  · simp at hk; omega
 · have hml : m < bl.length := (List.getElem?_eq_some_iff.1 h1).1
  have hlen := h2.length
  have hg : (bl ++ [Blk.cells [.int .i64 x]] ++ [Blk.cells [.os 1 (.blk bl.length) 0 1]])[m]? = some (.cells (nest ks ps)) := by
   rw [List.getElem?_append_left (by simp; omega), List.getElem?_append_left (by omega)]; exact h1
  refine ⟨.os 1 (.blk (bl.length + 2)) 0 (ps.length + 1), ((bl ++ [Blk.cells [.int .i64 x]] ++ [Blk.cells [.os 1 (.blk bl.length) 0 1]]).set m .dead) ++ [Blk.cells (nest ks ps ++ [.os 1 (.blk bl.length) 0 1])], (bl.length + 2) :: (ks ++ [bl.length]), fun bx => ?_, .inr ⟨_, _, rfl, by simp, ?_, ?_, ?_⟩, fun k b hk hne => ?_, fun k hk => ?_⟩
  · have hc := decide_eq_true hm
   simp only [heapOp, hsh, Option.bind_some, lenOf, Nat.one_ne_zero, Nat.succ_ne_self, Nat.reduceEqDiff, if_false, hc, decide_true, Bool.and_true, Bool.true_and, ones_cons, ones_nil, one_os, one_int, one_nils, CV.locs, CV.locv, loc_blk, Bool.or_false, Bool.not_false, List.length_cons, List.length_nil, Nat.zero_add, Nat.reduceLT, Nat.lt_add_one, if_true, appC, get_blk _ _ _ _ hg, Option.bind_some, nest_length hlen, Nat.mul_one, Nat.le_refl, Heap.kill, Heap.push]
   rw [if_pos (by exact decide_eq_true hm), List.take_of_length_le (by rw [nest_length hlen]; exact Nat.le_refl _)]
   simp
  · have := nest_app (ks := ks) (ps := ps) bl.length [x] hlen
   simp only [List.length_cons, List.length_nil, Nat.zero_add] at this
   rw [this]
   simp
  · refine Inner.app (h2.mono fun k hk b hb => ?_) ?_
   · have := h2.lt k hk
    have hkm : m ≠ k := fun h => by subst h; simp [hk] at h3
    rw [List.getElem?_append_left (by simp; omega), List.getElem?_set_ne hkm, List.getElem?_append_left (by simp; omega), List.getElem?_append_left (by omega)]
    exact hb
   · rw [List.getElem?_append_left (by simp), List.getElem?_set_ne (by omega), List.getElem?_append_left (by simp), List.getElem?_append_right (Nat.le_refl _)]
    simp [fI]
  · have hks := h2.lt
   simp only [List.nodup_cons] at h3 ⊢
   refine ⟨?_, ?_⟩
   · simp only [List.mem_append, List.mem_singleton]
    rintro (h | h)
    · have := hks _ h; omega
    · omega
   · rw [List.nodup_append]
    refine ⟨h3.2, by simp, fun a ha b hb => ?_⟩
    simp only [List.mem_singleton] at hb
    subst hb
    have := hks _ ha
    omega
  · have hkl := (List.getElem?_eq_some_iff.1 hk).1
   have hkm : m ≠ k := fun h => by subst h; simp at hne
   rw [List.getElem?_append_left (by simp; omega), List.getElem?_set_ne hkm, List.getElem?_append_left (by simp; omega), List.getElem?_append_left (by omega)]
   exact hk
  · simp only [List.mem_cons, List.mem_append, List.mem_singleton, List.not_mem_nil, or_false] at hk ⊢
   rcases hk with rfl | hk | rfl
   · right; omega
   · left; right; exact hk
   · right; exact Nat.le_refl _

/-- A number more in the last list. -/
theorem OwnL.appLast {bl : List Blk} {v : CV} {ids : List Nat} {ps : List (List Int)} {p : List Int} (h : OwnL bl v ids (ps ++ [p])) (x : Int) (hm : (p.length + 1) * 8 ≤ 140737488355328) :
  ∃ m k w bl1 bl' ids', iaddrC 1 v (.int .i64 ps.length) = some (.op (.blk m) ps.length) ∧ (∃ cs, (∀ bx, Heap.get ⟨bx, bl⟩ (.blk m) = some cs) ∧ headO (cs.drop ps.length) = some (.os 1 (.blk k) 0 p.length)) ∧
   (∀ bx, heapOp (.app 1 8 [.int .i64 0]) [.os 1 (.blk k) 0 p.length, .vs [.int .i64 x] 1] ⟨bx, bl⟩ = some (w, ⟨bx, bl1⟩)) ∧ w.locv = false ∧ w.one = true ∧
   (∃ cs, (∀ bx, Heap.get ⟨bx, bl1⟩ (.blk m) = some cs) ∧ ∀ bx, stE 1 ps.length w ⟨bx, bl1⟩ (.blk m) cs = some ⟨bx, bl'⟩) ∧ OwnL bl' v ids' (ps ++ [p ++ [x]]) ∧ FrL bl bl' ids ∧ (∀ k ∈ ids', k ∈ ids ∨ bl.length ≤ k) := by
 rcases h with ⟨_, h, _⟩ | ⟨m, ks, rfl, rfl, h1, h2, h3⟩
 · simp at h
 · obtain ⟨ks', k, rfl, h4, h5⟩ := h2.split
  have hlen := h4.length
  have hks := h2.lt
  have hml : m < bl.length := (List.getElem?_eq_some_iff.1 h1).1
  have hkl : k < bl.length := (List.getElem?_eq_some_iff.1 h5).1
  rw [nest_app k p hlen] at h1
  have hnl := nest_length hlen
  have hmk : m ≠ k := fun h => by subst h; simp at h3
  have hg : ∀ bx : List (Nat × List CV), Heap.get ⟨bx, bl⟩ (.blk m) = some (nest ks' ps ++ [.os 1 (.blk k) 0 p.length]) := fun bx => get_blk bx bl m _ h1
  have hgk : ∀ bx : List (Nat × List CV), Heap.get ⟨bx, bl⟩ (.blk k) = some (p.flatMap fI) := fun bx => get_blk bx bl k _ h5
  have hg1 : ((bl.set k .dead) ++ [Blk.cells (p.flatMap fI ++ [.int .i64 x])])[m]? = some (.cells (nest ks' ps ++ [.os 1 (.blk k) 0 p.length])) := by
   rw [List.getElem?_append_left (by simpa using hml), List.getElem?_set_ne (Ne.symm hmk)]; exact h1
  refine ⟨m, k, .os 1 (.blk bl.length) 0 (p.length + 1), (bl.set k .dead) ++ [Blk.cells (p.flatMap fI ++ [.int .i64 x])], ((bl.set k .dead) ++ [Blk.cells (p.flatMap fI ++ [.int .i64 x])]).set m (.cells (nest ks' ps ++ [.os 1 (.blk bl.length) 0 (p.length + 1)])), m :: (ks' ++ [bl.length]), ?_, ⟨_, hg, ?_⟩, fun bx => ?_, rfl, rfl, ⟨_, fun bx => get_blk _ _ _ _ hg1, fun bx => ?_⟩, .inr ⟨m, _, rfl, by simp, ?_, ?_, ?_⟩, fun j b hj hne => ?_, fun j hj => ?_⟩
  · unfold iaddrC iaddrN
   simp only [Int.toNat_natCast, Nat.zero_add, Nat.mul_one]
   rw [if_pos ⟨trivial, by omega, by simp; omega⟩]
  · rw [← hnl, List.drop_left]; rfl
  · have hc := decide_eq_true hm
   simp only [heapOp, lenOf, shown, Nat.mul_one, Option.bind_some, Nat.one_ne_zero, Nat.succ_ne_self, Nat.reduceEqDiff, if_false, hc, decide_true, Bool.and_true, Bool.true_and, ones_cons, ones_nil, one_os, one_int, one_nils, CV.locs, CV.locv, loc_blk, Bool.or_false, Bool.not_false, List.length_cons, List.length_nil, Nat.zero_add, Nat.reduceLT, Nat.lt_add_one, if_true, appC, hgk, Option.bind_some, flatI.length, Nat.mul_one, Nat.le_refl, Heap.kill, Heap.push]
   rw [if_pos (by exact decide_eq_true hm), List.take_of_length_le (by rw [flatI.length]; omega)]
  · unfold stE
   rw [if_pos (by simp [CV.cells, ones, CV.one, CV.locs, CV.locv, Id.loc?]; omega)]
   simp only [CV.cells, setMany, Heap.put]
   congr 3
   simp [hnl]
  · rw [List.getElem?_set_self (by simp; omega)]
   have := nest_app (ks := ks') (ps := ps) bl.length (p ++ [x]) hlen
   simp only [List.length_append, List.length_cons, List.length_nil, Nat.zero_add] at this
   rw [this]
  · refine Inner.app (h4.mono fun j hj b hb => ?_) ?_
   · have hjl := h4.lt j hj
    have hjm : m ≠ j := fun h => by subst h; simp [hj] at h3
    have hjk : k ≠ j := fun h => by
     subst h
     simp only [List.nodup_cons] at h3
     have := (List.nodup_append.1 h3.2).2.2 _ hj k (by simp)
     exact this rfl
    rw [List.getElem?_set_ne hjm, List.getElem?_append_left (by simp; omega), List.getElem?_set_ne hjk]
    exact hb
   · rw [List.getElem?_set_ne (by omega), List.getElem?_append_right (by simp)]
    simp [fI]
  · simp only [List.nodup_cons, List.mem_append, List.mem_singleton, not_or] at h3 ⊢
   refine ⟨⟨h3.1.1, by omega⟩, ?_⟩
   rw [List.nodup_append] at h3 ⊢
   refine ⟨h3.2.1, by simp, fun a ha b hb => ?_⟩
   simp only [List.mem_singleton] at hb
   subst hb
   have := h4.lt _ ha
   omega
  · have hjl := (List.getElem?_eq_some_iff.1 hj).1
   simp only [List.mem_cons, List.mem_append, not_or, List.not_mem_nil, not_false_eq_true, and_true] at hne
   rw [List.getElem?_set_ne (Ne.symm hne.1), List.getElem?_append_left (by simpa using hjl), List.getElem?_set_ne (Ne.symm hne.2.2)]
   exact hj
  · simp only [List.mem_cons, List.mem_append, List.not_mem_nil, or_false] at hj ⊢
   rcases hj with rfl | hj | rfl
   · exact .inl (.inl rfl)
   · exact .inl (.inr (.inl hj))
   · exact .inr (Nat.le_refl _)

theorem inner_snap {bl : List Blk} (bx : List (Nat × List CV)) (st kn : Bool) (n : Nat) : ∀ {ks : List Nat} {ps : List (List Int)}, Inner bl ks ps → mapC (snapN ⟨bx, bl⟩ st kn (n + 2)) (nest ks ps) = some (ps.flatMap fL)
 | [], [], _ => rfl
 | k :: ks, p :: ps, h => by
  have h1 : snapN ⟨bx, bl⟩ st kn (n + 2) (.os 1 (.blk k) 0 p.length) = some (sl fI p) := by
   show snapV ⟨bx, bl⟩ st kn (snapN ⟨bx, bl⟩ st kn (n + 1)) (.os 1 (.blk k) 0 p.length) = _
   by_cases hp : p = []
   · subst hp; rfl
   · exact Own.snapK flatI (.inr ⟨k, rfl, h.1⟩) hp bx st kn _ (by
     intro x c hc
     simp only [fI, List.mem_singleton] at hc
     subst hc
     rfl)
  simp only [nest, mapC_cons, h1, bind_some', inner_snap bx st kn n h.2, consO_some, List.flatMap_cons, fL, List.cons_append, List.nil_append]
 | [], _ :: _, h => h.elim
 | _ :: _, [], h => h.elim
theorem OwnL.snapK {bl : List Blk} {v : CV} {ids : List Nat} {ps : List (List Int)} (h : OwnL bl v ids ps) (h0 : ps ≠ []) (bx : List (Nat × List CV)) (st kn : Bool) (n : Nat) : snapV ⟨bx, bl⟩ st kn (snapN ⟨bx, bl⟩ st kn (n + 2)) v = some (sl fL ps) := by
 rcases h with ⟨_, h, _⟩ | ⟨m, ks, rfl, rfl, h1, h2, h3⟩
 · exact (h0 h).elim
 · unfold snapV
  have hl := nest_length h2.length
  split
  · rename_i h1
   exact (h0 (List.eq_nil_of_length_eq_zero h1)).elim
  · rw [get_blk bx bl m _ h1]
   simp only [Option.bind_some, Nat.zero_add, Nat.mul_one, hl, Nat.le_refl, if_true, List.drop_zero]
   rw [List.take_of_length_le (by omega), inner_snap bx st kn n h2]
   rfl

/-! ### Drafts -/
def fUL (l : List Int) : List CV := [sl fU l]
theorem flatUL : Flat fUL 1 := ⟨fun _ => rfl, by decide, fun _ => rfl, fun _ => rfl, fun _ => rfl⟩
theorem iaddr_midU (k : IntKind) (pre suf : List Int) (x : Int) : iaddrC 1 (sl fU (pre ++ x :: suf)) (.int k pre.length) = some (.vp (.int .u8 x :: suf.flatMap fU)) := iaddr_mid flatU k pre suf x
theorem iaddr_atU {k : IntKind} {l : List Int} {i : Nat} (h : i < l.length) : iaddrC 1 (sl fU l) (.int k i) = some (.vp (.int .u8 l[i] :: (l.drop (i + 1)).flatMap fU)) := iaddr_sl flatU.len flatU.pos h
theorem iaddr_midUL (k : IntKind) (pre suf : List (List Int)) (x : List Int) : iaddrC 1 (sl fUL (pre ++ x :: suf)) (.int k pre.length) = some (.vp (sl fU x :: suf.flatMap fUL)) := iaddr_mid flatUL k pre suf x
structure Draft where
 form : Int
 len : Int
 speed : Int
 mute : Int
 wait : Int
 cancel : Int
 stay : Int
 join : Int
 routes : List (List Int)
abbrev draftC (d : Draft) : List CV := [.int .u8 d.form, .int .u8 d.len, .int .u8 d.speed, .int .u16 d.mute, .int .u16 d.wait, .int .u8 d.cancel, .int .u8 d.stay, .int .u8 d.join, sl fUL d.routes]
structure Draft.ok (d : Draft) : Prop where
 form : 0 ≤ d.form ∧ d.form ≤ 255
 len : 0 ≤ d.len ∧ d.len ≤ 255
 speed : 0 ≤ d.speed ∧ d.speed ≤ 255
 mute : 0 ≤ d.mute ∧ d.mute ≤ 65535
 wait : 0 ≤ d.wait ∧ d.wait ≤ 65535
 cancel : 0 ≤ d.cancel ∧ d.cancel ≤ 255
 stay : 0 ≤ d.stay ∧ d.stay ≤ 255
 join : 0 ≤ d.join ∧ d.join ≤ 255
 routes : d.routes.length ≤ maxLen
 route : ∀ r ∈ d.routes, r.length ≤ maxLen ∧ ∀ t ∈ r, 0 ≤ t ∧ t ≤ 255
/-! ### The layout that a draft makes -/
def fl (n : Int) : Nat := FloatKind.nearest .f64 n
def fl2 (z : Int × Int) : Nat × Nat := (fl z.1, fl z.2)
def mkN (form : Int) : Nat := 3 + (form / 4 % 6).toNat
def mkEnds (form : Int) : List Ed :=
 if form % 4 = 0 then (List.range (mkN form)).map fun (i : Nat) => (⟨(i : Int), ((i + 1 : Nat) : Int)⟩ : Ed)
 else if form % 4 = 1 then [⟨0, 1⟩, ⟨1, 2⟩, ⟨3, 1⟩]
 else if form % 4 = 2 then [⟨0, 1⟩, ⟨1, 2⟩, ⟨2, 3⟩, ⟨2, 4⟩, ⟨5, 3⟩, ⟨4, 5⟩, ⟨5, 6⟩, ⟨6, 7⟩]
 else [⟨0, 1⟩, ⟨2, 1⟩, ⟨2, 3⟩, ⟨2, 4⟩, ⟨3, 5⟩, ⟨4, 6⟩]
def mkPts (form : Int) : List Pt :=
 if form % 4 = 0 then []
 else if form % 4 = 1 then [⟨1, 0, 1, 2⟩]
 else if form % 4 = 2 then [⟨2, 1, 2, 3⟩, ⟨5, 6, 4, 5⟩]
 else [⟨2, 1, 3, 2⟩]
def mkXY (form u : Int) : List (Int × Int) :=
 if form % 4 = 0 then (List.range (mkN form + 1)).map fun (i : Nat) => (u * (i : Int), (0 : Int))
 else if form % 4 = 1 then [(0, 0), (u, 0), (2 * u, u), (2 * u, -u)]
 else if form % 4 = 2 then [(0, 0), (u, 0), (2 * u, 0), (3 * u, u / 2), (3 * u, -(u / 2)), (4 * u, 0), (5 * u, 0), (6 * u, 0)]
 else [(0, 0), (u, 0), (2 * u, 0), (3 * u, u), (3 * u, -u), (4 * u, u), (4 * u, -u)]
def mkSecs (u : Int) : Nat → List Ed → List Sec
 | _, [] => []
 | i, x :: r => ⟨2 * u + (i % 3 : Nat), x.s, x.e⟩ :: mkSecs u (i + 1) r
/-- A number more in the last list. -/
def addLast (i : Int) : List (List Int) → List (List Int)
 | [] => []
 | [l] => [l ++ [i]]
 | l :: r => l :: addLast i r
def joinAt (join : Int) (i : Nat) : Bool := decide (0 < i) && decide (join / 2 ^ (i % 8) % 2 = 1)
def mkParts (join : Int) : Nat → Nat → List (List Int) → List (List Int)
 | _, 0, acc => acc
 | i, n + 1, acc => mkParts join (i + 1) n (if joinAt join i then addLast i acc else acc ++ [[(i : Int)]])
def unitOf (len : Int) : Int := 10 * (1 + len % 20)
def make (d : Draft) : Lay where
 nodes := (mkXY d.form (unitOf d.len)).map fl2
 secs := mkSecs (unitOf d.len) 0 (mkEnds d.form)
 parts := mkParts d.join 0 (mkEnds d.form).length []
 pts := mkPts d.form
 routes := []
 speed := 1 + d.speed % (2 * unitOf d.len)
 mute := 1 + d.mute % 1000
 wait := 1 + d.wait % 1000
 cancel := 1 + d.cancel
 stay := d.stay % 4

/-! ### Its places, as they are reckoned -/
def isC (o : Option CV) (x y : Nat) : Bool := match o with
 | some (.cplx .f64 a b) => Nat.beq a x && Nat.beq b y
 | _ => false
theorem isC_eq {o : Option CV} {x y : Nat} (h : isC o x y = true) : o = some (.cplx .f64 x y) := by
 unfold isC at h
 split at h
 · simp only [Bool.and_eq_true, Nat.beq_eq] at h
  rw [h.1, h.2]
 · cases h
def okMul (u : Int) (C : Nat) (c : Int) : Bool := isC (binC .mul .ifc (.cplx .f64 C 0) (.cplx .f64 (fl u) 0)) (fl (c * u)) 0
def okAdd (a b : Int) : Bool := isC (binC .add .ifc (.cplx .f64 (fl a) 0) (.cplx .f64 0 (fl b))) (fl a) (fl b) && isC (binC .sub .ifc (.cplx .f64 (fl a) 0) (.cplx .f64 0 (fl b))) (fl a) (fl (-b))
def okU (u : Int) : Bool :=
 okMul u 4611686018427387904 2 && okMul u 4613937818241073152 3 && okMul u 4616189618054758400 4 && okMul u 4617315517961601024 5 && okMul u 4618441417868443648 6 &&
 okAdd (2 * u) u && okAdd (3 * u) u && okAdd (4 * u) u && okAdd (3 * u) (u / 2) &&
 isC (binC .quo .ifc (.cplx .f64 0 (fl u)) (.cplx .f64 4611686018427387904 0)) 0 (fl (u / 2))
theorem okUs : ((List.range 20).all fun k => okU (10 * (1 + (k : Int)))) = true := by kernel_rfl
theorem fl_zero : fl 0 = 0 := by kernel_rfl

/-- A slice that may be nil. -/
def nz {α : Type} (f : α → List CV) (l : List α) : CV := match l with
 | [] => .nils
 | l => sl f l
theorem snapV_nz {α : Type} (f : α → List CV) (l : List α) (H : Heap) (g : CV → Option CV) : snapV H false false g (nz f l) = some (sl f l) := by
 cases l <;> rfl
theorem locv_nz {α : Type} (f : α → List CV) (l : List α) : (nz f l).locv = false := by cases l <;> rfl
theorem one_nz {α : Type} (f : α → List CV) (l : List α) : (nz f l).one = true := by cases l <;> rfl
theorem und_nz {α : Type} (f : α → List CV) (l : List α) : (nz f l).und? = false := by cases l <;> rfl
theorem cells_nz {α : Type} (f : α → List CV) (l : List α) : (nz f l).cells = [nz f l] := by cases l <;> rfl
theorem ref_nz {α : Type} (f : α → List CV) (l : List α) : (nz f l).ref = false := by cases l <;> rfl
theorem lenC_nz {α : Type} (f : α → List CV) (l : List α) : lenC (nz f l) = some (.int .i64 l.length) := by cases l <;> rfl

/-- The ways that a draft tells. -/
def wayOf (l : Lay) (x : List Int) : List Int := walk l (x.headD 0 % l.secs.length) (x.headD 0 / 128) (x.drop 2) ((2 + (x.drop 1).headD 0 % 5).toNat : Nat)
def fullFrom (l : Lay) : List (List Int) → List (List Int) → List (List Int)
 | [], acc => acc
 | x :: r, acc => if 16 ≤ acc.length then acc else fullFrom l r (if 2 ≤ x.length ∧ 2 ≤ (wayOf l x).length then acc ++ [wayOf l x] else acc)
def full (d : Draft) : Lay := { make d with routes := fullFrom (make d) d.routes [] }
theorem around_routes (l : Lay) (r : List (List Int)) (x : Ed) : around { l with routes := r } x = around l x := rfl
theorem walkFrom_routes (l : Lay) (r : List (List Int)) (turns : List Int) : ∀ (n i : Nat) (out : List Int) (x : Ed), walkFrom { l with routes := r } turns n i out x = walkFrom l turns n i out x
 | 0, _, _, _ => rfl
 | n + 1, i, out, x => by
  simp only [walkFrom, around_routes, walkFrom_routes l r turns n]
theorem walk_routes (l : Lay) (r : List (List Int)) (s e : Int) (turns : List Int) (m : Int) : walk { l with routes := r } s e turns m = walk l s e turns m := walkFrom_routes l r turns _ _ _ _
theorem walkFrom_len (l : Lay) (turns : List Int) : ∀ (n i : Nat) (out : List Int) (x : Ed), (walkFrom l turns n i out x).length ≤ out.length + n
 | 0, _, _, _ => by simp [walkFrom]
 | n + 1, i, out, x => by
  simp only [walkFrom]
  split
  · omega
  · rename_i y _
   split
   · omega
   · have := walkFrom_len l turns n (i + 1) (out ++ [y.s]) ⟨y.s, 1 - y.e⟩
    simp only [List.length_append, List.length_cons, List.length_nil] at this
    omega
theorem walk_len (l : Lay) (s e : Int) (turns : List Int) (m : Nat) : (walk l s e turns m).length ≤ 1 + m := by
 have := walkFrom_len l turns ((m : Int) - 1).toNat 0 [s] ⟨s, e⟩
 simp only [List.length_cons, List.length_nil] at this
 unfold walk; omega
theorem fullFrom_ok (l : Lay) : ∀ (r acc : List (List Int)), acc.length ≤ 16 → (∀ p ∈ acc, p.length ≤ 7) → (fullFrom l r acc).length ≤ 16 ∧ ∀ p ∈ fullFrom l r acc, p.length ≤ 7
 | [], acc, h, h' => ⟨h, h'⟩
 | x :: r, acc, h, h' => by
  simp only [fullFrom]
  split
  · exact ⟨h, h'⟩
  · refine fullFrom_ok l r _ ?_ ?_
   · split
    · simp; omega
    · exact h
   · split
    · intro p hp
     rcases List.mem_append.1 hp with hp | hp
     · exact h' p hp
     · simp only [List.mem_singleton] at hp
      subst hp
      have := walk_len l (x.headD 0 % l.secs.length) (x.headD 0 / 128) (x.drop 2) (2 + (x.drop 1).headD 0 % 5).toNat
      unfold wayOf
      omega
    · exact h'
def Draft.small (d : Draft) : Bool := (d.routes.all fun r => decide (r.length ≤ 10)) && decide (d.routes.length ≤ 20)

/-! ### Numbers, rising -/
def gtO : Option Int → Int → Bool
 | none, _ => true
 | some y, x => decide (y < x)
def minO : List Int → Option Int
 | [] => none
 | x :: r => match minO r with
  | none => some x
  | some y => some (if x ≤ y then x else y)
theorem minO_some {l : List Int} {m : Int} : minO l = some m ↔ m ∈ l ∧ ∀ y ∈ l, m ≤ y := by
 induction l generalizing m with
 | nil => simp [minO]
 | cons x r ih =>
  simp only [minO]
  cases h : minO r with
  | none =>
   have hr : r = [] := by
    cases r with
    | nil => rfl
    | cons a r => simp only [minO] at h; split at h <;> cases h
   subst hr
   simp only [Option.some.injEq, List.mem_singleton, forall_eq]
   constructor
   · rintro rfl; exact ⟨rfl, Int.le_refl _⟩
   · rintro ⟨h, _⟩; exact h.symm
  | some y =>
   obtain ⟨h1, h2⟩ := ih.1 h
   simp only [Option.some.injEq, List.mem_cons, forall_eq_or_imp]
   constructor
   · rintro rfl
    split
    · exact ⟨.inl rfl, Int.le_refl _, fun z hz => by have := h2 z hz; omega⟩
    · exact ⟨.inr h1, by omega, h2⟩
   · rintro ⟨h3, h4, h5⟩
    have := h5 y h1
    rcases h3 with rfl | h3
    · rw [if_pos this]
    · have := h2 m h3
     split <;> omega
theorem minO_none {l : List Int} : minO l = none ↔ l = [] := by
 cases l with
 | nil => simp [minO]
 | cons x r => simp only [minO]; split <;> simp
def riseN (l : List Int) : Nat → Option Int → List Int
 | 0, _ => []
 | n + 1, last => match minO (l.filter (gtO last)) with
  | none => []
  | some x => x :: riseN l n (some x)
def rise (l : List Int) : List Int := riseN l l.length none

theorem filter_gt {l : List Int} {last : Option Int} {x : Int} (hx : minO (l.filter (gtO last)) = some x) : (l.filter (gtO (some x))).length < (l.filter (gtO last)).length := by
 obtain ⟨h1, h2⟩ := minO_some.1 hx
 obtain ⟨h3, h4⟩ := List.mem_filter.1 h1
 have hsub : ∀ y, gtO (some x) y = true → gtO last y = true := by
  intro y hy
  cases last with
  | none => rfl
  | some z => simp only [gtO, decide_eq_true_eq] at hy h4 ⊢; omega
 have : l.filter (gtO (some x)) = (l.filter (gtO last)).filter (gtO (some x)) := by
  rw [List.filter_filter]
  congr 1
  funext y
  by_cases hy : gtO (some x) y = true
  · simp [hy, hsub y hy]
  · simp [hy]
 rw [this]
 refine List.length_filter_lt_length_iff_exists.2 ⟨x, h1, ?_⟩
 simp [gtO]

theorem riseN_spec (l : List Int) : ∀ (n : Nat) (last : Option Int), (l.filter (gtO last)).length ≤ n → (∀ y, y ∈ riseN l n last ↔ y ∈ l ∧ gtO last y = true) ∧ (riseN l n last).Pairwise (· < ·)
 | 0, last, h => by
  have : l.filter (gtO last) = [] := List.eq_nil_of_length_eq_zero (by omega)
  refine ⟨fun y => ?_, by simp [riseN]⟩
  simp only [riseN, List.not_mem_nil, false_iff]
  intro hy
  have := this ▸ List.mem_filter.2 hy
  simp at this
 | n + 1, last, h => by
  simp only [riseN]
  cases hm : minO (l.filter (gtO last)) with
  | none =>
   have := minO_none.1 hm
   refine ⟨fun y => ?_, by simp⟩
   simp only [List.not_mem_nil, false_iff]
   intro hy
   have := this ▸ List.mem_filter.2 hy
   simp at this
  | some x =>
   have hlt := filter_gt hm
   obtain ⟨h1, h2⟩ := minO_some.1 hm
   obtain ⟨h3, h4⟩ := List.mem_filter.1 h1
   obtain ⟨i1, i2⟩ := riseN_spec l n (some x) (by omega)
   refine ⟨fun y => ?_, ?_⟩
   · simp only [List.mem_cons, i1]
    constructor
    · rintro (rfl | ⟨h5, h6⟩)
     · exact ⟨h3, h4⟩
     · refine ⟨h5, ?_⟩
      cases last with
      | none => rfl
      | some z => simp only [gtO, decide_eq_true_eq] at h6 h4 ⊢; omega
    · rintro ⟨h5, h6⟩
     have := h2 y (List.mem_filter.2 ⟨h5, h6⟩)
     by_cases hxy : y = x
     · exact .inl hxy
     · right; exact ⟨h5, by simp only [gtO, decide_eq_true_eq]; omega⟩
   · rw [List.pairwise_cons]
    refine ⟨fun y hy => ?_, i2⟩
    have := (i1 y).1 hy
    simpa [gtO] using this.2
theorem rise_mem (l : List Int) (y : Int) : y ∈ rise l ↔ y ∈ l := by
 have := (riseN_spec l l.length none (List.length_filter_le _ _)).1 y
 simpa [rise, gtO] using this
theorem rise_sorted (l : List Int) : (rise l).Pairwise (· < ·) := (riseN_spec l l.length none (List.length_filter_le _ _)).2
theorem rise_nodup (l : List Int) : (rise l).Nodup := (rise_sorted l).imp fun h => by omega
theorem nodup_le {α : Type} : ∀ {a b : List α}, a.Nodup → (∀ x ∈ a, x ∈ b) → a.length ≤ b.length
 | [], _, _, _ => Nat.zero_le _
 | x :: a, b, hn, hs => by
  obtain ⟨b1, b2, rfl⟩ := List.append_of_mem (hs x (by simp))
  have h1 := List.nodup_cons.1 hn
  have := nodup_le (b := b1 ++ b2) h1.2 (fun y hy => by
   have := hs y (by simp [hy])
   simp only [List.mem_append, List.mem_cons] at this ⊢
   rcases this with h | rfl | h
   · exact .inl h
   · exact (h1.1 hy).elim
   · exact .inr h)
  simp only [List.length_append, List.length_cons] at this ⊢
  omega
theorem rise_len (l : List Int) : (rise l).length = l.length ↔ l.Nodup := by
 constructor
 · intro h
  induction l with
  | nil => simp
  | cons x r ih =>
   by_cases hx : x ∈ r
   · have := nodup_le (rise_nodup (x :: r)) (b := r) (fun y hy => by
     rcases List.mem_cons.1 ((rise_mem _ y).1 hy) with rfl | h
     · exact hx
     · exact h)
    simp at h; omega
   · refine List.nodup_cons.2 ⟨hx, ih ?_⟩
    have h1 := nodup_le (rise_nodup r) (b := r) fun y hy => (rise_mem _ y).1 hy
    have h2 := nodup_le (rise_nodup (x :: r)) (b := x :: rise r) (fun y hy => by
     rcases List.mem_cons.1 ((rise_mem _ y).1 hy) with rfl | h
     · simp
     · simp [(rise_mem r y).2 h])
    simp only [List.length_cons] at h h2
    omega
 · intro h
  have h1 := nodup_le (rise_nodup l) (b := l) fun y hy => (rise_mem _ y).1 hy
  have h2 := nodup_le h (b := rise l) fun y hy => (rise_mem _ y).2 hy
  omega

/-! ### Acts -/
structure Deed where
 act : Int
 train : Int
 ticks : Int
 from' : Int
 turns : List Int
 ahead : Int
 whole : Bool
 most : Int
abbrev actC (a : Deed) : List CV := [.int .u8 a.act, .int .u8 a.train, .int .u8 a.ticks, .int .u8 a.from', sl fU a.turns, .int .u16 a.ahead, .bool a.whole, .int .u8 a.most]
structure Deed.ok (a : Deed) : Prop where
 train : 0 ≤ a.train ∧ a.train ≤ 255
 from' : 0 ≤ a.from' ∧ a.from' ≤ 255
 turns : a.turns.length ≤ maxLen
 turn : ∀ t ∈ a.turns, 0 ≤ t ∧ t ≤ 255
 ahead : 0 ≤ a.ahead ∧ a.ahead ≤ 65535
 most : 0 ≤ a.most ∧ a.most ≤ 255
/-- A track with sections of some length. -/
structure Lay.good (l : Lay) : Prop where
 ok : l.ok
 pos : 0 < l.secs.length
 len : ∀ s ∈ l.secs, 1 ≤ s.len ∧ s.len ≤ 1000
theorem Lay.good.lenAt {l : Lay} (h : l.good) {s : Int} (h0 : 0 ≤ s) (h1 : s < l.secs.length) : 1 ≤ Zc.lenAt l s ∧ Zc.lenAt l s ≤ 1000 := by
 obtain ⟨n, rfl⟩ := Int.eq_ofNat_of_zero_le h0
 have hn : n < l.secs.length := by omega
 have : Zc.lenAt l n = l.secs[n].len := by simp [Zc.lenAt, List.getElem?_eq_getElem hn]
 rw [this]
 exact h.len _ (List.getElem_mem hn)
theorem walkFrom_head (l : Lay) (turns : List Int) : ∀ (n i : Nat) (s : Int) (out : List Int) (x : Ed), ∃ t, walkFrom l turns n i (s :: out) x = s :: t
 | 0, _, s, out, _ => ⟨out, rfl⟩
 | n + 1, i, s, out, x => by
  simp only [walkFrom]
  split
  · exact ⟨out, rfl⟩
  · split
   · exact ⟨out, rfl⟩
   · exact walkFrom_head l turns n (i + 1) s _ _
theorem walk_head (l : Lay) (s e : Int) (turns : List Int) (m : Int) : ∃ t, walk l s e turns m = s :: t := walkFrom_head l turns _ 0 s [] _

/-! ### What is around is there -/
theorem endsFrom_len (at' : Int) : ∀ (i : Nat) (s : List Sec), (endsFrom at' i s).length ≤ 2 * s.length
 | _, [] => by simp [endsFrom]
 | i, x :: s => by
  have := endsFrom_len at' (i + 1) s
  simp only [endsFrom, List.length_append, List.length_cons]
  split <;> split <;> simp <;> omega
theorem ends_len {l : Lay} (hl : l.ok) (at' : Int) : (ends l at').length ≤ 2 * small := by
 have := endsFrom_len at' 0 l.secs
 have := hl.secs
 unfold ends; omega
theorem oneOf_len (l : Lay) (s at' : Int) : (oneOf l s at').length ≤ 1 := by
 unfold oneOf; split <;> simp
theorem around_len (l : Lay) (x : Ed) : (around l x).length ≤ 2 := by
 unfold around
 cases nodeOf l x with
 | none => simp
 | some n =>
  cases hf : l.pts.find? fun p => p.node == n with
  | some p =>
   have h1 := oneOf_len l p.left n
   have h2 := oneOf_len l p.right n
   have h3 := oneOf_len l p.stem n
   simp only [hf]
   split
   · simp; omega
   · split
    · omega
    · simp
  | none =>
   simp only [hf]
   split
   · rename_i h; rw [h]; omega
   · simp

theorem endsFrom_mem {at' : Int} {y : Ed} : ∀ {i : Nat} {s : List Sec}, y ∈ endsFrom at' i s → (i ≤ y.s ∧ y.s < i + s.length) ∧ (y.e = 0 ∨ y.e = 1)
 | _, [], h => by simp [endsFrom] at h
 | i, x :: s, h => by
  simp only [endsFrom, List.mem_append] at h
  rcases h with (h | h) | h
  · split at h
   · simp only [List.mem_singleton] at h; subst h; simp; omega
   · simp at h
  · split at h
   · simp only [List.mem_singleton] at h; subst h; simp; omega
   · simp at h
  · have := endsFrom_mem h
   simp only [List.length_cons]
   omega
theorem ends_mem {l : Lay} {at' : Int} {y : Ed} (h : y ∈ ends l at') : (0 ≤ y.s ∧ y.s < l.secs.length) ∧ (y.e = 0 ∨ y.e = 1) := by
 have := endsFrom_mem h
 omega
theorem oneOf_mem {l : Lay} {s at' : Int} {y : Ed} (h : y ∈ oneOf l s at') : y ∈ ends l at' ∧ y.s = s := by
 unfold oneOf at h
 cases hf : (ends l at').find? fun x => x.s == s with
 | none => simp [hf] at h
 | some x =>
  simp only [hf, List.mem_singleton] at h
  subst h
  exact ⟨List.mem_of_find?_eq_some hf, by simpa using List.find?_some hf⟩
theorem around_mem {l : Lay} {x y : Ed} (h : y ∈ around l x) : ∃ n, y ∈ ends l n := by
 unfold around at h
 cases hn : nodeOf l x with
 | none => simp [hn] at h
 | some n =>
  refine ⟨n, ?_⟩
  simp only [hn] at h
  cases hf : l.pts.find? fun p => p.node == n with
  | some p =>
   simp only [hf] at h
   split at h
   · rcases List.mem_append.1 h with h | h <;> exact (oneOf_mem h).1
   · split at h
    · exact (oneOf_mem h).1
    · simp at h
  | none =>
   simp only [hf] at h
   split at h
   · exact (List.mem_filter.1 h).1
   · simp at h
theorem around_in {l : Lay} {x y : Ed} (h : y ∈ around l x) : (0 ≤ y.s ∧ y.s < l.secs.length) ∧ (y.e = 0 ∨ y.e = 1) := by
 obtain ⟨n, h⟩ := around_mem h
 exact ends_mem h

end Go.Zc
end
section
namespace Go.Zc

/-- One more, let down into what stands before it (turned about). -/
def sinkR : List Int → Int → List Int
 | [], x => [x]
 | y :: rp, x => if x < y then sinkR rp x ++ [y] else (y :: rp).reverse ++ [x]
def insAll : List Int → List Int → List Int
 | s, [] => s
 | s, x :: r => insAll (sinkR s.reverse x) r
def isort : List Int → List Int
 | [] => []
 | x :: r => insAll [x] r

theorem sinkR_perm (x : Int) : ∀ rp : List Int, (sinkR rp x).Perm (x :: rp)
 | [] => .refl _
 | y :: rp => by
  simp only [sinkR]
  split
  · exact (List.perm_append_singleton y _).trans (((sinkR_perm x rp).cons y).trans (.swap x y rp))
  · exact (List.perm_append_singleton x _).trans ((List.reverse_perm _).cons x)
theorem sinkR_len (x : Int) (rp : List Int) : (sinkR rp x).length = rp.length + 1 := by
 have := (sinkR_perm x rp).length_eq
 simpa using this
theorem sinkR_sorted (x : Int) : ∀ rp : List Int, rp.reverse.Pairwise (· ≤ ·) → (sinkR rp x).Pairwise (· ≤ ·)
 | [], _ => by simp [sinkR]
 | y :: rp, h => by
  simp only [List.reverse_cons, List.pairwise_append, List.mem_singleton, forall_eq, List.mem_reverse] at h
  simp only [sinkR]
  split
  · rename_i hlt
   rw [List.pairwise_append]
   refine ⟨sinkR_sorted x rp h.1, by simp, fun a ha b hb => ?_⟩
   simp only [List.mem_singleton] at hb
   subst hb
   rcases List.mem_cons.1 ((sinkR_perm x rp).mem_iff.1 ha) with rfl | ha
   · omega
   · exact h.2.2 a ha
  · rename_i hge
   simp only [List.reverse_cons, List.pairwise_append, List.mem_singleton, forall_eq, List.mem_append, List.mem_reverse]
   refine ⟨⟨h.1, by simp, h.2.2⟩, by simp, fun a ha => ?_⟩
   rcases ha with ha | rfl
   · have := h.2.2 a ha; omega
   · omega
theorem insAll_perm : ∀ (r s : List Int), (insAll s r).Perm (s ++ r)
 | [], s => by simp [insAll]
 | x :: r, s => by
  simp only [insAll]
  refine (insAll_perm r _).trans ?_
  have h1 : (sinkR s.reverse x).Perm (s ++ [x]) := (sinkR_perm x s.reverse).trans (((List.reverse_perm s).cons x).trans (List.perm_append_singleton x s).symm)
  have := h1.append_right r
  simpa using this
theorem insAll_sorted : ∀ (r s : List Int), s.Pairwise (· ≤ ·) → (insAll s r).Pairwise (· ≤ ·)
 | [], _, h => h
 | x :: r, s, h => insAll_sorted r _ (sinkR_sorted x s.reverse (by simpa using h))
theorem isort_perm (l : List Int) : (isort l).Perm l := by
 cases l with
 | nil => exact .refl _
 | cons x r => exact insAll_perm r [x]
theorem isort_sorted (l : List Int) : (isort l).Pairwise (· ≤ ·) := by
 cases l with
 | nil => exact .nil
 | cons x r => exact insAll_sorted r [x] (by simp)

/-- Numbers that are alike once, where they stand beside each other. -/
def compact : List Int → List Int
 | [] => []
 | [x] => [x]
 | x :: y :: r => if x = y then compact (y :: r) else x :: compact (y :: r)
theorem compact_head : ∀ (x : Int) (r : List Int), ∃ t, compact (x :: r) = x :: t
 | x, [] => ⟨[], rfl⟩
 | x, y :: r => by
  simp only [compact]
  split
  · rename_i h
   obtain ⟨t, ht⟩ := compact_head y r
   exact ⟨t, by rw [ht, h]⟩
  · exact ⟨_, rfl⟩
theorem compact_mem : ∀ (l : List Int) (z : Int), z ∈ compact l ↔ z ∈ l
 | [], z => by simp [compact]
 | [x], z => by simp [compact]
 | x :: y :: r, z => by
  have ih := compact_mem (y :: r) z
  simp only [compact]
  split
  · rename_i h
   subst h
   rw [ih]; simp
  · rw [List.mem_cons, ih]; simp
theorem compact_sorted : ∀ (l : List Int), l.Pairwise (· ≤ ·) → (compact l).Pairwise (· < ·)
 | [], _ => by simp [compact]
 | [x], _ => by simp [compact]
 | x :: y :: r, h => by
  rw [List.pairwise_cons] at h
  have ih := compact_sorted (y :: r) h.2
  simp only [compact]
  split
  · exact ih
  · rename_i hne
   rw [List.pairwise_cons]
   refine ⟨fun z hz => ?_, ih⟩
   have hz' := (compact_mem (y :: r) z).1 hz
   have h1 := h.1 z hz'
   have h2 := h.1 y (by simp)
   have h3 : y ≤ z := by
    rcases List.mem_cons.1 hz' with rfl | hz'
    · exact Int.le_refl _
    · exact (List.pairwise_cons.1 h.2).1 z hz'
   omega

/-- Rising lists of the same numbers are one. -/
theorem rising_eq : ∀ {a b : List Int}, a.Pairwise (· < ·) → b.Pairwise (· < ·) → (∀ z, z ∈ a ↔ z ∈ b) → a = b
 | [], [], _, _, _ => rfl
 | [], y :: b, _, _, h => by have := (h y).2 (by simp); simp at this
 | x :: a, [], _, _, h => by have := (h x).1 (by simp); simp at this
 | x :: a, y :: b, ha, hb, h => by
  rw [List.pairwise_cons] at ha hb
  have hxy : x = y := by
   rcases List.mem_cons.1 ((h x).1 (by simp)) with h1 | h1
   · exact h1
   · rcases List.mem_cons.1 ((h y).2 (by simp)) with h2 | h2
    · exact h2.symm
    · have := ha.1 y h2; have := hb.1 x h1; omega
  subst hxy
  congr 1
  refine rising_eq ha.2 hb.2 fun z => ?_
  have := h z
  simp only [List.mem_cons] at this
  constructor
  · intro hz
   rcases this.1 (.inr hz) with rfl | h1
   · have := ha.1 z hz; omega
   · exact h1
  · intro hz
   rcases this.2 (.inr hz) with rfl | h1
   · have := hb.1 z hz; omega
   · exact h1
theorem compact_isort (l : List Int) : compact (isort l) = rise l :=
 rising_eq (compact_sorted _ (isort_sorted l)) (rise_sorted l) fun z => by rw [compact_mem, (isort_perm l).mem_iff, rise_mem]
end Go.Zc
end
section
namespace Go.Zc
open Go.Proofs Go.RowKit Go.Maps Go.Sort Go.Shelf

/-- Whole keys, as they stand. -/
def keyI : CV → Option Int
 | .int .i64 n => if -9223372036854775808 ≤ n ∧ n ≤ 9223372036854775807 then some n else none
 | _ => none
def keysI : List (CV × CV) → Option (List Int)
 | [] => some []
 | e :: r => (keyI e.1).bind fun n => (keysI r).map (n :: ·)
theorem keyI_ok {c : CV} {n : Int} (h : keyI c = some n) : c = .int .i64 n ∧ (Lit.int .i64 n).wf = true := by
 unfold keyI at h
 split at h
 · split at h
  · rename_i hr
   cases h
   refine ⟨rfl, ?_⟩
   simp only [Lit.wf, Bool.and_eq_true, decide_eq_true_eq]
   exact hr
  · cases h
 · cases h
def leB : Int → Int → Bool := fun x y => decide (x ≤ y)
theorem isort_eq (l : List Int) : isort l = l.mergeSort leB := by
 have tr : ∀ a b c : Int, leB a b = true → leB b c = true → leB a c = true := fun a b c h1 h2 => by simp only [leB, decide_eq_true_eq] at *; exact Int.le_trans h1 h2
 have to : ∀ a b : Int, (leB a b || leB b a) = true := fun a b => by simp only [leB, Bool.or_eq_true, decide_eq_true_eq]; exact Int.le_total a b
 refine List.Perm.eq_of_pairwise (le := fun a b => a ≤ b) (fun a b _ _ h1 h2 => Int.le_antisymm h1 h2) (isort_sorted l) ?_ ((isort_perm l).trans (List.mergeSort_perm l leB).symm)
 refine (List.pairwise_mergeSort tr to l).imp fun h => ?_
 simpa [leB] using h
/-- What slices.Sorted hands back of an iterator over a map's keys. -/
def sortedS (ks : List FuncId) (args : List CV) (bl : List Blk) : Option (CV × List Blk) :=
 match args with
 | [.fn (.func k) [] [.op (.blk x) 0]] =>
  if ks.contains k then
   match bl[x]? with
   | some (.cells [.om b]) =>
    match bl[b]? with
    | some (.map es) => match keysI es with
     | some l => if l.length ≤ 1000000 then some (.vs ((isort l).map fun n => .int .i64 n) l.length, bl) else none
     | none => none
    | _ => none
   | _ => none
  else none
 | _ => none

theorem keysI_ok {w : World} {F : Nat → Prop} {ι : IM} {es : List (CV × CV)} {ms : List MapEntry} (h : MR w F ι es ms) : ∀ {l : List Int}, keysI es = some l → ms.map (·.key) = l.map encZ ∧ ∀ n ∈ l, (Lit.int .i64 n).wf = true := by
 induction h with
 | nil =>
  intro l hl
  simp only [keysI, Option.some.injEq] at hl
  subst hl
  exact ⟨rfl, by simp⟩
 | @cons e m es ms h1 h2 ih =>
  intro l hl
  obtain ⟨c, v⟩ := e
  have hk := h1.key
  simp only [keysI, Option.bind_eq_some_iff, Option.map_eq_some_iff] at hl
  obtain ⟨n, hn, l', hl', rfl⟩ := hl
  obtain ⟨rfl, hw⟩ := keyI_ok hn
  obtain ⟨a, b⟩ := ih hl'
  simp only [BR] at hk
  refine ⟨by simp only [List.map_cons, a, hk], fun x hx => ?_⟩
  rcases List.mem_cons.1 hx with rfl | hx
  · exact hw
  · exact b x hx

/-- A world in which more lies, but what lay there lies as it did. -/
theorem Inv.below {w w' : World} {F F' : Nat → Prop} {ι : IM} {H : Heap} (hi : Inv w F ι H) (hb : Below w.heap.size w w') (hF : ∀ b, F b → F' b) (hn : ∀ b, F' b → F b ∨ (w.heap.size ≤ b ∧ b < w'.heap.size)) : Inv w' F' ι H ∧ Ext w F ι H w' F' ι H ∧ MoV w w' F F' ι ι := by
 have hcs : ∀ b n, csize w b = some n → csize w' b = some n := fun b n h => by rw [csize_of (hb.block b (csize_lt h))]; exact h
 have hm : MoV w w' F F' ι ι := ⟨⟨hF, fun k hk => hb.block k (hi.lt k hk)⟩, fun _ _ h => h, hcs⟩
 refine ⟨hi.build hm hi.len (fun i cs h => .inl ⟨h, fun b hbb => hb.block b (hi.live_lt ⟨i, live_iff.2 (.inl ⟨cs, h⟩), hbb⟩)⟩) (fun n es h => .inl ⟨h, fun b hbb => hb.block b (hi.live_lt ⟨.blk n, live_iff.2 (.inr ⟨n, es, rfl, h⟩), hbb⟩)⟩) hi.inj ?_ ?_ hi.lo, ?_, hm⟩
 · intro b hbb hl
  rcases hn b hbb with h | h
  · exact hi.dis b h hl
  · have := hi.live_lt hl; omega
 · intro b hbb
  rcases hn b hbb with h | h
  · exact Nat.lt_of_lt_of_le (hi.lt b h) hb.size
  · exact h.2
 · exact ⟨hb.os, hb.tape, hb.output, fun _ _ h => h, hF, fun b h => (hn b h).imp id (·.1), hb.size, hcs, fun b h _ => hb.block b h, fun b h => .inl h⟩

theorem BRc_row {w : World} {F : Nat → Prop} {g : Nat} {cur : Array Value} {e : TypeId} (hg : w.heap[g]? = some (.cells cur e (0, 0))) : ∀ (l : List Int) (o : Nat), (∀ j x, l[j]? = some x → cur[o + j]? = some (encZ x)) → BRc w F (l.map fun n => CV.int .i64 n) g o
 | [], _, _ => by simp [BRc]
 | x :: l, o, h => by
  simp only [List.map_cons, BRc]
  refine ⟨⟨encZ x, ?_, by simp [BR]⟩, BRc_row hg l (o + 1) fun j y hy => ?_⟩
  · have := h 0 x rfl
   simp only [World.cell?, hg]
   simpa using this
  · have := h (j + 1) y (by simpa using hy)
   rw [show o + 1 + j = o + (j + 1) by omega]
   exact this

def vI : Value → Int
 | .int _ n => n
 | _ => 0
theorem sorted_prim {P : Program} {ρ : Ren} (L6 : SlLaysZI.n6 P ρ) (hsort : AnyZI.SortsIn P ρ Fence.wide 4) (e9 : ∀ args w, (callFunc (ρ.f 9) args).run P w = .ok (.enter (ρ.f 9) args) w)
  (ks : List FuncId) (hks : ∀ k ∈ ks, (∃ ρ', ρ'.f 10 = k ∧ SlLaysZI.n10 P ρ') ∧ ∀ args w, (callFunc k args).run P w = .ok (.enter k args) w)
  {fn : Func} (hfn : P.funcs[ρ.f 6]? = some fn) (hb : fn.body.isSome = true) (hnm : (fn.name == "runtime.NumGoroutine") = false) : PrimOk P (ρ.f 6) (sortedS ks) := by
 refine ⟨fn, hfn, hb, hnm, ?_⟩
 intro args bl v bl' hs w F ι vs hlo hi hv
 unfold sortedS at hs
 split at hs <;> (try cases hs)
 rename_i k x
 split at hs <;> (try cases hs)
 rename_i hk
 split at hs <;> (try cases hs)
 rename_i b hx
 split at hs <;> (try cases hs)
 rename_i es hes
 split at hs <;> (try cases hs)
 rename_i l hl
 split at hs <;> (try cases hs)
 rename_i hlen
 obtain ⟨⟨ρ', hρ, L10⟩, eg⟩ := hks k (by simpa using hk)
 subst hρ
 simp only [VRl, VR] at hv
 obtain ⟨u, us, rfl, ⟨a', c', rfl, ha, hc⟩, rfl⟩ := hv
 obtain ⟨pv, ps, hcl, ⟨B, hB, rfl⟩, rfl⟩ := hc
 have ha0 : a' = #[] := by
  cases a'; simp_all
 have hc0 : c' = #[.pointer (some ⟨B, 0, none⟩)] := by
  cases c'; simp_all
 subst ha0 hc0
 obtain ⟨B2, c, e, g1, g2, g3, _⟩ := hi.cells (.blk x) [.om b] (by simp [Heap.get, hx])
 rw [hB] at g1; cases g1
 obtain ⟨mv, g4, g5⟩ := g3 0 (.om b) rfl
 simp only [VR] at g5
 obtain ⟨M, g6, rfl⟩ := g5
 obtain ⟨M2, ms, cl, g7, g8, g9, g10⟩ := hi.maps b es hes
 have hM : M = M2 := by
  have h1 : ι.bl[b]? = some M := g6
  rw [g7] at h1; cases h1; rfl
 subst hM
 obtain ⟨k1, k2⟩ := keysI_ok g9 hl
 have hsz : ms.size = l.length := by
  have := congrArg List.length k1
  simpa using this
 let R : Value → Option (DataW Unit × List MemPlace) := fun _ => some (.lit (.bool true), [])
 have hrd : ∀ y ∈ ms.toList, ∃ n, y.key = encZ n ∧ (Lit.int .i64 n).wf = true := fun y hy => by
  have : y.key ∈ ms.toList.map (·.key) := List.mem_map.2 ⟨y, hy, rfl⟩
  rw [k1] at this
  obtain ⟨n, hn, e⟩ := List.mem_map.1 this
  exact ⟨n, e.symm, k2 n hn⟩
 have hkey : ∀ n, (Lit.int .i64 n).wf = true → keyOf P (ρ'.t 26) (encZ n) = some (.int .i64 n) := fun n hn => by
  simp [keyOf, L10.t26, mapKey, encZ, hn]
 have hown : w.ownsMap P (ρ'.t 26) R M ms.size (.map ((ms.toList.map (Go.WideElems.rg P (ρ'.t 26) R)).foldr DataW.insert [])) := by
  refine ⟨ms, cl, g8, ⟨by rw [hsz]; unfold maxLen; omega, g10, fun y hy => ?_⟩, Nat.le_refl _, rfl⟩
  obtain ⟨n, hn, hw⟩ := hrd y hy
  obtain ⟨yk, yv, yb⟩ := y
  simp only at hn
  subst hn
  exact ⟨_, Go.WideElems.rd_mk (hkey n hw) rfl⟩
 have hrg : ∀ y ∈ ms.toList, (intOf (Go.WideElems.rg P (ρ'.t 26) R y).1) = vI y.key := fun y hy => by
  obtain ⟨n, hn, hw⟩ := hrd y hy
  obtain ⟨yk, yv, yb⟩ := y
  simp only at hn
  subst hn
  rw [Go.WideElems.rg_of (Go.WideElems.rd_mk (hkey n hw) rfl)]
  rfl
 have hl2 : ms.toList.map (fun y => vI y.key) = l := by
  have : ms.toList.map (fun y => vI y.key) = (ms.toList.map (·.key)).map vI := by rw [List.map_map]; rfl
  rw [this, k1, List.map_map]
  exact (List.map_congr_left fun x _ => rfl).trans (List.map_id l)
 have hik : (intKeys (.map ((ms.toList.map (Go.WideElems.rg P (ρ'.t 26) R)).foldr DataW.insert []))).Perm l := by
  show (((ms.toList.map (Go.WideElems.rg P (ρ'.t 26) R)).foldr DataW.insert []).map fun p => intOf p.1).Perm l
  refine ((Go.WideShapes.sorted_perm _).map _).trans ?_
  rw [List.map_map]
  have : ms.toList.map ((fun p => intOf p.1) ∘ Go.WideElems.rg P (ρ'.t 26) R) = l := by
   rw [← hl2]
   exact List.map_congr_left fun y hy => hrg y hy
  rw [this]
 have hBl : B < w.heap.size := (Array.getElem?_eq_some_iff.1 g2).1
 have hcell : w.cell? ⟨B, 0, none⟩ = some (.map (some M)) := by
  simp only [World.cell?, g2]
  simpa using g4
 have hseq := AnyZI.keys_gives L10 Fence.wide 2 trivial rfl (by omega) B M ms.size _ w hBl hcell hown
 have hms : Maps.size (DataW.map (H := Unit) ((ms.toList.map (Go.WideElems.rg P (ρ'.t 26) R)).foldr DataW.insert [])) = l.length := by
  show ((ms.toList.map (Go.WideElems.rg P (ρ'.t 26) R)).foldr DataW.insert []).length = l.length
  rw [length_sorted, List.length_map, Array.length_toList, hsz]
 have cS := AnyZI.sorted_in L6 Fence.wide 5 trivial trivial trivial trivial rfl (by omega) hsort e9 (ρ'.f 10) #[.pointer (some ⟨B, 0, none⟩)] trivial eg _ _ (by rw [hms]; unfold maxLen; omega) (by rw [hms]; omega) w hseq
 refine ((callsIn_wide (n := 5)).1 cS).mono ?_
 rintro ex w' ⟨v, ss, rfl, hS, hrow, hnil, hbw⟩
 have hss : ss.Perm l := hS.trans hik
 have hsl : ss.length = l.length := hss.length_eq
 have hst : ss.mergeSort (fun x y => decide (x ≤ y)) = isort l := (mergeSort_of_perm_i hss).trans (isort_eq l).symm
 rcases hrow.2 with ⟨rfl, hz⟩ | ⟨g, cap, cur, rfl, hbase, hgb, r1, r2, r3, r4⟩
 · have hl0 : l = [] := List.eq_nil_of_length_eq_zero (by omega)
  obtain ⟨i1, i2, _⟩ := hi.below hbw (fun _ h => h) (fun _ h => .inl h)
  refine ⟨_, F, ι, [], rfl, ?_, i1, i2⟩
  subst hl0
  simp only [VR, BR]
  exact ⟨none, 0, rfl, Nat.le_refl _, .inl (by simp [isort])⟩
 · have hgl : g < w'.heap.size := (Array.getElem?_eq_some_iff.1 hgb).1
  obtain ⟨i1, i2, _⟩ := hi.below (F' := fun b => F b ∨ b = g) hbw (fun _ h => .inl h) (fun b h => h.imp id (fun e => by subst e; exact ⟨hbase, hgl⟩))
  refine ⟨_, fun b => F b ∨ b = g, ι, [], rfl, ?_, i1, i2⟩
  simp only [VR, BR]
  refine ⟨some ⟨g, 0, none⟩, cap, by rw [hsl], by omega, .inr ⟨g, 0, rfl, .inr rfl, BRc_row hgb _ 0 fun j x hx => ?_⟩⟩
  have hj : j < (isort l).length := (List.getElem?_eq_some_iff.1 hx).1
  rw [(isort_perm l).length_eq] at hj
  have h4 : (cur.toList.take (ss.length * 1))[j]? = ((isort l).map encZ)[j]? := by rw [r4, hst]
  rw [List.getElem?_take_of_lt (by omega), List.getElem?_map, hx] at h4
  rw [Nat.zero_add, ← Array.getElem?_toList]
  exact h4

/-- A call of what has a contract of its own. -/
theorem prim_call {C : Ctx} {k : FuncId} {s : List CV → List Blk → Option (CV × List Blk)} (hp : C.prim k = some s) (cap args : List CV) (bx : List (Nat × List CV)) (bl : List Blk) :
  call C (.fn (.func k) [] cap) args ⟨bx, bl⟩ = if CV.locs (args ++ cap) then none else (s (args ++ cap) bl).bind fun x => if x.1.locv then none else some (x.1, ⟨bx, x.2⟩) := by
 unfold call callC
 simp only [List.nil_append, hp]
theorem ctxOk_prims {P : Program} {tab : List (Nat × FInfo)} {pr : List (Nat × (List CV → List Blk → Option (CV × List Blk)))} (mix : P.follows .mixedOrders = true) (h : TabOk P ⟨look tab, look pr⟩ tab) (hp : ∀ e ∈ pr, PrimOk P e.1 e.2) : CtxOk P ⟨look tab, look pr⟩ where
 mix := mix
 info := fun k I _ hi => h.get k I hi
 prim := fun k s hs => by
  have : ∀ pr : List (Nat × (List CV → List Blk → Option (CV × List Blk))), look pr k = some s → (k, s) ∈ pr := by
   intro pr
   induction pr with
   | nil => intro h; cases h
   | cons e r ih =>
    obtain ⟨i, x⟩ := e
    intro h
    unfold look at h
    cases hb : Nat.beq i k with
    | true =>
     simp only [hb, cond_true, Option.some.injEq] at h
     have : i = k := Nat.eq_of_beq_eq_true hb
     subst this h
     exact List.mem_cons_self
    | false =>
     simp only [hb, cond_false] at h
     exact List.mem_cons_of_mem _ (ih h)
  exact hp _ (this pr hs)
theorem sortedS_eq {ks : List FuncId} {k : FuncId} {x b : Nat} {bl : List Blk} {es : List (CV × CV)} {l : List Int} (hk : ks.contains k = true) (hx : bl[x]? = some (.cells [.om b])) (hb : bl[b]? = some (.map es)) (hl : keysI es = some l) (hn : l.length ≤ 1000000) :
  sortedS ks [.fn (.func k) [] [.op (.blk x) 0]] bl = some (.vs ((isort l).map fun n => .int .i64 n) l.length, bl) := by
 unfold sortedS
 simp only [hk, if_true, hx, hb, hl, if_pos hn]
end Go.Zc
end
