/- Cells in memory, and what they show by value. No condition. -/
import Derived.Test.YtfblegjbmhgepaaZcG
set_option linter.all false
section
namespace Go.Zc

/-- What a cell shows to whoever gets it by value. -/
def Shows (bl : List Blk) (c y : CV) : Prop := ∀ (bx : List (Nat × List CV)) (n : Nat), snapN ⟨bx, bl⟩ false false (n + 2) c = some y
def ShowsL (bl : List Blk) : List CV → List CV → Prop
 | [], [] => True
 | c :: cs, y :: ys => Shows bl c y ∧ ShowsL bl cs ys
 | _, _ => False
theorem ShowsL.length {bl : List Blk} : ∀ {cs ys : List CV}, ShowsL bl cs ys → cs.length = ys.length
 | [], [], _ => rfl
 | _ :: _, _ :: _, h => by simp [ShowsL.length h.2]
 | [], _ :: _, h => h.elim
 | _ :: _, [], h => h.elim
theorem ShowsL.app {bl : List Blk} : ∀ {cs ys cs' ys' : List CV}, ShowsL bl cs ys → ShowsL bl cs' ys' → ShowsL bl (cs ++ cs') (ys ++ ys')
 | [], [], _, _, _, h => h
 | _ :: _, _ :: _, _, _, h, h' => ⟨h.1, ShowsL.app h.2 h'⟩
 | [], _ :: _, _, _, h, _ => h.elim
 | _ :: _, [], _, _, h, _ => h.elim
theorem ShowsL.map {bl : List Blk} (bx : List (Nat × List CV)) (n : Nat) : ∀ {cs ys : List CV}, ShowsL bl cs ys → mapC (snapN ⟨bx, bl⟩ false false (n + 2)) cs = some ys
 | [], [], _ => rfl
 | _ :: _, _ :: _, h => by simp only [mapC, h.1 bx n, ShowsL.map bx n h.2, Option.bind_some, Option.map_some]
 | [], _ :: _, h => h.elim
 | _ :: _, [], h => h.elim
theorem shows_int (bl : List Blk) (k : IntKind) (n : Int) : Shows bl (.int k n) (.int k n) := fun _ _ => rfl
theorem shows_bool (bl : List Blk) (b : Bool) : Shows bl (.bool b) (.bool b) := fun _ _ => rfl
theorem shows_sl (bl : List Blk) {α : Type} (f : α → List CV) (l : List α) : Shows bl (sl f l) (sl f l) := fun _ _ => rfl
theorem shows_own {α : Type} {f : α → List CV} {sz : Nat} (hf : Flat f sz) {bl : List Blk} {v : CV} {l : List α} (h : Own f sz bl v l) (hg : ∀ (H : Heap) (x : α), ∀ c ∈ f x, ∀ n, snapN H false false (n + 1) c = some c) : Shows bl v (sl f l) :=
 fun bx n => h.snapV hf bx false _ fun x c hc => hg _ x c hc n
/-- Rows that show themselves. -/
theorem shows_rows {α : Type} {f : α → List CV} {bl : List Blk} (hg : ∀ x, ShowsL bl (f x) (f x)) : ∀ l : List α, ShowsL bl (l.flatMap f) (l.flatMap f)
 | [] => trivial
 | x :: l => by
  simp only [List.flatMap_cons]
  exact (hg x).app (shows_rows hg l)
/-- A slice whose cells show something. -/
theorem os_snap {bl : List Blk} {m sz n : Nat} {cs ys : List CV} (hm : bl[m]? = some (.cells cs)) (h : ShowsL bl cs ys) (hl : ys.length = n * sz) (bx : List (Nat × List CV)) :
  snapV ⟨bx, bl⟩ false false (snapN ⟨bx, bl⟩ false false 7) (.os sz (.blk m) 0 n) = some (.vs ys n) := by
 have hlen := h.length
 unfold snapV
 split
 · rename_i h0
  subst h0
  have : ys = [] := List.eq_nil_of_length_eq_zero (by simpa using hl)
  rw [this]
 · rw [get_blk bx bl m _ hm]
  simp only [Option.bind_some, Nat.zero_add, List.drop_zero]
  rw [if_pos (by omega), List.take_of_length_le (by omega), h.map bx 5]
  rfl

/-- A row more, whatever its cells: out of a literal's block. -/
theorem app_row {α : Type} {f : α → List CV} {sz : Nat} (hf : Flat f sz) {bl : List Blk} {v : CV} {l : List α} (h : Own f sz bl v l) {bytes : Nat} {zero : List CV} (hb : 0 < bytes) (hz : zero.length = sz) (hz1 : Zc.ones zero = true)
  (row : List CV) (hr : row.length = sz) (hr1 : Zc.ones row = true) (hr2 : CV.locs row = false) (hm : (l.length + 1) * bytes ≤ 140737488355328) :
  ∃ bl', (∀ bx, heapOp (.app sz bytes zero) [v, .os sz (.blk bl.length) 0 1] ⟨bx, bl ++ [.cells row]⟩ = some (.os sz (.blk (bl.length + 1)) 0 (l.length + 1), ⟨bx, bl'⟩)) ∧ bl'[bl.length + 1]? = some (.cells (l.flatMap f ++ row)) ∧
   (∀ (k : Nat) (b : Blk), bl[k]? = some b → blkOf v ≠ some k → bl'[k]? = some b) := by
 have hsh : ∀ bx, shown ⟨bx, bl ++ [Blk.cells row]⟩ sz (.os sz (.blk bl.length) 0 1) = some row := by
  intro bx
  unfold shown
  simp only [if_true]
  rw [get_blk bx _ bl.length row (by simp)]
  simp only [Option.bind_some, Nat.zero_add, Nat.one_mul, hr, Nat.le_refl, if_true, List.drop_zero]
  rw [List.take_of_length_le (by omega)]
 have hc := decide_eq_true hm
 rcases h with ⟨rfl, rfl⟩ | ⟨m, rfl, h2⟩
 · refine ⟨bl ++ [.cells row] ++ [.cells row], fun bx => ?_, ?_, fun k b hk _ => ?_⟩
  · simp only [heapOp, lenOf, Nat.one_ne_zero, if_false, hsh, Option.bind_some, hr1, hr2, hz, hz1, decide_true, hf.pos, hb, Bool.true_and, Bool.not_false, Bool.and_true, appC, Heap.push]
   rw [if_pos (by simpa [lenOf] using hm)]
   simp
  · rw [List.getElem?_append_right (by simp)]; simp
  · have := (List.getElem?_eq_some_iff.1 hk).1
   rw [List.append_assoc, List.getElem?_append_left this]; exact hk
 · have hml : m < bl.length := (List.getElem?_eq_some_iff.1 h2).1
  have hg : ∀ bx, Heap.get ⟨bx, bl ++ [Blk.cells row]⟩ (.blk m) = some (l.flatMap f) := fun bx => get_blk bx _ m _ (by rw [List.getElem?_append_left hml]; exact h2)
  refine ⟨((bl ++ [Blk.cells row]).set m .dead) ++ [Blk.cells (l.flatMap f ++ row)], fun bx => ?_, ?_, fun k b hk hne => ?_⟩
  · simp only [heapOp, lenOf, Nat.one_ne_zero, if_false, hsh, Option.bind_some, hr1, hr2, hz, hz1, decide_true, hf.pos, hb, Bool.true_and, Bool.not_false, Bool.and_true]
   rw [if_pos (by exact hc)]
   simp only [appC, if_true, hg, Option.bind_some, hf.length, Nat.le_refl, Heap.kill, Heap.push]
   rw [List.take_of_length_le (by rw [hf.length]; exact Nat.le_refl _)]
   simp
  · rw [List.getElem?_append_right (by simp)]; simp
  · have hkl := (List.getElem?_eq_some_iff.1 hk).1
   have hne' : m ≠ k := fun e => hne (by rw [e]; rfl)
   rw [List.getElem?_append_left (by simp; omega), List.getElem?_set_ne hne', List.getElem?_append_left hkl]
   exact hk

/-- One cell of a block is written over. -/
theorem st_cell (bx : List (Nat × List CV)) (bl : List Blk) (m k : Nat) (x : CV) (X : List CV) (hc : x.cells = [x]) (h1 : x.one = true) (h2 : x.locv = false) (hk : k < X.length) :
  stE 1 k x ⟨bx, bl⟩ (.blk m) X = some ⟨bx, bl.set m (.cells (X.set k x))⟩ := by
 unfold stE
 rw [if_pos ⟨by rw [hc]; rfl, by omega, by rw [hc]; simp [ones, h1], .inr (by rw [hc]; simp [CV.locs, h2])⟩, hc]
 rfl
theorem get_set (bx : List (Nat × List CV)) (B : List Blk) (a : Nat) (X : List CV) (h : a < B.length) : Heap.get ⟨bx, B.set a (.cells X)⟩ (.blk a) = some X := get_blk _ _ _ _ (by simp [h])

/-! ### Frozen slices, nil ones too -/
def Fz {α : Type} (f : α → List CV) (c : CV) (l : List α) : Prop := c = sl f l ∨ (c = .nils ∧ l = [])
section
variable {α : Type} {f : α → List CV} {c : CV} {l : List α}
theorem Fz.snapV (h : Fz f c l) (H : Heap) (g : CV → Option CV) : snapV H false false g c = some (sl f l) := by rcases h with rfl | ⟨rfl, rfl⟩ <;> rfl
theorem Fz.len (h : Fz f c l) : lenC c = some (.int .i64 l.length) := by rcases h with rfl | ⟨rfl, rfl⟩ <;> rfl
theorem Fz.locv (h : Fz f c l) : c.locv = false := by rcases h with rfl | ⟨rfl, rfl⟩ <;> rfl
theorem Fz.ref (h : Fz f c l) : c.ref = false := by rcases h with rfl | ⟨rfl, rfl⟩ <;> rfl
theorem Fz.one (h : Fz f c l) : c.one = true := by rcases h with rfl | ⟨rfl, rfl⟩ <;> rfl
theorem Fz.und (h : Fz f c l) : c.und? = false := by rcases h with rfl | ⟨rfl, rfl⟩ <;> rfl
theorem Fz.cells (h : Fz f c l) : c.cells = [c] := by rcases h with rfl | ⟨rfl, rfl⟩ <;> rfl
theorem Fz.ne (h : Fz f c l) (h0 : l ≠ []) : c = sl f l := by
 rcases h with h | ⟨_, h⟩
 · exact h
 · exact (h0 h).elim
end

/-! ### Slices, wherever they lie -/
def Held {α : Type} (f : α → List CV) (sz : Nat) (bl : List Blk) (c : CV) (l : List α) : Prop :=
 c = sl f l ∨ (c = .nils ∧ l = []) ∨ ∃ m pre rest, c = .os sz (.blk m) pre.length l.length ∧ bl[m]? = some (.cells (pre ++ l.flatMap f ++ rest))

section
variable {α : Type} {f : α → List CV} {sz : Nat} {bl : List Blk} {c : CV} {l : List α}
theorem Own.held (h : Own f sz bl c l) : Held f sz bl c l := by
 rcases h with h | ⟨m, h1, h2⟩
 · exact .inr (.inl h)
 · exact .inr (.inr ⟨m, [], [], h1, by simpa using h2⟩)
theorem Held.sl (l : List α) : Held f sz bl (Zc.sl f l) l := .inl rfl
theorem Held.locv (h : Held f sz bl c l) : c.locv = false := by rcases h with rfl | ⟨rfl, _⟩ | ⟨_, _, _, rfl, _⟩ <;> rfl
theorem Held.one (h : Held f sz bl c l) : c.one = true := by rcases h with rfl | ⟨rfl, _⟩ | ⟨_, _, _, rfl, _⟩ <;> rfl
theorem Held.und (h : Held f sz bl c l) : c.und? = false := by rcases h with rfl | ⟨rfl, _⟩ | ⟨_, _, _, rfl, _⟩ <;> rfl
theorem Held.cells (h : Held f sz bl c l) : c.cells = [c] := by rcases h with rfl | ⟨rfl, _⟩ | ⟨_, _, _, rfl, _⟩ <;> rfl
theorem Held.chkV (h : Held f sz bl c l) (s : List Nat) : chkV s c = true := chkV_of h.locv s
theorem Held.len (h : Held f sz bl c l) : lenC c = some (.int .i64 l.length) := by rcases h with rfl | ⟨rfl, rfl⟩ | ⟨_, _, _, rfl, _⟩ <;> rfl
theorem Held.lenOf (h : Held f sz bl c l) : lenOf c = l.length := by rcases h with rfl | ⟨rfl, rfl⟩ | ⟨_, _, _, rfl, _⟩ <;> rfl
theorem Held.isSl (h : Held f sz bl c l) : isSl c = true := by rcases h with rfl | ⟨rfl, rfl⟩ | ⟨_, _, _, rfl, _⟩ <;> rfl
theorem Held.lt (h : Held f sz bl c l) {k : Nat} (hk : blkOf c = some k) : k < bl.length := by
 rcases h with rfl | ⟨rfl, _⟩ | ⟨m, _, _, rfl, h2⟩
 · cases hk
 · cases hk
 · cases hk; exact (List.getElem?_eq_some_iff.1 h2).1
theorem Held.keep {bl' : List Blk} (h : Held f sz bl c l) (hk : ∀ (m : Nat) (b : Blk), bl[m]? = some b → blkOf c = some m → bl'[m]? = some b) : Held f sz bl' c l := by
 rcases h with h | h | ⟨m, pre, rest, rfl, h2⟩
 · exact .inl h
 · exact .inr (.inl h)
 · exact .inr (.inr ⟨m, pre, rest, rfl, hk m _ h2 rfl⟩)
theorem Held.snapV (hf : Flat f sz) (h : Held f sz bl c l) (bx : List (Nat × List CV)) (g : CV → Option CV) (hg : ∀ x, ∀ c ∈ f x, g c = some c) : snapV ⟨bx, bl⟩ false false g c = some (Zc.sl f l) := by
 rcases h with rfl | ⟨rfl, rfl⟩ | ⟨m, pre, rest, rfl, h2⟩
 · rfl
 · rfl
 · unfold Zc.snapV
  split
  · rename_i h0
   have : l = [] := List.eq_nil_of_length_eq_zero h0
   subst this
   rfl
  · rw [get_blk bx bl m _ h2]
   have hl := hf.length l
   simp only [Option.bind_some, List.length_append, hl]
   rw [if_pos (by omega), List.append_assoc, List.drop_left, ← hl, List.take_left, mapC_id]
   · rfl
   · intro c hc
    obtain ⟨x, _, hx⟩ := List.mem_flatMap.1 hc
    exact hg x c hx
theorem Held.shows (hf : Flat f sz) (h : Held f sz bl c l) (hg : ∀ (H : Heap) (x : α), ∀ c ∈ f x, ∀ n, snapN H false false (n + 1) c = some c) : Shows bl c (Zc.sl f l) :=
 fun bx n => h.snapV hf bx _ fun x c hc => hg _ x c hc n
theorem Held.shown (hf : Flat f sz) (h : Held f sz bl c l) (bx : List (Nat × List CV)) : shown ⟨bx, bl⟩ sz c = some (l.flatMap f) := by
 rcases h with rfl | ⟨rfl, rfl⟩ | ⟨m, pre, rest, rfl, h2⟩
 · exact shown_sl hf.len _ _
 · rfl
 · unfold Zc.shown
  have hl := hf.length l
  simp only [if_true]
  rw [get_blk bx bl m _ h2]
  simp only [Option.bind_some, List.length_append, hl]
  rw [if_pos (by omega), List.append_assoc, List.drop_left, ← hl, List.take_left]
theorem Held.take (hf : Flat f sz) (h : Held f sz bl c l) (u : Nat) (hu : u ≤ l.length) : ∃ c2, (∀ k : IntKind, slcC sz c none (some (.int k u)) = some c2) ∧ Held f sz bl c2 (l.take u) ∧ blkOf c2 = blkOf c := by
 rcases h with rfl | ⟨rfl, rfl⟩ | ⟨m, pre, rest, rfl, h2⟩
 · exact ⟨_, fun k => slc_hi hf l u hu k, .inl rfl, rfl⟩
 · have h0 : u = 0 := by simpa using hu
  subst h0
  exact ⟨.nils, fun k => by simp [slcC, sbound], .inr (.inl ⟨rfl, rfl⟩), rfl⟩
 · refine ⟨.os sz (.blk m) pre.length u, fun k => ?_, .inr (.inr ⟨m, pre, (l.drop u).flatMap f ++ rest, by rw [List.length_take, Nat.min_eq_left hu], ?_⟩), rfl⟩
  · unfold slcC
   simp only [if_true, sbound]
   rw [if_pos ⟨by omega, by omega⟩]
   simp
  · rw [h2]
   conv => lhs; rw [← List.take_append_drop u l, List.flatMap_append]
   simp
theorem Held.drop (hf : Flat f sz) (h : Held f sz bl c l) (u : Nat) (hu : u ≤ l.length) : ∃ c2, (∀ k : IntKind, slcC sz c (some (.int k u)) none = some c2) ∧ Held f sz bl c2 (l.drop u) ∧ blkOf c2 = blkOf c := by
 rcases h with rfl | ⟨rfl, rfl⟩ | ⟨m, pre, rest, rfl, h2⟩
 · exact ⟨_, fun k => slc_lo hf l u hu k, .inl rfl, rfl⟩
 · have h0 : u = 0 := by simpa using hu
  subst h0
  exact ⟨.nils, fun k => by simp [slcC, sbound], .inr (.inl ⟨rfl, rfl⟩), rfl⟩
 · have hlu := hf.length (l.take u)
  rw [List.length_take, Nat.min_eq_left hu] at hlu
  refine ⟨.os sz (.blk m) (pre.length + u * sz) (l.length - u), fun k => ?_, .inr (.inr ⟨m, pre ++ (l.take u).flatMap f, rest, ?_, ?_⟩), rfl⟩
  · unfold slcC
   simp only [if_true, sbound, Option.bind_some]
   rw [if_pos ⟨by omega, by omega⟩]
   simp
  · rw [List.length_append, hlu, List.length_drop]
  · rw [h2]
   conv => lhs; rw [← List.take_append_drop u l, List.flatMap_append]
   simp
/-- One of its elements. -/
theorem Held.at (hf : Flat f sz) (h : Held f sz bl c l) {P S : List α} {x : α} (hl : l = P ++ x :: S) :
  ∃ p, (∀ k : IntKind, iaddrC sz c (.int k P.length) = some p) ∧ p.locv = false ∧ (∀ bx, loadC true sz ⟨bx, bl⟩ p = some (.agg (f x))) ∧
   ∀ o, o < sz → ∃ p', faddrC o p = some p' ∧ p'.locv = false ∧ ∀ bx, loadC false 1 ⟨bx, bl⟩ p' = (f x)[o]? := by
 have hlx := hf.len x
 rcases h with rfl | ⟨rfl, rfl⟩ | ⟨m, pre, rest, rfl, h2⟩
 · subst hl
  refine ⟨.vp (f x ++ S.flatMap f), fun k => iaddr_mid hf k P S x, rfl, fun bx => ?_, fun o ho => ⟨.vp ((f x ++ S.flatMap f).drop o), faddr_vp _ _, rfl, fun bx => ?_⟩⟩
  · rw [load_vp_t, takeN_eq, if_pos (by simp; omega), ← hlx, List.take_left]
   rfl
  · rw [List.drop_append_of_le_length (by omega), List.drop_eq_getElem_cons (by omega), List.cons_append, load_vp_f, List.getElem?_eq_getElem (by omega)]
 · simp at hl
 · subst hl
  have hlp := hf.length P
  have hcs : pre ++ (P ++ x :: S).flatMap f ++ rest = (pre ++ P.flatMap f) ++ (f x ++ (S.flatMap f ++ rest)) := by simp
  rw [hcs] at h2
  have hpl : (pre ++ P.flatMap f).length = pre.length + P.length * sz := by rw [List.length_append, hlp]
  refine ⟨.op (.blk m) (pre.length + P.length * sz), fun k => ?_, rfl, fun bx => ?_, fun o ho => ⟨.op (.blk m) (pre.length + P.length * sz + o), faddr_op _ _ _, rfl, fun bx => ?_⟩⟩
  · unfold iaddrC iaddrN
   simp only [Int.toNat_natCast]
   rw [if_pos ⟨trivial, by omega, by simp; omega⟩]
  · rw [load_op, get_blk bx bl m _ h2, Option.bind_some, ldE_t _ _ hf.pos, ← hpl, List.drop_left, takeN_eq, if_pos (by simp; omega), ← hlx, List.take_left]
   rfl
  · rw [load_op, get_blk bx bl m _ h2, Option.bind_some, ldE_f, ← hpl, ← List.drop_drop, List.drop_left, List.drop_append_of_le_length (by omega), List.drop_eq_getElem_cons (by omega), List.cons_append, headO_cons, List.getElem?_eq_getElem (by omega)]
end

/-! ### Memory that but grows -/
def Grows (bl bl' : List Blk) : Prop := ∀ (k : Nat) (b : Blk), bl[k]? = some b → bl'[k]? = some b
theorem Grows.refl (bl : List Blk) : Grows bl bl := fun _ _ h => h
theorem Grows.trans {a b c : List Blk} (h : Grows a b) (h' : Grows b c) : Grows a c := fun k x hx => h' k x (h k x hx)
theorem Grows.app (bl X : List Blk) : Grows bl (bl ++ X) := fun k b h => by rw [List.getElem?_append_left (List.getElem?_eq_some_iff.1 h).1]; exact h
theorem Grows.le {bl bl' : List Blk} (h : Grows bl bl') : bl.length ≤ bl'.length := by
 by_cases h0 : bl.length = 0
 · omega
 · have h1 := h (bl.length - 1) _ (List.getElem?_eq_getElem (by omega))
  have := (List.getElem?_eq_some_iff.1 h1).1
  omega
theorem Grows.ex {bl bl' : List Blk} (h : Grows bl bl') : ∃ X, bl' = bl ++ X := by
 refine ⟨bl'.drop bl.length, ?_⟩
 refine List.ext_getElem? fun k => ?_
 by_cases hk : k < bl.length
 · rw [List.getElem?_append_left hk, List.getElem?_eq_getElem hk]
  exact h k _ (List.getElem?_eq_getElem hk)
 · rw [List.getElem?_append_right (by omega), List.getElem?_drop]
  congr 1
  omega
theorem Grows.fr {bl bl1 bl' : List Blk} (h : Grows bl bl1) {v : CV} (hf : Fr bl1 bl' v) (hv : ∀ k, blkOf v = some k → bl.length ≤ k) : Grows bl bl' := fun k b hb => hf k b (h k b hb) fun e => by
 have := hv k e
 have := (List.getElem?_eq_some_iff.1 hb).1
 omega
end Go.Zc
end
section
namespace Go.Proofs.Ytfblegjbmhgepaa.Zt
open Go Go.Zc
set_option maxRecDepth 10000

theorem iaddr_midVh (k : IntKind) (pre suf : List Vh) (x : Vh) : iaddrC 4 (sl fVh (pre ++ x :: suf)) (.int k pre.length) = some (.vp (.int .i64 x.id :: .int .i64 x.length :: .int .i64 x.ahead :: sl fE x.way :: suf.flatMap fVh)) := iaddr_mid flatVh k pre suf x
theorem iaddr_atVh {k : IntKind} {l : List Vh} {i : Nat} (h : i < l.length) : iaddrC 4 (sl fVh l) (.int k i) = some (.vp (.int .i64 l[i].id :: .int .i64 l[i].length :: .int .i64 l[i].ahead :: sl fE l[i].way :: (l.drop (i + 1)).flatMap fVh)) := iaddr_sl flatVh.len flatVh.pos h

theorem rfind_loop (id : Int) : ∀ (S P : List Vh), (P ++ S).length ≤ Zc.small →
  r18_find_R0 ([(0, sl fVh (P ++ S)), (1, .int .i64 id), (5, .int .i64 P.length)], ⟨[], []⟩) =
   match S.findIdx? fun v => decide (v.id = id) with
   | some i => some (.ret, [(4, .int .i64 ((P.length + i : Nat) : Int))], ⟨[], []⟩)
   | none => some (.norm, [], ⟨[], []⟩)
 | [], P, hm => by
  rw [r18_find_R0_eq]
  simp only [r18_find_B0, r18_find_K0_a, List.findIdx?_nil, zy, simprocAttr]
 | x :: S, P, hm => by
  have h1 : ((P.length : Int) < (P ++ x :: S).length) := by simp; omega
  have hw := wrapN (n := P.length) (by unfold Zc.small at *; simp at hm; omega)
  have hia := iaddr_midVh .i64 P S x
  have ih := rfind_loop id S (P ++ [x]) (by simpa using hm)
  rw [show (P ++ [x]) ++ S = P ++ x :: S by simp, show (P ++ [x]).length = P.length + 1 by simp] at ih
  rw [r18_find_R0_eq]
  by_cases hA : x.id = id
  · simp only [r18_find_B0, r18_find_K0_a, h1, hia, eq_true hA, List.findIdx?_cons, zy, simprocAttr]
  · simp only [r18_find_B0, r18_find_K0_a, h1, hia, eq_false hA, hw, ih, List.findIdx?_cons, zy, simprocAttr]
   cases S.findIdx? fun v => decide (v.id = id) with
   | none => simp
   | some i => simp; omega
def ixC (o : Option Nat) : CV := .int .i64 (match o with | some i => (i : Int) | none => -1)
theorem rfind_F (w : List Vh) (hm : w.length ≤ Zc.small) (id : Int) (st : Bool) (H : Heap) : r18_find_F st H [sl fVh w, .int .i64 id] = some (ixC (findW w id), H) := by
 have e := rfind_loop id w [] hm
 simp only [List.nil_append, List.length_nil, Int.natCast_zero, Nat.zero_add] at e
 rw [r18_find_F_eq]
 unfold findW
 cases h : w.findIdx? fun v => decide (v.id = id) with
 | none =>
  rw [h] at e
  simp only [r18_find_C, r18_find_L0_eq, e, ixC, zy, simprocAttr]
 | some i =>
  rw [h] at e
  simp only [r18_find_C, r18_find_L0_eq, e, ixC, zy, simprocAttr]

/-- Sections of a length that may be. -/
structure Lens (l : Lay) : Prop where
 ok : l.ok
 pos : 0 < l.secs.length
 few : l.secs.length ≤ 12
 lo : ∀ s, 0 ≤ lenAt l s
 hi : ∀ s, lenAt l s ≤ 1000
 one : ∀ s : Int, 0 ≤ s → s < l.secs.length → 1 ≤ lenAt l s
 back : ∀ x y, y ∈ around l x → x ∈ around l y
 apart : ∀ x y, y ∈ around l x → (around l x).find? (fun z => z.s == y.s) = some y
structure Vh.fits (v : Vh) : Prop where
 ahead : 0 ≤ v.ahead ∧ v.ahead ≤ 100000000
 length : 1 ≤ v.length ∧ v.length ≤ 100000000
 way : v.way.length ≤ 1000

theorem runder_loop (l : Lay) (hl : Lens l) (v : Vh) (hv : v.fits) : ∀ (S P : List Ed) (b : Int), v.way = P ++ S → 0 < b ∧ b ≤ 1000000000 →
  (r18_under_R0 ([(2, .op (.loc 2) 0), (3, .op (.loc 3) 0), (5, .int .i64 b), (6, .int .i64 P.length)], ⟨[(2, layC l), (3, fVh v)], []⟩) = some (.ret, [(4, .int .i64 ((P.length + underN l b S : Nat) : Int))], ⟨[(2, layC l), (3, fVh v)], []⟩)) ∨
  (r18_under_R0 ([(2, .op (.loc 2) 0), (3, .op (.loc 3) 0), (5, .int .i64 b), (6, .int .i64 P.length)], ⟨[(2, layC l), (3, fVh v)], []⟩) = some (.norm, [(3, .op (.loc 3) 0)], ⟨[(3, fVh v)], []⟩) ∧ underN l b S = S.length)
 | [], P, b, hP, hb => by
  right
  refine ⟨?_, rfl⟩
  have h1 : ¬ ((P.length : Int) < v.way.length) := by rw [hP]; simp
  rw [r18_under_R0_eq]
  simp only [r18_under_B0, r18_under_K0_a, fVh, h1, zy, simprocAttr]
 | x :: S, P, b, hP, hb => by
  have h1 : ((P.length : Int) < v.way.length) := by rw [hP]; simp; omega
  have hw := wrapN (n := P.length) (by have := hv.way; rw [hP] at this; unfold Zc.small; simp at this; omega)
  have hia := iaddr_midE .i64 P S x
  rw [← hP] at hia
  have hlo := hl.lo x.s
  have hhi := hl.hi x.s
  have hw2 : IntKind.i64.wrap (b - lenAt l x.s) = b - lenAt l x.s := wrap64 (by omega) (by omega)
  have hF := fun st H => len_F l x.s st H
  rw [r18_under_R0_eq]
  unfold underN
  by_cases hc : b - lenAt l x.s ≤ 0
  · left
   simp only [r18_under_B0, r18_under_K0_a, fVh, h1, hia, r05_Len_call, hF, hw2, hw, eq_true hc, zy, simprocAttr]
  · have hc' : 0 < b - lenAt l x.s := by omega
   have ih := runder_loop l hl v hv S (P ++ [x]) (b - lenAt l x.s) (by rw [hP]; simp) ⟨hc', by omega⟩
   rw [show (P ++ [x]).length = P.length + 1 by simp] at ih
   simp only [fVh] at ih
   rcases ih with ih | ⟨ih, ihn⟩
   · left
    simp only [r18_under_B0, r18_under_K0_a, fVh, h1, hia, r05_Len_call, hF, hw2, hw, eq_false hc, ih, zy, simprocAttr]
    rw [show P.length + 1 + underN l (b - lenAt l x.s) S = P.length + (underN l (b - lenAt l x.s) S + 1) by omega]
   · right
    refine ⟨?_, by rw [if_neg hc, ihn, List.length_cons]⟩
    simp only [r18_under_B0, r18_under_K0_a, fVh, h1, hia, r05_Len_call, hF, hw2, hw, eq_false hc, ih, zy, simprocAttr]
theorem runder_F (l : Lay) (hl : Lens l) (v : Vh) (hv : v.fits) (st : Bool) (H : Heap) :
  r18_under_F st H [.agg (layC l), .agg (fVh v)] = some (.int .i64 (underN l (v.ahead + v.length) v.way), H) := by
 have ha := hv.ahead
 have hle := hv.length
 have hw2 : IntKind.i64.wrap (v.ahead + v.length) = v.ahead + v.length := wrap64 (by omega) (by omega)
 have e := runder_loop l hl v hv v.way [] (v.ahead + v.length) rfl (by omega)
 simp only [List.nil_append, List.length_nil, Int.natCast_zero, Nat.zero_add, fVh] at e
 rw [r18_under_F_eq]
 rcases e with e | ⟨e, en⟩
 · simp only [r18_under_C, r18_under_L0_eq, fVh, hw2, e, zy, simprocAttr]
 · simp only [r18_under_C, r18_under_L0_eq, fVh, hw2, e, en, zy, simprocAttr]

theorem findW_some {w : List Vh} {id : Int} {i : Nat} (h : findW w id = some i) : ∃ hi : i < w.length, w[i].id = id := by
 unfold findW at h
 rw [List.findIdx?_eq_some_iff_getElem] at h
 obtain ⟨h1, h2, _⟩ := h
 exact ⟨h1, by simpa using h2⟩

theorem rUnder_loop (l : Lay) (hl : Lens l) (w : List Vh) (hm : w.length ≤ Zc.small) (i : Nat) (hi : i < w.length) (hv : w[i].fits) : ∀ (S P : List Ed) (c : CV) (bl : List Blk), underW l w[i] = P ++ S → Own fI 1 bl c (P.map Ed.s) →
  ∃ c' bl', r18_Under_R0 ([(1, sl fVh w), (3, .op (.loc 3) 0), (7, .int .i64 i), (8, c), (9, .int .i64 P.length)], ⟨[(3, layC l)], bl⟩) = some (.norm, [(8, c')], ⟨[], bl'⟩) ∧ Own fI 1 bl' c' (underL l w[i]) := by
 intro S
 have hn : (underW l w[i]).length = underN l (w[i].ahead + w[i].length) w[i].way := by
  unfold underW
  rw [List.length_take]
  have := underN_le l (w[i].ahead + w[i].length) w[i].way
  omega
 have hF := fun st H => runder_F l hl w[i] hv st H
 have hia := iaddr_atVh (k := .i64) hi
 have hway := hv.way
 have hnle := underN_le l (w[i].ahead + w[i].length) w[i].way
 simp only [fVh] at hF
 induction S with
 | nil =>
  intro P c bl hP hO
  refine ⟨c, bl, ?_, by unfold underL; rw [hP, List.append_nil]; exact hO⟩
  have h1 : ¬ ((P.length : Int) < (underN l (w[i].ahead + w[i].length) w[i].way : Nat)) := by rw [← hn, hP]; simp
  rw [r18_Under_R0_eq]
  simp only [r18_Under_B0, r18_Under_K0_a, hia, r18_under_call, hF, h1, hO.chkV, zy, simprocAttr]
 | cons x S ih =>
  intro P c bl hP hO
  have h1 : ((P.length : Int) < (underN l (w[i].ahead + w[i].length) w[i].way : Nat)) := by rw [← hn, hP]; simp; omega
  have hpl : P.length + 1 ≤ underN l (w[i].ahead + w[i].length) w[i].way := by rw [← hn, hP]; simp
  have hw := wrapN (n := P.length) (by unfold Zc.small; omega)
  have hxe : w[i].way = P ++ x :: (S ++ w[i].way.drop (underN l (w[i].ahead + w[i].length) w[i].way)) := by
   have := List.take_append_drop (underN l (w[i].ahead + w[i].length) w[i].way) w[i].way
   unfold underW at hP
   rw [hP] at this
   rw [List.append_assoc, List.cons_append] at this
   exact this.symm
  have hix := iaddr_midE .i64 P (S ++ w[i].way.drop (underN l (w[i].ahead + w[i].length) w[i].way)) x
  rw [← hxe] at hix
  obtain ⟨c1, bl1, e1, o1, _, _, _⟩ := hO.app1 flatI (bytes := 8) (zero := [.int .i64 0]) (by omega) rfl rfl x.s (by simp; omega)
  obtain ⟨c', bl', q1, q2⟩ := ih (P ++ [x]) c1 bl1 (by rw [hP]; simp) (by simpa using o1)
  rw [show (P ++ [x]).length = P.length + 1 by simp] at q1
  refine ⟨c', bl', ?_, q2⟩
  simp only [fI] at e1
  rw [r18_Under_R0_eq]
  simp only [r18_Under_B0, r18_Under_K0_a, hia, r18_under_call, hF, h1, hix, hw, e1, hO.chkV, o1.chkV, q1, zy, simprocAttr]

theorem snap_Iq (H : Heap) (st : Bool) (n : Nat) (x : Int) : ∀ c ∈ fI x, snapN H st false (n + 1) c = some c := by
 intro c hc
 simp only [fI, List.mem_singleton] at hc
 subst hc
 rfl
theorem rUnder_F (l : Lay) (hl : Lens l) (w : List Vh) (hm : w.length ≤ Zc.small) (hv : ∀ v ∈ w, v.fits) (id : Int) (st : Bool) (H : Heap) :
  r18_Under_F st H [.agg (layC l), sl fVh w, .int .i64 id] = some (sl fI (underV l w id), H) := by
 have hf := fun st H => rfind_F w hm id st H
 rw [r18_Under_F_eq]
 unfold underV
 cases h : findW w id with
 | none =>
  simp only [h, ixC] at hf
  have hsl : sl fI [] = .vs [] 0 := rfl
  simp only [r18_Under_C, r18_find_call, hf, hsl, zy, simprocAttr]
 | some i =>
  simp only [h, ixC] at hf
  obtain ⟨hi, _⟩ := findW_some h
  have h0 : ¬ ((i : Int) < 0) := by omega
  obtain ⟨c', bl', q1, q2⟩ := rUnder_loop l hl w hm i hi (hv _ (List.getElem_mem hi)) (underW l w[i]) [] .nils [] rfl (.inl ⟨rfl, rfl⟩)
  simp only [List.nil_append, List.length_nil, Int.natCast_zero] at q1
  have hs := fun bx st => q2.snapV flatI bx st (snapN ⟨bx, bl'⟩ st false 7) (snap_Iq _ st 6)
  simp only [List.getElem?_eq_getElem hi]
  simp only [r18_Under_C, r18_Under_L0_eq, r18_find_call, hf, h0, q1, hs, q2.chkV, q2.locv, zy, simprocAttr]

theorem rInside_loop (l : Lay) (hl : Lens l) (w : List Vh) (hm : w.length ≤ Zc.small) (hv : ∀ v ∈ w, v.fits) (s : Int) : ∀ (S P : List Vh), w = P ++ S →
  r18_Inside_R0 ([(1, sl fVh w), (2, .int .i64 s), (3, .op (.loc 3) 0), (7, .int .i64 P.length)], ⟨[(3, layC l)], []⟩) =
   if (S.any fun v => decide (s ∈ underV l w v.id)) = true then some (.ret, [(6, .bool true)], ⟨[(3, layC l)], []⟩) else some (.norm, [], ⟨[], []⟩) := by
 intro S
 induction S with
 | nil =>
  intro P hP
  have h1 : ¬ ((P.length : Int) < w.length) := by rw [hP]; simp
  rw [r18_Inside_R0_eq]
  simp only [r18_Inside_B0, r18_Inside_K0_a, h1, List.any_nil, zy, simprocAttr]
 | cons x S ih =>
  intro P hP
  have h1 : ((P.length : Int) < w.length) := by rw [hP]; simp; omega
  have hw := wrapN (n := P.length) (by rw [hP] at hm; unfold Zc.small at *; simp at hm; omega)
  have hia := iaddr_midVh .i64 P S x
  rw [← hP] at hia
  have hU := fun st H => rUnder_F l hl w hm hv x.id st H
  have hul : (underV l w x.id).length ≤ Zc.small := by
   unfold underV
   split
   · simp
   · rename_i i hi
    obtain ⟨hi', _⟩ := findW_some hi
    rw [List.getElem?_eq_getElem hi']
    have := (hv _ (List.getElem_mem hi')).way
    have := underN_le l (w[i].ahead + w[i].length) w[i].way
    simp only [underL, underW, List.length_map, List.length_take]
    unfold Zc.small; omega
  have hH := fun st H => has_F (underV l w x.id) s hul st H
  have ih' := ih (P ++ [x]) (by rw [hP]; simp)
  rw [show (P ++ [x]).length = P.length + 1 by simp] at ih'
  rw [r18_Inside_R0_eq]
  by_cases hA : s ∈ underV l w x.id
  · simp only [r18_Inside_B0, r18_Inside_K0_a, h1, hia, hw, r18_Under_call, hU, r01_Has_call, hH, List.any_cons, eq_true hA, zy, simprocAttr]
  · simp only [r18_Inside_B0, r18_Inside_K0_a, h1, hia, hw, r18_Under_call, hU, r01_Has_call, hH, List.any_cons, eq_false hA, ih', zy, simprocAttr]
theorem rInside_F (l : Lay) (hl : Lens l) (w : List Vh) (hm : w.length ≤ Zc.small) (hv : ∀ v ∈ w, v.fits) (s : Int) (st : Bool) (H : Heap) :
  r18_Inside_F st H [.agg (layC l), sl fVh w, .int .i64 s] = some (.bool (insideV l w s), H) := by
 have e := rInside_loop l hl w hm hv s w [] rfl
 simp only [List.nil_append, List.length_nil, Int.natCast_zero] at e
 rw [r18_Inside_F_eq]
 cases h : insideV l w s with
 | true =>
  rw [show (w.any fun v => decide (s ∈ underV l w v.id)) = true from h, if_pos rfl] at e
  simp only [r18_Inside_C, r18_Inside_L0_eq, e, zy, simprocAttr]
 | false =>
  rw [show (w.any fun v => decide (s ∈ underV l w v.id)) = false from h, if_neg (by decide)] at e
  simp only [r18_Inside_C, r18_Inside_L0_eq, e, zy, simprocAttr]
end Go.Proofs.Ytfblegjbmhgepaa.Zt
end
section
namespace Go.Zc

theorem wf_u8 {n : Int} (h : (Lit.int .u8 n).wf = true) : 0 ≤ n ∧ n ≤ 255 := by
 simp only [Lit.wf, Bool.and_eq_true, decide_eq_true_eq] at h
 exact h
theorem wf_u16 {n : Int} (h : (Lit.int .u16 n).wf = true) : 0 ≤ n ∧ n ≤ 65535 := by
 simp only [Lit.wf, Bool.and_eq_true, decide_eq_true_eq] at h
 exact h
theorem wf_i64 {n : Int} (h : (Lit.int .i64 n).wf = true) : -9223372036854775808 ≤ n ∧ n ≤ 9223372036854775807 := by
 simp only [Lit.wf, Bool.and_eq_true, decide_eq_true_eq] at h
 exact h

theorem rows_of {α : Type} {f : α → List CV} {Q : α → Prop} {T : Ty} (h : ∀ r, HasTy T r → ∃ x, r = f x ∧ Q x) : ∀ rows : List (List CV), (∀ r ∈ rows, HasTy T r) → ∃ l : List α, rows = l.map f ∧ ∀ x ∈ l, Q x
 | [], _ => ⟨[], rfl, by simp⟩
 | r :: rows, hr => by
  obtain ⟨x, rfl, hx⟩ := h r (hr r (by simp))
  obtain ⟨l, rfl, hl⟩ := rows_of h rows fun r' h' => hr r' (by simp [h'])
  exact ⟨x :: l, rfl, fun y hy => by
   rcases List.mem_cons.1 hy with rfl | hy
   · exact hx
   · exact hl y hy⟩
theorem slice_of {α : Type} {f : α → List CV} {Q : α → Prop} {T : Ty} (h : ∀ r, HasTy T r → ∃ x, r = f x ∧ Q x) {cs : List CV} (hs : HasTy (.slice T) cs) : ∃ l : List α, cs = [sl f l] ∧ l.length ≤ maxLen ∧ ∀ x ∈ l, Q x := by
 simp only [HasTy] at hs
 obtain ⟨rows, rfl, hm, hr⟩ := hs
 obtain ⟨l, rfl, hl⟩ := rows_of h rows hr
 exact ⟨l, by simp [sl, List.flatMap], by simpa using hm, hl⟩

theorem u8_of (r : List CV) (h : HasTy (.int .u8) r) : ∃ x : Int, r = fU x ∧ (0 ≤ x ∧ x ≤ 255) := by
 simp only [HasTy] at h
 obtain ⟨n, rfl, hw⟩ := h
 exact ⟨n, rfl, wf_u8 hw⟩
theorem u16_of (r : List CV) (h : HasTy (.int .u16) r) : ∃ x : Int, r = [.int .u16 x] ∧ (0 ≤ x ∧ x ≤ 65535) := by
 simp only [HasTy] at h
 obtain ⟨n, rfl, hw⟩ := h
 exact ⟨n, rfl, wf_u16 hw⟩
theorem i64_of (r : List CV) (h : HasTy (.int .i64) r) : ∃ x : Int, r = fI x ∧ (-9223372036854775808 ≤ x ∧ x ≤ 9223372036854775807) := by
 simp only [HasTy] at h
 obtain ⟨n, rfl, hw⟩ := h
 exact ⟨n, rfl, wf_i64 hw⟩
theorem bool_of (r : List CV) (h : HasTy .bool r) : ∃ x : Bool, r = fB x ∧ True := by
 simp only [HasTy] at h
 obtain ⟨n, rfl⟩ := h
 exact ⟨n, rfl, trivial⟩
theorem u8s_of (r : List CV) (h : HasTy (.slice (.int .u8)) r) : ∃ l : List Int, r = fUL l ∧ (l.length ≤ maxLen ∧ ∀ t ∈ l, 0 ≤ t ∧ t ≤ 255) := by
 obtain ⟨l, h1, h2, h3⟩ := slice_of u8_of h
 exact ⟨l, h1, h2, h3⟩

def tDraft : Ty := .struct [.int .u8, .int .u8, .int .u8, .int .u16, .int .u16, .int .u8, .int .u8, .int .u8, .slice (.slice (.int .u8))]
def tDeed : Ty := .struct [.int .u8, .int .u8, .int .u8, .int .u8, .slice (.int .u8), .int .u16, .bool, .int .u8]

theorem draft_of {c : CV} (h : HasArg tDraft c) : ∃ d : Draft, c = .agg (draftC d) ∧ d.ok := by
 obtain ⟨cs, rfl, h⟩ := h
 simp only [HasTys] at h
 obtain ⟨a1, _, rfl, h1, a2, _, rfl, h2, a3, _, rfl, h3, a4, _, rfl, h4, a5, _, rfl, h5, a6, _, rfl, h6, a7, _, rfl, h7, a8, _, rfl, h8, a9, _, rfl, h9, rfl⟩ := h
 obtain ⟨x1, rfl, q1⟩ := u8_of _ h1
 obtain ⟨x2, rfl, q2⟩ := u8_of _ h2
 obtain ⟨x3, rfl, q3⟩ := u8_of _ h3
 obtain ⟨x4, rfl, q4⟩ := u16_of _ h4
 obtain ⟨x5, rfl, q5⟩ := u16_of _ h5
 obtain ⟨x6, rfl, q6⟩ := u8_of _ h6
 obtain ⟨x7, rfl, q7⟩ := u8_of _ h7
 obtain ⟨x8, rfl, q8⟩ := u8_of _ h8
 obtain ⟨l, rfl, hl, hq⟩ := slice_of u8s_of h9
 exact ⟨⟨x1, x2, x3, x4, x5, x6, x7, x8, l⟩, rfl, q1, q2, q3, q4, q5, q6, q7, q8, hl, hq⟩
theorem deed_of {c : CV} (h : HasArg tDeed c) : ∃ a : Deed, c = .agg (actC a) ∧ a.ok := by
 obtain ⟨cs, rfl, h⟩ := h
 simp only [HasTys] at h
 obtain ⟨a1, _, rfl, h1, a2, _, rfl, h2, a3, _, rfl, h3, a4, _, rfl, h4, a5, _, rfl, h5, a6, _, rfl, h6, a7, _, rfl, h7, a8, _, rfl, h8, rfl⟩ := h
 obtain ⟨x1, rfl, q1⟩ := u8_of _ h1
 obtain ⟨x2, rfl, q2⟩ := u8_of _ h2
 obtain ⟨x3, rfl, q3⟩ := u8_of _ h3
 obtain ⟨x4, rfl, q4⟩ := u8_of _ h4
 obtain ⟨l, rfl, hl, hq⟩ := u8s_of _ h5
 obtain ⟨x6, rfl, q6⟩ := u16_of _ h6
 obtain ⟨x7, rfl, _⟩ := bool_of _ h7
 obtain ⟨x8, rfl, q8⟩ := u8_of _ h8
 exact ⟨⟨x1, x2, x3, x4, l, x6, x7, x8⟩, rfl, q2, q4, hl, hq, q6, q8⟩
end Go.Zc
end
section
namespace Go.Zc

structure Car where
 sec : Int
 end' : Int
 length : Int
 ahead : Int
 long : Int
 turns : List Int
abbrev fCar (c : Car) : List CV := [.int .u8 c.sec, .int .u8 c.end', .int .u8 c.length, .int .u8 c.ahead, .int .u8 c.long, sl fU c.turns]
structure Car.ok (c : Car) : Prop where
 sec : 0 ≤ c.sec ∧ c.sec ≤ 255
 end' : 0 ≤ c.end' ∧ c.end' ≤ 255
 length : 0 ≤ c.length ∧ c.length ≤ 255
 ahead : 0 ≤ c.ahead ∧ c.ahead ≤ 255
 long : 0 ≤ c.long ∧ c.long ≤ 255
 turns : c.turns.length ≤ maxLen
 turn : ∀ t ∈ c.turns, 0 ≤ t ∧ t ≤ 255
theorem flatCar : Flat fCar 6 := ⟨fun _ => rfl, by decide, fun _ => rfl, fun _ => rfl, fun _ => rfl⟩
theorem iaddr_midCar (k : IntKind) (pre suf : List Car) (x : Car) : iaddrC 6 (sl fCar (pre ++ x :: suf)) (.int k pre.length) = some (.vp (.int .u8 x.sec :: .int .u8 x.end' :: .int .u8 x.length :: .int .u8 x.ahead :: .int .u8 x.long :: sl fU x.turns :: suf.flatMap fCar)) := iaddr_mid flatCar k pre suf x
structure Tick where
 go : List Int
 talk : Int
 who : Int
 late : Int
 act : Int
 n : Int
 train : Int
 split : Int
 behind : Int
 fault : Int
 crash : Int
 more : Int
abbrev fTick (t : Tick) : List CV := [sl fU t.go, .int .u8 t.talk, .int .u8 t.who, .int .u8 t.late, .int .u8 t.act, .int .u8 t.n, .int .u8 t.train, .int .u8 t.split, .int .u8 t.behind, .int .u8 t.fault, .int .u8 t.crash, .int .u8 t.more]
structure Tick.ok (t : Tick) : Prop where
 len : t.go.length ≤ maxLen
 go : ∀ x ∈ t.go, 0 ≤ x ∧ x ≤ 255
 talk : 0 ≤ t.talk ∧ t.talk ≤ 255
 who : 0 ≤ t.who ∧ t.who ≤ 255
 late : 0 ≤ t.late ∧ t.late ≤ 255
 act : 0 ≤ t.act ∧ t.act ≤ 255
 n : 0 ≤ t.n ∧ t.n ≤ 255
 train : 0 ≤ t.train ∧ t.train ≤ 255
 split : 0 ≤ t.split ∧ t.split ≤ 255
 behind : 0 ≤ t.behind ∧ t.behind ≤ 255
 fault : 0 ≤ t.fault ∧ t.fault ≤ 255
 crash : 0 ≤ t.crash ∧ t.crash ≤ 255
 more : 0 ≤ t.more ∧ t.more ≤ 255
theorem flatTick : Flat fTick 12 := ⟨fun _ => rfl, by decide, fun _ => rfl, fun _ => rfl, fun _ => rfl⟩
theorem iaddr_midTick (k : IntKind) (pre suf : List Tick) (x : Tick) : iaddrC 12 (sl fTick (pre ++ x :: suf)) (.int k pre.length) = some (.vp (sl fU x.go :: .int .u8 x.talk :: .int .u8 x.who :: .int .u8 x.late :: .int .u8 x.act :: .int .u8 x.n :: .int .u8 x.train :: .int .u8 x.split :: .int .u8 x.behind :: .int .u8 x.fault :: .int .u8 x.crash :: .int .u8 x.more :: suf.flatMap fTick)) := iaddr_mid flatTick k pre suf x
structure Story where
 d : Draft
 cars : List Car
 ticks : List Tick
abbrev storyC (s : Story) : List CV := [.int .u8 s.d.form, .int .u8 s.d.len, .int .u8 s.d.speed, .int .u16 s.d.mute, .int .u16 s.d.wait, .int .u8 s.d.cancel, .int .u8 s.d.stay, .int .u8 s.d.join, sl fUL s.d.routes, sl fCar s.cars, sl fTick s.ticks]
structure Story.ok (s : Story) : Prop where
 d : s.d.ok
 cars : s.cars.length ≤ maxLen
 car : ∀ c ∈ s.cars, c.ok
 ticks : s.ticks.length ≤ maxLen
 tick : ∀ t ∈ s.ticks, t.ok
def Story.small (s : Story) : Bool := (s.cars.all fun c => decide (c.turns.length ≤ 12)) && (s.ticks.all fun t => decide (t.go.length ≤ 8)) && s.d.small && decide (s.cars.length ≤ 6) && decide (s.ticks.length ≤ 120)

def tCar : Ty := .struct [.int .u8, .int .u8, .int .u8, .int .u8, .int .u8, .slice (.int .u8)]
def tTick : Ty := .struct [.slice (.int .u8), .int .u8, .int .u8, .int .u8, .int .u8, .int .u8, .int .u8, .int .u8, .int .u8, .int .u8, .int .u8, .int .u8]
def tStory : Ty := .struct [tDraft, .slice tCar, .slice tTick]

theorem car_of' (r : List CV) (h : HasTy tCar r) : ∃ x : Car, r = fCar x ∧ x.ok := by
 unfold tCar at h
 obtain ⟨a1, _, rfl, h1, a2, _, rfl, h2, a3, _, rfl, h3, a4, _, rfl, h4, a5, _, rfl, h5, a6, _, rfl, h6, rfl⟩ := h
 obtain ⟨x1, rfl, q1⟩ := u8_of _ h1
 obtain ⟨x2, rfl, q2⟩ := u8_of _ h2
 obtain ⟨x3, rfl, q3⟩ := u8_of _ h3
 obtain ⟨x4, rfl, q4⟩ := u8_of _ h4
 obtain ⟨x5, rfl, q5⟩ := u8_of _ h5
 obtain ⟨l, rfl, hl, hq⟩ := slice_of u8_of h6
 exact ⟨⟨x1, x2, x3, x4, x5, l⟩, rfl, q1, q2, q3, q4, q5, hl, hq⟩
theorem car_of {c : CV} (h : HasArg tCar c) : ∃ x : Car, c = .agg (fCar x) ∧ x.ok := by
 obtain ⟨r, rfl, h⟩ := h
 obtain ⟨f, rfl, hf⟩ := car_of' r h
 exact ⟨f, rfl, hf⟩
theorem tick_of' (r : List CV) (h : HasTy tTick r) : ∃ x : Tick, r = fTick x ∧ x.ok := by
 unfold tTick at h
 obtain ⟨a0, _, rfl, h0, a1, _, rfl, h1, a2, _, rfl, h2, a3, _, rfl, h3, a4, _, rfl, h4, a5, _, rfl, h5, a6, _, rfl, h6, a7, _, rfl, h7, a8, _, rfl, h8, a9, _, rfl, h9, a10, _, rfl, h10, a11, _, rfl, h11, rfl⟩ := h
 obtain ⟨l, rfl, hl, hq⟩ := slice_of u8_of h0
 obtain ⟨x1, rfl, q1⟩ := u8_of _ h1
 obtain ⟨x2, rfl, q2⟩ := u8_of _ h2
 obtain ⟨x3, rfl, q3⟩ := u8_of _ h3
 obtain ⟨x4, rfl, q4⟩ := u8_of _ h4
 obtain ⟨x5, rfl, q5⟩ := u8_of _ h5
 obtain ⟨x6, rfl, q6⟩ := u8_of _ h6
 obtain ⟨x7, rfl, q7⟩ := u8_of _ h7
 obtain ⟨x8, rfl, q8⟩ := u8_of _ h8
 obtain ⟨x9, rfl, q9⟩ := u8_of _ h9
 obtain ⟨x10, rfl, q10⟩ := u8_of _ h10
 obtain ⟨x11, rfl, q11⟩ := u8_of _ h11
 exact ⟨⟨l, x1, x2, x3, x4, x5, x6, x7, x8, x9, x10, x11⟩, rfl, hl, hq, q1, q2, q3, q4, q5, q6, q7, q8, q9, q10, q11⟩
theorem story_of {c : CV} (h : HasArg tStory c) : ∃ s : Story, c = .agg (storyC s) ∧ s.ok := by
 obtain ⟨r, rfl, h⟩ := h
 simp only [HasTys] at h
 obtain ⟨a0, _, rfl, h0, a1, _, rfl, h1, a2, _, rfl, h2, rfl⟩ := h
 obtain ⟨d, hd, hd2⟩ := draft_of (c := .agg a0) ⟨a0, rfl, h0⟩
 cases hd
 obtain ⟨l, rfl, hl, hq⟩ := slice_of car_of' h1
 obtain ⟨m, rfl, hm, hq2⟩ := slice_of tick_of' h2
 exact ⟨⟨d, l, m⟩, rfl, hd2, hl, hq, hm, hq2⟩
end Go.Zc
end
section
namespace Go.Proofs.Ytfblegjbmhgepaa.Zt
open Go Go.Zc
set_option maxRecDepth 10000

theorem underV_len {l : Lay} {w : List Vh} (hv : ∀ v ∈ w, v.fits) (id : Int) : (underV l w id).length ≤ 1000 := by
 unfold underV
 split
 · simp
 · rename_i i hi
  obtain ⟨hi', _⟩ := findW_some hi
  rw [List.getElem?_eq_getElem hi']
  have := (hv _ (List.getElem_mem hi')).way
  simp only [underL, underW, List.length_map, List.length_take]
  omega

theorem rIn_loop (l : Lay) (hl : l.ok) (p : Nat) (hp : p < l.parts.length) (u : List Int) (hu : u.length ≤ 1000) : ∀ (S P : List Int), u = P ++ S →
  r18_In_R0 ([(3, .int .i64 p), (4, .op (.loc 4) 0), (9, sl fI u), (10, .int .i64 P.length)], ⟨[(4, layC l)], []⟩) =
   if (S.any fun s => decide (s ∈ l.parts[p])) = true then some (.ret, [(8, .bool true)], ⟨[(4, layC l)], []⟩) else some (.norm, [], ⟨[], []⟩) := by
 intro S
 induction S with
 | nil =>
  intro P hP
  have h1 : ¬ ((P.length : Int) < u.length) := by rw [hP]; simp
  rw [r18_In_R0_eq]
  simp only [r18_In_B0, r18_In_K0_a, h1, List.any_nil, zy, simprocAttr]
 | cons x S ih =>
  intro P hP
  have h1 : ((P.length : Int) < u.length) := by rw [hP]; simp; omega
  have hw := wrapN (n := P.length) (by rw [hP] at hu; unfold Zc.small at *; simp at hu; omega)
  have hia := iaddr_midI .i64 P S x
  rw [← hP] at hia
  have hip := iaddr_atL (k := .i64) hp
  have hH := fun st H => has_F l.parts[p] x (hl.part _ (List.getElem_mem hp)) st H
  have ih' := ih (P ++ [x]) (by rw [hP]; simp)
  rw [show (P ++ [x]).length = P.length + 1 by simp] at ih'
  rw [r18_In_R0_eq]
  by_cases hA : x ∈ l.parts[p]
  · simp only [r18_In_B0, r18_In_K0_a, h1, hia, hip, hw, r01_Has_call, hH, List.any_cons, eq_true hA, zy, simprocAttr]
  · simp only [r18_In_B0, r18_In_K0_a, h1, hia, hip, hw, r01_Has_call, hH, List.any_cons, eq_false hA, ih', zy, simprocAttr]
theorem rIn_F (l : Lay) (hl : Lens l) (w : List Vh) (hm : w.length ≤ Zc.small) (hv : ∀ v ∈ w, v.fits) (id p : Int) (st : Bool) (H : Heap) :
  r18_In_F st H [.agg (layC l), sl fVh w, .int .i64 id, .int .i64 p] = some (.bool (inV l w id p), H) := by
 rw [r18_In_F_eq]
 unfold inV partAt
 by_cases h0 : 0 ≤ p
 · have h0' : ¬ p < 0 := by omega
  by_cases h1 : p < l.parts.length
  · obtain ⟨n, rfl⟩ := Int.eq_ofNat_of_zero_le h0
   have hn : n < l.parts.length := by omega
   have h1' : ¬ ((l.parts.length : Int) ≤ n) := by omega
   have hU := fun st H => rUnder_F l hl w hm hv id st H
   have e := rIn_loop l hl.ok n hn (underV l w id) (underV_len hv id) (underV l w id) [] rfl
   simp only [List.nil_append, List.length_nil, Int.natCast_zero] at e
   simp only [if_pos h0, Int.toNat_natCast, List.getElem?_eq_getElem hn]
   cases h : (underV l w id).any fun s => decide (s ∈ l.parts[n]) with
   | true =>
    rw [h, if_pos rfl] at e
    simp only [r18_In_C, r18_In_L0_eq, h0', h1', ge_iff_le, r18_Under_call, hU, e, zy, simprocAttr]
   | false =>
    rw [h, if_neg (by decide)] at e
    simp only [r18_In_C, r18_In_L0_eq, h0', h1', ge_iff_le, r18_Under_call, hU, e, zy, simprocAttr]
  · have h1' : (l.parts.length : Int) ≤ p := by omega
   have hnone : l.parts[p.toNat]? = none := List.getElem?_eq_none (by omega)
   simp only [if_pos h0, hnone]
   simp only [r18_In_C, h0', h1', ge_iff_le, zy, simprocAttr]
 · have h0' : p < 0 := by omega
  simp only [if_neg h0]
  simp only [r18_In_C, h0', zy, simprocAttr]

theorem rAll_loop (w : List Vh) (hm : w.length ≤ Zc.small) : ∀ (S P : List Vh) (c : CV) (bl : List Blk), w = P ++ S → Own fI 1 bl c (P.map Vh.id) →
  ∃ c' bl', r18_All_R0 ([(0, sl fVh w), (3, c), (4, .int .i64 P.length)], ⟨[], bl⟩) = some (.norm, [(3, c')], ⟨[], bl'⟩) ∧ Own fI 1 bl' c' (w.map Vh.id) := by
 intro S
 induction S with
 | nil =>
  intro P c bl hP hO
  have h1 : ¬ ((P.length : Int) < w.length) := by rw [hP]; simp
  refine ⟨c, bl, ?_, by rw [hP, List.append_nil]; exact hO⟩
  rw [r18_All_R0_eq]
  simp only [r18_All_B0, r18_All_K0_a, h1, hO.chkV, zy, simprocAttr]
 | cons x S ih =>
  intro P c bl hP hO
  have h1 : ((P.length : Int) < w.length) := by rw [hP]; simp; omega
  have hpl : P.length + 1 ≤ Zc.small := by rw [hP] at hm; simp at hm; omega
  have hw := wrapN (n := P.length) (by unfold Zc.small at *; omega)
  have hia := iaddr_midVh .i64 P S x
  rw [← hP] at hia
  obtain ⟨c1, bl1, e1, o1, _, _, _⟩ := hO.app1 flatI (bytes := 8) (zero := [.int .i64 0]) (by omega) rfl rfl x.id (by unfold Zc.small at *; simp; omega)
  obtain ⟨c', bl', q1, q2⟩ := ih (P ++ [x]) c1 bl1 (by rw [hP]; simp) (by simpa using o1)
  rw [show (P ++ [x]).length = P.length + 1 by simp] at q1
  refine ⟨c', bl', ?_, q2⟩
  simp only [fI] at e1
  rw [r18_All_R0_eq]
  simp only [r18_All_B0, r18_All_K0_a, h1, hia, hw, e1, hO.chkV, o1.chkV, q1, zy, simprocAttr]
theorem rAll_F (w : List Vh) (hm : w.length ≤ Zc.small) (H : Heap) : r18_All_F false H [sl fVh w] = some (sl fI (rise (w.map Vh.id)), H) := by
 obtain ⟨c', bl', q1, q2⟩ := rAll_loop w hm w [] .nils [] rfl (.inl ⟨rfl, rfl⟩)
 simp only [List.nil_append, List.length_nil, Int.natCast_zero] at q1
 have hs := fun bx st => q2.snapV flatI bx st (snapN ⟨bx, bl'⟩ st false 7) (snap_Iq _ st 6)
 have hR := fun st H => rise_F (w.map Vh.id) (by simpa using hm) st H
 rw [r18_All_F_eq]
 simp only [r18_All_C, r18_All_L0_eq, q1, hs, r01_Rise_call, hR, q2.chkV, q2.locv, zy, simprocAttr]

/-! ### Plays -/
structure Pl where
 l : Lay
 w : List Vh
 split : Nat → Bool
 up : Nat → Int
 right : List Bool
def playR (p : Pl) (wv q r : CV) : List CV := [sl fZ p.l.nodes, sl fS p.l.secs, sl fL p.l.parts, sl fP p.l.pts, sl fL p.l.routes, .int .i64 p.l.speed, .int .i64 p.l.mute, .int .i64 p.l.wait, .int .i64 p.l.cancel, .int .i64 p.l.stay, wv,
 .bool (p.split 0), .bool (p.split 1), .bool (p.split 2), .bool (p.split 3), .bool (p.split 4), .bool (p.split 5), .int .i64 (p.up 0), .int .i64 (p.up 1), .int .i64 (p.up 2), .int .i64 (p.up 3), .int .i64 (p.up 4), .int .i64 (p.up 5), q, r]
abbrev playC (p : Pl) (wv q : CV) : List CV := playR p wv q (sl fB p.right)
theorem play_l (p : Pl) (wv q r : CV) : takeN 10 (playR p wv q r) = some (layC p.l) := rfl
theorem play_w (p : Pl) (wv q r : CV) : headO (List.drop 10 (playR p wv q r)) = some wv := rfl
theorem play_secs (p : Pl) (wv q r : CV) : headO (List.drop 1 (playR p wv q r)) = some (sl fS p.l.secs) := rfl
theorem play_parts (p : Pl) (wv q r : CV) : headO (List.drop 2 (playR p wv q r)) = some (sl fL p.l.parts) := rfl
theorem play_pts (p : Pl) (wv q r : CV) : headO (List.drop 3 (playR p wv q r)) = some (sl fP p.l.pts) := rfl
theorem play_speed (p : Pl) (wv q r : CV) : headO (List.drop 5 (playR p wv q r)) = some (.int .i64 p.l.speed) := rfl
theorem play_right (p : Pl) (wv q r : CV) : headO (List.drop 24 (playR p wv q r)) = some r := rfl
theorem play_up (p : Pl) (wv q r : CV) {i : Nat} (h : i < 6) : headO (List.drop (17 + i) (playR p wv q r)) = some (.int .i64 (p.up i)) := by
 have : i = 0 ∨ i = 1 ∨ i = 2 ∨ i = 3 ∨ i = 4 ∨ i = 5 := by omega
 rcases this with rfl | rfl | rfl | rfl | rfl | rfl <;> rfl
/-- Another slot. -/
def Pl.setUp (p : Pl) (i : Nat) (n : Int) : Pl := { p with up := fun k => if k = i then n else p.up k }
def Pl.setSplit (p : Pl) (i : Nat) (b : Bool) : Pl := { p with split := fun k => if k = i then b else p.split k }
theorem play_setUp (p : Pl) (wv q r : CV) {i : Nat} (h : i < 6) (n : Int) : (playR p wv q r).set (17 + i) (.int .i64 n) = playR (p.setUp i n) wv q r := by
 have : i = 0 ∨ i = 1 ∨ i = 2 ∨ i = 3 ∨ i = 4 ∨ i = 5 := by omega
 rcases this with rfl | rfl | rfl | rfl | rfl | rfl <;> rfl
theorem play_setSplit (p : Pl) (wv q r : CV) {i : Nat} (h : i < 6) (b : Bool) : (playR p wv q r).set (11 + i) (.bool b) = playR (p.setSplit i b) wv q r := by
 have : i = 0 ∨ i = 1 ∨ i = 2 ∨ i = 3 ∨ i = 4 ∨ i = 5 := by omega
 rcases this with rfl | rfl | rfl | rfl | rfl | rfl <;> rfl
theorem play_setW (p : Pl) (wv q r : CV) (w : List Vh) : (playR p wv q r).set 10 (sl fVh w) = playR { p with w := w } (sl fVh w) q r := rfl
theorem play_snap (p : Pl) (wv : CV) (h : Fz fVh wv p.w) (H : Heap) (n : Nat) : mapC (snapN H false false (n + 1)) (playC p wv .nils) = some (playC p (sl fVh p.w) (.vs [] 0)) := by
 rcases h with rfl | ⟨rfl, h⟩
 · rfl
 · rw [h]; rfl
theorem play_len (p : Pl) (wv q r : CV) : (playR p wv q r).length = 25 := rfl
theorem st_play (bx : List (Nat × List CV)) (B : List Blk) (a : Nat) (p p' : Pl) (wv wv' q r : CV) (k : Nat) (x : CV) (hk : k < 25) (hc : x.cells = [x]) (h1 : x.one = true) (h2 : x.locv = false) (h : (playR p wv q r).set k x = playR p' wv' q r) :
  stE 1 k x ⟨bx, B.set a (.cells (playR p wv q r))⟩ (.blk a) (playR p wv q r) = some ⟨bx, B.set a (.cells (playR p' wv' q r))⟩ := by
 rw [st_cell bx _ a k x (playR p wv q r) hc h1 h2 hk, h, List.set_set]

def freeN (ids : List Int) : Nat → Nat → Option Nat
 | 0, _ => none
 | n + 1, k => if (k : Int) ∈ ids then freeN ids n (k + 1) else some k
theorem rfree_loop (p : Pl) (hm : p.w.length ≤ Zc.small) (q : CV) : ∀ (n k : Nat), k + n = 6 →
  r18_free_R0 ([(0, .vp (playC p (sl fVh p.w) q)), (3, .int .i64 k)], ⟨[], []⟩) = match freeN (rise (p.w.map Vh.id)) n k with
   | some i => some (.ret, [(2, .int .i64 i)], ⟨[], []⟩)
   | none => some (.norm, [], ⟨[], []⟩)
 | 0, k, hk => by
  have h1 : ¬ ((k : Int) < 6) := by omega
  rw [r18_free_R0_eq]
  simp only [r18_free_B0, r18_free_K0_a, h1, freeN, zy, simprocAttr]
 | n + 1, k, hk => by
  have h1 : ((k : Int) < 6) := by omega
  have hw := wrapN (n := k) (by unfold Zc.small; omega)
  have ih := rfree_loop p hm q n (k + 1) (by omega)
  have hA := fun H => rAll_F p.w hm H
  have hr : (rise (p.w.map Vh.id)).length ≤ Zc.small := by
   have := nodup_le (rise_nodup (p.w.map Vh.id)) (b := p.w.map Vh.id) fun y hy => (rise_mem _ y).1 hy
   simp only [List.length_map] at this
   omega
  have hH := fun st H => has_F (rise (p.w.map Vh.id)) k hr st H
  have hpw : faddrC 10 (.vp (playC p (sl fVh p.w) q)) = some (.vp (List.drop 10 (playC p (sl fVh p.w) q))) := rfl
  have hld : ∀ H, loadC false 1 H (.vp (List.drop 10 (playC p (sl fVh p.w) q))) = some (sl fVh p.w) := fun _ => rfl
  have hn : nchkC (.vp (playC p (sl fVh p.w) q)) = some (.vp (playC p (sl fVh p.w) q)) := rfl
  rw [r18_free_R0_eq]
  unfold freeN
  by_cases hc : (k : Int) ∈ rise (p.w.map Vh.id)
  · simp only [r18_free_B0, r18_free_K0_a, h1, hw, hn, hpw, hld, r18_All_call, hA, r01_Has_call, hH, eq_true hc, ih, zy, simprocAttr]
  · simp only [r18_free_B0, r18_free_K0_a, h1, hw, hn, hpw, hld, r18_All_call, hA, r01_Has_call, hH, eq_false hc, ih, zy, simprocAttr]
theorem rfree_F (p : Pl) (hm : p.w.length ≤ Zc.small) (q : CV) (st : Bool) (H : Heap) : r18_free_F st H [.vp (playC p (sl fVh p.w) q)] = some (ixC (freeN (rise (p.w.map Vh.id)) 6 0), H) := by
 have e := rfree_loop p hm q 6 0 rfl
 simp only [Int.natCast_zero] at e
 rw [r18_free_F_eq]
 cases h : freeN (rise (p.w.map Vh.id)) 6 0 with
 | none =>
  rw [h] at e
  simp only [r18_free_C, r18_free_L0_eq, e, ixC, zy, simprocAttr]
 | some i =>
  rw [h] at e
  simp only [r18_free_C, r18_free_L0_eq, e, ixC, zy, simprocAttr]

/-! ### Small -/
theorem rsmall_loop0 (s : Story) (hm : s.cars.length ≤ maxLen) : ∀ (S P : List Car), s.cars = P ++ S →
  r18_Small_R0 ([(1, .op (.loc 1) 0), (3, .int .i64 P.length)], ⟨[(1, storyC s)], []⟩) =
   if (S.all fun c => decide (c.turns.length ≤ 12)) = true then some (.norm, [(1, .op (.loc 1) 0)], ⟨[(1, storyC s)], []⟩) else some (.ret, [(2, .bool false)], ⟨[(1, storyC s)], []⟩) := by
 intro S
 induction S with
 | nil =>
  intro P hP
  have h1 : ¬ ((P.length : Int) < s.cars.length) := by rw [hP]; simp
  rw [r18_Small_R0_eq]
  simp only [r18_Small_B0, r18_Small_K0_a, h1, List.all_nil, zy, simprocAttr]
 | cons x S ih =>
  intro P hP
  have h1 : ((P.length : Int) < s.cars.length) := by rw [hP]; simp; omega
  have hw := wrapM (n := P.length) (by rw [hP] at hm; unfold maxLen at hm; simp at hm; omega)
  have hia := iaddr_midCar .i64 P S x
  rw [← hP] at hia
  have ih' := ih (P ++ [x]) (by rw [hP]; simp)
  rw [show (P ++ [x]).length = P.length + 1 by simp] at ih'
  rw [r18_Small_R0_eq]
  by_cases hA : x.turns.length ≤ 12
  · have hA' : ¬ ((12 : Int) < x.turns.length) := by omega
   simp only [r18_Small_B0, r18_Small_K0_a, h1, hia, hw, hA', List.all_cons, eq_true hA, ih', zy, simprocAttr]
  · have hA' : ((12 : Int) < x.turns.length) := by omega
   simp only [r18_Small_B0, r18_Small_K0_a, h1, hia, hw, hA', List.all_cons, eq_false hA, zy, simprocAttr]
theorem rsmall_loop2 (s : Story) (hm : s.ticks.length ≤ maxLen) : ∀ (S P : List Tick), s.ticks = P ++ S →
  r18_Small_R2 ([(1, .op (.loc 1) 0), (4, .int .i64 P.length)], ⟨[(1, storyC s)], []⟩) =
   if (S.all fun c => decide (c.go.length ≤ 8)) = true then some (.norm, [(1, .op (.loc 1) 0)], ⟨[(1, storyC s)], []⟩) else some (.ret, [(2, .bool false)], ⟨[(1, storyC s)], []⟩) := by
 intro S
 induction S with
 | nil =>
  intro P hP
  have h1 : ¬ ((P.length : Int) < s.ticks.length) := by rw [hP]; simp
  rw [r18_Small_R2_eq]
  simp only [r18_Small_B2, r18_Small_K2_a, h1, List.all_nil, zy, simprocAttr]
 | cons x S ih =>
  intro P hP
  have h1 : ((P.length : Int) < s.ticks.length) := by rw [hP]; simp; omega
  have hw := wrapM (n := P.length) (by rw [hP] at hm; unfold maxLen at hm; simp at hm; omega)
  have hia := iaddr_midTick .i64 P S x
  rw [← hP] at hia
  have ih' := ih (P ++ [x]) (by rw [hP]; simp)
  rw [show (P ++ [x]).length = P.length + 1 by simp] at ih'
  rw [r18_Small_R2_eq]
  by_cases hA : x.go.length ≤ 8
  · have hA' : ¬ ((8 : Int) < x.go.length) := by omega
   simp only [r18_Small_B2, r18_Small_K2_a, h1, hia, hw, hA', List.all_cons, eq_true hA, ih', zy, simprocAttr]
  · have hA' : ((8 : Int) < x.go.length) := by omega
   simp only [r18_Small_B2, r18_Small_K2_a, h1, hia, hw, hA', List.all_cons, eq_false hA, zy, simprocAttr]
theorem rsmall_F (s : Story) (hs : s.ok) (st : Bool) (H : Heap) : r18_Small_F st H [.agg (storyC s)] = some (.bool s.small, H) := by
 have e0 := rsmall_loop0 s hs.cars s.cars [] rfl
 have e2 := rsmall_loop2 s hs.ticks s.ticks [] rfl
 have hD := fun st H => small_F s.d hs.d st H
 simp only [List.nil_append, List.length_nil, Int.natCast_zero] at e0 e2
 rw [r18_Small_F_eq]
 unfold Story.small
 cases h0 : s.cars.all fun c => decide (c.turns.length ≤ 12) with
 | false =>
  rw [h0, if_neg (by decide)] at e0
  simp only [r18_Small_C, r18_Small_L0_eq, e0, zy, simprocAttr]
 | true =>
  rw [h0, if_pos rfl] at e0
  cases h2 : s.ticks.all fun c => decide (c.go.length ≤ 8) with
  | false =>
   rw [h2, if_neg (by decide)] at e2
   simp only [r18_Small_C, r18_Small_L0_eq, r18_Small_L2_eq, e0, e2, zy, simprocAttr]
  | true =>
   rw [h2, if_pos rfl] at e2
   cases h3 : s.d.small with
   | false =>
    simp only [h3] at hD
    simp only [r18_Small_C, r18_Small_L0_eq, r18_Small_L2_eq, e0, e2, r04_Small_call, hD, zy, simprocAttr]
   | true =>
    simp only [h3] at hD
    by_cases h4 : s.cars.length ≤ 6
    · have h4' : ((s.cars.length : Int) ≤ 6) := by omega
     by_cases h5 : s.ticks.length ≤ 120
     · have h5' : ((s.ticks.length : Int) ≤ 120) := by omega
      simp only [r18_Small_C, r18_Small_L0_eq, r18_Small_L2_eq, e0, e2, r04_Small_call, hD, h4, h4', h5, h5', zy, simprocAttr]
     · have h5' : ¬ ((s.ticks.length : Int) ≤ 120) := by omega
      simp only [r18_Small_C, r18_Small_L0_eq, r18_Small_L2_eq, e0, e2, r04_Small_call, hD, h4, h4', h5, h5', zy, simprocAttr]
    · have h4' : ¬ ((s.cars.length : Int) ≤ 6) := by omega
     simp only [r18_Small_C, r18_Small_L0_eq, r18_Small_L2_eq, e0, e2, r04_Small_call, hD, h4, h4', zy, simprocAttr]
end Go.Proofs.Ytfblegjbmhgepaa.Zt
end
section
namespace Go.Proofs.Ytfblegjbmhgepaa.Zt
open Go Go.Zc
set_option maxRecDepth 10000

theorem rfits_len (l : Lay) (m : Msg) (hm : m.trail.length ≤ 12) : ∀ (s p : List Int), p ++ s = m.trail →
  r10_Fits_R0 ([(2, .op (.loc 2) 0), (3, .op (.loc 3) 0), (5, .int .i64 m.trail.length), (6, .int .i64 p.length)], ⟨[(2, layC l), (3, msgC m)], []⟩) =
   if (s.all fun x => decide (lenAt l x ≠ 0)) = true then some (.norm, [(2, .op (.loc 2) 0), (3, .op (.loc 3) 0), (5, .int .i64 m.trail.length)], ⟨[(2, layC l), (3, msgC m)], []⟩) else some (.ret, [(4, .bool false)], ⟨[(2, layC l), (3, msgC m)], []⟩)
 | [], p, hp => by
  have h1 : ¬ ((p.length : Int) < m.trail.length) := by rw [← hp]; simp
  rw [r10_Fits_R0_eq]
  simp only [r10_Fits_B0, r10_Fits_K0_a, h1, zy, simprocAttr]
 | x :: s, p, hp => by
  have hpl : p.length + 1 + s.length = m.trail.length := by rw [← hp]; simp; omega
  have h1 : ((p.length : Int) < m.trail.length) := by omega
  have hw := wrapM (n := p.length) (by omega)
  have hi : iaddrC 1 (sl fI m.trail) (.int .i64 p.length) = some (.vp (.int .i64 x :: s.flatMap fI)) := by rw [← hp]; exact iaddr_midI _ p s x
  have ih := rfits_len l m hm s (p ++ [x]) (by simpa using hp)
  rw [show (p ++ [x]).length = p.length + 1 by simp] at ih
  rw [r10_Fits_R0_eq]
  by_cases h2 : lenAt l x = 0
  · simp only [r10_Fits_B0, r10_Fits_K0_a, h1, hi, r05_Len_call, len_F, eq_true h2, zy, simprocAttr]
  · simp only [r10_Fits_B0, r10_Fits_K0_a, h1, hi, r05_Len_call, len_F, eq_false h2, hw, ih, zy, simprocAttr]

theorem rfits_in (n : Int) (bx0 : List CV) (bx1 : List CV) (e : Ed) (m : Msg) (l : Lay) (i N : Nat) (x : List Ed) (hx : x.length ≤ 2 * Zc.small) (hi : iaddrC 1 (sl fI m.trail) (.int .i64 i) = some (.vp (.int .i64 n :: bx0))) : ∀ (s p : List Ed), p ++ s = x → (∀ y ∈ p, y.s ≠ n) →
  ∃ k : Nat, r10_Fits_R4 ([(2, .op (.loc 2) 0), (3, .op (.loc 3) 0), (5, .int .i64 N), (7, .op (.loc 7) 0), (8, .int .i64 i), (9, sl fE x), (10, .int .i64 p.length)], ⟨[(2, layC l), (3, msgC m), (7, fE e)], []⟩) =
   some (.norm, [(2, .op (.loc 2) 0), (3, .op (.loc 3) 0), (5, .int .i64 N), (7, .op (.loc 7) 0), (8, .int .i64 i), (9, sl fE x), (10, .int .i64 k)], ⟨[(2, layC l), (3, msgC m), (7, fE e)], []⟩) ∧
   ((k = x.length ∧ x.find? (fun y => y.s == n) = none) ∨ ∃ h : k < x.length, x.find? (fun y => y.s == n) = some x[k])
 | [], p, hp, hn => by
  have h1 : ¬ ((p.length : Int) < x.length) := by rw [← hp]; simp
  refine ⟨p.length, ?_, .inl ⟨by rw [← hp]; simp, ?_⟩⟩
  · rw [r10_Fits_R4_eq]
   simp only [r10_Fits_B4, r10_Fits_K4_a, fE, h1, zy, simprocAttr]
  · rw [List.find?_eq_none]
   intro y hy
   rw [← hp, List.append_nil] at hy
   simpa using hn y hy
 | y :: s, p, hp, hn => by
  have hpl : p.length + 1 + s.length = x.length := by rw [← hp]; simp; omega
  have h1 : ((p.length : Int) < x.length) := by omega
  have hw := wrapN (n := p.length) (by omega)
  have hia : iaddrC 2 (sl fE x) (.int .i64 p.length) = some (.vp (.int .i64 y.s :: .int .i64 y.e :: s.flatMap fE)) := by rw [← hp]; exact iaddr_midE _ p s y
  by_cases hy : y.s = n
  · refine ⟨p.length, ?_, .inr ⟨by omega, ?_⟩⟩
   · rw [r10_Fits_R4_eq]
    simp only [r10_Fits_B4, r10_Fits_K4_a, fE, h1, hia, hi, eq_true hy, zy, simprocAttr]
   · rw [List.find?_eq_some_iff_getElem]
    have hk : x[p.length]'(by omega) = y := by simp [← hp]
    rw [hk]
    refine ⟨by simp [hy], p.length, by omega, hk, fun j hj => ?_⟩
    have : x[j]'(by omega) ∈ p := by
     have : x[j]'(by omega) = p[j] := by simp [← hp, List.getElem_append_left, hj]
     rw [this]; exact List.getElem_mem hj
    simpa using hn _ this
  · obtain ⟨k, e1, e2⟩ := rfits_in n bx0 bx1 e m l i N x hx hi s (p ++ [y]) (by simpa using hp) (by
    intro z hz
    rcases List.mem_append.1 hz with h | h
    · exact hn z h
    · simp only [List.mem_singleton] at h; subst h; exact hy)
   rw [show (p ++ [y]).length = p.length + 1 by simp] at e1
   simp only [fE] at e1
   refine ⟨k, ?_, e2⟩
   rw [r10_Fits_R4_eq]
   simp only [r10_Fits_B4, r10_Fits_K4_a, fE, h1, hia, hi, eq_false hy, hw, e1, zy, simprocAttr]

set_option maxHeartbeats 1000000 in
theorem rfits_loop (l : Lay) (hl : l.ok) (m : Msg) (hm : m.trail.length ≤ 12) : ∀ (s p : List Int) (e : Ed), p ++ s = m.trail →
  ∃ bx', r10_Fits_R2 ([(2, .op (.loc 2) 0), (3, .op (.loc 3) 0), (5, .int .i64 m.trail.length), (7, .op (.loc 7) 0), (8, .int .i64 p.length)], ⟨[(2, layC l), (3, msgC m), (7, fE e)], []⟩) =
   if follows l e s = true then some (.norm, [], ⟨[], []⟩) else some (.ret, [(4, .bool false)], ⟨bx', []⟩)
 | [], p, e, hp => by
  have h1 : ¬ ((p.length : Int) < m.trail.length) := by rw [← hp]; simp
  refine ⟨[], ?_⟩
  rw [r10_Fits_R2_eq]
  simp only [r10_Fits_B2, r10_Fits_K2_a, fE, h1, follows, zy, simprocAttr]
 | x :: s, p, e, hp => by
  have hpl : p.length + 1 + s.length = m.trail.length := by rw [← hp]; simp; omega
  have h1 : ((p.length : Int) < m.trail.length) := by omega
  have hw := wrapM (n := p.length) (by omega)
  have hi : iaddrC 1 (sl fI m.trail) (.int .i64 p.length) = some (.vp (.int .i64 x :: s.flatMap fI)) := by rw [← hp]; exact iaddr_midI _ p s x
  have haF := fun H => around_F l hl e H
  simp only [fE] at haF
  obtain ⟨k, e1, e2⟩ := rfits_in x (s.flatMap fI) [] e m l p.length m.trail.length (around l e) (around_len2 l e) hi (around l e) [] rfl (by simp)
  simp only [fE, List.nil_append, List.length_nil, Int.natCast_zero] at e1
  rcases e2 with ⟨hk, hf⟩ | ⟨hk, hf⟩
  · have hfo : follows l e (x :: s) = false := by simp only [follows, hf]
   have hk' : ((k : Int) = (around l e).length) := by omega
   rw [hfo, r10_Fits_R2_eq]
   simp only [r10_Fits_B2, r10_Fits_K2_a, r10_Fits_L4_eq, fE, h1, r05_Around_call, haF, e1, eq_true hk', zy, simprocAttr]
   exact ⟨_, rfl⟩
  · obtain ⟨y, hy⟩ : ∃ y, (around l e)[k] = y := ⟨_, rfl⟩
   rw [hy] at hf
   have hya := around_in (l := l) (x := e) (y := y) (by rw [← hy]; exact List.getElem_mem hk)
   have hw3 : IntKind.i64.wrap (1 - y.e) = 1 - y.e := wrap64 (by omega) (by omega)
   have hia := iaddr_atE (k := .i64) hk
   rw [hy] at hia
   have hk' : ¬ ((k : Int) = (around l e).length) := by omega
   have hfo : follows l e (x :: s) = follows l ⟨x, 1 - y.e⟩ s := by simp only [follows, hf]
   obtain ⟨bx', e3⟩ := rfits_loop l hl m hm s (p ++ [x]) ⟨x, 1 - y.e⟩ (by simpa using hp)
   rw [show (p ++ [x]).length = p.length + 1 by simp] at e3
   simp only [fE] at e3
   refine ⟨bx', ?_⟩
   rw [hfo, r10_Fits_R2_eq]
   simp only [r10_Fits_B2, r10_Fits_K2_a, r10_Fits_L4_eq, fE, h1, r05_Around_call, haF, e1, eq_false hk', hi, hia, hw, hw3, e3, zy, simprocAttr]

theorem unl_of (l : Lay) (t : List Int) : unlFrom l [] t = (decide ((rise t).length = t.length) && t.all fun x => decide (lenAt l x ≠ 0)) := by
 rw [Bool.eq_iff_iff, unlFrom_iff, Bool.and_eq_true, decide_eq_true_eq, rise_len, List.all_eq_true]
 simp

set_option maxHeartbeats 1000000 in
theorem rfits_F (l : Lay) (hl : l.ok) (m : Msg) (hmm : m.trail.length ≤ Zc.small) (st : Bool) (H : Heap) : r10_Fits_F st H [.agg (layC l), .agg (msgC m)] = some (.bool (fits l m), H) := by
 rw [r10_Fits_F_eq]
 obtain ⟨kind, train, time, dir, ahead, whole, trail⟩ := m
 cases trail with
 | nil => simp only [r10_Fits_C, fits, Int.natCast_zero, zy, simprocAttr]
 | cons h t =>
  have h1 : ¬ (((t.length + 1 : Nat) : Int) < 1) := by omega
  by_cases h2 : t.length + 1 ≤ 12
  · have h2' : ¬ (12 : Int) < ((t.length + 1 : Nat) : Int) := by omega
   by_cases h4 : dir < 0
   · have h4' : ¬ 0 ≤ dir := by omega
    simp only [r10_Fits_C, fits, h1, h2', h4, h4', zy, simprocAttr]
   · have h4' : 0 ≤ dir := by omega
    by_cases h5 : 1 < dir
    · have h5' : ¬ dir ≤ 1 := by omega
     simp only [r10_Fits_C, fits, h1, h2', h4, h5, h5', zy, simprocAttr]
    · have h5' : dir ≤ 1 := by omega
     by_cases h6 : ahead < 0
     · have h6' : ¬ 0 ≤ ahead := by omega
      simp only [r10_Fits_C, fits, h1, h2', h4, h5, h6, h6', zy, simprocAttr]
     · have h6' : 0 ≤ ahead := by omega
      have hr := fun st H => rise_F (h :: t) hmm st H
      by_cases h3 : (rise (h :: t)).length = t.length + 1
      · have h3' : ((rise (h :: t)).length : Int) = ((t.length + 1 : Nat) : Int) := by omega
       have e0 := rfits_len l ⟨kind, train, time, dir, ahead, whole, h :: t⟩ (by simpa using h2) (h :: t) [] rfl
       simp only [List.length_nil, List.length_cons, Int.natCast_zero] at e0
       cases h9 : ((h :: t).all fun x => decide (lenAt l x ≠ 0)) with
       | false =>
        have hu : unlFrom l [] (h :: t) = false := by rw [unl_of, h9, Bool.and_false]
        rw [h9, if_neg (by decide)] at e0
        simp only [r10_Fits_C, r10_Fits_L0_eq, fits, h1, h2', h4, h5, h6, r01_Rise_call, hr, eq_true h3', hu, e0, zy, simprocAttr]
       | true =>
        have hu : unlFrom l [] (h :: t) = true := by rw [unl_of, h9, Bool.and_true]; simpa using h3
        rw [h9, if_pos rfl] at e0
        by_cases h7 : lenAt l h < ahead
        · have h7' : ¬ ahead ≤ lenAt l h := by omega
         simp only [r10_Fits_C, r10_Fits_L0_eq, fits, h1, h2', h4, h5, h6, r01_Rise_call, hr, eq_true h3', hu, e0, iaddr_0I, r05_Len_call, len_F, h7, h7', zy, simprocAttr]
        · have h7' : ahead ≤ lenAt l h := by omega
         have hw : IntKind.i64.wrap (1 - dir) = 1 - dir := wrap64 (by omega) (by omega)
         obtain ⟨bx', e⟩ := rfits_loop l hl ⟨kind, train, time, dir, ahead, whole, h :: t⟩ (by simpa using h2) t [h] ⟨h, 1 - dir⟩ rfl
         simp only [fE, List.length_cons, List.length_nil, Nat.zero_add, Int.natCast_one] at e
         cases h8 : follows l ⟨h, 1 - dir⟩ t with
         | true =>
          rw [h8, if_pos rfl] at e
          simp only [r10_Fits_C, r10_Fits_L0_eq, r10_Fits_L2_eq, fits, h1, h2, h2', h4, h4', h5, h5', h6, h6', r01_Rise_call, hr, eq_true h3', hu, e0, iaddr_0I, r05_Len_call, len_F, h7, h7', h8, hw, e, zy, simprocAttr]
         | false =>
          rw [h8, if_neg (by decide)] at e
          simp only [r10_Fits_C, r10_Fits_L0_eq, r10_Fits_L2_eq, fits, h1, h2, h2', h4, h4', h5, h5', h6, h6', r01_Rise_call, hr, eq_true h3', hu, e0, iaddr_0I, r05_Len_call, len_F, h7, h7', h8, hw, e, zy, simprocAttr]
      · have h3' : ¬ ((rise (h :: t)).length : Int) = ((t.length + 1 : Nat) : Int) := by omega
       have hu : unlFrom l [] (h :: t) = false := by rw [unl_of, Bool.and_eq_false_iff]; left; simpa using h3
       simp only [r10_Fits_C, fits, h1, h2', h4, h5, h6, r01_Rise_call, hr, eq_false h3', hu, zy, simprocAttr]
  · have h2' : (12 : Int) < ((t.length + 1 : Nat) : Int) := by omega
   simp only [r10_Fits_C, fits, h1, h2, h2', zy, simprocAttr]
end Go.Proofs.Ytfblegjbmhgepaa.Zt
end
section
namespace Go.Proofs.Ytfblegjbmhgepaa.Zt
open Go Go.Zc
set_option maxRecDepth 10000

theorem shows_E (H : Heap) (x : Ed) : ∀ c ∈ fE x, ∀ n, snapN H false false (n + 1) c = some c := by
 intro c hc n
 simp only [fE, List.mem_cons, List.not_mem_nil, or_false] at hc
 rcases hc with rfl | rfl <;> rfl
theorem shows_Vh (bl : List Blk) (v : Vh) : ShowsL bl (fVh v) (fVh v) := ⟨shows_int _ _ _, shows_int _ _ _, shows_int _ _ _, shows_sl _ _ _, trivial⟩
theorem shows_Vhs (bl : List Blk) (w : List Vh) : ShowsL bl (w.flatMap fVh) (w.flatMap fVh) := shows_rows (shows_Vh bl) w

section
variable (l : Lay) (hl : Lens l) (w : List Vh) (id length ahead dir : Int) (trail : List Int) (ht : trail.length ≤ 12)
include hl ht
theorem radd_loop0 : ∀ (S P : List Int) (r : Int), trail = P ++ S → -1000000000 ≤ r → r ≤ 1000000000 + 1000 * P.length →
  r18_Add_R0 ([(1, sl fVh w), (2, .int .i64 id), (3, .int .i64 length), (4, .int .i64 ahead), (5, .int .i64 dir), (6, sl fI trail), (7, .op (.loc 7) 0), (16, .int .i64 r), (17, .int .i64 P.length)], ⟨[(7, layC l)], []⟩) =
   some (.norm, [(1, sl fVh w), (2, .int .i64 id), (3, .int .i64 length), (4, .int .i64 ahead), (5, .int .i64 dir), (6, sl fI trail), (7, .op (.loc 7) 0), (16, .int .i64 (r + sumL l S))], ⟨[(7, layC l)], []⟩) := by
 intro S
 induction S with
 | nil =>
  intro P r hP _ _
  have h1 : ¬ ((P.length : Int) < trail.length) := by rw [hP]; simp
  rw [r18_Add_R0_eq]
  simp only [r18_Add_B0, r18_Add_K0_a, h1, sumL, Int.add_zero, zy, simprocAttr]
 | cons x S ih =>
  intro P r hP hr hr2
  have hpl : P.length + 1 ≤ 12 := by rw [hP] at ht; simp at ht; omega
  have h1 : ((P.length : Int) < trail.length) := by rw [hP]; simp; omega
  have hw := wrapN (n := P.length) (by unfold Zc.small; omega)
  have hia := iaddr_midI .i64 P S x
  rw [← hP] at hia
  have hlo := hl.lo x
  have hhi := hl.hi x
  have hw2 : IntKind.i64.wrap (r + lenAt l x) = r + lenAt l x := wrap64 (by omega) (by omega)
  have hF := fun st H => len_F l x st H
  have ih' := ih (P ++ [x]) (r + lenAt l x) (by rw [hP]; simp) (by omega) (by simp; omega)
  rw [show (P ++ [x]).length = P.length + 1 by simp] at ih'
  rw [r18_Add_R0_eq]
  simp only [r18_Add_B0, r18_Add_K0_a, h1, hia, hw, hw2, r05_Len_call, hF, ih', sumL, Int.add_assoc, zy, simprocAttr]

theorem radd_loop4 (i : Nat) (hi : i ≤ 12) (s : Int) (hs : trail[i]? = some s) (xs : List Ed) (hx : xs.length ≤ 4) : ∀ (S P W : List Ed) (c : CV) (bl : List Blk), xs = P ++ S → Own fE 2 bl c W → (W.length = i ∨ W.length = i + 1) →
  ∃ c' bl', r18_Add_R4 ([(1, sl fVh w), (2, .int .i64 id), (3, .int .i64 length), (4, .int .i64 ahead), (6, sl fI trail), (7, .op (.loc 7) 0), (18, c), (19, .int .i64 i), (20, sl fE xs), (21, .int .i64 P.length)], ⟨[(7, layC l)], bl⟩) =
   some (.norm, [(1, sl fVh w), (2, .int .i64 id), (3, .int .i64 length), (4, .int .i64 ahead), (6, sl fI trail), (7, .op (.loc 7) 0), (18, c'), (19, .int .i64 i)], ⟨[(7, layC l)], bl'⟩) ∧
   Own fE 2 bl' c' (W ++ if W.length = i then (match S.find? fun x => x.s == s with | some x => [x] | none => []) else []) := by
 intro S
 have hil : i < trail.length := (List.getElem?_eq_some_iff.1 hs).1
 have his : trail[i] = s := (List.getElem?_eq_some_iff.1 hs).2
 have hiaT := iaddr_atI (k := .i64) hil
 rw [his] at hiaT
 induction S with
 | nil =>
  intro P W c bl hP hO hW
  have h1 : ¬ ((P.length : Int) < xs.length) := by rw [hP]; simp
  refine ⟨c, bl, ?_, by simpa using hO⟩
  rw [r18_Add_R4_eq]
  simp only [r18_Add_B4, r18_Add_K4_a, h1, hO.chkV, zy, simprocAttr]
 | cons x S ih =>
  intro P W c bl hP hO hW
  have h1 : ((P.length : Int) < xs.length) := by rw [hP]; simp; omega
  have hw := wrapN (n := P.length) (by rw [hP] at hx; unfold Zc.small; simp at hx; omega)
  have hia := iaddr_midE .i64 P S x
  rw [← hP] at hia
  have hlen := hO.len
  by_cases hA : x.s = s
  · rcases hW with hW | hW
   · obtain ⟨c1, bl1, e1, o1, _, _, _⟩ := hO.app1 flatE (bytes := 16) (zero := [.int .i64 0, .int .i64 0]) (by omega) rfl rfl x (by omega)
    obtain ⟨c', bl', q1, q2⟩ := ih (P ++ [x]) (W ++ [x]) c1 bl1 (by rw [hP]; simp) o1 (.inr (by simp [hW]))
    rw [show (P ++ [x]).length = P.length + 1 by simp] at q1
    refine ⟨c', bl', ?_, ?_⟩
    · simp only [fE] at e1
     rw [r18_Add_R4_eq]
     simp only [r18_Add_B4, r18_Add_K4_a, h1, hia, hiaT, eq_true hA, hw, hlen, hW, e1, hO.chkV, o1.chkV, q1, zy, simprocAttr]
    · have hb : (x.s == s) = true := by simpa using hA
     simpa [hW, List.find?_cons, hb] using q2
   · have hne : ¬ (((W.length : Nat) : Int) = i) := by omega
    have hne' : ¬ W.length = i := by omega
    obtain ⟨c', bl', q1, q2⟩ := ih (P ++ [x]) W c bl (by rw [hP]; simp) hO (.inr hW)
    rw [show (P ++ [x]).length = P.length + 1 by simp] at q1
    refine ⟨c', bl', ?_, ?_⟩
    · rw [r18_Add_R4_eq]
     simp only [r18_Add_B4, r18_Add_K4_a, h1, hia, hiaT, eq_true hA, hw, hlen, hne, hO.chkV, q1, zy, simprocAttr]
    · simpa [hne'] using q2
  · obtain ⟨c', bl', q1, q2⟩ := ih (P ++ [x]) W c bl (by rw [hP]; simp) hO hW
   rw [show (P ++ [x]).length = P.length + 1 by simp] at q1
   refine ⟨c', bl', ?_, ?_⟩
   · rw [r18_Add_R4_eq]
    simp only [r18_Add_B4, r18_Add_K4_a, h1, hia, hiaT, eq_false hA, hw, hlen, hO.chkV, q1, zy, simprocAttr]
   · have hb : (x.s == s) = false := by simpa using hA
    simpa [List.find?_cons, hb] using q2

theorem radd_loop2 : ∀ (S : List Int) (W : List Ed) (e : Ed) (c : CV) (bl : List Blk), trail = (W ++ [e]).map Ed.s ++ S → follows l ⟨e.s, 1 - e.e⟩ S = true → -1 ≤ e.e ∧ e.e ≤ 1 → Own fE 2 bl c (W ++ [e]) →
  ∃ c' bl', r18_Add_R2 ([(1, sl fVh w), (2, .int .i64 id), (3, .int .i64 length), (4, .int .i64 ahead), (6, sl fI trail), (7, .op (.loc 7) 0), (18, c), (19, .int .i64 (W ++ [e]).length)], ⟨[(7, layC l)], bl⟩) =
   some (.norm, [(1, sl fVh w), (2, .int .i64 id), (3, .int .i64 length), (4, .int .i64 ahead), (18, c')], ⟨[], bl'⟩) ∧ Own fE 2 bl' c' (W ++ [e] ++ wayFrom l e S) := by
 intro S
 induction S with
 | nil =>
  intro W e c bl hP _ _ hO
  have h1 : ¬ (((W ++ [e]).length : Int) < trail.length) := by rw [hP]; simp
  refine ⟨c, bl, ?_, by simpa [wayFrom] using hO⟩
  rw [r18_Add_R2_eq]
  simp only [r18_Add_B2, r18_Add_K2_a, h1, hO.chkV, zy, simprocAttr]
 | cons s S ih =>
  intro W e c bl hP hf he hO
  unfold follows at hf
  cases hx : (around l ⟨e.s, 1 - e.e⟩).find? fun x => x.s == s with
  | none => simp [hx] at hf
  | some x =>
   simp only [hx] at hf
   have hm := List.mem_of_find?_eq_some hx
   have hxs : x.s = s := by simpa using List.find?_some hx
   have hin := around_in hm
   have hpl : W.length + 2 ≤ 12 := by rw [hP] at ht; simp at ht; omega
   have h1 : (((W ++ [e]).length : Int) < trail.length) := by rw [hP]; simp; omega
   have hw := wrapN (n := (W ++ [e]).length) (by unfold Zc.small; simp; omega)
   have hw2 : IntKind.i64.wrap (((W ++ [e]).length : Int) - 1) = W.length := by rw [wrap64 (by omega) (by simp; omega)]; simp
   have hw3 : IntKind.i64.wrap (1 - e.e) = 1 - e.e := wrap64 (by omega) (by omega)
   have hiT : iaddrC 1 (sl fI trail) (.int .i64 W.length) = some (.vp (.int .i64 e.s :: (s :: S).flatMap fI)) := by
    have := iaddr_midI .i64 (W.map Ed.s) (s :: S) e.s
    rw [show W.map Ed.s ++ e.s :: s :: S = trail by rw [hP]; simp, List.length_map] at this
    exact this
   obtain ⟨m, g1, cs, g2, g3⟩ := Own.get flatE hO (p := W) (s := []) (x := e) rfl
   have g1' := g1 .i64
   have hh : headO (List.drop (W.length * 2 + 1) cs) = some (.int .i64 e.e) := by
    rw [← List.drop_drop, g3]; rfl
   have hA := fun H => around_F l hl.ok ⟨e.s, 1 - e.e⟩ H
   have hal := around_len l ⟨e.s, 1 - e.e⟩
   have hsi : trail[(W ++ [e]).length]? = some s := by rw [hP, List.getElem?_append_right (by simp)]; simp
   obtain ⟨c1, bl1, r1, r2⟩ := radd_loop4 l hl w id length ahead trail ht (W ++ [e]).length (by simp; omega) s hsi (around l ⟨e.s, 1 - e.e⟩) (by omega) (around l ⟨e.s, 1 - e.e⟩) [] (W ++ [e]) c bl rfl hO (.inl rfl)
   simp only [if_true, hx] at r2
   obtain ⟨c', bl', q1, q2⟩ := ih (W ++ [e]) x c1 bl1 (by rw [hP, hxs.symm]; simp) (by rw [hxs]; exact hf) (by omega) r2
   refine ⟨c', bl', ?_, ?_⟩
   · simp only [fE] at hA
    have q1' := q1
    rw [show (W ++ [e] ++ [x]).length = (W ++ [e]).length + 1 by simp] at q1'
    simp only [List.length_nil, Int.natCast_zero] at r1
    rw [r18_Add_R2_eq]
    simp only [r18_Add_B2, r18_Add_K2_a, h1, hw, hw2, hw3, hiT, g1', g2, hh, r05_Around_call, hA, r18_Add_L4_eq, r1, hO.chkV, r2.chkV, q1', zy, simprocAttr]
   · unfold wayFrom
    simp only [hx]
    rw [show W ++ [e] ++ x :: wayFrom l x S = W ++ [e] ++ [x] ++ wayFrom l x S by simp]
    exact q2
end
end Go.Proofs.Ytfblegjbmhgepaa.Zt
end
section
namespace Go.Proofs.Ytfblegjbmhgepaa.Zt
open Go Go.Zc
set_option maxRecDepth 10000

theorem ixC_neg (o : Option Nat) : (∃ i : Nat, o = some i ∧ ixC o = .int .i64 i) ∨ (o = none ∧ ixC o = .int .i64 (-1)) := by
 cases o with
 | none => exact .inr ⟨rfl, rfl⟩
 | some i => exact .inl ⟨i, rfl, rfl⟩
set_option maxHeartbeats 4000000 in
theorem radd_F (l : Lay) (hl : Lens l) (w : List Vh) (hm : w.length ≤ 1000) (id length ahead dir : Int) (trail : List Int) (ht : trail.length ≤ Zc.small) (ha : -1000000000 ≤ ahead ∧ ahead ≤ 1000000000) (H : Heap) :
  r18_Add_F false H [.agg (layC l), sl fVh w, .int .i64 id, .int .i64 length, .int .i64 ahead, .int .i64 dir, sl fI trail] =
   some (.tup [sl fVh (addV l w id length ahead dir trail).1, .int .i64 (addV l w id length ahead dir trail).2], H) := by
 have hf := fun st H => rfind_F w (by unfold Zc.small; omega) id st H
 have hF := fun st H => rfits_F l hl.ok ⟨3, 0, 0, dir, ahead, false, trail⟩ ht st H
 simp only [msgC] at hF
 rw [r18_Add_F_eq]
 unfold addV
 rcases ixC_neg (findW w id) with ⟨i, h, hx⟩ | ⟨h, hx⟩
 · have h0 : (0 : Int) ≤ i := by omega
  simp only [h, ixC] at hf
  simp only [h, Option.isSome_some, true_or, if_true]
  simp only [r18_Add_C, r18_find_call, hf, h0, ge_iff_le, zy, simprocAttr]
 · have h0 : ¬ (0 : Int) ≤ -1 := by omega
  simp only [h, ixC] at hf
  simp only [h, Option.isSome_none, Bool.false_eq_true, false_or]
  by_cases h6 : 6 ≤ w.length
  · have h6' : (6 : Int) ≤ w.length := by omega
   simp only [if_pos h6]
   simp only [r18_Add_C, r18_find_call, hf, h0, h6', ge_iff_le, zy, simprocAttr]
  · have h6' : ¬ (6 : Int) ≤ w.length := by omega
   simp only [if_neg h6]
   cases hfi : fits l ⟨3, 0, 0, dir, ahead, false, trail⟩ with
   | false =>
    simp only [hfi] at hF
    have hma : mayAdd l length ahead dir trail = false := by unfold mayAdd; rw [hfi]; rfl
    simp only [hma, Bool.false_eq_true, if_false]
    simp only [r18_Add_C, r18_find_call, hf, h0, h6', ge_iff_le, r10_Fits_call, hF, zy, simprocAttr]
   | true =>
    simp only [hfi] at hF
    cases htr : trail with
    | nil => rw [htr] at hfi; simp [fits] at hfi
    | cons s t =>
     have hfi' := hfi
     rw [htr] at hfi'
     unfold fits at hfi'
     simp only [Bool.and_eq_true, decide_eq_true_eq] at hfi'
     obtain ⟨⟨⟨⟨⟨⟨k1, k2⟩, k3⟩, k4⟩, k5⟩, k6⟩, k7⟩ := hfi'
     rw [← htr] at k1
     have hi0 : iaddrC 1 (sl fI trail) (.int .i64 0) = some (.vp (.int .i64 s :: t.flatMap fI)) := by
      rw [htr]; exact iaddr_midI .i64 [] t s
     have hL := fun st H => len_F l s st H
     have hwn : IntKind.i64.wrap (0 - ahead) = 0 - ahead := wrap64 (by omega) (by omega)
     have hun : unC .neg (.int .i64 ahead) = some (.int .i64 (IntKind.i64.wrap (0 - ahead))) := rfl
     have e0 := radd_loop0 l hl w id length ahead dir trail k1 trail [] (0 - ahead) rfl (by omega) (by simp; omega)
     simp only [List.nil_append, List.length_nil, Int.natCast_zero] at e0
     have hd : (s :: t).headD 0 = s := rfl
     rw [← htr]
     by_cases hA : lenAt l s ≤ ahead
     · have hma : mayAdd l length ahead dir trail = false := by
       unfold mayAdd
       rw [htr, hd, show decide (ahead < lenAt l s) = false from decide_eq_false (by omega)]
       simp
      simp only [hma, Bool.false_eq_true, if_false]
      simp only [r18_Add_C, r18_find_call, hf, h0, h6', ge_iff_le, r10_Fits_call, hF, hun, hwn, r18_Add_L0_eq, e0, hi0, r05_Len_call, hL, hA, zy, simprocAttr]
     · by_cases hB : length < 1
      · have hma : mayAdd l length ahead dir trail = false := by
        unfold mayAdd
        rw [show decide (1 ≤ length) = false from decide_eq_false (by omega)]
        simp
       simp only [hma, Bool.false_eq_true, if_false]
       simp only [r18_Add_C, r18_find_call, hf, h0, h6', ge_iff_le, r10_Fits_call, hF, hun, hwn, r18_Add_L0_eq, e0, hi0, r05_Len_call, hL, hA, hB, zy, simprocAttr]
      · by_cases hC : 0 - ahead + sumL l trail < length
       · have hma : mayAdd l length ahead dir trail = false := by
         unfold mayAdd
         rw [show decide (length ≤ sumL l trail - ahead) = false from decide_eq_false (by omega)]
         simp
        simp only [hma, Bool.false_eq_true, if_false]
        simp only [r18_Add_C, r18_find_call, hf, h0, h6', ge_iff_le, r10_Fits_call, hF, hun, hwn, r18_Add_L0_eq, e0, hi0, r05_Len_call, hL, hA, hB, hC, gt_iff_lt, zy, simprocAttr]
       · have hma : mayAdd l length ahead dir trail = true := by
         unfold mayAdd
         rw [hfi, show decide (1 ≤ length) = true from decide_eq_true (by omega), show decide (length ≤ sumL l trail - ahead) = true from decide_eq_true (by omega), htr, hd, show decide (ahead < lenAt l s) = true from decide_eq_true (by omega)]
         rfl
        simp only [hma, if_true]
        have o0 : Own fE 2 [Blk.cells [.int .i64 s, .int .i64 dir]] (.os 2 (.blk 0) 0 1) [⟨s, dir⟩] := .inr ⟨0, rfl, rfl⟩
        obtain ⟨c', bl1, q1, q2⟩ := radd_loop2 l hl w id length ahead trail k1 t [] ⟨s, dir⟩ _ _ (by rw [htr]; rfl) k7 (by simp only at k3 k4 ⊢; omega) o0
        simp only [List.nil_append, List.length_cons, List.length_nil, Nat.zero_add, Int.ofNat_one] at q1 q2
        have hway : wayIn l dir trail = ⟨s, dir⟩ :: wayFrom l ⟨s, dir⟩ t := by rw [htr]; rfl
        rw [show [(⟨s, dir⟩ : Ed)] ++ wayFrom l ⟨s, dir⟩ t = wayIn l dir trail by rw [hway]; rfl] at q2
        obtain ⟨v1, bl2, g1, g2, g3, g4, g5⟩ := (Own.nil fVh 4 bl1).appSl flatVh (bytes := 48) (zero := [.int .i64 0, .int .i64 0, .int .i64 0, .nils]) (by omega) rfl rfl w (by simp; omega)
        have q2' : Own fE 2 bl2 c' (wayIn l dir trail) := q2.fr g4 (fun k hk => by cases hk)
        have hv1 : ∀ k, blkOf c' = some k → blkOf v1 ≠ some k := by
         intro k hk e
         have hkl := q2.lt hk
         rcases g5 with g5 | g5
         · rw [g5] at e; cases e
         · rw [g5] at e
          have := Option.some.inj e
          omega
        simp only [List.nil_append] at g2
        obtain ⟨bl3, a1, a2, a3⟩ := app_row flatVh g2 (bytes := 48) (zero := [.int .i64 0, .int .i64 0, .int .i64 0, .nils]) (by omega) rfl rfl [.int .i64 id, .int .i64 length, .int .i64 ahead, c'] rfl
         (by rw [ones_cons, ones_cons, ones_cons, ones_cons, q2.one]; rfl) (by simp only [CV.locs, q2.locv]; rfl) (by omega)
        have q3 : Own fE 2 bl3 c' (wayIn l dir trail) := by
         rcases q2' with q | ⟨m, q, q'⟩
         · exact .inl q
         · exact .inr ⟨m, q, a3 _ _ q' (hv1 m (by rw [q]; rfl))⟩
        have hsh : ShowsL bl3 (w.flatMap fVh ++ [.int .i64 id, .int .i64 length, .int .i64 ahead, c']) ((w ++ [(⟨id, length, ahead, wayIn l dir trail⟩ : Vh)]).flatMap fVh) := by
         rw [List.flatMap_append]
         refine (shows_Vhs bl3 w).app ?_
         simp only [List.flatMap_cons, List.flatMap_nil, List.append_nil]
         exact ⟨shows_int _ _ _, shows_int _ _ _, shows_int _ _ _, shows_own flatE q3 (fun H x => shows_E H x), trivial⟩
        have hsn := fun bx => os_snap a2 hsh (sz := 4) (n := w.length + 1) (by rw [flatVh.length]; simp) bx
        have hres : CV.vs ((w ++ [(⟨id, length, ahead, wayIn l dir trail⟩ : Vh)]).flatMap fVh) (w.length + 1) = sl fVh (w ++ [⟨id, length, ahead, wayIn l dir trail⟩]) := by simp [sl]
        rw [hres] at hsn
        have hone := q2.one
        have hlocv := q2.locv
        have hund := q2.und
        have hcells := q2.cells
        simp only [r18_Add_C, r18_find_call, hf, h0, h6', ge_iff_le, r10_Fits_call, hF, hun, hwn, r18_Add_L0_eq, e0, hi0, r05_Len_call, hL, hA, hB, hC, gt_iff_lt, r18_Add_L2_eq, q1, g1, hund, hone, hlocv, hcells, a1, hsn, zy, simprocAttr]
end Go.Proofs.Ytfblegjbmhgepaa.Zt
end
section
namespace Go.Proofs.Ytfblegjbmhgepaa.Zt
open Go Go.Zc
set_option maxRecDepth 10000

theorem stands_F (right : List Bool) (i : Nat) (st : Bool) (H : Heap) : graph_stands_F st H [sl fB right, .int .i64 i] = some (.bool (stand right i), H) := by
 rw [graph_stands_F_eq]
 by_cases h : i < right.length
 · have h' : ((i : Int) < right.length) := by omega
  have hia : iaddrC 1 (sl fB right) (.int .i64 i) = some (.vp (.bool right[i] :: (right.drop (i + 1)).flatMap fB)) := iaddr_sl flatB.len flatB.pos h
  have hs : stand right i = right[i] := by simp [stand, h]
  simp only [graph_stands_C, h', hia, hs, zy, simprocAttr]
 · have h' : ¬ ((i : Int) < right.length) := by omega
  have hs : stand right i = false := by simp [stand, h]
  simp only [graph_stands_C, h', hs, zy, simprocAttr]

theorem gnext1_F (x : Ed) (n : Int) (st : Bool) (H : Heap) : graph_Graph_Next_1_F st H [.agg (fE x), .vp [.int .i64 n]] = some (.bool (decide (x.s = n)), H) := by
 rw [graph_Graph_Next_1_F_eq]
 simp only [graph_Graph_Next_1_C, fE, zy, simprocAttr]

theorem ptOf_pt {l : Lay} {n : Int} {i : Nat} (h : ptOf l n = some i) : ∃ hi : i < l.pts.length, l.pts[i]? = some l.pts[i] := by
 obtain ⟨hi, _⟩ := ptOf_some h
 exact ⟨hi, List.getElem?_eq_getElem hi⟩

set_option maxHeartbeats 1000000 in
theorem gnext_F (l : Lay) (hl : l.ok) (x : Ed) (right : List Bool) (st : Bool) (H : Heap) :
  graph_Graph_Next_F st H [.vp (layC l), .agg (fE x), sl fB right] = some (.tup [.agg (edC (next l x right)), .bool (next l x right).isSome], H) := by
 rw [graph_Graph_Next_F_eq]
 have haF := fun H => garound_F l hl x H
 have hnF := fun st H => gnode_F l x st H
 have hal := around_len2 l x
 cases hn : nodeOf l x with
 | none =>
  have ha : around l x = [] := by simp [around, hn]
  simp only [ha, fE] at haF
  simp only [graph_Graph_Next_C, fE, next, hn, graph_Graph_Around_call, haF, edC, zy, simprocAttr]
 | some n =>
  simp only [hn, Option.getD_some, fE] at hnF
  cases ha : around l x with
  | nil =>
   simp only [ha, fE] at haF
   simp only [graph_Graph_Next_C, fE, next, nextAt, hn, ha, graph_Graph_Around_call, haF, edC, zy, simprocAttr]
  | cons y ys =>
   rw [ha] at hal
   have h0 : iaddrC 2 (sl fE (y :: ys)) (.int .i64 0) = some (.vp (.int .i64 y.s :: .int .i64 y.e :: ys.flatMap fE)) := iaddr_midE .i64 [] ys y
   have h00 : ¬ (((ys.length + 1 : Nat) : Int) = 0) := by omega
   simp only [ha, fE] at haF
   have hpF := fun st H => gpoint_F l hl n st H
   cases hp : ptOf l n with
   | none =>
    simp only [hp] at hpF
    simp only [graph_Graph_Next_C, fE, next, nextAt, hn, hp, ha, graph_Graph_Around_call, haF, graph_Graph_node_call, hnF, graph_Graph_Point_call, hpF, h0, h00, edC, zy, simprocAttr]
   | some i =>
    simp only [hp] at hpF
    obtain ⟨hi, hpi⟩ := ptOf_pt hp
    have hi0 : ¬ ((i : Int) < 0) := by omega
    have hsF := fun st H => stands_F right i st H
    have hst : ∀ bx a b, stE 1 0 (.int .i64 b) ⟨bx, [Blk.cells [.int .i64 a]]⟩ (.blk 0) [.int .i64 a] = some ⟨bx, [Blk.cells [.int .i64 b]]⟩ := by
     intro bx a b
     simp [stE, CV.cells, ones, CV.one, CV.locs, CV.locv, Id.loc?, Heap.put, setMany]
    have hc : ∀ (leg : Int) (y : Ed) (H' : Heap), call ctx (.fn (.func 109) [] [.vp [.int .i64 leg]]) [.agg (fE y)] H' = some (.bool (decide (y.s = leg)), H') := by
     intro leg y H'
     have := gnext1_F y leg
     simp only [fE] at this
     simp only [graph_Graph_Next_1_call, fE, zy, simprocAttr, this]
    have hix := fun leg st H => idxE_F (.fn (.func 109) [] [.vp [.int .i64 leg]]) rfl (fun y => decide (y.s = leg)) (hc leg) (y :: ys) hal st H
    cases hs : stand right i with
    | true =>
     simp only [hs] at hsF
     by_cases h1 : x.s = l.pts[i].stem
     · have hfi := find_idx (fun y : Ed => decide (y.s = l.pts[i].right)) (y :: ys)
      cases hf : (y :: ys).findIdx? (fun y => decide (y.s = l.pts[i].right)) with
      | none =>
       have hfd := hfi.2 hf
       have hid : idxOf (fun y : Ed => decide (y.s = l.pts[i].right)) (y :: ys) = -1 := by simp only [idxOf, hf]
       simp only [graph_Graph_Next_C, fE, next, nextAt, hn, hp, hpi, ha, hs, eq_true h1, hfd, graph_Graph_Around_call, haF, graph_Graph_node_call, hnF, graph_Graph_Point_call, hpF, hi0, iaddr_atP hi, graph_stands_call, hsF, hst, slices_IndexFunc_End_call, hix, hid, h0, h00, edC, zy, simprocAttr]
      | some j =>
       obtain ⟨hj, hfd⟩ := hfi.1 j hf
       have hid : idxOf (fun y : Ed => decide (y.s = l.pts[i].right)) (y :: ys) = j := by simp only [idxOf, hf]
       have hj0 : (0 : Int) ≤ j := by omega
       simp only [graph_Graph_Next_C, fE, next, nextAt, hn, hp, hpi, ha, hs, eq_true h1, hfd, graph_Graph_Around_call, haF, graph_Graph_node_call, hnF, graph_Graph_Point_call, hpF, hi0, iaddr_atP hi, graph_stands_call, hsF, hst, slices_IndexFunc_End_call, hix, hid, hj0, iaddr_atE hj, h0, h00, edC, zy, simprocAttr]
     · by_cases h2 : x.s = l.pts[i].right
      · simp only [graph_Graph_Next_C, fE, next, nextAt, hn, hp, hpi, ha, hs, eq_false h1, eq_true h2, graph_Graph_Around_call, haF, graph_Graph_node_call, hnF, graph_Graph_Point_call, hpF, hi0, iaddr_atP hi, graph_stands_call, hsF, hst, h0, h00, edC, zy, simprocAttr]
      · simp only [graph_Graph_Next_C, fE, next, nextAt, hn, hp, hpi, ha, hs, eq_false h1, eq_false h2, graph_Graph_Around_call, haF, graph_Graph_node_call, hnF, graph_Graph_Point_call, hpF, hi0, iaddr_atP hi, graph_stands_call, hsF, hst, h0, h00, edC, zy, simprocAttr]
    | false =>
     simp only [hs] at hsF
     by_cases h1 : x.s = l.pts[i].stem
     · have hfi := find_idx (fun y : Ed => decide (y.s = l.pts[i].left)) (y :: ys)
      cases hf : (y :: ys).findIdx? (fun y => decide (y.s = l.pts[i].left)) with
      | none =>
       have hfd := hfi.2 hf
       have hid : idxOf (fun y : Ed => decide (y.s = l.pts[i].left)) (y :: ys) = -1 := by simp only [idxOf, hf]
       simp only [graph_Graph_Next_C, fE, next, nextAt, hn, hp, hpi, ha, hs, eq_true h1, hfd, graph_Graph_Around_call, haF, graph_Graph_node_call, hnF, graph_Graph_Point_call, hpF, hi0, iaddr_atP hi, graph_stands_call, hsF, hst, slices_IndexFunc_End_call, hix, hid, h0, h00, edC, zy, simprocAttr]
      | some j =>
       obtain ⟨hj, hfd⟩ := hfi.1 j hf
       have hid : idxOf (fun y : Ed => decide (y.s = l.pts[i].left)) (y :: ys) = j := by simp only [idxOf, hf]
       have hj0 : (0 : Int) ≤ j := by omega
       simp only [graph_Graph_Next_C, fE, next, nextAt, hn, hp, hpi, ha, hs, eq_true h1, hfd, graph_Graph_Around_call, haF, graph_Graph_node_call, hnF, graph_Graph_Point_call, hpF, hi0, iaddr_atP hi, graph_stands_call, hsF, hst, slices_IndexFunc_End_call, hix, hid, hj0, iaddr_atE hj, h0, h00, edC, zy, simprocAttr]
     · by_cases h2 : x.s = l.pts[i].left
      · simp only [graph_Graph_Next_C, fE, next, nextAt, hn, hp, hpi, ha, hs, eq_false h1, eq_true h2, graph_Graph_Around_call, haF, graph_Graph_node_call, hnF, graph_Graph_Point_call, hpF, hi0, iaddr_atP hi, graph_stands_call, hsF, hst, h0, h00, edC, zy, simprocAttr]
      · simp only [graph_Graph_Next_C, fE, next, nextAt, hn, hp, hpi, ha, hs, eq_false h1, eq_false h2, graph_Graph_Around_call, haF, graph_Graph_node_call, hnF, graph_Graph_Point_call, hpF, hi0, iaddr_atP hi, graph_stands_call, hsF, hst, h0, h00, edC, zy, simprocAttr]

theorem next_loop (leg : Int) (y0 : List CV) (hy0 : y0.length = 2) : ∀ (s p : List Ed), (p ++ s).length ≤ 2 * Zc.small →
  r05_Next_R0 ([(6, .op (.loc 6) 0), (8, sl fE (p ++ s)), (12, .int .i64 leg), (13, .int .i64 p.length)], ⟨[(6, [.int .i64 0, .int .i64 0])], []⟩) =
   match s.find? (fun y => decide (y.s = leg)) with
   | some y => some (.ret, [(6, .op (.loc 6) 0), (7, .bool true)], ⟨[(6, fE y)], []⟩)
   | none => some (.norm, [(6, .op (.loc 6) 0)], ⟨[(6, [.int .i64 0, .int .i64 0])], []⟩)
 | [], p, hm => by
  rw [r05_Next_R0_eq]
  simp only [r05_Next_B0, r05_Next_K0_a, List.find?_nil, zy, simprocAttr]
 | y :: s, p, hm => by
  have h4 : ((p.length : Int) < (p ++ y :: s).length) := by simp; omega
  have hw := wrapN (n := p.length) (by simp at hm; omega)
  have ih := next_loop leg y0 hy0 s (p ++ [y]) (by simpa using hm)
  simp only [List.append_assoc, List.cons_append, List.nil_append, List.length_append, List.length_cons, List.length_nil] at ih h4
  rw [r05_Next_R0_eq]
  by_cases h : y.s = leg
  · simp only [r05_Next_B0, r05_Next_K0_a, List.append_assoc, List.cons_append, List.nil_append, List.length_append, List.length_cons, List.length_nil, h4, iaddr_midE, eq_true h, List.find?_cons, fE, zy, simprocAttr]
  · simp only [r05_Next_B0, r05_Next_K0_a, List.append_assoc, List.cons_append, List.nil_append, List.length_append, List.length_cons, List.length_nil, h4, hw, iaddr_midE, eq_false h, List.find?_cons, ih, zy, simprocAttr]

set_option maxHeartbeats 1000000 in
theorem next_F (l : Lay) (hl : l.ok) (x : Ed) (right : List Bool) (H : Heap) :
  r05_Next_F false H [.agg (layC l), .agg (fE x), sl fB right] = some (.tup [.agg (edC (next l x right)), .bool (next l x right).isSome], H) := by
 rw [r05_Next_F_eq]
 have haF := fun H => around_F l hl x H
 have hnF := fun st H => node_F l x st H
 have hal := around_len2 l x
 cases hn : nodeOf l x with
 | none =>
  have ha : around l x = [] := by simp [around, hn]
  simp only [ha, fE] at haF
  simp only [r05_Next_C, fE, next, hn, r05_Around_call, haF, edC, zy, simprocAttr]
 | some n =>
  simp only [hn, Option.getD_some, fE] at hnF
  cases ha : around l x with
  | nil =>
   simp only [ha, fE] at haF
   simp only [r05_Next_C, fE, next, nextAt, hn, ha, r05_Around_call, haF, edC, zy, simprocAttr]
  | cons y ys =>
   rw [ha] at hal
   have h0 : iaddrC 2 (sl fE (y :: ys)) (.int .i64 0) = some (.vp (.int .i64 y.s :: .int .i64 y.e :: ys.flatMap fE)) := iaddr_midE .i64 [] ys y
   have h00 : ¬ (((ys.length + 1 : Nat) : Int) = 0) := by omega
   simp only [ha, fE] at haF
   have hpF := fun st H => point_F l hl n st H
   cases hp : ptOf l n with
   | none =>
    simp only [hp] at hpF
    simp only [r05_Next_C, fE, next, nextAt, hn, hp, ha, r05_Around_call, haF, r05_node_call, hnF, r05_Point_call, hpF, h0, h00, edC, zy, simprocAttr]
   | some i =>
    simp only [hp] at hpF
    obtain ⟨hi, hpi⟩ := ptOf_pt hp
    have hi0 : ¬ ((i : Int) < 0) := by omega
    have hL := fun leg => next_loop leg [.int .i64 0, .int .i64 0] rfl (y :: ys) [] hal
    simp only [List.nil_append, List.length_nil, Int.natCast_zero] at hL
    by_cases h1 : x.s = l.pts[i].stem
    · by_cases hr : i < right.length
     · have hr' : ((i : Int) < right.length) := by omega
      have hia : iaddrC 1 (sl fB right) (.int .i64 i) = some (.vp (.bool right[i] :: (right.drop (i + 1)).flatMap fB)) := iaddr_sl flatB.len flatB.pos hr
      have hs : stand right i = right[i] := by simp [stand, hr]
      cases hb : right[i] with
      | true =>
       rw [hb] at hs hia
       have hL' := hL l.pts[i].right
       cases hf : (y :: ys).find? (fun z => decide (z.s = l.pts[i].right)) with
       | none =>
        simp only [hf] at hL'
        simp only [r05_Next_C, r05_Next_L0_eq, fE, next, nextAt, hn, hp, hpi, ha, hs, eq_true h1, hf, r05_Around_call, haF, r05_node_call, hnF, r05_Point_call, hpF, hi0, iaddr_atP hi, hr', hia, h0, h00, hL', edC, zy, simprocAttr]
       | some z =>
        simp only [hf] at hL'
        simp only [r05_Next_C, r05_Next_L0_eq, fE, next, nextAt, hn, hp, hpi, ha, hs, eq_true h1, hf, r05_Around_call, haF, r05_node_call, hnF, r05_Point_call, hpF, hi0, iaddr_atP hi, hr', hia, h0, h00, hL', edC, zy, simprocAttr]
      | false =>
       rw [hb] at hs hia
       have hL' := hL l.pts[i].left
       cases hf : (y :: ys).find? (fun z => decide (z.s = l.pts[i].left)) with
       | none =>
        simp only [hf] at hL'
        simp only [r05_Next_C, r05_Next_L0_eq, fE, next, nextAt, hn, hp, hpi, ha, hs, eq_true h1, hf, r05_Around_call, haF, r05_node_call, hnF, r05_Point_call, hpF, hi0, iaddr_atP hi, hr', hia, h0, h00, hL', edC, zy, simprocAttr]
       | some z =>
        simp only [hf] at hL'
        simp only [r05_Next_C, r05_Next_L0_eq, fE, next, nextAt, hn, hp, hpi, ha, hs, eq_true h1, hf, r05_Around_call, haF, r05_node_call, hnF, r05_Point_call, hpF, hi0, iaddr_atP hi, hr', hia, h0, h00, hL', edC, zy, simprocAttr]
     · have hr' : ¬ ((i : Int) < right.length) := by omega
      have hs : stand right i = false := by simp [stand, hr]
      have hL' := hL l.pts[i].left
      cases hf : (y :: ys).find? (fun z => decide (z.s = l.pts[i].left)) with
      | none =>
       simp only [hf] at hL'
       simp only [r05_Next_C, r05_Next_L0_eq, fE, next, nextAt, hn, hp, hpi, ha, hs, eq_true h1, hf, r05_Around_call, haF, r05_node_call, hnF, r05_Point_call, hpF, hi0, iaddr_atP hi, hr', h0, h00, hL', edC, zy, simprocAttr]
      | some z =>
       simp only [hf] at hL'
       simp only [r05_Next_C, r05_Next_L0_eq, fE, next, nextAt, hn, hp, hpi, ha, hs, eq_true h1, hf, r05_Around_call, haF, r05_node_call, hnF, r05_Point_call, hpF, hi0, iaddr_atP hi, hr', h0, h00, hL', edC, zy, simprocAttr]
    · by_cases hr : i < right.length
     · have hr' : ((i : Int) < right.length) := by omega
      have hia : iaddrC 1 (sl fB right) (.int .i64 i) = some (.vp (.bool right[i] :: (right.drop (i + 1)).flatMap fB)) := iaddr_sl flatB.len flatB.pos hr
      have hs : stand right i = right[i] := by simp [stand, hr]
      cases hb : right[i] with
      | true =>
       rw [hb] at hs hia
       by_cases h2 : x.s = l.pts[i].right
       · simp only [r05_Next_C, fE, next, nextAt, hn, hp, hpi, ha, hs, eq_false h1, eq_true h2, r05_Around_call, haF, r05_node_call, hnF, r05_Point_call, hpF, hi0, iaddr_atP hi, hr', hia, h0, h00, edC, zy, simprocAttr]
       · simp only [r05_Next_C, fE, next, nextAt, hn, hp, hpi, ha, hs, eq_false h1, eq_false h2, r05_Around_call, haF, r05_node_call, hnF, r05_Point_call, hpF, hi0, iaddr_atP hi, hr', hia, h0, h00, edC, zy, simprocAttr]
      | false =>
       rw [hb] at hs hia
       by_cases h2 : x.s = l.pts[i].left
       · simp only [r05_Next_C, fE, next, nextAt, hn, hp, hpi, ha, hs, eq_false h1, eq_true h2, r05_Around_call, haF, r05_node_call, hnF, r05_Point_call, hpF, hi0, iaddr_atP hi, hr', hia, h0, h00, edC, zy, simprocAttr]
       · simp only [r05_Next_C, fE, next, nextAt, hn, hp, hpi, ha, hs, eq_false h1, eq_false h2, r05_Around_call, haF, r05_node_call, hnF, r05_Point_call, hpF, hi0, iaddr_atP hi, hr', hia, h0, h00, edC, zy, simprocAttr]
     · have hr' : ¬ ((i : Int) < right.length) := by omega
      have hs : stand right i = false := by simp [stand, hr]
      by_cases h2 : x.s = l.pts[i].left
      · simp only [r05_Next_C, fE, next, nextAt, hn, hp, hpi, ha, hs, eq_false h1, eq_true h2, r05_Around_call, haF, r05_node_call, hnF, r05_Point_call, hpF, hi0, iaddr_atP hi, hr', h0, h00, edC, zy, simprocAttr]
      · simp only [r05_Next_C, fE, next, nextAt, hn, hp, hpi, ha, hs, eq_false h1, eq_false h2, r05_Around_call, haF, r05_node_call, hnF, r05_Point_call, hpF, hi0, iaddr_atP hi, hr', h0, h00, edC, zy, simprocAttr]
end Go.Proofs.Ytfblegjbmhgepaa.Zt
end
section
namespace Go.Proofs.Ytfblegjbmhgepaa.Zt
open Go Go.Zc
set_option maxRecDepth 10000

theorem few_in {n : Nat} {way : List Ed} (hn : (way.map Ed.s).Nodup) (hr : ∀ x ∈ way, 0 ≤ x.s ∧ x.s < n) : way.length ≤ n := by
 have hnd : ((way.map Ed.s).map Int.toNat).Nodup := by
  refine List.pairwise_map.2 (hn.imp_of_mem fun {x y} hx hy hxy => ?_)
  obtain ⟨a, ha, rfl⟩ := List.mem_map.1 hx
  obtain ⟨b, hb, rfl⟩ := List.mem_map.1 hy
  have := hr a ha; have := hr b hb
  omega
 have := nodup_le hnd (b := List.range n) (fun z hz => by
  obtain ⟨y, hy, rfl⟩ := List.mem_map.1 hz
  obtain ⟨a, ha, rfl⟩ := List.mem_map.1 hy
  rw [List.mem_range]
  have := hr a ha; omega)
 simpa using this
theorem sumL_le {l : Lay} (hl : Lens l) : ∀ r : List Int, sumL l r ≤ 1000 * r.length
 | [] => by simp [sumL]
 | s :: r => by
  have := sumL_le hl r
  have := hl.hi s
  simp only [sumL, List.length_cons]
  omega
theorem Sound.few {l : Lay} (hl : Lens l) {v : Vh} (h : Sound l v) : v.way.length ≤ 12 ∧ v.ahead + v.length ≤ 12000 := by
 have h1 := few_in h.once fun x hx => (h.there x hx).1
 have h2 := hl.few
 have h3 := sumL_le hl (v.way.map Ed.s)
 have h4 := h.room
 simp only [List.length_map] at h3
 omega
theorem Sound.fits {l : Lay} (hl : Lens l) {v : Vh} (h : Sound l v) : v.fits := by
 obtain ⟨h1, h2⟩ := h.few hl
 have := h.pos; have := h.ahead
 exact ⟨by omega, by omega, by omega⟩

theorem rgo_loop2 (l : Lay) (w : List Vh) (metres gone : Int) (right : List Bool) (i : Nat) (v : Vh) (c : CV) (bl : List Blk) (hc : Held fE 2 bl c v.way) (x : Ed) (u : Nat) (hu : u ≤ v.way.length) (hw12 : v.way.length ≤ 1000) : ∀ (S P : List Ed) (ok : Bool), v.way.take u = P ++ S →
  r18_Go_R2 ([(1, sl fVh w), (3, .int .i64 metres), (4, sl fB right), (5, .op (.loc 5) 0), (13, .int .i64 i), (14, .op (.loc 14) 0), (15, .int .i64 gone), (17, .op (.loc 17) 0), (18, .bool ok), (19, .int .i64 u), (20, .int .i64 P.length)], ⟨[(5, layC l), (14, [.int .i64 v.id, .int .i64 v.length, .int .i64 v.ahead, c]), (17, fE x)], bl⟩) =
   some (.norm, [(1, sl fVh w), (3, .int .i64 metres), (4, sl fB right), (5, .op (.loc 5) 0), (13, .int .i64 i), (14, .op (.loc 14) 0), (15, .int .i64 gone), (17, .op (.loc 17) 0), (18, .bool (ok && decide (x.s ∉ S.map Ed.s))), (19, .int .i64 u)], ⟨[(5, layC l), (14, [.int .i64 v.id, .int .i64 v.length, .int .i64 v.ahead, c]), (17, fE x)], bl⟩) := by
 intro S
 have hlv := hc.locv
 have hch := hc.chkV
 induction S with
 | nil =>
  intro P ok hP
  have hPl : P.length = u := by
   have := congrArg List.length hP
   simp only [List.length_take, List.append_nil] at this
   omega
  have h1 : ¬ ((P.length : Int) < u) := by omega
  rw [r18_Go_R2_eq]
  simp only [r18_Go_B2, r18_Go_K2_a, h1, fE, hlv, List.map_nil, List.not_mem_nil, zy, simprocAttr]
 | cons y S ih =>
  intro P ok hP
  have hPl : P.length + 1 ≤ u := by
   have := congrArg List.length hP
   simp only [List.length_take, List.length_append, List.length_cons] at this
   omega
  have h1 : ((P.length : Int) < u) := by omega
  have hw := wrapN (n := P.length) (by unfold Zc.small; omega)
  have hxe : v.way = P ++ y :: (S ++ v.way.drop u) := by
   have := List.take_append_drop u v.way
   rw [hP, List.append_assoc, List.cons_append] at this
   exact this.symm
  obtain ⟨p, g1, g2, _, g4⟩ := hc.at flatE hxe
  obtain ⟨p', k1, k2, k3⟩ := g4 0 (by omega)
  have g1' := g1 .i64
  have k3' : ∀ bx, loadC false 1 ⟨bx, bl⟩ p' = some (.int .i64 y.s) := k3
  have ih' := fun ok => ih (P ++ [y]) ok (by rw [hP]; simp)
  rw [show (P ++ [y]).length = P.length + 1 by simp] at ih'
  simp only [fE] at ih'
  rw [r18_Go_R2_eq]
  cases ok with
  | false =>
   simp only [r18_Go_B2, r18_Go_K2_a, h1, fE, hlv, hw, ih', zy, simprocAttr]
  | true =>
   by_cases hA : y.s = x.s
   · simp only [r18_Go_B2, r18_Go_K2_a, h1, fE, hlv, hw, g1', k1, k3', eq_true hA, ih', zy, simprocAttr]
    simp [hA]
   · have hA' : ¬ x.s = y.s := fun e => hA e.symm
    simp only [r18_Go_B2, r18_Go_K2_a, h1, fE, hlv, hw, g1', k1, k3', eq_false hA, ih', zy, simprocAttr]
    simp [hA']
end Go.Proofs.Ytfblegjbmhgepaa.Zt
end
section
namespace Go.Proofs.Ytfblegjbmhgepaa.Zt
open Go Go.Zc
set_option maxRecDepth 10000

abbrev vC (v : Vh) (c : CV) : List CV := [.int .i64 v.id, .int .i64 v.length, .int .i64 v.ahead, c]
set_option maxHeartbeats 4000000 in
theorem rgo_loop (l : Lay) (hl : Lens l) (w : List Vh) (metres : Int) (hmm : metres ≤ 1000000) (right : List Bool) (i : Nat) : ∀ (n : Nat) (v : Vh) (c : CV) (bl : List Blk) (gone : Int), Held fE 2 bl c v.way →
  Sound l v → (Front l v ∨ (0 < metres - gone ∧ ∃ e r, v.way = e :: r ∧ v.ahead = lenAt l e.s)) → 2 * (metres - gone).toNat + (if 0 < v.ahead then 0 else 1) ≤ n → 0 ≤ gone → gone ≤ 1000000 →
  ∃ c' bl', r18_Go_R0 ([(1, sl fVh w), (3, .int .i64 metres), (4, sl fB right), (5, .op (.loc 5) 0), (13, .int .i64 i), (14, .op (.loc 14) 0), (15, .int .i64 gone)], ⟨[(5, layC l), (14, vC v c)], bl⟩) =
   some (.norm, [(1, sl fVh w), (5, .op (.loc 5) 0), (13, .int .i64 i), (14, .op (.loc 14) 0), (15, .int .i64 (metres - (goN l right n v (metres - gone)).2))], ⟨[(5, layC l), (14, vC (goN l right n v (metres - gone)).1 c')], bl'⟩) ∧ Held fE 2 bl' c' (goN l right n v (metres - gone)).1.way := by
 intro n
 induction n with
 | zero =>
  intro v c bl gone hc hS hf hn hg hg2
  have h1 : ¬ (gone < metres) := by omega
  have h2 : metres - (metres - gone) = gone := by omega
  refine ⟨c, bl, ?_, by simpa [goN] using hc⟩
  have hlv := hc.locv
  simp only [goN, h2]
  rw [r18_Go_R0_eq]
  simp only [r18_Go_B0, r18_Go_K0_a, h1, gt_iff_lt, hlv, zy, simprocAttr]
 | succ n ih =>
  intro v c bl gone hc hS hf hn hg hg2
  have hlv := hc.locv
  by_cases h1 : gone < metres
  · have hle : ¬ (metres - gone ≤ 0) := by omega
   have hah := hS.ahead
   have hwm : IntKind.i64.wrap (metres - gone) = metres - gone := wrap64 (by omega) (by omega)
   by_cases h2 : 0 < v.ahead
   · rw [if_pos h2] at hn
    have hfr : ∃ e r, v.way = e :: r ∧ v.ahead ≤ lenAt l e.s := by
     rcases hf with ⟨e, r, h3, h4⟩ | ⟨_, e, r, h3, h4⟩
     · exact ⟨e, r, h3, by omega⟩
     · exact ⟨e, r, h3, by omega⟩
    obtain ⟨e, r, h3, h4⟩ := hfr
    have hlen := hl.hi e.s
    have hS' : Sound l { v with ahead := v.ahead - min (metres - gone) v.ahead } := ⟨hS.pos, by simp only; omega, by have := hS.room; simp only; omega, hS.once, hS.there, hS.link⟩
    obtain ⟨c', bl', q1, q2⟩ := ih { v with ahead := v.ahead - min (metres - gone) v.ahead } c bl (gone + min (metres - gone) v.ahead) hc hS' (.inl ⟨e, r, h3, by simp only; omega⟩) (by split <;> omega) (by omega) (by omega)
    rw [show metres - (gone + min (metres - gone) v.ahead) = metres - gone - min (metres - gone) v.ahead by omega] at q1 q2
    have hgo : goN l right (n + 1) v (metres - gone) = goN l right n { v with ahead := v.ahead - min (metres - gone) v.ahead } (metres - gone - min (metres - gone) v.ahead) := by
     conv => lhs; unfold goN
     rw [if_neg hle, if_pos h2]
    rw [hgo]
    refine ⟨c', bl', ?_, q2⟩
    by_cases h5 : v.ahead < metres - gone
    · have hmin : min (metres - gone) v.ahead = v.ahead := by omega
     rw [hmin] at q1 ⊢
     have w1 : IntKind.i64.wrap (v.ahead - v.ahead) = v.ahead - v.ahead := wrap64 (by omega) (by omega)
     have w2 : IntKind.i64.wrap (gone + v.ahead) = gone + v.ahead := wrap64 (by omega) (by omega)
     rw [← q1, r18_Go_R0_eq]
     simp only [r18_Go_B0, r18_Go_K0_a, h1, h2, h5, gt_iff_lt, hwm, w1, w2, hlv, zy, simprocAttr]
    · have hmin : min (metres - gone) v.ahead = metres - gone := by omega
     rw [hmin] at q1 ⊢
     have w1 : IntKind.i64.wrap (v.ahead - (metres - gone)) = v.ahead - (metres - gone) := wrap64 (by omega) (by omega)
     have w2 : IntKind.i64.wrap (gone + (metres - gone)) = gone + (metres - gone) := wrap64 (by omega) (by omega)
     rw [← q1, r18_Go_R0_eq]
     simp only [r18_Go_B0, r18_Go_K0_a, h1, h2, h5, gt_iff_lt, hwm, w1, w2, hlv, zy, simprocAttr]
   · rw [if_neg h2] at hn
    have hah0 : v.ahead = 0 := by omega
    obtain ⟨e, r, h3⟩ : ∃ e r, v.way = e :: r := by
     rcases hf with ⟨e, r, h3, _⟩ | ⟨_, e, r, h3, _⟩ <;> exact ⟨e, r, h3⟩
    obtain ⟨p, g1, g2, g3, g4⟩ := hc.at flatE (P := []) h3
    have g1' := g1 .i64
    simp only [List.length_nil, Int.natCast_zero] at g1'
    have hN := fun H => next_F l hl.ok e right H
    have hU := fun st H => runder_F l hl v (hS.fits hl) st H
    have hsn := fun bx => hc.snapV flatE bx (snapN ⟨bx, bl⟩ false false 7) (fun x c hc => shows_E _ x c hc 6)
    have hule := underN_le l (v.ahead + v.length) v.way
    have hw12 := (hS.few hl).1
    have hl2 := fun x ok => rgo_loop2 l w metres gone right i v c bl hc x (underN l (v.ahead + v.length) v.way) hule (by omega) (underW l v) [] ok rfl
    simp only [List.length_nil, Int.natCast_zero] at hl2
    have hgoN : enterV l right v = none → goN l right (n + 1) v (metres - gone) = (v, metres - gone) := by
     intro he
     conv => lhs; unfold goN
     rw [if_neg hle, if_neg h2, he]
    have hgoS : ∀ v', enterV l right v = some v' → goN l right (n + 1) v (metres - gone) = goN l right n v' (metres - gone) := by
     intro v' he
     conv => lhs; unfold goN
     rw [if_neg hle, if_neg h2, he]
    have hentN : next l e right = none → enterV l right v = none := by
     intro hx
     unfold enterV
     simp only [h3, hx]
    have hentS : ∀ x, next l e right = some x → enterV l right v = if x.s ∈ underL l v then none else some { v with ahead := lenAt l x.s, way := ⟨x.s, 1 - x.e⟩ :: underW l v } := by
     intro x hx
     unfold enterV
     simp only [h3, hx]
    have hmg : metres - (metres - gone) = gone := by omega
    have hone := hc.one
    simp only [fVh] at hU
    simp only [fE] at hN hl2 g3
    cases hx : next l e right with
    | none =>
     simp only [hx, edC, Option.isSome_none] at hN
     rw [hgoN (hentN hx)]
     have hl20 := hl2 ⟨0, 0⟩ false
     simp only [hmg]
     refine ⟨c, bl, ?_, hc⟩
     rw [r18_Go_R0_eq]
     simp only [r18_Go_B0, r18_Go_K0_a, h1, h2, gt_iff_lt, hlv, g1', g2, g3, r05_Next_call, hN, fE, r18_under_call, hsn, hU, r18_Go_L2_eq, hl20, zy, simprocAttr]
    | some x =>
     simp only [hx, edC, Option.isSome_some] at hN
     by_cases hin : x.s ∈ underL l v
     · have hin' : x.s ∈ (underW l v).map Ed.s := hin
      rw [hgoN ((hentS x hx).trans (if_pos hin))]
      simp only [hmg]
      refine ⟨c, bl, ?_, hc⟩
      rw [r18_Go_R0_eq]
      simp only [r18_Go_B0, r18_Go_K0_a, h1, h2, gt_iff_lt, hlv, g1', g2, g3, r05_Next_call, hN, fE, r18_under_call, hsn, hU, r18_Go_L2_eq, hl2, hin', zy, simprocAttr]
     · have hin' : ¬ x.s ∈ (underW l v).map Ed.s := hin
      have hm := next_mem hx
      have hxin := around_in hm
      have hE : enterV l right v = some { v with ahead := lenAt l x.s, way := ⟨x.s, 1 - x.e⟩ :: underW l v } := (hentS x hx).trans (if_neg hin)
      have hgo' := hgoS _ hE
      obtain ⟨s1, _, _, e', r', s4, s5⟩ := enter_sound hl.lo hl.back hS hah0 hE
      have hx1 := hl.one x.s hxin.1.1 hxin.1.2
      have hx2 := hl.hi x.s
      have wx : IntKind.i64.wrap (1 - x.e) = 1 - x.e := wrap64 (by omega) (by omega)
      obtain ⟨c2, k1, k2, k3⟩ := hc.take flatE (underN l (v.ahead + v.length) v.way) hule
      have k1' := k1 .i64
      have hbl1 : ∀ (m : Nat) (b : Blk), bl[m]? = some b → (bl ++ [Blk.cells [.int .i64 x.s, .int .i64 (1 - x.e)]])[m]? = some b := fun m b hb => by
       rw [List.getElem?_append_left (List.getElem?_eq_some_iff.1 hb).1]; exact hb
      have k2' : Held fE 2 (bl ++ [Blk.cells [.int .i64 x.s, .int .i64 (1 - x.e)]]) c2 (underW l v) := k2.keep fun m b hb _ => hbl1 m b hb
      have o0 : Own fE 2 (bl ++ [Blk.cells [.int .i64 x.s, .int .i64 (1 - x.e)]]) (.os 2 (.blk bl.length) 0 1) [(⟨x.s, 1 - x.e⟩ : Ed)] := .inr ⟨bl.length, rfl, by simp [fE]⟩
      have hul : (underW l v).length ≤ 12 := by unfold underW; rw [List.length_take]; omega
      obtain ⟨c3, bl2, a1, a2, a3, a4, a5⟩ := o0.app flatE (bytes := 16) (zero := [.int .i64 0, .int .i64 0]) (by omega) rfl rfl (x := c2) (new := underW l v) (fun bx => k2'.shown flatE bx) k2'.lenOf k2'.isSl (by simp; omega)
      have hLen := fun st H => len_F l x.s st H
      obtain ⟨c', bl', q1, q2⟩ := ih { v with ahead := lenAt l x.s, way := ⟨x.s, 1 - x.e⟩ :: underW l v } c3 bl2 gone (by simpa using a2.held) s1 (.inr ⟨by omega, _, _, rfl, rfl⟩) (by rw [if_pos (by simp only; omega)]; omega) hg hg2
      rw [hgo']
      refine ⟨c', bl', ?_, q2⟩
      have hl3 := a2.locv
      have ho3 := a2.one
      have hc3 := a2.cells
      have hl2c := k2.locv
      rw [← q1, r18_Go_R0_eq]
      simp only [r18_Go_B0, r18_Go_K0_a, h1, h2, gt_iff_lt, hlv, g1', g2, g3, r05_Next_call, hN, fE, r18_under_call, hsn, hU, r18_Go_L2_eq, hl2, hin', wx, k1', a1, hl3, ho3, hc3, hl2c, r05_Len_call, hLen, zy, simprocAttr]
  · have hle : metres - gone ≤ 0 := by omega
   have h2 : metres - (metres - gone) = gone := by omega
   have hgo : goN l right (n + 1) v (metres - gone) = (v, metres - gone) := by
    unfold goN; rw [if_pos hle]
   rw [hgo]
   refine ⟨c, bl, ?_, hc⟩
   simp only [h2]
   rw [r18_Go_R0_eq]
   simp only [r18_Go_B0, r18_Go_K0_a, h1, gt_iff_lt, hlv, zy, simprocAttr]
end Go.Proofs.Ytfblegjbmhgepaa.Zt
end
section
namespace Go.Proofs.Ytfblegjbmhgepaa.Zt
open Go Go.Zc
set_option maxRecDepth 10000

/-- A row written over. -/
theorem set_row {w : List Vh} {i : Nat} (hi : i < w.length) (bx : List (Nat × List CV)) (bl : List Blk) (m : Nat) (a b d c : CV) (ho : ones [a, b, d, c] = true) (hl : CV.locs [a, b, d, c] = false) :
  stE 4 (i * 4) (.agg [a, b, d, c]) ⟨bx, bl⟩ (.blk m) (w.flatMap fVh) = some ⟨bx, bl.set m (.cells ((w.take i).flatMap fVh ++ [a, b, d, c] ++ (w.drop (i + 1)).flatMap fVh))⟩ := by
 have hs : w = w.take i ++ w[i] :: w.drop (i + 1) := by rw [← List.drop_eq_getElem_cons hi, List.take_append_drop]
 have hlt : ((w.take i).flatMap fVh).length = i * 4 := by rw [flatVh.length, List.length_take, Nat.min_eq_left (by omega)]
 have h1 : w.flatMap fVh = (w.take i).flatMap fVh ++ fVh w[i] ++ (w.drop (i + 1)).flatMap fVh := by
  exact (congrArg (List.flatMap fVh) hs).trans (by rw [List.flatMap_append, List.flatMap_cons, List.append_assoc])
 have h2 := setMany_app [a, b, d, c] (fVh w[i]) ((w.take i).flatMap fVh) ((w.drop (i + 1)).flatMap fVh) rfl
 rw [hlt] at h2
 unfold stE
 rw [if_pos ⟨rfl, by rw [flatVh.length]; omega, ho, .inr hl⟩]
 simp only [CV.cells]
 rw [h1, h2]
 rfl

set_option maxHeartbeats 4000000 in
theorem rgo_F (l : Lay) (hl : Lens l) (w : List Vh) (hm : w.length ≤ 1000) (hs : ∀ v ∈ w, Sound l v ∧ Front l v) (id metres : Int) (hmm : metres ≤ 1000000) (right : List Bool) (H : Heap) :
  r18_Go_F false H [.agg (layC l), sl fVh w, .int .i64 id, .int .i64 metres, sl fB right] = match findW w id with
   | none => some (.tup [sl fVh w, .int .i64 0, .int .i64 7], H)
   | some i => match w[i]? with
    | none => none
    | some v => some (.tup [sl fVh (w.set i (goV l right v metres).1), .int .i64 (goV l right v metres).2, .int .i64 0], H) := by
 have hf := fun st H => rfind_F w (by unfold Zc.small; omega) id st H
 rw [r18_Go_F_eq]
 cases h : findW w id with
 | none =>
  simp only [h, ixC] at hf
  simp only [r18_Go_C, r18_find_call, hf, zy, simprocAttr]
 | some i =>
  simp only [h, ixC] at hf
  obtain ⟨hi, _⟩ := findW_some h
  have h0 : ¬ ((i : Int) < 0) := by omega
  obtain ⟨hS, hF⟩ := hs _ (List.getElem_mem hi)
  have hia := iaddr_atVh (k := .i64) hi
  obtain ⟨c2, bl2, q1, q2⟩ := rgo_loop l hl w metres hmm right i (2 * metres.toNat + 2) w[i] (sl fE w[i].way) [] 0 (.inl rfl) hS (.inl hF) (by split <;> omega) (by omega) (by omega)
  obtain ⟨s1, s2, s3, s4⟩ := go_sound hl.lo hl.one hl.back (right := right) (2 * metres.toNat + 2) (v := w[i]) (left := metres) hS (.inl hF) (by split <;> omega)
  rw [Int.sub_zero] at q1 q2
  simp only [List.getElem?_eq_getElem hi]
  have hgo : goV l right w[i] metres = ({ (goN l right (2 * metres.toNat + 2) w[i] metres).1 with way := underW l (goN l right (2 * metres.toNat + 2) w[i] metres).1 }, metres - (goN l right (2 * metres.toNat + 2) w[i] metres).2) := rfl
  rw [hgo]
  generalize goN l right (2 * metres.toNat + 2) w[i] metres = R at q1 q2 s1 s2 s3 s4 ⊢
  obtain ⟨v2, left⟩ := R
  simp only at q1 q2 s1 s2 s3 s4 ⊢
  have hlv := q2.locv
  have hone := q2.one
  have hU := fun st H => runder_F l hl v2 (s1.fits hl) st H
  have hsn := fun bx => q2.snapV flatE bx (snapN ⟨bx, bl2⟩ false false 7) (fun x c hc => shows_E _ x c hc 6)
  have hule := underN_le l (v2.ahead + v2.length) v2.way
  obtain ⟨c3, k1, k2, k3⟩ := q2.take flatE (underN l (v2.ahead + v2.length) v2.way) hule
  have k1' := k1 .i64
  have hl3 := k2.locv
  have ho3 := k2.one
  have hc3 := k2.cells
  have hu3 := k2.und
  obtain ⟨v1, bl3, g1, g2, g3, g4, g5⟩ := (Own.nil fVh 4 bl2).appSl flatVh (bytes := 48) (zero := [.int .i64 0, .int .i64 0, .int .i64 0, .nils]) (by omega) rfl rfl w (by simp; omega)
  simp only [List.nil_append] at g2
  obtain ⟨m, m1, m2, m3⟩ := g2.iaddr flatVh (k := .i64) hi
  have hm2 : m = bl2.length := by
   rcases g5 with g5 | g5
   · rw [m3] at g5; cases g5
   · rw [m3] at g5; exact Option.some.inj g5
  have hk3 : Held fE 2 bl3 c3 (underW l v2) := k2.keep fun k b hb _ => g4 k b hb (fun e => by cases e)
  have hmb : m < bl3.length := (List.getElem?_eq_some_iff.1 m2).1
  have hget : ∀ bx, Heap.get ⟨bx, bl3⟩ (.blk m) = some (w.flatMap fVh) := fun bx => get_blk bx bl3 m _ m2
  have hst := fun bx => set_row hi bx bl3 m (.int .i64 v2.id) (.int .i64 v2.length) (.int .i64 v2.ahead) c3 (by rw [ones_cons, ones_cons, ones_cons, ones_cons, ho3]; rfl) (by simp only [CV.locs, hl3]; rfl)
  have hk4 : Held fE 2 (bl3.set m (.cells ((w.take i).flatMap fVh ++ [.int .i64 v2.id, .int .i64 v2.length, .int .i64 v2.ahead, c3] ++ (w.drop (i + 1)).flatMap fVh))) c3 (underW l v2) := hk3.keep fun k b hb hck => by
   have := k2.lt hck
   rw [List.getElem?_set_ne (by omega)]
   exact hb
  have hsh : ShowsL (bl3.set m (.cells ((w.take i).flatMap fVh ++ [.int .i64 v2.id, .int .i64 v2.length, .int .i64 v2.ahead, c3] ++ (w.drop (i + 1)).flatMap fVh))) ((w.take i).flatMap fVh ++ [.int .i64 v2.id, .int .i64 v2.length, .int .i64 v2.ahead, c3] ++ (w.drop (i + 1)).flatMap fVh) ((w.set i { v2 with way := underW l v2 }).flatMap fVh) := by
   rw [show w.set i { v2 with way := underW l v2 } = w.take i ++ { v2 with way := underW l v2 } :: w.drop (i + 1) by rw [List.set_eq_take_append_cons_drop, if_pos hi], List.flatMap_append, List.flatMap_cons, ← List.append_assoc]
   refine ((shows_Vhs _ _).app ?_).app (shows_Vhs _ _)
   exact ⟨shows_int _ _ _, shows_int _ _ _, shows_int _ _ _, hk4.shows flatE (fun H x => shows_E H x), trivial⟩
  have hsn2 := fun bx => os_snap (m := m) (sz := 4) (n := w.length) (by rw [List.getElem?_set_self hmb]) hsh (by rw [flatVh.length, List.length_set]) bx
  have hres : CV.vs ((w.set i { v2 with way := underW l v2 }).flatMap fVh) w.length = sl fVh (w.set i { v2 with way := underW l v2 }) := by simp [sl]
  rw [hres] at hsn2
  rw [m3] at g1 m1
  simp only [fVh] at hU q1
  simp only [r18_Go_C, r18_find_call, hf, h0, hia, r18_Go_L0_eq, q1, hlv, hone, r18_under_call, hsn, hU, k1', hl3, ho3, hc3, hu3, g1, m1, hget, hst, hsn2, zy, simprocAttr]

theorem rsplit_loop (l : Lay) (hl : Lens l) (w : List Vh) (i : Nat) (X : List CV) (hX : CV.locs X = false) (other behind : Int) : ∀ (r : List Ed) (b : Int), 0 ≤ b → b ≤ 1000000 → b < sumL l (r.map Ed.s) →
  r18_Split_R0 ([(1, sl fVh w), (5, .op (.loc 5) 0), (12, .int .i64 i), (13, .op (.loc 13) 0), (14, .op (.loc 14) 0)], ⟨[(5, layC l), (13, X), (14, [.int .i64 other, .int .i64 behind, .int .i64 b, sl fE r])], []⟩) =
   some (.norm, [(1, sl fVh w), (5, .op (.loc 5) 0), (12, .int .i64 i), (13, .op (.loc 13) 0), (14, .op (.loc 14) 0)], ⟨[(5, layC l), (13, X), (14, [.int .i64 other, .int .i64 behind, .int .i64 (backW l b r).1, sl fE (backW l b r).2])], []⟩) := by
 intro r
 induction r with
 | nil => intro b h1 _ h2; simp only [List.map_nil, sumL] at h2; omega
 | cons x r ih =>
  intro b h1 hb h2
  simp only [List.map_cons, sumL] at h2
  have hia : iaddrC 2 (sl fE (x :: r)) (.int .i64 0) = some (.vp (.int .i64 x.s :: .int .i64 x.e :: r.flatMap fE)) := iaddr_midE .i64 [] r x
  have hL := fun st H => len_F l x.s st H
  have hlo := hl.lo x.s
  have hhi := hl.hi x.s
  have hsl : slcC 2 (sl fE (x :: r)) (some (.int .i64 1)) none = some (sl fE r) := by
   have := slc_lo flatE (x :: r) 1 (by simp) .i64
   simpa using this
  rw [r18_Split_R0_eq]
  unfold backW
  by_cases hc : lenAt l x.s ≤ b
  · have hw : IntKind.i64.wrap (b - lenAt l x.s) = b - lenAt l x.s := wrap64 (by omega) (by omega)
   have ih' := ih (b - lenAt l x.s) (by omega) (by omega) (by omega)
   rw [if_pos hc]
   simp only [r18_Split_B0, r18_Split_K0_a, hia, hsl, r05_Len_call, hL, ge_iff_le, hc, hw, hX, ih', zy, simprocAttr]
  · rw [if_neg hc]
   simp only [r18_Split_B0, r18_Split_K0_a, hia, r05_Len_call, hL, ge_iff_le, hc, hX, zy, simprocAttr]

set_option maxHeartbeats 4000000 in
theorem rsplit_F (l : Lay) (hl : Lens l) (w : List Vh) (hm : w.length ≤ 1000) (hs : ∀ v ∈ w, Sound l v ∧ Front l v) (id other behind : Int) (H : Heap) :
  r18_Split_F false H [.agg (layC l), sl fVh w, .int .i64 id, .int .i64 other, .int .i64 behind] = match findW w id with
   | none => some (.tup [sl fVh w, .int .i64 7], H)
   | some i => match w[i]? with
    | none => none
    | some v => if (findW w other).isSome ∨ 6 ≤ w.length then some (.tup [sl fVh w, .int .i64 8], H) else if behind < 1 ∨ v.length ≤ behind then some (.tup [sl fVh w, .int .i64 1], H) else
      some (.tup [sl fVh (w.set i (splitV l v other behind).1 ++ [(splitV l v other behind).2]), .int .i64 0], H) := by
 have hf := fun st H => rfind_F w (by unfold Zc.small; omega) id st H
 have hfo := fun st H => rfind_F w (by unfold Zc.small; omega) other st H
 cases h : findW w id with
 | none =>
  simp only [h, ixC] at hf
  rw [r18_Split_F_eq]
  simp only [r18_Split_C, r18_find_call, hf, zy, simprocAttr]
 | some i =>
  simp only [h, ixC] at hf
  obtain ⟨hi, _⟩ := findW_some h
  have h0 : ¬ ((i : Int) < 0) := by omega
  simp only [List.getElem?_eq_getElem hi]
  rcases ixC_neg (findW w other) with ⟨j, ho, hx⟩ | ⟨ho, hx⟩
  · have hj : (0 : Int) ≤ j := by omega
   simp only [ho, ixC] at hfo
   rw [if_pos (.inl (by rw [ho]; rfl))]
   rw [r18_Split_F_eq]
   simp only [r18_Split_C, r18_find_call, hf, hfo, h0, hj, ge_iff_le, zy, simprocAttr]
  · have hj : ¬ (0 : Int) ≤ -1 := by omega
   simp only [ho, ixC] at hfo
   by_cases h6 : 6 ≤ w.length
   · have h6' : (6 : Int) ≤ w.length := by omega
    rw [if_pos (.inr h6)]
    rw [r18_Split_F_eq]
    simp only [r18_Split_C, r18_find_call, hf, hfo, h0, hj, h6', ge_iff_le, zy, simprocAttr]
   · have h6' : ¬ (6 : Int) ≤ w.length := by omega
    rw [if_neg (by rw [ho]; simp [h6])]
    have hia := iaddr_atVh (k := .i64) hi
    by_cases hb1 : behind < 1
    · rw [if_pos (.inl hb1)]
     rw [r18_Split_F_eq]
     simp only [r18_Split_C, r18_find_call, hf, hfo, h0, hj, h6', hb1, ge_iff_le, zy, simprocAttr]
    · by_cases hb2 : w[i].length ≤ behind
     · rw [if_pos (.inr hb2)]
      rw [r18_Split_F_eq]
      simp only [r18_Split_C, r18_find_call, hf, hfo, h0, hj, h6', hb1, hb2, hia, ge_iff_le, zy, simprocAttr]
     · rw [if_neg (by simp [hb1, hb2])]
      obtain ⟨hS, hF⟩ := hs _ (List.getElem_mem hi)
      have hfit := hS.fits hl
      have ha1 := hfit.ahead; have ha2 := hfit.length
      obtain ⟨f1, f2⟩ := hS.few hl
      have hroom := hS.room
      have w1 : IntKind.i64.wrap (w[i].length - behind) = w[i].length - behind := wrap64 (by omega) (by omega)
      have w2 : IntKind.i64.wrap (w[i].ahead + (w[i].length - behind)) = w[i].ahead + w[i].length - behind := by rw [wrap64 (by omega) (by omega)]; omega
      have e := rsplit_loop l hl w i [.int .i64 w[i].id, .int .i64 (w[i].length - behind), .int .i64 w[i].ahead, sl fE w[i].way] rfl other behind w[i].way (w[i].ahead + w[i].length - behind) (by omega) (by omega) (by omega)
      have hS' : Sound l { w[i] with length := w[i].length - behind } := ⟨by simp only; omega, hS.ahead, by simp only; omega, hS.once, hS.there, hS.link⟩
      have hU := fun st H => runder_F l hl { w[i] with length := w[i].length - behind } (hS'.fits hl) st H
      have hule := underN_le l (w[i].ahead + (w[i].length - behind)) w[i].way
      have hslc := slc_hi flatE w[i].way (underN l (w[i].ahead + (w[i].length - behind)) w[i].way) hule .i64
      obtain ⟨v1, bl1, g1, g2, g3, g4, g5⟩ := (Own.nil fVh 4 []).appSl flatVh (bytes := 48) (zero := [.int .i64 0, .int .i64 0, .int .i64 0, .nils]) (by omega) rfl rfl w (by simp; omega)
      simp only [List.nil_append] at g2
      obtain ⟨m, m1, cs, m2, m3, bl2, m4, m5, m6, m7⟩ := g2.set flatVh hi (splitV l w[i] other behind).1 (.agg (fVh (splitV l w[i] other behind).1)) rfl
      obtain ⟨v2, bl3, n1, n2, n3, n4, n5⟩ := m5.app1 flatVh (bytes := 48) (zero := [.int .i64 0, .int .i64 0, .int .i64 0, .nils]) (by omega) rfl rfl (splitV l w[i] other behind).2 (by simp; omega)
      have hsn := fun bx => n2.snapV flatVh bx false (snapN ⟨bx, bl3⟩ false false 7) (fun x c hc => by
       simp only [fVh, List.mem_cons, List.not_mem_nil, or_false] at hc
       rcases hc with rfl | rfl | rfl | rfl <;> rfl)
      have m1' := m1 .i64
      have hch := g2.chkV; have hch2 := m5.chkV; have hch3 := n2.chkV
      have hl1 := g2.locv; have hl2 := n2.locv
      simp only [fVh, splitV, underW] at hU n1 m4 hsn ⊢
      rw [r18_Split_F_eq]
      simp only [r18_Split_C, r18_find_call, hf, hfo, h0, hj, h6', hb1, hb2, hia, ge_iff_le, w1, w2, r18_Split_L0_eq, e, r18_under_call, hU, hslc, g1, m1', m2, m4, n1, hsn, hl1, hl2, hch, hch2, hch3, zy, simprocAttr]
end Go.Proofs.Ytfblegjbmhgepaa.Zt
end
section
namespace Go.Proofs.Ytfblegjbmhgepaa.Zt
open Go Go.Zc
set_option maxRecDepth 10000

def carTrail (l : Lay) (c : Car) : List Int := walk l (c.sec % l.secs.length) (1 - c.end' % 2) c.turns ((1 + c.long % 4).toNat : Nat)
def carAhead (l : Lay) (c : Car) : Int := c.ahead % lenAt l (c.sec % l.secs.length)
def carLen (l : Lay) (c : Car) : Int := 1 + c.length * (sumL l (carTrail l c) - carAhead l c - 1) / 256
def carsW (l : Lay) : Nat → List Car → List Vh → List Vh
 | _, [], w => w
 | i, c :: r, w => if 6 ≤ i then w else carsW l (i + 1) r (addV l w i (carLen l c) (carAhead l c) (c.end' % 2) (carTrail l c)).1
def begin (s : Story) : Pl := ⟨full s.d, carsW (full s.d) 0 s.cars [], fun _ => false, fun _ => -1, List.replicate (full s.d).pts.length false⟩

theorem full_Lens (d : Draft) : Lens (full d) := by
 have hg := full_good d (full_ok d)
 have hz : ∀ s, lenAt (full d) s = 0 ∨ (1 ≤ lenAt (full d) s ∧ lenAt (full d) s ≤ 1000) := by
  intro s
  by_cases h : lenAt (full d) s = 0
  · exact .inl h
  · obtain ⟨h0, h1⟩ := lenAt_in h
   exact .inr (hg.lenAt h0 h1)
 refine ⟨hg.ok, hg.pos, ?_, fun s => ?_, fun s => ?_, fun s h0 h1 => (hg.lenAt h0 h1).1, full_back d, full_apart d⟩
 · rw [full_secs_len]
  unfold mkEnds
  split
  · simp only [List.length_map, List.length_range, mkN]; omega
  · split
   · simp
   · split <;> simp
 · have := hz s; omega
 · have := hz s; omega

def upN : Nat → Nat → Pl → Pl
 | 0, _, p => p
 | n + 1, k, p => upN n (k + 1) (p.setUp k (-1))
theorem begin_loop0 (wv : CV) (B : List Blk) (a : Nat) (ha : a < B.length) (X : List CV) (hX : CV.locs X = false) : ∀ (n k : Nat) (p : Pl), k + n = 6 →
  r18_Begin_R0 ([(1, .op (.loc 1) 0), (3, .op (.blk a) 0), (4, .int .i64 k)], ⟨[(1, X)], B.set a (.cells (playR p wv .nils .nils))⟩) =
   some (.norm, [(1, .op (.loc 1) 0), (3, .op (.blk a) 0)], ⟨[(1, X)], B.set a (.cells (playR (upN n k p) wv .nils .nils))⟩)
 | 0, k, p, hk => by
  have h1 : ¬ ((k : Int) < 6) := by omega
  rw [r18_Begin_R0_eq]
  simp only [r18_Begin_B0, r18_Begin_K0_a, h1, hX, upN, zy, simprocAttr]
 | n + 1, k, p, hk => by
  have h1 : ((k : Int) < 6) := by omega
  have h2 : ((0 : Int) ≤ k) := by omega
  have hw := wrapN (n := k) (by unfold Zc.small; omega)
  have ih := begin_loop0 wv B a ha X hX n (k + 1) (p.setUp k (-1)) (by omega)
  have hg := fun bx => get_set bx B a (playR p wv .nils .nils) ha
  have hst := fun bx => st_play bx B a p (p.setUp k (-1)) wv wv .nils .nils (17 + k) (.int .i64 (-1)) (by omega) rfl rfl rfl (play_setUp p wv .nils .nils (by omega) (-1))
  have hn : nchkC (.op (.blk a) 0) = some (.op (.blk a) 0) := rfl
  rw [r18_Begin_R0_eq]
  unfold upN
  simp only [r18_Begin_B0, r18_Begin_K0_a, h1, h2, hw, hX, hn, hg, hst, ih, Int.toNat_natCast, Nat.mul_one, zy, simprocAttr]

theorem begin_loop4 (wv : CV) (l : Lay) (hl : Lens l) (X Y : List CV) (hX : CV.locs X = false) (hY : CV.locs Y = false) (B : List Blk) (a : Nat) (ha : a < B.length) (p : Pl) (hp : p.l = l) (i : Nat) (dir : Int) (trail : List Int) (ht : trail.length ≤ 1000) : ∀ (S P : List Int) (r : Int), trail = P ++ S → 0 ≤ r → r ≤ 1000 * P.length →
  r18_Begin_R4 ([(1, .op (.loc 1) 0), (3, .op (.blk a) 0), (5, .int .i64 i), (6, .op (.loc 6) 0), (8, .int .i64 dir), (9, sl fI trail), (10, .int .i64 r), (11, .int .i64 P.length)], ⟨[(1, X), (6, Y)], B.set a (.cells (playR p wv .nils .nils))⟩) =
   some (.norm, [(1, .op (.loc 1) 0), (3, .op (.blk a) 0), (5, .int .i64 i), (6, .op (.loc 6) 0), (8, .int .i64 dir), (9, sl fI trail), (10, .int .i64 (r + sumL l S))], ⟨[(1, X), (6, Y)], B.set a (.cells (playR p wv .nils .nils))⟩) := by
 intro S
 induction S with
 | nil =>
  intro P r hP _ _
  have h1 : ¬ ((P.length : Int) < trail.length) := by rw [hP]; simp
  rw [r18_Begin_R4_eq]
  simp only [r18_Begin_B4, r18_Begin_K4_a, h1, hX, hY, sumL, Int.add_zero, zy, simprocAttr]
 | cons x S ih =>
  intro P r hP hr hr2
  have hpl : P.length + 1 ≤ 1000 := by rw [hP] at ht; simp at ht; omega
  have h1 : ((P.length : Int) < trail.length) := by rw [hP]; simp; omega
  have hw := wrapN (n := P.length) (by unfold Zc.small; omega)
  have hia := iaddr_midI .i64 P S x
  rw [← hP] at hia
  have hlo := hl.lo x
  have hhi := hl.hi x
  have hw2 : IntKind.i64.wrap (r + lenAt l x) = r + lenAt l x := wrap64 (by omega) (by omega)
  have hF := fun st H => len_F l x st H
  have ih' := ih (P ++ [x]) (r + lenAt l x) (by rw [hP]; simp) (by omega) (by simp; omega)
  rw [show (P ++ [x]).length = P.length + 1 by simp] at ih'
  have hg := fun bx => get_set bx B a (playR p wv .nils .nils) ha
  have hpl2 := play_l p wv .nils .nils
  rw [hp] at hpl2
  have hn : nchkC (.op (.blk a) 0) = some (.op (.blk a) 0) := rfl
  rw [r18_Begin_R4_eq]
  simp only [r18_Begin_B4, r18_Begin_K4_a, h1, hia, hw, hw2, hn, hg, hpl2, hX, hY, r05_Len_call, hF, ih', sumL, Int.add_assoc, zy, simprocAttr]
end Go.Proofs.Ytfblegjbmhgepaa.Zt
end
section
namespace Go.Proofs.Ytfblegjbmhgepaa.Zt
open Go Go.Zc
set_option maxRecDepth 10000

theorem sumL_nn {l : Lay} (hl : Lens l) : ∀ r : List Int, 0 ≤ sumL l r
 | [] => by simp [sumL]
 | s :: r => by
  have := sumL_nn hl r
  have := hl.lo s
  simp only [sumL]
  omega
structure CarIs (l : Lay) (c : Car) : Prop where
 at0 : 0 ≤ c.sec % l.secs.length
 at1 : c.sec % l.secs.length < l.secs.length
 len : 1 ≤ lenAt l (c.sec % l.secs.length) ∧ lenAt l (c.sec % l.secs.length) ≤ 1000
 trail : ∃ t, carTrail l c = (c.sec % l.secs.length) :: t
 few : (carTrail l c).length ≤ 5
 ahead : 0 ≤ carAhead l c ∧ carAhead l c < lenAt l (c.sec % l.secs.length)
 room : lenAt l (c.sec % l.secs.length) ≤ sumL l (carTrail l c) ∧ sumL l (carTrail l c) ≤ 5000
 length : 1 ≤ carLen l c ∧ carLen l c ≤ 6000
theorem car_is {l : Lay} (hl : Lens l) {c : Car} (hc : c.ok) : CarIs l c := by
 have hp := hl.pos
 have h0 : 0 ≤ c.sec % l.secs.length := Int.emod_nonneg _ (by omega)
 have h1 : c.sec % l.secs.length < l.secs.length := Int.emod_lt_of_pos _ (by omega)
 have h2 := hl.one _ h0 h1
 have h3 := hl.hi (c.sec % l.secs.length)
 have h4 : 0 ≤ carAhead l c := Int.emod_nonneg _ (by omega)
 have h5 : carAhead l c < lenAt l (c.sec % l.secs.length) := Int.emod_lt_of_pos _ (by omega)
 obtain ⟨t, ht⟩ := walk_head l (c.sec % l.secs.length) (1 - c.end' % 2) c.turns ((1 + c.long % 4).toNat : Nat)
 have ht' : carTrail l c = (c.sec % l.secs.length) :: t := ht
 have h6 : (carTrail l c).length ≤ 5 := by
  have := walk_len l (c.sec % l.secs.length) (1 - c.end' % 2) c.turns (1 + c.long % 4).toNat
  have hlo := hc.long
  unfold carTrail; omega
 have h7 := sumL_le hl (carTrail l c)
 have h8 : lenAt l (c.sec % l.secs.length) ≤ sumL l (carTrail l c) := by
  rw [ht']
  have := sumL_nn hl t
  simp only [sumL]; omega
 have hle := hc.length
 have h9 : 0 ≤ c.length * (sumL l (carTrail l c) - carAhead l c - 1) := Int.mul_nonneg hle.1 (by omega)
 have h10 : c.length * (sumL l (carTrail l c) - carAhead l c - 1) ≤ 255 * 5000 := by
  refine Int.le_trans (Int.mul_le_mul_of_nonneg_right hle.2 (by omega)) ?_
  omega
 refine ⟨h0, h1, ⟨h2, h3⟩, ⟨t, ht'⟩, h6, ⟨h4, h5⟩, ⟨h8, by omega⟩, ?_, ?_⟩
 · unfold carLen; omega
 · unfold carLen; omega
theorem addV_len (l : Lay) (w : List Vh) (id length ahead dir : Int) (trail : List Int) (h : w.length ≤ 6) : (addV l w id length ahead dir trail).1.length ≤ 6 := by
 unfold addV
 split
 · exact h
 · rename_i h1
  split
  · simp only [List.length_append, List.length_cons, List.length_nil]; omega
  · exact h

set_option maxHeartbeats 4000000 in
theorem begin_loop2 (s : Story) (hs : s.ok) (l : Lay) (hl : Lens l) (B : List Blk) (a : Nat) (ha : a < B.length) : ∀ (S P : List Car) (p : Pl) (wv : CV), s.cars = P ++ S → p.l = l → p.w.length ≤ 6 → Fz fVh wv p.w →
  ∃ wv',     r18_Begin_R2 ([(1, .op (.loc 1) 0), (3, .op (.blk a) 0), (5, .int .i64 P.length)], ⟨[(1, storyC s)], B.set a (.cells (playR p wv .nils .nils))⟩) =
   some (.norm, [(3, .op (.blk a) 0)], ⟨[], B.set a (.cells (playR { p with w := carsW l P.length S p.w } wv' .nils .nils))⟩) ∧ Fz fVh wv' (carsW l P.length S p.w) := by
 intro S
 have hsl : CV.locs (storyC s) = false := rfl
 induction S with
 | nil =>
  intro P p wv hP hpl hpw hwv
  have h1 : ¬ ((P.length : Int) < s.cars.length) := by rw [hP]; simp
  refine ⟨wv, ?_, hwv⟩
  rw [r18_Begin_R2_eq]
  simp only [r18_Begin_B2, r18_Begin_K2_a, h1, carsW, zy, simprocAttr]
 | cons c S ih =>
  intro P p wv hP hpl hpw hwv
  have h1 : ((P.length : Int) < s.cars.length) := by rw [hP]; simp; omega
  unfold carsW
  by_cases h6 : 6 ≤ P.length
  · have h6' : ¬ ((P.length : Int) < 6) := by omega
   rw [if_pos h6]
   refine ⟨wv, ?_, hwv⟩
   rw [r18_Begin_R2_eq]
   simp only [r18_Begin_B2, r18_Begin_K2_a, h1, h6', zy, simprocAttr]
  · have h6' : ((P.length : Int) < 6) := by omega
   rw [if_neg h6]
   have hcm : c ∈ s.cars := by rw [hP]; simp
   have hc := hs.car c hcm
   have ci := car_is hl hc
   have q1 := hc.sec; have q2 := hc.end'; have q3 := hc.length; have q4 := hc.ahead; have q5 := hc.long
   have hw := wrapN (n := P.length) (by unfold Zc.small; omega)
   have hia := iaddr_midCar .i64 P S c
   rw [← hP] at hia
   have hsn := hl.pos
   have hfw := hl.few
   obtain ⟨t, ht⟩ := ci.trail
   have e1 := ci.ahead; have e2 := ci.room; have e3 := ci.length; have e4 := ci.len
   have k1 : IntKind.i64.wrap c.sec = c.sec := wrap64 (by omega) (by omega)
   have k2 : c.sec.tmod (l.secs.length : Int) = c.sec % (l.secs.length : Int) := Int.tmod_eq_emod_of_nonneg q1.1
   have k3 : ¬ ((l.secs.length : Int) = 0) := by omega
   have k4 : c.end'.tmod 2 = c.end' % 2 := Int.tmod_eq_emod_of_nonneg q2.1
   have k5 : IntKind.i64.wrap (c.end' % 2) = c.end' % 2 := wrap64 (by omega) (by omega)
   have k6 : IntKind.i64.wrap (1 - c.end' % 2) = 1 - c.end' % 2 := wrap64 (by omega) (by omega)
   have k7 : c.long.tmod 4 = c.long % 4 := Int.tmod_eq_emod_of_nonneg q5.1
   have k8 : IntKind.i64.wrap (c.long % 4) = c.long % 4 := wrap64 (by omega) (by omega)
   have k9 : IntKind.i64.wrap (1 + c.long % 4) = ((1 + c.long % 4).toNat : Nat) := by rw [wrap64 (by omega) (by omega)]; omega
   have k10 : IntKind.i64.wrap c.ahead = c.ahead := wrap64 (by omega) (by omega)
   have k11 : c.ahead.tmod (lenAt l (c.sec % l.secs.length)) = carAhead l c := Int.tmod_eq_emod_of_nonneg q4.1
   have k12 : ¬ (lenAt l (c.sec % l.secs.length) = 0) := by omega
   have k13 : IntKind.i64.wrap c.length = c.length := wrap64 (by omega) (by omega)
   have k14 : IntKind.i64.wrap (sumL l (carTrail l c) - carAhead l c) = sumL l (carTrail l c) - carAhead l c := wrap64 (by omega) (by omega)
   have k15 : IntKind.i64.wrap (sumL l (carTrail l c) - carAhead l c - 1) = sumL l (carTrail l c) - carAhead l c - 1 := wrap64 (by omega) (by omega)
   have hmul0 : 0 ≤ c.length * (sumL l (carTrail l c) - carAhead l c - 1) := Int.mul_nonneg q3.1 (by omega)
   have hmul1 : c.length * (sumL l (carTrail l c) - carAhead l c - 1) ≤ 255 * 5000 := by
    refine Int.le_trans (Int.mul_le_mul_of_nonneg_right q3.2 (by omega)) ?_
    omega
   have k16 : IntKind.i64.wrap (c.length * (sumL l (carTrail l c) - carAhead l c - 1)) = c.length * (sumL l (carTrail l c) - carAhead l c - 1) := wrap64 (by omega) (by omega)
   have k17 : IntKind.i64.wrap ((c.length * (sumL l (carTrail l c) - carAhead l c - 1)).tdiv 256) = c.length * (sumL l (carTrail l c) - carAhead l c - 1) / 256 := by
    rw [Int.tdiv_eq_ediv_of_nonneg hmul0, wrap64 (by omega) (by omega)]
   have k18 : IntKind.i64.wrap (1 + c.length * (sumL l (carTrail l c) - carAhead l c - 1) / 256) = carLen l c := wrap64 (by omega) (by omega)
   have hW : ∀ st H, r05_Walk_F st H [.agg (layC l), .int .i64 (c.sec % l.secs.length), .int .i64 (1 - c.end' % 2), sl fU c.turns, .int .i64 ((1 + c.long % 4).toNat : Nat)] = some (sl fI (carTrail l c), H) :=
    fun st H => walk_F l hl.ok (c.sec % l.secs.length) (1 - c.end' % 2) c.turns hc.turn (1 + c.long % 4).toNat (by unfold Zc.small; omega) H st
   have hi0 : iaddrC 1 (sl fI (carTrail l c)) (.int .i64 0) = some (.vp (.int .i64 (c.sec % l.secs.length) :: t.flatMap fI)) := by
    rw [ht]; exact iaddr_midI .i64 [] t _
   have hL := fun st H => len_F l (c.sec % l.secs.length) st H
   have h4 := begin_loop4 wv l hl (storyC s) (fCar c) rfl rfl B a ha p hpl P.length (c.end' % 2) (carTrail l c) (by have := ci.few; omega) (carTrail l c) [] 0 rfl (by omega) (by simp)
   simp only [List.length_nil, Int.natCast_zero, Int.zero_add] at h4
   have hA := fun H => radd_F l hl p.w (by omega) P.length (carLen l c) (carAhead l c) (c.end' % 2) (carTrail l c) (by have := ci.few; unfold Zc.small; omega) (by omega) H
   have hg := fun bx => get_set bx B a (playR p wv .nils .nils) ha
   have g1 := play_l p wv .nils .nils
   have g2 := play_w p wv .nils .nils
   have g3 := play_secs p wv .nils .nils
   rw [hpl] at g1 g3
   have hst := fun bx => st_play bx B a p { p with w := (addV l p.w P.length (carLen l c) (carAhead l c) (c.end' % 2) (carTrail l c)).1 } wv (sl fVh (addV l p.w P.length (carLen l c) (carAhead l c) (c.end' % 2) (carTrail l c)).1) .nils .nils 10 (sl fVh (addV l p.w P.length (carLen l c) (carAhead l c) (c.end' % 2) (carTrail l c)).1) (by omega) rfl rfl rfl (play_setW p wv .nils .nils _)
   obtain ⟨wv', ih', hwv'⟩ := ih (P ++ [c]) { p with w := (addV l p.w P.length (carLen l c) (carAhead l c) (c.end' % 2) (carTrail l c)).1 } (sl fVh (addV l p.w P.length (carLen l c) (carAhead l c) (c.end' % 2) (carTrail l c)).1) (by rw [hP]; simp) hpl (addV_len _ _ _ _ _ _ _ hpw) (.inl rfl)
   rw [show (P ++ [c]).length = P.length + 1 by simp] at ih' hwv'
   refine ⟨wv', ?_, hwv'⟩
   have hsW := hwv.snapV
   have hlW := hwv.locv
   have hrW := hwv.ref
   have hn : nchkC (.op (.blk a) 0) = some (.op (.blk a) 0) := rfl
   rw [r18_Begin_R2_eq]
   simp only [r18_Begin_B2, r18_Begin_K2_a, h1, h6', hia, hn, hg, g1, g2, g3, k1, k2, k3, k4, k5, k6, k7, k8, k9, k10, k11, k12, k13, k14, k15, k16, k17, k18, r05_Walk_call, hW, hi0, r05_Len_call, hL, r18_Begin_L4_eq, h4, r18_Add_call, hA, hsW, hlW, hrW, hst, hw, ih', hsl, zy, simprocAttr]

set_option maxHeartbeats 2000000 in
theorem begin_F (s : Story) (hs : s.ok) (bl : List Blk) :
  ∃ wv, Fz fVh wv (begin s).w ∧ ∀ bx, r18_Begin_F bx bl [.agg (storyC s)] = some (.op (.blk bl.length) 0, ⟨bx, bl ++ [.cells (playC (begin s) wv .nils)]⟩) := by
 have hl := full_Lens s.d
 have hF := fun H => full_F s.d hs.d H
 have h0 := begin_loop0 .nils (bl ++ [Blk.dead]) bl.length (by simp) (storyC s) rfl 6 0 ⟨full s.d, [], fun _ => false, fun _ => 0, []⟩ rfl
 have hup : playR (upN 6 0 ⟨full s.d, [], fun _ => false, fun _ => 0, []⟩) .nils .nils .nils = playR ⟨full s.d, [], fun _ => false, fun _ => -1, []⟩ .nils .nils .nils := rfl
 obtain ⟨wv, h2, hwv⟩ := begin_loop2 s hs (full s.d) hl (bl ++ [Blk.dead]) bl.length (by simp) s.cars [] ⟨full s.d, [], fun _ => false, fun _ => -1, []⟩ .nils rfl rfl (by simp) (.inr ⟨rfl, rfl⟩)
 simp only [List.length_nil, Int.natCast_zero] at h0 h2 hwv
 refine ⟨wv, hwv, fun bx => ?_⟩
 rw [hup] at h0
 have hg := fun bx => get_set bx (bl ++ [Blk.dead]) bl.length (playR ⟨full s.d, carsW (full s.d) 0 s.cars [], fun _ => false, fun _ => -1, []⟩ wv .nils .nils) (by simp)
 have hpts := play_pts ⟨full s.d, carsW (full s.d) 0 s.cars [], fun _ => false, fun _ => -1, []⟩ wv .nils .nils
 have hn : nchkC (.op (.blk bl.length) 0) = some (.op (.blk bl.length) 0) := rfl
 have hset : ∀ X : List CV, (bl ++ [Blk.dead]).set bl.length (.cells X) = bl ++ [.cells X] := by intro X; simp
 have hst : ∀ bx, stE 1 24 (sl fB (List.replicate (full s.d).pts.length false)) ⟨bx, (bl ++ [Blk.dead]).set bl.length (.cells (playR ⟨full s.d, carsW (full s.d) 0 s.cars [], fun _ => false, fun _ => -1, []⟩ wv .nils .nils))⟩ (.blk bl.length) (playR ⟨full s.d, carsW (full s.d) 0 s.cars [], fun _ => false, fun _ => -1, []⟩ wv .nils .nils) = some ⟨bx, bl ++ [.cells (playC (begin s) wv .nils)]⟩ := by
  intro bx
  rw [st_cell bx _ bl.length 24 (sl fB (List.replicate (full s.d).pts.length false)) (playR ⟨full s.d, carsW (full s.d) 0 s.cars [], fun _ => false, fun _ => -1, []⟩ wv .nils .nils) rfl rfl rfl (by rw [play_len]; omega), List.set_set, hset]
  rfl
 have hp2 : (full s.d).pts.length ≤ 2 := by
  rw [make_pts]
  unfold mkPts
  split
  · simp
  · split
   · simp
   · split <;> simp
 have hrep : CV.vs (repC [.bool false] (full s.d).pts.length) (full s.d).pts.length = sl fB (List.replicate (full s.d).pts.length false) := by
  rw [show ([.bool false] : List CV) = fB false from rfl, repC_eq]
  simp [sl]
 have c1 : (0 : Int) ≤ (full s.d).pts.length := by omega
 have c2 : ((full s.d).pts.length : Int) * 1 ≤ 140737488355328 := by omega
 have c3 : ((full s.d).pts.length : Int) ≤ 140737488355328 := by omega
 have hb0 : bl ++ [Blk.cells [sl fZ (full s.d).nodes, sl fS (full s.d).secs, sl fL (full s.d).parts, sl fP (full s.d).pts, sl fL (full s.d).routes, .int .i64 (full s.d).speed, .int .i64 (full s.d).mute, .int .i64 (full s.d).wait, .int .i64 (full s.d).cancel, .int .i64 (full s.d).stay, .nils,
   .bool false, .bool false, .bool false, .bool false, .bool false, .bool false, .int .i64 0, .int .i64 0, .int .i64 0, .int .i64 0, .int .i64 0, .int .i64 0, .nils, .nils]] = (bl ++ [Blk.dead]).set bl.length (.cells (playR ⟨full s.d, [], fun _ => false, fun _ => 0, []⟩ .nils .nils .nils)) := by
  rw [hset]; rfl
 rw [r18_Begin_F_eq]
 simp only [r18_Begin_C, r05_Full_call, hF, hb0, r18_Begin_L0_eq, h0, r18_Begin_L2_eq, h2, hn, hg, hpts, hrep, c1, c2, c3, hst, Int.toNat_natCast, zy, simprocAttr]
end Go.Proofs.Ytfblegjbmhgepaa.Zt
end
