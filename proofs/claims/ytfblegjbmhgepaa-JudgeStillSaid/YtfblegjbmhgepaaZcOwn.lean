/- Slices that a function is making: what lies behind one, what an append leaves, how it is handed out. No condition. -/
import Derived.Test.YtfblegjbmhgepaaZcSym
set_option linter.all false
namespace Go.Zc

theorem chkV_of {v : CV} (h : v.locv = false) (l : List Nat) : chkV l v = true := by
  unfold chkV
  split
  · simp [CV.locv, Id.loc?] at h
  · rw [h]; rfl

/-- A slice that is being made: none yet, or all of its block. -/
def Own {α : Type} (f : α → List CV) (sz : Nat) (bl : List Blk) (v : CV) (l : List α) : Prop :=
  (v = .nils ∧ l = []) ∨ ∃ m, v = .os sz (.blk m) 0 l.length ∧ bl[m]? = some (.cells (l.flatMap f))

/-- A kind of cells: how many, all of them scalar. -/
structure Flat {α : Type} (f : α → List CV) (sz : Nat) : Prop where
  len : ∀ x, (f x).length = sz
  pos : 0 < sz
  one : ∀ x, ones (f x) = true
  loc : ∀ x, CV.locs (f x) = false
  ref : ∀ x, CV.refs (f x) = false

section
variable {α : Type} {f : α → List CV} {sz : Nat} {bl : List Blk} {v : CV} {l : List α}

theorem ones_append (a b : List CV) : ones (a ++ b) = (ones a && ones b) := by simp [ones, List.all_append]
theorem locs_append : ∀ (a b : List CV), CV.locs (a ++ b) = (CV.locs a || CV.locs b)
  | [], b => by simp [CV.locs]
  | c :: a, b => by simp [CV.locs, locs_append a b, Bool.or_assoc]
theorem refs_append : ∀ (a b : List CV), CV.refs (a ++ b) = (CV.refs a || CV.refs b)
  | [], b => by simp [CV.refs]
  | c :: a, b => by simp [CV.refs, refs_append a b, Bool.or_assoc]

theorem Flat.ones (h : Flat f sz) : ∀ l : List α, Zc.ones (l.flatMap f) = true
  | [] => rfl
  | a :: l => by simp only [List.flatMap_cons, ones_append, h.one, h.ones l, Bool.and_true]
theorem Flat.locs (h : Flat f sz) : ∀ l : List α, CV.locs (l.flatMap f) = false
  | [] => rfl
  | a :: l => by simp only [List.flatMap_cons, locs_append, h.loc, h.locs l, Bool.or_false]
theorem Flat.refs (h : Flat f sz) : ∀ l : List α, CV.refs (l.flatMap f) = false
  | [] => rfl
  | a :: l => by simp only [List.flatMap_cons, refs_append, h.ref, h.refs l, Bool.or_false]
theorem Flat.length (h : Flat f sz) (l : List α) : (l.flatMap f).length = l.length * sz := flatMap_len h.len l

theorem Own.nil (f : α → List CV) (sz : Nat) (bl : List Blk) : Own f sz bl .nils [] := .inl ⟨rfl, rfl⟩

theorem Own.len (h : Own f sz bl v l) : lenC v = some (.int .i64 l.length) := by
  rcases h with ⟨rfl, rfl⟩ | ⟨m, rfl, _⟩ <;> rfl
theorem Own.lenOf (h : Own f sz bl v l) : lenOf v = l.length := by
  rcases h with ⟨rfl, rfl⟩ | ⟨m, rfl, _⟩ <;> rfl
theorem Own.isSl (h : Own f sz bl v l) : isSl v = true := by
  rcases h with ⟨rfl, rfl⟩ | ⟨m, rfl, _⟩ <;> rfl
theorem Own.chkV (h : Own f sz bl v l) (s : List Nat) : chkV s v = true := by
  rcases h with ⟨rfl, rfl⟩ | ⟨m, rfl, _⟩ <;> rfl
theorem Own.locv (h : Own f sz bl v l) : v.locv = false := by
  rcases h with ⟨rfl, rfl⟩ | ⟨m, rfl, _⟩ <;> rfl
theorem Own.und (h : Own f sz bl v l) : v.und? = false := by
  rcases h with ⟨rfl, rfl⟩ | ⟨m, rfl, _⟩ <;> rfl
theorem Own.one (h : Own f sz bl v l) : v.one = true := by
  rcases h with ⟨rfl, rfl⟩ | ⟨m, rfl, _⟩ <;> rfl
theorem Own.cells (h : Own f sz bl v l) : v.cells = [v] := by
  rcases h with ⟨rfl, rfl⟩ | ⟨m, rfl, _⟩ <;> rfl

/-- Which block a slice lies in. -/
def blkOf : CV → Option Nat
  | .os _ (.blk m) _ _ => some m
  | _ => none
theorem blkOf_os (z m o n : Nat) : blkOf (.os z (.blk m) o n) = some m := rfl
theorem blkOf_nils : blkOf .nils = none := rfl
theorem Own.lt (h : Own f sz bl v l) {k : Nat} (hk : blkOf v = some k) : k < bl.length := by
  rcases h with ⟨rfl, rfl⟩ | ⟨m, rfl, h2⟩
  · cases hk
  · cases hk; exact (List.getElem?_eq_some_iff.1 h2).1

/-- Two slices that lie apart. -/
def Dj (v w : CV) : Prop := ∀ k, blkOf v = some k → blkOf w ≠ some k
theorem Dj.symm {v w : CV} (h : Dj v w) : Dj w v := fun k h1 h2 => h k h2 h1
theorem Dj.nils (w : CV) : Dj .nils w := fun k h => by cases h

/-- What an append leaves of other blocks. -/
def Fr (bl bl' : List Blk) (v : CV) : Prop := ∀ (k : Nat) (b : Blk), bl[k]? = some b → blkOf v ≠ some k → bl'[k]? = some b
theorem Own.fr {β : Type} {g : β → List CV} {sz' : Nat} {w : CV} {r : List β} {bl' : List Blk} (h : Own g sz' bl w r) (hf : Fr bl bl' v) (hd : Dj v w) : Own g sz' bl' w r := by
  rcases h with h | ⟨m, rfl, h2⟩
  · exact .inl h
  · exact .inr ⟨m, rfl, hf m _ h2 (fun hk => hd m hk rfl)⟩
theorem Dj.grow {v' w : CV} (hd : Dj v w) (hb : blkOf v' = blkOf v ∨ blkOf v' = some bl.length) (hl : ∀ k, blkOf w = some k → k < bl.length) : Dj v' w := by
  intro k h1 h2
  rcases hb with hb | hb
  · exact hd k (hb ▸ h1) h2
  · rw [hb] at h1; cases h1; exact Nat.lt_irrefl _ (hl _ h2)

/-- Blocks that were there are there still, but for one. -/
theorem Own.keep {bl' : List Blk} (h : Own f sz bl v l) (hk : ∀ (m : Nat) (b : Blk), bl[m]? = some b → bl'[m]? = some b) : Own f sz bl' v l := by
  rcases h with h | ⟨m, h1, h2⟩
  · exact .inl h
  · exact .inr ⟨m, h1, hk _ _ h2⟩

theorem Own.shown (hf : Flat f sz) (h : Own f sz bl v l) (bx : List (Nat × List CV)) : shown ⟨bx, bl⟩ sz v = some (l.flatMap f) := by
  rcases h with ⟨rfl, rfl⟩ | ⟨m, rfl, h2⟩
  · rfl
  · unfold Zc.shown
    simp only [if_true]
    rw [get_blk bx bl m _ h2]
    simp only [Option.bind_some, Nat.zero_add, hf.length, Nat.le_refl, if_true, List.drop_zero]
    rw [List.take_of_length_le (by rw [hf.length]; exact Nat.le_refl _)]

/-- An append: what it makes lies in a new block. -/
theorem Own.app (hf : Flat f sz) (h : Own f sz bl v l) {bytes : Nat} {zero : List CV} (hb : 0 < bytes) (hz : zero.length = sz) (hz1 : Zc.ones zero = true) {x : CV} {new : List α}
    (hx : ∀ bx, Zc.shown ⟨bx, bl⟩ sz x = some (new.flatMap f)) (hx1 : Zc.lenOf x = new.length) (hx2 : Zc.isSl x = true) (hm : (l.length + new.length) * bytes ≤ 140737488355328) :
    ∃ v' bl', (∀ bx, heapOp (.app sz bytes zero) [v, x] ⟨bx, bl⟩ = some (v', ⟨bx, bl'⟩)) ∧ Own f sz bl' v' (l ++ new) ∧ bl.length ≤ bl'.length ∧
      Fr bl bl' v ∧ (blkOf v' = blkOf v ∨ blkOf v' = some bl.length) := by
  by_cases h0 : new.length = 0
  · have : new = [] := List.eq_nil_of_length_eq_zero h0
    subst this
    refine ⟨v, bl, fun bx => ?_, by simpa using h, Nat.le_refl _, fun _ _ h _ => h, .inl rfl⟩
    simp only [heapOp, hx1, List.length_nil, if_true, h.isSl, hx2, Bool.and_self]
  · rcases h with ⟨rfl, rfl⟩ | ⟨m, rfl, h2⟩
    · refine ⟨.os sz (.blk bl.length) 0 new.length, bl ++ [.cells (new.flatMap f)], fun bx => ?_, ?_, by simp, fun k b hk _ => ?_, .inr rfl⟩
      · simp only [heapOp, hx1, if_neg h0, hx, Option.bind_some, hf.ones, hf.locs, hz, hz1, decide_true, hf.pos, hb, Bool.true_and, Bool.not_false, Bool.and_true, appC, push_eq]
        rw [if_pos (by simpa [Zc.lenOf] using hm)]
      · refine .inr ⟨bl.length, by simp, by simp⟩
      · rw [List.getElem?_append_left (by exact (List.getElem?_eq_some_iff.1 hk).1)]; exact hk
    · have hml : m < bl.length := (List.getElem?_eq_some_iff.1 h2).1
      refine ⟨.os sz (.blk bl.length) 0 (l.length + new.length), (bl.set m .dead) ++ [.cells (l.flatMap f ++ new.flatMap f)], fun bx => ?_, ?_, by simp, fun k b hk hne => ?_, .inr rfl⟩
      · simp only [heapOp, hx1, if_neg h0, hx, Option.bind_some, hf.ones, hf.locs, hz, hz1, decide_true, hf.pos, hb, Bool.true_and, Bool.not_false, Bool.and_true]
        rw [if_pos (decide_eq_true (show (Zc.lenOf (.os sz (.blk m) 0 l.length) + new.length) * bytes ≤ _ from hm))]
        simp only [appC, if_true, get_blk bx bl m _ h2, Option.bind_some, hf.length, Nat.le_refl, Heap.kill, Heap.push]
        rw [List.take_of_length_le (by rw [hf.length]; exact Nat.le_refl _)]
      · refine .inr ⟨bl.length, by simp, by simp⟩
      · have hkl := (List.getElem?_eq_some_iff.1 hk).1
        rw [List.getElem?_append_left (by simpa using hkl), List.getElem?_set_ne (fun h => hne (by rw [h]; rfl))]
        exact hk

/-- An append of one, as a literal tells it. -/
theorem Own.app1 (hf : Flat f sz) (h : Own f sz bl v l) {bytes : Nat} {zero : List CV} (hb : 0 < bytes) (hz : zero.length = sz) (hz1 : Zc.ones zero = true) (x : α) (hm : (l.length + 1) * bytes ≤ 140737488355328) :
    ∃ v' bl', (∀ bx, heapOp (.app sz bytes zero) [v, .vs (f x) 1] ⟨bx, bl⟩ = some (v', ⟨bx, bl'⟩)) ∧ Own f sz bl' v' (l ++ [x]) ∧ bl.length ≤ bl'.length ∧
      Fr bl bl' v ∧ (blkOf v' = blkOf v ∨ blkOf v' = some bl.length) := by
  refine h.app hf hb hz hz1 (x := .vs (f x) 1) (new := [x]) (fun bx => ?_) rfl rfl hm
  simp [Zc.shown, hf.len]

/-- An append of a frozen slice. -/
theorem Own.appSl (hf : Flat f sz) (h : Own f sz bl v l) {bytes : Nat} {zero : List CV} (hb : 0 < bytes) (hz : zero.length = sz) (hz1 : Zc.ones zero = true) (new : List α) (hm : (l.length + new.length) * bytes ≤ 140737488355328) :
    ∃ v' bl', (∀ bx, heapOp (.app sz bytes zero) [v, sl f new] ⟨bx, bl⟩ = some (v', ⟨bx, bl'⟩)) ∧ Own f sz bl' v' (l ++ new) ∧ bl.length ≤ bl'.length ∧
      Fr bl bl' v ∧ (blkOf v' = blkOf v ∨ blkOf v' = some bl.length) :=
  h.app hf hb hz hz1 (fun _ => shown_sl hf.len _ _) rfl rfl hm

/-- A slice that is made, or was made whole. -/
def OwnF {α : Type} (f : α → List CV) (sz : Nat) (bl : List Blk) (v : CV) (l : List α) : Prop := v = sl f l ∨ Own f sz bl v l
theorem OwnF.fr {β : Type} {g : β → List CV} {sz' : Nat} {w : CV} {r : List β} {bl' : List Blk} (h : OwnF g sz' bl w r) (hf : Fr bl bl' v) (hd : Dj v w) : OwnF g sz' bl' w r := by
  rcases h with h | h
  · exact .inl h
  · exact .inr (h.fr hf hd)
theorem OwnF.lt (h : OwnF f sz bl v l) {k : Nat} (hk : blkOf v = some k) : k < bl.length := by
  rcases h with rfl | h
  · cases hk
  · exact h.lt hk
theorem OwnF.locv (h : OwnF f sz bl v l) : v.locv = false := by
  rcases h with rfl | h
  · rfl
  · exact h.locv
theorem OwnF.und (h : OwnF f sz bl v l) : v.und? = false := by
  rcases h with rfl | h
  · rfl
  · exact h.und
theorem OwnF.one (h : OwnF f sz bl v l) : v.one = true := by
  rcases h with rfl | h
  · rfl
  · exact h.one

theorem mapC_id {g : CV → Option CV} : ∀ {cs : List CV}, (∀ c ∈ cs, g c = some c) → mapC g cs = some cs
  | [], _ => rfl
  | c :: cs, h => by
    rw [mapC_cons, h c (by simp), bind_some', mapC_id (fun x hx => h x (by simp [hx]))]
    rfl

/-- How it is handed out by value. -/
theorem Own.snapV (hf : Flat f sz) (h : Own f sz bl v l) (bx : List (Nat × List CV)) (st : Bool) (g : CV → Option CV) (hg : ∀ x, ∀ c ∈ f x, g c = some c) : snapV ⟨bx, bl⟩ st false g v = some (sl f l) := by
  rcases h with ⟨rfl, rfl⟩ | ⟨m, rfl, h2⟩
  · rfl
  · unfold Zc.snapV
    split
    · rename_i h0
      have : l = [] := List.eq_nil_of_length_eq_zero h0
      subst this
      rfl
    · rw [get_blk bx bl m _ h2]
      simp only [Option.bind_some, Nat.zero_add, hf.length, Nat.le_refl, if_true, List.drop_zero]
      rw [List.take_of_length_le (by rw [hf.length]; exact Nat.le_refl _), mapC_id]
      · rfl
      · intro c hc
        obtain ⟨x, _, hx⟩ := List.mem_flatMap.1 hc
        exact hg x c hx

/-- The same, of one that isn't empty; nil slices may be kept. -/
theorem Own.snapK (hf : Flat f sz) (h : Own f sz bl v l) (h0 : l ≠ []) (bx : List (Nat × List CV)) (st kn : Bool) (g : CV → Option CV) (hg : ∀ x, ∀ c ∈ f x, g c = some c) : Zc.snapV ⟨bx, bl⟩ st kn g v = some (sl f l) := by
  rcases h with ⟨rfl, rfl⟩ | ⟨m, rfl, h2⟩
  · exact (h0 rfl).elim
  · unfold Zc.snapV
    split
    · rename_i h1
      exact (h0 (List.eq_nil_of_length_eq_zero h1)).elim
    · rw [get_blk bx bl m _ h2]
      simp only [Option.bind_some, Nat.zero_add, hf.length, Nat.le_refl, if_true, List.drop_zero]
      rw [List.take_of_length_le (by rw [hf.length]; exact Nat.le_refl _), mapC_id]
      · rfl
      · intro c hc
        obtain ⟨x, _, hx⟩ := List.mem_flatMap.1 hc
        exact hg x c hx

theorem refs_mem : ∀ {cs : List CV} {c : CV}, CV.refs cs = false → c ∈ cs → c.ref = false
  | [], _, _, h => by simp at h
  | d :: cs, c, hr, h => by
    simp only [CV.refs, Bool.or_eq_false_iff] at hr
    rcases List.mem_cons.1 h with rfl | h
    · exact hr.1
    · exact refs_mem hr.2 h

theorem Own.refs_or (h : Own f sz bl v l) : v.ref = false ∧ v = .nils ∨ v.ref = true := by
  rcases h with ⟨rfl, rfl⟩ | ⟨m, rfl, _⟩
  · exact .inl ⟨rfl, rfl⟩
  · exact .inr rfl

/-- Its elements, read. -/
theorem Own.iaddr (hf : Flat f sz) (h : Own f sz bl v l) {k : IntKind} {i : Nat} (hi : i < l.length) :
    ∃ m, iaddrC sz v (.int k i) = some (.op (.blk m) (i * sz)) ∧ bl[m]? = some (.cells (l.flatMap f)) ∧ v = .os sz (.blk m) 0 l.length := by
  rcases h with ⟨rfl, rfl⟩ | ⟨m, rfl, h2⟩
  · simp at hi
  · refine ⟨m, ?_, h2, rfl⟩
    unfold iaddrC iaddrN
    simp only [Int.toNat_natCast, Nat.zero_add]
    rw [if_pos ⟨trivial, by omega, by omega⟩]
end

/-! ### Of which the block may hold more -/
def OwnS {α : Type} (f : α → List CV) (sz : Nat) (bl : List Blk) (v : CV) (l : List α) : Prop :=
  (v = .nils ∧ l = []) ∨ ∃ m rest, v = .os sz (.blk m) 0 l.length ∧ bl[m]? = some (.cells (l.flatMap f ++ rest))

section
variable {α : Type} {f : α → List CV} {sz : Nat} {bl : List Blk} {v : CV} {l : List α}
theorem Own.s (h : Own f sz bl v l) : OwnS f sz bl v l := by
  rcases h with h | ⟨m, h1, h2⟩
  · exact .inl h
  · exact .inr ⟨m, [], h1, by simpa using h2⟩
theorem OwnS.len (h : OwnS f sz bl v l) : lenC v = some (.int .i64 l.length) := by
  rcases h with ⟨rfl, rfl⟩ | ⟨m, r, rfl, _⟩ <;> rfl
theorem OwnS.chkV (h : OwnS f sz bl v l) (s : List Nat) : chkV s v = true := by
  rcases h with ⟨rfl, rfl⟩ | ⟨m, r, rfl, _⟩ <;> rfl
theorem OwnS.locv (h : OwnS f sz bl v l) : v.locv = false := by
  rcases h with ⟨rfl, rfl⟩ | ⟨m, r, rfl, _⟩ <;> rfl
theorem OwnS.snapV (hf : Flat f sz) (h : OwnS f sz bl v l) (bx : List (Nat × List CV)) (st : Bool) (g : CV → Option CV) (hg : ∀ x, ∀ c ∈ f x, g c = some c) : snapV ⟨bx, bl⟩ st false g v = some (sl f l) := by
  rcases h with ⟨rfl, rfl⟩ | ⟨m, r, rfl, h2⟩
  · rfl
  · unfold Zc.snapV
    split
    · rename_i h0
      have : l = [] := List.eq_nil_of_length_eq_zero h0
      subst this
      rfl
    · rw [get_blk bx bl m _ h2]
      have hl := hf.length l
      simp only [Option.bind_some, Nat.zero_add, List.length_append, hl, List.drop_zero]
      rw [if_pos (by omega), ← hl, List.take_left, mapC_id]
      · rfl
      · intro c hc
        obtain ⟨x, _, hx⟩ := List.mem_flatMap.1 hc
        exact hg x c hx

/-- An append to it. -/
theorem OwnS.app (hf : Flat f sz) (h : OwnS f sz bl v l) {bytes : Nat} {zero : List CV} (hb : 0 < bytes) (hz : zero.length = sz) (hz1 : Zc.ones zero = true) {x : CV} {new : List α}
    (hx : ∀ bx, Zc.shown ⟨bx, bl⟩ sz x = some (new.flatMap f)) (hx1 : Zc.lenOf x = new.length) (hx2 : Zc.isSl x = true) (hm : (l.length + new.length) * bytes ≤ 140737488355328) :
    ∃ v' bl', (∀ bx, heapOp (.app sz bytes zero) [v, x] ⟨bx, bl⟩ = some (v', ⟨bx, bl'⟩)) ∧ OwnS f sz bl' v' (l ++ new) ∧ bl.length ≤ bl'.length ∧ Fr bl bl' v ∧ (blkOf v' = blkOf v ∨ blkOf v' = some bl.length) := by
  by_cases h0 : new.length = 0
  · have : new = [] := List.eq_nil_of_length_eq_zero h0
    subst this
    refine ⟨v, bl, fun bx => ?_, by simpa using h, Nat.le_refl _, fun _ _ h _ => h, .inl rfl⟩
    have : Zc.isSl v = true := by rcases h with ⟨rfl, rfl⟩ | ⟨m, r, rfl, _⟩ <;> rfl
    simp only [heapOp, hx1, List.length_nil, if_true, this, hx2, Bool.and_self]
  · rcases h with ⟨rfl, rfl⟩ | ⟨m, r, rfl, h2⟩
    · obtain ⟨v', bl', h1, h2, h3⟩ := (Own.nil f sz bl).app hf hb hz hz1 hx hx1 hx2 hm
      exact ⟨v', bl', h1, h2.s, h3⟩
    · have hml : m < bl.length := (List.getElem?_eq_some_iff.1 h2).1
      have hl := hf.length l
      refine ⟨.os sz (.blk bl.length) 0 (l.length + new.length), (bl.set m .dead) ++ [.cells (l.flatMap f ++ new.flatMap f)], fun bx => ?_, ?_, by simp, fun k b hk hne => ?_, .inr rfl⟩
      · simp only [heapOp, hx1, if_neg h0, hx, Option.bind_some, hf.ones, hf.locs, hz, hz1, decide_true, hf.pos, hb, Bool.true_and, Bool.not_false, Bool.and_true]
        rw [if_pos (decide_eq_true (show (Zc.lenOf (.os sz (.blk m) 0 l.length) + new.length) * bytes ≤ _ from hm))]
        simp only [appC, if_true, get_blk bx bl m _ h2, Option.bind_some, List.length_append, hl, Heap.kill, Heap.push]
        rw [if_pos (by omega), ← hl, List.take_left]
      · refine .inr ⟨bl.length, [], by simp, by simp⟩
      · have hkl := (List.getElem?_eq_some_iff.1 hk).1
        rw [List.getElem?_append_left (by simpa using hkl), List.getElem?_set_ne (fun h => hne (by rw [h]; rfl))]
        exact hk
theorem OwnS.appSl (hf : Flat f sz) (h : OwnS f sz bl v l) {bytes : Nat} {zero : List CV} (hb : 0 < bytes) (hz : zero.length = sz) (hz1 : Zc.ones zero = true) (new : List α) (hm : (l.length + new.length) * bytes ≤ 140737488355328) :
    ∃ v' bl', (∀ bx, heapOp (.app sz bytes zero) [v, sl f new] ⟨bx, bl⟩ = some (v', ⟨bx, bl'⟩)) ∧ OwnS f sz bl' v' (l ++ new) ∧ bl.length ≤ bl'.length ∧ Fr bl bl' v ∧ (blkOf v' = blkOf v ∨ blkOf v' = some bl.length) :=
  h.app hf hb hz hz1 (fun _ => shown_sl hf.len _ _) rfl rfl hm

/-- Handed out of a body that makes it. -/
theorem Own.handed (hf : Flat f sz) (h : Own f sz bl v l) (st : Bool) (bx bx' : List (Nat × List CV)) (bl' : List Blk) (hg : ∀ (H : Heap) (x : α), ∀ c ∈ f x, snap H st false c = some c) :
    ∃ v' bl'', ownSnap st ⟨bx', bl'⟩ ⟨bx, bl⟩ [v] = some (v', ⟨bx', bl''⟩) ∧ Own f sz bl'' v' l ∧ (∀ (k : Nat) (b : Blk), bl'[k]? = some b → bl''[k]? = some b) ∧ (∀ k, blkOf v' = some k → bl'.length ≤ k) := by
  rcases h with ⟨rfl, rfl⟩ | ⟨m, rfl, h2⟩
  · exact ⟨.nils, bl', rfl, .inl ⟨rfl, rfl⟩, fun _ _ h => h, fun k h => by cases h⟩
  · refine ⟨.os sz (.blk bl'.length) 0 l.length, bl' ++ [.cells (l.flatMap f)], ?_, .inr ⟨bl'.length, rfl, by simp⟩, fun k b hk => ?_, fun k h => by cases h; exact Nat.le_refl _⟩
    · unfold ownSnap ownOf resV
      simp only [get_blk bx bl m _ h2, Option.bind_some, hf.length, Nat.le_refl, if_true]
      rw [mapC_id]
      · rfl
      · intro c hc
        obtain ⟨x, _, hx⟩ := List.mem_flatMap.1 hc
        exact hg _ x c hx
    · rw [List.getElem?_append_left (List.getElem?_eq_some_iff.1 hk).1]; exact hk
end

theorem setMany_app : ∀ (B' B A C : List CV), B.length = B'.length → setMany (A ++ B ++ C) A.length B' = A ++ B' ++ C
  | [], [], A, C, _ => by simp [setMany]
  | c :: B', b :: B, A, C, h => by
    have := setMany_app B' B (A ++ [c]) C (by simpa using h)
    simp only [setMany, List.append_assoc, List.cons_append, List.nil_append, List.length_append, List.length_cons, List.length_nil, Nat.zero_add] at this ⊢
    rw [← this]
    congr 1
    simp
  | [], _ :: _, _, _, h => by simp at h
  | _ :: _, [], _, _, h => by simp at h
theorem setMany_mid {α : Type} {f : α → List CV} {sz : Nat} (hf : Flat f sz) (p s : List α) (x y : α) : setMany ((p ++ y :: s).flatMap f) (p.length * sz) (f x) = (p ++ x :: s).flatMap f := by
  have := setMany_app (f x) (f y) (p.flatMap f) (s.flatMap f) (by rw [hf.len, hf.len])
  rw [hf.length] at this
  simpa using this

theorem drop_mid {α : Type} {f : α → List CV} {sz : Nat} (hf : Flat f sz) (p s : List α) (x : α) : ((p ++ x :: s).flatMap f).drop (p.length * sz) = f x ++ s.flatMap f := by
  rw [flatMap_drop hf.len]; simp
end Go.Zc
