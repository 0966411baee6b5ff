/- Slices whose elements hold slices: in memory that is one's own. No condition. -/
import Derived.Test.YtmjffmghkfappaaZcStore
set_option linter.all false
namespace Go.Zc

/-- What a cell in memory shows: itself, or the numbers of a slice. -/
def CellOk (bl : List Blk) (c y : CV) : Prop :=
  (c = y ∧ blkOf c = none ∧ c.one = true ∧ c.locv = false ∧ ∀ (H : Heap) (st kn : Bool) (n : Nat), snapN H st kn (n + 1) c = some c) ∨ ∃ l : List Int, Own fI 1 bl c l ∧ y = sl fI l
theorem cell_int (bl : List Blk) (k : IntKind) (n : Int) : CellOk bl (.int k n) (.int k n) := .inl ⟨rfl, rfl, rfl, rfl, fun _ _ _ _ => rfl⟩
theorem cell_bool (bl : List Blk) (b : Bool) : CellOk bl (.bool b) (.bool b) := .inl ⟨rfl, rfl, rfl, rfl, fun _ _ _ _ => rfl⟩
theorem cell_own {bl : List Blk} {c : CV} {l : List Int} (h : Own fI 1 bl c l) : CellOk bl c (sl fI l) := .inr ⟨l, h, rfl⟩
theorem CellOk.one {bl : List Blk} {c y : CV} (h : CellOk bl c y) : c.one = true := by
  rcases h with ⟨_, _, h, _⟩ | ⟨l, h, _⟩
  · exact h
  · exact h.one
theorem CellOk.locv {bl : List Blk} {c y : CV} (h : CellOk bl c y) : c.locv = false := by
  rcases h with ⟨_, _, _, h, _⟩ | ⟨l, h, _⟩
  · exact h
  · exact h.locv
theorem CellOk.keep {bl bl' : List Blk} {c y : CV} (h : CellOk bl c y) (hk : ∀ (m : Nat) (b : Blk), bl[m]? = some b → blkOf c = some m → bl'[m]? = some b) : CellOk bl' c y := by
  rcases h with h | ⟨l, h | ⟨m, rfl, h2⟩, hy⟩
  · exact .inl h
  · exact .inr ⟨l, .inl h, hy⟩
  · exact .inr ⟨l, .inr ⟨m, rfl, hk m _ h2 rfl⟩, hy⟩
theorem CellOk.snap {bl : List Blk} {c y : CV} (h : CellOk bl c y) (bx : List (Nat × List CV)) (st : Bool) (n : Nat) : snapN ⟨bx, bl⟩ st false (n + 2) c = some y := by
  rcases h with ⟨rfl, _, _, _, h⟩ | ⟨l, h, rfl⟩
  · exact h _ _ _ _
  · exact h.snapV flatI bx st _ (fun x c hc => by
      simp only [fI, List.mem_cons, List.not_mem_nil, or_false] at hc
      subst hc
      rfl)
theorem CellOk.lt {bl : List Blk} {c y : CV} (h : CellOk bl c y) {k : Nat} (hk : blkOf c = some k) : k < bl.length := by
  rcases h with ⟨_, h, _⟩ | ⟨l, h, _⟩
  · rw [h] at hk; cases hk
  · exact h.lt hk

def Cells (bl : List Blk) : List CV → List CV → Prop
  | [], [] => True
  | c :: cs, y :: ys => CellOk bl c y ∧ Cells bl cs ys
  | _, _ => False
theorem Cells.length {bl : List Blk} : ∀ {cs ys : List CV}, Cells bl cs ys → cs.length = ys.length
  | [], [], _ => rfl
  | _ :: _, _ :: _, h => by simp [Cells.length h.2]
  | [], _ :: _, h => h.elim
  | _ :: _, [], h => h.elim
theorem Cells.app {bl : List Blk} : ∀ {cs ys cs' ys' : List CV}, Cells bl cs ys → Cells bl cs' ys' → Cells bl (cs ++ cs') (ys ++ ys')
  | [], [], _, _, _, h => h
  | _ :: _, _ :: _, _, _, h, h' => ⟨h.1, Cells.app h.2 h'⟩
  | [], _ :: _, _, _, h, _ => h.elim
  | _ :: _, [], _, _, h, _ => h.elim
theorem Cells.keep {bl bl' : List Blk} : ∀ {cs ys : List CV}, Cells bl cs ys → (∀ c ∈ cs, ∀ (m : Nat) (b : Blk), bl[m]? = some b → blkOf c = some m → bl'[m]? = some b) → Cells bl' cs ys
  | [], [], _, _ => trivial
  | c :: cs, _ :: _, h, hk => ⟨h.1.keep (hk c (by simp)), Cells.keep h.2 fun x hx => hk x (by simp [hx])⟩
  | [], _ :: _, h, _ => h.elim
  | _ :: _, [], h, _ => h.elim
theorem Cells.ones {bl : List Blk} : ∀ {cs ys : List CV}, Cells bl cs ys → Zc.ones cs = true
  | [], [], _ => rfl
  | _ :: _, _ :: _, h => by rw [ones_cons, h.1.one, Cells.ones h.2]; rfl
  | [], _ :: _, h => h.elim
  | _ :: _, [], h => h.elim
theorem Cells.locs {bl : List Blk} : ∀ {cs ys : List CV}, Cells bl cs ys → CV.locs cs = false
  | [], [], _ => rfl
  | _ :: _, _ :: _, h => by simp only [CV.locs, h.1.locv, Cells.locs h.2, Bool.or_self]
  | [], _ :: _, h => h.elim
  | _ :: _, [], h => h.elim
theorem Cells.snap {bl : List Blk} (bx : List (Nat × List CV)) (st : Bool) (n : Nat) : ∀ {cs ys : List CV}, Cells bl cs ys → mapC (snapN ⟨bx, bl⟩ st false (n + 2)) cs = some ys
  | [], [], _ => rfl
  | _ :: _, _ :: _, h => by simp only [mapC, h.1.snap bx st n, Cells.snap bx st n h.2, Option.bind_some, Option.map_some]
  | [], _ :: _, h => h.elim
  | _ :: _, [], h => h.elim
theorem Cells.lt {bl : List Blk} : ∀ {cs ys : List CV}, Cells bl cs ys → ∀ c ∈ cs, ∀ k, blkOf c = some k → k < bl.length
  | [], [], _, c, hc => by simp at hc
  | d :: cs, _ :: _, h, c, hc => by
    rcases List.mem_cons.1 hc with rfl | hc
    · exact fun k hk => h.1.lt hk
    · exact Cells.lt h.2 c hc
  | [], _ :: _, h, _, _ => h.elim
  | _ :: _, [], h, _, _ => h.elim

section
variable {α : Type} {f : α → List CV} {sz : Nat} {bl : List Blk} {v : CV} {l : List α}

def Deep (f : α → List CV) (sz : Nat) (bl : List Blk) (v : CV) (l : List α) : Prop :=
  (v = .nils ∧ l = []) ∨ ∃ m cs, v = .os sz (.blk m) 0 l.length ∧ bl[m]? = some (.cells cs) ∧ Cells bl cs (l.flatMap f) ∧ ∀ c ∈ cs, blkOf c ≠ some m
theorem Deep.nil (f : α → List CV) (sz : Nat) (bl : List Blk) : Deep f sz bl .nils [] := .inl ⟨rfl, rfl⟩
theorem Deep.len (h : Deep f sz bl v l) : lenC v = some (.int .i64 l.length) := by
  rcases h with ⟨rfl, rfl⟩ | ⟨m, cs, rfl, _⟩ <;> rfl
theorem Deep.locv (h : Deep f sz bl v l) : v.locv = false := by
  rcases h with ⟨rfl, rfl⟩ | ⟨m, cs, rfl, _⟩ <;> rfl
theorem Deep.one (h : Deep f sz bl v l) : v.one = true := by
  rcases h with ⟨rfl, rfl⟩ | ⟨m, cs, rfl, _⟩ <;> rfl
theorem Deep.cells (h : Deep f sz bl v l) : v.cells = [v] := by
  rcases h with ⟨rfl, rfl⟩ | ⟨m, cs, rfl, _⟩ <;> rfl
theorem Deep.und (h : Deep f sz bl v l) : v.und? = false := by
  rcases h with ⟨rfl, rfl⟩ | ⟨m, cs, rfl, _⟩ <;> rfl
theorem Deep.chkV (h : Deep f sz bl v l) (s : List Nat) : chkV s v = true := chkV_of h.locv s
theorem Deep.lt (h : Deep f sz bl v l) {k : Nat} (hk : blkOf v = some k) : k < bl.length := by
  rcases h with ⟨rfl, rfl⟩ | ⟨m, cs, rfl, h2, _⟩
  · cases hk
  · cases hk; exact (List.getElem?_eq_some_iff.1 h2).1
/-- The blocks that it reaches. -/
def Deep.reach (bl : List Blk) (v : CV) (k : Nat) : Prop := blkOf v = some k ∨ ∃ m cs, blkOf v = some m ∧ bl[m]? = some (.cells cs) ∧ ∃ c ∈ cs, blkOf c = some k
theorem Deep.keep {bl' : List Blk} (h : Deep f sz bl v l) (hk : ∀ (m : Nat) (b : Blk), bl[m]? = some b → Deep.reach bl v m → bl'[m]? = some b) : Deep f sz bl' v l := by
  rcases h with h | ⟨m, cs, rfl, h2, h3, h4⟩
  · exact .inl h
  · exact .inr ⟨m, cs, rfl, hk m _ h2 (.inl rfl), h3.keep fun c hc k b hb hck => hk k b hb (.inr ⟨m, cs, rfl, h2, c, hc, hck⟩), h4⟩
theorem Deep.snapV (hl : ∀ x, (f x).length = sz) (h : Deep f sz bl v l) (bx : List (Nat × List CV)) (st : Bool) : snapV ⟨bx, bl⟩ st false (snapN ⟨bx, bl⟩ st false 7) v = some (sl f l) := by
  rcases h with ⟨rfl, rfl⟩ | ⟨m, cs, rfl, h2, h3, _⟩
  · rfl
  · have hlen := h3.length
    rw [flatMap_len hl] at hlen
    by_cases h0 : l.length = 0
    · have : l = [] := List.eq_nil_of_length_eq_zero h0
      subst this
      rfl
    · unfold Zc.snapV
      rw [if_neg h0, get_blk bx bl m _ h2]
      simp only [Option.bind_some, Nat.zero_add, List.drop_zero]
      rw [if_pos (by omega), List.take_of_length_le (by omega), h3.snap bx st 5]
      rfl

/-- An append of one: a literal's, in a block of its own. -/
theorem Deep.app (hl : ∀ x, (f x).length = sz) (hp : 0 < sz) (h : Deep f sz bl v l) {bytes : Nat} {zero : List CV} (hb : 0 < bytes) (hz : zero.length = sz) (hz1 : Zc.ones zero = true) (x : α) (row : List CV)
    (hr : Cells bl row (f x)) (hrv : ∀ c ∈ row, ∀ k, blkOf c = some k → blkOf v ≠ some k) (hm : (l.length + 1) * bytes ≤ 140737488355328) :
    ∃ v' bl', (∀ bx, heapOp (.app sz bytes zero) [v, .os sz (.blk bl.length) 0 1] ⟨bx, bl ++ [.cells row]⟩ = some (v', ⟨bx, bl'⟩)) ∧ Deep f sz bl' v' (l ++ [x]) ∧
      Fr bl bl' v ∧ blkOf v' = some (bl.length + 1) ∧ (∀ k, Deep.reach bl' v' k → k = bl.length + 1 ∨ Deep.reach bl v k ∨ ∃ c ∈ row, blkOf c = some k) := by
  have hrl := hr.length
  rw [hl] at hrl
  have hsh : ∀ bx, shown ⟨bx, bl ++ [Blk.cells row]⟩ sz (.os sz (.blk bl.length) 0 1) = some row := by
    intro bx
    unfold shown
    simp only [if_true]
    rw [get_blk bx _ bl.length row (by simp)]
    simp only [Option.bind_some, Nat.zero_add, Nat.one_mul, hrl, Nat.le_refl, if_true, List.drop_zero]
    rw [List.take_of_length_le (by omega)]
  have hc := decide_eq_true hm
  rcases h with ⟨rfl, rfl⟩ | ⟨m, cs, rfl, h2, h3, h4⟩
  · refine ⟨.os sz (.blk (bl.length + 1)) 0 1, bl ++ [.cells row] ++ [.cells row], fun bx => ?_, .inr ⟨bl.length + 1, row, by simp, by simp, ?_, fun c hc e => ?_⟩, fun k b hk _ => ?_, rfl, fun k hk => ?_⟩
    · simp only [heapOp, lenOf, Nat.one_ne_zero, if_false, hsh, Option.bind_some, hr.ones, hr.locs, hz, hz1, decide_true, hp, hb, Bool.true_and, Bool.not_false, Bool.and_true, appC, Heap.push]
      rw [if_pos (by simpa [lenOf] using hm)]
      simp
    · simp only [List.nil_append, List.flatMap_cons, List.flatMap_nil, List.append_nil]
      exact hr.keep fun c hc k b hb _ => by
        have := (List.getElem?_eq_some_iff.1 hb).1
        rw [List.append_assoc, List.getElem?_append_left this]; exact hb
    · have := hr.lt c hc _ e; omega
    · have := (List.getElem?_eq_some_iff.1 hk).1
      rw [List.append_assoc, List.getElem?_append_left this]; exact hk
    · rcases hk with hk | ⟨m, cs, h1, h2, c, hc, hck⟩
      · cases hk; exact .inl rfl
      · cases h1
        have : cs = row := by simpa using h2.symm
        subst this
        exact .inr (.inr ⟨c, hc, hck⟩)
  · have hml : m < bl.length := (List.getElem?_eq_some_iff.1 h2).1
    have hlen := h3.length
    rw [flatMap_len hl] at hlen
    have h2' : (bl ++ [Blk.cells row])[m]? = some (.cells cs) := by rw [List.getElem?_append_left hml]; exact h2
    have hkeep : ∀ (k : Nat) (b : Blk), bl[k]? = some b → k ≠ m → (((bl ++ [Blk.cells row]).set m .dead) ++ [Blk.cells (cs ++ row)])[k]? = some b := fun k b hb hne => by
      have hkl := (List.getElem?_eq_some_iff.1 hb).1
      rw [List.getElem?_append_left (by simp; omega), List.getElem?_set_ne (Ne.symm hne), List.getElem?_append_left hkl]; exact hb
    refine ⟨.os sz (.blk (bl.length + 1)) 0 (l.length + 1), ((bl ++ [Blk.cells row]).set m .dead) ++ [Blk.cells (cs ++ row)], fun bx => ?_, .inr ⟨bl.length + 1, cs ++ row, by simp, ?_, ?_, fun c hc e => ?_⟩, fun k b hk hne => ?_, rfl, fun k hk => ?_⟩
    · simp only [heapOp, lenOf, Nat.one_ne_zero, if_false, hsh, Option.bind_some, hr.ones, hr.locs, hz, hz1, hc, decide_true, hp, hb, Bool.true_and, Bool.not_false, Bool.and_true, if_true, appC]
      rw [get_blk bx _ m _ h2']
      simp only [Option.bind_some, hlen, Nat.le_refl, if_true, Heap.kill, Heap.push]
      rw [List.take_of_length_le (by omega)]
      simp [hm]
    · simp
    · rw [List.flatMap_append, List.flatMap_cons, List.flatMap_nil, List.append_nil]
      refine Cells.app (h3.keep fun c hc k b hb hck => hkeep k b hb fun e => ?_) (hr.keep fun c hc k b hb hck => hkeep k b hb fun e => ?_)
      · subst e; exact h4 c hc hck
      · subst e; exact hrv c hc _ hck rfl
    · rcases List.mem_append.1 hc with hc | hc
      · have := h3.lt c hc _ e; omega
      · have := hr.lt c hc _ e; omega
    · exact hkeep k b hk fun e => hne (by rw [e]; rfl)
    · rcases hk with hk | ⟨m', cs', h1, h2', c, hc, hck⟩
      · cases hk; exact .inl rfl
      · cases h1
        have : cs' = cs ++ row := by
          rw [List.getElem?_append_right (by simp)] at h2'
          simpa using h2'.symm
        subst this
        rcases List.mem_append.1 hc with hc | hc
        · exact .inr (.inl (.inr ⟨m, cs, rfl, h2, c, hc, hck⟩))
        · exact .inr (.inr ⟨c, hc, hck⟩)
end

theorem Deep.reach_lt {α : Type} {f : α → List CV} {sz : Nat} {bl : List Blk} {v : CV} {l : List α} (h : Deep f sz bl v l) {k : Nat} (hk : Deep.reach bl v k) : k < bl.length := by
  rcases hk with hk | ⟨m, cs, h1, h2, c, hc, hck⟩
  · exact h.lt hk
  · rcases h with ⟨rfl, rfl⟩ | ⟨m', cs', rfl, h2', h3, _⟩
    · cases h1
    · cases h1
      rw [h2'] at h2
      cases h2
      exact h3.lt c hc k hck
/-- What it reaches stays, if its block does. -/
theorem Deep.reach_keep {α : Type} {f : α → List CV} {sz : Nat} {bl bl' : List Blk} {v : CV} {l : List α} (h : Deep f sz bl v l) (hk : ∀ (m : Nat) (b : Blk), bl[m]? = some b → blkOf v = some m → bl'[m]? = some b) {k : Nat} (hr : Deep.reach bl' v k) : Deep.reach bl v k := by
  rcases hr with hr | ⟨m, cs, h1, h2, c, hc, hck⟩
  · exact .inl hr
  · rcases h with ⟨rfl, rfl⟩ | ⟨m', cs', rfl, h2', h3, _⟩
    · cases h1
    · cases h1
      have := hk _ _ h2' rfl
      rw [this] at h2
      cases h2
      exact .inr ⟨_, _, rfl, h2', c, hc, hck⟩
theorem Deep.reach_nils {bl : List Blk} {k : Nat} (h : Deep.reach bl .nils k) : False := by
  rcases h with h | ⟨m, cs, h1, _⟩
  · cases h
  · cases h1
end Go.Zc
