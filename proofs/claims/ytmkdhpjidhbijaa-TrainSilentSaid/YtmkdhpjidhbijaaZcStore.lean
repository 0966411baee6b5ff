/- Slices that are written to; slices that are made whole. No condition. -/
import Derived.Test.YtmkdhpjidhbijaaZcLay
set_option linter.all false
namespace Go.Zc
section
variable {α : Type} {f : α → List CV} {sz : Nat} {bl : List Blk} {v : CV} {l : List α}

/-- An element is written over. -/
theorem Own.set (hf : Flat f sz) (h : Own f sz bl v l) {i : Nat} (hi : i < l.length) (y : α) (w : CV) (hw : w.cells = f y) :
    ∃ m, (∀ k, iaddrC sz v (.int k i) = some (.op (.blk m) (i * sz))) ∧ ∃ cs, (∀ bx, Heap.get ⟨bx, bl⟩ (.blk m) = some cs) ∧ cs.drop (i * sz) = f l[i] ++ (l.drop (i + 1)).flatMap f ∧
      ∃ bl', (∀ bx, stE sz (i * sz) w ⟨bx, bl⟩ (.blk m) cs = some ⟨bx, bl'⟩) ∧ Own f sz bl' v (l.set i y) ∧ bl'.length = bl.length ∧ (∀ (k : Nat) (b : Blk), bl[k]? = some b → blkOf v ≠ some k → bl'[k]? = some b) := by
  obtain ⟨m, h1, h2, h3⟩ := h.iaddr hf (k := .i64) hi
  have hs : l = l.take i ++ l[i] :: l.drop (i + 1) := by rw [← List.drop_eq_getElem_cons hi, List.take_append_drop]
  have hl : (l.take i).length = i := by rw [List.length_take]; omega
  have hst : l.set i y = l.take i ++ y :: l.drop (i + 1) := by
    rw [List.set_eq_take_append_cons_drop]; simp [hi]
  have hm : m < bl.length := (List.getElem?_eq_some_iff.1 h2).1
  refine ⟨m, fun k => ?_, l.flatMap f, fun bx => get_blk bx bl m _ h2, ?_, bl.set m (.cells ((l.set i y).flatMap f)), fun bx => ?_, ?_, by simp, fun k b hk hne => ?_⟩
  · rw [h3] at h1 ⊢
    exact h1
  · rw [flatMap_drop hf.len, List.drop_eq_getElem_cons hi, List.flatMap_cons]
  · have hsm := setMany_mid hf (l.take i) (l.drop (i + 1)) y l[i]
    rw [hl, ← hs, ← hst] at hsm
    have hb : (i + 1) * sz ≤ l.length * sz := Nat.mul_le_mul_right sz hi
    rw [Nat.add_mul, Nat.one_mul] at hb
    unfold stE
    rw [if_pos ⟨by rw [hw, hf.len], by rw [hf.length]; exact hb, by rw [hw]; exact hf.one y, .inr (by rw [hw]; exact hf.loc y)⟩, hw, hsm]
    rfl
  · rw [h3]
    exact .inr ⟨m, by simp, by simp [hm]⟩
  · rw [List.getElem?_set_ne (fun e => hne (by rw [h3, blkOf_os, e]))]
    exact hk

theorem repC_eq (f : α → List CV) (z : α) : ∀ n, repC (f z) n = (List.replicate n z).flatMap f
  | 0 => rfl
  | n + 1 => by simp only [repC, repC_eq f z n, List.replicate_succ, List.flatMap_cons]
/-- A slice is made, of zeros. -/
theorem Own.mk (hf : Flat f sz) (z : α) (n bytes : Nat) (hm : (n : Int) * bytes ≤ 140737488355328 ∧ (n : Int) ≤ 140737488355328) (k k' : IntKind) (bx : List (Nat × List CV)) (bl : List Blk) :
    heapOp (.mksl sz bytes (f z)) [.int k n, .int k' n] ⟨bx, bl⟩ = some (.os sz (.blk bl.length) 0 n, ⟨bx, bl ++ [.cells ((List.replicate n z).flatMap f)]⟩) ∧
    Own f sz (bl ++ [.cells ((List.replicate n z).flatMap f)]) (.os sz (.blk bl.length) 0 n) (List.replicate n z) := by
  refine ⟨?_, .inr ⟨bl.length, by simp, by simp⟩⟩
  rw [hop_mksl, if_pos (by simp [hf.len, hf.one, hf.loc]), if_pos ⟨by omega, by omega, hm.1, hm.2⟩, Int.toNat_natCast, repC_eq]

/-- Handed out of a body that makes it: the same, whatever boxes there are. -/
theorem Own.handed' (hf : Flat f sz) (h : Own f sz bl v l) (bl' : List Blk) (hg : ∀ (st : Bool) (H : Heap) (x : α), ∀ c ∈ f x, snap H st false c = some c) :
    ∃ v' bl'', (∀ st bx bx', ownSnap st ⟨bx', bl'⟩ ⟨bx, bl⟩ [v] = some (v', ⟨bx', bl''⟩)) ∧ Own f sz bl'' v' l ∧ (∀ (k : Nat) (b : Blk), bl'[k]? = some b → bl''[k]? = some b) ∧ (∀ k, blkOf v' = some k → bl'.length ≤ k) := by
  rcases h with ⟨rfl, rfl⟩ | ⟨m, rfl, h2⟩
  · exact ⟨.nils, bl', fun _ _ _ => rfl, .inl ⟨rfl, rfl⟩, fun _ _ h => h, fun k h => by cases h⟩
  · refine ⟨.os sz (.blk bl'.length) 0 l.length, bl' ++ [.cells (l.flatMap f)], fun st bx bx' => ?_, .inr ⟨bl'.length, rfl, by simp⟩, fun k b hk => ?_, fun k h => by cases h; exact Nat.le_refl _⟩
    · unfold ownSnap ownOf resV
      simp only [get_blk bx bl m _ h2, Option.bind_some, hf.length, Nat.le_refl, if_true]
      rw [mapC_id]
      · rfl
      · intro c hc
        obtain ⟨x, _, hx⟩ := List.mem_flatMap.1 hc
        exact hg st _ x c hx
    · rw [List.getElem?_append_left (List.getElem?_eq_some_iff.1 hk).1]; exact hk
end
end Go.Zc
