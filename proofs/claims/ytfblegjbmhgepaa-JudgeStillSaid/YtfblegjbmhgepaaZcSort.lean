/- Sorting by insertion, in plain words. No condition. -/
import Derived.Test.YtfblegjbmhgepaaZcLay
set_option linter.all false
namespace Go.Zc

/-- One more, let down into what stands before it (turned about). -/
def sinkR : List Int → Int → List Int
  | [], x => [x]
  | y :: rp, x => if x < y then sinkR rp x ++ [y] else (y :: rp).reverse ++ [x]
def insAll : List Int → List Int → List Int
  | s, [] => s
  | s, x :: r => insAll (sinkR s.reverse x) r
def isort : List Int → List Int
  | [] => []
  | x :: r => insAll [x] r

theorem sinkR_perm (x : Int) : ∀ rp : List Int, (sinkR rp x).Perm (x :: rp)
  | [] => .refl _
  | y :: rp => by
    simp only [sinkR]
    split
    · exact (List.perm_append_singleton y _).trans (((sinkR_perm x rp).cons y).trans (.swap x y rp))
    · exact (List.perm_append_singleton x _).trans ((List.reverse_perm _).cons x)
theorem sinkR_len (x : Int) (rp : List Int) : (sinkR rp x).length = rp.length + 1 := by
  have := (sinkR_perm x rp).length_eq
  simpa using this
theorem sinkR_sorted (x : Int) : ∀ rp : List Int, rp.reverse.Pairwise (· ≤ ·) → (sinkR rp x).Pairwise (· ≤ ·)
  | [], _ => by simp [sinkR]
  | y :: rp, h => by
    simp only [List.reverse_cons, List.pairwise_append, List.mem_singleton, forall_eq, List.mem_reverse] at h
    simp only [sinkR]
    split
    · rename_i hlt
      rw [List.pairwise_append]
      refine ⟨sinkR_sorted x rp h.1, by simp, fun a ha b hb => ?_⟩
      simp only [List.mem_singleton] at hb
      subst hb
      rcases List.mem_cons.1 ((sinkR_perm x rp).mem_iff.1 ha) with rfl | ha
      · omega
      · exact h.2.2 a ha
    · rename_i hge
      simp only [List.reverse_cons, List.pairwise_append, List.mem_singleton, forall_eq, List.mem_append, List.mem_reverse]
      refine ⟨⟨h.1, by simp, h.2.2⟩, by simp, fun a ha => ?_⟩
      rcases ha with ha | rfl
      · have := h.2.2 a ha; omega
      · omega
theorem insAll_perm : ∀ (r s : List Int), (insAll s r).Perm (s ++ r)
  | [], s => by simp [insAll]
  | x :: r, s => by
    simp only [insAll]
    refine (insAll_perm r _).trans ?_
    have h1 : (sinkR s.reverse x).Perm (s ++ [x]) := (sinkR_perm x s.reverse).trans (((List.reverse_perm s).cons x).trans (List.perm_append_singleton x s).symm)
    have := h1.append_right r
    simpa using this
theorem insAll_sorted : ∀ (r s : List Int), s.Pairwise (· ≤ ·) → (insAll s r).Pairwise (· ≤ ·)
  | [], _, h => h
  | x :: r, s, h => insAll_sorted r _ (sinkR_sorted x s.reverse (by simpa using h))
theorem isort_perm (l : List Int) : (isort l).Perm l := by
  cases l with
  | nil => exact .refl _
  | cons x r => exact insAll_perm r [x]
theorem isort_sorted (l : List Int) : (isort l).Pairwise (· ≤ ·) := by
  cases l with
  | nil => exact .nil
  | cons x r => exact insAll_sorted r [x] (by simp)

/-- Numbers that are alike once, where they stand beside each other. -/
def compact : List Int → List Int
  | [] => []
  | [x] => [x]
  | x :: y :: r => if x = y then compact (y :: r) else x :: compact (y :: r)
theorem compact_head : ∀ (x : Int) (r : List Int), ∃ t, compact (x :: r) = x :: t
  | x, [] => ⟨[], rfl⟩
  | x, y :: r => by
    simp only [compact]
    split
    · rename_i h
      obtain ⟨t, ht⟩ := compact_head y r
      exact ⟨t, by rw [ht, h]⟩
    · exact ⟨_, rfl⟩
theorem compact_mem : ∀ (l : List Int) (z : Int), z ∈ compact l ↔ z ∈ l
  | [], z => by simp [compact]
  | [x], z => by simp [compact]
  | x :: y :: r, z => by
    have ih := compact_mem (y :: r) z
    simp only [compact]
    split
    · rename_i h
      subst h
      rw [ih]; simp
    · rw [List.mem_cons, ih]; simp
theorem compact_sorted : ∀ (l : List Int), l.Pairwise (· ≤ ·) → (compact l).Pairwise (· < ·)
  | [], _ => by simp [compact]
  | [x], _ => by simp [compact]
  | x :: y :: r, h => by
    rw [List.pairwise_cons] at h
    have ih := compact_sorted (y :: r) h.2
    simp only [compact]
    split
    · exact ih
    · rename_i hne
      rw [List.pairwise_cons]
      refine ⟨fun z hz => ?_, ih⟩
      have hz' := (compact_mem (y :: r) z).1 hz
      have h1 := h.1 z hz'
      have h2 := h.1 y (by simp)
      have h3 : y ≤ z := by
        rcases List.mem_cons.1 hz' with rfl | hz'
        · exact Int.le_refl _
        · exact (List.pairwise_cons.1 h.2).1 z hz'
      omega

/-- Rising lists of the same numbers are one. -/
theorem rising_eq : ∀ {a b : List Int}, a.Pairwise (· < ·) → b.Pairwise (· < ·) → (∀ z, z ∈ a ↔ z ∈ b) → a = b
  | [], [], _, _, _ => rfl
  | [], y :: b, _, _, h => by have := (h y).2 (by simp); simp at this
  | x :: a, [], _, _, h => by have := (h x).1 (by simp); simp at this
  | x :: a, y :: b, ha, hb, h => by
    rw [List.pairwise_cons] at ha hb
    have hxy : x = y := by
      rcases List.mem_cons.1 ((h x).1 (by simp)) with h1 | h1
      · exact h1
      · rcases List.mem_cons.1 ((h y).2 (by simp)) with h2 | h2
        · exact h2.symm
        · have := ha.1 y h2; have := hb.1 x h1; omega
    subst hxy
    congr 1
    refine rising_eq ha.2 hb.2 fun z => ?_
    have := h z
    simp only [List.mem_cons] at this
    constructor
    · intro hz
      rcases this.1 (.inr hz) with rfl | h1
      · have := ha.1 z hz; omega
      · exact h1
    · intro hz
      rcases this.2 (.inr hz) with rfl | h1
      · have := hb.1 z hz; omega
      · exact h1
theorem compact_isort (l : List Int) : compact (isort l) = rise l :=
  rising_eq (compact_sorted _ (isort_sorted l)) (rise_sorted l) fun z => by rw [compact_mem, (isort_perm l).mem_iff, rise_mem]
end Go.Zc
