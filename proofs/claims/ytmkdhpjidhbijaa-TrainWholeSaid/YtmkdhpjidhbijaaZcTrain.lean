/- Trails; sessions. No condition. -/
import Derived.Test.YtmkdhpjidhbijaaZcStore
set_option linter.all false
namespace Go.Zc

/-- A number more, if it isn't there. -/
def joinL : List Int → List Int → List Int
  | out, [] => out
  | out, s :: r => joinL (if s ∈ out then out else out ++ [s]) r
/-- What stands behind a trail's last section. -/
def behindL (z : Int) (was : List Int) : List Int := match was.findIdx? fun x => decide (z = x) with
  | some i => was.drop (i + 1)
  | none => was
def joinT (trail was : List Int) : List Int := joinL trail (behindL (trail.getLastD 0) was)
theorem joinL_len : ∀ (r out : List Int), (joinL out r).length ≤ out.length + r.length
  | [], _ => by simp [joinL]
  | s :: r, out => by
    have := joinL_len r (if s ∈ out then out else out ++ [s])
    simp only [joinL, List.length_cons]
    split at this
    · rw [if_pos ‹_›]; omega
    · rw [if_neg ‹_›]
      simp only [List.length_append, List.length_cons, List.length_nil] at this
      omega
theorem behindL_len (z : Int) (was : List Int) : (behindL z was).length ≤ was.length := by
  unfold behindL
  split
  · rw [List.length_drop]; omega
  · exact Nat.le_refl _
theorem joinT_len (trail was : List Int) : (joinT trail was).length ≤ trail.length + was.length := by
  have := joinL_len (behindL (trail.getLastD 0) was) trail
  have := behindL_len (trail.getLastD 0) was
  unfold joinT; omega
theorem joinL_ne {out : List Int} (h : out ≠ []) : ∀ r : List Int, joinL out r ≠ [] := by
  intro r
  induction r generalizing out with
  | nil => exact h
  | cons s r ih =>
    simp only [joinL]
    split
    · exact ih h
    · exact ih (by simp)
theorem last_at {l : List Int} (h : l ≠ []) : ∃ h' : l.length - 1 < l.length, l[l.length - 1] = l.getLastD 0 := by
  have hp : 0 < l.length := List.length_pos_iff.2 h
  refine ⟨by omega, ?_⟩
  cases l with
  | nil => cases h rfl
  | cons a r =>
    rw [← List.getLast_eq_getElem (by simp)]
    simp [List.getLastD]
/-- Where to go on behind the first one; 0: it isn't there. -/
def frm (z : Int) : List Int → Nat → Nat
  | [], _ => 0
  | x :: s, k => if x = z then k + 1 else frm z s (k + 1)
theorem frm_none (z : Int) : ∀ (s : List Int) (k : Nat), s.findIdx? (fun x => decide (z = x)) = none → frm z s k = 0
  | [], _, _ => rfl
  | x :: s, k, h => by
    rw [List.findIdx?_cons] at h
    by_cases hx : z = x
    · simp [hx] at h
    · simp only [hx, decide_false, Bool.false_eq_true, if_false, Option.map_eq_none_iff] at h
      simp only [frm, if_neg (fun e : x = z => hx e.symm), frm_none z s (k + 1) h]
theorem frm_some (z : Int) : ∀ (s : List Int) (k i : Nat), s.findIdx? (fun x => decide (z = x)) = some i → frm z s k = k + i + 1
  | [], _, _, h => by cases h
  | x :: s, k, i, h => by
    rw [List.findIdx?_cons] at h
    by_cases hx : z = x
    · simp only [hx, decide_true, if_true, Option.some.injEq] at h
      subst h
      simp [frm, hx]
    · simp only [hx, decide_false, Bool.false_eq_true, if_false, Option.map_eq_some_iff] at h
      obtain ⟨j, hj, rfl⟩ := h
      simp only [frm, if_neg (fun e : x = z => hx e.symm), frm_some z s (k + 1) j hj]
      omega
end Go.Zc
