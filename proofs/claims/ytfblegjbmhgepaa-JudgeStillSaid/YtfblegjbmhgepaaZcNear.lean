/- Sections and parts that join one. No condition. -/
import Derived.Test.YtfblegjbmhgepaaZcSort
set_option linter.all false
namespace Go.Zc

def nearL (l : Lay) (n : Int) : List Int := (around l ⟨n, 0⟩).map Ed.s ++ (around l ⟨n, 1⟩).map Ed.s
def near (l : Lay) (n : Int) : List Int := rise (nearL l n)
def partOf (l : Lay) (n : Int) : Int := match l.parts.findIdx? fun p => decide (n ∈ p) with
  | some i => i
  | none => -1
def besideL (l : Lay) (p : Int) (q : List Int) : List Int := q.flatMap fun s => ((near l s).map (partOf l)).filter fun k => decide (0 ≤ k) && decide (k ≠ p)
def partIx (l : Lay) (p : Int) : Option (List Int) := if 0 ≤ p then l.parts[p.toNat]? else none
def beside (l : Lay) (p : Int) : List Int := match partIx l p with
  | some q => rise (besideL l p q)
  | none => []
theorem partIx_some {l : Lay} {p : Int} {q : List Int} (h : partIx l p = some q) : ∃ n : Nat, ∃ hn : n < l.parts.length, p = n ∧ q = l.parts[n] := by
  unfold partIx at h
  split at h
  · obtain ⟨n, rfl⟩ := Int.eq_ofNat_of_zero_le ‹0 ≤ p›
    obtain ⟨hn, h⟩ := List.getElem?_eq_some_iff.1 h
    exact ⟨n, hn, rfl, h.symm⟩
  · cases h
theorem partIx_none {l : Lay} {p : Int} (h : partIx l p = none) : p < 0 ∨ (0 ≤ p ∧ (l.parts.length : Int) ≤ p) := by
  unfold partIx at h
  split at h
  · obtain ⟨n, rfl⟩ := Int.eq_ofNat_of_zero_le ‹0 ≤ p›
    have := List.getElem?_eq_none_iff.1 h
    right
    simp at this; omega
  · left; omega

theorem near_len (l : Lay) (n : Int) : (near l n).length ≤ 4 := by
  have h1 := nodup_le (rise_nodup (nearL l n)) (b := nearL l n) fun y hy => (rise_mem _ y).1 hy
  have hb0 := around_len l ⟨n, 0⟩
  have hb1 := around_len l ⟨n, 1⟩
  unfold near
  simp only [nearL, List.length_append, List.length_map] at h1 ⊢
  omega
end Go.Zc
