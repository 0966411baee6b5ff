/- Walks: slices.Clone of numbers. -/
import Derived.Test.YtmjffmghkfappaaZcI
import Derived.Test.YtmjffmghkfappaaZcStore
set_option linter.all false
namespace Go.Proofs.Ytmjffmghkfappaa.Zt
open Go Go.Zc
set_option maxRecDepth 10000

theorem snapI1 (st : Bool) (H : Heap) (x : Int) : ∀ c ∈ fI x, snap H st false c = some c := snap_I H st false 7 x
/-- Own, of a literal without elements. -/
theorem own_empty {α : Type} (f : α → List CV) (sz : Nat) (bl : List Blk) : Own f sz (bl ++ [.cells []]) (.os sz (.blk bl.length) 0 0) [] := .inr ⟨bl.length, rfl, by simp⟩

theorem clone_F (l : List Int) (h0 : l ≠ []) (hm : l.length ≤ 4 * Zc.small) (bl : List Blk) :
    ∃ v bl', (∀ st bx, slices_Clone_int_F st ⟨bx, bl⟩ [sl fI l] = some (v, ⟨bx, bl'⟩)) ∧ Own fI 1 bl' v l ∧ (∀ (k : Nat) (b : Blk), bl[k]? = some b → bl'[k]? = some b) ∧ (∀ k, blkOf v = some k → bl.length ≤ k) := by
  have hn : binC .eql .sl (sl fI l) .nils = some (.bool false) := by
    cases l with
    | nil => cases h0 rfl
    | cons a r => rfl
  obtain ⟨v1, bl1, e1, o1, _⟩ := (own_empty fI 1 []).appSl flatI (bytes := 8) (zero := [.int .i64 0]) (by decide) rfl rfl l (by unfold Zc.small at hm; simp; omega)
  rw [List.nil_append] at o1 e1
  obtain ⟨v2, bl2, e2, o2, h3, h4⟩ := o1.handed' flatI bl (fun st H x => snapI1 st H x)
  refine ⟨v2, bl2, fun st bx => ?_, o2, h3, h4⟩
  rw [slices_Clone_int_F_eq]
  simp only [List.length_nil] at e1
  simp only [slices_Clone_int_C, hn, e1, e2, y1, y2, y3, y4, y5, y6, y7, y8, y9, keepE, keepB, chk, CV.locs, CV.locv, CV.refs, CV.ref, pureOp, repC, takeN, resV, enterC, Nat.reduceAdd, Nat.reduceSub, Nat.reduceMul, Nat.reduceLeDiff, Nat.reduceLT, Nat.reduceBEq, Nat.reduceBNe, Nat.reduceEqDiff, ↓reduceIte, Int.reduceAdd, Int.reduceSub, Int.reduceMul, Int.reduceLT, Int.reduceLE, Int.reduceEq, Int.reduceNeg, Int.reduceToNat]

end Go.Proofs.Ytmjffmghkfappaa.Zt
