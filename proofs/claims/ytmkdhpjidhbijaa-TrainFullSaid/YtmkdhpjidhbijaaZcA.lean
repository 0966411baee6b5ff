/- Walks: lists of numbers. -/
import Derived.Test.YtmkdhpjidhbijaaZcT
import Derived.Test.YtmkdhpjidhbijaaZcSet
set_option linter.all false
namespace Go.Proofs.Ytmkdhpjidhbijaa.Zt
open Go Go.Zc
set_option maxRecDepth 10000

theorem ints_loop : ∀ (sa sb pa pb : List Int), pa.length = pb.length → sa.length = sb.length → (pa ++ sa).length ≤ small →
    r01_Ints_R0 ([(0, sl fI (pa ++ sa)), (1, sl fI (pb ++ sb)), (5, .int .i64 pa.length)], ⟨[], []⟩) = if sa = sb then some (.norm, [], ⟨[], []⟩) else some (.ret, [(4, .bool false)], ⟨[], []⟩)
  | [], [], pa, pb, hp, hs, hm => by
    rw [r01_Ints_R0_eq]
    simp only [r01_Ints_B0, r01_Ints_K0_norm, r01_Ints_K0_ret, r01_Ints_K0_exit, y1, y2, y3, y4, y5, y6, y7, y8, y9, keepE, keepB, chk, CV.locs, CV.locv, CV.refs, CV.ref, pureOp, repC, takeN, resV, enterC, Nat.reduceAdd, Nat.reduceSub, Nat.reduceMul, Nat.reduceLeDiff, Nat.reduceLT, Nat.reduceBEq, Nat.reduceBNe, Nat.reduceEqDiff, ↓reduceIte, Int.reduceAdd, Int.reduceSub, Int.reduceMul, Int.reduceLT, Int.reduceLE, Int.reduceEq, Int.reduceNeg, Int.reduceToNat]
  | x :: sa, y :: sb, pa, pb, hp, hs, hm => by
    rw [r01_Ints_R0_eq]
    have h1 : ((pa.length : Int) < (pa ++ x :: sa).length) := by simp; omega
    have h2 := iaddr_midI .i64 pb sb y
    rw [← hp] at h2
    have hw := wrapN (n := pa.length) (by simp at hm; omega)
    have ih := ints_loop sa sb (pa ++ [x]) (pb ++ [y]) (by simpa using hp) (by simpa using hs) (by simpa using hm)
    simp only [List.append_assoc, List.cons_append, List.nil_append, List.length_append, List.length_cons, List.length_nil] at ih
    simp only [r01_Ints_B0, r01_Ints_K0_norm, r01_Ints_K0_ret, r01_Ints_K0_exit, h1, iaddr_midI, h2, hw, y1, y2, y3, y4, y5, y6, y7, y8, y9, keepE, keepB, chk, CV.locs, CV.locv, CV.refs, CV.ref, pureOp, repC, takeN, resV, enterC, Nat.reduceAdd, Nat.reduceSub, Nat.reduceMul, Nat.reduceLeDiff, Nat.reduceLT, Nat.reduceBEq, Nat.reduceBNe, Nat.reduceEqDiff, ↓reduceIte, Int.reduceAdd, Int.reduceSub, Int.reduceMul, Int.reduceLT, Int.reduceLE, Int.reduceEq, Int.reduceNeg, Int.reduceToNat, ih]
    by_cases he : x = y <;> simp [he]

theorem ints_F (a b : List Int) (hm : a.length ≤ small) (st : Bool) (H : Heap) : r01_Ints_F st H [sl fI a, sl fI b] = some (.bool (decide (a = b)), H) := by
  rw [r01_Ints_F_eq]
  by_cases hl : a.length = b.length
  · have := ints_loop a b [] [] rfl hl hm
    simp only [List.nil_append, List.length_nil, Int.natCast_zero] at this
    simp only [r01_Ints_C, r01_Ints_L0_eq, this, hl, y1, y2, y3, y4, y5, y6, y7, y8, y9, keepE, keepB, chk, CV.locs, CV.locv, CV.refs, CV.ref, pureOp, repC, takeN, resV, enterC, Nat.reduceAdd, Nat.reduceSub, Nat.reduceMul, Nat.reduceLeDiff, Nat.reduceLT, Nat.reduceBEq, Nat.reduceBNe, Nat.reduceEqDiff, ↓reduceIte, Int.reduceAdd, Int.reduceSub, Int.reduceMul, Int.reduceLT, Int.reduceLE, Int.reduceEq, Int.reduceNeg, Int.reduceToNat]
    by_cases he : a = b <;> simp only [he, y1, y2, y3, y4, y5, y6, y7, y8, y9, keepE, keepB, chk, CV.locs, CV.locv, CV.refs, CV.ref, pureOp, repC, takeN, resV, enterC, Nat.reduceAdd, Nat.reduceSub, Nat.reduceMul, Nat.reduceLeDiff, Nat.reduceLT, Nat.reduceBEq, Nat.reduceBNe, Nat.reduceEqDiff, ↓reduceIte, Int.reduceAdd, Int.reduceSub, Int.reduceMul, Int.reduceLT, Int.reduceLE, Int.reduceEq, Int.reduceNeg, Int.reduceToNat]
  · have hl' : ¬ ((a.length : Int) = b.length) := by omega
    have he : a ≠ b := fun h => hl (by rw [h])
    simp only [r01_Ints_C, hl', he, y1, y2, y3, y4, y5, y6, y7, y8, y9, keepE, keepB, chk, CV.locs, CV.locv, CV.refs, CV.ref, pureOp, repC, takeN, resV, enterC, Nat.reduceAdd, Nat.reduceSub, Nat.reduceMul, Nat.reduceLeDiff, Nat.reduceLT, Nat.reduceBEq, Nat.reduceBNe, Nat.reduceEqDiff, ↓reduceIte, Int.reduceAdd, Int.reduceSub, Int.reduceMul, Int.reduceLT, Int.reduceLE, Int.reduceEq, Int.reduceNeg, Int.reduceToNat]

theorem has_loop (n : Int) : ∀ (s p : List Int), (p ++ s).length ≤ small →
    r01_Has_R0 ([(0, sl fI (p ++ s)), (1, .int .i64 n), (5, .int .i64 p.length)], ⟨[], []⟩) = if n ∈ s then some (.ret, [(4, .bool true)], ⟨[], []⟩) else some (.norm, [], ⟨[], []⟩)
  | [], p, hm => by
    rw [r01_Has_R0_eq]
    simp only [r01_Has_B0, r01_Has_K0_norm, r01_Has_K0_ret, r01_Has_K0_exit, List.not_mem_nil, y1, y2, y3, y4, y5, y6, y7, y8, y9, keepE, keepB, chk, CV.locs, CV.locv, CV.refs, CV.ref, pureOp, repC, takeN, resV, enterC, Nat.reduceAdd, Nat.reduceSub, Nat.reduceMul, Nat.reduceLeDiff, Nat.reduceLT, Nat.reduceBEq, Nat.reduceBNe, Nat.reduceEqDiff, ↓reduceIte, Int.reduceAdd, Int.reduceSub, Int.reduceMul, Int.reduceLT, Int.reduceLE, Int.reduceEq, Int.reduceNeg, Int.reduceToNat]
  | x :: s, p, hm => by
    rw [r01_Has_R0_eq]
    have h1 : ((p.length : Int) < (p ++ x :: s).length) := by simp; omega
    have hw := wrapN (n := p.length) (by simp at hm; omega)
    have ih := has_loop n s (p ++ [x]) (by simpa using hm)
    simp only [List.append_assoc, List.cons_append, List.nil_append, List.length_append, List.length_cons, List.length_nil] at ih
    simp only [r01_Has_B0, r01_Has_K0_norm, r01_Has_K0_ret, r01_Has_K0_exit, h1, iaddr_midI, hw, y1, y2, y3, y4, y5, y6, y7, y8, y9, keepE, keepB, chk, CV.locs, CV.locv, CV.refs, CV.ref, pureOp, repC, takeN, resV, enterC, Nat.reduceAdd, Nat.reduceSub, Nat.reduceMul, Nat.reduceLeDiff, Nat.reduceLT, Nat.reduceBEq, Nat.reduceBNe, Nat.reduceEqDiff, ↓reduceIte, Int.reduceAdd, Int.reduceSub, Int.reduceMul, Int.reduceLT, Int.reduceLE, Int.reduceEq, Int.reduceNeg, Int.reduceToNat, ih]
    by_cases he : x = n
    · simp [he]
    · have : n ≠ x := fun h => he h.symm
      simp [he, this]

theorem has_F (a : List Int) (n : Int) (hm : a.length ≤ small) (st : Bool) (H : Heap) : r01_Has_F st H [sl fI a, .int .i64 n] = some (.bool (decide (n ∈ a)), H) := by
  rw [r01_Has_F_eq]
  have := has_loop n a [] hm
  simp only [List.nil_append, List.length_nil, Int.natCast_zero] at this
  simp only [r01_Has_C, r01_Has_L0_eq, this, y1, y2, y3, y4, y5, y6, y7, y8, y9, keepE, keepB, chk, CV.locs, CV.locv, CV.refs, CV.ref, pureOp, repC, takeN, resV, enterC, Nat.reduceAdd, Nat.reduceSub, Nat.reduceMul, Nat.reduceLeDiff, Nat.reduceLT, Nat.reduceBEq, Nat.reduceBNe, Nat.reduceEqDiff, ↓reduceIte, Int.reduceAdd, Int.reduceSub, Int.reduceMul, Int.reduceLT, Int.reduceLE, Int.reduceEq, Int.reduceNeg, Int.reduceToNat]
  by_cases he : n ∈ a <;> simp only [he, y1, y2, y3, y4, y5, y6, y7, y8, y9, keepE, keepB, chk, CV.locs, CV.locv, CV.refs, CV.ref, pureOp, repC, takeN, resV, enterC, Nat.reduceAdd, Nat.reduceSub, Nat.reduceMul, Nat.reduceLeDiff, Nat.reduceLT, Nat.reduceBEq, Nat.reduceBNe, Nat.reduceEqDiff, ↓reduceIte, Int.reduceAdd, Int.reduceSub, Int.reduceMul, Int.reduceLT, Int.reduceLE, Int.reduceEq, Int.reduceNeg, Int.reduceToNat]
end Go.Proofs.Ytmkdhpjidhbijaa.Zt
