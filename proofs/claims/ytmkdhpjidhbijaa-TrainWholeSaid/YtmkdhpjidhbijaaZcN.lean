/- Walks: may a report be so, as the program tells. -/
import Derived.Test.YtmkdhpjidhbijaaZcM2
set_option linter.all false
namespace Go.Proofs.Ytmkdhpjidhbijaa.Zt
open Go Go.Zc
set_option maxRecDepth 10000

set_option maxHeartbeats 1000000 in
theorem tfits_F (l : Lay) (hl : l.ok) (m : Msg) (st : Bool) (H : Heap) : train_Fits_F st H [.vp (layC l), .agg (msgC m)] = some (.bool (fits l m), H) := by
  rw [train_Fits_F_eq]
  obtain ⟨kind, train, time, dir, ahead, whole, trail⟩ := m
  cases trail with
  | nil => simp only [train_Fits_C, fits, Int.natCast_zero, y1, y2, y3, y4, y5, y6, y7, y8, y9, keepE, keepB, chk, CV.locs, CV.locv, CV.refs, CV.ref, pureOp, repC, takeN, resV, enterC, Nat.reduceAdd, Nat.reduceSub, Nat.reduceMul, Nat.reduceLeDiff, Nat.reduceLT, Nat.reduceBEq, Nat.reduceBNe, Nat.reduceEqDiff, ↓reduceIte, Int.reduceAdd, Int.reduceSub, Int.reduceMul, Int.reduceLT, Int.reduceLE, Int.reduceEq, Int.reduceNeg, Int.reduceToNat]
  | cons h t =>
    have h1 : ¬ (((t.length + 1 : Nat) : Int) < 1) := by omega
    by_cases h2 : t.length + 1 ≤ 12
    · have h2' : ¬ (12 : Int) < ((t.length + 1 : Nat) : Int) := by omega
      have hu := fun st H => unlike_F l (h :: t) (by unfold Zc.small; simp; omega) st H
      cases h3 : unlFrom l [] (h :: t) with
      | false =>
        simp only [h3] at hu
        simp only [train_Fits_C, fits, h1, h2', h3, train_unlike_call, hu, y1, y2, y3, y4, y5, y6, y7, y8, y9, keepE, keepB, chk, CV.locs, CV.locv, CV.refs, CV.ref, pureOp, repC, takeN, resV, enterC, Nat.reduceAdd, Nat.reduceSub, Nat.reduceMul, Nat.reduceLeDiff, Nat.reduceLT, Nat.reduceBEq, Nat.reduceBNe, Nat.reduceEqDiff, ↓reduceIte, Int.reduceAdd, Int.reduceSub, Int.reduceMul, Int.reduceLT, Int.reduceLE, Int.reduceEq, Int.reduceNeg, Int.reduceToNat]
      | true =>
        simp only [h3] at hu
        by_cases h4 : dir < 0
        · have h4' : ¬ 0 ≤ dir := by omega
          simp only [train_Fits_C, fits, h1, h2', h3, h4, h4', train_unlike_call, hu, y1, y2, y3, y4, y5, y6, y7, y8, y9, keepE, keepB, chk, CV.locs, CV.locv, CV.refs, CV.ref, pureOp, repC, takeN, resV, enterC, Nat.reduceAdd, Nat.reduceSub, Nat.reduceMul, Nat.reduceLeDiff, Nat.reduceLT, Nat.reduceBEq, Nat.reduceBNe, Nat.reduceEqDiff, ↓reduceIte, Int.reduceAdd, Int.reduceSub, Int.reduceMul, Int.reduceLT, Int.reduceLE, Int.reduceEq, Int.reduceNeg, Int.reduceToNat]
        · have h4' : 0 ≤ dir := by omega
          by_cases h5 : 1 < dir
          · have h5' : ¬ dir ≤ 1 := by omega
            simp only [train_Fits_C, fits, h1, h2', h3, h4, h5, h5', train_unlike_call, hu, y1, y2, y3, y4, y5, y6, y7, y8, y9, keepE, keepB, chk, CV.locs, CV.locv, CV.refs, CV.ref, pureOp, repC, takeN, resV, enterC, Nat.reduceAdd, Nat.reduceSub, Nat.reduceMul, Nat.reduceLeDiff, Nat.reduceLT, Nat.reduceBEq, Nat.reduceBNe, Nat.reduceEqDiff, ↓reduceIte, Int.reduceAdd, Int.reduceSub, Int.reduceMul, Int.reduceLT, Int.reduceLE, Int.reduceEq, Int.reduceNeg, Int.reduceToNat]
          · have h5' : dir ≤ 1 := by omega
            by_cases h6 : ahead < 0
            · have h6' : ¬ 0 ≤ ahead := by omega
              simp only [train_Fits_C, fits, h1, h2', h3, h4, h5, h6, h6', train_unlike_call, hu, y1, y2, y3, y4, y5, y6, y7, y8, y9, keepE, keepB, chk, CV.locs, CV.locv, CV.refs, CV.ref, pureOp, repC, takeN, resV, enterC, Nat.reduceAdd, Nat.reduceSub, Nat.reduceMul, Nat.reduceLeDiff, Nat.reduceLT, Nat.reduceBEq, Nat.reduceBNe, Nat.reduceEqDiff, ↓reduceIte, Int.reduceAdd, Int.reduceSub, Int.reduceMul, Int.reduceLT, Int.reduceLE, Int.reduceEq, Int.reduceNeg, Int.reduceToNat]
            · have h6' : 0 ≤ ahead := by omega
              by_cases h7 : lenAt l h < ahead
              · have h7' : ¬ ahead ≤ lenAt l h := by omega
                simp only [train_Fits_C, fits, h1, h2', h3, h4, h5, h6, h7, h7', train_unlike_call, hu, iaddr_0I, graph_Graph_Len_call, glen_F, y1, y2, y3, y4, y5, y6, y7, y8, y9, keepE, keepB, chk, CV.locs, CV.locv, CV.refs, CV.ref, pureOp, repC, takeN, resV, enterC, Nat.reduceAdd, Nat.reduceSub, Nat.reduceMul, Nat.reduceLeDiff, Nat.reduceLT, Nat.reduceBEq, Nat.reduceBNe, Nat.reduceEqDiff, ↓reduceIte, Int.reduceAdd, Int.reduceSub, Int.reduceMul, Int.reduceLT, Int.reduceLE, Int.reduceEq, Int.reduceNeg, Int.reduceToNat]
              · have h7' : ahead ≤ lenAt l h := by omega
                have hw : IntKind.i64.wrap (1 - dir) = 1 - dir := wrap64 (by omega) (by omega)
                obtain ⟨bl', bx', e⟩ := tfits_loop l hl t (by unfold Zc.small; omega) t [] ⟨h, 1 - dir⟩ [] rfl
                simp only [fE, List.nil_append, List.length_nil, Int.natCast_zero] at e
                cases h8 : follows l ⟨h, 1 - dir⟩ t with
                | true =>
                  rw [h8, if_pos rfl] at e
                  simp only [train_Fits_C, train_Fits_L0_eq, fits, h1, h2, h2', h3, h4, h4', h5, h5', h6, h6', h7, h7', h8, hw, train_unlike_call, hu, iaddr_0I, slc_1I, graph_Graph_Len_call, glen_F, e, y1, y2, y3, y4, y5, y6, y7, y8, y9, keepE, keepB, chk, CV.locs, CV.locv, CV.refs, CV.ref, pureOp, repC, takeN, resV, enterC, Nat.reduceAdd, Nat.reduceSub, Nat.reduceMul, Nat.reduceLeDiff, Nat.reduceLT, Nat.reduceBEq, Nat.reduceBNe, Nat.reduceEqDiff, ↓reduceIte, Int.reduceAdd, Int.reduceSub, Int.reduceMul, Int.reduceLT, Int.reduceLE, Int.reduceEq, Int.reduceNeg, Int.reduceToNat]
                | false =>
                  rw [h8, if_neg (by decide)] at e
                  simp only [train_Fits_C, train_Fits_L0_eq, fits, h1, h2, h2', h3, h4, h4', h5, h5', h6, h6', h7, h7', h8, hw, train_unlike_call, hu, iaddr_0I, slc_1I, graph_Graph_Len_call, glen_F, e, y1, y2, y3, y4, y5, y6, y7, y8, y9, keepE, keepB, chk, CV.locs, CV.locv, CV.refs, CV.ref, pureOp, repC, takeN, resV, enterC, Nat.reduceAdd, Nat.reduceSub, Nat.reduceMul, Nat.reduceLeDiff, Nat.reduceLT, Nat.reduceBEq, Nat.reduceBNe, Nat.reduceEqDiff, ↓reduceIte, Int.reduceAdd, Int.reduceSub, Int.reduceMul, Int.reduceLT, Int.reduceLE, Int.reduceEq, Int.reduceNeg, Int.reduceToNat]
    · have h2' : (12 : Int) < ((t.length + 1 : Nat) : Int) := by omega
      simp only [train_Fits_C, fits, h1, h2, h2', y1, y2, y3, y4, y5, y6, y7, y8, y9, keepE, keepB, chk, CV.locs, CV.locv, CV.refs, CV.ref, pureOp, repC, takeN, resV, enterC, Nat.reduceAdd, Nat.reduceSub, Nat.reduceMul, Nat.reduceLeDiff, Nat.reduceLT, Nat.reduceBEq, Nat.reduceBNe, Nat.reduceEqDiff, ↓reduceIte, Int.reduceAdd, Int.reduceSub, Int.reduceMul, Int.reduceLT, Int.reduceLE, Int.reduceEq, Int.reduceNeg, Int.reduceToNat]
end Go.Proofs.Ytmkdhpjidhbijaa.Zt
