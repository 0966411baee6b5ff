/- The law GraphTracks, walked. -/
import Derived.Test.YtmkdhpjidhbijaaZcTk
set_option linter.all false
namespace Go.Proofs.Ytmkdhpjidhbijaa.Zt
open Go Go.Zc
set_option maxRecDepth 10000

set_option maxHeartbeats 1000000 in
theorem like_in (l : Lay) (hl : l.ok) (right : List Bool) (n : Int) (bl : List Blk) : ∀ (k : Nat) (e : Int), e + k = 3 → -1 ≤ e →
    l05_like_R2 ([(1, sl fB right), (2, .op (.loc 2) 0), (5, .vp (layC l)), (6, .int .i64 n), (7, .int .i64 e)], ⟨[(2, layC l)], bl⟩) =
      some (.norm, [(1, sl fB right), (2, .op (.loc 2) 0), (5, .vp (layC l)), (6, .int .i64 n)], ⟨[(2, layC l)], bl⟩)
  | 0, e, he, hm => by
    have h4 : ¬ (e < 3) := by omega
    rw [l05_like_R2_eq]
    simp only [l05_like_B2, l05_like_K2_norm, l05_like_K2_ret, l05_like_K2_exit, h4, y1, y2, y3, y4, y5, y6, y7, y8, y9, keepE, keepB, chk, CV.locs, CV.locv, CV.refs, CV.ref, pureOp, repC, takeN, resV, enterC, Nat.reduceAdd, Nat.reduceSub, Nat.reduceMul, Nat.reduceLeDiff, Nat.reduceLT, Nat.reduceBEq, Nat.reduceBNe, Nat.reduceEqDiff, ↓reduceIte, Int.reduceAdd, Int.reduceSub, Int.reduceMul, Int.reduceLT, Int.reduceLE, Int.reduceEq, Int.reduceNeg, Int.reduceToNat]
  | k + 1, e, he, hm => by
    have h4 : e < 3 := by omega
    have hw : IntKind.i64.wrap (e + 1) = e + 1 := wrap64 (by omega) (by omega)
    have ih := like_in l hl right n bl k (e + 1) (by omega) (by omega)
    have g1 := fun st H => gnext_F l hl ⟨n, e⟩ right st H
    have g2 := fun H => next_F l hl ⟨n, e⟩ right H
    have g3 := fun H => garound_F l hl ⟨n, e⟩ H
    have g4 := fun H => around_F l hl ⟨n, e⟩ H
    have g5 := fun st H => same_F (around l ⟨n, e⟩) (around l ⟨n, e⟩) (around_len2 l _) st H
    simp only [fE] at g1 g2 g3 g4
    cases hx : next l ⟨n, e⟩ right with
    | none =>
      simp only [hx, edC, fE] at g1 g2
      have hq := eqE ⟨0, 0⟩ ⟨0, 0⟩
      simp only [fE, decide_true'] at hq
      rw [l05_like_R2_eq]
      simp only [l05_like_B2, l05_like_K2_norm, l05_like_K2_ret, l05_like_K2_exit, h4, hw, graph_Graph_Next_call, g1, r05_Next_call, g2, graph_Graph_Around_call, g3, r05_Around_call, g4, l05_same_call, g5, hq, ih, y1, y2, y3, y4, y5, y6, y7, y8, y9, keepE, keepB, chk, CV.locs, CV.locv, CV.refs, CV.ref, pureOp, repC, takeN, resV, enterC, Nat.reduceAdd, Nat.reduceSub, Nat.reduceMul, Nat.reduceLeDiff, Nat.reduceLT, Nat.reduceBEq, Nat.reduceBNe, Nat.reduceEqDiff, ↓reduceIte, Int.reduceAdd, Int.reduceSub, Int.reduceMul, Int.reduceLT, Int.reduceLE, Int.reduceEq, Int.reduceNeg, Int.reduceToNat]
    | some y =>
      simp only [hx, edC, fE] at g1 g2
      have hq := eqE y y
      simp only [fE, decide_true'] at hq
      rw [l05_like_R2_eq]
      simp only [l05_like_B2, l05_like_K2_norm, l05_like_K2_ret, l05_like_K2_exit, h4, hw, graph_Graph_Next_call, g1, r05_Next_call, g2, graph_Graph_Around_call, g3, r05_Around_call, g4, l05_same_call, g5, hq, ih, y1, y2, y3, y4, y5, y6, y7, y8, y9, keepE, keepB, chk, CV.locs, CV.locv, CV.refs, CV.ref, pureOp, repC, takeN, resV, enterC, Nat.reduceAdd, Nat.reduceSub, Nat.reduceMul, Nat.reduceLeDiff, Nat.reduceLT, Nat.reduceBEq, Nat.reduceBNe, Nat.reduceEqDiff, ↓reduceIte, Int.reduceAdd, Int.reduceSub, Int.reduceMul, Int.reduceLT, Int.reduceLE, Int.reduceEq, Int.reduceNeg, Int.reduceToNat]

set_option maxHeartbeats 1000000 in
theorem like_out (l : Lay) (hl : l.ok) (hb : ∀ pt q, partIx l pt = some q → (besideL l pt q).length ≤ 12) (hb2 : ∀ pt, (beside l pt).length ≤ 12) (right : List Bool) : ∀ (k : Nat) (n : Int) (bl : List Blk), n + k = 8 → -2 ≤ n →
    ∃ bl', l05_like_R0 ([(1, sl fB right), (2, .op (.loc 2) 0), (5, .vp (layC l)), (6, .int .i64 n)], ⟨[(2, layC l)], bl⟩) = some (.norm, [], ⟨[], bl'⟩)
  | 0, n, bl, he, hm => by
    have h4 : ¬ (n < 8) := by omega
    refine ⟨bl, ?_⟩
    rw [l05_like_R0_eq]
    simp only [l05_like_B0, l05_like_K0_norm, l05_like_K0_ret, l05_like_K0_exit, h4, y1, y2, y3, y4, y5, y6, y7, y8, y9, keepE, keepB, chk, CV.locs, CV.locv, CV.refs, CV.ref, pureOp, repC, takeN, resV, enterC, Nat.reduceAdd, Nat.reduceSub, Nat.reduceMul, Nat.reduceLeDiff, Nat.reduceLT, Nat.reduceBEq, Nat.reduceBNe, Nat.reduceEqDiff, ↓reduceIte, Int.reduceAdd, Int.reduceSub, Int.reduceMul, Int.reduceLT, Int.reduceLE, Int.reduceEq, Int.reduceNeg, Int.reduceToNat]
  | k + 1, n, bl, he, hm => by
    have h4 : n < 8 := by omega
    have hw : IntKind.i64.wrap (n + 1) = n + 1 := wrap64 (by omega) (by omega)
    obtain ⟨v, bl1, e1, o1, _, _⟩ := gends_F l hl n false [] bl
    obtain ⟨bl', ih⟩ := like_out l hl hb hb2 right k (n + 1) bl1 (by omega) (by omega)
    refine ⟨bl', ?_⟩
    have hs := fun st => snapE_own o1 [] st
    have hin := like_in l hl right n bl1 4 (-1) (by omega) (by omega)
    have g1 := fun st H => gpoint_F l hl n st H
    have g2 := fun st H => point_F l hl n st H
    have g3 := fun st H => ends_F l hl n st H
    have g4 := fun st H => same_F (ends l n) (ends l n) (ends_len hl n) st H
    have g5 := fun st H => gnear_F l hl n st H
    have g6 := fun H => near_F l hl n H
    have g7 := fun st H => ints_F (near l n) (near l n) (by have := near_len l n; unfold Zc.small; omega) st H
    have g8 := fun st H => gpart_F l hl n st H
    have g9 := fun st H => part_F l hl n st H
    have g10 := fun st H => gbeside_F l hl n (hb n) st H
    have g11 := fun H => beside_F l hl n (hb n) H
    have g12 := fun st H => ints_F (beside l n) (beside l n) (by have := hb2 n; unfold Zc.small; omega) st H
    have g13 := fun st H => glen_F l n st H
    have g14 := fun st H => len_F l n st H
    cases hz : ptOf l n with
    | none =>
      simp only [hz] at g1 g2
      rw [l05_like_R0_eq]
      simp only [l05_like_B0, l05_like_K0_norm, l05_like_K0_ret, l05_like_K0_exit, l05_like_L2_eq, h4, hw, graph_Graph_Point_call, g1, r05_Point_call, g2, graph_Graph_Ends_call, e1, o1.one, o1.locv, o1.cells, hs, r05_Ends_call, g3, l05_same_call, g4, graph_Graph_Near_call, g5, r05_Near_call, g6, r01_Ints_call, g7, graph_Graph_Part_call, g8, r05_Part_call, g9, graph_Graph_Beside_call, g10, r05_Beside_call, g11, g12, graph_Graph_Len_call, g13, r05_Len_call, g14, hin, ih, y1, y2, y3, y4, y5, y6, y7, y8, y9, keepE, keepB, chk, CV.locs, CV.locv, CV.refs, CV.ref, pureOp, repC, takeN, resV, enterC, Nat.reduceAdd, Nat.reduceSub, Nat.reduceMul, Nat.reduceLeDiff, Nat.reduceLT, Nat.reduceBEq, Nat.reduceBNe, Nat.reduceEqDiff, ↓reduceIte, Int.reduceAdd, Int.reduceSub, Int.reduceMul, Int.reduceLT, Int.reduceLE, Int.reduceEq, Int.reduceNeg, Int.reduceToNat]
    | some i =>
      simp only [hz] at g1 g2
      rw [l05_like_R0_eq]
      simp only [l05_like_B0, l05_like_K0_norm, l05_like_K0_ret, l05_like_K0_exit, l05_like_L2_eq, h4, hw, graph_Graph_Point_call, g1, r05_Point_call, g2, graph_Graph_Ends_call, e1, o1.one, o1.locv, o1.cells, hs, r05_Ends_call, g3, l05_same_call, g4, graph_Graph_Near_call, g5, r05_Near_call, g6, r01_Ints_call, g7, graph_Graph_Part_call, g8, r05_Part_call, g9, graph_Graph_Beside_call, g10, r05_Beside_call, g11, g12, graph_Graph_Len_call, g13, r05_Len_call, g14, hin, ih, y1, y2, y3, y4, y5, y6, y7, y8, y9, keepE, keepB, chk, CV.locs, CV.locv, CV.refs, CV.ref, pureOp, repC, takeN, resV, enterC, Nat.reduceAdd, Nat.reduceSub, Nat.reduceMul, Nat.reduceLeDiff, Nat.reduceLT, Nat.reduceBEq, Nat.reduceBNe, Nat.reduceEqDiff, ↓reduceIte, Int.reduceAdd, Int.reduceSub, Int.reduceMul, Int.reduceLT, Int.reduceLE, Int.reduceEq, Int.reduceNeg, Int.reduceToNat]

theorem graphTracks_F (d : Draft) (hd : d.ok) (right : List Bool) (st : Bool) (H : Heap) : l05_GraphTracks_F st H [.agg (draftC d), sl fB right] = some (.bool true, H) := by
  rw [l05_GraphTracks_F_eq]
  have hj := joins05_F
  have hsF := fun st H => small_F d hd st H
  cases hs : d.small with
  | false =>
    simp only [hs] at hsF
    simp only [l05_GraphTracks_C, l05_joins_call, hj, r04_Small_call, hsF, y1, y2, y3, y4, y5, y6, y7, y8, y9, keepE, keepB, chk, CV.locs, CV.locv, CV.refs, CV.ref, pureOp, repC, takeN, resV, enterC, Nat.reduceAdd, Nat.reduceSub, Nat.reduceMul, Nat.reduceLeDiff, Nat.reduceLT, Nat.reduceBEq, Nat.reduceBNe, Nat.reduceEqDiff, ↓reduceIte, Int.reduceAdd, Int.reduceSub, Int.reduceMul, Int.reduceLT, Int.reduceLE, Int.reduceEq, Int.reduceNeg, Int.reduceToNat]
  | true =>
    simp only [hs] at hsF
    by_cases hr : 20 < right.length
    · have hr' : ((20 : Int) < right.length) := by omega
      simp only [l05_GraphTracks_C, l05_joins_call, hj, r04_Small_call, hsF, hr', y1, y2, y3, y4, y5, y6, y7, y8, y9, keepE, keepB, chk, CV.locs, CV.locv, CV.refs, CV.ref, pureOp, repC, takeN, resV, enterC, Nat.reduceAdd, Nat.reduceSub, Nat.reduceMul, Nat.reduceLeDiff, Nat.reduceLT, Nat.reduceBEq, Nat.reduceBNe, Nat.reduceEqDiff, ↓reduceIte, Int.reduceAdd, Int.reduceSub, Int.reduceMul, Int.reduceLT, Int.reduceLE, Int.reduceEq, Int.reduceNeg, Int.reduceToNat]
    · have hr' : ¬ ((20 : Int) < right.length) := by omega
      obtain ⟨bl', hL⟩ := like_out (full d) (full_ok d) (full_beside d hd) (beside_len d hd) right 10 (-2) [] (by omega) (by omega)
      have hlk : ∀ H, l05_like_F false H [.agg (layC (full d)), sl fB right] = some (.bool true, H) := by
        intro H
        rw [l05_like_F_eq]
        simp only [l05_like_C, l05_like_L0_eq, graph_New_call, gnew5_F, hL, y1, y2, y3, y4, y5, y6, y7, y8, y9, keepE, keepB, chk, CV.locs, CV.locv, CV.refs, CV.ref, pureOp, repC, takeN, resV, enterC, Nat.reduceAdd, Nat.reduceSub, Nat.reduceMul, Nat.reduceLeDiff, Nat.reduceLT, Nat.reduceBEq, Nat.reduceBNe, Nat.reduceEqDiff, ↓reduceIte, Int.reduceAdd, Int.reduceSub, Int.reduceMul, Int.reduceLT, Int.reduceLE, Int.reduceEq, Int.reduceNeg, Int.reduceToNat]
      simp only [l05_GraphTracks_C, l05_joins_call, hj, r04_Small_call, hsF, hr', r05_Full_call, full_F d hd, l05_like_call, hlk, y1, y2, y3, y4, y5, y6, y7, y8, y9, keepE, keepB, chk, CV.locs, CV.locv, CV.refs, CV.ref, pureOp, repC, takeN, resV, enterC, Nat.reduceAdd, Nat.reduceSub, Nat.reduceMul, Nat.reduceLeDiff, Nat.reduceLT, Nat.reduceBEq, Nat.reduceBNe, Nat.reduceEqDiff, ↓reduceIte, Int.reduceAdd, Int.reduceSub, Int.reduceMul, Int.reduceLT, Int.reduceLE, Int.reduceEq, Int.reduceNeg, Int.reduceToNat]
end Go.Proofs.Ytmkdhpjidhbijaa.Zt
