/- Walks: the sections that join one. -/
import Derived.Test.YtmjffmghkfappaaZcU
import Derived.Test.YtmjffmghkfappaaZcNear
set_option linter.all false
namespace Go.Proofs.Ytmjffmghkfappaa.Zt
open Go Go.Zc
set_option maxRecDepth 10000

theorem gnear_in (lc n c : CV) (hlc : lc.locv = false) (hn : n.locv = false) (hc : c.locv = false) : ∀ (s p : List Ed) (acc : List Int) (v : CV) (bl : List Blk), (p ++ s).length ≤ 2 * Zc.small → acc.length + s.length ≤ 2 * Zc.small → Own fI 1 bl v acc →
    ∃ v' bl', graph_Graph_Near_R2 ([(0, lc), (1, n), (5, v), (9, c), (16, sl fE (p ++ s)), (17, .int .i64 (p ++ s).length), (18, .int .i64 p.length)], ⟨[], bl⟩) = some (.norm, [(0, lc), (1, n), (5, v'), (9, c)], ⟨[], bl'⟩) ∧ Own fI 1 bl' v' (acc ++ s.map Ed.s)
  | [], p, acc, v, bl, hm, ha, hO => by
    refine ⟨v, bl, ?_, by simpa using hO⟩
    have h1 := chkV_of hlc
    have h2 := chkV_of hn
    have h3 := chkV_of hc
    rw [graph_Graph_Near_R2_eq]
    simp only [graph_Graph_Near_B2, graph_Graph_Near_K2_norm, graph_Graph_Near_K2_ret, graph_Graph_Near_K2_exit, h1, h2, h3, hO.chkV, y1, y2, y3, y4, y5, y6, y7, y8, y9, keepE, keepB, chk, CV.locs, CV.locv, CV.refs, CV.ref, pureOp, repC, takeN, resV, enterC, Nat.reduceAdd, Nat.reduceSub, Nat.reduceMul, Nat.reduceLeDiff, Nat.reduceLT, Nat.reduceBEq, Nat.reduceBNe, Nat.reduceEqDiff, ↓reduceIte, Int.reduceAdd, Int.reduceSub, Int.reduceMul, Int.reduceLT, Int.reduceLE, Int.reduceEq, Int.reduceNeg, Int.reduceToNat]
  | x :: s, p, acc, v, bl, hm, ha, hO => by
    have h1 := chkV_of hlc
    have h2 := chkV_of hn
    have h3 := chkV_of hc
    have h4 : ((p.length : Int) < (p ++ x :: s).length) := by simp; omega
    have hw := wrapN (n := p.length) (by simp at hm; omega)
    simp only [List.length_cons] at ha
    have ha' := ha
    unfold Zc.small at ha'
    obtain ⟨v1, bl1, e1, o1, _⟩ := hO.app1 flatI (bytes := 8) (zero := [.int .i64 0]) (by decide) rfl rfl x.s (by omega)
    obtain ⟨v', bl', e, o⟩ := gnear_in lc n c hlc hn hc s (p ++ [x]) (acc ++ [x.s]) v1 bl1 (by simpa using hm) (by simp; omega) o1
    simp only [fI] at e1
    simp only [List.append_assoc, List.cons_append, List.nil_append, List.length_append, List.length_cons, List.length_nil] at e h4
    refine ⟨v', bl', ?_, by simpa using o⟩
    rw [graph_Graph_Near_R2_eq]
    simp only [graph_Graph_Near_B2, graph_Graph_Near_K2_norm, graph_Graph_Near_K2_ret, graph_Graph_Near_K2_exit, List.append_assoc, List.cons_append, List.nil_append, List.length_append, List.length_cons, List.length_nil, h4, iaddr_midE, hw, h1, h2, h3, hO.chkV, e1, o1.chkV, e, y1, y2, y3, y4, y5, y6, y7, y8, y9, keepE, keepB, chk, CV.locs, CV.locv, CV.refs, CV.ref, pureOp, repC, takeN, resV, enterC, Nat.reduceAdd, Nat.reduceSub, Nat.reduceMul, Nat.reduceLeDiff, Nat.reduceLT, Nat.reduceBEq, Nat.reduceBNe, Nat.reduceEqDiff, ↓reduceIte, Int.reduceAdd, Int.reduceSub, Int.reduceMul, Int.reduceLT, Int.reduceLE, Int.reduceEq, Int.reduceNeg, Int.reduceToNat]

theorem gnear_F (l : Lay) (hl : l.ok) (n : Int) (st : Bool) (H : Heap) : graph_Graph_Near_F st H [.vp (layC l), .int .i64 n] = some (sl fI (near l n), H) := by
  have hb0 := around_len l ⟨n, 0⟩
  have hb1 := around_len l ⟨n, 1⟩
  have hx := fun e => garound_F l hl ⟨n, e⟩
  simp only [fE] at hx
  obtain ⟨v1, bl1, e1, o1⟩ := gnear_in (.vp (layC l)) (.int .i64 n) (.int .i64 0) rfl rfl rfl (around l ⟨n, 0⟩) [] [] .nils [] (by unfold Zc.small; simp; omega) (by unfold Zc.small; simp; omega) (Own.nil _ _ _)
  simp only [List.nil_append, List.length_nil, Int.natCast_zero] at e1 o1
  obtain ⟨v2, bl2, e2, o2⟩ := gnear_in (.vp (layC l)) (.int .i64 n) (.int .i64 1) rfl rfl rfl (around l ⟨n, 1⟩) [] _ v1 bl1 (by unfold Zc.small; simp; omega) (by unfold Zc.small; simp; omega) o1
  simp only [List.nil_append, List.length_nil, Int.natCast_zero] at e2 o2
  have hlen : (nearL l n).length ≤ 12 := by simp [nearL]; omega
  obtain ⟨bl3, e3, o3, _⟩ := sort_F v2 (nearL l n) hlen [] bl2 o2
  obtain ⟨v4, bl4, e4, o4, _⟩ := compact_F v2 (isort (nearL l n)) (by rw [(isort_perm _).length_eq]; unfold Zc.small; omega) [] bl3 o3
  rw [compact_isort] at o4
  have hs := fun bx => o4.snapV flatI bx st _ (snap_I ⟨bx, bl4⟩ st false 6)
  rw [graph_Graph_Near_F_eq]
  have hL : graph_Graph_Near_R0 ([(0, .vp (layC l)), (1, .int .i64 n), (5, .nils), (9, .int .i64 0)], ⟨[], []⟩) = some (.norm, [(5, v2)], ⟨[], bl2⟩) := by
    rw [graph_Graph_Near_R0_eq]
    simp only [graph_Graph_Near_B0, graph_Graph_Near_K0_norm, graph_Graph_Near_K0_ret, graph_Graph_Near_K0_exit, graph_Graph_Near_L2_eq, graph_Graph_Around_call, hx, e1, o1.chkV, y1, y2, y3, y4, y5, y6, y7, y8, y9, keepE, keepB, chk, CV.locs, CV.locv, CV.refs, CV.ref, pureOp, repC, takeN, resV, enterC, Nat.reduceAdd, Nat.reduceSub, Nat.reduceMul, Nat.reduceLeDiff, Nat.reduceLT, Nat.reduceBEq, Nat.reduceBNe, Nat.reduceEqDiff, ↓reduceIte, Int.reduceAdd, Int.reduceSub, Int.reduceMul, Int.reduceLT, Int.reduceLE, Int.reduceEq, Int.reduceNeg, Int.reduceToNat]
    rw [graph_Graph_Near_R0_eq]
    simp only [graph_Graph_Near_B0, graph_Graph_Near_K0_norm, graph_Graph_Near_K0_ret, graph_Graph_Near_K0_exit, graph_Graph_Near_L2_eq, graph_Graph_Around_call, hx, e2, o1.chkV, o2.chkV, y1, y2, y3, y4, y5, y6, y7, y8, y9, keepE, keepB, chk, CV.locs, CV.locv, CV.refs, CV.ref, pureOp, repC, takeN, resV, enterC, Nat.reduceAdd, Nat.reduceSub, Nat.reduceMul, Nat.reduceLeDiff, Nat.reduceLT, Nat.reduceBEq, Nat.reduceBNe, Nat.reduceEqDiff, ↓reduceIte, Int.reduceAdd, Int.reduceSub, Int.reduceMul, Int.reduceLT, Int.reduceLE, Int.reduceEq, Int.reduceNeg, Int.reduceToNat]
    rw [graph_Graph_Near_R0_eq]
    simp only [graph_Graph_Near_B0, graph_Graph_Near_K0_norm, graph_Graph_Near_K0_ret, graph_Graph_Near_K0_exit, o2.chkV, y1, y2, y3, y4, y5, y6, y7, y8, y9, keepE, keepB, chk, CV.locs, CV.locv, CV.refs, CV.ref, pureOp, repC, takeN, resV, enterC, Nat.reduceAdd, Nat.reduceSub, Nat.reduceMul, Nat.reduceLeDiff, Nat.reduceLT, Nat.reduceBEq, Nat.reduceBNe, Nat.reduceEqDiff, ↓reduceIte, Int.reduceAdd, Int.reduceSub, Int.reduceMul, Int.reduceLT, Int.reduceLE, Int.reduceEq, Int.reduceNeg, Int.reduceToNat]
  simp only [graph_Graph_Near_C, graph_Graph_Near_L0_eq, hL, slices_Sort_int_call, e3, slices_Compact_int_call, e4, o2.locv, o4.locv, near, hs, y1, y2, y3, y4, y5, y6, y7, y8, y9, keepE, keepB, chk, CV.locs, CV.locv, CV.refs, CV.ref, pureOp, repC, takeN, resV, enterC, Nat.reduceAdd, Nat.reduceSub, Nat.reduceMul, Nat.reduceLeDiff, Nat.reduceLT, Nat.reduceBEq, Nat.reduceBNe, Nat.reduceEqDiff, ↓reduceIte, Int.reduceAdd, Int.reduceSub, Int.reduceMul, Int.reduceLT, Int.reduceLE, Int.reduceEq, Int.reduceNeg, Int.reduceToNat]

theorem near_in (l : Lay) (n c : CV) (hn : n.locv = false) (hc : c.locv = false) : ∀ (s p : List Ed) (acc : List Int) (v : CV) (bl : List Blk), (p ++ s).length ≤ 2 * Zc.small → acc.length + s.length ≤ 2 * Zc.small → Own fI 1 bl v acc →
    ∃ v' bl', r05_Near_R2 ([(1, n), (2, .op (.loc 2) 0), (5, v), (6, c), (7, sl fE (p ++ s)), (8, .int .i64 p.length)], ⟨[(2, layC l)], bl⟩) = some (.norm, [(1, n), (2, .op (.loc 2) 0), (5, v'), (6, c)], ⟨[(2, layC l)], bl'⟩) ∧ Own fI 1 bl' v' (acc ++ s.map Ed.s)
  | [], p, acc, v, bl, hm, ha, hO => by
    refine ⟨v, bl, ?_, by simpa using hO⟩
    have h2 := chkV_of hn
    have h3 := chkV_of hc
    rw [r05_Near_R2_eq]
    simp only [r05_Near_B2, r05_Near_K2_norm, r05_Near_K2_ret, r05_Near_K2_exit, h2, h3, hO.chkV, y1, y2, y3, y4, y5, y6, y7, y8, y9, keepE, keepB, chk, CV.locs, CV.locv, CV.refs, CV.ref, pureOp, repC, takeN, resV, enterC, Nat.reduceAdd, Nat.reduceSub, Nat.reduceMul, Nat.reduceLeDiff, Nat.reduceLT, Nat.reduceBEq, Nat.reduceBNe, Nat.reduceEqDiff, ↓reduceIte, Int.reduceAdd, Int.reduceSub, Int.reduceMul, Int.reduceLT, Int.reduceLE, Int.reduceEq, Int.reduceNeg, Int.reduceToNat]
  | x :: s, p, acc, v, bl, hm, ha, hO => by
    have h2 := chkV_of hn
    have h3 := chkV_of hc
    have h4 : ((p.length : Int) < (p ++ x :: s).length) := by simp; omega
    have hw := wrapN (n := p.length) (by simp at hm; omega)
    simp only [List.length_cons] at ha
    have ha' := ha
    unfold Zc.small at ha'
    obtain ⟨v1, bl1, e1, o1, _⟩ := hO.app1 flatI (bytes := 8) (zero := [.int .i64 0]) (by decide) rfl rfl x.s (by omega)
    obtain ⟨v', bl', e, o⟩ := near_in l n c hn hc s (p ++ [x]) (acc ++ [x.s]) v1 bl1 (by simpa using hm) (by simp; omega) o1
    simp only [fI] at e1
    simp only [List.append_assoc, List.cons_append, List.nil_append, List.length_append, List.length_cons, List.length_nil] at e h4
    refine ⟨v', bl', ?_, by simpa using o⟩
    rw [r05_Near_R2_eq]
    simp only [r05_Near_B2, r05_Near_K2_norm, r05_Near_K2_ret, r05_Near_K2_exit, List.append_assoc, List.cons_append, List.nil_append, List.length_append, List.length_cons, List.length_nil, h4, iaddr_midE, hw, h2, h3, hO.chkV, e1, o1.chkV, e, y1, y2, y3, y4, y5, y6, y7, y8, y9, keepE, keepB, chk, CV.locs, CV.locv, CV.refs, CV.ref, pureOp, repC, takeN, resV, enterC, Nat.reduceAdd, Nat.reduceSub, Nat.reduceMul, Nat.reduceLeDiff, Nat.reduceLT, Nat.reduceBEq, Nat.reduceBNe, Nat.reduceEqDiff, ↓reduceIte, Int.reduceAdd, Int.reduceSub, Int.reduceMul, Int.reduceLT, Int.reduceLE, Int.reduceEq, Int.reduceNeg, Int.reduceToNat]

theorem near_F (l : Lay) (hl : l.ok) (n : Int) (H : Heap) : r05_Near_F false H [.agg (layC l), .int .i64 n] = some (sl fI (near l n), H) := by
  have hb0 := around_len l ⟨n, 0⟩
  have hb1 := around_len l ⟨n, 1⟩
  have hx := fun e => around_F l hl ⟨n, e⟩
  simp only [fE] at hx
  obtain ⟨v1, bl1, e1, o1⟩ := near_in l (.int .i64 n) (.int .i64 0) rfl rfl (around l ⟨n, 0⟩) [] [] .nils [] (by unfold Zc.small; simp; omega) (by unfold Zc.small; simp; omega) (Own.nil _ _ _)
  simp only [List.nil_append, List.length_nil, Int.natCast_zero] at e1 o1
  obtain ⟨v2, bl2, e2, o2⟩ := near_in l (.int .i64 n) (.int .i64 1) rfl rfl (around l ⟨n, 1⟩) [] _ v1 bl1 (by unfold Zc.small; simp; omega) (by unfold Zc.small; simp; omega) o1
  simp only [List.nil_append, List.length_nil, Int.natCast_zero] at e2 o2
  have hlen : (nearL l n).length ≤ Zc.small := by unfold Zc.small; simp [nearL]; omega
  have hs2 := fun bx st => snapI_own o2 bx st
  have hr := rise_F (nearL l n) hlen
  rw [nearL] at hr
  rw [r05_Near_F_eq]
  have hL : r05_Near_R0 ([(1, .int .i64 n), (2, .op (.loc 2) 0), (5, .nils), (6, .int .i64 0)], ⟨[(2, layC l)], []⟩) = some (.norm, [(5, v2)], ⟨[], bl2⟩) := by
    rw [r05_Near_R0_eq]
    simp only [r05_Near_B0, r05_Near_K0_norm, r05_Near_K0_ret, r05_Near_K0_exit, r05_Near_L2_eq, r05_Around_call, hx, e1, o1.chkV, y1, y2, y3, y4, y5, y6, y7, y8, y9, keepE, keepB, chk, CV.locs, CV.locv, CV.refs, CV.ref, pureOp, repC, takeN, resV, enterC, Nat.reduceAdd, Nat.reduceSub, Nat.reduceMul, Nat.reduceLeDiff, Nat.reduceLT, Nat.reduceBEq, Nat.reduceBNe, Nat.reduceEqDiff, ↓reduceIte, Int.reduceAdd, Int.reduceSub, Int.reduceMul, Int.reduceLT, Int.reduceLE, Int.reduceEq, Int.reduceNeg, Int.reduceToNat]
    rw [r05_Near_R0_eq]
    simp only [r05_Near_B0, r05_Near_K0_norm, r05_Near_K0_ret, r05_Near_K0_exit, r05_Near_L2_eq, r05_Around_call, hx, e2, o1.chkV, o2.chkV, y1, y2, y3, y4, y5, y6, y7, y8, y9, keepE, keepB, chk, CV.locs, CV.locv, CV.refs, CV.ref, pureOp, repC, takeN, resV, enterC, Nat.reduceAdd, Nat.reduceSub, Nat.reduceMul, Nat.reduceLeDiff, Nat.reduceLT, Nat.reduceBEq, Nat.reduceBNe, Nat.reduceEqDiff, ↓reduceIte, Int.reduceAdd, Int.reduceSub, Int.reduceMul, Int.reduceLT, Int.reduceLE, Int.reduceEq, Int.reduceNeg, Int.reduceToNat]
    rw [r05_Near_R0_eq]
    simp only [r05_Near_B0, r05_Near_K0_norm, r05_Near_K0_ret, r05_Near_K0_exit, o2.chkV, y1, y2, y3, y4, y5, y6, y7, y8, y9, keepE, keepB, chk, CV.locs, CV.locv, CV.refs, CV.ref, pureOp, repC, takeN, resV, enterC, Nat.reduceAdd, Nat.reduceSub, Nat.reduceMul, Nat.reduceLeDiff, Nat.reduceLT, Nat.reduceBEq, Nat.reduceBNe, Nat.reduceEqDiff, ↓reduceIte, Int.reduceAdd, Int.reduceSub, Int.reduceMul, Int.reduceLT, Int.reduceLE, Int.reduceEq, Int.reduceNeg, Int.reduceToNat]
  simp only [r05_Near_C, r05_Near_L0_eq, hL, r01_Rise_call, hs2, hr, near, nearL, y1, y2, y3, y4, y5, y6, y7, y8, y9, keepE, keepB, chk, CV.locs, CV.locv, CV.refs, CV.ref, pureOp, repC, takeN, resV, enterC, Nat.reduceAdd, Nat.reduceSub, Nat.reduceMul, Nat.reduceLeDiff, Nat.reduceLT, Nat.reduceBEq, Nat.reduceBNe, Nat.reduceEqDiff, ↓reduceIte, Int.reduceAdd, Int.reduceSub, Int.reduceMul, Int.reduceLT, Int.reduceLE, Int.reduceEq, Int.reduceNeg, Int.reduceToNat]
end Go.Proofs.Ytmjffmghkfappaa.Zt
