/- The law GraphEnds, walked. -/
import Derived.Test.YtmkdhpjidhbijaaZcX
import Derived.Test.YtmkdhpjidhbijaaZcArgs
set_option linter.all false
namespace Go.Proofs.Ytmkdhpjidhbijaa.Zt
open Go Go.Zc
set_option maxRecDepth 10000

def endsUp (l : Lay) : Nat → Nat → Nat
  | 0, _ => 0
  | k + 1, n => (ends l n).length + endsUp l k (n + 1)
theorem endsUp_eq (l : Lay) : ∀ k n, endsUp l k n = ((List.range' n k).map fun i => (ends l (i : Nat)).length).sum
  | 0, _ => rfl
  | k + 1, n => by simp only [endsUp, endsUp_eq l k (n + 1), List.range'_succ, List.map_cons, List.sum_cons]

theorem ends_n (l : Lay) (hl : l.ok) : ∀ (k n acc : Nat) (bl : List Blk), n + k = l.nodes.length → acc + endsUp l k n ≤ 4 * Zc.small →
    ∃ bl', l05_GraphEnds_R0 ([(3, .op (.loc 3) 0), (4, .vp (layC l)), (5, .int .i64 acc), (6, .int .i64 n)], ⟨[(3, layC l)], bl⟩) =
      some (.norm, [(3, .op (.loc 3) 0), (4, .vp (layC l)), (5, .int .i64 (acc + endsUp l k n : Nat))], ⟨[(3, layC l)], bl'⟩)
  | 0, n, acc, bl, h, hm => by
    have h4 : ¬ ((n : Int) < l.nodes.length) := by omega
    refine ⟨bl, ?_⟩
    rw [l05_GraphEnds_R0_eq]
    simp only [l05_GraphEnds_B0, l05_GraphEnds_K0_norm, l05_GraphEnds_K0_ret, l05_GraphEnds_K0_exit, h4, endsUp, y1, y2, y3, y4, y5, y6, y7, y8, y9, keepE, keepB, chk, CV.locs, CV.locv, CV.refs, CV.ref, pureOp, repC, takeN, resV, enterC, Nat.reduceAdd, Nat.reduceSub, Nat.reduceMul, Nat.reduceLeDiff, Nat.reduceLT, Nat.reduceBEq, Nat.reduceBNe, Nat.reduceEqDiff, ↓reduceIte, Int.reduceAdd, Int.reduceSub, Int.reduceMul, Int.reduceLT, Int.reduceLE, Int.reduceEq, Int.reduceNeg, Int.reduceToNat]
  | k + 1, n, acc, bl, h, hm => by
    have h4 : ((n : Int) < l.nodes.length) := by omega
    have hnl := hl.nodes
    have hw := wrapN (n := n) (by omega)
    simp only [endsUp] at hm ⊢
    obtain ⟨v, bl1, e1, o1, _, _⟩ := gends_F l hl n false [(3, layC l)] bl
    obtain ⟨bl', ih⟩ := ends_n l hl k (n + 1) (acc + (ends l n).length) bl1 (by omega) (by omega)
    have hw2 : IntKind.i64.wrap ((acc : Int) + (ends l n).length) = ((acc + (ends l n).length : Nat) : Int) := by
      rw [wrap64 (by omega) (by unfold Zc.small at hm; omega)]; omega
    refine ⟨bl', ?_⟩
    rw [← Nat.add_assoc, l05_GraphEnds_R0_eq]
    simp only [l05_GraphEnds_B0, l05_GraphEnds_K0_norm, l05_GraphEnds_K0_ret, l05_GraphEnds_K0_exit, h4, hw, graph_Graph_Ends_call, e1, o1.len, hw2, ih, y1, y2, y3, y4, y5, y6, y7, y8, y9, keepE, keepB, chk, CV.locs, CV.locv, CV.refs, CV.ref, pureOp, repC, takeN, resV, enterC, Nat.reduceAdd, Nat.reduceSub, Nat.reduceMul, Nat.reduceLeDiff, Nat.reduceLT, Nat.reduceBEq, Nat.reduceBNe, Nat.reduceEqDiff, ↓reduceIte, Int.reduceAdd, Int.reduceSub, Int.reduceMul, Int.reduceLT, Int.reduceLE, Int.reduceEq, Int.reduceNeg, Int.reduceToNat]

theorem ends_k (d : Draft) (hd : d.ok) (hl : (full d).ok) (pt : Nat) (c : CV) (hc : c.locv = false) (bl : List Blk) : ∀ (s p : List Int), p ++ s = beside (full d) pt →
    l05_GraphEnds_R4 ([(3, .op (.loc 3) 0), (4, .vp (layC (full d))), (5, c), (7, .int .i64 pt), (8, sl fI (beside (full d) pt)), (9, .int .i64 p.length)], ⟨[(3, layC (full d))], bl⟩) =
      some (.norm, [(3, .op (.loc 3) 0), (4, .vp (layC (full d))), (5, c), (7, .int .i64 pt)], ⟨[(3, layC (full d))], bl⟩)
  | [], p, hp => by
    have q := chkV_of hc
    rw [List.append_nil] at hp
    rw [l05_GraphEnds_R4_eq, ← hp]
    simp only [l05_GraphEnds_B4, l05_GraphEnds_K4_norm, l05_GraphEnds_K4_ret, l05_GraphEnds_K4_exit, q, y1, y2, y3, y4, y5, y6, y7, y8, y9, keepE, keepB, chk, CV.locs, CV.locv, CV.refs, CV.ref, pureOp, repC, takeN, resV, enterC, Nat.reduceAdd, Nat.reduceSub, Nat.reduceMul, Nat.reduceLeDiff, Nat.reduceLT, Nat.reduceBEq, Nat.reduceBNe, Nat.reduceEqDiff, ↓reduceIte, Int.reduceAdd, Int.reduceSub, Int.reduceMul, Int.reduceLT, Int.reduceLE, Int.reduceEq, Int.reduceNeg, Int.reduceToNat]
  | y :: s, p, hp => by
    have q := chkV_of hc
    have hlen := fun n => beside_len d hd n
    have hlp := hlen pt
    have h4 : ((p.length : Int) < (beside (full d) pt).length) := by rw [← hp]; simp; omega
    have hw := wrapN (n := p.length) (by rw [← hp] at hlp; simp at hlp; unfold Zc.small; omega)
    have hia : iaddrC 1 (sl fI (beside (full d) pt)) (.int .i64 p.length) = some (.vp (.int .i64 y :: s.flatMap fI)) := by rw [← hp]; exact iaddr_midI _ p s y
    have ih := ends_k d hd hl pt c hc bl s (p ++ [y]) (by simpa using hp)
    have hm : y ∈ beside (full d) pt := by rw [← hp]; simp
    obtain ⟨h0, h1, _⟩ := full_besides d hd hm
    have f1 := fun st H => has_F (beside (full d) y) pt (by have := hlen y; unfold Zc.small; omega) st H
    simp only [eq_true h1] at f1
    simp only [List.append_assoc, List.cons_append, List.nil_append, List.length_append, List.length_cons, List.length_nil] at ih
    rw [l05_GraphEnds_R4_eq]
    simp only [l05_GraphEnds_B4, l05_GraphEnds_K4_norm, l05_GraphEnds_K4_ret, l05_GraphEnds_K4_exit, q, h4, hw, hia, eq_false h0, graph_Graph_Beside_call, gbeside_F (full d) hl y (full_beside d hd y), r01_Has_call, f1, ih, y1, y2, y3, y4, y5, y6, y7, y8, y9, keepE, keepB, chk, CV.locs, CV.locv, CV.refs, CV.ref, pureOp, repC, takeN, resV, enterC, Nat.reduceAdd, Nat.reduceSub, Nat.reduceMul, Nat.reduceLeDiff, Nat.reduceLT, Nat.reduceBEq, Nat.reduceBNe, Nat.reduceEqDiff, ↓reduceIte, Int.reduceAdd, Int.reduceSub, Int.reduceMul, Int.reduceLT, Int.reduceLE, Int.reduceEq, Int.reduceNeg, Int.reduceToNat]

theorem ends_p (d : Draft) (hd : d.ok) (hl : (full d).ok) (c : CV) (hc : c.locv = false) (bl : List Blk) : ∀ (k n : Nat), n + k = (full d).parts.length →
    l05_GraphEnds_R2 ([(3, .op (.loc 3) 0), (4, .vp (layC (full d))), (5, c), (7, .int .i64 n)], ⟨[(3, layC (full d))], bl⟩) =
      some (.norm, [(3, .op (.loc 3) 0), (4, .vp (layC (full d))), (5, c)], ⟨[(3, layC (full d))], bl⟩)
  | 0, n, h => by
    have q := chkV_of hc
    have h4 : ¬ ((n : Int) < (full d).parts.length) := by omega
    rw [l05_GraphEnds_R2_eq]
    simp only [l05_GraphEnds_B2, l05_GraphEnds_K2_norm, l05_GraphEnds_K2_ret, l05_GraphEnds_K2_exit, q, h4, y1, y2, y3, y4, y5, y6, y7, y8, y9, keepE, keepB, chk, CV.locs, CV.locv, CV.refs, CV.ref, pureOp, repC, takeN, resV, enterC, Nat.reduceAdd, Nat.reduceSub, Nat.reduceMul, Nat.reduceLeDiff, Nat.reduceLT, Nat.reduceBEq, Nat.reduceBNe, Nat.reduceEqDiff, ↓reduceIte, Int.reduceAdd, Int.reduceSub, Int.reduceMul, Int.reduceLT, Int.reduceLE, Int.reduceEq, Int.reduceNeg, Int.reduceToNat]
  | k + 1, n, h => by
    have q := chkV_of hc
    have h4 : ((n : Int) < (full d).parts.length) := by omega
    have hpl := hl.parts
    have hw := wrapN (n := n) (by omega)
    have ih := ends_p d hd hl c hc bl k (n + 1) (by omega)
    have hk := ends_k d hd hl n c hc bl (beside (full d) n) [] rfl
    simp only [List.nil_append, List.length_nil, Int.natCast_zero] at hk
    rw [l05_GraphEnds_R2_eq]
    simp only [l05_GraphEnds_B2, l05_GraphEnds_K2_norm, l05_GraphEnds_K2_ret, l05_GraphEnds_K2_exit, l05_GraphEnds_L4_eq, q, h4, hw, graph_Graph_Beside_call, gbeside_F (full d) hl n (full_beside d hd n), hk, ih, y1, y2, y3, y4, y5, y6, y7, y8, y9, keepE, keepB, chk, CV.locs, CV.locv, CV.refs, CV.ref, pureOp, repC, takeN, resV, enterC, Nat.reduceAdd, Nat.reduceSub, Nat.reduceMul, Nat.reduceLeDiff, Nat.reduceLT, Nat.reduceBEq, Nat.reduceBNe, Nat.reduceEqDiff, ↓reduceIte, Int.reduceAdd, Int.reduceSub, Int.reduceMul, Int.reduceLT, Int.reduceLE, Int.reduceEq, Int.reduceNeg, Int.reduceToNat]

theorem ends_s (d : Draft) (hd : d.ok) (hl : (full d).ok) (c : CV) (hc : c.locv = false) (bl : List Blk) : ∀ (k n : Nat), n + k = (full d).secs.length →
    l05_GraphEnds_R6 ([(3, .op (.loc 3) 0), (4, .vp (layC (full d))), (5, c), (10, .int .i64 n)], ⟨[(3, layC (full d))], bl⟩) =
      some (.norm, [(3, .op (.loc 3) 0), (5, c)], ⟨[(3, layC (full d))], bl⟩)
  | 0, n, h => by
    have q := chkV_of hc
    have h4 : ¬ ((n : Int) < (full d).secs.length) := by omega
    rw [l05_GraphEnds_R6_eq]
    simp only [l05_GraphEnds_B6, l05_GraphEnds_K6_norm, l05_GraphEnds_K6_ret, l05_GraphEnds_K6_exit, q, h4, y1, y2, y3, y4, y5, y6, y7, y8, y9, keepE, keepB, chk, CV.locs, CV.locv, CV.refs, CV.ref, pureOp, repC, takeN, resV, enterC, Nat.reduceAdd, Nat.reduceSub, Nat.reduceMul, Nat.reduceLeDiff, Nat.reduceLT, Nat.reduceBEq, Nat.reduceBNe, Nat.reduceEqDiff, ↓reduceIte, Int.reduceAdd, Int.reduceSub, Int.reduceMul, Int.reduceLT, Int.reduceLE, Int.reduceEq, Int.reduceNeg, Int.reduceToNat]
  | k + 1, n, h => by
    have q := chkV_of hc
    have h4 : ((n : Int) < (full d).secs.length) := by omega
    have hsl := hl.secs
    have hpl := hl.parts
    have hw := wrapN (n := n) (by omega)
    have hn : n < (full d).secs.length := by omega
    have ih := ends_s d hd hl c hc bl k (n + 1) (by omega)
    obtain ⟨m, hm, e1, e2⟩ := full_part d hd (s := n) (by omega) (by omega)
    have h5 : ¬ ((m : Int) < 0) := by omega
    have h6 : ¬ (((full d).parts.length : Int) ≤ m) := by omega
    have hpt := hl.part _ (List.getElem_mem hm)
    have f1 := fun st H => has_F (full d).parts[m] n (by unfold Zc.small at *; omega) st H
    simp only [eq_true e2] at f1
    have hla : lenAt (full d) n = (full d).secs[n].len := by
      unfold lenAt
      simp [hn]
    have hpF := fun st H => gpart_F (full d) hl n st H
    simp only [e1] at hpF
    have hlF := fun st H => glen_F (full d) n st H
    simp only [hla] at hlF
    rw [l05_GraphEnds_R6_eq]
    simp only [l05_GraphEnds_B6, l05_GraphEnds_K6_norm, l05_GraphEnds_K6_ret, l05_GraphEnds_K6_exit, q, h4, hw, graph_Graph_Part_call, hpF, h5, h6, iaddr_atL hm, r01_Has_call, f1, graph_Graph_Len_call, hlF, iaddr_atS hn, ih, y1, y2, y3, y4, y5, y6, y7, y8, y9, keepE, keepB, chk, CV.locs, CV.locv, CV.refs, CV.ref, pureOp, repC, takeN, resV, enterC, Nat.reduceAdd, Nat.reduceSub, Nat.reduceMul, Nat.reduceLeDiff, Nat.reduceLT, Nat.reduceBEq, Nat.reduceBNe, Nat.reduceEqDiff, ↓reduceIte, Int.reduceAdd, Int.reduceSub, Int.reduceMul, Int.reduceLT, Int.reduceLE, Int.reduceEq, Int.reduceNeg, Int.reduceToNat]

theorem graphEnds_F (d : Draft) (hd : d.ok) (st : Bool) (H : Heap) : l05_GraphEnds_F st H [.agg (draftC d)] = some (.bool true, H) := by
  rw [l05_GraphEnds_F_eq]
  have hj := joins05_F
  have hsF := fun st H => small_F d hd st H
  cases hs : d.small with
  | false =>
    simp only [hs] at hsF
    simp only [l05_GraphEnds_C, l05_joins_call, hj, r04_Small_call, hsF, y1, y2, y3, y4, y5, y6, y7, y8, y9, keepE, keepB, chk, CV.locs, CV.locv, CV.refs, CV.ref, pureOp, repC, takeN, resV, enterC, Nat.reduceAdd, Nat.reduceSub, Nat.reduceMul, Nat.reduceLeDiff, Nat.reduceLT, Nat.reduceBEq, Nat.reduceBNe, Nat.reduceEqDiff, ↓reduceIte, Int.reduceAdd, Int.reduceSub, Int.reduceMul, Int.reduceLT, Int.reduceLE, Int.reduceEq, Int.reduceNeg, Int.reduceToNat]
  | true =>
    simp only [hs] at hsF
    have hl := full_ok d
    have hsl := hl.secs
    have hsum := full_endSum d
    rw [List.range_eq_range', ← endsUp_eq] at hsum
    obtain ⟨bl, hL⟩ := ends_n (full d) hl (full d).nodes.length 0 0 [] (by omega) (by omega)
    rw [Nat.zero_add, hsum] at hL
    simp only [Int.natCast_zero] at hL
    have h2 := ends_p d hd hl (.int .i64 (2 * (full d).secs.length : Nat)) rfl bl (full d).parts.length 0 (by omega)
    have h3 := ends_s d hd hl (.int .i64 (2 * (full d).secs.length : Nat)) rfl bl (full d).secs.length 0 (by omega)
    simp only [Int.natCast_zero] at h2 h3
    have hw : IntKind.i64.wrap (2 * ((full d).secs.length : Int)) = ((2 * (full d).secs.length : Nat) : Int) := by
      rw [wrap64 (by omega) (by unfold Zc.small at hsl; omega)]; omega
    simp only [l05_GraphEnds_C, l05_GraphEnds_L0_eq, l05_GraphEnds_L2_eq, l05_GraphEnds_L6_eq, l05_joins_call, hj, r04_Small_call, hsF, r05_Full_call, full_F d hd, graph_New_call, gnew5_F, hL, h2, h3, hw, y1, y2, y3, y4, y5, y6, y7, y8, y9, keepE, keepB, chk, CV.locs, CV.locv, CV.refs, CV.ref, pureOp, repC, takeN, resV, enterC, Nat.reduceAdd, Nat.reduceSub, Nat.reduceMul, Nat.reduceLeDiff, Nat.reduceLT, Nat.reduceBEq, Nat.reduceBNe, Nat.reduceEqDiff, ↓reduceIte, Int.reduceAdd, Int.reduceSub, Int.reduceMul, Int.reduceLT, Int.reduceLE, Int.reduceEq, Int.reduceNeg, Int.reduceToNat]
end Go.Proofs.Ytmkdhpjidhbijaa.Zt
