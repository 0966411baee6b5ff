/- Walks: the graph's sections, nodes, ends. -/
import Derived.Test.YtmkdhpjidhbijaaZcH
set_option linter.all false
namespace Go.Proofs.Ytmkdhpjidhbijaa.Zt
open Go Go.Zc
set_option maxRecDepth 10000

theorem gsection_F (l : Lay) (n : Int) (st : Bool) (H : Heap) : graph_Graph_section_F st H [.vp (layC l), .int .i64 n] = some (.tup [.agg (secC (secAt l n)), .bool (secAt l n).isSome], H) := by
  rw [graph_Graph_section_F_eq]
  have hz : binC .eql .ptr (.vp (layC l)) .nilp = some (.bool false) := rfl
  by_cases h1 : n < 0
  · have hn : secAt l n = none := by simp only [secAt, if_neg (show ¬ 0 ≤ n by omega)]
    simp only [graph_Graph_section_C, hz, h1, hn, secC, y1, y2, y3, y4, y5, y6, y7, y8, y9, keepE, keepB, chk, CV.locs, CV.locv, CV.refs, CV.ref, pureOp, repC, takeN, resV, enterC, Nat.reduceAdd, Nat.reduceSub, Nat.reduceMul, Nat.reduceLeDiff, Nat.reduceLT, Nat.reduceBEq, Nat.reduceBNe, Nat.reduceEqDiff, ↓reduceIte, Int.reduceAdd, Int.reduceSub, Int.reduceMul, Int.reduceLT, Int.reduceLE, Int.reduceEq, Int.reduceNeg, Int.reduceToNat]
  · obtain ⟨n, rfl⟩ := Int.eq_ofNat_of_zero_le (show 0 ≤ n by omega)
    by_cases h2 : l.secs.length ≤ n
    · have hn : secAt l n = none := by simp [secAt, List.getElem?_eq_none h2]
      have h2' : ((l.secs.length : Int) ≤ n) := by omega
      simp only [graph_Graph_section_C, hz, h1, h2', hn, secC, y1, y2, y3, y4, y5, y6, y7, y8, y9, keepE, keepB, chk, CV.locs, CV.locv, CV.refs, CV.ref, pureOp, repC, takeN, resV, enterC, Nat.reduceAdd, Nat.reduceSub, Nat.reduceMul, Nat.reduceLeDiff, Nat.reduceLT, Nat.reduceBEq, Nat.reduceBNe, Nat.reduceEqDiff, ↓reduceIte, Int.reduceAdd, Int.reduceSub, Int.reduceMul, Int.reduceLT, Int.reduceLE, Int.reduceEq, Int.reduceNeg, Int.reduceToNat]
    · have h2' : ¬ ((l.secs.length : Int) ≤ n) := by omega
      have hlt : n < l.secs.length := by omega
      have hn : secAt l n = some l.secs[n] := by simp [secAt, List.getElem?_eq_getElem hlt]
      simp only [graph_Graph_section_C, hz, h1, h2', hn, secC, fS, iaddr_atS hlt, y1, y2, y3, y4, y5, y6, y7, y8, y9, keepE, keepB, chk, CV.locs, CV.locv, CV.refs, CV.ref, pureOp, repC, takeN, resV, enterC, Nat.reduceAdd, Nat.reduceSub, Nat.reduceMul, Nat.reduceLeDiff, Nat.reduceLT, Nat.reduceBEq, Nat.reduceBNe, Nat.reduceEqDiff, ↓reduceIte, Int.reduceAdd, Int.reduceSub, Int.reduceMul, Int.reduceLT, Int.reduceLE, Int.reduceEq, Int.reduceNeg, Int.reduceToNat]

theorem nodeOf_sec (l : Lay) (x : Ed) : nodeOf l x = (secAt l x.s).bind fun s => if x.e = 0 then some s.a else if x.e = 1 then some s.b else none := rfl

theorem gnode_F (l : Lay) (x : Ed) (st : Bool) (H : Heap) : graph_Graph_node_F st H [.vp (layC l), .agg (fE x)] = some (.tup [.int .i64 ((nodeOf l x).getD 0), .bool (nodeOf l x).isSome], H) := by
  rw [graph_Graph_node_F_eq, nodeOf_sec]
  have hs := gsection_F l x.s
  cases h : secAt l x.s with
  | none =>
    simp only [h, secC] at hs
    simp only [graph_Graph_node_C, fE, graph_Graph_section_call, hs, Option.bind_none, Option.getD_none, y1, y2, y3, y4, y5, y6, y7, y8, y9, keepE, keepB, chk, CV.locs, CV.locv, CV.refs, CV.ref, pureOp, repC, takeN, resV, enterC, Nat.reduceAdd, Nat.reduceSub, Nat.reduceMul, Nat.reduceLeDiff, Nat.reduceLT, Nat.reduceBEq, Nat.reduceBNe, Nat.reduceEqDiff, ↓reduceIte, Int.reduceAdd, Int.reduceSub, Int.reduceMul, Int.reduceLT, Int.reduceLE, Int.reduceEq, Int.reduceNeg, Int.reduceToNat]
  | some s =>
    simp only [h, secC, fS] at hs
    by_cases h0 : x.e = 0
    · simp only [graph_Graph_node_C, fE, graph_Graph_section_call, hs, Option.bind_some, eq_true h0, Option.getD_some, y1, y2, y3, y4, y5, y6, y7, y8, y9, keepE, keepB, chk, CV.locs, CV.locv, CV.refs, CV.ref, pureOp, repC, takeN, resV, enterC, Nat.reduceAdd, Nat.reduceSub, Nat.reduceMul, Nat.reduceLeDiff, Nat.reduceLT, Nat.reduceBEq, Nat.reduceBNe, Nat.reduceEqDiff, ↓reduceIte, Int.reduceAdd, Int.reduceSub, Int.reduceMul, Int.reduceLT, Int.reduceLE, Int.reduceEq, Int.reduceNeg, Int.reduceToNat]
    · by_cases h1 : x.e = 1
      · simp only [graph_Graph_node_C, fE, graph_Graph_section_call, hs, Option.bind_some, eq_false h0, eq_true h1, Option.getD_some, y1, y2, y3, y4, y5, y6, y7, y8, y9, keepE, keepB, chk, CV.locs, CV.locv, CV.refs, CV.ref, pureOp, repC, takeN, resV, enterC, Nat.reduceAdd, Nat.reduceSub, Nat.reduceMul, Nat.reduceLeDiff, Nat.reduceLT, Nat.reduceBEq, Nat.reduceBNe, Nat.reduceEqDiff, ↓reduceIte, Int.reduceAdd, Int.reduceSub, Int.reduceMul, Int.reduceLT, Int.reduceLE, Int.reduceEq, Int.reduceNeg, Int.reduceToNat]
      · simp only [graph_Graph_node_C, fE, graph_Graph_section_call, hs, Option.bind_some, eq_false h0, eq_false h1, Option.getD_none, y1, y2, y3, y4, y5, y6, y7, y8, y9, keepE, keepB, chk, CV.locs, CV.locv, CV.refs, CV.ref, pureOp, repC, takeN, resV, enterC, Nat.reduceAdd, Nat.reduceSub, Nat.reduceMul, Nat.reduceLeDiff, Nat.reduceLT, Nat.reduceBEq, Nat.reduceBNe, Nat.reduceEqDiff, ↓reduceIte, Int.reduceAdd, Int.reduceSub, Int.reduceMul, Int.reduceLT, Int.reduceLE, Int.reduceEq, Int.reduceNeg, Int.reduceToNat]

theorem glen_F (l : Lay) (n : Int) (st : Bool) (H : Heap) : graph_Graph_Len_F st H [.vp (layC l), .int .i64 n] = some (.int .i64 (lenAt l n), H) := by
  rw [graph_Graph_Len_F_eq]
  have hs := gsection_F l n
  have hl : lenAt l n = ((secAt l n).map Sec.len).getD 0 := rfl
  rw [hl]
  cases h : secAt l n with
  | none =>
    simp only [h, secC] at hs
    simp only [graph_Graph_Len_C, graph_Graph_section_call, hs, Option.map_none, Option.getD_none, y1, y2, y3, y4, y5, y6, y7, y8, y9, keepE, keepB, chk, CV.locs, CV.locv, CV.refs, CV.ref, pureOp, repC, takeN, resV, enterC, Nat.reduceAdd, Nat.reduceSub, Nat.reduceMul, Nat.reduceLeDiff, Nat.reduceLT, Nat.reduceBEq, Nat.reduceBNe, Nat.reduceEqDiff, ↓reduceIte, Int.reduceAdd, Int.reduceSub, Int.reduceMul, Int.reduceLT, Int.reduceLE, Int.reduceEq, Int.reduceNeg, Int.reduceToNat]
  | some s =>
    simp only [h, secC, fS] at hs
    simp only [graph_Graph_Len_C, graph_Graph_section_call, hs, Option.map_some, Option.getD_some, y1, y2, y3, y4, y5, y6, y7, y8, y9, keepE, keepB, chk, CV.locs, CV.locv, CV.refs, CV.ref, pureOp, repC, takeN, resV, enterC, Nat.reduceAdd, Nat.reduceSub, Nat.reduceMul, Nat.reduceLeDiff, Nat.reduceLT, Nat.reduceBEq, Nat.reduceBNe, Nat.reduceEqDiff, ↓reduceIte, Int.reduceAdd, Int.reduceSub, Int.reduceMul, Int.reduceLT, Int.reduceLE, Int.reduceEq, Int.reduceNeg, Int.reduceToNat]

theorem gends_in (a b at' : Int) (l : Lay) (i : Nat) (acc : List Ed) (v : CV) (bl : List Blk) (hm : acc.length ≤ 2 * Zc.small) (hO : Own fE 2 bl v acc) :
    ∃ v' bl', graph_Graph_Ends_R2 ([(0, .vp (layC l)), (1, .int .i64 at'), (5, v), (6, .int .i64 i), (26, .agg [.int .i64 a, .int .i64 b]), (27, .int .i64 0)], ⟨[], bl⟩) = some (.norm, [(0, .vp (layC l)), (1, .int .i64 at'), (5, v'), (6, .int .i64 i)], ⟨[], bl'⟩) ∧
      Own fE 2 bl' v' (acc ++ ((if a = at' then [⟨i, 0⟩] else []) ++ (if b = at' then [⟨i, 1⟩] else []))) := by
  unfold Zc.small at hm
  have x0 : idxAC 2 false 1 (.agg [.int .i64 a, .int .i64 b]) (.int .i64 0) = some (.int .i64 a) := rfl
  have x1 : idxAC 2 false 1 (.agg [.int .i64 a, .int .i64 b]) (.int .i64 1) = some (.int .i64 b) := rfl
  have s2 : ∀ (v : CV) (bl : List Blk) (acc : List Ed), Own fE 2 bl v acc → graph_Graph_Ends_R2 ([(0, .vp (layC l)), (1, .int .i64 at'), (5, v), (6, .int .i64 i), (26, .agg [.int .i64 a, .int .i64 b]), (27, .int .i64 2)], ⟨[], bl⟩) = some (.norm, [(0, .vp (layC l)), (1, .int .i64 at'), (5, v), (6, .int .i64 i)], ⟨[], bl⟩) := by
    intro v bl acc hO
    rw [graph_Graph_Ends_R2_eq]
    simp only [graph_Graph_Ends_B2, graph_Graph_Ends_K2_norm, graph_Graph_Ends_K2_ret, graph_Graph_Ends_K2_exit, hO.chkV, y1, y2, y3, y4, y5, y6, y7, y8, y9, keepE, keepB, chk, CV.locs, CV.locv, CV.refs, CV.ref, pureOp, repC, takeN, resV, enterC, Nat.reduceAdd, Nat.reduceSub, Nat.reduceMul, Nat.reduceLeDiff, Nat.reduceLT, Nat.reduceBEq, Nat.reduceBNe, Nat.reduceEqDiff, ↓reduceIte, Int.reduceAdd, Int.reduceSub, Int.reduceMul, Int.reduceLT, Int.reduceLE, Int.reduceEq, Int.reduceNeg, Int.reduceToNat]
  have s1 : ∀ (v : CV) (bl : List Blk) (acc : List Ed), acc.length ≤ 2 * 1000000000 + 1 → Own fE 2 bl v acc → ∃ v' bl', graph_Graph_Ends_R2 ([(0, .vp (layC l)), (1, .int .i64 at'), (5, v), (6, .int .i64 i), (26, .agg [.int .i64 a, .int .i64 b]), (27, .int .i64 1)], ⟨[], bl⟩) = some (.norm, [(0, .vp (layC l)), (1, .int .i64 at'), (5, v'), (6, .int .i64 i)], ⟨[], bl'⟩) ∧ Own fE 2 bl' v' (acc ++ if b = at' then [⟨i, 1⟩] else []) := by
    intro v bl acc hm hO
    by_cases hb : b = at'
    · obtain ⟨v1, bl1, e1, o1, _⟩ := hO.app1 flatE (bytes := 16) (zero := [.int .i64 0, .int .i64 0]) (by decide) rfl rfl ⟨i, 1⟩ (by omega)
      simp only [fE] at e1
      refine ⟨v1, bl1, ?_, by simpa [hb] using o1⟩
      have := s2 v1 bl1 _ o1
      rw [graph_Graph_Ends_R2_eq]
      simp only [graph_Graph_Ends_B2, graph_Graph_Ends_K2_norm, graph_Graph_Ends_K2_ret, graph_Graph_Ends_K2_exit, x1, eq_true hb, e1, this, hO.chkV, o1.chkV, y1, y2, y3, y4, y5, y6, y7, y8, y9, keepE, keepB, chk, CV.locs, CV.locv, CV.refs, CV.ref, pureOp, repC, takeN, resV, enterC, Nat.reduceAdd, Nat.reduceSub, Nat.reduceMul, Nat.reduceLeDiff, Nat.reduceLT, Nat.reduceBEq, Nat.reduceBNe, Nat.reduceEqDiff, ↓reduceIte, Int.reduceAdd, Int.reduceSub, Int.reduceMul, Int.reduceLT, Int.reduceLE, Int.reduceEq, Int.reduceNeg, Int.reduceToNat]
    · refine ⟨v, bl, ?_, by simpa [hb] using hO⟩
      have := s2 v bl _ hO
      rw [graph_Graph_Ends_R2_eq]
      simp only [graph_Graph_Ends_B2, graph_Graph_Ends_K2_norm, graph_Graph_Ends_K2_ret, graph_Graph_Ends_K2_exit, x1, eq_false hb, this, hO.chkV, y1, y2, y3, y4, y5, y6, y7, y8, y9, keepE, keepB, chk, CV.locs, CV.locv, CV.refs, CV.ref, pureOp, repC, takeN, resV, enterC, Nat.reduceAdd, Nat.reduceSub, Nat.reduceMul, Nat.reduceLeDiff, Nat.reduceLT, Nat.reduceBEq, Nat.reduceBNe, Nat.reduceEqDiff, ↓reduceIte, Int.reduceAdd, Int.reduceSub, Int.reduceMul, Int.reduceLT, Int.reduceLE, Int.reduceEq, Int.reduceNeg, Int.reduceToNat]
  by_cases ha : a = at'
  · obtain ⟨v1, bl1, e1, o1, _⟩ := hO.app1 flatE (bytes := 16) (zero := [.int .i64 0, .int .i64 0]) (by decide) rfl rfl ⟨i, 0⟩ (by omega)
    obtain ⟨v2, bl2, e2, o2⟩ := s1 v1 bl1 _ (by simp; omega) o1
    simp only [fE] at e1
    refine ⟨v2, bl2, ?_, by simpa [ha] using o2⟩
    rw [graph_Graph_Ends_R2_eq]
    simp only [graph_Graph_Ends_B2, graph_Graph_Ends_K2_norm, graph_Graph_Ends_K2_ret, graph_Graph_Ends_K2_exit, x0, eq_true ha, e1, e2, hO.chkV, o1.chkV, y1, y2, y3, y4, y5, y6, y7, y8, y9, keepE, keepB, chk, CV.locs, CV.locv, CV.refs, CV.ref, pureOp, repC, takeN, resV, enterC, Nat.reduceAdd, Nat.reduceSub, Nat.reduceMul, Nat.reduceLeDiff, Nat.reduceLT, Nat.reduceBEq, Nat.reduceBNe, Nat.reduceEqDiff, ↓reduceIte, Int.reduceAdd, Int.reduceSub, Int.reduceMul, Int.reduceLT, Int.reduceLE, Int.reduceEq, Int.reduceNeg, Int.reduceToNat]
  · obtain ⟨v2, bl2, e2, o2⟩ := s1 v bl _ (by omega) hO
    refine ⟨v2, bl2, ?_, by simpa [ha] using o2⟩
    rw [graph_Graph_Ends_R2_eq]
    simp only [graph_Graph_Ends_B2, graph_Graph_Ends_K2_norm, graph_Graph_Ends_K2_ret, graph_Graph_Ends_K2_exit, x0, eq_false ha, e2, hO.chkV, y1, y2, y3, y4, y5, y6, y7, y8, y9, keepE, keepB, chk, CV.locs, CV.locv, CV.refs, CV.ref, pureOp, repC, takeN, resV, enterC, Nat.reduceAdd, Nat.reduceSub, Nat.reduceMul, Nat.reduceLeDiff, Nat.reduceLT, Nat.reduceBEq, Nat.reduceBNe, Nat.reduceEqDiff, ↓reduceIte, Int.reduceAdd, Int.reduceSub, Int.reduceMul, Int.reduceLT, Int.reduceLE, Int.reduceEq, Int.reduceNeg, Int.reduceToNat]

theorem gends_loop (l : Lay) (hl : l.ok) (at' : Int) : ∀ (s p : List Sec) (acc : List Ed) (v : CV) (bl : List Blk), p ++ s = l.secs → acc.length ≤ 2 * p.length → Own fE 2 bl v acc →
    ∃ v' bl' bx, graph_Graph_Ends_R0 ([(0, .vp (layC l)), (1, .int .i64 at'), (5, v), (6, .int .i64 p.length)], ⟨[], bl⟩) = some (.ret, [(4, v')], ⟨bx, bl'⟩) ∧ Own fE 2 bl' v' (acc ++ endsFrom at' p.length s)
  | [], p, acc, v, bl, hp, ha, hO => by
    have hs := gsection_F l p.length
    have hn : secAt l p.length = none := by simp [secAt, ← hp]
    simp only [hn, secC] at hs
    have : ∃ bx, graph_Graph_Ends_R0 ([(0, .vp (layC l)), (1, .int .i64 at'), (5, v), (6, .int .i64 p.length)], ⟨[], bl⟩) = some (.ret, [(4, v)], ⟨bx, bl⟩) := by
      rw [graph_Graph_Ends_R0_eq]
      simp only [graph_Graph_Ends_B0, graph_Graph_Ends_K0_norm, graph_Graph_Ends_K0_ret, graph_Graph_Ends_K0_exit, graph_Graph_section_call, hs, y1, y2, y3, y4, y5, y6, y7, y8, y9, keepE, keepB, chk, CV.locs, CV.locv, CV.refs, CV.ref, pureOp, repC, takeN, resV, enterC, Nat.reduceAdd, Nat.reduceSub, Nat.reduceMul, Nat.reduceLeDiff, Nat.reduceLT, Nat.reduceBEq, Nat.reduceBNe, Nat.reduceEqDiff, ↓reduceIte, Int.reduceAdd, Int.reduceSub, Int.reduceMul, Int.reduceLT, Int.reduceLE, Int.reduceEq, Int.reduceNeg, Int.reduceToNat]
      exact ⟨_, rfl⟩
    obtain ⟨bx, h⟩ := this
    exact ⟨v, bl, bx, h, by simpa [endsFrom] using hO⟩
  | x :: s, p, acc, v, bl, hp, ha, hO => by
    have hsm := hl.secs
    have hpl : p.length + 1 + s.length = l.secs.length := by rw [← hp]; simp; omega
    have hw := wrapN (n := p.length) (by omega)
    have hs := gsection_F l p.length
    have hn : secAt l p.length = some x := by simp [secAt, ← hp]
    simp only [hn, secC, fS] at hs
    obtain ⟨v1, bl1, e1, o1⟩ := gends_in x.a x.b at' l p.length acc v bl (by omega) hO
    obtain ⟨v2, bl2, bx, e2, o2⟩ := gends_loop l hl at' s (p ++ [x]) _ v1 bl1 (by simpa using hp) (by simp only [List.length_append, List.length_cons, List.length_nil]; split <;> split <;> simp <;> omega) o1
    simp only [List.append_assoc, List.cons_append, List.nil_append, List.length_append, List.length_cons, List.length_nil] at e2
    refine ⟨v2, bl2, bx, ?_, by simpa [endsFrom] using o2⟩
    rw [graph_Graph_Ends_R0_eq]
    simp only [graph_Graph_Ends_B0, graph_Graph_Ends_K0_norm, graph_Graph_Ends_K0_ret, graph_Graph_Ends_K0_exit, graph_Graph_Ends_L2_eq, graph_Graph_section_call, hs, e1, hw, hO.chkV, o1.chkV, e2, y1, y2, y3, y4, y5, y6, y7, y8, y9, keepE, keepB, chk, CV.locs, CV.locv, CV.refs, CV.ref, pureOp, repC, takeN, resV, enterC, Nat.reduceAdd, Nat.reduceSub, Nat.reduceMul, Nat.reduceLeDiff, Nat.reduceLT, Nat.reduceBEq, Nat.reduceBNe, Nat.reduceEqDiff, ↓reduceIte, Int.reduceAdd, Int.reduceSub, Int.reduceMul, Int.reduceLT, Int.reduceLE, Int.reduceEq, Int.reduceNeg, Int.reduceToNat]

theorem snapE1 (st : Bool) (H : Heap) (x : Ed) : ∀ c ∈ fE x, snap H st false c = some c := snap_E H st false 7 x

/-- The ends at a node, in memory of the caller's. -/
theorem gends_F (l : Lay) (hl : l.ok) (at' : Int) (st : Bool) (bx : List (Nat × List CV)) (bl : List Blk) :
    ∃ v bl', graph_Graph_Ends_F st ⟨bx, bl⟩ [.vp (layC l), .int .i64 at'] = some (v, ⟨bx, bl'⟩) ∧ Own fE 2 bl' v (ends l at') ∧ (∀ (k : Nat) (b : Blk), bl[k]? = some b → bl'[k]? = some b) ∧ (∀ k, blkOf v = some k → bl.length ≤ k) := by
  obtain ⟨v1, bl1, bx1, e1, o1⟩ := gends_loop l hl at' l.secs [] [] .nils [] rfl (by simp) (Own.nil _ _ _)
  simp only [List.nil_append, List.length_nil, Int.natCast_zero] at e1 o1
  obtain ⟨v2, bl2, e2, o2, h3, h4⟩ := o1.handed flatE st bx1 bx bl (fun H x => snapE1 st H x)
  refine ⟨v2, bl2, ?_, o2, h3, h4⟩
  rw [graph_Graph_Ends_F_eq]
  simp only [graph_Graph_Ends_C, graph_Graph_Ends_L0_eq, e1, e2, y1, y2, y3, y4, y5, y6, y7, y8, y9, keepE, keepB, chk, CV.locs, CV.locv, CV.refs, CV.ref, pureOp, repC, takeN, resV, enterC, Nat.reduceAdd, Nat.reduceSub, Nat.reduceMul, Nat.reduceLeDiff, Nat.reduceLT, Nat.reduceBEq, Nat.reduceBNe, Nat.reduceEqDiff, ↓reduceIte, Int.reduceAdd, Int.reduceSub, Int.reduceMul, Int.reduceLT, Int.reduceLE, Int.reduceEq, Int.reduceNeg, Int.reduceToNat]
end Go.Proofs.Ytmkdhpjidhbijaa.Zt
