/- Walks: the graph's sections, nodes, ends. -/
import Derived.Test.YtmjffmghkfappaaZcH
set_option linter.all false
namespace Go.Proofs.Ytmjffmghkfappaa.Zt
open Go Go.Zc
set_option maxRecDepth 10000

theorem gsection_F (l : Lay) (n : Int) (st : Bool) (H : Heap) : graph_Graph_section_F st H [.vp (layC l), .int .i64 n] = some (.tup [.agg (secC (secAt l n)), .bool (secAt l n).isSome], H) := by
  rw [graph_Graph_section_F_eq]
  have hz : binC .eql .ptr (.vp (layC l)) .nilp = some (.bool false) := rfl
  by_cases h1 : n < 0
  · have hn : secAt l n = none := by simp only [secAt, if_neg (show ¬ 0 ≤ n by omega)]
    simp only [graph_Graph_section_C, hz, h1, hn, secC, y1, y2, y3, y4, y5, y6, y7, y8, y9, keepE, keepB, chk, CV.locs, CV.locv, CV.refs, CV.ref, pureOp, repC, takeN, resV, enterC, Nat.reduceAdd, Nat.reduceSub, Nat.reduceMul, Nat.reduceLeDiff, Nat.reduceLT, Nat.reduceBEq, Nat.reduceBNe, Nat.reduceEqDiff, ↓reduceIte, Int.reduceAdd, Int.reduceSub, Int.reduceMul, Int.reduceLT, Int.reduceLE, Int.reduceEq, Int.reduceNeg, Int.reduceToNat]
  · obtain ⟨n, rfl⟩ := Int.eq_ofNat_of_zero_le (show 0 ≤ n by omega)
    by_cases h2 : l.secs.length ≤ n
    · have hn : secAt l n = none := by simp [secAt, List.getElem?_eq_none h2]
      have h2' : ((l.secs.length : Int) ≤ n) := by omega
      simp only [graph_Graph_section_C, hz, h1, h2', hn, secC, y1, y2, y3, y4, y5, y6, y7, y8, y9, keepE, keepB, chk, CV.locs, CV.locv, CV.refs, CV.ref, pureOp, repC, takeN, resV, enterC, Nat.reduceAdd, Nat.reduceSub, Nat.reduceMul, Nat.reduceLeDiff, Nat.reduceLT, Nat.reduceBEq, Nat.reduceBNe, Nat.reduceEqDiff, ↓reduceIte, Int.reduceAdd, Int.reduceSub, Int.reduceMul, Int.reduceLT, Int.reduceLE, Int.reduceEq, Int.reduceNeg, Int.reduceToNat]
    · have h2' : ¬ ((l.secs.length : Int) ≤ n) := by omega
      have hlt : n < l.secs.length := by omega
      have hn : secAt l n = some l.secs[n] := by simp [secAt, List.getElem?_eq_getElem hlt]
      simp only [graph_Graph_section_C, hz, h1, h2', hn, secC, fS, iaddr_atS hlt, y1, y2, y3, y4, y5, y6, y7, y8, y9, keepE, keepB, chk, CV.locs, CV.locv, CV.refs, CV.ref, pureOp, repC, takeN, resV, enterC, Nat.reduceAdd, Nat.reduceSub, Nat.reduceMul, Nat.reduceLeDiff, Nat.reduceLT, Nat.reduceBEq, Nat.reduceBNe, Nat.reduceEqDiff, ↓reduceIte, Int.reduceAdd, Int.reduceSub, Int.reduceMul, Int.reduceLT, Int.reduceLE, Int.reduceEq, Int.reduceNeg, Int.reduceToNat]

theorem nodeOf_sec (l : Lay) (x : Ed) : nodeOf l x = (secAt l x.s).bind fun s => if x.e = 0 then some s.a else if x.e = 1 then some s.b else none := rfl

theorem gnode_F (l : Lay) (x : Ed) (st : Bool) (H : Heap) : graph_Graph_node_F st H [.vp (layC l), .agg (fE x)] = some (.tup [.int .i64 ((nodeOf l x).getD 0), .bool (nodeOf l x).isSome], H) := by
  rw [graph_Graph_node_F_eq, nodeOf_sec]
  have hs := gsection_F l x.s
  cases h : secAt l x.s with
  | none =>
    simp only [h, secC] at hs
    simp only [graph_Graph_node_C, fE, graph_Graph_section_call, hs, Option.bind_none, Option.getD_none, y1, y2, y3, y4, y5, y6, y7, y8, y9, keepE, keepB, chk, CV.locs, CV.locv, CV.refs, CV.ref, pureOp, repC, takeN, resV, enterC, Nat.reduceAdd, Nat.reduceSub, Nat.reduceMul, Nat.reduceLeDiff, Nat.reduceLT, Nat.reduceBEq, Nat.reduceBNe, Nat.reduceEqDiff, ↓reduceIte, Int.reduceAdd, Int.reduceSub, Int.reduceMul, Int.reduceLT, Int.reduceLE, Int.reduceEq, Int.reduceNeg, Int.reduceToNat]
  | some s =>
    simp only [h, secC, fS] at hs
    by_cases h0 : x.e = 0
    · simp only [graph_Graph_node_C, fE, graph_Graph_section_call, hs, Option.bind_some, eq_true h0, Option.getD_some, y1, y2, y3, y4, y5, y6, y7, y8, y9, keepE, keepB, chk, CV.locs, CV.locv, CV.refs, CV.ref, pureOp, repC, takeN, resV, enterC, Nat.reduceAdd, Nat.reduceSub, Nat.reduceMul, Nat.reduceLeDiff, Nat.reduceLT, Nat.reduceBEq, Nat.reduceBNe, Nat.reduceEqDiff, ↓reduceIte, Int.reduceAdd, Int.reduceSub, Int.reduceMul, Int.reduceLT, Int.reduceLE, Int.reduceEq, Int.reduceNeg, Int.reduceToNat]
    · by_cases h1 : x.e = 1
      · simp only [graph_Graph_node_C, fE, graph_Graph_section_call, hs, Option.bind_some, eq_false h0, eq_true h1, Option.getD_some, y1, y2, y3, y4, y5, y6, y7, y8, y9, keepE, keepB, chk, CV.locs, CV.locv, CV.refs, CV.ref, pureOp, repC, takeN, resV, enterC, Nat.reduceAdd, Nat.reduceSub, Nat.reduceMul, Nat.reduceLeDiff, Nat.reduceLT, Nat.reduceBEq, Nat.reduceBNe, Nat.reduceEqDiff, ↓reduceIte, Int.reduceAdd, Int.reduceSub, Int.reduceMul, Int.reduceLT, Int.reduceLE, Int.reduceEq, Int.reduceNeg, Int.reduceToNat]
      · simp only [graph_Graph_node_C, fE, graph_Graph_section_call, hs, Option.bind_some, eq_false h0, eq_false h1, Option.getD_none, y1, y2, y3, y4, y5, y6, y7, y8, y9, keepE, keepB, chk, CV.locs, CV.locv, CV.refs, CV.ref, pureOp, repC, takeN, resV, enterC, Nat.reduceAdd, Nat.reduceSub, Nat.reduceMul, Nat.reduceLeDiff, Nat.reduceLT, Nat.reduceBEq, Nat.reduceBNe, Nat.reduceEqDiff, ↓reduceIte, Int.reduceAdd, Int.reduceSub, Int.reduceMul, Int.reduceLT, Int.reduceLE, Int.reduceEq, Int.reduceNeg, Int.reduceToNat]

theorem glen_F (l : Lay) (n : Int) (st : Bool) (H : Heap) : graph_Graph_Len_F st H [.vp (layC l), .int .i64 n] = some (.int .i64 (lenAt l n), H) := by
  rw [graph_Graph_Len_F_eq]
  have hs := gsection_F l n
  have hl : lenAt l n = ((secAt l n).map Sec.len).getD 0 := rfl
  rw [hl]
  cases h : secAt l n with
  | none =>
    simp only [h, secC] at hs
    simp only [graph_Graph_Len_C, graph_Graph_section_call, hs, Option.map_none, Option.getD_none, y1, y2, y3, y4, y5, y6, y7, y8, y9, keepE, keepB, chk, CV.locs, CV.locv, CV.refs, CV.ref, pureOp, repC, takeN, resV, enterC, Nat.reduceAdd, Nat.reduceSub, Nat.reduceMul, Nat.reduceLeDiff, Nat.reduceLT, Nat.reduceBEq, Nat.reduceBNe, Nat.reduceEqDiff, ↓reduceIte, Int.reduceAdd, Int.reduceSub, Int.reduceMul, Int.reduceLT, Int.reduceLE, Int.reduceEq, Int.reduceNeg, Int.reduceToNat]
  | some s =>
    simp only [h, secC, fS] at hs
    simp only [graph_Graph_Len_C, graph_Graph_section_call, hs, Option.map_some, Option.getD_some, y1, y2, y3, y4, y5, y6, y7, y8, y9, keepE, keepB, chk, CV.locs, CV.locv, CV.refs, CV.ref, pureOp, repC, takeN, resV, enterC, Nat.reduceAdd, Nat.reduceSub, Nat.reduceMul, Nat.reduceLeDiff, Nat.reduceLT, Nat.reduceBEq, Nat.reduceBNe, Nat.reduceEqDiff, ↓reduceIte, Int.reduceAdd, Int.reduceSub, Int.reduceMul, Int.reduceLT, Int.reduceLE, Int.reduceEq, Int.reduceNeg, Int.reduceToNat]

theorem gends_in (a b at' : Int) (l : Lay) (i : Nat) (acc : List Ed) (v : CV) (bl : List Blk) (hm : acc.length ≤ 2 * Zc.small) (hO : Own fE 2 bl v acc) :
    ∃ v' bl', graph_Graph_Ends_R2 ([(0, .vp (layC l)), (1, .int .i64 at'), (5, v), (6, .int .i64 i), (26, .agg [.int .i64 a, .int .i64 b]), (27, .int .i64 0)], ⟨[], bl⟩) = some (.norm, [(0, .vp (layC l)), (1, .int .i64 at'), (5, v'), (6, .int .i64 i)], ⟨[], bl'⟩) ∧
      Own fE 2 bl' v' (acc ++ ((if a = at' then [⟨i, 0⟩] else []) ++ (if b = at' then [⟨i, 1⟩] else []))) := by
  unfold Zc.small at hm
  have x0 : idxAC 2 false 1 (.agg [.int .i64 a, .int .i64 b]) (.int .i64 0) = some (.int .i64 a) := rfl
  have x1 : idxAC 2 false 1 (.agg [.int .i64 a, .int .i64 b]) (.int .i64 1) = some (.int .i64 b) := rfl
  have s2 : ∀ (v : CV) (bl : List Blk) (acc : List Ed), Own fE 2 bl v acc → graph_Graph_Ends_R2 ([(0, .vp (layC l)), (1, .int .i64 at'), (5, v), (6, .int .i64 i), (26, .agg [.int .i64 a, .int .i64 b]), (27, .int .i64 2)], ⟨[], bl⟩) = some (.norm, [(0, .vp (layC l)), (1, .int .i64 at'), (5, v), (6, .int .i64 i)], ⟨[], bl⟩) := by
    intro v bl acc hO
    rw [graph_Graph_Ends_R2_eq]
    simp only [graph_Graph_Ends_B2, graph_Graph_Ends_K2_norm, graph_Graph_Ends_K2_ret, graph_Graph_Ends_K2_exit, hO.chkV, y1, y2, y3, y4, y5, y6, y7, y8, y9, keepE, keepB, chk, CV.locs, CV.locv, CV.refs, CV.ref, pureOp, repC, takeN, resV, enterC, Nat.reduceAdd, Nat.reduceSub, Nat.reduceMul, Nat.reduceLeDiff, Nat.reduceLT, Nat.reduceBEq, Nat.reduceBNe, Nat.reduceEqDiff, ↓reduceIte, Int.reduceAdd, Int.reduceSub, Int.reduceMul, Int.reduceLT, Int.reduceLE, Int.reduceEq, Int.reduceNeg, Int.reduceToNat]
  have s1 : ∀ (v : CV) (bl : List Blk) (acc : List Ed), acc.length ≤ 2 * 1000000000 + 1 → Own fE 2 bl v acc → ∃ v' bl', graph_Graph_Ends_R2 ([(0, .vp (layC l)), (1, .int .i64 at'), (5, v), (6, .int .i64 i), (26, .agg [.int .i64 a, .int .i64 b]), (27, .int .i64 1)], ⟨[], bl⟩) = some (.norm, [(0, .vp (layC l)), (1, .int .i64 at'), (5, v'), (6, .int .i64 i)], ⟨[], bl'⟩) ∧ Own fE 2 bl' v' (acc ++ if b = at' then [⟨i, 1⟩] else []) := by
    intro v bl acc hm hO
    by_cases hb : b = at'
    · obtain ⟨v1, bl1, e1, o1, _⟩ := hO.app1 flatE (bytes := 16) (zero := [.int .i64 0, .int .i64 0]) (by decide) rfl rfl ⟨i, 1⟩ (by omega)
      simp only [fE] at e1
      refine ⟨v1, bl1, ?_, by simpa [hb] using o1⟩
      have := s2 v1 bl1 _ o1
      rw [graph_Graph_Ends_R2_eq]
      simp only [graph_Graph_Ends_B2, graph_Graph_Ends_K2_norm, graph_Graph_Ends_K2_ret, graph_Graph_Ends_K2_exit, x1, eq_true hb, e1, this, hO.chkV, o1.chkV, y1, y2, y3, y4, y5, y6, y7, y8, y9, keepE, keepB, chk, CV.locs, CV.locv, CV.refs, CV.ref, pureOp, repC, takeN, resV, enterC, Nat.reduceAdd, Nat.reduceSub, Nat.reduceMul, Nat.reduceLeDiff, Nat.reduceLT, Nat.reduceBEq, Nat.reduceBNe, Nat.reduceEqDiff, ↓reduceIte, Int.reduceAdd, Int.reduceSub, Int.reduceMul, Int.reduceLT, Int.reduceLE, Int.reduceEq, Int.reduceNeg, Int.reduceToNat]
    · refine ⟨v, bl, ?_, by simpa [hb] using hO⟩
      have := s2 v bl _ hO
      rw [graph_Graph_Ends_R2_eq]
      simp only [graph_Graph_Ends_B2, graph_Graph_Ends_K2_norm, graph_Graph_Ends_K2_ret, graph_Graph_Ends_K2_exit, x1, eq_false hb, this, hO.chkV, y1, y2, y3, y4, y5, y6, y7, y8, y9, keepE, keepB, chk, CV.locs, CV.locv, CV.refs, CV.ref, pureOp, repC, takeN, resV, enterC, Nat.reduceAdd, Nat.reduceSub, Nat.reduceMul, Nat.reduceLeDiff, Nat.reduceLT, Nat.reduceBEq, Nat.reduceBNe, Nat.reduceEqDiff, ↓reduceIte, Int.reduceAdd, Int.reduceSub, Int.reduceMul, Int.reduceLT, Int.reduceLE, Int.reduceEq, Int.reduceNeg, Int.reduceToNat]
  by_cases ha : a = at'
  · obtain ⟨v1, bl1, e1, o1, _⟩ := hO.app1 flatE (bytes := 16) (zero := [.int .i64 0, .int .i64 0]) (by decide) rfl rfl ⟨i, 0⟩ (by omega)
    obtain ⟨v2, bl2, e2, o2⟩ := s1 v1 bl1 _ (by simp; omega) o1
    simp only [fE] at e1
    refine ⟨v2, bl2, ?_, by simpa [ha] using o2⟩
    rw [graph_Graph_Ends_R2_eq]
    simp only [graph_Graph_Ends_B2, graph_Graph_Ends_K2_norm, graph_Graph_Ends_K2_ret, graph_Graph_Ends_K2_exit, x0, eq_true ha, e1, e2, hO.chkV, o1.chkV, y1, y2, y3, y4, y5, y6, y7, y8, y9, keepE, keepB, chk, CV.locs, CV.locv, CV.refs, CV.ref, pureOp, repC, takeN, resV, enterC, Nat.reduceAdd, Nat.reduceSub, Nat.reduceMul, Nat.reduceLeDiff, Nat.reduceLT, Nat.reduceBEq, Nat.reduceBNe, Nat.reduceEqDiff, ↓reduceIte, Int.reduceAdd, Int.reduceSub, Int.reduceMul, Int.reduceLT, Int.reduceLE, Int.reduceEq, Int.reduceNeg, Int.reduceToNat]
  · obtain ⟨v2, bl2, e2, o2⟩ := s1 v bl _ (by omega) hO
    refine ⟨v2, bl2, ?_, by simpa [ha] using o2⟩
    rw [graph_Graph_Ends_R2_eq]
    simp only [graph_Graph_Ends_B2, graph_Graph_Ends_K2_norm, graph_Graph_Ends_K2_ret, graph_Graph_Ends_K2_exit, x0, eq_false ha, e2, hO.chkV, y1, y2, y3, y4, y5, y6, y7, y8, y9, keepE, keepB, chk, CV.locs, CV.locv, CV.refs, CV.ref, pureOp, repC, takeN, resV, enterC, Nat.reduceAdd, Nat.reduceSub, Nat.reduceMul, Nat.reduceLeDiff, Nat.reduceLT, Nat.reduceBEq, Nat.reduceBNe, Nat.reduceEqDiff, ↓reduceIte, Int.reduceAdd, Int.reduceSub, Int.reduceMul, Int.reduceLT, Int.reduceLE, Int.reduceEq, Int.reduceNeg, Int.reduceToNat]

theorem gends_loop (l : Lay) (hl : l.ok) (at' : Int) : ∀ (s p : List Sec) (acc : List Ed) (v : CV) (bl : List Blk), p ++ s = l.secs → acc.length ≤ 2 * p.length → Own fE 2 bl v acc →
    ∃ v' bl' bx, graph_Graph_Ends_R0 ([(0, .vp (layC l)), (1, .int .i64 at'), (5, v), (6, .int .i64 p.length)], ⟨[], bl⟩) = some (.ret, [(4, v')], ⟨bx, bl'⟩) ∧ Own fE 2 bl' v' (acc ++ endsFrom at' p.length s)
  | [], p, acc, v, bl, hp, ha, hO => by
    have hs := gsection_F l p.length
    have hn : secAt l p.length = none := by simp [secAt, ← hp]
    simp only [hn, secC] at hs
    have : ∃ bx, graph_Graph_Ends_R0 ([(0, .vp (layC l)), (1, .int .i64 at'), (5, v), (6, .int .i64 p.length)], ⟨[], bl⟩) = some (.ret, [(4, v)], ⟨bx, bl⟩) := by
      rw [graph_Graph_Ends_R0_eq]
      simp only [graph_Graph_Ends_B0, graph_Graph_Ends_K0_norm, graph_Graph_Ends_K0_ret, graph_Graph_Ends_K0_exit, graph_Graph_section_call, hs, y1, y2, y3, y4, y5, y6, y7, y8, y9, keepE, keepB, chk, CV.locs, CV.locv, CV.refs, CV.ref, pureOp, repC, takeN, resV, enterC, Nat.reduceAdd, Nat.reduceSub, Nat.reduceMul, Nat.reduceLeDiff, Nat.reduceLT, Nat.reduceBEq, Nat.reduceBNe, Nat.reduceEqDiff, ↓reduceIte, Int.reduceAdd, Int.reduceSub, Int.reduceMul, Int.reduceLT, Int.reduceLE, Int.reduceEq, Int.reduceNeg, Int.reduceToNat]
      exact ⟨_, rfl⟩
    obtain ⟨bx, h⟩ := this
    exact ⟨v, bl, bx, h, by simpa [endsFrom] using hO⟩
  | x :: s, p, acc, v, bl, hp, ha, hO => by
    have hsm := hl.secs
    have hpl : p.length + 1 + s.length = l.secs.length := by rw [← hp]; simp; omega
    have hw := wrapN (n := p.length) (by omega)
    have hs := gsection_F l p.length
    have hn : secAt l p.length = some x := by simp [secAt, ← hp]
    simp only [hn, secC, fS] at hs
    obtain ⟨v1, bl1, e1, o1⟩ := gends_in x.a x.b at' l p.length acc v bl (by omega) hO
    obtain ⟨v2, bl2, bx, e2, o2⟩ := gends_loop l hl at' s (p ++ [x]) _ v1 bl1 (by simpa using hp) (by simp only [List.length_append, List.length_cons, List.length_nil]; split <;> split <;> simp <;> omega) o1
    simp only [List.append_assoc, List.cons_append, List.nil_append, List.length_append, List.length_cons, List.length_nil] at e2
    refine ⟨v2, bl2, bx, ?_, by simpa [endsFrom] using o2⟩
    rw [graph_Graph_Ends_R0_eq]
    simp only [graph_Graph_Ends_B0, graph_Graph_Ends_K0_norm, graph_Graph_Ends_K0_ret, graph_Graph_Ends_K0_exit, graph_Graph_Ends_L2_eq, graph_Graph_section_call, hs, e1, hw, hO.chkV, o1.chkV, e2, y1, y2, y3, y4, y5, y6, y7, y8, y9, keepE, keepB, chk, CV.locs, CV.locv, CV.refs, CV.ref, pureOp, repC, takeN, resV, enterC, Nat.reduceAdd, Nat.reduceSub, Nat.reduceMul, Nat.reduceLeDiff, Nat.reduceLT, Nat.reduceBEq, Nat.reduceBNe, Nat.reduceEqDiff, ↓reduceIte, Int.reduceAdd, Int.reduceSub, Int.reduceMul, Int.reduceLT, Int.reduceLE, Int.reduceEq, Int.reduceNeg, Int.reduceToNat]

theorem snapE1 (st : Bool) (H : Heap) (x : Ed) : ∀ c ∈ fE x, snap H st false c = some c := snap_E H st false 7 x

/-- The ends at a node, in memory of the caller's. -/
theorem gends_F (l : Lay) (hl : l.ok) (at' : Int) (st : Bool) (bx : List (Nat × List CV)) (bl : List Blk) :
    ∃ v bl', graph_Graph_Ends_F st ⟨bx, bl⟩ [.vp (layC l), .int .i64 at'] = some (v, ⟨bx, bl'⟩) ∧ Own fE 2 bl' v (ends l at') ∧ (∀ (k : Nat) (b : Blk), bl[k]? = some b → bl'[k]? = some b) ∧ (∀ k, blkOf v = some k → bl.length ≤ k) := by
  obtain ⟨v1, bl1, bx1, e1, o1⟩ := gends_loop l hl at' l.secs [] [] .nils [] rfl (by simp) (Own.nil _ _ _)
  simp only [List.nil_append, List.length_nil, Int.natCast_zero] at e1 o1
  obtain ⟨v2, bl2, e2, o2, h3, h4⟩ := o1.handed flatE st bx1 bx bl (fun H x => snapE1 st H x)
  refine ⟨v2, bl2, ?_, o2, h3, h4⟩
  rw [graph_Graph_Ends_F_eq]
  simp only [graph_Graph_Ends_C, graph_Graph_Ends_L0_eq, e1, e2, y1, y2, y3, y4, y5, y6, y7, y8, y9, keepE, keepB, chk, CV.locs, CV.locv, CV.refs, CV.ref, pureOp, repC, takeN, resV, enterC, Nat.reduceAdd, Nat.reduceSub, Nat.reduceMul, Nat.reduceLeDiff, Nat.reduceLT, Nat.reduceBEq, Nat.reduceBNe, Nat.reduceEqDiff, ↓reduceIte, Int.reduceAdd, Int.reduceSub, Int.reduceMul, Int.reduceLT, Int.reduceLE, Int.reduceEq, Int.reduceNeg, Int.reduceToNat]
end Go.Proofs.Ytmjffmghkfappaa.Zt

/- Walks: looking through slices with a function; the graph's points, a section's end. -/
namespace Go.Proofs.Ytmjffmghkfappaa.Zt
open Go Go.Zc
set_option maxRecDepth 10000

/-- The place of the first one, or -1. -/
def idxOf {α : Type} (p : α → Bool) (l : List α) : Int := match l.findIdx? p with
  | some i => (i : Int)
  | none => -1

theorem idxP_loop (fv : CV) (hf : fv.locv = false) (p : Pt → Bool) (hp : ∀ x H, call ctx fv [.agg (fP x)] H = some (.bool (p x), H)) : ∀ (s pre : List Pt), (pre ++ s).length ≤ 2 * Zc.small →
    slices_IndexFunc_Point_R0 ([(0, sl fP (pre ++ s)), (1, fv), (7, .int .i64 (pre ++ s).length), (8, .int .i64 pre.length)], ⟨[], []⟩) =
      match s.findIdx? p with
      | some i => some (.ret, [(4, .int .i64 ((pre.length + i : Nat) : Int))], ⟨[], []⟩)
      | none => some (.norm, [], ⟨[], []⟩)
  | [], pre, hm => by
    rw [slices_IndexFunc_Point_R0_eq]
    simp only [slices_IndexFunc_Point_B0, slices_IndexFunc_Point_K0_norm, slices_IndexFunc_Point_K0_ret, slices_IndexFunc_Point_K0_exit, List.findIdx?_nil, y1, y2, y3, y4, y5, y6, y7, y8, y9, keepE, keepB, chk, CV.locs, CV.locv, CV.refs, CV.ref, pureOp, repC, takeN, resV, enterC, Nat.reduceAdd, Nat.reduceSub, Nat.reduceMul, Nat.reduceLeDiff, Nat.reduceLT, Nat.reduceBEq, Nat.reduceBNe, Nat.reduceEqDiff, ↓reduceIte, Int.reduceAdd, Int.reduceSub, Int.reduceMul, Int.reduceLT, Int.reduceLE, Int.reduceEq, Int.reduceNeg, Int.reduceToNat]
  | x :: s, pre, hm => by
    have h1 : ((pre.length : Int) < (pre ++ x :: s).length) := by simp; omega
    have hw := wrapN (n := pre.length) (by simp at hm; omega)
    have ih := idxP_loop fv hf p hp s (pre ++ [x]) (by simpa using hm)
    have hpx := fun H => hp x H
    have hcv := chkV_of hf
    simp only [fP] at hpx
    simp only [List.append_assoc, List.cons_append, List.nil_append, List.length_append, List.length_cons, List.length_nil] at ih h1
    rw [slices_IndexFunc_Point_R0_eq]
    simp only [slices_IndexFunc_Point_B0, slices_IndexFunc_Point_K0_norm, slices_IndexFunc_Point_K0_ret, slices_IndexFunc_Point_K0_exit, h1, iaddr_midP, hpx, hw, hcv, List.append_assoc, List.cons_append, List.nil_append, List.length_append, List.length_cons, List.length_nil, y1, y2, y3, y4, y5, y6, y7, y8, y9, keepE, keepB, chk, CV.locs, CV.locv, CV.refs, CV.ref, pureOp, repC, takeN, resV, enterC, Nat.reduceAdd, Nat.reduceSub, Nat.reduceMul, Nat.reduceLeDiff, Nat.reduceLT, Nat.reduceBEq, Nat.reduceBNe, Nat.reduceEqDiff, ↓reduceIte, Int.reduceAdd, Int.reduceSub, Int.reduceMul, Int.reduceLT, Int.reduceLE, Int.reduceEq, Int.reduceNeg, Int.reduceToNat, ih]
    by_cases hA : p x = true
    · simp [hA, List.findIdx?_cons]
    · simp only [hA, Bool.false_eq_true, if_false, List.findIdx?_cons]
      cases hf : s.findIdx? p with
      | none => simp
      | some i => simp; omega

theorem idxP_F (fv : CV) (hf : fv.locv = false) (p : Pt → Bool) (hp : ∀ x H, call ctx fv [.agg (fP x)] H = some (.bool (p x), H)) (l : List Pt) (hm : l.length ≤ 2 * Zc.small) (st : Bool) (H : Heap) :
    slices_IndexFunc_Point_F st H [sl fP l, fv] = some (.int .i64 (idxOf p l), H) := by
  have e := idxP_loop fv hf p hp l [] hm
  simp only [List.nil_append, List.length_nil, Int.natCast_zero, Nat.zero_add] at e
  rw [slices_IndexFunc_Point_F_eq]
  simp only [slices_IndexFunc_Point_C, slices_IndexFunc_Point_L0_eq, e, idxOf, chkV_of hf, y1, y2, y3, y4, y5, y6, y7, y8, y9, keepE, keepB, chk, CV.locs, CV.locv, CV.refs, CV.ref, pureOp, repC, takeN, resV, enterC, Nat.reduceAdd, Nat.reduceSub, Nat.reduceMul, Nat.reduceLeDiff, Nat.reduceLT, Nat.reduceBEq, Nat.reduceBNe, Nat.reduceEqDiff, ↓reduceIte, Int.reduceAdd, Int.reduceSub, Int.reduceMul, Int.reduceLT, Int.reduceLE, Int.reduceEq, Int.reduceNeg, Int.reduceToNat]
  cases hf : l.findIdx? p <;> simp only [y1, y2, y3, y4, y5, y6, y7, y8, y9, keepE, keepB, chk, CV.locs, CV.locv, CV.refs, CV.ref, pureOp, repC, takeN, resV, enterC, Nat.reduceAdd, Nat.reduceSub, Nat.reduceMul, Nat.reduceLeDiff, Nat.reduceLT, Nat.reduceBEq, Nat.reduceBNe, Nat.reduceEqDiff, ↓reduceIte, Int.reduceAdd, Int.reduceSub, Int.reduceMul, Int.reduceLT, Int.reduceLE, Int.reduceEq, Int.reduceNeg, Int.reduceToNat]

theorem idxE_loop (fv : CV) (hf : fv.locv = false) (p : Ed → Bool) (hp : ∀ x H, call ctx fv [.agg (fE x)] H = some (.bool (p x), H)) : ∀ (s pre : List Ed), (pre ++ s).length ≤ 2 * Zc.small →
    slices_IndexFunc_End_R0 ([(0, sl fE (pre ++ s)), (1, fv), (7, .int .i64 (pre ++ s).length), (8, .int .i64 pre.length)], ⟨[], []⟩) =
      match s.findIdx? p with
      | some i => some (.ret, [(4, .int .i64 ((pre.length + i : Nat) : Int))], ⟨[], []⟩)
      | none => some (.norm, [], ⟨[], []⟩)
  | [], pre, hm => by
    rw [slices_IndexFunc_End_R0_eq]
    simp only [slices_IndexFunc_End_B0, slices_IndexFunc_End_K0_norm, slices_IndexFunc_End_K0_ret, slices_IndexFunc_End_K0_exit, List.findIdx?_nil, y1, y2, y3, y4, y5, y6, y7, y8, y9, keepE, keepB, chk, CV.locs, CV.locv, CV.refs, CV.ref, pureOp, repC, takeN, resV, enterC, Nat.reduceAdd, Nat.reduceSub, Nat.reduceMul, Nat.reduceLeDiff, Nat.reduceLT, Nat.reduceBEq, Nat.reduceBNe, Nat.reduceEqDiff, ↓reduceIte, Int.reduceAdd, Int.reduceSub, Int.reduceMul, Int.reduceLT, Int.reduceLE, Int.reduceEq, Int.reduceNeg, Int.reduceToNat]
  | x :: s, pre, hm => by
    have h1 : ((pre.length : Int) < (pre ++ x :: s).length) := by simp; omega
    have hw := wrapN (n := pre.length) (by simp at hm; omega)
    have ih := idxE_loop fv hf p hp s (pre ++ [x]) (by simpa using hm)
    have hpx := fun H => hp x H
    have hcv := chkV_of hf
    simp only [fE] at hpx
    simp only [List.append_assoc, List.cons_append, List.nil_append, List.length_append, List.length_cons, List.length_nil] at ih h1
    rw [slices_IndexFunc_End_R0_eq]
    simp only [slices_IndexFunc_End_B0, slices_IndexFunc_End_K0_norm, slices_IndexFunc_End_K0_ret, slices_IndexFunc_End_K0_exit, h1, iaddr_midE, hpx, hw, hcv, List.append_assoc, List.cons_append, List.nil_append, List.length_append, List.length_cons, List.length_nil, y1, y2, y3, y4, y5, y6, y7, y8, y9, keepE, keepB, chk, CV.locs, CV.locv, CV.refs, CV.ref, pureOp, repC, takeN, resV, enterC, Nat.reduceAdd, Nat.reduceSub, Nat.reduceMul, Nat.reduceLeDiff, Nat.reduceLT, Nat.reduceBEq, Nat.reduceBNe, Nat.reduceEqDiff, ↓reduceIte, Int.reduceAdd, Int.reduceSub, Int.reduceMul, Int.reduceLT, Int.reduceLE, Int.reduceEq, Int.reduceNeg, Int.reduceToNat, ih]
    by_cases hA : p x = true
    · simp [hA, List.findIdx?_cons]
    · simp only [hA, Bool.false_eq_true, if_false, List.findIdx?_cons]
      cases hf : s.findIdx? p with
      | none => simp
      | some i => simp; omega

theorem idxE_F (fv : CV) (hf : fv.locv = false) (p : Ed → Bool) (hp : ∀ x H, call ctx fv [.agg (fE x)] H = some (.bool (p x), H)) (l : List Ed) (hm : l.length ≤ 2 * Zc.small) (st : Bool) (H : Heap) :
    slices_IndexFunc_End_F st H [sl fE l, fv] = some (.int .i64 (idxOf p l), H) := by
  have e := idxE_loop fv hf p hp l [] hm
  simp only [List.nil_append, List.length_nil, Int.natCast_zero, Nat.zero_add] at e
  rw [slices_IndexFunc_End_F_eq]
  simp only [slices_IndexFunc_End_C, slices_IndexFunc_End_L0_eq, e, idxOf, chkV_of hf, y1, y2, y3, y4, y5, y6, y7, y8, y9, keepE, keepB, chk, CV.locs, CV.locv, CV.refs, CV.ref, pureOp, repC, takeN, resV, enterC, Nat.reduceAdd, Nat.reduceSub, Nat.reduceMul, Nat.reduceLeDiff, Nat.reduceLT, Nat.reduceBEq, Nat.reduceBNe, Nat.reduceEqDiff, ↓reduceIte, Int.reduceAdd, Int.reduceSub, Int.reduceMul, Int.reduceLT, Int.reduceLE, Int.reduceEq, Int.reduceNeg, Int.reduceToNat]
  cases hf : l.findIdx? p <;> simp only [y1, y2, y3, y4, y5, y6, y7, y8, y9, keepE, keepB, chk, CV.locs, CV.locv, CV.refs, CV.ref, pureOp, repC, takeN, resV, enterC, Nat.reduceAdd, Nat.reduceSub, Nat.reduceMul, Nat.reduceLeDiff, Nat.reduceLT, Nat.reduceBEq, Nat.reduceBNe, Nat.reduceEqDiff, ↓reduceIte, Int.reduceAdd, Int.reduceSub, Int.reduceMul, Int.reduceLT, Int.reduceLE, Int.reduceEq, Int.reduceNeg, Int.reduceToNat]

theorem idxL_loop (fv : CV) (hf : fv.locv = false) (p : (List Int) → Bool) : ∀ (s pre : List (List Int)), (∀ x ∈ s, ∀ H, call ctx fv (fL x) H = some (.bool (p x), H)) → (pre ++ s).length ≤ 2 * Zc.small →
    slices_IndexFunc_int_R0 ([(0, sl fL (pre ++ s)), (1, fv), (7, .int .i64 (pre ++ s).length), (8, .int .i64 pre.length)], ⟨[], []⟩) =
      match s.findIdx? p with
      | some i => some (.ret, [(4, .int .i64 ((pre.length + i : Nat) : Int))], ⟨[], []⟩)
      | none => some (.norm, [], ⟨[], []⟩)
  | [], pre, _, hm => by
    rw [slices_IndexFunc_int_R0_eq]
    simp only [slices_IndexFunc_int_B0, slices_IndexFunc_int_K0_norm, slices_IndexFunc_int_K0_ret, slices_IndexFunc_int_K0_exit, List.findIdx?_nil, y1, y2, y3, y4, y5, y6, y7, y8, y9, keepE, keepB, chk, CV.locs, CV.locv, CV.refs, CV.ref, pureOp, repC, takeN, resV, enterC, Nat.reduceAdd, Nat.reduceSub, Nat.reduceMul, Nat.reduceLeDiff, Nat.reduceLT, Nat.reduceBEq, Nat.reduceBNe, Nat.reduceEqDiff, ↓reduceIte, Int.reduceAdd, Int.reduceSub, Int.reduceMul, Int.reduceLT, Int.reduceLE, Int.reduceEq, Int.reduceNeg, Int.reduceToNat]
  | x :: s, pre, hp, hm => by
    have h1 : ((pre.length : Int) < (pre ++ x :: s).length) := by simp; omega
    have hw := wrapN (n := pre.length) (by simp at hm; omega)
    have ih := idxL_loop fv hf p s (pre ++ [x]) (fun y hy => hp y (by simp [hy])) (by simpa using hm)
    have hpx := fun H => hp x (by simp) H
    have hcv := chkV_of hf
    simp only [fL] at hpx
    simp only [List.append_assoc, List.cons_append, List.nil_append, List.length_append, List.length_cons, List.length_nil] at ih h1
    rw [slices_IndexFunc_int_R0_eq]
    simp only [slices_IndexFunc_int_B0, slices_IndexFunc_int_K0_norm, slices_IndexFunc_int_K0_ret, slices_IndexFunc_int_K0_exit, h1, iaddr_midL, hpx, hw, hcv, List.append_assoc, List.cons_append, List.nil_append, List.length_append, List.length_cons, List.length_nil, y1, y2, y3, y4, y5, y6, y7, y8, y9, keepE, keepB, chk, CV.locs, CV.locv, CV.refs, CV.ref, pureOp, repC, takeN, resV, enterC, Nat.reduceAdd, Nat.reduceSub, Nat.reduceMul, Nat.reduceLeDiff, Nat.reduceLT, Nat.reduceBEq, Nat.reduceBNe, Nat.reduceEqDiff, ↓reduceIte, Int.reduceAdd, Int.reduceSub, Int.reduceMul, Int.reduceLT, Int.reduceLE, Int.reduceEq, Int.reduceNeg, Int.reduceToNat, ih]
    by_cases hA : p x = true
    · simp [hA, List.findIdx?_cons]
    · simp only [hA, Bool.false_eq_true, if_false, List.findIdx?_cons]
      cases hf : s.findIdx? p with
      | none => simp
      | some i => simp; omega

theorem idxL_F (fv : CV) (hf : fv.locv = false) (p : (List Int) → Bool) (l : List (List Int)) (hp : ∀ x ∈ l, ∀ H, call ctx fv (fL x) H = some (.bool (p x), H)) (hm : l.length ≤ 2 * Zc.small) (st : Bool) (H : Heap) :
    slices_IndexFunc_int_F st H [sl fL l, fv] = some (.int .i64 (idxOf p l), H) := by
  have e := idxL_loop fv hf p l [] hp hm
  simp only [List.nil_append, List.length_nil, Int.natCast_zero, Nat.zero_add] at e
  rw [slices_IndexFunc_int_F_eq]
  simp only [slices_IndexFunc_int_C, slices_IndexFunc_int_L0_eq, e, idxOf, chkV_of hf, y1, y2, y3, y4, y5, y6, y7, y8, y9, keepE, keepB, chk, CV.locs, CV.locv, CV.refs, CV.ref, pureOp, repC, takeN, resV, enterC, Nat.reduceAdd, Nat.reduceSub, Nat.reduceMul, Nat.reduceLeDiff, Nat.reduceLT, Nat.reduceBEq, Nat.reduceBNe, Nat.reduceEqDiff, ↓reduceIte, Int.reduceAdd, Int.reduceSub, Int.reduceMul, Int.reduceLT, Int.reduceLE, Int.reduceEq, Int.reduceNeg, Int.reduceToNat]
  cases hf : l.findIdx? p <;> simp only [y1, y2, y3, y4, y5, y6, y7, y8, y9, keepE, keepB, chk, CV.locs, CV.locv, CV.refs, CV.ref, pureOp, repC, takeN, resV, enterC, Nat.reduceAdd, Nat.reduceSub, Nat.reduceMul, Nat.reduceLeDiff, Nat.reduceLT, Nat.reduceBEq, Nat.reduceBNe, Nat.reduceEqDiff, ↓reduceIte, Int.reduceAdd, Int.reduceSub, Int.reduceMul, Int.reduceLT, Int.reduceLE, Int.reduceEq, Int.reduceNeg, Int.reduceToNat]

theorem gpoint1_F (x : Pt) (n : Int) (st : Bool) (H : Heap) : graph_Graph_Point_1_F st H [.agg (fP x), .vp [.int .i64 n]] = some (.bool (decide (x.node = n)), H) := by
  rw [graph_Graph_Point_1_F_eq]
  simp only [graph_Graph_Point_1_C, fP, y1, y2, y3, y4, y5, y6, y7, y8, y9, keepE, keepB, chk, CV.locs, CV.locv, CV.refs, CV.ref, pureOp, repC, takeN, resV, enterC, Nat.reduceAdd, Nat.reduceSub, Nat.reduceMul, Nat.reduceLeDiff, Nat.reduceLT, Nat.reduceBEq, Nat.reduceBNe, Nat.reduceEqDiff, ↓reduceIte, Int.reduceAdd, Int.reduceSub, Int.reduceMul, Int.reduceLT, Int.reduceLE, Int.reduceEq, Int.reduceNeg, Int.reduceToNat]

theorem gpoint_F (l : Lay) (hl : l.ok) (n : Int) (st : Bool) (H : Heap) : graph_Graph_Point_F st H [.vp (layC l), .int .i64 n] = some (.int .i64 (match ptOf l n with | some i => (i : Int) | none => -1), H) := by
  rw [graph_Graph_Point_F_eq]
  have hz : binC .eql .ptr (.vp (layC l)) .nilp = some (.bool false) := rfl
  have hs := hl.pts
  have hF := fun st H => idxP_F (.fn (.func 121) [] [.vp [.int .i64 n]]) rfl (fun x => decide (x.node = n)) (fun x H => by
    simp only [graph_Graph_Point_1_call, fP, y1, y2, y3, y4, y5, y6, y7, y8, y9, keepE, keepB, chk, CV.locs, CV.locv, CV.refs, CV.ref, pureOp, repC, takeN, resV, enterC, Nat.reduceAdd, Nat.reduceSub, Nat.reduceMul, Nat.reduceLeDiff, Nat.reduceLT, Nat.reduceBEq, Nat.reduceBNe, Nat.reduceEqDiff, ↓reduceIte, Int.reduceAdd, Int.reduceSub, Int.reduceMul, Int.reduceLT, Int.reduceLE, Int.reduceEq, Int.reduceNeg, Int.reduceToNat]
    have := gpoint1_F x n
    simp only [fP] at this
    rw [this]) l.pts (by omega) st H
  have he : idxOf (fun x : Pt => decide (x.node = n)) l.pts = (match ptOf l n with | some i => (i : Int) | none => -1) := rfl
  rw [← he]
  simp only [graph_Graph_Point_C, hz, slices_IndexFunc_Point_call, hF, y1, y2, y3, y4, y5, y6, y7, y8, y9, keepE, keepB, chk, CV.locs, CV.locv, CV.refs, CV.ref, pureOp, repC, takeN, resV, enterC, Nat.reduceAdd, Nat.reduceSub, Nat.reduceMul, Nat.reduceLeDiff, Nat.reduceLT, Nat.reduceBEq, Nat.reduceBNe, Nat.reduceEqDiff, ↓reduceIte, Int.reduceAdd, Int.reduceSub, Int.reduceMul, Int.reduceLT, Int.reduceLE, Int.reduceEq, Int.reduceNeg, Int.reduceToNat]

/-! ### A section's end at a node -/
theorem Own.get {α : Type} {f : α → List CV} {sz : Nat} {bl : List Blk} {v : CV} {l : List α} (hf : Flat f sz) (h : Own f sz bl v l) {p s : List α} {x : α} (hl : l = p ++ x :: s) :
    ∃ m, (∀ k, iaddrC sz v (.int k p.length) = some (.op (.blk m) (p.length * sz))) ∧ ∃ cs, (∀ bx, Heap.get ⟨bx, bl⟩ (.blk m) = some cs) ∧ cs.drop (p.length * sz) = f x ++ s.flatMap f := by
  obtain ⟨m, h1, h2, h3⟩ := h.iaddr hf (k := .i64) (i := p.length) (by rw [hl]; simp)
  refine ⟨m, fun k => ?_, _, fun bx => get_blk bx bl m _ h2, by rw [hl]; exact drop_mid hf p s x⟩
  rw [h3] at h1 ⊢
  exact h1

theorem gat_loop (sec : Int) (l : List Ed) (hm : l.length ≤ 2 * Zc.small) (v : CV) (bl : List Blk) (hO : Own fE 2 bl v l) : ∀ (s p : List Ed), p ++ s = l →
    graph_Graph_at_R0 ([(1, .int .i64 sec), (11, v), (12, .int .i64 l.length), (13, .int .i64 p.length)], ⟨[], bl⟩) =
      match s.find? (fun x => x.s == sec) with
      | some x => some (.ret, [(6, sl fE [x])], ⟨[(8, fE x)], bl⟩)
      | none => some (.norm, [], ⟨[], bl⟩)
  | [], p, hp => by
    have h1 : ¬ ((p.length : Int) < l.length) := by rw [← hp]; simp
    rw [graph_Graph_at_R0_eq]
    simp only [graph_Graph_at_B0, graph_Graph_at_K0_norm, graph_Graph_at_K0_ret, graph_Graph_at_K0_exit, h1, hO.chkV, List.find?_nil, y1, y2, y3, y4, y5, y6, y7, y8, y9, keepE, keepB, chk, CV.locs, CV.locv, CV.refs, CV.ref, pureOp, repC, takeN, resV, enterC, Nat.reduceAdd, Nat.reduceSub, Nat.reduceMul, Nat.reduceLeDiff, Nat.reduceLT, Nat.reduceBEq, Nat.reduceBNe, Nat.reduceEqDiff, ↓reduceIte, Int.reduceAdd, Int.reduceSub, Int.reduceMul, Int.reduceLT, Int.reduceLE, Int.reduceEq, Int.reduceNeg, Int.reduceToNat]
  | x :: s, p, hp => by
    have hpl : p.length + 1 + s.length = l.length := by rw [← hp]; simp; omega
    have h1 : ((p.length : Int) < l.length) := by omega
    have hw := wrapN (n := p.length) (by omega)
    have ih := gat_loop sec l hm v bl hO s (p ++ [x]) (by simpa using hp)
    obtain ⟨m, hia, cs, hg, hd⟩ := Own.get flatE hO hp.symm
    simp only [fE] at hd
    simp only [List.append_assoc, List.cons_append, List.nil_append, List.length_append, List.length_cons, List.length_nil] at ih
    rw [graph_Graph_at_R0_eq]
    by_cases he : x.s = sec
    · simp only [graph_Graph_at_B0, graph_Graph_at_K0_norm, graph_Graph_at_K0_ret, graph_Graph_at_K0_exit, h1, hia, hg, hd, eq_true he, hO.chkV, sl, fE, List.flatMap_cons, List.flatMap_nil, List.find?_cons, beq_iff_eq, y1, y2, y3, y4, y5, y6, y7, y8, y9, keepE, keepB, chk, CV.locs, CV.locv, CV.refs, CV.ref, pureOp, repC, takeN, resV, enterC, Nat.reduceAdd, Nat.reduceSub, Nat.reduceMul, Nat.reduceLeDiff, Nat.reduceLT, Nat.reduceBEq, Nat.reduceBNe, Nat.reduceEqDiff, ↓reduceIte, Int.reduceAdd, Int.reduceSub, Int.reduceMul, Int.reduceLT, Int.reduceLE, Int.reduceEq, Int.reduceNeg, Int.reduceToNat]
      simp [he, fE]
    · simp only [graph_Graph_at_B0, graph_Graph_at_K0_norm, graph_Graph_at_K0_ret, graph_Graph_at_K0_exit, h1, hia, hg, hd, eq_false he, hw, hO.chkV, ih, y1, y2, y3, y4, y5, y6, y7, y8, y9, keepE, keepB, chk, CV.locs, CV.locv, CV.refs, CV.ref, pureOp, repC, takeN, resV, enterC, Nat.reduceAdd, Nat.reduceSub, Nat.reduceMul, Nat.reduceLeDiff, Nat.reduceLT, Nat.reduceBEq, Nat.reduceBNe, Nat.reduceEqDiff, ↓reduceIte, Int.reduceAdd, Int.reduceSub, Int.reduceMul, Int.reduceLT, Int.reduceLE, Int.reduceEq, Int.reduceNeg, Int.reduceToNat]
      simp [he]

theorem gat_F (l : Lay) (hl : l.ok) (sec at' : Int) (H : Heap) : graph_Graph_at_F false H [.vp (layC l), .int .i64 sec, .int .i64 at'] = some (sl fE (oneOf l sec at'), H) := by
  obtain ⟨v, bl, e, o, _⟩ := gends_F l hl at' false [] []
  have e2 := gat_loop sec (ends l at') (ends_len hl at') v bl o (ends l at') [] rfl
  simp only [List.nil_append, List.length_nil, Int.natCast_zero] at e2
  rw [graph_Graph_at_F_eq]
  simp only [graph_Graph_at_C, graph_Graph_at_L0_eq, graph_Graph_Ends_call, e, e2, o.len, o.chkV, oneOf, y1, y2, y3, y4, y5, y6, y7, y8, y9, keepE, keepB, chk, CV.locs, CV.locv, CV.refs, CV.ref, pureOp, repC, takeN, resV, enterC, Nat.reduceAdd, Nat.reduceSub, Nat.reduceMul, Nat.reduceLeDiff, Nat.reduceLT, Nat.reduceBEq, Nat.reduceBNe, Nat.reduceEqDiff, ↓reduceIte, Int.reduceAdd, Int.reduceSub, Int.reduceMul, Int.reduceLT, Int.reduceLE, Int.reduceEq, Int.reduceNeg, Int.reduceToNat]
  cases hf : (ends l at').find? (fun x => x.s == sec) <;> simp only [sl_nil fE, y1, y2, y3, y4, y5, y6, y7, y8, y9, keepE, keepB, chk, CV.locs, CV.locv, CV.refs, CV.ref, pureOp, repC, takeN, resV, enterC, Nat.reduceAdd, Nat.reduceSub, Nat.reduceMul, Nat.reduceLeDiff, Nat.reduceLT, Nat.reduceBEq, Nat.reduceBNe, Nat.reduceEqDiff, ↓reduceIte, Int.reduceAdd, Int.reduceSub, Int.reduceMul, Int.reduceLT, Int.reduceLE, Int.reduceEq, Int.reduceNeg, Int.reduceToNat]
end Go.Proofs.Ytmjffmghkfappaa.Zt

/- Walks: slices.DeleteFunc, Concat of ends; all that may come next, as the graph tells. -/
namespace Go.Proofs.Ytmjffmghkfappaa.Zt
open Go Go.Zc
set_option maxRecDepth 10000

section
variable (fv fv' : CV) (hfv : fv.locv = false) (hfv' : fv'.locv = false) (p : Ed → Bool) (k : Nat) (ce : List CV)
variable (hcall : ∀ (bl : List Blk) (bx : List (Nat × List CV)) (y : Ed), bl[k]? = some (.cells ce) → call ctx fv [.agg (fE y)] ⟨bx, bl⟩ = some (.bool (p y), ⟨bx, bl⟩))
include hfv hcall

theorem del_loop (m n : Nat) (hmk : m ≠ k) (hn : n ≤ 2 * Zc.small) : ∀ (suf kept junk : List Ed) (bl : List Blk), bl[m]? = some (.cells ((kept ++ junk ++ suf).flatMap fE)) → bl[k]? = some (.cells ce) → junk ≠ [] → (kept ++ junk ++ suf).length = n →
    ∃ bl' junk', slices_DeleteFunc_End_R0 ([(0, .os 2 (.blk m) 0 n), (1, fv), (5, .int .i64 kept.length), (6, .int .i64 (kept.length + junk.length : Nat))], ⟨[], bl⟩) =
        some (.norm, [(0, .os 2 (.blk m) 0 n), (5, .int .i64 (kept ++ suf.filter fun x => !p x).length)], ⟨[], bl'⟩) ∧
      bl'[m]? = some (.cells (((kept ++ suf.filter fun x => !p x) ++ junk').flatMap fE)) ∧ bl'[k]? = some (.cells ce) ∧ ((kept ++ suf.filter fun x => !p x) ++ junk').length = n
  | [], kept, junk, bl, hm, hk, hj, hl => by
    refine ⟨bl, junk, ?_, by simpa using hm, hk, by simpa using hl⟩
    have h1 : ¬ (((kept.length + junk.length : Nat) : Int) < n) := by simp at hl; omega
    have hcv := chkV_of hfv
    rw [slices_DeleteFunc_End_R0_eq]
    simp only [slices_DeleteFunc_End_B0, slices_DeleteFunc_End_K0_norm, slices_DeleteFunc_End_K0_ret, slices_DeleteFunc_End_K0_exit, h1, hcv, List.filter_nil, y1, y2, y3, y4, y5, y6, y7, y8, y9, keepE, keepB, chk, CV.locs, CV.locv, CV.refs, CV.ref, pureOp, repC, takeN, resV, enterC, Nat.reduceAdd, Nat.reduceSub, Nat.reduceMul, Nat.reduceLeDiff, Nat.reduceLT, Nat.reduceBEq, Nat.reduceBNe, Nat.reduceEqDiff, ↓reduceIte, Int.reduceAdd, Int.reduceSub, Int.reduceMul, Int.reduceLT, Int.reduceLE, Int.reduceEq, Int.reduceNeg, Int.reduceToNat]
  | x :: suf, kept, junk, bl, hm, hk, hj, hl => by
    have hl' : kept.length + junk.length + 1 + suf.length = n := by simp at hl; omega
    have h1 : (((kept.length + junk.length : Nat) : Int) < n) := by omega
    have hw := wrapN (n := kept.length + junk.length) (by omega)
    have hw2 := wrapN (n := kept.length) (by omega)
    have hcv := chkV_of hfv
    have hg : ∀ bx, Heap.get ⟨bx, bl⟩ (.blk m) = some ((kept ++ junk ++ x :: suf).flatMap fE) := fun bx => get_blk bx bl m _ hm
    have hia : iaddrC 2 (.os 2 (.blk m) 0 n) (.int .i64 (kept.length + junk.length : Nat)) = some (.op (.blk m) ((kept.length + junk.length) * 2)) := by
      unfold iaddrC iaddrN
      simp only [Int.toNat_natCast, Nat.zero_add]
      rw [if_pos ⟨trivial, by omega, by omega⟩]
    have hia2 : iaddrC 2 (.os 2 (.blk m) 0 n) (.int .i64 kept.length) = some (.op (.blk m) (kept.length * 2)) := by
      unfold iaddrC iaddrN
      simp only [Int.toNat_natCast, Nat.zero_add]
      rw [if_pos ⟨trivial, by omega, by omega⟩]
    have hd : ((kept ++ junk ++ x :: suf).flatMap fE).drop ((kept.length + junk.length) * 2) = .int .i64 x.s :: .int .i64 x.e :: suf.flatMap fE := by
      have := drop_mid flatE (kept ++ junk) suf x
      rw [List.length_append] at this
      exact this
    have hcx := fun bx => hcall bl bx x hk
    simp only [fE] at hcx
    by_cases hp : p x = true
    · obtain ⟨bl', junk', e, e1, e2, e3⟩ := del_loop m n hmk hn suf kept (junk ++ [x]) bl (by simpa using hm) hk (by simp) (by simpa using hl)
      have hfl : (x :: suf).filter (fun x => !p x) = suf.filter fun x => !p x := by simp [hp]
      rw [hfl]
      refine ⟨bl', junk', ?_, e1, e2, e3⟩
      have hidx : (kept.length + (junk ++ [x]).length : Nat) = kept.length + junk.length + 1 := by simp; omega
      rw [hidx] at e
      rw [slices_DeleteFunc_End_R0_eq]
      simp only [slices_DeleteFunc_End_B0, slices_DeleteFunc_End_K0_norm, slices_DeleteFunc_End_K0_ret, slices_DeleteFunc_End_K0_exit, h1, hia, hg, hd, hcx, hp, hw, hcv, e, y1, y2, y3, y4, y5, y6, y7, y8, y9, keepE, keepB, chk, CV.locs, CV.locv, CV.refs, CV.ref, pureOp, repC, takeN, resV, enterC, Nat.reduceAdd, Nat.reduceSub, Nat.reduceMul, Nat.reduceLeDiff, Nat.reduceLT, Nat.reduceBEq, Nat.reduceBNe, Nat.reduceEqDiff, ↓reduceIte, Int.reduceAdd, Int.reduceSub, Int.reduceMul, Int.reduceLT, Int.reduceLE, Int.reduceEq, Int.reduceNeg, Int.reduceToNat]
    · obtain ⟨j0, junk0, rfl⟩ : ∃ j0 junk0, junk = j0 :: junk0 := by cases junk with | nil => exact (hj rfl).elim | cons a b => exact ⟨a, b, rfl⟩
      have hml : m < bl.length := (List.getElem?_eq_some_iff.1 hm).1
      have hst : ∀ bx, stE 2 (kept.length * 2) (.agg [.int .i64 x.s, .int .i64 x.e]) ⟨bx, bl⟩ (.blk m) ((kept ++ j0 :: junk0 ++ x :: suf).flatMap fE) = some ⟨bx, bl.set m (.cells ((kept ++ x :: junk0 ++ x :: suf).flatMap fE))⟩ := by
        intro bx
        have hlen := flatE.length (kept ++ j0 :: junk0 ++ x :: suf)
        have hsm := setMany_mid flatE kept (junk0 ++ x :: suf) x j0
        unfold stE
        rw [if_pos ⟨rfl, by rw [hlen]; simp; omega, rfl, .inr rfl⟩]
        simp only [List.append_assoc, List.cons_append] at hsm ⊢
        simp only [fE] at hsm
        simp only [CV.cells, hsm, put_blk]
      obtain ⟨bl', junk', e, e1, e2, e3⟩ := del_loop m n hmk hn suf (kept ++ [x]) (junk0 ++ [x]) (bl.set m (.cells ((kept ++ x :: junk0 ++ x :: suf).flatMap fE))) (by rw [List.getElem?_set_self hml]; simp) (by rw [List.getElem?_set_ne hmk]; exact hk) (by simp) (by simp at hl ⊢; omega)
      have hfl : (x :: suf).filter (fun x => !p x) = x :: suf.filter fun x => !p x := by simp [hp]
      rw [hfl]
      have hke : kept ++ x :: (suf.filter fun x => !p x) = (kept ++ [x]) ++ suf.filter fun x => !p x := by simp
      rw [hke]
      refine ⟨bl', junk', ?_, e1, e2, e3⟩
      have hidx : ((kept ++ [x]).length + (junk0 ++ [x]).length : Nat) = kept.length + (j0 :: junk0).length + 1 := by simp; omega
      rw [hidx, show (kept ++ [x]).length = kept.length + 1 by simp] at e
      generalize (j0 :: junk0).length = J at *
      rw [slices_DeleteFunc_End_R0_eq]
      simp only [slices_DeleteFunc_End_B0, slices_DeleteFunc_End_K0_norm, slices_DeleteFunc_End_K0_ret, slices_DeleteFunc_End_K0_exit, h1, hia, hia2, hg, hd, hcx, hp, hst, hw, hw2, hcv, e, y1, y2, y3, y4, y5, y6, y7, y8, y9, keepE, keepB, chk, CV.locs, CV.locv, CV.refs, CV.ref, pureOp, repC, takeN, resV, enterC, Nat.reduceAdd, Nat.reduceSub, Nat.reduceMul, Nat.reduceLeDiff, Nat.reduceLT, Nat.reduceBEq, Nat.reduceBNe, Nat.reduceEqDiff, ↓reduceIte, Int.reduceAdd, Int.reduceSub, Int.reduceMul, Int.reduceLT, Int.reduceLE, Int.reduceEq, Int.reduceNeg, Int.reduceToNat]

variable (hsn : ∀ (bl : List Blk) (bx : List (Nat × List CV)), bl[k]? = some (.cells ce) → snapV ⟨bx, bl⟩ false false (snapN ⟨bx, bl⟩ false false 7) fv = some fv') (hp' : ∀ x H, call ctx fv' [.agg (fE x)] H = some (.bool (p x), H))
include hfv' hsn hp'

theorem del_F (v : CV) (bl : List Blk) (l : List Ed) (hO : Own fE 2 bl v l) (hk : bl[k]? = some (.cells ce)) (hne : blkOf v ≠ some k) (hm : l.length ≤ 2 * Zc.small) (bx : List (Nat × List CV)) :
    ∃ v' bl', slices_DeleteFunc_End_F bx bl [v, fv] = some (v', ⟨bx, bl'⟩) ∧ OwnS fE 2 bl' v' (l.filter fun x => !p x) := by
  have hv := fun bx => snapE_own hO bx false
  have hs := fun bx => hsn bl bx hk
  have hi := fun st H => idxE_F fv' hfv' p hp' l hm st H
  have hcv := chkV_of hfv
  cases hf : l.findIdx? p with
  | none =>
    have hall : ∀ x ∈ l, p x = false := fun x hx => by simpa using List.findIdx?_eq_none_iff.1 hf x hx
    have hfl : l.filter (fun x => !p x) = l := List.filter_eq_self.2 fun x hx => by simp [hall x hx]
    have hix : idxOf p l = -1 := by simp [idxOf, hf]
    rw [hfl]
    refine ⟨v, bl, ?_, hO.s⟩
    rw [slices_DeleteFunc_End_F_eq]
    simp only [slices_DeleteFunc_End_C, slices_IndexFunc_End_call, hv, hs, hi, hix, hO.locv, y1, y2, y3, y4, y5, y6, y7, y8, y9, keepE, keepB, chk, CV.locs, CV.locv, CV.refs, CV.ref, pureOp, repC, takeN, resV, enterC, Nat.reduceAdd, Nat.reduceSub, Nat.reduceMul, Nat.reduceLeDiff, Nat.reduceLT, Nat.reduceBEq, Nat.reduceBNe, Nat.reduceEqDiff, ↓reduceIte, Int.reduceAdd, Int.reduceSub, Int.reduceMul, Int.reduceLT, Int.reduceLE, Int.reduceEq, Int.reduceNeg, Int.reduceToNat]
  | some i =>
    have hix : idxOf p l = i := by simp [idxOf, hf]
    obtain ⟨hil, hpi, hlt⟩ := List.findIdx?_eq_some_iff_getElem.1 hf
    obtain ⟨pre, x, suf, rfl, hpl, hpx, hpre⟩ : ∃ pre x suf, l = pre ++ x :: suf ∧ pre.length = i ∧ p x = true ∧ ∀ y ∈ pre, p y = false := by
      refine ⟨l.take i, l[i], l.drop (i + 1), by rw [← List.drop_eq_getElem_cons hil, List.take_append_drop], by simp; omega, hpi, fun y hy => ?_⟩
      obtain ⟨j, hj, rfl⟩ := List.mem_iff_getElem.1 hy
      have hji : j < i := by simp at hj; omega
      simpa using hlt j hji
    subst hpl
    have hfl : (pre ++ x :: suf).filter (fun x => !p x) = pre ++ suf.filter fun x => !p x := by
      rw [List.filter_append, List.filter_cons, List.filter_eq_self.2 (fun y hy => by simp [hpre y hy])]
      simp [hpx]
    rw [hfl]
    obtain ⟨m, hia, hg, hvm⟩ := hO.iaddr flatE (k := .i64) (i := 0) (by simp; omega)
    have hmk : m ≠ k := fun h => hne (by rw [hvm, h]; rfl)
    subst hvm
    obtain ⟨bl', junk', e, e1, e2, e3⟩ := del_loop fv hfv p k ce hcall m (pre ++ x :: suf).length hmk hm suf pre [x] bl (by simpa using hg) hk (by simp) (by simp)
    simp only [List.length_cons, List.length_nil, Nat.zero_add] at e
    have hw := wrapN (n := pre.length) (by simp at hm; omega)
    have h1 : ¬ ((pre.length : Int) = -1) := by omega
    clear hpi hlt
    clear hil
    generalize hn : (pre ++ x :: suf).length = n at *
    generalize hq : (pre ++ suf.filter fun x => !p x) = q at *
    have hql : q.length ≤ n := by simp at e3; omega
    have hc1 : slcC 2 (.os 2 (.blk m) 0 n) (some (.int .i64 q.length)) none = some (.os 2 (.blk m) (q.length * 2) (n - q.length)) := by
      unfold slcC
      simp only [sbound, if_true, Option.bind_some]
      rw [if_pos ⟨by omega, by omega⟩]
      simp
    have hc2 : slcC 2 (.os 2 (.blk m) 0 n) none (some (.int .i64 q.length)) = some (.os 2 (.blk m) 0 q.length) := by
      unfold slcC
      simp only [sbound, if_true]
      rw [if_pos ⟨by omega, by omega⟩]
      simp
    have hml : m < bl'.length := (List.getElem?_eq_some_iff.1 e1).1
    have hcl : ∀ bx, clearC 2 [.int .i64 0, .int .i64 0] ⟨bx, bl'⟩ (.os 2 (.blk m) (q.length * 2) (n - q.length)) = some ⟨bx, bl'.set m (.cells (q.flatMap fE ++ repC [.int .i64 0, .int .i64 0] (n - q.length)))⟩ := by
      intro bx
      have hlen := flatE.length (q ++ junk')
      have h3 : (q ++ junk').length = n := e3
      have hjl : junk'.length = n - q.length := by simp at h3; omega
      have hsm := setMany_app (repC [.int .i64 0, .int .i64 0] (n - q.length)) (junk'.flatMap fE) (q.flatMap fE) [] (by rw [repC_length, flatE.length, hjl]; rfl)
      rw [flatE.length] at hsm
      simp only [List.append_nil] at hsm
      simp only [clearC, if_true, get_blk bx bl' m _ e1, Option.bind_some]
      rw [if_pos (by rw [hlen, h3]; omega)]
      simp only [List.flatMap_append, hsm, put_blk]
    refine ⟨.os 2 (.blk m) 0 q.length, bl'.set m (.cells (q.flatMap fE ++ repC [.int .i64 0, .int .i64 0] (n - q.length))), ?_, .inr ⟨m, _, rfl, by rw [List.getElem?_set_self hml]⟩⟩
    rw [slices_DeleteFunc_End_F_eq]
    simp only [slices_DeleteFunc_End_C, slices_DeleteFunc_End_L0_eq, slices_IndexFunc_End_call, hv, hs, hi, hix, h1, hw, hcv, e, hc1, hc2, hop_clear, hcl, y1, y2, y3, y4, y5, y6, y7, y8, y9, keepE, keepB, chk, CV.locs, CV.locv, CV.refs, CV.ref, pureOp, repC, takeN, resV, enterC, Nat.reduceAdd, Nat.reduceSub, Nat.reduceMul, Nat.reduceLeDiff, Nat.reduceLT, Nat.reduceBEq, Nat.reduceBNe, Nat.reduceEqDiff, ↓reduceIte, Int.reduceAdd, Int.reduceSub, Int.reduceMul, Int.reduceLT, Int.reduceLE, Int.reduceEq, Int.reduceNeg, Int.reduceToNat]
end
end Go.Proofs.Ytmjffmghkfappaa.Zt

/- Walks: slices.Concat of ends; all that may come next, as the graph tells. -/
namespace Go.Proofs.Ytmjffmghkfappaa.Zt
open Go Go.Zc
set_option maxRecDepth 10000

def fEL (l : List Ed) : List CV := [sl fE l]
theorem flatEL : Flat fEL 1 := ⟨fun _ => rfl, by decide, fun _ => rfl, fun _ => rfl, fun _ => rfl⟩
theorem iaddr_midEL (k : IntKind) (pre suf : List (List Ed)) (x : List Ed) : iaddrC 1 (sl fEL (pre ++ x :: suf)) (.int k pre.length) = some (.vp (sl fE x :: suf.flatMap fEL)) := iaddr_mid flatEL k pre suf x

theorem grow_F (n : Nat) (hn : n ≤ 4 * Zc.small) (bx : List (Nat × List CV)) (bl : List Blk) : ∃ v bl', slices_Grow_End_F bx bl [.nils, .int .i64 n] = some (v, ⟨bx, bl'⟩) ∧ OwnS fE 2 bl' v [] := by
  unfold Zc.small at hn
  have hw : IntKind.i64.wrap ((n : Int) - 0) = n := by rw [wrap64 (by omega) (by omega)]; omega
  have h0 : ¬ ((n : Int) < 0) := by omega
  have hc1 : slcC 2 .nils none (some (.int .i64 0)) = some .nils := rfl
  have hc2 : slcC 2 (.os 2 (.blk bl.length) 0 n) none (some (.int .i64 0)) = some (.os 2 (.blk bl.length) 0 0) := by
    unfold slcC
    simp only [sbound, if_true]
    rw [if_pos ⟨by omega, by omega⟩]
    simp
  by_cases h : n = 0
  · subst h
    refine ⟨.nils, bl, ?_, .inl ⟨rfl, rfl⟩⟩
    rw [slices_Grow_End_F_eq]
    simp only [slices_Grow_End_C, Int.natCast_zero, y1, y2, y3, y4, y5, y6, y7, y8, y9, keepE, keepB, chk, CV.locs, CV.locv, CV.refs, CV.ref, pureOp, repC, takeN, resV, enterC, Nat.reduceAdd, Nat.reduceSub, Nat.reduceMul, Nat.reduceLeDiff, Nat.reduceLT, Nat.reduceBEq, Nat.reduceBNe, Nat.reduceEqDiff, ↓reduceIte, Int.reduceAdd, Int.reduceSub, Int.reduceMul, Int.reduceLT, Int.reduceLE, Int.reduceEq, Int.reduceNeg, Int.reduceToNat]
  · have h1 : (0 : Int) < n := by omega
    have h2 : (n : Int) * 16 ≤ 140737488355328 := by omega
    refine ⟨.os 2 (.blk bl.length) 0 0, bl ++ [.cells (repC [.int .i64 0, .int .i64 0] n)], ?_, .inr ⟨bl.length, repC [.int .i64 0, .int .i64 0] n, rfl, by simp⟩⟩
    rw [slices_Grow_End_F_eq]
    simp only [slices_Grow_End_C, h0, hw, h1, h2, hc1, hc2, Int.cast_ofNat_Int, Int.toNat_natCast, y1, y2, y3, y4, y5, y6, y7, y8, y9, keepE, keepB, chk, CV.locs, CV.locv, CV.refs, CV.ref, pureOp, repC, takeN, resV, enterC, Nat.reduceAdd, Nat.reduceSub, Nat.reduceMul, Nat.reduceLeDiff, Nat.reduceLT, Nat.reduceBEq, Nat.reduceBNe, Nat.reduceEqDiff, ↓reduceIte, Int.reduceAdd, Int.reduceSub, Int.reduceMul, Int.reduceLT, Int.reduceLE, Int.reduceEq, Int.reduceNeg, Int.reduceToNat]

theorem cat_len : ∀ (s p : List (List Ed)), (p ++ s).length ≤ 1000 → (p.flatten.length + s.flatten.length) ≤ 4 * Zc.small →
    slices_Concat_End_R0 ([(0, sl fEL (p ++ s)), (3, .int .i64 p.flatten.length), (9, sl fEL (p ++ s)), (10, .int .i64 (p ++ s).length), (11, .int .i64 p.length)], ⟨[], []⟩) =
      some (.norm, [(0, sl fEL (p ++ s)), (3, .int .i64 (p ++ s).flatten.length)], ⟨[], []⟩)
  | [], p, hm, hl => by
    rw [slices_Concat_End_R0_eq]
    simp only [slices_Concat_End_B0, slices_Concat_End_K0_norm, slices_Concat_End_K0_ret, slices_Concat_End_K0_exit, y1, y2, y3, y4, y5, y6, y7, y8, y9, keepE, keepB, chk, CV.locs, CV.locv, CV.refs, CV.ref, pureOp, repC, takeN, resV, enterC, Nat.reduceAdd, Nat.reduceSub, Nat.reduceMul, Nat.reduceLeDiff, Nat.reduceLT, Nat.reduceBEq, Nat.reduceBNe, Nat.reduceEqDiff, ↓reduceIte, Int.reduceAdd, Int.reduceSub, Int.reduceMul, Int.reduceLT, Int.reduceLE, Int.reduceEq, Int.reduceNeg, Int.reduceToNat]
  | x :: s, p, hm, hl => by
    have h1 : ((p.length : Int) < (p ++ x :: s).length) := by simp; omega
    have hw := wrapM (n := p.length) (by simp at hm; omega)
    have hxl : p.flatten.length + x.length + s.flatten.length ≤ 4 * Zc.small := by simp at hl; simp; omega
    unfold Zc.small at hxl
    have hw2 : IntKind.i64.wrap ((p.flatten.length : Int) + x.length) = ((p ++ [x]).flatten.length : Nat) := by rw [wrap64 (by omega) (by omega)]; simp
    have h0 : ¬ (((p ++ [x]).flatten.length : Int) < 0) := by omega
    have ih := cat_len s (p ++ [x]) (by simpa using hm) (by simp at hl ⊢; omega)
    rw [show (p ++ [x]) ++ s = p ++ x :: s by simp, show (p ++ [x]).length = p.length + 1 by simp] at ih
    rw [slices_Concat_End_R0_eq]
    simp only [slices_Concat_End_B0, slices_Concat_End_K0_norm, slices_Concat_End_K0_ret, slices_Concat_End_K0_exit, h1, iaddr_midEL, hw, hw2, h0, ih, y1, y2, y3, y4, y5, y6, y7, y8, y9, keepE, keepB, chk, CV.locs, CV.locv, CV.refs, CV.ref, pureOp, repC, takeN, resV, enterC, Nat.reduceAdd, Nat.reduceSub, Nat.reduceMul, Nat.reduceLeDiff, Nat.reduceLT, Nat.reduceBEq, Nat.reduceBNe, Nat.reduceEqDiff, ↓reduceIte, Int.reduceAdd, Int.reduceSub, Int.reduceMul, Int.reduceLT, Int.reduceLE, Int.reduceEq, Int.reduceNeg, Int.reduceToNat]

theorem cat_app (ls : List (List Ed)) (hm : ls.length ≤ 1000) (hl : ls.flatten.length ≤ 4 * Zc.small) : ∀ (s p : List (List Ed)) (v : CV) (bl : List Blk), p ++ s = ls → OwnS fE 2 bl v p.flatten →
    ∃ v' bl', slices_Concat_End_R2 ([(6, v), (25, sl fEL ls), (26, .int .i64 ls.length), (27, .int .i64 p.length)], ⟨[], bl⟩) = some (.norm, [(6, v')], ⟨[], bl'⟩) ∧ OwnS fE 2 bl' v' ls.flatten
  | [], p, v, bl, hp, hO => by
    rw [List.append_nil] at hp
    subst hp
    refine ⟨v, bl, ?_, hO⟩
    rw [slices_Concat_End_R2_eq]
    simp only [slices_Concat_End_B2, slices_Concat_End_K2_norm, slices_Concat_End_K2_ret, slices_Concat_End_K2_exit, hO.chkV, y1, y2, y3, y4, y5, y6, y7, y8, y9, keepE, keepB, chk, CV.locs, CV.locv, CV.refs, CV.ref, pureOp, repC, takeN, resV, enterC, Nat.reduceAdd, Nat.reduceSub, Nat.reduceMul, Nat.reduceLeDiff, Nat.reduceLT, Nat.reduceBEq, Nat.reduceBNe, Nat.reduceEqDiff, ↓reduceIte, Int.reduceAdd, Int.reduceSub, Int.reduceMul, Int.reduceLT, Int.reduceLE, Int.reduceEq, Int.reduceNeg, Int.reduceToNat]
  | x :: s, p, v, bl, hp, hO => by
    have h1 : ((p.length : Int) < ls.length) := by rw [← hp]; simp; omega
    have hw := wrapM (n := p.length) (by rw [← hp] at hm; simp at hm; omega)
    have hi : iaddrC 1 (sl fEL ls) (.int .i64 p.length) = some (.vp (sl fE x :: s.flatMap fEL)) := by rw [← hp]; exact iaddr_midEL _ p s x
    have hb : p.flatten.length + x.length ≤ 4 * Zc.small := by rw [← hp] at hl; simp at hl; simp; omega
    unfold Zc.small at hb
    obtain ⟨v1, bl1, e1, o1, _⟩ := hO.appSl flatE (bytes := 16) (zero := [.int .i64 0, .int .i64 0]) (by decide) rfl rfl x (by omega)
    obtain ⟨v', bl', e, o⟩ := cat_app ls hm hl s (p ++ [x]) v1 bl1 (by simpa using hp) (by simpa using o1)
    rw [show (p ++ [x]).length = p.length + 1 by simp] at e
    refine ⟨v', bl', ?_, o⟩
    rw [slices_Concat_End_R2_eq]
    simp only [slices_Concat_End_B2, slices_Concat_End_K2_norm, slices_Concat_End_K2_ret, slices_Concat_End_K2_exit, h1, hi, hw, e1, hO.chkV, o1.chkV, e, y1, y2, y3, y4, y5, y6, y7, y8, y9, keepE, keepB, chk, CV.locs, CV.locv, CV.refs, CV.ref, pureOp, repC, takeN, resV, enterC, Nat.reduceAdd, Nat.reduceSub, Nat.reduceMul, Nat.reduceLeDiff, Nat.reduceLT, Nat.reduceBEq, Nat.reduceBNe, Nat.reduceEqDiff, ↓reduceIte, Int.reduceAdd, Int.reduceSub, Int.reduceMul, Int.reduceLT, Int.reduceLE, Int.reduceEq, Int.reduceNeg, Int.reduceToNat]

theorem concat_F (ls : List (List Ed)) (hm : ls.length ≤ 1000) (hl : ls.flatten.length ≤ 4 * Zc.small) (st : Bool) (H : Heap) : slices_Concat_End_F st H [sl fEL ls] = some (sl fE ls.flatten, H) := by
  have e1 := cat_len ls [] hm (by simpa using hl)
  simp only [List.nil_append, List.length_nil, Int.natCast_zero, List.flatten_nil] at e1
  obtain ⟨v, bl, e2, o2⟩ := grow_F ls.flatten.length hl [] []
  obtain ⟨v', bl', e3, o3⟩ := cat_app ls hm hl ls [] v bl rfl o2
  simp only [List.nil_append, List.length_nil, Int.natCast_zero] at e3
  have hs := fun bx => o3.snapV flatE bx st _ (snap_E ⟨bx, bl'⟩ st false 6)
  rw [slices_Concat_End_F_eq]
  simp only [slices_Concat_End_C, slices_Concat_End_L0_eq, slices_Concat_End_L2_eq, slices_Grow_End_call, e1, e2, e3, o2.chkV, hs, y1, y2, y3, y4, y5, y6, y7, y8, y9, keepE, keepB, chk, CV.locs, CV.locv, CV.refs, CV.ref, pureOp, repC, takeN, resV, enterC, Nat.reduceAdd, Nat.reduceSub, Nat.reduceMul, Nat.reduceLeDiff, Nat.reduceLT, Nat.reduceBEq, Nat.reduceBNe, Nat.reduceEqDiff, ↓reduceIte, Int.reduceAdd, Int.reduceSub, Int.reduceMul, Int.reduceLT, Int.reduceLE, Int.reduceEq, Int.reduceNeg, Int.reduceToNat]

theorem garound1_F (x y : Ed) (st : Bool) (H : Heap) : graph_Graph_Around_1_F st H [.agg (fE y), .vp (fE x)] = some (.bool (decide (y = x)), H) := by
  rw [graph_Graph_Around_1_F_eq]
  have hq := eqE y x
  simp only [fE] at hq
  simp only [graph_Graph_Around_1_C, fE, hq, y1, y2, y3, y4, y5, y6, y7, y8, y9, keepE, keepB, chk, CV.locs, CV.locv, CV.refs, CV.ref, pureOp, repC, takeN, resV, enterC, Nat.reduceAdd, Nat.reduceSub, Nat.reduceMul, Nat.reduceLeDiff, Nat.reduceLT, Nat.reduceBEq, Nat.reduceBNe, Nat.reduceEqDiff, ↓reduceIte, Int.reduceAdd, Int.reduceSub, Int.reduceMul, Int.reduceLT, Int.reduceLE, Int.reduceEq, Int.reduceNeg, Int.reduceToNat]

theorem garound_F (l : Lay) (hl : l.ok) (x : Ed) (H : Heap) : graph_Graph_Around_F false H [.vp (layC l), .agg (fE x)] = some (sl fE (around l x), H) := by
  rw [graph_Graph_Around_F_eq]
  have hnF := gnode_F l x
  simp only [fE] at hnF
  cases hn : nodeOf l x with
  | none =>
    simp only [hn, Option.getD_none] at hnF
    simp only [graph_Graph_Around_C, fE, graph_Graph_node_call, hnF, around, hn, sl_nil fE, y1, y2, y3, y4, y5, y6, y7, y8, y9, keepE, keepB, chk, CV.locs, CV.locv, CV.refs, CV.ref, pureOp, repC, takeN, resV, enterC, Nat.reduceAdd, Nat.reduceSub, Nat.reduceMul, Nat.reduceLeDiff, Nat.reduceLT, Nat.reduceBEq, Nat.reduceBNe, Nat.reduceEqDiff, ↓reduceIte, Int.reduceAdd, Int.reduceSub, Int.reduceMul, Int.reduceLT, Int.reduceLE, Int.reduceEq, Int.reduceNeg, Int.reduceToNat]
  | some n =>
    simp only [hn, Option.getD_some] at hnF
    have hpF := gpoint_F l hl n
    cases hp : ptOf l n with
    | some i =>
      obtain ⟨hi, hf⟩ := ptOf_some hp
      simp only [hp] at hpF
      have h0 : ¬ ((i : Int) < 0) := by omega
      have hcc : CV.vs [sl fE (oneOf l l.pts[i].left n), sl fE (oneOf l l.pts[i].right n)] 2 = sl fEL [oneOf l l.pts[i].left n, oneOf l l.pts[i].right n] := rfl
      have hcF := fun st H => concat_F [oneOf l l.pts[i].left n, oneOf l l.pts[i].right n] (by simp) (by have := oneOf_len l l.pts[i].left n; have := oneOf_len l l.pts[i].right n; unfold Zc.small; simp; omega) st H
      simp only [List.flatten_cons, List.flatten_nil, List.append_nil] at hcF
      by_cases h1 : x.s = l.pts[i].stem
      · simp only [graph_Graph_Around_C, fE, graph_Graph_node_call, hnF, graph_Graph_Point_call, hpF, h0, iaddr_atP hi, eq_true h1, graph_Graph_at_call, gat_F l hl, slices_Concat_End_call, hcc, hcF, around, hn, hf, y1, y2, y3, y4, y5, y6, y7, y8, y9, keepE, keepB, chk, CV.locs, CV.locv, CV.refs, CV.ref, pureOp, repC, takeN, resV, enterC, Nat.reduceAdd, Nat.reduceSub, Nat.reduceMul, Nat.reduceLeDiff, Nat.reduceLT, Nat.reduceBEq, Nat.reduceBNe, Nat.reduceEqDiff, ↓reduceIte, Int.reduceAdd, Int.reduceSub, Int.reduceMul, Int.reduceLT, Int.reduceLE, Int.reduceEq, Int.reduceNeg, Int.reduceToNat]
      · by_cases h2 : x.s = l.pts[i].left
        · simp only [graph_Graph_Around_C, fE, graph_Graph_node_call, hnF, graph_Graph_Point_call, hpF, h0, iaddr_atP hi, eq_false h1, eq_true h2, graph_Graph_at_call, gat_F l hl, around, hn, hf, y1, y2, y3, y4, y5, y6, y7, y8, y9, keepE, keepB, chk, CV.locs, CV.locv, CV.refs, CV.ref, pureOp, repC, takeN, resV, enterC, Nat.reduceAdd, Nat.reduceSub, Nat.reduceMul, Nat.reduceLeDiff, Nat.reduceLT, Nat.reduceBEq, Nat.reduceBNe, Nat.reduceEqDiff, ↓reduceIte, Int.reduceAdd, Int.reduceSub, Int.reduceMul, Int.reduceLT, Int.reduceLE, Int.reduceEq, Int.reduceNeg, Int.reduceToNat]
        · by_cases h3 : x.s = l.pts[i].right
          · simp only [graph_Graph_Around_C, fE, graph_Graph_node_call, hnF, graph_Graph_Point_call, hpF, h0, iaddr_atP hi, eq_false h1, eq_false h2, eq_true h3, graph_Graph_at_call, gat_F l hl, around, hn, hf, y1, y2, y3, y4, y5, y6, y7, y8, y9, keepE, keepB, chk, CV.locs, CV.locv, CV.refs, CV.ref, pureOp, repC, takeN, resV, enterC, Nat.reduceAdd, Nat.reduceSub, Nat.reduceMul, Nat.reduceLeDiff, Nat.reduceLT, Nat.reduceBEq, Nat.reduceBNe, Nat.reduceEqDiff, ↓reduceIte, Int.reduceAdd, Int.reduceSub, Int.reduceMul, Int.reduceLT, Int.reduceLE, Int.reduceEq, Int.reduceNeg, Int.reduceToNat]
          · simp only [graph_Graph_Around_C, fE, graph_Graph_node_call, hnF, graph_Graph_Point_call, hpF, h0, iaddr_atP hi, h1, h2, h3, sl_nil fE, around, hn, hf, y1, y2, y3, y4, y5, y6, y7, y8, y9, keepE, keepB, chk, CV.locs, CV.locv, CV.refs, CV.ref, pureOp, repC, takeN, resV, enterC, Nat.reduceAdd, Nat.reduceSub, Nat.reduceMul, Nat.reduceLeDiff, Nat.reduceLT, Nat.reduceBEq, Nat.reduceBNe, Nat.reduceEqDiff, ↓reduceIte, Int.reduceAdd, Int.reduceSub, Int.reduceMul, Int.reduceLT, Int.reduceLE, Int.reduceEq, Int.reduceNeg, Int.reduceToNat]
    | none =>
      have hf := ptOf_none hp
      simp only [hp] at hpF
      obtain ⟨v, bl, e, o, hkeep, hnew⟩ := gends_F l hl n false [] [.cells (fE x)]
      have hk0 : bl[0]? = some (.cells (fE x)) := hkeep 0 _ rfl
      have hne : blkOf v ≠ some 0 := fun h => by have := hnew 0 h; simp at this
      have hc : ∀ y (H' : Heap), call ctx (.fn (.func 112) [] [.vp (fE x)]) [.agg (fE y)] H' = some (.bool (decide (y = x)), H') := by
        intro y H'
        have := garound1_F x y
        simp only [fE] at this
        simp only [graph_Graph_Around_1_call, fE, y1, y2, y3, y4, y5, y6, y7, y8, y9, keepE, keepB, chk, CV.locs, CV.locv, CV.refs, CV.ref, pureOp, repC, takeN, resV, enterC, Nat.reduceAdd, Nat.reduceSub, Nat.reduceMul, Nat.reduceLeDiff, Nat.reduceLT, Nat.reduceBEq, Nat.reduceBNe, Nat.reduceEqDiff, ↓reduceIte, Int.reduceAdd, Int.reduceSub, Int.reduceMul, Int.reduceLT, Int.reduceLE, Int.reduceEq, Int.reduceNeg, Int.reduceToNat, this]
      have hc2 : ∀ (bl : List Blk) (bx : List (Nat × List CV)) (y : Ed), bl[0]? = some (.cells (fE x)) → call ctx (.fn (.func 112) [] [.op (.blk 0) 0]) [.agg (fE y)] ⟨bx, bl⟩ = some (.bool (decide (y = x)), ⟨bx, bl⟩) := by
        intro bl bx y hb
        have := garound1_F x y
        simp only [fE] at this
        have hg := get_blk bx bl 0 _ hb
        simp only [fE] at hg
        simp only [graph_Graph_Around_1_call, fE, hg, y1, y2, y3, y4, y5, y6, y7, y8, y9, keepE, keepB, chk, CV.locs, CV.locv, CV.refs, CV.ref, pureOp, repC, takeN, resV, enterC, Nat.reduceAdd, Nat.reduceSub, Nat.reduceMul, Nat.reduceLeDiff, Nat.reduceLT, Nat.reduceBEq, Nat.reduceBNe, Nat.reduceEqDiff, ↓reduceIte, Int.reduceAdd, Int.reduceSub, Int.reduceMul, Int.reduceLT, Int.reduceLE, Int.reduceEq, Int.reduceNeg, Int.reduceToNat, this]
      have hsn : ∀ (bl : List Blk) (bx : List (Nat × List CV)), bl[0]? = some (.cells (fE x)) → snapV ⟨bx, bl⟩ false false (snapN ⟨bx, bl⟩ false false 7) (.fn (.func 112) [] [.op (.blk 0) 0]) = some (.fn (.func 112) [] [.vp (fE x)]) := by
        intro bl bx hb
        have hg := get_blk bx bl 0 _ hb
        simp only [fE] at hg ⊢
        simp only [hg, y1, y2, y3, y4, y5, y6, y7, y8, y9, keepE, keepB, chk, CV.locs, CV.locv, CV.refs, CV.ref, pureOp, repC, takeN, resV, enterC, Nat.reduceAdd, Nat.reduceSub, Nat.reduceMul, Nat.reduceLeDiff, Nat.reduceLT, Nat.reduceBEq, Nat.reduceBNe, Nat.reduceEqDiff, ↓reduceIte, Int.reduceAdd, Int.reduceSub, Int.reduceMul, Int.reduceLT, Int.reduceLE, Int.reduceEq, Int.reduceNeg, Int.reduceToNat]
      obtain ⟨v', bl', e', o'⟩ := del_F (.fn (.func 112) [] [.op (.blk 0) 0]) (.fn (.func 112) [] [.vp (fE x)]) rfl rfl (fun y => decide (y = x)) 0 (fE x) hc2 hsn hc v bl (ends l n) o hk0 hne (ends_len hl n) []
      simp only [fE] at e e'
      have hfe : (ends l n).filter (fun y => !decide (y = x)) = (ends l n).filter fun y => decide (y ≠ x) := by congr 1; funext y; by_cases h : y = x <;> simp [h]
      rw [hfe] at o'
      have ho := o'.len
      have hs := fun bx => o'.snapV flatE bx false _ (snap_E ⟨bx, bl'⟩ false false 6)
      by_cases h1 : ((ends l n).filter fun y => decide (y ≠ x)).length = 1
      · have h1' : (((ends l n).filter fun y => decide (y ≠ x)).length : Int) = 1 := by omega
        simp only [graph_Graph_Around_C, fE, graph_Graph_node_call, hnF, graph_Graph_Point_call, hpF, graph_Graph_Ends_call, e, slices_DeleteFunc_End_call, e', o.locv, o'.locv, ho, eq_true h1, eq_true h1', hs, around, hn, hf, y1, y2, y3, y4, y5, y6, y7, y8, y9, keepE, keepB, chk, CV.locs, CV.locv, CV.refs, CV.ref, pureOp, repC, takeN, resV, enterC, Nat.reduceAdd, Nat.reduceSub, Nat.reduceMul, Nat.reduceLeDiff, Nat.reduceLT, Nat.reduceBEq, Nat.reduceBNe, Nat.reduceEqDiff, ↓reduceIte, Int.reduceAdd, Int.reduceSub, Int.reduceMul, Int.reduceLT, Int.reduceLE, Int.reduceEq, Int.reduceNeg, Int.reduceToNat]
      · have h1' : ¬ (((ends l n).filter fun y => decide (y ≠ x)).length : Int) = 1 := by omega
        simp only [graph_Graph_Around_C, fE, graph_Graph_node_call, hnF, graph_Graph_Point_call, hpF, graph_Graph_Ends_call, e, slices_DeleteFunc_End_call, e', o.locv, o'.locv, ho, eq_false h1, eq_false h1', sl_nil fE, around, hn, hf, y1, y2, y3, y4, y5, y6, y7, y8, y9, keepE, keepB, chk, CV.locs, CV.locv, CV.refs, CV.ref, pureOp, repC, takeN, resV, enterC, Nat.reduceAdd, Nat.reduceSub, Nat.reduceMul, Nat.reduceLeDiff, Nat.reduceLT, Nat.reduceBEq, Nat.reduceBNe, Nat.reduceEqDiff, ↓reduceIte, Int.reduceAdd, Int.reduceSub, Int.reduceMul, Int.reduceLT, Int.reduceLE, Int.reduceEq, Int.reduceNeg, Int.reduceToNat]
end Go.Proofs.Ytmjffmghkfappaa.Zt

/- Walks: slices.Index and Contains. -/
namespace Go.Proofs.Ytmjffmghkfappaa.Zt
open Go Go.Zc
set_option maxRecDepth 10000

theorem index_loop (n : Int) : ∀ (s pre : List Int), (pre ++ s).length ≤ 2 * Zc.small →
    slices_Index_int_R0 ([(0, sl fI (pre ++ s)), (1, .int .i64 n), (7, .int .i64 (pre ++ s).length), (8, .int .i64 pre.length)], ⟨[], []⟩) =
      match s.findIdx? (fun x => decide (n = x)) with
      | some i => some (.ret, [(4, .int .i64 ((pre.length + i : Nat) : Int))], ⟨[], []⟩)
      | none => some (.norm, [], ⟨[], []⟩)
  | [], pre, hm => by
    rw [slices_Index_int_R0_eq]
    simp only [slices_Index_int_B0, slices_Index_int_K0_norm, slices_Index_int_K0_ret, slices_Index_int_K0_exit, List.findIdx?_nil, y1, y2, y3, y4, y5, y6, y7, y8, y9, keepE, keepB, chk, CV.locs, CV.locv, CV.refs, CV.ref, pureOp, repC, takeN, resV, enterC, Nat.reduceAdd, Nat.reduceSub, Nat.reduceMul, Nat.reduceLeDiff, Nat.reduceLT, Nat.reduceBEq, Nat.reduceBNe, Nat.reduceEqDiff, ↓reduceIte, Int.reduceAdd, Int.reduceSub, Int.reduceMul, Int.reduceLT, Int.reduceLE, Int.reduceEq, Int.reduceNeg, Int.reduceToNat]
  | x :: s, pre, hm => by
    have h1 : ((pre.length : Int) < (pre ++ x :: s).length) := by simp; omega
    have hw := wrapN (n := pre.length) (by simp at hm; omega)
    have ih := index_loop n s (pre ++ [x]) (by simpa using hm)
    simp only [List.append_assoc, List.cons_append, List.nil_append, List.length_append, List.length_cons, List.length_nil] at ih h1
    rw [slices_Index_int_R0_eq]
    simp only [slices_Index_int_B0, slices_Index_int_K0_norm, slices_Index_int_K0_ret, slices_Index_int_K0_exit, h1, iaddr_midI, hw, List.append_assoc, List.cons_append, List.nil_append, List.length_append, List.length_cons, List.length_nil, y1, y2, y3, y4, y5, y6, y7, y8, y9, keepE, keepB, chk, CV.locs, CV.locv, CV.refs, CV.ref, pureOp, repC, takeN, resV, enterC, Nat.reduceAdd, Nat.reduceSub, Nat.reduceMul, Nat.reduceLeDiff, Nat.reduceLT, Nat.reduceBEq, Nat.reduceBNe, Nat.reduceEqDiff, ↓reduceIte, Int.reduceAdd, Int.reduceSub, Int.reduceMul, Int.reduceLT, Int.reduceLE, Int.reduceEq, Int.reduceNeg, Int.reduceToNat, ih]
    by_cases hA : n = x
    · simp [hA, List.findIdx?_cons]
    · simp only [hA, if_false, List.findIdx?_cons, decide_false, Bool.false_eq_true]
      cases hf : s.findIdx? (fun x => decide (n = x)) with
      | none => simp
      | some i => simp; omega

theorem index_F (n : Int) (l : List Int) (hm : l.length ≤ 2 * Zc.small) (st : Bool) (H : Heap) :
    slices_Index_int_F st H [sl fI l, .int .i64 n] = some (.int .i64 (idxOf (fun x => decide (n = x)) l), H) := by
  have e := index_loop n l [] hm
  simp only [List.nil_append, List.length_nil, Int.natCast_zero, Nat.zero_add] at e
  rw [slices_Index_int_F_eq]
  simp only [slices_Index_int_C, slices_Index_int_L0_eq, e, idxOf, y1, y2, y3, y4, y5, y6, y7, y8, y9, keepE, keepB, chk, CV.locs, CV.locv, CV.refs, CV.ref, pureOp, repC, takeN, resV, enterC, Nat.reduceAdd, Nat.reduceSub, Nat.reduceMul, Nat.reduceLeDiff, Nat.reduceLT, Nat.reduceBEq, Nat.reduceBNe, Nat.reduceEqDiff, ↓reduceIte, Int.reduceAdd, Int.reduceSub, Int.reduceMul, Int.reduceLT, Int.reduceLE, Int.reduceEq, Int.reduceNeg, Int.reduceToNat]
  cases hf : l.findIdx? (fun x => decide (n = x)) <;> simp only [y1, y2, y3, y4, y5, y6, y7, y8, y9, keepE, keepB, chk, CV.locs, CV.locv, CV.refs, CV.ref, pureOp, repC, takeN, resV, enterC, Nat.reduceAdd, Nat.reduceSub, Nat.reduceMul, Nat.reduceLeDiff, Nat.reduceLT, Nat.reduceBEq, Nat.reduceBNe, Nat.reduceEqDiff, ↓reduceIte, Int.reduceAdd, Int.reduceSub, Int.reduceMul, Int.reduceLT, Int.reduceLE, Int.reduceEq, Int.reduceNeg, Int.reduceToNat]

theorem idxOf_nonneg {α : Type} (p : α → Bool) (l : List α) : (0 ≤ idxOf p l) ↔ ∃ x ∈ l, p x = true := by
  unfold idxOf
  cases h : l.findIdx? p with
  | none =>
    have := List.findIdx?_eq_none_iff.1 h
    simp only [show ¬ (0 : Int) ≤ -1 by omega, false_iff]
    rintro ⟨x, hx, hp⟩
    rw [this x hx] at hp; cases hp
  | some i =>
    obtain ⟨hi, hp, _⟩ := List.findIdx?_eq_some_iff_getElem.1 h
    simp only [show (0 : Int) ≤ i by omega, true_iff]
    exact ⟨l[i], List.getElem_mem hi, hp⟩

theorem contains_F (n : Int) (l : List Int) (hm : l.length ≤ 2 * Zc.small) (st : Bool) (H : Heap) :
    slices_Contains_int_F st H [sl fI l, .int .i64 n] = some (.bool (decide (n ∈ l)), H) := by
  rw [slices_Contains_int_F_eq]
  have h : (0 ≤ idxOf (fun x => decide (n = x)) l) = (n ∈ l) := by
    rw [idxOf_nonneg]; simp
  simp only [slices_Contains_int_C, slices_Index_int_call, index_F n l hm, h, y1, y2, y3, y4, y5, y6, y7, y8, y9, keepE, keepB, chk, CV.locs, CV.locv, CV.refs, CV.ref, pureOp, repC, takeN, resV, enterC, Nat.reduceAdd, Nat.reduceSub, Nat.reduceMul, Nat.reduceLeDiff, Nat.reduceLT, Nat.reduceBEq, Nat.reduceBNe, Nat.reduceEqDiff, ↓reduceIte, Int.reduceAdd, Int.reduceSub, Int.reduceMul, Int.reduceLT, Int.reduceLE, Int.reduceEq, Int.reduceNeg, Int.reduceToNat]

theorem find_idx {α : Type} (p : α → Bool) (l : List α) : (∀ i, l.findIdx? p = some i → ∃ h : i < l.length, l.find? p = some l[i]) ∧ (l.findIdx? p = none → l.find? p = none) := by
  constructor
  · intro i h
    obtain ⟨hi, h2, h3⟩ := List.findIdx?_eq_some_iff_getElem.1 h
    refine ⟨hi, ?_⟩
    rw [List.find?_eq_some_iff_getElem]
    exact ⟨h2, i, hi, rfl, fun j hj => by simpa using h3 j hj⟩
  · intro h
    rw [List.find?_eq_none]
    intro x hx
    simpa using List.findIdx?_eq_none_iff.1 h x hx

theorem around_len2 (l : Lay) (x : Ed) : (around l x).length ≤ 2 * Zc.small := by
  have := around_len l x
  unfold Zc.small; omega

theorem iaddr_0I (k : IntKind) (h : Int) (t : List Int) : iaddrC 1 (sl fI (h :: t)) (.int k 0) = some (.vp (.int .i64 h :: t.flatMap fI)) := iaddr_midI k [] t h
theorem slc_1I (k : IntKind) (h : Int) (t : List Int) : slcC 1 (sl fI (h :: t)) (some (.int k 1)) none = some (sl fI t) := by
  have := slc_lo flatI (h :: t) 1 (by simp) k
  simpa using this

end Go.Proofs.Ytmjffmghkfappaa.Zt
