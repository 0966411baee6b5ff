/- Walks: what is next, as the points stand; the law GraphTracks. -/
import Derived.Test.YtmkdhpjidhbijaaZcX
import Derived.Test.YtmkdhpjidhbijaaZcArgs
import Derived.Test.YtmkdhpjidhbijaaZcPath
set_option linter.all false
namespace Go.Proofs.Ytmkdhpjidhbijaa.Zt
open Go Go.Zc
set_option maxRecDepth 10000

theorem stands_F (right : List Bool) (i : Nat) (st : Bool) (H : Heap) : graph_stands_F st H [sl fB right, .int .i64 i] = some (.bool (stand right i), H) := by
  rw [graph_stands_F_eq]
  by_cases h : i < right.length
  · have h' : ((i : Int) < right.length) := by omega
    have hia : iaddrC 1 (sl fB right) (.int .i64 i) = some (.vp (.bool right[i] :: (right.drop (i + 1)).flatMap fB)) := iaddr_sl flatB.len flatB.pos h
    have hs : stand right i = right[i] := by simp [stand, h]
    simp only [graph_stands_C, h', hia, hs, y1, y2, y3, y4, y5, y6, y7, y8, y9, keepE, keepB, chk, CV.locs, CV.locv, CV.refs, CV.ref, pureOp, repC, takeN, resV, enterC, Nat.reduceAdd, Nat.reduceSub, Nat.reduceMul, Nat.reduceLeDiff, Nat.reduceLT, Nat.reduceBEq, Nat.reduceBNe, Nat.reduceEqDiff, ↓reduceIte, Int.reduceAdd, Int.reduceSub, Int.reduceMul, Int.reduceLT, Int.reduceLE, Int.reduceEq, Int.reduceNeg, Int.reduceToNat]
  · have h' : ¬ ((i : Int) < right.length) := by omega
    have hs : stand right i = false := by simp [stand, h]
    simp only [graph_stands_C, h', hs, y1, y2, y3, y4, y5, y6, y7, y8, y9, keepE, keepB, chk, CV.locs, CV.locv, CV.refs, CV.ref, pureOp, repC, takeN, resV, enterC, Nat.reduceAdd, Nat.reduceSub, Nat.reduceMul, Nat.reduceLeDiff, Nat.reduceLT, Nat.reduceBEq, Nat.reduceBNe, Nat.reduceEqDiff, ↓reduceIte, Int.reduceAdd, Int.reduceSub, Int.reduceMul, Int.reduceLT, Int.reduceLE, Int.reduceEq, Int.reduceNeg, Int.reduceToNat]

theorem gnext1_F (x : Ed) (n : Int) (st : Bool) (H : Heap) : graph_Graph_Next_1_F st H [.agg (fE x), .vp [.int .i64 n]] = some (.bool (decide (x.s = n)), H) := by
  rw [graph_Graph_Next_1_F_eq]
  simp only [graph_Graph_Next_1_C, fE, y1, y2, y3, y4, y5, y6, y7, y8, y9, keepE, keepB, chk, CV.locs, CV.locv, CV.refs, CV.ref, pureOp, repC, takeN, resV, enterC, Nat.reduceAdd, Nat.reduceSub, Nat.reduceMul, Nat.reduceLeDiff, Nat.reduceLT, Nat.reduceBEq, Nat.reduceBNe, Nat.reduceEqDiff, ↓reduceIte, Int.reduceAdd, Int.reduceSub, Int.reduceMul, Int.reduceLT, Int.reduceLE, Int.reduceEq, Int.reduceNeg, Int.reduceToNat]

theorem ptOf_pt {l : Lay} {n : Int} {i : Nat} (h : ptOf l n = some i) : ∃ hi : i < l.pts.length, l.pts[i]? = some l.pts[i] := by
  obtain ⟨hi, _⟩ := ptOf_some h
  exact ⟨hi, List.getElem?_eq_getElem hi⟩

set_option maxHeartbeats 1000000 in
theorem gnext_F (l : Lay) (hl : l.ok) (x : Ed) (right : List Bool) (st : Bool) (H : Heap) :
    graph_Graph_Next_F st H [.vp (layC l), .agg (fE x), sl fB right] = some (.tup [.agg (edC (next l x right)), .bool (next l x right).isSome], H) := by
  rw [graph_Graph_Next_F_eq]
  have haF := fun H => garound_F l hl x H
  have hnF := fun st H => gnode_F l x st H
  have hal := around_len2 l x
  cases hn : nodeOf l x with
  | none =>
    have ha : around l x = [] := by simp [around, hn]
    simp only [ha, fE] at haF
    simp only [graph_Graph_Next_C, fE, next, hn, graph_Graph_Around_call, haF, edC, y1, y2, y3, y4, y5, y6, y7, y8, y9, keepE, keepB, chk, CV.locs, CV.locv, CV.refs, CV.ref, pureOp, repC, takeN, resV, enterC, Nat.reduceAdd, Nat.reduceSub, Nat.reduceMul, Nat.reduceLeDiff, Nat.reduceLT, Nat.reduceBEq, Nat.reduceBNe, Nat.reduceEqDiff, ↓reduceIte, Int.reduceAdd, Int.reduceSub, Int.reduceMul, Int.reduceLT, Int.reduceLE, Int.reduceEq, Int.reduceNeg, Int.reduceToNat]
  | some n =>
    simp only [hn, Option.getD_some, fE] at hnF
    cases ha : around l x with
    | nil =>
      simp only [ha, fE] at haF
      simp only [graph_Graph_Next_C, fE, next, nextAt, hn, ha, graph_Graph_Around_call, haF, edC, y1, y2, y3, y4, y5, y6, y7, y8, y9, keepE, keepB, chk, CV.locs, CV.locv, CV.refs, CV.ref, pureOp, repC, takeN, resV, enterC, Nat.reduceAdd, Nat.reduceSub, Nat.reduceMul, Nat.reduceLeDiff, Nat.reduceLT, Nat.reduceBEq, Nat.reduceBNe, Nat.reduceEqDiff, ↓reduceIte, Int.reduceAdd, Int.reduceSub, Int.reduceMul, Int.reduceLT, Int.reduceLE, Int.reduceEq, Int.reduceNeg, Int.reduceToNat]
    | cons y ys =>
      rw [ha] at hal
      have h0 : iaddrC 2 (sl fE (y :: ys)) (.int .i64 0) = some (.vp (.int .i64 y.s :: .int .i64 y.e :: ys.flatMap fE)) := iaddr_midE .i64 [] ys y
      have h00 : ¬ (((ys.length + 1 : Nat) : Int) = 0) := by omega
      simp only [ha, fE] at haF
      have hpF := fun st H => gpoint_F l hl n st H
      cases hp : ptOf l n with
      | none =>
        simp only [hp] at hpF
        simp only [graph_Graph_Next_C, fE, next, nextAt, hn, hp, ha, graph_Graph_Around_call, haF, graph_Graph_node_call, hnF, graph_Graph_Point_call, hpF, h0, h00, edC, y1, y2, y3, y4, y5, y6, y7, y8, y9, keepE, keepB, chk, CV.locs, CV.locv, CV.refs, CV.ref, pureOp, repC, takeN, resV, enterC, Nat.reduceAdd, Nat.reduceSub, Nat.reduceMul, Nat.reduceLeDiff, Nat.reduceLT, Nat.reduceBEq, Nat.reduceBNe, Nat.reduceEqDiff, ↓reduceIte, Int.reduceAdd, Int.reduceSub, Int.reduceMul, Int.reduceLT, Int.reduceLE, Int.reduceEq, Int.reduceNeg, Int.reduceToNat]
      | some i =>
        simp only [hp] at hpF
        obtain ⟨hi, hpi⟩ := ptOf_pt hp
        have hi0 : ¬ ((i : Int) < 0) := by omega
        have hsF := fun st H => stands_F right i st H
        have hst : ∀ bx a b, stE 1 0 (.int .i64 b) ⟨bx, [Blk.cells [.int .i64 a]]⟩ (.blk 0) [.int .i64 a] = some ⟨bx, [Blk.cells [.int .i64 b]]⟩ := by
          intro bx a b
          simp [stE, CV.cells, ones, CV.one, CV.locs, CV.locv, Id.loc?, Heap.put, setMany]
        have hc : ∀ (leg : Int) (y : Ed) (H' : Heap), call ctx (.fn (.func 97) [] [.vp [.int .i64 leg]]) [.agg (fE y)] H' = some (.bool (decide (y.s = leg)), H') := by
          intro leg y H'
          have := gnext1_F y leg
          simp only [fE] at this
          simp only [graph_Graph_Next_1_call, fE, y1, y2, y3, y4, y5, y6, y7, y8, y9, keepE, keepB, chk, CV.locs, CV.locv, CV.refs, CV.ref, pureOp, repC, takeN, resV, enterC, Nat.reduceAdd, Nat.reduceSub, Nat.reduceMul, Nat.reduceLeDiff, Nat.reduceLT, Nat.reduceBEq, Nat.reduceBNe, Nat.reduceEqDiff, ↓reduceIte, Int.reduceAdd, Int.reduceSub, Int.reduceMul, Int.reduceLT, Int.reduceLE, Int.reduceEq, Int.reduceNeg, Int.reduceToNat, this]
        have hix := fun leg st H => idxE_F (.fn (.func 97) [] [.vp [.int .i64 leg]]) rfl (fun y => decide (y.s = leg)) (hc leg) (y :: ys) hal st H
        cases hs : stand right i with
        | true =>
          simp only [hs] at hsF
          by_cases h1 : x.s = l.pts[i].stem
          · have hfi := find_idx (fun y : Ed => decide (y.s = l.pts[i].right)) (y :: ys)
            cases hf : (y :: ys).findIdx? (fun y => decide (y.s = l.pts[i].right)) with
            | none =>
              have hfd := hfi.2 hf
              have hid : idxOf (fun y : Ed => decide (y.s = l.pts[i].right)) (y :: ys) = -1 := by simp only [idxOf, hf]
              simp only [graph_Graph_Next_C, fE, next, nextAt, hn, hp, hpi, ha, hs, eq_true h1, hfd, graph_Graph_Around_call, haF, graph_Graph_node_call, hnF, graph_Graph_Point_call, hpF, hi0, iaddr_atP hi, graph_stands_call, hsF, hst, slices_IndexFunc_End_call, hix, hid, h0, h00, edC, y1, y2, y3, y4, y5, y6, y7, y8, y9, keepE, keepB, chk, CV.locs, CV.locv, CV.refs, CV.ref, pureOp, repC, takeN, resV, enterC, Nat.reduceAdd, Nat.reduceSub, Nat.reduceMul, Nat.reduceLeDiff, Nat.reduceLT, Nat.reduceBEq, Nat.reduceBNe, Nat.reduceEqDiff, ↓reduceIte, Int.reduceAdd, Int.reduceSub, Int.reduceMul, Int.reduceLT, Int.reduceLE, Int.reduceEq, Int.reduceNeg, Int.reduceToNat]
            | some j =>
              obtain ⟨hj, hfd⟩ := hfi.1 j hf
              have hid : idxOf (fun y : Ed => decide (y.s = l.pts[i].right)) (y :: ys) = j := by simp only [idxOf, hf]
              have hj0 : (0 : Int) ≤ j := by omega
              simp only [graph_Graph_Next_C, fE, next, nextAt, hn, hp, hpi, ha, hs, eq_true h1, hfd, graph_Graph_Around_call, haF, graph_Graph_node_call, hnF, graph_Graph_Point_call, hpF, hi0, iaddr_atP hi, graph_stands_call, hsF, hst, slices_IndexFunc_End_call, hix, hid, hj0, iaddr_atE hj, h0, h00, edC, y1, y2, y3, y4, y5, y6, y7, y8, y9, keepE, keepB, chk, CV.locs, CV.locv, CV.refs, CV.ref, pureOp, repC, takeN, resV, enterC, Nat.reduceAdd, Nat.reduceSub, Nat.reduceMul, Nat.reduceLeDiff, Nat.reduceLT, Nat.reduceBEq, Nat.reduceBNe, Nat.reduceEqDiff, ↓reduceIte, Int.reduceAdd, Int.reduceSub, Int.reduceMul, Int.reduceLT, Int.reduceLE, Int.reduceEq, Int.reduceNeg, Int.reduceToNat]
          · by_cases h2 : x.s = l.pts[i].right
            · simp only [graph_Graph_Next_C, fE, next, nextAt, hn, hp, hpi, ha, hs, eq_false h1, eq_true h2, graph_Graph_Around_call, haF, graph_Graph_node_call, hnF, graph_Graph_Point_call, hpF, hi0, iaddr_atP hi, graph_stands_call, hsF, hst, h0, h00, edC, y1, y2, y3, y4, y5, y6, y7, y8, y9, keepE, keepB, chk, CV.locs, CV.locv, CV.refs, CV.ref, pureOp, repC, takeN, resV, enterC, Nat.reduceAdd, Nat.reduceSub, Nat.reduceMul, Nat.reduceLeDiff, Nat.reduceLT, Nat.reduceBEq, Nat.reduceBNe, Nat.reduceEqDiff, ↓reduceIte, Int.reduceAdd, Int.reduceSub, Int.reduceMul, Int.reduceLT, Int.reduceLE, Int.reduceEq, Int.reduceNeg, Int.reduceToNat]
            · simp only [graph_Graph_Next_C, fE, next, nextAt, hn, hp, hpi, ha, hs, eq_false h1, eq_false h2, graph_Graph_Around_call, haF, graph_Graph_node_call, hnF, graph_Graph_Point_call, hpF, hi0, iaddr_atP hi, graph_stands_call, hsF, hst, h0, h00, edC, y1, y2, y3, y4, y5, y6, y7, y8, y9, keepE, keepB, chk, CV.locs, CV.locv, CV.refs, CV.ref, pureOp, repC, takeN, resV, enterC, Nat.reduceAdd, Nat.reduceSub, Nat.reduceMul, Nat.reduceLeDiff, Nat.reduceLT, Nat.reduceBEq, Nat.reduceBNe, Nat.reduceEqDiff, ↓reduceIte, Int.reduceAdd, Int.reduceSub, Int.reduceMul, Int.reduceLT, Int.reduceLE, Int.reduceEq, Int.reduceNeg, Int.reduceToNat]
        | false =>
          simp only [hs] at hsF
          by_cases h1 : x.s = l.pts[i].stem
          · have hfi := find_idx (fun y : Ed => decide (y.s = l.pts[i].left)) (y :: ys)
            cases hf : (y :: ys).findIdx? (fun y => decide (y.s = l.pts[i].left)) with
            | none =>
              have hfd := hfi.2 hf
              have hid : idxOf (fun y : Ed => decide (y.s = l.pts[i].left)) (y :: ys) = -1 := by simp only [idxOf, hf]
              simp only [graph_Graph_Next_C, fE, next, nextAt, hn, hp, hpi, ha, hs, eq_true h1, hfd, graph_Graph_Around_call, haF, graph_Graph_node_call, hnF, graph_Graph_Point_call, hpF, hi0, iaddr_atP hi, graph_stands_call, hsF, hst, slices_IndexFunc_End_call, hix, hid, h0, h00, edC, y1, y2, y3, y4, y5, y6, y7, y8, y9, keepE, keepB, chk, CV.locs, CV.locv, CV.refs, CV.ref, pureOp, repC, takeN, resV, enterC, Nat.reduceAdd, Nat.reduceSub, Nat.reduceMul, Nat.reduceLeDiff, Nat.reduceLT, Nat.reduceBEq, Nat.reduceBNe, Nat.reduceEqDiff, ↓reduceIte, Int.reduceAdd, Int.reduceSub, Int.reduceMul, Int.reduceLT, Int.reduceLE, Int.reduceEq, Int.reduceNeg, Int.reduceToNat]
            | some j =>
              obtain ⟨hj, hfd⟩ := hfi.1 j hf
              have hid : idxOf (fun y : Ed => decide (y.s = l.pts[i].left)) (y :: ys) = j := by simp only [idxOf, hf]
              have hj0 : (0 : Int) ≤ j := by omega
              simp only [graph_Graph_Next_C, fE, next, nextAt, hn, hp, hpi, ha, hs, eq_true h1, hfd, graph_Graph_Around_call, haF, graph_Graph_node_call, hnF, graph_Graph_Point_call, hpF, hi0, iaddr_atP hi, graph_stands_call, hsF, hst, slices_IndexFunc_End_call, hix, hid, hj0, iaddr_atE hj, h0, h00, edC, y1, y2, y3, y4, y5, y6, y7, y8, y9, keepE, keepB, chk, CV.locs, CV.locv, CV.refs, CV.ref, pureOp, repC, takeN, resV, enterC, Nat.reduceAdd, Nat.reduceSub, Nat.reduceMul, Nat.reduceLeDiff, Nat.reduceLT, Nat.reduceBEq, Nat.reduceBNe, Nat.reduceEqDiff, ↓reduceIte, Int.reduceAdd, Int.reduceSub, Int.reduceMul, Int.reduceLT, Int.reduceLE, Int.reduceEq, Int.reduceNeg, Int.reduceToNat]
          · by_cases h2 : x.s = l.pts[i].left
            · simp only [graph_Graph_Next_C, fE, next, nextAt, hn, hp, hpi, ha, hs, eq_false h1, eq_true h2, graph_Graph_Around_call, haF, graph_Graph_node_call, hnF, graph_Graph_Point_call, hpF, hi0, iaddr_atP hi, graph_stands_call, hsF, hst, h0, h00, edC, y1, y2, y3, y4, y5, y6, y7, y8, y9, keepE, keepB, chk, CV.locs, CV.locv, CV.refs, CV.ref, pureOp, repC, takeN, resV, enterC, Nat.reduceAdd, Nat.reduceSub, Nat.reduceMul, Nat.reduceLeDiff, Nat.reduceLT, Nat.reduceBEq, Nat.reduceBNe, Nat.reduceEqDiff, ↓reduceIte, Int.reduceAdd, Int.reduceSub, Int.reduceMul, Int.reduceLT, Int.reduceLE, Int.reduceEq, Int.reduceNeg, Int.reduceToNat]
            · simp only [graph_Graph_Next_C, fE, next, nextAt, hn, hp, hpi, ha, hs, eq_false h1, eq_false h2, graph_Graph_Around_call, haF, graph_Graph_node_call, hnF, graph_Graph_Point_call, hpF, hi0, iaddr_atP hi, graph_stands_call, hsF, hst, h0, h00, edC, y1, y2, y3, y4, y5, y6, y7, y8, y9, keepE, keepB, chk, CV.locs, CV.locv, CV.refs, CV.ref, pureOp, repC, takeN, resV, enterC, Nat.reduceAdd, Nat.reduceSub, Nat.reduceMul, Nat.reduceLeDiff, Nat.reduceLT, Nat.reduceBEq, Nat.reduceBNe, Nat.reduceEqDiff, ↓reduceIte, Int.reduceAdd, Int.reduceSub, Int.reduceMul, Int.reduceLT, Int.reduceLE, Int.reduceEq, Int.reduceNeg, Int.reduceToNat]

theorem next_loop (leg : Int) (y0 : List CV) (hy0 : y0.length = 2) : ∀ (s p : List Ed), (p ++ s).length ≤ 2 * Zc.small →
    r05_Next_R0 ([(6, .op (.loc 6) 0), (8, sl fE (p ++ s)), (12, .int .i64 leg), (13, .int .i64 p.length)], ⟨[(6, [.int .i64 0, .int .i64 0])], []⟩) =
      match s.find? (fun y => decide (y.s = leg)) with
      | some y => some (.ret, [(6, .op (.loc 6) 0), (7, .bool true)], ⟨[(6, fE y)], []⟩)
      | none => some (.norm, [(6, .op (.loc 6) 0)], ⟨[(6, [.int .i64 0, .int .i64 0])], []⟩)
  | [], p, hm => by
    rw [r05_Next_R0_eq]
    simp only [r05_Next_B0, r05_Next_K0_norm, r05_Next_K0_ret, r05_Next_K0_exit, List.find?_nil, y1, y2, y3, y4, y5, y6, y7, y8, y9, keepE, keepB, chk, CV.locs, CV.locv, CV.refs, CV.ref, pureOp, repC, takeN, resV, enterC, Nat.reduceAdd, Nat.reduceSub, Nat.reduceMul, Nat.reduceLeDiff, Nat.reduceLT, Nat.reduceBEq, Nat.reduceBNe, Nat.reduceEqDiff, ↓reduceIte, Int.reduceAdd, Int.reduceSub, Int.reduceMul, Int.reduceLT, Int.reduceLE, Int.reduceEq, Int.reduceNeg, Int.reduceToNat]
  | y :: s, p, hm => by
    have h4 : ((p.length : Int) < (p ++ y :: s).length) := by simp; omega
    have hw := wrapN (n := p.length) (by simp at hm; omega)
    have ih := next_loop leg y0 hy0 s (p ++ [y]) (by simpa using hm)
    simp only [List.append_assoc, List.cons_append, List.nil_append, List.length_append, List.length_cons, List.length_nil] at ih h4
    rw [r05_Next_R0_eq]
    by_cases h : y.s = leg
    · simp only [r05_Next_B0, r05_Next_K0_norm, r05_Next_K0_ret, r05_Next_K0_exit, List.append_assoc, List.cons_append, List.nil_append, List.length_append, List.length_cons, List.length_nil, h4, iaddr_midE, eq_true h, List.find?_cons, fE, y1, y2, y3, y4, y5, y6, y7, y8, y9, keepE, keepB, chk, CV.locs, CV.locv, CV.refs, CV.ref, pureOp, repC, takeN, resV, enterC, Nat.reduceAdd, Nat.reduceSub, Nat.reduceMul, Nat.reduceLeDiff, Nat.reduceLT, Nat.reduceBEq, Nat.reduceBNe, Nat.reduceEqDiff, ↓reduceIte, Int.reduceAdd, Int.reduceSub, Int.reduceMul, Int.reduceLT, Int.reduceLE, Int.reduceEq, Int.reduceNeg, Int.reduceToNat]
    · simp only [r05_Next_B0, r05_Next_K0_norm, r05_Next_K0_ret, r05_Next_K0_exit, List.append_assoc, List.cons_append, List.nil_append, List.length_append, List.length_cons, List.length_nil, h4, hw, iaddr_midE, eq_false h, List.find?_cons, ih, y1, y2, y3, y4, y5, y6, y7, y8, y9, keepE, keepB, chk, CV.locs, CV.locv, CV.refs, CV.ref, pureOp, repC, takeN, resV, enterC, Nat.reduceAdd, Nat.reduceSub, Nat.reduceMul, Nat.reduceLeDiff, Nat.reduceLT, Nat.reduceBEq, Nat.reduceBNe, Nat.reduceEqDiff, ↓reduceIte, Int.reduceAdd, Int.reduceSub, Int.reduceMul, Int.reduceLT, Int.reduceLE, Int.reduceEq, Int.reduceNeg, Int.reduceToNat]

set_option maxHeartbeats 1000000 in
theorem next_F (l : Lay) (hl : l.ok) (x : Ed) (right : List Bool) (H : Heap) :
    r05_Next_F false H [.agg (layC l), .agg (fE x), sl fB right] = some (.tup [.agg (edC (next l x right)), .bool (next l x right).isSome], H) := by
  rw [r05_Next_F_eq]
  have haF := fun H => around_F l hl x H
  have hnF := fun st H => node_F l x st H
  have hal := around_len2 l x
  cases hn : nodeOf l x with
  | none =>
    have ha : around l x = [] := by simp [around, hn]
    simp only [ha, fE] at haF
    simp only [r05_Next_C, fE, next, hn, r05_Around_call, haF, edC, y1, y2, y3, y4, y5, y6, y7, y8, y9, keepE, keepB, chk, CV.locs, CV.locv, CV.refs, CV.ref, pureOp, repC, takeN, resV, enterC, Nat.reduceAdd, Nat.reduceSub, Nat.reduceMul, Nat.reduceLeDiff, Nat.reduceLT, Nat.reduceBEq, Nat.reduceBNe, Nat.reduceEqDiff, ↓reduceIte, Int.reduceAdd, Int.reduceSub, Int.reduceMul, Int.reduceLT, Int.reduceLE, Int.reduceEq, Int.reduceNeg, Int.reduceToNat]
  | some n =>
    simp only [hn, Option.getD_some, fE] at hnF
    cases ha : around l x with
    | nil =>
      simp only [ha, fE] at haF
      simp only [r05_Next_C, fE, next, nextAt, hn, ha, r05_Around_call, haF, edC, y1, y2, y3, y4, y5, y6, y7, y8, y9, keepE, keepB, chk, CV.locs, CV.locv, CV.refs, CV.ref, pureOp, repC, takeN, resV, enterC, Nat.reduceAdd, Nat.reduceSub, Nat.reduceMul, Nat.reduceLeDiff, Nat.reduceLT, Nat.reduceBEq, Nat.reduceBNe, Nat.reduceEqDiff, ↓reduceIte, Int.reduceAdd, Int.reduceSub, Int.reduceMul, Int.reduceLT, Int.reduceLE, Int.reduceEq, Int.reduceNeg, Int.reduceToNat]
    | cons y ys =>
      rw [ha] at hal
      have h0 : iaddrC 2 (sl fE (y :: ys)) (.int .i64 0) = some (.vp (.int .i64 y.s :: .int .i64 y.e :: ys.flatMap fE)) := iaddr_midE .i64 [] ys y
      have h00 : ¬ (((ys.length + 1 : Nat) : Int) = 0) := by omega
      simp only [ha, fE] at haF
      have hpF := fun st H => point_F l hl n st H
      cases hp : ptOf l n with
      | none =>
        simp only [hp] at hpF
        simp only [r05_Next_C, fE, next, nextAt, hn, hp, ha, r05_Around_call, haF, r05_node_call, hnF, r05_Point_call, hpF, h0, h00, edC, y1, y2, y3, y4, y5, y6, y7, y8, y9, keepE, keepB, chk, CV.locs, CV.locv, CV.refs, CV.ref, pureOp, repC, takeN, resV, enterC, Nat.reduceAdd, Nat.reduceSub, Nat.reduceMul, Nat.reduceLeDiff, Nat.reduceLT, Nat.reduceBEq, Nat.reduceBNe, Nat.reduceEqDiff, ↓reduceIte, Int.reduceAdd, Int.reduceSub, Int.reduceMul, Int.reduceLT, Int.reduceLE, Int.reduceEq, Int.reduceNeg, Int.reduceToNat]
      | some i =>
        simp only [hp] at hpF
        obtain ⟨hi, hpi⟩ := ptOf_pt hp
        have hi0 : ¬ ((i : Int) < 0) := by omega
        have hL := fun leg => next_loop leg [.int .i64 0, .int .i64 0] rfl (y :: ys) [] hal
        simp only [List.nil_append, List.length_nil, Int.natCast_zero] at hL
        by_cases h1 : x.s = l.pts[i].stem
        · by_cases hr : i < right.length
          · have hr' : ((i : Int) < right.length) := by omega
            have hia : iaddrC 1 (sl fB right) (.int .i64 i) = some (.vp (.bool right[i] :: (right.drop (i + 1)).flatMap fB)) := iaddr_sl flatB.len flatB.pos hr
            have hs : stand right i = right[i] := by simp [stand, hr]
            cases hb : right[i] with
            | true =>
              rw [hb] at hs hia
              have hL' := hL l.pts[i].right
              cases hf : (y :: ys).find? (fun z => decide (z.s = l.pts[i].right)) with
              | none =>
                simp only [hf] at hL'
                simp only [r05_Next_C, r05_Next_L0_eq, fE, next, nextAt, hn, hp, hpi, ha, hs, eq_true h1, hf, r05_Around_call, haF, r05_node_call, hnF, r05_Point_call, hpF, hi0, iaddr_atP hi, hr', hia, h0, h00, hL', edC, y1, y2, y3, y4, y5, y6, y7, y8, y9, keepE, keepB, chk, CV.locs, CV.locv, CV.refs, CV.ref, pureOp, repC, takeN, resV, enterC, Nat.reduceAdd, Nat.reduceSub, Nat.reduceMul, Nat.reduceLeDiff, Nat.reduceLT, Nat.reduceBEq, Nat.reduceBNe, Nat.reduceEqDiff, ↓reduceIte, Int.reduceAdd, Int.reduceSub, Int.reduceMul, Int.reduceLT, Int.reduceLE, Int.reduceEq, Int.reduceNeg, Int.reduceToNat]
              | some z =>
                simp only [hf] at hL'
                simp only [r05_Next_C, r05_Next_L0_eq, fE, next, nextAt, hn, hp, hpi, ha, hs, eq_true h1, hf, r05_Around_call, haF, r05_node_call, hnF, r05_Point_call, hpF, hi0, iaddr_atP hi, hr', hia, h0, h00, hL', edC, y1, y2, y3, y4, y5, y6, y7, y8, y9, keepE, keepB, chk, CV.locs, CV.locv, CV.refs, CV.ref, pureOp, repC, takeN, resV, enterC, Nat.reduceAdd, Nat.reduceSub, Nat.reduceMul, Nat.reduceLeDiff, Nat.reduceLT, Nat.reduceBEq, Nat.reduceBNe, Nat.reduceEqDiff, ↓reduceIte, Int.reduceAdd, Int.reduceSub, Int.reduceMul, Int.reduceLT, Int.reduceLE, Int.reduceEq, Int.reduceNeg, Int.reduceToNat]
            | false =>
              rw [hb] at hs hia
              have hL' := hL l.pts[i].left
              cases hf : (y :: ys).find? (fun z => decide (z.s = l.pts[i].left)) with
              | none =>
                simp only [hf] at hL'
                simp only [r05_Next_C, r05_Next_L0_eq, fE, next, nextAt, hn, hp, hpi, ha, hs, eq_true h1, hf, r05_Around_call, haF, r05_node_call, hnF, r05_Point_call, hpF, hi0, iaddr_atP hi, hr', hia, h0, h00, hL', edC, y1, y2, y3, y4, y5, y6, y7, y8, y9, keepE, keepB, chk, CV.locs, CV.locv, CV.refs, CV.ref, pureOp, repC, takeN, resV, enterC, Nat.reduceAdd, Nat.reduceSub, Nat.reduceMul, Nat.reduceLeDiff, Nat.reduceLT, Nat.reduceBEq, Nat.reduceBNe, Nat.reduceEqDiff, ↓reduceIte, Int.reduceAdd, Int.reduceSub, Int.reduceMul, Int.reduceLT, Int.reduceLE, Int.reduceEq, Int.reduceNeg, Int.reduceToNat]
              | some z =>
                simp only [hf] at hL'
                simp only [r05_Next_C, r05_Next_L0_eq, fE, next, nextAt, hn, hp, hpi, ha, hs, eq_true h1, hf, r05_Around_call, haF, r05_node_call, hnF, r05_Point_call, hpF, hi0, iaddr_atP hi, hr', hia, h0, h00, hL', edC, y1, y2, y3, y4, y5, y6, y7, y8, y9, keepE, keepB, chk, CV.locs, CV.locv, CV.refs, CV.ref, pureOp, repC, takeN, resV, enterC, Nat.reduceAdd, Nat.reduceSub, Nat.reduceMul, Nat.reduceLeDiff, Nat.reduceLT, Nat.reduceBEq, Nat.reduceBNe, Nat.reduceEqDiff, ↓reduceIte, Int.reduceAdd, Int.reduceSub, Int.reduceMul, Int.reduceLT, Int.reduceLE, Int.reduceEq, Int.reduceNeg, Int.reduceToNat]
          · have hr' : ¬ ((i : Int) < right.length) := by omega
            have hs : stand right i = false := by simp [stand, hr]
            have hL' := hL l.pts[i].left
            cases hf : (y :: ys).find? (fun z => decide (z.s = l.pts[i].left)) with
            | none =>
              simp only [hf] at hL'
              simp only [r05_Next_C, r05_Next_L0_eq, fE, next, nextAt, hn, hp, hpi, ha, hs, eq_true h1, hf, r05_Around_call, haF, r05_node_call, hnF, r05_Point_call, hpF, hi0, iaddr_atP hi, hr', h0, h00, hL', edC, y1, y2, y3, y4, y5, y6, y7, y8, y9, keepE, keepB, chk, CV.locs, CV.locv, CV.refs, CV.ref, pureOp, repC, takeN, resV, enterC, Nat.reduceAdd, Nat.reduceSub, Nat.reduceMul, Nat.reduceLeDiff, Nat.reduceLT, Nat.reduceBEq, Nat.reduceBNe, Nat.reduceEqDiff, ↓reduceIte, Int.reduceAdd, Int.reduceSub, Int.reduceMul, Int.reduceLT, Int.reduceLE, Int.reduceEq, Int.reduceNeg, Int.reduceToNat]
            | some z =>
              simp only [hf] at hL'
              simp only [r05_Next_C, r05_Next_L0_eq, fE, next, nextAt, hn, hp, hpi, ha, hs, eq_true h1, hf, r05_Around_call, haF, r05_node_call, hnF, r05_Point_call, hpF, hi0, iaddr_atP hi, hr', h0, h00, hL', edC, y1, y2, y3, y4, y5, y6, y7, y8, y9, keepE, keepB, chk, CV.locs, CV.locv, CV.refs, CV.ref, pureOp, repC, takeN, resV, enterC, Nat.reduceAdd, Nat.reduceSub, Nat.reduceMul, Nat.reduceLeDiff, Nat.reduceLT, Nat.reduceBEq, Nat.reduceBNe, Nat.reduceEqDiff, ↓reduceIte, Int.reduceAdd, Int.reduceSub, Int.reduceMul, Int.reduceLT, Int.reduceLE, Int.reduceEq, Int.reduceNeg, Int.reduceToNat]
        · by_cases hr : i < right.length
          · have hr' : ((i : Int) < right.length) := by omega
            have hia : iaddrC 1 (sl fB right) (.int .i64 i) = some (.vp (.bool right[i] :: (right.drop (i + 1)).flatMap fB)) := iaddr_sl flatB.len flatB.pos hr
            have hs : stand right i = right[i] := by simp [stand, hr]
            cases hb : right[i] with
            | true =>
              rw [hb] at hs hia
              by_cases h2 : x.s = l.pts[i].right
              · simp only [r05_Next_C, fE, next, nextAt, hn, hp, hpi, ha, hs, eq_false h1, eq_true h2, r05_Around_call, haF, r05_node_call, hnF, r05_Point_call, hpF, hi0, iaddr_atP hi, hr', hia, h0, h00, edC, y1, y2, y3, y4, y5, y6, y7, y8, y9, keepE, keepB, chk, CV.locs, CV.locv, CV.refs, CV.ref, pureOp, repC, takeN, resV, enterC, Nat.reduceAdd, Nat.reduceSub, Nat.reduceMul, Nat.reduceLeDiff, Nat.reduceLT, Nat.reduceBEq, Nat.reduceBNe, Nat.reduceEqDiff, ↓reduceIte, Int.reduceAdd, Int.reduceSub, Int.reduceMul, Int.reduceLT, Int.reduceLE, Int.reduceEq, Int.reduceNeg, Int.reduceToNat]
              · simp only [r05_Next_C, fE, next, nextAt, hn, hp, hpi, ha, hs, eq_false h1, eq_false h2, r05_Around_call, haF, r05_node_call, hnF, r05_Point_call, hpF, hi0, iaddr_atP hi, hr', hia, h0, h00, edC, y1, y2, y3, y4, y5, y6, y7, y8, y9, keepE, keepB, chk, CV.locs, CV.locv, CV.refs, CV.ref, pureOp, repC, takeN, resV, enterC, Nat.reduceAdd, Nat.reduceSub, Nat.reduceMul, Nat.reduceLeDiff, Nat.reduceLT, Nat.reduceBEq, Nat.reduceBNe, Nat.reduceEqDiff, ↓reduceIte, Int.reduceAdd, Int.reduceSub, Int.reduceMul, Int.reduceLT, Int.reduceLE, Int.reduceEq, Int.reduceNeg, Int.reduceToNat]
            | false =>
              rw [hb] at hs hia
              by_cases h2 : x.s = l.pts[i].left
              · simp only [r05_Next_C, fE, next, nextAt, hn, hp, hpi, ha, hs, eq_false h1, eq_true h2, r05_Around_call, haF, r05_node_call, hnF, r05_Point_call, hpF, hi0, iaddr_atP hi, hr', hia, h0, h00, edC, y1, y2, y3, y4, y5, y6, y7, y8, y9, keepE, keepB, chk, CV.locs, CV.locv, CV.refs, CV.ref, pureOp, repC, takeN, resV, enterC, Nat.reduceAdd, Nat.reduceSub, Nat.reduceMul, Nat.reduceLeDiff, Nat.reduceLT, Nat.reduceBEq, Nat.reduceBNe, Nat.reduceEqDiff, ↓reduceIte, Int.reduceAdd, Int.reduceSub, Int.reduceMul, Int.reduceLT, Int.reduceLE, Int.reduceEq, Int.reduceNeg, Int.reduceToNat]
              · simp only [r05_Next_C, fE, next, nextAt, hn, hp, hpi, ha, hs, eq_false h1, eq_false h2, r05_Around_call, haF, r05_node_call, hnF, r05_Point_call, hpF, hi0, iaddr_atP hi, hr', hia, h0, h00, edC, y1, y2, y3, y4, y5, y6, y7, y8, y9, keepE, keepB, chk, CV.locs, CV.locv, CV.refs, CV.ref, pureOp, repC, takeN, resV, enterC, Nat.reduceAdd, Nat.reduceSub, Nat.reduceMul, Nat.reduceLeDiff, Nat.reduceLT, Nat.reduceBEq, Nat.reduceBNe, Nat.reduceEqDiff, ↓reduceIte, Int.reduceAdd, Int.reduceSub, Int.reduceMul, Int.reduceLT, Int.reduceLE, Int.reduceEq, Int.reduceNeg, Int.reduceToNat]
          · have hr' : ¬ ((i : Int) < right.length) := by omega
            have hs : stand right i = false := by simp [stand, hr]
            by_cases h2 : x.s = l.pts[i].left
            · simp only [r05_Next_C, fE, next, nextAt, hn, hp, hpi, ha, hs, eq_false h1, eq_true h2, r05_Around_call, haF, r05_node_call, hnF, r05_Point_call, hpF, hi0, iaddr_atP hi, hr', h0, h00, edC, y1, y2, y3, y4, y5, y6, y7, y8, y9, keepE, keepB, chk, CV.locs, CV.locv, CV.refs, CV.ref, pureOp, repC, takeN, resV, enterC, Nat.reduceAdd, Nat.reduceSub, Nat.reduceMul, Nat.reduceLeDiff, Nat.reduceLT, Nat.reduceBEq, Nat.reduceBNe, Nat.reduceEqDiff, ↓reduceIte, Int.reduceAdd, Int.reduceSub, Int.reduceMul, Int.reduceLT, Int.reduceLE, Int.reduceEq, Int.reduceNeg, Int.reduceToNat]
            · simp only [r05_Next_C, fE, next, nextAt, hn, hp, hpi, ha, hs, eq_false h1, eq_false h2, r05_Around_call, haF, r05_node_call, hnF, r05_Point_call, hpF, hi0, iaddr_atP hi, hr', h0, h00, edC, y1, y2, y3, y4, y5, y6, y7, y8, y9, keepE, keepB, chk, CV.locs, CV.locv, CV.refs, CV.ref, pureOp, repC, takeN, resV, enterC, Nat.reduceAdd, Nat.reduceSub, Nat.reduceMul, Nat.reduceLeDiff, Nat.reduceLT, Nat.reduceBEq, Nat.reduceBNe, Nat.reduceEqDiff, ↓reduceIte, Int.reduceAdd, Int.reduceSub, Int.reduceMul, Int.reduceLT, Int.reduceLE, Int.reduceEq, Int.reduceNeg, Int.reduceToNat]

theorem same_loop : ∀ (s r p q : List Ed), p.length = q.length → s.length = r.length → (p ++ s).length ≤ 2 * Zc.small →
    l05_same_R0 ([(0, sl fE (p ++ s)), (1, sl fE (q ++ r)), (5, .int .i64 p.length)], ⟨[], []⟩) = if s = r then some (.norm, [], ⟨[], []⟩) else some (.ret, [(4, .bool false)], ⟨[], []⟩)
  | [], [], p, q, hp, hs, hm => by
    rw [l05_same_R0_eq]
    simp only [l05_same_B0, l05_same_K0_norm, l05_same_K0_ret, l05_same_K0_exit, y1, y2, y3, y4, y5, y6, y7, y8, y9, keepE, keepB, chk, CV.locs, CV.locv, CV.refs, CV.ref, pureOp, repC, takeN, resV, enterC, Nat.reduceAdd, Nat.reduceSub, Nat.reduceMul, Nat.reduceLeDiff, Nat.reduceLT, Nat.reduceBEq, Nat.reduceBNe, Nat.reduceEqDiff, ↓reduceIte, Int.reduceAdd, Int.reduceSub, Int.reduceMul, Int.reduceLT, Int.reduceLE, Int.reduceEq, Int.reduceNeg, Int.reduceToNat]
  | [], _ :: _, _, _, _, hs, _ => by simp at hs
  | _ :: _, [], _, _, _, hs, _ => by simp at hs
  | y :: s, z :: r, p, q, hp, hs, hm => by
    have h4 : ((p.length : Int) < (p ++ y :: s).length) := by simp; omega
    have hw := wrapN (n := p.length) (by simp at hm; omega)
    have ih := same_loop s r (p ++ [y]) (q ++ [z]) (by simpa using hp) (by simpa using hs) (by simpa using hm)
    have hq := eqE y z
    have hi2 : iaddrC 2 (sl fE (q ++ z :: r)) (.int .i64 p.length) = some (.vp (.int .i64 z.s :: .int .i64 z.e :: r.flatMap fE)) := by rw [hp]; exact iaddr_midE _ q r z
    simp only [fE] at hq
    simp only [List.append_assoc, List.cons_append, List.nil_append, List.length_append, List.length_cons, List.length_nil] at ih h4
    rw [l05_same_R0_eq]
    by_cases h : y = z
    · simp only [eq_true h] at hq
      simp only [l05_same_B0, l05_same_K0_norm, l05_same_K0_ret, l05_same_K0_exit, List.append_assoc, List.cons_append, List.nil_append, List.length_append, List.length_cons, List.length_nil, h4, hw, iaddr_midE, hi2, hq, ih, y1, y2, y3, y4, y5, y6, y7, y8, y9, keepE, keepB, chk, CV.locs, CV.locv, CV.refs, CV.ref, pureOp, repC, takeN, resV, enterC, Nat.reduceAdd, Nat.reduceSub, Nat.reduceMul, Nat.reduceLeDiff, Nat.reduceLT, Nat.reduceBEq, Nat.reduceBNe, Nat.reduceEqDiff, ↓reduceIte, Int.reduceAdd, Int.reduceSub, Int.reduceMul, Int.reduceLT, Int.reduceLE, Int.reduceEq, Int.reduceNeg, Int.reduceToNat]
      simp only [List.cons.injEq, eq_true h, y1, y2, y3, y4, y5, y6, y7, y8, y9, keepE, keepB, chk, CV.locs, CV.locv, CV.refs, CV.ref, pureOp, repC, takeN, resV, enterC, Nat.reduceAdd, Nat.reduceSub, Nat.reduceMul, Nat.reduceLeDiff, Nat.reduceLT, Nat.reduceBEq, Nat.reduceBNe, Nat.reduceEqDiff, ↓reduceIte, Int.reduceAdd, Int.reduceSub, Int.reduceMul, Int.reduceLT, Int.reduceLE, Int.reduceEq, Int.reduceNeg, Int.reduceToNat]
    · simp only [eq_false h] at hq
      simp only [l05_same_B0, l05_same_K0_norm, l05_same_K0_ret, l05_same_K0_exit, List.append_assoc, List.cons_append, List.nil_append, List.length_append, List.length_cons, List.length_nil, h4, hw, iaddr_midE, hi2, hq, y1, y2, y3, y4, y5, y6, y7, y8, y9, keepE, keepB, chk, CV.locs, CV.locv, CV.refs, CV.ref, pureOp, repC, takeN, resV, enterC, Nat.reduceAdd, Nat.reduceSub, Nat.reduceMul, Nat.reduceLeDiff, Nat.reduceLT, Nat.reduceBEq, Nat.reduceBNe, Nat.reduceEqDiff, ↓reduceIte, Int.reduceAdd, Int.reduceSub, Int.reduceMul, Int.reduceLT, Int.reduceLE, Int.reduceEq, Int.reduceNeg, Int.reduceToNat]
      simp only [List.cons.injEq, eq_false h, y1, y2, y3, y4, y5, y6, y7, y8, y9, keepE, keepB, chk, CV.locs, CV.locv, CV.refs, CV.ref, pureOp, repC, takeN, resV, enterC, Nat.reduceAdd, Nat.reduceSub, Nat.reduceMul, Nat.reduceLeDiff, Nat.reduceLT, Nat.reduceBEq, Nat.reduceBNe, Nat.reduceEqDiff, ↓reduceIte, Int.reduceAdd, Int.reduceSub, Int.reduceMul, Int.reduceLT, Int.reduceLE, Int.reduceEq, Int.reduceNeg, Int.reduceToNat]
theorem same_F (a b : List Ed) (hm : a.length ≤ 2 * Zc.small) (st : Bool) (H : Heap) : l05_same_F st H [sl fE a, sl fE b] = some (.bool (decide (a = b)), H) := by
  rw [l05_same_F_eq]
  by_cases h : a.length = b.length
  · have e := same_loop a b [] [] rfl h (by simpa using hm)
    simp only [List.nil_append, List.length_nil, Int.natCast_zero] at e
    have h' : ((a.length : Int) = b.length) := by omega
    by_cases h2 : a = b
    · simp only [eq_true h2, if_true] at e
      simp only [l05_same_C, l05_same_L0_eq, eq_true h', e, eq_true h2, y1, y2, y3, y4, y5, y6, y7, y8, y9, keepE, keepB, chk, CV.locs, CV.locv, CV.refs, CV.ref, pureOp, repC, takeN, resV, enterC, Nat.reduceAdd, Nat.reduceSub, Nat.reduceMul, Nat.reduceLeDiff, Nat.reduceLT, Nat.reduceBEq, Nat.reduceBNe, Nat.reduceEqDiff, ↓reduceIte, Int.reduceAdd, Int.reduceSub, Int.reduceMul, Int.reduceLT, Int.reduceLE, Int.reduceEq, Int.reduceNeg, Int.reduceToNat]
    · simp only [eq_false h2, if_false] at e
      simp only [l05_same_C, l05_same_L0_eq, eq_true h', e, eq_false h2, y1, y2, y3, y4, y5, y6, y7, y8, y9, keepE, keepB, chk, CV.locs, CV.locv, CV.refs, CV.ref, pureOp, repC, takeN, resV, enterC, Nat.reduceAdd, Nat.reduceSub, Nat.reduceMul, Nat.reduceLeDiff, Nat.reduceLT, Nat.reduceBEq, Nat.reduceBNe, Nat.reduceEqDiff, ↓reduceIte, Int.reduceAdd, Int.reduceSub, Int.reduceMul, Int.reduceLT, Int.reduceLE, Int.reduceEq, Int.reduceNeg, Int.reduceToNat]
  · have h' : ¬ ((a.length : Int) = b.length) := by omega
    have h2 : a ≠ b := fun e => h (by rw [e])
    simp only [l05_same_C, eq_false h', h2, y1, y2, y3, y4, y5, y6, y7, y8, y9, keepE, keepB, chk, CV.locs, CV.locv, CV.refs, CV.ref, pureOp, repC, takeN, resV, enterC, Nat.reduceAdd, Nat.reduceSub, Nat.reduceMul, Nat.reduceLeDiff, Nat.reduceLT, Nat.reduceBEq, Nat.reduceBNe, Nat.reduceEqDiff, ↓reduceIte, Int.reduceAdd, Int.reduceSub, Int.reduceMul, Int.reduceLT, Int.reduceLE, Int.reduceEq, Int.reduceNeg, Int.reduceToNat]
end Go.Proofs.Ytmkdhpjidhbijaa.Zt
