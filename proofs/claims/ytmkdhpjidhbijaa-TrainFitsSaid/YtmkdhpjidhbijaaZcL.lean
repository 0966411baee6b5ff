/- Walks: slices.Concat of ends; all that may come next, as the graph tells. -/
import Derived.Test.YtmkdhpjidhbijaaZcK
set_option linter.all false
namespace Go.Proofs.Ytmkdhpjidhbijaa.Zt
open Go Go.Zc
set_option maxRecDepth 10000

def fEL (l : List Ed) : List CV := [sl fE l]
theorem flatEL : Flat fEL 1 := ⟨fun _ => rfl, by decide, fun _ => rfl, fun _ => rfl, fun _ => rfl⟩
theorem iaddr_midEL (k : IntKind) (pre suf : List (List Ed)) (x : List Ed) : iaddrC 1 (sl fEL (pre ++ x :: suf)) (.int k pre.length) = some (.vp (sl fE x :: suf.flatMap fEL)) := iaddr_mid flatEL k pre suf x

theorem grow_F (n : Nat) (hn : n ≤ 4 * Zc.small) (bx : List (Nat × List CV)) (bl : List Blk) : ∃ v bl', slices_Grow_End_F bx bl [.nils, .int .i64 n] = some (v, ⟨bx, bl'⟩) ∧ OwnS fE 2 bl' v [] := by
  unfold Zc.small at hn
  have hw : IntKind.i64.wrap ((n : Int) - 0) = n := by rw [wrap64 (by omega) (by omega)]; omega
  have h0 : ¬ ((n : Int) < 0) := by omega
  have hc1 : slcC 2 .nils none (some (.int .i64 0)) = some .nils := rfl
  have hc2 : slcC 2 (.os 2 (.blk bl.length) 0 n) none (some (.int .i64 0)) = some (.os 2 (.blk bl.length) 0 0) := by
    unfold slcC
    simp only [sbound, if_true]
    rw [if_pos ⟨by omega, by omega⟩]
    simp
  by_cases h : n = 0
  · subst h
    refine ⟨.nils, bl, ?_, .inl ⟨rfl, rfl⟩⟩
    rw [slices_Grow_End_F_eq]
    simp only [slices_Grow_End_C, Int.natCast_zero, y1, y2, y3, y4, y5, y6, y7, y8, y9, keepE, keepB, chk, CV.locs, CV.locv, CV.refs, CV.ref, pureOp, repC, takeN, resV, enterC, Nat.reduceAdd, Nat.reduceSub, Nat.reduceMul, Nat.reduceLeDiff, Nat.reduceLT, Nat.reduceBEq, Nat.reduceBNe, Nat.reduceEqDiff, ↓reduceIte, Int.reduceAdd, Int.reduceSub, Int.reduceMul, Int.reduceLT, Int.reduceLE, Int.reduceEq, Int.reduceNeg, Int.reduceToNat]
  · have h1 : (0 : Int) < n := by omega
    have h2 : (n : Int) * 16 ≤ 140737488355328 := by omega
    refine ⟨.os 2 (.blk bl.length) 0 0, bl ++ [.cells (repC [.int .i64 0, .int .i64 0] n)], ?_, .inr ⟨bl.length, repC [.int .i64 0, .int .i64 0] n, rfl, by simp⟩⟩
    rw [slices_Grow_End_F_eq]
    simp only [slices_Grow_End_C, h0, hw, h1, h2, hc1, hc2, Int.cast_ofNat_Int, Int.toNat_natCast, y1, y2, y3, y4, y5, y6, y7, y8, y9, keepE, keepB, chk, CV.locs, CV.locv, CV.refs, CV.ref, pureOp, repC, takeN, resV, enterC, Nat.reduceAdd, Nat.reduceSub, Nat.reduceMul, Nat.reduceLeDiff, Nat.reduceLT, Nat.reduceBEq, Nat.reduceBNe, Nat.reduceEqDiff, ↓reduceIte, Int.reduceAdd, Int.reduceSub, Int.reduceMul, Int.reduceLT, Int.reduceLE, Int.reduceEq, Int.reduceNeg, Int.reduceToNat]

theorem cat_len : ∀ (s p : List (List Ed)), (p ++ s).length ≤ 1000 → (p.flatten.length + s.flatten.length) ≤ 4 * Zc.small →
    slices_Concat_End_R0 ([(0, sl fEL (p ++ s)), (3, .int .i64 p.flatten.length), (9, sl fEL (p ++ s)), (10, .int .i64 (p ++ s).length), (11, .int .i64 p.length)], ⟨[], []⟩) =
      some (.norm, [(0, sl fEL (p ++ s)), (3, .int .i64 (p ++ s).flatten.length)], ⟨[], []⟩)
  | [], p, hm, hl => by
    rw [slices_Concat_End_R0_eq]
    simp only [slices_Concat_End_B0, slices_Concat_End_K0_norm, slices_Concat_End_K0_ret, slices_Concat_End_K0_exit, y1, y2, y3, y4, y5, y6, y7, y8, y9, keepE, keepB, chk, CV.locs, CV.locv, CV.refs, CV.ref, pureOp, repC, takeN, resV, enterC, Nat.reduceAdd, Nat.reduceSub, Nat.reduceMul, Nat.reduceLeDiff, Nat.reduceLT, Nat.reduceBEq, Nat.reduceBNe, Nat.reduceEqDiff, ↓reduceIte, Int.reduceAdd, Int.reduceSub, Int.reduceMul, Int.reduceLT, Int.reduceLE, Int.reduceEq, Int.reduceNeg, Int.reduceToNat]
  | x :: s, p, hm, hl => by
    have h1 : ((p.length : Int) < (p ++ x :: s).length) := by simp; omega
    have hw := wrapM (n := p.length) (by simp at hm; omega)
    have hxl : p.flatten.length + x.length + s.flatten.length ≤ 4 * Zc.small := by simp at hl; simp; omega
    unfold Zc.small at hxl
    have hw2 : IntKind.i64.wrap ((p.flatten.length : Int) + x.length) = ((p ++ [x]).flatten.length : Nat) := by rw [wrap64 (by omega) (by omega)]; simp
    have h0 : ¬ (((p ++ [x]).flatten.length : Int) < 0) := by omega
    have ih := cat_len s (p ++ [x]) (by simpa using hm) (by simp at hl ⊢; omega)
    rw [show (p ++ [x]) ++ s = p ++ x :: s by simp, show (p ++ [x]).length = p.length + 1 by simp] at ih
    rw [slices_Concat_End_R0_eq]
    simp only [slices_Concat_End_B0, slices_Concat_End_K0_norm, slices_Concat_End_K0_ret, slices_Concat_End_K0_exit, h1, iaddr_midEL, hw, hw2, h0, ih, y1, y2, y3, y4, y5, y6, y7, y8, y9, keepE, keepB, chk, CV.locs, CV.locv, CV.refs, CV.ref, pureOp, repC, takeN, resV, enterC, Nat.reduceAdd, Nat.reduceSub, Nat.reduceMul, Nat.reduceLeDiff, Nat.reduceLT, Nat.reduceBEq, Nat.reduceBNe, Nat.reduceEqDiff, ↓reduceIte, Int.reduceAdd, Int.reduceSub, Int.reduceMul, Int.reduceLT, Int.reduceLE, Int.reduceEq, Int.reduceNeg, Int.reduceToNat]

theorem cat_app (ls : List (List Ed)) (hm : ls.length ≤ 1000) (hl : ls.flatten.length ≤ 4 * Zc.small) : ∀ (s p : List (List Ed)) (v : CV) (bl : List Blk), p ++ s = ls → OwnS fE 2 bl v p.flatten →
    ∃ v' bl', slices_Concat_End_R2 ([(6, v), (25, sl fEL ls), (26, .int .i64 ls.length), (27, .int .i64 p.length)], ⟨[], bl⟩) = some (.norm, [(6, v')], ⟨[], bl'⟩) ∧ OwnS fE 2 bl' v' ls.flatten
  | [], p, v, bl, hp, hO => by
    rw [List.append_nil] at hp
    subst hp
    refine ⟨v, bl, ?_, hO⟩
    rw [slices_Concat_End_R2_eq]
    simp only [slices_Concat_End_B2, slices_Concat_End_K2_norm, slices_Concat_End_K2_ret, slices_Concat_End_K2_exit, hO.chkV, y1, y2, y3, y4, y5, y6, y7, y8, y9, keepE, keepB, chk, CV.locs, CV.locv, CV.refs, CV.ref, pureOp, repC, takeN, resV, enterC, Nat.reduceAdd, Nat.reduceSub, Nat.reduceMul, Nat.reduceLeDiff, Nat.reduceLT, Nat.reduceBEq, Nat.reduceBNe, Nat.reduceEqDiff, ↓reduceIte, Int.reduceAdd, Int.reduceSub, Int.reduceMul, Int.reduceLT, Int.reduceLE, Int.reduceEq, Int.reduceNeg, Int.reduceToNat]
  | x :: s, p, v, bl, hp, hO => by
    have h1 : ((p.length : Int) < ls.length) := by rw [← hp]; simp; omega
    have hw := wrapM (n := p.length) (by rw [← hp] at hm; simp at hm; omega)
    have hi : iaddrC 1 (sl fEL ls) (.int .i64 p.length) = some (.vp (sl fE x :: s.flatMap fEL)) := by rw [← hp]; exact iaddr_midEL _ p s x
    have hb : p.flatten.length + x.length ≤ 4 * Zc.small := by rw [← hp] at hl; simp at hl; simp; omega
    unfold Zc.small at hb
    obtain ⟨v1, bl1, e1, o1, _⟩ := hO.appSl flatE (bytes := 16) (zero := [.int .i64 0, .int .i64 0]) (by decide) rfl rfl x (by omega)
    obtain ⟨v', bl', e, o⟩ := cat_app ls hm hl s (p ++ [x]) v1 bl1 (by simpa using hp) (by simpa using o1)
    rw [show (p ++ [x]).length = p.length + 1 by simp] at e
    refine ⟨v', bl', ?_, o⟩
    rw [slices_Concat_End_R2_eq]
    simp only [slices_Concat_End_B2, slices_Concat_End_K2_norm, slices_Concat_End_K2_ret, slices_Concat_End_K2_exit, h1, hi, hw, e1, hO.chkV, o1.chkV, e, y1, y2, y3, y4, y5, y6, y7, y8, y9, keepE, keepB, chk, CV.locs, CV.locv, CV.refs, CV.ref, pureOp, repC, takeN, resV, enterC, Nat.reduceAdd, Nat.reduceSub, Nat.reduceMul, Nat.reduceLeDiff, Nat.reduceLT, Nat.reduceBEq, Nat.reduceBNe, Nat.reduceEqDiff, ↓reduceIte, Int.reduceAdd, Int.reduceSub, Int.reduceMul, Int.reduceLT, Int.reduceLE, Int.reduceEq, Int.reduceNeg, Int.reduceToNat]

theorem concat_F (ls : List (List Ed)) (hm : ls.length ≤ 1000) (hl : ls.flatten.length ≤ 4 * Zc.small) (st : Bool) (H : Heap) : slices_Concat_End_F st H [sl fEL ls] = some (sl fE ls.flatten, H) := by
  have e1 := cat_len ls [] hm (by simpa using hl)
  simp only [List.nil_append, List.length_nil, Int.natCast_zero, List.flatten_nil] at e1
  obtain ⟨v, bl, e2, o2⟩ := grow_F ls.flatten.length hl [] []
  obtain ⟨v', bl', e3, o3⟩ := cat_app ls hm hl ls [] v bl rfl o2
  simp only [List.nil_append, List.length_nil, Int.natCast_zero] at e3
  have hs := fun bx => o3.snapV flatE bx st _ (snap_E ⟨bx, bl'⟩ st false 6)
  rw [slices_Concat_End_F_eq]
  simp only [slices_Concat_End_C, slices_Concat_End_L0_eq, slices_Concat_End_L2_eq, slices_Grow_End_call, e1, e2, e3, o2.chkV, hs, y1, y2, y3, y4, y5, y6, y7, y8, y9, keepE, keepB, chk, CV.locs, CV.locv, CV.refs, CV.ref, pureOp, repC, takeN, resV, enterC, Nat.reduceAdd, Nat.reduceSub, Nat.reduceMul, Nat.reduceLeDiff, Nat.reduceLT, Nat.reduceBEq, Nat.reduceBNe, Nat.reduceEqDiff, ↓reduceIte, Int.reduceAdd, Int.reduceSub, Int.reduceMul, Int.reduceLT, Int.reduceLE, Int.reduceEq, Int.reduceNeg, Int.reduceToNat]

theorem garound1_F (x y : Ed) (st : Bool) (H : Heap) : graph_Graph_Around_1_F st H [.agg (fE y), .vp (fE x)] = some (.bool (decide (y = x)), H) := by
  rw [graph_Graph_Around_1_F_eq]
  have hq := eqE y x
  simp only [fE] at hq
  simp only [graph_Graph_Around_1_C, fE, hq, y1, y2, y3, y4, y5, y6, y7, y8, y9, keepE, keepB, chk, CV.locs, CV.locv, CV.refs, CV.ref, pureOp, repC, takeN, resV, enterC, Nat.reduceAdd, Nat.reduceSub, Nat.reduceMul, Nat.reduceLeDiff, Nat.reduceLT, Nat.reduceBEq, Nat.reduceBNe, Nat.reduceEqDiff, ↓reduceIte, Int.reduceAdd, Int.reduceSub, Int.reduceMul, Int.reduceLT, Int.reduceLE, Int.reduceEq, Int.reduceNeg, Int.reduceToNat]

theorem garound_F (l : Lay) (hl : l.ok) (x : Ed) (H : Heap) : graph_Graph_Around_F false H [.vp (layC l), .agg (fE x)] = some (sl fE (around l x), H) := by
  rw [graph_Graph_Around_F_eq]
  have hnF := gnode_F l x
  simp only [fE] at hnF
  cases hn : nodeOf l x with
  | none =>
    simp only [hn, Option.getD_none] at hnF
    simp only [graph_Graph_Around_C, fE, graph_Graph_node_call, hnF, around, hn, sl_nil fE, y1, y2, y3, y4, y5, y6, y7, y8, y9, keepE, keepB, chk, CV.locs, CV.locv, CV.refs, CV.ref, pureOp, repC, takeN, resV, enterC, Nat.reduceAdd, Nat.reduceSub, Nat.reduceMul, Nat.reduceLeDiff, Nat.reduceLT, Nat.reduceBEq, Nat.reduceBNe, Nat.reduceEqDiff, ↓reduceIte, Int.reduceAdd, Int.reduceSub, Int.reduceMul, Int.reduceLT, Int.reduceLE, Int.reduceEq, Int.reduceNeg, Int.reduceToNat]
  | some n =>
    simp only [hn, Option.getD_some] at hnF
    have hpF := gpoint_F l hl n
    cases hp : ptOf l n with
    | some i =>
      obtain ⟨hi, hf⟩ := ptOf_some hp
      simp only [hp] at hpF
      have h0 : ¬ ((i : Int) < 0) := by omega
      have hcc : CV.vs [sl fE (oneOf l l.pts[i].left n), sl fE (oneOf l l.pts[i].right n)] 2 = sl fEL [oneOf l l.pts[i].left n, oneOf l l.pts[i].right n] := rfl
      have hcF := fun st H => concat_F [oneOf l l.pts[i].left n, oneOf l l.pts[i].right n] (by simp) (by have := oneOf_len l l.pts[i].left n; have := oneOf_len l l.pts[i].right n; unfold Zc.small; simp; omega) st H
      simp only [List.flatten_cons, List.flatten_nil, List.append_nil] at hcF
      by_cases h1 : x.s = l.pts[i].stem
      · simp only [graph_Graph_Around_C, fE, graph_Graph_node_call, hnF, graph_Graph_Point_call, hpF, h0, iaddr_atP hi, eq_true h1, graph_Graph_at_call, gat_F l hl, slices_Concat_End_call, hcc, hcF, around, hn, hf, y1, y2, y3, y4, y5, y6, y7, y8, y9, keepE, keepB, chk, CV.locs, CV.locv, CV.refs, CV.ref, pureOp, repC, takeN, resV, enterC, Nat.reduceAdd, Nat.reduceSub, Nat.reduceMul, Nat.reduceLeDiff, Nat.reduceLT, Nat.reduceBEq, Nat.reduceBNe, Nat.reduceEqDiff, ↓reduceIte, Int.reduceAdd, Int.reduceSub, Int.reduceMul, Int.reduceLT, Int.reduceLE, Int.reduceEq, Int.reduceNeg, Int.reduceToNat]
      · by_cases h2 : x.s = l.pts[i].left
        · simp only [graph_Graph_Around_C, fE, graph_Graph_node_call, hnF, graph_Graph_Point_call, hpF, h0, iaddr_atP hi, eq_false h1, eq_true h2, graph_Graph_at_call, gat_F l hl, around, hn, hf, y1, y2, y3, y4, y5, y6, y7, y8, y9, keepE, keepB, chk, CV.locs, CV.locv, CV.refs, CV.ref, pureOp, repC, takeN, resV, enterC, Nat.reduceAdd, Nat.reduceSub, Nat.reduceMul, Nat.reduceLeDiff, Nat.reduceLT, Nat.reduceBEq, Nat.reduceBNe, Nat.reduceEqDiff, ↓reduceIte, Int.reduceAdd, Int.reduceSub, Int.reduceMul, Int.reduceLT, Int.reduceLE, Int.reduceEq, Int.reduceNeg, Int.reduceToNat]
        · by_cases h3 : x.s = l.pts[i].right
          · simp only [graph_Graph_Around_C, fE, graph_Graph_node_call, hnF, graph_Graph_Point_call, hpF, h0, iaddr_atP hi, eq_false h1, eq_false h2, eq_true h3, graph_Graph_at_call, gat_F l hl, around, hn, hf, y1, y2, y3, y4, y5, y6, y7, y8, y9, keepE, keepB, chk, CV.locs, CV.locv, CV.refs, CV.ref, pureOp, repC, takeN, resV, enterC, Nat.reduceAdd, Nat.reduceSub, Nat.reduceMul, Nat.reduceLeDiff, Nat.reduceLT, Nat.reduceBEq, Nat.reduceBNe, Nat.reduceEqDiff, ↓reduceIte, Int.reduceAdd, Int.reduceSub, Int.reduceMul, Int.reduceLT, Int.reduceLE, Int.reduceEq, Int.reduceNeg, Int.reduceToNat]
          · simp only [graph_Graph_Around_C, fE, graph_Graph_node_call, hnF, graph_Graph_Point_call, hpF, h0, iaddr_atP hi, h1, h2, h3, sl_nil fE, around, hn, hf, y1, y2, y3, y4, y5, y6, y7, y8, y9, keepE, keepB, chk, CV.locs, CV.locv, CV.refs, CV.ref, pureOp, repC, takeN, resV, enterC, Nat.reduceAdd, Nat.reduceSub, Nat.reduceMul, Nat.reduceLeDiff, Nat.reduceLT, Nat.reduceBEq, Nat.reduceBNe, Nat.reduceEqDiff, ↓reduceIte, Int.reduceAdd, Int.reduceSub, Int.reduceMul, Int.reduceLT, Int.reduceLE, Int.reduceEq, Int.reduceNeg, Int.reduceToNat]
    | none =>
      have hf := ptOf_none hp
      simp only [hp] at hpF
      obtain ⟨v, bl, e, o, hkeep, hnew⟩ := gends_F l hl n false [] [.cells (fE x)]
      have hk0 : bl[0]? = some (.cells (fE x)) := hkeep 0 _ rfl
      have hne : blkOf v ≠ some 0 := fun h => by have := hnew 0 h; simp at this
      have hc : ∀ y (H' : Heap), call ctx (.fn (.func 78) [] [.vp (fE x)]) [.agg (fE y)] H' = some (.bool (decide (y = x)), H') := by
        intro y H'
        have := garound1_F x y
        simp only [fE] at this
        simp only [graph_Graph_Around_1_call, fE, y1, y2, y3, y4, y5, y6, y7, y8, y9, keepE, keepB, chk, CV.locs, CV.locv, CV.refs, CV.ref, pureOp, repC, takeN, resV, enterC, Nat.reduceAdd, Nat.reduceSub, Nat.reduceMul, Nat.reduceLeDiff, Nat.reduceLT, Nat.reduceBEq, Nat.reduceBNe, Nat.reduceEqDiff, ↓reduceIte, Int.reduceAdd, Int.reduceSub, Int.reduceMul, Int.reduceLT, Int.reduceLE, Int.reduceEq, Int.reduceNeg, Int.reduceToNat, this]
      have hc2 : ∀ (bl : List Blk) (bx : List (Nat × List CV)) (y : Ed), bl[0]? = some (.cells (fE x)) → call ctx (.fn (.func 78) [] [.op (.blk 0) 0]) [.agg (fE y)] ⟨bx, bl⟩ = some (.bool (decide (y = x)), ⟨bx, bl⟩) := by
        intro bl bx y hb
        have := garound1_F x y
        simp only [fE] at this
        have hg := get_blk bx bl 0 _ hb
        simp only [fE] at hg
        simp only [graph_Graph_Around_1_call, fE, hg, y1, y2, y3, y4, y5, y6, y7, y8, y9, keepE, keepB, chk, CV.locs, CV.locv, CV.refs, CV.ref, pureOp, repC, takeN, resV, enterC, Nat.reduceAdd, Nat.reduceSub, Nat.reduceMul, Nat.reduceLeDiff, Nat.reduceLT, Nat.reduceBEq, Nat.reduceBNe, Nat.reduceEqDiff, ↓reduceIte, Int.reduceAdd, Int.reduceSub, Int.reduceMul, Int.reduceLT, Int.reduceLE, Int.reduceEq, Int.reduceNeg, Int.reduceToNat, this]
      have hsn : ∀ (bl : List Blk) (bx : List (Nat × List CV)), bl[0]? = some (.cells (fE x)) → snapV ⟨bx, bl⟩ false false (snapN ⟨bx, bl⟩ false false 7) (.fn (.func 78) [] [.op (.blk 0) 0]) = some (.fn (.func 78) [] [.vp (fE x)]) := by
        intro bl bx hb
        have hg := get_blk bx bl 0 _ hb
        simp only [fE] at hg ⊢
        simp only [hg, y1, y2, y3, y4, y5, y6, y7, y8, y9, keepE, keepB, chk, CV.locs, CV.locv, CV.refs, CV.ref, pureOp, repC, takeN, resV, enterC, Nat.reduceAdd, Nat.reduceSub, Nat.reduceMul, Nat.reduceLeDiff, Nat.reduceLT, Nat.reduceBEq, Nat.reduceBNe, Nat.reduceEqDiff, ↓reduceIte, Int.reduceAdd, Int.reduceSub, Int.reduceMul, Int.reduceLT, Int.reduceLE, Int.reduceEq, Int.reduceNeg, Int.reduceToNat]
      obtain ⟨v', bl', e', o'⟩ := del_F (.fn (.func 78) [] [.op (.blk 0) 0]) (.fn (.func 78) [] [.vp (fE x)]) rfl rfl (fun y => decide (y = x)) 0 (fE x) hc2 hsn hc v bl (ends l n) o hk0 hne (ends_len hl n) []
      simp only [fE] at e e'
      have hfe : (ends l n).filter (fun y => !decide (y = x)) = (ends l n).filter fun y => decide (y ≠ x) := by congr 1; funext y; by_cases h : y = x <;> simp [h]
      rw [hfe] at o'
      have ho := o'.len
      have hs := fun bx => o'.snapV flatE bx false _ (snap_E ⟨bx, bl'⟩ false false 6)
      by_cases h1 : ((ends l n).filter fun y => decide (y ≠ x)).length = 1
      · have h1' : (((ends l n).filter fun y => decide (y ≠ x)).length : Int) = 1 := by omega
        simp only [graph_Graph_Around_C, fE, graph_Graph_node_call, hnF, graph_Graph_Point_call, hpF, graph_Graph_Ends_call, e, slices_DeleteFunc_End_call, e', o.locv, o'.locv, ho, eq_true h1, eq_true h1', hs, around, hn, hf, y1, y2, y3, y4, y5, y6, y7, y8, y9, keepE, keepB, chk, CV.locs, CV.locv, CV.refs, CV.ref, pureOp, repC, takeN, resV, enterC, Nat.reduceAdd, Nat.reduceSub, Nat.reduceMul, Nat.reduceLeDiff, Nat.reduceLT, Nat.reduceBEq, Nat.reduceBNe, Nat.reduceEqDiff, ↓reduceIte, Int.reduceAdd, Int.reduceSub, Int.reduceMul, Int.reduceLT, Int.reduceLE, Int.reduceEq, Int.reduceNeg, Int.reduceToNat]
      · have h1' : ¬ (((ends l n).filter fun y => decide (y ≠ x)).length : Int) = 1 := by omega
        simp only [graph_Graph_Around_C, fE, graph_Graph_node_call, hnF, graph_Graph_Point_call, hpF, graph_Graph_Ends_call, e, slices_DeleteFunc_End_call, e', o.locv, o'.locv, ho, eq_false h1, eq_false h1', sl_nil fE, around, hn, hf, y1, y2, y3, y4, y5, y6, y7, y8, y9, keepE, keepB, chk, CV.locs, CV.locv, CV.refs, CV.ref, pureOp, repC, takeN, resV, enterC, Nat.reduceAdd, Nat.reduceSub, Nat.reduceMul, Nat.reduceLeDiff, Nat.reduceLT, Nat.reduceBEq, Nat.reduceBNe, Nat.reduceEqDiff, ↓reduceIte, Int.reduceAdd, Int.reduceSub, Int.reduceMul, Int.reduceLT, Int.reduceLE, Int.reduceEq, Int.reduceNeg, Int.reduceToNat]
end Go.Proofs.Ytmkdhpjidhbijaa.Zt
