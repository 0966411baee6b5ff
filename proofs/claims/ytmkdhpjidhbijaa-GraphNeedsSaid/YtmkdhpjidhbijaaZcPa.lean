/- Walks: what a path needs, as the program tells. -/
import Derived.Test.YtmkdhpjidhbijaaZcTk
set_option linter.all false
namespace Go.Proofs.Ytmkdhpjidhbijaa.Zt
open Go Go.Zc
set_option maxRecDepth 10000

theorem snap_N (H : Heap) (st kn : Bool) (n : Nat) : ∀ x : Nd, ∀ c ∈ fN x, snapN H st kn (n + 1) c = some c := by
  intro x c hc
  simp only [fN, List.mem_cons, List.not_mem_nil, or_false] at hc
  rcases hc with rfl | rfl <;> rfl
theorem slN1 (a : Int) (b : Bool) : sl fN [⟨a, b⟩] = .vs [.int .i64 a, .bool b] 1 := rfl
theorem needAt_len (l : Lay) (n s t : Int) : (needAt l n s t).length ≤ 1 := by
  unfold needAt
  split
  · simp
  · split <;> simp
theorem around_node {l : Lay} {x y : Ed} (h : y ∈ around l x) : ∃ n, nodeOf l x = some n := by
  cases hn : nodeOf l x with
  | none => simp [around, hn] at h
  | some n => exact ⟨n, rfl⟩

theorem gneed_F (l : Lay) (hl : l.ok) (x y : Ed) (n : Int) (hn : nodeOf l x = some n) (H : Heap) : graph_Graph_need_F false H [.vp (layC l), .agg (fE x), .agg (fE y)] = some (sl fN (needAt l n x.s y.s), H) := by
  rw [graph_Graph_need_F_eq]
  have hnF := fun st H => gnode_F l x st H
  have hpF := fun st H => gpoint_F l hl n st H
  simp only [hn, Option.getD_some, fE] at hnF
  cases hp : ptOf l n with
  | none =>
    simp only [hp] at hpF
    have hne : needAt l n x.s y.s = [] := by simp [needAt, hp]
    rw [hne]
    simp only [graph_Graph_need_C, fE, graph_Graph_node_call, hnF, graph_Graph_Point_call, hpF, sl_nil fN, y1, y2, y3, y4, y5, y6, y7, y8, y9, keepE, keepB, chk, CV.locs, CV.locv, CV.refs, CV.ref, pureOp, repC, takeN, resV, enterC, Nat.reduceAdd, Nat.reduceSub, Nat.reduceMul, Nat.reduceLeDiff, Nat.reduceLT, Nat.reduceBEq, Nat.reduceBNe, Nat.reduceEqDiff, ↓reduceIte, Int.reduceAdd, Int.reduceSub, Int.reduceMul, Int.reduceLT, Int.reduceLE, Int.reduceEq, Int.reduceNeg, Int.reduceToNat]
  | some i =>
    simp only [hp] at hpF
    obtain ⟨hi, hpi⟩ := ptOf_pt hp
    have hi0 : ¬ ((i : Int) < 0) := by omega
    by_cases h1 : l.pts[i].stem = y.s
    · have hne : needAt l n x.s y.s = [⟨i, decide (l.pts[i].right = x.s)⟩] := by simp [needAt, hp, hpi, h1]
      rw [hne, slN1]
      simp only [graph_Graph_need_C, fE, graph_Graph_node_call, hnF, graph_Graph_Point_call, hpF, hi0, iaddr_atP hi, eq_true h1, y1, y2, y3, y4, y5, y6, y7, y8, y9, keepE, keepB, chk, CV.locs, CV.locv, CV.refs, CV.ref, pureOp, repC, takeN, resV, enterC, Nat.reduceAdd, Nat.reduceSub, Nat.reduceMul, Nat.reduceLeDiff, Nat.reduceLT, Nat.reduceBEq, Nat.reduceBNe, Nat.reduceEqDiff, ↓reduceIte, Int.reduceAdd, Int.reduceSub, Int.reduceMul, Int.reduceLT, Int.reduceLE, Int.reduceEq, Int.reduceNeg, Int.reduceToNat]
    · have hne : needAt l n x.s y.s = [⟨i, decide (l.pts[i].right = y.s)⟩] := by simp [needAt, hp, hpi, h1]
      rw [hne, slN1]
      simp only [graph_Graph_need_C, fE, graph_Graph_node_call, hnF, graph_Graph_Point_call, hpF, hi0, iaddr_atP hi, eq_false h1, y1, y2, y3, y4, y5, y6, y7, y8, y9, keepE, keepB, chk, CV.locs, CV.locv, CV.refs, CV.ref, pureOp, repC, takeN, resV, enterC, Nat.reduceAdd, Nat.reduceSub, Nat.reduceMul, Nat.reduceLeDiff, Nat.reduceLT, Nat.reduceBEq, Nat.reduceBNe, Nat.reduceEqDiff, ↓reduceIte, Int.reduceAdd, Int.reduceSub, Int.reduceMul, Int.reduceLT, Int.reduceLE, Int.reduceEq, Int.reduceNeg, Int.reduceToNat]

theorem gway1_F (x : Ed) (n : Int) (st : Bool) (H : Heap) : graph_Graph_way_1_F st H [.agg (fE x), .vp [.int .i64 n]] = some (.bool (decide (x.s = n)), H) := by
  rw [graph_Graph_way_1_F_eq]
  simp only [graph_Graph_way_1_C, fE, y1, y2, y3, y4, y5, y6, y7, y8, y9, keepE, keepB, chk, CV.locs, CV.locv, CV.refs, CV.ref, pureOp, repC, takeN, resV, enterC, Nat.reduceAdd, Nat.reduceSub, Nat.reduceMul, Nat.reduceLeDiff, Nat.reduceLT, Nat.reduceBEq, Nat.reduceBNe, Nat.reduceEqDiff, ↓reduceIte, Int.reduceAdd, Int.reduceSub, Int.reduceMul, Int.reduceLT, Int.reduceLE, Int.reduceEq, Int.reduceNeg, Int.reduceToNat]

set_option maxHeartbeats 1000000 in
theorem gway_loop (l : Lay) (hl : l.ok) (t : List Int) (hm : t.length ≤ Zc.small) : ∀ (s pre : List Int) (x : Ed) (acc : List Nd) (v : CV) (bl : List Blk), pre ++ s = t → acc.length ≤ pre.length → Own fN 2 bl v acc →
    match nways l x s with
    | some ns => ∃ v' bl', graph_Graph_way_R0 ([(0, .vp (layC l)), (4, .op (.loc 4) 0), (8, v), (13, sl fI t), (14, .int .i64 t.length), (15, .int .i64 pre.length)], ⟨[(4, fE x)], bl⟩) = some (.norm, [(8, v')], ⟨[], bl'⟩) ∧ Own fN 2 bl' v' (acc ++ ns)
    | none => ∃ bx' bl', graph_Graph_way_R0 ([(0, .vp (layC l)), (4, .op (.loc 4) 0), (8, v), (13, sl fI t), (14, .int .i64 t.length), (15, .int .i64 pre.length)], ⟨[(4, fE x)], bl⟩) = some (.ret, [(6, .nils), (7, .bool false)], ⟨bx', bl'⟩)
  | [], pre, x, acc, v, bl, hp, ha, hO => by
    have h1 : ¬ ((pre.length : Int) < t.length) := by rw [← hp]; simp
    refine ⟨v, bl, ?_, by simpa using hO⟩
    rw [graph_Graph_way_R0_eq]
    simp only [graph_Graph_way_B0, graph_Graph_way_K0_norm, graph_Graph_way_K0_ret, graph_Graph_way_K0_exit, h1, hO.chkV, y1, y2, y3, y4, y5, y6, y7, y8, y9, keepE, keepB, chk, CV.locs, CV.locv, CV.refs, CV.ref, pureOp, repC, takeN, resV, enterC, Nat.reduceAdd, Nat.reduceSub, Nat.reduceMul, Nat.reduceLeDiff, Nat.reduceLT, Nat.reduceBEq, Nat.reduceBNe, Nat.reduceEqDiff, ↓reduceIte, Int.reduceAdd, Int.reduceSub, Int.reduceMul, Int.reduceLT, Int.reduceLE, Int.reduceEq, Int.reduceNeg, Int.reduceToNat]
  | n :: s, pre, x, acc, v, bl, hp, ha, hO => by
    have hpl : pre.length + 1 + s.length = t.length := by rw [← hp]; simp; omega
    have h1 : ((pre.length : Int) < t.length) := by omega
    have hw := wrapN (n := pre.length) (by omega)
    have hi : iaddrC 1 (sl fI t) (.int .i64 pre.length) = some (.vp (.int .i64 n :: s.flatMap fI)) := by rw [← hp]; exact iaddr_midI _ pre s n
    have haF := fun H => garound_F l hl x H
    simp only [fE] at haF
    have hg0 : ∀ bx, Heap.get ⟨bx, bl ++ [Blk.cells [.int .i64 0]]⟩ (.blk bl.length) = some [.int .i64 0] := fun bx => get_blk _ _ _ _ (by simp)
    have hg1 : ∀ bx, Heap.get ⟨bx, bl ++ [Blk.cells [.int .i64 n]]⟩ (.blk bl.length) = some [.int .i64 n] := fun bx => get_blk _ _ _ _ (by simp)
    have hst : ∀ bx, stE 1 0 (.int .i64 n) ⟨bx, bl ++ [Blk.cells [.int .i64 0]]⟩ (.blk bl.length) [.int .i64 0] = some ⟨bx, bl ++ [Blk.cells [.int .i64 n]]⟩ := by
      intro bx
      simp [stE, CV.cells, ones, CV.one, CV.locs, CV.locv, Id.loc?, Heap.put, setMany]
    have hc : ∀ (y : Ed) (H' : Heap), call ctx (.fn (.func 109) [] [.vp [.int .i64 n]]) [.agg (fE y)] H' = some (.bool (decide (y.s = n)), H') := by
      intro y H'
      have := gway1_F y n
      simp only [fE] at this
      simp only [graph_Graph_way_1_call, fE, y1, y2, y3, y4, y5, y6, y7, y8, y9, keepE, keepB, chk, CV.locs, CV.locv, CV.refs, CV.ref, pureOp, repC, takeN, resV, enterC, Nat.reduceAdd, Nat.reduceSub, Nat.reduceMul, Nat.reduceLeDiff, Nat.reduceLT, Nat.reduceBEq, Nat.reduceBNe, Nat.reduceEqDiff, ↓reduceIte, Int.reduceAdd, Int.reduceSub, Int.reduceMul, Int.reduceLT, Int.reduceLE, Int.reduceEq, Int.reduceNeg, Int.reduceToNat, this]
    have hix := fun st H => idxE_F (.fn (.func 109) [] [.vp [.int .i64 n]]) rfl (fun y => decide (y.s = n)) hc (around l x) (around_len2 l x) st H
    have hfi := find_idx (fun y : Ed => decide (y.s = n)) (around l x)
    have hO1 : Own fN 2 (bl ++ [Blk.cells [.int .i64 n]]) v acc := hO.keep fun m b hb => by
      rw [List.getElem?_append_left (List.getElem?_eq_some_iff.1 hb).1]; exact hb
    cases hf : (around l x).findIdx? (fun y => decide (y.s = n)) with
    | none =>
      have hfd := hfi.2 hf
      have hid : idxOf (fun y : Ed => decide (y.s = n)) (around l x) = -1 := by simp only [idxOf, hf]
      simp only [nways, hfd]
      rw [graph_Graph_way_R0_eq]
      simp only [graph_Graph_way_B0, graph_Graph_way_K0_norm, graph_Graph_way_K0_ret, graph_Graph_way_K0_exit, fE, h1, hi, hg0, hg1, hst, hO1.chkV, hO.chkV, graph_Graph_Around_call, haF, slices_IndexFunc_End_call, hix, hid, y1, y2, y3, y4, y5, y6, y7, y8, y9, keepE, keepB, chk, CV.locs, CV.locv, CV.refs, CV.ref, pureOp, repC, takeN, resV, enterC, Nat.reduceAdd, Nat.reduceSub, Nat.reduceMul, Nat.reduceLeDiff, Nat.reduceLT, Nat.reduceBEq, Nat.reduceBNe, Nat.reduceEqDiff, ↓reduceIte, Int.reduceAdd, Int.reduceSub, Int.reduceMul, Int.reduceLT, Int.reduceLE, Int.reduceEq, Int.reduceNeg, Int.reduceToNat]
      exact ⟨_, _, rfl⟩
    | some i =>
      obtain ⟨hil, hfd⟩ := hfi.1 i hf
      have hid : idxOf (fun y : Ed => decide (y.s = n)) (around l x) = i := by simp only [idxOf, hf]
      have hi0 : ¬ ((i : Int) < 0) := by omega
      obtain ⟨y, hy⟩ : ∃ y, (around l x)[i] = y := ⟨_, rfl⟩
      have hym : y ∈ around l x := by rw [← hy]; exact List.getElem_mem hil
      have hya := around_in hym
      have hyn : y.s = n := by
        rw [hy] at hfd
        simpa using List.find?_some hfd
      obtain ⟨nd, hnd⟩ := around_node hym
      have hw3 : IntKind.i64.wrap (1 - y.e) = 1 - y.e := wrap64 (by omega) (by omega)
      have hia := iaddr_atE (k := .i64) hil
      rw [hy] at hia hfd
      have hnF := fun H => gneed_F l hl x y nd hnd H
      simp only [fE, hyn] at hnF
      have hnl := needAt_len l nd x.s n
      obtain ⟨v1, bl1, e1, o1, _, f1, _⟩ := hO1.appSl flatN (bytes := 16) (zero := [.int .i64 0, .bool false]) (by decide) rfl rfl (needAt l nd x.s n) (by unfold Zc.small at hm; omega)
      have hg2 : ∀ bx, Heap.get ⟨bx, bl1⟩ (.blk bl.length) = some [.int .i64 n] := fun bx => get_blk _ _ _ _ (f1 bl.length _ (by simp) fun hk => by
        have := hO.lt hk
        omega)
      have hno : needOf l x n = needAt l nd x.s n := by simp [needOf, hnd]
      have ih := gway_loop l hl t hm s (pre ++ [n]) ⟨n, 1 - y.e⟩ (acc ++ needAt l nd x.s n) v1 bl1 (by simpa using hp) (by simp; omega) o1
      rw [show (pre ++ [n]).length = pre.length + 1 by simp] at ih
      simp only [nways, hfd, hno]
      cases hws : nways l ⟨n, 1 - y.e⟩ s with
      | none =>
        simp only [hws, fE] at ih
        obtain ⟨bx', bl', e⟩ := ih
        refine ⟨bx', bl', ?_⟩
        rw [graph_Graph_way_R0_eq]
        simp only [graph_Graph_way_B0, graph_Graph_way_K0_norm, graph_Graph_way_K0_ret, graph_Graph_way_K0_exit, fE, h1, hi, hg0, hg1, hg2, hst, hO1.chkV, o1.chkV, graph_Graph_Around_call, haF, slices_IndexFunc_End_call, hix, hid, hi0, hia, hyn, graph_Graph_need_call, hnF, e1, hw, hw3, e, y1, y2, y3, y4, y5, y6, y7, y8, y9, keepE, keepB, chk, CV.locs, CV.locv, CV.refs, CV.ref, pureOp, repC, takeN, resV, enterC, Nat.reduceAdd, Nat.reduceSub, Nat.reduceMul, Nat.reduceLeDiff, Nat.reduceLT, Nat.reduceBEq, Nat.reduceBNe, Nat.reduceEqDiff, ↓reduceIte, Int.reduceAdd, Int.reduceSub, Int.reduceMul, Int.reduceLT, Int.reduceLE, Int.reduceEq, Int.reduceNeg, Int.reduceToNat]
      | some ns =>
        simp only [hws, fE] at ih
        obtain ⟨v', bl', e, o⟩ := ih
        refine ⟨v', bl', ?_, by simpa using o⟩
        rw [graph_Graph_way_R0_eq]
        simp only [graph_Graph_way_B0, graph_Graph_way_K0_norm, graph_Graph_way_K0_ret, graph_Graph_way_K0_exit, fE, h1, hi, hg0, hg1, hg2, hst, hO1.chkV, o1.chkV, graph_Graph_Around_call, haF, slices_IndexFunc_End_call, hix, hid, hi0, hia, hyn, graph_Graph_need_call, hnF, e1, hw, hw3, e, y1, y2, y3, y4, y5, y6, y7, y8, y9, keepE, keepB, chk, CV.locs, CV.locv, CV.refs, CV.ref, pureOp, repC, takeN, resV, enterC, Nat.reduceAdd, Nat.reduceSub, Nat.reduceMul, Nat.reduceLeDiff, Nat.reduceLT, Nat.reduceBEq, Nat.reduceBNe, Nat.reduceEqDiff, ↓reduceIte, Int.reduceAdd, Int.reduceSub, Int.reduceMul, Int.reduceLT, Int.reduceLE, Int.reduceEq, Int.reduceNeg, Int.reduceToNat]

theorem gway_F (l : Lay) (hl : l.ok) (x : Ed) (s : List Int) (hm : s.length ≤ Zc.small) (H : Heap) : graph_Graph_way_F false H [.vp (layC l), .agg (fE x), sl fI s] = some (.tup [sl fN ((nways l x s).getD []), .bool (nways l x s).isSome], H) := by
  have h := gway_loop l hl s hm s [] x [] .nils [] rfl (by simp) (Own.nil _ _ _)
  rw [graph_Graph_way_F_eq]
  cases hw : nways l x s with
  | none =>
    simp only [hw, List.nil_append, List.length_nil, Int.natCast_zero, fE] at h
    obtain ⟨bx', bl', e⟩ := h
    simp only [graph_Graph_way_C, graph_Graph_way_L0_eq, fE, e, sl_nil fN, Option.getD_none, Option.getD_some, y1, y2, y3, y4, y5, y6, y7, y8, y9, keepE, keepB, chk, CV.locs, CV.locv, CV.refs, CV.ref, pureOp, repC, takeN, resV, enterC, Nat.reduceAdd, Nat.reduceSub, Nat.reduceMul, Nat.reduceLeDiff, Nat.reduceLT, Nat.reduceBEq, Nat.reduceBNe, Nat.reduceEqDiff, ↓reduceIte, Int.reduceAdd, Int.reduceSub, Int.reduceMul, Int.reduceLT, Int.reduceLE, Int.reduceEq, Int.reduceNeg, Int.reduceToNat]
  | some ns =>
    simp only [hw, List.nil_append, List.length_nil, Int.natCast_zero, fE] at h
    obtain ⟨v', bl', e, o⟩ := h
    have hs := fun bx => o.snapV flatN bx false _ (snap_N ⟨bx, bl'⟩ false false 6)
    simp only [graph_Graph_way_C, graph_Graph_way_L0_eq, fE, e, o.one, o.locv, o.cells, hs, Option.getD_some, y1, y2, y3, y4, y5, y6, y7, y8, y9, keepE, keepB, chk, CV.locs, CV.locv, CV.refs, CV.ref, pureOp, repC, takeN, resV, enterC, Nat.reduceAdd, Nat.reduceSub, Nat.reduceMul, Nat.reduceLeDiff, Nat.reduceLT, Nat.reduceBEq, Nat.reduceBNe, Nat.reduceEqDiff, ↓reduceIte, Int.reduceAdd, Int.reduceSub, Int.reduceMul, Int.reduceLT, Int.reduceLE, Int.reduceEq, Int.reduceNeg, Int.reduceToNat]

theorem gpath_loop (g : CV) (hg : g.locv = false) (t : List Int) (hm : t.length ≤ Zc.small) : ∀ (s pre : List Int), pre ++ s = t → pre.Nodup →
    graph_Graph_Path_R0 ([(0, g), (1, sl fI t), (14, sl fI t), (15, .int .i64 t.length), (16, .int .i64 pre.length)], ⟨[], []⟩) =
      if t.Nodup then some (.norm, [(0, g), (1, sl fI t)], ⟨[], []⟩) else some (.ret, [(4, .nils), (5, .bool false)], ⟨[], []⟩)
  | [], pre, hp, hn => by
    have q := chkV_of hg
    rw [List.append_nil] at hp
    subst hp
    rw [graph_Graph_Path_R0_eq, if_pos hn]
    simp only [graph_Graph_Path_B0, graph_Graph_Path_K0_norm, graph_Graph_Path_K0_ret, graph_Graph_Path_K0_exit, q, y1, y2, y3, y4, y5, y6, y7, y8, y9, keepE, keepB, chk, CV.locs, CV.locv, CV.refs, CV.ref, pureOp, repC, takeN, resV, enterC, Nat.reduceAdd, Nat.reduceSub, Nat.reduceMul, Nat.reduceLeDiff, Nat.reduceLT, Nat.reduceBEq, Nat.reduceBNe, Nat.reduceEqDiff, ↓reduceIte, Int.reduceAdd, Int.reduceSub, Int.reduceMul, Int.reduceLT, Int.reduceLE, Int.reduceEq, Int.reduceNeg, Int.reduceToNat]
  | x :: s, pre, hp, hn => by
    have q := chkV_of hg
    have hpl : pre.length + 1 + s.length = t.length := by rw [← hp]; simp; omega
    have h1 : ((pre.length : Int) < t.length) := by omega
    have hw := wrapN (n := pre.length) (by omega)
    have hi : iaddrC 1 (sl fI t) (.int .i64 pre.length) = some (.vp (.int .i64 x :: s.flatMap fI)) := by rw [← hp]; exact iaddr_midI _ pre s x
    have hsl := slc_hi flatI t pre.length (by omega) .i64
    rw [show t.take pre.length = pre by rw [← hp]; simp] at hsl
    have hcF := fun st H => contains_F x pre (by omega) st H
    by_cases hx : x ∈ pre
    · have ht : ¬ t.Nodup := by
        rw [← hp, List.nodup_append]
        exact fun h => h.2.2 x hx x (by simp) rfl
      simp only [eq_true hx] at hcF
      rw [graph_Graph_Path_R0_eq, if_neg ht]
      simp only [graph_Graph_Path_B0, graph_Graph_Path_K0_norm, graph_Graph_Path_K0_ret, graph_Graph_Path_K0_exit, q, h1, hi, hsl, slices_Contains_int_call, hcF, y1, y2, y3, y4, y5, y6, y7, y8, y9, keepE, keepB, chk, CV.locs, CV.locv, CV.refs, CV.ref, pureOp, repC, takeN, resV, enterC, Nat.reduceAdd, Nat.reduceSub, Nat.reduceMul, Nat.reduceLeDiff, Nat.reduceLT, Nat.reduceBEq, Nat.reduceBNe, Nat.reduceEqDiff, ↓reduceIte, Int.reduceAdd, Int.reduceSub, Int.reduceMul, Int.reduceLT, Int.reduceLE, Int.reduceEq, Int.reduceNeg, Int.reduceToNat]
    · have ih := gpath_loop g hg t hm s (pre ++ [x]) (by simpa using hp) (by
        rw [List.nodup_append]
        exact ⟨hn, by simp, fun a ha b hb => by simp only [List.mem_singleton] at hb; subst hb; exact fun e => hx (e ▸ ha)⟩)
      rw [show (pre ++ [x]).length = pre.length + 1 by simp] at ih
      simp only [eq_false hx] at hcF
      rw [graph_Graph_Path_R0_eq, ← ih]
      simp only [graph_Graph_Path_B0, graph_Graph_Path_K0_norm, graph_Graph_Path_K0_ret, graph_Graph_Path_K0_exit, q, h1, hi, hsl, slices_Contains_int_call, hcF, hw, y1, y2, y3, y4, y5, y6, y7, y8, y9, keepE, keepB, chk, CV.locs, CV.locv, CV.refs, CV.ref, pureOp, repC, takeN, resV, enterC, Nat.reduceAdd, Nat.reduceSub, Nat.reduceMul, Nat.reduceLeDiff, Nat.reduceLT, Nat.reduceBEq, Nat.reduceBNe, Nat.reduceEqDiff, ↓reduceIte, Int.reduceAdd, Int.reduceSub, Int.reduceMul, Int.reduceLT, Int.reduceLE, Int.reduceEq, Int.reduceNeg, Int.reduceToNat]

theorem gpath_F (l : Lay) (hl : l.ok) (t : List Int) (hm : t.length ≤ Zc.small) (H : Heap) : graph_Graph_Path_F false H [.vp (layC l), sl fI t] = some (.tup [sl fN ((npath l t).getD []), .bool (npath l t).isSome], H) := by
  rw [graph_Graph_Path_F_eq]
  by_cases h2 : t.length < 2
  · have h2' : ((t.length : Int) < 2) := by omega
    have hp : npath l t = none := by simp [npath, h2]
    simp only [graph_Graph_Path_C, h2', hp, sl_nil fN, Option.getD_none, Option.getD_some, y1, y2, y3, y4, y5, y6, y7, y8, y9, keepE, keepB, chk, CV.locs, CV.locv, CV.refs, CV.ref, pureOp, repC, takeN, resV, enterC, Nat.reduceAdd, Nat.reduceSub, Nat.reduceMul, Nat.reduceLeDiff, Nat.reduceLT, Nat.reduceBEq, Nat.reduceBNe, Nat.reduceEqDiff, ↓reduceIte, Int.reduceAdd, Int.reduceSub, Int.reduceMul, Int.reduceLT, Int.reduceLE, Int.reduceEq, Int.reduceNeg, Int.reduceToNat]
  · have h2' : ¬ ((t.length : Int) < 2) := by omega
    have hL := gpath_loop (.vp (layC l)) rfl t hm t [] rfl (by simp)
    simp only [List.nil_append, List.length_nil, Int.natCast_zero] at hL
    by_cases hn : t.Nodup
    · rw [if_pos hn] at hL
      cases t with
      | nil => simp at h2
      | cons a r =>
        have hr : r.length ≤ Zc.small := by simp at hm; omega
        have g0 := fun H => gway_F l hl ⟨a, 0⟩ r hr H
        have g1 := fun H => gway_F l hl ⟨a, 1⟩ r hr H
        have i0 := iaddr_0I .i64 a r
        have s1 := slc_1I .i64 a r
        simp only [fE] at g0 g1
        cases hw0 : nways l ⟨a, 0⟩ r with
        | some ns =>
          have hp : npath l (a :: r) = some ns := by simp only [npath, hw0, h2, hn, not_true_eq_false, or_self, if_false]
          simp only [hw0, Option.getD_none, Option.getD_some] at g0
          have hL2 : graph_Graph_Path_R2 ([(0, .vp (layC l)), (1, sl fI (a :: r)), (27, .int .i64 0)], ⟨[], []⟩) = some (.ret, [(4, sl fN ns), (5, .bool true)], ⟨[], []⟩) := by
            rw [graph_Graph_Path_R2_eq]
            simp only [graph_Graph_Path_B2, graph_Graph_Path_K2_norm, graph_Graph_Path_K2_ret, graph_Graph_Path_K2_exit, i0, s1, graph_Graph_way_call, g0, y1, y2, y3, y4, y5, y6, y7, y8, y9, keepE, keepB, chk, CV.locs, CV.locv, CV.refs, CV.ref, pureOp, repC, takeN, resV, enterC, Nat.reduceAdd, Nat.reduceSub, Nat.reduceMul, Nat.reduceLeDiff, Nat.reduceLT, Nat.reduceBEq, Nat.reduceBNe, Nat.reduceEqDiff, ↓reduceIte, Int.reduceAdd, Int.reduceSub, Int.reduceMul, Int.reduceLT, Int.reduceLE, Int.reduceEq, Int.reduceNeg, Int.reduceToNat]
          simp only [List.length_cons] at hL h2'
          simp only [graph_Graph_Path_C, graph_Graph_Path_L0_eq, graph_Graph_Path_L2_eq, h2', hL, hL2, hp, Option.getD_none, Option.getD_some, y1, y2, y3, y4, y5, y6, y7, y8, y9, keepE, keepB, chk, CV.locs, CV.locv, CV.refs, CV.ref, pureOp, repC, takeN, resV, enterC, Nat.reduceAdd, Nat.reduceSub, Nat.reduceMul, Nat.reduceLeDiff, Nat.reduceLT, Nat.reduceBEq, Nat.reduceBNe, Nat.reduceEqDiff, ↓reduceIte, Int.reduceAdd, Int.reduceSub, Int.reduceMul, Int.reduceLT, Int.reduceLE, Int.reduceEq, Int.reduceNeg, Int.reduceToNat]
        | none =>
          simp only [hw0, Option.getD_none, Option.getD_some] at g0
          cases hw1 : nways l ⟨a, 1⟩ r with
          | some ns =>
            have hp : npath l (a :: r) = some ns := by simp only [npath, hw0, hw1, h2, hn, not_true_eq_false, or_self, if_false]
            simp only [hw1, Option.getD_none, Option.getD_some] at g1
            have hL2 : graph_Graph_Path_R2 ([(0, .vp (layC l)), (1, sl fI (a :: r)), (27, .int .i64 0)], ⟨[], []⟩) = some (.ret, [(4, sl fN ns), (5, .bool true)], ⟨[], []⟩) := by
              rw [graph_Graph_Path_R2_eq]
              simp only [graph_Graph_Path_B2, graph_Graph_Path_K2_norm, graph_Graph_Path_K2_ret, graph_Graph_Path_K2_exit, i0, s1, graph_Graph_way_call, g0, y1, y2, y3, y4, y5, y6, y7, y8, y9, keepE, keepB, chk, CV.locs, CV.locv, CV.refs, CV.ref, pureOp, repC, takeN, resV, enterC, Nat.reduceAdd, Nat.reduceSub, Nat.reduceMul, Nat.reduceLeDiff, Nat.reduceLT, Nat.reduceBEq, Nat.reduceBNe, Nat.reduceEqDiff, ↓reduceIte, Int.reduceAdd, Int.reduceSub, Int.reduceMul, Int.reduceLT, Int.reduceLE, Int.reduceEq, Int.reduceNeg, Int.reduceToNat]
              rw [graph_Graph_Path_R2_eq]
              simp only [graph_Graph_Path_B2, graph_Graph_Path_K2_norm, graph_Graph_Path_K2_ret, graph_Graph_Path_K2_exit, i0, s1, graph_Graph_way_call, g1, y1, y2, y3, y4, y5, y6, y7, y8, y9, keepE, keepB, chk, CV.locs, CV.locv, CV.refs, CV.ref, pureOp, repC, takeN, resV, enterC, Nat.reduceAdd, Nat.reduceSub, Nat.reduceMul, Nat.reduceLeDiff, Nat.reduceLT, Nat.reduceBEq, Nat.reduceBNe, Nat.reduceEqDiff, ↓reduceIte, Int.reduceAdd, Int.reduceSub, Int.reduceMul, Int.reduceLT, Int.reduceLE, Int.reduceEq, Int.reduceNeg, Int.reduceToNat]
            simp only [List.length_cons] at hL h2'
            simp only [graph_Graph_Path_C, graph_Graph_Path_L0_eq, graph_Graph_Path_L2_eq, h2', hL, hL2, hp, Option.getD_none, Option.getD_some, y1, y2, y3, y4, y5, y6, y7, y8, y9, keepE, keepB, chk, CV.locs, CV.locv, CV.refs, CV.ref, pureOp, repC, takeN, resV, enterC, Nat.reduceAdd, Nat.reduceSub, Nat.reduceMul, Nat.reduceLeDiff, Nat.reduceLT, Nat.reduceBEq, Nat.reduceBNe, Nat.reduceEqDiff, ↓reduceIte, Int.reduceAdd, Int.reduceSub, Int.reduceMul, Int.reduceLT, Int.reduceLE, Int.reduceEq, Int.reduceNeg, Int.reduceToNat]
          | none =>
            have hp : npath l (a :: r) = none := by simp only [npath, hw0, hw1, h2, hn, not_true_eq_false, or_self, if_false]
            simp only [hw1, Option.getD_none, Option.getD_some] at g1
            have hL2 : graph_Graph_Path_R2 ([(0, .vp (layC l)), (1, sl fI (a :: r)), (27, .int .i64 0)], ⟨[], []⟩) = some (.norm, [], ⟨[], []⟩) := by
              rw [graph_Graph_Path_R2_eq]
              simp only [graph_Graph_Path_B2, graph_Graph_Path_K2_norm, graph_Graph_Path_K2_ret, graph_Graph_Path_K2_exit, i0, s1, graph_Graph_way_call, g0, y1, y2, y3, y4, y5, y6, y7, y8, y9, keepE, keepB, chk, CV.locs, CV.locv, CV.refs, CV.ref, pureOp, repC, takeN, resV, enterC, Nat.reduceAdd, Nat.reduceSub, Nat.reduceMul, Nat.reduceLeDiff, Nat.reduceLT, Nat.reduceBEq, Nat.reduceBNe, Nat.reduceEqDiff, ↓reduceIte, Int.reduceAdd, Int.reduceSub, Int.reduceMul, Int.reduceLT, Int.reduceLE, Int.reduceEq, Int.reduceNeg, Int.reduceToNat]
              rw [graph_Graph_Path_R2_eq]
              simp only [graph_Graph_Path_B2, graph_Graph_Path_K2_norm, graph_Graph_Path_K2_ret, graph_Graph_Path_K2_exit, i0, s1, graph_Graph_way_call, g1, y1, y2, y3, y4, y5, y6, y7, y8, y9, keepE, keepB, chk, CV.locs, CV.locv, CV.refs, CV.ref, pureOp, repC, takeN, resV, enterC, Nat.reduceAdd, Nat.reduceSub, Nat.reduceMul, Nat.reduceLeDiff, Nat.reduceLT, Nat.reduceBEq, Nat.reduceBNe, Nat.reduceEqDiff, ↓reduceIte, Int.reduceAdd, Int.reduceSub, Int.reduceMul, Int.reduceLT, Int.reduceLE, Int.reduceEq, Int.reduceNeg, Int.reduceToNat]
              rw [graph_Graph_Path_R2_eq]
              simp only [graph_Graph_Path_B2, graph_Graph_Path_K2_norm, graph_Graph_Path_K2_ret, graph_Graph_Path_K2_exit, y1, y2, y3, y4, y5, y6, y7, y8, y9, keepE, keepB, chk, CV.locs, CV.locv, CV.refs, CV.ref, pureOp, repC, takeN, resV, enterC, Nat.reduceAdd, Nat.reduceSub, Nat.reduceMul, Nat.reduceLeDiff, Nat.reduceLT, Nat.reduceBEq, Nat.reduceBNe, Nat.reduceEqDiff, ↓reduceIte, Int.reduceAdd, Int.reduceSub, Int.reduceMul, Int.reduceLT, Int.reduceLE, Int.reduceEq, Int.reduceNeg, Int.reduceToNat]
            simp only [List.length_cons] at hL h2'
            simp only [graph_Graph_Path_C, graph_Graph_Path_L0_eq, graph_Graph_Path_L2_eq, h2', hL, hL2, hp, sl_nil fN, Option.getD_none, Option.getD_some, y1, y2, y3, y4, y5, y6, y7, y8, y9, keepE, keepB, chk, CV.locs, CV.locv, CV.refs, CV.ref, pureOp, repC, takeN, resV, enterC, Nat.reduceAdd, Nat.reduceSub, Nat.reduceMul, Nat.reduceLeDiff, Nat.reduceLT, Nat.reduceBEq, Nat.reduceBNe, Nat.reduceEqDiff, ↓reduceIte, Int.reduceAdd, Int.reduceSub, Int.reduceMul, Int.reduceLT, Int.reduceLE, Int.reduceEq, Int.reduceNeg, Int.reduceToNat]
    · rw [if_neg hn] at hL
      have hp : npath l t = none := by simp [npath, hn]
      simp only [graph_Graph_Path_C, graph_Graph_Path_L0_eq, h2', hL, hp, sl_nil fN, Option.getD_none, Option.getD_some, y1, y2, y3, y4, y5, y6, y7, y8, y9, keepE, keepB, chk, CV.locs, CV.locv, CV.refs, CV.ref, pureOp, repC, takeN, resV, enterC, Nat.reduceAdd, Nat.reduceSub, Nat.reduceMul, Nat.reduceLeDiff, Nat.reduceLT, Nat.reduceBEq, Nat.reduceBNe, Nat.reduceEqDiff, ↓reduceIte, Int.reduceAdd, Int.reduceSub, Int.reduceMul, Int.reduceLT, Int.reduceLE, Int.reduceEq, Int.reduceNeg, Int.reduceToNat]

theorem nways_len (l : Lay) : ∀ (s : List Int) (x : Ed) (ns : List Nd), nways l x s = some ns → ns.length ≤ s.length
  | [], x, ns, h => by simp only [nways, Option.some.injEq] at h; subst h; simp
  | a :: s, x, ns, h => by
    simp only [nways] at h
    cases hf : (around l x).find? (fun y => decide (y.s = a)) with
    | none => rw [hf] at h; cases h
    | some y =>
      rw [hf] at h
      simp only [Option.map_eq_some_iff] at h
      obtain ⟨r, hr, rfl⟩ := h
      have := nways_len l s _ r hr
      have h1 : (needOf l x a).length ≤ 1 := by
        unfold needOf
        cases nodeOf l x with
        | none => simp
        | some n => exact needAt_len l n x.s a
      simp only [List.length_append, List.length_cons]
      omega
theorem npath_len (l : Lay) (t : List Int) : ((npath l t).getD []).length ≤ t.length := by
  cases h : npath l t with
  | none => simp
  | some ns =>
    simp only [Option.getD_some]
    unfold npath at h
    split at h
    · cases h
    · cases t with
      | nil => cases h
      | cons a r =>
        simp only at h
        cases h0 : nways l ⟨a, 0⟩ r with
        | some x =>
          rw [h0] at h
          cases h
          have := nways_len l r _ _ h0
          simp only [List.length_cons]; omega
        | none =>
          rw [h0] at h
          have := nways_len l r _ _ h
          simp only [List.length_cons]; omega
end Go.Proofs.Ytmkdhpjidhbijaa.Zt
