/- Walks: what a path needs, as the reference tells. -/
import Derived.Test.YtmkdhpjidhbijaaZcPa
set_option linter.all false
namespace Go.Proofs.Ytmkdhpjidhbijaa.Zt
open Go Go.Zc
set_option maxRecDepth 10000

/-- The first one among some that is of a section; else how many there are. -/
def ixOf (n : Int) : List Ed → Nat
  | [] => 0
  | y :: r => if y.s = n then 0 else ixOf n r + 1
theorem ixOf_le (n : Int) : ∀ l : List Ed, ixOf n l ≤ l.length
  | [] => Nat.le_refl _
  | y :: r => by
    have := ixOf_le n r
    simp only [ixOf, List.length_cons]
    split <;> omega
theorem ixOf_find (n : Int) : ∀ l : List Ed, (l.find? (fun y => decide (y.s = n)) = none ∧ ixOf n l = l.length) ∨ ∃ y, ∃ h : ixOf n l < l.length, l.find? (fun y => decide (y.s = n)) = some y ∧ l[ixOf n l] = y ∧ y.s = n
  | [] => .inl ⟨rfl, rfl⟩
  | y :: r => by
    by_cases h : y.s = n
    · refine .inr ⟨y, by simp [ixOf, h], by simp [h], by simp [ixOf, h], h⟩
    · have e : ixOf n (y :: r) = ixOf n r + 1 := by simp [ixOf, h]
      rcases ixOf_find n r with ⟨a, b⟩ | ⟨z, hz, a, b, c⟩
      · exact .inl ⟨by simp [h, a], by simp [e, b]⟩
      · refine .inr ⟨z, by simp [e]; exact hz, by simp [h, a], ?_, c⟩
        simp only [e, List.getElem_cons_succ]
        exact b

theorem way_in (c8 : CV) (b3 b4 : List CV) (h3 : CV.locs b3 = false) (h4' : CV.locs b4 = false) (h8 : c8.locv = false) (bl : List Blk) (t : List Int) (i : Nat) (n : Int) (hi : iaddrC 1 (sl fI t) (.int .i64 i) = some (.vp (.int .i64 n :: (t.drop (i + 1)).flatMap fI))) : ∀ (s p : List Ed), (p ++ s).length ≤ 2 * Zc.small →
    r05_way_R2 ([(2, sl fI t), (3, .op (.loc 3) 0), (4, .op (.loc 4) 0), (8, c8), (9, .int .i64 i), (10, sl fE (p ++ s)), (11, .int .i64 p.length)], ⟨[(3, b3), (4, b4)], bl⟩) =
      some (.norm, [(2, sl fI t), (3, .op (.loc 3) 0), (4, .op (.loc 4) 0), (8, c8), (9, .int .i64 i), (10, sl fE (p ++ s)), (11, .int .i64 (p.length + ixOf n s : Nat))], ⟨[(3, b3), (4, b4)], bl⟩)
  | [], p, hm => by
    have q := chkV_of h8
    rw [r05_way_R2_eq]
    simp only [r05_way_B2, r05_way_K2_norm, r05_way_K2_ret, r05_way_K2_exit, q, h3, h4', ixOf, y1, y2, y3, y4, y5, y6, y7, y8, y9, keepE, keepB, chk, CV.locs, CV.locv, CV.refs, CV.ref, pureOp, repC, takeN, resV, enterC, Nat.reduceAdd, Nat.reduceSub, Nat.reduceMul, Nat.reduceLeDiff, Nat.reduceLT, Nat.reduceBEq, Nat.reduceBNe, Nat.reduceEqDiff, ↓reduceIte, Int.reduceAdd, Int.reduceSub, Int.reduceMul, Int.reduceLT, Int.reduceLE, Int.reduceEq, Int.reduceNeg, Int.reduceToNat]
  | y :: s, p, hm => by
    have q := chkV_of h8
    have h4 : ((p.length : Int) < (p ++ y :: s).length) := by simp; omega
    have hw := wrapN (n := p.length) (by simp at hm; omega)
    rw [r05_way_R2_eq]
    by_cases h : y.s = n
    · simp only [List.append_assoc, List.cons_append, List.nil_append, List.length_append, List.length_cons, List.length_nil] at h4
      simp only [r05_way_B2, r05_way_K2_norm, r05_way_K2_ret, r05_way_K2_exit, List.append_assoc, List.cons_append, List.nil_append, List.length_append, List.length_cons, List.length_nil, q, h4, iaddr_midE, hi, h3, h4', eq_true h, ixOf, y1, y2, y3, y4, y5, y6, y7, y8, y9, keepE, keepB, chk, CV.locs, CV.locv, CV.refs, CV.ref, pureOp, repC, takeN, resV, enterC, Nat.reduceAdd, Nat.reduceSub, Nat.reduceMul, Nat.reduceLeDiff, Nat.reduceLT, Nat.reduceBEq, Nat.reduceBNe, Nat.reduceEqDiff, ↓reduceIte, Int.reduceAdd, Int.reduceSub, Int.reduceMul, Int.reduceLT, Int.reduceLE, Int.reduceEq, Int.reduceNeg, Int.reduceToNat]
    · have ih := way_in c8 b3 b4 h3 h4' h8 bl t i n hi s (p ++ [y]) (by simpa using hm)
      have he : (p ++ [y]).length + ixOf n s = p.length + (ixOf n s + 1) := by simp; omega
      rw [he] at ih
      simp only [List.append_assoc, List.cons_append, List.nil_append, List.length_append, List.length_cons, List.length_nil] at ih h4
      simp only [r05_way_B2, r05_way_K2_norm, r05_way_K2_ret, r05_way_K2_exit, List.append_assoc, List.cons_append, List.nil_append, List.length_append, List.length_cons, List.length_nil, q, h4, iaddr_midE, hi, eq_false h, h3, h4', hw, ixOf, ih, y1, y2, y3, y4, y5, y6, y7, y8, y9, keepE, keepB, chk, CV.locs, CV.locv, CV.refs, CV.ref, pureOp, repC, takeN, resV, enterC, Nat.reduceAdd, Nat.reduceSub, Nat.reduceMul, Nat.reduceLeDiff, Nat.reduceLT, Nat.reduceBEq, Nat.reduceBNe, Nat.reduceEqDiff, ↓reduceIte, Int.reduceAdd, Int.reduceSub, Int.reduceMul, Int.reduceLT, Int.reduceLE, Int.reduceEq, Int.reduceNeg, Int.reduceToNat]

set_option maxHeartbeats 1000000 in
theorem way_loop (l : Lay) (hl : l.ok) (t : List Int) (hm : t.length ≤ Zc.small) : ∀ (s pre : List Int) (x : Ed) (acc : List Nd) (v : CV) (bl : List Blk), pre ++ s = t → acc.length ≤ pre.length → Own fN 2 bl v acc →
    match nways l x s with
    | some ns => ∃ v' bl', r05_way_R0 ([(2, sl fI t), (3, .op (.loc 3) 0), (4, .op (.loc 4) 0), (8, v), (9, .int .i64 pre.length)], ⟨[(3, layC l), (4, fE x)], bl⟩) = some (.norm, [(8, v')], ⟨[], bl'⟩) ∧ Own fN 2 bl' v' (acc ++ ns)
    | none => ∃ bx' bl', r05_way_R0 ([(2, sl fI t), (3, .op (.loc 3) 0), (4, .op (.loc 4) 0), (8, v), (9, .int .i64 pre.length)], ⟨[(3, layC l), (4, fE x)], bl⟩) = some (.ret, [(6, .nils), (7, .bool false)], ⟨bx', bl'⟩)
  | [], pre, x, acc, v, bl, hp, ha, hO => by
    have h1 : ¬ ((pre.length : Int) < t.length) := by rw [← hp]; simp
    refine ⟨v, bl, ?_, by simpa using hO⟩
    rw [r05_way_R0_eq]
    simp only [r05_way_B0, r05_way_K0_norm, r05_way_K0_ret, r05_way_K0_exit, h1, hO.chkV, y1, y2, y3, y4, y5, y6, y7, y8, y9, keepE, keepB, chk, CV.locs, CV.locv, CV.refs, CV.ref, pureOp, repC, takeN, resV, enterC, Nat.reduceAdd, Nat.reduceSub, Nat.reduceMul, Nat.reduceLeDiff, Nat.reduceLT, Nat.reduceBEq, Nat.reduceBNe, Nat.reduceEqDiff, ↓reduceIte, Int.reduceAdd, Int.reduceSub, Int.reduceMul, Int.reduceLT, Int.reduceLE, Int.reduceEq, Int.reduceNeg, Int.reduceToNat]
  | n :: s, pre, x, acc, v, bl, hp, ha, hO => by
    have hpl : pre.length + 1 + s.length = t.length := by rw [← hp]; simp; omega
    have h1 : ((pre.length : Int) < t.length) := by omega
    have hw := wrapN (n := pre.length) (by omega)
    have hi : iaddrC 1 (sl fI t) (.int .i64 pre.length) = some (.vp (.int .i64 n :: s.flatMap fI)) := by rw [← hp]; exact iaddr_midI _ pre s n
    have hid : t.drop (pre.length + 1) = s := by rw [← hp, List.append_cons]; simp
    have haF := fun H => around_F l hl x H
    simp only [fE] at haF
    have hin := fun bl => way_in v (layC l) (fE x) rfl rfl hO.locv bl t pre.length n (by rw [hid]; exact hi) (around l x) [] (around_len2 l x)
    simp only [List.nil_append, List.length_nil, Int.natCast_zero, Nat.zero_add, fE] at hin
    rcases ixOf_find n (around l x) with ⟨hfd, hix⟩ | ⟨y, hil, hfd, hy, hyn⟩
    · simp only [nways, hfd]
      simp only [hix] at hin
      rw [r05_way_R0_eq]
      simp only [r05_way_B0, r05_way_K0_norm, r05_way_K0_ret, r05_way_K0_exit, r05_way_L2_eq, fE, h1, hO.chkV, r05_Around_call, haF, hin, y1, y2, y3, y4, y5, y6, y7, y8, y9, keepE, keepB, chk, CV.locs, CV.locv, CV.refs, CV.ref, pureOp, repC, takeN, resV, enterC, Nat.reduceAdd, Nat.reduceSub, Nat.reduceMul, Nat.reduceLeDiff, Nat.reduceLT, Nat.reduceBEq, Nat.reduceBNe, Nat.reduceEqDiff, ↓reduceIte, Int.reduceAdd, Int.reduceSub, Int.reduceMul, Int.reduceLT, Int.reduceLE, Int.reduceEq, Int.reduceNeg, Int.reduceToNat]
      exact ⟨_, _, rfl⟩
    · have hym : y ∈ around l x := by rw [← hy]; exact List.getElem_mem hil
      have hya := around_in hym
      obtain ⟨nd, hnd⟩ := around_node hym
      have hw3 : IntKind.i64.wrap (1 - y.e) = 1 - y.e := wrap64 (by omega) (by omega)
      have hia := iaddr_atE (k := .i64) hil
      rw [hy] at hia
      have hne : ¬ ((ixOf n (around l x) : Int) = (around l x).length) := by omega
      have hnF := fun st H => node_F l x st H
      have hpF := fun st H => point_F l hl nd st H
      simp only [hnd, Option.getD_some, fE] at hnF
      have hno : needOf l x n = needAt l nd x.s n := by simp [needOf, hnd]
      cases hpt : ptOf l nd with
      | none =>
        have hna : needAt l nd x.s n = [] := by simp [needAt, hpt]
        simp only [hpt] at hpF
        have ih := way_loop l hl t hm s (pre ++ [n]) ⟨n, 1 - y.e⟩ acc v bl (by simpa using hp) (by simp; omega) hO
        rw [show (pre ++ [n]).length = pre.length + 1 by simp] at ih
        simp only [nways, hfd, hno, hna]
        cases hws : nways l ⟨n, 1 - y.e⟩ s with
        | none =>
          simp only [hws, fE] at ih
          obtain ⟨bx', bl', e⟩ := ih
          refine ⟨bx', bl', ?_⟩
          rw [r05_way_R0_eq]
          simp only [r05_way_B0, r05_way_K0_norm, r05_way_K0_ret, r05_way_K0_exit, r05_way_L2_eq, fE, h1, hi, hO.chkV, r05_Around_call, haF, hin, hne, r05_node_call, hnF, r05_Point_call, hpF, hia, hw, hw3, e, y1, y2, y3, y4, y5, y6, y7, y8, y9, keepE, keepB, chk, CV.locs, CV.locv, CV.refs, CV.ref, pureOp, repC, takeN, resV, enterC, Nat.reduceAdd, Nat.reduceSub, Nat.reduceMul, Nat.reduceLeDiff, Nat.reduceLT, Nat.reduceBEq, Nat.reduceBNe, Nat.reduceEqDiff, ↓reduceIte, Int.reduceAdd, Int.reduceSub, Int.reduceMul, Int.reduceLT, Int.reduceLE, Int.reduceEq, Int.reduceNeg, Int.reduceToNat]
        | some ns =>
          simp only [hws, fE] at ih
          obtain ⟨v', bl', e, o⟩ := ih
          refine ⟨v', bl', ?_, by simpa using o⟩
          rw [r05_way_R0_eq]
          simp only [r05_way_B0, r05_way_K0_norm, r05_way_K0_ret, r05_way_K0_exit, r05_way_L2_eq, fE, h1, hi, hO.chkV, r05_Around_call, haF, hin, hne, r05_node_call, hnF, r05_Point_call, hpF, hia, hw, hw3, e, y1, y2, y3, y4, y5, y6, y7, y8, y9, keepE, keepB, chk, CV.locs, CV.locv, CV.refs, CV.ref, pureOp, repC, takeN, resV, enterC, Nat.reduceAdd, Nat.reduceSub, Nat.reduceMul, Nat.reduceLeDiff, Nat.reduceLT, Nat.reduceBEq, Nat.reduceBNe, Nat.reduceEqDiff, ↓reduceIte, Int.reduceAdd, Int.reduceSub, Int.reduceMul, Int.reduceLT, Int.reduceLE, Int.reduceEq, Int.reduceNeg, Int.reduceToNat]
      | some i =>
        obtain ⟨hpi, hpg⟩ := ptOf_pt hpt
        have hi0 : (0 : Int) ≤ i := by omega
        simp only [hpt] at hpF
        by_cases hs : l.pts[i].stem = n
        · have hna : needAt l nd x.s n = [⟨i, decide (l.pts[i].right = x.s)⟩] := by simp [needAt, hpt, hpg, hs]
          obtain ⟨v1, bl1, e1, o1, _⟩ := hO.app1 flatN (bytes := 16) (zero := [.int .i64 0, .bool false]) (by decide) rfl rfl (⟨i, decide (l.pts[i].right = x.s)⟩ : Nd) (by unfold Zc.small at hm; omega)
          simp only [fN] at e1
          have ih := way_loop l hl t hm s (pre ++ [n]) ⟨n, 1 - y.e⟩ _ v1 bl1 (by simpa using hp) (by simp; omega) o1
          rw [show (pre ++ [n]).length = pre.length + 1 by simp] at ih
          have hs' := eq_true hs.symm
          simp only [nways, hfd, hno, hna]
          cases hws : nways l ⟨n, 1 - y.e⟩ s with
          | none =>
            simp only [hws, fE] at ih
            obtain ⟨bx', bl', e⟩ := ih
            refine ⟨bx', bl', ?_⟩
            rw [r05_way_R0_eq]
            simp only [r05_way_B0, r05_way_K0_norm, r05_way_K0_ret, r05_way_K0_exit, r05_way_L2_eq, fE, h1, hi, hO.chkV, o1.chkV, r05_Around_call, haF, hin, hne, r05_node_call, hnF, r05_Point_call, hpF, hi0, iaddr_atP hpi, hs', e1, hia, hw, hw3, e, y1, y2, y3, y4, y5, y6, y7, y8, y9, keepE, keepB, chk, CV.locs, CV.locv, CV.refs, CV.ref, pureOp, repC, takeN, resV, enterC, Nat.reduceAdd, Nat.reduceSub, Nat.reduceMul, Nat.reduceLeDiff, Nat.reduceLT, Nat.reduceBEq, Nat.reduceBNe, Nat.reduceEqDiff, ↓reduceIte, Int.reduceAdd, Int.reduceSub, Int.reduceMul, Int.reduceLT, Int.reduceLE, Int.reduceEq, Int.reduceNeg, Int.reduceToNat]
          | some ns =>
            simp only [hws, fE] at ih
            obtain ⟨v', bl', e, o⟩ := ih
            refine ⟨v', bl', ?_, by simpa using o⟩
            rw [r05_way_R0_eq]
            simp only [r05_way_B0, r05_way_K0_norm, r05_way_K0_ret, r05_way_K0_exit, r05_way_L2_eq, fE, h1, hi, hO.chkV, o1.chkV, r05_Around_call, haF, hin, hne, r05_node_call, hnF, r05_Point_call, hpF, hi0, iaddr_atP hpi, hs', e1, hia, hw, hw3, e, y1, y2, y3, y4, y5, y6, y7, y8, y9, keepE, keepB, chk, CV.locs, CV.locv, CV.refs, CV.ref, pureOp, repC, takeN, resV, enterC, Nat.reduceAdd, Nat.reduceSub, Nat.reduceMul, Nat.reduceLeDiff, Nat.reduceLT, Nat.reduceBEq, Nat.reduceBNe, Nat.reduceEqDiff, ↓reduceIte, Int.reduceAdd, Int.reduceSub, Int.reduceMul, Int.reduceLT, Int.reduceLE, Int.reduceEq, Int.reduceNeg, Int.reduceToNat]
        · have hna : needAt l nd x.s n = [⟨i, decide (l.pts[i].right = n)⟩] := by simp [needAt, hpt, hpg, hs]
          obtain ⟨v1, bl1, e1, o1, _⟩ := hO.app1 flatN (bytes := 16) (zero := [.int .i64 0, .bool false]) (by decide) rfl rfl (⟨i, decide (l.pts[i].right = n)⟩ : Nd) (by unfold Zc.small at hm; omega)
          simp only [fN] at e1
          have ih := way_loop l hl t hm s (pre ++ [n]) ⟨n, 1 - y.e⟩ _ v1 bl1 (by simpa using hp) (by simp; omega) o1
          rw [show (pre ++ [n]).length = pre.length + 1 by simp] at ih
          have hs' := eq_false (fun e : n = l.pts[i].stem => hs e.symm)
          simp only [nways, hfd, hno, hna]
          cases hws : nways l ⟨n, 1 - y.e⟩ s with
          | none =>
            simp only [hws, fE] at ih
            obtain ⟨bx', bl', e⟩ := ih
            refine ⟨bx', bl', ?_⟩
            rw [r05_way_R0_eq]
            simp only [r05_way_B0, r05_way_K0_norm, r05_way_K0_ret, r05_way_K0_exit, r05_way_L2_eq, fE, h1, hi, hO.chkV, o1.chkV, r05_Around_call, haF, hin, hne, r05_node_call, hnF, r05_Point_call, hpF, hi0, iaddr_atP hpi, hs', e1, hia, hw, hw3, e, y1, y2, y3, y4, y5, y6, y7, y8, y9, keepE, keepB, chk, CV.locs, CV.locv, CV.refs, CV.ref, pureOp, repC, takeN, resV, enterC, Nat.reduceAdd, Nat.reduceSub, Nat.reduceMul, Nat.reduceLeDiff, Nat.reduceLT, Nat.reduceBEq, Nat.reduceBNe, Nat.reduceEqDiff, ↓reduceIte, Int.reduceAdd, Int.reduceSub, Int.reduceMul, Int.reduceLT, Int.reduceLE, Int.reduceEq, Int.reduceNeg, Int.reduceToNat]
          | some ns =>
            simp only [hws, fE] at ih
            obtain ⟨v', bl', e, o⟩ := ih
            refine ⟨v', bl', ?_, by simpa using o⟩
            rw [r05_way_R0_eq]
            simp only [r05_way_B0, r05_way_K0_norm, r05_way_K0_ret, r05_way_K0_exit, r05_way_L2_eq, fE, h1, hi, hO.chkV, o1.chkV, r05_Around_call, haF, hin, hne, r05_node_call, hnF, r05_Point_call, hpF, hi0, iaddr_atP hpi, hs', e1, hia, hw, hw3, e, y1, y2, y3, y4, y5, y6, y7, y8, y9, keepE, keepB, chk, CV.locs, CV.locv, CV.refs, CV.ref, pureOp, repC, takeN, resV, enterC, Nat.reduceAdd, Nat.reduceSub, Nat.reduceMul, Nat.reduceLeDiff, Nat.reduceLT, Nat.reduceBEq, Nat.reduceBNe, Nat.reduceEqDiff, ↓reduceIte, Int.reduceAdd, Int.reduceSub, Int.reduceMul, Int.reduceLT, Int.reduceLE, Int.reduceEq, Int.reduceNeg, Int.reduceToNat]

theorem way_F (l : Lay) (hl : l.ok) (x : Ed) (s : List Int) (hm : s.length ≤ Zc.small) (H : Heap) : r05_way_F false H [.agg (layC l), .agg (fE x), sl fI s] = some (.tup [sl fN ((nways l x s).getD []), .bool (nways l x s).isSome], H) := by
  have h := way_loop l hl s hm s [] x [] .nils [] rfl (by simp) (Own.nil _ _ _)
  rw [r05_way_F_eq]
  cases hw : nways l x s with
  | none =>
    simp only [hw, List.nil_append, List.length_nil, Int.natCast_zero, fE] at h
    obtain ⟨bx', bl', e⟩ := h
    simp only [r05_way_C, r05_way_L0_eq, fE, e, sl_nil fN, Option.getD_none, y1, y2, y3, y4, y5, y6, y7, y8, y9, keepE, keepB, chk, CV.locs, CV.locv, CV.refs, CV.ref, pureOp, repC, takeN, resV, enterC, Nat.reduceAdd, Nat.reduceSub, Nat.reduceMul, Nat.reduceLeDiff, Nat.reduceLT, Nat.reduceBEq, Nat.reduceBNe, Nat.reduceEqDiff, ↓reduceIte, Int.reduceAdd, Int.reduceSub, Int.reduceMul, Int.reduceLT, Int.reduceLE, Int.reduceEq, Int.reduceNeg, Int.reduceToNat]
  | some ns =>
    simp only [hw, List.nil_append, List.length_nil, Int.natCast_zero, fE] at h
    obtain ⟨v', bl', e, o⟩ := h
    have hs := fun bx => o.snapV flatN bx false _ (snap_N ⟨bx, bl'⟩ false false 6)
    simp only [r05_way_C, r05_way_L0_eq, fE, e, o.one, o.locv, o.cells, hs, Option.getD_some, y1, y2, y3, y4, y5, y6, y7, y8, y9, keepE, keepB, chk, CV.locs, CV.locv, CV.refs, CV.ref, pureOp, repC, takeN, resV, enterC, Nat.reduceAdd, Nat.reduceSub, Nat.reduceMul, Nat.reduceLeDiff, Nat.reduceLT, Nat.reduceBEq, Nat.reduceBNe, Nat.reduceEqDiff, ↓reduceIte, Int.reduceAdd, Int.reduceSub, Int.reduceMul, Int.reduceLT, Int.reduceLE, Int.reduceEq, Int.reduceNeg, Int.reduceToNat]

theorem path_F (l : Lay) (hl : l.ok) (t : List Int) (hm : t.length ≤ Zc.small) (H : Heap) : r05_Path_F false H [.agg (layC l), sl fI t] = some (.tup [sl fN ((npath l t).getD []), .bool (npath l t).isSome], H) := by
  rw [r05_Path_F_eq]
  by_cases h2 : t.length < 2
  · have h2' : ((t.length : Int) < 2) := by omega
    have hp : npath l t = none := by simp [npath, h2]
    simp only [r05_Path_C, h2', hp, sl_nil fN, Option.getD_none, y1, y2, y3, y4, y5, y6, y7, y8, y9, keepE, keepB, chk, CV.locs, CV.locv, CV.refs, CV.ref, pureOp, repC, takeN, resV, enterC, Nat.reduceAdd, Nat.reduceSub, Nat.reduceMul, Nat.reduceLeDiff, Nat.reduceLT, Nat.reduceBEq, Nat.reduceBNe, Nat.reduceEqDiff, ↓reduceIte, Int.reduceAdd, Int.reduceSub, Int.reduceMul, Int.reduceLT, Int.reduceLE, Int.reduceEq, Int.reduceNeg, Int.reduceToNat]
  · have h2' : ¬ ((t.length : Int) < 2) := by omega
    have hr := fun st H => rise_F t hm st H
    by_cases hn : t.Nodup
    · have hlen : (((rise t).length : Nat) : Int) = t.length := by rw [(rise_len t).2 hn]
      cases t with
      | nil => simp at h2
      | cons a r =>
        have hr' : r.length ≤ Zc.small := by simp at hm; omega
        have g0 := fun H => way_F l hl ⟨a, 0⟩ r hr' H
        have g1 := fun H => way_F l hl ⟨a, 1⟩ r hr' H
        have i0 := iaddr_0I .i64 a r
        have s1 := slc_1I .i64 a r
        simp only [fE] at g0 g1
        simp only [List.length_cons] at h2' hlen
        cases hw0 : nways l ⟨a, 0⟩ r with
        | some ns =>
          have hp : npath l (a :: r) = some ns := by simp only [npath, hw0, h2, hn, not_true_eq_false, or_self, if_false]
          simp only [hw0, Option.getD_some] at g0
          have hL2 : r05_Path_R0 ([(1, sl fI (a :: r)), (2, .op (.loc 2) 0), (6, .int .i64 0)], ⟨[(2, layC l)], []⟩) = some (.ret, [(4, sl fN ns), (5, .bool true)], ⟨[(2, layC l)], []⟩) := by
            rw [r05_Path_R0_eq]
            simp only [r05_Path_B0, r05_Path_K0_norm, r05_Path_K0_ret, r05_Path_K0_exit, i0, s1, r05_way_call, g0, y1, y2, y3, y4, y5, y6, y7, y8, y9, keepE, keepB, chk, CV.locs, CV.locv, CV.refs, CV.ref, pureOp, repC, takeN, resV, enterC, Nat.reduceAdd, Nat.reduceSub, Nat.reduceMul, Nat.reduceLeDiff, Nat.reduceLT, Nat.reduceBEq, Nat.reduceBNe, Nat.reduceEqDiff, ↓reduceIte, Int.reduceAdd, Int.reduceSub, Int.reduceMul, Int.reduceLT, Int.reduceLE, Int.reduceEq, Int.reduceNeg, Int.reduceToNat]
          simp only [r05_Path_C, r05_Path_L0_eq, h2', r01_Rise_call, hr, eq_true hlen, hL2, hp, Option.getD_some, y1, y2, y3, y4, y5, y6, y7, y8, y9, keepE, keepB, chk, CV.locs, CV.locv, CV.refs, CV.ref, pureOp, repC, takeN, resV, enterC, Nat.reduceAdd, Nat.reduceSub, Nat.reduceMul, Nat.reduceLeDiff, Nat.reduceLT, Nat.reduceBEq, Nat.reduceBNe, Nat.reduceEqDiff, ↓reduceIte, Int.reduceAdd, Int.reduceSub, Int.reduceMul, Int.reduceLT, Int.reduceLE, Int.reduceEq, Int.reduceNeg, Int.reduceToNat]
        | none =>
          simp only [hw0, Option.getD_none] at g0
          cases hw1 : nways l ⟨a, 1⟩ r with
          | some ns =>
            have hp : npath l (a :: r) = some ns := by simp only [npath, hw0, hw1, h2, hn, not_true_eq_false, or_self, if_false]
            simp only [hw1, Option.getD_some] at g1
            have hL2 : r05_Path_R0 ([(1, sl fI (a :: r)), (2, .op (.loc 2) 0), (6, .int .i64 0)], ⟨[(2, layC l)], []⟩) = some (.ret, [(4, sl fN ns), (5, .bool true)], ⟨[(2, layC l)], []⟩) := by
              rw [r05_Path_R0_eq]
              simp only [r05_Path_B0, r05_Path_K0_norm, r05_Path_K0_ret, r05_Path_K0_exit, i0, s1, r05_way_call, g0, y1, y2, y3, y4, y5, y6, y7, y8, y9, keepE, keepB, chk, CV.locs, CV.locv, CV.refs, CV.ref, pureOp, repC, takeN, resV, enterC, Nat.reduceAdd, Nat.reduceSub, Nat.reduceMul, Nat.reduceLeDiff, Nat.reduceLT, Nat.reduceBEq, Nat.reduceBNe, Nat.reduceEqDiff, ↓reduceIte, Int.reduceAdd, Int.reduceSub, Int.reduceMul, Int.reduceLT, Int.reduceLE, Int.reduceEq, Int.reduceNeg, Int.reduceToNat]
              rw [r05_Path_R0_eq]
              simp only [r05_Path_B0, r05_Path_K0_norm, r05_Path_K0_ret, r05_Path_K0_exit, i0, s1, r05_way_call, g1, y1, y2, y3, y4, y5, y6, y7, y8, y9, keepE, keepB, chk, CV.locs, CV.locv, CV.refs, CV.ref, pureOp, repC, takeN, resV, enterC, Nat.reduceAdd, Nat.reduceSub, Nat.reduceMul, Nat.reduceLeDiff, Nat.reduceLT, Nat.reduceBEq, Nat.reduceBNe, Nat.reduceEqDiff, ↓reduceIte, Int.reduceAdd, Int.reduceSub, Int.reduceMul, Int.reduceLT, Int.reduceLE, Int.reduceEq, Int.reduceNeg, Int.reduceToNat]
            simp only [r05_Path_C, r05_Path_L0_eq, h2', r01_Rise_call, hr, eq_true hlen, hL2, hp, Option.getD_some, y1, y2, y3, y4, y5, y6, y7, y8, y9, keepE, keepB, chk, CV.locs, CV.locv, CV.refs, CV.ref, pureOp, repC, takeN, resV, enterC, Nat.reduceAdd, Nat.reduceSub, Nat.reduceMul, Nat.reduceLeDiff, Nat.reduceLT, Nat.reduceBEq, Nat.reduceBNe, Nat.reduceEqDiff, ↓reduceIte, Int.reduceAdd, Int.reduceSub, Int.reduceMul, Int.reduceLT, Int.reduceLE, Int.reduceEq, Int.reduceNeg, Int.reduceToNat]
          | none =>
            have hp : npath l (a :: r) = none := by simp only [npath, hw0, hw1, h2, hn, not_true_eq_false, or_self, if_false]
            simp only [hw1, Option.getD_none] at g1
            have hL2 : r05_Path_R0 ([(1, sl fI (a :: r)), (2, .op (.loc 2) 0), (6, .int .i64 0)], ⟨[(2, layC l)], []⟩) = some (.norm, [], ⟨[], []⟩) := by
              rw [r05_Path_R0_eq]
              simp only [r05_Path_B0, r05_Path_K0_norm, r05_Path_K0_ret, r05_Path_K0_exit, i0, s1, r05_way_call, g0, y1, y2, y3, y4, y5, y6, y7, y8, y9, keepE, keepB, chk, CV.locs, CV.locv, CV.refs, CV.ref, pureOp, repC, takeN, resV, enterC, Nat.reduceAdd, Nat.reduceSub, Nat.reduceMul, Nat.reduceLeDiff, Nat.reduceLT, Nat.reduceBEq, Nat.reduceBNe, Nat.reduceEqDiff, ↓reduceIte, Int.reduceAdd, Int.reduceSub, Int.reduceMul, Int.reduceLT, Int.reduceLE, Int.reduceEq, Int.reduceNeg, Int.reduceToNat]
              rw [r05_Path_R0_eq]
              simp only [r05_Path_B0, r05_Path_K0_norm, r05_Path_K0_ret, r05_Path_K0_exit, i0, s1, r05_way_call, g1, y1, y2, y3, y4, y5, y6, y7, y8, y9, keepE, keepB, chk, CV.locs, CV.locv, CV.refs, CV.ref, pureOp, repC, takeN, resV, enterC, Nat.reduceAdd, Nat.reduceSub, Nat.reduceMul, Nat.reduceLeDiff, Nat.reduceLT, Nat.reduceBEq, Nat.reduceBNe, Nat.reduceEqDiff, ↓reduceIte, Int.reduceAdd, Int.reduceSub, Int.reduceMul, Int.reduceLT, Int.reduceLE, Int.reduceEq, Int.reduceNeg, Int.reduceToNat]
              rw [r05_Path_R0_eq]
              simp only [r05_Path_B0, r05_Path_K0_norm, r05_Path_K0_ret, r05_Path_K0_exit, y1, y2, y3, y4, y5, y6, y7, y8, y9, keepE, keepB, chk, CV.locs, CV.locv, CV.refs, CV.ref, pureOp, repC, takeN, resV, enterC, Nat.reduceAdd, Nat.reduceSub, Nat.reduceMul, Nat.reduceLeDiff, Nat.reduceLT, Nat.reduceBEq, Nat.reduceBNe, Nat.reduceEqDiff, ↓reduceIte, Int.reduceAdd, Int.reduceSub, Int.reduceMul, Int.reduceLT, Int.reduceLE, Int.reduceEq, Int.reduceNeg, Int.reduceToNat]
            simp only [r05_Path_C, r05_Path_L0_eq, h2', r01_Rise_call, hr, eq_true hlen, hL2, hp, sl_nil fN, Option.getD_none, y1, y2, y3, y4, y5, y6, y7, y8, y9, keepE, keepB, chk, CV.locs, CV.locv, CV.refs, CV.ref, pureOp, repC, takeN, resV, enterC, Nat.reduceAdd, Nat.reduceSub, Nat.reduceMul, Nat.reduceLeDiff, Nat.reduceLT, Nat.reduceBEq, Nat.reduceBNe, Nat.reduceEqDiff, ↓reduceIte, Int.reduceAdd, Int.reduceSub, Int.reduceMul, Int.reduceLT, Int.reduceLE, Int.reduceEq, Int.reduceNeg, Int.reduceToNat]
    · have hlen : ¬ ((((rise t).length : Nat) : Int) = t.length) := fun h => hn ((rise_len t).1 (by omega))
      have hp : npath l t = none := by simp [npath, hn]
      simp only [r05_Path_C, h2', r01_Rise_call, hr, eq_false hlen, hp, sl_nil fN, Option.getD_none, y1, y2, y3, y4, y5, y6, y7, y8, y9, keepE, keepB, chk, CV.locs, CV.locv, CV.refs, CV.ref, pureOp, repC, takeN, resV, enterC, Nat.reduceAdd, Nat.reduceSub, Nat.reduceMul, Nat.reduceLeDiff, Nat.reduceLT, Nat.reduceBEq, Nat.reduceBNe, Nat.reduceEqDiff, ↓reduceIte, Int.reduceAdd, Int.reduceSub, Int.reduceMul, Int.reduceLT, Int.reduceLE, Int.reduceEq, Int.reduceNeg, Int.reduceToNat]
end Go.Proofs.Ytmkdhpjidhbijaa.Zt
