/- The law GraphBack, walked. -/
import Derived.Test.YtmkdhpjidhbijaaZcX
import Derived.Test.YtmkdhpjidhbijaaZcArgs
import Derived.Test.YtmkdhpjidhbijaaZcPart
set_option linter.all false
namespace Go.Proofs.Ytmkdhpjidhbijaa.Zt
open Go Go.Zc
set_option maxRecDepth 10000

theorem back_y (l : Lay) (e : Ed) (c5 c6 c9 : CV) (h5 : c5.locv = false) (h6 : c6.locv = false) (h9 : c9.locv = false) (x : List Ed) : ∀ (s p : List Ed) (b : Bool), (p ++ s).length ≤ 2 * Zc.small →
    l05_GraphBack_R6 ([(3, .op (.loc 3) 0), (4, .vp (layC l)), (5, c5), (6, c6), (7, .op (.loc 7) 0), (8, sl fE x), (9, c9), (10, .bool b), (11, sl fE (p ++ s)), (12, .int .i64 p.length)], ⟨[(3, layC l), (7, fE e)], []⟩) =
      some (.norm, [(3, .op (.loc 3) 0), (4, .vp (layC l)), (5, c5), (6, c6), (7, .op (.loc 7) 0), (8, sl fE x), (9, c9), (10, .bool (b || decide (e ∈ s)))], ⟨[(3, layC l), (7, fE e)], []⟩)
  | [], p, b, hm => by
    have q5 := chkV_of h5
    have q6 := chkV_of h6
    have q9 := chkV_of h9
    rw [l05_GraphBack_R6_eq]
    simp only [l05_GraphBack_B6, l05_GraphBack_K6_norm, l05_GraphBack_K6_ret, l05_GraphBack_K6_exit, fE, q5, q6, q9, List.not_mem_nil, y1, y2, y3, y4, y5, y6, y7, y8, y9, keepE, keepB, chk, CV.locs, CV.locv, CV.refs, CV.ref, pureOp, repC, takeN, resV, enterC, Nat.reduceAdd, Nat.reduceSub, Nat.reduceMul, Nat.reduceLeDiff, Nat.reduceLT, Nat.reduceBEq, Nat.reduceBNe, Nat.reduceEqDiff, ↓reduceIte, Int.reduceAdd, Int.reduceSub, Int.reduceMul, Int.reduceLT, Int.reduceLE, Int.reduceEq, Int.reduceNeg, Int.reduceToNat]
  | y :: s, p, b, hm => by
    have q5 := chkV_of h5
    have q6 := chkV_of h6
    have q9 := chkV_of h9
    have h4 : ((p.length : Int) < (p ++ y :: s).length) := by simp; omega
    have hw := wrapN (n := p.length) (by simp at hm; omega)
    have hq := eqE y e
    simp only [fE] at hq
    cases b with
    | true =>
      have ih := back_y l e c5 c6 c9 h5 h6 h9 x s (p ++ [y]) true (by simpa using hm)
      simp only [List.append_assoc, List.cons_append, List.nil_append, List.length_append, List.length_cons, List.length_nil, fE] at ih h4
      rw [l05_GraphBack_R6_eq]
      simp only [l05_GraphBack_B6, l05_GraphBack_K6_norm, l05_GraphBack_K6_ret, l05_GraphBack_K6_exit, List.append_assoc, List.cons_append, List.nil_append, List.length_append, List.length_cons, List.length_nil, fE, q5, q6, q9, h4, hw, ih, y1, y2, y3, y4, y5, y6, y7, y8, y9, keepE, keepB, chk, CV.locs, CV.locv, CV.refs, CV.ref, pureOp, repC, takeN, resV, enterC, Nat.reduceAdd, Nat.reduceSub, Nat.reduceMul, Nat.reduceLeDiff, Nat.reduceLT, Nat.reduceBEq, Nat.reduceBNe, Nat.reduceEqDiff, ↓reduceIte, Int.reduceAdd, Int.reduceSub, Int.reduceMul, Int.reduceLT, Int.reduceLE, Int.reduceEq, Int.reduceNeg, Int.reduceToNat]
    | false =>
      have ih := back_y l e c5 c6 c9 h5 h6 h9 x s (p ++ [y]) (decide (y = e)) (by simpa using hm)
      simp only [List.append_assoc, List.cons_append, List.nil_append, List.length_append, List.length_cons, List.length_nil, fE] at ih h4
      rw [l05_GraphBack_R6_eq]
      have hd : decide (e ∈ y :: s) = (decide (y = e) || decide (e ∈ s)) := by simp [List.mem_cons, Bool.decide_or, eq_comm]
      simp only [l05_GraphBack_B6, l05_GraphBack_K6_norm, l05_GraphBack_K6_ret, l05_GraphBack_K6_exit, List.append_assoc, List.cons_append, List.nil_append, List.length_append, List.length_cons, List.length_nil, fE, q5, q6, q9, h4, hw, iaddr_midE, hq, ih, hd, y1, y2, y3, y4, y5, y6, y7, y8, y9, keepE, keepB, chk, CV.locs, CV.locv, CV.refs, CV.ref, pureOp, repC, takeN, resV, enterC, Nat.reduceAdd, Nat.reduceSub, Nat.reduceMul, Nat.reduceLeDiff, Nat.reduceLT, Nat.reduceBEq, Nat.reduceBNe, Nat.reduceEqDiff, ↓reduceIte, Int.reduceAdd, Int.reduceSub, Int.reduceMul, Int.reduceLT, Int.reduceLE, Int.reduceEq, Int.reduceNeg, Int.reduceToNat]

theorem back_x (d : Draft) (hl : (full d).ok) (sn : Nat) (e : Ed) (he : e.s = sn) (hE : e.e = 0 ∨ e.e = 1) (c6 : CV) (h6 : c6.locv = false) : ∀ (s p : List Ed), p ++ s = around (full d) e →
    l05_GraphBack_R4 ([(3, .op (.loc 3) 0), (4, .vp (layC (full d))), (5, .int .i64 sn), (6, c6), (7, .op (.loc 7) 0), (8, sl fE (around (full d) e)), (9, .int .i64 p.length)], ⟨[(3, layC (full d)), (7, fE e)], []⟩) =
      some (.norm, [(3, .op (.loc 3) 0), (4, .vp (layC (full d))), (5, .int .i64 sn), (6, c6)], ⟨[(3, layC (full d))], []⟩)
  | [], p, hp => by
    have q6 := chkV_of h6
    rw [List.append_nil] at hp
    rw [l05_GraphBack_R4_eq, ← hp]
    simp only [l05_GraphBack_B4, l05_GraphBack_K4_norm, l05_GraphBack_K4_ret, l05_GraphBack_K4_exit, q6, y1, y2, y3, y4, y5, y6, y7, y8, y9, keepE, keepB, chk, CV.locs, CV.locv, CV.refs, CV.ref, pureOp, repC, takeN, resV, enterC, Nat.reduceAdd, Nat.reduceSub, Nat.reduceMul, Nat.reduceLeDiff, Nat.reduceLT, Nat.reduceBEq, Nat.reduceBNe, Nat.reduceEqDiff, ↓reduceIte, Int.reduceAdd, Int.reduceSub, Int.reduceMul, Int.reduceLT, Int.reduceLE, Int.reduceEq, Int.reduceNeg, Int.reduceToNat]
  | y :: s, p, hp => by
    have q6 := chkV_of h6
    have hal := around_len2 (full d) e
    have h4 : ((p.length : Int) < (around (full d) e).length) := by rw [← hp]; simp; omega
    have hw := wrapN (n := p.length) (by rw [← hp] at hal; simp at hal; unfold Zc.small at *; omega)
    have hm : y ∈ around (full d) e := by rw [← hp]; simp
    have hia : iaddrC 2 (sl fE (around (full d) e)) (.int .i64 p.length) = some (.vp (.int .i64 y.s :: .int .i64 y.e :: s.flatMap fE)) := by rw [← hp]; exact iaddr_midE _ p s y
    have ih := back_x d hl sn e he hE c6 h6 s (p ++ [y]) (by simpa using hp)
    have hx := fun H => garound_F (full d) hl y H
    simp only [fE] at hx
    have hy := back_y (full d) e (.int .i64 sn) c6 (.int .i64 p.length) rfl h6 rfl (around (full d) e) (around (full d) y) [] false (around_len2 (full d) y)
    have hb := full_back d e y hm
    have hn1 : y.s ∈ near (full d) sn := by rw [← he]; exact near_of hm
    have hn2 : (sn : Int) ∈ near (full d) y.s := by rw [← he]; exact near_of hb
    have hl4 := near_len (full d) sn
    have hl5 := near_len (full d) y.s
    have f1 := fun st H => has_F (near (full d) sn) y.s (by unfold Zc.small; omega) st H
    have f2 := fun st H => has_F (near (full d) y.s) sn (by unfold Zc.small; omega) st H
    simp only [eq_true hn1, eq_true hn2] at f1 f2
    simp only [List.nil_append, List.length_nil, Int.natCast_zero, eq_true hb] at hy
    simp only [List.append_assoc, List.cons_append, List.nil_append, List.length_append, List.length_cons, List.length_nil, fE] at ih hy h4
    rw [l05_GraphBack_R4_eq]
    simp only [l05_GraphBack_B4, l05_GraphBack_K4_norm, l05_GraphBack_K4_ret, l05_GraphBack_K4_exit, l05_GraphBack_L6_eq, fE, q6, h4, hw, hia, graph_Graph_Around_call, hx, hy, graph_Graph_Near_call, gnear_F (full d) hl, r01_Has_call, f1, f2, ih, y1, y2, y3, y4, y5, y6, y7, y8, y9, keepE, keepB, chk, CV.locs, CV.locv, CV.refs, CV.ref, pureOp, repC, takeN, resV, enterC, Nat.reduceAdd, Nat.reduceSub, Nat.reduceMul, Nat.reduceLeDiff, Nat.reduceLT, Nat.reduceBEq, Nat.reduceBNe, Nat.reduceEqDiff, ↓reduceIte, Int.reduceAdd, Int.reduceSub, Int.reduceMul, Int.reduceLT, Int.reduceLE, Int.reduceEq, Int.reduceNeg, Int.reduceToNat]

theorem back_s (d : Draft) (hl : (full d).ok) : ∀ (k n : Nat), n + k = (full d).secs.length →
    l05_GraphBack_R0 ([(3, .op (.loc 3) 0), (4, .vp (layC (full d))), (5, .int .i64 n)], ⟨[(3, layC (full d))], []⟩) = some (.norm, [], ⟨[], []⟩)
  | 0, n, h => by
    have h4 : ¬ ((n : Int) < (full d).secs.length) := by omega
    rw [l05_GraphBack_R0_eq]
    simp only [l05_GraphBack_B0, l05_GraphBack_K0_norm, l05_GraphBack_K0_ret, l05_GraphBack_K0_exit, h4, y1, y2, y3, y4, y5, y6, y7, y8, y9, keepE, keepB, chk, CV.locs, CV.locv, CV.refs, CV.ref, pureOp, repC, takeN, resV, enterC, Nat.reduceAdd, Nat.reduceSub, Nat.reduceMul, Nat.reduceLeDiff, Nat.reduceLT, Nat.reduceBEq, Nat.reduceBNe, Nat.reduceEqDiff, ↓reduceIte, Int.reduceAdd, Int.reduceSub, Int.reduceMul, Int.reduceLT, Int.reduceLE, Int.reduceEq, Int.reduceNeg, Int.reduceToNat]
  | k + 1, n, h => by
    have h4 : ((n : Int) < (full d).secs.length) := by omega
    have hsl := hl.secs
    have hw := wrapN (n := n) (by omega)
    have ih := back_s d hl k (n + 1) (by omega)
    have x0 := back_x d hl n ⟨n, 0⟩ rfl (.inl rfl) (.int .i64 0) rfl (around (full d) ⟨n, 0⟩) [] rfl
    have x1 := back_x d hl n ⟨n, 1⟩ rfl (.inr rfl) (.int .i64 1) rfl (around (full d) ⟨n, 1⟩) [] rfl
    have hx := fun e H => garound_F (full d) hl ⟨n, e⟩ H
    simp only [fE] at hx
    simp only [List.nil_append, List.length_nil, Int.natCast_zero, fE] at x0 x1
    have hL : l05_GraphBack_R2 ([(3, .op (.loc 3) 0), (4, .vp (layC (full d))), (5, .int .i64 n), (6, .int .i64 0)], ⟨[(3, layC (full d))], []⟩) = some (.norm, [(3, .op (.loc 3) 0), (4, .vp (layC (full d))), (5, .int .i64 n)], ⟨[(3, layC (full d))], []⟩) := by
      rw [l05_GraphBack_R2_eq]
      simp only [l05_GraphBack_B2, l05_GraphBack_K2_norm, l05_GraphBack_K2_ret, l05_GraphBack_K2_exit, l05_GraphBack_L4_eq, graph_Graph_Around_call, hx, x0, y1, y2, y3, y4, y5, y6, y7, y8, y9, keepE, keepB, chk, CV.locs, CV.locv, CV.refs, CV.ref, pureOp, repC, takeN, resV, enterC, Nat.reduceAdd, Nat.reduceSub, Nat.reduceMul, Nat.reduceLeDiff, Nat.reduceLT, Nat.reduceBEq, Nat.reduceBNe, Nat.reduceEqDiff, ↓reduceIte, Int.reduceAdd, Int.reduceSub, Int.reduceMul, Int.reduceLT, Int.reduceLE, Int.reduceEq, Int.reduceNeg, Int.reduceToNat]
      rw [l05_GraphBack_R2_eq]
      simp only [l05_GraphBack_B2, l05_GraphBack_K2_norm, l05_GraphBack_K2_ret, l05_GraphBack_K2_exit, l05_GraphBack_L4_eq, graph_Graph_Around_call, hx, x1, y1, y2, y3, y4, y5, y6, y7, y8, y9, keepE, keepB, chk, CV.locs, CV.locv, CV.refs, CV.ref, pureOp, repC, takeN, resV, enterC, Nat.reduceAdd, Nat.reduceSub, Nat.reduceMul, Nat.reduceLeDiff, Nat.reduceLT, Nat.reduceBEq, Nat.reduceBNe, Nat.reduceEqDiff, ↓reduceIte, Int.reduceAdd, Int.reduceSub, Int.reduceMul, Int.reduceLT, Int.reduceLE, Int.reduceEq, Int.reduceNeg, Int.reduceToNat]
      rw [l05_GraphBack_R2_eq]
      simp only [l05_GraphBack_B2, l05_GraphBack_K2_norm, l05_GraphBack_K2_ret, l05_GraphBack_K2_exit, y1, y2, y3, y4, y5, y6, y7, y8, y9, keepE, keepB, chk, CV.locs, CV.locv, CV.refs, CV.ref, pureOp, repC, takeN, resV, enterC, Nat.reduceAdd, Nat.reduceSub, Nat.reduceMul, Nat.reduceLeDiff, Nat.reduceLT, Nat.reduceBEq, Nat.reduceBNe, Nat.reduceEqDiff, ↓reduceIte, Int.reduceAdd, Int.reduceSub, Int.reduceMul, Int.reduceLT, Int.reduceLE, Int.reduceEq, Int.reduceNeg, Int.reduceToNat]
    rw [l05_GraphBack_R0_eq]
    simp only [l05_GraphBack_B0, l05_GraphBack_K0_norm, l05_GraphBack_K0_ret, l05_GraphBack_K0_exit, l05_GraphBack_L2_eq, h4, hw, hL, ih, y1, y2, y3, y4, y5, y6, y7, y8, y9, keepE, keepB, chk, CV.locs, CV.locv, CV.refs, CV.ref, pureOp, repC, takeN, resV, enterC, Nat.reduceAdd, Nat.reduceSub, Nat.reduceMul, Nat.reduceLeDiff, Nat.reduceLT, Nat.reduceBEq, Nat.reduceBNe, Nat.reduceEqDiff, ↓reduceIte, Int.reduceAdd, Int.reduceSub, Int.reduceMul, Int.reduceLT, Int.reduceLE, Int.reduceEq, Int.reduceNeg, Int.reduceToNat]

theorem graphBack_F (d : Draft) (hd : d.ok) (st : Bool) (H : Heap) : l05_GraphBack_F st H [.agg (draftC d)] = some (.bool true, H) := by
  rw [l05_GraphBack_F_eq]
  have hj := joins05_F
  have hsF := fun st H => small_F d hd st H
  cases hs : d.small with
  | false =>
    simp only [hs] at hsF
    simp only [l05_GraphBack_C, l05_joins_call, hj, r04_Small_call, hsF, y1, y2, y3, y4, y5, y6, y7, y8, y9, keepE, keepB, chk, CV.locs, CV.locv, CV.refs, CV.ref, pureOp, repC, takeN, resV, enterC, Nat.reduceAdd, Nat.reduceSub, Nat.reduceMul, Nat.reduceLeDiff, Nat.reduceLT, Nat.reduceBEq, Nat.reduceBNe, Nat.reduceEqDiff, ↓reduceIte, Int.reduceAdd, Int.reduceSub, Int.reduceMul, Int.reduceLT, Int.reduceLE, Int.reduceEq, Int.reduceNeg, Int.reduceToNat]
  | true =>
    simp only [hs] at hsF
    have hL := back_s d (full_ok d) (full d).secs.length 0 (by omega)
    simp only [Int.natCast_zero] at hL
    simp only [l05_GraphBack_C, l05_GraphBack_L0_eq, l05_joins_call, hj, r04_Small_call, hsF, r05_Full_call, full_F d hd, graph_New_call, gnew5_F, hL, y1, y2, y3, y4, y5, y6, y7, y8, y9, keepE, keepB, chk, CV.locs, CV.locv, CV.refs, CV.ref, pureOp, repC, takeN, resV, enterC, Nat.reduceAdd, Nat.reduceSub, Nat.reduceMul, Nat.reduceLeDiff, Nat.reduceLT, Nat.reduceBEq, Nat.reduceBNe, Nat.reduceEqDiff, ↓reduceIte, Int.reduceAdd, Int.reduceSub, Int.reduceMul, Int.reduceLT, Int.reduceLE, Int.reduceEq, Int.reduceNeg, Int.reduceToNat]
end Go.Proofs.Ytmkdhpjidhbijaa.Zt
