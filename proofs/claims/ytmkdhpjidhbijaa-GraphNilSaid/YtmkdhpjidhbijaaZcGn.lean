/- Walks: what is asked of no graph. -/
import Derived.Test.YtmkdhpjidhbijaaZcT
import Derived.Test.YtmkdhpjidhbijaaZcSet
set_option linter.all false
namespace Go.Proofs.Ytmkdhpjidhbijaa.Zt
open Go Go.Zc
set_option maxRecDepth 100000

/-- The place of the first one, or -1. -/
def idxOf {α : Type} (p : α → Bool) (l : List α) : Int := match l.findIdx? p with
  | some i => (i : Int)
  | none => -1

theorem index_loop (n : Int) : ∀ (s pre : List Int), (pre ++ s).length ≤ 2 * Zc.small →
    slices_Index_int_R0 ([(0, sl fI (pre ++ s)), (1, .int .i64 n), (7, .int .i64 (pre ++ s).length), (8, .int .i64 pre.length)], ⟨[], []⟩) =
      match s.findIdx? (fun x => decide (n = x)) with
      | some i => some (.ret, [(4, .int .i64 ((pre.length + i : Nat) : Int))], ⟨[], []⟩)
      | none => some (.norm, [], ⟨[], []⟩)
  | [], pre, hm => by
    rw [slices_Index_int_R0_eq]
    simp only [slices_Index_int_B0, slices_Index_int_K0_norm, slices_Index_int_K0_ret, slices_Index_int_K0_exit, List.findIdx?_nil, y1, y2, y3, y4, y5, y6, y7, y8, y9, keepE, keepB, chk, CV.locs, CV.locv, CV.refs, CV.ref, pureOp, repC, takeN, resV, enterC, Nat.reduceAdd, Nat.reduceSub, Nat.reduceMul, Nat.reduceLeDiff, Nat.reduceLT, Nat.reduceBEq, Nat.reduceBNe, Nat.reduceEqDiff, ↓reduceIte, Int.reduceAdd, Int.reduceSub, Int.reduceMul, Int.reduceLT, Int.reduceLE, Int.reduceEq, Int.reduceNeg, Int.reduceToNat]
  | x :: s, pre, hm => by
    have h1 : ((pre.length : Int) < (pre ++ x :: s).length) := by simp; omega
    have hw := wrapN (n := pre.length) (by simp at hm; omega)
    have ih := index_loop n s (pre ++ [x]) (by simpa using hm)
    simp only [List.append_assoc, List.cons_append, List.nil_append, List.length_append, List.length_cons, List.length_nil] at ih h1
    rw [slices_Index_int_R0_eq]
    simp only [slices_Index_int_B0, slices_Index_int_K0_norm, slices_Index_int_K0_ret, slices_Index_int_K0_exit, h1, iaddr_midI, hw, List.append_assoc, List.cons_append, List.nil_append, List.length_append, List.length_cons, List.length_nil, y1, y2, y3, y4, y5, y6, y7, y8, y9, keepE, keepB, chk, CV.locs, CV.locv, CV.refs, CV.ref, pureOp, repC, takeN, resV, enterC, Nat.reduceAdd, Nat.reduceSub, Nat.reduceMul, Nat.reduceLeDiff, Nat.reduceLT, Nat.reduceBEq, Nat.reduceBNe, Nat.reduceEqDiff, ↓reduceIte, Int.reduceAdd, Int.reduceSub, Int.reduceMul, Int.reduceLT, Int.reduceLE, Int.reduceEq, Int.reduceNeg, Int.reduceToNat, ih]
    by_cases hA : n = x
    · simp [hA, List.findIdx?_cons]
    · simp only [hA, if_false, List.findIdx?_cons, decide_false, Bool.false_eq_true]
      cases hf : s.findIdx? (fun x => decide (n = x)) with
      | none => simp
      | some i => simp; omega

theorem index_F (n : Int) (l : List Int) (hm : l.length ≤ 2 * Zc.small) (st : Bool) (H : Heap) :
    slices_Index_int_F st H [sl fI l, .int .i64 n] = some (.int .i64 (idxOf (fun x => decide (n = x)) l), H) := by
  have e := index_loop n l [] hm
  simp only [List.nil_append, List.length_nil, Int.natCast_zero, Nat.zero_add] at e
  rw [slices_Index_int_F_eq]
  simp only [slices_Index_int_C, slices_Index_int_L0_eq, e, idxOf, y1, y2, y3, y4, y5, y6, y7, y8, y9, keepE, keepB, chk, CV.locs, CV.locv, CV.refs, CV.ref, pureOp, repC, takeN, resV, enterC, Nat.reduceAdd, Nat.reduceSub, Nat.reduceMul, Nat.reduceLeDiff, Nat.reduceLT, Nat.reduceBEq, Nat.reduceBNe, Nat.reduceEqDiff, ↓reduceIte, Int.reduceAdd, Int.reduceSub, Int.reduceMul, Int.reduceLT, Int.reduceLE, Int.reduceEq, Int.reduceNeg, Int.reduceToNat]
  cases hf : l.findIdx? (fun x => decide (n = x)) <;> simp only [y1, y2, y3, y4, y5, y6, y7, y8, y9, keepE, keepB, chk, CV.locs, CV.locv, CV.refs, CV.ref, pureOp, repC, takeN, resV, enterC, Nat.reduceAdd, Nat.reduceSub, Nat.reduceMul, Nat.reduceLeDiff, Nat.reduceLT, Nat.reduceBEq, Nat.reduceBNe, Nat.reduceEqDiff, ↓reduceIte, Int.reduceAdd, Int.reduceSub, Int.reduceMul, Int.reduceLT, Int.reduceLE, Int.reduceEq, Int.reduceNeg, Int.reduceToNat]

theorem idxOf_nonneg {α : Type} (p : α → Bool) (l : List α) : (0 ≤ idxOf p l) ↔ ∃ x ∈ l, p x = true := by
  unfold idxOf
  cases h : l.findIdx? p with
  | none =>
    have := List.findIdx?_eq_none_iff.1 h
    simp only [show ¬ (0 : Int) ≤ -1 by omega, false_iff]
    rintro ⟨x, hx, hp⟩
    rw [this x hx] at hp; cases hp
  | some i =>
    obtain ⟨hi, hp, _⟩ := List.findIdx?_eq_some_iff_getElem.1 h
    simp only [show (0 : Int) ≤ i by omega, true_iff]
    exact ⟨l[i], List.getElem_mem hi, hp⟩

theorem contains_F (n : Int) (l : List Int) (hm : l.length ≤ 2 * Zc.small) (st : Bool) (H : Heap) :
    slices_Contains_int_F st H [sl fI l, .int .i64 n] = some (.bool (decide (n ∈ l)), H) := by
  rw [slices_Contains_int_F_eq]
  have h : (0 ≤ idxOf (fun x => decide (n = x)) l) = (n ∈ l) := by
    rw [idxOf_nonneg]; simp
  simp only [slices_Contains_int_C, slices_Index_int_call, index_F n l hm, h, y1, y2, y3, y4, y5, y6, y7, y8, y9, keepE, keepB, chk, CV.locs, CV.locv, CV.refs, CV.ref, pureOp, repC, takeN, resV, enterC, Nat.reduceAdd, Nat.reduceSub, Nat.reduceMul, Nat.reduceLeDiff, Nat.reduceLT, Nat.reduceBEq, Nat.reduceBNe, Nat.reduceEqDiff, ↓reduceIte, Int.reduceAdd, Int.reduceSub, Int.reduceMul, Int.reduceLT, Int.reduceLE, Int.reduceEq, Int.reduceNeg, Int.reduceToNat]

theorem iaddr_0I (k : IntKind) (h : Int) (t : List Int) : iaddrC 1 (sl fI (h :: t)) (.int k 0) = some (.vp (.int .i64 h :: t.flatMap fI)) := iaddr_midI k [] t h
theorem fz_run {C : Ctx} {kn : Bool} {np : Nat} {code : CCode} {res : List Res} {st : Bool} {H : Heap} {xs : List CV} {r : CV × Heap} (n : Nat)
    (h : (if xs.length = np then (run C n code (enterC 0 xs) ⟨[], []⟩).bind (fzOut res st kn H) else none) = some r) : fzE C kn np code res st H xs = some r := by
  unfold fzE
  split at h
  · rename_i hl
    rw [if_pos hl]
    obtain ⟨x, hx, hr⟩ := Option.bind_eq_some_iff.1 h
    rw [run_eval C n _ _ _ _ hx]
    exact hr
  · cases h

theorem joins_F (st : Bool) (H : Heap) : l05_joins_F st H [] = some (.bool true, H) := by cases st <;> exact fz_run 60 (by kernel_rfl)
theorem nnext_F (n e : Int) (cs : List CV) (k : Nat) (st : Bool) (H : Heap) : graph_Graph_Next_F st H [.nilp, .agg [.int .i64 n, .int .i64 e], .vs cs k] = some (.tup [.agg [.int .i64 0, .int .i64 0], .bool false], H) := by cases st <;> exact fz_run 60 (by kernel_rfl)
theorem naround_F (n e : Int) (st : Bool) (H : Heap) : graph_Graph_Around_F st H [.nilp, .agg [.int .i64 n, .int .i64 e]] = some (.vs [] 0, H) := by cases st <;> exact fz_run 60 (by kernel_rfl)
theorem nnear_F (n : Int) (st : Bool) (H : Heap) : graph_Graph_Near_F st H [.nilp, .int .i64 n] = some (.vs [] 0, H) := by cases st <;> exact fz_run 60 (by kernel_rfl)
theorem nbeside_F (n : Int) (st : Bool) (H : Heap) : graph_Graph_Beside_F st H [.nilp, .int .i64 n] = some (.vs [] 0, H) := by cases st <;> exact fz_run 60 (by kernel_rfl)
theorem npoint_F (n : Int) (st : Bool) (H : Heap) : graph_Graph_Point_F st H [.nilp, .int .i64 n] = some (.int .i64 (-1), H) := by cases st <;> exact fz_run 60 (by kernel_rfl)
theorem npart_F (n : Int) (st : Bool) (H : Heap) : graph_Graph_Part_F st H [.nilp, .int .i64 n] = some (.int .i64 (-1), H) := by cases st <;> exact fz_run 60 (by kernel_rfl)
theorem nlen_F (n : Int) (st : Bool) (H : Heap) : graph_Graph_Len_F st H [.nilp, .int .i64 n] = some (.int .i64 0, H) := by cases st <;> exact fz_run 60 (by kernel_rfl)
theorem nway_F (n e m : Int) (st : Bool) (H : Heap) : graph_Graph_way_F st H [.nilp, .agg [.int .i64 n, .int .i64 e], sl fI [m]] = some (.tup [.vs [] 0, .bool false], H) := by cases st <;> exact fz_run 60 (by kernel_rfl)
theorem nends_F (n : Int) (st : Bool) (bx : List (Nat × List CV)) (bl : List Blk) : graph_Graph_Ends_F st ⟨bx, bl⟩ [.nilp, .int .i64 n] = some (.nils, ⟨bx, bl⟩) := by
  have hs : ∀ st H, graph_Graph_section_F st H [.nilp, .int .i64 0] = some (.tup [.agg [.int .i64 0, .int .i64 0, .int .i64 0], .bool false], H) := fun st H => by cases st <;> exact fz_run 60 (by kernel_rfl)
  have h2 : ∀ bx', ownSnap st ⟨bx, bl⟩ ⟨bx', []⟩ [.nils] = some (.nils, ⟨bx, bl⟩) := fun _ => rfl
  rw [graph_Graph_Ends_F_eq]
  simp only [graph_Graph_Ends_C, graph_Graph_Ends_L0_eq, graph_Graph_Ends_R0_eq, graph_Graph_Ends_B0, graph_Graph_Ends_K0_norm, graph_Graph_Ends_K0_ret, graph_Graph_Ends_K0_exit, graph_Graph_section_call, hs, h2, y1, y2, y3, y4, y5, y6, y7, y8, y9, keepE, keepB, chk, CV.locs, CV.locv, CV.refs, CV.ref, pureOp, repC, takeN, resV, enterC, Nat.reduceAdd, Nat.reduceSub, Nat.reduceMul, Nat.reduceLeDiff, Nat.reduceLT, Nat.reduceBEq, Nat.reduceBNe, Nat.reduceEqDiff, ↓reduceIte, Int.reduceAdd, Int.reduceSub, Int.reduceMul, Int.reduceLT, Int.reduceLE, Int.reduceEq, Int.reduceNeg, Int.reduceToNat]
theorem npath_F (n e : Int) (st : Bool) (H : Heap) : graph_Graph_Path_F st H [.nilp, sl fI [n, e]] = some (.tup [.vs [] 0, .bool false], H) := by
  have i0 := iaddr_0I .i64 n [e]
  have i1 := iaddr_midI .i64 [n] [] e
  have s0 := slc_hi flatI [n, e] 0 (by simp) .i64
  have s1 := slc_hi flatI [n, e] 1 (by simp) .i64
  have s2 := slc_lo flatI [n, e] 1 (by simp) .i64
  simp only [List.cons_append, List.nil_append, List.length_cons, List.length_nil, Nat.zero_add, Int.natCast_one, Int.natCast_zero, List.take_zero, List.take_succ_cons, List.drop_succ_cons, List.drop_zero] at i0 i1 s0 s1 s2
  have c0 := fun st H => contains_F n [] (by simp) st H
  have c1 := fun st H => contains_F e [n] (by unfold Zc.small; simp) st H
  have hfalse : CV.vs [] 0 = sl fI [] := rfl
  rw [graph_Graph_Path_F_eq]
  by_cases h : e = n
  · have hm : e ∈ [n] := by simp [h]
    simp only [graph_Graph_Path_C, graph_Graph_Path_L0_eq, graph_Graph_Path_R0_eq, graph_Graph_Path_B0, graph_Graph_Path_K0_norm, graph_Graph_Path_K0_ret, graph_Graph_Path_K0_exit, slices_Contains_int_call, i0, i1, s0, s1, c0, c1, eq_true hm, List.not_mem_nil, Int.natCast_one, Int.natCast_add, y1, y2, y3, y4, y5, y6, y7, y8, y9, keepE, keepB, chk, CV.locs, CV.locv, CV.refs, CV.ref, pureOp, repC, takeN, resV, enterC, Nat.reduceAdd, Nat.reduceSub, Nat.reduceMul, Nat.reduceLeDiff, Nat.reduceLT, Nat.reduceBEq, Nat.reduceBNe, Nat.reduceEqDiff, ↓reduceIte, Int.reduceAdd, Int.reduceSub, Int.reduceMul, Int.reduceLT, Int.reduceLE, Int.reduceEq, Int.reduceNeg, Int.reduceToNat]
  · have hm : ¬ e ∈ [n] := by simpa using h
    simp only [graph_Graph_Path_C, graph_Graph_Path_L0_eq, graph_Graph_Path_R0_eq, graph_Graph_Path_L2_eq, graph_Graph_Path_R2_eq, graph_Graph_Path_B0, graph_Graph_Path_K0_norm, graph_Graph_Path_K0_ret, graph_Graph_Path_K0_exit, graph_Graph_Path_B2, graph_Graph_Path_K2_norm, graph_Graph_Path_K2_ret, graph_Graph_Path_K2_exit, slices_Contains_int_call, graph_Graph_way_call, nway_F, i0, i1, s0, s1, s2, c0, c1, eq_false hm, List.not_mem_nil, Int.natCast_one, Int.natCast_add, y1, y2, y3, y4, y5, y6, y7, y8, y9, keepE, keepB, chk, CV.locs, CV.locv, CV.refs, CV.ref, pureOp, repC, takeN, resV, enterC, Nat.reduceAdd, Nat.reduceSub, Nat.reduceMul, Nat.reduceLeDiff, Nat.reduceLT, Nat.reduceBEq, Nat.reduceBNe, Nat.reduceEqDiff, ↓reduceIte, Int.reduceAdd, Int.reduceSub, Int.reduceMul, Int.reduceLT, Int.reduceLE, Int.reduceEq, Int.reduceNeg, Int.reduceToNat]

theorem graphNil_F (n e : Int) (cs : List CV) (k : Nat) (st : Bool) (H : Heap) : l05_GraphNil_F st H [.int .i64 n, .int .i64 e, .vs cs k] = some (.bool true, H) := by
  have hl : CV.vs [.int .i64 n, .int .i64 e] 2 = sl fI [n, e] := rfl
  rw [l05_GraphNil_F_eq]
  simp only [l05_GraphNil_C, graph_Graph_Next_call, nnext_F, hl, graph_Graph_Path_call, npath_F, l05_joins_call, joins_F, graph_Graph_Ends_call, nends_F, graph_Graph_Around_call, naround_F, graph_Graph_Near_call, nnear_F, graph_Graph_Beside_call, nbeside_F, graph_Graph_Len_call, nlen_F, graph_Graph_Point_call, npoint_F, graph_Graph_Part_call, npart_F, Int.natCast_zero, y1, y2, y3, y4, y5, y6, y7, y8, y9, keepE, keepB, chk, CV.locs, CV.locv, CV.refs, CV.ref, pureOp, repC, takeN, resV, enterC, Nat.reduceAdd, Nat.reduceSub, Nat.reduceMul, Nat.reduceLeDiff, Nat.reduceLT, Nat.reduceBEq, Nat.reduceBNe, Nat.reduceEqDiff, ↓reduceIte, Int.reduceAdd, Int.reduceSub, Int.reduceMul, Int.reduceLT, Int.reduceLE, Int.reduceEq, Int.reduceNeg, Int.reduceToNat]
end Go.Proofs.Ytmkdhpjidhbijaa.Zt
