/- Walks: whose a part is: views, who is found, who meets, who holds. -/
import Derived.Test.YtmjffmghkfappaaZcX
import Derived.Test.YtmjffmghkfappaaZcView
set_option linter.all false
namespace Go.Proofs.Ytmjffmghkfappaa.Zt
open Go Go.Zc
set_option maxRecDepth 10000

theorem idxV_loop (fv : CV) (hf : fv.locv = false) (p : Vw → Bool) (hp : ∀ x H, call ctx fv [.agg (fV x)] H = some (.bool (p x), H)) : ∀ (s pre : List Vw), (pre ++ s).length ≤ 2 * Zc.small →
    slices_IndexFunc_View_R0 ([(0, sl fV (pre ++ s)), (1, fv), (7, .int .i64 (pre ++ s).length), (8, .int .i64 pre.length)], ⟨[], []⟩) =
      match s.findIdx? p with
      | some i => some (.ret, [(4, .int .i64 ((pre.length + i : Nat) : Int))], ⟨[], []⟩)
      | none => some (.norm, [], ⟨[], []⟩)
  | [], pre, hm => by
    rw [slices_IndexFunc_View_R0_eq]
    simp only [slices_IndexFunc_View_B0, slices_IndexFunc_View_K0_norm, slices_IndexFunc_View_K0_ret, slices_IndexFunc_View_K0_exit, List.findIdx?_nil, y1, y2, y3, y4, y5, y6, y7, y8, y9, keepE, keepB, chk, CV.locs, CV.locv, CV.refs, CV.ref, pureOp, repC, takeN, resV, enterC, Nat.reduceAdd, Nat.reduceSub, Nat.reduceMul, Nat.reduceLeDiff, Nat.reduceLT, Nat.reduceBEq, Nat.reduceBNe, Nat.reduceEqDiff, ↓reduceIte, Int.reduceAdd, Int.reduceSub, Int.reduceMul, Int.reduceLT, Int.reduceLE, Int.reduceEq, Int.reduceNeg, Int.reduceToNat]
  | x :: s, pre, hm => by
    have h1 : ((pre.length : Int) < (pre ++ x :: s).length) := by simp; omega
    have hw := wrapN (n := pre.length) (by simp at hm; omega)
    have ih := idxV_loop fv hf p hp s (pre ++ [x]) (by simpa using hm)
    have hpx := fun H => hp x H
    have hcv := chkV_of hf
    simp only [fV] at hpx
    simp only [List.append_assoc, List.cons_append, List.nil_append, List.length_append, List.length_cons, List.length_nil] at ih h1
    rw [slices_IndexFunc_View_R0_eq]
    simp only [slices_IndexFunc_View_B0, slices_IndexFunc_View_K0_norm, slices_IndexFunc_View_K0_ret, slices_IndexFunc_View_K0_exit, h1, iaddr_midV, hpx, hw, hcv, List.append_assoc, List.cons_append, List.nil_append, List.length_append, List.length_cons, List.length_nil, y1, y2, y3, y4, y5, y6, y7, y8, y9, keepE, keepB, chk, CV.locs, CV.locv, CV.refs, CV.ref, pureOp, repC, takeN, resV, enterC, Nat.reduceAdd, Nat.reduceSub, Nat.reduceMul, Nat.reduceLeDiff, Nat.reduceLT, Nat.reduceBEq, Nat.reduceBNe, Nat.reduceEqDiff, ↓reduceIte, Int.reduceAdd, Int.reduceSub, Int.reduceMul, Int.reduceLT, Int.reduceLE, Int.reduceEq, Int.reduceNeg, Int.reduceToNat, ih]
    by_cases hA : p x = true
    · simp [hA, List.findIdx?_cons]
    · simp only [hA, Bool.false_eq_true, if_false, List.findIdx?_cons]
      cases hf : s.findIdx? p with
      | none => simp
      | some i => simp; omega
theorem idxV_F (fv : CV) (hf : fv.locv = false) (p : Vw → Bool) (hp : ∀ x H, call ctx fv [.agg (fV x)] H = some (.bool (p x), H)) (l : List Vw) (hm : l.length ≤ 2 * Zc.small) (st : Bool) (H : Heap) :
    slices_IndexFunc_View_F st H [sl fV l, fv] = some (.int .i64 (idxOf p l), H) := by
  have e := idxV_loop fv hf p hp l [] hm
  simp only [List.nil_append, List.length_nil, Int.natCast_zero, Nat.zero_add] at e
  rw [slices_IndexFunc_View_F_eq]
  simp only [slices_IndexFunc_View_C, slices_IndexFunc_View_L0_eq, e, idxOf, chkV_of hf, y1, y2, y3, y4, y5, y6, y7, y8, y9, keepE, keepB, chk, CV.locs, CV.locv, CV.refs, CV.ref, pureOp, repC, takeN, resV, enterC, Nat.reduceAdd, Nat.reduceSub, Nat.reduceMul, Nat.reduceLeDiff, Nat.reduceLT, Nat.reduceBEq, Nat.reduceBNe, Nat.reduceEqDiff, ↓reduceIte, Int.reduceAdd, Int.reduceSub, Int.reduceMul, Int.reduceLT, Int.reduceLE, Int.reduceEq, Int.reduceNeg, Int.reduceToNat]
  cases hf : l.findIdx? p <;> simp only [y1, y2, y3, y4, y5, y6, y7, y8, y9, keepE, keepB, chk, CV.locs, CV.locv, CV.refs, CV.ref, pureOp, repC, takeN, resV, enterC, Nat.reduceAdd, Nat.reduceSub, Nat.reduceMul, Nat.reduceLeDiff, Nat.reduceLT, Nat.reduceBEq, Nat.reduceBNe, Nat.reduceEqDiff, ↓reduceIte, Int.reduceAdd, Int.reduceSub, Int.reduceMul, Int.reduceLT, Int.reduceLE, Int.reduceEq, Int.reduceNeg, Int.reduceToNat]

theorem idxI_loop (fv : CV) (hf : fv.locv = false) (p : Int → Bool) (hp : ∀ x H, call ctx fv [.int .i64 x] H = some (.bool (p x), H)) : ∀ (s pre : List Int), (pre ++ s).length ≤ 2 * Zc.small →
    slices_IndexFunc_Int_R0 ([(0, sl fI (pre ++ s)), (1, fv), (7, .int .i64 (pre ++ s).length), (8, .int .i64 pre.length)], ⟨[], []⟩) =
      match s.findIdx? p with
      | some i => some (.ret, [(4, .int .i64 ((pre.length + i : Nat) : Int))], ⟨[], []⟩)
      | none => some (.norm, [], ⟨[], []⟩)
  | [], pre, hm => by
    rw [slices_IndexFunc_Int_R0_eq]
    simp only [slices_IndexFunc_Int_B0, slices_IndexFunc_Int_K0_norm, slices_IndexFunc_Int_K0_ret, slices_IndexFunc_Int_K0_exit, List.findIdx?_nil, y1, y2, y3, y4, y5, y6, y7, y8, y9, keepE, keepB, chk, CV.locs, CV.locv, CV.refs, CV.ref, pureOp, repC, takeN, resV, enterC, Nat.reduceAdd, Nat.reduceSub, Nat.reduceMul, Nat.reduceLeDiff, Nat.reduceLT, Nat.reduceBEq, Nat.reduceBNe, Nat.reduceEqDiff, ↓reduceIte, Int.reduceAdd, Int.reduceSub, Int.reduceMul, Int.reduceLT, Int.reduceLE, Int.reduceEq, Int.reduceNeg, Int.reduceToNat]
  | x :: s, pre, hm => by
    have h1 : ((pre.length : Int) < (pre ++ x :: s).length) := by simp; omega
    have hw := wrapN (n := pre.length) (by simp at hm; omega)
    have ih := idxI_loop fv hf p hp s (pre ++ [x]) (by simpa using hm)
    have hpx := fun H => hp x H
    have hcv := chkV_of hf
    simp only [List.append_assoc, List.cons_append, List.nil_append, List.length_append, List.length_cons, List.length_nil] at ih h1
    rw [slices_IndexFunc_Int_R0_eq]
    simp only [slices_IndexFunc_Int_B0, slices_IndexFunc_Int_K0_norm, slices_IndexFunc_Int_K0_ret, slices_IndexFunc_Int_K0_exit, h1, iaddr_midI, hpx, hw, hcv, List.append_assoc, List.cons_append, List.nil_append, List.length_append, List.length_cons, List.length_nil, y1, y2, y3, y4, y5, y6, y7, y8, y9, keepE, keepB, chk, CV.locs, CV.locv, CV.refs, CV.ref, pureOp, repC, takeN, resV, enterC, Nat.reduceAdd, Nat.reduceSub, Nat.reduceMul, Nat.reduceLeDiff, Nat.reduceLT, Nat.reduceBEq, Nat.reduceBNe, Nat.reduceEqDiff, ↓reduceIte, Int.reduceAdd, Int.reduceSub, Int.reduceMul, Int.reduceLT, Int.reduceLE, Int.reduceEq, Int.reduceNeg, Int.reduceToNat, ih]
    by_cases hA : p x = true
    · simp [hA, List.findIdx?_cons]
    · simp only [hA, Bool.false_eq_true, if_false, List.findIdx?_cons]
      cases hf : s.findIdx? p with
      | none => simp
      | some i => simp; omega
theorem idxI_F (fv : CV) (hf : fv.locv = false) (p : Int → Bool) (hp : ∀ x H, call ctx fv [.int .i64 x] H = some (.bool (p x), H)) (l : List Int) (hm : l.length ≤ 2 * Zc.small) (st : Bool) (H : Heap) :
    slices_IndexFunc_Int_F st H [sl fI l, fv] = some (.int .i64 (idxOf p l), H) := by
  have e := idxI_loop fv hf p hp l [] hm
  simp only [List.nil_append, List.length_nil, Int.natCast_zero, Nat.zero_add] at e
  rw [slices_IndexFunc_Int_F_eq]
  simp only [slices_IndexFunc_Int_C, slices_IndexFunc_Int_L0_eq, e, idxOf, chkV_of hf, y1, y2, y3, y4, y5, y6, y7, y8, y9, keepE, keepB, chk, CV.locs, CV.locv, CV.refs, CV.ref, pureOp, repC, takeN, resV, enterC, Nat.reduceAdd, Nat.reduceSub, Nat.reduceMul, Nat.reduceLeDiff, Nat.reduceLT, Nat.reduceBEq, Nat.reduceBNe, Nat.reduceEqDiff, ↓reduceIte, Int.reduceAdd, Int.reduceSub, Int.reduceMul, Int.reduceLT, Int.reduceLE, Int.reduceEq, Int.reduceNeg, Int.reduceToNat]
  cases hf : l.findIdx? p <;> simp only [y1, y2, y3, y4, y5, y6, y7, y8, y9, keepE, keepB, chk, CV.locs, CV.locv, CV.refs, CV.ref, pureOp, repC, takeN, resV, enterC, Nat.reduceAdd, Nat.reduceSub, Nat.reduceMul, Nat.reduceLeDiff, Nat.reduceLT, Nat.reduceBEq, Nat.reduceBNe, Nat.reduceEqDiff, ↓reduceIte, Int.reduceAdd, Int.reduceSub, Int.reduceMul, Int.reduceLT, Int.reduceLE, Int.reduceEq, Int.reduceNeg, Int.reduceToNat]

/-! ### A train's view -/
theorem ofind1_F (x : Vw) (n : Int) (st : Bool) (H : Heap) : own_Find_1_F st H [.agg (fV x), .vp [.int .i64 n]] = some (.bool (decide (x.id = n)), H) := by
  rw [own_Find_1_F_eq]
  simp only [own_Find_1_C, fV, y1, y2, y3, y4, y5, y6, y7, y8, y9, keepE, keepB, chk, CV.locs, CV.locv, CV.refs, CV.ref, pureOp, repC, takeN, resV, enterC, Nat.reduceAdd, Nat.reduceSub, Nat.reduceMul, Nat.reduceLeDiff, Nat.reduceLT, Nat.reduceBEq, Nat.reduceBNe, Nat.reduceEqDiff, ↓reduceIte, Int.reduceAdd, Int.reduceSub, Int.reduceMul, Int.reduceLT, Int.reduceLE, Int.reduceEq, Int.reduceNeg, Int.reduceToNat]
theorem ofind_F (vs : List Vw) (hm : vs.length ≤ 2 * Zc.small) (id : Int) (bx : List (Nat × List CV)) (bl : List Blk) : own_Find_F bx bl [sl fV vs, .int .i64 id] = some (.tup [.agg (viewC (findV vs id)), .bool (findV vs id).isSome], ⟨bx, bl ++ [.cells [.int .i64 id]]⟩) := by
  rw [own_Find_F_eq]
  have hc : ∀ (y : Vw) (H' : Heap), call ctx (.fn (.func 57) [] [.vp [.int .i64 id]]) [.agg (fV y)] H' = some (.bool (decide (y.id = id)), H') := by
    intro y H'
    have := ofind1_F y id
    simp only [fV] at this
    simp only [own_Find_1_call, fV, y1, y2, y3, y4, y5, y6, y7, y8, y9, keepE, keepB, chk, CV.locs, CV.locv, CV.refs, CV.ref, pureOp, repC, takeN, resV, enterC, Nat.reduceAdd, Nat.reduceSub, Nat.reduceMul, Nat.reduceLeDiff, Nat.reduceLT, Nat.reduceBEq, Nat.reduceBNe, Nat.reduceEqDiff, ↓reduceIte, Int.reduceAdd, Int.reduceSub, Int.reduceMul, Int.reduceLT, Int.reduceLE, Int.reduceEq, Int.reduceNeg, Int.reduceToNat, this]
  have hix := fun st H => idxV_F (.fn (.func 57) [] [.vp [.int .i64 id]]) rfl (fun y => decide (y.id = id)) hc vs hm st H
  have hfi := find_idx (fun y : Vw => decide (y.id = id)) vs
  have hg1 : ∀ bx, Heap.get ⟨bx, bl ++ [Blk.cells [.int .i64 id]]⟩ (.blk bl.length) = some [.int .i64 id] := fun bx => get_blk _ _ _ _ (by simp)
  cases hf : vs.findIdx? (fun y => decide (y.id = id)) with
  | none =>
    have hfd : findV vs id = none := hfi.2 hf
    have hid : idxOf (fun y : Vw => decide (y.id = id)) vs = -1 := by simp only [idxOf, hf]
    simp only [own_Find_C, hg1, slices_IndexFunc_View_call, hix, hid, hfd, viewC, y1, y2, y3, y4, y5, y6, y7, y8, y9, keepE, keepB, chk, CV.locs, CV.locv, CV.refs, CV.ref, pureOp, repC, takeN, resV, enterC, Nat.reduceAdd, Nat.reduceSub, Nat.reduceMul, Nat.reduceLeDiff, Nat.reduceLT, Nat.reduceBEq, Nat.reduceBNe, Nat.reduceEqDiff, ↓reduceIte, Int.reduceAdd, Int.reduceSub, Int.reduceMul, Int.reduceLT, Int.reduceLE, Int.reduceEq, Int.reduceNeg, Int.reduceToNat]
  | some i =>
    obtain ⟨hi, hfd'⟩ := hfi.1 i hf
    have hfd : findV vs id = some vs[i] := hfd'
    have hid : idxOf (fun y : Vw => decide (y.id = id)) vs = i := by simp only [idxOf, hf]
    have hi0 : ¬ ((i : Int) < 0) := by omega
    simp only [own_Find_C, hg1, slices_IndexFunc_View_call, hix, hid, hi0, iaddr_atV hi, hfd, viewC, fV, y1, y2, y3, y4, y5, y6, y7, y8, y9, keepE, keepB, chk, CV.locs, CV.locv, CV.refs, CV.ref, pureOp, repC, takeN, resV, enterC, Nat.reduceAdd, Nat.reduceSub, Nat.reduceMul, Nat.reduceLeDiff, Nat.reduceLT, Nat.reduceBEq, Nat.reduceBNe, Nat.reduceEqDiff, ↓reduceIte, Int.reduceAdd, Int.reduceSub, Int.reduceMul, Int.reduceLT, Int.reduceLE, Int.reduceEq, Int.reduceNeg, Int.reduceToNat]

theorem rfind_loop (id : Int) (bl : List Blk) : ∀ (s p : List Vw), (p ++ s).length ≤ 2 * Zc.small →
    r12_Find_R0 ([(0, sl fV (p ++ s)), (1, .int .i64 id), (4, .op (.loc 4) 0), (6, .int .i64 p.length)], ⟨[(4, [.int .i64 0, .bool false, .nils])], bl⟩) =
      match s.find? (fun v => decide (v.id = id)) with
      | some v => some (.ret, [(4, .op (.loc 4) 0), (5, .bool true)], ⟨[(4, fV v)], bl⟩)
      | none => some (.norm, [(4, .op (.loc 4) 0)], ⟨[(4, [.int .i64 0, .bool false, .nils])], bl⟩)
  | [], p, hm => by
    rw [r12_Find_R0_eq]
    simp only [r12_Find_B0, r12_Find_K0_norm, r12_Find_K0_ret, r12_Find_K0_exit, List.find?_nil, y1, y2, y3, y4, y5, y6, y7, y8, y9, keepE, keepB, chk, CV.locs, CV.locv, CV.refs, CV.ref, pureOp, repC, takeN, resV, enterC, Nat.reduceAdd, Nat.reduceSub, Nat.reduceMul, Nat.reduceLeDiff, Nat.reduceLT, Nat.reduceBEq, Nat.reduceBNe, Nat.reduceEqDiff, ↓reduceIte, Int.reduceAdd, Int.reduceSub, Int.reduceMul, Int.reduceLT, Int.reduceLE, Int.reduceEq, Int.reduceNeg, Int.reduceToNat]
  | v :: s, p, hm => by
    have h4 : ((p.length : Int) < (p ++ v :: s).length) := by simp; omega
    have hw := wrapN (n := p.length) (by simp at hm; omega)
    have ih := rfind_loop id bl s (p ++ [v]) (by simpa using hm)
    simp only [List.append_assoc, List.cons_append, List.nil_append, List.length_append, List.length_cons, List.length_nil] at ih h4
    rw [r12_Find_R0_eq]
    by_cases h : v.id = id
    · simp only [r12_Find_B0, r12_Find_K0_norm, r12_Find_K0_ret, r12_Find_K0_exit, List.append_assoc, List.cons_append, List.nil_append, List.length_append, List.length_cons, List.length_nil, h4, iaddr_midV, eq_true h, List.find?_cons, fV, y1, y2, y3, y4, y5, y6, y7, y8, y9, keepE, keepB, chk, CV.locs, CV.locv, CV.refs, CV.ref, pureOp, repC, takeN, resV, enterC, Nat.reduceAdd, Nat.reduceSub, Nat.reduceMul, Nat.reduceLeDiff, Nat.reduceLT, Nat.reduceBEq, Nat.reduceBNe, Nat.reduceEqDiff, ↓reduceIte, Int.reduceAdd, Int.reduceSub, Int.reduceMul, Int.reduceLT, Int.reduceLE, Int.reduceEq, Int.reduceNeg, Int.reduceToNat]
    · simp only [r12_Find_B0, r12_Find_K0_norm, r12_Find_K0_ret, r12_Find_K0_exit, List.append_assoc, List.cons_append, List.nil_append, List.length_append, List.length_cons, List.length_nil, h4, hw, iaddr_midV, eq_false h, List.find?_cons, ih, y1, y2, y3, y4, y5, y6, y7, y8, y9, keepE, keepB, chk, CV.locs, CV.locv, CV.refs, CV.ref, pureOp, repC, takeN, resV, enterC, Nat.reduceAdd, Nat.reduceSub, Nat.reduceMul, Nat.reduceLeDiff, Nat.reduceLT, Nat.reduceBEq, Nat.reduceBNe, Nat.reduceEqDiff, ↓reduceIte, Int.reduceAdd, Int.reduceSub, Int.reduceMul, Int.reduceLT, Int.reduceLE, Int.reduceEq, Int.reduceNeg, Int.reduceToNat]
theorem rfind_F (vs : List Vw) (hm : vs.length ≤ 2 * Zc.small) (id : Int) (bx : List (Nat × List CV)) (bl : List Blk) : r12_Find_F bx bl [sl fV vs, .int .i64 id] = some (.tup [.agg (viewC (findV vs id)), .bool (findV vs id).isSome], ⟨bx, bl⟩) := by
  have e := rfind_loop id bl vs [] hm
  simp only [List.nil_append, List.length_nil, Int.natCast_zero] at e
  rw [r12_Find_F_eq]
  cases hf : findV vs id with
  | none =>
    have hf' : vs.find? (fun v => decide (v.id = id)) = none := hf
    simp only [hf'] at e
    simp only [r12_Find_C, r12_Find_L0_eq, e, viewC, y1, y2, y3, y4, y5, y6, y7, y8, y9, keepE, keepB, chk, CV.locs, CV.locv, CV.refs, CV.ref, pureOp, repC, takeN, resV, enterC, Nat.reduceAdd, Nat.reduceSub, Nat.reduceMul, Nat.reduceLeDiff, Nat.reduceLT, Nat.reduceBEq, Nat.reduceBNe, Nat.reduceEqDiff, ↓reduceIte, Int.reduceAdd, Int.reduceSub, Int.reduceMul, Int.reduceLT, Int.reduceLE, Int.reduceEq, Int.reduceNeg, Int.reduceToNat]
  | some v =>
    have hf' : vs.find? (fun v => decide (v.id = id)) = some v := hf
    simp only [hf'] at e
    simp only [r12_Find_C, r12_Find_L0_eq, e, viewC, fV, y1, y2, y3, y4, y5, y6, y7, y8, y9, keepE, keepB, chk, CV.locs, CV.locv, CV.refs, CV.ref, pureOp, repC, takeN, resV, enterC, Nat.reduceAdd, Nat.reduceSub, Nat.reduceMul, Nat.reduceLeDiff, Nat.reduceLT, Nat.reduceBEq, Nat.reduceBNe, Nat.reduceEqDiff, ↓reduceIte, Int.reduceAdd, Int.reduceSub, Int.reduceMul, Int.reduceLT, Int.reduceLE, Int.reduceEq, Int.reduceNeg, Int.reduceToNat]

/-! ### Have two lists something in common -/
theorem cmeets1_F (x : Int) (b : List Int) (hm : b.length ≤ 2 * Zc.small) (st : Bool) (H : Heap) : chain_Meets_1_F st H [.int .i64 x, .vp [sl fI b]] = some (.bool (decide (x ∈ b)), H) := by
  rw [chain_Meets_1_F_eq]
  simp only [chain_Meets_1_C, slices_Contains_int_call, contains_F x b hm, y1, y2, y3, y4, y5, y6, y7, y8, y9, keepE, keepB, chk, CV.locs, CV.locv, CV.refs, CV.ref, pureOp, repC, takeN, resV, enterC, Nat.reduceAdd, Nat.reduceSub, Nat.reduceMul, Nat.reduceLeDiff, Nat.reduceLT, Nat.reduceBEq, Nat.reduceBNe, Nat.reduceEqDiff, ↓reduceIte, Int.reduceAdd, Int.reduceSub, Int.reduceMul, Int.reduceLT, Int.reduceLE, Int.reduceEq, Int.reduceNeg, Int.reduceToNat]
theorem meets_idx (a b : List Int) : (0 ≤ idxOf (fun y : Int => decide (y ∈ b)) a) = (meetsB a b = true) := by
  rw [idxOf_nonneg, meetsB, List.any_eq_true]
theorem cmeets_F (a b : List Int) (ha : a.length ≤ 2 * Zc.small) (hm : b.length ≤ 2 * Zc.small) (st : Bool) (H : Heap) : chain_Meets_F st H [sl fI a, sl fI b] = some (.bool (meetsB a b), H) := by
  rw [chain_Meets_F_eq]
  have hc : ∀ (y : Int) (H' : Heap), call ctx (.fn (.func 101) [] [.vp [sl fI b]]) [.int .i64 y] H' = some (.bool (decide (y ∈ b)), H') := by
    intro y H'
    have := cmeets1_F y b hm
    simp only [chain_Meets_1_call, y1, y2, y3, y4, y5, y6, y7, y8, y9, keepE, keepB, chk, CV.locs, CV.locv, CV.refs, CV.ref, pureOp, repC, takeN, resV, enterC, Nat.reduceAdd, Nat.reduceSub, Nat.reduceMul, Nat.reduceLeDiff, Nat.reduceLT, Nat.reduceBEq, Nat.reduceBNe, Nat.reduceEqDiff, ↓reduceIte, Int.reduceAdd, Int.reduceSub, Int.reduceMul, Int.reduceLT, Int.reduceLE, Int.reduceEq, Int.reduceNeg, Int.reduceToNat, this]
  have hix := fun st H => idxI_F (.fn (.func 101) [] [.vp [sl fI b]]) rfl (fun y => decide (y ∈ b)) hc a ha st H
  have hcf : ∀ st H, slices_ContainsFunc_int_F st H [sl fI a, .fn (.func 101) [] [.vp [sl fI b]]] = some (.bool (meetsB a b), H) := by
    intro st H
    have hd := meets_idx a b
    rw [slices_ContainsFunc_int_F_eq]
    cases hb : meetsB a b with
    | true =>
      rw [hb] at hd
      simp only [eq_self] at hd
      simp only [slices_ContainsFunc_int_C, slices_IndexFunc_Int_call, hix, hd, y1, y2, y3, y4, y5, y6, y7, y8, y9, keepE, keepB, chk, CV.locs, CV.locv, CV.refs, CV.ref, pureOp, repC, takeN, resV, enterC, Nat.reduceAdd, Nat.reduceSub, Nat.reduceMul, Nat.reduceLeDiff, Nat.reduceLT, Nat.reduceBEq, Nat.reduceBNe, Nat.reduceEqDiff, ↓reduceIte, Int.reduceAdd, Int.reduceSub, Int.reduceMul, Int.reduceLT, Int.reduceLE, Int.reduceEq, Int.reduceNeg, Int.reduceToNat]
    | false =>
      rw [hb] at hd
      simp only [Bool.false_eq_true] at hd
      simp only [slices_ContainsFunc_int_C, slices_IndexFunc_Int_call, hix, hd, y1, y2, y3, y4, y5, y6, y7, y8, y9, keepE, keepB, chk, CV.locs, CV.locv, CV.refs, CV.ref, pureOp, repC, takeN, resV, enterC, Nat.reduceAdd, Nat.reduceSub, Nat.reduceMul, Nat.reduceLeDiff, Nat.reduceLT, Nat.reduceBEq, Nat.reduceBNe, Nat.reduceEqDiff, ↓reduceIte, Int.reduceAdd, Int.reduceSub, Int.reduceMul, Int.reduceLT, Int.reduceLE, Int.reduceEq, Int.reduceNeg, Int.reduceToNat]
  simp only [chain_Meets_C, slices_ContainsFunc_int_call, hcf, y1, y2, y3, y4, y5, y6, y7, y8, y9, keepE, keepB, chk, CV.locs, CV.locv, CV.refs, CV.ref, pureOp, repC, takeN, resV, enterC, Nat.reduceAdd, Nat.reduceSub, Nat.reduceMul, Nat.reduceLeDiff, Nat.reduceLT, Nat.reduceBEq, Nat.reduceBNe, Nat.reduceEqDiff, ↓reduceIte, Int.reduceAdd, Int.reduceSub, Int.reduceMul, Int.reduceLT, Int.reduceLE, Int.reduceEq, Int.reduceNeg, Int.reduceToNat]

theorem rmeets_loop (b : List Int) (hb : b.length ≤ Zc.small) : ∀ (s p : List Int), (p ++ s).length ≤ 2 * Zc.small →
    r11_Meets_R0 ([(0, sl fI (p ++ s)), (1, sl fI b), (5, .int .i64 p.length)], ⟨[], []⟩) = if meetsB s b = true then some (.ret, [(4, .bool true)], ⟨[], []⟩) else some (.norm, [], ⟨[], []⟩)
  | [], p, hm => by
    rw [r11_Meets_R0_eq]
    simp only [r11_Meets_B0, r11_Meets_K0_norm, r11_Meets_K0_ret, r11_Meets_K0_exit, meetsB, List.any_nil, y1, y2, y3, y4, y5, y6, y7, y8, y9, keepE, keepB, chk, CV.locs, CV.locv, CV.refs, CV.ref, pureOp, repC, takeN, resV, enterC, Nat.reduceAdd, Nat.reduceSub, Nat.reduceMul, Nat.reduceLeDiff, Nat.reduceLT, Nat.reduceBEq, Nat.reduceBNe, Nat.reduceEqDiff, ↓reduceIte, Int.reduceAdd, Int.reduceSub, Int.reduceMul, Int.reduceLT, Int.reduceLE, Int.reduceEq, Int.reduceNeg, Int.reduceToNat]
  | x :: s, p, hm => by
    have h4 : ((p.length : Int) < (p ++ x :: s).length) := by simp; omega
    have hw := wrapN (n := p.length) (by simp at hm; omega)
    have ih := rmeets_loop b hb s (p ++ [x]) (by simpa using hm)
    have hF := fun st H => has_F b x hb st H
    have hd : meetsB (x :: s) b = (decide (x ∈ b) || meetsB s b) := rfl
    simp only [List.append_assoc, List.cons_append, List.nil_append, List.length_append, List.length_cons, List.length_nil] at ih h4
    rw [r11_Meets_R0_eq, hd]
    by_cases hx : x ∈ b
    · simp only [eq_true hx] at hF ⊢
      simp only [r11_Meets_B0, r11_Meets_K0_norm, r11_Meets_K0_ret, r11_Meets_K0_exit, List.append_assoc, List.cons_append, List.nil_append, List.length_append, List.length_cons, List.length_nil, h4, iaddr_midI, r01_Has_call, hF, y1, y2, y3, y4, y5, y6, y7, y8, y9, keepE, keepB, chk, CV.locs, CV.locv, CV.refs, CV.ref, pureOp, repC, takeN, resV, enterC, Nat.reduceAdd, Nat.reduceSub, Nat.reduceMul, Nat.reduceLeDiff, Nat.reduceLT, Nat.reduceBEq, Nat.reduceBNe, Nat.reduceEqDiff, ↓reduceIte, Int.reduceAdd, Int.reduceSub, Int.reduceMul, Int.reduceLT, Int.reduceLE, Int.reduceEq, Int.reduceNeg, Int.reduceToNat]
    · simp only [eq_false hx] at hF ⊢
      simp only [r11_Meets_B0, r11_Meets_K0_norm, r11_Meets_K0_ret, r11_Meets_K0_exit, List.append_assoc, List.cons_append, List.nil_append, List.length_append, List.length_cons, List.length_nil, h4, hw, iaddr_midI, r01_Has_call, hF, ih, y1, y2, y3, y4, y5, y6, y7, y8, y9, keepE, keepB, chk, CV.locs, CV.locv, CV.refs, CV.ref, pureOp, repC, takeN, resV, enterC, Nat.reduceAdd, Nat.reduceSub, Nat.reduceMul, Nat.reduceLeDiff, Nat.reduceLT, Nat.reduceBEq, Nat.reduceBNe, Nat.reduceEqDiff, ↓reduceIte, Int.reduceAdd, Int.reduceSub, Int.reduceMul, Int.reduceLT, Int.reduceLE, Int.reduceEq, Int.reduceNeg, Int.reduceToNat]
theorem rmeets_F (a b : List Int) (ha : a.length ≤ 2 * Zc.small) (hb : b.length ≤ Zc.small) (st : Bool) (H : Heap) : r11_Meets_F st H [sl fI a, sl fI b] = some (.bool (meetsB a b), H) := by
  have e := rmeets_loop b hb a [] ha
  simp only [List.nil_append, List.length_nil, Int.natCast_zero] at e
  rw [r11_Meets_F_eq]
  cases h : meetsB a b with
  | true =>
    simp only [h, if_true] at e
    simp only [r11_Meets_C, r11_Meets_L0_eq, e, y1, y2, y3, y4, y5, y6, y7, y8, y9, keepE, keepB, chk, CV.locs, CV.locv, CV.refs, CV.ref, pureOp, repC, takeN, resV, enterC, Nat.reduceAdd, Nat.reduceSub, Nat.reduceMul, Nat.reduceLeDiff, Nat.reduceLT, Nat.reduceBEq, Nat.reduceBNe, Nat.reduceEqDiff, ↓reduceIte, Int.reduceAdd, Int.reduceSub, Int.reduceMul, Int.reduceLT, Int.reduceLE, Int.reduceEq, Int.reduceNeg, Int.reduceToNat]
  | false =>
    simp only [h, Bool.false_eq_true, if_false] at e
    simp only [r11_Meets_C, r11_Meets_L0_eq, e, y1, y2, y3, y4, y5, y6, y7, y8, y9, keepE, keepB, chk, CV.locs, CV.locv, CV.refs, CV.ref, pureOp, repC, takeN, resV, enterC, Nat.reduceAdd, Nat.reduceSub, Nat.reduceMul, Nat.reduceLeDiff, Nat.reduceLT, Nat.reduceBEq, Nat.reduceBNe, Nat.reduceEqDiff, ↓reduceIte, Int.reduceAdd, Int.reduceSub, Int.reduceMul, Int.reduceLT, Int.reduceLE, Int.reduceEq, Int.reduceNeg, Int.reduceToNat]

/-! ### May a train be in a part, and is it sure -/
structure VsOk (vs : List Vw) : Prop where
  len : vs.length ≤ Zc.small
  span : ∀ v ∈ vs, v.span.length ≤ Zc.small
theorem findV_mem {vs : List Vw} {id : Int} {v : Vw} (h : findV vs id = some v) : v ∈ vs ∧ v.id = id := by
  refine ⟨List.mem_of_find?_eq_some h, ?_⟩
  simpa using List.find?_some h
theorem parts_getD {l : Lay} {p : Nat} (h : p < l.parts.length) : l.parts.getD p [] = l.parts[p] := by
  simp [List.getD, h]
theorem oholds_F (l : Lay) (hl : l.ok) (vs : List Vw) (hv : VsOk vs) (p : Nat) (hp : p < l.parts.length) (id : Int) (st : Bool) (H : Heap) : own_holds_F st H [.agg (layC l), sl fV vs, .int .i64 p, .int .i64 id] = some (.bool (holdsV l vs p id), H) := by
  rw [own_holds_F_eq]
  have hvl := hv.len
  have hF := fun bx bl => ofind_F vs (by omega) id bx bl
  have hpl := hl.part _ (List.getElem_mem hp)
  have hpg := parts_getD hp
  cases hf : findV vs id with
  | none =>
    simp only [hf, viewC] at hF
    have hh : holdsV l vs p id = false := by simp only [holdsV, hf]
    simp only [own_holds_C, own_Find_call, hF, hh, y1, y2, y3, y4, y5, y6, y7, y8, y9, keepE, keepB, chk, CV.locs, CV.locv, CV.refs, CV.ref, pureOp, repC, takeN, resV, enterC, Nat.reduceAdd, Nat.reduceSub, Nat.reduceMul, Nat.reduceLeDiff, Nat.reduceLT, Nat.reduceBEq, Nat.reduceBNe, Nat.reduceEqDiff, ↓reduceIte, Int.reduceAdd, Int.reduceSub, Int.reduceMul, Int.reduceLT, Int.reduceLE, Int.reduceEq, Int.reduceNeg, Int.reduceToNat]
  | some v =>
    simp only [hf, viewC, fV] at hF
    have hsp := hv.span v (findV_mem hf).1
    have hM := fun st H => cmeets_F v.span l.parts[p] (by omega) (by omega) st H
    cases hs : v.sure with
    | false =>
      have hh : holdsV l vs p id = false := by simp only [holdsV, hf, hs, Bool.false_and]
      simp only [hs] at hF
      simp only [own_holds_C, own_Find_call, hF, hh, y1, y2, y3, y4, y5, y6, y7, y8, y9, keepE, keepB, chk, CV.locs, CV.locv, CV.refs, CV.ref, pureOp, repC, takeN, resV, enterC, Nat.reduceAdd, Nat.reduceSub, Nat.reduceMul, Nat.reduceLeDiff, Nat.reduceLT, Nat.reduceBEq, Nat.reduceBNe, Nat.reduceEqDiff, ↓reduceIte, Int.reduceAdd, Int.reduceSub, Int.reduceMul, Int.reduceLT, Int.reduceLE, Int.reduceEq, Int.reduceNeg, Int.reduceToNat]
    | true =>
      have hh : holdsV l vs p id = meetsB v.span l.parts[p] := by simp only [holdsV, hf, hs, Bool.true_and, hpg]
      simp only [hs] at hF
      simp only [own_holds_C, own_Find_call, hF, iaddr_atL hp, chain_Meets_call, hM, hh, y1, y2, y3, y4, y5, y6, y7, y8, y9, keepE, keepB, chk, CV.locs, CV.locv, CV.refs, CV.ref, pureOp, repC, takeN, resV, enterC, Nat.reduceAdd, Nat.reduceSub, Nat.reduceMul, Nat.reduceLeDiff, Nat.reduceLT, Nat.reduceBEq, Nat.reduceBNe, Nat.reduceEqDiff, ↓reduceIte, Int.reduceAdd, Int.reduceSub, Int.reduceMul, Int.reduceLT, Int.reduceLE, Int.reduceEq, Int.reduceNeg, Int.reduceToNat]
theorem rholds_F (l : Lay) (hl : l.ok) (vs : List Vw) (hv : VsOk vs) (p : Nat) (hp : p < l.parts.length) (id : Int) (st : Bool) (H : Heap) : r12_holds_F st H [.agg (layC l), sl fV vs, .int .i64 p, .int .i64 id] = some (.bool (holdsV l vs p id), H) := by
  rw [r12_holds_F_eq]
  have hvl := hv.len
  have hF := fun bx bl => rfind_F vs (by omega) id bx bl
  have hpl := hl.part _ (List.getElem_mem hp)
  have hpg := parts_getD hp
  cases hf : findV vs id with
  | none =>
    simp only [hf, viewC] at hF
    have hh : holdsV l vs p id = false := by simp only [holdsV, hf]
    simp only [r12_holds_C, r12_Find_call, hF, hh, y1, y2, y3, y4, y5, y6, y7, y8, y9, keepE, keepB, chk, CV.locs, CV.locv, CV.refs, CV.ref, pureOp, repC, takeN, resV, enterC, Nat.reduceAdd, Nat.reduceSub, Nat.reduceMul, Nat.reduceLeDiff, Nat.reduceLT, Nat.reduceBEq, Nat.reduceBNe, Nat.reduceEqDiff, ↓reduceIte, Int.reduceAdd, Int.reduceSub, Int.reduceMul, Int.reduceLT, Int.reduceLE, Int.reduceEq, Int.reduceNeg, Int.reduceToNat]
  | some v =>
    simp only [hf, viewC, fV] at hF
    have hsp := hv.span v (findV_mem hf).1
    have hM := fun st H => rmeets_F v.span l.parts[p] (by omega) (by omega) st H
    cases hs : v.sure with
    | false =>
      have hh : holdsV l vs p id = false := by simp only [holdsV, hf, hs, Bool.false_and]
      simp only [hs] at hF
      simp only [r12_holds_C, r12_Find_call, hF, hh, y1, y2, y3, y4, y5, y6, y7, y8, y9, keepE, keepB, chk, CV.locs, CV.locv, CV.refs, CV.ref, pureOp, repC, takeN, resV, enterC, Nat.reduceAdd, Nat.reduceSub, Nat.reduceMul, Nat.reduceLeDiff, Nat.reduceLT, Nat.reduceBEq, Nat.reduceBNe, Nat.reduceEqDiff, ↓reduceIte, Int.reduceAdd, Int.reduceSub, Int.reduceMul, Int.reduceLT, Int.reduceLE, Int.reduceEq, Int.reduceNeg, Int.reduceToNat]
    | true =>
      have hh : holdsV l vs p id = meetsB v.span l.parts[p] := by simp only [holdsV, hf, hs, Bool.true_and, hpg]
      simp only [hs] at hF
      simp only [r12_holds_C, r12_Find_call, hF, iaddr_atL hp, r11_Meets_call, hM, hh, y1, y2, y3, y4, y5, y6, y7, y8, y9, keepE, keepB, chk, CV.locs, CV.locv, CV.refs, CV.ref, pureOp, repC, takeN, resV, enterC, Nat.reduceAdd, Nat.reduceSub, Nat.reduceMul, Nat.reduceLeDiff, Nat.reduceLT, Nat.reduceBEq, Nat.reduceBNe, Nat.reduceEqDiff, ↓reduceIte, Int.reduceAdd, Int.reduceSub, Int.reduceMul, Int.reduceLT, Int.reduceLE, Int.reduceEq, Int.reduceNeg, Int.reduceToNat]
end Go.Proofs.Ytmjffmghkfappaa.Zt
