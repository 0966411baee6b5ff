/- Walks: looking through slices with a function; the graph's points, a section's end. -/
import Derived.Test.YtmkdhpjidhbijaaZcI
set_option linter.all false
namespace Go.Proofs.Ytmkdhpjidhbijaa.Zt
open Go Go.Zc
set_option maxRecDepth 10000

/-- The place of the first one, or -1. -/
def idxOf {α : Type} (p : α → Bool) (l : List α) : Int := match l.findIdx? p with
  | some i => (i : Int)
  | none => -1

theorem idxP_loop (fv : CV) (hf : fv.locv = false) (p : Pt → Bool) (hp : ∀ x H, call ctx fv [.agg (fP x)] H = some (.bool (p x), H)) : ∀ (s pre : List Pt), (pre ++ s).length ≤ 2 * Zc.small →
    slices_IndexFunc_Point_R0 ([(0, sl fP (pre ++ s)), (1, fv), (7, .int .i64 (pre ++ s).length), (8, .int .i64 pre.length)], ⟨[], []⟩) =
      match s.findIdx? p with
      | some i => some (.ret, [(4, .int .i64 ((pre.length + i : Nat) : Int))], ⟨[], []⟩)
      | none => some (.norm, [], ⟨[], []⟩)
  | [], pre, hm => by
    rw [slices_IndexFunc_Point_R0_eq]
    simp only [slices_IndexFunc_Point_B0, slices_IndexFunc_Point_K0_norm, slices_IndexFunc_Point_K0_ret, slices_IndexFunc_Point_K0_exit, List.findIdx?_nil, y1, y2, y3, y4, y5, y6, y7, y8, y9, keepE, keepB, chk, CV.locs, CV.locv, CV.refs, CV.ref, pureOp, repC, takeN, resV, enterC, Nat.reduceAdd, Nat.reduceSub, Nat.reduceMul, Nat.reduceLeDiff, Nat.reduceLT, Nat.reduceBEq, Nat.reduceBNe, Nat.reduceEqDiff, ↓reduceIte, Int.reduceAdd, Int.reduceSub, Int.reduceMul, Int.reduceLT, Int.reduceLE, Int.reduceEq, Int.reduceNeg, Int.reduceToNat]
  | x :: s, pre, hm => by
    have h1 : ((pre.length : Int) < (pre ++ x :: s).length) := by simp; omega
    have hw := wrapN (n := pre.length) (by simp at hm; omega)
    have ih := idxP_loop fv hf p hp s (pre ++ [x]) (by simpa using hm)
    have hpx := fun H => hp x H
    have hcv := chkV_of hf
    simp only [fP] at hpx
    simp only [List.append_assoc, List.cons_append, List.nil_append, List.length_append, List.length_cons, List.length_nil] at ih h1
    rw [slices_IndexFunc_Point_R0_eq]
    simp only [slices_IndexFunc_Point_B0, slices_IndexFunc_Point_K0_norm, slices_IndexFunc_Point_K0_ret, slices_IndexFunc_Point_K0_exit, h1, iaddr_midP, hpx, hw, hcv, List.append_assoc, List.cons_append, List.nil_append, List.length_append, List.length_cons, List.length_nil, y1, y2, y3, y4, y5, y6, y7, y8, y9, keepE, keepB, chk, CV.locs, CV.locv, CV.refs, CV.ref, pureOp, repC, takeN, resV, enterC, Nat.reduceAdd, Nat.reduceSub, Nat.reduceMul, Nat.reduceLeDiff, Nat.reduceLT, Nat.reduceBEq, Nat.reduceBNe, Nat.reduceEqDiff, ↓reduceIte, Int.reduceAdd, Int.reduceSub, Int.reduceMul, Int.reduceLT, Int.reduceLE, Int.reduceEq, Int.reduceNeg, Int.reduceToNat, ih]
    by_cases hA : p x = true
    · simp [hA, List.findIdx?_cons]
    · simp only [hA, Bool.false_eq_true, if_false, List.findIdx?_cons]
      cases hf : s.findIdx? p with
      | none => simp
      | some i => simp; omega

theorem idxP_F (fv : CV) (hf : fv.locv = false) (p : Pt → Bool) (hp : ∀ x H, call ctx fv [.agg (fP x)] H = some (.bool (p x), H)) (l : List Pt) (hm : l.length ≤ 2 * Zc.small) (st : Bool) (H : Heap) :
    slices_IndexFunc_Point_F st H [sl fP l, fv] = some (.int .i64 (idxOf p l), H) := by
  have e := idxP_loop fv hf p hp l [] hm
  simp only [List.nil_append, List.length_nil, Int.natCast_zero, Nat.zero_add] at e
  rw [slices_IndexFunc_Point_F_eq]
  simp only [slices_IndexFunc_Point_C, slices_IndexFunc_Point_L0_eq, e, idxOf, chkV_of hf, y1, y2, y3, y4, y5, y6, y7, y8, y9, keepE, keepB, chk, CV.locs, CV.locv, CV.refs, CV.ref, pureOp, repC, takeN, resV, enterC, Nat.reduceAdd, Nat.reduceSub, Nat.reduceMul, Nat.reduceLeDiff, Nat.reduceLT, Nat.reduceBEq, Nat.reduceBNe, Nat.reduceEqDiff, ↓reduceIte, Int.reduceAdd, Int.reduceSub, Int.reduceMul, Int.reduceLT, Int.reduceLE, Int.reduceEq, Int.reduceNeg, Int.reduceToNat]
  cases hf : l.findIdx? p <;> simp only [y1, y2, y3, y4, y5, y6, y7, y8, y9, keepE, keepB, chk, CV.locs, CV.locv, CV.refs, CV.ref, pureOp, repC, takeN, resV, enterC, Nat.reduceAdd, Nat.reduceSub, Nat.reduceMul, Nat.reduceLeDiff, Nat.reduceLT, Nat.reduceBEq, Nat.reduceBNe, Nat.reduceEqDiff, ↓reduceIte, Int.reduceAdd, Int.reduceSub, Int.reduceMul, Int.reduceLT, Int.reduceLE, Int.reduceEq, Int.reduceNeg, Int.reduceToNat]

theorem idxE_loop (fv : CV) (hf : fv.locv = false) (p : Ed → Bool) (hp : ∀ x H, call ctx fv [.agg (fE x)] H = some (.bool (p x), H)) : ∀ (s pre : List Ed), (pre ++ s).length ≤ 2 * Zc.small →
    slices_IndexFunc_End_R0 ([(0, sl fE (pre ++ s)), (1, fv), (7, .int .i64 (pre ++ s).length), (8, .int .i64 pre.length)], ⟨[], []⟩) =
      match s.findIdx? p with
      | some i => some (.ret, [(4, .int .i64 ((pre.length + i : Nat) : Int))], ⟨[], []⟩)
      | none => some (.norm, [], ⟨[], []⟩)
  | [], pre, hm => by
    rw [slices_IndexFunc_End_R0_eq]
    simp only [slices_IndexFunc_End_B0, slices_IndexFunc_End_K0_norm, slices_IndexFunc_End_K0_ret, slices_IndexFunc_End_K0_exit, List.findIdx?_nil, y1, y2, y3, y4, y5, y6, y7, y8, y9, keepE, keepB, chk, CV.locs, CV.locv, CV.refs, CV.ref, pureOp, repC, takeN, resV, enterC, Nat.reduceAdd, Nat.reduceSub, Nat.reduceMul, Nat.reduceLeDiff, Nat.reduceLT, Nat.reduceBEq, Nat.reduceBNe, Nat.reduceEqDiff, ↓reduceIte, Int.reduceAdd, Int.reduceSub, Int.reduceMul, Int.reduceLT, Int.reduceLE, Int.reduceEq, Int.reduceNeg, Int.reduceToNat]
  | x :: s, pre, hm => by
    have h1 : ((pre.length : Int) < (pre ++ x :: s).length) := by simp; omega
    have hw := wrapN (n := pre.length) (by simp at hm; omega)
    have ih := idxE_loop fv hf p hp s (pre ++ [x]) (by simpa using hm)
    have hpx := fun H => hp x H
    have hcv := chkV_of hf
    simp only [fE] at hpx
    simp only [List.append_assoc, List.cons_append, List.nil_append, List.length_append, List.length_cons, List.length_nil] at ih h1
    rw [slices_IndexFunc_End_R0_eq]
    simp only [slices_IndexFunc_End_B0, slices_IndexFunc_End_K0_norm, slices_IndexFunc_End_K0_ret, slices_IndexFunc_End_K0_exit, h1, iaddr_midE, hpx, hw, hcv, List.append_assoc, List.cons_append, List.nil_append, List.length_append, List.length_cons, List.length_nil, y1, y2, y3, y4, y5, y6, y7, y8, y9, keepE, keepB, chk, CV.locs, CV.locv, CV.refs, CV.ref, pureOp, repC, takeN, resV, enterC, Nat.reduceAdd, Nat.reduceSub, Nat.reduceMul, Nat.reduceLeDiff, Nat.reduceLT, Nat.reduceBEq, Nat.reduceBNe, Nat.reduceEqDiff, ↓reduceIte, Int.reduceAdd, Int.reduceSub, Int.reduceMul, Int.reduceLT, Int.reduceLE, Int.reduceEq, Int.reduceNeg, Int.reduceToNat, ih]
    by_cases hA : p x = true
    · simp [hA, List.findIdx?_cons]
    · simp only [hA, Bool.false_eq_true, if_false, List.findIdx?_cons]
      cases hf : s.findIdx? p with
      | none => simp
      | some i => simp; omega

theorem idxE_F (fv : CV) (hf : fv.locv = false) (p : Ed → Bool) (hp : ∀ x H, call ctx fv [.agg (fE x)] H = some (.bool (p x), H)) (l : List Ed) (hm : l.length ≤ 2 * Zc.small) (st : Bool) (H : Heap) :
    slices_IndexFunc_End_F st H [sl fE l, fv] = some (.int .i64 (idxOf p l), H) := by
  have e := idxE_loop fv hf p hp l [] hm
  simp only [List.nil_append, List.length_nil, Int.natCast_zero, Nat.zero_add] at e
  rw [slices_IndexFunc_End_F_eq]
  simp only [slices_IndexFunc_End_C, slices_IndexFunc_End_L0_eq, e, idxOf, chkV_of hf, y1, y2, y3, y4, y5, y6, y7, y8, y9, keepE, keepB, chk, CV.locs, CV.locv, CV.refs, CV.ref, pureOp, repC, takeN, resV, enterC, Nat.reduceAdd, Nat.reduceSub, Nat.reduceMul, Nat.reduceLeDiff, Nat.reduceLT, Nat.reduceBEq, Nat.reduceBNe, Nat.reduceEqDiff, ↓reduceIte, Int.reduceAdd, Int.reduceSub, Int.reduceMul, Int.reduceLT, Int.reduceLE, Int.reduceEq, Int.reduceNeg, Int.reduceToNat]
  cases hf : l.findIdx? p <;> simp only [y1, y2, y3, y4, y5, y6, y7, y8, y9, keepE, keepB, chk, CV.locs, CV.locv, CV.refs, CV.ref, pureOp, repC, takeN, resV, enterC, Nat.reduceAdd, Nat.reduceSub, Nat.reduceMul, Nat.reduceLeDiff, Nat.reduceLT, Nat.reduceBEq, Nat.reduceBNe, Nat.reduceEqDiff, ↓reduceIte, Int.reduceAdd, Int.reduceSub, Int.reduceMul, Int.reduceLT, Int.reduceLE, Int.reduceEq, Int.reduceNeg, Int.reduceToNat]

theorem idxL_loop (fv : CV) (hf : fv.locv = false) (p : (List Int) → Bool) (hp : ∀ x H, call ctx fv (fL x) H = some (.bool (p x), H)) : ∀ (s pre : List (List Int)), (pre ++ s).length ≤ 2 * Zc.small →
    slices_IndexFunc_int_R0 ([(0, sl fL (pre ++ s)), (1, fv), (7, .int .i64 (pre ++ s).length), (8, .int .i64 pre.length)], ⟨[], []⟩) =
      match s.findIdx? p with
      | some i => some (.ret, [(4, .int .i64 ((pre.length + i : Nat) : Int))], ⟨[], []⟩)
      | none => some (.norm, [], ⟨[], []⟩)
  | [], pre, hm => by
    rw [slices_IndexFunc_int_R0_eq]
    simp only [slices_IndexFunc_int_B0, slices_IndexFunc_int_K0_norm, slices_IndexFunc_int_K0_ret, slices_IndexFunc_int_K0_exit, List.findIdx?_nil, y1, y2, y3, y4, y5, y6, y7, y8, y9, keepE, keepB, chk, CV.locs, CV.locv, CV.refs, CV.ref, pureOp, repC, takeN, resV, enterC, Nat.reduceAdd, Nat.reduceSub, Nat.reduceMul, Nat.reduceLeDiff, Nat.reduceLT, Nat.reduceBEq, Nat.reduceBNe, Nat.reduceEqDiff, ↓reduceIte, Int.reduceAdd, Int.reduceSub, Int.reduceMul, Int.reduceLT, Int.reduceLE, Int.reduceEq, Int.reduceNeg, Int.reduceToNat]
  | x :: s, pre, hm => by
    have h1 : ((pre.length : Int) < (pre ++ x :: s).length) := by simp; omega
    have hw := wrapN (n := pre.length) (by simp at hm; omega)
    have ih := idxL_loop fv hf p hp s (pre ++ [x]) (by simpa using hm)
    have hpx := fun H => hp x H
    have hcv := chkV_of hf
    simp only [fL] at hpx
    simp only [List.append_assoc, List.cons_append, List.nil_append, List.length_append, List.length_cons, List.length_nil] at ih h1
    rw [slices_IndexFunc_int_R0_eq]
    simp only [slices_IndexFunc_int_B0, slices_IndexFunc_int_K0_norm, slices_IndexFunc_int_K0_ret, slices_IndexFunc_int_K0_exit, h1, iaddr_midL, hpx, hw, hcv, List.append_assoc, List.cons_append, List.nil_append, List.length_append, List.length_cons, List.length_nil, y1, y2, y3, y4, y5, y6, y7, y8, y9, keepE, keepB, chk, CV.locs, CV.locv, CV.refs, CV.ref, pureOp, repC, takeN, resV, enterC, Nat.reduceAdd, Nat.reduceSub, Nat.reduceMul, Nat.reduceLeDiff, Nat.reduceLT, Nat.reduceBEq, Nat.reduceBNe, Nat.reduceEqDiff, ↓reduceIte, Int.reduceAdd, Int.reduceSub, Int.reduceMul, Int.reduceLT, Int.reduceLE, Int.reduceEq, Int.reduceNeg, Int.reduceToNat, ih]
    by_cases hA : p x = true
    · simp [hA, List.findIdx?_cons]
    · simp only [hA, Bool.false_eq_true, if_false, List.findIdx?_cons]
      cases hf : s.findIdx? p with
      | none => simp
      | some i => simp; omega

theorem idxL_F (fv : CV) (hf : fv.locv = false) (p : (List Int) → Bool) (hp : ∀ x H, call ctx fv (fL x) H = some (.bool (p x), H)) (l : List (List Int)) (hm : l.length ≤ 2 * Zc.small) (st : Bool) (H : Heap) :
    slices_IndexFunc_int_F st H [sl fL l, fv] = some (.int .i64 (idxOf p l), H) := by
  have e := idxL_loop fv hf p hp l [] hm
  simp only [List.nil_append, List.length_nil, Int.natCast_zero, Nat.zero_add] at e
  rw [slices_IndexFunc_int_F_eq]
  simp only [slices_IndexFunc_int_C, slices_IndexFunc_int_L0_eq, e, idxOf, chkV_of hf, y1, y2, y3, y4, y5, y6, y7, y8, y9, keepE, keepB, chk, CV.locs, CV.locv, CV.refs, CV.ref, pureOp, repC, takeN, resV, enterC, Nat.reduceAdd, Nat.reduceSub, Nat.reduceMul, Nat.reduceLeDiff, Nat.reduceLT, Nat.reduceBEq, Nat.reduceBNe, Nat.reduceEqDiff, ↓reduceIte, Int.reduceAdd, Int.reduceSub, Int.reduceMul, Int.reduceLT, Int.reduceLE, Int.reduceEq, Int.reduceNeg, Int.reduceToNat]
  cases hf : l.findIdx? p <;> simp only [y1, y2, y3, y4, y5, y6, y7, y8, y9, keepE, keepB, chk, CV.locs, CV.locv, CV.refs, CV.ref, pureOp, repC, takeN, resV, enterC, Nat.reduceAdd, Nat.reduceSub, Nat.reduceMul, Nat.reduceLeDiff, Nat.reduceLT, Nat.reduceBEq, Nat.reduceBNe, Nat.reduceEqDiff, ↓reduceIte, Int.reduceAdd, Int.reduceSub, Int.reduceMul, Int.reduceLT, Int.reduceLE, Int.reduceEq, Int.reduceNeg, Int.reduceToNat]

theorem gpoint1_F (x : Pt) (n : Int) (st : Bool) (H : Heap) : graph_Graph_Point_1_F st H [.agg (fP x), .vp [.int .i64 n]] = some (.bool (decide (x.node = n)), H) := by
  rw [graph_Graph_Point_1_F_eq]
  simp only [graph_Graph_Point_1_C, fP, y1, y2, y3, y4, y5, y6, y7, y8, y9, keepE, keepB, chk, CV.locs, CV.locv, CV.refs, CV.ref, pureOp, repC, takeN, resV, enterC, Nat.reduceAdd, Nat.reduceSub, Nat.reduceMul, Nat.reduceLeDiff, Nat.reduceLT, Nat.reduceBEq, Nat.reduceBNe, Nat.reduceEqDiff, ↓reduceIte, Int.reduceAdd, Int.reduceSub, Int.reduceMul, Int.reduceLT, Int.reduceLE, Int.reduceEq, Int.reduceNeg, Int.reduceToNat]

theorem gpoint_F (l : Lay) (hl : l.ok) (n : Int) (st : Bool) (H : Heap) : graph_Graph_Point_F st H [.vp (layC l), .int .i64 n] = some (.int .i64 (match ptOf l n with | some i => (i : Int) | none => -1), H) := by
  rw [graph_Graph_Point_F_eq]
  have hz : binC .eql .ptr (.vp (layC l)) .nilp = some (.bool false) := rfl
  have hs := hl.pts
  have hF := fun st H => idxP_F (.fn (.func 99) [] [.vp [.int .i64 n]]) rfl (fun x => decide (x.node = n)) (fun x H => by
    simp only [graph_Graph_Point_1_call, fP, y1, y2, y3, y4, y5, y6, y7, y8, y9, keepE, keepB, chk, CV.locs, CV.locv, CV.refs, CV.ref, pureOp, repC, takeN, resV, enterC, Nat.reduceAdd, Nat.reduceSub, Nat.reduceMul, Nat.reduceLeDiff, Nat.reduceLT, Nat.reduceBEq, Nat.reduceBNe, Nat.reduceEqDiff, ↓reduceIte, Int.reduceAdd, Int.reduceSub, Int.reduceMul, Int.reduceLT, Int.reduceLE, Int.reduceEq, Int.reduceNeg, Int.reduceToNat]
    have := gpoint1_F x n
    simp only [fP] at this
    rw [this]) l.pts (by omega) st H
  have he : idxOf (fun x : Pt => decide (x.node = n)) l.pts = (match ptOf l n with | some i => (i : Int) | none => -1) := rfl
  rw [← he]
  simp only [graph_Graph_Point_C, hz, slices_IndexFunc_Point_call, hF, y1, y2, y3, y4, y5, y6, y7, y8, y9, keepE, keepB, chk, CV.locs, CV.locv, CV.refs, CV.ref, pureOp, repC, takeN, resV, enterC, Nat.reduceAdd, Nat.reduceSub, Nat.reduceMul, Nat.reduceLeDiff, Nat.reduceLT, Nat.reduceBEq, Nat.reduceBNe, Nat.reduceEqDiff, ↓reduceIte, Int.reduceAdd, Int.reduceSub, Int.reduceMul, Int.reduceLT, Int.reduceLE, Int.reduceEq, Int.reduceNeg, Int.reduceToNat]

/-! ### A section's end at a node -/
theorem Own.get {α : Type} {f : α → List CV} {sz : Nat} {bl : List Blk} {v : CV} {l : List α} (hf : Flat f sz) (h : Own f sz bl v l) {p s : List α} {x : α} (hl : l = p ++ x :: s) :
    ∃ m, (∀ k, iaddrC sz v (.int k p.length) = some (.op (.blk m) (p.length * sz))) ∧ ∃ cs, (∀ bx, Heap.get ⟨bx, bl⟩ (.blk m) = some cs) ∧ cs.drop (p.length * sz) = f x ++ s.flatMap f := by
  obtain ⟨m, h1, h2, h3⟩ := h.iaddr hf (k := .i64) (i := p.length) (by rw [hl]; simp)
  refine ⟨m, fun k => ?_, _, fun bx => get_blk bx bl m _ h2, by rw [hl]; exact drop_mid hf p s x⟩
  rw [h3] at h1 ⊢
  exact h1

theorem gat_loop (sec : Int) (l : List Ed) (hm : l.length ≤ 2 * Zc.small) (v : CV) (bl : List Blk) (hO : Own fE 2 bl v l) : ∀ (s p : List Ed), p ++ s = l →
    graph_Graph_at_R0 ([(1, .int .i64 sec), (11, v), (12, .int .i64 l.length), (13, .int .i64 p.length)], ⟨[], bl⟩) =
      match s.find? (fun x => x.s == sec) with
      | some x => some (.ret, [(6, sl fE [x])], ⟨[(8, fE x)], bl⟩)
      | none => some (.norm, [], ⟨[], bl⟩)
  | [], p, hp => by
    have h1 : ¬ ((p.length : Int) < l.length) := by rw [← hp]; simp
    rw [graph_Graph_at_R0_eq]
    simp only [graph_Graph_at_B0, graph_Graph_at_K0_norm, graph_Graph_at_K0_ret, graph_Graph_at_K0_exit, h1, hO.chkV, List.find?_nil, y1, y2, y3, y4, y5, y6, y7, y8, y9, keepE, keepB, chk, CV.locs, CV.locv, CV.refs, CV.ref, pureOp, repC, takeN, resV, enterC, Nat.reduceAdd, Nat.reduceSub, Nat.reduceMul, Nat.reduceLeDiff, Nat.reduceLT, Nat.reduceBEq, Nat.reduceBNe, Nat.reduceEqDiff, ↓reduceIte, Int.reduceAdd, Int.reduceSub, Int.reduceMul, Int.reduceLT, Int.reduceLE, Int.reduceEq, Int.reduceNeg, Int.reduceToNat]
  | x :: s, p, hp => by
    have hpl : p.length + 1 + s.length = l.length := by rw [← hp]; simp; omega
    have h1 : ((p.length : Int) < l.length) := by omega
    have hw := wrapN (n := p.length) (by omega)
    have ih := gat_loop sec l hm v bl hO s (p ++ [x]) (by simpa using hp)
    obtain ⟨m, hia, cs, hg, hd⟩ := Own.get flatE hO hp.symm
    simp only [fE] at hd
    simp only [List.append_assoc, List.cons_append, List.nil_append, List.length_append, List.length_cons, List.length_nil] at ih
    rw [graph_Graph_at_R0_eq]
    by_cases he : x.s = sec
    · simp only [graph_Graph_at_B0, graph_Graph_at_K0_norm, graph_Graph_at_K0_ret, graph_Graph_at_K0_exit, h1, hia, hg, hd, eq_true he, hO.chkV, sl, fE, List.flatMap_cons, List.flatMap_nil, List.find?_cons, beq_iff_eq, y1, y2, y3, y4, y5, y6, y7, y8, y9, keepE, keepB, chk, CV.locs, CV.locv, CV.refs, CV.ref, pureOp, repC, takeN, resV, enterC, Nat.reduceAdd, Nat.reduceSub, Nat.reduceMul, Nat.reduceLeDiff, Nat.reduceLT, Nat.reduceBEq, Nat.reduceBNe, Nat.reduceEqDiff, ↓reduceIte, Int.reduceAdd, Int.reduceSub, Int.reduceMul, Int.reduceLT, Int.reduceLE, Int.reduceEq, Int.reduceNeg, Int.reduceToNat]
      simp [he, fE]
    · simp only [graph_Graph_at_B0, graph_Graph_at_K0_norm, graph_Graph_at_K0_ret, graph_Graph_at_K0_exit, h1, hia, hg, hd, eq_false he, hw, hO.chkV, ih, y1, y2, y3, y4, y5, y6, y7, y8, y9, keepE, keepB, chk, CV.locs, CV.locv, CV.refs, CV.ref, pureOp, repC, takeN, resV, enterC, Nat.reduceAdd, Nat.reduceSub, Nat.reduceMul, Nat.reduceLeDiff, Nat.reduceLT, Nat.reduceBEq, Nat.reduceBNe, Nat.reduceEqDiff, ↓reduceIte, Int.reduceAdd, Int.reduceSub, Int.reduceMul, Int.reduceLT, Int.reduceLE, Int.reduceEq, Int.reduceNeg, Int.reduceToNat]
      simp [he]

theorem gat_F (l : Lay) (hl : l.ok) (sec at' : Int) (H : Heap) : graph_Graph_at_F false H [.vp (layC l), .int .i64 sec, .int .i64 at'] = some (sl fE (oneOf l sec at'), H) := by
  obtain ⟨v, bl, e, o, _⟩ := gends_F l hl at' false [] []
  have e2 := gat_loop sec (ends l at') (ends_len hl at') v bl o (ends l at') [] rfl
  simp only [List.nil_append, List.length_nil, Int.natCast_zero] at e2
  rw [graph_Graph_at_F_eq]
  simp only [graph_Graph_at_C, graph_Graph_at_L0_eq, graph_Graph_Ends_call, e, e2, o.len, o.chkV, oneOf, y1, y2, y3, y4, y5, y6, y7, y8, y9, keepE, keepB, chk, CV.locs, CV.locv, CV.refs, CV.ref, pureOp, repC, takeN, resV, enterC, Nat.reduceAdd, Nat.reduceSub, Nat.reduceMul, Nat.reduceLeDiff, Nat.reduceLT, Nat.reduceBEq, Nat.reduceBNe, Nat.reduceEqDiff, ↓reduceIte, Int.reduceAdd, Int.reduceSub, Int.reduceMul, Int.reduceLT, Int.reduceLE, Int.reduceEq, Int.reduceNeg, Int.reduceToNat]
  cases hf : (ends l at').find? (fun x => x.s == sec) <;> simp only [sl_nil fE, y1, y2, y3, y4, y5, y6, y7, y8, y9, keepE, keepB, chk, CV.locs, CV.locv, CV.refs, CV.ref, pureOp, repC, takeN, resV, enterC, Nat.reduceAdd, Nat.reduceSub, Nat.reduceMul, Nat.reduceLeDiff, Nat.reduceLT, Nat.reduceBEq, Nat.reduceBNe, Nat.reduceEqDiff, ↓reduceIte, Int.reduceAdd, Int.reduceSub, Int.reduceMul, Int.reduceLT, Int.reduceLE, Int.reduceEq, Int.reduceNeg, Int.reduceToNat]
end Go.Proofs.Ytmkdhpjidhbijaa.Zt
