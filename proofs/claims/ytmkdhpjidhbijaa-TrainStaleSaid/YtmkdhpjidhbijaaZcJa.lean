/- Walks: slices.Clone; a trail, and what may be behind it. -/
import Derived.Test.YtmkdhpjidhbijaaZcI
import Derived.Test.YtmkdhpjidhbijaaZcTrain
set_option linter.all false
namespace Go.Proofs.Ytmkdhpjidhbijaa.Zt
open Go Go.Zc
set_option maxRecDepth 10000

theorem snapI1 (st : Bool) (H : Heap) (x : Int) : ∀ c ∈ fI x, snap H st false c = some c := snap_I H st false 7 x
/-- Own, of a literal without elements. -/
theorem own_empty {α : Type} (f : α → List CV) (sz : Nat) (bl : List Blk) : Own f sz (bl ++ [.cells []]) (.os sz (.blk bl.length) 0 0) [] := .inr ⟨bl.length, rfl, by simp⟩

theorem clone_F (l : List Int) (h0 : l ≠ []) (hm : l.length ≤ 4 * Zc.small) (bl : List Blk) :
    ∃ v bl', (∀ st bx, slices_Clone_int_F st ⟨bx, bl⟩ [sl fI l] = some (v, ⟨bx, bl'⟩)) ∧ Own fI 1 bl' v l ∧ (∀ (k : Nat) (b : Blk), bl[k]? = some b → bl'[k]? = some b) ∧ (∀ k, blkOf v = some k → bl.length ≤ k) := by
  have hn : binC .eql .sl (sl fI l) .nils = some (.bool false) := by
    cases l with
    | nil => cases h0 rfl
    | cons a r => rfl
  obtain ⟨v1, bl1, e1, o1, _⟩ := (own_empty fI 1 []).appSl flatI (bytes := 8) (zero := [.int .i64 0]) (by decide) rfl rfl l (by unfold Zc.small at hm; simp; omega)
  rw [List.nil_append] at o1 e1
  obtain ⟨v2, bl2, e2, o2, h3, h4⟩ := o1.handed' flatI bl (fun st H x => snapI1 st H x)
  refine ⟨v2, bl2, fun st bx => ?_, o2, h3, h4⟩
  rw [slices_Clone_int_F_eq]
  simp only [List.length_nil] at e1
  simp only [slices_Clone_int_C, hn, e1, e2, y1, y2, y3, y4, y5, y6, y7, y8, y9, keepE, keepB, chk, CV.locs, CV.locv, CV.refs, CV.ref, pureOp, repC, takeN, resV, enterC, Nat.reduceAdd, Nat.reduceSub, Nat.reduceMul, Nat.reduceLeDiff, Nat.reduceLT, Nat.reduceBEq, Nat.reduceBNe, Nat.reduceEqDiff, ↓reduceIte, Int.reduceAdd, Int.reduceSub, Int.reduceMul, Int.reduceLT, Int.reduceLE, Int.reduceEq, Int.reduceNeg, Int.reduceToNat]

theorem tjoin_loop (was : List Int) (hm : was.length ≤ Zc.small) : ∀ (s pre out : List Int) (v : CV) (bl : List Blk), pre ++ s = was → out.length + s.length ≤ 2 * Zc.small → Own fI 1 bl v out →
    ∃ v' bl', train_Join_R0 ([(5, v), (28, sl fI was), (29, .int .i64 was.length), (30, .int .i64 pre.length)], ⟨[], bl⟩) = some (.norm, [(5, v')], ⟨[], bl'⟩) ∧ Own fI 1 bl' v' (joinL out s)
  | [], pre, out, v, bl, hp, ho, hO => by
    have h1 : ¬ ((pre.length : Int) < was.length) := by rw [← hp]; simp
    refine ⟨v, bl, ?_, hO⟩
    rw [train_Join_R0_eq]
    simp only [train_Join_B0, train_Join_K0_norm, train_Join_K0_ret, train_Join_K0_exit, h1, hO.chkV, y1, y2, y3, y4, y5, y6, y7, y8, y9, keepE, keepB, chk, CV.locs, CV.locv, CV.refs, CV.ref, pureOp, repC, takeN, resV, enterC, Nat.reduceAdd, Nat.reduceSub, Nat.reduceMul, Nat.reduceLeDiff, Nat.reduceLT, Nat.reduceBEq, Nat.reduceBNe, Nat.reduceEqDiff, ↓reduceIte, Int.reduceAdd, Int.reduceSub, Int.reduceMul, Int.reduceLT, Int.reduceLE, Int.reduceEq, Int.reduceNeg, Int.reduceToNat]
  | x :: s, pre, out, v, bl, hp, ho, hO => by
    have hpl : pre.length + 1 + s.length = was.length := by rw [← hp]; simp; omega
    have h1 : ((pre.length : Int) < was.length) := by omega
    have hw := wrapN (n := pre.length) (by omega)
    have hi : iaddrC 1 (sl fI was) (.int .i64 pre.length) = some (.vp (.int .i64 x :: s.flatMap fI)) := by rw [← hp]; exact iaddr_midI _ pre s x
    simp only [List.length_cons] at ho
    have hsn := fun bx st => snapI_own hO bx st
    have hcF := fun st H => contains_F x out (by omega) st H
    by_cases hx : x ∈ out
    · obtain ⟨v', bl', e, o⟩ := tjoin_loop was hm s (pre ++ [x]) out v bl (by simpa using hp) (by omega) hO
      rw [show (pre ++ [x]).length = pre.length + 1 by simp] at e
      refine ⟨v', bl', ?_, by simpa only [joinL, if_pos hx] using o⟩
      simp only [eq_true hx] at hcF
      rw [train_Join_R0_eq]
      simp only [train_Join_B0, train_Join_K0_norm, train_Join_K0_ret, train_Join_K0_exit, h1, hi, hw, hO.chkV, hO.locv, hO.one, hO.cells, hsn, slices_Contains_int_call, hcF, e, y1, y2, y3, y4, y5, y6, y7, y8, y9, keepE, keepB, chk, CV.locs, CV.locv, CV.refs, CV.ref, pureOp, repC, takeN, resV, enterC, Nat.reduceAdd, Nat.reduceSub, Nat.reduceMul, Nat.reduceLeDiff, Nat.reduceLT, Nat.reduceBEq, Nat.reduceBNe, Nat.reduceEqDiff, ↓reduceIte, Int.reduceAdd, Int.reduceSub, Int.reduceMul, Int.reduceLT, Int.reduceLE, Int.reduceEq, Int.reduceNeg, Int.reduceToNat]
    · obtain ⟨v1, bl1, e1, o1, _⟩ := hO.app1 flatI (bytes := 8) (zero := [.int .i64 0]) (by decide) rfl rfl x (by unfold Zc.small at ho; omega)
      obtain ⟨v', bl', e, o⟩ := tjoin_loop was hm s (pre ++ [x]) (out ++ [x]) v1 bl1 (by simpa using hp) (by simp; omega) o1
      rw [show (pre ++ [x]).length = pre.length + 1 by simp] at e
      refine ⟨v', bl', ?_, by simpa only [joinL, if_neg hx] using o⟩
      simp only [eq_false hx] at hcF
      simp only [fI] at e1
      rw [train_Join_R0_eq]
      simp only [train_Join_B0, train_Join_K0_norm, train_Join_K0_ret, train_Join_K0_exit, h1, hi, hw, hO.chkV, hO.locv, hO.one, hO.cells, hsn, slices_Contains_int_call, hcF, e1, o1.chkV, e, y1, y2, y3, y4, y5, y6, y7, y8, y9, keepE, keepB, chk, CV.locs, CV.locv, CV.refs, CV.ref, pureOp, repC, takeN, resV, enterC, Nat.reduceAdd, Nat.reduceSub, Nat.reduceMul, Nat.reduceLeDiff, Nat.reduceLT, Nat.reduceBEq, Nat.reduceBNe, Nat.reduceEqDiff, ↓reduceIte, Int.reduceAdd, Int.reduceSub, Int.reduceMul, Int.reduceLT, Int.reduceLE, Int.reduceEq, Int.reduceNeg, Int.reduceToNat]

theorem tjoin_F (trail was : List Int) (h0 : trail ≠ []) (ht : trail.length ≤ Zc.small) (hm : was.length ≤ Zc.small) (st : Bool) (H : Heap) :
    train_Join_F st H [sl fI trail, sl fI was] = some (sl fI (joinT trail was), H) := by
  obtain ⟨v, bl, e, hO, _⟩ := clone_F trail h0 (by omega) []
  obtain ⟨hl, hlast⟩ := last_at h0
  have hp : ((0 : Int) < trail.length) := by omega
  have hw1 : IntKind.i64.wrap ((trail.length : Int) - 1) = ((trail.length - 1 : Nat) : Int) := by rw [wrap64 (by omega) (by unfold Zc.small at ht; omega)]; omega
  have hia := iaddr_atI (k := .i64) hl
  rw [hlast] at hia
  have hix := fun st H => index_F (trail.getLastD 0) was (by omega) st H
  rw [train_Join_F_eq]
  cases hf : was.findIdx? (fun x => decide (trail.getLastD 0 = x)) with
  | none =>
    have hid : idxOf (fun x => decide (trail.getLastD 0 = x)) was = -1 := by simp only [idxOf, hf]
    have hb : behindL (trail.getLastD 0) was = was := by simp only [behindL, hf]
    obtain ⟨v', bl', e2, o2⟩ := tjoin_loop was hm was [] trail v bl rfl (by omega) hO
    simp only [List.nil_append, List.length_nil, Int.natCast_zero] at e2
    have hs := fun bx => o2.snapV flatI bx st _ (snap_I ⟨bx, bl'⟩ st false 6)
    simp only [hid] at hix
    simp only [train_Join_C, train_Join_L0_eq, slices_Clone_int_call, e, hp, hw1, hia, slices_Index_int_call, hix, hO.chkV, e2, o2.locv, o2.one, o2.cells, hs, joinT, hb, y1, y2, y3, y4, y5, y6, y7, y8, y9, keepE, keepB, chk, CV.locs, CV.locv, CV.refs, CV.ref, pureOp, repC, takeN, resV, enterC, Nat.reduceAdd, Nat.reduceSub, Nat.reduceMul, Nat.reduceLeDiff, Nat.reduceLT, Nat.reduceBEq, Nat.reduceBNe, Nat.reduceEqDiff, ↓reduceIte, Int.reduceAdd, Int.reduceSub, Int.reduceMul, Int.reduceLT, Int.reduceLE, Int.reduceEq, Int.reduceNeg, Int.reduceToNat]
  | some i =>
    have hid : idxOf (fun x => decide (trail.getLastD 0 = x)) was = i := by simp only [idxOf, hf]
    have hb : behindL (trail.getLastD 0) was = was.drop (i + 1) := by simp only [behindL, hf]
    have hi : i < was.length := by
      obtain ⟨h, _⟩ := List.findIdx?_eq_some_iff_getElem.1 hf
      exact h
    have hw2 := wrapN (n := i) (by omega)
    have hi0 : (0 : Int) ≤ i := by omega
    have hsl := slc_lo flatI was (i + 1) (by omega) .i64
    have hdl : (was.drop (i + 1)).length ≤ Zc.small := by rw [List.length_drop]; omega
    obtain ⟨v', bl', e2, o2⟩ := tjoin_loop (was.drop (i + 1)) hdl (was.drop (i + 1)) [] trail v bl rfl (by omega) hO
    simp only [List.nil_append, List.length_nil, Int.natCast_zero] at e2
    have hs := fun bx => o2.snapV flatI bx st _ (snap_I ⟨bx, bl'⟩ st false 6)
    simp only [hid] at hix
    simp only [train_Join_C, train_Join_L0_eq, slices_Clone_int_call, e, hp, hw1, hw2, hi0, hia, hsl, slices_Index_int_call, hix, hO.chkV, e2, o2.locv, o2.one, o2.cells, hs, joinT, hb, y1, y2, y3, y4, y5, y6, y7, y8, y9, keepE, keepB, chk, CV.locs, CV.locv, CV.refs, CV.ref, pureOp, repC, takeN, resV, enterC, Nat.reduceAdd, Nat.reduceSub, Nat.reduceMul, Nat.reduceLeDiff, Nat.reduceLT, Nat.reduceBEq, Nat.reduceBNe, Nat.reduceEqDiff, ↓reduceIte, Int.reduceAdd, Int.reduceSub, Int.reduceMul, Int.reduceLT, Int.reduceLE, Int.reduceEq, Int.reduceNeg, Int.reduceToNat]

theorem rjoin_done (trail was : List Int) (f i : Nat) (hf : f ≠ 0) :
    r10_Join_R0 ([(0, sl fI trail), (1, sl fI was), (5, .int .i64 f), (6, .int .i64 i)], ⟨[], []⟩) = some (.norm, [(0, sl fI trail), (1, sl fI was), (5, .int .i64 f)], ⟨[], []⟩) := by
  have h0 : ¬ ((f : Int) = 0) := by omega
  rw [r10_Join_R0_eq]
  by_cases h1 : ((i : Int) < was.length)
  · by_cases h2 : ((0 : Int) < trail.length)
    · simp only [r10_Join_B0, r10_Join_K0_norm, r10_Join_K0_ret, r10_Join_K0_exit, eq_true h1, eq_true h2, eq_false h0, y1, y2, y3, y4, y5, y6, y7, y8, y9, keepE, keepB, chk, CV.locs, CV.locv, CV.refs, CV.ref, pureOp, repC, takeN, resV, enterC, Nat.reduceAdd, Nat.reduceSub, Nat.reduceMul, Nat.reduceLeDiff, Nat.reduceLT, Nat.reduceBEq, Nat.reduceBNe, Nat.reduceEqDiff, ↓reduceIte, Int.reduceAdd, Int.reduceSub, Int.reduceMul, Int.reduceLT, Int.reduceLE, Int.reduceEq, Int.reduceNeg, Int.reduceToNat]
    · simp only [r10_Join_B0, r10_Join_K0_norm, r10_Join_K0_ret, r10_Join_K0_exit, eq_true h1, eq_false h2, y1, y2, y3, y4, y5, y6, y7, y8, y9, keepE, keepB, chk, CV.locs, CV.locv, CV.refs, CV.ref, pureOp, repC, takeN, resV, enterC, Nat.reduceAdd, Nat.reduceSub, Nat.reduceMul, Nat.reduceLeDiff, Nat.reduceLT, Nat.reduceBEq, Nat.reduceBNe, Nat.reduceEqDiff, ↓reduceIte, Int.reduceAdd, Int.reduceSub, Int.reduceMul, Int.reduceLT, Int.reduceLE, Int.reduceEq, Int.reduceNeg, Int.reduceToNat]
  · simp only [r10_Join_B0, r10_Join_K0_norm, r10_Join_K0_ret, r10_Join_K0_exit, eq_false h1, y1, y2, y3, y4, y5, y6, y7, y8, y9, keepE, keepB, chk, CV.locs, CV.locv, CV.refs, CV.ref, pureOp, repC, takeN, resV, enterC, Nat.reduceAdd, Nat.reduceSub, Nat.reduceMul, Nat.reduceLeDiff, Nat.reduceLT, Nat.reduceBEq, Nat.reduceBNe, Nat.reduceEqDiff, ↓reduceIte, Int.reduceAdd, Int.reduceSub, Int.reduceMul, Int.reduceLT, Int.reduceLE, Int.reduceEq, Int.reduceNeg, Int.reduceToNat]
theorem rjoin_find (trail was : List Int) (h0 : trail ≠ []) (ht : trail.length ≤ Zc.small) (hm : was.length ≤ Zc.small) : ∀ (s pre : List Int), pre ++ s = was →
    r10_Join_R0 ([(0, sl fI trail), (1, sl fI was), (5, .int .i64 0), (6, .int .i64 pre.length)], ⟨[], []⟩) =
      some (.norm, [(0, sl fI trail), (1, sl fI was), (5, .int .i64 (frm (trail.getLastD 0) s pre.length))], ⟨[], []⟩)
  | [], pre, hp => by
    have h1 : ¬ ((pre.length : Int) < was.length) := by rw [← hp]; simp
    rw [r10_Join_R0_eq]
    simp only [r10_Join_B0, r10_Join_K0_norm, r10_Join_K0_ret, r10_Join_K0_exit, h1, frm, Int.natCast_zero, y1, y2, y3, y4, y5, y6, y7, y8, y9, keepE, keepB, chk, CV.locs, CV.locv, CV.refs, CV.ref, pureOp, repC, takeN, resV, enterC, Nat.reduceAdd, Nat.reduceSub, Nat.reduceMul, Nat.reduceLeDiff, Nat.reduceLT, Nat.reduceBEq, Nat.reduceBNe, Nat.reduceEqDiff, ↓reduceIte, Int.reduceAdd, Int.reduceSub, Int.reduceMul, Int.reduceLT, Int.reduceLE, Int.reduceEq, Int.reduceNeg, Int.reduceToNat]
  | x :: s, pre, hp => by
    have hpl : pre.length + 1 + s.length = was.length := by rw [← hp]; simp; omega
    have h1 : ((pre.length : Int) < was.length) := by omega
    have hw := wrapN (n := pre.length) (by omega)
    have hi : iaddrC 1 (sl fI was) (.int .i64 pre.length) = some (.vp (.int .i64 x :: s.flatMap fI)) := by rw [← hp]; exact iaddr_midI _ pre s x
    obtain ⟨hl, hlast⟩ := last_at h0
    have hpp : ((0 : Int) < trail.length) := by omega
    have hw1 : IntKind.i64.wrap ((trail.length : Int) - 1) = ((trail.length - 1 : Nat) : Int) := by rw [wrap64 (by omega) (by unfold Zc.small at ht; omega)]; omega
    have hia := iaddr_atI (k := .i64) hl
    rw [hlast] at hia
    rw [r10_Join_R0_eq]
    by_cases hx : x = trail.getLastD 0
    · have hd := rjoin_done trail was (pre.length + 1) (pre.length + 1) (by omega)
      simp only [r10_Join_B0, r10_Join_K0_norm, r10_Join_K0_ret, r10_Join_K0_exit, eq_true h1, eq_true hpp, hi, hw1, hia, eq_true hx, hw, hd, frm, y1, y2, y3, y4, y5, y6, y7, y8, y9, keepE, keepB, chk, CV.locs, CV.locv, CV.refs, CV.ref, pureOp, repC, takeN, resV, enterC, Nat.reduceAdd, Nat.reduceSub, Nat.reduceMul, Nat.reduceLeDiff, Nat.reduceLT, Nat.reduceBEq, Nat.reduceBNe, Nat.reduceEqDiff, ↓reduceIte, Int.reduceAdd, Int.reduceSub, Int.reduceMul, Int.reduceLT, Int.reduceLE, Int.reduceEq, Int.reduceNeg, Int.reduceToNat]
    · have ih := rjoin_find trail was h0 ht hm s (pre ++ [x]) (by simpa using hp)
      rw [show (pre ++ [x]).length = pre.length + 1 by simp] at ih
      simp only [r10_Join_B0, r10_Join_K0_norm, r10_Join_K0_ret, r10_Join_K0_exit, eq_true h1, eq_true hpp, hi, hw1, hia, eq_false hx, hw, frm, ih, y1, y2, y3, y4, y5, y6, y7, y8, y9, keepE, keepB, chk, CV.locs, CV.locv, CV.refs, CV.ref, pureOp, repC, takeN, resV, enterC, Nat.reduceAdd, Nat.reduceSub, Nat.reduceMul, Nat.reduceLeDiff, Nat.reduceLT, Nat.reduceBEq, Nat.reduceBNe, Nat.reduceEqDiff, ↓reduceIte, Int.reduceAdd, Int.reduceSub, Int.reduceMul, Int.reduceLT, Int.reduceLE, Int.reduceEq, Int.reduceNeg, Int.reduceToNat]
theorem rjoin_loop (was : List Int) (hm : was.length ≤ Zc.small) : ∀ (s pre out : List Int) (v : CV) (bl : List Blk), pre ++ s = was → out.length + s.length ≤ Zc.small → Own fI 1 bl v out →
    ∃ v' bl', r10_Join_R2 ([(1, sl fI was), (7, v), (8, .int .i64 pre.length)], ⟨[], bl⟩) = some (.norm, [(7, v')], ⟨[], bl'⟩) ∧ Own fI 1 bl' v' (joinL out s)
  | [], pre, out, v, bl, hp, ho, hO => by
    have h1 : ¬ ((pre.length : Int) < was.length) := by rw [← hp]; simp
    refine ⟨v, bl, ?_, hO⟩
    rw [r10_Join_R2_eq]
    simp only [r10_Join_B2, r10_Join_K2_norm, r10_Join_K2_ret, r10_Join_K2_exit, h1, hO.chkV, y1, y2, y3, y4, y5, y6, y7, y8, y9, keepE, keepB, chk, CV.locs, CV.locv, CV.refs, CV.ref, pureOp, repC, takeN, resV, enterC, Nat.reduceAdd, Nat.reduceSub, Nat.reduceMul, Nat.reduceLeDiff, Nat.reduceLT, Nat.reduceBEq, Nat.reduceBNe, Nat.reduceEqDiff, ↓reduceIte, Int.reduceAdd, Int.reduceSub, Int.reduceMul, Int.reduceLT, Int.reduceLE, Int.reduceEq, Int.reduceNeg, Int.reduceToNat]
  | x :: s, pre, out, v, bl, hp, ho, hO => by
    have hpl : pre.length + 1 + s.length = was.length := by rw [← hp]; simp; omega
    have h1 : ((pre.length : Int) < was.length) := by omega
    have hw := wrapN (n := pre.length) (by omega)
    have hi : iaddrC 1 (sl fI was) (.int .i64 pre.length) = some (.vp (.int .i64 x :: s.flatMap fI)) := by rw [← hp]; exact iaddr_midI _ pre s x
    simp only [List.length_cons] at ho
    have hsn := fun bx st => snapI_own hO bx st
    have hcF := fun st H => has_F out x (by omega) st H
    by_cases hx : x ∈ out
    · obtain ⟨v', bl', e, o⟩ := rjoin_loop was hm s (pre ++ [x]) out v bl (by simpa using hp) (by omega) hO
      rw [show (pre ++ [x]).length = pre.length + 1 by simp] at e
      refine ⟨v', bl', ?_, by simpa only [joinL, if_pos hx] using o⟩
      simp only [eq_true hx] at hcF
      rw [r10_Join_R2_eq]
      simp only [r10_Join_B2, r10_Join_K2_norm, r10_Join_K2_ret, r10_Join_K2_exit, h1, hi, hw, hO.chkV, hO.locv, hO.one, hO.cells, hsn, r01_Has_call, hcF, e, y1, y2, y3, y4, y5, y6, y7, y8, y9, keepE, keepB, chk, CV.locs, CV.locv, CV.refs, CV.ref, pureOp, repC, takeN, resV, enterC, Nat.reduceAdd, Nat.reduceSub, Nat.reduceMul, Nat.reduceLeDiff, Nat.reduceLT, Nat.reduceBEq, Nat.reduceBNe, Nat.reduceEqDiff, ↓reduceIte, Int.reduceAdd, Int.reduceSub, Int.reduceMul, Int.reduceLT, Int.reduceLE, Int.reduceEq, Int.reduceNeg, Int.reduceToNat]
    · obtain ⟨v1, bl1, e1, o1, _⟩ := hO.app1 flatI (bytes := 8) (zero := [.int .i64 0]) (by decide) rfl rfl x (by unfold Zc.small at ho; omega)
      obtain ⟨v', bl', e, o⟩ := rjoin_loop was hm s (pre ++ [x]) (out ++ [x]) v1 bl1 (by simpa using hp) (by simp; omega) o1
      rw [show (pre ++ [x]).length = pre.length + 1 by simp] at e
      refine ⟨v', bl', ?_, by simpa only [joinL, if_neg hx] using o⟩
      simp only [eq_false hx] at hcF
      simp only [fI] at e1
      rw [r10_Join_R2_eq]
      simp only [r10_Join_B2, r10_Join_K2_norm, r10_Join_K2_ret, r10_Join_K2_exit, h1, hi, hw, hO.chkV, hO.locv, hO.one, hO.cells, hsn, r01_Has_call, hcF, e1, o1.chkV, e, y1, y2, y3, y4, y5, y6, y7, y8, y9, keepE, keepB, chk, CV.locs, CV.locv, CV.refs, CV.ref, pureOp, repC, takeN, resV, enterC, Nat.reduceAdd, Nat.reduceSub, Nat.reduceMul, Nat.reduceLeDiff, Nat.reduceLT, Nat.reduceBEq, Nat.reduceBNe, Nat.reduceEqDiff, ↓reduceIte, Int.reduceAdd, Int.reduceSub, Int.reduceMul, Int.reduceLT, Int.reduceLE, Int.reduceEq, Int.reduceNeg, Int.reduceToNat]

theorem rjoin_F (trail was : List Int) (h0 : trail ≠ []) (ht : trail.length + was.length ≤ Zc.small) (st : Bool) (H : Heap) :
    r10_Join_F st H [sl fI trail, sl fI was] = some (sl fI (joinT trail was), H) := by
  have e0 := rjoin_find trail was h0 (by omega) (by omega) was [] rfl
  simp only [List.nil_append, List.length_nil, Int.natCast_zero, Nat.zero_add] at e0
  obtain ⟨v1, bl1, e1, o1, _⟩ := (Own.nil fI 1 []).appSl flatI (bytes := 8) (zero := [.int .i64 0]) (by decide) rfl rfl trail (by unfold Zc.small at ht; simp; omega)
  rw [List.nil_append] at o1
  rw [r10_Join_F_eq]
  cases hf : was.findIdx? (fun x => decide (trail.getLastD 0 = x)) with
  | none =>
    have hb : behindL (trail.getLastD 0) was = was := by simp only [behindL, hf]
    obtain ⟨v', bl', e2, o2⟩ := rjoin_loop was (by omega) was [] trail v1 bl1 rfl (by omega) o1
    simp only [List.nil_append, List.length_nil, Int.natCast_zero] at e2
    simp only [frm_none _ _ _ hf, Int.natCast_zero] at e0
    have hs := fun bx => o2.snapV flatI bx st _ (snap_I ⟨bx, bl'⟩ st false 6)
    simp only [r10_Join_C, r10_Join_L0_eq, r10_Join_L2_eq, e0, e1, o1.chkV, e2, o2.locv, o2.one, o2.cells, hs, joinT, hb, y1, y2, y3, y4, y5, y6, y7, y8, y9, keepE, keepB, chk, CV.locs, CV.locv, CV.refs, CV.ref, pureOp, repC, takeN, resV, enterC, Nat.reduceAdd, Nat.reduceSub, Nat.reduceMul, Nat.reduceLeDiff, Nat.reduceLT, Nat.reduceBEq, Nat.reduceBNe, Nat.reduceEqDiff, ↓reduceIte, Int.reduceAdd, Int.reduceSub, Int.reduceMul, Int.reduceLT, Int.reduceLE, Int.reduceEq, Int.reduceNeg, Int.reduceToNat]
  | some i =>
    have hb : behindL (trail.getLastD 0) was = was.drop (i + 1) := by simp only [behindL, hf]
    have hi : i < was.length := by
      obtain ⟨h, _⟩ := List.findIdx?_eq_some_iff_getElem.1 hf
      exact h
    have htk : (was.take (i + 1)).length = i + 1 := by rw [List.length_take]; omega
    have hdl : (was.drop (i + 1)).length ≤ was.length := by rw [List.length_drop]; omega
    obtain ⟨v', bl', e2, o2⟩ := rjoin_loop was (by omega) (was.drop (i + 1)) (was.take (i + 1)) trail v1 bl1 (List.take_append_drop _ _) (by omega) o1
    rw [htk] at e2
    simp only [frm_some _ _ _ _ hf, Nat.zero_add] at e0
    have hs := fun bx => o2.snapV flatI bx st _ (snap_I ⟨bx, bl'⟩ st false 6)
    simp only [r10_Join_C, r10_Join_L0_eq, r10_Join_L2_eq, e0, e1, o1.chkV, e2, o2.locv, o2.one, o2.cells, hs, joinT, hb, y1, y2, y3, y4, y5, y6, y7, y8, y9, keepE, keepB, chk, CV.locs, CV.locv, CV.refs, CV.ref, pureOp, repC, takeN, resV, enterC, Nat.reduceAdd, Nat.reduceSub, Nat.reduceMul, Nat.reduceLeDiff, Nat.reduceLT, Nat.reduceBEq, Nat.reduceBNe, Nat.reduceEqDiff, ↓reduceIte, Int.reduceAdd, Int.reduceSub, Int.reduceMul, Int.reduceLT, Int.reduceLE, Int.reduceEq, Int.reduceNeg, Int.reduceToNat]
end Go.Proofs.Ytmkdhpjidhbijaa.Zt
