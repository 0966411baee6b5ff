/- Walks: the reference's track, around and along. -/
import Derived.Test.YtmkdhpjidhbijaaZcB
set_option linter.all false
namespace Go.Proofs.Ytmkdhpjidhbijaa.Zt
open Go Go.Zc
set_option maxRecDepth 10000

theorem endsFrom_len (at' : Int) : ∀ (i : Nat) (s : List Sec), (endsFrom at' i s).length ≤ 2 * s.length
  | _, [] => by simp [endsFrom]
  | i, x :: s => by
    have := endsFrom_len at' (i + 1) s
    simp only [endsFrom, List.length_append, List.length_cons]
    split <;> split <;> simp <;> omega
theorem ends_len {l : Lay} (hl : l.ok) (at' : Int) : (ends l at').length ≤ 2 * small := by
  have := endsFrom_len at' 0 l.secs
  have := hl.secs
  unfold ends; omega
theorem oneOf_len (l : Lay) (s at' : Int) : (oneOf l s at').length ≤ 1 := by
  unfold oneOf; split <;> simp
theorem around_len (l : Lay) (x : Ed) : (around l x).length ≤ 2 := by
  unfold around
  cases nodeOf l x with
  | none => simp
  | some n =>
    cases hf : l.pts.find? fun p => p.node == n with
    | some p =>
      have h1 := oneOf_len l p.left n
      have h2 := oneOf_len l p.right n
      have h3 := oneOf_len l p.stem n
      simp only [hf]
      split
      · simp; omega
      · split
        · omega
        · simp
    | none =>
      simp only [hf]
      split
      · rename_i h; rw [h]; omega
      · simp

theorem one_loop (sec : Int) : ∀ (s p : List Ed), (p ++ s).length ≤ 2 * small →
    r05_one_R0 ([(1, .int .i64 sec), (7, sl fE (p ++ s)), (8, .int .i64 p.length)], ⟨[], []⟩) =
      match s.find? (fun x => x.s == sec) with
      | some x => some (.ret, [(6, sl fE [x])], ⟨[], []⟩)
      | none => some (.norm, [], ⟨[], []⟩)
  | [], p, hm => by
    rw [r05_one_R0_eq]
    simp only [r05_one_B0, r05_one_K0_norm, r05_one_K0_ret, r05_one_K0_exit, List.find?_nil, y1, y2, y3, y4, y5, y6, y7, y8, y9, keepE, keepB, chk, CV.locs, CV.locv, CV.refs, CV.ref, pureOp, repC, takeN, resV, enterC, Nat.reduceAdd, Nat.reduceSub, Nat.reduceMul, Nat.reduceLeDiff, Nat.reduceLT, Nat.reduceBEq, Nat.reduceBNe, Nat.reduceEqDiff, ↓reduceIte, Int.reduceAdd, Int.reduceSub, Int.reduceMul, Int.reduceLT, Int.reduceLE, Int.reduceEq, Int.reduceNeg, Int.reduceToNat]
  | x :: s, p, hm => by
    rw [r05_one_R0_eq]
    have h1 : ((p.length : Int) < (p ++ x :: s).length) := by simp; omega
    have hw := wrapN (n := p.length) (by simp at hm; omega)
    have ih := one_loop sec s (p ++ [x]) (by simpa using hm)
    have hs := slc_sl flatE (p ++ x :: s) p.length (p.length + 1) (by omega) (by simp) .i64 .i64
    have ht : ((p ++ x :: s).take (p.length + 1)).drop p.length = [x] := by simp [List.take_append]
    rw [ht] at hs
    simp only [List.append_assoc, List.cons_append, List.nil_append, List.length_append, List.length_cons, List.length_nil] at ih
    simp only [r05_one_B0, r05_one_K0_norm, r05_one_K0_ret, r05_one_K0_exit, h1, iaddr_midE, hw, hs, y1, y2, y3, y4, y5, y6, y7, y8, y9, keepE, keepB, chk, CV.locs, CV.locv, CV.refs, CV.ref, pureOp, repC, takeN, resV, enterC, Nat.reduceAdd, Nat.reduceSub, Nat.reduceMul, Nat.reduceLeDiff, Nat.reduceLT, Nat.reduceBEq, Nat.reduceBNe, Nat.reduceEqDiff, ↓reduceIte, Int.reduceAdd, Int.reduceSub, Int.reduceMul, Int.reduceLT, Int.reduceLE, Int.reduceEq, Int.reduceNeg, Int.reduceToNat, ih]
    by_cases he : x.s = sec
    · simp [he]
    · simp [he]

theorem one_F (l : Lay) (hl : l.ok) (sec at' : Int) (H : Heap) : r05_one_F false H [.agg (layC l), .int .i64 sec, .int .i64 at'] = some (sl fE (oneOf l sec at'), H) := by
  rw [r05_one_F_eq]
  have e := one_loop sec (ends l at') [] (ends_len hl at')
  simp only [List.nil_append, List.length_nil, Int.natCast_zero] at e
  simp only [r05_one_C, r05_one_L0_eq, r05_Ends_call, ends_F l hl, e, oneOf, y1, y2, y3, y4, y5, y6, y7, y8, y9, keepE, keepB, chk, CV.locs, CV.locv, CV.refs, CV.ref, pureOp, repC, takeN, resV, enterC, Nat.reduceAdd, Nat.reduceSub, Nat.reduceMul, Nat.reduceLeDiff, Nat.reduceLT, Nat.reduceBEq, Nat.reduceBNe, Nat.reduceEqDiff, ↓reduceIte, Int.reduceAdd, Int.reduceSub, Int.reduceMul, Int.reduceLT, Int.reduceLE, Int.reduceEq, Int.reduceNeg, Int.reduceToNat]
  cases hf : (ends l at').find? (fun x => x.s == sec) <;> simp only [sl_nil fE, y1, y2, y3, y4, y5, y6, y7, y8, y9, keepE, keepB, chk, CV.locs, CV.locv, CV.refs, CV.ref, pureOp, repC, takeN, resV, enterC, Nat.reduceAdd, Nat.reduceSub, Nat.reduceMul, Nat.reduceLeDiff, Nat.reduceLT, Nat.reduceBEq, Nat.reduceBNe, Nat.reduceEqDiff, ↓reduceIte, Int.reduceAdd, Int.reduceSub, Int.reduceMul, Int.reduceLT, Int.reduceLE, Int.reduceEq, Int.reduceNeg, Int.reduceToNat]

theorem around_loop (x : Ed) : ∀ (s p acc : List Ed) (v : CV) (bl : List Blk), (p ++ s).length ≤ 2 * small → acc.length ≤ p.length → Own fE 2 bl v acc →
    ∃ v' bl', r05_Around_R0 ([(3, .op (.loc 3) 0), (8, v), (10, sl fE (p ++ s)), (11, .int .i64 p.length)], ⟨[(3, fE x)], bl⟩) = some (.norm, [(8, v')], ⟨[], bl'⟩) ∧ Own fE 2 bl' v' (acc ++ s.filter fun y => y ≠ x)
  | [], p, acc, v, bl, hm, ha, hO => by
    refine ⟨v, bl, ?_, by simpa using hO⟩
    rw [r05_Around_R0_eq]
    simp only [r05_Around_B0, r05_Around_K0_norm, r05_Around_K0_ret, r05_Around_K0_exit, fE, hO.chkV, y1, y2, y3, y4, y5, y6, y7, y8, y9, keepE, keepB, chk, CV.locs, CV.locv, CV.refs, CV.ref, pureOp, repC, takeN, resV, enterC, Nat.reduceAdd, Nat.reduceSub, Nat.reduceMul, Nat.reduceLeDiff, Nat.reduceLT, Nat.reduceBEq, Nat.reduceBNe, Nat.reduceEqDiff, ↓reduceIte, Int.reduceAdd, Int.reduceSub, Int.reduceMul, Int.reduceLT, Int.reduceLE, Int.reduceEq, Int.reduceNeg, Int.reduceToNat]
  | y :: s, p, acc, v, bl, hm, ha, hO => by
    have hm' := hm
    unfold small at hm'
    simp only [List.length_append, List.length_cons] at hm'
    have h1 : ((p.length : Int) < (p ++ y :: s).length) := by simp; omega
    have hw := wrapN (n := p.length) (by simp at hm; omega)
    have hq := eqE y x
    simp only [fE] at hq
    rw [r05_Around_R0_eq]
    by_cases he : y = x
    · subst he
      obtain ⟨v', bl', e, o⟩ := around_loop y s (p ++ [y]) acc v bl (by simpa using hm) (by simp; omega) hO
      simp only [List.append_assoc, List.cons_append, List.nil_append, List.length_append, List.length_cons, List.length_nil] at e
      refine ⟨v', bl', ?_, by simpa using o⟩
      simp only [fE] at e ⊢
      simp only [r05_Around_B0, r05_Around_K0_norm, r05_Around_K0_ret, r05_Around_K0_exit, h1, iaddr_midE, hw, hO.chkV, hq, e, y1, y2, y3, y4, y5, y6, y7, y8, y9, keepE, keepB, chk, CV.locs, CV.locv, CV.refs, CV.ref, pureOp, repC, takeN, resV, enterC, Nat.reduceAdd, Nat.reduceSub, Nat.reduceMul, Nat.reduceLeDiff, Nat.reduceLT, Nat.reduceBEq, Nat.reduceBNe, Nat.reduceEqDiff, ↓reduceIte, Int.reduceAdd, Int.reduceSub, Int.reduceMul, Int.reduceLT, Int.reduceLE, Int.reduceEq, Int.reduceNeg, Int.reduceToNat]
    · obtain ⟨v1, bl1, e1, o1, _⟩ := hO.app1 flatE (bytes := 16) (zero := [.int .i64 0, .int .i64 0]) (by decide) rfl rfl y (by omega)
      obtain ⟨v', bl', e, o⟩ := around_loop x s (p ++ [y]) _ v1 bl1 (by simpa using hm) (by simp; omega) o1
      simp only [List.append_assoc, List.cons_append, List.nil_append, List.length_append, List.length_cons, List.length_nil] at e
      refine ⟨v', bl', ?_, by simpa [he] using o⟩
      simp only [fE] at e e1 ⊢
      simp only [r05_Around_B0, r05_Around_K0_norm, r05_Around_K0_ret, r05_Around_K0_exit, h1, iaddr_midE, hw, hO.chkV, hq, he, e1, o1.chkV, y1, y2, y3, y4, y5, y6, y7, y8, y9, keepE, keepB, chk, CV.locs, CV.locv, CV.refs, CV.ref, pureOp, repC, takeN, resV, enterC, Nat.reduceAdd, Nat.reduceSub, Nat.reduceMul, Nat.reduceLeDiff, Nat.reduceLT, Nat.reduceBEq, Nat.reduceBNe, Nat.reduceEqDiff, ↓reduceIte, Int.reduceAdd, Int.reduceSub, Int.reduceMul, Int.reduceLT, Int.reduceLE, Int.reduceEq, Int.reduceNeg, Int.reduceToNat]
      exact e

theorem ptOf_some {l : Lay} {n : Int} {i : Nat} (h : ptOf l n = some i) : ∃ hi : i < l.pts.length, l.pts.find? (fun p => p.node == n) = some l.pts[i] := by
  unfold ptOf at h
  have h1 := List.findIdx?_eq_some_iff_getElem.1 h
  obtain ⟨hi, h2, h3⟩ := h1
  refine ⟨hi, ?_⟩
  rw [List.find?_eq_some_iff_getElem]
  exact ⟨h2, i, hi, rfl, fun j hj => by simpa using h3 j hj⟩
theorem ptOf_none {l : Lay} {n : Int} (h : ptOf l n = none) : l.pts.find? (fun p => p.node == n) = none := by
  unfold ptOf at h
  rw [List.find?_eq_none]
  intro x hx
  have := List.findIdx?_eq_none_iff.1 h x hx
  simpa using this

theorem around_F (l : Lay) (hl : l.ok) (x : Ed) (H : Heap) : r05_Around_F false H [.agg (layC l), .agg (fE x)] = some (sl fE (around l x), H) := by
  rw [r05_Around_F_eq]
  have hnF := node_F l x
  simp only [fE] at hnF
  cases hn : nodeOf l x with
  | none =>
    simp only [hn, Option.getD_none] at hnF
    simp only [r05_Around_C, fE, r05_node_call, hnF, around, hn, sl_nil fE, y1, y2, y3, y4, y5, y6, y7, y8, y9, keepE, keepB, chk, CV.locs, CV.locv, CV.refs, CV.ref, pureOp, repC, takeN, resV, enterC, Nat.reduceAdd, Nat.reduceSub, Nat.reduceMul, Nat.reduceLeDiff, Nat.reduceLT, Nat.reduceBEq, Nat.reduceBNe, Nat.reduceEqDiff, ↓reduceIte, Int.reduceAdd, Int.reduceSub, Int.reduceMul, Int.reduceLT, Int.reduceLE, Int.reduceEq, Int.reduceNeg, Int.reduceToNat]
  | some n =>
    simp only [hn, Option.getD_some] at hnF
    have hpF := point_F l hl n
    cases hp : ptOf l n with
    | some i =>
      obtain ⟨hi, hf⟩ := ptOf_some hp
      simp only [hp] at hpF
      have h0 : ¬ ((i : Int) < 0) := by omega
      have h0' : (0 : Int) ≤ i := by omega
      by_cases h1 : x.s = l.pts[i].stem
      · obtain ⟨v1, bl1, e1, o1, _⟩ := (Own.nil fE 2 []).appSl flatE (bytes := 16) (zero := [.int .i64 0, .int .i64 0]) (by decide) rfl rfl (oneOf l l.pts[i].left n) (by have := oneOf_len l l.pts[i].left n; simp; omega)
        obtain ⟨v2, bl2, e2, o2, _⟩ := o1.appSl flatE (bytes := 16) (zero := [.int .i64 0, .int .i64 0]) (by decide) rfl rfl (oneOf l l.pts[i].right n) (by have := oneOf_len l l.pts[i].left n; have := oneOf_len l l.pts[i].right n; simp; omega)
        simp only [r05_Around_C, fE, r05_node_call, hnF, r05_Point_call, hpF, h0, h0', iaddr_atP hi, eq_true h1, r05_one_call, one_F l hl, e1, e2, o2.snapV flatE _ _ _ (snap_E _ _ _ 6), around, hn, hf, y1, y2, y3, y4, y5, y6, y7, y8, y9, keepE, keepB, chk, CV.locs, CV.locv, CV.refs, CV.ref, pureOp, repC, takeN, resV, enterC, Nat.reduceAdd, Nat.reduceSub, Nat.reduceMul, Nat.reduceLeDiff, Nat.reduceLT, Nat.reduceBEq, Nat.reduceBNe, Nat.reduceEqDiff, ↓reduceIte, Int.reduceAdd, Int.reduceSub, Int.reduceMul, Int.reduceLT, Int.reduceLE, Int.reduceEq, Int.reduceNeg, Int.reduceToNat]
      · by_cases h2 : x.s = l.pts[i].left
        · simp only [r05_Around_C, fE, r05_node_call, hnF, r05_Point_call, hpF, h0, h0', iaddr_atP hi, eq_false h1, eq_true h2, r05_one_call, one_F l hl, around, hn, hf, y1, y2, y3, y4, y5, y6, y7, y8, y9, keepE, keepB, chk, CV.locs, CV.locv, CV.refs, CV.ref, pureOp, repC, takeN, resV, enterC, Nat.reduceAdd, Nat.reduceSub, Nat.reduceMul, Nat.reduceLeDiff, Nat.reduceLT, Nat.reduceBEq, Nat.reduceBNe, Nat.reduceEqDiff, ↓reduceIte, Int.reduceAdd, Int.reduceSub, Int.reduceMul, Int.reduceLT, Int.reduceLE, Int.reduceEq, Int.reduceNeg, Int.reduceToNat]
        · by_cases h3 : x.s = l.pts[i].right
          · simp only [r05_Around_C, fE, r05_node_call, hnF, r05_Point_call, hpF, h0, h0', iaddr_atP hi, eq_false h1, eq_false h2, eq_true h3, r05_one_call, one_F l hl, around, hn, hf, y1, y2, y3, y4, y5, y6, y7, y8, y9, keepE, keepB, chk, CV.locs, CV.locv, CV.refs, CV.ref, pureOp, repC, takeN, resV, enterC, Nat.reduceAdd, Nat.reduceSub, Nat.reduceMul, Nat.reduceLeDiff, Nat.reduceLT, Nat.reduceBEq, Nat.reduceBNe, Nat.reduceEqDiff, ↓reduceIte, Int.reduceAdd, Int.reduceSub, Int.reduceMul, Int.reduceLT, Int.reduceLE, Int.reduceEq, Int.reduceNeg, Int.reduceToNat]
          · simp only [r05_Around_C, fE, r05_node_call, hnF, r05_Point_call, hpF, h0, h0', iaddr_atP hi, h1, h2, h3, sl_nil fE, around, hn, hf, y1, y2, y3, y4, y5, y6, y7, y8, y9, keepE, keepB, chk, CV.locs, CV.locv, CV.refs, CV.ref, pureOp, repC, takeN, resV, enterC, Nat.reduceAdd, Nat.reduceSub, Nat.reduceMul, Nat.reduceLeDiff, Nat.reduceLT, Nat.reduceBEq, Nat.reduceBNe, Nat.reduceEqDiff, ↓reduceIte, Int.reduceAdd, Int.reduceSub, Int.reduceMul, Int.reduceLT, Int.reduceLE, Int.reduceEq, Int.reduceNeg, Int.reduceToNat]
    | none =>
      have hf := ptOf_none hp
      simp only [hp] at hpF
      obtain ⟨v, bl, e, o⟩ := around_loop x (ends l n) [] [] .nils [] (ends_len hl n) (by simp) (Own.nil _ _ _)
      simp only [List.nil_append, List.length_nil, Int.natCast_zero, fE] at e o
      have ho := o.len
      by_cases h1 : ((ends l n).filter fun y => y ≠ x).length = 1
      · have h1' : (((ends l n).filter fun y => y ≠ x).length : Int) = 1 := by omega
        simp only [r05_Around_C, r05_Around_L0_eq, fE, r05_node_call, hnF, r05_Point_call, hpF, r05_Ends_call, ends_F l hl, e, ho, eq_true h1, eq_true h1', o.snapV flatE _ _ _ (snap_E _ _ _ 6), around, hn, hf, y1, y2, y3, y4, y5, y6, y7, y8, y9, keepE, keepB, chk, CV.locs, CV.locv, CV.refs, CV.ref, pureOp, repC, takeN, resV, enterC, Nat.reduceAdd, Nat.reduceSub, Nat.reduceMul, Nat.reduceLeDiff, Nat.reduceLT, Nat.reduceBEq, Nat.reduceBNe, Nat.reduceEqDiff, ↓reduceIte, Int.reduceAdd, Int.reduceSub, Int.reduceMul, Int.reduceLT, Int.reduceLE, Int.reduceEq, Int.reduceNeg, Int.reduceToNat]
      · have h1' : ¬ (((ends l n).filter fun y => y ≠ x).length : Int) = 1 := by omega
        simp only [r05_Around_C, r05_Around_L0_eq, fE, r05_node_call, hnF, r05_Point_call, hpF, r05_Ends_call, ends_F l hl, e, ho, h1, h1', sl_nil fE, around, hn, hf, y1, y2, y3, y4, y5, y6, y7, y8, y9, keepE, keepB, chk, CV.locs, CV.locv, CV.refs, CV.ref, pureOp, repC, takeN, resV, enterC, Nat.reduceAdd, Nat.reduceSub, Nat.reduceMul, Nat.reduceLeDiff, Nat.reduceLT, Nat.reduceBEq, Nat.reduceBNe, Nat.reduceEqDiff, ↓reduceIte, Int.reduceAdd, Int.reduceSub, Int.reduceMul, Int.reduceLT, Int.reduceLE, Int.reduceEq, Int.reduceNeg, Int.reduceToNat]
end Go.Proofs.Ytmkdhpjidhbijaa.Zt
