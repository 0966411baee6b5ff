/- The laws OwnClear, OwnFinds, walked. -/
import Derived.Test.YtmjffmghkfappaaZcVf
set_option linter.all false
namespace Go.Proofs.Ytmjffmghkfappaa.Zt
open Go Go.Zc
set_option maxRecDepth 10000

/-! ### What is clear is nobody's -/
theorem all_loop (l : Lay) (f : Fld) (c6 c9 : CV) (h6 : c6.locv = false) (h9 : c9.locv = false) (v : CV) : ∀ (s p : List Bool) (bl : List Blk), (p ++ s).length ≤ 2 * Zc.small → Own fB 1 bl v (p ++ s) →
    ∃ bl', l12_OwnClear_R0 ([(3, .op (.loc 3) 0), (5, .op (.loc 5) 0), (6, c6), (8, v), (9, c9), (10, .int .i64 p.length)], ⟨[(3, fieldC f), (5, layC l)], bl⟩) =
      some (.norm, [(3, .op (.loc 3) 0), (5, .op (.loc 5) 0), (6, c6), (8, v), (9, c9)], ⟨[(3, fieldC f), (5, layC l)], bl'⟩) ∧ Own fB 1 bl' v (p ++ s.map fun _ => true)
  | [], p, bl, hm, hO => by
    have q6 := chkV_of h6
    have q9 := chkV_of h9
    rw [List.append_nil] at hO
    refine ⟨bl, ?_, by simpa using hO⟩
    rw [l12_OwnClear_R0_eq]
    simp only [l12_OwnClear_B0, l12_OwnClear_K0_norm, l12_OwnClear_K0_ret, l12_OwnClear_K0_exit, q6, q9, hO.len, hO.chkV, y1, y2, y3, y4, y5, y6, y7, y8, y9, keepE, keepB, chk, CV.locs, CV.locv, CV.refs, CV.ref, pureOp, repC, takeN, resV, enterC, Nat.reduceAdd, Nat.reduceSub, Nat.reduceMul, Nat.reduceLeDiff, Nat.reduceLT, Nat.reduceBEq, Nat.reduceBNe, Nat.reduceEqDiff, ↓reduceIte, Int.reduceAdd, Int.reduceSub, Int.reduceMul, Int.reduceLT, Int.reduceLE, Int.reduceEq, Int.reduceNeg, Int.reduceToNat]
  | x :: s, p, bl, hm, hO => by
    have q6 := chkV_of h6
    have q9 := chkV_of h9
    have hlt : p.length < (p ++ x :: s).length := by simp
    have h4 : ((p.length : Int) < (p ++ x :: s).length) := by omega
    have hw := wrapN (n := p.length) (by simp at hm; omega)
    obtain ⟨m, hia, cs, hcs, hdr, bl2, e2, o2, _⟩ := hO.set flatB hlt true (.bool true) rfl
    simp only [Nat.mul_one] at hia e2
    have hset : (p ++ x :: s).set p.length true = (p ++ [true]) ++ s := by simp
    rw [hset] at o2
    obtain ⟨bl', e, o⟩ := all_loop l f c6 c9 h6 h9 v s (p ++ [true]) bl2 (by simp at hm ⊢; omega) o2
    rw [show (p ++ [true]).length = p.length + 1 by simp] at e
    refine ⟨bl', ?_, by simpa using o⟩
    rw [l12_OwnClear_R0_eq]
    simp only [l12_OwnClear_B0, l12_OwnClear_K0_norm, l12_OwnClear_K0_ret, l12_OwnClear_K0_exit, q6, q9, hO.len, h4, hO.chkV, hia, hcs, e2, hw, e, y1, y2, y3, y4, y5, y6, y7, y8, y9, keepE, keepB, chk, CV.locs, CV.locv, CV.refs, CV.ref, pureOp, repC, takeN, resV, enterC, Nat.reduceAdd, Nat.reduceSub, Nat.reduceMul, Nat.reduceLeDiff, Nat.reduceLT, Nat.reduceBEq, Nat.reduceBNe, Nat.reduceEqDiff, ↓reduceIte, Int.reduceAdd, Int.reduceSub, Int.reduceMul, Int.reduceLT, Int.reduceLE, Int.reduceEq, Int.reduceNeg, Int.reduceToNat]

theorem clr_loop (l : Lay) (hl : l.ok) (none' is : List Int) (hn1 : none'.length = l.parts.length) (hn2 : is.length = l.parts.length) (hN : ∀ i, i < l.parts.length → none'.getD i 0 ≠ -2) (hI : ∀ i, i < l.parts.length → is.getD i 0 = -2) (v : CV) (ls : List Bool) (hls : ls.length = l.parts.length) (bl : List Blk) (hO : Own fB 1 bl v ls) : ∀ (k n : Nat), n + k = l.parts.length →
    l12_OwnClear_R2 ([(5, .op (.loc 5) 0), (8, v), (9, sl fI none'), (11, sl fI is), (12, .int .i64 n)], ⟨[(5, layC l)], bl⟩) = some (.norm, [(5, .op (.loc 5) 0), (11, sl fI is)], ⟨[(5, layC l)], bl⟩)
  | 0, n, hn => by
    have h1 : ¬ ((n : Int) < ls.length) := by omega
    rw [l12_OwnClear_R2_eq]
    simp only [l12_OwnClear_B2, l12_OwnClear_K2_norm, l12_OwnClear_K2_ret, l12_OwnClear_K2_exit, hO.len, hO.chkV, h1, y1, y2, y3, y4, y5, y6, y7, y8, y9, keepE, keepB, chk, CV.locs, CV.locv, CV.refs, CV.ref, pureOp, repC, takeN, resV, enterC, Nat.reduceAdd, Nat.reduceSub, Nat.reduceMul, Nat.reduceLeDiff, Nat.reduceLT, Nat.reduceBEq, Nat.reduceBNe, Nat.reduceEqDiff, ↓reduceIte, Int.reduceAdd, Int.reduceSub, Int.reduceMul, Int.reduceLT, Int.reduceLE, Int.reduceEq, Int.reduceNeg, Int.reduceToNat]
  | k + 1, n, hn => by
    have hpl := hl.parts
    have h1 : ((n : Int) < ls.length) := by omega
    have hw := wrapN (n := n) (by omega)
    have h2 : ¬ ((is.length : Int) ≤ n) := by omega
    have h3 : ¬ ((none'.length : Int) ≤ n) := by omega
    have g1 := iaddr_getI (k := .i64) (l := is) (i := n) (by omega)
    have g2 := iaddr_getI (k := .i64) (l := none') (i := n) (by omega)
    rw [hI n (by omega)] at g1
    have hne := hN n (by omega)
    have ih := clr_loop l hl none' is hn1 hn2 hN hI v ls hls bl hO k (n + 1) (by omega)
    rw [l12_OwnClear_R2_eq]
    simp only [l12_OwnClear_B2, l12_OwnClear_K2_norm, l12_OwnClear_K2_ret, l12_OwnClear_K2_exit, hO.len, hO.chkV, h1, h2, h3, g1, g2, eq_false hne, hw, ih, y1, y2, y3, y4, y5, y6, y7, y8, y9, keepE, keepB, chk, CV.locs, CV.locv, CV.refs, CV.ref, pureOp, repC, takeN, resV, enterC, Nat.reduceAdd, Nat.reduceSub, Nat.reduceMul, Nat.reduceLeDiff, Nat.reduceLT, Nat.reduceBEq, Nat.reduceBNe, Nat.reduceEqDiff, ↓reduceIte, Int.reduceAdd, Int.reduceSub, Int.reduceMul, Int.reduceLT, Int.reduceLE, Int.reduceEq, Int.reduceNeg, Int.reduceToNat]

theorem snapB_own {bl : List Blk} {v : CV} {l : List Bool} (h : Own fB 1 bl v l) (bx : List (Nat × List CV)) (st : Bool) : snapV ⟨bx, bl⟩ st false (snapN ⟨bx, bl⟩ st false 7) v = some (sl fB l) := h.snapV flatB bx _ _ (snap_B _ _ _ 6)
theorem rep_getD {α : Type} (z : α) : ∀ (n i : Nat), (List.replicate n z).getD i z = z
  | 0, _ => by simp
  | n + 1, 0 => by simp [List.replicate_succ]
  | n + 1, i + 1 => by simp only [List.replicate_succ, List.getD_cons_succ]; exact rep_getD z n i

set_option maxHeartbeats 2000000 in
theorem ownClear_F (d : Draft) (hd : d.ok) (f : Fld) (hf : f.ok) (st : Bool) (H : Heap) : l12_OwnClear_F st H [.agg (draftC d), .agg (fieldC f)] = some (.bool true, H) := by
  rw [l12_OwnClear_F_eq]
  have hc := comes_F
  have hsF := fun st H => small_F d hd st H
  have hfF := fun st H => few_F f hf st H
  cases hs : d.small with
  | false =>
    simp only [hs] at hsF
    simp only [l12_OwnClear_C, l12_comes_call, hc, r04_Small_call, hsF, y1, y2, y3, y4, y5, y6, y7, y8, y9, keepE, keepB, chk, CV.locs, CV.locv, CV.refs, CV.ref, pureOp, repC, takeN, resV, enterC, Nat.reduceAdd, Nat.reduceSub, Nat.reduceMul, Nat.reduceLeDiff, Nat.reduceLT, Nat.reduceBEq, Nat.reduceBNe, Nat.reduceEqDiff, ↓reduceIte, Int.reduceAdd, Int.reduceSub, Int.reduceMul, Int.reduceLT, Int.reduceLE, Int.reduceEq, Int.reduceNeg, Int.reduceToNat]
  | true =>
    simp only [hs] at hsF
    cases hw : f.few with
    | false =>
      simp only [hw] at hfF
      simp only [l12_OwnClear_C, l12_comes_call, hc, r04_Small_call, hsF, l12_few_call, hfF, y1, y2, y3, y4, y5, y6, y7, y8, y9, keepE, keepB, chk, CV.locs, CV.locv, CV.refs, CV.ref, pureOp, repC, takeN, resV, enterC, Nat.reduceAdd, Nat.reduceSub, Nat.reduceMul, Nat.reduceLeDiff, Nat.reduceLT, Nat.reduceBEq, Nat.reduceBNe, Nat.reduceEqDiff, ↓reduceIte, Int.reduceAdd, Int.reduceSub, Int.reduceMul, Int.reduceLT, Int.reduceLE, Int.reduceEq, Int.reduceNeg, Int.reduceToNat]
    | true =>
      simp only [hw] at hfF
      have hok := full_ok d
      have hg := full_good d hok
      have hB := full_bs d hd
      have hv := vs_ok (full d) hw
      have hpl := hok.parts
      have g1 := fun H => views_F (full d) hok hg.pos f hf hw H
      have g2 := fun st H => owners_F (full d) hok f hf st H
      obtain ⟨e0, o0⟩ := Own.mk flatB false (full d).parts.length 1 (by unfold Zc.small at hpl; omega) .i64 .i64 [(2, draftC d), (3, fieldC f), (5, layC (full d))] []
      simp only [fB, List.nil_append, List.length_nil, Int.natCast_zero] at e0 o0
      have g4 := fun st H => onext_F (full d) hok hB (ownersL (full d) f) (ownersL_len _ _) (List.replicate (full d).parts.length false) (by simp) (viewsF (full d) f) hv st H
      have g5 := fun st H => onext_F (full d) hok hB (ownersL (full d) f) (ownersL_len _ _) ((List.replicate (full d).parts.length false).map fun _ => true) (by simp) (viewsF (full d) f) hv st H
      obtain ⟨bl1, e1, o1⟩ := all_loop (full d) f (sl fV (viewsF (full d) f)) (sl fI (ownNext (full d) (ownersL (full d) f) (List.replicate (full d).parts.length false) (viewsF (full d) f))) (locv_sl _ _) (locv_sl _ _) _ (List.replicate (full d).parts.length false) [] _ (by simp; omega) o0
      simp only [List.nil_append, List.length_nil, Int.natCast_zero] at e1 o1
      have s0 := fun bx st => snapB_own o0 bx st
      have s1 := fun bx st => snapB_own o1 bx st
      have hnl := ownNext_len (full d) (ownersL (full d) f) ((List.replicate (full d).parts.length false).map fun _ => true) (viewsF (full d) f)
      have hL := clr_loop (full d) hok (ownNext (full d) (ownersL (full d) f) (List.replicate (full d).parts.length false) (viewsF (full d) f)) (ownNext (full d) (ownersL (full d) f) ((List.replicate (full d).parts.length false).map fun _ => true) (viewsF (full d) f)) (ownNext_len _ _ _ _) hnl
        (fun i hi e => by
          rw [ownNext_get _ _ _ _ hi, nextP_clear, rep_getD] at e
          cases e)
        (fun i hi => by
          rw [ownNext_get _ _ _ _ hi, nextP_clear]
          simp [List.getD, hi])
        _ _ (by simp) bl1 o1 (full d).parts.length 0 (by omega)
      simp only [Int.natCast_zero] at hL
      have hnl' : (((ownNext (full d) (ownersL (full d) f) ((List.replicate (full d).parts.length false).map fun _ => true) (viewsF (full d) f)).length : Nat) : Int) = (full d).parts.length := by omega
      simp only [l12_OwnClear_C, l12_OwnClear_L0_eq, l12_OwnClear_L2_eq, l12_comes_call, hc, r04_Small_call, hsF, l12_few_call, hfF, r05_Full_call, full_F d hd, l12_views_call, g1, l12_owners_call, g2, e0, s0, own_Next_call, g4, e1, s1, g5, eq_true hnl', hL, y1, y2, y3, y4, y5, y6, y7, y8, y9, keepE, keepB, chk, CV.locs, CV.locv, CV.refs, CV.ref, pureOp, repC, takeN, resV, enterC, Nat.reduceAdd, Nat.reduceSub, Nat.reduceMul, Nat.reduceLeDiff, Nat.reduceLT, Nat.reduceBEq, Nat.reduceBNe, Nat.reduceEqDiff, ↓reduceIte, Int.reduceAdd, Int.reduceSub, Int.reduceMul, Int.reduceLT, Int.reduceLE, Int.reduceEq, Int.reduceNeg, Int.reduceToNat]
end Go.Proofs.Ytmjffmghkfappaa.Zt
