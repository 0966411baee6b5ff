/- Walks: whose each part is, as the reference tells; owners and what is clear, by numbers. -/
import Derived.Test.YtmjffmghkfappaaZcVb
set_option linter.all false
namespace Go.Proofs.Ytmjffmghkfappaa.Zt
open Go Go.Zc
set_option maxRecDepth 10000

theorem rnext_in (l : Lay) (was : List Int) (cl : List Bool) (vs : List Vw) (c9 c10 : CV) (h9 : c9.locv = false) (h10 : c10.locv = false) (bl : List Blk) (b : List Int) (hb : b.length ≤ 12) (hi : ∀ x ∈ b, 0 ≤ x ∧ x < was.length) : ∀ (s p : List Int) (w : Int), p ++ s = b →
    r12_Next_R2 ([(1, sl fI was), (2, sl fB cl), (3, sl fV vs), (4, .op (.loc 4) 0), (9, c9), (10, c10), (11, .int .i64 w), (12, sl fI b), (13, .int .i64 p.length)], ⟨[(4, layC l)], bl⟩) =
      some (.norm, [(1, sl fI was), (2, sl fB cl), (3, sl fV vs), (4, .op (.loc 4) 0), (9, c9), (10, c10), (11, .int .i64 (refR w (s.map fun b => was.getD b.toNat 0)))], ⟨[(4, layC l)], bl⟩)
  | [], p, w, hp => by
    have q9 := chkV_of h9
    have q10 := chkV_of h10
    have h1 : ¬ ((p.length : Int) < b.length) := by rw [← hp]; simp
    rw [r12_Next_R2_eq]
    simp only [r12_Next_B2, r12_Next_K2_norm, r12_Next_K2_ret, r12_Next_K2_exit, q9, q10, h1, List.map_nil, refR, y1, y2, y3, y4, y5, y6, y7, y8, y9, keepE, keepB, chk, CV.locs, CV.locv, CV.refs, CV.ref, pureOp, repC, takeN, resV, enterC, Nat.reduceAdd, Nat.reduceSub, Nat.reduceMul, Nat.reduceLeDiff, Nat.reduceLT, Nat.reduceBEq, Nat.reduceBNe, Nat.reduceEqDiff, ↓reduceIte, Int.reduceAdd, Int.reduceSub, Int.reduceMul, Int.reduceLT, Int.reduceLE, Int.reduceEq, Int.reduceNeg, Int.reduceToNat]
  | x :: s, p, w, hp => by
    have q9 := chkV_of h9
    have q10 := chkV_of h10
    have hpl : p.length + 1 + s.length = b.length := by rw [← hp]; simp; omega
    have h1 : ((p.length : Int) < b.length) := by omega
    have hw := wrapN (n := p.length) (by unfold Zc.small; omega)
    have hia : iaddrC 1 (sl fI b) (.int .i64 p.length) = some (.vp (.int .i64 x :: s.flatMap fI)) := by rw [← hp]; exact iaddr_midI _ p s x
    obtain ⟨x0, x1⟩ := hi x (by rw [← hp]; simp)
    obtain ⟨n, rfl⟩ := Int.eq_ofNat_of_zero_le x0
    have hn : n < was.length := by omega
    have ih := fun w => rnext_in l was cl vs c9 c10 h9 h10 bl b hb hi s (p ++ [(n : Int)]) w (by simpa using hp)
    rw [show (p ++ [(n : Int)]).length = p.length + 1 by simp] at ih
    rw [r12_Next_R2_eq]
    simp only [List.map_cons, Int.toNat_natCast, refR]
    by_cases a0 : w = -1
    · simp only [r12_Next_B2, r12_Next_K2_norm, r12_Next_K2_ret, r12_Next_K2_exit, q9, q10, h1, eq_true a0, a0, y1, y2, y3, y4, y5, y6, y7, y8, y9, keepE, keepB, chk, CV.locs, CV.locv, CV.refs, CV.ref, pureOp, repC, takeN, resV, enterC, Nat.reduceAdd, Nat.reduceSub, Nat.reduceMul, Nat.reduceLeDiff, Nat.reduceLT, Nat.reduceBEq, Nat.reduceBNe, Nat.reduceEqDiff, ↓reduceIte, Int.reduceAdd, Int.reduceSub, Int.reduceMul, Int.reduceLT, Int.reduceLE, Int.reduceEq, Int.reduceNeg, Int.reduceToNat]
    · by_cases a1 : was.getD n 0 = -2
      · simp only [r12_Next_B2, r12_Next_K2_norm, r12_Next_K2_ret, r12_Next_K2_exit, q9, q10, h1, eq_false a0, hia, iaddr_getI hn, eq_true a1, hw, ih, y1, y2, y3, y4, y5, y6, y7, y8, y9, keepE, keepB, chk, CV.locs, CV.locv, CV.refs, CV.ref, pureOp, repC, takeN, resV, enterC, Nat.reduceAdd, Nat.reduceSub, Nat.reduceMul, Nat.reduceLeDiff, Nat.reduceLT, Nat.reduceBEq, Nat.reduceBNe, Nat.reduceEqDiff, ↓reduceIte, Int.reduceAdd, Int.reduceSub, Int.reduceMul, Int.reduceLT, Int.reduceLE, Int.reduceEq, Int.reduceNeg, Int.reduceToNat]
      · by_cases a2 : was.getD n 0 = w
        · simp only [r12_Next_B2, r12_Next_K2_norm, r12_Next_K2_ret, r12_Next_K2_exit, q9, q10, h1, eq_false a0, hia, iaddr_getI hn, eq_false a1, eq_true a2, hw, ih, y1, y2, y3, y4, y5, y6, y7, y8, y9, keepE, keepB, chk, CV.locs, CV.locv, CV.refs, CV.ref, pureOp, repC, takeN, resV, enterC, Nat.reduceAdd, Nat.reduceSub, Nat.reduceMul, Nat.reduceLeDiff, Nat.reduceLT, Nat.reduceBEq, Nat.reduceBNe, Nat.reduceEqDiff, ↓reduceIte, Int.reduceAdd, Int.reduceSub, Int.reduceMul, Int.reduceLT, Int.reduceLE, Int.reduceEq, Int.reduceNeg, Int.reduceToNat]
        · by_cases a3 : was.getD n 0 = -1
          · simp only [r12_Next_B2, r12_Next_K2_norm, r12_Next_K2_ret, r12_Next_K2_exit, q9, q10, h1, eq_false a0, hia, iaddr_getI hn, eq_false a1, eq_false a2, eq_true a3, hw, ih, y1, y2, y3, y4, y5, y6, y7, y8, y9, keepE, keepB, chk, CV.locs, CV.locv, CV.refs, CV.ref, pureOp, repC, takeN, resV, enterC, Nat.reduceAdd, Nat.reduceSub, Nat.reduceMul, Nat.reduceLeDiff, Nat.reduceLT, Nat.reduceBEq, Nat.reduceBNe, Nat.reduceEqDiff, ↓reduceIte, Int.reduceAdd, Int.reduceSub, Int.reduceMul, Int.reduceLT, Int.reduceLE, Int.reduceEq, Int.reduceNeg, Int.reduceToNat]
          · by_cases a4 : 0 ≤ w
            · simp only [r12_Next_B2, r12_Next_K2_norm, r12_Next_K2_ret, r12_Next_K2_exit, q9, q10, h1, eq_false a0, hia, iaddr_getI hn, eq_false a1, eq_false a2, eq_false a3, eq_true a4, hw, ih, y1, y2, y3, y4, y5, y6, y7, y8, y9, keepE, keepB, chk, CV.locs, CV.locv, CV.refs, CV.ref, pureOp, repC, takeN, resV, enterC, Nat.reduceAdd, Nat.reduceSub, Nat.reduceMul, Nat.reduceLeDiff, Nat.reduceLT, Nat.reduceBEq, Nat.reduceBNe, Nat.reduceEqDiff, ↓reduceIte, Int.reduceAdd, Int.reduceSub, Int.reduceMul, Int.reduceLT, Int.reduceLE, Int.reduceEq, Int.reduceNeg, Int.reduceToNat]
            · simp only [r12_Next_B2, r12_Next_K2_norm, r12_Next_K2_ret, r12_Next_K2_exit, q9, q10, h1, eq_false a0, hia, iaddr_getI hn, eq_false a1, eq_false a2, eq_false a3, eq_false a4, hw, ih, y1, y2, y3, y4, y5, y6, y7, y8, y9, keepE, keepB, chk, CV.locs, CV.locv, CV.refs, CV.ref, pureOp, repC, takeN, resV, enterC, Nat.reduceAdd, Nat.reduceSub, Nat.reduceMul, Nat.reduceLeDiff, Nat.reduceLT, Nat.reduceBEq, Nat.reduceBNe, Nat.reduceEqDiff, ↓reduceIte, Int.reduceAdd, Int.reduceSub, Int.reduceMul, Int.reduceLT, Int.reduceLE, Int.reduceEq, Int.reduceNeg, Int.reduceToNat]

set_option maxHeartbeats 1000000 in
theorem rnext_loop (l : Lay) (hl : l.ok) (hB : BsOk l) (was : List Int) (hw : was.length = l.parts.length) (cl : List Bool) (hc : cl.length = l.parts.length) (vs : List Vw) (hv : VsOk vs) : ∀ (k n : Nat) (acc : List Int) (v : CV) (bl : List Blk), n + k = l.parts.length → acc.length = n → Own fI 1 bl v acc →
    ∃ v' bl', r12_Next_R0 ([(1, sl fI was), (2, sl fB cl), (3, sl fV vs), (4, .op (.loc 4) 0), (9, v), (10, .int .i64 n)], ⟨[(4, layC l)], bl⟩) = some (.norm, [(9, v')], ⟨[], bl'⟩) ∧ Own fI 1 bl' v' (acc ++ upF (nextP l was cl vs) k n)
  | 0, n, acc, v, bl, hn, ha, hO => by
    have h1 : ¬ ((n : Int) < l.parts.length) := by omega
    refine ⟨v, bl, ?_, by simpa [upF] using hO⟩
    rw [r12_Next_R0_eq]
    simp only [r12_Next_B0, r12_Next_K0_norm, r12_Next_K0_ret, r12_Next_K0_exit, h1, hO.chkV, y1, y2, y3, y4, y5, y6, y7, y8, y9, keepE, keepB, chk, CV.locs, CV.locv, CV.refs, CV.ref, pureOp, repC, takeN, resV, enterC, Nat.reduceAdd, Nat.reduceSub, Nat.reduceMul, Nat.reduceLeDiff, Nat.reduceLT, Nat.reduceBEq, Nat.reduceBNe, Nat.reduceEqDiff, ↓reduceIte, Int.reduceAdd, Int.reduceSub, Int.reduceMul, Int.reduceLT, Int.reduceLE, Int.reduceEq, Int.reduceNeg, Int.reduceToNat]
  | k + 1, n, acc, v, bl, hn, ha, hO => by
    have h1 : ((n : Int) < l.parts.length) := by omega
    have hpl := hl.parts
    have hwn := wrapN (n := n) (by omega)
    have hnw : n < was.length := by omega
    have hnc : n < cl.length := by omega
    obtain ⟨v1, bl1, e1, o1, _⟩ := hO.app1 flatI (bytes := 8) (zero := [.int .i64 0]) (by decide) rfl rfl (nextP l was cl vs n) (by unfold Zc.small at hpl; omega)
    obtain ⟨v', bl', e, o⟩ := rnext_loop l hl hB was hw cl hc vs hv k (n + 1) _ v1 bl1 (by omega) (by simp; omega) o1
    refine ⟨v', bl', ?_, by simpa [upF] using o⟩
    simp only [fI] at e1
    have hG := fun H => beside_F l hl n (hB.1 n) H
    have hin := rnext_in l was cl vs v (.int .i64 n) hO.locv rfl bl (beside l n) (bs_len hB n) (fun x hx => by have := hB.2 n x hx; omega) (beside l n) [] (was.getD n 0) rfl
    simp only [List.nil_append, List.length_nil, Int.natCast_zero] at hin
    have hH := fun id st H => rholds_F l hl vs hv n (by omega) id st H
    rw [r12_Next_R0_eq]
    by_cases a1 : cl.getD n false = true
    · have hx : nextP l was cl vs n = -2 := by simp only [nextP, a1, if_true]
      rw [hx] at e1
      simp only [r12_Next_B0, r12_Next_K0_norm, r12_Next_K0_ret, r12_Next_K0_exit, h1, iaddr_getB hnc, a1, hwn, hO.chkV, e1, o1.chkV, e, y1, y2, y3, y4, y5, y6, y7, y8, y9, keepE, keepB, chk, CV.locs, CV.locv, CV.refs, CV.ref, pureOp, repC, takeN, resV, enterC, Nat.reduceAdd, Nat.reduceSub, Nat.reduceMul, Nat.reduceLeDiff, Nat.reduceLT, Nat.reduceBEq, Nat.reduceBNe, Nat.reduceEqDiff, ↓reduceIte, Int.reduceAdd, Int.reduceSub, Int.reduceMul, Int.reduceLT, Int.reduceLE, Int.reduceEq, Int.reduceNeg, Int.reduceToNat]
    · have a1' : cl.getD n false = false := by simpa using a1
      by_cases a2 : was.getD n 0 = -1
      · have hx : nextP l was cl vs n = -1 := by simp only [nextP, a1', a2, Bool.false_eq_true, if_false, if_true]
        rw [hx] at e1
        simp only [a2, refR_m1] at hin
        simp only [r12_Next_B0, r12_Next_K0_norm, r12_Next_K0_ret, r12_Next_K0_exit, r12_Next_L2_eq, h1, iaddr_getB hnc, a1', iaddr_getI hnw, a2, r05_Beside_call, hG, hin, hwn, hO.chkV, e1, o1.chkV, e, y1, y2, y3, y4, y5, y6, y7, y8, y9, keepE, keepB, chk, CV.locs, CV.locv, CV.refs, CV.ref, pureOp, repC, takeN, resV, enterC, Nat.reduceAdd, Nat.reduceSub, Nat.reduceMul, Nat.reduceLeDiff, Nat.reduceLT, Nat.reduceBEq, Nat.reduceBNe, Nat.reduceEqDiff, ↓reduceIte, Int.reduceAdd, Int.reduceSub, Int.reduceMul, Int.reduceLT, Int.reduceLE, Int.reduceEq, Int.reduceNeg, Int.reduceToNat]
      · have hr : refR (was.getD n 0) ((beside l n).map fun b => was.getD b.toNat 0) = aloneF l was n := refR_eq _ _ a2
        rw [hr] at hin
        by_cases a3 : aloneF l was n < 0
        · have hx : nextP l was cl vs n = -1 := by
            have : ¬ 0 ≤ aloneF l was n := by omega
            simp only [nextP, a1', a2, this, Bool.false_eq_true, if_false, false_and]
          rw [hx] at e1
          simp only [r12_Next_B0, r12_Next_K0_norm, r12_Next_K0_ret, r12_Next_K0_exit, r12_Next_L2_eq, h1, iaddr_getB hnc, a1', iaddr_getI hnw, r05_Beside_call, hG, hin, eq_true a3, hwn, hO.chkV, e1, o1.chkV, e, y1, y2, y3, y4, y5, y6, y7, y8, y9, keepE, keepB, chk, CV.locs, CV.locv, CV.refs, CV.ref, pureOp, repC, takeN, resV, enterC, Nat.reduceAdd, Nat.reduceSub, Nat.reduceMul, Nat.reduceLeDiff, Nat.reduceLT, Nat.reduceBEq, Nat.reduceBNe, Nat.reduceEqDiff, ↓reduceIte, Int.reduceAdd, Int.reduceSub, Int.reduceMul, Int.reduceLT, Int.reduceLE, Int.reduceEq, Int.reduceNeg, Int.reduceToNat]
        · have a3' : 0 ≤ aloneF l was n := by omega
          have hH' := fun st H => hH (aloneF l was n) st H
          cases a4 : holdsV l vs n (aloneF l was n) with
          | true =>
            have hx : nextP l was cl vs n = aloneF l was n := by simp only [nextP, a1', a2, a3', a4, Bool.false_eq_true, if_false, if_true, and_self]
            rw [hx] at e1
            simp only [a4] at hH'
            simp only [r12_Next_B0, r12_Next_K0_norm, r12_Next_K0_ret, r12_Next_K0_exit, r12_Next_L2_eq, h1, iaddr_getB hnc, a1', iaddr_getI hnw, r05_Beside_call, hG, hin, eq_false a3, r12_holds_call, hH', hwn, hO.chkV, e1, o1.chkV, e, y1, y2, y3, y4, y5, y6, y7, y8, y9, keepE, keepB, chk, CV.locs, CV.locv, CV.refs, CV.ref, pureOp, repC, takeN, resV, enterC, Nat.reduceAdd, Nat.reduceSub, Nat.reduceMul, Nat.reduceLeDiff, Nat.reduceLT, Nat.reduceBEq, Nat.reduceBNe, Nat.reduceEqDiff, ↓reduceIte, Int.reduceAdd, Int.reduceSub, Int.reduceMul, Int.reduceLT, Int.reduceLE, Int.reduceEq, Int.reduceNeg, Int.reduceToNat]
          | false =>
            have hx : nextP l was cl vs n = -1 := by simp only [nextP, a1', a2, a4, Bool.false_eq_true, if_false, and_false]
            rw [hx] at e1
            simp only [a4] at hH'
            simp only [r12_Next_B0, r12_Next_K0_norm, r12_Next_K0_ret, r12_Next_K0_exit, r12_Next_L2_eq, h1, iaddr_getB hnc, a1', iaddr_getI hnw, r05_Beside_call, hG, hin, eq_false a3, r12_holds_call, hH', hwn, hO.chkV, e1, o1.chkV, e, y1, y2, y3, y4, y5, y6, y7, y8, y9, keepE, keepB, chk, CV.locs, CV.locv, CV.refs, CV.ref, pureOp, repC, takeN, resV, enterC, Nat.reduceAdd, Nat.reduceSub, Nat.reduceMul, Nat.reduceLeDiff, Nat.reduceLT, Nat.reduceBEq, Nat.reduceBNe, Nat.reduceEqDiff, ↓reduceIte, Int.reduceAdd, Int.reduceSub, Int.reduceMul, Int.reduceLT, Int.reduceLE, Int.reduceEq, Int.reduceNeg, Int.reduceToNat]
theorem rnext_F (l : Lay) (hl : l.ok) (hB : BsOk l) (was : List Int) (hw : was.length = l.parts.length) (cl : List Bool) (hc : cl.length = l.parts.length) (vs : List Vw) (hv : VsOk vs) (st : Bool) (H : Heap) :
    r12_Next_F st H [.agg (layC l), sl fI was, sl fB cl, sl fV vs] = some (sl fI (ownNext l was cl vs), H) := by
  obtain ⟨v', bl', e, o⟩ := rnext_loop l hl hB was hw cl hc vs hv l.parts.length 0 [] .nils [] (by omega) rfl (Own.nil _ _ _)
  simp only [List.nil_append, List.length_nil, Int.natCast_zero] at e o
  have hs := fun bx => o.snapV flatI bx st _ (snap_I ⟨bx, bl'⟩ st false 6)
  rw [r12_Next_F_eq]
  simp only [r12_Next_C, r12_Next_L0_eq, e, o.locv, o.one, o.cells, hs, ownNext, y1, y2, y3, y4, y5, y6, y7, y8, y9, keepE, keepB, chk, CV.locs, CV.locv, CV.refs, CV.ref, pureOp, repC, takeN, resV, enterC, Nat.reduceAdd, Nat.reduceSub, Nat.reduceMul, Nat.reduceLeDiff, Nat.reduceLT, Nat.reduceBEq, Nat.reduceBNe, Nat.reduceEqDiff, ↓reduceIte, Int.reduceAdd, Int.reduceSub, Int.reduceMul, Int.reduceLT, Int.reduceLE, Int.reduceEq, Int.reduceNeg, Int.reduceToNat]

/-! ### Owners, and what is clear -/
theorem iaddr_getU {k : IntKind} {l : List Int} {i : Nat} (h : i < l.length) : iaddrC 1 (sl fU l) (.int k i) = some (.vp (.int .u8 (l.getD i 0) :: (l.drop (i + 1)).flatMap fU)) := by
  rw [iaddr_atU h]; simp [List.getD, h]
theorem owners_loop (l : Lay) (hl : l.ok) (f : Fld) (hf : f.ok) : ∀ (k n : Nat) (acc : List Int) (v : CV) (bl : List Blk), n + k = l.parts.length → acc.length = n → Own fI 1 bl v acc →
    ∃ v' bl', l12_owners_R0 ([(2, .op (.loc 2) 0), (3, .op (.loc 3) 0), (5, v), (6, .int .i64 n)], ⟨[(2, layC l), (3, fieldC f)], bl⟩) = some (.norm, [(5, v')], ⟨[], bl'⟩) ∧ Own fI 1 bl' v' (acc ++ upF (fun i => (if i < f.own.length then f.own.getD i 0 % 5 else 0) - 2) k n)
  | 0, n, acc, v, bl, hn, ha, hO => by
    have h1 : ¬ ((n : Int) < l.parts.length) := by omega
    refine ⟨v, bl, ?_, by simpa [upF] using hO⟩
    rw [l12_owners_R0_eq]
    simp only [l12_owners_B0, l12_owners_K0_norm, l12_owners_K0_ret, l12_owners_K0_exit, h1, hO.chkV, y1, y2, y3, y4, y5, y6, y7, y8, y9, keepE, keepB, chk, CV.locs, CV.locv, CV.refs, CV.ref, pureOp, repC, takeN, resV, enterC, Nat.reduceAdd, Nat.reduceSub, Nat.reduceMul, Nat.reduceLeDiff, Nat.reduceLT, Nat.reduceBEq, Nat.reduceBNe, Nat.reduceEqDiff, ↓reduceIte, Int.reduceAdd, Int.reduceSub, Int.reduceMul, Int.reduceLT, Int.reduceLE, Int.reduceEq, Int.reduceNeg, Int.reduceToNat]
  | k + 1, n, acc, v, bl, hn, ha, hO => by
    have h1 : ((n : Int) < l.parts.length) := by omega
    have hpl := hl.parts
    have hwn := wrapN (n := n) (by omega)
    obtain ⟨v1, bl1, e1, o1, _⟩ := hO.app1 flatI (bytes := 8) (zero := [.int .i64 0]) (by decide) rfl rfl ((if n < f.own.length then f.own.getD n 0 % 5 else 0) - 2) (by unfold Zc.small at hpl; omega)
    obtain ⟨v', bl', e, o⟩ := owners_loop l hl f hf k (n + 1) _ v1 bl1 (by omega) (by simp; omega) o1
    refine ⟨v', bl', ?_, by simpa [upF] using o⟩
    simp only [fI] at e1
    rw [l12_owners_R0_eq]
    by_cases a : n < f.own.length
    · have a' : ((n : Int) < f.own.length) := by omega
      have hr := hf.own (f.own.getD n 0) (by rw [List.getD, List.getElem?_eq_getElem a]; exact List.getElem_mem a)
      have k1 : (f.own.getD n 0).tmod 5 = f.own.getD n 0 % 5 := Int.tmod_eq_emod_of_nonneg hr.1
      have k2 : IntKind.i64.wrap (f.own.getD n 0 % 5) = f.own.getD n 0 % 5 := wrap64 (by omega) (by omega)
      have k3 : IntKind.i64.wrap (f.own.getD n 0 % 5 - 2) = f.own.getD n 0 % 5 - 2 := wrap64 (by omega) (by omega)
      simp only [if_pos a] at e1
      simp only [l12_owners_B0, l12_owners_K0_norm, l12_owners_K0_ret, l12_owners_K0_exit, h1, a', iaddr_getU a, k1, k2, k3, hwn, hO.chkV, e1, o1.chkV, e, y1, y2, y3, y4, y5, y6, y7, y8, y9, keepE, keepB, chk, CV.locs, CV.locv, CV.refs, CV.ref, pureOp, repC, takeN, resV, enterC, Nat.reduceAdd, Nat.reduceSub, Nat.reduceMul, Nat.reduceLeDiff, Nat.reduceLT, Nat.reduceBEq, Nat.reduceBNe, Nat.reduceEqDiff, ↓reduceIte, Int.reduceAdd, Int.reduceSub, Int.reduceMul, Int.reduceLT, Int.reduceLE, Int.reduceEq, Int.reduceNeg, Int.reduceToNat]
    · have a' : ¬ ((n : Int) < f.own.length) := by omega
      have k3 : IntKind.i64.wrap (0 - 2) = 0 - 2 := wrap64 (by omega) (by omega)
      simp only [if_neg a, Int.reduceSub] at e1
      simp only [l12_owners_B0, l12_owners_K0_norm, l12_owners_K0_ret, l12_owners_K0_exit, h1, a', hwn, hO.chkV, e1, o1.chkV, e, y1, y2, y3, y4, y5, y6, y7, y8, y9, keepE, keepB, chk, CV.locs, CV.locv, CV.refs, CV.ref, pureOp, repC, takeN, resV, enterC, Nat.reduceAdd, Nat.reduceSub, Nat.reduceMul, Nat.reduceLeDiff, Nat.reduceLT, Nat.reduceBEq, Nat.reduceBNe, Nat.reduceEqDiff, ↓reduceIte, Int.reduceAdd, Int.reduceSub, Int.reduceMul, Int.reduceLT, Int.reduceLE, Int.reduceEq, Int.reduceNeg, Int.reduceToNat]
theorem owners_F (l : Lay) (hl : l.ok) (f : Fld) (hf : f.ok) (st : Bool) (H : Heap) : l12_owners_F st H [.agg (layC l), .agg (fieldC f)] = some (sl fI (ownersL l f), H) := by
  obtain ⟨v', bl', e, o⟩ := owners_loop l hl f hf l.parts.length 0 [] .nils [] (by omega) rfl (Own.nil _ _ _)
  simp only [List.nil_append, List.length_nil, Int.natCast_zero] at e o
  have hs := fun bx => o.snapV flatI bx st _ (snap_I ⟨bx, bl'⟩ st false 6)
  rw [l12_owners_F_eq]
  simp only [l12_owners_C, l12_owners_L0_eq, e, o.locv, o.one, o.cells, hs, ownersL, y1, y2, y3, y4, y5, y6, y7, y8, y9, keepE, keepB, chk, CV.locs, CV.locv, CV.refs, CV.ref, pureOp, repC, takeN, resV, enterC, Nat.reduceAdd, Nat.reduceSub, Nat.reduceMul, Nat.reduceLeDiff, Nat.reduceLT, Nat.reduceBEq, Nat.reduceBNe, Nat.reduceEqDiff, ↓reduceIte, Int.reduceAdd, Int.reduceSub, Int.reduceMul, Int.reduceLT, Int.reduceLE, Int.reduceEq, Int.reduceNeg, Int.reduceToNat]

theorem snap_B (H : Heap) (st kn : Bool) (n : Nat) : ∀ x : Bool, ∀ c ∈ fB x, snapN H st kn (n + 1) c = some c := by
  intro x c hc
  simp only [fB, List.mem_cons, List.not_mem_nil, or_false] at hc
  subst hc
  rfl
theorem clear_loop (l : Lay) (hl : l.ok) (f : Fld) : ∀ (k n : Nat) (acc : List Bool) (v : CV) (bl : List Blk), n + k = l.parts.length → acc.length = n → Own fB 1 bl v acc →
    ∃ v' bl', l12_clear_R0 ([(2, .op (.loc 2) 0), (3, .op (.loc 3) 0), (5, v), (6, .int .i64 n)], ⟨[(2, layC l), (3, fieldC f)], bl⟩) = some (.norm, [(5, v')], ⟨[], bl'⟩) ∧ Own fB 1 bl' v' (acc ++ upF (fun i => f.clear.getD i false) k n)
  | 0, n, acc, v, bl, hn, ha, hO => by
    have h1 : ¬ ((n : Int) < l.parts.length) := by omega
    refine ⟨v, bl, ?_, by simpa [upF] using hO⟩
    rw [l12_clear_R0_eq]
    simp only [l12_clear_B0, l12_clear_K0_norm, l12_clear_K0_ret, l12_clear_K0_exit, h1, hO.chkV, y1, y2, y3, y4, y5, y6, y7, y8, y9, keepE, keepB, chk, CV.locs, CV.locv, CV.refs, CV.ref, pureOp, repC, takeN, resV, enterC, Nat.reduceAdd, Nat.reduceSub, Nat.reduceMul, Nat.reduceLeDiff, Nat.reduceLT, Nat.reduceBEq, Nat.reduceBNe, Nat.reduceEqDiff, ↓reduceIte, Int.reduceAdd, Int.reduceSub, Int.reduceMul, Int.reduceLT, Int.reduceLE, Int.reduceEq, Int.reduceNeg, Int.reduceToNat]
  | k + 1, n, acc, v, bl, hn, ha, hO => by
    have h1 : ((n : Int) < l.parts.length) := by omega
    have hpl := hl.parts
    have hwn := wrapN (n := n) (by omega)
    obtain ⟨v1, bl1, e1, o1, _⟩ := hO.app1 flatB (bytes := 1) (zero := [.bool false]) (by decide) rfl rfl (f.clear.getD n false) (by unfold Zc.small at hpl; omega)
    obtain ⟨v', bl', e, o⟩ := clear_loop l hl f k (n + 1) _ v1 bl1 (by omega) (by simp; omega) o1
    refine ⟨v', bl', ?_, by simpa [upF] using o⟩
    simp only [fB] at e1
    rw [l12_clear_R0_eq]
    by_cases a : n < f.clear.length
    · have a' : ((n : Int) < f.clear.length) := by omega
      simp only [l12_clear_B0, l12_clear_K0_norm, l12_clear_K0_ret, l12_clear_K0_exit, h1, a', iaddr_getB a, hwn, hO.chkV, e1, o1.chkV, e, y1, y2, y3, y4, y5, y6, y7, y8, y9, keepE, keepB, chk, CV.locs, CV.locv, CV.refs, CV.ref, pureOp, repC, takeN, resV, enterC, Nat.reduceAdd, Nat.reduceSub, Nat.reduceMul, Nat.reduceLeDiff, Nat.reduceLT, Nat.reduceBEq, Nat.reduceBNe, Nat.reduceEqDiff, ↓reduceIte, Int.reduceAdd, Int.reduceSub, Int.reduceMul, Int.reduceLT, Int.reduceLE, Int.reduceEq, Int.reduceNeg, Int.reduceToNat]
    · have a' : ¬ ((n : Int) < f.clear.length) := by omega
      have hd : f.clear.getD n false = false := by simp [List.getD, List.getElem?_eq_none (Nat.le_of_not_lt a)]
      rw [hd] at e1
      simp only [l12_clear_B0, l12_clear_K0_norm, l12_clear_K0_ret, l12_clear_K0_exit, h1, a', hwn, hO.chkV, e1, o1.chkV, e, y1, y2, y3, y4, y5, y6, y7, y8, y9, keepE, keepB, chk, CV.locs, CV.locv, CV.refs, CV.ref, pureOp, repC, takeN, resV, enterC, Nat.reduceAdd, Nat.reduceSub, Nat.reduceMul, Nat.reduceLeDiff, Nat.reduceLT, Nat.reduceBEq, Nat.reduceBNe, Nat.reduceEqDiff, ↓reduceIte, Int.reduceAdd, Int.reduceSub, Int.reduceMul, Int.reduceLT, Int.reduceLE, Int.reduceEq, Int.reduceNeg, Int.reduceToNat]
theorem clear_F (l : Lay) (hl : l.ok) (f : Fld) (st : Bool) (H : Heap) : l12_clear_F st H [.agg (layC l), .agg (fieldC f)] = some (sl fB (clearL l f), H) := by
  obtain ⟨v', bl', e, o⟩ := clear_loop l hl f l.parts.length 0 [] .nils [] (by omega) rfl (Own.nil _ _ _)
  simp only [List.nil_append, List.length_nil, Int.natCast_zero] at e o
  have hs := fun bx => o.snapV flatB bx st _ (snap_B ⟨bx, bl'⟩ st false 6)
  rw [l12_clear_F_eq]
  simp only [l12_clear_C, l12_clear_L0_eq, e, o.locv, o.one, o.cells, hs, clearL, y1, y2, y3, y4, y5, y6, y7, y8, y9, keepE, keepB, chk, CV.locs, CV.locv, CV.refs, CV.ref, pureOp, repC, takeN, resV, enterC, Nat.reduceAdd, Nat.reduceSub, Nat.reduceMul, Nat.reduceLeDiff, Nat.reduceLT, Nat.reduceBEq, Nat.reduceBNe, Nat.reduceEqDiff, ↓reduceIte, Int.reduceAdd, Int.reduceSub, Int.reduceMul, Int.reduceLT, Int.reduceLE, Int.reduceEq, Int.reduceNeg, Int.reduceToNat]

theorem few_loop (f : Fld) (hf : f.ok) : ∀ (s p : List Look), p ++ s = f.views →
    l12_few_R0 ([(1, .op (.loc 1) 0), (3, .int .i64 p.length)], ⟨[(1, fieldC f)], []⟩) =
      if (s.all fun v => decide (v.span.length ≤ 14)) = true then some (.norm, [(1, .op (.loc 1) 0)], ⟨[(1, fieldC f)], []⟩) else some (.ret, [(2, .bool false)], ⟨[(1, fieldC f)], []⟩)
  | [], p, hp => by
    have h1 : ¬ ((p.length : Int) < f.views.length) := by rw [← hp]; simp
    rw [l12_few_R0_eq]
    simp only [l12_few_B0, l12_few_K0_norm, l12_few_K0_ret, l12_few_K0_exit, h1, y1, y2, y3, y4, y5, y6, y7, y8, y9, keepE, keepB, chk, CV.locs, CV.locv, CV.refs, CV.ref, pureOp, repC, takeN, resV, enterC, Nat.reduceAdd, Nat.reduceSub, Nat.reduceMul, Nat.reduceLeDiff, Nat.reduceLT, Nat.reduceBEq, Nat.reduceBNe, Nat.reduceEqDiff, ↓reduceIte, Int.reduceAdd, Int.reduceSub, Int.reduceMul, Int.reduceLT, Int.reduceLE, Int.reduceEq, Int.reduceNeg, Int.reduceToNat]
  | x :: s, p, hp => by
    have hpl : p.length + 1 + s.length = f.views.length := by rw [← hp]; simp; omega
    have h1 : ((p.length : Int) < f.views.length) := by omega
    have hl := hf.lenV
    have hw := wrapM (n := p.length) (by unfold maxLen at hl; omega)
    have hia : iaddrC 3 (sl fK f.views) (.int .i64 p.length) = some (.vp (.int .u8 x.id :: .bool x.sure :: sl fU x.span :: s.flatMap fK)) := by rw [← hp]; exact iaddr_midK _ p s x
    have ih := few_loop f hf s (p ++ [x]) (by simpa using hp)
    rw [show (p ++ [x]).length = p.length + 1 by simp] at ih
    rw [l12_few_R0_eq]
    by_cases a : 14 < x.span.length
    · have a' : ((14 : Int) < x.span.length) := by omega
      have hd : ((x :: s).all fun v => decide (v.span.length ≤ 14)) = false := by simp; omega
      simp only [l12_few_B0, l12_few_K0_norm, l12_few_K0_ret, l12_few_K0_exit, h1, hia, eq_true a', hd, y1, y2, y3, y4, y5, y6, y7, y8, y9, keepE, keepB, chk, CV.locs, CV.locv, CV.refs, CV.ref, pureOp, repC, takeN, resV, enterC, Nat.reduceAdd, Nat.reduceSub, Nat.reduceMul, Nat.reduceLeDiff, Nat.reduceLT, Nat.reduceBEq, Nat.reduceBNe, Nat.reduceEqDiff, ↓reduceIte, Int.reduceAdd, Int.reduceSub, Int.reduceMul, Int.reduceLT, Int.reduceLE, Int.reduceEq, Int.reduceNeg, Int.reduceToNat]
    · have a' : ¬ ((14 : Int) < x.span.length) := by omega
      have hd : ((x :: s).all fun v => decide (v.span.length ≤ 14)) = (s.all fun v => decide (v.span.length ≤ 14)) := by
        rw [List.all_cons]; simp; omega
      rw [hd]
      simp only [l12_few_B0, l12_few_K0_norm, l12_few_K0_ret, l12_few_K0_exit, h1, hia, eq_false a', hw, ih, y1, y2, y3, y4, y5, y6, y7, y8, y9, keepE, keepB, chk, CV.locs, CV.locv, CV.refs, CV.ref, pureOp, repC, takeN, resV, enterC, Nat.reduceAdd, Nat.reduceSub, Nat.reduceMul, Nat.reduceLeDiff, Nat.reduceLT, Nat.reduceBEq, Nat.reduceBNe, Nat.reduceEqDiff, ↓reduceIte, Int.reduceAdd, Int.reduceSub, Int.reduceMul, Int.reduceLT, Int.reduceLE, Int.reduceEq, Int.reduceNeg, Int.reduceToNat]
theorem few_F (f : Fld) (hf : f.ok) (st : Bool) (H : Heap) : l12_few_F st H [.agg (fieldC f)] = some (.bool f.few, H) := by
  have e := few_loop f hf f.views [] rfl
  simp only [List.nil_append, List.length_nil, Int.natCast_zero] at e
  rw [l12_few_F_eq]
  cases h : f.views.all fun v => decide (v.span.length ≤ 14) with
  | false =>
    have hd : f.few = false := by simp [Fld.few, h]
    simp only [h, Bool.false_eq_true, if_false] at e
    simp only [l12_few_C, l12_few_L0_eq, e, hd, y1, y2, y3, y4, y5, y6, y7, y8, y9, keepE, keepB, chk, CV.locs, CV.locv, CV.refs, CV.ref, pureOp, repC, takeN, resV, enterC, Nat.reduceAdd, Nat.reduceSub, Nat.reduceMul, Nat.reduceLeDiff, Nat.reduceLT, Nat.reduceBEq, Nat.reduceBNe, Nat.reduceEqDiff, ↓reduceIte, Int.reduceAdd, Int.reduceSub, Int.reduceMul, Int.reduceLT, Int.reduceLE, Int.reduceEq, Int.reduceNeg, Int.reduceToNat]
  | true =>
    simp only [h, if_true] at e
    by_cases a : f.views.length ≤ 6
    · have a' : ((f.views.length : Int) ≤ 6) := by omega
      have hd : f.few = true := by simp only [Fld.few, h, a, decide_true, Bool.and_self]
      simp only [l12_few_C, l12_few_L0_eq, e, hd, eq_true a', y1, y2, y3, y4, y5, y6, y7, y8, y9, keepE, keepB, chk, CV.locs, CV.locv, CV.refs, CV.ref, pureOp, repC, takeN, resV, enterC, Nat.reduceAdd, Nat.reduceSub, Nat.reduceMul, Nat.reduceLeDiff, Nat.reduceLT, Nat.reduceBEq, Nat.reduceBNe, Nat.reduceEqDiff, ↓reduceIte, Int.reduceAdd, Int.reduceSub, Int.reduceMul, Int.reduceLT, Int.reduceLE, Int.reduceEq, Int.reduceNeg, Int.reduceToNat]
    · have a' : ¬ ((f.views.length : Int) ≤ 6) := by omega
      have hd : f.few = false := by simp only [Fld.few, a, decide_false, Bool.and_false]
      simp only [l12_few_C, l12_few_L0_eq, e, hd, eq_false a', y1, y2, y3, y4, y5, y6, y7, y8, y9, keepE, keepB, chk, CV.locs, CV.locv, CV.refs, CV.ref, pureOp, repC, takeN, resV, enterC, Nat.reduceAdd, Nat.reduceSub, Nat.reduceMul, Nat.reduceLeDiff, Nat.reduceLT, Nat.reduceBEq, Nat.reduceBNe, Nat.reduceEqDiff, ↓reduceIte, Int.reduceAdd, Int.reduceSub, Int.reduceMul, Int.reduceLT, Int.reduceLE, Int.reduceEq, Int.reduceNeg, Int.reduceToNat]
end Go.Proofs.Ytmjffmghkfappaa.Zt
