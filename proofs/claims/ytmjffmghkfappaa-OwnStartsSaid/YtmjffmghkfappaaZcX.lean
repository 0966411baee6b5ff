/- Walks: the parts that join one, as the reference tells; the law's example. -/
import Derived.Test.YtmjffmghkfappaaZcW
import Derived.Test.YtmjffmghkfappaaZcPart
set_option linter.all false
namespace Go.Proofs.Ytmjffmghkfappaa.Zt
open Go Go.Zc
set_option maxRecDepth 10000

theorem beside_in (l : Lay) (hl : l.ok) (pt : Int) (c : CV) (hc : c.locv = false) : ∀ (s p acc : List Int) (v : CV) (bl : List Blk), (p ++ s).length ≤ 2 * Zc.small → acc.length + s.length ≤ 2 * Zc.small → Own fI 1 bl v acc →
    ∃ v' bl', r05_Beside_R2 ([(1, .int .i64 pt), (2, .op (.loc 2) 0), (5, v), (6, c), (7, sl fI (p ++ s)), (8, .int .i64 p.length)], ⟨[(2, layC l)], bl⟩) =
      some (.norm, [(1, .int .i64 pt), (2, .op (.loc 2) 0), (5, v'), (6, c)], ⟨[(2, layC l)], bl'⟩) ∧ Own fI 1 bl' v' (acc ++ (s.map (partOf l)).filter fun k => decide (0 ≤ k) && decide (k ≠ pt))
  | [], p, acc, v, bl, hm, ha, hO => by
    refine ⟨v, bl, ?_, by simpa using hO⟩
    have h3 := chkV_of hc
    rw [r05_Beside_R2_eq]
    simp only [r05_Beside_B2, r05_Beside_K2_norm, r05_Beside_K2_ret, r05_Beside_K2_exit, h3, hO.chkV, y1, y2, y3, y4, y5, y6, y7, y8, y9, keepE, keepB, chk, CV.locs, CV.locv, CV.refs, CV.ref, pureOp, repC, takeN, resV, enterC, Nat.reduceAdd, Nat.reduceSub, Nat.reduceMul, Nat.reduceLeDiff, Nat.reduceLT, Nat.reduceBEq, Nat.reduceBNe, Nat.reduceEqDiff, ↓reduceIte, Int.reduceAdd, Int.reduceSub, Int.reduceMul, Int.reduceLT, Int.reduceLE, Int.reduceEq, Int.reduceNeg, Int.reduceToNat]
  | x :: s, p, acc, v, bl, hm, ha, hO => by
    have h3 := chkV_of hc
    have h4 : ((p.length : Int) < (p ++ x :: s).length) := by simp; omega
    have hw := wrapN (n := p.length) (by simp at hm; omega)
    simp only [List.length_cons] at ha
    have ha' := ha
    unfold Zc.small at ha'
    have hpF := part_F l hl x
    by_cases h0 : 0 ≤ partOf l x
    · by_cases hq : partOf l x = pt
      · obtain ⟨v', bl', e, o⟩ := beside_in l hl pt c hc s (p ++ [x]) acc v bl (by simpa using hm) (by omega) hO
        simp only [List.append_assoc, List.cons_append, List.nil_append, List.length_append, List.length_cons, List.length_nil] at e h4
        refine ⟨v', bl', ?_, by simpa [h0, hq] using o⟩
        rw [r05_Beside_R2_eq]
        simp only [r05_Beside_B2, r05_Beside_K2_norm, r05_Beside_K2_ret, r05_Beside_K2_exit, List.append_assoc, List.cons_append, List.nil_append, List.length_append, List.length_cons, List.length_nil, h4, iaddr_midI, hw, h3, hO.chkV, r05_Part_call, hpF, eq_true h0, eq_true hq, e, y1, y2, y3, y4, y5, y6, y7, y8, y9, keepE, keepB, chk, CV.locs, CV.locv, CV.refs, CV.ref, pureOp, repC, takeN, resV, enterC, Nat.reduceAdd, Nat.reduceSub, Nat.reduceMul, Nat.reduceLeDiff, Nat.reduceLT, Nat.reduceBEq, Nat.reduceBNe, Nat.reduceEqDiff, ↓reduceIte, Int.reduceAdd, Int.reduceSub, Int.reduceMul, Int.reduceLT, Int.reduceLE, Int.reduceEq, Int.reduceNeg, Int.reduceToNat]
      · obtain ⟨v1, bl1, e1, o1, _⟩ := hO.app1 flatI (bytes := 8) (zero := [.int .i64 0]) (by decide) rfl rfl (partOf l x) (by omega)
        obtain ⟨v', bl', e, o⟩ := beside_in l hl pt c hc s (p ++ [x]) (acc ++ [partOf l x]) v1 bl1 (by simpa using hm) (by simp; omega) o1
        simp only [fI] at e1
        simp only [List.append_assoc, List.cons_append, List.nil_append, List.length_append, List.length_cons, List.length_nil] at e h4
        refine ⟨v', bl', ?_, by simpa [h0, hq] using o⟩
        rw [r05_Beside_R2_eq]
        simp only [r05_Beside_B2, r05_Beside_K2_norm, r05_Beside_K2_ret, r05_Beside_K2_exit, List.append_assoc, List.cons_append, List.nil_append, List.length_append, List.length_cons, List.length_nil, h4, iaddr_midI, hw, h3, hO.chkV, r05_Part_call, hpF, eq_true h0, eq_false hq, e1, o1.chkV, e, y1, y2, y3, y4, y5, y6, y7, y8, y9, keepE, keepB, chk, CV.locs, CV.locv, CV.refs, CV.ref, pureOp, repC, takeN, resV, enterC, Nat.reduceAdd, Nat.reduceSub, Nat.reduceMul, Nat.reduceLeDiff, Nat.reduceLT, Nat.reduceBEq, Nat.reduceBNe, Nat.reduceEqDiff, ↓reduceIte, Int.reduceAdd, Int.reduceSub, Int.reduceMul, Int.reduceLT, Int.reduceLE, Int.reduceEq, Int.reduceNeg, Int.reduceToNat]
    · obtain ⟨v', bl', e, o⟩ := beside_in l hl pt c hc s (p ++ [x]) acc v bl (by simpa using hm) (by omega) hO
      simp only [List.append_assoc, List.cons_append, List.nil_append, List.length_append, List.length_cons, List.length_nil] at e h4
      refine ⟨v', bl', ?_, by simpa [h0] using o⟩
      rw [r05_Beside_R2_eq]
      simp only [r05_Beside_B2, r05_Beside_K2_norm, r05_Beside_K2_ret, r05_Beside_K2_exit, List.append_assoc, List.cons_append, List.nil_append, List.length_append, List.length_cons, List.length_nil, h4, iaddr_midI, hw, h3, hO.chkV, r05_Part_call, hpF, eq_false h0, e, y1, y2, y3, y4, y5, y6, y7, y8, y9, keepE, keepB, chk, CV.locs, CV.locv, CV.refs, CV.ref, pureOp, repC, takeN, resV, enterC, Nat.reduceAdd, Nat.reduceSub, Nat.reduceMul, Nat.reduceLeDiff, Nat.reduceLT, Nat.reduceBEq, Nat.reduceBNe, Nat.reduceEqDiff, ↓reduceIte, Int.reduceAdd, Int.reduceSub, Int.reduceMul, Int.reduceLT, Int.reduceLE, Int.reduceEq, Int.reduceNeg, Int.reduceToNat]

theorem beside_out (l : Lay) (hl : l.ok) (n : Nat) (hn : n < l.parts.length) : ∀ (s p acc : List Int) (v : CV) (bl : List Blk), p ++ s = l.parts[n] → acc.length + (besideL l n s).length ≤ Zc.small → Own fI 1 bl v acc →
    ∃ v' bl', r05_Beside_R0 ([(1, .int .i64 n), (2, .op (.loc 2) 0), (5, v), (6, .int .i64 p.length)], ⟨[(2, layC l)], bl⟩) =
      some (.norm, [(5, v')], ⟨[], bl'⟩) ∧ Own fI 1 bl' v' (acc ++ besideL l n s)
  | [], p, acc, v, bl, hm, ha, hO => by
    refine ⟨v, bl, ?_, by simpa [besideL] using hO⟩
    rw [List.append_nil] at hm
    subst hm
    rw [r05_Beside_R0_eq]
    simp only [r05_Beside_B0, r05_Beside_K0_norm, r05_Beside_K0_ret, r05_Beside_K0_exit, iaddr_atL hn, hO.chkV, y1, y2, y3, y4, y5, y6, y7, y8, y9, keepE, keepB, chk, CV.locs, CV.locv, CV.refs, CV.ref, pureOp, repC, takeN, resV, enterC, Nat.reduceAdd, Nat.reduceSub, Nat.reduceMul, Nat.reduceLeDiff, Nat.reduceLT, Nat.reduceBEq, Nat.reduceBNe, Nat.reduceEqDiff, ↓reduceIte, Int.reduceAdd, Int.reduceSub, Int.reduceMul, Int.reduceLT, Int.reduceLE, Int.reduceEq, Int.reduceNeg, Int.reduceToNat]
  | x :: s, p, acc, v, bl, hm, ha, hO => by
    have hq := hl.part _ (List.getElem_mem hn)
    rw [← hm] at hq
    have h4 : ((p.length : Int) < (l.parts[n]).length) := by rw [← hm]; simp; omega
    have hw := wrapN (n := p.length) (by simp at hq; omega)
    have hnl := near_len l x
    have hia : iaddrC 1 (sl fI l.parts[n]) (.int .i64 p.length) = some (.vp (.int .i64 x :: s.flatMap fI)) := by rw [← hm]; exact iaddr_midI _ p s x
    rw [besideL_cons, List.length_append] at ha
    obtain ⟨v1, bl1, e1, o1⟩ := beside_in l hl n (.int .i64 p.length) rfl (near l x) [] acc v bl (by unfold Zc.small; simp; omega) (by unfold Zc.small at *; omega) hO
    obtain ⟨v', bl', e, o⟩ := beside_out l hl n hn s (p ++ [x]) _ v1 bl1 (by simpa using hm) (by simp only [List.length_append]; omega) o1
    simp only [List.nil_append, List.length_nil, Int.natCast_zero] at e1
    simp only [List.append_assoc, List.cons_append, List.nil_append, List.length_append, List.length_cons, List.length_nil] at e e1
    refine ⟨v', bl', ?_, by simpa only [besideL_cons, List.append_assoc] using o⟩
    rw [r05_Beside_R0_eq]
    simp only [r05_Beside_B0, r05_Beside_K0_norm, r05_Beside_K0_ret, r05_Beside_K0_exit, r05_Beside_L2_eq, iaddr_atL hn, hia, h4, hw, hO.chkV, r05_Near_call, near_F l hl, e1, o1.chkV, e, y1, y2, y3, y4, y5, y6, y7, y8, y9, keepE, keepB, chk, CV.locs, CV.locv, CV.refs, CV.ref, pureOp, repC, takeN, resV, enterC, Nat.reduceAdd, Nat.reduceSub, Nat.reduceMul, Nat.reduceLeDiff, Nat.reduceLT, Nat.reduceBEq, Nat.reduceBNe, Nat.reduceEqDiff, ↓reduceIte, Int.reduceAdd, Int.reduceSub, Int.reduceMul, Int.reduceLT, Int.reduceLE, Int.reduceEq, Int.reduceNeg, Int.reduceToNat]

theorem beside_F (l : Lay) (hl : l.ok) (pt : Int) (hb : ∀ q, partIx l pt = some q → (besideL l pt q).length ≤ 12) (H : Heap) : r05_Beside_F false H [.agg (layC l), .int .i64 pt] = some (sl fI (beside l pt), H) := by
  rw [r05_Beside_F_eq]
  cases hp : partIx l pt with
  | none =>
    have hbe : beside l pt = [] := by simp [beside, hp]
    rw [hbe]
    rcases partIx_none hp with h1 | ⟨h0, h1⟩
    · simp only [r05_Beside_C, h1, sl_nil fI, y1, y2, y3, y4, y5, y6, y7, y8, y9, keepE, keepB, chk, CV.locs, CV.locv, CV.refs, CV.ref, pureOp, repC, takeN, resV, enterC, Nat.reduceAdd, Nat.reduceSub, Nat.reduceMul, Nat.reduceLeDiff, Nat.reduceLT, Nat.reduceBEq, Nat.reduceBNe, Nat.reduceEqDiff, ↓reduceIte, Int.reduceAdd, Int.reduceSub, Int.reduceMul, Int.reduceLT, Int.reduceLE, Int.reduceEq, Int.reduceNeg, Int.reduceToNat]
    · have h2 : ¬ pt < 0 := by omega
      simp only [r05_Beside_C, h1, h2, sl_nil fI, y1, y2, y3, y4, y5, y6, y7, y8, y9, keepE, keepB, chk, CV.locs, CV.locv, CV.refs, CV.ref, pureOp, repC, takeN, resV, enterC, Nat.reduceAdd, Nat.reduceSub, Nat.reduceMul, Nat.reduceLeDiff, Nat.reduceLT, Nat.reduceBEq, Nat.reduceBNe, Nat.reduceEqDiff, ↓reduceIte, Int.reduceAdd, Int.reduceSub, Int.reduceMul, Int.reduceLT, Int.reduceLE, Int.reduceEq, Int.reduceNeg, Int.reduceToNat]
  | some q =>
    obtain ⟨n, hn, rfl, rfl⟩ := partIx_some hp
    have h1 : ¬ ((n : Int) < 0) := by omega
    have h2 : ¬ ((l.parts.length : Int) ≤ n) := by omega
    have hB := hb _ hp
    obtain ⟨v2, bl2, e2, o2⟩ := beside_out l hl n hn l.parts[n] [] [] .nils [] rfl (by unfold Zc.small; simp only [List.length_nil]; omega) (Own.nil _ _ _)
    simp only [List.nil_append, List.length_nil, Int.natCast_zero] at e2 o2
    have hs2 := fun bx st => snapI_own o2 bx st
    have hr := rise_F (besideL l n l.parts[n]) (by unfold Zc.small; omega)
    have hbe : beside l n = rise (besideL l n l.parts[n]) := by simp [beside, hp]
    rw [hbe]
    simp only [r05_Beside_C, r05_Beside_L0_eq, h1, h2, e2, r01_Rise_call, hs2, hr, y1, y2, y3, y4, y5, y6, y7, y8, y9, keepE, keepB, chk, CV.locs, CV.locv, CV.refs, CV.ref, pureOp, repC, takeN, resV, enterC, Nat.reduceAdd, Nat.reduceSub, Nat.reduceMul, Nat.reduceLeDiff, Nat.reduceLT, Nat.reduceBEq, Nat.reduceBNe, Nat.reduceEqDiff, ↓reduceIte, Int.reduceAdd, Int.reduceSub, Int.reduceMul, Int.reduceLT, Int.reduceLE, Int.reduceEq, Int.reduceNeg, Int.reduceToNat]

theorem gnew5_F (l : Lay) (H : Heap) : graph_New_F false H [.agg (layC l)] = some (.vp (layC l), H) := by
  rw [graph_New_F_eq]
  simp only [graph_New_C, Nat.zero_le, y1, y2, y3, y4, y5, y6, y7, y8, y9, keepE, keepB, chk, CV.locs, CV.locv, CV.refs, CV.ref, pureOp, repC, takeN, resV, enterC, Nat.reduceAdd, Nat.reduceSub, Nat.reduceMul, Nat.reduceLeDiff, Nat.reduceLT, Nat.reduceBEq, Nat.reduceBNe, Nat.reduceEqDiff, ↓reduceIte, Int.reduceAdd, Int.reduceSub, Int.reduceMul, Int.reduceLT, Int.reduceLE, Int.reduceEq, Int.reduceNeg, Int.reduceToNat]

end Go.Proofs.Ytmjffmghkfappaa.Zt
