/- The law JudgeStill, walked to its end. -/
import Derived.Test.YtfblegjbmhgepaaZcJs
import Derived.Test.YtfblegjbmhgepaaZcTrack
set_option linter.all false
namespace Go.Proofs.Ytfblegjbmhgepaa.Zt
open Go Go.Zc
set_option maxRecDepth 10000

theorem nobody_F (st : Bool) (H : Heap) : l20_nobody_F st H [] = some (.bool true, H) := fz_run 300 (by kernel_rfl)

set_option maxHeartbeats 40000000 in
theorem still_loop (was is : List Bool) (states : List Int) (locked : List Bool) (hlk : locked.length ≤ small) : ∀ (S P : List Pt), (P ++ S).length ≤ small → (∀ p ∈ S, 0 ≤ p.stem) →
    ∃ bx, judge_Still_R0 ([(1, sl fB was), (2, sl fB is), (3, sl fU states), (4, sl fB locked), (15, sl fP (P ++ S)), (16, .int .i64 (P ++ S).length), (17, .int .i64 P.length)], ⟨[], []⟩) =
      if stills was is states locked P.length S = true then some (.norm, [], ⟨[], []⟩) else some (.ret, [(10, .bool false)], ⟨bx, []⟩) := by
  intro S
  induction S with
  | nil =>
    intro P hl _
    simp only [List.append_nil]
    refine ⟨[], ?_⟩
    rw [judge_Still_R0_eq]
    simp only [judge_Still_B0, judge_Still_K0_norm, judge_Still_K0_ret, judge_Still_K0_exit, stills, y1, y2, y3, y4, y5, y6, y7, y8, y9, keepE, keepB, chk, CV.locs, CV.locv, CV.refs, CV.ref, pureOp, repC, takeN, resV, enterC, Nat.reduceAdd, Nat.reduceSub, Nat.reduceMul, Nat.reduceLeDiff, Nat.reduceLT, Nat.reduceBEq, Nat.reduceBNe, Nat.reduceEqDiff, ↓reduceIte, Int.reduceAdd, Int.reduceSub, Int.reduceMul, Int.reduceLT, Int.reduceLE, Int.reduceEq, Int.reduceNeg, Int.reduceToNat]
  | cons p S ih =>
    intro P hl hst
    obtain ⟨s, hs⟩ := Int.eq_ofNat_of_zero_le (hst p (by simp))
    have h0 : (0 : Int) ≤ s := by omega
    have h1 : ((P.length : Int) < (P ++ p :: S).length) := by simp; omega
    have hia := iaddr_midP .i64 P S p
    have hw := wrapN (n := P.length) (by simp at hl; omega)
    obtain ⟨bx, ih'⟩ := ih (P ++ [p]) (by simpa using hl) (fun q hq => hst q (by simp [hq]))
    rw [show (P ++ [p]) ++ S = P ++ p :: S by simp, show (P ++ [p]).length = P.length + 1 by simp] at ih'
    rw [judge_Still_R0_eq]
    have hstem : p.stem.toNat = s := by rw [hs]; rfl
    simp only [stills, hstem]
    have hj := fun (l : List Bool) (i : Nat) st H => jhas_F l i st H
    cases hA : was.getD P.length false <;> cases hB : is.getD P.length false <;>
      (by_cases h2 : s < states.length
       · by_cases h3 : states.getD s 1 = 0
         · cases h5 : locked.getD s false <;>
             first
              | (refine ⟨bx, ?_⟩; simp only [judge_Still_B0, judge_Still_K0_norm, judge_Still_K0_ret, judge_Still_K0_exit, h0, h1, hia, hw, hs, Int.ofNat_lt, hA, hB, judge_has_call, hj, ge_iff_le, Bool.true_beq, Bool.false_beq, iaddr_getU, h2, h3, h5, freeAt, ih', y1, y2, y3, y4, y5, y6, y7, y8, y9, keepE, keepB, chk, CV.locs, CV.locv, CV.refs, CV.ref, pureOp, repC, takeN, resV, enterC, Nat.reduceAdd, Nat.reduceSub, Nat.reduceMul, Nat.reduceLeDiff, Nat.reduceLT, Nat.reduceBEq, Nat.reduceBNe, Nat.reduceEqDiff, ↓reduceIte, Int.reduceAdd, Int.reduceSub, Int.reduceMul, Int.reduceLT, Int.reduceLE, Int.reduceEq, Int.reduceNeg, Int.reduceToNat]; done)
              | (refine ⟨[(12, [.int .i64 p.node, .int .i64 s, .int .i64 p.left, .int .i64 p.right])], ?_⟩; simp only [judge_Still_B0, judge_Still_K0_norm, judge_Still_K0_ret, judge_Still_K0_exit, h0, h1, hia, hw, hs, Int.ofNat_lt, hA, hB, judge_has_call, hj, ge_iff_le, Bool.true_beq, Bool.false_beq, iaddr_getU, h2, h3, h5, freeAt, ih', y1, y2, y3, y4, y5, y6, y7, y8, y9, keepE, keepB, chk, CV.locs, CV.locv, CV.refs, CV.ref, pureOp, repC, takeN, resV, enterC, Nat.reduceAdd, Nat.reduceSub, Nat.reduceMul, Nat.reduceLeDiff, Nat.reduceLT, Nat.reduceBEq, Nat.reduceBNe, Nat.reduceEqDiff, ↓reduceIte, Int.reduceAdd, Int.reduceSub, Int.reduceMul, Int.reduceLT, Int.reduceLE, Int.reduceEq, Int.reduceNeg, Int.reduceToNat]; done)
         · first
              | (refine ⟨bx, ?_⟩; simp only [judge_Still_B0, judge_Still_K0_norm, judge_Still_K0_ret, judge_Still_K0_exit, h0, h1, hia, hw, hs, Int.ofNat_lt, hA, hB, judge_has_call, hj, ge_iff_le, Bool.true_beq, Bool.false_beq, iaddr_getU, h2, h3, freeAt, ih', y1, y2, y3, y4, y5, y6, y7, y8, y9, keepE, keepB, chk, CV.locs, CV.locv, CV.refs, CV.ref, pureOp, repC, takeN, resV, enterC, Nat.reduceAdd, Nat.reduceSub, Nat.reduceMul, Nat.reduceLeDiff, Nat.reduceLT, Nat.reduceBEq, Nat.reduceBNe, Nat.reduceEqDiff, ↓reduceIte, Int.reduceAdd, Int.reduceSub, Int.reduceMul, Int.reduceLT, Int.reduceLE, Int.reduceEq, Int.reduceNeg, Int.reduceToNat]; done)
              | (refine ⟨[(12, [.int .i64 p.node, .int .i64 s, .int .i64 p.left, .int .i64 p.right])], ?_⟩; simp only [judge_Still_B0, judge_Still_K0_norm, judge_Still_K0_ret, judge_Still_K0_exit, h0, h1, hia, hw, hs, Int.ofNat_lt, hA, hB, judge_has_call, hj, ge_iff_le, Bool.true_beq, Bool.false_beq, iaddr_getU, h2, h3, freeAt, ih', y1, y2, y3, y4, y5, y6, y7, y8, y9, keepE, keepB, chk, CV.locs, CV.locv, CV.refs, CV.ref, pureOp, repC, takeN, resV, enterC, Nat.reduceAdd, Nat.reduceSub, Nat.reduceMul, Nat.reduceLeDiff, Nat.reduceLT, Nat.reduceBEq, Nat.reduceBNe, Nat.reduceEqDiff, ↓reduceIte, Int.reduceAdd, Int.reduceSub, Int.reduceMul, Int.reduceLT, Int.reduceLE, Int.reduceEq, Int.reduceNeg, Int.reduceToNat]; done)
       · first
              | (refine ⟨bx, ?_⟩; simp only [judge_Still_B0, judge_Still_K0_norm, judge_Still_K0_ret, judge_Still_K0_exit, h0, h1, hia, hw, hs, Int.ofNat_lt, hA, hB, judge_has_call, hj, ge_iff_le, Bool.true_beq, Bool.false_beq, h2, freeAt, ih', y1, y2, y3, y4, y5, y6, y7, y8, y9, keepE, keepB, chk, CV.locs, CV.locv, CV.refs, CV.ref, pureOp, repC, takeN, resV, enterC, Nat.reduceAdd, Nat.reduceSub, Nat.reduceMul, Nat.reduceLeDiff, Nat.reduceLT, Nat.reduceBEq, Nat.reduceBNe, Nat.reduceEqDiff, ↓reduceIte, Int.reduceAdd, Int.reduceSub, Int.reduceMul, Int.reduceLT, Int.reduceLE, Int.reduceEq, Int.reduceNeg, Int.reduceToNat]; done)
              | (refine ⟨[(12, [.int .i64 p.node, .int .i64 s, .int .i64 p.left, .int .i64 p.right])], ?_⟩; simp only [judge_Still_B0, judge_Still_K0_norm, judge_Still_K0_ret, judge_Still_K0_exit, h0, h1, hia, hw, hs, Int.ofNat_lt, hA, hB, judge_has_call, hj, ge_iff_le, Bool.true_beq, Bool.false_beq, h2, freeAt, ih', y1, y2, y3, y4, y5, y6, y7, y8, y9, keepE, keepB, chk, CV.locs, CV.locv, CV.refs, CV.ref, pureOp, repC, takeN, resV, enterC, Nat.reduceAdd, Nat.reduceSub, Nat.reduceMul, Nat.reduceLeDiff, Nat.reduceLT, Nat.reduceBEq, Nat.reduceBNe, Nat.reduceEqDiff, ↓reduceIte, Int.reduceAdd, Int.reduceSub, Int.reduceMul, Int.reduceLT, Int.reduceLE, Int.reduceEq, Int.reduceNeg, Int.reduceToNat]; done))

theorem still_F (was is : List Bool) (states : List Int) (locked : List Bool) (hlk : locked.length ≤ small) (l : Lay) (hl : l.ok) (hst : ∀ p ∈ l.pts, 0 ≤ p.stem) (st : Bool) (H : Heap) :
    judge_Still_F st H [.agg (layC l), sl fB was, sl fB is, sl fU states, sl fB locked] = some (.bool (stills was is states locked 0 l.pts), H) := by
  obtain ⟨bx, e⟩ := still_loop was is states locked hlk l.pts [] (by simpa using hl.pts) hst
  simp only [List.nil_append, List.length_nil, Int.natCast_zero] at e
  rw [judge_Still_F_eq]
  cases h : stills was is states locked 0 l.pts <;> simp only [h, if_true, Bool.false_eq_true, if_false] at e <;> simp only [judge_Still_C, judge_Still_L0_eq, e, y1, y2, y3, y4, y5, y6, y7, y8, y9, keepE, keepB, chk, CV.locs, CV.locv, CV.refs, CV.ref, pureOp, repC, takeN, resV, enterC, Nat.reduceAdd, Nat.reduceSub, Nat.reduceMul, Nat.reduceLeDiff, Nat.reduceLT, Nat.reduceBEq, Nat.reduceBNe, Nat.reduceEqDiff, ↓reduceIte, Int.reduceAdd, Int.reduceSub, Int.reduceMul, Int.reduceLT, Int.reduceLE, Int.reduceEq, Int.reduceNeg, Int.reduceToNat]

theorem stills_same (was : List Bool) (states : List Int) (locked : List Bool) : ∀ (S : List Pt) (i : Nat), stills was was states locked i S = true
  | [], _ => rfl
  | p :: S, i => by simp [stills, stills_same was states locked S (i + 1)]

set_option maxHeartbeats 1000000 in
theorem judgeStill_F (d : Draft) (hd : d.ok) (was is : List Bool) (states : List Int) (locked : List Bool) (H : Heap) :
    l20_JudgeStill_F false H [.agg (draftC d), sl fB was, sl fB is, sl fU states, sl fB locked] = some (.bool true, H) := by
  rw [l20_JudgeStill_F_eq]
  have hsF := fun st H => small_F d hd st H
  have hn := nobody_F
  cases hs : d.small with
  | false =>
    simp only [hs] at hsF
    simp only [l20_JudgeStill_C, l20_nobody_call, hn, r04_Small_call, hsF, y1, y2, y3, y4, y5, y6, y7, y8, y9, keepE, keepB, chk, CV.locs, CV.locv, CV.refs, CV.ref, pureOp, repC, takeN, resV, enterC, Nat.reduceAdd, Nat.reduceSub, Nat.reduceMul, Nat.reduceLeDiff, Nat.reduceLT, Nat.reduceBEq, Nat.reduceBNe, Nat.reduceEqDiff, ↓reduceIte, Int.reduceAdd, Int.reduceSub, Int.reduceMul, Int.reduceLT, Int.reduceLE, Int.reduceEq, Int.reduceNeg, Int.reduceToNat]
  | true =>
    simp only [hs] at hsF
    by_cases h1 : (12 : Int) < was.length
    · simp only [l20_JudgeStill_C, l20_nobody_call, hn, r04_Small_call, hsF, h1, y1, y2, y3, y4, y5, y6, y7, y8, y9, keepE, keepB, chk, CV.locs, CV.locv, CV.refs, CV.ref, pureOp, repC, takeN, resV, enterC, Nat.reduceAdd, Nat.reduceSub, Nat.reduceMul, Nat.reduceLeDiff, Nat.reduceLT, Nat.reduceBEq, Nat.reduceBNe, Nat.reduceEqDiff, ↓reduceIte, Int.reduceAdd, Int.reduceSub, Int.reduceMul, Int.reduceLT, Int.reduceLE, Int.reduceEq, Int.reduceNeg, Int.reduceToNat]
    by_cases h2 : (12 : Int) < is.length
    · simp only [l20_JudgeStill_C, l20_nobody_call, hn, r04_Small_call, hsF, h1, h2, y1, y2, y3, y4, y5, y6, y7, y8, y9, keepE, keepB, chk, CV.locs, CV.locv, CV.refs, CV.ref, pureOp, repC, takeN, resV, enterC, Nat.reduceAdd, Nat.reduceSub, Nat.reduceMul, Nat.reduceLeDiff, Nat.reduceLT, Nat.reduceBEq, Nat.reduceBNe, Nat.reduceEqDiff, ↓reduceIte, Int.reduceAdd, Int.reduceSub, Int.reduceMul, Int.reduceLT, Int.reduceLE, Int.reduceEq, Int.reduceNeg, Int.reduceToNat]
    by_cases h3 : (40 : Int) < states.length
    · simp only [l20_JudgeStill_C, l20_nobody_call, hn, r04_Small_call, hsF, h1, h2, h3, y1, y2, y3, y4, y5, y6, y7, y8, y9, keepE, keepB, chk, CV.locs, CV.locv, CV.refs, CV.ref, pureOp, repC, takeN, resV, enterC, Nat.reduceAdd, Nat.reduceSub, Nat.reduceMul, Nat.reduceLeDiff, Nat.reduceLT, Nat.reduceBEq, Nat.reduceBNe, Nat.reduceEqDiff, ↓reduceIte, Int.reduceAdd, Int.reduceSub, Int.reduceMul, Int.reduceLT, Int.reduceLE, Int.reduceEq, Int.reduceNeg, Int.reduceToNat]
    by_cases h4 : (40 : Int) < locked.length
    · simp only [l20_JudgeStill_C, l20_nobody_call, hn, r04_Small_call, hsF, h1, h2, h3, h4, y1, y2, y3, y4, y5, y6, y7, y8, y9, keepE, keepB, chk, CV.locs, CV.locv, CV.refs, CV.ref, pureOp, repC, takeN, resV, enterC, Nat.reduceAdd, Nat.reduceSub, Nat.reduceMul, Nat.reduceLeDiff, Nat.reduceLT, Nat.reduceBEq, Nat.reduceBNe, Nat.reduceEqDiff, ↓reduceIte, Int.reduceAdd, Int.reduceSub, Int.reduceMul, Int.reduceLT, Int.reduceLE, Int.reduceEq, Int.reduceNeg, Int.reduceToNat]
    have hok := full_ok d
    have hst : ∀ p ∈ (full d).pts, 0 ≤ p.stem := by rw [make_pts]; exact mkPts_stem _
    have hF := fun H => full_F d hd H
    have e := js_loop was is states locked (full d) hok.pts (full d).pts [] true rfl hst
    simp only [List.length_nil, Int.natCast_zero, Bool.true_and] at e
    have g1 := fun st H => still_F was is states locked (by unfold Zc.small; omega) (full d) hok hst st H
    have g2 := fun st H => still_F was was [] [] (by simp) (full d) hok hst st H
    rw [stills_same] at g2
    have hsl : ∀ {α : Type} (f : α → List CV), sl f [] = .vs [] 0 := fun _ => rfl
    simp only [hsl] at g2
    simp only [l20_JudgeStill_C, l20_JudgeStill_L0_eq, l20_nobody_call, hn, r04_Small_call, hsF, h1, h2, h3, h4, r05_Full_call, hF, e, judge_Still_call, g1, g2, y1, y2, y3, y4, y5, y6, y7, y8, y9, keepE, keepB, chk, CV.locs, CV.locv, CV.refs, CV.ref, pureOp, repC, takeN, resV, enterC, Nat.reduceAdd, Nat.reduceSub, Nat.reduceMul, Nat.reduceLeDiff, Nat.reduceLT, Nat.reduceBEq, Nat.reduceBNe, Nat.reduceEqDiff, ↓reduceIte, Int.reduceAdd, Int.reduceSub, Int.reduceMul, Int.reduceLT, Int.reduceLE, Int.reduceEq, Int.reduceNeg, Int.reduceToNat]
end Go.Proofs.Ytfblegjbmhgepaa.Zt
