/- The laws OwnNext, OwnRuns, walked. -/
import Derived.Test.YtmjffmghkfappaaZcVd
set_option linter.all false
namespace Go.Proofs.Ytmjffmghkfappaa.Zt
open Go Go.Zc
set_option maxRecDepth 10000

theorem comes_F (st : Bool) (H : Heap) : l12_comes_F st H [] = some (.bool true, H) := by cases st <;> exact fz_run 200 (by kernel_rfl)
theorem few_facts {f : Fld} (h : f.few = true) : f.views.length ≤ 6 ∧ ∀ v ∈ f.views, v.span.length ≤ 14 := by
  simp only [Fld.few, Bool.and_eq_true, decide_eq_true_eq, List.all_eq_true] at h
  exact ⟨h.2, h.1⟩
theorem vs_ok (l : Lay) {f : Fld} (h : f.few = true) : VsOk (viewsF l f) := by
  obtain ⟨h1, h2⟩ := few_facts h
  have hl := viewsL_len l.secs.length f.views []
  refine ⟨?_, fun v hv => ?_⟩
  · unfold viewsF Zc.small
    simp only [List.length_nil] at hl
    omega
  · have := viewsL_span l.secs.length 14 f.views [] h2 (by simp) v hv
    unfold Zc.small; omega

set_option maxHeartbeats 1000000 in
theorem ownNext_F (d : Draft) (hd : d.ok) (f : Fld) (hf : f.ok) (st : Bool) (H : Heap) : l12_OwnNext_F st H [.agg (draftC d), .agg (fieldC f)] = some (.bool true, H) := by
  rw [l12_OwnNext_F_eq]
  have hc := comes_F
  have hsF := fun st H => small_F d hd st H
  have hfF := fun st H => few_F f hf st H
  cases hs : d.small with
  | false =>
    simp only [hs] at hsF
    simp only [l12_OwnNext_C, l12_comes_call, hc, r04_Small_call, hsF, y1, y2, y3, y4, y5, y6, y7, y8, y9, keepE, keepB, chk, CV.locs, CV.locv, CV.refs, CV.ref, pureOp, repC, takeN, resV, enterC, Nat.reduceAdd, Nat.reduceSub, Nat.reduceMul, Nat.reduceLeDiff, Nat.reduceLT, Nat.reduceBEq, Nat.reduceBNe, Nat.reduceEqDiff, ↓reduceIte, Int.reduceAdd, Int.reduceSub, Int.reduceMul, Int.reduceLT, Int.reduceLE, Int.reduceEq, Int.reduceNeg, Int.reduceToNat]
  | true =>
    simp only [hs] at hsF
    cases hw : f.few with
    | false =>
      simp only [hw] at hfF
      simp only [l12_OwnNext_C, l12_comes_call, hc, r04_Small_call, hsF, l12_few_call, hfF, y1, y2, y3, y4, y5, y6, y7, y8, y9, keepE, keepB, chk, CV.locs, CV.locv, CV.refs, CV.ref, pureOp, repC, takeN, resV, enterC, Nat.reduceAdd, Nat.reduceSub, Nat.reduceMul, Nat.reduceLeDiff, Nat.reduceLT, Nat.reduceBEq, Nat.reduceBNe, Nat.reduceEqDiff, ↓reduceIte, Int.reduceAdd, Int.reduceSub, Int.reduceMul, Int.reduceLT, Int.reduceLE, Int.reduceEq, Int.reduceNeg, Int.reduceToNat]
    | true =>
      simp only [hw] at hfF
      have hok := full_ok d
      have hg := full_good d hok
      have hB := full_bs d hd
      have hv := vs_ok (full d) hw
      have hpl := hok.parts
      have g1 := fun H => views_F (full d) hok hg.pos f hf hw H
      have g2 := fun st H => owners_F (full d) hok f hf st H
      have g3 := fun st H => clear_F (full d) hok f st H
      have g4 := fun st H => onext_F (full d) hok hB (ownersL (full d) f) (ownersL_len _ _) (clearL (full d) f) (clearL_len _ _) (viewsF (full d) f) hv st H
      have g5 := fun st H => rnext_F (full d) hok hB (ownersL (full d) f) (ownersL_len _ _) (clearL (full d) f) (clearL_len _ _) (viewsF (full d) f) hv st H
      have g6 := fun st H => ints_F (ownNext (full d) (ownersL (full d) f) (clearL (full d) f) (viewsF (full d) f)) (ownNext (full d) (ownersL (full d) f) (clearL (full d) f) (viewsF (full d) f)) (by rw [ownNext_len]; exact hpl) st H
      simp only [l12_OwnNext_C, l12_comes_call, hc, r04_Small_call, hsF, l12_few_call, hfF, r05_Full_call, full_F d hd, l12_views_call, g1, l12_owners_call, g2, l12_clear_call, g3, own_Next_call, g4, r12_Next_call, g5, r01_Ints_call, g6, y1, y2, y3, y4, y5, y6, y7, y8, y9, keepE, keepB, chk, CV.locs, CV.locv, CV.refs, CV.ref, pureOp, repC, takeN, resV, enterC, Nat.reduceAdd, Nat.reduceSub, Nat.reduceMul, Nat.reduceLeDiff, Nat.reduceLT, Nat.reduceBEq, Nat.reduceBNe, Nat.reduceEqDiff, ↓reduceIte, Int.reduceAdd, Int.reduceSub, Int.reduceMul, Int.reduceLT, Int.reduceLE, Int.reduceEq, Int.reduceNeg, Int.reduceToNat]

/-! ### Step by step -/
def fF (f : Fld) : List CV := fieldC f
theorem flatF : Flat fF 3 := ⟨fun _ => rfl, by decide, fun _ => rfl, fun _ => rfl, fun _ => rfl⟩
theorem iaddr_midF (k : IntKind) (pre suf : List Fld) (x : Fld) : iaddrC 3 (sl fF (pre ++ x :: suf)) (.int k pre.length) = some (.vp (sl fU x.own :: sl fB x.clear :: sl fK x.views :: suf.flatMap fF)) := iaddr_mid flatF k pre suf x

set_option maxHeartbeats 1000000 in
theorem runs_loop (l : Lay) (hg : l.good) (hB : BsOk l) (more : List Fld) (hm : ∀ f ∈ more, f.ok) (hml : more.length ≤ 12) : ∀ (s pre : List Fld) (w : List Int), pre ++ s = more → w.length = l.parts.length →
    l12_OwnRuns_R0 ([(2, sl fF more), (7, .op (.loc 7) 0), (8, sl fI w), (9, sl fI w), (10, .int .i64 pre.length)], ⟨[(7, layC l)], []⟩) = some (.norm, [], ⟨[], []⟩) ∨
    ∃ bx, l12_OwnRuns_R0 ([(2, sl fF more), (7, .op (.loc 7) 0), (8, sl fI w), (9, sl fI w), (10, .int .i64 pre.length)], ⟨[(7, layC l)], []⟩) = some (.ret, [(6, .bool true)], ⟨bx, []⟩)
  | [], pre, w, hp, hwl => by
    have h1 : ¬ ((pre.length : Int) < more.length) := by rw [← hp]; simp
    left
    rw [l12_OwnRuns_R0_eq]
    simp only [l12_OwnRuns_B0, l12_OwnRuns_K0_norm, l12_OwnRuns_K0_ret, l12_OwnRuns_K0_exit, h1, y1, y2, y3, y4, y5, y6, y7, y8, y9, keepE, keepB, chk, CV.locs, CV.locv, CV.refs, CV.ref, pureOp, repC, takeN, resV, enterC, Nat.reduceAdd, Nat.reduceSub, Nat.reduceMul, Nat.reduceLeDiff, Nat.reduceLT, Nat.reduceBEq, Nat.reduceBNe, Nat.reduceEqDiff, ↓reduceIte, Int.reduceAdd, Int.reduceSub, Int.reduceMul, Int.reduceLT, Int.reduceLE, Int.reduceEq, Int.reduceNeg, Int.reduceToNat]
  | x :: s, pre, w, hp, hwl => by
    have hpl : pre.length + 1 + s.length = more.length := by rw [← hp]; simp; omega
    have h1 : ((pre.length : Int) < more.length) := by omega
    have hw := wrapN (n := pre.length) (by unfold Zc.small; omega)
    have hia : iaddrC 3 (sl fF more) (.int .i64 pre.length) = some (.vp (sl fU x.own :: sl fB x.clear :: sl fK x.views :: s.flatMap fF)) := by rw [← hp]; exact iaddr_midF _ pre s x
    have hx := hm x (by rw [← hp]; simp)
    have hfF := fun st H => few_F x hx st H
    have hok := hg.ok
    cases hfw : x.few with
    | false =>
      simp only [hfw] at hfF
      right
      refine ⟨[(7, layC l)], ?_⟩
      rw [l12_OwnRuns_R0_eq]
      simp only [l12_OwnRuns_B0, l12_OwnRuns_K0_norm, l12_OwnRuns_K0_ret, l12_OwnRuns_K0_exit, h1, hia, l12_few_call, hfF, y1, y2, y3, y4, y5, y6, y7, y8, y9, keepE, keepB, chk, CV.locs, CV.locv, CV.refs, CV.ref, pureOp, repC, takeN, resV, enterC, Nat.reduceAdd, Nat.reduceSub, Nat.reduceMul, Nat.reduceLeDiff, Nat.reduceLT, Nat.reduceBEq, Nat.reduceBNe, Nat.reduceEqDiff, ↓reduceIte, Int.reduceAdd, Int.reduceSub, Int.reduceMul, Int.reduceLT, Int.reduceLE, Int.reduceEq, Int.reduceNeg, Int.reduceToNat]
    | true =>
      simp only [hfw] at hfF
      have hv := vs_ok l hfw
      have g1 := fun H => views_F l hok hg.pos x hx hfw H
      have g3 := fun st H => clear_F l hok x st H
      have g4 := fun st H => onext_F l hok hB w hwl (clearL l x) (clearL_len _ _) (viewsF l x) hv st H
      have g5 := fun st H => rnext_F l hok hB w hwl (clearL l x) (clearL_len _ _) (viewsF l x) hv st H
      have g6 := fun st H => ints_F (ownNext l w (clearL l x) (viewsF l x)) (ownNext l w (clearL l x) (viewsF l x)) (by rw [ownNext_len]; exact hok.parts) st H
      have ih := runs_loop l hg hB more hm hml s (pre ++ [x]) (ownNext l w (clearL l x) (viewsF l x)) (by simpa using hp) (ownNext_len _ _ _ _)
      rw [show (pre ++ [x]).length = pre.length + 1 by simp] at ih
      rcases ih with e | ⟨bx, e⟩
      · left
        rw [l12_OwnRuns_R0_eq]
        simp only [l12_OwnRuns_B0, l12_OwnRuns_K0_norm, l12_OwnRuns_K0_ret, l12_OwnRuns_K0_exit, h1, hia, l12_few_call, hfF, l12_views_call, g1, l12_clear_call, g3, own_Next_call, g4, r12_Next_call, g5, r01_Ints_call, g6, hw, e, y1, y2, y3, y4, y5, y6, y7, y8, y9, keepE, keepB, chk, CV.locs, CV.locv, CV.refs, CV.ref, pureOp, repC, takeN, resV, enterC, Nat.reduceAdd, Nat.reduceSub, Nat.reduceMul, Nat.reduceLeDiff, Nat.reduceLT, Nat.reduceBEq, Nat.reduceBNe, Nat.reduceEqDiff, ↓reduceIte, Int.reduceAdd, Int.reduceSub, Int.reduceMul, Int.reduceLT, Int.reduceLE, Int.reduceEq, Int.reduceNeg, Int.reduceToNat]
      · right
        refine ⟨bx, ?_⟩
        rw [l12_OwnRuns_R0_eq]
        simp only [l12_OwnRuns_B0, l12_OwnRuns_K0_norm, l12_OwnRuns_K0_ret, l12_OwnRuns_K0_exit, h1, hia, l12_few_call, hfF, l12_views_call, g1, l12_clear_call, g3, own_Next_call, g4, r12_Next_call, g5, r01_Ints_call, g6, hw, e, y1, y2, y3, y4, y5, y6, y7, y8, y9, keepE, keepB, chk, CV.locs, CV.locv, CV.refs, CV.ref, pureOp, repC, takeN, resV, enterC, Nat.reduceAdd, Nat.reduceSub, Nat.reduceMul, Nat.reduceLeDiff, Nat.reduceLT, Nat.reduceBEq, Nat.reduceBNe, Nat.reduceEqDiff, ↓reduceIte, Int.reduceAdd, Int.reduceSub, Int.reduceMul, Int.reduceLT, Int.reduceLE, Int.reduceEq, Int.reduceNeg, Int.reduceToNat]

set_option maxHeartbeats 1000000 in
theorem ownRuns_F (d : Draft) (hd : d.ok) (f : Fld) (hf : f.ok) (more : List Fld) (hm : ∀ f ∈ more, f.ok) (st : Bool) (H : Heap) : l12_OwnRuns_F st H [.agg (draftC d), .agg (fieldC f), sl fF more] = some (.bool true, H) := by
  rw [l12_OwnRuns_F_eq]
  have hc := comes_F
  have hsF := fun st H => small_F d hd st H
  have hfF := fun st H => few_F f hf st H
  cases hs : d.small with
  | false =>
    simp only [hs] at hsF
    simp only [l12_OwnRuns_C, l12_comes_call, hc, r04_Small_call, hsF, y1, y2, y3, y4, y5, y6, y7, y8, y9, keepE, keepB, chk, CV.locs, CV.locv, CV.refs, CV.ref, pureOp, repC, takeN, resV, enterC, Nat.reduceAdd, Nat.reduceSub, Nat.reduceMul, Nat.reduceLeDiff, Nat.reduceLT, Nat.reduceBEq, Nat.reduceBNe, Nat.reduceEqDiff, ↓reduceIte, Int.reduceAdd, Int.reduceSub, Int.reduceMul, Int.reduceLT, Int.reduceLE, Int.reduceEq, Int.reduceNeg, Int.reduceToNat]
  | true =>
    simp only [hs] at hsF
    cases hw : f.few with
    | false =>
      simp only [hw] at hfF
      simp only [l12_OwnRuns_C, l12_comes_call, hc, r04_Small_call, hsF, l12_few_call, hfF, y1, y2, y3, y4, y5, y6, y7, y8, y9, keepE, keepB, chk, CV.locs, CV.locv, CV.refs, CV.ref, pureOp, repC, takeN, resV, enterC, Nat.reduceAdd, Nat.reduceSub, Nat.reduceMul, Nat.reduceLeDiff, Nat.reduceLT, Nat.reduceBEq, Nat.reduceBNe, Nat.reduceEqDiff, ↓reduceIte, Int.reduceAdd, Int.reduceSub, Int.reduceMul, Int.reduceLT, Int.reduceLE, Int.reduceEq, Int.reduceNeg, Int.reduceToNat]
    | true =>
      simp only [hw] at hfF
      by_cases h12 : 12 < more.length
      · have h12' : (12 : Int) < more.length := by omega
        simp only [l12_OwnRuns_C, l12_comes_call, hc, r04_Small_call, hsF, l12_few_call, hfF, eq_true h12', y1, y2, y3, y4, y5, y6, y7, y8, y9, keepE, keepB, chk, CV.locs, CV.locv, CV.refs, CV.ref, pureOp, repC, takeN, resV, enterC, Nat.reduceAdd, Nat.reduceSub, Nat.reduceMul, Nat.reduceLeDiff, Nat.reduceLT, Nat.reduceBEq, Nat.reduceBNe, Nat.reduceEqDiff, ↓reduceIte, Int.reduceAdd, Int.reduceSub, Int.reduceMul, Int.reduceLT, Int.reduceLE, Int.reduceEq, Int.reduceNeg, Int.reduceToNat]
      · have h12' : ¬ (12 : Int) < more.length := by omega
        have hok := full_ok d
        have hg := full_good d hok
        have hB := full_bs d hd
        have g2 := fun st H => owners_F (full d) hok f hf st H
        have hL := runs_loop (full d) hg hB more hm (by omega) more [] (ownersL (full d) f) rfl (ownersL_len _ _)
        simp only [List.nil_append, List.length_nil, Int.natCast_zero] at hL
        rcases hL with e | ⟨bx, e⟩
        · simp only [l12_OwnRuns_C, l12_OwnRuns_L0_eq, l12_comes_call, hc, r04_Small_call, hsF, l12_few_call, hfF, eq_false h12', r05_Full_call, full_F d hd, l12_owners_call, g2, e, y1, y2, y3, y4, y5, y6, y7, y8, y9, keepE, keepB, chk, CV.locs, CV.locv, CV.refs, CV.ref, pureOp, repC, takeN, resV, enterC, Nat.reduceAdd, Nat.reduceSub, Nat.reduceMul, Nat.reduceLeDiff, Nat.reduceLT, Nat.reduceBEq, Nat.reduceBNe, Nat.reduceEqDiff, ↓reduceIte, Int.reduceAdd, Int.reduceSub, Int.reduceMul, Int.reduceLT, Int.reduceLE, Int.reduceEq, Int.reduceNeg, Int.reduceToNat]
        · simp only [l12_OwnRuns_C, l12_OwnRuns_L0_eq, l12_comes_call, hc, r04_Small_call, hsF, l12_few_call, hfF, eq_false h12', r05_Full_call, full_F d hd, l12_owners_call, g2, e, y1, y2, y3, y4, y5, y6, y7, y8, y9, keepE, keepB, chk, CV.locs, CV.locv, CV.refs, CV.ref, pureOp, repC, takeN, resV, enterC, Nat.reduceAdd, Nat.reduceSub, Nat.reduceMul, Nat.reduceLeDiff, Nat.reduceLT, Nat.reduceBEq, Nat.reduceBNe, Nat.reduceEqDiff, ↓reduceIte, Int.reduceAdd, Int.reduceSub, Int.reduceMul, Int.reduceLT, Int.reduceLE, Int.reduceEq, Int.reduceNeg, Int.reduceToNat]
end Go.Proofs.Ytmjffmghkfappaa.Zt
