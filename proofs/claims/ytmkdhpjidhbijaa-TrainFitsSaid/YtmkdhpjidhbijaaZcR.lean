/- The law TrainFits, walked. -/
import Derived.Test.YtmkdhpjidhbijaaZcQ
import Derived.Test.YtmkdhpjidhbijaaZcArgs
set_option linter.all false
namespace Go.Proofs.Ytmkdhpjidhbijaa.Zt
open Go Go.Zc
set_option maxRecDepth 10000

theorem full_lens (d : Draft) (x y : Ed) (h : y ∈ around (full d) x) : lenAt (full d) y.s ≠ 0 := by
  have := around_in h
  have := ((full_good d (full_ok d)).lenAt this.1.1 this.1.2).1
  omega

/-- The report of a train that went there may be so. -/
theorem fits_report (d : Draft) (a : Deed) (ha : a.ok) (time : Int) : fits (full d) (msgOf (full d) a time) = true := by
  have hg := full_good d (full_ok d)
  have hp := hg.pos
  have h2 := ha.from'; have h3 := ha.ahead; have h4 := ha.most
  have hs0 : 0 ≤ a.from' % (full d).secs.length := Int.emod_nonneg _ (by omega)
  have hs1 : a.from' % (full d).secs.length < (full d).secs.length := Int.emod_lt_of_pos _ (by omega)
  obtain ⟨l1, l2⟩ := hg.lenAt hs0 hs1
  obtain ⟨t, e1, e2, e3, e4⟩ := walk_follows (full_apart d) (full_lens d) a.turns (((1 + a.most % 5).toNat : Int) - 1).toNat 0 [a.from' % (full d).secs.length] ⟨a.from' % (full d).secs.length, a.from' / 128⟩ (by simp)
  have hw : walk (full d) (a.from' % (full d).secs.length) (a.from' / 128) a.turns ((1 + a.most % 5).toNat : Nat) = (a.from' % (full d).secs.length) :: t := e1
  have hl := walk_len (full d) (a.from' % (full d).secs.length) (a.from' / 128) a.turns (1 + a.most % 5).toNat
  rw [hw] at hl
  have hf := e4 (follows (full d)) (fun _ => rfl) (fun e s r => by simp only [follows]; cases (around (full d) e).find? (fun x => x.s == s) <;> rfl)
  have ha0 : 0 ≤ a.ahead % (lenAt (full d) (a.from' % (full d).secs.length) + 1) := Int.emod_nonneg _ (by omega)
  have ha1 : a.ahead % (lenAt (full d) (a.from' % (full d).secs.length) + 1) < lenAt (full d) (a.from' % (full d).secs.length) + 1 := Int.emod_lt_of_pos _ (by omega)
  have hu : unlFrom (full d) [] ((a.from' % (full d).secs.length) :: t) = true := by
    rw [unlFrom_iff]
    refine ⟨by simpa using e2, fun x hx => ⟨?_, by simp⟩⟩
    rcases List.mem_cons.1 hx with rfl | hx
    · omega
    · exact e3 x hx
  have hd : 1 - (1 - a.from' / 128) = a.from' / 128 := by omega
  unfold fits msgOf
  simp only [hw, hu, hd, hf, Bool.and_true, Bool.and_eq_true, decide_eq_true_eq]
  simp only [List.length_cons, and_true, true_and] at hl ⊢
  omega

set_option maxHeartbeats 2000000 in
theorem trainFits_F (d : Draft) (hd : d.ok) (a : Deed) (ha : a.ok) (what n : Int) (hw : 0 ≤ what ∧ what ≤ 255) (hn : -9223372036854775808 ≤ n ∧ n ≤ 9223372036854775807) (st : Bool) (H : Heap) :
    l10_TrainFits_F st H [.agg (draftC d), .agg (actC a), .int .u8 what, .int .i64 n] = some (.bool true, H) := by
  rw [l10_TrainFits_F_eq]
  have hb := behind10_F
  cases hs : d.small with
  | false =>
    have hsF := fun st H => small_F d hd st H
    simp only [hs] at hsF
    simp only [l10_TrainFits_C, l10_behind_call, hb, r04_Small_call, hsF, y1, y2, y3, y4, y5, y6, y7, y8, y9, keepE, keepB, chk, CV.locs, CV.locv, CV.refs, CV.ref, pureOp, repC, takeN, resV, enterC, Nat.reduceAdd, Nat.reduceSub, Nat.reduceMul, Nat.reduceLeDiff, Nat.reduceLT, Nat.reduceBEq, Nat.reduceBNe, Nat.reduceEqDiff, ↓reduceIte, Int.reduceAdd, Int.reduceSub, Int.reduceMul, Int.reduceLT, Int.reduceLE, Int.reduceEq, Int.reduceNeg, Int.reduceToNat]
  | true =>
    have hsF := fun st H => small_F d hd st H
    simp only [hs] at hsF
    by_cases ht : 12 < a.turns.length
    · have ht' : (12 : Int) < a.turns.length := by omega
      simp only [l10_TrainFits_C, l10_behind_call, hb, r04_Small_call, hsF, ht', y1, y2, y3, y4, y5, y6, y7, y8, y9, keepE, keepB, chk, CV.locs, CV.locv, CV.refs, CV.ref, pureOp, repC, takeN, resV, enterC, Nat.reduceAdd, Nat.reduceSub, Nat.reduceMul, Nat.reduceLeDiff, Nat.reduceLT, Nat.reduceBEq, Nat.reduceBNe, Nat.reduceEqDiff, ↓reduceIte, Int.reduceAdd, Int.reduceSub, Int.reduceMul, Int.reduceLT, Int.reduceLE, Int.reduceEq, Int.reduceNeg, Int.reduceToNat]
    · have ht' : ¬ (12 : Int) < a.turns.length := by omega
      have hok := full_ok d
      have hg := full_good d hok
      have ha0 : ({ a with act := 0 } : Deed).ok := ⟨ha.train, ha.from', ha.turns, ha.turn, ha.ahead, ha.most⟩
      have hfit := fits_report d { a with act := 0 } ha0 0
      have hr := fun H => report_F (full d) hg { a with act := 0 } ha0 rfl 0 false H
      have htl : (msgOf (full d) { a with act := 0 } 0).trail.length ≤ 100 := by
        have := walk_len (full d) (a.from' % (full d).secs.length) (a.from' / 128) a.turns (1 + a.most % 5).toNat
        have h4 := ha.most
        show (walk (full d) (a.from' % (full d).secs.length) (a.from' / 128) a.turns ((1 + a.most % 5).toNat : Nat)).length ≤ 100
        omega
      have hwm : what.tmod 6 = what % 6 := Int.tmod_eq_emod_of_nonneg hw.1
      generalize msgOf (full d) { a with act := 0 } 0 = m at *
      obtain ⟨k, tr, ti, di, ah, wh, tl⟩ := m
      have f1 := fun st H => tfits_F (full d) hok ⟨k, tr, ti, di, ah, wh, tl⟩ st H
      have f2 := fun st H => rfits_F (full d) hok ⟨k, tr, ti, di, ah, wh, tl⟩ (by unfold Zc.small; simp at htl ⊢; omega) st H
      simp only [hfit] at f1 f2
      simp only at htl
      have hc : what % 6 = 0 ∨ what % 6 = 1 ∨ what % 6 = 2 ∨ what % 6 = 3 ∨ what % 6 = 4 ∨ what % 6 = 5 := by omega
      rcases hc with h | h | h | h | h | h
      · have g1 := fun st H => tfits_F (full d) hok ⟨k, tr, ti, n, ah, wh, tl⟩ st H
        have g2 := fun st H => rfits_F (full d) hok ⟨k, tr, ti, n, ah, wh, tl⟩ (by unfold Zc.small; simp; omega) st H
        simp only [l10_TrainFits_C, l10_behind_call, hb, r04_Small_call, hsF, ht', r05_Full_call, full_F d hd, graph_New_call, gnew_F, l10_report_call, hr, train_Fits_call, f1, r10_Fits_call, f2, hwm, h, g1, g2, y1, y2, y3, y4, y5, y6, y7, y8, y9, keepE, keepB, chk, CV.locs, CV.locv, CV.refs, CV.ref, pureOp, repC, takeN, resV, enterC, Nat.reduceAdd, Nat.reduceSub, Nat.reduceMul, Nat.reduceLeDiff, Nat.reduceLT, Nat.reduceBEq, Nat.reduceBNe, Nat.reduceEqDiff, ↓reduceIte, Int.reduceAdd, Int.reduceSub, Int.reduceMul, Int.reduceLT, Int.reduceLE, Int.reduceEq, Int.reduceNeg, Int.reduceToNat]
      · have g1 := fun st H => tfits_F (full d) hok ⟨k, tr, ti, di, n, wh, tl⟩ st H
        have g2 := fun st H => rfits_F (full d) hok ⟨k, tr, ti, di, n, wh, tl⟩ (by unfold Zc.small; simp; omega) st H
        simp only [l10_TrainFits_C, l10_behind_call, hb, r04_Small_call, hsF, ht', r05_Full_call, full_F d hd, graph_New_call, gnew_F, l10_report_call, hr, train_Fits_call, f1, r10_Fits_call, f2, hwm, h, g1, g2, y1, y2, y3, y4, y5, y6, y7, y8, y9, keepE, keepB, chk, CV.locs, CV.locv, CV.refs, CV.ref, pureOp, repC, takeN, resV, enterC, Nat.reduceAdd, Nat.reduceSub, Nat.reduceMul, Nat.reduceLeDiff, Nat.reduceLT, Nat.reduceBEq, Nat.reduceBNe, Nat.reduceEqDiff, ↓reduceIte, Int.reduceAdd, Int.reduceSub, Int.reduceMul, Int.reduceLT, Int.reduceLE, Int.reduceEq, Int.reduceNeg, Int.reduceToNat]
      · obtain ⟨v1, bl1, e1, o1, _⟩ := (Own.nil fI 1 []).appSl flatI (bytes := 8) (zero := [.int .i64 0]) (by decide) rfl rfl tl (by simp; omega)
        obtain ⟨v2, bl2, e2, o2, _⟩ := o1.app1 flatI (bytes := 8) (zero := [.int .i64 0]) (by decide) rfl rfl n (by simp; omega)
        simp only [fI, List.nil_append] at e2
        have hsn := fun bx st => snapI_own o2 bx st
        have g1 := fun st H => tfits_F (full d) hok ⟨k, tr, ti, di, ah, wh, [] ++ tl ++ [n]⟩ st H
        have g2 := fun st H => rfits_F (full d) hok ⟨k, tr, ti, di, ah, wh, [] ++ tl ++ [n]⟩ (by unfold Zc.small; simp; omega) st H
        simp only [List.nil_append] at hsn g1 g2
        simp only [l10_TrainFits_C, l10_behind_call, hb, r04_Small_call, hsF, ht', r05_Full_call, full_F d hd, graph_New_call, gnew_F, l10_report_call, hr, train_Fits_call, f1, r10_Fits_call, f2, hwm, h, e1, e2, o2.locv, o2.one, o2.cells, hsn, g1, g2, y1, y2, y3, y4, y5, y6, y7, y8, y9, keepE, keepB, chk, CV.locs, CV.locv, CV.refs, CV.ref, pureOp, repC, takeN, resV, enterC, Nat.reduceAdd, Nat.reduceSub, Nat.reduceMul, Nat.reduceLeDiff, Nat.reduceLT, Nat.reduceBEq, Nat.reduceBNe, Nat.reduceEqDiff, ↓reduceIte, Int.reduceAdd, Int.reduceSub, Int.reduceMul, Int.reduceLT, Int.reduceLE, Int.reduceEq, Int.reduceNeg, Int.reduceToNat]
      · obtain ⟨v1, bl1, e1, o1, _⟩ := (show Own fI 1 [Blk.cells [.int .i64 (n.tmod 10)]] (.os 1 (.blk 0) 0 1) [n.tmod 10] from .inr ⟨0, rfl, rfl⟩).appSl flatI (bytes := 8) (zero := [.int .i64 0]) (by decide) rfl rfl tl (by simp; omega)
        have hsn := fun bx st => snapI_own o1 bx st
        have g1 := fun st H => tfits_F (full d) hok ⟨k, tr, ti, di, ah, wh, [n.tmod 10] ++ tl⟩ st H
        have g2 := fun st H => rfits_F (full d) hok ⟨k, tr, ti, di, ah, wh, [n.tmod 10] ++ tl⟩ (by unfold Zc.small; simp; omega) st H
        simp only [List.cons_append, List.nil_append] at hsn g1 g2
        simp only [l10_TrainFits_C, l10_behind_call, hb, r04_Small_call, hsF, ht', r05_Full_call, full_F d hd, graph_New_call, gnew_F, l10_report_call, hr, train_Fits_call, f1, r10_Fits_call, f2, hwm, h, e1, o1.locv, o1.one, o1.cells, hsn, g1, g2, y1, y2, y3, y4, y5, y6, y7, y8, y9, keepE, keepB, chk, CV.locs, CV.locv, CV.refs, CV.ref, pureOp, repC, takeN, resV, enterC, Nat.reduceAdd, Nat.reduceSub, Nat.reduceMul, Nat.reduceLeDiff, Nat.reduceLT, Nat.reduceBEq, Nat.reduceBNe, Nat.reduceEqDiff, ↓reduceIte, Int.reduceAdd, Int.reduceSub, Int.reduceMul, Int.reduceLT, Int.reduceLE, Int.reduceEq, Int.reduceNeg, Int.reduceToNat]
      · have hbk := fun st H => back_F tl (by unfold Zc.small; omega) st H
        have g1 := fun st H => tfits_F (full d) hok ⟨k, tr, ti, di, ah, wh, tl.reverse⟩ st H
        have g2 := fun st H => rfits_F (full d) hok ⟨k, tr, ti, di, ah, wh, tl.reverse⟩ (by unfold Zc.small; simp; omega) st H
        simp only [l10_TrainFits_C, l10_behind_call, hb, r04_Small_call, hsF, ht', r05_Full_call, full_F d hd, graph_New_call, gnew_F, l10_report_call, hr, train_Fits_call, f1, r10_Fits_call, f2, hwm, h, r10_Back_call, hbk, g1, g2, y1, y2, y3, y4, y5, y6, y7, y8, y9, keepE, keepB, chk, CV.locs, CV.locv, CV.refs, CV.ref, pureOp, repC, takeN, resV, enterC, Nat.reduceAdd, Nat.reduceSub, Nat.reduceMul, Nat.reduceLeDiff, Nat.reduceLT, Nat.reduceBEq, Nat.reduceBNe, Nat.reduceEqDiff, ↓reduceIte, Int.reduceAdd, Int.reduceSub, Int.reduceMul, Int.reduceLT, Int.reduceLE, Int.reduceEq, Int.reduceNeg, Int.reduceToNat]
      · have hsl := slc_hi flatI tl 0 (Nat.zero_le _) .i64
        simp only [Int.natCast_zero, List.take_zero] at hsl
        have g1 := fun st H => tfits_F (full d) hok ⟨k, tr, ti, di, ah, wh, []⟩ st H
        have g2 := fun st H => rfits_F (full d) hok ⟨k, tr, ti, di, ah, wh, []⟩ (by simp) st H
        simp only [l10_TrainFits_C, l10_behind_call, hb, r04_Small_call, hsF, ht', r05_Full_call, full_F d hd, graph_New_call, gnew_F, l10_report_call, hr, train_Fits_call, f1, r10_Fits_call, f2, hwm, h, hsl, g1, g2, y1, y2, y3, y4, y5, y6, y7, y8, y9, keepE, keepB, chk, CV.locs, CV.locv, CV.refs, CV.ref, pureOp, repC, takeN, resV, enterC, Nat.reduceAdd, Nat.reduceSub, Nat.reduceMul, Nat.reduceLeDiff, Nat.reduceLT, Nat.reduceBEq, Nat.reduceBNe, Nat.reduceEqDiff, ↓reduceIte, Int.reduceAdd, Int.reduceSub, Int.reduceMul, Int.reduceLT, Int.reduceLE, Int.reduceEq, Int.reduceNeg, Int.reduceToNat]
end Go.Proofs.Ytmkdhpjidhbijaa.Zt
