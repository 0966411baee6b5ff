/- Walks: a graph; the report that a draft of one makes; the law's example. -/
import Derived.Test.YtmkdhpjidhbijaaZcP
import Derived.Test.YtmkdhpjidhbijaaZcO2
import Derived.Test.YtmkdhpjidhbijaaZcTrack
set_option linter.all false
namespace Go.Proofs.Ytmkdhpjidhbijaa.Zt
open Go Go.Zc
set_option maxRecDepth 10000

theorem gnew_F (l : Lay) (H : Heap) : graph_New_F false H [.agg (layC l)] = some (.vp (layC l), H) := by
  rw [graph_New_F_eq]
  simp only [graph_New_C, Nat.zero_le, y1, y2, y3, y4, y5, y6, y7, y8, y9, keepE, keepB, chk, CV.locs, CV.locv, CV.refs, CV.ref, pureOp, repC, takeN, resV, enterC, Nat.reduceAdd, Nat.reduceSub, Nat.reduceMul, Nat.reduceLeDiff, Nat.reduceLT, Nat.reduceBEq, Nat.reduceBNe, Nat.reduceEqDiff, ↓reduceIte, Int.reduceAdd, Int.reduceSub, Int.reduceMul, Int.reduceLT, Int.reduceLE, Int.reduceEq, Int.reduceNeg, Int.reduceToNat]

theorem behind10_F (st : Bool) (H : Heap) : l10_behind_F st H [] = some (.bool true, H) := by
  have h : eval ctx l10_behind_C [] ⟨[], []⟩ = some (.ret, [(0, .bool true)], ⟨[], []⟩) := eval_iff.2 ⟨60, by kernel_rfl⟩
  rw [l10_behind_F_eq]
  simp only [h, y1, y2, y3, y4, y5, y6, y7, y8, y9, keepE, keepB, chk, CV.locs, CV.locv, CV.refs, CV.ref, pureOp, repC, takeN, resV, enterC, Nat.reduceAdd, Nat.reduceSub, Nat.reduceMul, Nat.reduceLeDiff, Nat.reduceLT, Nat.reduceBEq, Nat.reduceBNe, Nat.reduceEqDiff, ↓reduceIte, Int.reduceAdd, Int.reduceSub, Int.reduceMul, Int.reduceLT, Int.reduceLE, Int.reduceEq, Int.reduceNeg, Int.reduceToNat]

def msgOf (l : Lay) (a : Deed) (time : Int) : Msg where
  kind := 3
  train := a.train % 8
  time := time
  dir := 1 - a.from' / 128
  ahead := a.ahead % (lenAt l (a.from' % l.secs.length) + 1)
  whole := a.whole
  trail := walk l (a.from' % l.secs.length) (a.from' / 128) a.turns ((1 + a.most % 5).toNat : Nat)

set_option maxHeartbeats 1000000 in
theorem report_F (l : Lay) (hl : l.good) (a : Deed) (ha : a.ok) (h0 : a.act = 0) (time : Int) (st : Bool) (H : Heap) :
    l10_report_F false H [.agg (layC l), .agg (actC a), .int .i64 time] = some (.agg (msgC (msgOf l a time)), H) := by
  have hsn := hl.ok.secs
  have hp := hl.pos
  have g1 := ha.train; have g2 := ha.from'; have g3 := ha.ahead; have g4 := ha.most
  have hs0 : 0 ≤ a.from' % l.secs.length := Int.emod_nonneg _ (by omega)
  have hs1 : a.from' % l.secs.length < l.secs.length := Int.emod_lt_of_pos _ (by omega)
  obtain ⟨l1, l2⟩ := hl.lenAt hs0 hs1
  have k1 : IntKind.u8.wrap (a.from'.tdiv 128) = a.from' / 128 := by rw [Int.tdiv_eq_ediv_of_nonneg g2.1, IntKind.wrap_u8]; omega
  have k2 : IntKind.i64.wrap (a.from' / 128) = a.from' / 128 := wrap64 (by omega) (by omega)
  have k3 : IntKind.i64.wrap a.from' = a.from' := wrap64 (by omega) (by omega)
  have k4 : a.from'.tmod (l.secs.length : Int) = a.from' % (l.secs.length : Int) := Int.tmod_eq_emod_of_nonneg g2.1
  have k5 : a.most.tmod 5 = a.most % 5 := Int.tmod_eq_emod_of_nonneg g4.1
  have k6 : IntKind.i64.wrap (a.most % 5) = a.most % 5 := wrap64 (by omega) (by omega)
  have k7 : IntKind.i64.wrap (1 + a.most % 5) = ((1 + a.most % 5).toNat : Nat) := by rw [wrap64 (by omega) (by omega)]; omega
  have k8 : ¬ ((l.secs.length : Int) = 0) := by omega
  have k9 : a.train.tmod 8 = a.train % 8 := Int.tmod_eq_emod_of_nonneg g1.1
  have k10 : IntKind.i64.wrap (a.train % 8) = a.train % 8 := wrap64 (by omega) (by omega)
  have k11 : IntKind.i64.wrap (1 - a.from' / 128) = 1 - a.from' / 128 := wrap64 (by omega) (by omega)
  have k12 : IntKind.i64.wrap a.ahead = a.ahead := wrap64 (by omega) (by omega)
  have k13 : IntKind.i64.wrap (lenAt l (a.from' % l.secs.length) + 1) = lenAt l (a.from' % l.secs.length) + 1 := wrap64 (by omega) (by omega)
  have k14 : a.ahead.tmod (lenAt l (a.from' % l.secs.length) + 1) = a.ahead % (lenAt l (a.from' % l.secs.length) + 1) := Int.tmod_eq_emod_of_nonneg g3.1
  have k15 : ¬ (lenAt l (a.from' % l.secs.length) + 1 = 0) := by omega
  have hwF := fun H st => walk_F l hl.ok (a.from' % l.secs.length) (a.from' / 128) a.turns ha.turn (1 + a.most % 5).toNat (by unfold Zc.small; omega) H st
  obtain ⟨t, ht⟩ := walk_head l (a.from' % l.secs.length) (a.from' / 128) a.turns ((1 + a.most % 5).toNat : Nat)
  have hm : msgC (msgOf l a time) = [.int .u8 3, .int .i64 (a.train % 8), .int .i64 time, .int .i64 (1 - a.from' / 128), .int .i64 (a.ahead % (lenAt l (a.from' % l.secs.length) + 1)), .bool a.whole, sl fI ((a.from' % l.secs.length) :: t)] := by
    simp only [msgC, msgOf, ht]
  rw [ht] at hwF
  rw [hm, l10_report_F_eq]
  simp only [l10_report_C, h0, k1, k2, k3, k4, k5, k6, k7, k8, k9, k10, k11, k12, k13, k14, k15, r05_Walk_call, hwF, iaddr_0I, r05_Len_call, len_F, y1, y2, y3, y4, y5, y6, y7, y8, y9, keepE, keepB, chk, CV.locs, CV.locv, CV.refs, CV.ref, pureOp, repC, takeN, resV, enterC, Nat.reduceAdd, Nat.reduceSub, Nat.reduceMul, Nat.reduceLeDiff, Nat.reduceLT, Nat.reduceBEq, Nat.reduceBNe, Nat.reduceEqDiff, ↓reduceIte, Int.reduceAdd, Int.reduceSub, Int.reduceMul, Int.reduceLT, Int.reduceLE, Int.reduceEq, Int.reduceNeg, Int.reduceToNat]

theorem full_lens (d : Draft) (x y : Ed) (h : y ∈ around (full d) x) : lenAt (full d) y.s ≠ 0 := by
  have := around_in h
  have := ((full_good d (full_ok d)).lenAt this.1.1 this.1.2).1
  omega

/-- The report of a train that went there may be so. -/
theorem fits_report (d : Draft) (a : Deed) (ha : a.ok) (time : Int) : fits (full d) (msgOf (full d) a time) = true := by
  have hg := full_good d (full_ok d)
  have hp := hg.pos
  have h2 := ha.from'; have h3 := ha.ahead; have h4 := ha.most
  have hs0 : 0 ≤ a.from' % (full d).secs.length := Int.emod_nonneg _ (by omega)
  have hs1 : a.from' % (full d).secs.length < (full d).secs.length := Int.emod_lt_of_pos _ (by omega)
  obtain ⟨l1, l2⟩ := hg.lenAt hs0 hs1
  obtain ⟨t, e1, e2, e3, e4⟩ := walk_follows (full_apart d) (full_lens d) a.turns (((1 + a.most % 5).toNat : Int) - 1).toNat 0 [a.from' % (full d).secs.length] ⟨a.from' % (full d).secs.length, a.from' / 128⟩ (by simp)
  have hw : walk (full d) (a.from' % (full d).secs.length) (a.from' / 128) a.turns ((1 + a.most % 5).toNat : Nat) = (a.from' % (full d).secs.length) :: t := e1
  have hl := walk_len (full d) (a.from' % (full d).secs.length) (a.from' / 128) a.turns (1 + a.most % 5).toNat
  rw [hw] at hl
  have hf := e4 (follows (full d)) (fun _ => rfl) (fun e s r => by simp only [follows]; cases (around (full d) e).find? (fun x => x.s == s) <;> rfl)
  have ha0 : 0 ≤ a.ahead % (lenAt (full d) (a.from' % (full d).secs.length) + 1) := Int.emod_nonneg _ (by omega)
  have ha1 : a.ahead % (lenAt (full d) (a.from' % (full d).secs.length) + 1) < lenAt (full d) (a.from' % (full d).secs.length) + 1 := Int.emod_lt_of_pos _ (by omega)
  have hu : unlFrom (full d) [] ((a.from' % (full d).secs.length) :: t) = true := by
    rw [unlFrom_iff]
    refine ⟨by simpa using e2, fun x hx => ⟨?_, by simp⟩⟩
    rcases List.mem_cons.1 hx with rfl | hx
    · omega
    · exact e3 x hx
  have hd : 1 - (1 - a.from' / 128) = a.from' / 128 := by omega
  unfold fits msgOf
  simp only [hw, hu, hd, hf, Bool.and_true, Bool.and_eq_true, decide_eq_true_eq]
  simp only [List.length_cons, and_true, true_and] at hl ⊢
  omega

end Go.Proofs.Ytmkdhpjidhbijaa.Zt
