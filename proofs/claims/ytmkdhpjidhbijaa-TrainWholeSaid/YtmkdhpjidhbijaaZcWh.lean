/- The law TrainWhole, walked. -/
import Derived.Test.YtmkdhpjidhbijaaZcSt
set_option linter.all false
namespace Go.Proofs.Ytmkdhpjidhbijaa.Zt
open Go Go.Zc
set_option maxRecDepth 10000

theorem own_set {α : Type} {f : α → List CV} {sz : Nat} {bl : List Blk} {v : CV} {l : List α} (h : Own f sz bl v l) {c : Nat} (hc : blkOf v ≠ some c) (b : Blk) : Own f sz (bl.set c b) v l := by
  rcases h with h | ⟨m, rfl, h2⟩
  · exact .inl h
  · refine .inr ⟨m, rfl, ?_⟩
    rw [List.getElem?_set_ne (fun e => hc (by rw [blkOf_os, e]))]
    exact h2

set_option maxHeartbeats 4000000 in
theorem trainWhole_F (d : Draft) (hd : d.ok) (x y : Deed) (hx : x.ok) (hy : y.ok) (st : Bool) (H : Heap) :
    l10_TrainWhole_F st H [.agg (draftC d), .agg (actC x), .agg (actC y)] = some (.bool true, H) := by
  rw [l10_TrainWhole_F_eq]
  have hb := behind10_F
  cases hs : d.small with
  | false =>
    have hsF := fun st H => small_F d hd st H
    simp only [hs] at hsF
    simp only [l10_TrainWhole_C, l10_behind_call, hb, r04_Small_call, hsF, y1, y2, y3, y4, y5, y6, y7, y8, y9, keepE, keepB, chk, CV.locs, CV.locv, CV.refs, CV.ref, pureOp, repC, takeN, resV, enterC, Nat.reduceAdd, Nat.reduceSub, Nat.reduceMul, Nat.reduceLeDiff, Nat.reduceLT, Nat.reduceBEq, Nat.reduceBNe, Nat.reduceEqDiff, ↓reduceIte, Int.reduceAdd, Int.reduceSub, Int.reduceMul, Int.reduceLT, Int.reduceLE, Int.reduceEq, Int.reduceNeg, Int.reduceToNat]
  | true =>
    have hsF := fun st H => small_F d hd st H
    simp only [hs] at hsF
    by_cases h1 : 12 < x.turns.length
    · have h1' : (12 : Int) < x.turns.length := by omega
      simp only [l10_TrainWhole_C, l10_behind_call, hb, r04_Small_call, hsF, eq_true h1', y1, y2, y3, y4, y5, y6, y7, y8, y9, keepE, keepB, chk, CV.locs, CV.locv, CV.refs, CV.ref, pureOp, repC, takeN, resV, enterC, Nat.reduceAdd, Nat.reduceSub, Nat.reduceMul, Nat.reduceLeDiff, Nat.reduceLT, Nat.reduceBEq, Nat.reduceBNe, Nat.reduceEqDiff, ↓reduceIte, Int.reduceAdd, Int.reduceSub, Int.reduceMul, Int.reduceLT, Int.reduceLE, Int.reduceEq, Int.reduceNeg, Int.reduceToNat]
    · have h1' : ¬ (12 : Int) < x.turns.length := by omega
      by_cases h2 : 12 < y.turns.length
      · have h2' : (12 : Int) < y.turns.length := by omega
        simp only [l10_TrainWhole_C, l10_behind_call, hb, r04_Small_call, hsF, eq_false h1', eq_true h2', y1, y2, y3, y4, y5, y6, y7, y8, y9, keepE, keepB, chk, CV.locs, CV.locv, CV.refs, CV.ref, pureOp, repC, takeN, resV, enterC, Nat.reduceAdd, Nat.reduceSub, Nat.reduceMul, Nat.reduceLeDiff, Nat.reduceLT, Nat.reduceBEq, Nat.reduceBNe, Nat.reduceEqDiff, ↓reduceIte, Int.reduceAdd, Int.reduceSub, Int.reduceMul, Int.reduceLT, Int.reduceLE, Int.reduceEq, Int.reduceNeg, Int.reduceToNat]
      · have h2' : ¬ (12 : Int) < y.turns.length := by omega
        have hok := full_ok d
        have hg := full_good d hok
        have hx0 : ({ x with act := 0, train := 3, whole := true } : Deed).ok := ⟨⟨by show (0 : Int) ≤ 3; omega, by show (3 : Int) ≤ 255; omega⟩, hx.from', hx.turns, hx.turn, hx.ahead, hx.most⟩
        have hy0 : ({ y with act := 0, train := 3 } : Deed).ok := ⟨⟨by show (0 : Int) ≤ 3; omega, by show (3 : Int) ≤ 255; omega⟩, hy.from', hy.turns, hy.turn, hy.ahead, hy.most⟩
        have rx := fun time H => report_F (full d) hg { x with act := 0, train := 3, whole := true } hx0 rfl time false H
        have ry := fun time H => report_F (full d) hg { y with act := 0, train := 3 } hy0 rfl time false H
        have fx := fun time => fits_report d { x with act := 0, train := 3, whole := true } hx0 time
        have fy := fun time => fits_report d { y with act := 0, train := 3 } hy0 time
        have tx := fun time => msg_trail (full d) { x with act := 0, train := 3, whole := true } hx0 time
        have ty := fun time => msg_trail (full d) { y with act := 0, train := 3 } hy0 time
        obtain ⟨bl0, e0, hN, _⟩ := rnew_F []
        simp only [List.length_nil, Nat.zero_add] at e0 hN
        obtain ⟨bl1, e1, h1, _⟩ := ropen_F hN 3 4
        obtain ⟨bl2, v2, e2, h2, _⟩ := rnote_ok h1 (full d) hok .nils rfl [] (by simp) (fun _ _ _ => rfl) 5 (msgOf (full d) { x with act := 0, train := 3, whole := true } 5) (fx _) rfl rfl (tx 5) (by show ¬ (5 : Int) < 5; omega) (fun _ => rfl) (fun h => absurd rfl h)
        have htx : (if (msgOf (full d) { x with act := 0, train := 3, whole := true } 5).whole = true then (msgOf (full d) { x with act := 0, train := 3, whole := true } 5).trail else joinT (msgOf (full d) { x with act := 0, train := 3, whole := true } 5).trail []) = (msgOf (full d) { x with act := 0, train := 3, whole := true } 5).trail := if_pos rfl
        have hsx : (if (msgOf (full d) { x with act := 0, train := 3, whole := true } 5).whole = true then (msgOf (full d) { x with act := 0, train := 3, whole := true } 5).time else -1) = 5 := if_pos rfl
        simp only [htx, hsx] at h2
        obtain ⟨bl3, va, e3, oa, ka, na⟩ := rget_F h2 (tx 5).1 (by have := (tx 5).2; show (msgOf (full d) { x with act := 0, train := 3, whole := true } 5).trail.length ≤ 1000; omega)
        have h3 := h2.keep ka
        have hcl : bl0.length < bl2.length := (List.getElem?_eq_some_iff.1 h2.ses).1
        have hva : blkOf va ≠ some bl0.length := fun e => by have := na _ e; omega
        have hsv : ∀ bx X st, snapV ⟨bx, bl3.set bl0.length (.cells X)⟩ st false (snapN ⟨bx, bl3.set bl0.length (.cells X)⟩ st false 7) va = some (sl fI (msgOf (full d) { x with act := 0, train := 3, whole := true } 5).trail) := fun bx X st => snapI_own (own_set oa hva _) bx st
        obtain ⟨bl4, v4, e4, h4, k4⟩ := rnote_ok h3 (full d) hok va oa.locv (msgOf (full d) { x with act := 0, train := 3, whole := true } 5).trail (tx 5).2 hsv 9 (msgOf (full d) { y with act := 0, train := 3 } 6) (fy _) rfl rfl (ty 6) (by show ¬ (9 : Int) < 6; omega) (fun h => absurd h (tx 5).1) (fun _ => by show ¬ (6 : Int) ≤ 5; omega)
        have oa4 : Own fI 1 bl4 va (msgOf (full d) { x with act := 0, train := 3, whole := true } 5).trail := by
          rcases oa with h | ⟨m, rfl, h2⟩
          · exact .inl h
          · exact .inr ⟨m, rfl, k4 m _ h2 (fun e => hva (by rw [blkOf_os, e]))⟩
        have sa3 := fun bx st => snapI_own oa bx st
        have sa := fun bx st => snapI_own oa4 bx st
        have hi1 := fun st H => ints_F (msgOf (full d) { x with act := 0, train := 3, whole := true } 5).trail (msgOf (full d) { x with act := 0, train := 3, whole := true } 5).trail (by have := (tx 5).2; unfold Zc.small; omega) st H
        simp only [trC] at e3
        cases hw : y.whole with
        | true =>
          have hw' : (msgOf (full d) { y with act := 0, train := 3 } 6).whole = true := hw
          have ht' : (msgOf (full d) { y with act := 0, train := 3 } 6).time = 6 := rfl
          simp only [hw', ht', if_true] at h4
          obtain ⟨bl5, vb, e5, ob, kb, _⟩ := rget_F h4 (ty 6).1 (by have := (ty 6).2; show (msgOf (full d) { y with act := 0, train := 3 } 6).trail.length ≤ 1000; omega)
          have sb := fun bx st => snapI_own ob bx st
          have hi := fun st H => ints_F (msgOf (full d) { y with act := 0, train := 3 } 6).trail (msgOf (full d) { y with act := 0, train := 3 } 6).trail (by have := (ty 6).2; unfold Zc.small; omega) st H
          simp only [trC] at e5
          simp only [msgC, hw'] at e4
          simp only [l10_TrainWhole_C, l10_behind_call, hb, r04_Small_call, hsF, eq_false h1', eq_false h2', r05_Full_call, full_F d hd, graph_New_call, gnew_F, train_New_call, e0, l10_report_call, rx, ry, train_Register_Note_call, locs_msg, train_Register_Open_call, e1, e2, train_Register_Get_call, e3, oa.locv, oa.one, oa.cells, oa.und, sa3, r01_Ints_call, hi1, e4, hw', e5, ob.locv, ob.one, ob.cells, ob.und, sb, hi, y1, y2, y3, y4, y5, y6, y7, y8, y9, keepE, keepB, chk, CV.locs, CV.locv, CV.refs, CV.ref, pureOp, repC, takeN, resV, enterC, Nat.reduceAdd, Nat.reduceSub, Nat.reduceMul, Nat.reduceLeDiff, Nat.reduceLT, Nat.reduceBEq, Nat.reduceBNe, Nat.reduceEqDiff, ↓reduceIte, Int.reduceAdd, Int.reduceSub, Int.reduceMul, Int.reduceLT, Int.reduceLE, Int.reduceEq, Int.reduceNeg, Int.reduceToNat]
        | false =>
          have hw' : (msgOf (full d) { y with act := 0, train := 3 } 6).whole = false := hw
          have ht' : (msgOf (full d) { y with act := 0, train := 3 } 6).time = 6 := rfl
          simp only [hw', Bool.false_eq_true, if_false] at h4
          have hjl := joinT_len (msgOf (full d) { y with act := 0, train := 3 } 6).trail (msgOf (full d) { x with act := 0, train := 3, whole := true } 5).trail
          have l1 := (ty 6).2
          have l2 := (tx 5).2
          obtain ⟨bl5, vb, e5, ob, kb, _⟩ := rget_F h4 (joinL_ne (ty 6).1 _) (by show (joinT (msgOf (full d) { y with act := 0, train := 3 } 6).trail (msgOf (full d) { x with act := 0, train := 3, whole := true } 5).trail).length ≤ 1000; omega)
          have sb := fun bx st => snapI_own ob bx st
          have sa5 := fun bx st => snapI_own (oa4.keep kb) bx st
          have hj := fun st H => rjoin_F (msgOf (full d) { y with act := 0, train := 3 } 6).trail (msgOf (full d) { x with act := 0, train := 3, whole := true } 5).trail (ty 6).1 (by unfold Zc.small; omega) st H
          have hi := fun st H => ints_F (joinT (msgOf (full d) { y with act := 0, train := 3 } 6).trail (msgOf (full d) { x with act := 0, train := 3, whole := true } 5).trail) (joinT (msgOf (full d) { y with act := 0, train := 3 } 6).trail (msgOf (full d) { x with act := 0, train := 3, whole := true } 5).trail) (by unfold Zc.small; omega) st H
          simp only [trC, ht'] at e5
          simp only [msgC, hw'] at e4
          simp only [l10_TrainWhole_C, l10_behind_call, hb, r04_Small_call, hsF, eq_false h1', eq_false h2', r05_Full_call, full_F d hd, graph_New_call, gnew_F, train_New_call, e0, l10_report_call, rx, ry, train_Register_Note_call, locs_msg, train_Register_Open_call, e1, e2, train_Register_Get_call, e3, oa.locv, oa.one, oa.cells, oa.und, sa3, r01_Ints_call, hi1, e4, hw', e5, ob.locv, ob.one, ob.cells, ob.und, sa5, sb, r10_Join_call, hj, hi, y1, y2, y3, y4, y5, y6, y7, y8, y9, keepE, keepB, chk, CV.locs, CV.locv, CV.refs, CV.ref, pureOp, repC, takeN, resV, enterC, Nat.reduceAdd, Nat.reduceSub, Nat.reduceMul, Nat.reduceLeDiff, Nat.reduceLT, Nat.reduceBEq, Nat.reduceBNe, Nat.reduceEqDiff, ↓reduceIte, Int.reduceAdd, Int.reduceSub, Int.reduceMul, Int.reduceLT, Int.reduceLE, Int.reduceEq, Int.reduceNeg, Int.reduceToNat]
end Go.Proofs.Ytmkdhpjidhbijaa.Zt
