/- The law TrainStale, walked. -/
import Derived.Test.YtmkdhpjidhbijaaZcQ
import Derived.Test.YtmkdhpjidhbijaaZcRg
import Derived.Test.YtmkdhpjidhbijaaZcArgs
set_option linter.all false
namespace Go.Proofs.Ytmkdhpjidhbijaa.Zt
open Go Go.Zc
set_option maxRecDepth 10000

theorem joinT_nil (t : List Int) : joinT t [] = t := rfl
theorem msg_trail (l : Lay) (a : Deed) (ha : a.ok) (time : Int) : (msgOf l a time).trail ≠ [] ∧ (msgOf l a time).trail.length ≤ 100 := by
  obtain ⟨t, ht⟩ := walk_head l (a.from' % l.secs.length) (a.from' / 128) a.turns ((1 + a.most % 5).toNat : Nat)
  have hw := walk_len l (a.from' % l.secs.length) (a.from' / 128) a.turns (1 + a.most % 5).toNat
  have := ha.most
  refine ⟨?_, ?_⟩
  · show walk l (a.from' % l.secs.length) (a.from' / 128) a.turns ((1 + a.most % 5).toNat : Nat) ≠ []
    rw [ht]; simp
  · show (walk l (a.from' % l.secs.length) (a.from' / 128) a.turns ((1 + a.most % 5).toNat : Nat)).length ≤ 100
    omega
theorem locs_msg (m : Msg) : CV.locs (msgC m) = false := rfl
theorem trail_time (l : Lay) (a : Deed) (t t' : Int) : (msgOf l a t).trail = (msgOf l a t').trail := rfl

set_option maxHeartbeats 4000000 in
theorem trainStale_F (d : Draft) (hd : d.ok) (x y : Deed) (hx : x.ok) (hy : y.ok) (now : Int) (hn : 0 ≤ now ∧ now ≤ 65535) (st : Bool) (H : Heap) :
    l10_TrainStale_F st H [.agg (draftC d), .agg (actC x), .agg (actC y), .int .u16 now] = some (.bool true, H) := by
  rw [l10_TrainStale_F_eq]
  have hb := behind10_F
  cases hs : d.small with
  | false =>
    have hsF := fun st H => small_F d hd st H
    simp only [hs] at hsF
    simp only [l10_TrainStale_C, l10_behind_call, hb, r04_Small_call, hsF, y1, y2, y3, y4, y5, y6, y7, y8, y9, keepE, keepB, chk, CV.locs, CV.locv, CV.refs, CV.ref, pureOp, repC, takeN, resV, enterC, Nat.reduceAdd, Nat.reduceSub, Nat.reduceMul, Nat.reduceLeDiff, Nat.reduceLT, Nat.reduceBEq, Nat.reduceBNe, Nat.reduceEqDiff, ↓reduceIte, Int.reduceAdd, Int.reduceSub, Int.reduceMul, Int.reduceLT, Int.reduceLE, Int.reduceEq, Int.reduceNeg, Int.reduceToNat]
  | true =>
    have hsF := fun st H => small_F d hd st H
    simp only [hs] at hsF
    by_cases h1 : 12 < x.turns.length
    · have h1' : (12 : Int) < x.turns.length := by omega
      simp only [l10_TrainStale_C, l10_behind_call, hb, r04_Small_call, hsF, eq_true h1', y1, y2, y3, y4, y5, y6, y7, y8, y9, keepE, keepB, chk, CV.locs, CV.locv, CV.refs, CV.ref, pureOp, repC, takeN, resV, enterC, Nat.reduceAdd, Nat.reduceSub, Nat.reduceMul, Nat.reduceLeDiff, Nat.reduceLT, Nat.reduceBEq, Nat.reduceBNe, Nat.reduceEqDiff, ↓reduceIte, Int.reduceAdd, Int.reduceSub, Int.reduceMul, Int.reduceLT, Int.reduceLE, Int.reduceEq, Int.reduceNeg, Int.reduceToNat]
    · have h1' : ¬ (12 : Int) < x.turns.length := by omega
      by_cases h2 : 12 < y.turns.length
      · have h2' : (12 : Int) < y.turns.length := by omega
        simp only [l10_TrainStale_C, l10_behind_call, hb, r04_Small_call, hsF, eq_false h1', eq_true h2', y1, y2, y3, y4, y5, y6, y7, y8, y9, keepE, keepB, chk, CV.locs, CV.locv, CV.refs, CV.ref, pureOp, repC, takeN, resV, enterC, Nat.reduceAdd, Nat.reduceSub, Nat.reduceMul, Nat.reduceLeDiff, Nat.reduceLT, Nat.reduceBEq, Nat.reduceBNe, Nat.reduceEqDiff, ↓reduceIte, Int.reduceAdd, Int.reduceSub, Int.reduceMul, Int.reduceLT, Int.reduceLE, Int.reduceEq, Int.reduceNeg, Int.reduceToNat]
      · have h2' : ¬ (12 : Int) < y.turns.length := by omega
        have hok := full_ok d
        have hg := full_good d hok
        have hx0 : ({ x with act := 0, train := 3 } : Deed).ok := ⟨⟨by show (0 : Int) ≤ 3; omega, by show (3 : Int) ≤ 255; omega⟩, hx.from', hx.turns, hx.turn, hx.ahead, hx.most⟩
        have hy0 : ({ y with act := 0, train := 3 } : Deed).ok := ⟨⟨by show (0 : Int) ≤ 3; omega, by show (3 : Int) ≤ 255; omega⟩, hy.from', hy.turns, hy.turn, hy.ahead, hy.most⟩
        obtain ⟨T, hT⟩ : ∃ T, T = now + 10 := ⟨_, rfl⟩
        have w0 : IntKind.i64.wrap now = now := wrap64 (by omega) (by omega)
        have w1 : IntKind.i64.wrap (now + 10) = T := by rw [wrap64 (by omega) (by omega), hT]
        have w2 : IntKind.i64.wrap (T - 5) = T - 5 := wrap64 (by omega) (by omega)
        have w3 : IntKind.i64.wrap (T - 2) = T - 2 := wrap64 (by omega) (by omega)
        have w4 : IntKind.i64.wrap (T - 4) = T - 4 := wrap64 (by omega) (by omega)
        have w5 : IntKind.i64.wrap (T + 1) = T + 1 := wrap64 (by omega) (by omega)
        have rx := fun time H => report_F (full d) hg { x with act := 0, train := 3 } hx0 rfl time false H
        have ry := fun time H => report_F (full d) hg { y with act := 0, train := 3 } hy0 rfl time false H
        have fx := fun time => fits_report d { x with act := 0, train := 3 } hx0 time
        have fy := fun time => fits_report d { y with act := 0, train := 3 } hy0 time
        have tx := fun time => msg_trail (full d) { x with act := 0, train := 3 } hx0 time
        obtain ⟨bl0, e0, hN, _⟩ := rnew_F []
        simp only [List.length_nil, Nat.zero_add] at e0 hN
        have n0 := rnote_none hN (.vp (layC (full d))) .nils rfl rfl T (msgOf (full d) { x with act := 0, train := 3 } T)
        obtain ⟨bl1, e1, h1, _⟩ := ropen_F hN 3 (T - 5)
        have n1 := rnote_late h1 (full d) hok .nils rfl T (msgOf (full d) { x with act := 0, train := 3 } (T - 2)) (fx _) rfl rfl (.inr (.inl ⟨rfl, by show T - 2 ≠ T; omega⟩))
        obtain ⟨bl2, v2, e2, h2, _⟩ := rnote_ok h1 (full d) hok .nils rfl [] (by simp) (fun _ _ _ => rfl) (T - 2) (msgOf (full d) { x with act := 0, train := 3 } (T - 2)) (fx _) rfl rfl (tx (T - 2)) (by show ¬ T - 2 < T - 2; omega) (fun _ => rfl) (fun h => absurd rfl h)
        simp only [joinT_nil, ite_self] at h2
        obtain ⟨bl3, va, e3, oa, ka, _⟩ := rget_F h2 (tx (T - 2)).1 (by have := (tx (T - 2)).2; show (msgOf (full d) { x with act := 0, train := 3 } (T - 2)).trail.length ≤ 1000; omega)
        have h3 := h2.keep ka
        have n3 := rnote_late h3 (full d) hok .nils rfl T (msgOf (full d) { y with act := 0, train := 3 } (T - 2)) (fy _) rfl rfl (.inr (.inr ⟨(tx (T - 2)).1, by show T - 2 ≤ T - 2; omega⟩))
        have n4 := rnote_late h3 (full d) hok .nils rfl T (msgOf (full d) { y with act := 0, train := 3 } (T - 4)) (fy _) rfl rfl (.inr (.inr ⟨(tx (T - 2)).1, by show T - 4 ≤ T - 2; omega⟩))
        have n5 := rnote_late h3 (full d) hok .nils rfl T (msgOf (full d) { y with act := 0, train := 3 } (T + 1)) (fy _) rfl rfl (.inl (by show T < T + 1; omega))
        obtain ⟨bl4, vb, e4, ob, kb, _⟩ := rget_F h3 (tx (T - 2)).1 (by have := (tx (T - 2)).2; show (msgOf (full d) { x with act := 0, train := 3 } (T - 2)).trail.length ≤ 1000; omega)
        have oa4 := oa.keep kb
        have sa := fun bx st => snapI_own oa4 bx st
        have sb := fun bx st => snapI_own ob bx st
        have hi := fun st H => ints_F (msgOf (full d) { x with act := 0, train := 3 } (T - 2)).trail (msgOf (full d) { x with act := 0, train := 3 } (T - 2)).trail (by have := (tx (T - 2)).2; unfold Zc.small; omega) st H
        have hne : ¬ ((-1 : Int) = T - 2) := by omega
        simp only [trC] at e3 e4
        cases hw : x.whole with
        | true =>
          have hw' : (msgOf (full d) { x with act := 0, train := 3 } (T - 2)).whole = true := hw
          have ht' : (msgOf (full d) { x with act := 0, train := 3 } (T - 2)).time = T - 2 := rfl
          simp only [hw', ht', if_true] at e3 e4
          simp only [l10_TrainStale_C, l10_behind_call, hb, r04_Small_call, hsF, eq_false h1', eq_false h2', r05_Full_call, full_F d hd, graph_New_call, gnew_F, train_New_call, e0, w0, w1, w2, w3, w4, w5, l10_report_call, rx, ry, train_Register_Note_call, locs_msg, n0, train_Register_Open_call, e1, n1, e2, train_Register_Get_call, e3, n3, n4, n5, e4, oa.locv, oa.one, oa.cells, oa.und, ob.locv, ob.one, ob.cells, ob.und, sa, sb, r01_Ints_call, hi, y1, y2, y3, y4, y5, y6, y7, y8, y9, keepE, keepB, chk, CV.locs, CV.locv, CV.refs, CV.ref, pureOp, repC, takeN, resV, enterC, Nat.reduceAdd, Nat.reduceSub, Nat.reduceMul, Nat.reduceLeDiff, Nat.reduceLT, Nat.reduceBEq, Nat.reduceBNe, Nat.reduceEqDiff, ↓reduceIte, Int.reduceAdd, Int.reduceSub, Int.reduceMul, Int.reduceLT, Int.reduceLE, Int.reduceEq, Int.reduceNeg, Int.reduceToNat]
          simp [hw]
        | false =>
          have hw' : (msgOf (full d) { x with act := 0, train := 3 } (T - 2)).whole = false := hw
          have ht' : (msgOf (full d) { x with act := 0, train := 3 } (T - 2)).time = T - 2 := rfl
          simp only [hw', ht', Bool.false_eq_true, if_false] at e3 e4
          simp only [l10_TrainStale_C, l10_behind_call, hb, r04_Small_call, hsF, eq_false h1', eq_false h2', r05_Full_call, full_F d hd, graph_New_call, gnew_F, train_New_call, e0, w0, w1, w2, w3, w4, w5, l10_report_call, rx, ry, train_Register_Note_call, locs_msg, n0, train_Register_Open_call, e1, n1, e2, train_Register_Get_call, e3, n3, n4, n5, e4, oa.locv, oa.one, oa.cells, oa.und, ob.locv, ob.one, ob.cells, ob.und, sa, sb, r01_Ints_call, hi, eq_false hne, y1, y2, y3, y4, y5, y6, y7, y8, y9, keepE, keepB, chk, CV.locs, CV.locv, CV.refs, CV.ref, pureOp, repC, takeN, resV, enterC, Nat.reduceAdd, Nat.reduceSub, Nat.reduceMul, Nat.reduceLeDiff, Nat.reduceLT, Nat.reduceBEq, Nat.reduceBNe, Nat.reduceEqDiff, ↓reduceIte, Int.reduceAdd, Int.reduceSub, Int.reduceMul, Int.reduceLT, Int.reduceLE, Int.reduceEq, Int.reduceNeg, Int.reduceToNat]
          simp [hw]
end Go.Proofs.Ytmkdhpjidhbijaa.Zt
