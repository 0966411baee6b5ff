/- Walks: may a report be so, as the reference tells; the report that a draft of one makes. -/
import Derived.Test.YtmkdhpjidhbijaaZcN
import Derived.Test.YtmkdhpjidhbijaaZcO
set_option linter.all false
namespace Go.Proofs.Ytmkdhpjidhbijaa.Zt
open Go Go.Zc
set_option maxRecDepth 10000

theorem rfits_len (l : Lay) (m : Msg) (hm : m.trail.length ≤ 12) : ∀ (s p : List Int), p ++ s = m.trail →
    r10_Fits_R0 ([(2, .op (.loc 2) 0), (3, .op (.loc 3) 0), (5, .int .i64 m.trail.length), (6, .int .i64 p.length)], ⟨[(2, layC l), (3, msgC m)], []⟩) =
      if (s.all fun x => decide (lenAt l x ≠ 0)) = true then some (.norm, [(2, .op (.loc 2) 0), (3, .op (.loc 3) 0), (5, .int .i64 m.trail.length)], ⟨[(2, layC l), (3, msgC m)], []⟩) else some (.ret, [(4, .bool false)], ⟨[(2, layC l), (3, msgC m)], []⟩)
  | [], p, hp => by
    have h1 : ¬ ((p.length : Int) < m.trail.length) := by rw [← hp]; simp
    rw [r10_Fits_R0_eq]
    simp only [r10_Fits_B0, r10_Fits_K0_norm, r10_Fits_K0_ret, r10_Fits_K0_exit, h1, y1, y2, y3, y4, y5, y6, y7, y8, y9, keepE, keepB, chk, CV.locs, CV.locv, CV.refs, CV.ref, pureOp, repC, takeN, resV, enterC, Nat.reduceAdd, Nat.reduceSub, Nat.reduceMul, Nat.reduceLeDiff, Nat.reduceLT, Nat.reduceBEq, Nat.reduceBNe, Nat.reduceEqDiff, ↓reduceIte, Int.reduceAdd, Int.reduceSub, Int.reduceMul, Int.reduceLT, Int.reduceLE, Int.reduceEq, Int.reduceNeg, Int.reduceToNat]
  | x :: s, p, hp => by
    have hpl : p.length + 1 + s.length = m.trail.length := by rw [← hp]; simp; omega
    have h1 : ((p.length : Int) < m.trail.length) := by omega
    have hw := wrapM (n := p.length) (by omega)
    have hi : iaddrC 1 (sl fI m.trail) (.int .i64 p.length) = some (.vp (.int .i64 x :: s.flatMap fI)) := by rw [← hp]; exact iaddr_midI _ p s x
    have ih := rfits_len l m hm s (p ++ [x]) (by simpa using hp)
    rw [show (p ++ [x]).length = p.length + 1 by simp] at ih
    rw [r10_Fits_R0_eq]
    by_cases h2 : lenAt l x = 0
    · simp only [r10_Fits_B0, r10_Fits_K0_norm, r10_Fits_K0_ret, r10_Fits_K0_exit, h1, hi, r05_Len_call, len_F, eq_true h2, y1, y2, y3, y4, y5, y6, y7, y8, y9, keepE, keepB, chk, CV.locs, CV.locv, CV.refs, CV.ref, pureOp, repC, takeN, resV, enterC, Nat.reduceAdd, Nat.reduceSub, Nat.reduceMul, Nat.reduceLeDiff, Nat.reduceLT, Nat.reduceBEq, Nat.reduceBNe, Nat.reduceEqDiff, ↓reduceIte, Int.reduceAdd, Int.reduceSub, Int.reduceMul, Int.reduceLT, Int.reduceLE, Int.reduceEq, Int.reduceNeg, Int.reduceToNat]
    · simp only [r10_Fits_B0, r10_Fits_K0_norm, r10_Fits_K0_ret, r10_Fits_K0_exit, h1, hi, r05_Len_call, len_F, eq_false h2, hw, ih, y1, y2, y3, y4, y5, y6, y7, y8, y9, keepE, keepB, chk, CV.locs, CV.locv, CV.refs, CV.ref, pureOp, repC, takeN, resV, enterC, Nat.reduceAdd, Nat.reduceSub, Nat.reduceMul, Nat.reduceLeDiff, Nat.reduceLT, Nat.reduceBEq, Nat.reduceBNe, Nat.reduceEqDiff, ↓reduceIte, Int.reduceAdd, Int.reduceSub, Int.reduceMul, Int.reduceLT, Int.reduceLE, Int.reduceEq, Int.reduceNeg, Int.reduceToNat]

theorem rfits_in (n : Int) (bx0 : List CV) (bx1 : List CV) (e : Ed) (m : Msg) (l : Lay) (i N : Nat) (x : List Ed) (hx : x.length ≤ 2 * Zc.small) (hi : iaddrC 1 (sl fI m.trail) (.int .i64 i) = some (.vp (.int .i64 n :: bx0))) : ∀ (s p : List Ed), p ++ s = x → (∀ y ∈ p, y.s ≠ n) →
    ∃ k : Nat, r10_Fits_R4 ([(2, .op (.loc 2) 0), (3, .op (.loc 3) 0), (5, .int .i64 N), (7, .op (.loc 7) 0), (8, .int .i64 i), (9, sl fE x), (10, .int .i64 p.length)], ⟨[(2, layC l), (3, msgC m), (7, fE e)], []⟩) =
      some (.norm, [(2, .op (.loc 2) 0), (3, .op (.loc 3) 0), (5, .int .i64 N), (7, .op (.loc 7) 0), (8, .int .i64 i), (9, sl fE x), (10, .int .i64 k)], ⟨[(2, layC l), (3, msgC m), (7, fE e)], []⟩) ∧
      ((k = x.length ∧ x.find? (fun y => y.s == n) = none) ∨ ∃ h : k < x.length, x.find? (fun y => y.s == n) = some x[k])
  | [], p, hp, hn => by
    have h1 : ¬ ((p.length : Int) < x.length) := by rw [← hp]; simp
    refine ⟨p.length, ?_, .inl ⟨by rw [← hp]; simp, ?_⟩⟩
    · rw [r10_Fits_R4_eq]
      simp only [r10_Fits_B4, r10_Fits_K4_norm, r10_Fits_K4_ret, r10_Fits_K4_exit, fE, h1, y1, y2, y3, y4, y5, y6, y7, y8, y9, keepE, keepB, chk, CV.locs, CV.locv, CV.refs, CV.ref, pureOp, repC, takeN, resV, enterC, Nat.reduceAdd, Nat.reduceSub, Nat.reduceMul, Nat.reduceLeDiff, Nat.reduceLT, Nat.reduceBEq, Nat.reduceBNe, Nat.reduceEqDiff, ↓reduceIte, Int.reduceAdd, Int.reduceSub, Int.reduceMul, Int.reduceLT, Int.reduceLE, Int.reduceEq, Int.reduceNeg, Int.reduceToNat]
    · rw [List.find?_eq_none]
      intro y hy
      rw [← hp, List.append_nil] at hy
      simpa using hn y hy
  | y :: s, p, hp, hn => by
    have hpl : p.length + 1 + s.length = x.length := by rw [← hp]; simp; omega
    have h1 : ((p.length : Int) < x.length) := by omega
    have hw := wrapN (n := p.length) (by omega)
    have hia : iaddrC 2 (sl fE x) (.int .i64 p.length) = some (.vp (.int .i64 y.s :: .int .i64 y.e :: s.flatMap fE)) := by rw [← hp]; exact iaddr_midE _ p s y
    by_cases hy : y.s = n
    · refine ⟨p.length, ?_, .inr ⟨by omega, ?_⟩⟩
      · rw [r10_Fits_R4_eq]
        simp only [r10_Fits_B4, r10_Fits_K4_norm, r10_Fits_K4_ret, r10_Fits_K4_exit, fE, h1, hia, hi, eq_true hy, y1, y2, y3, y4, y5, y6, y7, y8, y9, keepE, keepB, chk, CV.locs, CV.locv, CV.refs, CV.ref, pureOp, repC, takeN, resV, enterC, Nat.reduceAdd, Nat.reduceSub, Nat.reduceMul, Nat.reduceLeDiff, Nat.reduceLT, Nat.reduceBEq, Nat.reduceBNe, Nat.reduceEqDiff, ↓reduceIte, Int.reduceAdd, Int.reduceSub, Int.reduceMul, Int.reduceLT, Int.reduceLE, Int.reduceEq, Int.reduceNeg, Int.reduceToNat]
      · rw [List.find?_eq_some_iff_getElem]
        have hk : x[p.length]'(by omega) = y := by simp [← hp]
        rw [hk]
        refine ⟨by simp [hy], p.length, by omega, hk, fun j hj => ?_⟩
        have : x[j]'(by omega) ∈ p := by
          have : x[j]'(by omega) = p[j] := by simp [← hp, List.getElem_append_left, hj]
          rw [this]; exact List.getElem_mem hj
        simpa using hn _ this
    · obtain ⟨k, e1, e2⟩ := rfits_in n bx0 bx1 e m l i N x hx hi s (p ++ [y]) (by simpa using hp) (by
        intro z hz
        rcases List.mem_append.1 hz with h | h
        · exact hn z h
        · simp only [List.mem_singleton] at h; subst h; exact hy)
      rw [show (p ++ [y]).length = p.length + 1 by simp] at e1
      simp only [fE] at e1
      refine ⟨k, ?_, e2⟩
      rw [r10_Fits_R4_eq]
      simp only [r10_Fits_B4, r10_Fits_K4_norm, r10_Fits_K4_ret, r10_Fits_K4_exit, fE, h1, hia, hi, eq_false hy, hw, e1, y1, y2, y3, y4, y5, y6, y7, y8, y9, keepE, keepB, chk, CV.locs, CV.locv, CV.refs, CV.ref, pureOp, repC, takeN, resV, enterC, Nat.reduceAdd, Nat.reduceSub, Nat.reduceMul, Nat.reduceLeDiff, Nat.reduceLT, Nat.reduceBEq, Nat.reduceBNe, Nat.reduceEqDiff, ↓reduceIte, Int.reduceAdd, Int.reduceSub, Int.reduceMul, Int.reduceLT, Int.reduceLE, Int.reduceEq, Int.reduceNeg, Int.reduceToNat]

set_option maxHeartbeats 1000000 in
theorem rfits_loop (l : Lay) (hl : l.ok) (m : Msg) (hm : m.trail.length ≤ 12) : ∀ (s p : List Int) (e : Ed), p ++ s = m.trail →
    ∃ bx', r10_Fits_R2 ([(2, .op (.loc 2) 0), (3, .op (.loc 3) 0), (5, .int .i64 m.trail.length), (7, .op (.loc 7) 0), (8, .int .i64 p.length)], ⟨[(2, layC l), (3, msgC m), (7, fE e)], []⟩) =
      if follows l e s = true then some (.norm, [], ⟨[], []⟩) else some (.ret, [(4, .bool false)], ⟨bx', []⟩)
  | [], p, e, hp => by
    have h1 : ¬ ((p.length : Int) < m.trail.length) := by rw [← hp]; simp
    refine ⟨[], ?_⟩
    rw [r10_Fits_R2_eq]
    simp only [r10_Fits_B2, r10_Fits_K2_norm, r10_Fits_K2_ret, r10_Fits_K2_exit, fE, h1, follows, y1, y2, y3, y4, y5, y6, y7, y8, y9, keepE, keepB, chk, CV.locs, CV.locv, CV.refs, CV.ref, pureOp, repC, takeN, resV, enterC, Nat.reduceAdd, Nat.reduceSub, Nat.reduceMul, Nat.reduceLeDiff, Nat.reduceLT, Nat.reduceBEq, Nat.reduceBNe, Nat.reduceEqDiff, ↓reduceIte, Int.reduceAdd, Int.reduceSub, Int.reduceMul, Int.reduceLT, Int.reduceLE, Int.reduceEq, Int.reduceNeg, Int.reduceToNat]
  | x :: s, p, e, hp => by
    have hpl : p.length + 1 + s.length = m.trail.length := by rw [← hp]; simp; omega
    have h1 : ((p.length : Int) < m.trail.length) := by omega
    have hw := wrapM (n := p.length) (by omega)
    have hi : iaddrC 1 (sl fI m.trail) (.int .i64 p.length) = some (.vp (.int .i64 x :: s.flatMap fI)) := by rw [← hp]; exact iaddr_midI _ p s x
    have haF := fun H => around_F l hl e H
    simp only [fE] at haF
    obtain ⟨k, e1, e2⟩ := rfits_in x (s.flatMap fI) [] e m l p.length m.trail.length (around l e) (around_len2 l e) hi (around l e) [] rfl (by simp)
    simp only [fE, List.nil_append, List.length_nil, Int.natCast_zero] at e1
    rcases e2 with ⟨hk, hf⟩ | ⟨hk, hf⟩
    · have hfo : follows l e (x :: s) = false := by simp only [follows, hf]
      have hk' : ((k : Int) = (around l e).length) := by omega
      rw [hfo, r10_Fits_R2_eq]
      simp only [r10_Fits_B2, r10_Fits_K2_norm, r10_Fits_K2_ret, r10_Fits_K2_exit, r10_Fits_L4_eq, fE, h1, r05_Around_call, haF, e1, eq_true hk', y1, y2, y3, y4, y5, y6, y7, y8, y9, keepE, keepB, chk, CV.locs, CV.locv, CV.refs, CV.ref, pureOp, repC, takeN, resV, enterC, Nat.reduceAdd, Nat.reduceSub, Nat.reduceMul, Nat.reduceLeDiff, Nat.reduceLT, Nat.reduceBEq, Nat.reduceBNe, Nat.reduceEqDiff, ↓reduceIte, Int.reduceAdd, Int.reduceSub, Int.reduceMul, Int.reduceLT, Int.reduceLE, Int.reduceEq, Int.reduceNeg, Int.reduceToNat]
      exact ⟨_, rfl⟩
    · obtain ⟨y, hy⟩ : ∃ y, (around l e)[k] = y := ⟨_, rfl⟩
      rw [hy] at hf
      have hya := around_in (l := l) (x := e) (y := y) (by rw [← hy]; exact List.getElem_mem hk)
      have hw3 : IntKind.i64.wrap (1 - y.e) = 1 - y.e := wrap64 (by omega) (by omega)
      have hia := iaddr_atE (k := .i64) hk
      rw [hy] at hia
      have hk' : ¬ ((k : Int) = (around l e).length) := by omega
      have hfo : follows l e (x :: s) = follows l ⟨x, 1 - y.e⟩ s := by simp only [follows, hf]
      obtain ⟨bx', e3⟩ := rfits_loop l hl m hm s (p ++ [x]) ⟨x, 1 - y.e⟩ (by simpa using hp)
      rw [show (p ++ [x]).length = p.length + 1 by simp] at e3
      simp only [fE] at e3
      refine ⟨bx', ?_⟩
      rw [hfo, r10_Fits_R2_eq]
      simp only [r10_Fits_B2, r10_Fits_K2_norm, r10_Fits_K2_ret, r10_Fits_K2_exit, r10_Fits_L4_eq, fE, h1, r05_Around_call, haF, e1, eq_false hk', hi, hia, hw, hw3, e3, y1, y2, y3, y4, y5, y6, y7, y8, y9, keepE, keepB, chk, CV.locs, CV.locv, CV.refs, CV.ref, pureOp, repC, takeN, resV, enterC, Nat.reduceAdd, Nat.reduceSub, Nat.reduceMul, Nat.reduceLeDiff, Nat.reduceLT, Nat.reduceBEq, Nat.reduceBNe, Nat.reduceEqDiff, ↓reduceIte, Int.reduceAdd, Int.reduceSub, Int.reduceMul, Int.reduceLT, Int.reduceLE, Int.reduceEq, Int.reduceNeg, Int.reduceToNat]

theorem unl_of (l : Lay) (t : List Int) : unlFrom l [] t = (decide ((rise t).length = t.length) && t.all fun x => decide (lenAt l x ≠ 0)) := by
  rw [Bool.eq_iff_iff, unlFrom_iff, Bool.and_eq_true, decide_eq_true_eq, rise_len, List.all_eq_true]
  simp

set_option maxHeartbeats 1000000 in
theorem rfits_F (l : Lay) (hl : l.ok) (m : Msg) (hmm : m.trail.length ≤ Zc.small) (st : Bool) (H : Heap) : r10_Fits_F st H [.agg (layC l), .agg (msgC m)] = some (.bool (fits l m), H) := by
  rw [r10_Fits_F_eq]
  obtain ⟨kind, train, time, dir, ahead, whole, trail⟩ := m
  cases trail with
  | nil => simp only [r10_Fits_C, fits, Int.natCast_zero, y1, y2, y3, y4, y5, y6, y7, y8, y9, keepE, keepB, chk, CV.locs, CV.locv, CV.refs, CV.ref, pureOp, repC, takeN, resV, enterC, Nat.reduceAdd, Nat.reduceSub, Nat.reduceMul, Nat.reduceLeDiff, Nat.reduceLT, Nat.reduceBEq, Nat.reduceBNe, Nat.reduceEqDiff, ↓reduceIte, Int.reduceAdd, Int.reduceSub, Int.reduceMul, Int.reduceLT, Int.reduceLE, Int.reduceEq, Int.reduceNeg, Int.reduceToNat]
  | cons h t =>
    have h1 : ¬ (((t.length + 1 : Nat) : Int) < 1) := by omega
    by_cases h2 : t.length + 1 ≤ 12
    · have h2' : ¬ (12 : Int) < ((t.length + 1 : Nat) : Int) := by omega
      by_cases h4 : dir < 0
      · have h4' : ¬ 0 ≤ dir := by omega
        simp only [r10_Fits_C, fits, h1, h2', h4, h4', y1, y2, y3, y4, y5, y6, y7, y8, y9, keepE, keepB, chk, CV.locs, CV.locv, CV.refs, CV.ref, pureOp, repC, takeN, resV, enterC, Nat.reduceAdd, Nat.reduceSub, Nat.reduceMul, Nat.reduceLeDiff, Nat.reduceLT, Nat.reduceBEq, Nat.reduceBNe, Nat.reduceEqDiff, ↓reduceIte, Int.reduceAdd, Int.reduceSub, Int.reduceMul, Int.reduceLT, Int.reduceLE, Int.reduceEq, Int.reduceNeg, Int.reduceToNat]
      · have h4' : 0 ≤ dir := by omega
        by_cases h5 : 1 < dir
        · have h5' : ¬ dir ≤ 1 := by omega
          simp only [r10_Fits_C, fits, h1, h2', h4, h5, h5', y1, y2, y3, y4, y5, y6, y7, y8, y9, keepE, keepB, chk, CV.locs, CV.locv, CV.refs, CV.ref, pureOp, repC, takeN, resV, enterC, Nat.reduceAdd, Nat.reduceSub, Nat.reduceMul, Nat.reduceLeDiff, Nat.reduceLT, Nat.reduceBEq, Nat.reduceBNe, Nat.reduceEqDiff, ↓reduceIte, Int.reduceAdd, Int.reduceSub, Int.reduceMul, Int.reduceLT, Int.reduceLE, Int.reduceEq, Int.reduceNeg, Int.reduceToNat]
        · have h5' : dir ≤ 1 := by omega
          by_cases h6 : ahead < 0
          · have h6' : ¬ 0 ≤ ahead := by omega
            simp only [r10_Fits_C, fits, h1, h2', h4, h5, h6, h6', y1, y2, y3, y4, y5, y6, y7, y8, y9, keepE, keepB, chk, CV.locs, CV.locv, CV.refs, CV.ref, pureOp, repC, takeN, resV, enterC, Nat.reduceAdd, Nat.reduceSub, Nat.reduceMul, Nat.reduceLeDiff, Nat.reduceLT, Nat.reduceBEq, Nat.reduceBNe, Nat.reduceEqDiff, ↓reduceIte, Int.reduceAdd, Int.reduceSub, Int.reduceMul, Int.reduceLT, Int.reduceLE, Int.reduceEq, Int.reduceNeg, Int.reduceToNat]
          · have h6' : 0 ≤ ahead := by omega
            have hr := fun st H => rise_F (h :: t) hmm st H
            by_cases h3 : (rise (h :: t)).length = t.length + 1
            · have h3' : ((rise (h :: t)).length : Int) = ((t.length + 1 : Nat) : Int) := by omega
              have e0 := rfits_len l ⟨kind, train, time, dir, ahead, whole, h :: t⟩ (by simpa using h2) (h :: t) [] rfl
              simp only [List.length_nil, List.length_cons, Int.natCast_zero] at e0
              cases h9 : ((h :: t).all fun x => decide (lenAt l x ≠ 0)) with
              | false =>
                have hu : unlFrom l [] (h :: t) = false := by rw [unl_of, h9, Bool.and_false]
                rw [h9, if_neg (by decide)] at e0
                simp only [r10_Fits_C, r10_Fits_L0_eq, fits, h1, h2', h4, h5, h6, r01_Rise_call, hr, eq_true h3', hu, e0, y1, y2, y3, y4, y5, y6, y7, y8, y9, keepE, keepB, chk, CV.locs, CV.locv, CV.refs, CV.ref, pureOp, repC, takeN, resV, enterC, Nat.reduceAdd, Nat.reduceSub, Nat.reduceMul, Nat.reduceLeDiff, Nat.reduceLT, Nat.reduceBEq, Nat.reduceBNe, Nat.reduceEqDiff, ↓reduceIte, Int.reduceAdd, Int.reduceSub, Int.reduceMul, Int.reduceLT, Int.reduceLE, Int.reduceEq, Int.reduceNeg, Int.reduceToNat]
              | true =>
                have hu : unlFrom l [] (h :: t) = true := by rw [unl_of, h9, Bool.and_true]; simpa using h3
                rw [h9, if_pos rfl] at e0
                by_cases h7 : lenAt l h < ahead
                · have h7' : ¬ ahead ≤ lenAt l h := by omega
                  simp only [r10_Fits_C, r10_Fits_L0_eq, fits, h1, h2', h4, h5, h6, r01_Rise_call, hr, eq_true h3', hu, e0, iaddr_0I, r05_Len_call, len_F, h7, h7', y1, y2, y3, y4, y5, y6, y7, y8, y9, keepE, keepB, chk, CV.locs, CV.locv, CV.refs, CV.ref, pureOp, repC, takeN, resV, enterC, Nat.reduceAdd, Nat.reduceSub, Nat.reduceMul, Nat.reduceLeDiff, Nat.reduceLT, Nat.reduceBEq, Nat.reduceBNe, Nat.reduceEqDiff, ↓reduceIte, Int.reduceAdd, Int.reduceSub, Int.reduceMul, Int.reduceLT, Int.reduceLE, Int.reduceEq, Int.reduceNeg, Int.reduceToNat]
                · have h7' : ahead ≤ lenAt l h := by omega
                  have hw : IntKind.i64.wrap (1 - dir) = 1 - dir := wrap64 (by omega) (by omega)
                  obtain ⟨bx', e⟩ := rfits_loop l hl ⟨kind, train, time, dir, ahead, whole, h :: t⟩ (by simpa using h2) t [h] ⟨h, 1 - dir⟩ rfl
                  simp only [fE, List.length_cons, List.length_nil, Nat.zero_add, Int.natCast_one] at e
                  cases h8 : follows l ⟨h, 1 - dir⟩ t with
                  | true =>
                    rw [h8, if_pos rfl] at e
                    simp only [r10_Fits_C, r10_Fits_L0_eq, r10_Fits_L2_eq, fits, h1, h2, h2', h4, h4', h5, h5', h6, h6', r01_Rise_call, hr, eq_true h3', hu, e0, iaddr_0I, r05_Len_call, len_F, h7, h7', h8, hw, e, y1, y2, y3, y4, y5, y6, y7, y8, y9, keepE, keepB, chk, CV.locs, CV.locv, CV.refs, CV.ref, pureOp, repC, takeN, resV, enterC, Nat.reduceAdd, Nat.reduceSub, Nat.reduceMul, Nat.reduceLeDiff, Nat.reduceLT, Nat.reduceBEq, Nat.reduceBNe, Nat.reduceEqDiff, ↓reduceIte, Int.reduceAdd, Int.reduceSub, Int.reduceMul, Int.reduceLT, Int.reduceLE, Int.reduceEq, Int.reduceNeg, Int.reduceToNat]
                  | false =>
                    rw [h8, if_neg (by decide)] at e
                    simp only [r10_Fits_C, r10_Fits_L0_eq, r10_Fits_L2_eq, fits, h1, h2, h2', h4, h4', h5, h5', h6, h6', r01_Rise_call, hr, eq_true h3', hu, e0, iaddr_0I, r05_Len_call, len_F, h7, h7', h8, hw, e, y1, y2, y3, y4, y5, y6, y7, y8, y9, keepE, keepB, chk, CV.locs, CV.locv, CV.refs, CV.ref, pureOp, repC, takeN, resV, enterC, Nat.reduceAdd, Nat.reduceSub, Nat.reduceMul, Nat.reduceLeDiff, Nat.reduceLT, Nat.reduceBEq, Nat.reduceBNe, Nat.reduceEqDiff, ↓reduceIte, Int.reduceAdd, Int.reduceSub, Int.reduceMul, Int.reduceLT, Int.reduceLE, Int.reduceEq, Int.reduceNeg, Int.reduceToNat]
            · have h3' : ¬ ((rise (h :: t)).length : Int) = ((t.length + 1 : Nat) : Int) := by omega
              have hu : unlFrom l [] (h :: t) = false := by rw [unl_of, Bool.and_eq_false_iff]; left; simpa using h3
              simp only [r10_Fits_C, fits, h1, h2', h4, h5, h6, r01_Rise_call, hr, eq_false h3', hu, y1, y2, y3, y4, y5, y6, y7, y8, y9, keepE, keepB, chk, CV.locs, CV.locv, CV.refs, CV.ref, pureOp, repC, takeN, resV, enterC, Nat.reduceAdd, Nat.reduceSub, Nat.reduceMul, Nat.reduceLeDiff, Nat.reduceLT, Nat.reduceBEq, Nat.reduceBNe, Nat.reduceEqDiff, ↓reduceIte, Int.reduceAdd, Int.reduceSub, Int.reduceMul, Int.reduceLT, Int.reduceLE, Int.reduceEq, Int.reduceNeg, Int.reduceToNat]
    · have h2' : (12 : Int) < ((t.length + 1 : Nat) : Int) := by omega
      simp only [r10_Fits_C, fits, h1, h2, h2', y1, y2, y3, y4, y5, y6, y7, y8, y9, keepE, keepB, chk, CV.locs, CV.locv, CV.refs, CV.ref, pureOp, repC, takeN, resV, enterC, Nat.reduceAdd, Nat.reduceSub, Nat.reduceMul, Nat.reduceLeDiff, Nat.reduceLT, Nat.reduceBEq, Nat.reduceBNe, Nat.reduceEqDiff, ↓reduceIte, Int.reduceAdd, Int.reduceSub, Int.reduceMul, Int.reduceLT, Int.reduceLE, Int.reduceEq, Int.reduceNeg, Int.reduceToNat]
end Go.Proofs.Ytmkdhpjidhbijaa.Zt
