/- The law OwnStarts, walked. -/
import Derived.Test.YtmjffmghkfappaaZcVf
set_option linter.all false
namespace Go.Proofs.Ytmjffmghkfappaa.Zt
open Go Go.Zc
set_option maxRecDepth 10000

theorem and32 (m : Nat) (hm : m < 2147483648) : binC .and .ifc (.int .u64 m) (.int .u64 4294967295) = some (.int .u64 m) := by
  have h : (BitVec.ofInt IntKind.u64.bits (m : Int) &&& BitVec.ofInt IntKind.u64.bits 4294967295).toNat = m := by
    have e1 : BitVec.ofInt 64 (m : Int) = BitVec.ofNat 64 m := BitVec.ofInt_natCast 64 m
    have e2 : BitVec.ofInt 64 4294967295 = BitVec.ofNat 64 4294967295 := by decide
    show (BitVec.ofInt 64 (m : Int) &&& BitVec.ofInt 64 4294967295).toNat = m
    rw [e1, e2, BitVec.toNat_and, BitVec.toNat_ofNat, BitVec.toNat_ofNat, Nat.mod_eq_of_lt (by omega), Nat.mod_eq_of_lt (by omega)]
    have := Nat.and_two_pow_sub_one_eq_mod m 32
    rw [show (2 : Nat) ^ 32 - 1 = 4294967295 by decide] at this
    rw [this]
    exact Nat.mod_eq_of_lt (by omega)
  have hw : IntKind.u64.wrap (m : Int) = m := by rw [IntKind.wrap_u64]; omega
  show (if IntKind.u64 = IntKind.u64 then intBin .and .u64 m 4294967295 else none) = _
  rw [if_pos rfl]
  simp only [intBin, h, hw]
theorem shr32 (m : Nat) (hm : m < 2147483648) : binC .shr .ifc (.int .u64 m) (.int .u64 32) = some (.int .u64 0) := by
  have : ((m : Int).fdiv (2 ^ (min (32 : Int).toNat IntKind.u64.bits))) = 0 := by
    rw [show (2 : Int) ^ (min (32 : Int).toNat IntKind.u64.bits) = 4294967296 by decide, Int.fdiv_eq_ediv_of_nonneg _ (by decide)]
    omega
  have h := bin_shr (e := .ifc) (k := .u64) (a := (m : Int)) (b := 32) .u64 (by decide)
  rw [this] at h
  exact h
theorem mul64_F (m : Nat) (hm : m < 2147483648) (st : Bool) (H : Heap) : math_bits_Mul64_F st H [.int .u64 1, .int .u64 m] = some (.tup [.int .u64 0, .int .u64 m], H) := by
  have a1 := and32 m hm
  have a2 := and32 1 (by decide)
  have a3 := and32 0 (by decide)
  have b1 := shr32 m hm
  have b2 := shr32 1 (by decide)
  have b3 := shr32 0 (by decide)
  simp only [Int.natCast_one, Int.natCast_zero] at a2 a3 b2 b3
  have w1 : IntKind.u64.wrap (1 * (m : Int)) = m := by rw [IntKind.wrap_u64]; omega
  have w2 : IntKind.u64.wrap (0 * (m : Int)) = 0 := by rw [IntKind.wrap_u64]; omega
  have w3 : IntKind.u64.wrap 0 = 0 := by decide
  rw [math_bits_Mul64_F_eq]
  simp only [math_bits_Mul64_C, a1, a2, a3, b1, b2, b3, w1, w2, w3, y1, y2, y3, y4, y5, y6, y7, y8, y9, keepE, keepB, chk, CV.locs, CV.locv, CV.refs, CV.ref, pureOp, repC, takeN, resV, enterC, Nat.reduceAdd, Nat.reduceSub, Nat.reduceMul, Nat.reduceLeDiff, Nat.reduceLT, Nat.reduceBEq, Nat.reduceBNe, Nat.reduceEqDiff, ↓reduceIte, Int.reduceAdd, Int.reduceSub, Int.reduceMul, Int.reduceLT, Int.reduceLE, Int.reduceEq, Int.reduceNeg, Int.reduceToNat]
theorem mul_F (m : Nat) (hm : m < 2147483648) (st : Bool) (H : Heap) : math_bits_Mul_F st H [.int .u64 1, .int .u64 m] = some (.tup [.int .u64 0, .int .u64 m], H) := by
  rw [math_bits_Mul_F_eq]
  simp only [math_bits_Mul_C, math_bits_Mul64_call, mul64_F m hm, y1, y2, y3, y4, y5, y6, y7, y8, y9, keepE, keepB, chk, CV.locs, CV.locv, CV.refs, CV.ref, pureOp, repC, takeN, resV, enterC, Nat.reduceAdd, Nat.reduceSub, Nat.reduceMul, Nat.reduceLeDiff, Nat.reduceLT, Nat.reduceBEq, Nat.reduceBNe, Nat.reduceEqDiff, ↓reduceIte, Int.reduceAdd, Int.reduceSub, Int.reduceMul, Int.reduceLT, Int.reduceLE, Int.reduceEq, Int.reduceNeg, Int.reduceToNat]

/-! ### slices.Repeat of one -/
theorem slc_os_lo (m n k : Nat) (hk : k ≤ n) : slcC 1 (.os 1 (.blk m) 0 n) (some (.int .i64 k)) none = some (.os 1 (.blk m) k (n - k)) := by
  simp [slcC, sbound]; omega
theorem slc_os_hi (m n k : Nat) (hk : k ≤ n) : slcC 1 (.os 1 (.blk m) 0 n) none (some (.int .i64 k)) = some (.os 1 (.blk m) 0 k) := by
  have h : sbound (some (.int .i64 k)) n n = some k := by simp [sbound]; omega
  simp only [slcC, if_true, h, Option.bind_some]
  simp [sbound]
theorem copy_blk (bx : List (Nat × List CV)) (bl : List Blk) (m : Nat) (A B C new : List Int) (x : CV) (hm : bl[m]? = some (.cells ((A ++ B ++ C).flatMap fI))) (hx : shown ⟨bx, bl⟩ 1 x = some (new.flatMap fI)) (hl : lenOf x = new.length) (hB : B.length = min new.length (B.length + C.length)) :
    heapOp (.copy 1) [.os 1 (.blk m) A.length (B.length + C.length), x] ⟨bx, bl⟩ = some (.int .i64 B.length, ⟨bx, bl.set m (.cells ((A ++ new.take B.length ++ C).flatMap fI))⟩) := by
  have hln : (new.take B.length).length = B.length := by rw [List.length_take]; omega
  simp only [heapOp, hx, Option.bind_some, flatI.ones, flatI.locs, Bool.not_false, Bool.and_self, if_true, copyC, get_blk bx bl m _ hm, flatI.length, List.length_append, Nat.mul_one]
  rw [if_pos (by omega), hl, ← hB]
  have h1 := setMany_app ((new.take B.length).flatMap fI) (B.flatMap fI) (A.flatMap fI) (C.flatMap fI) (by rw [flatI.length, flatI.length, hln])
  rw [flatI.length, Nat.mul_one] at h1
  have h2 : (new.flatMap fI).take B.length = (new.take B.length).flatMap fI := by
    have := flatMap_take (f := fI) flatI.len new B.length
    rw [Nat.mul_one] at this
    exact this
  rw [h2, List.flatMap_append, List.flatMap_append, h1]
  simp only [Heap.put, List.flatMap_append]
theorem shown_os (bx : List (Nat × List CV)) (bl : List Blk) (m k : Nat) (A C : List Int) (hm : bl[m]? = some (.cells ((A ++ C).flatMap fI))) (hk : A.length = k) : shown ⟨bx, bl⟩ 1 (.os 1 (.blk m) 0 k) = some (A.flatMap fI) := by
  unfold shown
  simp only [if_true, get_blk bx bl m _ hm, Option.bind_some, Nat.zero_add, Nat.mul_one, flatI.length, List.length_append, List.drop_zero]
  rw [if_pos (by omega), List.flatMap_append, ← hk]
  have : (A.flatMap fI).length = A.length := by rw [flatI.length, Nat.mul_one]
  rw [List.take_left' this]

theorem rep_loop (N m : Nat) (hN : N ≤ 1000000) : ∀ (fuel k : Nat) (bl : List Blk), N - k ≤ fuel → 1 ≤ k → k ≤ N → bl[m]? = some (.cells ((List.replicate k (-1 : Int) ++ List.replicate (N - k) 0).flatMap fI)) →
    ∃ bl', slices_Repeat_int_R0 ([(7, .os 1 (.blk m) 0 N), (8, .int .i64 k)], ⟨[], bl⟩) = some (.norm, [(7, .os 1 (.blk m) 0 N)], ⟨[], bl'⟩) ∧ bl'[m]? = some (.cells ((List.replicate N (-1 : Int)).flatMap fI))
  | 0, k, bl, h1, h2, h3, hm => by
    have hk : k = N := by omega
    subst hk
    refine ⟨bl, ?_, by simpa using hm⟩
    rw [slices_Repeat_int_R0_eq]
    simp only [slices_Repeat_int_B0, slices_Repeat_int_K0_norm, slices_Repeat_int_K0_ret, slices_Repeat_int_K0_exit, y1, y2, y3, y4, y5, y6, y7, y8, y9, keepE, keepB, chk, CV.locs, CV.locv, CV.refs, CV.ref, pureOp, repC, takeN, resV, enterC, Nat.reduceAdd, Nat.reduceSub, Nat.reduceMul, Nat.reduceLeDiff, Nat.reduceLT, Nat.reduceBEq, Nat.reduceBNe, Nat.reduceEqDiff, ↓reduceIte, Int.reduceAdd, Int.reduceSub, Int.reduceMul, Int.reduceLT, Int.reduceLE, Int.reduceEq, Int.reduceNeg, Int.reduceToNat]
  | fuel + 1, k, bl, h1, h2, h3, hm => by
    by_cases hk : k = N
    · subst hk
      refine ⟨bl, ?_, by simpa using hm⟩
      rw [slices_Repeat_int_R0_eq]
      simp only [slices_Repeat_int_B0, slices_Repeat_int_K0_norm, slices_Repeat_int_K0_ret, slices_Repeat_int_K0_exit, y1, y2, y3, y4, y5, y6, y7, y8, y9, keepE, keepB, chk, CV.locs, CV.locv, CV.refs, CV.ref, pureOp, repC, takeN, resV, enterC, Nat.reduceAdd, Nat.reduceSub, Nat.reduceMul, Nat.reduceLeDiff, Nat.reduceLT, Nat.reduceBEq, Nat.reduceBNe, Nat.reduceEqDiff, ↓reduceIte, Int.reduceAdd, Int.reduceSub, Int.reduceMul, Int.reduceLT, Int.reduceLE, Int.reduceEq, Int.reduceNeg, Int.reduceToNat]
    · have hlt : ((k : Int) < N) := by omega
      obtain ⟨j, hj⟩ : ∃ j, j = min k (N - k) := ⟨_, rfl⟩
      have hml : m < bl.length := (List.getElem?_eq_some_iff.1 hm).1
      have hm' : bl[m]? = some (.cells ((List.replicate k (-1 : Int) ++ List.replicate j 0 ++ List.replicate (N - k - j) 0).flatMap fI)) := by
        rw [hm, List.append_assoc, List.replicate_append_replicate, show j + (N - k - j) = N - k by omega]
      have hcp := fun bx => copy_blk bx bl m (List.replicate k (-1)) (List.replicate j 0) (List.replicate (N - k - j) 0) (List.replicate k (-1)) (.os 1 (.blk m) 0 k) hm' (shown_os bx bl m k _ _ hm (by simp)) (by simp [lenOf]) (by simp; omega)
      simp only [List.length_replicate, show j + (N - k - j) = N - k by omega] at hcp
      have hset : ((List.replicate k (-1 : Int) ++ (List.replicate k (-1)).take j ++ List.replicate (N - k - j) 0)) = List.replicate (k + j) (-1) ++ List.replicate (N - (k + j)) 0 := by
        rw [List.take_replicate, List.replicate_append_replicate, show min j k = j by omega, show N - k - j = N - (k + j) by omega]
      rw [hset] at hcp
      have hw : IntKind.i64.wrap ((k : Int) + j) = ((k + j : Nat) : Int) := by rw [wrap64 (by omega) (by omega)]; omega
      obtain ⟨bl', e, o⟩ := rep_loop N m hN fuel (k + j) (bl.set m (.cells ((List.replicate (k + j) (-1 : Int) ++ List.replicate (N - (k + j)) 0).flatMap fI))) (by omega) (by omega) (by omega) (by simp [hml])
      refine ⟨bl', ?_, o⟩
      rw [slices_Repeat_int_R0_eq]
      simp only [slices_Repeat_int_B0, slices_Repeat_int_K0_norm, slices_Repeat_int_K0_ret, slices_Repeat_int_K0_exit, hlt, slc_os_lo m N k h3, slc_os_hi m N k h3, hcp, hw, e, y1, y2, y3, y4, y5, y6, y7, y8, y9, keepE, keepB, chk, CV.locs, CV.locv, CV.refs, CV.ref, pureOp, repC, takeN, resV, enterC, Nat.reduceAdd, Nat.reduceSub, Nat.reduceMul, Nat.reduceLeDiff, Nat.reduceLT, Nat.reduceBEq, Nat.reduceBNe, Nat.reduceEqDiff, ↓reduceIte, Int.reduceAdd, Int.reduceSub, Int.reduceMul, Int.reduceLT, Int.reduceLE, Int.reduceEq, Int.reduceNeg, Int.reduceToNat]

theorem repeat_F (n : Nat) (hn : n ≤ 1000000) (st : Bool) (H : Heap) : slices_Repeat_int_F st H [sl fI [-1], .int .i64 n] = some (sl fI (List.replicate n (-1)), H) := by
  obtain ⟨e0, o0⟩ := Own.mk flatI 0 n 8 (by omega) .i64 .i64 [] []
  simp only [fI, List.nil_append, List.length_nil, Int.natCast_zero] at e0
  have h1 : ¬ ((n : Int) < 0) := by omega
  have w1 : IntKind.u64.wrap 1 = 1 := by decide
  have w2 : IntKind.u64.wrap (n : Int) = n := by rw [IntKind.wrap_u64]; omega
  have w3 : IntKind.i64.wrap (n : Int) = n := wrap64 (by omega) (by omega)
  have h2 : ¬ ((9223372036854775807 : Int) < n) := by omega
  have hM := fun st H => mul_F n (by omega) st H
  rw [slices_Repeat_int_F_eq]
  by_cases h0 : n = 0
  · subst h0
    have hcp := fun bx => copy_blk bx [.cells []] 0 [] [] [] [-1] (sl fI [-1]) rfl rfl rfl (by simp)
    simp only [List.length_nil, Nat.add_zero, List.take_zero, List.append_nil, List.flatMap_nil, Int.natCast_zero] at hcp
    have hR : slices_Repeat_int_R0 ([(7, .os 1 (.blk 0) 0 0), (8, .int .i64 0)], ⟨[], [.cells []]⟩) = some (.norm, [(7, .os 1 (.blk 0) 0 0)], ⟨[], [.cells []]⟩) := by
      rw [slices_Repeat_int_R0_eq]
      simp only [slices_Repeat_int_B0, slices_Repeat_int_K0_norm, slices_Repeat_int_K0_ret, slices_Repeat_int_K0_exit, Int.natCast_zero, y1, y2, y3, y4, y5, y6, y7, y8, y9, keepE, keepB, chk, CV.locs, CV.locv, CV.refs, CV.ref, pureOp, repC, takeN, resV, enterC, Nat.reduceAdd, Nat.reduceSub, Nat.reduceMul, Nat.reduceLeDiff, Nat.reduceLT, Nat.reduceBEq, Nat.reduceBNe, Nat.reduceEqDiff, ↓reduceIte, Int.reduceAdd, Int.reduceSub, Int.reduceMul, Int.reduceLT, Int.reduceLE, Int.reduceEq, Int.reduceNeg, Int.reduceToNat]
    have hs : ∀ bx, snapV ⟨bx, [Blk.cells []]⟩ st false (snapN ⟨bx, [Blk.cells []]⟩ st false 7) (.os 1 (.blk 0) 0 0) = some (sl fI []) := fun _ => rfl
    simp only [List.replicate_zero, List.flatMap_nil, Int.natCast_zero] at e0 hM w2 w3 h1 h2
    simp only [slices_Repeat_int_C, slices_Repeat_int_L0_eq, Int.natCast_zero, w1, w2, w3, math_bits_Mul_call, hM, e0, hcp, hR, hs, List.replicate_zero, y1, y2, y3, y4, y5, y6, y7, y8, y9, keepE, keepB, chk, CV.locs, CV.locv, CV.refs, CV.ref, pureOp, repC, takeN, resV, enterC, Nat.reduceAdd, Nat.reduceSub, Nat.reduceMul, Nat.reduceLeDiff, Nat.reduceLT, Nat.reduceBEq, Nat.reduceBNe, Nat.reduceEqDiff, ↓reduceIte, Int.reduceAdd, Int.reduceSub, Int.reduceMul, Int.reduceLT, Int.reduceLE, Int.reduceEq, Int.reduceNeg, Int.reduceToNat]
  · have hm0 : ([Blk.cells ((List.replicate n (0 : Int)).flatMap fI)] : List Blk)[0]? = some (.cells (([] ++ [0] ++ List.replicate (n - 1) (0 : Int)).flatMap fI)) := by
      have : List.replicate n (0 : Int) = [] ++ [0] ++ List.replicate (n - 1) 0 := by
        rw [List.nil_append, List.singleton_append, ← List.replicate_succ, show n - 1 + 1 = n by omega]
      rw [this]; rfl
    have hcp := fun bx => copy_blk bx [.cells ((List.replicate n (0 : Int)).flatMap fI)] 0 [] [0] (List.replicate (n - 1) 0) [-1] (sl fI [-1]) hm0 rfl rfl (by simp only [List.length_cons, List.length_nil, List.length_replicate]; omega)
    simp only [List.length_nil, List.length_cons, List.length_replicate, Nat.zero_add, show 1 + (n - 1) = n by omega, Int.natCast_one] at hcp
    obtain ⟨bl', e, o⟩ := rep_loop n 0 hn n 1 _ (by omega) (by omega) (by omega) (show ([Blk.cells ((List.replicate n (0 : Int)).flatMap fI)].set 0 (.cells (([] ++ List.take 1 [-1] ++ List.replicate (n - 1) 0).flatMap fI)))[0]? = some (.cells ((List.replicate 1 (-1 : Int) ++ List.replicate (n - 1) 0).flatMap fI)) by rfl)
    simp only [Int.natCast_one, List.set_cons_zero, List.nil_append, List.take_succ_cons, List.take_zero, List.singleton_append] at e
    simp only [List.set_cons_zero, List.nil_append, List.take_succ_cons, List.take_zero, List.singleton_append] at hcp
    have hO : Own fI 1 bl' (.os 1 (.blk 0) 0 n) (List.replicate n (-1)) := .inr ⟨0, by simp, o⟩
    have hs := fun bx => snapI_own hO bx st
    simp only [slices_Repeat_int_C, slices_Repeat_int_L0_eq, h1, h2, w1, w2, w3, math_bits_Mul_call, hM, e0, hcp, e, hs, y1, y2, y3, y4, y5, y6, y7, y8, y9, keepE, keepB, chk, CV.locs, CV.locv, CV.refs, CV.ref, pureOp, repC, takeN, resV, enterC, Nat.reduceAdd, Nat.reduceSub, Nat.reduceMul, Nat.reduceLeDiff, Nat.reduceLT, Nat.reduceBEq, Nat.reduceBNe, Nat.reduceEqDiff, ↓reduceIte, Int.reduceAdd, Int.reduceSub, Int.reduceMul, Int.reduceLT, Int.reduceLE, Int.reduceEq, Int.reduceNeg, Int.reduceToNat]
theorem slI2 (a : Int) : sl fI [a] = .vs [.int .i64 a] 1 := rfl
theorem p_max (x y : CV) : pureOp .max [x, y] = foldC max2C x [y] := rfl
theorem start_F (n : Int) (hn : n ≤ 1000000) (H : Heap) : own_Start_F false H [.int .i64 n] = some (sl fI (List.replicate n.toNat (-1)), H) := by
  have hR := fun st H => repeat_F n.toNat (by omega) st H
  simp only [slI2] at hR
  rw [own_Start_F_eq]
  by_cases h : 0 < n
  · have hc : ((n.toNat : Nat) : Int) = n := by omega
    have hm : foldC max2C (.int .i64 n) [.int .i64 0] = some (.int .i64 n) := by
      simp only [foldC, max2C, Option.bind_some]
      rw [if_neg (by omega)]
    simp only [hc] at hR
    simp only [own_Start_C, p_max, hm, slices_Repeat_int_call, hR, y1, y2, y3, y4, y5, y6, y7, y8, y9, keepE, keepB, chk, CV.locs, CV.locv, CV.refs, CV.ref, pureOp, repC, takeN, resV, enterC, Nat.reduceAdd, Nat.reduceSub, Nat.reduceMul, Nat.reduceLeDiff, Nat.reduceLT, Nat.reduceBEq, Nat.reduceBNe, Nat.reduceEqDiff, ↓reduceIte, Int.reduceAdd, Int.reduceSub, Int.reduceMul, Int.reduceLT, Int.reduceLE, Int.reduceEq, Int.reduceNeg, Int.reduceToNat]
  · have h0 : n.toNat = 0 := by omega
    have hm : foldC max2C (.int .i64 n) [.int .i64 0] = some (.int .i64 0) := by
      simp only [foldC, max2C, Option.bind_some]
      by_cases h1 : (0 : Int) > n
      · rw [if_pos h1]
      · rw [if_neg h1, show n = 0 by omega]
    simp only [h0, Int.natCast_zero] at hR
    simp only [own_Start_C, p_max, hm, h0, slices_Repeat_int_call, hR, y1, y2, y3, y4, y5, y6, y7, y8, y9, keepE, keepB, chk, CV.locs, CV.locv, CV.refs, CV.ref, pureOp, repC, takeN, resV, enterC, Nat.reduceAdd, Nat.reduceSub, Nat.reduceMul, Nat.reduceLeDiff, Nat.reduceLT, Nat.reduceBEq, Nat.reduceBNe, Nat.reduceEqDiff, ↓reduceIte, Int.reduceAdd, Int.reduceSub, Int.reduceMul, Int.reduceLT, Int.reduceLE, Int.reduceEq, Int.reduceNeg, Int.reduceToNat]

/-! ### At first nobody knows -/
theorem starts_loop (l : Lay) (hl : l.ok) (is : List Int) (hn2 : is.length = l.parts.length) (hI : ∀ i, i < l.parts.length → is.getD i 0 < 0) (n8 : CV) (h8 : n8.locv = false) : ∀ (k n : Nat), n + k = l.parts.length →
    l12_OwnStarts_R0 ([(2, n8), (7, .op (.loc 7) 0), (10, sl fI is), (11, .int .i64 n)], ⟨[(7, layC l)], []⟩) = some (.norm, [(2, n8)], ⟨[], []⟩)
  | 0, n, hn => by
    have q := chkV_of h8
    have h1 : ¬ ((n : Int) < l.parts.length) := by omega
    rw [l12_OwnStarts_R0_eq]
    simp only [l12_OwnStarts_B0, l12_OwnStarts_K0_norm, l12_OwnStarts_K0_ret, l12_OwnStarts_K0_exit, q, h1, y1, y2, y3, y4, y5, y6, y7, y8, y9, keepE, keepB, chk, CV.locs, CV.locv, CV.refs, CV.ref, pureOp, repC, takeN, resV, enterC, Nat.reduceAdd, Nat.reduceSub, Nat.reduceMul, Nat.reduceLeDiff, Nat.reduceLT, Nat.reduceBEq, Nat.reduceBNe, Nat.reduceEqDiff, ↓reduceIte, Int.reduceAdd, Int.reduceSub, Int.reduceMul, Int.reduceLT, Int.reduceLE, Int.reduceEq, Int.reduceNeg, Int.reduceToNat]
  | k + 1, n, hn => by
    have q := chkV_of h8
    have hpl := hl.parts
    have h1 : ((n : Int) < l.parts.length) := by omega
    have hw := wrapN (n := n) (by omega)
    have h2 : ¬ ((is.length : Int) ≤ n) := by omega
    have g1 := iaddr_getI (k := .i64) (l := is) (i := n) (by omega)
    have hlt := hI n (by omega)
    have h3 : ¬ (0 ≤ is.getD n 0) := by omega
    have ih := starts_loop l hl is hn2 hI n8 h8 k (n + 1) (by omega)
    rw [l12_OwnStarts_R0_eq]
    simp only [l12_OwnStarts_B0, l12_OwnStarts_K0_norm, l12_OwnStarts_K0_ret, l12_OwnStarts_K0_exit, q, h1, h2, g1, eq_false h3, hw, ih, y1, y2, y3, y4, y5, y6, y7, y8, y9, keepE, keepB, chk, CV.locs, CV.locv, CV.refs, CV.ref, pureOp, repC, takeN, resV, enterC, Nat.reduceAdd, Nat.reduceSub, Nat.reduceMul, Nat.reduceLeDiff, Nat.reduceLT, Nat.reduceBEq, Nat.reduceBNe, Nat.reduceEqDiff, ↓reduceIte, Int.reduceAdd, Int.reduceSub, Int.reduceMul, Int.reduceLT, Int.reduceLE, Int.reduceEq, Int.reduceNeg, Int.reduceToNat]

set_option maxHeartbeats 2000000 in
theorem ownStarts_F (d : Draft) (hd : d.ok) (f : Fld) (hf : f.ok) (n : Int) (hn : -128 ≤ n ∧ n ≤ 127) (st : Bool) (H : Heap) : l12_OwnStarts_F st H [.agg (draftC d), .agg (fieldC f), .int .i8 n] = some (.bool true, H) := by
  rw [l12_OwnStarts_F_eq]
  have hc := comes_F
  have hsF := fun st H => small_F d hd st H
  have hfF := fun st H => few_F f hf st H
  cases hs : d.small with
  | false =>
    simp only [hs] at hsF
    simp only [l12_OwnStarts_C, l12_comes_call, hc, r04_Small_call, hsF, y1, y2, y3, y4, y5, y6, y7, y8, y9, keepE, keepB, chk, CV.locs, CV.locv, CV.refs, CV.ref, pureOp, repC, takeN, resV, enterC, Nat.reduceAdd, Nat.reduceSub, Nat.reduceMul, Nat.reduceLeDiff, Nat.reduceLT, Nat.reduceBEq, Nat.reduceBNe, Nat.reduceEqDiff, ↓reduceIte, Int.reduceAdd, Int.reduceSub, Int.reduceMul, Int.reduceLT, Int.reduceLE, Int.reduceEq, Int.reduceNeg, Int.reduceToNat]
  | true =>
    simp only [hs] at hsF
    cases hw : f.few with
    | false =>
      simp only [hw] at hfF
      simp only [l12_OwnStarts_C, l12_comes_call, hc, r04_Small_call, hsF, l12_few_call, hfF, y1, y2, y3, y4, y5, y6, y7, y8, y9, keepE, keepB, chk, CV.locs, CV.locv, CV.refs, CV.ref, pureOp, repC, takeN, resV, enterC, Nat.reduceAdd, Nat.reduceSub, Nat.reduceMul, Nat.reduceLeDiff, Nat.reduceLT, Nat.reduceBEq, Nat.reduceBNe, Nat.reduceEqDiff, ↓reduceIte, Int.reduceAdd, Int.reduceSub, Int.reduceMul, Int.reduceLT, Int.reduceLE, Int.reduceEq, Int.reduceNeg, Int.reduceToNat]
    | true =>
      simp only [hw] at hfF
      have hok := full_ok d
      have hg := full_good d hok
      have hB := full_bs d hd
      have hv := vs_ok (full d) hw
      have hpl : (full d).parts.length ≤ 100 := by
        rw [mkParts_of]
        have h := (mkParts_ok d.join (mkEnds d.form).length 0 [] (by simp) (by simp)).1
        have h2 : (mkEnds d.form).length ≤ 8 := by
          obtain ⟨f, hf, h1, _⟩ := form_in d.form
          rw [h1]
          have : forms.all (fun f => Nat.ble (mkEnds f).length 8) = true := by decide
          exact Nat.le_of_ble_eq_true (List.all_eq_true.1 this f hf)
        omega
      have g1 := fun H => views_F (full d) hok hg.pos f hf hw H
      have g3 := fun st H => clear_F (full d) hok f st H
      have s1 := fun H => start_F (full d).parts.length (by omega) H
      have s2 := fun H => start_F n (by omega) H
      simp only [Int.toNat_natCast] at s1
      have hrep : (List.replicate (full d).parts.length (-1 : Int)).length = (full d).parts.length := by simp
      have g4 := fun st H => onext_F (full d) hok hB (List.replicate (full d).parts.length (-1)) hrep (clearL (full d) f) (clearL_len _ _) (viewsF (full d) f) hv st H
      have hL := starts_loop (full d) hok (ownNext (full d) (List.replicate (full d).parts.length (-1)) (clearL (full d) f) (viewsF (full d) f)) (ownNext_len _ _ _ _)
        (fun i hi => by
          rw [ownNext_get _ _ _ _ hi]
          unfold nextP
          split
          · decide
          · rw [if_pos (by simp [List.getD, hi])]
            decide) (.int .i8 n) rfl (full d).parts.length 0 (by omega)
      simp only [Int.natCast_zero] at hL
      have w1 : IntKind.i64.wrap n = n := wrap64 (by omega) (by omega)
      by_cases h0 : n < 0
      · have hz : n.toNat = 0 := by omega
        simp only [hz, List.replicate_zero] at s2
        simp only [l12_OwnStarts_C, l12_OwnStarts_L0_eq, l12_comes_call, hc, r04_Small_call, hsF, l12_few_call, hfF, r05_Full_call, full_F d hd, l12_views_call, g1, own_Start_call, s1, l12_clear_call, g3, own_Next_call, g4, hL, w1, eq_true h0, s2, Int.natCast_zero, y1, y2, y3, y4, y5, y6, y7, y8, y9, keepE, keepB, chk, CV.locs, CV.locv, CV.refs, CV.ref, pureOp, repC, takeN, resV, enterC, Nat.reduceAdd, Nat.reduceSub, Nat.reduceMul, Nat.reduceLeDiff, Nat.reduceLT, Nat.reduceBEq, Nat.reduceBNe, Nat.reduceEqDiff, ↓reduceIte, Int.reduceAdd, Int.reduceSub, Int.reduceMul, Int.reduceLT, Int.reduceLE, Int.reduceEq, Int.reduceNeg, Int.reduceToNat]
      · have hz : ((n.toNat : Nat) : Int) = n := by omega
        simp only [l12_OwnStarts_C, l12_OwnStarts_L0_eq, l12_comes_call, hc, r04_Small_call, hsF, l12_few_call, hfF, r05_Full_call, full_F d hd, l12_views_call, g1, own_Start_call, s1, l12_clear_call, g3, own_Next_call, g4, hL, w1, eq_false h0, s2, List.length_replicate, hz, y1, y2, y3, y4, y5, y6, y7, y8, y9, keepE, keepB, chk, CV.locs, CV.locv, CV.refs, CV.ref, pureOp, repC, takeN, resV, enterC, Nat.reduceAdd, Nat.reduceSub, Nat.reduceMul, Nat.reduceLeDiff, Nat.reduceLT, Nat.reduceBEq, Nat.reduceBNe, Nat.reduceEqDiff, ↓reduceIte, Int.reduceAdd, Int.reduceSub, Int.reduceMul, Int.reduceLT, Int.reduceLE, Int.reduceEq, Int.reduceNeg, Int.reduceToNat]
end Go.Proofs.Ytmjffmghkfappaa.Zt
