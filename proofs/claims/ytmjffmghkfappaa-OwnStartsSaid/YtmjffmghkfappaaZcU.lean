/- Walks: slices.Compact of a slice that is being made; the sections that join one. -/
import Derived.Test.YtmjffmghkfappaaZcS
import Derived.Test.YtmjffmghkfappaaZcO
set_option linter.all false
namespace Go.Proofs.Ytmjffmghkfappaa.Zt
open Go Go.Zc
set_option maxRecDepth 10000

/-- What differs from what stands before it. -/
def dd : Int → List Int → List Int
  | _, [] => []
  | y, x :: s => if x = y then dd x s else x :: dd x s
theorem compact_dd : ∀ (y : Int) (s : List Int), compact (y :: s) = y :: dd y s
  | y, [] => rfl
  | y, x :: s => by
    simp only [compact, dd]
    by_cases h : x = y
    · subst h; simp only [if_true]; exact compact_dd x s
    · rw [if_neg h, if_neg (fun h' => h h'.symm), compact_dd x s]
theorem dd_len : ∀ (s : List Int) (y : Int), (dd y s).length ≤ s.length
  | [], _ => Nat.le_refl _
  | x :: s, y => by
    have := dd_len s x
    simp only [dd]
    split <;> simp <;> omega

theorem iaddr_os2 {m n k i : Nat} {ik : IntKind} (h : i < n) : iaddrC 1 (.os 1 (.blk m) k n) (.int ik i) = some (.op (.blk m) (k + i)) := by
  unfold iaddrC iaddrN
  simp only [Int.toNat_natCast, Nat.mul_one]
  rw [if_pos ⟨trivial, by omega, by omega⟩]

theorem cmp_in (m n k : Nat) (hn : n ≤ 2 * Zc.small) (hk : k ≤ n) : ∀ (suf done junk : List Int) (y : Int) (bl : List Blk), bl[m]? = some (.cells ((done ++ junk ++ y :: suf).flatMap fI)) → (done ++ junk ++ y :: suf).length = n → k ≤ done.length + junk.length →
    ∃ bl' junk', slices_Compact_int_R2 ([(0, .os 1 (.blk m) 0 n), (3, .int .i64 done.length), (4, .os 1 (.blk m) k (n - k)), (5, .int .i64 (done.length + junk.length + 1 - k : Nat))], ⟨[], bl⟩) =
        some (.norm, [(0, .os 1 (.blk m) 0 n), (3, .int .i64 (done ++ dd y suf).length)], ⟨[], bl'⟩) ∧
      bl'[m]? = some (.cells (((done ++ dd y suf) ++ junk').flatMap fI)) ∧ ((done ++ dd y suf) ++ junk').length = n ∧ Fr bl bl' (.os 1 (.blk m) 0 n)
  | [], done, junk, y, bl, hm, hl, hkk => by
    refine ⟨bl, junk ++ [y], ?_, by simpa [dd] using hm, by simp [dd] at hl ⊢; omega, fun _ _ h _ => h⟩
    have h1 : ¬ (((done.length + junk.length + 1 - k : Nat) : Int) < (n - k : Nat)) := by simp at hl; omega
    rw [slices_Compact_int_R2_eq]
    simp only [slices_Compact_int_B2, slices_Compact_int_K2_norm, slices_Compact_int_K2_ret, slices_Compact_int_K2_exit, h1, dd, y1, y2, y3, y4, y5, y6, y7, y8, y9, keepE, keepB, chk, CV.locs, CV.locv, CV.refs, CV.ref, pureOp, repC, takeN, resV, enterC, Nat.reduceAdd, Nat.reduceSub, Nat.reduceMul, Nat.reduceLeDiff, Nat.reduceLT, Nat.reduceBEq, Nat.reduceBNe, Nat.reduceEqDiff, ↓reduceIte, Int.reduceAdd, Int.reduceSub, Int.reduceMul, Int.reduceLT, Int.reduceLE, Int.reduceEq, Int.reduceNeg, Int.reduceToNat]
  | x :: suf, done, junk, y, bl, hm, hl, hkk => by
    have hl' : done.length + junk.length + 2 + suf.length = n := by simp at hl; omega
    have hml : m < bl.length := (List.getElem?_eq_some_iff.1 hm).1
    have h1 : (((done.length + junk.length + 1 - k : Nat) : Int) < (n - k : Nat)) := by omega
    unfold Zc.small at hn
    have hw := wrapN (n := done.length + junk.length + 1 - k) (by unfold Zc.small; omega)
    have hw1 : IntKind.i64.wrap (((done.length + junk.length + 1 - k : Nat) : Int) - 1) = ((done.length + junk.length - k : Nat) : Int) := by rw [wrap64 (by omega) (by omega)]; omega
    have hw2 := wrapN (n := done.length) (by unfold Zc.small; omega)
    have hg : ∀ bx, Heap.get ⟨bx, bl⟩ (.blk m) = some ((done ++ junk ++ y :: x :: suf).flatMap fI) := fun bx => get_blk bx bl m _ hm
    have i1 : iaddrC 1 (.os 1 (.blk m) k (n - k)) (.int .i64 (done.length + junk.length + 1 - k : Nat)) = some (.op (.blk m) (done.length + junk.length + 1)) := by
      rw [iaddr_os2 (by omega)]; congr 2; omega
    have i2 : iaddrC 1 (.os 1 (.blk m) k (n - k)) (.int .i64 (done.length + junk.length - k : Nat)) = some (.op (.blk m) (done.length + junk.length)) := by
      rw [iaddr_os2 (by omega)]; congr 2; omega
    have i3 : iaddrC 1 (.os 1 (.blk m) 0 n) (.int .i64 done.length) = some (.op (.blk m) done.length) := iaddr_os (by omega)
    have d1 : ((done ++ junk ++ y :: x :: suf).flatMap fI).drop (done.length + junk.length + 1) = .int .i64 x :: suf.flatMap fI := by
      have := dropI (done ++ junk ++ [y]) suf x
      simpa only [List.length_append, List.length_cons, List.length_nil, Nat.zero_add, List.append_assoc, List.cons_append, List.nil_append, Nat.add_assoc] using this
    have d2 : ((done ++ junk ++ y :: x :: suf).flatMap fI).drop (done.length + junk.length) = .int .i64 y :: (x :: suf).flatMap fI := by
      have := dropI (done ++ junk) (x :: suf) y
      simpa only [List.length_append] using this
    by_cases hxy : x = y
    · obtain ⟨bl', junk', e, e1, e2, e3⟩ := cmp_in m n k (by unfold Zc.small; exact hn) hk suf done (junk ++ [y]) x bl (by simpa using hm) (by simpa using hl) (by simp; omega)
      have hd : dd y (x :: suf) = dd x suf := by simp only [dd, if_pos hxy]
      rw [hd]
      refine ⟨bl', junk', ?_, e1, e2, e3⟩
      have hidx : (done.length + (junk ++ [y]).length + 1 - k : Nat) = done.length + junk.length + 1 - k + 1 := by simp; omega
      rw [hidx] at e
      rw [slices_Compact_int_R2_eq]
      simp only [slices_Compact_int_B2, slices_Compact_int_K2_norm, slices_Compact_int_K2_ret, slices_Compact_int_K2_exit, h1, i1, i2, hg, d1, d2, eq_true hxy, hw, hw1, e, y1, y2, y3, y4, y5, y6, y7, y8, y9, keepE, keepB, chk, CV.locs, CV.locv, CV.refs, CV.ref, pureOp, repC, takeN, resV, enterC, Nat.reduceAdd, Nat.reduceSub, Nat.reduceMul, Nat.reduceLeDiff, Nat.reduceLT, Nat.reduceBEq, Nat.reduceBNe, Nat.reduceEqDiff, ↓reduceIte, Int.reduceAdd, Int.reduceSub, Int.reduceMul, Int.reduceLT, Int.reduceLE, Int.reduceEq, Int.reduceNeg, Int.reduceToNat]
    · obtain ⟨j0, junk0, hj⟩ : ∃ j0 junk0, junk ++ [y] = j0 :: junk0 := by cases junk with | nil => exact ⟨y, [], rfl⟩ | cons a b => exact ⟨a, b ++ [y], rfl⟩
      have hjl : junk.length + 1 = junk0.length + 1 := by simpa using congrArg List.length hj
      have hbe : done ++ junk ++ y :: x :: suf = done ++ j0 :: (junk0 ++ x :: suf) := by
        have : junk ++ y :: x :: suf = (junk ++ [y]) ++ x :: suf := by simp
        rw [List.append_assoc, this, hj]; simp
      have hst : ∀ bx, stE 1 done.length (.int .i64 x) ⟨bx, bl⟩ (.blk m) ((done ++ junk ++ y :: x :: suf).flatMap fI) = some ⟨bx, bl.set m (.cells ((done ++ x :: (junk0 ++ x :: suf)).flatMap fI))⟩ := by
        intro bx
        rw [hbe]
        exact stI bx bl m done (junk0 ++ x :: suf) j0 x
      obtain ⟨bl', junk', e, e1, e2, e3⟩ := cmp_in m n k (by unfold Zc.small; exact hn) hk suf (done ++ [x]) junk0 x (bl.set m (.cells ((done ++ x :: (junk0 ++ x :: suf)).flatMap fI))) (by rw [List.getElem?_set_self hml]; simp) (by simp; omega) (by simp; omega)
      have hd : dd y (x :: suf) = x :: dd x suf := by simp only [dd, if_neg hxy]
      have hke : done ++ x :: dd x suf = (done ++ [x]) ++ dd x suf := by simp
      rw [hd, hke]
      refine ⟨bl', junk', ?_, e1, e2, fun j b hb hne => e3 j b (by rw [List.getElem?_set_ne (fun h => hne (by rw [h]; rfl))]; exact hb) hne⟩
      have hidx : ((done ++ [x]).length + junk0.length + 1 - k : Nat) = done.length + junk.length + 1 - k + 1 := by simp; omega
      rw [hidx, show (done ++ [x]).length = done.length + 1 by simp] at e
      rw [slices_Compact_int_R2_eq]
      simp only [slices_Compact_int_B2, slices_Compact_int_K2_norm, slices_Compact_int_K2_ret, slices_Compact_int_K2_exit, h1, i1, i2, i3, hg, d1, d2, eq_false hxy, hst, hw, hw1, hw2, e, y1, y2, y3, y4, y5, y6, y7, y8, y9, keepE, keepB, chk, CV.locs, CV.locv, CV.refs, CV.ref, pureOp, repC, takeN, resV, enterC, Nat.reduceAdd, Nat.reduceSub, Nat.reduceMul, Nat.reduceLeDiff, Nat.reduceLT, Nat.reduceBEq, Nat.reduceBNe, Nat.reduceEqDiff, ↓reduceIte, Int.reduceAdd, Int.reduceSub, Int.reduceMul, Int.reduceLT, Int.reduceLE, Int.reduceEq, Int.reduceNeg, Int.reduceToNat]

/-- The outer loop: what comes first is kept as it is. -/
theorem cmp_out (m n : Nat) (hn : n ≤ 2 * Zc.small) : ∀ (suf pre : List Int) (y : Int) (bl : List Blk), bl[m]? = some (.cells ((pre ++ y :: suf).flatMap fI)) → (pre ++ y :: suf).length = n →
    (∃ bl' junk', slices_Compact_int_R0 ([(0, .os 1 (.blk m) 0 n), (3, .int .i64 (pre.length + 1 : Nat))], ⟨[], bl⟩) =
        some (.ret, [(2, .os 1 (.blk m) 0 (pre ++ y :: dd y suf).length)], ⟨[], bl'⟩) ∧
      bl'[m]? = some (.cells ((pre ++ y :: dd y suf).flatMap fI ++ junk')) ∧ Fr bl bl' (.os 1 (.blk m) 0 n)) ∨
    (slices_Compact_int_R0 ([(0, .os 1 (.blk m) 0 n), (3, .int .i64 (pre.length + 1 : Nat))], ⟨[], bl⟩) = some (.norm, [(0, .os 1 (.blk m) 0 n)], ⟨[], bl⟩) ∧ dd y suf = suf)
  | [], pre, y, bl, hm, hl => by
    right
    refine ⟨?_, rfl⟩
    have h1 : ¬ (((pre.length + 1 : Nat) : Int) < n) := by simp at hl; omega
    rw [slices_Compact_int_R0_eq]
    simp only [slices_Compact_int_B0, slices_Compact_int_K0_norm, slices_Compact_int_K0_ret, slices_Compact_int_K0_exit, h1, y1, y2, y3, y4, y5, y6, y7, y8, y9, keepE, keepB, chk, CV.locs, CV.locv, CV.refs, CV.ref, pureOp, repC, takeN, resV, enterC, Nat.reduceAdd, Nat.reduceSub, Nat.reduceMul, Nat.reduceLeDiff, Nat.reduceLT, Nat.reduceBEq, Nat.reduceBNe, Nat.reduceEqDiff, ↓reduceIte, Int.reduceAdd, Int.reduceSub, Int.reduceMul, Int.reduceLT, Int.reduceLE, Int.reduceEq, Int.reduceNeg, Int.reduceToNat]
  | x :: suf, pre, y, bl, hm, hl => by
    have hl' : pre.length + 2 + suf.length = n := by simp at hl; omega
    have h1 : (((pre.length + 1 : Nat) : Int) < n) := by omega
    unfold Zc.small at hn
    have hw := wrapN (n := pre.length + 1) (by unfold Zc.small; omega)
    have hw1 : IntKind.i64.wrap (((pre.length + 1 : Nat) : Int) - 1) = pre.length := by rw [wrap64 (by omega) (by omega)]; omega
    have hg : ∀ bx, Heap.get ⟨bx, bl⟩ (.blk m) = some ((pre ++ y :: x :: suf).flatMap fI) := fun bx => get_blk bx bl m _ hm
    have i1 : iaddrC 1 (.os 1 (.blk m) 0 n) (.int .i64 (pre.length + 1 : Nat)) = some (.op (.blk m) (pre.length + 1)) := iaddr_os (by omega)
    have i2 : iaddrC 1 (.os 1 (.blk m) 0 n) (.int .i64 pre.length) = some (.op (.blk m) pre.length) := iaddr_os (by omega)
    have d1 : ((pre ++ y :: x :: suf).flatMap fI).drop (pre.length + 1) = .int .i64 x :: suf.flatMap fI := by
      have := dropI (pre ++ [y]) suf x
      simpa only [List.length_append, List.length_cons, List.length_nil, Nat.zero_add, List.append_assoc, List.cons_append, List.nil_append] using this
    have d2 : ((pre ++ y :: x :: suf).flatMap fI).drop pre.length = .int .i64 y :: (x :: suf).flatMap fI := dropI pre (x :: suf) y
    by_cases hxy : x = y
    · left
      subst hxy
      obtain ⟨bl1, junk', e, e1, e2, e3⟩ := cmp_in m n (pre.length + 1) (by unfold Zc.small; exact hn) (by omega) suf (pre ++ [x]) [] x bl (by simpa using hm) (by simpa using hl) (by simp)
      have hd : dd x (x :: suf) = dd x suf := by simp only [dd, if_true]
      have hke : pre ++ x :: dd x suf = (pre ++ [x]) ++ dd x suf := by simp
      rw [hd, hke]
      generalize hq : (pre ++ [x]) ++ dd x suf = q at *
      have hql : q.length ≤ n := by simp at e2; omega
      have hone : ((pre ++ [x]).length + ([] : List Int).length + 1 - (pre.length + 1) : Nat) = 1 := by simp
      rw [hone, show (pre ++ [x]).length = pre.length + 1 by simp] at e
      have hc0 : slcC 1 (.os 1 (.blk m) 0 n) (some (.int .i64 (pre.length + 1 : Nat))) none = some (.os 1 (.blk m) (pre.length + 1) (n - (pre.length + 1))) := by
        unfold slcC
        simp only [sbound, if_true, Option.bind_some]
        rw [if_pos ⟨by omega, by omega⟩]
        simp
      have hc1 : slcC 1 (.os 1 (.blk m) 0 n) (some (.int .i64 q.length)) none = some (.os 1 (.blk m) q.length (n - q.length)) := by
        unfold slcC
        simp only [sbound, if_true, Option.bind_some]
        rw [if_pos ⟨by omega, by omega⟩]
        simp
      have hc2 : slcC 1 (.os 1 (.blk m) 0 n) none (some (.int .i64 q.length)) = some (.os 1 (.blk m) 0 q.length) := by
        unfold slcC
        simp only [sbound, if_true]
        rw [if_pos ⟨by omega, by omega⟩]
        simp
      have hml : m < bl1.length := (List.getElem?_eq_some_iff.1 e1).1
      have hcl : ∀ bx, clearC 1 [.int .i64 0] ⟨bx, bl1⟩ (.os 1 (.blk m) q.length (n - q.length)) = some ⟨bx, bl1.set m (.cells (q.flatMap fI ++ repC [.int .i64 0] (n - q.length)))⟩ := by
        intro bx
        have hlen := flatI.length (q ++ junk')
        have hjl : junk'.length = n - q.length := by simp at e2; omega
        have hsm := setMany_app (repC [.int .i64 0] (n - q.length)) (junk'.flatMap fI) (q.flatMap fI) [] (by rw [repC_length, flatI.length, hjl]; simp)
        rw [flatI.length, Nat.mul_one] at hsm
        simp only [List.append_nil] at hsm
        simp only [clearC, if_true, get_blk bx bl1 m _ e1, Option.bind_some]
        rw [if_pos (by rw [hlen, e2]; omega)]
        simp only [List.flatMap_append, hsm, put_blk]
      refine ⟨bl1.set m (.cells (q.flatMap fI ++ repC [.int .i64 0] (n - q.length))), _, ?_, by rw [List.getElem?_set_self hml], fun j b hb hne => ?_⟩
      · rw [slices_Compact_int_R0_eq]
        have e' := e
        rw [show ((1 : Nat) : Int) = 1 from rfl] at e'
        simp only [slices_Compact_int_B0, slices_Compact_int_K0_norm, slices_Compact_int_K0_ret, slices_Compact_int_K0_exit, slices_Compact_int_L2_eq, h1, i1, i2, hg, d1, d2, hw, hw1, hc0, hc1, hc2, hop_clear, hcl, e', y1, y2, y3, y4, y5, y6, y7, y8, y9, keepE, keepB, chk, CV.locs, CV.locv, CV.refs, CV.ref, pureOp, repC, takeN, resV, enterC, Nat.reduceAdd, Nat.reduceSub, Nat.reduceMul, Nat.reduceLeDiff, Nat.reduceLT, Nat.reduceBEq, Nat.reduceBNe, Nat.reduceEqDiff, ↓reduceIte, Int.reduceAdd, Int.reduceSub, Int.reduceMul, Int.reduceLT, Int.reduceLE, Int.reduceEq, Int.reduceNeg, Int.reduceToNat]
      · rw [List.getElem?_set_ne (fun h => hne (by rw [h]; rfl))]
        exact e3 j b hb hne
    · have ih := cmp_out m n (by unfold Zc.small; exact hn) suf (pre ++ [y]) x bl (by simpa using hm) (by simpa using hl)
      have hd : dd y (x :: suf) = x :: dd x suf := by simp only [dd, if_neg hxy]
      have hke : pre ++ y :: x :: dd x suf = (pre ++ [y]) ++ x :: dd x suf := by simp
      rw [hd, hke]
      rw [show (pre ++ [y]).length + 1 = pre.length + 1 + 1 by simp] at ih
      have hstep : slices_Compact_int_R0 ([(0, .os 1 (.blk m) 0 n), (3, .int .i64 (pre.length + 1 : Nat))], ⟨[], bl⟩) = slices_Compact_int_R0 ([(0, .os 1 (.blk m) 0 n), (3, .int .i64 (pre.length + 1 + 1 : Nat))], ⟨[], bl⟩) := by
        conv => lhs; rw [slices_Compact_int_R0_eq]
        simp only [slices_Compact_int_B0, slices_Compact_int_K0_norm, slices_Compact_int_K0_ret, slices_Compact_int_K0_exit, h1, i1, i2, hg, d1, d2, eq_false hxy, hw, hw1, y1, y2, y3, y4, y5, y6, y7, y8, y9, keepE, keepB, chk, CV.locs, CV.locv, CV.refs, CV.ref, pureOp, repC, takeN, resV, enterC, Nat.reduceAdd, Nat.reduceSub, Nat.reduceMul, Nat.reduceLeDiff, Nat.reduceLT, Nat.reduceBEq, Nat.reduceBNe, Nat.reduceEqDiff, ↓reduceIte, Int.reduceAdd, Int.reduceSub, Int.reduceMul, Int.reduceLT, Int.reduceLE, Int.reduceEq, Int.reduceNeg, Int.reduceToNat]
      rw [hstep]
      rcases ih with h | h
      · exact .inl h
      · exact .inr ⟨h.1, by rw [h.2]⟩

theorem compact_F (v : CV) (l : List Int) (hm : l.length ≤ 2 * Zc.small) (bx : List (Nat × List CV)) (bl : List Blk) (hO : Own fI 1 bl v l) :
    ∃ v' bl', slices_Compact_int_F bx bl [v] = some (v', ⟨bx, bl'⟩) ∧ OwnS fI 1 bl' v' (compact l) ∧ Fr bl bl' v := by
  rcases hO with ⟨rfl, rfl⟩ | ⟨m, rfl, hm'⟩
  · refine ⟨.nils, bl, ?_, .inl ⟨rfl, rfl⟩, fun _ _ h _ => h⟩
    rw [slices_Compact_int_F_eq]
    simp only [slices_Compact_int_C, y1, y2, y3, y4, y5, y6, y7, y8, y9, keepE, keepB, chk, CV.locs, CV.locv, CV.refs, CV.ref, pureOp, repC, takeN, resV, enterC, Nat.reduceAdd, Nat.reduceSub, Nat.reduceMul, Nat.reduceLeDiff, Nat.reduceLT, Nat.reduceBEq, Nat.reduceBNe, Nat.reduceEqDiff, ↓reduceIte, Int.reduceAdd, Int.reduceSub, Int.reduceMul, Int.reduceLT, Int.reduceLE, Int.reduceEq, Int.reduceNeg, Int.reduceToNat]
  · match l, hm, hm' with
    | [], hm, hm' =>
      refine ⟨.os 1 (.blk m) 0 0, bl, ?_, .inr ⟨m, [], rfl, by simpa [compact] using hm'⟩, fun _ _ h _ => h⟩
      rw [slices_Compact_int_F_eq]
      simp only [slices_Compact_int_C, List.length_nil, Int.natCast_zero, y1, y2, y3, y4, y5, y6, y7, y8, y9, keepE, keepB, chk, CV.locs, CV.locv, CV.refs, CV.ref, pureOp, repC, takeN, resV, enterC, Nat.reduceAdd, Nat.reduceSub, Nat.reduceMul, Nat.reduceLeDiff, Nat.reduceLT, Nat.reduceBEq, Nat.reduceBNe, Nat.reduceEqDiff, ↓reduceIte, Int.reduceAdd, Int.reduceSub, Int.reduceMul, Int.reduceLT, Int.reduceLE, Int.reduceEq, Int.reduceNeg, Int.reduceToNat]
    | [x], hm, hm' =>
      refine ⟨.os 1 (.blk m) 0 1, bl, ?_, .inr ⟨m, [], rfl, by simpa [compact] using hm'⟩, fun _ _ h _ => h⟩
      have h1 : ((1 : Nat) : Int) < 2 := by decide
      rw [slices_Compact_int_F_eq]
      simp only [slices_Compact_int_C, List.length_cons, List.length_nil, Nat.zero_add, h1, y1, y2, y3, y4, y5, y6, y7, y8, y9, keepE, keepB, chk, CV.locs, CV.locv, CV.refs, CV.ref, pureOp, repC, takeN, resV, enterC, Nat.reduceAdd, Nat.reduceSub, Nat.reduceMul, Nat.reduceLeDiff, Nat.reduceLT, Nat.reduceBEq, Nat.reduceBNe, Nat.reduceEqDiff, ↓reduceIte, Int.reduceAdd, Int.reduceSub, Int.reduceMul, Int.reduceLT, Int.reduceLE, Int.reduceEq, Int.reduceNeg, Int.reduceToNat]
    | y :: x :: suf, hm, hm' =>
      have h1 : ¬ (((y :: x :: suf).length : Int) < 2) := by simp; omega
      have e := cmp_out m (y :: x :: suf).length hm (x :: suf) [] y bl (by simpa using hm') rfl
      rw [compact_dd]
      simp only [List.length_nil, Nat.zero_add, List.nil_append, show ((1 : Nat) : Int) = 1 from rfl] at e
      generalize hn : (y :: x :: suf).length = n at *
      rcases e with ⟨bl', junk', e, e1, e2⟩ | ⟨e, e1⟩
      · refine ⟨_, bl', ?_, .inr ⟨m, junk', rfl, e1⟩, e2⟩
        rw [slices_Compact_int_F_eq]
        simp only [slices_Compact_int_C, slices_Compact_int_L0_eq, h1, e, y1, y2, y3, y4, y5, y6, y7, y8, y9, keepE, keepB, chk, CV.locs, CV.locv, CV.refs, CV.ref, pureOp, repC, takeN, resV, enterC, Nat.reduceAdd, Nat.reduceSub, Nat.reduceMul, Nat.reduceLeDiff, Nat.reduceLT, Nat.reduceBEq, Nat.reduceBNe, Nat.reduceEqDiff, ↓reduceIte, Int.reduceAdd, Int.reduceSub, Int.reduceMul, Int.reduceLT, Int.reduceLE, Int.reduceEq, Int.reduceNeg, Int.reduceToNat]
      · rw [e1]
        refine ⟨.os 1 (.blk m) 0 n, bl, ?_, .inr ⟨m, [], by rw [← hn], by simpa using hm'⟩, fun _ _ h _ => h⟩
        rw [slices_Compact_int_F_eq]
        simp only [slices_Compact_int_C, slices_Compact_int_L0_eq, h1, e, y1, y2, y3, y4, y5, y6, y7, y8, y9, keepE, keepB, chk, CV.locs, CV.locv, CV.refs, CV.ref, pureOp, repC, takeN, resV, enterC, Nat.reduceAdd, Nat.reduceSub, Nat.reduceMul, Nat.reduceLeDiff, Nat.reduceLT, Nat.reduceBEq, Nat.reduceBNe, Nat.reduceEqDiff, ↓reduceIte, Int.reduceAdd, Int.reduceSub, Int.reduceMul, Int.reduceLT, Int.reduceLE, Int.reduceEq, Int.reduceNeg, Int.reduceToNat]
end Go.Proofs.Ytmjffmghkfappaa.Zt
