/- Walks: slices.Sort of a few numbers. -/
import Derived.Test.YtmjffmghkfappaaZcT
import Derived.Test.YtmjffmghkfappaaZcSet
import Derived.Test.YtmjffmghkfappaaZcSort
set_option linter.all false
namespace Go.Proofs.Ytmjffmghkfappaa.Zt
open Go Go.Zc
set_option maxRecDepth 10000

theorem isnan_F (x : Int) (st : Bool) (H : Heap) : cmp_isNaN_int_F st H [.int .i64 x] = some (.bool false, H) := by
  rw [cmp_isNaN_int_F_eq]
  simp only [cmp_isNaN_int_C, y1, y2, y3, y4, y5, y6, y7, y8, y9, keepE, keepB, chk, CV.locs, CV.locv, CV.refs, CV.ref, pureOp, repC, takeN, resV, enterC, Nat.reduceAdd, Nat.reduceSub, Nat.reduceMul, Nat.reduceLeDiff, Nat.reduceLT, Nat.reduceBEq, Nat.reduceBNe, Nat.reduceEqDiff, ↓reduceIte, Int.reduceAdd, Int.reduceSub, Int.reduceMul, Int.reduceLT, Int.reduceLE, Int.reduceEq, Int.reduceNeg, Int.reduceToNat]
theorem less_F (x y : Int) (st : Bool) (H : Heap) : cmp_Less_int_F st H [.int .i64 x, .int .i64 y] = some (.bool (decide (x < y)), H) := by
  rw [cmp_Less_int_F_eq]
  by_cases h : x < y
  · simp only [cmp_Less_int_C, cmp_isNaN_int_call, isnan_F, h, y1, y2, y3, y4, y5, y6, y7, y8, y9, keepE, keepB, chk, CV.locs, CV.locv, CV.refs, CV.ref, pureOp, repC, takeN, resV, enterC, Nat.reduceAdd, Nat.reduceSub, Nat.reduceMul, Nat.reduceLeDiff, Nat.reduceLT, Nat.reduceBEq, Nat.reduceBNe, Nat.reduceEqDiff, ↓reduceIte, Int.reduceAdd, Int.reduceSub, Int.reduceMul, Int.reduceLT, Int.reduceLE, Int.reduceEq, Int.reduceNeg, Int.reduceToNat]
  · simp only [cmp_Less_int_C, cmp_isNaN_int_call, isnan_F, h, y1, y2, y3, y4, y5, y6, y7, y8, y9, keepE, keepB, chk, CV.locs, CV.locv, CV.refs, CV.ref, pureOp, repC, takeN, resV, enterC, Nat.reduceAdd, Nat.reduceSub, Nat.reduceMul, Nat.reduceLeDiff, Nat.reduceLT, Nat.reduceBEq, Nat.reduceBNe, Nat.reduceEqDiff, ↓reduceIte, Int.reduceAdd, Int.reduceSub, Int.reduceMul, Int.reduceLT, Int.reduceLE, Int.reduceEq, Int.reduceNeg, Int.reduceToNat]

theorem iaddr_os {m n i : Nat} {k : IntKind} (h : i < n) : iaddrC 1 (.os 1 (.blk m) 0 n) (.int k i) = some (.op (.blk m) i) := by
  unfold iaddrC iaddrN
  simp only [Int.toNat_natCast, Nat.zero_add, Nat.mul_one]
  rw [if_pos ⟨trivial, by omega, by omega⟩]
theorem dropI (p s : List Int) (x : Int) : ((p ++ x :: s).flatMap fI).drop p.length = .int .i64 x :: s.flatMap fI := by
  have := drop_mid flatI p s x
  rw [Nat.mul_one] at this
  exact this
theorem stI (bx : List (Nat × List CV)) (bl : List Blk) (m : Nat) (p s : List Int) (x y : Int) : stE 1 p.length (.int .i64 y) ⟨bx, bl⟩ (.blk m) ((p ++ x :: s).flatMap fI) = some ⟨bx, bl.set m (.cells ((p ++ y :: s).flatMap fI))⟩ := by
  have h1 := setMany_mid flatI p s y x
  simp only [Nat.mul_one] at h1
  have h2 := flatI.length (p ++ x :: s)
  unfold stE
  rw [if_pos ⟨rfl, by rw [h2]; simp, rfl, .inr rfl⟩]
  simp only [CV.cells]
  rw [show [CV.int IntKind.i64 y] = fI y from rfl, h1]
  rfl

theorem ins_in (m n b i : Nat) (hn : n ≤ 1000) (x : Int) : ∀ (rp s : List Int) (bl : List Blk), bl[m]? = some (.cells ((rp.reverse ++ x :: s).flatMap fI)) → rp.length + 1 + s.length = n →
    slices_insertionSortOrdered_int_R2 ([(0, .os 1 (.blk m) 0 n), (1, .int .i64 0), (2, .int .i64 b), (6, .int .i64 i), (7, .int .i64 rp.length)], ⟨[], bl⟩) =
      some (.norm, [(0, .os 1 (.blk m) 0 n), (1, .int .i64 0), (2, .int .i64 b), (6, .int .i64 i)], ⟨[], bl.set m (.cells ((sinkR rp x ++ s).flatMap fI))⟩)
  | [], s, bl, hm, hl => by
    have hml : m < bl.length := (List.getElem?_eq_some_iff.1 hm).1
    have hset : bl.set m (.cells ((sinkR [] x ++ s).flatMap fI)) = bl := by
      rw [List.getElem?_eq_getElem hml, Option.some.injEq] at hm
      simp only [sinkR, List.reverse_nil, List.nil_append, List.cons_append] at hm ⊢
      rw [← hm, List.set_getElem_self]
    rw [hset, slices_insertionSortOrdered_int_R2_eq]
    simp only [slices_insertionSortOrdered_int_B2, slices_insertionSortOrdered_int_K2_norm, slices_insertionSortOrdered_int_K2_ret, slices_insertionSortOrdered_int_K2_exit, Int.natCast_zero, y1, y2, y3, y4, y5, y6, y7, y8, y9, keepE, keepB, chk, CV.locs, CV.locv, CV.refs, CV.ref, pureOp, repC, takeN, resV, enterC, Nat.reduceAdd, Nat.reduceSub, Nat.reduceMul, Nat.reduceLeDiff, Nat.reduceLT, Nat.reduceBEq, Nat.reduceBNe, Nat.reduceEqDiff, ↓reduceIte, Int.reduceAdd, Int.reduceSub, Int.reduceMul, Int.reduceLT, Int.reduceLE, Int.reduceEq, Int.reduceNeg, Int.reduceToNat]
  | y :: rp, s, bl, hm, hl => by
    have hml : m < bl.length := (List.getElem?_eq_some_iff.1 hm).1
    have hl' : rp.length + 2 + s.length = n := by simp at hl; omega
    have hj : ((y :: rp).length : Int) = (rp.length + 1 : Nat) := by simp
    have hpos : (0 : Int) < (rp.length + 1 : Nat) := by omega
    have hw : IntKind.i64.wrap (((rp.length + 1 : Nat) : Int) - 1) = rp.length := by rw [wrap64 (by omega) (by omega)]; omega
    have e1 : (y :: rp).reverse ++ x :: s = (rp.reverse ++ [y]) ++ x :: s := by simp
    have e2 : (y :: rp).reverse ++ x :: s = rp.reverse ++ y :: (x :: s) := by simp
    have hg : ∀ bx, Heap.get ⟨bx, bl⟩ (.blk m) = some (((rp.reverse ++ [y]) ++ x :: s).flatMap fI) := fun bx => get_blk bx bl m _ (by rw [← e1]; exact hm)
    have d1 : (((rp.reverse ++ [y]) ++ x :: s).flatMap fI).drop (rp.length + 1) = .int .i64 x :: s.flatMap fI := by
      have := dropI (rp.reverse ++ [y]) s x
      simpa only [List.length_append, List.length_reverse, List.length_cons, List.length_nil, Nat.zero_add] using this
    have d2 : (((rp.reverse ++ [y]) ++ x :: s).flatMap fI).drop rp.length = .int .i64 y :: (x :: s).flatMap fI := by
      have := dropI rp.reverse (x :: s) y
      rw [List.length_reverse] at this
      rw [← e1, e2]
      exact this
    have i1 : iaddrC 1 (.os 1 (.blk m) 0 n) (.int .i64 (rp.length + 1 : Nat)) = some (.op (.blk m) (rp.length + 1)) := iaddr_os (by omega)
    have i2 : iaddrC 1 (.os 1 (.blk m) 0 n) (.int .i64 rp.length) = some (.op (.blk m) rp.length) := iaddr_os (by omega)
    rw [hj]
    by_cases hlt : x < y
    · have s1 := fun bx => stI bx bl m (rp.reverse ++ [y]) s x y
      simp only [List.length_append, List.length_reverse, List.length_cons, List.length_nil, Nat.zero_add] at s1
      have s2 := fun bx => stI bx (bl.set m (.cells (((rp.reverse ++ [y]) ++ y :: s).flatMap fI))) m rp.reverse (y :: s) y x
      simp only [List.length_reverse, List.set_set] at s2
      have e3 : rp.reverse ++ y :: (y :: s) = (rp.reverse ++ [y]) ++ y :: s := by simp
      rw [e3] at s2
      have hg2 : ∀ bx, Heap.get ⟨bx, bl.set m (.cells (((rp.reverse ++ [y]) ++ y :: s).flatMap fI))⟩ (.blk m) = some (((rp.reverse ++ [y]) ++ y :: s).flatMap fI) := fun bx => get_blk _ _ _ _ (by rw [List.getElem?_set_self hml])
      have ih := ins_in m n b i hn x rp (y :: s) (bl.set m (.cells ((rp.reverse ++ x :: (y :: s)).flatMap fI))) (by rw [List.getElem?_set_self hml]) (by simp; omega)
      rw [List.set_set] at ih
      have hs : sinkR (y :: rp) x ++ s = sinkR rp x ++ (y :: s) := by simp [sinkR, hlt]
      rw [hs, slices_insertionSortOrdered_int_R2_eq]
      simp only [slices_insertionSortOrdered_int_B2, slices_insertionSortOrdered_int_K2_norm, slices_insertionSortOrdered_int_K2_ret, slices_insertionSortOrdered_int_K2_exit, hpos, hw, hg, d1, d2, i1, i2, cmp_Less_int_call, less_F, hlt, s1, s2, hg2, ih, y1, y2, y3, y4, y5, y6, y7, y8, y9, keepE, keepB, chk, CV.locs, CV.locv, CV.refs, CV.ref, pureOp, repC, takeN, resV, enterC, Nat.reduceAdd, Nat.reduceSub, Nat.reduceMul, Nat.reduceLeDiff, Nat.reduceLT, Nat.reduceBEq, Nat.reduceBNe, Nat.reduceEqDiff, ↓reduceIte, Int.reduceAdd, Int.reduceSub, Int.reduceMul, Int.reduceLT, Int.reduceLE, Int.reduceEq, Int.reduceNeg, Int.reduceToNat]
    · have hset : bl.set m (.cells ((sinkR (y :: rp) x ++ s).flatMap fI)) = bl := by
        rw [List.getElem?_eq_getElem hml, Option.some.injEq] at hm
        have : sinkR (y :: rp) x ++ s = (y :: rp).reverse ++ x :: s := by simp [sinkR, hlt]
        rw [this, ← hm, List.set_getElem_self]
      rw [hset, slices_insertionSortOrdered_int_R2_eq]
      simp only [slices_insertionSortOrdered_int_B2, slices_insertionSortOrdered_int_K2_norm, slices_insertionSortOrdered_int_K2_ret, slices_insertionSortOrdered_int_K2_exit, hpos, hw, hg, d1, d2, i1, i2, cmp_Less_int_call, less_F, hlt, y1, y2, y3, y4, y5, y6, y7, y8, y9, keepE, keepB, chk, CV.locs, CV.locv, CV.refs, CV.ref, pureOp, repC, takeN, resV, enterC, Nat.reduceAdd, Nat.reduceSub, Nat.reduceMul, Nat.reduceLeDiff, Nat.reduceLT, Nat.reduceBEq, Nat.reduceBNe, Nat.reduceEqDiff, ↓reduceIte, Int.reduceAdd, Int.reduceSub, Int.reduceMul, Int.reduceLT, Int.reduceLE, Int.reduceEq, Int.reduceNeg, Int.reduceToNat]

theorem ins_out (m n : Nat) (hn : n ≤ 1000) : ∀ (r p : List Int) (bl : List Blk), bl[m]? = some (.cells ((p ++ r).flatMap fI)) → p.length + r.length = n →
    slices_insertionSortOrdered_int_R0 ([(0, .os 1 (.blk m) 0 n), (1, .int .i64 0), (2, .int .i64 n), (6, .int .i64 p.length)], ⟨[], bl⟩) =
      some (.norm, [], ⟨[], bl.set m (.cells ((insAll p r).flatMap fI))⟩)
  | [], p, bl, hm, hl => by
    have hml : m < bl.length := (List.getElem?_eq_some_iff.1 hm).1
    have hset : bl.set m (.cells ((insAll p []).flatMap fI)) = bl := by
      rw [List.getElem?_eq_getElem hml, Option.some.injEq] at hm
      simp only [insAll, List.append_nil] at hm ⊢
      rw [← hm, List.set_getElem_self]
    have h1 : ¬ ((p.length : Int) < n) := by simp at hl; omega
    rw [hset, slices_insertionSortOrdered_int_R0_eq]
    simp only [slices_insertionSortOrdered_int_B0, slices_insertionSortOrdered_int_K0_norm, slices_insertionSortOrdered_int_K0_ret, slices_insertionSortOrdered_int_K0_exit, h1, y1, y2, y3, y4, y5, y6, y7, y8, y9, keepE, keepB, chk, CV.locs, CV.locv, CV.refs, CV.ref, pureOp, repC, takeN, resV, enterC, Nat.reduceAdd, Nat.reduceSub, Nat.reduceMul, Nat.reduceLeDiff, Nat.reduceLT, Nat.reduceBEq, Nat.reduceBNe, Nat.reduceEqDiff, ↓reduceIte, Int.reduceAdd, Int.reduceSub, Int.reduceMul, Int.reduceLT, Int.reduceLE, Int.reduceEq, Int.reduceNeg, Int.reduceToNat]
  | x :: r, p, bl, hm, hl => by
    have hml : m < bl.length := (List.getElem?_eq_some_iff.1 hm).1
    have hl' : p.length + 1 + r.length = n := by simp at hl; omega
    have h1 : ((p.length : Int) < n) := by omega
    have hw := wrapM (n := p.length) (by omega)
    have e := ins_in m n n p.length hn x p.reverse r bl (by rw [List.reverse_reverse]; exact hm) (by simp; omega)
    rw [List.length_reverse] at e
    have ih := ins_out m n hn r (sinkR p.reverse x) (bl.set m (.cells ((sinkR p.reverse x ++ r).flatMap fI))) (by rw [List.getElem?_set_self hml]) (by rw [sinkR_len]; simp; omega)
    rw [sinkR_len, List.length_reverse, List.set_set] at ih
    rw [slices_insertionSortOrdered_int_R0_eq]
    simp only [slices_insertionSortOrdered_int_B0, slices_insertionSortOrdered_int_K0_norm, slices_insertionSortOrdered_int_K0_ret, slices_insertionSortOrdered_int_K0_exit, slices_insertionSortOrdered_int_L2_eq, h1, hw, e, ih, insAll, y1, y2, y3, y4, y5, y6, y7, y8, y9, keepE, keepB, chk, CV.locs, CV.locv, CV.refs, CV.ref, pureOp, repC, takeN, resV, enterC, Nat.reduceAdd, Nat.reduceSub, Nat.reduceMul, Nat.reduceLeDiff, Nat.reduceLT, Nat.reduceBEq, Nat.reduceBNe, Nat.reduceEqDiff, ↓reduceIte, Int.reduceAdd, Int.reduceSub, Int.reduceMul, Int.reduceLT, Int.reduceLE, Int.reduceEq, Int.reduceNeg, Int.reduceToNat]

theorem isort_F (m : Nat) (l : List Int) (hl : l.length ≤ 1000) (bx : List (Nat × List CV)) (bl : List Blk) (hm : bl[m]? = some (.cells (l.flatMap fI))) :
    slices_insertionSortOrdered_int_F bx bl [.os 1 (.blk m) 0 l.length, .int .i64 0, .int .i64 l.length] = some (.tup [], ⟨bx, bl.set m (.cells ((isort l).flatMap fI))⟩) := by
  have hml : m < bl.length := (List.getElem?_eq_some_iff.1 hm).1
  rw [slices_insertionSortOrdered_int_F_eq]
  cases l with
  | nil =>
    have hset : bl.set m (.cells ((isort []).flatMap fI)) = bl := by
      rw [List.getElem?_eq_getElem hml, Option.some.injEq] at hm
      simp only [isort]
      rw [← hm, List.set_getElem_self]
    rw [hset]
    simp only [slices_insertionSortOrdered_int_C, slices_insertionSortOrdered_int_L0_eq, slices_insertionSortOrdered_int_R0_eq, slices_insertionSortOrdered_int_B0, slices_insertionSortOrdered_int_K0_norm, slices_insertionSortOrdered_int_K0_ret, slices_insertionSortOrdered_int_K0_exit, Int.natCast_zero, y1, y2, y3, y4, y5, y6, y7, y8, y9, keepE, keepB, chk, CV.locs, CV.locv, CV.refs, CV.ref, pureOp, repC, takeN, resV, enterC, Nat.reduceAdd, Nat.reduceSub, Nat.reduceMul, Nat.reduceLeDiff, Nat.reduceLT, Nat.reduceBEq, Nat.reduceBNe, Nat.reduceEqDiff, ↓reduceIte, Int.reduceAdd, Int.reduceSub, Int.reduceMul, Int.reduceLT, Int.reduceLE, Int.reduceEq, Int.reduceNeg, Int.reduceToNat]
  | cons x r =>
    have e := ins_out m (x :: r).length hl r [x] bl (by simpa using hm) (by simp; omega)
    simp only [List.length_cons, List.length_nil, Nat.zero_add, Int.natCast_one] at e
    simp only [slices_insertionSortOrdered_int_C, slices_insertionSortOrdered_int_L0_eq, e, isort, y1, y2, y3, y4, y5, y6, y7, y8, y9, keepE, keepB, chk, CV.locs, CV.locv, CV.refs, CV.ref, pureOp, repC, takeN, resV, enterC, Nat.reduceAdd, Nat.reduceSub, Nat.reduceMul, Nat.reduceLeDiff, Nat.reduceLT, Nat.reduceBEq, Nat.reduceBNe, Nat.reduceEqDiff, ↓reduceIte, Int.reduceAdd, Int.reduceSub, Int.reduceMul, Int.reduceLT, Int.reduceLE, Int.reduceEq, Int.reduceNeg, Int.reduceToNat]

theorem pdq_F (m : Nat) (l : List Int) (hl : l.length ≤ 12) (c : Int) (bx : List (Nat × List CV)) (bl : List Blk) (hm : bl[m]? = some (.cells (l.flatMap fI))) :
    slices_pdqsortOrdered_int_F bx bl [.os 1 (.blk m) 0 l.length, .int .i64 0, .int .i64 l.length, .int .i64 c] = some (.tup [], ⟨bx, bl.set m (.cells ((isort l).flatMap fI))⟩) := by
  have e := fun bx => isort_F m l (by omega) bx bl hm
  have hw : IntKind.i64.wrap ((l.length : Int) - 0) = l.length := by rw [wrap64 (by omega) (by omega)]; omega
  have h1 : (l.length : Int) ≤ 12 := by omega
  rw [slices_pdqsortOrdered_int_F_eq]
  simp only [slices_pdqsortOrdered_int_C, slices_pdqsortOrdered_int_L0_eq, slices_pdqsortOrdered_int_R0_eq, slices_pdqsortOrdered_int_B0, slices_pdqsortOrdered_int_K0_norm, slices_pdqsortOrdered_int_K0_ret, slices_pdqsortOrdered_int_K0_exit, hw, h1, slices_insertionSortOrdered_int_call, e, y1, y2, y3, y4, y5, y6, y7, y8, y9, keepE, keepB, chk, CV.locs, CV.locv, CV.refs, CV.ref, pureOp, repC, takeN, resV, enterC, Nat.reduceAdd, Nat.reduceSub, Nat.reduceMul, Nat.reduceLeDiff, Nat.reduceLT, Nat.reduceBEq, Nat.reduceBNe, Nat.reduceEqDiff, ↓reduceIte, Int.reduceAdd, Int.reduceSub, Int.reduceMul, Int.reduceLT, Int.reduceLE, Int.reduceEq, Int.reduceNeg, Int.reduceToNat]
theorem fz_run' {C : Ctx} {kn : Bool} {np : Nat} {code : CCode} {res : List Res} {st : Bool} {H : Heap} {xs : List CV} {r : CV × Heap} (n : Nat)
    (h : (if xs.length = np then (run C n code (enterC 0 xs) ⟨[], []⟩).bind (fzOut res st kn H) else none) = some r) : fzE C kn np code res st H xs = some r := by
  unfold fzE
  split at h
  · rename_i hl
    rw [if_pos hl]
    obtain ⟨x, hx, hr⟩ := Option.bind_eq_some_iff.1 h
    rw [run_eval C n _ _ _ _ hx]
    exact hr
  · cases h


theorem bitsLen_F (n : Nat) (hn : n ≤ 12) (st : Bool) (H : Heap) : ∃ c, math_bits_Len_F st H [.int .u64 n] = some (.int .i64 c, H) := by
  have h : n = 0 ∨ n = 1 ∨ n = 2 ∨ n = 3 ∨ n = 4 ∨ n = 5 ∨ n = 6 ∨ n = 7 ∨ n = 8 ∨ n = 9 ∨ n = 10 ∨ n = 11 ∨ n = 12 := by omega
  rcases h with rfl | rfl | rfl | rfl | rfl | rfl | rfl | rfl | rfl | rfl | rfl | rfl | rfl
  · exact ⟨0, fz_run' 20 (by kernel_rfl)⟩
  · exact ⟨1, fz_run' 20 (by kernel_rfl)⟩
  · exact ⟨2, fz_run' 20 (by kernel_rfl)⟩
  · exact ⟨2, fz_run' 20 (by kernel_rfl)⟩
  · exact ⟨3, fz_run' 20 (by kernel_rfl)⟩
  · exact ⟨3, fz_run' 20 (by kernel_rfl)⟩
  · exact ⟨3, fz_run' 20 (by kernel_rfl)⟩
  · exact ⟨3, fz_run' 20 (by kernel_rfl)⟩
  · exact ⟨4, fz_run' 20 (by kernel_rfl)⟩
  · exact ⟨4, fz_run' 20 (by kernel_rfl)⟩
  · exact ⟨4, fz_run' 20 (by kernel_rfl)⟩
  · exact ⟨4, fz_run' 20 (by kernel_rfl)⟩
  · exact ⟨4, fz_run' 20 (by kernel_rfl)⟩

/-- A few numbers that are being made, sorted in place. -/
theorem sort_F (v : CV) (l : List Int) (hl : l.length ≤ 12) (bx : List (Nat × List CV)) (bl : List Blk) (hO : Own fI 1 bl v l) :
    ∃ bl', slices_Sort_int_F bx bl [v] = some (.tup [], ⟨bx, bl'⟩) ∧ Own fI 1 bl' v (isort l) ∧ Fr bl bl' v := by
  obtain ⟨c, hc⟩ := bitsLen_F l.length hl false ⟨[], bl⟩
  have hw : IntKind.u64.wrap (l.length : Int) = l.length := by rw [IntKind.wrap_u64]; omega
  rcases hO with ⟨rfl, rfl⟩ | ⟨m, rfl, hm⟩
  · refine ⟨bl, ?_, .inl ⟨rfl, rfl⟩, fun _ _ h _ => h⟩
    have hi : slices_insertionSortOrdered_int_F [] bl [.nils, .int .i64 0, .int .i64 0] = some (.tup [], ⟨[], bl⟩) := by
      rw [slices_insertionSortOrdered_int_F_eq]
      simp only [slices_insertionSortOrdered_int_C, slices_insertionSortOrdered_int_L0_eq, slices_insertionSortOrdered_int_R0_eq, slices_insertionSortOrdered_int_B0, slices_insertionSortOrdered_int_K0_norm, slices_insertionSortOrdered_int_K0_ret, slices_insertionSortOrdered_int_K0_exit, y1, y2, y3, y4, y5, y6, y7, y8, y9, keepE, keepB, chk, CV.locs, CV.locv, CV.refs, CV.ref, pureOp, repC, takeN, resV, enterC, Nat.reduceAdd, Nat.reduceSub, Nat.reduceMul, Nat.reduceLeDiff, Nat.reduceLT, Nat.reduceBEq, Nat.reduceBNe, Nat.reduceEqDiff, ↓reduceIte, Int.reduceAdd, Int.reduceSub, Int.reduceMul, Int.reduceLT, Int.reduceLE, Int.reduceEq, Int.reduceNeg, Int.reduceToNat]
    have hp : slices_pdqsortOrdered_int_F [] bl [.nils, .int .i64 0, .int .i64 0, .int .i64 c] = some (.tup [], ⟨[], bl⟩) := by
      rw [slices_pdqsortOrdered_int_F_eq]
      simp only [slices_pdqsortOrdered_int_C, slices_pdqsortOrdered_int_L0_eq, slices_pdqsortOrdered_int_R0_eq, slices_pdqsortOrdered_int_B0, slices_pdqsortOrdered_int_K0_norm, slices_pdqsortOrdered_int_K0_ret, slices_pdqsortOrdered_int_K0_exit, slices_insertionSortOrdered_int_call, hi, y1, y2, y3, y4, y5, y6, y7, y8, y9, keepE, keepB, chk, CV.locs, CV.locv, CV.refs, CV.ref, pureOp, repC, takeN, resV, enterC, Nat.reduceAdd, Nat.reduceSub, Nat.reduceMul, Nat.reduceLeDiff, Nat.reduceLT, Nat.reduceBEq, Nat.reduceBNe, Nat.reduceEqDiff, ↓reduceIte, Int.reduceAdd, Int.reduceSub, Int.reduceMul, Int.reduceLT, Int.reduceLE, Int.reduceEq, Int.reduceNeg, Int.reduceToNat]
    simp only [List.length_nil, Int.natCast_zero] at hc hw
    rw [slices_Sort_int_F_eq]
    simp only [slices_Sort_int_C, hw, math_bits_Len_call, hc, slices_pdqsortOrdered_int_call, hp, Int.natCast_zero, y1, y2, y3, y4, y5, y6, y7, y8, y9, keepE, keepB, chk, CV.locs, CV.locv, CV.refs, CV.ref, pureOp, repC, takeN, resV, enterC, Nat.reduceAdd, Nat.reduceSub, Nat.reduceMul, Nat.reduceLeDiff, Nat.reduceLT, Nat.reduceBEq, Nat.reduceBNe, Nat.reduceEqDiff, ↓reduceIte, Int.reduceAdd, Int.reduceSub, Int.reduceMul, Int.reduceLT, Int.reduceLE, Int.reduceEq, Int.reduceNeg, Int.reduceToNat]
  · have hml : m < bl.length := (List.getElem?_eq_some_iff.1 hm).1
    have hp := pdq_F m l hl c [] bl hm
    refine ⟨bl.set m (.cells ((isort l).flatMap fI)), ?_, .inr ⟨m, by rw [(isort_perm l).length_eq], by rw [List.getElem?_set_self hml]⟩, fun k b hk hne => ?_⟩
    · rw [slices_Sort_int_F_eq]
      simp only [slices_Sort_int_C, hw, math_bits_Len_call, hc, slices_pdqsortOrdered_int_call, hp, y1, y2, y3, y4, y5, y6, y7, y8, y9, keepE, keepB, chk, CV.locs, CV.locv, CV.refs, CV.ref, pureOp, repC, takeN, resV, enterC, Nat.reduceAdd, Nat.reduceSub, Nat.reduceMul, Nat.reduceLeDiff, Nat.reduceLT, Nat.reduceBEq, Nat.reduceBNe, Nat.reduceEqDiff, ↓reduceIte, Int.reduceAdd, Int.reduceSub, Int.reduceMul, Int.reduceLT, Int.reduceLE, Int.reduceEq, Int.reduceNeg, Int.reduceToNat]
    · rw [List.getElem?_set_ne (fun h => hne (by rw [h]; rfl))]
      exact hk
end Go.Proofs.Ytmjffmghkfappaa.Zt
