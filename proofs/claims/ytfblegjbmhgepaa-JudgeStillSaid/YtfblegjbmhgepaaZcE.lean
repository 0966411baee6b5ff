/- Walks: the layout that a draft makes. -/
import Derived.Test.YtfblegjbmhgepaaZcA
set_option linter.all false
namespace Go.Proofs.Ytfblegjbmhgepaa.Zt
open Go Go.Zc
set_option maxRecDepth 10000

def rowFrom (u : Int) : Nat → Nat → List (Nat × Nat)
  | _, 0 => []
  | i, k + 1 => (fl (u * i), 0) :: rowFrom u (i + 1) k
def pairsFrom : Nat → Nat → List Ed
  | _, 0 => []
  | i, k + 1 => ⟨i, (i + 1 : Nat)⟩ :: pairsFrom (i + 1) k
abbrev zeroL : List CV := [.nils, .nils, .nils, .nils, .nils, .int .i64 0, .int .i64 0, .int .i64 0, .int .i64 0, .int .i64 0]
abbrev box6 (nv sv pv tv : CV) : List CV := [nv, sv, pv, tv, .nils, .int .i64 0, .int .i64 0, .int .i64 0, .int .i64 0, .int .i64 0]

theorem row_loop (d : Draft) (u : Int) (hu : 0 ≤ u ∧ u ≤ 200) (n : Nat) (hn : n ≤ 8) : ∀ (k i : Nat) (acc : List (Nat × Nat)) (nv : CV) (bl : List Blk), i + k = n + 1 → acc.length = i → Own fZ 1 bl nv acc →
    ∃ nv' bl', r04_Make_R1 ([(1, .op (.loc 1) 0), (2, .op (.loc 2) 0), (3, .int .i64 u), (6, .op (.loc 6) 0), (7, .nils), (8, .int .i64 n), (9, .int .i64 i)], ⟨[(1, draftC d), (2, zeroL), (6, box6 nv .nils .nils .nils)], bl⟩) =
      some (.norm, [(1, .op (.loc 1) 0), (2, .op (.loc 2) 0), (3, .int .i64 u), (6, .op (.loc 6) 0), (7, .nils), (8, .int .i64 n)], ⟨[(1, draftC d), (2, zeroL), (6, box6 nv' .nils .nils .nils)], bl'⟩) ∧ Own fZ 1 bl' nv' (acc ++ rowFrom u i k) := by
  intro k
  induction k with
  | zero =>
    intro i acc nv bl hi ha hO
    refine ⟨nv, bl, ?_, by simpa [rowFrom] using hO⟩
    have h1 : ¬ ((i : Int) ≤ n) := by omega
    rw [r04_Make_R1_eq]
    simp only [r04_Make_B1, r04_Make_K1_norm, r04_Make_K1_ret, r04_Make_K1_exit, h1, hO.locv, y1, y2, y3, y4, y5, y6, y7, y8, y9, keepE, keepB, chk, CV.locs, CV.locv, CV.refs, CV.ref, pureOp, repC, takeN, resV, enterC, Nat.reduceAdd, Nat.reduceSub, Nat.reduceMul, Nat.reduceLeDiff, Nat.reduceLT, Nat.reduceBEq, Nat.reduceBNe, Nat.reduceEqDiff, ↓reduceIte, Int.reduceAdd, Int.reduceSub, Int.reduceMul, Int.reduceLT, Int.reduceLE, Int.reduceEq, Int.reduceNeg, Int.reduceToNat]
  | succ k ih =>
    intro i acc nv bl hi ha hO
    have h1 : ((i : Int) ≤ n) := by omega
    have hw := wrapN (n := i) (by unfold Zc.small; omega)
    have hw2 : IntKind.i64.wrap (u * i) = u * i := by
      have h2 : 0 ≤ u * (i : Int) := Int.mul_nonneg hu.1 (by omega)
      have h3 : u * (i : Int) ≤ 200 * 9 := Int.mul_le_mul hu.2 (by omega) (by omega) (by omega)
      exact wrap64 (by omega) (by omega)
    obtain ⟨v1, bl1, e1, o1, _⟩ := hO.app1 flatZ (bytes := 16) (zero := [.cplx .f64 0 0]) (by decide) rfl rfl (fl (u * i), 0) (by omega)
    simp only [fZ, fl] at e1
    obtain ⟨nv', bl', e, o⟩ := ih (i + 1) _ v1 bl1 (by omega) (by simp [ha]) o1
    refine ⟨nv', bl', ?_, by simpa [rowFrom] using o⟩
    rw [r04_Make_R1_eq]
    simp only [r04_Make_B1, r04_Make_K1_norm, r04_Make_K1_ret, r04_Make_K1_exit, h1, hw, hw2, e1, hO.locv, o1.locv, o1.one, o1.cells, e, y1, y2, y3, y4, y5, y6, y7, y8, y9, keepE, keepB, chk, CV.locs, CV.locv, CV.refs, CV.ref, pureOp, repC, takeN, resV, enterC, Nat.reduceAdd, Nat.reduceSub, Nat.reduceMul, Nat.reduceLeDiff, Nat.reduceLT, Nat.reduceBEq, Nat.reduceBNe, Nat.reduceEqDiff, ↓reduceIte, Int.reduceAdd, Int.reduceSub, Int.reduceMul, Int.reduceLT, Int.reduceLE, Int.reduceEq, Int.reduceNeg, Int.reduceToNat]

theorem pairs_loop (d : Draft) (u : Int) (n : Nat) (hn : n ≤ 8) (nodes : List (Nat × Nat)) (nv : CV) : ∀ (k i : Nat) (acc : List Ed) (v : CV) (bl : List Blk), i + k = n → acc.length = i → Own fE 2 bl v acc → Own fZ 1 bl nv nodes → Dj v nv →
    ∃ v' bl', r04_Make_R3 ([(1, .op (.loc 1) 0), (2, .op (.loc 2) 0), (3, .int .i64 u), (6, .op (.loc 6) 0), (7, v), (8, .int .i64 n), (10, .int .i64 i)], ⟨[(1, draftC d), (2, zeroL), (6, box6 nv .nils .nils .nils)], bl⟩) =
      some (.norm, [(1, .op (.loc 1) 0), (2, .op (.loc 2) 0), (3, .int .i64 u), (6, .op (.loc 6) 0), (7, v')], ⟨[(1, draftC d), (2, zeroL), (6, box6 nv .nils .nils .nils)], bl'⟩) ∧ Own fE 2 bl' v' (acc ++ pairsFrom i k) ∧ Own fZ 1 bl' nv nodes ∧ Dj v' nv := by
  intro k
  induction k with
  | zero =>
    intro i acc v bl hi ha hO hN hd
    refine ⟨v, bl, ?_, by simpa [pairsFrom] using hO, hN, hd⟩
    have h1 : ¬ ((i : Int) < n) := by omega
    rw [r04_Make_R3_eq]
    simp only [r04_Make_B3, r04_Make_K3_norm, r04_Make_K3_ret, r04_Make_K3_exit, h1, hO.chkV, hN.locv, y1, y2, y3, y4, y5, y6, y7, y8, y9, keepE, keepB, chk, CV.locs, CV.locv, CV.refs, CV.ref, pureOp, repC, takeN, resV, enterC, Nat.reduceAdd, Nat.reduceSub, Nat.reduceMul, Nat.reduceLeDiff, Nat.reduceLT, Nat.reduceBEq, Nat.reduceBNe, Nat.reduceEqDiff, ↓reduceIte, Int.reduceAdd, Int.reduceSub, Int.reduceMul, Int.reduceLT, Int.reduceLE, Int.reduceEq, Int.reduceNeg, Int.reduceToNat]
  | succ k ih =>
    intro i acc v bl hi ha hO hN hd
    have h1 : ((i : Int) < n) := by omega
    have hw := wrapN (n := i) (by unfold Zc.small; omega)
    obtain ⟨v1, bl1, e1, o1, _, hf, hb⟩ := hO.app1 flatE (bytes := 16) (zero := [.int .i64 0, .int .i64 0]) (by decide) rfl rfl ⟨i, (i + 1 : Nat)⟩ (by omega)
    simp only [fE] at e1
    obtain ⟨v', bl', e, o, o', d'⟩ := ih (i + 1) _ v1 bl1 (by omega) (by simp [ha]) o1 (hN.fr hf hd) (hd.grow hb fun _ h => hN.lt h)
    refine ⟨v', bl', ?_, by simpa [pairsFrom] using o, o', d'⟩
    rw [r04_Make_R3_eq]
    simp only [r04_Make_B3, r04_Make_K3_norm, r04_Make_K3_ret, r04_Make_K3_exit, h1, hw, e1, hO.chkV, o1.chkV, hN.locv, e, y1, y2, y3, y4, y5, y6, y7, y8, y9, keepE, keepB, chk, CV.locs, CV.locv, CV.refs, CV.ref, pureOp, repC, takeN, resV, enterC, Nat.reduceAdd, Nat.reduceSub, Nat.reduceMul, Nat.reduceLeDiff, Nat.reduceLT, Nat.reduceBEq, Nat.reduceBNe, Nat.reduceEqDiff, ↓reduceIte, Int.reduceAdd, Int.reduceSub, Int.reduceMul, Int.reduceLT, Int.reduceLE, Int.reduceEq, Int.reduceNeg, Int.reduceToNat]

theorem secs_loop (d : Draft) (u : Int) (hu : 0 ≤ u ∧ u ≤ 200) (ends : List Ed) (he : ends.length ≤ 8) (nodes : List (Nat × Nat)) (nv ev tv : CV) (pts : List Pt) (ht : tv.locv = false) : ∀ (s p : List Ed) (acc : List Sec) (v : CV) (bl : List Blk), p ++ s = ends → acc.length = p.length →
    Own fS 3 bl v acc → Own fE 2 bl ev ends → OwnF fZ 1 bl nv nodes → Dj v ev → Dj v nv →
    ∃ v' bl', r04_Make_R5 ([(1, .op (.loc 1) 0), (2, .op (.loc 2) 0), (3, .int .i64 u), (6, .op (.loc 6) 0), (7, ev), (11, .int .i64 p.length)], ⟨[(1, draftC d), (2, zeroL), (6, box6 nv v .nils tv)], bl⟩) =
      some (.norm, [(1, .op (.loc 1) 0), (2, .op (.loc 2) 0), (3, .int .i64 u), (6, .op (.loc 6) 0), (7, ev)], ⟨[(1, draftC d), (2, zeroL), (6, box6 nv v' .nils tv)], bl'⟩) ∧ Own fS 3 bl' v' (acc ++ mkSecs u p.length s) ∧ Own fE 2 bl' ev ends ∧ OwnF fZ 1 bl' nv nodes ∧ Dj v' ev ∧ Dj v' nv
  | [], p, acc, v, bl, hp, ha, hO, hE, hN, d1, d2 => by
    refine ⟨v, bl, ?_, by simpa [mkSecs] using hO, hE, hN, d1, d2⟩
    have h1 : ¬ ((p.length : Int) < ends.length) := by rw [← hp]; simp
    rw [r04_Make_R5_eq]
    simp only [r04_Make_B5, r04_Make_K5_norm, r04_Make_K5_ret, r04_Make_K5_exit, h1, hE.len, hE.chkV, hO.locv, hN.locv, ht, y1, y2, y3, y4, y5, y6, y7, y8, y9, keepE, keepB, chk, CV.locs, CV.locv, CV.refs, CV.ref, pureOp, repC, takeN, resV, enterC, Nat.reduceAdd, Nat.reduceSub, Nat.reduceMul, Nat.reduceLeDiff, Nat.reduceLT, Nat.reduceBEq, Nat.reduceBNe, Nat.reduceEqDiff, ↓reduceIte, Int.reduceAdd, Int.reduceSub, Int.reduceMul, Int.reduceLT, Int.reduceLE, Int.reduceEq, Int.reduceNeg, Int.reduceToNat]
  | x :: s, p, acc, v, bl, hp, ha, hO, hE, hN, d1, d2 => by
    have hpl : p.length + 1 + s.length = ends.length := by rw [← hp]; simp; omega
    have h1 : ((p.length : Int) < ends.length) := by omega
    have hw := wrapN (n := p.length) (by unfold Zc.small; omega)
    have hw2 : IntKind.i64.wrap (2 * u) = 2 * u := wrap64 (by omega) (by omega)
    have h3 : ((p.length : Int)).tmod 3 = (p.length % 3 : Nat) := by rw [Int.tmod_eq_emod_of_nonneg (by omega)]; omega
    have hw3 : IntKind.i64.wrap (2 * u + (p.length % 3 : Nat)) = 2 * u + (p.length % 3 : Nat) := wrap64 (by omega) (by omega)
    obtain ⟨m, hi, hm, hv⟩ := hE.iaddr flatE (k := .i64) (i := p.length) (by omega)
    have hg : ∀ bx, Heap.get ⟨bx, bl⟩ (.blk m) = some (ends.flatMap fE) := fun bx => get_blk bx bl m _ hm
    have hdr : (ends.flatMap fE).drop (p.length * 2) = .int .i64 x.s :: .int .i64 x.e :: s.flatMap fE := by rw [← hp]; exact drop_mid flatE p s x
    have hdr1 : (ends.flatMap fE).drop (p.length * 2 + 1) = .int .i64 x.e :: s.flatMap fE := by rw [← List.drop_drop, hdr]; rfl
    obtain ⟨v1, bl1, e1, o1, _, hf, hb⟩ := hO.app1 flatS (bytes := 24) (zero := [.int .i64 0, .int .i64 0, .int .i64 0]) (by decide) rfl rfl ⟨2 * u + (p.length % 3 : Nat), x.s, x.e⟩ (by omega)
    simp only [fS] at e1
    obtain ⟨v', bl', e, o, o2, o3, d3, d4⟩ := secs_loop d u hu ends he nodes nv ev tv pts ht s (p ++ [x]) _ v1 bl1 (by simpa using hp) (by simp [ha]) o1 (hE.fr hf d1) (hN.fr hf d2) (d1.grow hb fun _ h => hE.lt h) (d2.grow hb fun _ h => hN.lt h)
    simp only [List.append_assoc, List.cons_append, List.nil_append, List.length_append, List.length_cons, List.length_nil] at e
    refine ⟨v', bl', ?_, by simpa [mkSecs] using o, o2, o3, d3, d4⟩
    rw [r04_Make_R5_eq]
    simp only [r04_Make_B5, r04_Make_K5_norm, r04_Make_K5_ret, r04_Make_K5_exit, h1, hE.len, hw, hw2, h3, hw3, hi, hg, hdr, hdr1, e1, hE.chkV, hO.locv, o1.locv, o1.one, o1.cells, hN.locv, ht, e, y1, y2, y3, y4, y5, y6, y7, y8, y9, keepE, keepB, chk, CV.locs, CV.locv, CV.refs, CV.ref, pureOp, repC, takeN, resV, enterC, Nat.reduceAdd, Nat.reduceSub, Nat.reduceMul, Nat.reduceLeDiff, Nat.reduceLT, Nat.reduceBEq, Nat.reduceBNe, Nat.reduceEqDiff, ↓reduceIte, Int.reduceAdd, Int.reduceSub, Int.reduceMul, Int.reduceLT, Int.reduceLE, Int.reduceEq, Int.reduceNeg, Int.reduceToNat]
end Go.Proofs.Ytfblegjbmhgepaa.Zt

/- Walks: the parts of the layout that a draft makes. -/
namespace Go.Proofs.Ytfblegjbmhgepaa.Zt
open Go Go.Zc
set_option maxRecDepth 10000

theorem addLast_app (x : Int) : ∀ (ps : List (List Int)) (p : List Int), addLast x (ps ++ [p]) = ps ++ [p ++ [x]]
  | [], _ => rfl
  | [q], p => rfl
  | q :: r :: ps, p => by
    have := addLast_app x (r :: ps) p
    simp only [List.cons_append] at this ⊢
    simp only [addLast, this]

theorem djL_grow {ids ids' : List Nat} {bl : List Blk} {w : CV} (h : DjL ids w) (hg : ∀ k ∈ ids', k ∈ ids ∨ bl.length ≤ k) (hl : ∀ k, blkOf w = some k → k < bl.length) : DjL ids' w := by
  intro k hk hm
  rcases hg k hm with h1 | h1
  · exact h k hk h1
  · have := hl k hk; omega

theorem parts_loop (d : Draft) (hd : d.ok) (u : Int) (n : Nat) (hn : n ≤ 8) (nodes : List (Nat × Nat)) (secs : List Sec) (nv sv ev tv : CV) (ht : tv.locv = false) (he : lenC ev = some (.int .i64 n)) (he2 : ∀ l, chkV l ev = true) :
    ∀ (k i : Nat) (acc : List (List Int)) (v : CV) (ids : List Nat) (bl : List Blk), i + k = n → acc.length ≤ i → (∀ p ∈ acc, p.length ≤ i) → (0 < i → acc ≠ []) → OwnL bl v ids acc → Own fS 3 bl sv secs → OwnF fZ 1 bl nv nodes → DjL ids sv → DjL ids nv →
    ∃ v' ids' bl', r04_Make_R7 ([(1, .op (.loc 1) 0), (2, .op (.loc 2) 0), (3, .int .i64 u), (6, .op (.loc 6) 0), (7, ev), (12, .int .i64 i)], ⟨[(1, draftC d), (2, zeroL), (6, box6 nv sv v tv)], bl⟩) =
      some (.norm, [(1, .op (.loc 1) 0), (2, .op (.loc 2) 0), (3, .int .i64 u), (6, .op (.loc 6) 0)], ⟨[(1, draftC d), (2, zeroL), (6, box6 nv sv v' tv)], bl'⟩) ∧ OwnL bl' v' ids' (mkParts d.join i k acc) ∧ Own fS 3 bl' sv secs ∧ OwnF fZ 1 bl' nv nodes := by
  intro k
  induction k with
  | zero =>
    intro i acc v ids bl hi ha hp hne hO hS hN d1 d2
    refine ⟨v, ids, bl, ?_, hO, hS, hN⟩
    have h1 : ¬ ((i : Int) < n) := by omega
    rw [r04_Make_R7_eq]
    simp only [r04_Make_B7, r04_Make_K7_norm, r04_Make_K7_ret, r04_Make_K7_exit, h1, he, he2, hO.locv, hS.locv, hN.locv, ht, y1, y2, y3, y4, y5, y6, y7, y8, y9, keepE, keepB, chk, CV.locs, CV.locv, CV.refs, CV.ref, pureOp, repC, takeN, resV, enterC, Nat.reduceAdd, Nat.reduceSub, Nat.reduceMul, Nat.reduceLeDiff, Nat.reduceLT, Nat.reduceBEq, Nat.reduceBNe, Nat.reduceEqDiff, ↓reduceIte, Int.reduceAdd, Int.reduceSub, Int.reduceMul, Int.reduceLT, Int.reduceLE, Int.reduceEq, Int.reduceNeg, Int.reduceToNat]
  | succ k ih =>
    intro i acc v ids bl hi ha hp hne hO hS hN d1 d2
    have h1 : ((i : Int) < n) := by omega
    have hw := wrapN (n := i) (by unfold Zc.small; omega)
    have hm8 : ((i : Int)).tmod 8 = (i % 8 : Nat) := by rw [Int.tmod_eq_emod_of_nonneg (by omega)]; omega
    have hmin : min (i % 8) 8 = i % 8 := by omega
    have hq0 : 0 ≤ d.join / 2 ^ (i % 8) := Int.ediv_nonneg hd.join.1 (Int.le_of_lt (Int.pow_pos (by decide)))
    have hshr : binC .shr .ifc (.int .u8 d.join) (.int .i64 ((i % 8 : Nat) : Int)) = some (.int .u8 (d.join / 2 ^ (i % 8))) := by
      rw [bin_shr _ _ _ _ _ (by omega)]
      simp only [Int.toNat_natCast, show IntKind.u8.bits = 8 from rfl, hmin]
      rw [Int.fdiv_eq_ediv_of_nonneg _ (Int.le_of_lt (Int.pow_pos (by decide)))]
    have hm2 : (d.join / 2 ^ (i % 8)).tmod 2 = d.join / 2 ^ (i % 8) % 2 := Int.tmod_eq_emod_of_nonneg hq0
    have new : joinAt d.join i = false → ((i : Int) > 0 → ¬ (d.join / 2 ^ (i % 8) % 2 = 1)) → ∃ v' ids' bl', r04_Make_R7 ([(1, .op (.loc 1) 0), (2, .op (.loc 2) 0), (3, .int .i64 u), (6, .op (.loc 6) 0), (7, ev), (12, .int .i64 i)], ⟨[(1, draftC d), (2, zeroL), (6, box6 nv sv v tv)], bl⟩) =
        some (.norm, [(1, .op (.loc 1) 0), (2, .op (.loc 2) 0), (3, .int .i64 u), (6, .op (.loc 6) 0)], ⟨[(1, draftC d), (2, zeroL), (6, box6 nv sv v' tv)], bl'⟩) ∧ OwnL bl' v' ids' (mkParts d.join i (k + 1) acc) ∧ Own fS 3 bl' sv secs ∧ OwnF fZ 1 bl' nv nodes := by
      intro hj hj'
      obtain ⟨v1, bl1, ids1, e1, o1, f1, g1⟩ := hO.appNew i (by omega)
      obtain ⟨v', ids', bl', e, o, o2, o3⟩ := ih (i + 1) (acc ++ [[(i : Int)]]) v1 ids1 bl1 (by omega) (by simp; omega) (by
        intro p hp'
        rcases List.mem_append.1 hp' with h | h
        · have := hp p h; omega
        · simp only [List.mem_singleton] at h; subst h; simp) (by simp) o1 (hS.frL f1 d1) (hN.frL f1 d2) (djL_grow d1 g1 fun _ h => hS.lt h) (djL_grow d2 g1 fun _ h => hN.lt h)
      refine ⟨v', ids', bl', ?_, by simpa only [mkParts, hj, Bool.false_eq_true, if_false] using o, o2, o3⟩
      rw [r04_Make_R7_eq]
      by_cases h0 : (0 : Int) < i
      · have hj' := hj' h0
        simp only [r04_Make_B7, r04_Make_K7_norm, r04_Make_K7_ret, r04_Make_K7_exit, h1, he, he2, h0, hm8, hshr, hm2, hj', hw, e1, hO.locv, o1.locv, o1.one, o1.cells, hS.locv, hN.locv, ht, e, y1, y2, y3, y4, y5, y6, y7, y8, y9, keepE, keepB, chk, CV.locs, CV.locv, CV.refs, CV.ref, pureOp, repC, takeN, resV, enterC, Nat.reduceAdd, Nat.reduceSub, Nat.reduceMul, Nat.reduceLeDiff, Nat.reduceLT, Nat.reduceBEq, Nat.reduceBNe, Nat.reduceEqDiff, ↓reduceIte, Int.reduceAdd, Int.reduceSub, Int.reduceMul, Int.reduceLT, Int.reduceLE, Int.reduceEq, Int.reduceNeg, Int.reduceToNat]
      · simp only [r04_Make_B7, r04_Make_K7_norm, r04_Make_K7_ret, r04_Make_K7_exit, h1, he, he2, h0, hw, e1, hO.locv, o1.locv, o1.one, o1.cells, hS.locv, hN.locv, ht, e, y1, y2, y3, y4, y5, y6, y7, y8, y9, keepE, keepB, chk, CV.locs, CV.locv, CV.refs, CV.ref, pureOp, repC, takeN, resV, enterC, Nat.reduceAdd, Nat.reduceSub, Nat.reduceMul, Nat.reduceLeDiff, Nat.reduceLT, Nat.reduceBEq, Nat.reduceBNe, Nat.reduceEqDiff, ↓reduceIte, Int.reduceAdd, Int.reduceSub, Int.reduceMul, Int.reduceLT, Int.reduceLE, Int.reduceEq, Int.reduceNeg, Int.reduceToNat]
    by_cases h0 : 0 < i
    · by_cases hb : d.join / 2 ^ (i % 8) % 2 = 1
      · have h0' : (0 : Int) < i := by omega
        have hj : joinAt d.join i = true := by simp [joinAt, h0, hb]
        obtain ⟨ps, p, rfl⟩ : ∃ ps p, acc = ps ++ [p] := ⟨acc.dropLast, acc.getLast (hne h0), (List.dropLast_concat_getLast (hne h0)).symm⟩
        have hpl := hp p (by simp)
        obtain ⟨m, kk, w, bl0, bl1, ids1, hia, ⟨cs, hg, hh⟩, e1, hwl, hwo, ⟨cs1, hg1, hst⟩, o1, f1, g1⟩ := hO.appLast (i : Int) (by omega)
        have hsub : IntKind.i64.wrap (((ps ++ [p]).length : Int) - 1) = (ps.length : Int) := by 
          simp only [List.length_append, List.length_cons, List.length_nil] at ha ⊢
          rw [wrap64 (by omega) (by omega)]; omega
        obtain ⟨v', ids', bl', e, o, o2, o3⟩ := ih (i + 1) (ps ++ [p ++ [(i : Int)]]) v ids1 bl1 (by omega) (by simp at ha ⊢; omega) (by
          intro q hq
          rcases List.mem_append.1 hq with h | h
          · have := hp q (by simp [h]); omega
          · simp only [List.mem_singleton] at h; subst h; simp; omega) (by simp) o1 (hS.frL f1 d1) (hN.frL f1 d2) (djL_grow d1 g1 fun _ h => hS.lt h) (djL_grow d2 g1 fun _ h => hN.lt h)
        refine ⟨v', ids', bl', ?_, by simpa only [mkParts, hj, if_true, addLast_app] using o, o2, o3⟩
        rw [r04_Make_R7_eq]
        simp only [r04_Make_B7, r04_Make_K7_norm, r04_Make_K7_ret, r04_Make_K7_exit, h1, he, he2, h0', hm8, hshr, hm2, hb, hw, hO.len, hsub, hia, hg, hh, e1, hg1, hst, hwl, hwo, hO.locv, hS.locv, hN.locv, ht, e, y1, y2, y3, y4, y5, y6, y7, y8, y9, keepE, keepB, chk, CV.locs, CV.locv, CV.refs, CV.ref, pureOp, repC, takeN, resV, enterC, Nat.reduceAdd, Nat.reduceSub, Nat.reduceMul, Nat.reduceLeDiff, Nat.reduceLT, Nat.reduceBEq, Nat.reduceBNe, Nat.reduceEqDiff, ↓reduceIte, Int.reduceAdd, Int.reduceSub, Int.reduceMul, Int.reduceLT, Int.reduceLE, Int.reduceEq, Int.reduceNeg, Int.reduceToNat]
      · exact new (by simp [joinAt, hb]) (fun _ => hb)
    · exact new (by simp [joinAt, h0]) (fun h => absurd h (by omega))
end Go.Proofs.Ytfblegjbmhgepaa.Zt
