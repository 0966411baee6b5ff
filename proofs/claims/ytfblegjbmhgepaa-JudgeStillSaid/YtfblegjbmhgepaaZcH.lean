/- Walks: a draft's layout, with its routes. -/
import Derived.Test.YtfblegjbmhgepaaZcG
set_option linter.all false
namespace Go.Proofs.Ytfblegjbmhgepaa.Zt
open Go Go.Zc
set_option maxRecDepth 10000

theorem mkSecs_ok (u : Int) : ∀ (i : Nat) (l : List Ed), (mkSecs u i l).length = l.length := mkSecs_length u
theorem addLast_len (x : Int) : ∀ (l : List (List Int)), (addLast x l).length = l.length
  | [] => rfl
  | [_] => rfl
  | a :: b :: l => by simp only [addLast, List.length_cons, addLast_len x (b :: l)]
theorem addLast_mem (x : Int) : ∀ (l : List (List Int)) (n : Nat), (∀ p ∈ l, p.length ≤ n) → ∀ p ∈ addLast x l, p.length ≤ n + 1
  | [], _, _, p, hp => by simp [addLast] at hp
  | [q], n, h, p, hp => by
    have := h q (by simp)
    simp only [addLast, List.mem_singleton] at hp; subst hp; simp; omega
  | a :: b :: l, n, h, p, hp => by
    simp only [addLast, List.mem_cons] at hp
    rcases hp with rfl | hp
    · have := h p (by simp); omega
    · exact addLast_mem x (b :: l) n (fun q hq => h q (by simp [List.mem_cons.1 hq])) p hp
theorem mkParts_ok (j : Int) : ∀ (n i : Nat) (acc : List (List Int)), acc.length ≤ i → (∀ p ∈ acc, p.length ≤ i + 1) → (mkParts j i n acc).length ≤ i + n ∧ ∀ p ∈ mkParts j i n acc, p.length ≤ i + n + 1
  | 0, _, _, h, h' => ⟨by simpa [mkParts] using h, by simpa [mkParts] using h'⟩
  | n + 1, i, acc, h, h' => by
    simp only [mkParts]
    have := mkParts_ok j n (i + 1) (if joinAt j i then addLast i acc else acc ++ [[(i : Int)]]) (by split <;> simp [addLast_len] <;> omega) (by
      split
      · exact addLast_mem i acc (i + 1) h'
      · intro p hp
        rcases List.mem_append.1 hp with hp | hp
        · have := h' p hp; omega
        · simp only [List.mem_singleton] at hp; subst hp; simp)
    rw [show i + (n + 1) = i + 1 + n by omega]
    exact this
theorem mkXY_len (form u : Int) : (mkXY form u).length ≤ 9 := by
  unfold mkXY
  split
  · simp [mkN]; omega
  · split
    · simp
    · split <;> simp
theorem mkPts_len (form : Int) : (mkPts form).length ≤ 2 := by
  unfold mkPts
  split
  · simp
  · split
    · simp
    · split <;> simp
theorem make_ok (d : Draft) (r : List (List Int)) (h1 : r.length ≤ 16) (h2 : ∀ p ∈ r, p.length ≤ 7) : ({ make d with routes := r } : Lay).ok := by
  have ha := mkEnds_len d.form
  have hb := mkSecs_length (unitOf d.len) 0 (mkEnds d.form)
  have hc := mkParts_ok d.join (mkEnds d.form).length 0 [] (by simp) (by simp)
  have hd := mkXY_len d.form (unitOf d.len)
  have he := mkPts_len d.form
  refine ⟨?_, ?_, ?_, ?_, ?_, fun p hp => ?_, fun p hp => ?_⟩
  · simp only [make, List.length_map]; unfold Zc.small; omega
  · simp only [make]; unfold Zc.small; omega
  · simp only [make]; unfold Zc.small; omega
  · simp only [make]; unfold Zc.small; omega
  · simp only; unfold Zc.small; omega
  · have := hc.2 p hp; unfold Zc.small; omega
  · have := h2 p hp; unfold Zc.small; omega
theorem full_ok (d : Draft) : (full d).ok := by
  have := fullFrom_ok (make d) d.routes [] (by simp) (by simp)
  exact make_ok d _ this.1 this.2

theorem snap_L (H : Heap) (kn : Bool) (n : Nat) : ∀ x : List Int, ∀ c ∈ fL x, snapN H false kn (n + 1) c = some c := by
  intro x c hc
  simp only [fL, List.mem_cons, List.not_mem_nil, or_false] at hc
  subst hc
  rfl

set_option maxHeartbeats 1000000 in
theorem full_loop (d : Draft) (hd : d.ok) : ∀ (s p : List (List Int)) (acc : List (List Int)) (v : CV) (bl : List Blk), p ++ s = d.routes → acc.length ≤ 16 → (∀ q ∈ acc, q.length ≤ 7) → Own fL 1 bl v acc →
    ∃ v' bl', r05_Full_R0 ([(1, .op (.loc 1) 0), (2, .op (.loc 2) 0), (3, .op (.loc 3) 0), (4, .int .i64 p.length)], ⟨[(1, draftC d), (2, zeroL), (3, [sl fZ (make d).nodes, sl fS (make d).secs, sl fL (make d).parts, nz fP (make d).pts, v, .int .i64 (make d).speed, .int .i64 (make d).mute, .int .i64 (make d).wait, .int .i64 (make d).cancel, .int .i64 (make d).stay])], bl⟩) =
      some (.norm, [(2, .op (.loc 2) 0), (3, .op (.loc 3) 0)], ⟨[(2, zeroL), (3, [sl fZ (make d).nodes, sl fS (make d).secs, sl fL (make d).parts, nz fP (make d).pts, v', .int .i64 (make d).speed, .int .i64 (make d).mute, .int .i64 (make d).wait, .int .i64 (make d).cancel, .int .i64 (make d).stay])], bl'⟩) ∧ Own fL 1 bl' v' (fullFrom (make d) s acc)
  | [], p, acc, v, bl, hp, ha, hq, hO => by
    refine ⟨v, bl, ?_, hO⟩
    have h1 : ¬ ((p.length : Int) < d.routes.length) := by rw [← hp]; simp
    rw [r05_Full_R0_eq]
    simp only [r05_Full_B0, r05_Full_K0_norm, r05_Full_K0_ret, r05_Full_K0_exit, h1, hO.locv, locv_nz, y1, y2, y3, y4, y5, y6, y7, y8, y9, keepE, keepB, chk, CV.locs, CV.locv, CV.refs, CV.ref, pureOp, repC, takeN, resV, enterC, Nat.reduceAdd, Nat.reduceSub, Nat.reduceMul, Nat.reduceLeDiff, Nat.reduceLT, Nat.reduceBEq, Nat.reduceBNe, Nat.reduceEqDiff, ↓reduceIte, Int.reduceAdd, Int.reduceSub, Int.reduceMul, Int.reduceLT, Int.reduceLE, Int.reduceEq, Int.reduceNeg, Int.reduceToNat]
  | x :: s, p, acc, v, bl, hp, ha, hq, hO => by
    have hpl : p.length + 1 + s.length = d.routes.length := by rw [← hp]; simp; omega
    have h1 : ((p.length : Int) < d.routes.length) := by omega
    have hrl := hd.routes
    unfold maxLen at hrl
    have hw := wrapM (n := p.length) (by omega)
    have hx := hd.route x (by rw [← hp]; simp)
    have hi : iaddrC 1 (sl fUL d.routes) (.int .i64 p.length) = some (.vp (sl fU x :: s.flatMap fUL)) := by rw [← hp]; exact iaddr_midUL _ p s x
    by_cases h16 : 16 ≤ acc.length
    · refine ⟨v, bl, ?_, by simpa only [fullFrom, if_pos h16] using hO⟩
      have h16' : ¬ ((acc.length : Int) < 16) := by omega
      rw [r05_Full_R0_eq]
      simp only [r05_Full_B0, r05_Full_K0_norm, r05_Full_K0_ret, r05_Full_K0_exit, h1, h16', hO.len, hO.locv, locv_nz, y1, y2, y3, y4, y5, y6, y7, y8, y9, keepE, keepB, chk, CV.locs, CV.locv, CV.refs, CV.ref, pureOp, repC, takeN, resV, enterC, Nat.reduceAdd, Nat.reduceSub, Nat.reduceMul, Nat.reduceLeDiff, Nat.reduceLT, Nat.reduceBEq, Nat.reduceBNe, Nat.reduceEqDiff, ↓reduceIte, Int.reduceAdd, Int.reduceSub, Int.reduceMul, Int.reduceLT, Int.reduceLE, Int.reduceEq, Int.reduceNeg, Int.reduceToNat]
    · have h16' : ((acc.length : Int) < 16) := by omega
      by_cases h2 : x.length < 2
      · have h2' : ((x.length : Int) < 2) := by omega
        obtain ⟨v', bl', e, o⟩ := full_loop d hd s (p ++ [x]) acc v bl (by simpa using hp) ha hq hO
        simp only [List.append_assoc, List.cons_append, List.nil_append, List.length_append, List.length_cons, List.length_nil] at e
        refine ⟨v', bl', ?_, by simpa only [fullFrom, if_neg h16, if_neg (show ¬ (2 ≤ x.length ∧ 2 ≤ (wayOf (make d) x).length) by omega)] using o⟩
        rw [r05_Full_R0_eq]
        simp only [r05_Full_B0, r05_Full_K0_norm, r05_Full_K0_ret, r05_Full_K0_exit, h1, h16', hi, h2', hw, hO.len, hO.locv, locv_nz, e, y1, y2, y3, y4, y5, y6, y7, y8, y9, keepE, keepB, chk, CV.locs, CV.locv, CV.refs, CV.ref, pureOp, repC, takeN, resV, enterC, Nat.reduceAdd, Nat.reduceSub, Nat.reduceMul, Nat.reduceLeDiff, Nat.reduceLT, Nat.reduceBEq, Nat.reduceBNe, Nat.reduceEqDiff, ↓reduceIte, Int.reduceAdd, Int.reduceSub, Int.reduceMul, Int.reduceLT, Int.reduceLE, Int.reduceEq, Int.reduceNeg, Int.reduceToNat]
      · have h2' : ¬ ((x.length : Int) < 2) := by omega
        obtain ⟨x0, x1, t, rfl⟩ : ∃ x0 x1 t, x = x0 :: x1 :: t := by
          match x, h2 with
          | x0 :: x1 :: t, _ => exact ⟨x0, x1, t, rfl⟩
          | [_], h => simp at h
          | [], h => simp at h
        have b0 := hx.2 x0 (by simp)
        have b1 := hx.2 x1 (by simp)
        have hel := mkEnds_len d.form
        have hsl : (make d).secs.length = (mkEnds d.form).length := mkSecs_length _ _ _
        have hi0 := iaddr_midU .i64 [] (x1 :: t) x0
        have hi1 := iaddr_midU .i64 [x0] t x1
        simp only [List.nil_append, List.length_nil, List.cons_append, List.length_cons, Int.natCast_zero, Nat.zero_add, Int.natCast_one] at hi0 hi1
        have hsc := slc_lo flatU (x0 :: x1 :: t) 2 (by simp) .i64
        simp only [Int.cast_ofNat_Int, List.drop_succ_cons, List.drop_zero] at hsc
        have k0 : IntKind.i64.wrap x0 = x0 := wrap64 (by omega) (by omega)
        have k1 : x0.tmod ((make d).secs.length : Int) = x0 % ((make d).secs.length : Int) := Int.tmod_eq_emod_of_nonneg b0.1
        have k2 : IntKind.u8.wrap (x0.tdiv 128) = x0 / 128 := by rw [Int.tdiv_eq_ediv_of_nonneg b0.1, IntKind.wrap_u8]; omega
        have k3 : IntKind.i64.wrap (x0 / 128) = x0 / 128 := wrap64 (by omega) (by omega)
        have k4 : x1.tmod 5 = x1 % 5 := Int.tmod_eq_emod_of_nonneg b1.1
        have k5 : IntKind.i64.wrap (x1 % 5) = x1 % 5 := wrap64 (by omega) (by omega)
        have k6 : IntKind.i64.wrap (2 + x1 % 5) = ((2 + x1 % 5).toNat : Nat) := by rw [wrap64 (by omega) (by omega)]; omega
        have k7 : ¬ ((make d).secs.length : Int) = 0 := by omega
        have hwF := fun H st => walk_F { make d with routes := acc } (make_ok d acc ha hq) (x0 % (make d).secs.length) (x0 / 128) t (fun q hq' => hx.2 q (by simp [hq'])) (2 + x1 % 5).toNat (by unfold Zc.small; omega) H st
        have hwy : walk { make d with routes := acc } (x0 % (make d).secs.length) (x0 / 128) t ((2 + x1 % 5).toNat : Nat) = wayOf (make d) (x0 :: x1 :: t) := by rw [walk_routes]; rfl
        rw [hwy] at hwF
        have hsn := fun bx => hO.snapV flatL bx false _ (snap_L ⟨bx, bl⟩ false 6)
        by_cases h3 : 2 ≤ (wayOf (make d) (x0 :: x1 :: t)).length
        · have h3' : (2 : Int) ≤ (wayOf (make d) (x0 :: x1 :: t)).length := by omega
          obtain ⟨v1, bl1, e1, o1, _⟩ := hO.app1 flatL (bytes := 24) (zero := [.nils]) (by decide) rfl rfl (wayOf (make d) (x0 :: x1 :: t)) (by omega)
          simp only [fL] at e1
          have hwl := walk_len (make d) (x0 % (make d).secs.length) (x0 / 128) t (2 + x1 % 5).toNat
          obtain ⟨v', bl', e, o⟩ := full_loop d hd s (p ++ [x0 :: x1 :: t]) (acc ++ [wayOf (make d) (x0 :: x1 :: t)]) v1 bl1 (by simpa using hp) (by simp; omega) (by
            intro q hq'
            rcases List.mem_append.1 hq' with h | h
            · exact hq q h
            · simp only [List.mem_singleton] at h; subst h
              have : wayOf (make d) (x0 :: x1 :: t) = walk (make d) (x0 % (make d).secs.length) (x0 / 128) t ((2 + x1 % 5).toNat : Nat) := rfl
              rw [this]; omega) o1
          simp only [List.append_assoc, List.cons_append, List.nil_append, List.length_append, List.length_cons, List.length_nil] at e
          refine ⟨v', bl', ?_, by simpa only [fullFrom, if_neg h16, if_pos (show (2 ≤ (x0 :: x1 :: t).length ∧ 2 ≤ (wayOf (make d) (x0 :: x1 :: t)).length) from ⟨by simp, h3⟩)] using o⟩
          rw [r05_Full_R0_eq]
          simp only [List.length_cons] at h2'
          simp only [r05_Full_B0, r05_Full_K0_norm, r05_Full_K0_ret, r05_Full_K0_exit, h1, h16', hi, h2', hw, hi0, hi1, hsc, k0, k1, k2, k3, k4, k5, k6, k7, hsn, snapV_nz, r05_Walk_call, hwF, h3', e1, hO.len, hO.locv, o1.locv, o1.one, o1.cells, locv_nz, e, y1, y2, y3, y4, y5, y6, y7, y8, y9, keepE, keepB, chk, CV.locs, CV.locv, CV.refs, CV.ref, pureOp, repC, takeN, resV, enterC, Nat.reduceAdd, Nat.reduceSub, Nat.reduceMul, Nat.reduceLeDiff, Nat.reduceLT, Nat.reduceBEq, Nat.reduceBNe, Nat.reduceEqDiff, ↓reduceIte, Int.reduceAdd, Int.reduceSub, Int.reduceMul, Int.reduceLT, Int.reduceLE, Int.reduceEq, Int.reduceNeg, Int.reduceToNat]
        · have h3' : ¬ (2 : Int) ≤ (wayOf (make d) (x0 :: x1 :: t)).length := by omega
          obtain ⟨v', bl', e, o⟩ := full_loop d hd s (p ++ [x0 :: x1 :: t]) acc v bl (by simpa using hp) ha hq hO
          simp only [List.append_assoc, List.cons_append, List.nil_append, List.length_append, List.length_cons, List.length_nil] at e
          refine ⟨v', bl', ?_, by simpa only [fullFrom, if_neg h16, if_neg (show ¬ (2 ≤ (x0 :: x1 :: t).length ∧ 2 ≤ (wayOf (make d) (x0 :: x1 :: t)).length) from fun h => h3 h.2)] using o⟩
          rw [r05_Full_R0_eq]
          simp only [List.length_cons] at h2'
          simp only [r05_Full_B0, r05_Full_K0_norm, r05_Full_K0_ret, r05_Full_K0_exit, h1, h16', hi, h2', hw, hi0, hi1, hsc, k0, k1, k2, k3, k4, k5, k6, k7, hsn, snapV_nz, r05_Walk_call, hwF, h3', hO.len, hO.locv, locv_nz, e, y1, y2, y3, y4, y5, y6, y7, y8, y9, keepE, keepB, chk, CV.locs, CV.locv, CV.refs, CV.ref, pureOp, repC, takeN, resV, enterC, Nat.reduceAdd, Nat.reduceSub, Nat.reduceMul, Nat.reduceLeDiff, Nat.reduceLT, Nat.reduceBEq, Nat.reduceBNe, Nat.reduceEqDiff, ↓reduceIte, Int.reduceAdd, Int.reduceSub, Int.reduceMul, Int.reduceLT, Int.reduceLE, Int.reduceEq, Int.reduceNeg, Int.reduceToNat]

theorem full_F (d : Draft) (hd : d.ok) (H : Heap) : r05_Full_F false H [.agg (draftC d)] = some (.agg (layC (full d)), H) := by
  obtain ⟨v, bl, e, o⟩ := full_loop d hd d.routes [] [] .nils [] rfl (by simp) (by simp) (Own.nil _ _ _)
  simp only [List.nil_append, List.length_nil, Int.natCast_zero] at e
  have hsn := fun bx => o.snapV flatL bx false _ (snap_L ⟨bx, bl⟩ false 6)
  rw [r05_Full_F_eq]
  simp only [r05_Full_C, r05_Full_L0_eq, r04_Make_call, make_F d hd, makeC, e, hsn, snapV_nz, locv_nz, one_nz, und_nz, o.locv, o.one, o.und, y1, y2, y3, y4, y5, y6, y7, y8, y9, keepE, keepB, chk, CV.locs, CV.locv, CV.refs, CV.ref, pureOp, repC, takeN, resV, enterC, Nat.reduceAdd, Nat.reduceSub, Nat.reduceMul, Nat.reduceLeDiff, Nat.reduceLT, Nat.reduceBEq, Nat.reduceBNe, Nat.reduceEqDiff, ↓reduceIte, Int.reduceAdd, Int.reduceSub, Int.reduceMul, Int.reduceLT, Int.reduceLE, Int.reduceEq, Int.reduceNeg, Int.reduceToNat]
  rfl
end Go.Proofs.Ytfblegjbmhgepaa.Zt
