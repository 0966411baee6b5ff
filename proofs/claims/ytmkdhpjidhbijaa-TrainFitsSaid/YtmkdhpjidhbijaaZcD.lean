/- Walks: lengths, ways, drafts that are small. -/
import Derived.Test.YtmkdhpjidhbijaaZcC
set_option linter.all false
namespace Go.Proofs.Ytmkdhpjidhbijaa.Zt
open Go Go.Zc
set_option maxRecDepth 10000

theorem len_F (l : Lay) (s : Int) (st : Bool) (H : Heap) : r05_Len_F st H [.agg (layC l), .int .i64 s] = some (.int .i64 (lenAt l s), H) := by
  rw [r05_Len_F_eq]
  by_cases h1 : s < 0
  · have hn : lenAt l s = 0 := by simp only [lenAt, if_neg (show ¬ 0 ≤ s by omega), Option.map_none, Option.getD_none]
    simp only [r05_Len_C, h1, hn, y1, y2, y3, y4, y5, y6, y7, y8, y9, keepE, keepB, chk, CV.locs, CV.locv, CV.refs, CV.ref, pureOp, repC, takeN, resV, enterC, Nat.reduceAdd, Nat.reduceSub, Nat.reduceMul, Nat.reduceLeDiff, Nat.reduceLT, Nat.reduceBEq, Nat.reduceBNe, Nat.reduceEqDiff, ↓reduceIte, Int.reduceAdd, Int.reduceSub, Int.reduceMul, Int.reduceLT, Int.reduceLE, Int.reduceEq, Int.reduceNeg, Int.reduceToNat]
  · obtain ⟨n, rfl⟩ := Int.eq_ofNat_of_zero_le (show 0 ≤ s by omega)
    by_cases h2 : l.secs.length ≤ n
    · have hn : lenAt l n = 0 := by simp [lenAt, List.getElem?_eq_none h2]
      have h2' : ((l.secs.length : Int) ≤ n) := by omega
      simp only [r05_Len_C, h1, h2', hn, y1, y2, y3, y4, y5, y6, y7, y8, y9, keepE, keepB, chk, CV.locs, CV.locv, CV.refs, CV.ref, pureOp, repC, takeN, resV, enterC, Nat.reduceAdd, Nat.reduceSub, Nat.reduceMul, Nat.reduceLeDiff, Nat.reduceLT, Nat.reduceBEq, Nat.reduceBNe, Nat.reduceEqDiff, ↓reduceIte, Int.reduceAdd, Int.reduceSub, Int.reduceMul, Int.reduceLT, Int.reduceLE, Int.reduceEq, Int.reduceNeg, Int.reduceToNat]
    · have h2' : ¬ ((l.secs.length : Int) ≤ n) := by omega
      have hlt : n < l.secs.length := by omega
      have hn : lenAt l n = l.secs[n].len := by simp [lenAt, List.getElem?_eq_getElem hlt]
      simp only [r05_Len_C, h1, h2', hn, iaddr_atS hlt, y1, y2, y3, y4, y5, y6, y7, y8, y9, keepE, keepB, chk, CV.locs, CV.locv, CV.refs, CV.ref, pureOp, repC, takeN, resV, enterC, Nat.reduceAdd, Nat.reduceSub, Nat.reduceMul, Nat.reduceLeDiff, Nat.reduceLT, Nat.reduceBEq, Nat.reduceBNe, Nat.reduceEqDiff, ↓reduceIte, Int.reduceAdd, Int.reduceSub, Int.reduceMul, Int.reduceLT, Int.reduceLE, Int.reduceEq, Int.reduceNeg, Int.reduceToNat]

theorem small_loop (d : Draft) (hd : d.ok) : ∀ (s p : List (List Int)), p ++ s = d.routes →
    r04_Small_R0 ([(1, .op (.loc 1) 0), (3, .int .i64 p.length)], ⟨[(1, draftC d)], []⟩) = if (s.all fun r => decide (r.length ≤ 10)) = true then some (.norm, [(1, .op (.loc 1) 0)], ⟨[(1, draftC d)], []⟩) else some (.ret, [(2, .bool false)], ⟨[(1, draftC d)], []⟩)
  | [], p, hp => by
    have h1 : ¬ ((p.length : Int) < d.routes.length) := by rw [← hp]; simp
    rw [r04_Small_R0_eq]
    simp only [r04_Small_B0, r04_Small_K0_norm, r04_Small_K0_ret, r04_Small_K0_exit, h1, y1, y2, y3, y4, y5, y6, y7, y8, y9, keepE, keepB, chk, CV.locs, CV.locv, CV.refs, CV.ref, pureOp, repC, takeN, resV, enterC, Nat.reduceAdd, Nat.reduceSub, Nat.reduceMul, Nat.reduceLeDiff, Nat.reduceLT, Nat.reduceBEq, Nat.reduceBNe, Nat.reduceEqDiff, ↓reduceIte, Int.reduceAdd, Int.reduceSub, Int.reduceMul, Int.reduceLT, Int.reduceLE, Int.reduceEq, Int.reduceNeg, Int.reduceToNat]
  | x :: s, p, hp => by
    have hpl : p.length + 1 + s.length = d.routes.length := by rw [← hp]; simp; omega
    have h1 : ((p.length : Int) < d.routes.length) := by omega
    have hw := wrapM (n := p.length) (by have := hd.routes; unfold maxLen at this; omega)
    have hi : iaddrC 1 (sl fUL d.routes) (.int .i64 p.length) = some (.vp (sl fU x :: s.flatMap fUL)) := by rw [← hp]; exact iaddr_midUL _ p s x
    have ih := small_loop d hd s (p ++ [x]) (by simpa using hp)
    rw [r04_Small_R0_eq]
    simp only [List.append_assoc, List.cons_append, List.nil_append, List.length_append, List.length_cons, List.length_nil] at ih
    by_cases hx : x.length ≤ 10
    · have hx' : ¬ (10 : Int) < x.length := by omega
      simp only [r04_Small_B0, r04_Small_K0_norm, r04_Small_K0_ret, r04_Small_K0_exit, h1, hi, hw, hx', ih, y1, y2, y3, y4, y5, y6, y7, y8, y9, keepE, keepB, chk, CV.locs, CV.locv, CV.refs, CV.ref, pureOp, repC, takeN, resV, enterC, Nat.reduceAdd, Nat.reduceSub, Nat.reduceMul, Nat.reduceLeDiff, Nat.reduceLT, Nat.reduceBEq, Nat.reduceBNe, Nat.reduceEqDiff, ↓reduceIte, Int.reduceAdd, Int.reduceSub, Int.reduceMul, Int.reduceLT, Int.reduceLE, Int.reduceEq, Int.reduceNeg, Int.reduceToNat]
      simp [hx]
    · have hx' : (10 : Int) < x.length := by omega
      simp only [r04_Small_B0, r04_Small_K0_norm, r04_Small_K0_ret, r04_Small_K0_exit, h1, hi, hw, hx', ih, y1, y2, y3, y4, y5, y6, y7, y8, y9, keepE, keepB, chk, CV.locs, CV.locv, CV.refs, CV.ref, pureOp, repC, takeN, resV, enterC, Nat.reduceAdd, Nat.reduceSub, Nat.reduceMul, Nat.reduceLeDiff, Nat.reduceLT, Nat.reduceBEq, Nat.reduceBNe, Nat.reduceEqDiff, ↓reduceIte, Int.reduceAdd, Int.reduceSub, Int.reduceMul, Int.reduceLT, Int.reduceLE, Int.reduceEq, Int.reduceNeg, Int.reduceToNat]
      simp [hx]

theorem small_F (d : Draft) (hd : d.ok) (st : Bool) (H : Heap) : r04_Small_F st H [.agg (draftC d)] = some (.bool d.small, H) := by
  rw [r04_Small_F_eq]
  have e := small_loop d hd d.routes [] rfl
  simp only [List.nil_append, List.length_nil, Int.natCast_zero] at e
  by_cases h : (d.routes.all fun r => decide (r.length ≤ 10)) = true
  · simp only [h, y1, y2, y3, y4, y5, y6, y7, y8, y9, keepE, keepB, chk, CV.locs, CV.locv, CV.refs, CV.ref, pureOp, repC, takeN, resV, enterC, Nat.reduceAdd, Nat.reduceSub, Nat.reduceMul, Nat.reduceLeDiff, Nat.reduceLT, Nat.reduceBEq, Nat.reduceBNe, Nat.reduceEqDiff, ↓reduceIte, Int.reduceAdd, Int.reduceSub, Int.reduceMul, Int.reduceLT, Int.reduceLE, Int.reduceEq, Int.reduceNeg, Int.reduceToNat] at e
    have h' : (((d.routes.length : Nat) : Int) ≤ 20) = (d.routes.length ≤ 20) := by simp; omega
    simp only [r04_Small_C, r04_Small_L0_eq, e, Draft.small, h, h', y1, y2, y3, y4, y5, y6, y7, y8, y9, keepE, keepB, chk, CV.locs, CV.locv, CV.refs, CV.ref, pureOp, repC, takeN, resV, enterC, Nat.reduceAdd, Nat.reduceSub, Nat.reduceMul, Nat.reduceLeDiff, Nat.reduceLT, Nat.reduceBEq, Nat.reduceBNe, Nat.reduceEqDiff, ↓reduceIte, Int.reduceAdd, Int.reduceSub, Int.reduceMul, Int.reduceLT, Int.reduceLE, Int.reduceEq, Int.reduceNeg, Int.reduceToNat]
  · simp only [h, y1, y2, y3, y4, y5, y6, y7, y8, y9, keepE, keepB, chk, CV.locs, CV.locv, CV.refs, CV.ref, pureOp, repC, takeN, resV, enterC, Nat.reduceAdd, Nat.reduceSub, Nat.reduceMul, Nat.reduceLeDiff, Nat.reduceLT, Nat.reduceBEq, Nat.reduceBNe, Nat.reduceEqDiff, ↓reduceIte, Int.reduceAdd, Int.reduceSub, Int.reduceMul, Int.reduceLT, Int.reduceLE, Int.reduceEq, Int.reduceNeg, Int.reduceToNat] at e
    simp only [r04_Small_C, r04_Small_L0_eq, e, Draft.small, Bool.eq_false_iff.2 h, y1, y2, y3, y4, y5, y6, y7, y8, y9, keepE, keepB, chk, CV.locs, CV.locv, CV.refs, CV.ref, pureOp, repC, takeN, resV, enterC, Nat.reduceAdd, Nat.reduceSub, Nat.reduceMul, Nat.reduceLeDiff, Nat.reduceLT, Nat.reduceBEq, Nat.reduceBNe, Nat.reduceEqDiff, ↓reduceIte, Int.reduceAdd, Int.reduceSub, Int.reduceMul, Int.reduceLT, Int.reduceLE, Int.reduceEq, Int.reduceNeg, Int.reduceToNat]

theorem snapI_own {bl : List Blk} {v : CV} {l : List Int} (h : Own fI 1 bl v l) (bx : List (Nat × List CV)) (st : Bool) : snapV ⟨bx, bl⟩ st false (snapN ⟨bx, bl⟩ st false 7) v = some (sl fI l) := h.snapV flatI bx _ _ (snap_I _ _ _ 6)
theorem snapE_own {bl : List Blk} {v : CV} {l : List Ed} (h : Own fE 2 bl v l) (bx : List (Nat × List CV)) (st : Bool) : snapV ⟨bx, bl⟩ st false (snapN ⟨bx, bl⟩ st false 7) v = some (sl fE l) := h.snapV flatE bx _ _ (snap_E _ _ _ 6)

/-- The number of a turn, as it is reckoned. -/
theorem turn_lt (turns : List Int) (i n : Nat) (h : 0 < n) : turn turns i n < n := by
  unfold turn
  split
  · exact Nat.mod_lt _ h
  · exact h

theorem endsFrom_mem {at' : Int} {y : Ed} : ∀ {i : Nat} {s : List Sec}, y ∈ endsFrom at' i s → (i ≤ y.s ∧ y.s < i + s.length) ∧ (y.e = 0 ∨ y.e = 1)
  | _, [], h => by simp [endsFrom] at h
  | i, x :: s, h => by
    simp only [endsFrom, List.mem_append] at h
    rcases h with (h | h) | h
    · split at h
      · simp only [List.mem_singleton] at h; subst h; simp; omega
      · simp at h
    · split at h
      · simp only [List.mem_singleton] at h; subst h; simp; omega
      · simp at h
    · have := endsFrom_mem h
      simp only [List.length_cons]
      omega
theorem ends_mem {l : Lay} {at' : Int} {y : Ed} (h : y ∈ ends l at') : (0 ≤ y.s ∧ y.s < l.secs.length) ∧ (y.e = 0 ∨ y.e = 1) := by
  have := endsFrom_mem h
  omega
theorem oneOf_mem {l : Lay} {s at' : Int} {y : Ed} (h : y ∈ oneOf l s at') : y ∈ ends l at' ∧ y.s = s := by
  unfold oneOf at h
  cases hf : (ends l at').find? fun x => x.s == s with
  | none => simp [hf] at h
  | some x =>
    simp only [hf, List.mem_singleton] at h
    subst h
    exact ⟨List.mem_of_find?_eq_some hf, by simpa using List.find?_some hf⟩
theorem around_mem {l : Lay} {x y : Ed} (h : y ∈ around l x) : ∃ n, y ∈ ends l n := by
  unfold around at h
  cases hn : nodeOf l x with
  | none => simp [hn] at h
  | some n =>
    refine ⟨n, ?_⟩
    simp only [hn] at h
    cases hf : l.pts.find? fun p => p.node == n with
    | some p =>
      simp only [hf] at h
      split at h
      · rcases List.mem_append.1 h with h | h <;> exact (oneOf_mem h).1
      · split at h
        · exact (oneOf_mem h).1
        · simp at h
    | none =>
      simp only [hf] at h
      split at h
      · exact (List.mem_filter.1 h).1
      · simp at h
theorem around_in {l : Lay} {x y : Ed} (h : y ∈ around l x) : (0 ≤ y.s ∧ y.s < l.secs.length) ∧ (y.e = 0 ∨ y.e = 1) := by
  obtain ⟨n, h⟩ := around_mem h
  exact ends_mem h

set_option maxHeartbeats 1000000 in
theorem walk_loop (l : Lay) (hl : l.ok) (turns : List Int) (ht : ∀ t ∈ turns, 0 ≤ t ∧ t ≤ 255) (most : Nat) (hm : most ≤ Zc.small) : ∀ (n i : Nat) (out : List Int) (x : Ed) (v : CV) (bl : List Blk), most - out.length = n → 0 < out.length → i < out.length → Own fI 1 bl v out →
    ∃ v' bl', (r05_Walk_R0 ([(3, sl fU turns), (4, .int .i64 most), (5, .op (.loc 5) 0), (11, v), (12, .op (.loc 12) 0), (13, .int .i64 i)], ⟨[(5, layC l), (12, fE x)], bl⟩) = some (.norm, [(11, v')], ⟨[], bl'⟩) ∨
      ∃ bx', r05_Walk_R0 ([(3, sl fU turns), (4, .int .i64 most), (5, .op (.loc 5) 0), (11, v), (12, .op (.loc 12) 0), (13, .int .i64 i)], ⟨[(5, layC l), (12, fE x)], bl⟩) = some (.ret, [(10, v')], ⟨bx', bl'⟩)) ∧
      Own fI 1 bl' v' (walkFrom l turns n i out x) := by
  intro n
  induction n with
  | zero =>
    intro i out x v bl hn h0 hi hO
    refine ⟨v, bl, .inl ?_, hO⟩
    have h1 : ¬ ((out.length : Int) < most) := by omega
    rw [r05_Walk_R0_eq]
    simp only [r05_Walk_B0, r05_Walk_K0_norm, r05_Walk_K0_ret, r05_Walk_K0_exit, fE, hO.len, h1, hO.chkV, y1, y2, y3, y4, y5, y6, y7, y8, y9, keepE, keepB, chk, CV.locs, CV.locv, CV.refs, CV.ref, pureOp, repC, takeN, resV, enterC, Nat.reduceAdd, Nat.reduceSub, Nat.reduceMul, Nat.reduceLeDiff, Nat.reduceLT, Nat.reduceBEq, Nat.reduceBNe, Nat.reduceEqDiff, ↓reduceIte, Int.reduceAdd, Int.reduceSub, Int.reduceMul, Int.reduceLT, Int.reduceLE, Int.reduceEq, Int.reduceNeg, Int.reduceToNat]
  | succ n ih =>
    intro i out x v bl hn h0 hi hO
    have h1 : ((out.length : Int) < most) := by omega
    have hw := wrapN (n := i) (by omega)
    have haF := fun H => around_F l hl x H
    simp only [fE] at haF
    by_cases ha : (around l x).length = 0
    · have hat : (around l x)[turn turns i (around l x).length]? = none := List.getElem?_eq_none (by omega)
      have ha' : ((around l x).length : Int) = 0 := by omega
      refine ⟨v, bl, .inr ?_, by simpa only [walkFrom, hat] using hO⟩
      rw [r05_Walk_R0_eq]
      simp only [r05_Walk_B0, r05_Walk_K0_norm, r05_Walk_K0_ret, r05_Walk_K0_exit, fE, hO.len, h1, r05_Around_call, haF, ha', y1, y2, y3, y4, y5, y6, y7, y8, y9, keepE, keepB, chk, CV.locs, CV.locv, CV.refs, CV.ref, pureOp, repC, takeN, resV, enterC, Nat.reduceAdd, Nat.reduceSub, Nat.reduceMul, Nat.reduceLeDiff, Nat.reduceLT, Nat.reduceBEq, Nat.reduceBNe, Nat.reduceEqDiff, ↓reduceIte, Int.reduceAdd, Int.reduceSub, Int.reduceMul, Int.reduceLT, Int.reduceLE, Int.reduceEq, Int.reduceNeg, Int.reduceToNat]
      exact ⟨_, rfl⟩
    · have ha' : ¬ ((around l x).length : Int) = 0 := by omega
      have htl := turn_lt turns i (around l x).length (by omega)
      obtain ⟨y, hy⟩ : ∃ y, (around l x)[turn turns i (around l x).length] = y := ⟨_, rfl⟩
      have hat : (around l x)[turn turns i (around l x).length]? = some y := by rw [List.getElem?_eq_getElem htl, hy]
      have hia := iaddr_atE (k := .i64) htl
      rw [hy] at hia
      have hhas := fun st H => has_F out y.s (by omega) st H
      have hsn := fun bx st => snapI_own hO bx st
      by_cases hmem : y.s ∈ out
      · refine ⟨v, bl, .inr ?_, by simpa only [walkFrom, hat, if_pos hmem] using hO⟩
        rw [r05_Walk_R0_eq]
        by_cases hk : i < turns.length
        · have hk' : ((i : Int) < turns.length) := by omega
          obtain ⟨t0, t1⟩ := ht turns[i] (List.getElem_mem hk)
          have hw2 : IntKind.i64.wrap turns[i] = turns[i] := wrap64 (by omega) (by omega)
          have hmod : (turns[i]).tmod ((around l x).length : Int) = (turn turns i (around l x).length : Nat) := by
            obtain ⟨m, hm⟩ := Int.eq_ofNat_of_zero_le t0
            simp only [turn, List.getElem?_eq_getElem hk, hm, Int.ofNat_tmod, Int.toNat_natCast]
          simp only [r05_Walk_B0, r05_Walk_K0_norm, r05_Walk_K0_ret, r05_Walk_K0_exit, fE, hO.len, h1, r05_Around_call, haF, ha', hk', iaddr_atU hk, hw2, hmod, hia, r01_Has_call, hhas, hsn, hmem, y1, y2, y3, y4, y5, y6, y7, y8, y9, keepE, keepB, chk, CV.locs, CV.locv, CV.refs, CV.ref, pureOp, repC, takeN, resV, enterC, Nat.reduceAdd, Nat.reduceSub, Nat.reduceMul, Nat.reduceLeDiff, Nat.reduceLT, Nat.reduceBEq, Nat.reduceBNe, Nat.reduceEqDiff, ↓reduceIte, Int.reduceAdd, Int.reduceSub, Int.reduceMul, Int.reduceLT, Int.reduceLE, Int.reduceEq, Int.reduceNeg, Int.reduceToNat]
          exact ⟨_, rfl⟩
        · have hk' : ¬ ((i : Int) < turns.length) := by omega
          have hz : turn turns i (around l x).length = 0 := by simp [turn, List.getElem?_eq_none (by omega : turns.length ≤ i)]
          simp only [hz, Int.natCast_zero] at hia
          simp only [r05_Walk_B0, r05_Walk_K0_norm, r05_Walk_K0_ret, r05_Walk_K0_exit, fE, hO.len, h1, r05_Around_call, haF, ha', hk', hia, r01_Has_call, hhas, hsn, hmem, y1, y2, y3, y4, y5, y6, y7, y8, y9, keepE, keepB, chk, CV.locs, CV.locv, CV.refs, CV.ref, pureOp, repC, takeN, resV, enterC, Nat.reduceAdd, Nat.reduceSub, Nat.reduceMul, Nat.reduceLeDiff, Nat.reduceLT, Nat.reduceBEq, Nat.reduceBNe, Nat.reduceEqDiff, ↓reduceIte, Int.reduceAdd, Int.reduceSub, Int.reduceMul, Int.reduceLT, Int.reduceLE, Int.reduceEq, Int.reduceNeg, Int.reduceToNat]
          exact ⟨_, rfl⟩
      · obtain ⟨v1, bl1, e1, o1, _⟩ := hO.app1 flatI (bytes := 8) (zero := [.int .i64 0]) (by decide) rfl rfl y.s (by unfold Zc.small at hm; omega)
        simp only [fI] at e1
        obtain ⟨v', bl', e, o⟩ := ih (i + 1) (out ++ [y.s]) ⟨y.s, 1 - y.e⟩ v1 bl1 (by simp; omega) (by simp) (by simp; omega) o1
        have hy' := around_in (List.mem_of_getElem? hat)
        have hw3 : IntKind.i64.wrap (1 - y.e) = 1 - y.e := wrap64 (by omega) (by omega)
        refine ⟨v', bl', ?_, by simpa only [walkFrom, hat, if_neg hmem] using o⟩
        have key : r05_Walk_R0 ([(3, sl fU turns), (4, .int .i64 most), (5, .op (.loc 5) 0), (11, v), (12, .op (.loc 12) 0), (13, .int .i64 i)], ⟨[(5, layC l), (12, fE x)], bl⟩) =
            r05_Walk_R0 ([(3, sl fU turns), (4, .int .i64 most), (5, .op (.loc 5) 0), (11, v1), (12, .op (.loc 12) 0), (13, .int .i64 (i + 1 : Nat))], ⟨[(5, layC l), (12, fE ⟨y.s, 1 - y.e⟩)], bl1⟩) := by
          rw [r05_Walk_R0_eq]
          by_cases hk : i < turns.length
          · have hk' : ((i : Int) < turns.length) := by omega
            obtain ⟨t0, t1⟩ := ht turns[i] (List.getElem_mem hk)
            have hw2 : IntKind.i64.wrap turns[i] = turns[i] := wrap64 (by omega) (by omega)
            have hmod : (turns[i]).tmod ((around l x).length : Int) = (turn turns i (around l x).length : Nat) := by
              obtain ⟨m, hm⟩ := Int.eq_ofNat_of_zero_le t0
              simp only [turn, List.getElem?_eq_getElem hk, hm, Int.ofNat_tmod, Int.toNat_natCast]
            simp only [r05_Walk_B0, r05_Walk_K0_norm, r05_Walk_K0_ret, r05_Walk_K0_exit, fE, hO.len, hO.chkV, o1.chkV, h1, r05_Around_call, haF, ha', hk', iaddr_atU hk, hw, hw2, hw3, hmod, hia, r01_Has_call, hhas, hsn, hmem, e1, y1, y2, y3, y4, y5, y6, y7, y8, y9, keepE, keepB, chk, CV.locs, CV.locv, CV.refs, CV.ref, pureOp, repC, takeN, resV, enterC, Nat.reduceAdd, Nat.reduceSub, Nat.reduceMul, Nat.reduceLeDiff, Nat.reduceLT, Nat.reduceBEq, Nat.reduceBNe, Nat.reduceEqDiff, ↓reduceIte, Int.reduceAdd, Int.reduceSub, Int.reduceMul, Int.reduceLT, Int.reduceLE, Int.reduceEq, Int.reduceNeg, Int.reduceToNat]
          · have hk' : ¬ ((i : Int) < turns.length) := by omega
            have hz : turn turns i (around l x).length = 0 := by simp [turn, List.getElem?_eq_none (by omega : turns.length ≤ i)]
            simp only [hz, Int.natCast_zero] at hia
            simp only [r05_Walk_B0, r05_Walk_K0_norm, r05_Walk_K0_ret, r05_Walk_K0_exit, fE, hO.len, hO.chkV, o1.chkV, h1, r05_Around_call, haF, ha', hk', hw, hw3, hia, r01_Has_call, hhas, hsn, hmem, e1, y1, y2, y3, y4, y5, y6, y7, y8, y9, keepE, keepB, chk, CV.locs, CV.locv, CV.refs, CV.ref, pureOp, repC, takeN, resV, enterC, Nat.reduceAdd, Nat.reduceSub, Nat.reduceMul, Nat.reduceLeDiff, Nat.reduceLT, Nat.reduceBEq, Nat.reduceBNe, Nat.reduceEqDiff, ↓reduceIte, Int.reduceAdd, Int.reduceSub, Int.reduceMul, Int.reduceLT, Int.reduceLE, Int.reduceEq, Int.reduceNeg, Int.reduceToNat]
        rw [key]
        exact e

theorem walk_F (l : Lay) (hl : l.ok) (s e : Int) (turns : List Int) (ht : ∀ t ∈ turns, 0 ≤ t ∧ t ≤ 255) (most : Nat) (hm : most ≤ Zc.small) (H : Heap) (st : Bool) :
    r05_Walk_F st H [.agg (layC l), .int .i64 s, .int .i64 e, sl fU turns, .int .i64 most] = some (sl fI (walk l s e turns most), H) := by
  rw [r05_Walk_F_eq]
  obtain ⟨v, bl, h, o⟩ := walk_loop l hl turns ht most hm (most - 1) 0 [s] ⟨s, e⟩ (.os 1 (.blk 0) 0 1) [.cells [.int .i64 s]] rfl (by simp) (by simp) (.inr ⟨0, rfl, rfl⟩)
  have hw : walk l s e turns most = walkFrom l turns (most - 1) 0 [s] ⟨s, e⟩ := by
    unfold walk
    congr 1
    omega
  rw [hw]
  simp only [fE, Int.natCast_zero] at h
  rcases h with h | ⟨bx', h⟩
  · simp only [r05_Walk_C, r05_Walk_L0_eq, h, snapI_own o, y1, y2, y3, y4, y5, y6, y7, y8, y9, keepE, keepB, chk, CV.locs, CV.locv, CV.refs, CV.ref, pureOp, repC, takeN, resV, enterC, Nat.reduceAdd, Nat.reduceSub, Nat.reduceMul, Nat.reduceLeDiff, Nat.reduceLT, Nat.reduceBEq, Nat.reduceBNe, Nat.reduceEqDiff, ↓reduceIte, Int.reduceAdd, Int.reduceSub, Int.reduceMul, Int.reduceLT, Int.reduceLE, Int.reduceEq, Int.reduceNeg, Int.reduceToNat]
  · simp only [r05_Walk_C, r05_Walk_L0_eq, h, snapI_own o, y1, y2, y3, y4, y5, y6, y7, y8, y9, keepE, keepB, chk, CV.locs, CV.locv, CV.refs, CV.ref, pureOp, repC, takeN, resV, enterC, Nat.reduceAdd, Nat.reduceSub, Nat.reduceMul, Nat.reduceLeDiff, Nat.reduceLT, Nat.reduceBEq, Nat.reduceBNe, Nat.reduceEqDiff, ↓reduceIte, Int.reduceAdd, Int.reduceSub, Int.reduceMul, Int.reduceLT, Int.reduceLE, Int.reduceEq, Int.reduceNeg, Int.reduceToNat]
end Go.Proofs.Ytmkdhpjidhbijaa.Zt
