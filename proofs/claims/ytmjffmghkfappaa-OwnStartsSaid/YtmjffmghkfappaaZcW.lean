/- Walks: the part of a section; the parts that join one. -/
import Derived.Test.YtmjffmghkfappaaZcV
set_option linter.all false
namespace Go.Proofs.Ytmjffmghkfappaa.Zt
open Go Go.Zc
set_option maxRecDepth 10000

theorem gpart1_F (x : List Int) (hx : x.length ≤ 2 * Zc.small) (n : Int) (st : Bool) (H : Heap) : graph_Graph_Part_1_F st H [sl fI x, .vp [.int .i64 n]] = some (.bool (decide (n ∈ x)), H) := by
  rw [graph_Graph_Part_1_F_eq]
  simp only [graph_Graph_Part_1_C, slices_Contains_int_call, contains_F n x hx, y1, y2, y3, y4, y5, y6, y7, y8, y9, keepE, keepB, chk, CV.locs, CV.locv, CV.refs, CV.ref, pureOp, repC, takeN, resV, enterC, Nat.reduceAdd, Nat.reduceSub, Nat.reduceMul, Nat.reduceLeDiff, Nat.reduceLT, Nat.reduceBEq, Nat.reduceBNe, Nat.reduceEqDiff, ↓reduceIte, Int.reduceAdd, Int.reduceSub, Int.reduceMul, Int.reduceLT, Int.reduceLE, Int.reduceEq, Int.reduceNeg, Int.reduceToNat]

theorem gpart_F (l : Lay) (hl : l.ok) (n : Int) (st : Bool) (H : Heap) : graph_Graph_Part_F st H [.vp (layC l), .int .i64 n] = some (.int .i64 (partOf l n), H) := by
  rw [graph_Graph_Part_F_eq]
  have hz : binC .eql .ptr (.vp (layC l)) .nilp = some (.bool false) := rfl
  have hs := hl.parts
  have hF := fun st H => idxL_F (.fn (.func 119) [] [.vp [.int .i64 n]]) rfl (fun x => decide (n ∈ x)) l.parts (fun x hx H => by
    have := gpart1_F x (by have := hl.part x hx; omega) n
    simp only [graph_Graph_Part_1_call, fL, y1, y2, y3, y4, y5, y6, y7, y8, y9, keepE, keepB, chk, CV.locs, CV.locv, CV.refs, CV.ref, pureOp, repC, takeN, resV, enterC, Nat.reduceAdd, Nat.reduceSub, Nat.reduceMul, Nat.reduceLeDiff, Nat.reduceLT, Nat.reduceBEq, Nat.reduceBNe, Nat.reduceEqDiff, ↓reduceIte, Int.reduceAdd, Int.reduceSub, Int.reduceMul, Int.reduceLT, Int.reduceLE, Int.reduceEq, Int.reduceNeg, Int.reduceToNat, this]) (by omega) st H
  have he : idxOf (fun x : List Int => decide (n ∈ x)) l.parts = partOf l n := rfl
  rw [← he]
  simp only [graph_Graph_Part_C, hz, slices_IndexFunc_int_call, hF, y1, y2, y3, y4, y5, y6, y7, y8, y9, keepE, keepB, chk, CV.locs, CV.locv, CV.refs, CV.ref, pureOp, repC, takeN, resV, enterC, Nat.reduceAdd, Nat.reduceSub, Nat.reduceMul, Nat.reduceLeDiff, Nat.reduceLT, Nat.reduceBEq, Nat.reduceBNe, Nat.reduceEqDiff, ↓reduceIte, Int.reduceAdd, Int.reduceSub, Int.reduceMul, Int.reduceLT, Int.reduceLE, Int.reduceEq, Int.reduceNeg, Int.reduceToNat]

theorem part_loop (l : Lay) (hl : l.ok) (n : Int) : ∀ (s p : List (List Int)), p ++ s = l.parts →
    r05_Part_R0 ([(1, .int .i64 n), (2, .op (.loc 2) 0), (5, .int .i64 p.length)], ⟨[(2, layC l)], []⟩) =
      match s.findIdx? (fun x => decide (n ∈ x)) with
      | some i => some (.ret, [(4, .int .i64 ((p.length + i : Nat) : Int))], ⟨[(2, layC l)], []⟩)
      | none => some (.norm, [], ⟨[], []⟩)
  | [], p, hp => by
    rw [List.append_nil] at hp
    subst hp
    rw [r05_Part_R0_eq]
    simp only [r05_Part_B0, r05_Part_K0_norm, r05_Part_K0_ret, r05_Part_K0_exit, List.findIdx?_nil, y1, y2, y3, y4, y5, y6, y7, y8, y9, keepE, keepB, chk, CV.locs, CV.locv, CV.refs, CV.ref, pureOp, repC, takeN, resV, enterC, Nat.reduceAdd, Nat.reduceSub, Nat.reduceMul, Nat.reduceLeDiff, Nat.reduceLT, Nat.reduceBEq, Nat.reduceBNe, Nat.reduceEqDiff, ↓reduceIte, Int.reduceAdd, Int.reduceSub, Int.reduceMul, Int.reduceLT, Int.reduceLE, Int.reduceEq, Int.reduceNeg, Int.reduceToNat]
  | x :: s, p, hp => by
    have hpl : p.length + 1 + s.length = l.parts.length := by rw [← hp]; simp; omega
    have hsm := hl.parts
    have h1 : ((p.length : Int) < l.parts.length) := by omega
    have hw := wrapN (n := p.length) (by omega)
    have hx := hl.part x (by rw [← hp]; simp)
    have ih := part_loop l hl n s (p ++ [x]) (by simpa using hp)
    have hia : iaddrC 1 (sl fL l.parts) (.int .i64 p.length) = some (.vp (sl fI x :: s.flatMap fL)) := by rw [← hp]; exact iaddr_midL _ p s x
    simp only [List.append_assoc, List.cons_append, List.nil_append, List.length_append, List.length_cons, List.length_nil] at ih
    rw [r05_Part_R0_eq]
    by_cases he : n ∈ x
    · simp only [r05_Part_B0, r05_Part_K0_norm, r05_Part_K0_ret, r05_Part_K0_exit, h1, hia, r01_Has_call, has_F x n hx, eq_true he, hw, y1, y2, y3, y4, y5, y6, y7, y8, y9, keepE, keepB, chk, CV.locs, CV.locv, CV.refs, CV.ref, pureOp, repC, takeN, resV, enterC, Nat.reduceAdd, Nat.reduceSub, Nat.reduceMul, Nat.reduceLeDiff, Nat.reduceLT, Nat.reduceBEq, Nat.reduceBNe, Nat.reduceEqDiff, ↓reduceIte, Int.reduceAdd, Int.reduceSub, Int.reduceMul, Int.reduceLT, Int.reduceLE, Int.reduceEq, Int.reduceNeg, Int.reduceToNat]
      simp [he, List.findIdx?_cons]
    · simp only [r05_Part_B0, r05_Part_K0_norm, r05_Part_K0_ret, r05_Part_K0_exit, h1, hia, r01_Has_call, has_F x n hx, eq_false he, hw, ih, y1, y2, y3, y4, y5, y6, y7, y8, y9, keepE, keepB, chk, CV.locs, CV.locv, CV.refs, CV.ref, pureOp, repC, takeN, resV, enterC, Nat.reduceAdd, Nat.reduceSub, Nat.reduceMul, Nat.reduceLeDiff, Nat.reduceLT, Nat.reduceBEq, Nat.reduceBNe, Nat.reduceEqDiff, ↓reduceIte, Int.reduceAdd, Int.reduceSub, Int.reduceMul, Int.reduceLT, Int.reduceLE, Int.reduceEq, Int.reduceNeg, Int.reduceToNat]
      simp only [List.findIdx?_cons, he, decide_false, Bool.false_eq_true, if_false]
      cases hf : s.findIdx? (fun x => decide (n ∈ x)) with
      | none => simp
      | some i => simp; omega

theorem part_F (l : Lay) (hl : l.ok) (n : Int) (st : Bool) (H : Heap) : r05_Part_F st H [.agg (layC l), .int .i64 n] = some (.int .i64 (partOf l n), H) := by
  have e := part_loop l hl n l.parts [] rfl
  simp only [List.nil_append, List.length_nil, Int.natCast_zero, Nat.zero_add] at e
  rw [r05_Part_F_eq]
  simp only [r05_Part_C, r05_Part_L0_eq, e, partOf, y1, y2, y3, y4, y5, y6, y7, y8, y9, keepE, keepB, chk, CV.locs, CV.locv, CV.refs, CV.ref, pureOp, repC, takeN, resV, enterC, Nat.reduceAdd, Nat.reduceSub, Nat.reduceMul, Nat.reduceLeDiff, Nat.reduceLT, Nat.reduceBEq, Nat.reduceBNe, Nat.reduceEqDiff, ↓reduceIte, Int.reduceAdd, Int.reduceSub, Int.reduceMul, Int.reduceLT, Int.reduceLE, Int.reduceEq, Int.reduceNeg, Int.reduceToNat]
  cases hf : l.parts.findIdx? (fun x => decide (n ∈ x)) <;> simp only [y1, y2, y3, y4, y5, y6, y7, y8, y9, keepE, keepB, chk, CV.locs, CV.locv, CV.refs, CV.ref, pureOp, repC, takeN, resV, enterC, Nat.reduceAdd, Nat.reduceSub, Nat.reduceMul, Nat.reduceLeDiff, Nat.reduceLT, Nat.reduceBEq, Nat.reduceBNe, Nat.reduceEqDiff, ↓reduceIte, Int.reduceAdd, Int.reduceSub, Int.reduceMul, Int.reduceLT, Int.reduceLE, Int.reduceEq, Int.reduceNeg, Int.reduceToNat]

/-! ### Beside -/
theorem besideL_cons (l : Lay) (p s : Int) (q : List Int) : besideL l p (s :: q) = ((near l s).map (partOf l)).filter (fun k => decide (0 ≤ k) && decide (k ≠ p)) ++ besideL l p q := rfl

theorem gbeside_in (l : Lay) (hl : l.ok) (pt : Int) (c34 c35 c36 : CV) (h34 : c34.locv = false) (h35 : c35.locv = false) (h36 : c36.locv = false) : ∀ (s p acc : List Int) (v : CV) (bl : List Blk), (p ++ s).length ≤ 2 * Zc.small → acc.length + s.length ≤ 2 * Zc.small → Own fI 1 bl v acc →
    ∃ v' bl', graph_Graph_Beside_R2 ([(0, .vp (layC l)), (1, .int .i64 pt), (5, v), (34, c34), (35, c35), (36, c36), (42, sl fI (p ++ s)), (43, .int .i64 (p ++ s).length), (44, .int .i64 p.length)], ⟨[], bl⟩) =
      some (.norm, [(0, .vp (layC l)), (1, .int .i64 pt), (5, v'), (34, c34), (35, c35), (36, c36)], ⟨[], bl'⟩) ∧ Own fI 1 bl' v' (acc ++ (s.map (partOf l)).filter fun k => decide (0 ≤ k) && decide (k ≠ pt))
  | [], p, acc, v, bl, hm, ha, hO => by
    refine ⟨v, bl, ?_, by simpa using hO⟩
    have h1 := chkV_of h34
    have h2 := chkV_of h35
    have h3 := chkV_of h36
    rw [graph_Graph_Beside_R2_eq]
    simp only [graph_Graph_Beside_B2, graph_Graph_Beside_K2_norm, graph_Graph_Beside_K2_ret, graph_Graph_Beside_K2_exit, h1, h2, h3, hO.chkV, y1, y2, y3, y4, y5, y6, y7, y8, y9, keepE, keepB, chk, CV.locs, CV.locv, CV.refs, CV.ref, pureOp, repC, takeN, resV, enterC, Nat.reduceAdd, Nat.reduceSub, Nat.reduceMul, Nat.reduceLeDiff, Nat.reduceLT, Nat.reduceBEq, Nat.reduceBNe, Nat.reduceEqDiff, ↓reduceIte, Int.reduceAdd, Int.reduceSub, Int.reduceMul, Int.reduceLT, Int.reduceLE, Int.reduceEq, Int.reduceNeg, Int.reduceToNat]
  | x :: s, p, acc, v, bl, hm, ha, hO => by
    have h1 := chkV_of h34
    have h2 := chkV_of h35
    have h3 := chkV_of h36
    have h4 : ((p.length : Int) < (p ++ x :: s).length) := by simp; omega
    have hw := wrapN (n := p.length) (by simp at hm; omega)
    simp only [List.length_cons] at ha
    have ha' := ha
    unfold Zc.small at ha'
    have hpF := gpart_F l hl x
    by_cases h0 : 0 ≤ partOf l x
    · by_cases hq : partOf l x = pt
      · obtain ⟨v', bl', e, o⟩ := gbeside_in l hl pt c34 c35 c36 h34 h35 h36 s (p ++ [x]) acc v bl (by simpa using hm) (by omega) hO
        simp only [List.append_assoc, List.cons_append, List.nil_append, List.length_append, List.length_cons, List.length_nil] at e h4
        refine ⟨v', bl', ?_, by simpa [h0, hq] using o⟩
        rw [graph_Graph_Beside_R2_eq]
        simp only [graph_Graph_Beside_B2, graph_Graph_Beside_K2_norm, graph_Graph_Beside_K2_ret, graph_Graph_Beside_K2_exit, List.append_assoc, List.cons_append, List.nil_append, List.length_append, List.length_cons, List.length_nil, h4, iaddr_midI, hw, h1, h2, h3, hO.chkV, graph_Graph_Part_call, hpF, eq_true h0, eq_true hq, e, y1, y2, y3, y4, y5, y6, y7, y8, y9, keepE, keepB, chk, CV.locs, CV.locv, CV.refs, CV.ref, pureOp, repC, takeN, resV, enterC, Nat.reduceAdd, Nat.reduceSub, Nat.reduceMul, Nat.reduceLeDiff, Nat.reduceLT, Nat.reduceBEq, Nat.reduceBNe, Nat.reduceEqDiff, ↓reduceIte, Int.reduceAdd, Int.reduceSub, Int.reduceMul, Int.reduceLT, Int.reduceLE, Int.reduceEq, Int.reduceNeg, Int.reduceToNat]
      · obtain ⟨v1, bl1, e1, o1, _⟩ := hO.app1 flatI (bytes := 8) (zero := [.int .i64 0]) (by decide) rfl rfl (partOf l x) (by omega)
        obtain ⟨v', bl', e, o⟩ := gbeside_in l hl pt c34 c35 c36 h34 h35 h36 s (p ++ [x]) (acc ++ [partOf l x]) v1 bl1 (by simpa using hm) (by simp; omega) o1
        simp only [fI] at e1
        simp only [List.append_assoc, List.cons_append, List.nil_append, List.length_append, List.length_cons, List.length_nil] at e h4
        refine ⟨v', bl', ?_, by simpa [h0, hq] using o⟩
        rw [graph_Graph_Beside_R2_eq]
        simp only [graph_Graph_Beside_B2, graph_Graph_Beside_K2_norm, graph_Graph_Beside_K2_ret, graph_Graph_Beside_K2_exit, List.append_assoc, List.cons_append, List.nil_append, List.length_append, List.length_cons, List.length_nil, h4, iaddr_midI, hw, h1, h2, h3, hO.chkV, graph_Graph_Part_call, hpF, eq_true h0, eq_false hq, e1, o1.chkV, e, y1, y2, y3, y4, y5, y6, y7, y8, y9, keepE, keepB, chk, CV.locs, CV.locv, CV.refs, CV.ref, pureOp, repC, takeN, resV, enterC, Nat.reduceAdd, Nat.reduceSub, Nat.reduceMul, Nat.reduceLeDiff, Nat.reduceLT, Nat.reduceBEq, Nat.reduceBNe, Nat.reduceEqDiff, ↓reduceIte, Int.reduceAdd, Int.reduceSub, Int.reduceMul, Int.reduceLT, Int.reduceLE, Int.reduceEq, Int.reduceNeg, Int.reduceToNat]
    · obtain ⟨v', bl', e, o⟩ := gbeside_in l hl pt c34 c35 c36 h34 h35 h36 s (p ++ [x]) acc v bl (by simpa using hm) (by omega) hO
      simp only [List.append_assoc, List.cons_append, List.nil_append, List.length_append, List.length_cons, List.length_nil] at e h4
      refine ⟨v', bl', ?_, by simpa [h0] using o⟩
      rw [graph_Graph_Beside_R2_eq]
      simp only [graph_Graph_Beside_B2, graph_Graph_Beside_K2_norm, graph_Graph_Beside_K2_ret, graph_Graph_Beside_K2_exit, List.append_assoc, List.cons_append, List.nil_append, List.length_append, List.length_cons, List.length_nil, h4, iaddr_midI, hw, h1, h2, h3, hO.chkV, graph_Graph_Part_call, hpF, eq_false h0, e, y1, y2, y3, y4, y5, y6, y7, y8, y9, keepE, keepB, chk, CV.locs, CV.locv, CV.refs, CV.ref, pureOp, repC, takeN, resV, enterC, Nat.reduceAdd, Nat.reduceSub, Nat.reduceMul, Nat.reduceLeDiff, Nat.reduceLT, Nat.reduceBEq, Nat.reduceBNe, Nat.reduceEqDiff, ↓reduceIte, Int.reduceAdd, Int.reduceSub, Int.reduceMul, Int.reduceLT, Int.reduceLE, Int.reduceEq, Int.reduceNeg, Int.reduceToNat]

theorem gbeside_out (l : Lay) (hl : l.ok) (pt : Int) : ∀ (s p acc : List Int) (v : CV) (bl : List Blk), (p ++ s).length ≤ 2 * Zc.small → acc.length + (besideL l pt s).length ≤ 12 → Own fI 1 bl v acc →
    ∃ v' bl', graph_Graph_Beside_R0 ([(0, .vp (layC l)), (1, .int .i64 pt), (5, v), (34, sl fI (p ++ s)), (35, .int .i64 (p ++ s).length), (36, .int .i64 p.length)], ⟨[], bl⟩) =
      some (.norm, [(5, v')], ⟨[], bl'⟩) ∧ Own fI 1 bl' v' (acc ++ besideL l pt s)
  | [], p, acc, v, bl, hm, ha, hO => by
    refine ⟨v, bl, ?_, by simpa [besideL] using hO⟩
    rw [graph_Graph_Beside_R0_eq]
    simp only [graph_Graph_Beside_B0, graph_Graph_Beside_K0_norm, graph_Graph_Beside_K0_ret, graph_Graph_Beside_K0_exit, hO.chkV, y1, y2, y3, y4, y5, y6, y7, y8, y9, keepE, keepB, chk, CV.locs, CV.locv, CV.refs, CV.ref, pureOp, repC, takeN, resV, enterC, Nat.reduceAdd, Nat.reduceSub, Nat.reduceMul, Nat.reduceLeDiff, Nat.reduceLT, Nat.reduceBEq, Nat.reduceBNe, Nat.reduceEqDiff, ↓reduceIte, Int.reduceAdd, Int.reduceSub, Int.reduceMul, Int.reduceLT, Int.reduceLE, Int.reduceEq, Int.reduceNeg, Int.reduceToNat]
  | x :: s, p, acc, v, bl, hm, ha, hO => by
    have h4 : ((p.length : Int) < (p ++ x :: s).length) := by simp; omega
    have hw := wrapN (n := p.length) (by simp at hm; omega)
    have hnl := near_len l x
    rw [besideL_cons, List.length_append] at ha
    obtain ⟨v1, bl1, e1, o1⟩ := gbeside_in l hl pt (sl fI (p ++ x :: s)) (.int .i64 (p ++ x :: s).length) (.int .i64 p.length) rfl rfl rfl (near l x) [] acc v bl (by unfold Zc.small; simp; omega) (by unfold Zc.small; omega) hO
    obtain ⟨v', bl', e, o⟩ := gbeside_out l hl pt s (p ++ [x]) _ v1 bl1 (by simpa using hm) (by simp only [List.length_append]; omega) o1
    simp only [List.nil_append, List.length_nil, Int.natCast_zero] at e1
    simp only [List.append_assoc, List.cons_append, List.nil_append, List.length_append, List.length_cons, List.length_nil] at e e1 h4
    refine ⟨v', bl', ?_, by simpa only [besideL_cons, List.append_assoc] using o⟩
    rw [graph_Graph_Beside_R0_eq]
    simp only [graph_Graph_Beside_B0, graph_Graph_Beside_K0_norm, graph_Graph_Beside_K0_ret, graph_Graph_Beside_K0_exit, graph_Graph_Beside_L2_eq, List.append_assoc, List.cons_append, List.nil_append, List.length_append, List.length_cons, List.length_nil, h4, iaddr_midI, hw, hO.chkV, graph_Graph_Near_call, gnear_F l hl, e1, o1.chkV, e, y1, y2, y3, y4, y5, y6, y7, y8, y9, keepE, keepB, chk, CV.locs, CV.locv, CV.refs, CV.ref, pureOp, repC, takeN, resV, enterC, Nat.reduceAdd, Nat.reduceSub, Nat.reduceMul, Nat.reduceLeDiff, Nat.reduceLT, Nat.reduceBEq, Nat.reduceBNe, Nat.reduceEqDiff, ↓reduceIte, Int.reduceAdd, Int.reduceSub, Int.reduceMul, Int.reduceLT, Int.reduceLE, Int.reduceEq, Int.reduceNeg, Int.reduceToNat]

theorem gbeside_F (l : Lay) (hl : l.ok) (pt : Int) (hb : ∀ q, partIx l pt = some q → (besideL l pt q).length ≤ 12) (st : Bool) (H : Heap) : graph_Graph_Beside_F st H [.vp (layC l), .int .i64 pt] = some (sl fI (beside l pt), H) := by
  rw [graph_Graph_Beside_F_eq]
  have hz : binC .eql .ptr (.vp (layC l)) .nilp = some (.bool false) := rfl
  cases hp : partIx l pt with
  | none =>
    have hbe : beside l pt = [] := by simp [beside, hp]
    rw [hbe]
    rcases partIx_none hp with h1 | ⟨h0, h1⟩
    · simp only [graph_Graph_Beside_C, hz, h1, sl_nil fI, y1, y2, y3, y4, y5, y6, y7, y8, y9, keepE, keepB, chk, CV.locs, CV.locv, CV.refs, CV.ref, pureOp, repC, takeN, resV, enterC, Nat.reduceAdd, Nat.reduceSub, Nat.reduceMul, Nat.reduceLeDiff, Nat.reduceLT, Nat.reduceBEq, Nat.reduceBNe, Nat.reduceEqDiff, ↓reduceIte, Int.reduceAdd, Int.reduceSub, Int.reduceMul, Int.reduceLT, Int.reduceLE, Int.reduceEq, Int.reduceNeg, Int.reduceToNat]
    · have h2 : ¬ pt < 0 := by omega
      simp only [graph_Graph_Beside_C, hz, h1, h2, sl_nil fI, y1, y2, y3, y4, y5, y6, y7, y8, y9, keepE, keepB, chk, CV.locs, CV.locv, CV.refs, CV.ref, pureOp, repC, takeN, resV, enterC, Nat.reduceAdd, Nat.reduceSub, Nat.reduceMul, Nat.reduceLeDiff, Nat.reduceLT, Nat.reduceBEq, Nat.reduceBNe, Nat.reduceEqDiff, ↓reduceIte, Int.reduceAdd, Int.reduceSub, Int.reduceMul, Int.reduceLT, Int.reduceLE, Int.reduceEq, Int.reduceNeg, Int.reduceToNat]
  | some q =>
    obtain ⟨n, hn, rfl, rfl⟩ := partIx_some hp
    have h1 : ¬ ((n : Int) < 0) := by omega
    have h2 : ¬ ((l.parts.length : Int) ≤ n) := by omega
    have hq := hl.part _ (List.getElem_mem hn)
    have hB := hb _ hp
    obtain ⟨v2, bl2, e2, o2⟩ := gbeside_out l hl n l.parts[n] [] [] .nils [] (by simp; omega) (by simpa using hB) (Own.nil _ _ _)
    simp only [List.nil_append, List.length_nil, Int.natCast_zero] at e2 o2
    obtain ⟨bl3, e3, o3, _⟩ := sort_F v2 _ hB [] bl2 o2
    obtain ⟨v4, bl4, e4, o4, _⟩ := compact_F v2 _ (by rw [(isort_perm _).length_eq]; unfold Zc.small; omega) [] bl3 o3
    rw [compact_isort] at o4
    have hs := fun bx => o4.snapV flatI bx st _ (snap_I ⟨bx, bl4⟩ st false 6)
    have hbe : beside l n = rise (besideL l n l.parts[n]) := by simp [beside, hp]
    rw [hbe]
    simp only [graph_Graph_Beside_C, graph_Graph_Beside_L0_eq, hz, h1, h2, iaddr_atL hn, e2, slices_Sort_int_call, e3, slices_Compact_int_call, e4, o2.locv, o4.locv, hs, y1, y2, y3, y4, y5, y6, y7, y8, y9, keepE, keepB, chk, CV.locs, CV.locv, CV.refs, CV.ref, pureOp, repC, takeN, resV, enterC, Nat.reduceAdd, Nat.reduceSub, Nat.reduceMul, Nat.reduceLeDiff, Nat.reduceLT, Nat.reduceBEq, Nat.reduceBNe, Nat.reduceEqDiff, ↓reduceIte, Int.reduceAdd, Int.reduceSub, Int.reduceMul, Int.reduceLT, Int.reduceLE, Int.reduceEq, Int.reduceNeg, Int.reduceToNat]
end Go.Proofs.Ytmjffmghkfappaa.Zt
