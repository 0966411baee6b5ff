/- The law OwnDeclares, walked. -/
import Derived.Test.YtmjffmghkfappaaZcVe
import Derived.Test.YtmjffmghkfappaaZcCl
set_option linter.all false
namespace Go.Proofs.Ytmjffmghkfappaa.Zt
open Go Go.Zc
set_option maxRecDepth 10000

def declF (l : Lay) (was : List Int) (cl : List Bool) (vs : List Vw) (part id : Int) : List Int × Int :=
  if (findV vs id).isSome = false ∨ part < 0 ∨ (l.parts.length : Int) ≤ part then (was, 7)
  else if cl.getD part.toNat false = true ∨ holdsV l vs part.toNat id = false then (was, 8) else (was.set part.toNat id, 0)
theorem declF_7 {l : Lay} {was : List Int} {cl : List Bool} {vs : List Vw} {part id : Int} (h : (findV vs id).isSome = false ∨ part < 0 ∨ (l.parts.length : Int) ≤ part) : declF l was cl vs part id = (was, 7) := if_pos h
theorem declF_8 {l : Lay} {was : List Int} {cl : List Bool} {vs : List Vw} {part id : Int} (h : ¬ ((findV vs id).isSome = false ∨ part < 0 ∨ (l.parts.length : Int) ≤ part)) (h2 : cl.getD part.toNat false = true ∨ holdsV l vs part.toNat id = false) : declF l was cl vs part id = (was, 8) := by
  unfold declF
  rw [if_neg h, if_pos h2]
theorem declF_0 {l : Lay} {was : List Int} {cl : List Bool} {vs : List Vw} {part id : Int} (h : ¬ ((findV vs id).isSome = false ∨ part < 0 ∨ (l.parts.length : Int) ≤ part)) (h2 : ¬ (cl.getD part.toNat false = true ∨ holdsV l vs part.toNat id = false)) : declF l was cl vs part id = (was.set part.toNat id, 0) := by
  unfold declF
  rw [if_neg h, if_neg h2]

set_option maxHeartbeats 2000000 in
theorem odecl_F (l : Lay) (hl : l.ok) (was : List Int) (h0 : was ≠ []) (hw : was.length = l.parts.length) (cl : List Bool) (hc : cl.length = l.parts.length) (vs : List Vw) (hv : VsOk vs) (part id : Int) (H : Heap) :
    own_Declare_F false H [.agg (layC l), sl fI was, sl fB cl, sl fV vs, .int .i64 part, .int .i64 id] = some (.tup [sl fI (declF l was cl vs part id).1, .int .i64 (declF l was cl vs part id).2], H) := by
  have hpl := hl.parts
  obtain ⟨v, bl, e, hO, _⟩ := clone_F was h0 (by omega) []
  have hF := fun bx bl => ofind_F vs (by have := hv.len; omega) id bx bl
  have hO1 : Own fI 1 (bl ++ [Blk.cells [.int .i64 id]]) v was := hO.keep fun m b hb => by
    rw [List.getElem?_append_left (List.getElem?_eq_some_iff.1 hb).1]; exact hb
  have s1 := fun bx => snapI_own hO1 bx false
  rw [own_Declare_F_eq]
  cases hf : findV vs id with
  | none =>
    rw [declF_7 (.inl (by rw [hf]; rfl))]
    simp only [hf, viewC] at hF
    simp only [own_Declare_C, slices_Clone_int_call, e, own_Find_call, hF, hO1.chkV, hO1.locv, hO1.one, hO1.cells, s1, y1, y2, y3, y4, y5, y6, y7, y8, y9, keepE, keepB, chk, CV.locs, CV.locv, CV.refs, CV.ref, pureOp, repC, takeN, resV, enterC, Nat.reduceAdd, Nat.reduceSub, Nat.reduceMul, Nat.reduceLeDiff, Nat.reduceLT, Nat.reduceBEq, Nat.reduceBNe, Nat.reduceEqDiff, ↓reduceIte, Int.reduceAdd, Int.reduceSub, Int.reduceMul, Int.reduceLT, Int.reduceLE, Int.reduceEq, Int.reduceNeg, Int.reduceToNat]
  | some x =>
    simp only [hf, viewC, fV] at hF
    by_cases a1 : part < 0
    · rw [declF_7 (.inr (.inl a1))]
      simp only [own_Declare_C, slices_Clone_int_call, e, own_Find_call, hF, eq_true a1, hO1.chkV, hO1.locv, hO1.one, hO1.cells, s1, y1, y2, y3, y4, y5, y6, y7, y8, y9, keepE, keepB, chk, CV.locs, CV.locv, CV.refs, CV.ref, pureOp, repC, takeN, resV, enterC, Nat.reduceAdd, Nat.reduceSub, Nat.reduceMul, Nat.reduceLeDiff, Nat.reduceLT, Nat.reduceBEq, Nat.reduceBNe, Nat.reduceEqDiff, ↓reduceIte, Int.reduceAdd, Int.reduceSub, Int.reduceMul, Int.reduceLT, Int.reduceLE, Int.reduceEq, Int.reduceNeg, Int.reduceToNat]
    · by_cases a2 : (l.parts.length : Int) ≤ part
      · rw [declF_7 (.inr (.inr a2))]
        simp only [own_Declare_C, slices_Clone_int_call, e, own_Find_call, hF, eq_false a1, eq_true a2, hO1.chkV, hO1.locv, hO1.one, hO1.cells, s1, y1, y2, y3, y4, y5, y6, y7, y8, y9, keepE, keepB, chk, CV.locs, CV.locv, CV.refs, CV.ref, pureOp, repC, takeN, resV, enterC, Nat.reduceAdd, Nat.reduceSub, Nat.reduceMul, Nat.reduceLeDiff, Nat.reduceLT, Nat.reduceBEq, Nat.reduceBNe, Nat.reduceEqDiff, ↓reduceIte, Int.reduceAdd, Int.reduceSub, Int.reduceMul, Int.reduceLT, Int.reduceLE, Int.reduceEq, Int.reduceNeg, Int.reduceToNat]
      · have hno : ¬ ((findV vs id).isSome = false ∨ part < 0 ∨ (l.parts.length : Int) ≤ part) := by
          rw [hf]; simp [a1]; omega
        obtain ⟨n, rfl⟩ := Int.eq_ofNat_of_zero_le (show 0 ≤ part by omega)
        have hnp : n < l.parts.length := by omega
        have hgc := iaddr_getB (k := .i64) (l := cl) (i := n) (by omega)
        have hH := fun st H => oholds_F l hl vs hv n hnp id st H
        by_cases a3 : cl.getD n false = true
        · rw [declF_8 hno (.inl a3)]
          simp only [own_Declare_C, slices_Clone_int_call, e, own_Find_call, hF, eq_false a1, eq_false a2, hgc, a3, hO1.chkV, hO1.locv, hO1.one, hO1.cells, s1, y1, y2, y3, y4, y5, y6, y7, y8, y9, keepE, keepB, chk, CV.locs, CV.locv, CV.refs, CV.ref, pureOp, repC, takeN, resV, enterC, Nat.reduceAdd, Nat.reduceSub, Nat.reduceMul, Nat.reduceLeDiff, Nat.reduceLT, Nat.reduceBEq, Nat.reduceBNe, Nat.reduceEqDiff, ↓reduceIte, Int.reduceAdd, Int.reduceSub, Int.reduceMul, Int.reduceLT, Int.reduceLE, Int.reduceEq, Int.reduceNeg, Int.reduceToNat]
        · have a3' : cl.getD n false = false := by simpa using a3
          cases a4 : holdsV l vs n id with
          | false =>
            rw [declF_8 hno (.inr (by rw [Int.toNat_natCast]; exact a4))]
            simp only [a4] at hH
            simp only [own_Declare_C, slices_Clone_int_call, e, own_Find_call, hF, eq_false a1, eq_false a2, hgc, a3', own_holds_call, hH, hO1.chkV, hO1.locv, hO1.one, hO1.cells, s1, y1, y2, y3, y4, y5, y6, y7, y8, y9, keepE, keepB, chk, CV.locs, CV.locv, CV.refs, CV.ref, pureOp, repC, takeN, resV, enterC, Nat.reduceAdd, Nat.reduceSub, Nat.reduceMul, Nat.reduceLeDiff, Nat.reduceLT, Nat.reduceBEq, Nat.reduceBNe, Nat.reduceEqDiff, ↓reduceIte, Int.reduceAdd, Int.reduceSub, Int.reduceMul, Int.reduceLT, Int.reduceLE, Int.reduceEq, Int.reduceNeg, Int.reduceToNat]
          | true =>
            rw [declF_0 hno (by rw [Int.toNat_natCast, a3', a4]; simp)]
            simp only [a4] at hH
            obtain ⟨m, hia, cs, hcs, hdr, bl2, e2, o2, _⟩ := hO1.set flatI (i := n) (by omega) id (.int .i64 id) rfl
            simp only [Nat.mul_one] at hia e2
            have s2 := fun bx => snapI_own o2 bx false
            simp only [own_Declare_C, slices_Clone_int_call, e, own_Find_call, hF, eq_false a1, eq_false a2, hgc, a3', own_holds_call, hH, hia, hcs, e2, hO1.chkV, hO1.locv, hO1.one, hO1.cells, s2, Int.toNat_natCast, y1, y2, y3, y4, y5, y6, y7, y8, y9, keepE, keepB, chk, CV.locs, CV.locv, CV.refs, CV.ref, pureOp, repC, takeN, resV, enterC, Nat.reduceAdd, Nat.reduceSub, Nat.reduceMul, Nat.reduceLeDiff, Nat.reduceLT, Nat.reduceBEq, Nat.reduceBNe, Nat.reduceEqDiff, ↓reduceIte, Int.reduceAdd, Int.reduceSub, Int.reduceMul, Int.reduceLT, Int.reduceLE, Int.reduceEq, Int.reduceNeg, Int.reduceToNat]

set_option maxHeartbeats 2000000 in
theorem rdecl_F (l : Lay) (hl : l.ok) (was : List Int) (hw : was.length = l.parts.length) (cl : List Bool) (hc : cl.length = l.parts.length) (vs : List Vw) (hv : VsOk vs) (part id : Int) (H : Heap) :
    r12_Declare_F false H [.agg (layC l), sl fI was, sl fB cl, sl fV vs, .int .i64 part, .int .i64 id] = some (.tup [sl fI (declF l was cl vs part id).1, .int .i64 (declF l was cl vs part id).2], H) := by
  have hpl := hl.parts
  obtain ⟨v, bl, e, hO, _⟩ := (Own.nil fI 1 []).appSl flatI (bytes := 8) (zero := [.int .i64 0]) (by decide) rfl rfl was (by unfold Zc.small at hpl; simp; omega)
  rw [List.nil_append] at hO
  have hF := fun bx bl => rfind_F vs (by have := hv.len; omega) id bx bl
  have s1 := fun bx => snapI_own hO bx false
  rw [r12_Declare_F_eq]
  cases hf : findV vs id with
  | none =>
    rw [declF_7 (.inl (by rw [hf]; rfl))]
    simp only [hf, viewC] at hF
    simp only [r12_Declare_C, e, r12_Find_call, hF, hO.chkV, hO.locv, hO.one, hO.cells, s1, y1, y2, y3, y4, y5, y6, y7, y8, y9, keepE, keepB, chk, CV.locs, CV.locv, CV.refs, CV.ref, pureOp, repC, takeN, resV, enterC, Nat.reduceAdd, Nat.reduceSub, Nat.reduceMul, Nat.reduceLeDiff, Nat.reduceLT, Nat.reduceBEq, Nat.reduceBNe, Nat.reduceEqDiff, ↓reduceIte, Int.reduceAdd, Int.reduceSub, Int.reduceMul, Int.reduceLT, Int.reduceLE, Int.reduceEq, Int.reduceNeg, Int.reduceToNat]
  | some x =>
    simp only [hf, viewC, fV] at hF
    by_cases a1 : part < 0
    · rw [declF_7 (.inr (.inl a1))]
      simp only [r12_Declare_C, e, r12_Find_call, hF, eq_true a1, hO.chkV, hO.locv, hO.one, hO.cells, s1, y1, y2, y3, y4, y5, y6, y7, y8, y9, keepE, keepB, chk, CV.locs, CV.locv, CV.refs, CV.ref, pureOp, repC, takeN, resV, enterC, Nat.reduceAdd, Nat.reduceSub, Nat.reduceMul, Nat.reduceLeDiff, Nat.reduceLT, Nat.reduceBEq, Nat.reduceBNe, Nat.reduceEqDiff, ↓reduceIte, Int.reduceAdd, Int.reduceSub, Int.reduceMul, Int.reduceLT, Int.reduceLE, Int.reduceEq, Int.reduceNeg, Int.reduceToNat]
    · by_cases a2 : (l.parts.length : Int) ≤ part
      · rw [declF_7 (.inr (.inr a2))]
        simp only [r12_Declare_C, e, r12_Find_call, hF, eq_false a1, eq_true a2, hO.chkV, hO.locv, hO.one, hO.cells, s1, y1, y2, y3, y4, y5, y6, y7, y8, y9, keepE, keepB, chk, CV.locs, CV.locv, CV.refs, CV.ref, pureOp, repC, takeN, resV, enterC, Nat.reduceAdd, Nat.reduceSub, Nat.reduceMul, Nat.reduceLeDiff, Nat.reduceLT, Nat.reduceBEq, Nat.reduceBNe, Nat.reduceEqDiff, ↓reduceIte, Int.reduceAdd, Int.reduceSub, Int.reduceMul, Int.reduceLT, Int.reduceLE, Int.reduceEq, Int.reduceNeg, Int.reduceToNat]
      · have hno : ¬ ((findV vs id).isSome = false ∨ part < 0 ∨ (l.parts.length : Int) ≤ part) := by
          rw [hf]; simp [a1]; omega
        obtain ⟨n, rfl⟩ := Int.eq_ofNat_of_zero_le (show 0 ≤ part by omega)
        have hnp : n < l.parts.length := by omega
        have hgc := iaddr_getB (k := .i64) (l := cl) (i := n) (by omega)
        have hH := fun st H => rholds_F l hl vs hv n hnp id st H
        by_cases a3 : cl.getD n false = true
        · rw [declF_8 hno (.inl a3)]
          simp only [r12_Declare_C, e, r12_Find_call, hF, eq_false a1, eq_false a2, hgc, a3, hO.chkV, hO.locv, hO.one, hO.cells, s1, y1, y2, y3, y4, y5, y6, y7, y8, y9, keepE, keepB, chk, CV.locs, CV.locv, CV.refs, CV.ref, pureOp, repC, takeN, resV, enterC, Nat.reduceAdd, Nat.reduceSub, Nat.reduceMul, Nat.reduceLeDiff, Nat.reduceLT, Nat.reduceBEq, Nat.reduceBNe, Nat.reduceEqDiff, ↓reduceIte, Int.reduceAdd, Int.reduceSub, Int.reduceMul, Int.reduceLT, Int.reduceLE, Int.reduceEq, Int.reduceNeg, Int.reduceToNat]
        · have a3' : cl.getD n false = false := by simpa using a3
          cases a4 : holdsV l vs n id with
          | false =>
            rw [declF_8 hno (.inr (by rw [Int.toNat_natCast]; exact a4))]
            simp only [a4] at hH
            simp only [r12_Declare_C, e, r12_Find_call, hF, eq_false a1, eq_false a2, hgc, a3', r12_holds_call, hH, hO.chkV, hO.locv, hO.one, hO.cells, s1, y1, y2, y3, y4, y5, y6, y7, y8, y9, keepE, keepB, chk, CV.locs, CV.locv, CV.refs, CV.ref, pureOp, repC, takeN, resV, enterC, Nat.reduceAdd, Nat.reduceSub, Nat.reduceMul, Nat.reduceLeDiff, Nat.reduceLT, Nat.reduceBEq, Nat.reduceBNe, Nat.reduceEqDiff, ↓reduceIte, Int.reduceAdd, Int.reduceSub, Int.reduceMul, Int.reduceLT, Int.reduceLE, Int.reduceEq, Int.reduceNeg, Int.reduceToNat]
          | true =>
            rw [declF_0 hno (by rw [Int.toNat_natCast, a3', a4]; simp)]
            simp only [a4] at hH
            obtain ⟨m, hia, cs, hcs, hdr, bl2, e2, o2, _⟩ := hO.set flatI (i := n) (by omega) id (.int .i64 id) rfl
            simp only [Nat.mul_one] at hia e2
            have s2 := fun bx => snapI_own o2 bx false
            simp only [r12_Declare_C, e, r12_Find_call, hF, eq_false a1, eq_false a2, hgc, a3', r12_holds_call, hH, hia, hcs, e2, hO.chkV, hO.locv, hO.one, hO.cells, s2, Int.toNat_natCast, y1, y2, y3, y4, y5, y6, y7, y8, y9, keepE, keepB, chk, CV.locs, CV.locv, CV.refs, CV.ref, pureOp, repC, takeN, resV, enterC, Nat.reduceAdd, Nat.reduceSub, Nat.reduceMul, Nat.reduceLeDiff, Nat.reduceLT, Nat.reduceBEq, Nat.reduceBNe, Nat.reduceEqDiff, ↓reduceIte, Int.reduceAdd, Int.reduceSub, Int.reduceMul, Int.reduceLT, Int.reduceLE, Int.reduceEq, Int.reduceNeg, Int.reduceToNat]

theorem declF_len (l : Lay) (was : List Int) (cl : List Bool) (vs : List Vw) (part id : Int) : (declF l was cl vs part id).1.length = was.length := by
  unfold declF
  split
  · rfl
  · split
    · rfl
    · simp
theorem declF_was (l : Lay) (was : List Int) (cl : List Bool) (vs : List Vw) (part id : Int) (h : ¬ (declF l was cl vs part id).2 = 0) : (declF l was cl vs part id).1 = was := by
  unfold declF at h ⊢
  split
  · rfl
  · rename_i h1
    rw [if_neg h1] at h
    split
    · rfl
    · rename_i h2
      rw [if_neg h2] at h
      exact absurd rfl h
theorem parts_pos (d : Draft) (hd : d.ok) : 0 < (full d).parts.length := by
  have hg := (full_good d (full_ok d)).pos
  obtain ⟨n, hn, _⟩ := full_part d hd (s := 0) (by omega) (by omega)
  omega

set_option maxHeartbeats 2000000 in
theorem ownDeclares_F (d : Draft) (hd : d.ok) (f : Fld) (hf : f.ok) (part id : Int) (hp : -9223372036854775808 ≤ part ∧ part ≤ 9223372036854775807) (hi : -9223372036854775808 ≤ id ∧ id ≤ 9223372036854775807) (nr : Bool) (st : Bool) (H : Heap) :
    l12_OwnDeclares_F st H [.agg (draftC d), .agg (fieldC f), .int .i64 part, .int .i64 id, .bool nr] = some (.bool true, H) := by
  rw [l12_OwnDeclares_F_eq]
  have hc := comes_F
  have hsF := fun st H => small_F d hd st H
  have hfF := fun st H => few_F f hf st H
  cases hs : d.small with
  | false =>
    simp only [hs] at hsF
    simp only [l12_OwnDeclares_C, l12_comes_call, hc, r04_Small_call, hsF, y1, y2, y3, y4, y5, y6, y7, y8, y9, keepE, keepB, chk, CV.locs, CV.locv, CV.refs, CV.ref, pureOp, repC, takeN, resV, enterC, Nat.reduceAdd, Nat.reduceSub, Nat.reduceMul, Nat.reduceLeDiff, Nat.reduceLT, Nat.reduceBEq, Nat.reduceBNe, Nat.reduceEqDiff, ↓reduceIte, Int.reduceAdd, Int.reduceSub, Int.reduceMul, Int.reduceLT, Int.reduceLE, Int.reduceEq, Int.reduceNeg, Int.reduceToNat]
  | true =>
    simp only [hs] at hsF
    cases hw : f.few with
    | false =>
      simp only [hw] at hfF
      simp only [l12_OwnDeclares_C, l12_comes_call, hc, r04_Small_call, hsF, l12_few_call, hfF, y1, y2, y3, y4, y5, y6, y7, y8, y9, keepE, keepB, chk, CV.locs, CV.locv, CV.refs, CV.ref, pureOp, repC, takeN, resV, enterC, Nat.reduceAdd, Nat.reduceSub, Nat.reduceMul, Nat.reduceLeDiff, Nat.reduceLT, Nat.reduceBEq, Nat.reduceBNe, Nat.reduceEqDiff, ↓reduceIte, Int.reduceAdd, Int.reduceSub, Int.reduceMul, Int.reduceLT, Int.reduceLE, Int.reduceEq, Int.reduceNeg, Int.reduceToNat]
    | true =>
      simp only [hw] at hfF
      have hok := full_ok d
      have hg := full_good d hok
      have hv := vs_ok (full d) hw
      have hpp := parts_pos d hd
      have hpl := hok.parts
      have hol := ownersL_len (full d) f
      have hne : ownersL (full d) f ≠ [] := by
        intro e
        rw [e] at hol
        simp at hol
        omega
      have g1 := fun H => views_F (full d) hok hg.pos f hf hw H
      have g2 := fun st H => owners_F (full d) hok f hf st H
      have g3 := fun st H => clear_F (full d) hok f st H
      have g4 := fun part id H => odecl_F (full d) hok (ownersL (full d) f) hne hol (clearL (full d) f) (clearL_len _ _) (viewsF (full d) f) hv part id H
      have g5 := fun part id H => rdecl_F (full d) hok (ownersL (full d) f) hol (clearL (full d) f) (clearL_len _ _) (viewsF (full d) f) hv part id H
      have g6 := fun part id st H => ints_F (declF (full d) (ownersL (full d) f) (clearL (full d) f) (viewsF (full d) f) part id).1 (declF (full d) (ownersL (full d) f) (clearL (full d) f) (viewsF (full d) f) part id).1 (by rw [declF_len]; omega) st H
      have g7 := fun st H => ints_F (ownersL (full d) f) (ownersL (full d) f) (by omega) st H
      have k1 : ¬ (((full d).parts.length : Int) = 0) := by omega
      have fin : ∀ part id : Int, ∃ u e, declF (full d) (ownersL (full d) f) (clearL (full d) f) (viewsF (full d) f) part id = (u, e) ∧ (e = 0 ∨ (e ≠ 0 ∧ u = ownersL (full d) f)) := fun part id => by
        refine ⟨_, _, rfl, ?_⟩
        by_cases h : (declF (full d) (ownersL (full d) f) (clearL (full d) f) (viewsF (full d) f) part id).2 = 0
        · exact .inl h
        · exact .inr ⟨h, declF_was _ _ _ _ _ _ h⟩
      cases nr with
      | false =>
        obtain ⟨u, e, hue, he⟩ := fin part id
        have g4 := g4 part id
        have g5 := g5 part id
        have g6 := g6 part id
        simp only [hue] at g4 g5 g6
        rcases he with rfl | ⟨he, rfl⟩
        · simp only [l12_OwnDeclares_C, l12_comes_call, hc, r04_Small_call, hsF, l12_few_call, hfF, r05_Full_call, full_F d hd, l12_views_call, g1, l12_owners_call, g2, l12_clear_call, g3, own_Declare_call, g4, r12_Declare_call, g5, r01_Ints_call, g6, g7, y1, y2, y3, y4, y5, y6, y7, y8, y9, keepE, keepB, chk, CV.locs, CV.locv, CV.refs, CV.ref, pureOp, repC, takeN, resV, enterC, Nat.reduceAdd, Nat.reduceSub, Nat.reduceMul, Nat.reduceLeDiff, Nat.reduceLT, Nat.reduceBEq, Nat.reduceBNe, Nat.reduceEqDiff, ↓reduceIte, Int.reduceAdd, Int.reduceSub, Int.reduceMul, Int.reduceLT, Int.reduceLE, Int.reduceEq, Int.reduceNeg, Int.reduceToNat]
        · simp only [l12_OwnDeclares_C, l12_comes_call, hc, r04_Small_call, hsF, l12_few_call, hfF, r05_Full_call, full_F d hd, l12_views_call, g1, l12_owners_call, g2, l12_clear_call, g3, own_Declare_call, g4, r12_Declare_call, g5, r01_Ints_call, g6, eq_false he, y1, y2, y3, y4, y5, y6, y7, y8, y9, keepE, keepB, chk, CV.locs, CV.locv, CV.refs, CV.ref, pureOp, repC, takeN, resV, enterC, Nat.reduceAdd, Nat.reduceSub, Nat.reduceMul, Nat.reduceLeDiff, Nat.reduceLT, Nat.reduceBEq, Nat.reduceBNe, Nat.reduceEqDiff, ↓reduceIte, Int.reduceAdd, Int.reduceSub, Int.reduceMul, Int.reduceLT, Int.reduceLE, Int.reduceEq, Int.reduceNeg, Int.reduceToNat]
      | true =>
        obtain ⟨u, e, hue, he⟩ := fin (part.tmod (full d).parts.length) (id.tmod 4)
        have g4 := g4 (part.tmod (full d).parts.length) (id.tmod 4)
        have g5 := g5 (part.tmod (full d).parts.length) (id.tmod 4)
        have g6 := g6 (part.tmod (full d).parts.length) (id.tmod 4)
        simp only [hue] at g4 g5 g6
        rcases he with rfl | ⟨he, rfl⟩
        · simp only [l12_OwnDeclares_C, l12_comes_call, hc, r04_Small_call, hsF, l12_few_call, hfF, r05_Full_call, full_F d hd, k1, l12_views_call, g1, l12_owners_call, g2, l12_clear_call, g3, own_Declare_call, g4, r12_Declare_call, g5, r01_Ints_call, g6, g7, y1, y2, y3, y4, y5, y6, y7, y8, y9, keepE, keepB, chk, CV.locs, CV.locv, CV.refs, CV.ref, pureOp, repC, takeN, resV, enterC, Nat.reduceAdd, Nat.reduceSub, Nat.reduceMul, Nat.reduceLeDiff, Nat.reduceLT, Nat.reduceBEq, Nat.reduceBNe, Nat.reduceEqDiff, ↓reduceIte, Int.reduceAdd, Int.reduceSub, Int.reduceMul, Int.reduceLT, Int.reduceLE, Int.reduceEq, Int.reduceNeg, Int.reduceToNat]
        · simp only [l12_OwnDeclares_C, l12_comes_call, hc, r04_Small_call, hsF, l12_few_call, hfF, r05_Full_call, full_F d hd, k1, l12_views_call, g1, l12_owners_call, g2, l12_clear_call, g3, own_Declare_call, g4, r12_Declare_call, g5, r01_Ints_call, g6, eq_false he, y1, y2, y3, y4, y5, y6, y7, y8, y9, keepE, keepB, chk, CV.locs, CV.locv, CV.refs, CV.ref, pureOp, repC, takeN, resV, enterC, Nat.reduceAdd, Nat.reduceSub, Nat.reduceMul, Nat.reduceLeDiff, Nat.reduceLT, Nat.reduceBEq, Nat.reduceBNe, Nat.reduceEqDiff, ↓reduceIte, Int.reduceAdd, Int.reduceSub, Int.reduceMul, Int.reduceLT, Int.reduceLE, Int.reduceEq, Int.reduceNeg, Int.reduceToNat]
end Go.Proofs.Ytmjffmghkfappaa.Zt
