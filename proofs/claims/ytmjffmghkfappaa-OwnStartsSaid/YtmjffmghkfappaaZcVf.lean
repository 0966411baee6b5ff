/- The law OwnSure, walked. -/
import Derived.Test.YtmjffmghkfappaaZcVe
set_option linter.all false
namespace Go.Proofs.Ytmjffmghkfappaa.Zt
open Go Go.Zc
set_option maxRecDepth 10000

theorem nextP_clear {l : Lay} {was : List Int} {cl : List Bool} {vs : List Vw} {n : Nat} : nextP l was cl vs n = -2 ↔ cl.getD n false = true := by
  have hx : nextP l was cl vs n = if cl.getD n false then -2 else if was.getD n 0 = -1 then -1 else if 0 ≤ aloneF l was n ∧ holdsV l vs n (aloneF l was n) = true then aloneF l was n else -1 := rfl
  by_cases h : cl.getD n false = true
  · rw [hx, if_pos h]
    exact ⟨fun _ => h, fun _ => rfl⟩
  · rw [hx, if_neg h]
    refine ⟨fun e => absurd e ?_, fun e => absurd e h⟩
    split
    · omega
    · split
      · rename_i h2
        have := h2.1
        omega
      · omega
/-- Whose it is was somebody's: its own, or one beside it; all the others were nobody's. -/
theorem aloneR_all : ∀ (r : List Int) (w u : Int), (∀ o ∈ r, -2 ≤ o) → aloneR w r = some u → 0 ≤ u → (w = u ∨ u ∈ r) ∧ (∀ o ∈ r, o = -2 ∨ o = u) ∧ (0 ≤ w → w = u)
  | [], w, u, _, h, hu => by
    simp only [aloneR, Option.some.injEq] at h
    exact ⟨.inl h, by simp, fun _ => h⟩
  | o :: r, w, u, hr, h, hu => by
    have hr' : ∀ x ∈ r, -2 ≤ x := fun x hx => hr x (by simp [hx])
    have ho2 := hr o (by simp)
    simp only [aloneR] at h
    split at h
    · rename_i h1
      obtain ⟨a, b, c⟩ := aloneR_all r w u hr' h hu
      refine ⟨a.imp id fun h => by simp [h], fun x hx => ?_, c⟩
      rcases List.mem_cons.1 hx with rfl | hx
      · exact .inl h1
      · exact b x hx
    · split at h
      · cases h
      · rename_i h1 h2
        obtain ⟨a, b, c⟩ := aloneR_all r o u hr' h hu
        have h3 : o ≠ -1 := fun e => h2 (.inl e)
        have ho : o = u := c (by omega)
        refine ⟨.inr (by simp [ho]), fun x hx => ?_, fun hw => ?_⟩
        · rcases List.mem_cons.1 hx with rfl | hx
          · exact .inr ho
          · exact b x hx
        · rcases Classical.em (o = w) with h | h
          · omega
          · exact absurd (Or.inr ⟨hw, h⟩) h2
theorem nextP_pos {l : Lay} {was : List Int} {cl : List Bool} {vs : List Vw} {n : Nat} (hwas : ∀ i, -2 ≤ was.getD i 0) (h : 0 ≤ nextP l was cl vs n) :
    cl.getD n false = false ∧ was.getD n 0 ≠ -1 ∧ holdsV l vs n (nextP l was cl vs n) = true ∧ (was.getD n 0 = nextP l was cl vs n ∨ nextP l was cl vs n ∈ (beside l n).map fun b => was.getD b.toNat 0) ∧
    ∀ b ∈ beside l n, was.getD b.toNat 0 = -2 ∨ was.getD b.toNat 0 = nextP l was cl vs n := by
  have hx : nextP l was cl vs n = if cl.getD n false then -2 else if was.getD n 0 = -1 then -1 else if 0 ≤ aloneF l was n ∧ holdsV l vs n (aloneF l was n) = true then aloneF l was n else -1 := rfl
  by_cases h1 : cl.getD n false = true
  · rw [hx, if_pos h1] at h; omega
  · rw [if_neg h1] at hx
    by_cases h2 : was.getD n 0 = -1
    · rw [hx, if_pos h2] at h; omega
    · rw [if_neg h2] at hx
      by_cases h3 : 0 ≤ aloneF l was n ∧ holdsV l vs n (aloneF l was n) = true
      · rw [if_pos h3] at hx
        rw [hx]
        have ha : ∃ u, aloneR (was.getD n 0) ((beside l n).map fun b => was.getD b.toNat 0) = some u ∧ aloneF l was n = u := by
          unfold aloneF at h3 ⊢
          cases hr : aloneR (was.getD n 0) ((beside l n).map fun b => was.getD b.toNat 0) with
          | none => rw [hr] at h3; simp at h3
          | some u => exact ⟨u, rfl, rfl⟩
        obtain ⟨u, ha, hu⟩ := ha
        obtain ⟨a, b, _⟩ := aloneR_all _ _ u (fun o ho => by
          obtain ⟨x, _, rfl⟩ := List.mem_map.1 ho
          exact hwas _) ha (by omega)
        rw [hu] at h3 ⊢
        refine ⟨by simpa using h1, h2, h3.2, a, fun x hx => b _ (List.mem_map.2 ⟨x, hx, rfl⟩)⟩
      · rw [if_neg h3] at hx
        omega

theorem sure_in (l : Lay) (was is : List Int) (cl : List Bool) (vs : List Vw) (n : Nat) (hn : n < is.length) (u : Int) (hu : is.getD n 0 = u) (row : List CV) (hrow : CV.locs row = false) (c13 : CV) (h13 : c13.locv = false) (b : List Int) (hb : b.length ≤ 12) (hi : ∀ x ∈ b, 0 ≤ x ∧ x < was.length) (hall : ∀ x ∈ b, was.getD x.toNat 0 = -2 ∨ was.getD x.toNat 0 = u) : ∀ (s p : List Int) (fd : Bool), p ++ s = b →
    l12_OwnSure_R2 ([(5, .op (.loc 5) 0), (7, sl fV vs), (8, sl fI was), (9, sl fB cl), (10, sl fI is), (11, .int .i64 n), (12, .op (.loc 12) 0), (13, c13), (14, .bool fd), (15, sl fI b), (16, .int .i64 p.length)], ⟨[(5, layC l), (12, row)], []⟩) =
      some (.norm, [(5, .op (.loc 5) 0), (7, sl fV vs), (8, sl fI was), (9, sl fB cl), (10, sl fI is), (11, .int .i64 n), (12, .op (.loc 12) 0), (13, c13), (14, .bool (fd || s.any fun x => decide (was.getD x.toNat 0 = u)))], ⟨[(5, layC l), (12, row)], []⟩)
  | [], p, fd, hp => by
    have q := chkV_of h13
    have h1 : ¬ ((p.length : Int) < b.length) := by rw [← hp]; simp
    rw [l12_OwnSure_R2_eq]
    simp only [l12_OwnSure_B2, l12_OwnSure_K2_norm, l12_OwnSure_K2_ret, l12_OwnSure_K2_exit, q, hrow, h1, List.any_nil, y1, y2, y3, y4, y5, y6, y7, y8, y9, keepE, keepB, chk, CV.locs, CV.locv, CV.refs, CV.ref, pureOp, repC, takeN, resV, enterC, Nat.reduceAdd, Nat.reduceSub, Nat.reduceMul, Nat.reduceLeDiff, Nat.reduceLT, Nat.reduceBEq, Nat.reduceBNe, Nat.reduceEqDiff, ↓reduceIte, Int.reduceAdd, Int.reduceSub, Int.reduceMul, Int.reduceLT, Int.reduceLE, Int.reduceEq, Int.reduceNeg, Int.reduceToNat]
  | x :: s, p, fd, hp => by
    have q := chkV_of h13
    have hpl : p.length + 1 + s.length = b.length := by rw [← hp]; simp; omega
    have h1 : ((p.length : Int) < b.length) := by omega
    have hw := wrapN (n := p.length) (by unfold Zc.small; omega)
    have hia : iaddrC 1 (sl fI b) (.int .i64 p.length) = some (.vp (.int .i64 x :: s.flatMap fI)) := by rw [← hp]; exact iaddr_midI _ p s x
    obtain ⟨x0, x1⟩ := hi x (by rw [← hp]; simp)
    have hx := hall x (by rw [← hp]; simp)
    obtain ⟨m, rfl⟩ := Int.eq_ofNat_of_zero_le x0
    have hm : m < was.length := by omega
    simp only [Int.toNat_natCast] at hx
    have hgn := iaddr_getI (k := .i64) hn
    rw [hu] at hgn
    have ih := fun fd => sure_in l was is cl vs n hn u hu row hrow c13 h13 b hb hi hall s (p ++ [(m : Int)]) fd (by simpa using hp)
    rw [show (p ++ [(m : Int)]).length = p.length + 1 by simp] at ih
    rw [l12_OwnSure_R2_eq]
    simp only [List.any_cons, Int.toNat_natCast]
    by_cases h2 : was.getD m 0 = u
    · cases fd with
      | true =>
        have ih := ih true
        simp only [Bool.true_or] at ih
        simp only [l12_OwnSure_B2, l12_OwnSure_K2_norm, l12_OwnSure_K2_ret, l12_OwnSure_K2_exit, q, hrow, h1, hia, iaddr_getI hm, hgn, eq_true h2, hw, ih, y1, y2, y3, y4, y5, y6, y7, y8, y9, keepE, keepB, chk, CV.locs, CV.locv, CV.refs, CV.ref, pureOp, repC, takeN, resV, enterC, Nat.reduceAdd, Nat.reduceSub, Nat.reduceMul, Nat.reduceLeDiff, Nat.reduceLT, Nat.reduceBEq, Nat.reduceBNe, Nat.reduceEqDiff, ↓reduceIte, Int.reduceAdd, Int.reduceSub, Int.reduceMul, Int.reduceLT, Int.reduceLE, Int.reduceEq, Int.reduceNeg, Int.reduceToNat]
      | false =>
        have ih := ih true
        simp only [Bool.true_or] at ih
        simp only [l12_OwnSure_B2, l12_OwnSure_K2_norm, l12_OwnSure_K2_ret, l12_OwnSure_K2_exit, q, hrow, h1, hia, iaddr_getI hm, hgn, eq_true h2, hw, ih, y1, y2, y3, y4, y5, y6, y7, y8, y9, keepE, keepB, chk, CV.locs, CV.locv, CV.refs, CV.ref, pureOp, repC, takeN, resV, enterC, Nat.reduceAdd, Nat.reduceSub, Nat.reduceMul, Nat.reduceLeDiff, Nat.reduceLT, Nat.reduceBEq, Nat.reduceBNe, Nat.reduceEqDiff, ↓reduceIte, Int.reduceAdd, Int.reduceSub, Int.reduceMul, Int.reduceLT, Int.reduceLE, Int.reduceEq, Int.reduceNeg, Int.reduceToNat]
    · have h3 : was.getD m 0 = -2 := by
        rcases hx with h | h
        · exact h
        · exact absurd h h2
      rw [h3] at h2
      cases fd with
      | true =>
        have ih := ih true
        simp only [Bool.true_or] at ih
        simp only [l12_OwnSure_B2, l12_OwnSure_K2_norm, l12_OwnSure_K2_ret, l12_OwnSure_K2_exit, q, hrow, h1, hia, iaddr_getI hm, hgn, h3, eq_false h2, hw, ih, y1, y2, y3, y4, y5, y6, y7, y8, y9, keepE, keepB, chk, CV.locs, CV.locv, CV.refs, CV.ref, pureOp, repC, takeN, resV, enterC, Nat.reduceAdd, Nat.reduceSub, Nat.reduceMul, Nat.reduceLeDiff, Nat.reduceLT, Nat.reduceBEq, Nat.reduceBNe, Nat.reduceEqDiff, ↓reduceIte, Int.reduceAdd, Int.reduceSub, Int.reduceMul, Int.reduceLT, Int.reduceLE, Int.reduceEq, Int.reduceNeg, Int.reduceToNat]
      | false =>
        have ih := ih false
        simp only [Bool.false_or] at ih
        simp only [l12_OwnSure_B2, l12_OwnSure_K2_norm, l12_OwnSure_K2_ret, l12_OwnSure_K2_exit, q, hrow, h1, hia, iaddr_getI hm, hgn, h3, eq_false h2, hw, ih, y1, y2, y3, y4, y5, y6, y7, y8, y9, keepE, keepB, chk, CV.locs, CV.locv, CV.refs, CV.ref, pureOp, repC, takeN, resV, enterC, Nat.reduceAdd, Nat.reduceSub, Nat.reduceMul, Nat.reduceLeDiff, Nat.reduceLT, Nat.reduceBEq, Nat.reduceBNe, Nat.reduceEqDiff, ↓reduceIte, Int.reduceAdd, Int.reduceSub, Int.reduceMul, Int.reduceLT, Int.reduceLE, Int.reduceEq, Int.reduceNeg, Int.reduceToNat]

theorem ownNext_get (l : Lay) (was : List Int) (cl : List Bool) (vs : List Vw) {n : Nat} (hn : n < l.parts.length) : (ownNext l was cl vs).getD n 0 = nextP l was cl vs n := by
  have h : n < (upF (nextP l was cl vs) l.parts.length 0).length := by rw [upF_len]; exact hn
  have := upF_get (nextP l was cl vs) l.parts.length 0 n h
  rw [Nat.zero_add] at this
  unfold ownNext
  rw [List.getD, List.getElem?_eq_getElem h]
  exact this
theorem owners_ge (l : Lay) (f : Fld) (hf : f.ok) (i : Nat) : -2 ≤ (ownersL l f).getD i 0 := by
  by_cases h : i < (ownersL l f).length
  · have h' : i < (upF (fun i => (if i < f.own.length then f.own.getD i 0 % 5 else 0) - 2) l.parts.length 0).length := h
    have := upF_get (fun i => (if i < f.own.length then f.own.getD i 0 % 5 else 0) - 2) l.parts.length 0 i h'
    rw [List.getD, List.getElem?_eq_getElem h]
    show -2 ≤ (upF (fun i => (if i < f.own.length then f.own.getD i 0 % 5 else 0) - 2) l.parts.length 0)[i]
    rw [this]
    split <;> omega
  · rw [List.getD, List.getElem?_eq_none (Nat.le_of_not_lt h)]
    simp

set_option maxHeartbeats 4000000 in
theorem sure_loop (l : Lay) (hl : l.ok) (hB : BsOk l) (was : List Int) (hw : was.length = l.parts.length) (hwas : ∀ i, -2 ≤ was.getD i 0) (cl : List Bool) (hc : cl.length = l.parts.length) (vs : List Vw) (hv : VsOk vs) : ∀ (k n : Nat), n + k = l.parts.length →
    l12_OwnSure_R0 ([(5, .op (.loc 5) 0), (7, sl fV vs), (8, sl fI was), (9, sl fB cl), (10, sl fI (ownNext l was cl vs)), (11, .int .i64 n)], ⟨[(5, layC l)], []⟩) = some (.norm, [], ⟨[], []⟩)
  | 0, n, hn => by
    have hnl := ownNext_len l was cl vs
    have h1 : ¬ ((n : Int) < (ownNext l was cl vs).length) := by omega
    rw [l12_OwnSure_R0_eq]
    simp only [l12_OwnSure_B0, l12_OwnSure_K0_norm, l12_OwnSure_K0_ret, l12_OwnSure_K0_exit, h1, y1, y2, y3, y4, y5, y6, y7, y8, y9, keepE, keepB, chk, CV.locs, CV.locv, CV.refs, CV.ref, pureOp, repC, takeN, resV, enterC, Nat.reduceAdd, Nat.reduceSub, Nat.reduceMul, Nat.reduceLeDiff, Nat.reduceLT, Nat.reduceBEq, Nat.reduceBNe, Nat.reduceEqDiff, ↓reduceIte, Int.reduceAdd, Int.reduceSub, Int.reduceMul, Int.reduceLT, Int.reduceLE, Int.reduceEq, Int.reduceNeg, Int.reduceToNat]
  | k + 1, n, hn => by
    have hnl := ownNext_len l was cl vs
    have hpl := hl.parts
    have hnp : n < l.parts.length := by omega
    have h1 : ((n : Int) < (ownNext l was cl vs).length) := by omega
    have hwn := wrapN (n := n) (by omega)
    have ih := sure_loop l hl hB was hw hwas cl hc vs hv k (n + 1) (by omega)
    have hni : n < (ownNext l was cl vs).length := by omega
    have hgi := iaddr_getI (k := .i64) hni
    rw [ownNext_get l was cl vs hnp] at hgi
    have hgw := iaddr_getI (k := .i64) (l := was) (i := n) (by omega)
    have hgc := iaddr_getB (k := .i64) (l := cl) (i := n) (by omega)
    by_cases hpos : 0 ≤ nextP l was cl vs n
    · obtain ⟨a1, a2, a3, a4, a5⟩ := nextP_pos hwas hpos
      obtain ⟨u, hu⟩ : ∃ u, nextP l was cl vs n = u := ⟨_, rfl⟩
      rw [hu] at hgi hpos a3 a4 a5
      have hun : ¬ (u = -2) := by omega
      have hul : ¬ (u < 0) := by omega
      have hG := fun H => beside_F l hl n (hB.1 n) H
      unfold holdsV at a3
      cases hfv : findV vs u with
      | none => rw [hfv] at a3; cases a3
      | some v =>
        rw [hfv] at a3
        simp only [Bool.and_eq_true] at a3
        have hF := fun bx bl => rfind_F vs (by have := hv.len; omega) u bx bl
        simp only [hfv, viewC, fV, a3.1] at hF
        have hsp := hv.span v (findV_mem hfv).1
        have hM := fun st H => rmeets_F v.span l.parts[n] (by omega) (hl.part _ (List.getElem_mem hnp)) st H
        rw [parts_getD hnp] at a3
        simp only [a3.2] at hM
        have hin := fun fd => sure_in l was (ownNext l was cl vs) cl vs n hni u (by rw [ownNext_get l was cl vs hnp, hu]) [.int .i64 v.id, .bool true, sl fI v.span] rfl (.bool true) rfl (beside l n) (bs_len hB n) (fun x hx => by have := hB.2 n x hx; omega) a5 (beside l n) [] fd rfl
        simp only [List.nil_append, List.length_nil, Int.natCast_zero] at hin
        rw [l12_OwnSure_R0_eq]
        by_cases a6 : was.getD n 0 = u
        · have hin := hin true
          simp only [Bool.true_or] at hin
          have a2' : ¬ (u = -1) := by rw [← a6]; exact a2
          simp only [l12_OwnSure_B0, l12_OwnSure_K0_norm, l12_OwnSure_K0_ret, l12_OwnSure_K0_exit, l12_OwnSure_L2_eq, h1, hgi, hgc, a1, hgw, a6, eq_false hun, eq_false a2', eq_false hul, r12_Find_call, hF, r05_Beside_call, hG, hin, iaddr_atL hnp, r11_Meets_call, hM, hwn, ih, y1, y2, y3, y4, y5, y6, y7, y8, y9, keepE, keepB, chk, CV.locs, CV.locv, CV.refs, CV.ref, pureOp, repC, takeN, resV, enterC, Nat.reduceAdd, Nat.reduceSub, Nat.reduceMul, Nat.reduceLeDiff, Nat.reduceLT, Nat.reduceBEq, Nat.reduceBNe, Nat.reduceEqDiff, ↓reduceIte, Int.reduceAdd, Int.reduceSub, Int.reduceMul, Int.reduceLT, Int.reduceLE, Int.reduceEq, Int.reduceNeg, Int.reduceToNat]
        · have hany : ((beside l n).any fun x => decide (was.getD x.toNat 0 = u)) = true := by
            rcases a4 with h | h
            · exact absurd h a6
            · obtain ⟨x, hx, e⟩ := List.mem_map.1 h
              rw [List.any_eq_true]
              exact ⟨x, hx, by simpa using e⟩
          have hin := hin false
          simp only [hany, Bool.false_or] at hin
          simp only [l12_OwnSure_B0, l12_OwnSure_K0_norm, l12_OwnSure_K0_ret, l12_OwnSure_K0_exit, l12_OwnSure_L2_eq, h1, hgi, hgc, a1, hgw, eq_false a6, eq_false hun, eq_false a2, eq_false hul, r12_Find_call, hF, r05_Beside_call, hG, hin, iaddr_atL hnp, r11_Meets_call, hM, hwn, ih, y1, y2, y3, y4, y5, y6, y7, y8, y9, keepE, keepB, chk, CV.locs, CV.locv, CV.refs, CV.ref, pureOp, repC, takeN, resV, enterC, Nat.reduceAdd, Nat.reduceSub, Nat.reduceMul, Nat.reduceLeDiff, Nat.reduceLT, Nat.reduceBEq, Nat.reduceBNe, Nat.reduceEqDiff, ↓reduceIte, Int.reduceAdd, Int.reduceSub, Int.reduceMul, Int.reduceLT, Int.reduceLE, Int.reduceEq, Int.reduceNeg, Int.reduceToNat]
    · have hlt : nextP l was cl vs n < 0 := by omega
      rw [l12_OwnSure_R0_eq]
      by_cases a1 : cl.getD n false = true
      · have hx := (nextP_clear (l := l) (was := was) (vs := vs)).2 a1
        rw [hx] at hgi
        by_cases a2 : was.getD n 0 = -1
        · simp only [l12_OwnSure_B0, l12_OwnSure_K0_norm, l12_OwnSure_K0_ret, l12_OwnSure_K0_exit, h1, hgi, hgc, a1, hgw, a2, hwn, ih, y1, y2, y3, y4, y5, y6, y7, y8, y9, keepE, keepB, chk, CV.locs, CV.locv, CV.refs, CV.ref, pureOp, repC, takeN, resV, enterC, Nat.reduceAdd, Nat.reduceSub, Nat.reduceMul, Nat.reduceLeDiff, Nat.reduceLT, Nat.reduceBEq, Nat.reduceBNe, Nat.reduceEqDiff, ↓reduceIte, Int.reduceAdd, Int.reduceSub, Int.reduceMul, Int.reduceLT, Int.reduceLE, Int.reduceEq, Int.reduceNeg, Int.reduceToNat]
        · simp only [l12_OwnSure_B0, l12_OwnSure_K0_norm, l12_OwnSure_K0_ret, l12_OwnSure_K0_exit, h1, hgi, hgc, a1, hgw, eq_false a2, hwn, ih, y1, y2, y3, y4, y5, y6, y7, y8, y9, keepE, keepB, chk, CV.locs, CV.locv, CV.refs, CV.ref, pureOp, repC, takeN, resV, enterC, Nat.reduceAdd, Nat.reduceSub, Nat.reduceMul, Nat.reduceLeDiff, Nat.reduceLT, Nat.reduceBEq, Nat.reduceBNe, Nat.reduceEqDiff, ↓reduceIte, Int.reduceAdd, Int.reduceSub, Int.reduceMul, Int.reduceLT, Int.reduceLE, Int.reduceEq, Int.reduceNeg, Int.reduceToNat]
      · have a1' : cl.getD n false = false := by simpa using a1
        have hne : nextP l was cl vs n ≠ -2 := fun e => a1 (nextP_clear.1 e)
        by_cases a2 : was.getD n 0 = -1
        · have hx : nextP l was cl vs n = -1 := by simp only [nextP, a1', a2, Bool.false_eq_true, if_false, if_true]
          rw [hx] at hgi
          simp only [l12_OwnSure_B0, l12_OwnSure_K0_norm, l12_OwnSure_K0_ret, l12_OwnSure_K0_exit, h1, hgi, hgc, a1', hgw, a2, hwn, ih, y1, y2, y3, y4, y5, y6, y7, y8, y9, keepE, keepB, chk, CV.locs, CV.locv, CV.refs, CV.ref, pureOp, repC, takeN, resV, enterC, Nat.reduceAdd, Nat.reduceSub, Nat.reduceMul, Nat.reduceLeDiff, Nat.reduceLT, Nat.reduceBEq, Nat.reduceBNe, Nat.reduceEqDiff, ↓reduceIte, Int.reduceAdd, Int.reduceSub, Int.reduceMul, Int.reduceLT, Int.reduceLE, Int.reduceEq, Int.reduceNeg, Int.reduceToNat]
        · simp only [l12_OwnSure_B0, l12_OwnSure_K0_norm, l12_OwnSure_K0_ret, l12_OwnSure_K0_exit, h1, hgi, hgc, a1', hgw, eq_false a2, eq_false hne, eq_true hlt, hwn, ih, y1, y2, y3, y4, y5, y6, y7, y8, y9, keepE, keepB, chk, CV.locs, CV.locv, CV.refs, CV.ref, pureOp, repC, takeN, resV, enterC, Nat.reduceAdd, Nat.reduceSub, Nat.reduceMul, Nat.reduceLeDiff, Nat.reduceLT, Nat.reduceBEq, Nat.reduceBNe, Nat.reduceEqDiff, ↓reduceIte, Int.reduceAdd, Int.reduceSub, Int.reduceMul, Int.reduceLT, Int.reduceLE, Int.reduceEq, Int.reduceNeg, Int.reduceToNat]

set_option maxHeartbeats 1000000 in
theorem ownSure_F (d : Draft) (hd : d.ok) (f : Fld) (hf : f.ok) (st : Bool) (H : Heap) : l12_OwnSure_F st H [.agg (draftC d), .agg (fieldC f)] = some (.bool true, H) := by
  rw [l12_OwnSure_F_eq]
  have hc := comes_F
  have hsF := fun st H => small_F d hd st H
  have hfF := fun st H => few_F f hf st H
  cases hs : d.small with
  | false =>
    simp only [hs] at hsF
    simp only [l12_OwnSure_C, l12_comes_call, hc, r04_Small_call, hsF, y1, y2, y3, y4, y5, y6, y7, y8, y9, keepE, keepB, chk, CV.locs, CV.locv, CV.refs, CV.ref, pureOp, repC, takeN, resV, enterC, Nat.reduceAdd, Nat.reduceSub, Nat.reduceMul, Nat.reduceLeDiff, Nat.reduceLT, Nat.reduceBEq, Nat.reduceBNe, Nat.reduceEqDiff, ↓reduceIte, Int.reduceAdd, Int.reduceSub, Int.reduceMul, Int.reduceLT, Int.reduceLE, Int.reduceEq, Int.reduceNeg, Int.reduceToNat]
  | true =>
    simp only [hs] at hsF
    cases hw : f.few with
    | false =>
      simp only [hw] at hfF
      simp only [l12_OwnSure_C, l12_comes_call, hc, r04_Small_call, hsF, l12_few_call, hfF, y1, y2, y3, y4, y5, y6, y7, y8, y9, keepE, keepB, chk, CV.locs, CV.locv, CV.refs, CV.ref, pureOp, repC, takeN, resV, enterC, Nat.reduceAdd, Nat.reduceSub, Nat.reduceMul, Nat.reduceLeDiff, Nat.reduceLT, Nat.reduceBEq, Nat.reduceBNe, Nat.reduceEqDiff, ↓reduceIte, Int.reduceAdd, Int.reduceSub, Int.reduceMul, Int.reduceLT, Int.reduceLE, Int.reduceEq, Int.reduceNeg, Int.reduceToNat]
    | true =>
      simp only [hw] at hfF
      have hok := full_ok d
      have hg := full_good d hok
      have hB := full_bs d hd
      have hv := vs_ok (full d) hw
      have g1 := fun H => views_F (full d) hok hg.pos f hf hw H
      have g2 := fun st H => owners_F (full d) hok f hf st H
      have g3 := fun st H => clear_F (full d) hok f st H
      have g4 := fun st H => onext_F (full d) hok hB (ownersL (full d) f) (ownersL_len _ _) (clearL (full d) f) (clearL_len _ _) (viewsF (full d) f) hv st H
      have hnl := ownNext_len (full d) (ownersL (full d) f) (clearL (full d) f) (viewsF (full d) f)
      have hnl' : (((ownNext (full d) (ownersL (full d) f) (clearL (full d) f) (viewsF (full d) f)).length : Nat) : Int) = (full d).parts.length := by omega
      have hL := sure_loop (full d) hok hB (ownersL (full d) f) (ownersL_len _ _) (owners_ge (full d) f hf) (clearL (full d) f) (clearL_len _ _) (viewsF (full d) f) hv (full d).parts.length 0 (by omega)
      simp only [Int.natCast_zero] at hL
      simp only [l12_OwnSure_C, l12_OwnSure_L0_eq, l12_comes_call, hc, r04_Small_call, hsF, l12_few_call, hfF, r05_Full_call, full_F d hd, l12_views_call, g1, l12_owners_call, g2, l12_clear_call, g3, own_Next_call, g4, eq_true hnl', hL, y1, y2, y3, y4, y5, y6, y7, y8, y9, keepE, keepB, chk, CV.locs, CV.locv, CV.refs, CV.ref, pureOp, repC, takeN, resV, enterC, Nat.reduceAdd, Nat.reduceSub, Nat.reduceMul, Nat.reduceLeDiff, Nat.reduceLT, Nat.reduceBEq, Nat.reduceBNe, Nat.reduceEqDiff, ↓reduceIte, Int.reduceAdd, Int.reduceSub, Int.reduceMul, Int.reduceLT, Int.reduceLE, Int.reduceEq, Int.reduceNeg, Int.reduceToNat]
end Go.Proofs.Ytmjffmghkfappaa.Zt
