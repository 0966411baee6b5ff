/- Walks: whose each part is, behind whatever was. -/
import Derived.Test.YtmjffmghkfappaaZcVa
set_option linter.all false
namespace Go.Proofs.Ytmjffmghkfappaa.Zt
open Go Go.Zc
set_option maxRecDepth 10000

theorem iaddr_getI {k : IntKind} {l : List Int} {i : Nat} (h : i < l.length) : iaddrC 1 (sl fI l) (.int k i) = some (.vp (.int .i64 (l.getD i 0) :: (l.drop (i + 1)).flatMap fI)) := by
  rw [iaddr_atI h]; simp [List.getD, h]
theorem iaddr_getB {k : IntKind} {l : List Bool} {i : Nat} (h : i < l.length) : iaddrC 1 (sl fB l) (.int k i) = some (.vp (.bool (l.getD i false) :: (l.drop (i + 1)).flatMap fB)) := by
  rw [iaddr_sl flatB.len flatB.pos h]; simp [List.getD, h, fB]

/-- What is beside each part is a part. -/
def BsOk (l : Lay) : Prop := (∀ pt q, partIx l pt = some q → (besideL l pt q).length ≤ 12) ∧ ∀ pt b, b ∈ beside l pt → 0 ≤ b ∧ b < l.parts.length
theorem bs_len {l : Lay} (h : BsOk l) (p : Int) : (beside l p).length ≤ 12 := by
  unfold beside
  cases hq : partIx l p with
  | none => simp
  | some q =>
    have h1 := h.1 p q hq
    have h2 := nodup_le (rise_nodup (besideL l p q)) (b := besideL l p q) fun y hy => (rise_mem _ y).1 hy
    simp only
    omega
theorem full_bs (d : Draft) (hd : d.ok) : BsOk (full d) := ⟨full_beside d hd, fun _ _ h => (full_besides d hd h).2.2⟩

theorem alone_loop (was : List Int) (b : List Int) (hb : b.length ≤ 12) (hi : ∀ x ∈ b, 0 ≤ x ∧ x < was.length) : ∀ (s p : List Int) (w : Int), p ++ s = b →
    own_alone_R0 ([(1, sl fI was), (7, .int .i64 w), (17, sl fI b), (18, .int .i64 b.length), (19, .int .i64 p.length)], ⟨[], []⟩) =
      match aloneR w (s.map fun b => was.getD b.toNat 0) with
      | some w' => some (.norm, [(7, .int .i64 w')], ⟨[], []⟩)
      | none => some (.ret, [(6, .int .i64 (-1))], ⟨[], []⟩)
  | [], p, w, hp => by
    have h1 : ¬ ((p.length : Int) < b.length) := by rw [← hp]; simp
    rw [own_alone_R0_eq]
    simp only [own_alone_B0, own_alone_K0_norm, own_alone_K0_ret, own_alone_K0_exit, h1, List.map_nil, aloneR, y1, y2, y3, y4, y5, y6, y7, y8, y9, keepE, keepB, chk, CV.locs, CV.locv, CV.refs, CV.ref, pureOp, repC, takeN, resV, enterC, Nat.reduceAdd, Nat.reduceSub, Nat.reduceMul, Nat.reduceLeDiff, Nat.reduceLT, Nat.reduceBEq, Nat.reduceBNe, Nat.reduceEqDiff, ↓reduceIte, Int.reduceAdd, Int.reduceSub, Int.reduceMul, Int.reduceLT, Int.reduceLE, Int.reduceEq, Int.reduceNeg, Int.reduceToNat]
  | x :: s, p, w, hp => by
    have hpl : p.length + 1 + s.length = b.length := by rw [← hp]; simp; omega
    have h1 : ((p.length : Int) < b.length) := by omega
    have hw := wrapN (n := p.length) (by unfold Zc.small; omega)
    have hia : iaddrC 1 (sl fI b) (.int .i64 p.length) = some (.vp (.int .i64 x :: s.flatMap fI)) := by rw [← hp]; exact iaddr_midI _ p s x
    obtain ⟨x0, x1⟩ := hi x (by rw [← hp]; simp)
    obtain ⟨n, rfl⟩ := Int.eq_ofNat_of_zero_le x0
    have hn : n < was.length := by omega
    have ih := fun w => alone_loop was b hb hi s (p ++ [(n : Int)]) w (by simpa using hp)
    rw [show (p ++ [(n : Int)]).length = p.length + 1 by simp] at ih
    rw [own_alone_R0_eq]
    simp only [List.map_cons, Int.toNat_natCast, aloneR]
    by_cases a1 : was.getD n 0 = -2
    · simp only [own_alone_B0, own_alone_K0_norm, own_alone_K0_ret, own_alone_K0_exit, h1, hia, iaddr_getI hn, eq_true a1, hw, ih, y1, y2, y3, y4, y5, y6, y7, y8, y9, keepE, keepB, chk, CV.locs, CV.locv, CV.refs, CV.ref, pureOp, repC, takeN, resV, enterC, Nat.reduceAdd, Nat.reduceSub, Nat.reduceMul, Nat.reduceLeDiff, Nat.reduceLT, Nat.reduceBEq, Nat.reduceBNe, Nat.reduceEqDiff, ↓reduceIte, Int.reduceAdd, Int.reduceSub, Int.reduceMul, Int.reduceLT, Int.reduceLE, Int.reduceEq, Int.reduceNeg, Int.reduceToNat]
    · by_cases a2 : was.getD n 0 = -1
      · simp only [own_alone_B0, own_alone_K0_norm, own_alone_K0_ret, own_alone_K0_exit, h1, hia, iaddr_getI hn, eq_false a1, eq_true a2, hw, y1, y2, y3, y4, y5, y6, y7, y8, y9, keepE, keepB, chk, CV.locs, CV.locv, CV.refs, CV.ref, pureOp, repC, takeN, resV, enterC, Nat.reduceAdd, Nat.reduceSub, Nat.reduceMul, Nat.reduceLeDiff, Nat.reduceLT, Nat.reduceBEq, Nat.reduceBNe, Nat.reduceEqDiff, ↓reduceIte, Int.reduceAdd, Int.reduceSub, Int.reduceMul, Int.reduceLT, Int.reduceLE, Int.reduceEq, Int.reduceNeg, Int.reduceToNat]
      · by_cases a3 : 0 ≤ w
        · by_cases a4 : was.getD n 0 = w
          · simp only [own_alone_B0, own_alone_K0_norm, own_alone_K0_ret, own_alone_K0_exit, h1, hia, iaddr_getI hn, eq_false a1, eq_false a2, eq_true a3, eq_true a4, hw, ih, y1, y2, y3, y4, y5, y6, y7, y8, y9, keepE, keepB, chk, CV.locs, CV.locv, CV.refs, CV.ref, pureOp, repC, takeN, resV, enterC, Nat.reduceAdd, Nat.reduceSub, Nat.reduceMul, Nat.reduceLeDiff, Nat.reduceLT, Nat.reduceBEq, Nat.reduceBNe, Nat.reduceEqDiff, ↓reduceIte, Int.reduceAdd, Int.reduceSub, Int.reduceMul, Int.reduceLT, Int.reduceLE, Int.reduceEq, Int.reduceNeg, Int.reduceToNat]
          · simp only [own_alone_B0, own_alone_K0_norm, own_alone_K0_ret, own_alone_K0_exit, h1, hia, iaddr_getI hn, eq_false a1, eq_false a2, eq_true a3, eq_false a4, hw, y1, y2, y3, y4, y5, y6, y7, y8, y9, keepE, keepB, chk, CV.locs, CV.locv, CV.refs, CV.ref, pureOp, repC, takeN, resV, enterC, Nat.reduceAdd, Nat.reduceSub, Nat.reduceMul, Nat.reduceLeDiff, Nat.reduceLT, Nat.reduceBEq, Nat.reduceBNe, Nat.reduceEqDiff, ↓reduceIte, Int.reduceAdd, Int.reduceSub, Int.reduceMul, Int.reduceLT, Int.reduceLE, Int.reduceEq, Int.reduceNeg, Int.reduceToNat]
        · simp only [own_alone_B0, own_alone_K0_norm, own_alone_K0_ret, own_alone_K0_exit, h1, hia, iaddr_getI hn, eq_false a1, eq_false a2, eq_false a3, hw, ih, y1, y2, y3, y4, y5, y6, y7, y8, y9, keepE, keepB, chk, CV.locs, CV.locv, CV.refs, CV.ref, pureOp, repC, takeN, resV, enterC, Nat.reduceAdd, Nat.reduceSub, Nat.reduceMul, Nat.reduceLeDiff, Nat.reduceLT, Nat.reduceBEq, Nat.reduceBNe, Nat.reduceEqDiff, ↓reduceIte, Int.reduceAdd, Int.reduceSub, Int.reduceMul, Int.reduceLT, Int.reduceLE, Int.reduceEq, Int.reduceNeg, Int.reduceToNat]

theorem alone_F (l : Lay) (hl : l.ok) (hB : BsOk l) (was : List Int) (hw : was.length = l.parts.length) (i : Nat) (hi : i < l.parts.length) (st : Bool) (H : Heap) :
    own_alone_F st H [.vp (layC l), sl fI was, .int .i64 i] = some (.int .i64 (aloneF l was i), H) := by
  have e := alone_loop was (beside l i) (bs_len hB i) (fun x hx => by have := hB.2 i x hx; omega) (beside l i) [] (was.getD i 0) rfl
  simp only [List.nil_append, List.length_nil, Int.natCast_zero] at e
  have hg := fun st H => gbeside_F l hl i (hB.1 i) st H
  have hiw : i < was.length := by omega
  rw [own_alone_F_eq]
  cases ha : aloneR (was.getD i 0) ((beside l i).map fun b => was.getD b.toNat 0) with
  | none =>
    have hf : aloneF l was i = -1 := by simp only [aloneF, ha, Option.getD_none]
    simp only [ha] at e
    simp only [own_alone_C, own_alone_L0_eq, iaddr_getI hiw, graph_Graph_Beside_call, hg, e, hf, y1, y2, y3, y4, y5, y6, y7, y8, y9, keepE, keepB, chk, CV.locs, CV.locv, CV.refs, CV.ref, pureOp, repC, takeN, resV, enterC, Nat.reduceAdd, Nat.reduceSub, Nat.reduceMul, Nat.reduceLeDiff, Nat.reduceLT, Nat.reduceBEq, Nat.reduceBNe, Nat.reduceEqDiff, ↓reduceIte, Int.reduceAdd, Int.reduceSub, Int.reduceMul, Int.reduceLT, Int.reduceLE, Int.reduceEq, Int.reduceNeg, Int.reduceToNat]
  | some w =>
    have hf : aloneF l was i = w := by simp only [aloneF, ha, Option.getD_some]
    simp only [ha] at e
    simp only [own_alone_C, own_alone_L0_eq, iaddr_getI hiw, graph_Graph_Beside_call, hg, e, hf, y1, y2, y3, y4, y5, y6, y7, y8, y9, keepE, keepB, chk, CV.locs, CV.locv, CV.refs, CV.ref, pureOp, repC, takeN, resV, enterC, Nat.reduceAdd, Nat.reduceSub, Nat.reduceMul, Nat.reduceLeDiff, Nat.reduceLT, Nat.reduceBEq, Nat.reduceBNe, Nat.reduceEqDiff, ↓reduceIte, Int.reduceAdd, Int.reduceSub, Int.reduceMul, Int.reduceLT, Int.reduceLE, Int.reduceEq, Int.reduceNeg, Int.reduceToNat]

set_option maxHeartbeats 1000000 in
theorem onext_loop (l : Lay) (hl : l.ok) (hB : BsOk l) (was : List Int) (hw : was.length = l.parts.length) (cl : List Bool) (hc : cl.length = l.parts.length) (vs : List Vw) (hv : VsOk vs) : ∀ (k n : Nat) (acc : List Int) (v : CV) (bl : List Blk), n + k = l.parts.length → acc.length = n → Own fI 1 bl v acc →
    ∃ v' bl', own_Next_R0 ([(1, sl fI was), (2, sl fB cl), (3, sl fV vs), (4, .op (.loc 4) 0), (9, .vp (layC l)), (10, v), (18, .int .i64 l.parts.length), (19, .int .i64 n)], ⟨[(4, layC l)], bl⟩) = some (.norm, [(10, v')], ⟨[], bl'⟩) ∧ Own fI 1 bl' v' (acc ++ upF (nextP l was cl vs) k n)
  | 0, n, acc, v, bl, hn, ha, hO => by
    have h1 : ¬ ((n : Int) < l.parts.length) := by omega
    refine ⟨v, bl, ?_, by simpa [upF] using hO⟩
    rw [own_Next_R0_eq]
    simp only [own_Next_B0, own_Next_K0_norm, own_Next_K0_ret, own_Next_K0_exit, h1, hO.chkV, y1, y2, y3, y4, y5, y6, y7, y8, y9, keepE, keepB, chk, CV.locs, CV.locv, CV.refs, CV.ref, pureOp, repC, takeN, resV, enterC, Nat.reduceAdd, Nat.reduceSub, Nat.reduceMul, Nat.reduceLeDiff, Nat.reduceLT, Nat.reduceBEq, Nat.reduceBNe, Nat.reduceEqDiff, ↓reduceIte, Int.reduceAdd, Int.reduceSub, Int.reduceMul, Int.reduceLT, Int.reduceLE, Int.reduceEq, Int.reduceNeg, Int.reduceToNat]
  | k + 1, n, acc, v, bl, hn, ha, hO => by
    have h1 : ((n : Int) < l.parts.length) := by omega
    have hpl := hl.parts
    have hwn := wrapN (n := n) (by omega)
    have hnw : n < was.length := by omega
    have hnc : n < cl.length := by omega
    obtain ⟨v1, bl1, e1, o1, _⟩ := hO.app1 flatI (bytes := 8) (zero := [.int .i64 0]) (by decide) rfl rfl (nextP l was cl vs n) (by unfold Zc.small at hpl; omega)
    obtain ⟨v', bl', e, o⟩ := onext_loop l hl hB was hw cl hc vs hv k (n + 1) _ v1 bl1 (by omega) (by simp; omega) o1
    refine ⟨v', bl', ?_, by simpa [upF] using o⟩
    simp only [fI] at e1
    have hA := fun st H => alone_F l hl hB was hw n (by omega) st H
    have hH := fun id st H => oholds_F l hl vs hv n (by omega) id st H
    rw [own_Next_R0_eq]
    by_cases a1 : cl.getD n false = true
    · have hx : nextP l was cl vs n = -2 := by simp only [nextP, a1, if_true]
      rw [hx] at e1
      simp only [own_Next_B0, own_Next_K0_norm, own_Next_K0_ret, own_Next_K0_exit, h1, iaddr_getB hnc, eq_true a1, a1, hwn, hO.chkV, e1, o1.chkV, e, y1, y2, y3, y4, y5, y6, y7, y8, y9, keepE, keepB, chk, CV.locs, CV.locv, CV.refs, CV.ref, pureOp, repC, takeN, resV, enterC, Nat.reduceAdd, Nat.reduceSub, Nat.reduceMul, Nat.reduceLeDiff, Nat.reduceLT, Nat.reduceBEq, Nat.reduceBNe, Nat.reduceEqDiff, ↓reduceIte, Int.reduceAdd, Int.reduceSub, Int.reduceMul, Int.reduceLT, Int.reduceLE, Int.reduceEq, Int.reduceNeg, Int.reduceToNat]
    · have a1' : cl.getD n false = false := by simpa using a1
      by_cases a2 : was.getD n 0 = -1
      · have hx : nextP l was cl vs n = -1 := by simp only [nextP, a1', a2, Bool.false_eq_true, if_false, if_true]
        rw [hx] at e1
        simp only [own_Next_B0, own_Next_K0_norm, own_Next_K0_ret, own_Next_K0_exit, h1, iaddr_getB hnc, a1', iaddr_getI hnw, eq_true a2, hwn, hO.chkV, e1, o1.chkV, e, y1, y2, y3, y4, y5, y6, y7, y8, y9, keepE, keepB, chk, CV.locs, CV.locv, CV.refs, CV.ref, pureOp, repC, takeN, resV, enterC, Nat.reduceAdd, Nat.reduceSub, Nat.reduceMul, Nat.reduceLeDiff, Nat.reduceLT, Nat.reduceBEq, Nat.reduceBNe, Nat.reduceEqDiff, ↓reduceIte, Int.reduceAdd, Int.reduceSub, Int.reduceMul, Int.reduceLT, Int.reduceLE, Int.reduceEq, Int.reduceNeg, Int.reduceToNat]
      · by_cases a3 : 0 ≤ aloneF l was n
        · cases a4 : holdsV l vs n (aloneF l was n) with
          | true =>
            have hx : nextP l was cl vs n = aloneF l was n := by simp only [nextP, a1', a2, a3, a4, Bool.false_eq_true, if_false, if_true, and_self]
            rw [hx] at e1
            have hH' := fun st H => hH (aloneF l was n) st H
            simp only [a4] at hH'
            simp only [own_Next_B0, own_Next_K0_norm, own_Next_K0_ret, own_Next_K0_exit, h1, iaddr_getB hnc, a1', iaddr_getI hnw, eq_false a2, own_alone_call, hA, eq_true a3, own_holds_call, hH', hwn, hO.chkV, e1, o1.chkV, e, y1, y2, y3, y4, y5, y6, y7, y8, y9, keepE, keepB, chk, CV.locs, CV.locv, CV.refs, CV.ref, pureOp, repC, takeN, resV, enterC, Nat.reduceAdd, Nat.reduceSub, Nat.reduceMul, Nat.reduceLeDiff, Nat.reduceLT, Nat.reduceBEq, Nat.reduceBNe, Nat.reduceEqDiff, ↓reduceIte, Int.reduceAdd, Int.reduceSub, Int.reduceMul, Int.reduceLT, Int.reduceLE, Int.reduceEq, Int.reduceNeg, Int.reduceToNat]
          | false =>
            have hx : nextP l was cl vs n = -1 := by simp only [nextP, a1', a2, a4, Bool.false_eq_true, if_false, and_false]
            rw [hx] at e1
            have hH' := fun st H => hH (aloneF l was n) st H
            simp only [a4] at hH'
            simp only [own_Next_B0, own_Next_K0_norm, own_Next_K0_ret, own_Next_K0_exit, h1, iaddr_getB hnc, a1', iaddr_getI hnw, eq_false a2, own_alone_call, hA, eq_true a3, own_holds_call, hH', hwn, hO.chkV, e1, o1.chkV, e, y1, y2, y3, y4, y5, y6, y7, y8, y9, keepE, keepB, chk, CV.locs, CV.locv, CV.refs, CV.ref, pureOp, repC, takeN, resV, enterC, Nat.reduceAdd, Nat.reduceSub, Nat.reduceMul, Nat.reduceLeDiff, Nat.reduceLT, Nat.reduceBEq, Nat.reduceBNe, Nat.reduceEqDiff, ↓reduceIte, Int.reduceAdd, Int.reduceSub, Int.reduceMul, Int.reduceLT, Int.reduceLE, Int.reduceEq, Int.reduceNeg, Int.reduceToNat]
        · have hx : nextP l was cl vs n = -1 := by simp only [nextP, a1', a2, a3, Bool.false_eq_true, if_false, false_and]
          rw [hx] at e1
          simp only [own_Next_B0, own_Next_K0_norm, own_Next_K0_ret, own_Next_K0_exit, h1, iaddr_getB hnc, a1', iaddr_getI hnw, eq_false a2, own_alone_call, hA, eq_false a3, hwn, hO.chkV, e1, o1.chkV, e, y1, y2, y3, y4, y5, y6, y7, y8, y9, keepE, keepB, chk, CV.locs, CV.locv, CV.refs, CV.ref, pureOp, repC, takeN, resV, enterC, Nat.reduceAdd, Nat.reduceSub, Nat.reduceMul, Nat.reduceLeDiff, Nat.reduceLT, Nat.reduceBEq, Nat.reduceBNe, Nat.reduceEqDiff, ↓reduceIte, Int.reduceAdd, Int.reduceSub, Int.reduceMul, Int.reduceLT, Int.reduceLE, Int.reduceEq, Int.reduceNeg, Int.reduceToNat]

theorem gnew6_F (l : Lay) (H : Heap) : graph_New_F false H [.agg (layC l)] = some (.vp (layC l), H) := by
  rw [graph_New_F_eq]
  simp only [graph_New_C, Nat.zero_le, y1, y2, y3, y4, y5, y6, y7, y8, y9, keepE, keepB, chk, CV.locs, CV.locv, CV.refs, CV.ref, pureOp, repC, takeN, resV, enterC, Nat.reduceAdd, Nat.reduceSub, Nat.reduceMul, Nat.reduceLeDiff, Nat.reduceLT, Nat.reduceBEq, Nat.reduceBNe, Nat.reduceEqDiff, ↓reduceIte, Int.reduceAdd, Int.reduceSub, Int.reduceMul, Int.reduceLT, Int.reduceLE, Int.reduceEq, Int.reduceNeg, Int.reduceToNat]
theorem onext_F (l : Lay) (hl : l.ok) (hB : BsOk l) (was : List Int) (hw : was.length = l.parts.length) (cl : List Bool) (hc : cl.length = l.parts.length) (vs : List Vw) (hv : VsOk vs) (st : Bool) (H : Heap) :
    own_Next_F st H [.agg (layC l), sl fI was, sl fB cl, sl fV vs] = some (sl fI (ownNext l was cl vs), H) := by
  obtain ⟨v', bl', e, o⟩ := onext_loop l hl hB was hw cl hc vs hv l.parts.length 0 [] .nils [] (by omega) rfl (Own.nil _ _ _)
  simp only [List.nil_append, List.length_nil, Int.natCast_zero] at e o
  have hs := fun bx => o.snapV flatI bx st _ (snap_I ⟨bx, bl'⟩ st false 6)
  rw [own_Next_F_eq]
  simp only [own_Next_C, own_Next_L0_eq, graph_New_call, gnew6_F, e, o.locv, o.one, o.cells, hs, ownNext, y1, y2, y3, y4, y5, y6, y7, y8, y9, keepE, keepB, chk, CV.locs, CV.locv, CV.refs, CV.ref, pureOp, repC, takeN, resV, enterC, Nat.reduceAdd, Nat.reduceSub, Nat.reduceMul, Nat.reduceLeDiff, Nat.reduceLT, Nat.reduceBEq, Nat.reduceBNe, Nat.reduceEqDiff, ↓reduceIte, Int.reduceAdd, Int.reduceSub, Int.reduceMul, Int.reduceLT, Int.reduceLE, Int.reduceEq, Int.reduceNeg, Int.reduceToNat]

/-! ### As the reference has it -/
/-- Who it is, as the reference goes on: -1 ends it. -/
def refR : Int → List Int → Int
  | w, [] => w
  | w, o :: r => if w = -1 then -1 else if o = -2 ∨ o = w then refR w r else if o = -1 ∨ 0 ≤ w then refR (-1) r else refR o r
theorem refR_m1 : ∀ r : List Int, refR (-1) r = -1
  | [] => rfl
  | _ :: _ => by simp [refR]
theorem refR_eq : ∀ (r : List Int) (w : Int), w ≠ -1 → refR w r = (aloneR w r).getD (-1)
  | [], _, _ => rfl
  | o :: r, w, h => by
    simp only [refR, aloneR, if_neg h]
    by_cases h1 : o = -2
    · simp only [h1, true_or, if_true, refR_eq r w h]
    · by_cases h2 : o = w
      · subst h2
        have : ¬ (o = -1 ∨ (0 ≤ o ∧ o ≠ o)) := by simp [h]
        simp only [or_true, if_true, if_neg h1, if_neg this, refR_eq r o h]
      · simp only [h1, h2, or_self, if_false]
        by_cases h3 : o = -1
        · simp only [h3, true_or, if_true, refR_m1, Option.getD_none]
        · by_cases h4 : 0 ≤ w
          · simp [h3, h4, h2, refR_m1]
          · simp only [h3, h4, or_self, false_and, if_false, refR_eq r o h3]
end Go.Proofs.Ytmjffmghkfappaa.Zt
