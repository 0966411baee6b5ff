/- The law JudgeStill, walked. -/
import Derived.Test.YtfblegjbmhgepaaZcH
import Derived.Test.YtfblegjbmhgepaaZcArgs
import Derived.Test.YtfblegjbmhgepaaZcPart
set_option linter.all false
namespace Go.Proofs.Ytfblegjbmhgepaa.Zt
open Go Go.Zc
set_option maxRecDepth 10000

theorem iaddr_getB {k : IntKind} {l : List Bool} {i : Nat} (h : i < l.length) : iaddrC 1 (sl fB l) (.int k i) = some (.vp (.bool (l.getD i false) :: (l.drop (i + 1)).flatMap fB)) := by
  rw [List.getD_eq_getElem?_getD, List.getElem?_eq_getElem h]
  exact iaddr_sl flatB.len flatB.pos h
theorem iaddr_getU {k : IntKind} {l : List Int} {i : Nat} (h : i < l.length) : iaddrC 1 (sl fU l) (.int k i) = some (.vp (.int .u8 (l.getD i 1) :: (l.drop (i + 1)).flatMap fU)) := by
  rw [List.getD_eq_getElem?_getD, List.getElem?_eq_getElem h]
  exact iaddr_sl flatU.len flatU.pos h
theorem getD_out {l : List Bool} {i : Nat} (h : ¬ i < l.length) : l.getD i false = false := by
  rw [List.getD_eq_getElem?_getD, List.getElem?_eq_none (by omega)]; rfl

theorem jhas_F (l : List Bool) (i : Nat) (st : Bool) (H : Heap) : judge_has_F st H [sl fB l, .int .i64 i] = some (.bool (l.getD i false), H) := by
  rw [judge_has_F_eq]
  by_cases h : i < l.length
  · simp only [judge_has_C, Int.ofNat_lt, h, iaddr_getB, y1, y2, y3, y4, y5, y6, y7, y8, y9, keepE, keepB, chk, CV.locs, CV.locv, CV.refs, CV.ref, pureOp, repC, takeN, resV, enterC, Nat.reduceAdd, Nat.reduceSub, Nat.reduceMul, Nat.reduceLeDiff, Nat.reduceLT, Nat.reduceBEq, Nat.reduceBNe, Nat.reduceEqDiff, ↓reduceIte, Int.reduceAdd, Int.reduceSub, Int.reduceMul, Int.reduceLT, Int.reduceLE, Int.reduceEq, Int.reduceNeg, Int.reduceToNat]
  · simp only [judge_has_C, Int.ofNat_lt, h, getD_out h, y1, y2, y3, y4, y5, y6, y7, y8, y9, keepE, keepB, chk, CV.locs, CV.locv, CV.refs, CV.ref, pureOp, repC, takeN, resV, enterC, Nat.reduceAdd, Nat.reduceSub, Nat.reduceMul, Nat.reduceLeDiff, Nat.reduceLT, Nat.reduceBEq, Nat.reduceBNe, Nat.reduceEqDiff, ↓reduceIte, Int.reduceAdd, Int.reduceSub, Int.reduceMul, Int.reduceLT, Int.reduceLE, Int.reduceEq, Int.reduceNeg, Int.reduceToNat]

theorem look3 (l : List Bool) (i : Nat) : (i < l.length ∧ l.getD i false = true) ∨ (i < l.length ∧ l.getD i false = false) ∨ (¬ i < l.length ∧ l.getD i false = false) := by
  by_cases h : i < l.length
  · cases h2 : l.getD i false with
    | true => exact .inl ⟨h, rfl⟩
    | false => exact .inr (.inl ⟨h, rfl⟩)
  · exact .inr (.inr ⟨h, getD_out h⟩)

/-- May a point at a stem move? -/
def freeAt (states : List Int) (locked : List Bool) (s : Nat) : Bool := decide (s < states.length) && (decide (states.getD s 1 = 0) && !locked.getD s false)
def stills (was is : List Bool) (states : List Int) (locked : List Bool) : Nat → List Pt → Bool
  | _, [] => true
  | i, p :: r => (decide (was.getD i false = is.getD i false) || freeAt states locked p.stem.toNat) && stills was is states locked (i + 1) r

theorem mkPts_stem (form : Int) : ∀ p ∈ mkPts form, 0 ≤ p.stem := by
  unfold mkPts
  split
  · simp
  · split
    · simp
    · split <;> simp

set_option maxHeartbeats 40000000 in
theorem js_loop (was is : List Bool) (states : List Int) (locked : List Bool) (l : Lay) (hl : l.pts.length ≤ small) : ∀ (S P : List Pt) (w : Bool), l.pts = P ++ S → (∀ p ∈ S, 0 ≤ p.stem) →
    l20_JudgeStill_R0 ([(1, sl fB was), (2, sl fB is), (3, sl fU states), (4, sl fB locked), (11, .op (.loc 11) 0), (12, .bool w), (13, .int .i64 P.length)], ⟨[(11, layC l)], []⟩) =
      some (.norm, [(1, sl fB was), (2, sl fB is), (3, sl fU states), (4, sl fB locked), (11, .op (.loc 11) 0), (12, .bool (w && stills was is states locked P.length S))], ⟨[(11, layC l)], []⟩) := by
  intro S
  induction S with
  | nil =>
    intro P w hP _
    simp only [List.append_nil] at hP
    rw [l20_JudgeStill_R0_eq]
    simp only [l20_JudgeStill_B0, l20_JudgeStill_K0_norm, l20_JudgeStill_K0_ret, l20_JudgeStill_K0_exit, hP, stills, y1, y2, y3, y4, y5, y6, y7, y8, y9, keepE, keepB, chk, CV.locs, CV.locv, CV.refs, CV.ref, pureOp, repC, takeN, resV, enterC, Nat.reduceAdd, Nat.reduceSub, Nat.reduceMul, Nat.reduceLeDiff, Nat.reduceLT, Nat.reduceBEq, Nat.reduceBNe, Nat.reduceEqDiff, ↓reduceIte, Int.reduceAdd, Int.reduceSub, Int.reduceMul, Int.reduceLT, Int.reduceLE, Int.reduceEq, Int.reduceNeg, Int.reduceToNat]
  | cons p S ih =>
    intro P w hP hst
    obtain ⟨s, hs⟩ := Int.eq_ofNat_of_zero_le (hst p (by simp))
    have h1 : ((P.length : Int) < l.pts.length) := by rw [hP]; simp; omega
    have hia := iaddr_midP .i64 P S p
    rw [← hP] at hia
    have hw := wrapN (n := P.length) (by rw [hP] at hl; simp at hl; omega)
    have ih' := fun w => ih (P ++ [p]) w (by rw [hP]; simp) (fun q hq => hst q (by simp [hq]))
    simp only [List.length_append, List.length_cons, List.length_nil, Nat.zero_add] at ih'
    rw [l20_JudgeStill_R0_eq]
    have hstem : p.stem.toNat = s := by rw [hs]; rfl
    simp only [stills, hstem]
    cases w with
    | false =>
      rcases look3 was P.length with ⟨ha, hA⟩ | ⟨ha, hA⟩ | ⟨ha, hA⟩ <;> rcases look3 is P.length with ⟨hb, hB⟩ | ⟨hb, hB⟩ | ⟨hb, hB⟩ <;>
        simp only [l20_JudgeStill_B0, l20_JudgeStill_K0_norm, l20_JudgeStill_K0_ret, l20_JudgeStill_K0_exit, h1, hia, hw, hs, Int.ofNat_lt, ha, hb, hA, hB, iaddr_getB, ih', y1, y2, y3, y4, y5, y6, y7, y8, y9, keepE, keepB, chk, CV.locs, CV.locv, CV.refs, CV.ref, pureOp, repC, takeN, resV, enterC, Nat.reduceAdd, Nat.reduceSub, Nat.reduceMul, Nat.reduceLeDiff, Nat.reduceLT, Nat.reduceBEq, Nat.reduceBNe, Nat.reduceEqDiff, ↓reduceIte, Int.reduceAdd, Int.reduceSub, Int.reduceMul, Int.reduceLT, Int.reduceLE, Int.reduceEq, Int.reduceNeg, Int.reduceToNat]
    | true =>
      by_cases hab : was.getD P.length false = is.getD P.length false
      · rcases look3 was P.length with ⟨ha, hA⟩ | ⟨ha, hA⟩ | ⟨ha, hA⟩ <;> rcases look3 is P.length with ⟨hb, hB⟩ | ⟨hb, hB⟩ | ⟨hb, hB⟩ <;>
          first
          | (exfalso; rw [hA, hB] at hab; cases hab; done)
          | simp only [l20_JudgeStill_B0, l20_JudgeStill_K0_norm, l20_JudgeStill_K0_ret, l20_JudgeStill_K0_exit, h1, hia, hw, hs, Int.ofNat_lt, ha, hb, hA, hB, iaddr_getB, ih', y1, y2, y3, y4, y5, y6, y7, y8, y9, keepE, keepB, chk, CV.locs, CV.locv, CV.refs, CV.ref, pureOp, repC, takeN, resV, enterC, Nat.reduceAdd, Nat.reduceSub, Nat.reduceMul, Nat.reduceLeDiff, Nat.reduceLT, Nat.reduceBEq, Nat.reduceBNe, Nat.reduceEqDiff, ↓reduceIte, Int.reduceAdd, Int.reduceSub, Int.reduceMul, Int.reduceLT, Int.reduceLE, Int.reduceEq, Int.reduceNeg, Int.reduceToNat]
      · have hcond : (decide (was.getD P.length false = is.getD P.length false) || freeAt states locked s) = freeAt states locked s := by rw [decide_eq_false hab]; rfl
        rw [hcond]
        rcases look3 was P.length with ⟨ha, hA⟩ | ⟨ha, hA⟩ | ⟨ha, hA⟩ <;> rcases look3 is P.length with ⟨hb, hB⟩ | ⟨hb, hB⟩ | ⟨hb, hB⟩ <;>
          first
          | exact absurd (hA.trans hB.symm) hab
          | (by_cases h2 : s < states.length
             · by_cases h3 : states.getD s 1 = 0
               · rcases look3 locked s with ⟨h4, h5⟩ | ⟨h4, h5⟩ | ⟨h4, h5⟩ <;>
                   simp only [l20_JudgeStill_B0, l20_JudgeStill_K0_norm, l20_JudgeStill_K0_ret, l20_JudgeStill_K0_exit, h1, hia, hw, hs, Int.ofNat_lt, ha, hb, hA, hB, iaddr_getB, Bool.true_beq, Bool.false_beq, iaddr_getU, h2, h3, h4, h5, freeAt, ih', y1, y2, y3, y4, y5, y6, y7, y8, y9, keepE, keepB, chk, CV.locs, CV.locv, CV.refs, CV.ref, pureOp, repC, takeN, resV, enterC, Nat.reduceAdd, Nat.reduceSub, Nat.reduceMul, Nat.reduceLeDiff, Nat.reduceLT, Nat.reduceBEq, Nat.reduceBNe, Nat.reduceEqDiff, ↓reduceIte, Int.reduceAdd, Int.reduceSub, Int.reduceMul, Int.reduceLT, Int.reduceLE, Int.reduceEq, Int.reduceNeg, Int.reduceToNat]
               · simp only [l20_JudgeStill_B0, l20_JudgeStill_K0_norm, l20_JudgeStill_K0_ret, l20_JudgeStill_K0_exit, h1, hia, hw, hs, Int.ofNat_lt, ha, hb, hA, hB, iaddr_getB, Bool.true_beq, Bool.false_beq, iaddr_getU, h2, h3, freeAt, ih', y1, y2, y3, y4, y5, y6, y7, y8, y9, keepE, keepB, chk, CV.locs, CV.locv, CV.refs, CV.ref, pureOp, repC, takeN, resV, enterC, Nat.reduceAdd, Nat.reduceSub, Nat.reduceMul, Nat.reduceLeDiff, Nat.reduceLT, Nat.reduceBEq, Nat.reduceBNe, Nat.reduceEqDiff, ↓reduceIte, Int.reduceAdd, Int.reduceSub, Int.reduceMul, Int.reduceLT, Int.reduceLE, Int.reduceEq, Int.reduceNeg, Int.reduceToNat]
             · simp only [l20_JudgeStill_B0, l20_JudgeStill_K0_norm, l20_JudgeStill_K0_ret, l20_JudgeStill_K0_exit, h1, hia, hw, hs, Int.ofNat_lt, ha, hb, hA, hB, iaddr_getB, Bool.true_beq, Bool.false_beq, h2, freeAt, ih', y1, y2, y3, y4, y5, y6, y7, y8, y9, keepE, keepB, chk, CV.locs, CV.locv, CV.refs, CV.ref, pureOp, repC, takeN, resV, enterC, Nat.reduceAdd, Nat.reduceSub, Nat.reduceMul, Nat.reduceLeDiff, Nat.reduceLT, Nat.reduceBEq, Nat.reduceBNe, Nat.reduceEqDiff, ↓reduceIte, Int.reduceAdd, Int.reduceSub, Int.reduceMul, Int.reduceLT, Int.reduceLE, Int.reduceEq, Int.reduceNeg, Int.reduceToNat])
end Go.Proofs.Ytfblegjbmhgepaa.Zt
