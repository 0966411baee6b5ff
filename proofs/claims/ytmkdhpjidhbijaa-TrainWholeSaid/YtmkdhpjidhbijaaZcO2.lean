/- Walks: a list turned about. -/
import Derived.Test.YtmkdhpjidhbijaaZcO
set_option linter.all false
namespace Go.Proofs.Ytmkdhpjidhbijaa.Zt
open Go Go.Zc
set_option maxRecDepth 10000

theorem back_loop (l : List Int) (hm : l.length ≤ Zc.small) : ∀ (p s : List Int) (v : CV) (bl : List Blk), p ++ s = l → Own fI 1 bl v s.reverse →
    ∃ v' bl', r10_Back_R0 ([(0, sl fI l), (3, v), (4, .int .i64 ((p.length : Int) - 1))], ⟨[], bl⟩) = some (.norm, [(3, v')], ⟨[], bl'⟩) ∧ Own fI 1 bl' v' l.reverse := by
  intro p
  induction hp : p.length generalizing p with
  | zero =>
    intro s v bl hl hO
    have : p = [] := List.eq_nil_of_length_eq_zero hp
    subst this
    refine ⟨v, bl, ?_, by rw [← hl]; exact hO⟩
    rw [r10_Back_R0_eq]
    simp only [r10_Back_B0, r10_Back_K0_norm, r10_Back_K0_ret, r10_Back_K0_exit, hO.chkV, Int.natCast_zero, y1, y2, y3, y4, y5, y6, y7, y8, y9, keepE, keepB, chk, CV.locs, CV.locv, CV.refs, CV.ref, pureOp, repC, takeN, resV, enterC, Nat.reduceAdd, Nat.reduceSub, Nat.reduceMul, Nat.reduceLeDiff, Nat.reduceLT, Nat.reduceBEq, Nat.reduceBNe, Nat.reduceEqDiff, ↓reduceIte, Int.reduceAdd, Int.reduceSub, Int.reduceMul, Int.reduceLT, Int.reduceLE, Int.reduceEq, Int.reduceNeg, Int.reduceToNat]
  | succ n ih =>
    intro s v bl hl hO
    have hne : p ≠ [] := by intro h; rw [h] at hp; simp at hp
    obtain ⟨q, x, rfl⟩ : ∃ q x, p = q ++ [x] := ⟨p.dropLast, p.getLast hne, (List.dropLast_concat_getLast hne).symm⟩
    have hqn : q.length = n := by simpa using hp
    have hpl : n + 1 + s.length = l.length := by rw [← hl]; simp; omega
    unfold Zc.small at hm
    obtain ⟨v1, bl1, e1, o1, _⟩ := hO.app1 flatI (bytes := 8) (zero := [.int .i64 0]) (by decide) rfl rfl x (by simp; omega)
    simp only [fI] at e1
    obtain ⟨v', bl', e, o⟩ := ih q hqn (x :: s) v1 bl1 (by simpa using hl) (by simpa using o1)
    have hia : iaddrC 1 (sl fI l) (.int .i64 n) = some (.vp (.int .i64 x :: s.flatMap fI)) := by
      rw [← hqn, ← hl]
      have := iaddr_midI .i64 q s x
      simpa using this
    have h1 : (0 : Int) ≤ n := by omega
    have hx : (((n + 1 : Nat) : Int) - 1) = n := by omega
    have hw : IntKind.i64.wrap ((n : Int) - 1) = (n : Int) - 1 := wrap64 (by omega) (by omega)
    refine ⟨v', bl', ?_, o⟩
    rw [hx, r10_Back_R0_eq]
    simp only [r10_Back_B0, r10_Back_K0_norm, r10_Back_K0_ret, r10_Back_K0_exit, h1, hia, e1, hw, hO.chkV, o1.chkV, e, y1, y2, y3, y4, y5, y6, y7, y8, y9, keepE, keepB, chk, CV.locs, CV.locv, CV.refs, CV.ref, pureOp, repC, takeN, resV, enterC, Nat.reduceAdd, Nat.reduceSub, Nat.reduceMul, Nat.reduceLeDiff, Nat.reduceLT, Nat.reduceBEq, Nat.reduceBNe, Nat.reduceEqDiff, ↓reduceIte, Int.reduceAdd, Int.reduceSub, Int.reduceMul, Int.reduceLT, Int.reduceLE, Int.reduceEq, Int.reduceNeg, Int.reduceToNat]

theorem back_F (l : List Int) (hm : l.length ≤ Zc.small) (st : Bool) (H : Heap) : r10_Back_F st H [sl fI l] = some (sl fI l.reverse, H) := by
  obtain ⟨v, bl, e, o⟩ := back_loop l hm l [] .nils [] (by simp) (Own.nil _ _ _)
  have hs := fun bx => snapI_own o bx st
  unfold Zc.small at hm
  have hw : IntKind.i64.wrap ((l.length : Int) - 1) = (l.length : Int) - 1 := wrap64 (by omega) (by omega)
  rw [r10_Back_F_eq]
  simp only [r10_Back_C, r10_Back_L0_eq, hw, e, hs, y1, y2, y3, y4, y5, y6, y7, y8, y9, keepE, keepB, chk, CV.locs, CV.locv, CV.refs, CV.ref, pureOp, repC, takeN, resV, enterC, Nat.reduceAdd, Nat.reduceSub, Nat.reduceMul, Nat.reduceLeDiff, Nat.reduceLT, Nat.reduceBEq, Nat.reduceBNe, Nat.reduceEqDiff, ↓reduceIte, Int.reduceAdd, Int.reduceSub, Int.reduceMul, Int.reduceLT, Int.reduceLE, Int.reduceEq, Int.reduceNeg, Int.reduceToNat]
end Go.Proofs.Ytmkdhpjidhbijaa.Zt
