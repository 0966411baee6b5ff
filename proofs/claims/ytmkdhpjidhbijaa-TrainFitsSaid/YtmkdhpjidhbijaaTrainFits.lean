/- 'baliselaw10.TrainFits' returns true, whatever the input; its arguments read behind the call as they read before. No condition. -/
import Derived.Test.YtmkdhpjidhbijaaRows
import Derived.Test.YtmkdhpjidhbijaaZcR
set_option linter.all false
namespace Go.Proofs.Ytmkdhpjidhbijaa
namespace FitsLaw
open Go.Zc
set_option maxRecDepth 100000

theorem law : ∀ cs, HasArgs [tDraft, tDeed, .int .u8, .int .i64] cs → ∃ H', call Zt.ctx (.fn (.func 3) [] []) cs ⟨[], []⟩ = some (.bool true, H') := by
  rintro cs ⟨c0, r0, rfl, h0, c1, r1, rfl, h1, c2, r2, rfl, h2, c3, r3, rfl, h3, rfl⟩
  obtain ⟨d, rfl, hd⟩ := draft_of h0
  obtain ⟨a, rfl, ha⟩ := deed_of h1
  obtain ⟨x, hx, qx⟩ := u8_of _ h2
  obtain ⟨y, hy, qy⟩ := i64_of _ h3
  cases hx
  cases hy
  refine ⟨⟨[], []⟩, ?_⟩
  have := Zt.trainFits_F d hd a ha x y qx qy
  simp only [Zt.l10_TrainFits_call, y1, y2, y3, y4, y5, y6, y7, y8, y9, keepE, keepB, chk, CV.locs, CV.locv, CV.refs, CV.ref, pureOp, repC, takeN, resV, enterC, Nat.reduceAdd, Nat.reduceSub, Nat.reduceMul, Nat.reduceLeDiff, Nat.reduceLT, Nat.reduceBEq, Nat.reduceBNe, Nat.reduceEqDiff, ↓reduceIte, Int.reduceAdd, Int.reduceSub, Int.reduceMul, Int.reduceLT, Int.reduceLE, Int.reduceEq, Int.reduceNeg, Int.reduceToNat, this]

open Go.RowKit

theorem lifted (os : Os) (started : os.Started) (H : Type) (enc : TypeId × Value → H) :
    ReturnsInHanded {} Try.checked os 3 .any (Rows.trainFitsSpec.pre6 enc Try.prog Try.f3 Rows.trainFitsRow.domain false) (Rows.trainFitsSpec.post enc Try.prog Try.f3 false true false false) :=
  law_lifted (C := Try.checked) Zt.ctx_ok (n := 9) (Ts := [tDraft, tDeed, .int .u8, .int .i64]) (tb := 4) (by kernel_rfl) (by kernel_rfl) (by kernel_rfl) Try.func3 (by kernel_rfl) (by kernel_rfl) rfl (by kernel_rfl)
    (by
      intro H ds h
      match ds, h with
      | [_, _, _, _], _ => rfl)
    law os started H enc
    (ChangeSpec.witness6 (enc := enc) (C := Try.checked) false ⟨#[], #[.agg #[.int .u8 0, .int .u8 0, .int .u8 0, .int .u16 0, .int .u16 0, .int .u8 0, .int .u8 0, .int .u8 0, .slice none 0 0], .agg #[.int .u8 0, .int .u8 0, .int .u8 0, .int .u8 0, .slice none 0 0, .int .u16 0, .bool false, .int .u8 0], .int .u8 0, .int .i64 0], []⟩ 9 (by kernel_rfl) (by kernel_rfl) (by kernel_rfl) (by kernel_rfl))

theorem over : Rows.trainFitsRow.holds Try.pinned (OpenSpec.ofChange Rows.trainFitsSpec) :=
  OpenClaim.holds_of_wide 3 Try.f3 rfl rfl rfl rfl rfl rfl rfl ⟨rfl, rfl, rfl, rfl, rfl⟩ rfl rfl rfl rfl rfl (by kernel_rfl) Try.func3 (by kernel_rfl)
    (of_decide_eq_true (by kernel_rfl)) (by unfold Func.isWrapper; rw [if_neg (of_decide_eq_false (by kernel_rfl))]; exact ⟨rfl, rfl⟩)
    (fun os st H enc _ => lifted os st H enc)
end FitsLaw

theorem trainFits : Rows.TrainFitsSaid := FitsLaw.over
#print axioms trainFits
end Go.Proofs.Ytmkdhpjidhbijaa
