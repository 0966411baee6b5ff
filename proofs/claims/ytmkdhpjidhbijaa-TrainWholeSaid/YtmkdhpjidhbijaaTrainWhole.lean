/- 'baliselaw10.TrainWhole' returns true, whatever the input; its arguments read behind the call as they read before. No condition. -/
import Derived.Test.YtmkdhpjidhbijaaRows
import Derived.Test.YtmkdhpjidhbijaaZcWh
set_option linter.all false
namespace Go.Proofs.Ytmkdhpjidhbijaa
namespace TrainWholeLaw
open Go.Zc
set_option maxRecDepth 100000

theorem law : ∀ cs, HasArgs [tDraft, tDeed, tDeed] cs → ∃ H', call Zt.ctx (.fn (.func 5) [] []) cs ⟨[], []⟩ = some (.bool true, H') := by
  rintro cs ⟨c0, r0, rfl, h0, c1, r1, rfl, h1, c2, r2, rfl, h2, rfl⟩
  obtain ⟨d, rfl, hd⟩ := draft_of h0
  obtain ⟨x, rfl, hx⟩ := deed_of h1
  obtain ⟨y, rfl, hy⟩ := deed_of h2
  refine ⟨⟨[], []⟩, ?_⟩
  have := Zt.trainWhole_F d hd x y hx hy
  simp only [Zt.l10_TrainWhole_call, y1, y2, y3, y4, y5, y6, y7, y8, y9, keepE, keepB, chk, CV.locs, CV.locv, CV.refs, CV.ref, pureOp, repC, takeN, resV, enterC, Nat.reduceAdd, Nat.reduceSub, Nat.reduceMul, Nat.reduceLeDiff, Nat.reduceLT, Nat.reduceBEq, Nat.reduceBNe, Nat.reduceEqDiff, ↓reduceIte, Int.reduceAdd, Int.reduceSub, Int.reduceMul, Int.reduceLT, Int.reduceLE, Int.reduceEq, Int.reduceNeg, Int.reduceToNat, this]

open Go.RowKit

theorem lifted (os : Os) (started : os.Started) (H : Type) (enc : TypeId × Value → H) :
    ReturnsInHanded {} Try.checked os 5 .any (Rows.trainWholeSpec.pre6 enc Try.prog Try.f5 Rows.trainWholeRow.domain false) (Rows.trainWholeSpec.post enc Try.prog Try.f5 false true false false) :=
  law_lifted (C := Try.checked) Zt.ctx_ok (n := 9) (Ts := [tDraft, tDeed, tDeed]) (tb := 4) (by kernel_rfl) (by kernel_rfl) (by kernel_rfl) Try.func5 (by kernel_rfl) (by kernel_rfl) rfl (by kernel_rfl)
    (by
      intro H ds h
      match ds, h with
      | [_, _, _], _ => rfl)
    law os started H enc
    (ChangeSpec.witness6 (enc := enc) (C := Try.checked) false ⟨#[], #[.agg #[.int .u8 0, .int .u8 0, .int .u8 0, .int .u16 0, .int .u16 0, .int .u8 0, .int .u8 0, .int .u8 0, .slice none 0 0], .agg #[.int .u8 0, .int .u8 0, .int .u8 0, .int .u8 0, .slice none 0 0, .int .u16 0, .bool false, .int .u8 0], .agg #[.int .u8 0, .int .u8 0, .int .u8 0, .int .u8 0, .slice none 0 0, .int .u16 0, .bool false, .int .u8 0]], []⟩ 9 (by kernel_rfl) (by kernel_rfl) (by kernel_rfl) (by kernel_rfl))

theorem over : Rows.trainWholeRow.holds Try.pinned (OpenSpec.ofChange Rows.trainWholeSpec) :=
  OpenClaim.holds_of_wide 5 Try.f5 rfl rfl rfl rfl rfl rfl rfl ⟨rfl, rfl, rfl, rfl, rfl⟩ rfl rfl rfl rfl rfl (by kernel_rfl) Try.func5 (by kernel_rfl)
    (of_decide_eq_true (by kernel_rfl)) (by unfold Func.isWrapper; rw [if_neg (of_decide_eq_false (by kernel_rfl))]; exact ⟨rfl, rfl⟩)
    (fun os st H enc _ => lifted os st H enc)
end TrainWholeLaw

theorem trainWhole : Rows.TrainWholeSaid := TrainWholeLaw.over
#print axioms trainWhole
end Go.Proofs.Ytmkdhpjidhbijaa
