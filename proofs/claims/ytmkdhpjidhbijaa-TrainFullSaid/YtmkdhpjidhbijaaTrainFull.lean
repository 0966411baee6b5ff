/- 'baliselaw10.TrainFull' returns true, whatever the input; its arguments read behind the call as they read before. No condition. -/
import Derived.Test.YtmkdhpjidhbijaaRows
import Derived.Test.YtmkdhpjidhbijaaZcFu
set_option linter.all false
namespace Go.Proofs.Ytmkdhpjidhbijaa
namespace TrainFullLaw
open Go.Zc
set_option maxRecDepth 100000

theorem law : ∀ cs, HasArgs [.int .u8, .int .u16] cs → ∃ H', call Zt.ctx (.fn (.func 7) [] []) cs ⟨[], []⟩ = some (.bool true, H') := by
  rintro cs ⟨c0, r0, rfl, h0, c1, r1, rfl, h1, rfl⟩
  obtain ⟨n, hn, qn⟩ := u8_of _ h0
  cases hn
  obtain ⟨m, hm, qm⟩ := u16_of _ h1
  cases hm
  refine ⟨⟨[], []⟩, ?_⟩
  have := Zt.trainFull_F n m qn qm
  simp only [Zt.l10_TrainFull_call, y1, y2, y3, y4, y5, y6, y7, y8, y9, keepE, keepB, chk, CV.locs, CV.locv, CV.refs, CV.ref, pureOp, repC, takeN, resV, enterC, Nat.reduceAdd, Nat.reduceSub, Nat.reduceMul, Nat.reduceLeDiff, Nat.reduceLT, Nat.reduceBEq, Nat.reduceBNe, Nat.reduceEqDiff, ↓reduceIte, Int.reduceAdd, Int.reduceSub, Int.reduceMul, Int.reduceLT, Int.reduceLE, Int.reduceEq, Int.reduceNeg, Int.reduceToNat, this]

open Go.RowKit

theorem lifted (os : Os) (started : os.Started) (H : Type) (enc : TypeId × Value → H) :
    ReturnsInHanded {} Try.checked os 7 .any (Rows.trainFullSpec.pre6 enc Try.prog Try.f7 Rows.trainFullRow.domain false) (Rows.trainFullSpec.post enc Try.prog Try.f7 false true false false) :=
  law_lifted (C := Try.checked) Zt.ctx_ok (n := 9) (Ts := [.int .u8, .int .u16]) (tb := 4) (by kernel_rfl) (by kernel_rfl) (by kernel_rfl) Try.func7 (by kernel_rfl) (by kernel_rfl) rfl (by kernel_rfl)
    (by
      intro H ds h
      match ds, h with
      | [_, _], _ => rfl)
    law os started H enc
    (ChangeSpec.witness6 (enc := enc) (C := Try.checked) false ⟨#[], #[.int .u8 0, .int .u16 0], []⟩ 9 (by kernel_rfl) (by kernel_rfl) (by kernel_rfl) (by kernel_rfl))

theorem over : Rows.trainFullRow.holds Try.pinned (OpenSpec.ofChange Rows.trainFullSpec) :=
  OpenClaim.holds_of_wide 7 Try.f7 rfl rfl rfl rfl rfl rfl rfl ⟨rfl, rfl, rfl, rfl, rfl⟩ rfl rfl rfl rfl rfl (by kernel_rfl) Try.func7 (by kernel_rfl)
    (of_decide_eq_true (by kernel_rfl)) (by unfold Func.isWrapper; rw [if_neg (of_decide_eq_false (by kernel_rfl))]; exact ⟨rfl, rfl⟩)
    (fun os st H enc _ => lifted os st H enc)
end TrainFullLaw

theorem trainFull : Rows.TrainFullSaid := TrainFullLaw.over
#print axioms trainFull
end Go.Proofs.Ytmkdhpjidhbijaa
