/- 'baliselaw06.VerifyMany' returns true, whatever the input; its arguments read behind the call as they read before. No condition. -/
import Derived.Test.YtlhjpcgfkkhogaaGreatRows
import Derived.Test.YtlhjpcgfkkhogaaGreatZcVi
set_option linter.all false
namespace Go.Proofs.YtlhjpcgfkkhogaaGreat
namespace VerifyManyLaw
open Go.Zc
set_option maxRecDepth 100000

theorem law : ∀ cs, HasArgs [.int .u8, .int .u8] cs → ∃ H', call Zt.ctx (.fn (.func 5) [] []) cs ⟨[], []⟩ = some (.bool true, H') := by
  rintro cs ⟨c0, r0, rfl, h0, c1, r1, rfl, h1, rfl⟩
  obtain ⟨x, hx, qx⟩ := u8_of _ h0
  obtain ⟨y, hy, qy⟩ := u8_of _ h1
  cases hx
  cases hy
  refine ⟨⟨[], []⟩, ?_⟩
  have := Zt.vMany_F qx qy
  simp only [Zt.l06_VerifyMany_call, zy, simprocAttr, this]

open Go.RowKit

theorem lifted (os : Os) (started : os.Started) (H : Type) (enc : TypeId × Value → H) :
    ReturnsInHanded {} Tryz.checked os 5 .any (Rows.verifyManySpec.pre6 enc Tryz.prog Tryz.f5 Rows.verifyManyRow.domain false) (Rows.verifyManySpec.post enc Tryz.prog Tryz.f5 false true false false) :=
  law_lifted (C := Tryz.checked) Zt.ctx_ok (n := 9) (Ts := [.int .u8, .int .u8]) (tb := 4) (by kernel_rfl) (by kernel_rfl) (by kernel_rfl) Tryz.func5 (by kernel_rfl) (by kernel_rfl) rfl (by kernel_rfl)
    (by
      intro H ds h
      match ds, h with
      | [_, _], _ => rfl)
    law os started H enc
    (ChangeSpec.witness6 (enc := enc) (C := Tryz.checked) false ⟨#[], #[.int .u8 0,  .int .u8 0], []⟩ 9 (by kernel_rfl) (by kernel_rfl) (by kernel_rfl) (by kernel_rfl))

theorem over : Rows.verifyManyRow.holds Tryz.pinned (OpenSpec.ofChange Rows.verifyManySpec) :=
  OpenClaim.holds_of_wide 5 Tryz.f5 rfl rfl rfl rfl rfl rfl rfl ⟨rfl, rfl, rfl, rfl, rfl⟩ rfl rfl rfl rfl rfl (by kernel_rfl) Tryz.func5 (by kernel_rfl)
    (of_decide_eq_true (by kernel_rfl)) (by unfold Func.isWrapper; rw [if_neg (of_decide_eq_false (by kernel_rfl))]; exact ⟨rfl, rfl⟩)
    (fun os st H enc _ => lifted os st H enc)
end VerifyManyLaw

theorem verifyMany : Rows.VerifyManySaid := VerifyManyLaw.over
#print axioms verifyMany
end Go.Proofs.YtlhjpcgfkkhogaaGreat
