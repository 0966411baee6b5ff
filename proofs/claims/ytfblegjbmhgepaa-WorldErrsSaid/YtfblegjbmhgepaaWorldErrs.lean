/- 'baliselaw18.WorldErrs' returns true, whatever the input; its arguments read behind the call as they read before. No condition. -/
import Derived.Test.YtfblegjbmhgepaaRows
import Derived.Test.YtfblegjbmhgepaaZcNx
set_option linter.all false
namespace Go.Proofs.Ytfblegjbmhgepaa
namespace WorldErrsLaw
open Go.Zc
set_option maxRecDepth 100000

theorem law : ∀ cs, HasArgs [tDraft, .int .i64, .int .i64] cs → ∃ H', call Zt.ctx (.fn (.func 10) [] []) cs ⟨[], []⟩ = some (.bool true, H') := by
  rintro cs ⟨c0, r0, rfl, h0, c1, r1, rfl, h1, c2, r2, rfl, h2, rfl⟩
  obtain ⟨d, rfl, hd⟩ := draft_of h0
  obtain ⟨x, hx, _⟩ := i64_of _ h1
  obtain ⟨y, hy, _⟩ := i64_of _ h2
  cases hx
  cases hy
  refine ⟨⟨[], []⟩, ?_⟩
  have := Zt.worldErrs_F d hd x y ⟨[], []⟩
  simp only [Zt.l18_WorldErrs_call, zy, simprocAttr, this]

open Go.RowKit

theorem lifted (os : Os) (started : os.Started) (H : Type) (enc : TypeId × Value → H) :
    ReturnsInHanded {} Try.checked os 10 .any (Rows.worldErrsSpec.pre6 enc Try.prog Try.f10 Rows.worldErrsRow.domain false) (Rows.worldErrsSpec.post enc Try.prog Try.f10 false true false false) :=
  law_lifted (C := Try.checked) Zt.ctx_ok (n := 9) (Ts := [tDraft, .int .i64, .int .i64]) (tb := 4) (by kernel_rfl) (by kernel_rfl) (by kernel_rfl) Try.func10 (by kernel_rfl) (by kernel_rfl) rfl (by kernel_rfl)
    (by
      intro H ds h
      match ds, h with
      | [_, _, _], _ => rfl)
    law os started H enc
    (ChangeSpec.witness6 (enc := enc) (C := Try.checked) false ⟨#[], #[.agg #[.int .u8 0, .int .u8 0, .int .u8 0, .int .u16 0, .int .u16 0, .int .u8 0, .int .u8 0, .int .u8 0, .slice none 0 0], .int .i64 0, .int .i64 0], []⟩ 9 (by kernel_rfl) (by kernel_rfl) (by kernel_rfl) (by kernel_rfl))

theorem over : Rows.worldErrsRow.holds Try.pinned (OpenSpec.ofChange Rows.worldErrsSpec) :=
  OpenClaim.holds_of_wide 10 Try.f10 rfl rfl rfl rfl rfl rfl rfl ⟨rfl, rfl, rfl, rfl, rfl⟩ rfl rfl rfl rfl rfl (by kernel_rfl) Try.func10 (by kernel_rfl)
    (of_decide_eq_true (by kernel_rfl)) (by unfold Func.isWrapper; rw [if_neg (of_decide_eq_false (by kernel_rfl))]; exact ⟨rfl, rfl⟩)
    (fun os st H enc _ => lifted os st H enc)
end WorldErrsLaw

theorem worldErrs : Rows.WorldErrsSaid := WorldErrsLaw.over
#print axioms worldErrs
end Go.Proofs.Ytfblegjbmhgepaa
