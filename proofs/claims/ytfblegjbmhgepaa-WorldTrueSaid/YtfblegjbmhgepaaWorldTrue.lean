/- 'baliselaw18.WorldTrue' returns true, whatever the input; its arguments read behind the call as they read before. No condition. -/
import Derived.Test.YtfblegjbmhgepaaRows
import Derived.Test.YtfblegjbmhgepaaZcYi
set_option linter.all false
namespace Go.Proofs.Ytfblegjbmhgepaa
namespace WorldTrueLaw
open Go.Zc
set_option maxRecDepth 100000

theorem law : ∀ cs, HasArgs [tDraft, .slice tCar, .slice (.int .u16), .slice .bool] cs → ∃ H', call Zt.ctx (.fn (.func 12) [] []) cs ⟨[], []⟩ = some (.bool true, H') := by
  rintro cs ⟨c0, r0, rfl, h0, c1, r1, rfl, h1, c2, r2, rfl, h2, c3, r3, rfl, h3, rfl⟩
  obtain ⟨d, rfl, hd⟩ := draft_of h0
  obtain ⟨x, hx, _, qx⟩ := slice_of car_of' h1
  obtain ⟨y, hy, _, qy⟩ := slice_of (f := Zt.fG) u16_of h2
  obtain ⟨l, hl, _, _⟩ := slice_of bool_of h3
  cases hx
  cases hy
  cases hl
  refine ⟨⟨[], []⟩, ?_⟩
  have := Zt.worldTrue_F d hd x qx y qy l ⟨[], []⟩
  simp only [Zt.l18_WorldTrue_call, zy, simprocAttr, this]

open Go.RowKit

theorem lifted (os : Os) (started : os.Started) (H : Type) (enc : TypeId × Value → H) :
    ReturnsInHanded {} Try.checked os 12 .any (Rows.worldTrueSpec.pre6 enc Try.prog Try.f12 Rows.worldTrueRow.domain false) (Rows.worldTrueSpec.post enc Try.prog Try.f12 false true false false) :=
  law_lifted (C := Try.checked) Zt.ctx_ok (n := 9) (Ts := [tDraft, .slice tCar, .slice (.int .u16), .slice .bool]) (tb := 4) (by kernel_rfl) (by kernel_rfl) (by kernel_rfl) Try.func12 (by kernel_rfl) (by kernel_rfl) rfl (by kernel_rfl)
    (by
      intro H ds h
      match ds, h with
      | [_, _, _, _], _ => rfl)
    law os started H enc
    (ChangeSpec.witness6 (enc := enc) (C := Try.checked) false ⟨#[], #[.agg #[.int .u8 0, .int .u8 0, .int .u8 0, .int .u16 0, .int .u16 0, .int .u8 0, .int .u8 0, .int .u8 0, .slice none 0 0], .slice none 0 0, .slice none 0 0, .slice none 0 0], []⟩ 9 (by kernel_rfl) (by kernel_rfl) (by kernel_rfl) (by kernel_rfl))

theorem over : Rows.worldTrueRow.holds Try.pinned (OpenSpec.ofChange Rows.worldTrueSpec) :=
  OpenClaim.holds_of_wide 12 Try.f12 rfl rfl rfl rfl rfl rfl rfl ⟨rfl, rfl, rfl, rfl, rfl⟩ rfl rfl rfl rfl rfl (by kernel_rfl) Try.func12 (by kernel_rfl)
    (of_decide_eq_true (by kernel_rfl)) (by unfold Func.isWrapper; rw [if_neg (of_decide_eq_false (by kernel_rfl))]; exact ⟨rfl, rfl⟩)
    (fun os st H enc _ => lifted os st H enc)
end WorldTrueLaw

theorem worldTrue : Rows.WorldTrueSaid := WorldTrueLaw.over
#print axioms worldTrue
end Go.Proofs.Ytfblegjbmhgepaa
