/- 'baliselaw18.WorldSplits' returns true, whatever the input; its arguments read behind the call as they read before. No condition. -/
import Derived.Test.YtfblegjbmhgepaaRows
import Derived.Test.YtfblegjbmhgepaaZcYj
set_option linter.all false
namespace Go.Proofs.Ytfblegjbmhgepaa
namespace WorldSplitsLaw
open Go.Zc
set_option maxRecDepth 100000

theorem law : ∀ cs, HasArgs [tDraft, tCar, .int .u16, .int .u16, .slice .bool] cs → ∃ H', call Zt.ctx (.fn (.func 9) [] []) cs ⟨[], []⟩ = some (.bool true, H') := by
  rintro cs ⟨c0, r0, rfl, h0, c1, r1, rfl, h1, c2, r2, rfl, h2, c3, r3, rfl, h3, c4, r4, rfl, h4, rfl⟩
  obtain ⟨d, rfl, hd⟩ := draft_of h0
  obtain ⟨c, rfl, hc⟩ := car_of h1
  obtain ⟨x, hx, qx⟩ := u16_of _ h2
  obtain ⟨y, hy, qy⟩ := u16_of _ h3
  obtain ⟨l, hl, _, _⟩ := slice_of bool_of h4
  cases hx
  cases hy
  cases hl
  refine ⟨⟨[], []⟩, ?_⟩
  have := Zt.worldSplits_F d hd c hc x y qx qy l ⟨[], []⟩
  simp only [Zt.l18_WorldSplits_call, zy, simprocAttr, this]

open Go.RowKit

theorem lifted (os : Os) (started : os.Started) (H : Type) (enc : TypeId × Value → H) :
    ReturnsInHanded {} Try.checked os 9 .any (Rows.worldSplitsSpec.pre6 enc Try.prog Try.f9 Rows.worldSplitsRow.domain false) (Rows.worldSplitsSpec.post enc Try.prog Try.f9 false true false false) :=
  law_lifted (C := Try.checked) Zt.ctx_ok (n := 9) (Ts := [tDraft, tCar, .int .u16, .int .u16, .slice .bool]) (tb := 4) (by kernel_rfl) (by kernel_rfl) (by kernel_rfl) Try.func9 (by kernel_rfl) (by kernel_rfl) rfl (by kernel_rfl)
    (by
      intro H ds h
      match ds, h with
      | [_, _, _, _, _], _ => rfl)
    law os started H enc
    (ChangeSpec.witness6 (enc := enc) (C := Try.checked) false ⟨#[], #[.agg #[.int .u8 0, .int .u8 0, .int .u8 0, .int .u16 0, .int .u16 0, .int .u8 0, .int .u8 0, .int .u8 0, .slice none 0 0], .agg #[.int .u8 0, .int .u8 0, .int .u8 0, .int .u8 0, .int .u8 0, .slice none 0 0], .int .u16 0, .int .u16 0, .slice none 0 0], []⟩ 9 (by kernel_rfl) (by kernel_rfl) (by kernel_rfl) (by kernel_rfl))

theorem over : Rows.worldSplitsRow.holds Try.pinned (OpenSpec.ofChange Rows.worldSplitsSpec) :=
  OpenClaim.holds_of_wide 9 Try.f9 rfl rfl rfl rfl rfl rfl rfl ⟨rfl, rfl, rfl, rfl, rfl⟩ rfl rfl rfl rfl rfl (by kernel_rfl) Try.func9 (by kernel_rfl)
    (of_decide_eq_true (by kernel_rfl)) (by unfold Func.isWrapper; rw [if_neg (of_decide_eq_false (by kernel_rfl))]; exact ⟨rfl, rfl⟩)
    (fun os st H enc _ => lifted os st H enc)
end WorldSplitsLaw

theorem worldSplits : Rows.WorldSplitsSaid := WorldSplitsLaw.over
#print axioms worldSplits
end Go.Proofs.Ytfblegjbmhgepaa
