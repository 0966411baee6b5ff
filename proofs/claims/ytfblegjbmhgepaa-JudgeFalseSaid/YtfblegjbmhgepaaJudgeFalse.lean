/- 'baliselaw20.JudgeFalse' returns true, whatever the input; its arguments read behind the call as they read before. No condition. -/
import Derived.Test.YtfblegjbmhgepaaRows
import Derived.Test.YtfblegjbmhgepaaZcYa
set_option linter.all false
namespace Go.Proofs.Ytfblegjbmhgepaa
namespace JudgeFalseLaw
open Go.Zc
set_option maxRecDepth 100000

theorem law : ∀ cs, HasArgs [tStory, .int .u8] cs → ∃ H', call Zt.ctx (.fn (.func 4) [] []) cs ⟨[], []⟩ = some (.bool true, H') := by
  rintro cs ⟨c0, r0, rfl, h0, c1, r1, rfl, h1, rfl⟩
  obtain ⟨s, rfl, hs⟩ := story_of h0
  obtain ⟨n, e1, hn⟩ := u8_of _ h1
  cases e1
  refine ⟨⟨[], []⟩, ?_⟩
  have := Zt.judgeFalse_F s hs n hn
  simp only [Zt.l20_JudgeFalse_call, zy, simprocAttr, this]

open Go.RowKit

theorem lifted (os : Os) (started : os.Started) (H : Type) (enc : TypeId × Value → H) :
    ReturnsInHanded {} Try.checked os 4 .any (Rows.judgeFalseSpec.pre6 enc Try.prog Try.f4 Rows.judgeFalseRow.domain false) (Rows.judgeFalseSpec.post enc Try.prog Try.f4 false true false false) :=
  law_lifted (C := Try.checked) Zt.ctx_ok (n := 9) (Ts := [tStory, .int .u8]) (tb := 4) (by kernel_rfl) (by kernel_rfl) (by kernel_rfl) Try.func4 (by kernel_rfl) (by kernel_rfl) rfl (by kernel_rfl)
    (by
      intro H ds h
      match ds, h with
      | [_, _], _ => rfl)
    law os started H enc
    (ChangeSpec.witness6 (enc := enc) (C := Try.checked) false ⟨#[], #[.agg #[.int .u8 0, .int .u8 0, .int .u8 0, .int .u16 0, .int .u16 0, .int .u8 0, .int .u8 0, .int .u8 0, .slice none 0 0, .slice none 0 0, .slice none 0 0], .int .u8 0], []⟩ 9 (by kernel_rfl) (by kernel_rfl) (by kernel_rfl) (by kernel_rfl))

theorem over : Rows.judgeFalseRow.holds Try.pinned (OpenSpec.ofChange Rows.judgeFalseSpec) :=
  OpenClaim.holds_of_wide 4 Try.f4 rfl rfl rfl rfl rfl rfl rfl ⟨rfl, rfl, rfl, rfl, rfl⟩ rfl rfl rfl rfl rfl (by kernel_rfl) Try.func4 (by kernel_rfl)
    (of_decide_eq_true (by kernel_rfl)) (by unfold Func.isWrapper; rw [if_neg (of_decide_eq_false (by kernel_rfl))]; exact ⟨rfl, rfl⟩)
    (fun os st H enc _ => lifted os st H enc)
end JudgeFalseLaw

theorem judgeFalse : Rows.JudgeFalseSaid := JudgeFalseLaw.over
#print axioms judgeFalse
end Go.Proofs.Ytfblegjbmhgepaa
