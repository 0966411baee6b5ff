/- 'baliselaw20.JudgeSafe' returns true, whatever the input; its arguments read behind the call as they read before. No condition. -/
import Derived.Test.YtfblegjbmhgepaaRows
import Derived.Test.YtfblegjbmhgepaaZcNx
set_option linter.all false
namespace Go.Proofs.Ytfblegjbmhgepaa
namespace JudgeSafeLaw
open Go.Zc
set_option maxRecDepth 100000

theorem law : ∀ cs, HasArgs [tStory, .slice (.int .u8)] cs → ∃ H', call Zt.ctx (.fn (.func 3) [] []) cs ⟨[], []⟩ = some (.bool true, H') := by
  rintro cs ⟨c0, r0, rfl, h0, c1, r1, rfl, h1, rfl⟩
  obtain ⟨s, rfl, hs⟩ := story_of h0
  obtain ⟨st, e1, _, _⟩ := u8s_of _ h1
  cases e1
  refine ⟨⟨[], []⟩, ?_⟩
  have := Zt.judgeSafe_F s hs st
  simp only [Zt.l20_JudgeSafe_call, zy, simprocAttr, this]

open Go.RowKit

theorem lifted (os : Os) (started : os.Started) (H : Type) (enc : TypeId × Value → H) :
    ReturnsInHanded {} Try.checked os 3 .any (Rows.judgeSafeSpec.pre6 enc Try.prog Try.f3 Rows.judgeSafeRow.domain false) (Rows.judgeSafeSpec.post enc Try.prog Try.f3 false true false false) :=
  law_lifted (C := Try.checked) Zt.ctx_ok (n := 9) (Ts := [tStory, .slice (.int .u8)]) (tb := 4) (by kernel_rfl) (by kernel_rfl) (by kernel_rfl) Try.func3 (by kernel_rfl) (by kernel_rfl) rfl (by kernel_rfl)
    (by
      intro H ds h
      match ds, h with
      | [_, _], _ => rfl)
    law os started H enc
    (ChangeSpec.witness6 (enc := enc) (C := Try.checked) false ⟨#[], #[.agg #[.int .u8 0, .int .u8 0, .int .u8 0, .int .u16 0, .int .u16 0, .int .u8 0, .int .u8 0, .int .u8 0, .slice none 0 0, .slice none 0 0, .slice none 0 0], .slice none 0 0], []⟩ 9 (by kernel_rfl) (by kernel_rfl) (by kernel_rfl) (by kernel_rfl))

theorem over : Rows.judgeSafeRow.holds Try.pinned (OpenSpec.ofChange Rows.judgeSafeSpec) :=
  OpenClaim.holds_of_wide 3 Try.f3 rfl rfl rfl rfl rfl rfl rfl ⟨rfl, rfl, rfl, rfl, rfl⟩ rfl rfl rfl rfl rfl (by kernel_rfl) Try.func3 (by kernel_rfl)
    (of_decide_eq_true (by kernel_rfl)) (by unfold Func.isWrapper; rw [if_neg (of_decide_eq_false (by kernel_rfl))]; exact ⟨rfl, rfl⟩)
    (fun os st H enc _ => lifted os st H enc)
end JudgeSafeLaw

theorem judgeSafe : Rows.JudgeSafeSaid := JudgeSafeLaw.over
#print axioms judgeSafe
end Go.Proofs.Ytfblegjbmhgepaa
