/- 'baliselaw20.JudgeSole' returns true, whatever the input; its arguments read behind the call as they read before. No condition. -/
import Derived.Test.YtfblegjbmhgepaaRows
import Derived.Test.YtfblegjbmhgepaaZcWy
set_option linter.all false
namespace Go.Proofs.Ytfblegjbmhgepaa
namespace JudgeSoleLaw
open Go.Zc
set_option maxRecDepth 100000

theorem law : ∀ cs, HasArgs [tStory, .int .i64, .slice (.int .i64), .bool] cs → ∃ H', call Zt.ctx (.fn (.func 5) [] []) cs ⟨[], []⟩ = some (.bool true, H') := by
  rintro cs ⟨c0, r0, rfl, h0, c1, r1, rfl, h1, c2, r2, rfl, h2, c3, r3, rfl, h3, rfl⟩
  obtain ⟨s, rfl, hs⟩ := story_of h0
  obtain ⟨n, e1, _⟩ := i64_of _ h1
  obtain ⟨l, e2, _, _⟩ := slice_of i64_of h2
  obtain ⟨b, e3, _⟩ := bool_of _ h3
  cases e1
  cases e2
  cases e3
  refine ⟨⟨[], []⟩, ?_⟩
  have := Zt.judgeSole_F s hs n l b
  simp only [Zt.l20_JudgeSole_call, zy, simprocAttr, this]

open Go.RowKit

theorem lifted (os : Os) (started : os.Started) (H : Type) (enc : TypeId × Value → H) :
    ReturnsInHanded {} Try.checked os 5 .any (Rows.judgeSoleSpec.pre6 enc Try.prog Try.f5 Rows.judgeSoleRow.domain false) (Rows.judgeSoleSpec.post enc Try.prog Try.f5 false true false false) :=
  law_lifted (C := Try.checked) Zt.ctx_ok (n := 9) (Ts := [tStory, .int .i64, .slice (.int .i64), .bool]) (tb := 4) (by kernel_rfl) (by kernel_rfl) (by kernel_rfl) Try.func5 (by kernel_rfl) (by kernel_rfl) rfl (by kernel_rfl)
    (by
      intro H ds h
      match ds, h with
      | [_, _, _, _], _ => rfl)
    law os started H enc
    (ChangeSpec.witness6 (enc := enc) (C := Try.checked) false ⟨#[], #[.agg #[.int .u8 0, .int .u8 0, .int .u8 0, .int .u16 0, .int .u16 0, .int .u8 0, .int .u8 0, .int .u8 0, .slice none 0 0, .slice none 0 0, .slice none 0 0], .int .i64 0, .slice none 0 0, .bool false], []⟩ 9 (by kernel_rfl) (by kernel_rfl) (by kernel_rfl) (by kernel_rfl))

theorem over : Rows.judgeSoleRow.holds Try.pinned (OpenSpec.ofChange Rows.judgeSoleSpec) :=
  OpenClaim.holds_of_wide 5 Try.f5 rfl rfl rfl rfl rfl rfl rfl ⟨rfl, rfl, rfl, rfl, rfl⟩ rfl rfl rfl rfl rfl (by kernel_rfl) Try.func5 (by kernel_rfl)
    (of_decide_eq_true (by kernel_rfl)) (by unfold Func.isWrapper; rw [if_neg (of_decide_eq_false (by kernel_rfl))]; exact ⟨rfl, rfl⟩)
    (fun os st H enc _ => lifted os st H enc)
end JudgeSoleLaw

theorem judgeSole : Rows.JudgeSoleSaid := JudgeSoleLaw.over
#print axioms judgeSole
end Go.Proofs.Ytfblegjbmhgepaa
