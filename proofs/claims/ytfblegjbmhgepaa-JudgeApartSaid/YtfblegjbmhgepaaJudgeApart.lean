/- 'baliselaw20.JudgeApart' returns true, whatever the input; its arguments read behind the call as they read before. No condition. -/
import Derived.Test.YtfblegjbmhgepaaRows
import Derived.Test.YtfblegjbmhgepaaZcJ
set_option linter.all false
namespace Go.Proofs.Ytfblegjbmhgepaa
namespace JudgeApartLaw
open Go.Zc
set_option maxRecDepth 100000

theorem law : ∀ cs, HasArgs [.slice (.slice (.int .i8))] cs → ∃ H', call Zt.ctx (.fn (.func 7) [] []) cs ⟨[], []⟩ = some (.bool true, H') := by
  rintro cs ⟨c0, r0, rfl, h0, rfl⟩
  obtain ⟨l, hl, _, ql⟩ := slice_of (f := Zt.fL8) (Q := fun q => ∀ x ∈ q, -128 ≤ x ∧ x ≤ 127) (T := .slice (.int .i8)) (fun r h => by
    obtain ⟨x, hx, _, qx⟩ := slice_of (f := Zt.fI8) (Q := fun x => -128 ≤ x ∧ x ≤ 127) (T := .int .i8) (fun r h => by
      simp only [HasTy] at h
      obtain ⟨n, rfl, hw⟩ := h
      refine ⟨n, rfl, ?_⟩
      simp only [Lit.wf, Bool.and_eq_true, decide_eq_true_eq] at hw
      exact hw) h
    exact ⟨x, hx, qx⟩) h0
  cases hl
  refine ⟨⟨[], []⟩, ?_⟩
  have := Zt.japart_F l ql ⟨[], []⟩
  simp only [Zt.l20_JudgeApart_call, zy, simprocAttr, this]

open Go.RowKit

theorem lifted (os : Os) (started : os.Started) (H : Type) (enc : TypeId × Value → H) :
    ReturnsInHanded {} Try.checked os 7 .any (Rows.judgeApartSpec.pre6 enc Try.prog Try.f7 Rows.judgeApartRow.domain false) (Rows.judgeApartSpec.post enc Try.prog Try.f7 false true false false) :=
  law_lifted (C := Try.checked) Zt.ctx_ok (n := 9) (Ts := [.slice (.slice (.int .i8))]) (tb := 4) (by kernel_rfl) (by kernel_rfl) (by kernel_rfl) Try.func7 (by kernel_rfl) (by kernel_rfl) rfl (by kernel_rfl)
    (by
      intro H ds h
      match ds, h with
      | [_], _ => rfl)
    law os started H enc
    (ChangeSpec.witness6 (enc := enc) (C := Try.checked) false ⟨#[], #[.slice none 0 0], []⟩ 9 (by kernel_rfl) (by kernel_rfl) (by kernel_rfl) (by kernel_rfl))

theorem over : Rows.judgeApartRow.holds Try.pinned (OpenSpec.ofChange Rows.judgeApartSpec) :=
  OpenClaim.holds_of_wide 7 Try.f7 rfl rfl rfl rfl rfl rfl rfl ⟨rfl, rfl, rfl, rfl, rfl⟩ rfl rfl rfl rfl rfl (by kernel_rfl) Try.func7 (by kernel_rfl)
    (of_decide_eq_true (by kernel_rfl)) (by unfold Func.isWrapper; rw [if_neg (of_decide_eq_false (by kernel_rfl))]; exact ⟨rfl, rfl⟩)
    (fun os st H enc _ => lifted os st H enc)
end JudgeApartLaw

theorem judgeApart : Rows.JudgeApartSaid := JudgeApartLaw.over
#print axioms judgeApart
end Go.Proofs.Ytfblegjbmhgepaa
