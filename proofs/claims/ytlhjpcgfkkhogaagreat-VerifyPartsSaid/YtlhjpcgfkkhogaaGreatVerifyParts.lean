/- 'baliselaw06.VerifyParts' returns true, whatever the input; its arguments read behind the call as they read before. No condition. -/
import Derived.Test.YtlhjpcgfkkhogaaGreatRows
import Derived.Test.YtlhjpcgfkkhogaaGreatZcVi
set_option linter.all false
namespace Go.Proofs.YtlhjpcgfkkhogaaGreat
namespace VerifyPartsLaw
open Go.Zc
set_option maxRecDepth 100000

theorem law : ∀ cs, HasArgs [tDraft, .slice (.slice (.int .i8))] cs → ∃ H', call Zt.ctx (.fn (.func 8) [] []) cs ⟨[], []⟩ = some (.bool true, H') := by
  rintro cs ⟨c0, r0, rfl, h0, c1, r1, rfl, h1, rfl⟩
  obtain ⟨d, rfl, hd⟩ := draft_of h0
  obtain ⟨l, hl, _, ql⟩ := slice_of (f := Zt.fL8) (Q := fun q => ∀ x ∈ q, -128 ≤ x ∧ x ≤ 127) (T := .slice (.int .i8)) (fun r h => by
    obtain ⟨x, hx, _, qx⟩ := slice_of (f := Zt.fI8) (Q := fun x => -128 ≤ x ∧ x ≤ 127) (T := .int .i8) (fun r h => by
      simp only [HasTy] at h
      obtain ⟨n, rfl, hw⟩ := h
      refine ⟨n, rfl, ?_⟩
      simp only [Lit.wf, Bool.and_eq_true, decide_eq_true_eq] at hw
      exact hw) h
    exact ⟨x, hx, qx⟩) h1
  cases hl
  refine ⟨⟨[], []⟩, ?_⟩
  have := Zt.vParts_F d hd l ql
  simp only [Zt.l06_VerifyParts_call, zy, simprocAttr, this]

open Go.RowKit

theorem lifted (os : Os) (started : os.Started) (H : Type) (enc : TypeId × Value → H) :
    ReturnsInHanded {} Tryz.checked os 8 .any (Rows.verifyPartsSpec.pre6 enc Tryz.prog Tryz.f8 Rows.verifyPartsRow.domain false) (Rows.verifyPartsSpec.post enc Tryz.prog Tryz.f8 false true false false) :=
  law_lifted (C := Tryz.checked) Zt.ctx_ok (n := 9) (Ts := [tDraft, .slice (.slice (.int .i8))]) (tb := 4) (by kernel_rfl) (by kernel_rfl) (by kernel_rfl) Tryz.func8 (by kernel_rfl) (by kernel_rfl) rfl (by kernel_rfl)
    (by
      intro H ds h
      match ds, h with
      | [_, _], _ => rfl)
    law os started H enc
    (ChangeSpec.witness6 (enc := enc) (C := Tryz.checked) false ⟨#[], #[.agg #[.int .u8 0, .int .u8 0, .int .u8 0, .int .u16 0, .int .u16 0, .int .u8 0, .int .u8 0, .int .u8 0, .slice none 0 0],  .slice none 0 0], []⟩ 9 (by kernel_rfl) (by kernel_rfl) (by kernel_rfl) (by kernel_rfl))

theorem over : Rows.verifyPartsRow.holds Tryz.pinned (OpenSpec.ofChange Rows.verifyPartsSpec) :=
  OpenClaim.holds_of_wide 8 Tryz.f8 rfl rfl rfl rfl rfl rfl rfl ⟨rfl, rfl, rfl, rfl, rfl⟩ rfl rfl rfl rfl rfl (by kernel_rfl) Tryz.func8 (by kernel_rfl)
    (of_decide_eq_true (by kernel_rfl)) (by unfold Func.isWrapper; rw [if_neg (of_decide_eq_false (by kernel_rfl))]; exact ⟨rfl, rfl⟩)
    (fun os st H enc _ => lifted os st H enc)
end VerifyPartsLaw

theorem verifyParts : Rows.VerifyPartsSaid := VerifyPartsLaw.over
#print axioms verifyParts
end Go.Proofs.YtlhjpcgfkkhogaaGreat
