/- 'baliselaw06.VerifyDrafts' returns true, whatever the input; its arguments read behind the call as they read before. No condition. -/
import Derived.Test.YtlhjpcgfkkhogaaGreatRows
import Derived.Test.YtlhjpcgfkkhogaaGreatZcVi
set_option linter.all false
namespace Go.Proofs.YtlhjpcgfkkhogaaGreat
namespace VerifyDraftsLaw
open Go.Zc
set_option maxRecDepth 100000

theorem law : ∀ cs, HasArgs [tDraft] cs → ∃ H', call Zt.ctx (.fn (.func 3) [] []) cs ⟨[], []⟩ = some (.bool true, H') := by
  rintro cs ⟨c0, r0, rfl, h0, rfl⟩
  obtain ⟨d, rfl, hd⟩ := draft_of h0
  refine ⟨⟨[], []⟩, ?_⟩
  have := Zt.vDrafts_F d hd
  simp only [Zt.l06_VerifyDrafts_call, zy, simprocAttr, this]

open Go.RowKit

theorem lifted (os : Os) (started : os.Started) (H : Type) (enc : TypeId × Value → H) :
    ReturnsInHanded {} Tryz.checked os 3 .any (Rows.verifyDraftsSpec.pre6 enc Tryz.prog Tryz.f3 Rows.verifyDraftsRow.domain false) (Rows.verifyDraftsSpec.post enc Tryz.prog Tryz.f3 false true false false) :=
  law_lifted (C := Tryz.checked) Zt.ctx_ok (n := 9) (Ts := [tDraft]) (tb := 4) (by kernel_rfl) (by kernel_rfl) (by kernel_rfl) Tryz.func3 (by kernel_rfl) (by kernel_rfl) rfl (by kernel_rfl)
    (by
      intro H ds h
      match ds, h with
      | [_], _ => rfl)
    law os started H enc
    (ChangeSpec.witness6 (enc := enc) (C := Tryz.checked) false ⟨#[], #[.agg #[.int .u8 0, .int .u8 0, .int .u8 0, .int .u16 0, .int .u16 0, .int .u8 0, .int .u8 0, .int .u8 0, .slice none 0 0]], []⟩ 9 (by kernel_rfl) (by kernel_rfl) (by kernel_rfl) (by kernel_rfl))

theorem over : Rows.verifyDraftsRow.holds Tryz.pinned (OpenSpec.ofChange Rows.verifyDraftsSpec) :=
  OpenClaim.holds_of_wide 3 Tryz.f3 rfl rfl rfl rfl rfl rfl rfl ⟨rfl, rfl, rfl, rfl, rfl⟩ rfl rfl rfl rfl rfl (by kernel_rfl) Tryz.func3 (by kernel_rfl)
    (of_decide_eq_true (by kernel_rfl)) (by unfold Func.isWrapper; rw [if_neg (of_decide_eq_false (by kernel_rfl))]; exact ⟨rfl, rfl⟩)
    (fun os st H enc _ => lifted os st H enc)
end VerifyDraftsLaw

theorem verifyDrafts : Rows.VerifyDraftsSaid := VerifyDraftsLaw.over
#print axioms verifyDrafts
end Go.Proofs.YtlhjpcgfkkhogaaGreat
