/- 'baliselaw06.VerifyOne' returns true, whatever the input; its arguments read behind the call as they read before. No condition. -/
import Derived.Test.YtlhjpcgfkkhogaaGreatRows
import Derived.Test.YtlhjpcgfkkhogaaGreatZcVi
set_option linter.all false
namespace Go.Proofs.YtlhjpcgfkkhogaaGreat
namespace VerifyOneLaw
open Go.Zc
set_option maxRecDepth 100000

theorem law : ∀ cs, HasArgs [tDraft, .int .u8, .int .u8, .int .i64] cs → ∃ H', call Zt.ctx (.fn (.func 4) [] []) cs ⟨[], []⟩ = some (.bool true, H') := by
  rintro cs ⟨c0, r0, rfl, h0, c1, r1, rfl, h1, c2, r2, rfl, h2, c3, r3, rfl, h3, rfl⟩
  obtain ⟨d, rfl, hd⟩ := draft_of h0
  obtain ⟨w, hw, qw⟩ := u8_of _ h1
  obtain ⟨x, hx, qx⟩ := u8_of _ h2
  obtain ⟨n, hn, qn⟩ := i64_of _ h3
  cases hw
  cases hx
  cases hn
  refine ⟨⟨[], []⟩, ?_⟩
  have := Zt.vOne_F d hd qw qx qn
  simp only [Zt.l06_VerifyOne_call, zy, simprocAttr, this]

open Go.RowKit

theorem lifted (os : Os) (started : os.Started) (H : Type) (enc : TypeId × Value → H) :
    ReturnsInHanded {} Tryz.checked os 4 .any (Rows.verifyOneSpec.pre6 enc Tryz.prog Tryz.f4 Rows.verifyOneRow.domain false) (Rows.verifyOneSpec.post enc Tryz.prog Tryz.f4 false true false false) :=
  law_lifted (C := Tryz.checked) Zt.ctx_ok (n := 9) (Ts := [tDraft, .int .u8, .int .u8, .int .i64]) (tb := 4) (by kernel_rfl) (by kernel_rfl) (by kernel_rfl) Tryz.func4 (by kernel_rfl) (by kernel_rfl) rfl (by kernel_rfl)
    (by
      intro H ds h
      match ds, h with
      | [_, _, _, _], _ => rfl)
    law os started H enc
    (ChangeSpec.witness6 (enc := enc) (C := Tryz.checked) false ⟨#[], #[.agg #[.int .u8 0, .int .u8 0, .int .u8 0, .int .u16 0, .int .u16 0, .int .u8 0, .int .u8 0, .int .u8 0, .slice none 0 0],  .int .u8 0,  .int .u8 0,  .int .i64 0], []⟩ 9 (by kernel_rfl) (by kernel_rfl) (by kernel_rfl) (by kernel_rfl))

theorem over : Rows.verifyOneRow.holds Tryz.pinned (OpenSpec.ofChange Rows.verifyOneSpec) :=
  OpenClaim.holds_of_wide 4 Tryz.f4 rfl rfl rfl rfl rfl rfl rfl ⟨rfl, rfl, rfl, rfl, rfl⟩ rfl rfl rfl rfl rfl (by kernel_rfl) Tryz.func4 (by kernel_rfl)
    (of_decide_eq_true (by kernel_rfl)) (by unfold Func.isWrapper; rw [if_neg (of_decide_eq_false (by kernel_rfl))]; exact ⟨rfl, rfl⟩)
    (fun os st H enc _ => lifted os st H enc)
end VerifyOneLaw

theorem verifyOne : Rows.VerifyOneSaid := VerifyOneLaw.over
#print axioms verifyOne
end Go.Proofs.YtlhjpcgfkkhogaaGreat
