/- 'baliselaw06.VerifyRoutes' returns true, whatever the input; its arguments read behind the call as they read before. No condition. -/
import Derived.Test.YtlhjpcgfkkhogaaGreatRows
import Derived.Test.YtlhjpcgfkkhogaaGreatZcVi
set_option linter.all false
namespace Go.Proofs.YtlhjpcgfkkhogaaGreat
namespace VerifyRoutesLaw
open Go.Zc
set_option maxRecDepth 100000

theorem law : ∀ cs, HasArgs [tDraft, .slice (.int .i64), .int .u8, .slice (.int .u8)] cs → ∃ H', call Zt.ctx (.fn (.func 6) [] []) cs ⟨[], []⟩ = some (.bool true, H') := by
  rintro cs ⟨c0, r0, rfl, h0, c1, r1, rfl, h1, c2, r2, rfl, h2, c3, r3, rfl, h3, rfl⟩
  obtain ⟨d, rfl, hd⟩ := draft_of h0
  obtain ⟨p, hp, _, _⟩ := slice_of i64_of h1
  obtain ⟨x, hx, qx⟩ := u8_of _ h2
  obtain ⟨t, ht, _, qt⟩ := slice_of u8_of h3
  cases hp
  cases hx
  cases ht
  refine ⟨⟨[], []⟩, ?_⟩
  have := Zt.vRoutes_F d hd p x qx t qt
  simp only [Zt.l06_VerifyRoutes_call, zy, simprocAttr, this]

open Go.RowKit

theorem lifted (os : Os) (started : os.Started) (H : Type) (enc : TypeId × Value → H) :
    ReturnsInHanded {} Tryz.checked os 6 .any (Rows.verifyRoutesSpec.pre6 enc Tryz.prog Tryz.f6 Rows.verifyRoutesRow.domain false) (Rows.verifyRoutesSpec.post enc Tryz.prog Tryz.f6 false true false false) :=
  law_lifted (C := Tryz.checked) Zt.ctx_ok (n := 9) (Ts := [tDraft, .slice (.int .i64), .int .u8, .slice (.int .u8)]) (tb := 4) (by kernel_rfl) (by kernel_rfl) (by kernel_rfl) Tryz.func6 (by kernel_rfl) (by kernel_rfl) rfl (by kernel_rfl)
    (by
      intro H ds h
      match ds, h with
      | [_, _, _, _], _ => rfl)
    law os started H enc
    (ChangeSpec.witness6 (enc := enc) (C := Tryz.checked) false ⟨#[], #[.agg #[.int .u8 0, .int .u8 0, .int .u8 0, .int .u16 0, .int .u16 0, .int .u8 0, .int .u8 0, .int .u8 0, .slice none 0 0],  .slice none 0 0,  .int .u8 0,  .slice none 0 0], []⟩ 9 (by kernel_rfl) (by kernel_rfl) (by kernel_rfl) (by kernel_rfl))

theorem over : Rows.verifyRoutesRow.holds Tryz.pinned (OpenSpec.ofChange Rows.verifyRoutesSpec) :=
  OpenClaim.holds_of_wide 6 Tryz.f6 rfl rfl rfl rfl rfl rfl rfl ⟨rfl, rfl, rfl, rfl, rfl⟩ rfl rfl rfl rfl rfl (by kernel_rfl) Tryz.func6 (by kernel_rfl)
    (of_decide_eq_true (by kernel_rfl)) (by unfold Func.isWrapper; rw [if_neg (of_decide_eq_false (by kernel_rfl))]; exact ⟨rfl, rfl⟩)
    (fun os st H enc _ => lifted os st H enc)
end VerifyRoutesLaw

theorem verifyRoutes : Rows.VerifyRoutesSaid := VerifyRoutesLaw.over
#print axioms verifyRoutes
end Go.Proofs.YtlhjpcgfkkhogaaGreat
