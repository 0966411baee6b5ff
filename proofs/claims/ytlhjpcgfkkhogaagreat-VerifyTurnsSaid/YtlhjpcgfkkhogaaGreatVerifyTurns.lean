/- 'baliselaw06.VerifyTurns' returns true, whatever the input; its arguments read behind the call as they read before. No condition. -/
import Derived.Test.YtlhjpcgfkkhogaaGreatRows
import Derived.Test.YtlhjpcgfkkhogaaGreatZcVi
set_option linter.all false
namespace Go.Proofs.YtlhjpcgfkkhogaaGreat
namespace VerifyTurnsLaw
open Go.Zc
set_option maxRecDepth 100000

theorem law : ∀ cs, HasArgs [.int .i8, .int .i8, .int .u8] cs → ∃ H', call Zt.ctx (.fn (.func 7) [] []) cs ⟨[], []⟩ = some (.bool true, H') := by
  have i8 : ∀ r, HasTy (.int .i8) r → ∃ n : Int, r = [.int .i8 n] ∧ -128 ≤ n ∧ n ≤ 127 := fun r h => by
    simp only [HasTy] at h
    obtain ⟨n, rfl, hw⟩ := h
    refine ⟨n, rfl, ?_⟩
    simp only [Lit.wf, Bool.and_eq_true, decide_eq_true_eq] at hw
    exact hw
  rintro cs ⟨c0, r0, rfl, h0, c1, r1, rfl, h1, c2, r2, rfl, h2, rfl⟩
  obtain ⟨x, hx, qx⟩ := i8 _ h0
  obtain ⟨y, hy, qy⟩ := i8 _ h1
  obtain ⟨z, hz, qz⟩ := u8_of _ h2
  cases hx
  cases hy
  cases hz
  refine ⟨⟨[], []⟩, ?_⟩
  have := Zt.vTurns_F qx qy qz
  simp only [Zt.l06_VerifyTurns_call, zy, simprocAttr, this]

open Go.RowKit

theorem lifted (os : Os) (started : os.Started) (H : Type) (enc : TypeId × Value → H) :
    ReturnsInHanded {} Tryz.checked os 7 .any (Rows.verifyTurnsSpec.pre6 enc Tryz.prog Tryz.f7 Rows.verifyTurnsRow.domain false) (Rows.verifyTurnsSpec.post enc Tryz.prog Tryz.f7 false true false false) :=
  law_lifted (C := Tryz.checked) Zt.ctx_ok (n := 9) (Ts := [.int .i8, .int .i8, .int .u8]) (tb := 4) (by kernel_rfl) (by kernel_rfl) (by kernel_rfl) Tryz.func7 (by kernel_rfl) (by kernel_rfl) rfl (by kernel_rfl)
    (by
      intro H ds h
      match ds, h with
      | [_, _, _], _ => rfl)
    law os started H enc
    (ChangeSpec.witness6 (enc := enc) (C := Tryz.checked) false ⟨#[], #[.int .i8 0,  .int .i8 0,  .int .u8 0], []⟩ 9 (by kernel_rfl) (by kernel_rfl) (by kernel_rfl) (by kernel_rfl))

theorem over : Rows.verifyTurnsRow.holds Tryz.pinned (OpenSpec.ofChange Rows.verifyTurnsSpec) :=
  OpenClaim.holds_of_wide 7 Tryz.f7 rfl rfl rfl rfl rfl rfl rfl ⟨rfl, rfl, rfl, rfl, rfl⟩ rfl rfl rfl rfl rfl (by kernel_rfl) Tryz.func7 (by kernel_rfl)
    (of_decide_eq_true (by kernel_rfl)) (by unfold Func.isWrapper; rw [if_neg (of_decide_eq_false (by kernel_rfl))]; exact ⟨rfl, rfl⟩)
    (fun os st H enc _ => lifted os st H enc)
end VerifyTurnsLaw

theorem verifyTurns : Rows.VerifyTurnsSaid := VerifyTurnsLaw.over
#print axioms verifyTurns
end Go.Proofs.YtlhjpcgfkkhogaaGreat
