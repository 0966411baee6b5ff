/- 'baliselaw18.WorldNil' returns true, whatever the input; its arguments read behind the call as they read before. No condition. -/
import Derived.Test.YtfblegjbmhgepaaRows
import Derived.Test.YtfblegjbmhgepaaZcT
import Derived.Test.YtfblegjbmhgepaaZcSet
set_option linter.all false
namespace Go.Proofs.Ytfblegjbmhgepaa
namespace WorldNilLaw
open Go.Zc
set_option maxRecDepth 100000

theorem law : ∀ cs, HasArgs [.int .i64, .int .i64] cs → ∃ H', call Zt.ctx (.fn (.func 13) [] []) cs ⟨[], []⟩ = some (.bool true, H') := by
  rintro cs ⟨c0, r0, rfl, h0, c1, r1, rfl, h1, rfl⟩
  obtain ⟨x, hx, _⟩ := i64_of _ h0
  obtain ⟨y, hy, _⟩ := i64_of _ h1
  cases hx
  cases hy
  refine ⟨⟨[], []⟩, ?_⟩
  have := Zt.worldNil_F x y false ⟨[], []⟩
  simp only [Zt.l18_WorldNil_call, zy, simprocAttr, this]

open Go.RowKit

theorem lifted (os : Os) (started : os.Started) (H : Type) (enc : TypeId × Value → H) :
    ReturnsInHanded {} Try.checked os 13 .any (Rows.worldNilSpec.pre6 enc Try.prog Try.f13 Rows.worldNilRow.domain false) (Rows.worldNilSpec.post enc Try.prog Try.f13 false true false false) :=
  law_lifted (C := Try.checked) Zt.ctx_ok (n := 9) (Ts := [.int .i64, .int .i64]) (tb := 4) (by kernel_rfl) (by kernel_rfl) (by kernel_rfl) Try.func13 (by kernel_rfl) (by kernel_rfl) rfl (by kernel_rfl)
    (by
      intro H ds h
      match ds, h with
      | [_, _], _ => rfl)
    law os started H enc
    (ChangeSpec.witness6 (enc := enc) (C := Try.checked) false ⟨#[], #[.int .i64 0, .int .i64 0], []⟩ 9 (by kernel_rfl) (by kernel_rfl) (by kernel_rfl) (by kernel_rfl))

theorem over : Rows.worldNilRow.holds Try.pinned (OpenSpec.ofChange Rows.worldNilSpec) :=
  OpenClaim.holds_of_wide 13 Try.f13 rfl rfl rfl rfl rfl rfl rfl ⟨rfl, rfl, rfl, rfl, rfl⟩ rfl rfl rfl rfl rfl (by kernel_rfl) Try.func13 (by kernel_rfl)
    (of_decide_eq_true (by kernel_rfl)) (by unfold Func.isWrapper; rw [if_neg (of_decide_eq_false (by kernel_rfl))]; exact ⟨rfl, rfl⟩)
    (fun os st H enc _ => lifted os st H enc)
end WorldNilLaw

theorem worldNil : Rows.WorldNilSaid := WorldNilLaw.over
#print axioms worldNil
end Go.Proofs.Ytfblegjbmhgepaa
