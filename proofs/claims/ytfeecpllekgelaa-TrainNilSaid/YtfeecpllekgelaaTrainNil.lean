/- 'baliselaw10.TrainNil' returns true, whatever the input; its arguments read behind the call as they read before. No condition. -/
import Derived.Test.YtfeecpllekgelaaRows
import Derived.Test.YtfeecpllekgelaaZcNil
namespace Go.Proofs.Ytfeecpllekgelaa
namespace NilLaw
open Go.Zc Go.RowKit
set_option maxRecDepth 100000

theorem eq (id now : Int) : call Zn.ctx (.fn (.func 8) [] []) [.int .i64 id, .int .u16 now] ⟨[], []⟩ = some (.bool true, ⟨[], []⟩) := call_iff.2 ⟨60, by kernel_rfl⟩

theorem law : ∀ cs, HasArgs [.int .i64, .int .u16] cs → ∃ H', call Zn.ctx (.fn (.func 8) [] []) cs ⟨[], []⟩ = some (.bool true, H') := by
  rintro cs ⟨c0, r0, rfl, ⟨n0, h0, w0⟩, c1, r1, rfl, ⟨n1, h1, w1⟩, rfl⟩
  cases h0
  cases h1
  exact ⟨_, eq n0 n1⟩

theorem lifted (os : Os) (started : os.Started) (H : Type) (enc : TypeId × Value → H) :
    ReturnsInHanded {} Try.checked os 8 .any (Rows.trainNilSpec.pre6 enc Try.prog Try.f8 Rows.trainNilRow.domain false) (Rows.trainNilSpec.post enc Try.prog Try.f8 false true false false) :=
  law_lifted (C := Try.checked) Zn.ctx_ok (n := 9) (Ts := [.int .i64, .int .u16]) (tb := 4) (by kernel_rfl) (by kernel_rfl) (by kernel_rfl) Try.func8 (by kernel_rfl) (by kernel_rfl) rfl (by kernel_rfl)
    (by
      intro H ds h
      match ds, h with
      | [_, _], _ => rfl)
    law os started H enc
    (ChangeSpec.witness6 (enc := enc) (C := Try.checked) false ⟨#[], #[.int .i64 0, .int .u16 0], []⟩ 9 (by kernel_rfl) (by kernel_rfl) (by kernel_rfl) (by kernel_rfl))

theorem over : Rows.trainNilRow.holds Try.pinned (OpenSpec.ofChange Rows.trainNilSpec) :=
  OpenClaim.holds_of_wide 8 Try.f8 rfl rfl rfl rfl rfl rfl rfl ⟨rfl, rfl, rfl, rfl, rfl⟩ rfl rfl rfl rfl rfl (by kernel_rfl) Try.func8 (by kernel_rfl)
    (of_decide_eq_true (by kernel_rfl)) (by unfold Func.isWrapper; rw [if_neg (of_decide_eq_false (by kernel_rfl))]; exact ⟨rfl, rfl⟩)
    (fun os st H enc _ => lifted os st H enc)
end NilLaw

theorem trainNil : Rows.TrainNilSaid := NilLaw.over
#print axioms trainNil
end Go.Proofs.Ytfeecpllekgelaa
