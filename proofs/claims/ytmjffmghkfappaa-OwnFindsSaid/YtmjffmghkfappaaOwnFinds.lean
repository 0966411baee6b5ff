/- 'baliselaw12.OwnFinds' returns true, whatever the input; its arguments read behind the call as they read before. No condition. -/
import Derived.Test.YtmjffmghkfappaaRows
import Derived.Test.YtmjffmghkfappaaZcVh
set_option linter.all false
namespace Go.Proofs.Ytmjffmghkfappaa
namespace OwnFindsLaw
open Go.Zc
set_option maxRecDepth 100000

theorem law : ∀ cs, HasArgs [.slice (.int .i64), .int .i64] cs → ∃ H', call Zt.ctx (.fn (.func 6) [] []) cs ⟨[], []⟩ = some (.bool true, H') := by
  rintro cs ⟨c0, r0, rfl, h0, c1, r1, rfl, h1, rfl⟩
  obtain ⟨m, hm, _, _⟩ := slice_of i64_of h0
  obtain ⟨x, hx, _⟩ := i64_of _ h1
  cases hm
  cases hx
  refine ⟨⟨[], []⟩, ?_⟩
  have := Zt.ownFinds_F m x
  simp only [Zt.l12_OwnFinds_call, y1, y2, y3, y4, y5, y6, y7, y8, y9, keepE, keepB, chk, CV.locs, CV.locv, CV.refs, CV.ref, pureOp, repC, takeN, resV, enterC, Nat.reduceAdd, Nat.reduceSub, Nat.reduceMul, Nat.reduceLeDiff, Nat.reduceLT, Nat.reduceBEq, Nat.reduceBNe, Nat.reduceEqDiff, ↓reduceIte, Int.reduceAdd, Int.reduceSub, Int.reduceMul, Int.reduceLT, Int.reduceLE, Int.reduceEq, Int.reduceNeg, Int.reduceToNat, this]

open Go.RowKit

theorem lifted (os : Os) (started : os.Started) (H : Type) (enc : TypeId × Value → H) :
    ReturnsInHanded {} Try.checked os 6 .any (Rows.ownFindsSpec.pre6 enc Try.prog Try.f6 Rows.ownFindsRow.domain false) (Rows.ownFindsSpec.post enc Try.prog Try.f6 false true false false) :=
  law_lifted (C := Try.checked) Zt.ctx_ok (n := 9) (Ts := [.slice (.int .i64), .int .i64]) (tb := 4) (by kernel_rfl) (by kernel_rfl) (by kernel_rfl) Try.func6 (by kernel_rfl) (by kernel_rfl) rfl (by kernel_rfl)
    (by
      intro H ds h
      match ds, h with
      | [_, _], _ => rfl)
    law os started H enc
    (ChangeSpec.witness6 (enc := enc) (C := Try.checked) false ⟨#[], #[.slice none 0 0, .int .i64 0], []⟩ 9 (by kernel_rfl) (by kernel_rfl) (by kernel_rfl) (by kernel_rfl))

theorem over : Rows.ownFindsRow.holds Try.pinned (OpenSpec.ofChange Rows.ownFindsSpec) :=
  OpenClaim.holds_of_wide 6 Try.f6 rfl rfl rfl rfl rfl rfl rfl ⟨rfl, rfl, rfl, rfl, rfl⟩ rfl rfl rfl rfl rfl (by kernel_rfl) Try.func6 (by kernel_rfl)
    (of_decide_eq_true (by kernel_rfl)) (by unfold Func.isWrapper; rw [if_neg (of_decide_eq_false (by kernel_rfl))]; exact ⟨rfl, rfl⟩)
    (fun os st H enc _ => lifted os st H enc)
end OwnFindsLaw

theorem ownFinds : Rows.OwnFindsSaid := OwnFindsLaw.over
#print axioms ownFinds
end Go.Proofs.Ytmjffmghkfappaa
