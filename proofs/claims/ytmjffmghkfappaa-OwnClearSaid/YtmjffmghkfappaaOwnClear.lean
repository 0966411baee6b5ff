/- 'baliselaw12.OwnClear' returns true, whatever the input; its arguments read behind the call as they read before. No condition. -/
import Derived.Test.YtmjffmghkfappaaRows
import Derived.Test.YtmjffmghkfappaaZcVg
set_option linter.all false
namespace Go.Proofs.Ytmjffmghkfappaa
namespace OwnClearLaw
open Go.Zc
set_option maxRecDepth 100000

theorem law : ∀ cs, HasArgs [tDraft, tField] cs → ∃ H', call Zt.ctx (.fn (.func 7) [] []) cs ⟨[], []⟩ = some (.bool true, H') := by
  rintro cs ⟨c0, r0, rfl, h0, c1, r1, rfl, h1, rfl⟩
  obtain ⟨d, rfl, hd⟩ := draft_of h0
  obtain ⟨f, rfl, hf⟩ := field_of h1
  refine ⟨⟨[], []⟩, ?_⟩
  have := Zt.ownClear_F d hd f hf
  simp only [Zt.l12_OwnClear_call, y1, y2, y3, y4, y5, y6, y7, y8, y9, keepE, keepB, chk, CV.locs, CV.locv, CV.refs, CV.ref, pureOp, repC, takeN, resV, enterC, Nat.reduceAdd, Nat.reduceSub, Nat.reduceMul, Nat.reduceLeDiff, Nat.reduceLT, Nat.reduceBEq, Nat.reduceBNe, Nat.reduceEqDiff, ↓reduceIte, Int.reduceAdd, Int.reduceSub, Int.reduceMul, Int.reduceLT, Int.reduceLE, Int.reduceEq, Int.reduceNeg, Int.reduceToNat, this]

open Go.RowKit

theorem lifted (os : Os) (started : os.Started) (H : Type) (enc : TypeId × Value → H) :
    ReturnsInHanded {} Try.checked os 7 .any (Rows.ownClearSpec.pre6 enc Try.prog Try.f7 Rows.ownClearRow.domain false) (Rows.ownClearSpec.post enc Try.prog Try.f7 false true false false) :=
  law_lifted (C := Try.checked) Zt.ctx_ok (n := 9) (Ts := [tDraft, tField]) (tb := 4) (by kernel_rfl) (by kernel_rfl) (by kernel_rfl) Try.func7 (by kernel_rfl) (by kernel_rfl) rfl (by kernel_rfl)
    (by
      intro H ds h
      match ds, h with
      | [_, _], _ => rfl)
    law os started H enc
    (ChangeSpec.witness6 (enc := enc) (C := Try.checked) false ⟨#[], #[.agg #[.int .u8 0, .int .u8 0, .int .u8 0, .int .u16 0, .int .u16 0, .int .u8 0, .int .u8 0, .int .u8 0, .slice none 0 0], .agg #[.slice none 0 0, .slice none 0 0, .slice none 0 0]], []⟩ 9 (by kernel_rfl) (by kernel_rfl) (by kernel_rfl) (by kernel_rfl))

theorem over : Rows.ownClearRow.holds Try.pinned (OpenSpec.ofChange Rows.ownClearSpec) :=
  OpenClaim.holds_of_wide 7 Try.f7 rfl rfl rfl rfl rfl rfl rfl ⟨rfl, rfl, rfl, rfl, rfl⟩ rfl rfl rfl rfl rfl (by kernel_rfl) Try.func7 (by kernel_rfl)
    (of_decide_eq_true (by kernel_rfl)) (by unfold Func.isWrapper; rw [if_neg (of_decide_eq_false (by kernel_rfl))]; exact ⟨rfl, rfl⟩)
    (fun os st H enc _ => lifted os st H enc)
end OwnClearLaw

theorem ownClear : Rows.OwnClearSaid := OwnClearLaw.over
#print axioms ownClear
end Go.Proofs.Ytmjffmghkfappaa
