/- 'baliselaw12.OwnDeclares' returns true, whatever the input; its arguments read behind the call as they read before. No condition. -/
import Derived.Test.YtmjffmghkfappaaRows
import Derived.Test.YtmjffmghkfappaaZcVi
set_option linter.all false
namespace Go.Proofs.Ytmjffmghkfappaa
namespace OwnDeclaresLaw
open Go.Zc
set_option maxRecDepth 100000

theorem law : ∀ cs, HasArgs [tDraft, tField, .int .i64, .int .i64, .bool] cs → ∃ H', call Zt.ctx (.fn (.func 9) [] []) cs ⟨[], []⟩ = some (.bool true, H') := by
  rintro cs ⟨c0, r0, rfl, h0, c1, r1, rfl, h1, c2, r2, rfl, h2, c3, r3, rfl, h3, c4, r4, rfl, h4, rfl⟩
  obtain ⟨d, rfl, hd⟩ := draft_of h0
  obtain ⟨f, rfl, hf⟩ := field_of h1
  obtain ⟨p, hp, qp⟩ := i64_of _ h2
  obtain ⟨i, hi, qi⟩ := i64_of _ h3
  obtain ⟨b, hb, _⟩ := bool_of _ h4
  cases hp
  cases hi
  cases hb
  refine ⟨⟨[], []⟩, ?_⟩
  have := Zt.ownDeclares_F d hd f hf p i qp qi b
  simp only [Zt.l12_OwnDeclares_call, y1, y2, y3, y4, y5, y6, y7, y8, y9, keepE, keepB, chk, CV.locs, CV.locv, CV.refs, CV.ref, pureOp, repC, takeN, resV, enterC, Nat.reduceAdd, Nat.reduceSub, Nat.reduceMul, Nat.reduceLeDiff, Nat.reduceLT, Nat.reduceBEq, Nat.reduceBNe, Nat.reduceEqDiff, ↓reduceIte, Int.reduceAdd, Int.reduceSub, Int.reduceMul, Int.reduceLT, Int.reduceLE, Int.reduceEq, Int.reduceNeg, Int.reduceToNat, this]

open Go.RowKit

theorem lifted (os : Os) (started : os.Started) (H : Type) (enc : TypeId × Value → H) :
    ReturnsInHanded {} Try.checked os 9 .any (Rows.ownDeclaresSpec.pre6 enc Try.prog Try.f9 Rows.ownDeclaresRow.domain false) (Rows.ownDeclaresSpec.post enc Try.prog Try.f9 false true false false) :=
  law_lifted (C := Try.checked) Zt.ctx_ok (n := 9) (Ts := [tDraft, tField, .int .i64, .int .i64, .bool]) (tb := 4) (by kernel_rfl) (by kernel_rfl) (by kernel_rfl) Try.func9 (by kernel_rfl) (by kernel_rfl) rfl (by kernel_rfl)
    (by
      intro H ds h
      match ds, h with
      | [_, _, _, _, _], _ => rfl)
    law os started H enc
    (ChangeSpec.witness6 (enc := enc) (C := Try.checked) false ⟨#[], #[.agg #[.int .u8 0, .int .u8 0, .int .u8 0, .int .u16 0, .int .u16 0, .int .u8 0, .int .u8 0, .int .u8 0, .slice none 0 0], .agg #[.slice none 0 0, .slice none 0 0, .slice none 0 0], .int .i64 0, .int .i64 0, .bool false], []⟩ 9 (by kernel_rfl) (by kernel_rfl) (by kernel_rfl) (by kernel_rfl))

theorem over : Rows.ownDeclaresRow.holds Try.pinned (OpenSpec.ofChange Rows.ownDeclaresSpec) :=
  OpenClaim.holds_of_wide 9 Try.f9 rfl rfl rfl rfl rfl rfl rfl ⟨rfl, rfl, rfl, rfl, rfl⟩ rfl rfl rfl rfl rfl (by kernel_rfl) Try.func9 (by kernel_rfl)
    (of_decide_eq_true (by kernel_rfl)) (by unfold Func.isWrapper; rw [if_neg (of_decide_eq_false (by kernel_rfl))]; exact ⟨rfl, rfl⟩)
    (fun os st H enc _ => lifted os st H enc)
end OwnDeclaresLaw

theorem ownDeclares : Rows.OwnDeclaresSaid := OwnDeclaresLaw.over
#print axioms ownDeclares
end Go.Proofs.Ytmjffmghkfappaa
