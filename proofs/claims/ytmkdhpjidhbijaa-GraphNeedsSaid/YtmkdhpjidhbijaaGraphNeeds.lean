/- 'baliselaw05.GraphNeeds' returns true, whatever the input; its arguments read behind the call as they read before. No condition. -/
import Derived.Test.YtmkdhpjidhbijaaRows
import Derived.Test.YtmkdhpjidhbijaaZcPd
set_option linter.all false
namespace Go.Proofs.Ytmkdhpjidhbijaa
namespace GraphNeedsLaw
open Go.Zc
set_option maxRecDepth 100000

theorem law : ∀ cs, HasArgs [tDraft, .int .u8, .slice (.int .u8)] cs → ∃ H', call Zt.ctx (.fn (.func 13) [] []) cs ⟨[], []⟩ = some (.bool true, H') := by
  rintro cs ⟨c0, r0, rfl, h0, c1, r1, rfl, h1, c2, r2, rfl, h2, rfl⟩
  obtain ⟨d, rfl, hd⟩ := draft_of h0
  obtain ⟨x, hx, qx⟩ := u8_of _ h1
  obtain ⟨t, ht, _, qt⟩ := slice_of u8_of h2
  cases hx
  cases ht
  refine ⟨⟨[], []⟩, ?_⟩
  have := Zt.graphNeeds_F d hd x qx t qt
  simp only [Zt.l05_GraphNeeds_call, y1, y2, y3, y4, y5, y6, y7, y8, y9, keepE, keepB, chk, CV.locs, CV.locv, CV.refs, CV.ref, pureOp, repC, takeN, resV, enterC, Nat.reduceAdd, Nat.reduceSub, Nat.reduceMul, Nat.reduceLeDiff, Nat.reduceLT, Nat.reduceBEq, Nat.reduceBNe, Nat.reduceEqDiff, ↓reduceIte, Int.reduceAdd, Int.reduceSub, Int.reduceMul, Int.reduceLT, Int.reduceLE, Int.reduceEq, Int.reduceNeg, Int.reduceToNat, this]

open Go.RowKit

theorem lifted (os : Os) (started : os.Started) (H : Type) (enc : TypeId × Value → H) :
    ReturnsInHanded {} Try.checked os 13 .any (Rows.graphNeedsSpec.pre6 enc Try.prog Try.f13 Rows.graphNeedsRow.domain false) (Rows.graphNeedsSpec.post enc Try.prog Try.f13 false true false false) :=
  law_lifted (C := Try.checked) Zt.ctx_ok (n := 9) (Ts := [tDraft, .int .u8, .slice (.int .u8)]) (tb := 4) (by kernel_rfl) (by kernel_rfl) (by kernel_rfl) Try.func13 (by kernel_rfl) (by kernel_rfl) rfl (by kernel_rfl)
    (by
      intro H ds h
      match ds, h with
      | [_, _, _], _ => rfl)
    law os started H enc
    (ChangeSpec.witness6 (enc := enc) (C := Try.checked) false ⟨#[], #[.agg #[.int .u8 0, .int .u8 0, .int .u8 0, .int .u16 0, .int .u16 0, .int .u8 0, .int .u8 0, .int .u8 0, .slice none 0 0], .int .u8 0, .slice none 0 0], []⟩ 9 (by kernel_rfl) (by kernel_rfl) (by kernel_rfl) (by kernel_rfl))

theorem over : Rows.graphNeedsRow.holds Try.pinned (OpenSpec.ofChange Rows.graphNeedsSpec) :=
  OpenClaim.holds_of_wide 13 Try.f13 rfl rfl rfl rfl rfl rfl rfl ⟨rfl, rfl, rfl, rfl, rfl⟩ rfl rfl rfl rfl rfl (by kernel_rfl) Try.func13 (by kernel_rfl)
    (of_decide_eq_true (by kernel_rfl)) (by unfold Func.isWrapper; rw [if_neg (of_decide_eq_false (by kernel_rfl))]; exact ⟨rfl, rfl⟩)
    (fun os st H enc _ => lifted os st H enc)
end GraphNeedsLaw

theorem graphNeeds : Rows.GraphNeedsSaid := GraphNeedsLaw.over
#print axioms graphNeeds
end Go.Proofs.Ytmkdhpjidhbijaa
