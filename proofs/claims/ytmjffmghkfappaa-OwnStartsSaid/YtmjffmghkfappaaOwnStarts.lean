/- 'baliselaw12.OwnStarts' returns true, whatever the input; its arguments read behind the call as they read before. No condition. -/
import Derived.Test.YtmjffmghkfappaaRows
import Derived.Test.YtmjffmghkfappaaZcVj
set_option linter.all false
namespace Go.Proofs.Ytmjffmghkfappaa
namespace OwnStartsLaw
open Go.Zc
set_option maxRecDepth 100000

theorem law : ∀ cs, HasArgs [tDraft, tField, .int .i8] cs → ∃ H', call Zt.ctx (.fn (.func 8) [] []) cs ⟨[], []⟩ = some (.bool true, H') := by
  rintro cs ⟨c0, r0, rfl, h0, c1, r1, rfl, h1, c2, r2, rfl, h2, rfl⟩
  obtain ⟨d, rfl, hd⟩ := draft_of h0
  obtain ⟨f, rfl, hf⟩ := field_of h1
  obtain ⟨n, hn, qn⟩ := h2
  cases hn
  refine ⟨⟨[], []⟩, ?_⟩
  have qn' : -128 ≤ n ∧ n ≤ 127 := by
    have h : (decide (IntKind.i8.min ≤ n) && decide (n ≤ IntKind.i8.max)) = true := qn
    simp only [Bool.and_eq_true, decide_eq_true_eq] at h
    exact h
  have := Zt.ownStarts_F d hd f hf n qn'
  simp only [Zt.l12_OwnStarts_call, y1, y2, y3, y4, y5, y6, y7, y8, y9, keepE, keepB, chk, CV.locs, CV.locv, CV.refs, CV.ref, pureOp, repC, takeN, resV, enterC, Nat.reduceAdd, Nat.reduceSub, Nat.reduceMul, Nat.reduceLeDiff, Nat.reduceLT, Nat.reduceBEq, Nat.reduceBNe, Nat.reduceEqDiff, ↓reduceIte, Int.reduceAdd, Int.reduceSub, Int.reduceMul, Int.reduceLT, Int.reduceLE, Int.reduceEq, Int.reduceNeg, Int.reduceToNat, this]

open Go.RowKit

theorem lifted (os : Os) (started : os.Started) (H : Type) (enc : TypeId × Value → H) :
    ReturnsInHanded {} Try.checked os 8 .any (Rows.ownStartsSpec.pre6 enc Try.prog Try.f8 Rows.ownStartsRow.domain false) (Rows.ownStartsSpec.post enc Try.prog Try.f8 false true false false) :=
  law_lifted (C := Try.checked) Zt.ctx_ok (n := 9) (Ts := [tDraft, tField, .int .i8]) (tb := 4) (by kernel_rfl) (by kernel_rfl) (by kernel_rfl) Try.func8 (by kernel_rfl) (by kernel_rfl) rfl (by kernel_rfl)
    (by
      intro H ds h
      match ds, h with
      | [_, _, _], _ => rfl)
    law os started H enc
    (ChangeSpec.witness6 (enc := enc) (C := Try.checked) false ⟨#[], #[.agg #[.int .u8 0, .int .u8 0, .int .u8 0, .int .u16 0, .int .u16 0, .int .u8 0, .int .u8 0, .int .u8 0, .slice none 0 0], .agg #[.slice none 0 0, .slice none 0 0, .slice none 0 0], .int .i8 0], []⟩ 9 (by kernel_rfl) (by kernel_rfl) (by kernel_rfl) (by kernel_rfl))

theorem over : Rows.ownStartsRow.holds Try.pinned (OpenSpec.ofChange Rows.ownStartsSpec) :=
  OpenClaim.holds_of_wide 8 Try.f8 rfl rfl rfl rfl rfl rfl rfl ⟨rfl, rfl, rfl, rfl, rfl⟩ rfl rfl rfl rfl rfl (by kernel_rfl) Try.func8 (by kernel_rfl)
    (of_decide_eq_true (by kernel_rfl)) (by unfold Func.isWrapper; rw [if_neg (of_decide_eq_false (by kernel_rfl))]; exact ⟨rfl, rfl⟩)
    (fun os st H enc _ => lifted os st H enc)
end OwnStartsLaw

theorem ownStarts : Rows.OwnStartsSaid := OwnStartsLaw.over
#print axioms ownStarts
end Go.Proofs.Ytmjffmghkfappaa
