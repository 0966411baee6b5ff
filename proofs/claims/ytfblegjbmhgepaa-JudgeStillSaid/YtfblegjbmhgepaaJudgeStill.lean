/- 'baliselaw20.JudgeStill' returns true, whatever the input; its arguments read behind the call as they read before. No condition. -/
import Derived.Test.YtfblegjbmhgepaaRows
import Derived.Test.YtfblegjbmhgepaaZcJt
set_option linter.all false
namespace Go.Proofs.Ytfblegjbmhgepaa
namespace JudgeStillLaw
open Go.Zc
set_option maxRecDepth 100000

theorem law : ∀ cs, HasArgs [tDraft, .slice .bool, .slice .bool, .slice (.int .u8), .slice .bool] cs → ∃ H', call Zt.ctx (.fn (.func 6) [] []) cs ⟨[], []⟩ = some (.bool true, H') := by
  rintro cs ⟨c0, r0, rfl, h0, c1, r1, rfl, h1, c2, r2, rfl, h2, c3, r3, rfl, h3, c4, r4, rfl, h4, rfl⟩
  obtain ⟨d, rfl, hd⟩ := draft_of h0
  obtain ⟨was, e1, _, _⟩ := slice_of bool_of h1
  obtain ⟨is, e2, _, _⟩ := slice_of bool_of h2
  obtain ⟨st, e3, _, _⟩ := u8s_of _ h3
  obtain ⟨lk, e4, _, _⟩ := slice_of bool_of h4
  cases e1
  cases e2
  cases e3
  cases e4
  refine ⟨⟨[], []⟩, ?_⟩
  have := Zt.judgeStill_F d hd was is st lk
  simp only [Zt.l20_JudgeStill_call, y1, y2, y3, y4, y5, y6, y7, y8, y9, keepE, keepB, chk, CV.locs, CV.locv, CV.refs, CV.ref, pureOp, repC, takeN, resV, enterC, Nat.reduceAdd, Nat.reduceSub, Nat.reduceMul, Nat.reduceLeDiff, Nat.reduceLT, Nat.reduceBEq, Nat.reduceBNe, Nat.reduceEqDiff, ↓reduceIte, Int.reduceAdd, Int.reduceSub, Int.reduceMul, Int.reduceLT, Int.reduceLE, Int.reduceEq, Int.reduceNeg, Int.reduceToNat, this]

open Go.RowKit

theorem lifted (os : Os) (started : os.Started) (H : Type) (enc : TypeId × Value → H) :
    ReturnsInHanded {} Try.checked os 6 .any (Rows.judgeStillSpec.pre6 enc Try.prog Try.f6 Rows.judgeStillRow.domain false) (Rows.judgeStillSpec.post enc Try.prog Try.f6 false true false false) :=
  law_lifted (C := Try.checked) Zt.ctx_ok (n := 9) (Ts := [tDraft, .slice .bool, .slice .bool, .slice (.int .u8), .slice .bool]) (tb := 4) (by kernel_rfl) (by kernel_rfl) (by kernel_rfl) Try.func6 (by kernel_rfl) (by kernel_rfl) rfl (by kernel_rfl)
    (by
      intro H ds h
      match ds, h with
      | [_, _, _, _, _], _ => rfl)
    law os started H enc
    (ChangeSpec.witness6 (enc := enc) (C := Try.checked) false ⟨#[], #[.agg #[.int .u8 0, .int .u8 0, .int .u8 0, .int .u16 0, .int .u16 0, .int .u8 0, .int .u8 0, .int .u8 0, .slice none 0 0], .slice none 0 0, .slice none 0 0, .slice none 0 0, .slice none 0 0], []⟩ 9 (by kernel_rfl) (by kernel_rfl) (by kernel_rfl) (by kernel_rfl))

theorem over : Rows.judgeStillRow.holds Try.pinned (OpenSpec.ofChange Rows.judgeStillSpec) :=
  OpenClaim.holds_of_wide 6 Try.f6 rfl rfl rfl rfl rfl rfl rfl ⟨rfl, rfl, rfl, rfl, rfl⟩ rfl rfl rfl rfl rfl (by kernel_rfl) Try.func6 (by kernel_rfl)
    (of_decide_eq_true (by kernel_rfl)) (by unfold Func.isWrapper; rw [if_neg (of_decide_eq_false (by kernel_rfl))]; exact ⟨rfl, rfl⟩)
    (fun os st H enc _ => lifted os st H enc)
end JudgeStillLaw

theorem judgeStill : Rows.JudgeStillSaid := JudgeStillLaw.over
#print axioms judgeStill
end Go.Proofs.Ytfblegjbmhgepaa
