/- 'baliselaw10.TrainSilent' returns true, whatever the input; its arguments read behind the call as they read before. No condition. -/
import Derived.Test.YtmkdhpjidhbijaaRows
import Derived.Test.YtmkdhpjidhbijaaZcSj
set_option linter.all false
namespace Go.Proofs.Ytmkdhpjidhbijaa
namespace TrainSilentLaw
open Go.Zc
set_option maxRecDepth 100000

theorem law : ∀ cs, HasArgs [.slice (.int .u8), .int .u8, .int .u8] cs → ∃ H', call Zt.ctx (.fn (.func 8) [] []) cs ⟨[], []⟩ = some (.bool true, H') := by
  rintro cs ⟨c0, r0, rfl, h0, c1, r1, rfl, h1, c2, r2, rfl, h2, rfl⟩
  obtain ⟨l, hl, _, ql⟩ := u8s_of _ h0
  cases hl
  obtain ⟨n, hn, qn⟩ := u8_of _ h1
  cases hn
  obtain ⟨m, hm, qm⟩ := u8_of _ h2
  cases hm
  refine ⟨⟨[], []⟩, ?_⟩
  have := Zt.trainSilent_F l ql n m qn qm
  simp only [Zt.l10_TrainSilent_call, y1, y2, y3, y4, y5, y6, y7, y8, y9, keepE, keepB, chk, CV.locs, CV.locv, CV.refs, CV.ref, pureOp, repC, takeN, resV, enterC, Nat.reduceAdd, Nat.reduceSub, Nat.reduceMul, Nat.reduceLeDiff, Nat.reduceLT, Nat.reduceBEq, Nat.reduceBNe, Nat.reduceEqDiff, ↓reduceIte, Int.reduceAdd, Int.reduceSub, Int.reduceMul, Int.reduceLT, Int.reduceLE, Int.reduceEq, Int.reduceNeg, Int.reduceToNat, this]

open Go.RowKit

theorem lifted (os : Os) (started : os.Started) (H : Type) (enc : TypeId × Value → H) :
    ReturnsInHanded {} Try.checked os 8 .any (Rows.trainSilentSpec.pre6 enc Try.prog Try.f8 Rows.trainSilentRow.domain false) (Rows.trainSilentSpec.post enc Try.prog Try.f8 false true false false) :=
  law_lifted (C := Try.checked) Zt.ctx_ok (n := 9) (Ts := [.slice (.int .u8), .int .u8, .int .u8]) (tb := 4) (by kernel_rfl) (by kernel_rfl) (by kernel_rfl) Try.func8 (by kernel_rfl) (by kernel_rfl) rfl (by kernel_rfl)
    (by
      intro H ds h
      match ds, h with
      | [_, _, _], _ => rfl)
    law os started H enc
    (ChangeSpec.witness6 (enc := enc) (C := Try.checked) false ⟨#[], #[.slice none 0 0, .int .u8 0, .int .u8 0], []⟩ 9 (by kernel_rfl) (by kernel_rfl) (by kernel_rfl) (by kernel_rfl))

theorem over : Rows.trainSilentRow.holds Try.pinned (OpenSpec.ofChange Rows.trainSilentSpec) :=
  OpenClaim.holds_of_wide 8 Try.f8 rfl rfl rfl rfl rfl rfl rfl ⟨rfl, rfl, rfl, rfl, rfl⟩ rfl rfl rfl rfl rfl (by kernel_rfl) Try.func8 (by kernel_rfl)
    (of_decide_eq_true (by kernel_rfl)) (by unfold Func.isWrapper; rw [if_neg (of_decide_eq_false (by kernel_rfl))]; exact ⟨rfl, rfl⟩)
    (fun os st H enc _ => lifted os st H enc)
end TrainSilentLaw

theorem trainSilent : Rows.TrainSilentSaid := TrainSilentLaw.over
#print axioms trainSilent
end Go.Proofs.Ytmkdhpjidhbijaa
