/- 'baliselaw10.TrainStale' returns true, whatever the input; its arguments read behind the call as they read before. No condition. -/
import Derived.Test.YtmkdhpjidhbijaaRows
import Derived.Test.YtmkdhpjidhbijaaZcSt
set_option linter.all false
namespace Go.Proofs.Ytmkdhpjidhbijaa
namespace TrainStaleLaw
open Go.Zc
set_option maxRecDepth 100000

theorem law : ∀ cs, HasArgs [tDraft, tDeed, tDeed, .int .u16] cs → ∃ H', call Zt.ctx (.fn (.func 4) [] []) cs ⟨[], []⟩ = some (.bool true, H') := by
  rintro cs ⟨c0, r0, rfl, h0, c1, r1, rfl, h1, c2, r2, rfl, h2, c3, r3, rfl, h3, rfl⟩
  obtain ⟨d, rfl, hd⟩ := draft_of h0
  obtain ⟨x, rfl, hx⟩ := deed_of h1
  obtain ⟨y, rfl, hy⟩ := deed_of h2
  obtain ⟨n, hn, qn⟩ := u16_of _ h3
  cases hn
  refine ⟨⟨[], []⟩, ?_⟩
  have := Zt.trainStale_F d hd x y hx hy n qn
  simp only [Zt.l10_TrainStale_call, y1, y2, y3, y4, y5, y6, y7, y8, y9, keepE, keepB, chk, CV.locs, CV.locv, CV.refs, CV.ref, pureOp, repC, takeN, resV, enterC, Nat.reduceAdd, Nat.reduceSub, Nat.reduceMul, Nat.reduceLeDiff, Nat.reduceLT, Nat.reduceBEq, Nat.reduceBNe, Nat.reduceEqDiff, ↓reduceIte, Int.reduceAdd, Int.reduceSub, Int.reduceMul, Int.reduceLT, Int.reduceLE, Int.reduceEq, Int.reduceNeg, Int.reduceToNat, this]

open Go.RowKit

theorem lifted (os : Os) (started : os.Started) (H : Type) (enc : TypeId × Value → H) :
    ReturnsInHanded {} Try.checked os 4 .any (Rows.trainStaleSpec.pre6 enc Try.prog Try.f4 Rows.trainStaleRow.domain false) (Rows.trainStaleSpec.post enc Try.prog Try.f4 false true false false) :=
  law_lifted (C := Try.checked) Zt.ctx_ok (n := 9) (Ts := [tDraft, tDeed, tDeed, .int .u16]) (tb := 4) (by kernel_rfl) (by kernel_rfl) (by kernel_rfl) Try.func4 (by kernel_rfl) (by kernel_rfl) rfl (by kernel_rfl)
    (by
      intro H ds h
      match ds, h with
      | [_, _, _, _], _ => rfl)
    law os started H enc
    (ChangeSpec.witness6 (enc := enc) (C := Try.checked) false ⟨#[], #[.agg #[.int .u8 0, .int .u8 0, .int .u8 0, .int .u16 0, .int .u16 0, .int .u8 0, .int .u8 0, .int .u8 0, .slice none 0 0], .agg #[.int .u8 0, .int .u8 0, .int .u8 0, .int .u8 0, .slice none 0 0, .int .u16 0, .bool false, .int .u8 0], .agg #[.int .u8 0, .int .u8 0, .int .u8 0, .int .u8 0, .slice none 0 0, .int .u16 0, .bool false, .int .u8 0], .int .u16 0], []⟩ 9 (by kernel_rfl) (by kernel_rfl) (by kernel_rfl) (by kernel_rfl))

theorem over : Rows.trainStaleRow.holds Try.pinned (OpenSpec.ofChange Rows.trainStaleSpec) :=
  OpenClaim.holds_of_wide 4 Try.f4 rfl rfl rfl rfl rfl rfl rfl ⟨rfl, rfl, rfl, rfl, rfl⟩ rfl rfl rfl rfl rfl (by kernel_rfl) Try.func4 (by kernel_rfl)
    (of_decide_eq_true (by kernel_rfl)) (by unfold Func.isWrapper; rw [if_neg (of_decide_eq_false (by kernel_rfl))]; exact ⟨rfl, rfl⟩)
    (fun os st H enc _ => lifted os st H enc)
end TrainStaleLaw

theorem trainStale : Rows.TrainStaleSaid := TrainStaleLaw.over
#print axioms trainStale
end Go.Proofs.Ytmkdhpjidhbijaa
