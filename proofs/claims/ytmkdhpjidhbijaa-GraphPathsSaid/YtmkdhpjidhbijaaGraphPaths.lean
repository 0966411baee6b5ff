/- 'baliselaw05.GraphPaths' returns true, whatever the input; its arguments read behind the call as they read before. No condition. -/
import Derived.Test.YtmkdhpjidhbijaaRows
import Derived.Test.YtmkdhpjidhbijaaZcPc
set_option linter.all false
namespace Go.Proofs.Ytmkdhpjidhbijaa
namespace GraphPathsLaw
open Go.Zc
set_option maxRecDepth 100000

theorem law : ∀ cs, HasArgs [tDraft, .int .u8, .slice (.int .u8), .int .u8, .int .u8, .slice (.int .i64)] cs → ∃ H', call Zt.ctx (.fn (.func 11) [] []) cs ⟨[], []⟩ = some (.bool true, H') := by
  rintro cs ⟨c0, r0, rfl, h0, c1, r1, rfl, h1, c2, r2, rfl, h2, c3, r3, rfl, h3, c4, r4, rfl, h4, c5, r5, rfl, h5, rfl⟩
  obtain ⟨d, rfl, hd⟩ := draft_of h0
  obtain ⟨x, hx, qx⟩ := u8_of _ h1
  obtain ⟨t, ht, _, qt⟩ := slice_of u8_of h2
  obtain ⟨y, hy, qy⟩ := u8_of _ h3
  obtain ⟨z, hz, qz⟩ := u8_of _ h4
  obtain ⟨m, hm, _, _⟩ := slice_of i64_of h5
  cases hx
  cases ht
  cases hy
  cases hz
  cases hm
  refine ⟨⟨[], []⟩, ?_⟩
  have := Zt.graphPaths_F d hd x qx t qt y z qy qz m
  simp only [Zt.l05_GraphPaths_call, y1, y2, y3, y4, y5, y6, y7, y8, y9, keepE, keepB, chk, CV.locs, CV.locv, CV.refs, CV.ref, pureOp, repC, takeN, resV, enterC, Nat.reduceAdd, Nat.reduceSub, Nat.reduceMul, Nat.reduceLeDiff, Nat.reduceLT, Nat.reduceBEq, Nat.reduceBNe, Nat.reduceEqDiff, ↓reduceIte, Int.reduceAdd, Int.reduceSub, Int.reduceMul, Int.reduceLT, Int.reduceLE, Int.reduceEq, Int.reduceNeg, Int.reduceToNat, this]

open Go.RowKit

theorem lifted (os : Os) (started : os.Started) (H : Type) (enc : TypeId × Value → H) :
    ReturnsInHanded {} Try.checked os 11 .any (Rows.graphPathsSpec.pre6 enc Try.prog Try.f11 Rows.graphPathsRow.domain false) (Rows.graphPathsSpec.post enc Try.prog Try.f11 false true false false) :=
  law_lifted (C := Try.checked) Zt.ctx_ok (n := 9) (Ts := [tDraft, .int .u8, .slice (.int .u8), .int .u8, .int .u8, .slice (.int .i64)]) (tb := 4) (by kernel_rfl) (by kernel_rfl) (by kernel_rfl) Try.func11 (by kernel_rfl) (by kernel_rfl) rfl (by kernel_rfl)
    (by
      intro H ds h
      match ds, h with
      | [_, _, _, _, _, _], _ => rfl)
    law os started H enc
    (ChangeSpec.witness6 (enc := enc) (C := Try.checked) false ⟨#[], #[.agg #[.int .u8 0, .int .u8 0, .int .u8 0, .int .u16 0, .int .u16 0, .int .u8 0, .int .u8 0, .int .u8 0, .slice none 0 0], .int .u8 0, .slice none 0 0, .int .u8 0, .int .u8 0, .slice none 0 0], []⟩ 9 (by kernel_rfl) (by kernel_rfl) (by kernel_rfl) (by kernel_rfl))

theorem over : Rows.graphPathsRow.holds Try.pinned (OpenSpec.ofChange Rows.graphPathsSpec) :=
  OpenClaim.holds_of_wide 11 Try.f11 rfl rfl rfl rfl rfl rfl rfl ⟨rfl, rfl, rfl, rfl, rfl⟩ rfl rfl rfl rfl rfl (by kernel_rfl) Try.func11 (by kernel_rfl)
    (of_decide_eq_true (by kernel_rfl)) (by unfold Func.isWrapper; rw [if_neg (of_decide_eq_false (by kernel_rfl))]; exact ⟨rfl, rfl⟩)
    (fun os st H enc _ => lifted os st H enc)
end GraphPathsLaw

theorem graphPaths : Rows.GraphPathsSaid := GraphPathsLaw.over
#print axioms graphPaths
end Go.Proofs.Ytmkdhpjidhbijaa
