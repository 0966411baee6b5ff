/- 'baliselaw05.GraphNil' returns true, whatever the input; its arguments read behind the call as they read before. No condition. -/
import Derived.Test.YtmkdhpjidhbijaaRows
import Derived.Test.YtmkdhpjidhbijaaZcGn
import Derived.Test.YtmkdhpjidhbijaaZcArgs
set_option linter.all false
namespace Go.Proofs.Ytmkdhpjidhbijaa
namespace NilLaw
open Go.Zc
set_option maxRecDepth 100000

theorem law : ∀ cs, HasArgs [.int .i64, .int .i64, .slice .bool] cs → ∃ H', call Zt.ctx (.fn (.func 14) [] []) cs ⟨[], []⟩ = some (.bool true, H') := by
  rintro cs ⟨c0, r0, rfl, h0, c1, r1, rfl, h1, c2, r2, rfl, h2, rfl⟩
  obtain ⟨x, hx, _⟩ := i64_of _ h0
  obtain ⟨y, hy, _⟩ := i64_of _ h1
  obtain ⟨l, hl, _⟩ := slice_of bool_of h2
  cases hx
  cases hy
  cases hl
  refine ⟨⟨[], []⟩, ?_⟩
  have := Zt.graphNil_F x y (l.flatMap fB) l.length false ⟨[], []⟩
  simp only [sl, Zt.l05_GraphNil_call, y1, y2, y3, y4, y5, y6, y7, y8, y9, keepE, keepB, chk, CV.locs, CV.locv, CV.refs, CV.ref, pureOp, repC, takeN, resV, enterC, Nat.reduceAdd, Nat.reduceSub, Nat.reduceMul, Nat.reduceLeDiff, Nat.reduceLT, Nat.reduceBEq, Nat.reduceBNe, Nat.reduceEqDiff, ↓reduceIte, Int.reduceAdd, Int.reduceSub, Int.reduceMul, Int.reduceLT, Int.reduceLE, Int.reduceEq, Int.reduceNeg, Int.reduceToNat, this]

open Go.RowKit

theorem lifted (os : Os) (started : os.Started) (H : Type) (enc : TypeId × Value → H) :
    ReturnsInHanded {} Try.checked os 14 .any (Rows.graphNilSpec.pre6 enc Try.prog Try.f14 Rows.graphNilRow.domain false) (Rows.graphNilSpec.post enc Try.prog Try.f14 false true false false) :=
  law_lifted (C := Try.checked) Zt.ctx_ok (n := 9) (Ts := [.int .i64, .int .i64, .slice .bool]) (tb := 4) (by kernel_rfl) (by kernel_rfl) (by kernel_rfl) Try.func14 (by kernel_rfl) (by kernel_rfl) rfl (by kernel_rfl)
    (by
      intro H ds h
      match ds, h with
      | [_, _, _], _ => rfl)
    law os started H enc
    (ChangeSpec.witness6 (enc := enc) (C := Try.checked) false ⟨#[], #[.int .i64 0, .int .i64 0, .slice none 0 0], []⟩ 9 (by kernel_rfl) (by kernel_rfl) (by kernel_rfl) (by kernel_rfl))

theorem over : Rows.graphNilRow.holds Try.pinned (OpenSpec.ofChange Rows.graphNilSpec) :=
  OpenClaim.holds_of_wide 14 Try.f14 rfl rfl rfl rfl rfl rfl rfl ⟨rfl, rfl, rfl, rfl, rfl⟩ rfl rfl rfl rfl rfl (by kernel_rfl) Try.func14 (by kernel_rfl)
    (of_decide_eq_true (by kernel_rfl)) (by unfold Func.isWrapper; rw [if_neg (of_decide_eq_false (by kernel_rfl))]; exact ⟨rfl, rfl⟩)
    (fun os st H enc _ => lifted os st H enc)
end NilLaw

theorem graphNil : Rows.GraphNilSaid := NilLaw.over
#print axioms graphNil
end Go.Proofs.Ytmkdhpjidhbijaa
