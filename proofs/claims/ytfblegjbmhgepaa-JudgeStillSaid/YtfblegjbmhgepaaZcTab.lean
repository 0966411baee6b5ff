/- A list of functions, as a context. No condition. -/
import Derived.Test.YtfblegjbmhgepaaZcOpen
set_option linter.all false
namespace Go.Zc

inductive TabOk (P : Program) (C : Ctx) : List (Nat × FInfo) → Prop where
  | nil : TabOk P C []
  | cons {k : Nat} {I : FInfo} {r : List (Nat × FInfo)} : (∃ fn an, P.funcs[k]? = some fn ∧ compF P (quietOf C) an I.mode fn = some I) → TabOk P C r → TabOk P C ((k, I) :: r)

theorem TabOk.get {P : Program} {C : Ctx} : ∀ {t : List (Nat × FInfo)}, TabOk P C t → ∀ k I, look t k = some I → ∃ fn an, P.funcs[k]? = some fn ∧ compF P (quietOf C) an I.mode fn = some I
  | _, .nil, _, _, h => by simp [look] at h
  | _, .cons (k := i) h r, k, I, hl => by
    unfold look at hl
    cases hb : Nat.beq i k with
    | true =>
      simp only [hb, cond_true, Option.some.injEq] at hl
      subst hl
      have : i = k := Nat.eq_of_beq_eq_true hb
      subst this
      exact h
    | false =>
      simp only [hb, cond_false] at hl
      exact r.get k I hl

theorem ctxOk_of {P : Program} {tab : List (Nat × FInfo)} (mix : P.follows .mixedOrders = true) (h : TabOk P ⟨look tab, fun _ => none⟩ tab) : CtxOk P ⟨look tab, fun _ => none⟩ where
  mix := mix
  info := fun k I _ hi => h.get k I hi
  prim := fun k s hs => by cases hs

end Go.Zc
