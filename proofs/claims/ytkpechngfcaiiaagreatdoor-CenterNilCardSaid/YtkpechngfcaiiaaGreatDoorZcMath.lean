/- Functions of floating-point numbers as the interpreter has them. No condition. -/
import Derived.Test.YtkpechngfcaiiaaGreatDoorZcKeys
set_option linter.all false
namespace Go.Zc
variable [Globs]
open Go.Proofs Go.RowKit

def floatS (g : Nat → Option Nat) (args : List CV) (bl : List Blk) : Option (CV × List Blk) :=
  match args with
  | [.float .f64 x] => (g x).map fun y => (.float .f64 y, bl)
  | _ => none
theorem float_prim {P : Program} {f : FuncId} (g : Nat → Option Nat) (h : ∀ x y, g x = some y → ∀ w, Calls P f #[.float .f64 x] w fun e w' => e = .returned (.float .f64 y) ∧ w' = w)
    {fn : Func} (hfn : P.funcs[f]? = some fn) (hb : fn.body.isSome = true) (hnm : (fn.name == "runtime.NumGoroutine") = false) : PrimOk P f (floatS g) := by
  refine ⟨fn, hfn, hb, hnm, ?_⟩
  intro args bl v bl' hs w F ι vs hlo hi hv
  unfold floatS at hs
  split at hs <;> (try cases hs)
  rename_i x
  simp only [Option.map_eq_some_iff, Prod.mk.injEq] at hs
  obtain ⟨y, hy, rfl, rfl⟩ := hs
  simp only [VRl, VR, BR] at hv
  obtain ⟨u, us, rfl, rfl, rfl⟩ := hv
  refine (h x y hy w).mono ?_
  rintro e w' ⟨rfl, rfl⟩
  obtain ⟨i1, i2, _⟩ := hi.below (F' := F) (Below.refl _ w') (fun _ h => h) (fun _ h => .inl h)
  exact ⟨_, F, ι, [], rfl, by simp only [VR, BR], i1, i2⟩
/-- Toward zero, to a whole number. -/
def truncN (x : Nat) : Option Nat := match FloatKind.f64.decode x with
  | .nan _ _ => none
  | d => some (FloatKind.f64.encode (d.integral .zero))
def absN (x : Nat) : Option Nat := some (bits BinOp.andNot IntKind.u64 x 9223372036854775808).toNat
end Go.Zc
