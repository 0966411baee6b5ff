/- math.Trunc and math.Abs at this program. No condition. -/
import Derived.Test.YtlhjpcgfkkhogaaGreatProg
import Derived.Test.YtlhjpcgfkkhogaaGreatZcMath
import Derived.WalkKit
set_option linter.all false
namespace Go.Proofs.YtlhjpcgfkkhogaaGreat.Zk
open Go Go.Zc Go.Proofs Go.RowKit
set_option maxRecDepth 100000

theorem arch_run (x y : Nat) (hx : truncN x = some y) (w : World) : (callFunc 84 #[.float .f64 x]).run Tryz.prog w = .ok (.value (.float .f64 y)) w := by
  rw [run_callFunc_extern Tryz.func84 (by kernel_rfl) (by kernel_rfl) (by kernel_rfl) (e := Extern.MathFloor.toIntegral "math.archTrunc" .zero) (by kernel_rfl)]
  unfold truncN at hx
  show (Sem.run Tryz.prog (Extern.MathFloor.toIntegral.match_1 (motive := fun _ => Sem Value) (FloatKind.f64.decode x) _ _) w).andThen _ = _
  cases h : FloatKind.f64.decode x <;> rw [h] at hx <;> cases hx <;> rfl
theorem trunc_calls (x y : Nat) (hx : truncN x = some y) (w : World) : Calls Tryz.prog 72 #[.float .f64 x] w fun e w' => e = .returned (.float .f64 y) ∧ w' = w := by
  have h84 := arch_run x y hx
  go_enter Tryz.func72, Tryz.ntmps72
  go_wp2_with (simp only [h84])
  go_ret
  exact ⟨rfl, rfl⟩
theorem bits_run (x : Nat) (w : World) : (callFunc 87 #[.float .f64 x]).run Tryz.prog w = .ok (.value (.int .u64 x)) w := by
  rw [run_callFunc_extern Tryz.func87 (by kernel_rfl) (by kernel_rfl) (by kernel_rfl) (e := Extern.MathFloatBits.float64bits) (by kernel_rfl)]
  rfl
theorem from_run (x : Int) (w : World) : (callFunc 86 #[.int .u64 x]).run Tryz.prog w = .ok (.value (.float .f64 x.toNat)) w := by
  rw [run_callFunc_extern Tryz.func86 (by kernel_rfl) (by kernel_rfl) (by kernel_rfl) (e := Extern.MathFloatBits.float64frombits) (by kernel_rfl)]
  rfl
theorem abs_calls (x y : Nat) (hx : absN x = some y) (w : World) : Calls Tryz.prog 73 #[.float .f64 x] w fun e w' => e = .returned (.float .f64 y) ∧ w' = w := by
  have h87 := bits_run x
  have h86 := from_run
  unfold absN at hx
  cases hx
  go_enter Tryz.func73, Tryz.ntmps73
  go_wp2_with (simp only [h87, h86])
  go_ret
  exact ⟨rfl, rfl⟩
theorem trunc_ok : PrimOk Tryz.prog 72 (floatS truncN) := float_prim truncN (fun x y h w => trunc_calls x y h w) Tryz.func72 rfl (by decide)
theorem abs_ok : PrimOk Tryz.prog 73 (floatS absN) := float_prim absN (fun x y h w => abs_calls x y h w) Tryz.func73 rfl (by decide)
def prims : List (Nat × (List CV → List Blk → Option (CV × List Blk))) := [(72, floatS truncN), (73, floatS absN)]
theorem prims_ok : ∀ e ∈ prims, PrimOk Tryz.prog e.1 e.2 := by
  intro e he
  simp only [prims, List.mem_cons, List.not_mem_nil, or_false] at he
  rcases he with rfl | rfl
  · exact trunc_ok
  · exact abs_ok
abbrev n_trunc : Nat := 72
abbrev n_abs : Nat := 73
end Go.Proofs.YtlhjpcgfkkhogaaGreat.Zk
