/- The keys of a map, sorted: the library's contracts at this program. No condition. -/
import Derived.Test.YtkpechngfcaiiaaGreatDoorProg
import Derived.Test.YtkpechngfcaiiaaGreatDoorZcMath
import Derived.WalkKit
import Derived.Test.YtkpechngfcaiiaaGreatDoorZcKeys
import Derived.Shelf.SortM.Plain
import Derived.Shelf.SortM.SortNone
set_option linter.all false
namespace Go.Proofs.YtkpechngfcaiiaaGreatDoor.Zk
open Go Go.Zc
/-- What the variables hold. -/
instance globs : Globs := ⟨[(0, [.int .u8 0, .int .u8 2, .int .u8 3, .int .u8 1, .int .u8 6, .int .u8 0, .int .u8 8, .int .u8 7, .int .u8 9, .int .u8 11, .int .u8 0, .int .u8 10, .int .u8 4, .int .u8 12, .int .u8 5, .int .u8 0])]⟩
end Go.Proofs.YtkpechngfcaiiaaGreatDoor.Zk
section
namespace Go.Proofs.YtkpechngfcaiiaaGreatDoor.Zk
open Go Go.Zc Go.Proofs Go.RowKit
set_option maxRecDepth 100000

theorem arch_run (x y : Nat) (hx : truncN x = some y) (w : World) : (callFunc 320 #[.float .f64 x]).run Tryz.prog w = .ok (.value (.float .f64 y)) w := by
  rw [run_callFunc_extern Tryz.func320 (by kernel_rfl) (by kernel_rfl) (by kernel_rfl) (e := Extern.MathFloor.toIntegral "math.archTrunc" .zero) (by kernel_rfl)]
  unfold truncN at hx
  show (Sem.run Tryz.prog (Extern.MathFloor.toIntegral.match_1 (motive := fun _ => Sem Value) (FloatKind.f64.decode x) _ _) w).andThen _ = _
  cases h : FloatKind.f64.decode x <;> rw [h] at hx <;> cases hx <;> rfl
theorem trunc_calls (x y : Nat) (hx : truncN x = some y) (w : World) : Calls Tryz.prog 301 #[.float .f64 x] w fun e w' => e = .returned (.float .f64 y) ∧ w' = w := by
  have h84 := arch_run x y hx
  go_enter Tryz.func301, Tryz.ntmps301
  go_wp2_with (simp only [h84])
  go_ret
  exact ⟨rfl, rfl⟩
theorem bits_run (x : Nat) (w : World) : (callFunc 323 #[.float .f64 x]).run Tryz.prog w = .ok (.value (.int .u64 x)) w := by
  rw [run_callFunc_extern Tryz.func323 (by kernel_rfl) (by kernel_rfl) (by kernel_rfl) (e := Extern.MathFloatBits.float64bits) (by kernel_rfl)]
  rfl
theorem from_run (x : Int) (w : World) : (callFunc 322 #[.int .u64 x]).run Tryz.prog w = .ok (.value (.float .f64 x.toNat)) w := by
  rw [run_callFunc_extern Tryz.func322 (by kernel_rfl) (by kernel_rfl) (by kernel_rfl) (e := Extern.MathFloatBits.float64frombits) (by kernel_rfl)]
  rfl
theorem abs_calls (x y : Nat) (hx : absN x = some y) (w : World) : Calls Tryz.prog 302 #[.float .f64 x] w fun e w' => e = .returned (.float .f64 y) ∧ w' = w := by
  have h87 := bits_run x
  have h86 := from_run
  unfold absN at hx
  cases hx
  go_enter Tryz.func302, Tryz.ntmps302
  go_wp2_with (simp only [h87, h86])
  go_ret
  exact ⟨rfl, rfl⟩
theorem trunc_ok : PrimOk Tryz.prog 301 (floatS truncN) := float_prim truncN (fun x y h w => trunc_calls x y h w) Tryz.func301 rfl (by decide)
theorem abs_ok : PrimOk Tryz.prog 302 (floatS absN) := float_prim absN (fun x y h w => abs_calls x y h w) Tryz.func302 rfl (by decide)

abbrev n_trunc : Nat := 301
abbrev n_abs : Nat := 302
end Go.Proofs.YtkpechngfcaiiaaGreatDoor.Zk
end
section
namespace Go.Proofs.YtkpechngfcaiiaaGreatDoor.Zk
open Go Go.Zc Go.Shelf Go.Sort
set_option maxRecDepth 100000

def sortedR : Ren := ⟨fun | 6 => 137 | 8 => 209 | 9 => 210 | 11 => 266 | 13 => 268 | 12 => 267 | 23 => 299 | 24 => 300 | 14 => 290 | 15 => 291 | 16 => 292 | 17 => 293 | 18 => 294 | 19 => 295 | 20 => 296 | 21 => 297 | 22 => 298 | 25 => 314 | 26 => 315 | 27 => 316 | 28 => 317 | 29 => 318 | 30 => 319 | 31 => 326 | n => n, fun | 26 => 3 | 28 => 232 | 24 => 54 | 0 => 0 | 3 => 3 | 37 => 179 | 48 => 263 | 50 => 140 | 4 => 4 | 40 => 359 | 39 => 358 | 45 => 245 | 5 => 5 | 9 => 9 | 51 => 376 | 55 => 380 | 57 => 384 | 58 => 102 | 33 => 194 | n => n, fun n => n⟩
theorem sortedL : SlLaysZI.n6 Tryz.prog sortedR where
  mixed := by kernel_rfl
  f6 := ⟨"slices.Sorted[int]", by decide, Tryz.func137.trans (congrArg some (by kernel_rfl))⟩
  f8 := ⟨"slices.Collect[int]", by decide, Tryz.func209.trans (congrArg some (by kernel_rfl))⟩
  f11 := ⟨"slices.AppendSeq[[]int,int]", by decide, Tryz.func266.trans (congrArg some (by kernel_rfl))⟩
  t0 := Tryz.underlying0
  a0 := Tryz.isAgg0
  z0 := Tryz.sizeOf0
  v0 := Tryz.zeroValue0
  t24 := Tryz.underlying54
  a24 := Tryz.isAgg54
  z24 := Tryz.sizeOf54
  v24 := Tryz.zeroValue54
  t26 := Tryz.underlying3
  a26 := Tryz.isAgg3
  z26 := Tryz.sizeOf3
  v26 := Tryz.zeroValue3
  t28 := Tryz.underlying232
  a28 := Tryz.isAgg232
  z28 := Tryz.sizeOf232
  v28 := Tryz.zeroValue232
  i26 := by kernel_rfl

def sortR : Ren := ⟨fun | 5 => 210 | 8 => 268 | 7 => 267 | 19 => 299 | 20 => 300 | 10 => 290 | 11 => 291 | 12 => 292 | 13 => 293 | 14 => 294 | 15 => 295 | 16 => 296 | 17 => 297 | 18 => 298 | 30 => 314 | 31 => 315 | 32 => 316 | 33 => 317 | 34 => 318 | 35 => 319 | 40 => 326 | n => n, fun | 23 => 54 | 25 => 3 | 3 => 3 | 32 => 179 | 22 => 54 | 0 => 0 | 44 => 263 | 46 => 140 | 4 => 4 | 36 => 359 | 35 => 358 | 41 => 245 | 5 => 5 | 9 => 9 | 53 => 376 | 57 => 380 | 63 => 384 | 64 => 102 | n => n, fun n => n⟩
theorem sortL : SlLaysM.n5 Tryz.prog sortR where
  mixed := by kernel_rfl
  f5 := ⟨"slices.Sort[[]int,int]", by decide, Tryz.func210.trans (congrArg some (by kernel_rfl))⟩
  f7 := ⟨"slices.pdqsortOrdered[int]", by decide, Tryz.func267.trans (congrArg some (by kernel_rfl))⟩
  f8 := Tryz.func268.trans (congrArg some (by kernel_rfl))
  f10 := ⟨"slices.insertionSortOrdered[int]", by decide, Tryz.func290.trans (congrArg some (by kernel_rfl))⟩
  f11 := ⟨"slices.heapSortOrdered[int]", by decide, Tryz.func291.trans (congrArg some (by kernel_rfl))⟩
  f12 := ⟨"slices.breakPatternsOrdered[int]", by decide, Tryz.func292.trans (congrArg some (by kernel_rfl))⟩
  f13 := ⟨"slices.choosePivotOrdered[int]", by decide, Tryz.func293.trans (congrArg some (by kernel_rfl))⟩
  f14 := ⟨"slices.reverseRangeOrdered[int]", by decide, Tryz.func294.trans (congrArg some (by kernel_rfl))⟩
  f15 := ⟨"slices.partialInsertionSortOrdered[int]", by decide, Tryz.func295.trans (congrArg some (by kernel_rfl))⟩
  f16 := ⟨"cmp.Less[int]", by decide, Tryz.func296.trans (congrArg some (by kernel_rfl))⟩
  f17 := ⟨"slices.partitionEqualOrdered[int]", by decide, Tryz.func297.trans (congrArg some (by kernel_rfl))⟩
  f18 := ⟨"slices.partitionOrdered[int]", by decide, Tryz.func298.trans (congrArg some (by kernel_rfl))⟩
  f19 := Tryz.func299.trans (congrArg some (by kernel_rfl))
  f20 := Tryz.func300.trans (congrArg some (by kernel_rfl))
  f30 := ⟨"slices.siftDownOrdered[int]", by decide, Tryz.func314.trans (congrArg some (by kernel_rfl))⟩
  f31 := Tryz.func315.trans (congrArg some (by kernel_rfl))
  f32 := Tryz.func316.trans (congrArg some (by kernel_rfl))
  f33 := ⟨"slices.medianAdjacentOrdered[int]", by decide, Tryz.func317.trans (congrArg some (by kernel_rfl))⟩
  f34 := ⟨"slices.medianOrdered[int]", by decide, Tryz.func318.trans (congrArg some (by kernel_rfl))⟩
  f35 := ⟨"cmp.isNaN[int]", by decide, Tryz.func319.trans (congrArg some (by kernel_rfl))⟩
  f40 := ⟨"slices.order2Ordered[int]", by decide, Tryz.func326.trans (congrArg some (by kernel_rfl))⟩
  t0 := Tryz.underlying0
  a0 := Tryz.isAgg0
  z0 := Tryz.sizeOf0
  v0 := Tryz.zeroValue0
  t3 := Tryz.underlying3
  a3 := Tryz.isAgg3
  z3 := Tryz.sizeOf3
  v3 := Tryz.zeroValue3
  t4 := Tryz.underlying4
  a4 := Tryz.isAgg4
  z4 := Tryz.sizeOf4
  v4 := Tryz.zeroValue4
  t5 := Tryz.underlying5
  a5 := Tryz.isAgg5
  z5 := Tryz.sizeOf5
  v5 := Tryz.zeroValue5
  t9 := Tryz.underlying9
  a9 := Tryz.isAgg9
  z9 := Tryz.sizeOf9
  v9 := Tryz.zeroValue9
  t22 := Tryz.underlying54
  a22 := Tryz.isAgg54
  z22 := Tryz.sizeOf54
  v22 := Tryz.zeroValue54
  t23 := Tryz.underlying54
  a23 := Tryz.isAgg54
  z23 := Tryz.sizeOf54
  v23 := Tryz.zeroValue54
  t25 := Tryz.underlying3
  a25 := Tryz.isAgg3
  z25 := Tryz.sizeOf3
  v25 := Tryz.zeroValue3
  t32 := Tryz.underlying179
  a32 := Tryz.isAgg179
  z32 := Tryz.sizeOf179
  v32 := Tryz.zeroValue179
  t35 := Tryz.underlying358
  a35 := Tryz.isAgg358
  z35 := Tryz.sizeOf358
  v35 := Tryz.zeroValue358
  t36 := Tryz.underlying359
  a36 := Tryz.isAgg359
  z36 := Tryz.sizeOf359
  v36 := Tryz.zeroValue359
  t41 := Tryz.underlying245
  a41 := Tryz.isAgg245
  z41 := Tryz.sizeOf245
  v41 := Tryz.zeroValue245
  t44 := Tryz.underlying263
  a44 := Tryz.isAgg263
  z44 := Tryz.sizeOf263
  v44 := Tryz.zeroValue263
  t46 := Tryz.underlying140
  a46 := Tryz.isAgg140
  z46 := Tryz.sizeOf140
  v46 := Tryz.zeroValue140
  t53 := Tryz.underlying376
  a53 := Tryz.isAgg376
  z53 := Tryz.sizeOf376
  v53 := Tryz.zeroValue376
  t57 := Tryz.underlying380
  a57 := Tryz.isAgg380
  z57 := Tryz.sizeOf380
  v57 := Tryz.zeroValue380
  t63 := Tryz.underlying384
  a63 := Tryz.isAgg384
  z63 := Tryz.sizeOf384
  v63 := Tryz.zeroValue384
  t64 := Tryz.underlying102
  a64 := Tryz.isAgg102
  z64 := Tryz.sizeOf102
  v64 := Tryz.zeroValue102

def keys211R : Ren := ⟨fun | 10 => 211 | n => n, fun | 33 => 194 | 23 => 168 | 0 => 0 | 4 => 4 | 26 => 3 | 3 => 203 | n => n, fun n => n⟩
theorem keys211L : SlLaysZI.n10 Tryz.prog keys211R where
  mixed := by kernel_rfl
  f10 := ⟨"maps.Keys[map[int]*balise/train.Train,int,*balise/train.Train]$1", by decide, Tryz.func211.trans (congrArg some (by kernel_rfl))⟩
  t0 := Tryz.underlying0
  a0 := Tryz.isAgg0
  z0 := Tryz.sizeOf0
  v0 := Tryz.zeroValue0
  t4 := Tryz.underlying4
  a4 := Tryz.isAgg4
  z4 := Tryz.sizeOf4
  v4 := Tryz.zeroValue4
  t23 := Tryz.underlying168
  a23 := Tryz.isAgg168
  z23 := Tryz.sizeOf168
  v23 := Tryz.zeroValue168
  t26 := Tryz.underlying3
  a26 := Tryz.isAgg3
  z26 := Tryz.sizeOf3
  v26 := Tryz.zeroValue3
  t33 := Tryz.underlying194
  a33 := Tryz.isAgg194
  z33 := Tryz.sizeOf194
  v33 := Tryz.zeroValue194

theorem sortsIn : Go.Proofs.AnyZI.SortsIn Tryz.prog sortedR Fence.wide 4 :=
  ⟨fun blk off cap ss W h1 h2 h3 => (callsIn_wide (n := 4)).2 (Go.Proofs.AnyM.slices_Sort_int (P := Tryz.prog) (ρ := sortR) sortL blk off cap ss W h1 h2 h3),
   fun p cap W => (callsIn_wide (n := 4)).2 (Go.Proofs.AnyM.slices_Sort_int_none (P := Tryz.prog) (ρ := sortR) sortL p cap W)⟩
theorem sorted_ok : PrimOk Tryz.prog 137 (sortedS [211]) :=
  sorted_prim (ρ := sortedR) sortedL sortsIn (sortL.f5.enters rfl)
   [211] (fun k hk => by
    simp only [List.mem_cons, List.not_mem_nil, or_false] at hk
    subst hk
    · exact ⟨⟨keys211R, rfl, keys211L⟩, keys211L.f10.enters rfl⟩)
   Tryz.func137 rfl (by decide)
abbrev n_sorted : Nat := 137
abbrev n_keysit0 : Nat := 211

end Go.Proofs.YtkpechngfcaiiaaGreatDoor.Zk
end
namespace Go.Proofs.YtkpechngfcaiiaaGreatDoor.Zk
open Go Go.Zc
def prims : List (Nat × (List CV → List Blk → Option (CV × List Blk))) := [(301, floatS truncN), (302, floatS absN), (137, sortedS [211])]
theorem prims_ok : ∀ e ∈ prims, PrimOk Tryz.prog e.1 e.2 := by
  intro e he
  simp only [prims, List.mem_cons, List.not_mem_nil, or_false] at he
  rcases he with rfl | rfl | rfl
  · exact trunc_ok
  · exact abs_ok
  · exact sorted_ok
end Go.Proofs.YtkpechngfcaiiaaGreatDoor.Zk
