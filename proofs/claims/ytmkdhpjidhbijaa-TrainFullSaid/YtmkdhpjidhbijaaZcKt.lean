/- The keys of a map, sorted: the library's contracts at this program. No condition. -/
import Derived.Test.YtmkdhpjidhbijaaZcKeys
import Derived.Test.YtmkdhpjidhbijaaProg
import Derived.Shelf.SortM.Plain
import Derived.Shelf.SortM.SortNone
set_option linter.all false
namespace Go.Proofs.Ytmkdhpjidhbijaa.Zk
open Go Go.Zc Go.Shelf Go.Sort
set_option maxRecDepth 100000

def sortedR : Ren := ⟨fun | 6 => 69 | 8 => 104 | 9 => 81 | 11 => 114 | 13 => 108 | 12 => 107 | 23 => 124 | 24 => 125 | 14 => 115 | 15 => 116 | 16 => 117 | 17 => 118 | 18 => 119 | 19 => 120 | 20 => 121 | 21 => 122 | 22 => 123 | 25 => 127 | 26 => 128 | 27 => 129 | 28 => 130 | 29 => 131 | 30 => 132 | 31 => 134 | n => n, fun | 26 => 3 | 28 => 127 | 24 => 40 | 0 => 0 | 3 => 3 | 37 => 168 | 48 => 182 | 50 => 184 | 4 => 4 | 40 => 175 | 39 => 174 | 45 => 133 | 5 => 5 | 9 => 9 | 51 => 185 | 55 => 189 | 57 => 192 | 58 => 193 | 33 => 75 | n => n, fun n => n⟩
theorem sortedL : SlLaysZI.n6 Try.prog sortedR where
  mixed := by kernel_rfl
  f6 := ⟨"slices.Sorted[int]", by decide, Try.func69.trans (congrArg some (by kernel_rfl))⟩
  f8 := ⟨"slices.Collect[int]", by decide, Try.func104.trans (congrArg some (by kernel_rfl))⟩
  f11 := ⟨"slices.AppendSeq[[]int,int]", by decide, Try.func114.trans (congrArg some (by kernel_rfl))⟩
  t0 := Try.underlying0
  a0 := Try.isAgg0
  z0 := Try.sizeOf0
  v0 := Try.zeroValue0
  t24 := Try.underlying40
  a24 := Try.isAgg40
  z24 := Try.sizeOf40
  v24 := Try.zeroValue40
  t26 := Try.underlying3
  a26 := Try.isAgg3
  z26 := Try.sizeOf3
  v26 := Try.zeroValue3
  t28 := Try.underlying127
  a28 := Try.isAgg127
  z28 := Try.sizeOf127
  v28 := Try.zeroValue127
  i26 := by kernel_rfl

def sortR : Ren := ⟨fun | 5 => 81 | 8 => 108 | 7 => 107 | 19 => 124 | 20 => 125 | 10 => 115 | 11 => 116 | 12 => 117 | 13 => 118 | 14 => 119 | 15 => 120 | 16 => 121 | 17 => 122 | 18 => 123 | 30 => 127 | 31 => 128 | 32 => 129 | 33 => 130 | 34 => 131 | 35 => 132 | 40 => 134 | n => n, fun | 23 => 40 | 25 => 3 | 3 => 3 | 32 => 168 | 22 => 40 | 0 => 0 | 44 => 182 | 46 => 184 | 4 => 4 | 36 => 175 | 35 => 174 | 41 => 133 | 5 => 5 | 9 => 9 | 53 => 185 | 57 => 189 | 63 => 192 | 64 => 193 | n => n, fun n => n⟩
theorem sortL : SlLaysM.n5 Try.prog sortR where
  mixed := by kernel_rfl
  f5 := ⟨"slices.Sort[[]int,int]", by decide, Try.func81.trans (congrArg some (by kernel_rfl))⟩
  f7 := ⟨"slices.pdqsortOrdered[int]", by decide, Try.func107.trans (congrArg some (by kernel_rfl))⟩
  f8 := Try.func108.trans (congrArg some (by kernel_rfl))
  f10 := ⟨"slices.insertionSortOrdered[int]", by decide, Try.func115.trans (congrArg some (by kernel_rfl))⟩
  f11 := ⟨"slices.heapSortOrdered[int]", by decide, Try.func116.trans (congrArg some (by kernel_rfl))⟩
  f12 := ⟨"slices.breakPatternsOrdered[int]", by decide, Try.func117.trans (congrArg some (by kernel_rfl))⟩
  f13 := ⟨"slices.choosePivotOrdered[int]", by decide, Try.func118.trans (congrArg some (by kernel_rfl))⟩
  f14 := ⟨"slices.reverseRangeOrdered[int]", by decide, Try.func119.trans (congrArg some (by kernel_rfl))⟩
  f15 := ⟨"slices.partialInsertionSortOrdered[int]", by decide, Try.func120.trans (congrArg some (by kernel_rfl))⟩
  f16 := ⟨"cmp.Less[int]", by decide, Try.func121.trans (congrArg some (by kernel_rfl))⟩
  f17 := ⟨"slices.partitionEqualOrdered[int]", by decide, Try.func122.trans (congrArg some (by kernel_rfl))⟩
  f18 := ⟨"slices.partitionOrdered[int]", by decide, Try.func123.trans (congrArg some (by kernel_rfl))⟩
  f19 := Try.func124.trans (congrArg some (by kernel_rfl))
  f20 := Try.func125.trans (congrArg some (by kernel_rfl))
  f30 := ⟨"slices.siftDownOrdered[int]", by decide, Try.func127.trans (congrArg some (by kernel_rfl))⟩
  f31 := Try.func128.trans (congrArg some (by kernel_rfl))
  f32 := Try.func129.trans (congrArg some (by kernel_rfl))
  f33 := ⟨"slices.medianAdjacentOrdered[int]", by decide, Try.func130.trans (congrArg some (by kernel_rfl))⟩
  f34 := ⟨"slices.medianOrdered[int]", by decide, Try.func131.trans (congrArg some (by kernel_rfl))⟩
  f35 := ⟨"cmp.isNaN[int]", by decide, Try.func132.trans (congrArg some (by kernel_rfl))⟩
  f40 := ⟨"slices.order2Ordered[int]", by decide, Try.func134.trans (congrArg some (by kernel_rfl))⟩
  t0 := Try.underlying0
  a0 := Try.isAgg0
  z0 := Try.sizeOf0
  v0 := Try.zeroValue0
  t3 := Try.underlying3
  a3 := Try.isAgg3
  z3 := Try.sizeOf3
  v3 := Try.zeroValue3
  t4 := Try.underlying4
  a4 := Try.isAgg4
  z4 := Try.sizeOf4
  v4 := Try.zeroValue4
  t5 := Try.underlying5
  a5 := Try.isAgg5
  z5 := Try.sizeOf5
  v5 := Try.zeroValue5
  t9 := Try.underlying9
  a9 := Try.isAgg9
  z9 := Try.sizeOf9
  v9 := Try.zeroValue9
  t22 := Try.underlying40
  a22 := Try.isAgg40
  z22 := Try.sizeOf40
  v22 := Try.zeroValue40
  t23 := Try.underlying40
  a23 := Try.isAgg40
  z23 := Try.sizeOf40
  v23 := Try.zeroValue40
  t25 := Try.underlying3
  a25 := Try.isAgg3
  z25 := Try.sizeOf3
  v25 := Try.zeroValue3
  t32 := Try.underlying168
  a32 := Try.isAgg168
  z32 := Try.sizeOf168
  v32 := Try.zeroValue168
  t35 := Try.underlying174
  a35 := Try.isAgg174
  z35 := Try.sizeOf174
  v35 := Try.zeroValue174
  t36 := Try.underlying175
  a36 := Try.isAgg175
  z36 := Try.sizeOf175
  v36 := Try.zeroValue175
  t41 := Try.underlying133
  a41 := Try.isAgg133
  z41 := Try.sizeOf133
  v41 := Try.zeroValue133
  t44 := Try.underlying182
  a44 := Try.isAgg182
  z44 := Try.sizeOf182
  v44 := Try.zeroValue182
  t46 := Try.underlying184
  a46 := Try.isAgg184
  z46 := Try.sizeOf184
  v46 := Try.zeroValue184
  t53 := Try.underlying185
  a53 := Try.isAgg185
  z53 := Try.sizeOf185
  v53 := Try.zeroValue185
  t57 := Try.underlying189
  a57 := Try.isAgg189
  z57 := Try.sizeOf189
  v57 := Try.zeroValue189
  t63 := Try.underlying192
  a63 := Try.isAgg192
  z63 := Try.sizeOf192
  v63 := Try.zeroValue192
  t64 := Try.underlying193
  a64 := Try.isAgg193
  z64 := Try.sizeOf193
  v64 := Try.zeroValue193

def keys105R : Ren := ⟨fun | 10 => 105 | n => n, fun | 33 => 75 | 23 => 110 | 0 => 0 | 4 => 4 | 26 => 3 | 3 => 113 | n => n, fun n => n⟩
theorem keys105L : SlLaysZI.n10 Try.prog keys105R where
  mixed := by kernel_rfl
  f10 := ⟨"maps.Keys[map[int]*balise/train.Train,int,*balise/train.Train]$1", by decide, Try.func105.trans (congrArg some (by kernel_rfl))⟩
  t0 := Try.underlying0
  a0 := Try.isAgg0
  z0 := Try.sizeOf0
  v0 := Try.zeroValue0
  t4 := Try.underlying4
  a4 := Try.isAgg4
  z4 := Try.sizeOf4
  v4 := Try.zeroValue4
  t23 := Try.underlying110
  a23 := Try.isAgg110
  z23 := Try.sizeOf110
  v23 := Try.zeroValue110
  t26 := Try.underlying3
  a26 := Try.isAgg3
  z26 := Try.sizeOf3
  v26 := Try.zeroValue3
  t33 := Try.underlying75
  a33 := Try.isAgg75
  z33 := Try.sizeOf75
  v33 := Try.zeroValue75

theorem sortsIn : Go.Proofs.AnyZI.SortsIn Try.prog sortedR Fence.wide 4 :=
  ⟨fun blk off cap ss W h1 h2 h3 => (callsIn_wide (n := 4)).2 (Go.Proofs.AnyM.slices_Sort_int (P := Try.prog) (ρ := sortR) sortL blk off cap ss W h1 h2 h3),
   fun p cap W => (callsIn_wide (n := 4)).2 (Go.Proofs.AnyM.slices_Sort_int_none (P := Try.prog) (ρ := sortR) sortL p cap W)⟩
theorem sorted_ok : PrimOk Try.prog 69 (sortedS [105]) :=
  sorted_prim (ρ := sortedR) sortedL sortsIn (sortL.f5.enters rfl)
   [105] (fun k hk => by
    simp only [List.mem_cons, List.not_mem_nil, or_false] at hk
    subst hk
    · exact ⟨⟨keys105R, rfl, keys105L⟩, keys105L.f10.enters rfl⟩)
   Try.func69 rfl (by decide)
abbrev n_sorted : Nat := 69
abbrev n_keysit0 : Nat := 105
def prims : List (Nat × (List CV → List Blk → Option (CV × List Blk))) := [(69, sortedS [105])]
theorem prims_ok : ∀ e ∈ prims, PrimOk Try.prog e.1 e.2 := by
  intro e he
  simp only [prims, List.mem_cons, List.not_mem_nil, or_false] at he
  subst he
  exact sorted_ok
end Go.Proofs.Ytmkdhpjidhbijaa.Zk
