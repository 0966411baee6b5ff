/- The keys of a map, sorted: the library's contracts at this program. No condition. -/
import Derived.Test.YtfblegjbmhgepaaZcVals
import Derived.Shelf.Abstract
import Derived.Test.YtfblegjbmhgepaaProg
import Derived.Shelf.SortM.Plain
import Derived.Shelf.SortM.SortNone
set_option linter.all false
namespace Go.Proofs.Ytfblegjbmhgepaa.Zk
open Go Go.Zc Go.Shelf Go.Sort
set_option maxRecDepth 100000

def sortedR : Ren := ⟨fun | 6 => 61 | 8 => 86 | 9 => 87 | 11 => 105 | 13 => 107 | 12 => 106 | 23 => 124 | 24 => 125 | 14 => 115 | 15 => 116 | 16 => 117 | 17 => 118 | 18 => 119 | 19 => 120 | 20 => 121 | 21 => 122 | 22 => 123 | 25 => 127 | 26 => 128 | 27 => 129 | 28 => 130 | 29 => 131 | 30 => 132 | 31 => 134 | n => n, fun | 26 => 3 | 28 => 125 | 24 => 55 | 0 => 0 | 3 => 3 | 37 => 176 | 48 => 191 | 50 => 193 | 4 => 4 | 40 => 185 | 39 => 184 | 45 => 164 | 5 => 5 | 9 => 9 | 51 => 194 | 55 => 198 | 57 => 201 | 58 => 202 | 33 => 107 | n => n, fun n => n⟩
theorem sortedL : SlLaysZI.n6 Try.prog sortedR where
  mixed := by kernel_rfl
  f6 := ⟨"slices.Sorted[int]", by decide, Try.func61.trans (congrArg some (by kernel_rfl))⟩
  f8 := ⟨"slices.Collect[int]", by decide, Try.func86.trans (congrArg some (by kernel_rfl))⟩
  f11 := ⟨"slices.AppendSeq[[]int,int]", by decide, Try.func105.trans (congrArg some (by kernel_rfl))⟩
  t0 := Try.underlying0
  a0 := Try.isAgg0
  z0 := Try.sizeOf0
  v0 := Try.zeroValue0
  t24 := Try.underlying55
  a24 := Try.isAgg55
  z24 := Try.sizeOf55
  v24 := Try.zeroValue55
  t26 := Try.underlying3
  a26 := Try.isAgg3
  z26 := Try.sizeOf3
  v26 := Try.zeroValue3
  t28 := Try.underlying125
  a28 := Try.isAgg125
  z28 := Try.sizeOf125
  v28 := Try.zeroValue125
  i26 := by kernel_rfl

def sortR : Ren := ⟨fun | 5 => 87 | 8 => 107 | 7 => 106 | 19 => 124 | 20 => 125 | 10 => 115 | 11 => 116 | 12 => 117 | 13 => 118 | 14 => 119 | 15 => 120 | 16 => 121 | 17 => 122 | 18 => 123 | 30 => 127 | 31 => 128 | 32 => 129 | 33 => 130 | 34 => 131 | 35 => 132 | 40 => 134 | n => n, fun | 23 => 55 | 25 => 3 | 3 => 3 | 32 => 176 | 22 => 55 | 0 => 0 | 44 => 191 | 46 => 193 | 4 => 4 | 36 => 185 | 35 => 184 | 41 => 164 | 5 => 5 | 9 => 9 | 53 => 194 | 57 => 198 | 63 => 201 | 64 => 202 | n => n, fun n => n⟩
theorem sortL : SlLaysM.n5 Try.prog sortR where
  mixed := by kernel_rfl
  f5 := ⟨"slices.Sort[[]int,int]", by decide, Try.func87.trans (congrArg some (by kernel_rfl))⟩
  f7 := ⟨"slices.pdqsortOrdered[int]", by decide, Try.func106.trans (congrArg some (by kernel_rfl))⟩
  f8 := Try.func107.trans (congrArg some (by kernel_rfl))
  f10 := ⟨"slices.insertionSortOrdered[int]", by decide, Try.func115.trans (congrArg some (by kernel_rfl))⟩
  f11 := ⟨"slices.heapSortOrdered[int]", by decide, Try.func116.trans (congrArg some (by kernel_rfl))⟩
  f12 := ⟨"slices.breakPatternsOrdered[int]", by decide, Try.func117.trans (congrArg some (by kernel_rfl))⟩
  f13 := ⟨"slices.choosePivotOrdered[int]", by decide, Try.func118.trans (congrArg some (by kernel_rfl))⟩
  f14 := ⟨"slices.reverseRangeOrdered[int]", by decide, Try.func119.trans (congrArg some (by kernel_rfl))⟩
  f15 := ⟨"slices.partialInsertionSortOrdered[int]", by decide, Try.func120.trans (congrArg some (by kernel_rfl))⟩
  f16 := ⟨"cmp.Less[int]", by decide, Try.func121.trans (congrArg some (by kernel_rfl))⟩
  f17 := ⟨"slices.partitionEqualOrdered[int]", by decide, Try.func122.trans (congrArg some (by kernel_rfl))⟩
  f18 := ⟨"slices.partitionOrdered[int]", by decide, Try.func123.trans (congrArg some (by kernel_rfl))⟩
  f19 := Try.func124.trans (congrArg some (by kernel_rfl))
  f20 := Try.func125.trans (congrArg some (by kernel_rfl))
  f30 := ⟨"slices.siftDownOrdered[int]", by decide, Try.func127.trans (congrArg some (by kernel_rfl))⟩
  f31 := Try.func128.trans (congrArg some (by kernel_rfl))
  f32 := Try.func129.trans (congrArg some (by kernel_rfl))
  f33 := ⟨"slices.medianAdjacentOrdered[int]", by decide, Try.func130.trans (congrArg some (by kernel_rfl))⟩
  f34 := ⟨"slices.medianOrdered[int]", by decide, Try.func131.trans (congrArg some (by kernel_rfl))⟩
  f35 := ⟨"cmp.isNaN[int]", by decide, Try.func132.trans (congrArg some (by kernel_rfl))⟩
  f40 := ⟨"slices.order2Ordered[int]", by decide, Try.func134.trans (congrArg some (by kernel_rfl))⟩
  t0 := Try.underlying0
  a0 := Try.isAgg0
  z0 := Try.sizeOf0
  v0 := Try.zeroValue0
  t3 := Try.underlying3
  a3 := Try.isAgg3
  z3 := Try.sizeOf3
  v3 := Try.zeroValue3
  t4 := Try.underlying4
  a4 := Try.isAgg4
  z4 := Try.sizeOf4
  v4 := Try.zeroValue4
  t5 := Try.underlying5
  a5 := Try.isAgg5
  z5 := Try.sizeOf5
  v5 := Try.zeroValue5
  t9 := Try.underlying9
  a9 := Try.isAgg9
  z9 := Try.sizeOf9
  v9 := Try.zeroValue9
  t22 := Try.underlying55
  a22 := Try.isAgg55
  z22 := Try.sizeOf55
  v22 := Try.zeroValue55
  t23 := Try.underlying55
  a23 := Try.isAgg55
  z23 := Try.sizeOf55
  v23 := Try.zeroValue55
  t25 := Try.underlying3
  a25 := Try.isAgg3
  z25 := Try.sizeOf3
  v25 := Try.zeroValue3
  t32 := Try.underlying176
  a32 := Try.isAgg176
  z32 := Try.sizeOf176
  v32 := Try.zeroValue176
  t35 := Try.underlying184
  a35 := Try.isAgg184
  z35 := Try.sizeOf184
  v35 := Try.zeroValue184
  t36 := Try.underlying185
  a36 := Try.isAgg185
  z36 := Try.sizeOf185
  v36 := Try.zeroValue185
  t41 := Try.underlying164
  a41 := Try.isAgg164
  z41 := Try.sizeOf164
  v41 := Try.zeroValue164
  t44 := Try.underlying191
  a44 := Try.isAgg191
  z44 := Try.sizeOf191
  v44 := Try.zeroValue191
  t46 := Try.underlying193
  a46 := Try.isAgg193
  z46 := Try.sizeOf193
  v46 := Try.zeroValue193
  t53 := Try.underlying194
  a53 := Try.isAgg194
  z53 := Try.sizeOf194
  v53 := Try.zeroValue194
  t57 := Try.underlying198
  a57 := Try.isAgg198
  z57 := Try.sizeOf198
  v57 := Try.zeroValue198
  t63 := Try.underlying201
  a63 := Try.isAgg201
  z63 := Try.sizeOf201
  v63 := Try.zeroValue201
  t64 := Try.underlying202
  a64 := Try.isAgg202
  z64 := Try.sizeOf202
  v64 := Try.zeroValue202

def keys93R : Ren := ⟨fun | 10 => 93 | n => n, fun | 33 => 107 | 23 => 128 | 0 => 0 | 4 => 4 | 26 => 3 | 3 => 133 | n => n, fun n => n⟩
theorem keys93L : SlLaysZI.n10 Try.prog keys93R where
  mixed := by kernel_rfl
  f10 := ⟨"maps.Keys[map[int]*balise/world.vehicle,int,*balise/world.vehicle]$1", by decide, Try.func93.trans (congrArg some (by kernel_rfl))⟩
  t0 := Try.underlying0
  a0 := Try.isAgg0
  z0 := Try.sizeOf0
  v0 := Try.zeroValue0
  t4 := Try.underlying4
  a4 := Try.isAgg4
  z4 := Try.sizeOf4
  v4 := Try.zeroValue4
  t23 := Try.underlying128
  a23 := Try.isAgg128
  z23 := Try.sizeOf128
  v23 := Try.zeroValue128
  t26 := Try.underlying3
  a26 := Try.isAgg3
  z26 := Try.sizeOf3
  v26 := Try.zeroValue3
  t33 := Try.underlying107
  a33 := Try.isAgg107
  z33 := Try.sizeOf107
  v33 := Try.zeroValue107

theorem sortsIn : Go.Proofs.AnyZI.SortsIn Try.prog sortedR Fence.wide 4 :=
  ⟨fun blk off cap ss W h1 h2 h3 => (callsIn_wide (n := 4)).2 (Go.Proofs.AnyM.slices_Sort_int (P := Try.prog) (ρ := sortR) sortL blk off cap ss W h1 h2 h3),
   fun p cap W => (callsIn_wide (n := 4)).2 (Go.Proofs.AnyM.slices_Sort_int_none (P := Try.prog) (ρ := sortR) sortL p cap W)⟩
theorem sorted_ok : PrimOk Try.prog 61 (sortedS [93]) :=
  sorted_prim (ρ := sortedR) sortedL sortsIn (sortL.f5.enters rfl)
   [93] (fun k hk => by
    simp only [List.mem_cons, List.not_mem_nil, or_false] at hk
    subst hk
    · exact ⟨⟨keys93R, rfl, keys93L⟩, keys93L.f10.enters rfl⟩)
   Try.func61 rfl (by decide)
shelf_abstract Try.f88 as ValB
structure ValL (P : Program) (ρ : Ren) : Prop where
  mixed : P.follows .mixedOrders = true
  fV : P.funcs[ρ.f 88]? = some (ValB ρ)
  t3 : P.underlying (ρ.t 3) = some (TypeDesc.int IntKind.i64)
  a3 : ∀ w, (isAgg (ρ.t 3)).run P w = .ok false w
  z3 : ∀ w, (Go.sizeOf (ρ.t 3)).run P w = .ok 1 w
  v3 : ∀ w, (zeroValue (ρ.t 3)).run P w = .ok (Value.int IntKind.i64 0) w
  t4 : P.underlying (ρ.t 4) = some TypeDesc.bool
  a4 : ∀ w, (isAgg (ρ.t 4)).run P w = .ok false w
  z4 : ∀ w, (Go.sizeOf (ρ.t 4)).run P w = .ok 1 w
  v4 : ∀ w, (zeroValue (ρ.t 4)).run P w = .ok (Value.bool false) w
  t24 : P.underlying (ρ.t 55) = some (TypeDesc.slice (ρ.t 3))
  a24 : ∀ w, (isAgg (ρ.t 55)).run P w = .ok false w
  z24 : ∀ w, (Go.sizeOf (ρ.t 55)).run P w = .ok 1 w
  v24 : ∀ w, (zeroValue (ρ.t 55)).run P w = .ok (Value.slice none 0 0) w

set_option maxRecDepth 100000 in
set_option maxHeartbeats 2000000 in
theorem vals1 {P : Program} {ρ : Ren} (L : ValL P ρ) (l Bs b cap n₀ : Nat) (zs : List Int) (hreach : zs.length * 8 ≤ 140737488351232) (hb : b < n₀) (J : List Int → World → Prop)
    (hY : ∀ pre x W, J pre W → pre.length < zs.length → YieldAt Fence.wide 1 P l #[.int .i64 x] W fun e W' => e = .returned (.bool true) ∧ J (pre ++ [x]) W' ∧ KeepsWalks W W')
    (W0 : World) (hB : ∀ s W', J s W' → Go.RowKit.Below n₀ W0 W') (W : World) (hBs : W.cell? ⟨Bs, 0, none⟩ = some (.slice (some ⟨b, 0, none⟩) zs.length cap)) (hc : ∀ j, j < zs.length → W0.cell? ⟨b, 0 + j, none⟩ = some (.int .i64 (zs[j]?.getD 0))) (h0 : J [] W) :
    CallsIn Fence.wide 2 P (ρ.f 88) #[.func (.yield l) #[] #[], .pointer (some ⟨Bs, 0, none⟩)] W fun e W' => (∃ v, e = .returned v) ∧ ∃ ys, ys = zs ∧ J ys W' := by
  have t3 := L.t3; have a3 := L.a3; have z3 := L.z3; have v3 := L.v3; have t4 := L.t4; have a4 := L.a4; have z4 := L.z4; have v4 := L.v4; have t24 := L.t24; have a24 := L.a24; have z24 := L.z24; have v24 := L.v24
  have u3 := run_underlying L.t3; have u4 := run_underlying L.t4; have u24 := run_underlying L.t24
  have mixed := L.mixed
  have hn : 1 ≤ 2 := by decide
  refine callsIn_of_wp L.fV rfl trivial ?_ rfl
  simp only [ValB_ntmps ρ, List.size_toArray, List.length_cons, List.length_nil, Nat.reduceAdd, Nat.reduceSub, Array.replicate_succ, Array.replicate_zero, List.push_toArray, List.append_toArray, List.nil_append, List.cons_append]
  gi_wp2
  gi_loopw [7] (fun i wr => ∃ k : Nat, k ≤ zs.length ∧ i = .int .i64 k ∧ J (zs.take k) wr)
    (fun i _ => zs.length - (intOf i).toNat)
  case atStart => exact ⟨0, Nat.zero_le _, rfl, h0⟩
  case round =>
    obtain ⟨k, hk, rfl, hJs⟩ := hrel
    have hnx := hB _ _ hJs
    have hcx : k < zs.length → wr.cell? ⟨b, 0 + k, none⟩ = some (.int .i64 (zs[k]?.getD 0)) := fun h => (hnx.cell (p := ⟨b, 0 + k, none⟩) hb).trans (hc k h)
    by_cases hlt : k < zs.length
    · obtain ⟨x0, hx0⟩ : ∃ x0, zs[k]?.getD 0 = x0 := ⟨_, rfl⟩
      obtain ⟨fn, tmps, assign, body, hy, hR⟩ := hY _ x0 wr hJs (by rw [List.length_take]; omega)
      have hcx' : wr.cell? ⟨b, k, none⟩ = some (.int .i64 x0) := by
        have := hcx hlt
        rw [Nat.zero_add, hx0] at this
        exact this
      clear hcx
      gi_wp2
      refine hR.mono ?_
      rintro e W3 ⟨rfl, hJ3, hk3⟩
      gi_wp2
      go_roundw
      case rel => exact ⟨k + 1, by omega, by simp, by
        have : zs.take (k + 1) = zs.take k ++ [x0] := by rw [← hx0, List.take_succ, List.getElem?_eq_getElem hlt]; rfl
        rw [this]; exact hJ3⟩
      case measure => simp [intOf]; omega
    · obtain rfl : k = zs.length := by omega
      gi_wp2
      go_end0
      exact ⟨⟨_, rfl⟩, _, rfl, by rw [List.take_length] at hJs; exact hJs⟩
set_option maxRecDepth 100000 in
set_option maxHeartbeats 2000000 in
theorem vals0 {P : Program} {ρ : Ren} (L : ValL P ρ) (l Bs : Nat) (J : List Int → World → Prop) (W : World) (hBs : W.cell? ⟨Bs, 0, none⟩ = some (.slice none 0 0)) (h0 : J [] W) :
    CallsIn Fence.wide 2 P (ρ.f 88) #[.func (.yield l) #[] #[], .pointer (some ⟨Bs, 0, none⟩)] W fun e W' => (∃ v, e = .returned v) ∧ ∃ ys, ys = [] ∧ J ys W' := by
  have t3 := L.t3; have a3 := L.a3; have z3 := L.z3; have v3 := L.v3; have t4 := L.t4; have a4 := L.a4; have z4 := L.z4; have v4 := L.v4; have t24 := L.t24; have a24 := L.a24; have z24 := L.z24; have v24 := L.v24
  have u3 := run_underlying L.t3; have u4 := run_underlying L.t4; have u24 := run_underlying L.t24
  have mixed := L.mixed
  refine callsIn_of_wp L.fV rfl trivial ?_ rfl
  simp only [ValB_ntmps ρ, List.size_toArray, List.length_cons, List.length_nil, Nat.reduceAdd, Nat.reduceSub, Array.replicate_succ, Array.replicate_zero, List.push_toArray, List.append_toArray, List.nil_append, List.cons_append]
  gi_wp2
  gi_loopw [7] (fun i wr => i = .int .i64 0 ∧ J [] wr) (fun _ _ => 0)
  case atStart => exact ⟨rfl, h0⟩
  case round =>
    obtain ⟨rfl, hJs⟩ := hrel
    gi_wp2
    go_end0
    exact ⟨⟨_, rfl⟩, _, rfl, hJs⟩
theorem vals_give0 {P : Program} {ρ : Ren} (L : ValL P ρ) : ValsGive P (ρ.f 88) := by
  intro Bs sv zs w hBs hreach hcell hsv l J W hW hJ hB hY h0
  have hc' := (hW.cell (p := ⟨Bs, 0, none⟩) hBs).trans hcell
  rcases hsv with ⟨rfl, rfl⟩ | ⟨b, cap, rfl, hb, hcs⟩
  · exact vals0 L l Bs J W hc' h0
  · exact vals1 L l Bs b cap w.heap.size zs hreach hb J hY w hB W hc' hcs h0
set_option maxRecDepth 100000
def valR : Ren := ⟨fun n => n, fun n => n, fun n => n⟩
theorem valL : ValL Try.prog valR where
  mixed := by kernel_rfl
  fV := Try.func88.trans (congrArg some (by kernel_rfl))
  t3 := Try.underlying3
  t4 := Try.underlying4
  t24 := Try.underlying55
  a3 := Try.isAgg3
  a4 := Try.isAgg4
  a24 := Try.isAgg55
  z3 := Try.sizeOf3
  z4 := Try.sizeOf4
  z24 := Try.sizeOf55
  v3 := Try.zeroValue3
  v4 := Try.zeroValue4
  v24 := Try.zeroValue55
theorem vals_enter : ∀ args w, (callFunc 88 args).run Try.prog w = .ok (.enter 88 args) w := (show Bears Try.prog 88 Try.f88 from ⟨"slices.Values[[]int,int]$1", by decide, Try.func88⟩).enters rfl
theorem vals_ok : PrimOk Try.prog 61 (sortedV [88]) :=
  sortedV_prim (ρ := sortedR) sortedL sortsIn (sortL.f5.enters rfl)
   [88] (fun k hk => by
    simp only [List.mem_cons, List.not_mem_nil, or_false] at hk
    subst hk
    exact ⟨vals_give0 valL, vals_enter⟩)
   Try.func61 rfl (by decide)
theorem both_ok : PrimOk Try.prog 61 (orS (sortedS [93]) (sortedV [88])) := sorted_ok.or vals_ok
abbrev n_valsit : Nat := 88
abbrev n_sorted : Nat := 61
abbrev n_keysit0 : Nat := 93
def prims : List (Nat × (List CV → List Blk → Option (CV × List Blk))) := [(61, orS (sortedS [93]) (sortedV [88]))]
theorem prims_ok : ∀ e ∈ prims, PrimOk Try.prog e.1 e.2 := by
  intro e he
  simp only [prims, List.mem_cons, List.not_mem_nil, or_false] at he
  subst he
  exact both_ok
end Go.Proofs.Ytfblegjbmhgepaa.Zk
