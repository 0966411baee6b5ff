/- The keys of a map, sorted: the library's contracts at this program. No condition. -/
import Derived.Test.YtfblegjbmhgepaaZcKeys
import Derived.Test.YtfblegjbmhgepaaProg
import Derived.Shelf.SortM.Plain
import Derived.Shelf.SortM.SortNone
import Derived.Test.YtfblegjbmhgepaaZcIns
import Derived.Shelf.Abstract
set_option linter.all false
section
set_option linter.unusedVariables false
set_option linter.unusedSimpArgs false
namespace Go.Proofs.Ytfblegjbmhgepaa.Zk
open Go Go.Zc Go.Proofs Go.RowKit Go.Shelf Go.Lib

shelf_abstract Try.f92 as InsB
shelf_abstract Try.f110 as OvB
structure InsL (P : Program) (ρ : Ren) (zv : Value) : Prop where
  mixed : P.follows .mixedOrders = true
  fI : P.funcs[ρ.f 92]? = some (InsB ρ)
  fO : P.funcs[ρ.f 110]? = some (OvB ρ)
  t3 : P.underlying (ρ.t 3) = some (TypeDesc.int IntKind.i64)
  a3 : ∀ w, (isAgg (ρ.t 3)).run P w = .ok false w
  z3 : ∀ w, (Go.sizeOf (ρ.t 3)).run P w = .ok 1 w
  v3 : ∀ w, (zeroValue (ρ.t 3)).run P w = .ok (Value.int IntKind.i64 0) w
  t4 : P.underlying (ρ.t 4) = some TypeDesc.bool
  a4 : ∀ w, (isAgg (ρ.t 4)).run P w = .ok false w
  z4 : ∀ w, (Go.sizeOf (ρ.t 4)).run P w = .ok 1 w
  v4 : ∀ w, (zeroValue (ρ.t 4)).run P w = .ok (Value.bool false) w
  a9 : ∀ w, (isAgg (ρ.t 117)).run P w = .ok true w
  z9 : ∀ w, (Go.sizeOf (ρ.t 117)).run P w = .ok 2 w
  v9 : ∀ w, (zeroValue (ρ.t 117)).run P w = .ok zv w
  t24 : P.underlying (ρ.t 57) = some (TypeDesc.slice (ρ.t 117))
  a24 : ∀ w, (isAgg (ρ.t 57)).run P w = .ok false w
  z24 : ∀ w, (Go.sizeOf (ρ.t 57)).run P w = .ok 1 w
  v24 : ∀ w, (zeroValue (ρ.t 57)).run P w = .ok (Value.slice none 0 0) w
  i9 : (P.info? (ρ.t 117)).map (fun i => (i.zero, i.size, i.bytes)) = some (some zv, 2, 16)

set_option maxHeartbeats 4000000 in
set_option maxRecDepth 100000 in
theorem ins_shift0 {P : Program} {ρ : Ren} {zv : Value} (hzs : zv.cells.size = 2) (hz1 : ∀ v ∈ zv.cells.toList, oneV v = true) (L : InsL P ρ zv) : InsShift P (ρ.f 92) := by
  intro b n c vb vc cs vs w ca va ea eb hn hn6 hroom hvb hcl hvl hb hv hcap hcs hvs h1c h1v
  have t3 := L.t3; have a3 := L.a3; have z3 := L.z3; have v3 := L.v3; have t4 := L.t4; have a4 := L.a4; have z4 := L.z4; have v4 := L.v4; have a9 := L.a9; have z9 := L.z9; have v9 := L.v9; have t24 := L.t24; have a24 := L.a24; have z24 := L.z24; have v24 := L.v24
  have u3 := run_underlying L.t3; have u4 := run_underlying L.t4; have u24 := run_underlying L.t24
  have mixed := L.mixed
  have hsz : szOf P (ρ.t 117) = some 2 := by
    obtain ⟨i0, hi0, h0, h1, h2⟩ := info_parts L.i9
    simp [szOf, hi0, h1]
  have hov : ∀ o lb cb, (callFunc (ρ.f 110) #[.slice (some ⟨vb, 0, none⟩) 1 vc, .slice (some ⟨b, o, none⟩) lb cb]).run P w = .ok (.value (.bool false)) w := fun o lb cb => by
    rw [run_callFunc_extern L.fO (by kernel_rfl) (by kernel_rfl) (by kernel_rfl) (e := Extern.SlicesOverlaps.overlaps #[(ρ.t 57), (ρ.t 57)] #[(ρ.t 4)]) (by kernel_rfl),
      Lib.run_overlaps_apart w (ρ.t 57) (ρ.t 4) (ρ.t 117) L.t24 2 L.z9 ⟨vb, 0, none⟩ ⟨b, o, none⟩ 1 vc lb cb hvb ea eb va.size ca.size (by simp [World.shape?, hv]) (by simp [World.shape?, hb]) (by omega) (by simp [World.frozen?, hv]) (by simp [World.frozen?, hv])]
    rfl
  have hz2 : ¬ ((0 : Int) = (n : Int)) := by omega
  have hcp1 : ∀ ty dc sc, (Builtin.copy_ #[(ρ.t 57), (ρ.t 57)] ty #[.slice (some ⟨b, 2, none⟩) n dc, .slice (some ⟨b, 0, none⟩) (n + 1) sc]).run P w.drew = .ok (goInt (min (n + 1) n : Nat)) (w.drew.setCells b 2 cs) := fun ty dc sc =>
    run_copy_sz (P := P) (w := w.drew) t24 hsz hb (by rw [hcl]; congr 1; omega) (.inr ⟨b, 0, rfl, hcs⟩) h1c (by omega)
  obtain ⟨W1, hW1⟩ : ∃ W1, W1 = w.drew.setCells b 2 cs := ⟨_, rfl⟩
  obtain ⟨k1, k2, k3, _⟩ := setCells_heap b eb (0, 0) cs 2 ca w.drew hb
  have hcp2 : ∀ (W : World), W.heap = W1.heap → ∀ ty dc, (Builtin.copy_ #[(ρ.t 57), (ρ.t 57)] ty #[.slice (some ⟨b, 0, none⟩) (n + 1) dc, .slice (some ⟨vb, 0, none⟩) 1 vc]).run P W = .ok (goInt (min 1 (n + 1) : Nat)) (W.setCells b 0 vs) := fun W hW ty dc =>
    run_copy_sz (P := P) (w := W) t24 hsz (c := setAll ca 2 cs) (eo := eb) (by rw [hW, hW1]; exact k1) (by rw [hvl, Nat.min_eq_left (by omega)]) (.inr ⟨vb, 0, rfl, fun j v hj => by
      have := hvs j v hj
      have hh : W.heap[vb]? = w.heap[vb]? := by rw [hW, hW1]; exact k2 vb hvb
      simp only [World.cell?, hh] at this ⊢
      exact this⟩) h1v (by rw [setAll_size]; omega)
  rw [← hW1] at hcp1
  have hb3 : (0 : Int) ≤ (n : Int) + 1 := by omega
  have hb4 : (1 : Int) ≤ (n : Int) + 1 := by omega
  have hw1 : IntKind.i64.wrap 1 = 1 := rfl
  have hc1 : ¬ (c = 1) := by omega
  have hc0 : ¬ (c = 0) := by omega
  go_enter L.fI, InsB_ntmps ρ
  go_wp2_with (simp only [hov])
  go_region_law_o (refine step_copy_runI rfl _ _ (ρ.t 57) (ρ.t 57) rfl (.slice (some ⟨b, 2, none⟩) n (c - 1)) (.slice (some ⟨b, 0, none⟩) (n + 1) c) (by simp [Act.eval, Act.put]) (by simp [Act.eval, Act.put]) (hcp1 _ _ _) ?_)
  go_wp2_with (at_builtin; refine wpList_copy_runI _ rfl _ _ (ρ.t 57) (ρ.t 57) rfl _ _ rfl rfl (hcp2 _ rfl _ _) ?_)
  go_ret
  first | exact ⟨rfl, rfl⟩ | exact ⟨rfl, by rw [hW1]⟩

set_option maxHeartbeats 4000000 in
set_option maxRecDepth 100000 in
theorem ins_grow0 {P : Program} {ρ : Ren} {zv : Value} (hzs : zv.cells.size = 2) (hz1 : ∀ v ∈ zv.cells.toList, oneV v = true) (L : InsL P ρ zv) : InsGrow P (ρ.f 92) (ρ.t 117) 16 := by
  intro b n c vb vc cs vs w ca va ea eb hn hnc hroom hbig hcl hvl hb hv hcs hvs h1c h1v
  have t3 := L.t3; have a3 := L.a3; have z3 := L.z3; have v3 := L.v3; have t4 := L.t4; have a4 := L.a4; have z4 := L.z4; have v4 := L.v4; have a9 := L.a9; have z9 := L.z9; have v9 := L.v9; have t24 := L.t24; have a24 := L.a24; have z24 := L.z24; have v24 := L.v24
  have u3 := run_underlying L.t3; have u4 := run_underlying L.t4; have u24 := run_underlying L.t24
  have mixed := L.mixed
  obtain ⟨i0, hi0, hz0, hzi, hzb⟩ := info_parts L.i9
  have hsz : szOf P (ρ.t 117) = some 2 := by simp [szOf, hi0, hzi]
  have hz2 : ¬ ((0 : Int) = (n : Int)) := by omega
  have hz3 : (c : Int) < (n : Int) + 1 := by omega
  have hbw : b < w.heap.size := (Array.getElem?_eq_some_iff.1 hb).1
  have hvw : vb < w.heap.size := (Array.getElem?_eq_some_iff.1 hv).1
  have hold : (Builtin.firstCells i0.size 0 (.slice (some ⟨b, 0, none⟩) 0 c)).run P w.drew = .ok ([] : List Value).toArray w.drew := run_first (by simp) (.inl rfl)
  have hkk : (n : Int) + 1 - 0 = ((n + 1 : Nat) : Int) := by omega
  have hgb : Builtin.nextslicecap (n + 1) c * i0.bytes ≤ 281474976710656 := by rw [hzb]; exact growslice_fits hroom hbig
  have hle : n + 1 ≤ 140737488355328 := Nat.le_trans (Nat.le_mul_of_pos_right _ (by decide : 0 < 16)) hbig
  have hrz : ∀ ty, (Builtin.append_ #[(ρ.t 57), (ρ.t 3)] ty #[.slice (some ⟨b, 0, none⟩) 0 c, .int .i64 ((n : Int) + 1)]).run P w =
      .ok (.slice (some ⟨w.heap.size, 0, none⟩) (n + 1) (grownCap w (n + 1) c (ρ.t 117))) (w.drew.alloc (.cells (Builtin.zeroCells zv.cells (n + 1) ++ Builtin.zeroCells zv.cells (grownCap w (n + 1) c (ρ.t 117) - (n + 1))) (ρ.t 117))) := fun ty => by
    have h := Lib.run_append_grow_zeros w (ρ.t 57) (ρ.t 3) ty (ρ.t 117) i0 _ .i64 .i64 t24 t3 hi0 hz0 (some ⟨b, 0, none⟩) 0 c [] hold (n + 1) (by omega) (by omega) (by omega) (by omega) (by rw [hzb]; omega) (by rw [Nat.zero_add]; exact hgb)
    rw [Nat.zero_add] at h
    simpa using h
  have hG : n + 1 ≤ grownCap w (n + 1) c (ρ.t 117) := grownCap_ge w _ _ _
  have hG63 : grownCap w (n + 1) c (ρ.t 117) ≤ 9223372036854775807 := by
    have := grownCap_le_maxLen w (n + 1) c (ρ.t 117) (by unfold maxLen; omega)
    unfold maxLen at this
    omega
  generalize hg : grownCap w (n + 1) c (ρ.t 117) = G at hrz hG hG63
  obtain ⟨ROW, hROW⟩ : ∃ ROW : Array Value, ROW = Builtin.zeroCells zv.cells (n + 1) ++ Builtin.zeroCells zv.cells (G - (n + 1)) := ⟨_, rfl⟩
  have hRs : ROW.size = G * 2 := by
    rw [hROW, Array.size_append, zeroCells_size', zeroCells_size', hzs, ← Nat.add_mul]
    congr 1; omega
  have hR1 : ∀ v ∈ ROW.toList, oneV v = true := fun v hv => by
    rw [hROW, Array.toList_append, List.mem_append] at hv
    rcases hv with h | h <;> exact hz1 v (zeroCells_mem h)
  rw [← hROW] at hrz
  have hN : ∀ W : World, W.heap = w.heap.push (.cells ROW (ρ.t 117)) → W.heap[w.heap.size]? = some (.cells ROW (ρ.t 117) (0, 0)) := fun W h => by rw [h]; simp
  have hO : ∀ W : World, W.heap = w.heap.push (.cells ROW (ρ.t 117)) → ∀ k, k < w.heap.size → W.heap[k]? = w.heap[k]? := fun W h k hk => by
    rw [h, Array.getElem?_push, if_neg (by omega)]
  have hcpA : ∀ (W : World), W.heap = w.heap.push (.cells ROW (ρ.t 117)) → ∀ ty dc, (Builtin.copy_ #[(ρ.t 57), (ρ.t 57)] ty #[.slice (some ⟨w.heap.size, 0, none⟩) (n + 1) dc, .slice (some ⟨vb, 0, none⟩) 1 vc]).run P W = .ok (goInt (min 1 (n + 1) : Nat)) (W.setCells w.heap.size 0 vs) := fun W hW ty dc =>
    run_copy_sz (P := P) (w := W) t24 hsz (hN W hW) (by rw [hvl, Nat.min_eq_left (by omega)]) (.inr ⟨vb, 0, rfl, fun j v hj => by
      have := hvs j v hj
      simp only [World.cell?, hO W hW vb hvw] at this ⊢
      exact this⟩) h1v (by omega)
  have hcpB : ∀ (W W0 : World), W0.heap = w.heap.push (.cells ROW (ρ.t 117)) → W.heap = (W0.setCells w.heap.size 0 vs).heap → ∀ ty dc sc, (Builtin.copy_ #[(ρ.t 57), (ρ.t 57)] ty #[.slice (some ⟨w.heap.size, 2, none⟩) n dc, .slice (some ⟨b, 0, none⟩) n sc]).run P W = .ok (goInt (min n n : Nat)) (W.setCells w.heap.size 2 cs) := fun W W0 h0 hW ty dc sc => by
    obtain ⟨k1, k2, k3, _⟩ := setCells_heap w.heap.size (ρ.t 117) (0, 0) vs 0 ROW W0 (hN W0 h0)
    exact run_copy_sz (P := P) (w := W) t24 hsz (c := setAll ROW 0 vs) (eo := (ρ.t 117)) (by rw [hW]; exact k1) (by rw [hcl, Nat.min_self]) (.inr ⟨b, 0, rfl, fun j v hj => by
      have := hcs j v hj
      have hh : W.heap[b]? = w.heap[b]? := by rw [hW, k2 b (by omega)]; exact hO W0 h0 b hbw
      simp only [World.cell?, hh] at this ⊢
      exact this⟩) h1c (by rw [setAll_size]; omega)
  have hb3 : (0 : Int) ≤ (n : Int) + 1 := by omega
  have hb4 : (1 : Int) ≤ (n : Int) + 1 := by omega
  have hw1 : IntKind.i64.wrap 1 = 1 := rfl
  have hc1 : ¬ (G = 1) := by omega
  have hc0 : ¬ (G = 0) := by omega
  have hc2 : ¬ (c = 0) := by omega
  have hA : ∀ ty dc, (Builtin.copy_ #[(ρ.t 57), (ρ.t 57)] ty #[.slice (some ⟨w.heap.size, 0, none⟩) (n + 1) dc, .slice (some ⟨vb, 0, none⟩) 1 vc]).run P (w.alloc (.cells ROW (ρ.t 117))).drew = .ok (goInt (min 1 (n + 1) : Nat)) ((w.alloc (.cells ROW (ρ.t 117))).drew.setCells w.heap.size 0 vs) := hcpA _ rfl
  have hB : ∀ ty dc sc, (Builtin.copy_ #[(ρ.t 57), (ρ.t 57)] ty #[.slice (some ⟨w.heap.size, 2, none⟩) n dc, .slice (some ⟨b, 0, none⟩) n sc]).run P ((w.alloc (.cells ROW (ρ.t 117))).drew.setCells w.heap.size 0 vs).drew = .ok (goInt (min n n : Nat)) (((w.alloc (.cells ROW (ρ.t 117))).drew.setCells w.heap.size 0 vs).drew.setCells w.heap.size 2 cs) := hcpB _ (w.alloc (.cells ROW (ρ.t 117))).drew rfl rfl
  clear hold hROW hg hgb hkk hcpA hcpB
  go_enter L.fI, InsB_ntmps ρ
  go_wp2_with (first
    | (at_builtin; refine Lib.wpList_append_run _ rfl _ _ _ _ rfl _ _ rfl rfl _ _ (hrz _) ?_)
    | (at_builtin; refine wpList_copy_runI _ rfl _ _ (ρ.t 57) (ρ.t 57) rfl _ _ rfl rfl (hA _ _) ?_))
  go_region_law_o (refine step_copy_runI rfl _ _ (ρ.t 57) (ρ.t 57) rfl (.slice (some ⟨w.heap.size, 2, none⟩) n (G - 1)) (.slice (some ⟨b, 0, none⟩) n c) (by simp [Act.eval, Act.put]) (by simp [Act.eval, Act.put]) (hB (ρ.t 3) (G - 1) c) ?_)
  go_wp2
  go_ret
  exact ⟨G, ROW, hG, hRs, hR1, rfl, rfl⟩

set_option maxRecDepth 100000
def insR : Ren := ⟨fun n => n, fun n => n, fun n => n⟩
theorem insL : InsL Try.prog insR (.agg #[.int .i64 0, .int .i64 0]) where
  mixed := by kernel_rfl
  fI := Try.func92.trans (congrArg some (by kernel_rfl))
  fO := Try.func110.trans (congrArg some (by kernel_rfl))
  t3 := Try.underlying3
  t4 := Try.underlying4
  t24 := Try.underlying57
  a3 := Try.isAgg3
  a4 := Try.isAgg4
  a24 := Try.isAgg57
  a9 := Try.isAgg117
  z3 := Try.sizeOf3
  z4 := Try.sizeOf4
  z24 := Try.sizeOf57
  z9 := Try.sizeOf117
  v3 := Try.zeroValue3
  v4 := Try.zeroValue4
  v24 := Try.zeroValue57
  v9 := Try.zeroValue117
  i9 := by kernel_rfl
theorem ins_shift : InsShift Try.prog 92 := ins_shift0 (ρ := insR) (zv := .agg #[.int .i64 0, .int .i64 0]) rfl (by simp [Value.cells, oneV]) insL
theorem ins_grow : InsGrow Try.prog 92 117 16 := ins_grow0 (ρ := insR) (zv := .agg #[.int .i64 0, .int .i64 0]) rfl (by simp [Value.cells, oneV]) insL
theorem ins_ok : PrimOk Try.prog 92 insC := insert_prim ins_shift ins_grow (by decide) Try.func92 rfl (by decide)
abbrev n_insert : Nat := 92
end Go.Proofs.Ytfblegjbmhgepaa.Zk
end
section
namespace Go.Proofs.Ytfblegjbmhgepaa.Zk
open Go Go.Zc Go.Shelf Go.Sort
set_option maxRecDepth 100000

def sortedR : Ren := ⟨fun | 6 => 61 | 8 => 86 | 9 => 87 | 11 => 105 | 13 => 107 | 12 => 106 | 23 => 124 | 24 => 125 | 14 => 115 | 15 => 116 | 16 => 117 | 17 => 118 | 18 => 119 | 19 => 120 | 20 => 121 | 21 => 122 | 22 => 123 | 25 => 127 | 26 => 128 | 27 => 129 | 28 => 130 | 29 => 131 | 30 => 132 | 31 => 134 | n => n, fun | 26 => 3 | 28 => 125 | 24 => 55 | 0 => 0 | 3 => 3 | 37 => 176 | 48 => 191 | 50 => 193 | 4 => 4 | 40 => 185 | 39 => 184 | 45 => 164 | 5 => 5 | 9 => 9 | 51 => 194 | 55 => 198 | 57 => 201 | 58 => 202 | 33 => 107 | n => n, fun n => n⟩
theorem sortedL : SlLaysZI.n6 Try.prog sortedR where
  mixed := by kernel_rfl
  f6 := ⟨"slices.Sorted[int]", by decide, Try.func61.trans (congrArg some (by kernel_rfl))⟩
  f8 := ⟨"slices.Collect[int]", by decide, Try.func86.trans (congrArg some (by kernel_rfl))⟩
  f11 := ⟨"slices.AppendSeq[[]int,int]", by decide, Try.func105.trans (congrArg some (by kernel_rfl))⟩
  t0 := Try.underlying0
  a0 := Try.isAgg0
  z0 := Try.sizeOf0
  v0 := Try.zeroValue0
  t24 := Try.underlying55
  a24 := Try.isAgg55
  z24 := Try.sizeOf55
  v24 := Try.zeroValue55
  t26 := Try.underlying3
  a26 := Try.isAgg3
  z26 := Try.sizeOf3
  v26 := Try.zeroValue3
  t28 := Try.underlying125
  a28 := Try.isAgg125
  z28 := Try.sizeOf125
  v28 := Try.zeroValue125
  i26 := by kernel_rfl

def sortR : Ren := ⟨fun | 5 => 87 | 8 => 107 | 7 => 106 | 19 => 124 | 20 => 125 | 10 => 115 | 11 => 116 | 12 => 117 | 13 => 118 | 14 => 119 | 15 => 120 | 16 => 121 | 17 => 122 | 18 => 123 | 30 => 127 | 31 => 128 | 32 => 129 | 33 => 130 | 34 => 131 | 35 => 132 | 40 => 134 | n => n, fun | 23 => 55 | 25 => 3 | 3 => 3 | 32 => 176 | 22 => 55 | 0 => 0 | 44 => 191 | 46 => 193 | 4 => 4 | 36 => 185 | 35 => 184 | 41 => 164 | 5 => 5 | 9 => 9 | 53 => 194 | 57 => 198 | 63 => 201 | 64 => 202 | n => n, fun n => n⟩
theorem sortL : SlLaysM.n5 Try.prog sortR where
  mixed := by kernel_rfl
  f5 := ⟨"slices.Sort[[]int,int]", by decide, Try.func87.trans (congrArg some (by kernel_rfl))⟩
  f7 := ⟨"slices.pdqsortOrdered[int]", by decide, Try.func106.trans (congrArg some (by kernel_rfl))⟩
  f8 := Try.func107.trans (congrArg some (by kernel_rfl))
  f10 := ⟨"slices.insertionSortOrdered[int]", by decide, Try.func115.trans (congrArg some (by kernel_rfl))⟩
  f11 := ⟨"slices.heapSortOrdered[int]", by decide, Try.func116.trans (congrArg some (by kernel_rfl))⟩
  f12 := ⟨"slices.breakPatternsOrdered[int]", by decide, Try.func117.trans (congrArg some (by kernel_rfl))⟩
  f13 := ⟨"slices.choosePivotOrdered[int]", by decide, Try.func118.trans (congrArg some (by kernel_rfl))⟩
  f14 := ⟨"slices.reverseRangeOrdered[int]", by decide, Try.func119.trans (congrArg some (by kernel_rfl))⟩
  f15 := ⟨"slices.partialInsertionSortOrdered[int]", by decide, Try.func120.trans (congrArg some (by kernel_rfl))⟩
  f16 := ⟨"cmp.Less[int]", by decide, Try.func121.trans (congrArg some (by kernel_rfl))⟩
  f17 := ⟨"slices.partitionEqualOrdered[int]", by decide, Try.func122.trans (congrArg some (by kernel_rfl))⟩
  f18 := ⟨"slices.partitionOrdered[int]", by decide, Try.func123.trans (congrArg some (by kernel_rfl))⟩
  f19 := Try.func124.trans (congrArg some (by kernel_rfl))
  f20 := Try.func125.trans (congrArg some (by kernel_rfl))
  f30 := ⟨"slices.siftDownOrdered[int]", by decide, Try.func127.trans (congrArg some (by kernel_rfl))⟩
  f31 := Try.func128.trans (congrArg some (by kernel_rfl))
  f32 := Try.func129.trans (congrArg some (by kernel_rfl))
  f33 := ⟨"slices.medianAdjacentOrdered[int]", by decide, Try.func130.trans (congrArg some (by kernel_rfl))⟩
  f34 := ⟨"slices.medianOrdered[int]", by decide, Try.func131.trans (congrArg some (by kernel_rfl))⟩
  f35 := ⟨"cmp.isNaN[int]", by decide, Try.func132.trans (congrArg some (by kernel_rfl))⟩
  f40 := ⟨"slices.order2Ordered[int]", by decide, Try.func134.trans (congrArg some (by kernel_rfl))⟩
  t0 := Try.underlying0
  a0 := Try.isAgg0
  z0 := Try.sizeOf0
  v0 := Try.zeroValue0
  t3 := Try.underlying3
  a3 := Try.isAgg3
  z3 := Try.sizeOf3
  v3 := Try.zeroValue3
  t4 := Try.underlying4
  a4 := Try.isAgg4
  z4 := Try.sizeOf4
  v4 := Try.zeroValue4
  t5 := Try.underlying5
  a5 := Try.isAgg5
  z5 := Try.sizeOf5
  v5 := Try.zeroValue5
  t9 := Try.underlying9
  a9 := Try.isAgg9
  z9 := Try.sizeOf9
  v9 := Try.zeroValue9
  t22 := Try.underlying55
  a22 := Try.isAgg55
  z22 := Try.sizeOf55
  v22 := Try.zeroValue55
  t23 := Try.underlying55
  a23 := Try.isAgg55
  z23 := Try.sizeOf55
  v23 := Try.zeroValue55
  t25 := Try.underlying3
  a25 := Try.isAgg3
  z25 := Try.sizeOf3
  v25 := Try.zeroValue3
  t32 := Try.underlying176
  a32 := Try.isAgg176
  z32 := Try.sizeOf176
  v32 := Try.zeroValue176
  t35 := Try.underlying184
  a35 := Try.isAgg184
  z35 := Try.sizeOf184
  v35 := Try.zeroValue184
  t36 := Try.underlying185
  a36 := Try.isAgg185
  z36 := Try.sizeOf185
  v36 := Try.zeroValue185
  t41 := Try.underlying164
  a41 := Try.isAgg164
  z41 := Try.sizeOf164
  v41 := Try.zeroValue164
  t44 := Try.underlying191
  a44 := Try.isAgg191
  z44 := Try.sizeOf191
  v44 := Try.zeroValue191
  t46 := Try.underlying193
  a46 := Try.isAgg193
  z46 := Try.sizeOf193
  v46 := Try.zeroValue193
  t53 := Try.underlying194
  a53 := Try.isAgg194
  z53 := Try.sizeOf194
  v53 := Try.zeroValue194
  t57 := Try.underlying198
  a57 := Try.isAgg198
  z57 := Try.sizeOf198
  v57 := Try.zeroValue198
  t63 := Try.underlying201
  a63 := Try.isAgg201
  z63 := Try.sizeOf201
  v63 := Try.zeroValue201
  t64 := Try.underlying202
  a64 := Try.isAgg202
  z64 := Try.sizeOf202
  v64 := Try.zeroValue202

def keys93R : Ren := ⟨fun | 10 => 93 | n => n, fun | 33 => 107 | 23 => 128 | 0 => 0 | 4 => 4 | 26 => 3 | 3 => 133 | n => n, fun n => n⟩
theorem keys93L : SlLaysZI.n10 Try.prog keys93R where
  mixed := by kernel_rfl
  f10 := ⟨"maps.Keys[map[int]*balise/world.vehicle,int,*balise/world.vehicle]$1", by decide, Try.func93.trans (congrArg some (by kernel_rfl))⟩
  t0 := Try.underlying0
  a0 := Try.isAgg0
  z0 := Try.sizeOf0
  v0 := Try.zeroValue0
  t4 := Try.underlying4
  a4 := Try.isAgg4
  z4 := Try.sizeOf4
  v4 := Try.zeroValue4
  t23 := Try.underlying128
  a23 := Try.isAgg128
  z23 := Try.sizeOf128
  v23 := Try.zeroValue128
  t26 := Try.underlying3
  a26 := Try.isAgg3
  z26 := Try.sizeOf3
  v26 := Try.zeroValue3
  t33 := Try.underlying107
  a33 := Try.isAgg107
  z33 := Try.sizeOf107
  v33 := Try.zeroValue107

theorem sortsIn : Go.Proofs.AnyZI.SortsIn Try.prog sortedR Fence.wide 4 :=
  ⟨fun blk off cap ss W h1 h2 h3 => (callsIn_wide (n := 4)).2 (Go.Proofs.AnyM.slices_Sort_int (P := Try.prog) (ρ := sortR) sortL blk off cap ss W h1 h2 h3),
   fun p cap W => (callsIn_wide (n := 4)).2 (Go.Proofs.AnyM.slices_Sort_int_none (P := Try.prog) (ρ := sortR) sortL p cap W)⟩
theorem sorted_ok : PrimOk Try.prog 61 (sortedS [93]) :=
  sorted_prim (ρ := sortedR) sortedL sortsIn (sortL.f5.enters rfl)
   [93] (fun k hk => by
    simp only [List.mem_cons, List.not_mem_nil, or_false] at hk
    subst hk
    · exact ⟨⟨keys93R, rfl, keys93L⟩, keys93L.f10.enters rfl⟩)
   Try.func61 rfl (by decide)
abbrev n_sorted : Nat := 61
abbrev n_keysit0 : Nat := 93
def prims : List (Nat × (List CV → List Blk → Option (CV × List Blk))) := [(61, sortedS [93]), (92, insC)]
theorem prims_ok : ∀ e ∈ prims, PrimOk Try.prog e.1 e.2 := by
  intro e he
  simp only [prims, List.mem_cons, List.not_mem_nil, or_false] at he
  rcases he with rfl | rfl
  · exact sorted_ok
  · exact ins_ok
end Go.Proofs.Ytfblegjbmhgepaa.Zk
end
