/- 'slices.Insert(s, 0, x)' at elements of two cells: the library's own text, walked over any program. No condition. -/
import Derived.Test.YtfblegjbmhgepaaZcKeys
import Derived.Shelf.Spec.SlicesInsertGrow
set_option linter.all false
set_option linter.unusedVariables false
set_option linter.unusedSimpArgs false
namespace Go.Zc
open Go.Proofs Go.RowKit Go.Shelf Go.Lib

theorem run_copy_sz {P : Program} {w : World} {t u ty e : TypeId} {n : Nat} (ht : P.underlying t = some (.slice e)) (hn : szOf P e = some n) {b o len dc : Nat} {c : Array Value} {eo : TypeId}
    (hb : w.heap[b]? = some (.cells c eo (0, 0))) {xb : Option Addr} {xl xc : Nat} {us : List Value} (hl : us.length = min xl len * n)
    (hr : us = [] ∨ ∃ b o, xb = some ⟨b, o, none⟩ ∧ ∀ (j : Nat) (v : Value), us[j]? = some v → w.cell? ⟨b, o + j, none⟩ = some v) (h1 : ∀ v ∈ us, oneV v = true) (ho : o + us.length ≤ c.size) :
    (Builtin.copy_ #[t, u] ty #[.slice (some ⟨b, o, none⟩) len dc, .slice xb xl xc]).run P w = .ok (goInt (min xl len : Nat)) (w.setCells b o us) := by
  have hf := run_first (P := P) (w := w) (cap := xc) (n := min xl len) (base := xb) hl hr
  have hf' : (Builtin.firstCells n (min xl len) (.slice xb xl xc)).run P w = .ok us.toArray w := by
    cases xb <;> exact hf
  have h2 := run_store' (P := P) (o := o) hb h1 ho
  have hmin : Nat.min xl len = min xl len := rfl
  simp [Builtin.copy_, run_under ht, run_sizeOf' hn, Builtin.lenOf, hf', h2, hmin]

def InsShift (P : Program) (f : FuncId) : Prop := ∀ (b n c vb vc : Nat) (cs vs : List Value) (w : World) {ca va : Array Value} {ea eb : TypeId} (hn : 0 < n) (hn6 : n + 1 ≤ 9223372036854775807) (hroom : n + 1 ≤ c) (hvb : vb ≠ b)
    (hcl : cs.length = n * 2) (hvl : vs.length = 2) (hb : w.heap[b]? = some (.cells ca eb (0, 0))) (hv : w.heap[vb]? = some (.cells va ea (0, 0))) (hcap : c * 2 ≤ ca.size)
    (hcs : ∀ (j : Nat) v, cs[j]? = some v → w.cell? ⟨b, 0 + j, none⟩ = some v) (hvs : ∀ (j : Nat) v, vs[j]? = some v → w.cell? ⟨vb, 0 + j, none⟩ = some v) (h1c : ∀ v ∈ cs, oneV v = true) (h1v : ∀ v ∈ vs, oneV v = true),
    Calls P f #[.slice (some ⟨b, 0, none⟩) n c, .int .i64 0, .slice (some ⟨vb, 0, none⟩) 1 vc] w fun e w' =>
      e = .returned (.slice (some ⟨b, 0, none⟩) (n + 1) c) ∧ w' = (w.drew.setCells b 2 cs).setCells b 0 vs

theorem zeroCells_size' {z : Array Value} : ∀ (k : Nat), (Builtin.zeroCells z k).size = k * z.size := fun k => by
  simp [Builtin.zeroCells]
theorem zeroCells_mem {z : Array Value} {k : Nat} {v : Value} (h : v ∈ (Builtin.zeroCells z k).toList) : v ∈ z.toList := by
  simp [Builtin.zeroCells] at h
  obtain ⟨a, ha, rfl⟩ := h
  have hz : 0 < z.size := by
    rcases Nat.eq_zero_or_pos z.size with h0 | h0
    · rw [h0] at ha; omega
    · exact h0
  have := Nat.mod_lt a hz
  rw [getElem!_pos z (a % z.size) this]
  simp

def InsGrow (P : Program) (f : FuncId) (te : TypeId) (by' : Nat) : Prop := ∀ (b n c vb vc : Nat) (cs vs : List Value) (w : World) {ca va : Array Value} {ea eb : TypeId} (hn : 0 < n) (hnc : n ≤ c) (hroom : c < n + 1) (hbig : (n + 1) * by' ≤ 140737488355328)
    (hcl : cs.length = n * 2) (hvl : vs.length = 2) (hb : w.heap[b]? = some (.cells ca eb (0, 0))) (hv : w.heap[vb]? = some (.cells va ea (0, 0)))
    (hcs : ∀ (j : Nat) v, cs[j]? = some v → w.cell? ⟨b, 0 + j, none⟩ = some v) (hvs : ∀ (j : Nat) v, vs[j]? = some v → w.cell? ⟨vb, 0 + j, none⟩ = some v) (h1c : ∀ v ∈ cs, oneV v = true) (h1v : ∀ v ∈ vs, oneV v = true),
    Calls P f #[.slice (some ⟨b, 0, none⟩) n c, .int .i64 0, .slice (some ⟨vb, 0, none⟩) 1 vc] w fun e w' => ∃ G ROW, n + 1 ≤ G ∧ ROW.size = G * 2 ∧ (∀ v ∈ ROW.toList, oneV v = true) ∧
      e = .returned (.slice (some ⟨w.heap.size, 0, none⟩) (n + 1) G) ∧
      w' = (((w.alloc (.cells ROW te)).drew.setCells w.heap.size 0 vs).drew).setCells w.heap.size 2 cs

/-- What slices.Insert(s, 0, x) does: s' cells are spent, the new slice's are x and they. -/
def insC (args : List CV) (bl : List Blk) : Option (CV × List Blk) :=
  match args with
  | [.os 2 (.blk k) 0 n, .int .i64 i, .os 2 (.blk v) 0 1] =>
    if i = 0 ∧ 0 < n ∧ n ≤ 1000000 ∧ k ≠ v then
      match bl[k]?, bl[v]? with
      | some (.cells X), some (.cells Y) =>
        if n * 2 ≤ X.length ∧ 2 ≤ Y.length ∧ ones (X.take (n * 2)) = true ∧ ones (Y.take 2) = true then some (.os 2 (.blk bl.length) 0 (n + 1), bl.set k .dead ++ [.cells (Y.take 2 ++ X.take (n * 2))]) else none
      | _, _ => none
    else none
  | _ => none

theorem WTo.two {w w' w'' : World} {b : Nat} (h : WTo w w' b) (h' : WTo w' w'' b) : WTo w w'' b where
  os := h'.os.trans h.os
  tape := h'.tape.trans h.tape
  output := h'.output.trans h.output
  size := Nat.le_trans h.size h'.size
  lt := h'.lt
  other := fun k hk hl => (h'.other k hk (Nat.lt_of_lt_of_le hl h.size)).trans (h.other k hk hl)
  csz := fun n hn => h'.csz n (h.csz n hn)

theorem insert_prim {P : Program} {f : FuncId} {te : TypeId} {by' : Nat} (hS : InsShift P f) (hG : InsGrow P f te by') (hby1 : by' ≤ 1000)
    {fn : Func} (hfn : P.funcs[f]? = some fn) (hb : fn.body.isSome = true) (hnm : (fn.name == "runtime.NumGoroutine") = false) : PrimOk P f insC := by
  refine ⟨fn, hfn, hb, hnm, ?_⟩
  intro args bl v bl' hs w F ι vs hlo hi hv
  unfold insC at hs
  split at hs <;> (try cases hs)
  rename_i k n i vb
  split at hs <;> (try cases hs)
  rename_i hc
  obtain ⟨rfl, hn, hn6, hkv⟩ := hc
  split at hs <;> (try cases hs)
  rename_i X Y hX hY
  split at hs <;> (try cases hs)
  rename_i hc
  obtain ⟨hXl, hYl, hXo, hYo⟩ := hc
  simp only [VRl, VR, BR] at hv
  obtain ⟨a1, r1, rfl, ⟨sb, cap, rfl, hp2, hp3⟩, a2, r2, rfl, rfl, a3, r3, rfl, ⟨tb, cap2, rfl, hq2, hq3⟩, rfl⟩ := hv
  have gX : (Heap.mk [] bl).get (.blk k) = some X := by simp [Heap.get, hX]
  have gY : (Heap.mk [] bl).get (.blk vb) = some Y := by simp [Heap.get, hY]
  obtain ⟨b, ca, eo, hb1, hb2, hb3, hb4⟩ := hi.cells (.blk k) X gX
  obtain ⟨b2, va, ea, hv1, hv2, hv3, hv4⟩ := hi.cells (.blk vb) Y gY
  have hcl := hb3.len
  have hvl := hv3.len
  have lX : Heap.live ⟨[], bl⟩ (.blk k) := live_iff.2 (.inl ⟨X, gX⟩)
  have lY : Heap.live ⟨[], bl⟩ (.blk vb) := live_iff.2 (.inl ⟨Y, gY⟩)
  have hlive : Live ι ⟨[], bl⟩ b := ⟨.blk k, lX, hb1⟩
  have hnb : b2 ≠ b := fun e => hkv (by
    have := hi.inj (.blk k) (.blk vb) b lX lY hb1 (by rw [← e]; exact hv1)
    simpa using this)
  have hbl : b < w.heap.size := (Array.getElem?_eq_some_iff.1 hb2).1
  have hik := hi.kill k
  have hlen : (Heap.kill ⟨[], bl⟩ (.blk k)).bl.length = bl.length := by simp [Heap.kill]
  obtain ⟨us, k1, k2, k3⟩ := hb3.vals hb2 0 (n * 2) (by omega)
  obtain ⟨ys, j1, j2, j3⟩ := hv3.vals hv2 0 2 (by omega)
  have k2' : VRl w F ι.glob (X.take (n * 2)) us := by simpa [IM.of] using k2
  have j2' : VRl w F ι.glob (Y.take 2) ys := by simpa [IM.of] using j2
  have h1c : ∀ v ∈ us, oneV v = true := ones_oneV k2' hXo
  have h1v : ∀ v ∈ ys, oneV v = true := ones_oneV j2' hYo
  rcases hq3 with h0 | ⟨b2', N2, hr1, rfl, hr3, hr4⟩
  · omega
  rw [hr1] at hv1; cases hv1
  rcases hp3 with h0 | ⟨b', N, hg1, rfl, hg3, hg4⟩
  · omega
  rw [hg1] at hb1; cases hb1
  have hN : N = ca.size := by unfold Zc.csize at hg3; rw [hb2] at hg3; simpa using hg3.symm
  have hnew : ∀ {c : Array Value}, 2 + us.length ≤ c.size → CR w F ι.glob (Y.take 2 ++ X.take (n * 2)) (setAll (setAll c 2 us) 0 ys) ∧ CR w F ι.glob (Y.take 2 ++ X.take (n * 2)) (setAll (setAll c 0 ys) 2 us) := by
    intro c hc
    have hY2 : (Y.take 2).length = 2 := by simp; omega
    constructor <;> intro j y hy
    all_goals
      by_cases hj : j < 2
      · rw [List.getElem?_append_left (by omega)] at hy
        obtain ⟨u, g1, g2⟩ := j2'.get _ y hy
        first
          | (rw [setAll_get ys _ 0 j (by rw [setAll_size]; omega), if_pos (by omega)]; exact ⟨u, by simpa using g1, g2⟩)
          | (rw [setAll_get us _ 2 j (by rw [setAll_size]; omega), if_neg (by omega), setAll_get ys _ 0 j (by omega), if_pos (by omega)]; exact ⟨u, by simpa using g1, g2⟩)
      · rw [List.getElem?_append_right (by omega), hY2] at hy
        obtain ⟨u, g1, g2⟩ := k2'.get _ y hy
        have hlt := (List.getElem?_eq_some_iff.1 g1).1
        first
          | (rw [setAll_get ys _ 0 j (by rw [setAll_size]; omega), if_neg (by omega), setAll_get us _ 2 j (by omega), if_pos (by omega)]; exact ⟨u, g1, g2⟩)
          | (rw [setAll_get us _ 2 j (by rw [setAll_size]; omega), if_pos (by omega)]; exact ⟨u, g1, g2⟩)
  by_cases hfit : n + 1 ≤ cap
  · have hcall := hS b n cap b2 cap2 us ys w hn (by omega) hfit hnb k1 j1 hb2 hv2 (by omega) k3 j3 h1c h1v
    refine hcall.mono ?_
    rintro ex w' ⟨rfl, rfl⟩
    obtain ⟨a1, a2, a3, a4⟩ := setCells_heap b eo (0, 0) us 2 ca w.drew hb2
    obtain ⟨c1, c2, c3, c4⟩ := setCells_heap b eo (0, 0) ys 0 _ _ a1
    have hd : WTo w w.drew b := ⟨rfl, rfl, rfl, Nat.le_refl _, hbl, fun _ _ _ => rfl, fun _ h => h⟩
    have hw := (hd.two (WTo.set (o := 2) (show w.drew.heap[b]? = _ from hb2) us)).two (WTo.set (o := 0) a1 ys)
    have hnl' : ¬ Live ι (Heap.kill ⟨[], bl⟩ (.blk k)) b := by
      rintro ⟨j, h1, h2⟩
      obtain ⟨h3, h4⟩ := live_kill h1
      exact h3 (hi.inj j (.blk k) b h4 lX h2 hg1)
    have hnf : ¬ F b := fun h => hi.dis b h hlive
    obtain ⟨h2, h3⟩ := hik.add hw hnl' hnf c1 (hnew (c := ca) (by omega)).1 (setAll_one (setAll_one hb4 h1c (by omega)) h1v (by rw [setAll_size]; omega))
    refine ⟨_, F, ι.push b, [], rfl, ?_, h2, Ext.killadd hi hw (.inl hlive)⟩
    simp only [VR]
    refine ⟨some ⟨b, 0, none⟩, cap, rfl, hfit, .inr ⟨b, N, ?_, rfl, ?_, hg4⟩⟩
    · rw [IM.get_push, hi.len, if_pos rfl]
    · unfold Zc.csize
      rw [c1]
      simp [setAll_size, hN]
  · have hbig : (n + 1) * by' ≤ 140737488355328 := Nat.le_trans (Nat.mul_le_mul (show n + 1 ≤ 1000001 by omega) hby1) (by decide)
    have hcall := hG b n cap b2 cap2 us ys w hn hp2 (by omega) hbig k1 j1 hb2 hv2 k3 j3 h1c h1v
    refine hcall.mono ?_
    rintro ex w' ⟨G, ROW, hGn, hRs, hR1, rfl, rfl⟩
    have e0 : (w.alloc (.cells ROW te)).drew.heap[w.heap.size]? = some (.cells ROW te (0, 0)) := by
      show (w.heap.push _)[w.heap.size]? = _
      simp
    obtain ⟨a1, a2, a3, a4⟩ := setCells_heap w.heap.size te (0, 0) ys 0 ROW _ e0
    obtain ⟨c1, c2, c3, c4⟩ := setCells_heap w.heap.size te (0, 0) us 2 _ ((w.alloc (.cells ROW te)).drew.setCells w.heap.size 0 ys).drew a1
    have hw0 := WTo.new w (.cells ROW te)
    have hw1 : WTo w (w.alloc (.cells ROW te)).drew w.heap.size := ⟨hw0.os, hw0.tape, hw0.output, hw0.size, hw0.lt, hw0.other, hw0.csz⟩
    have hw2 := hw1.two (WTo.set (o := 0) e0 ys)
    have hw3 : WTo w ((w.alloc (.cells ROW te)).drew.setCells w.heap.size 0 ys).drew w.heap.size := ⟨hw2.os, hw2.tape, hw2.output, hw2.size, hw2.lt, hw2.other, hw2.csz⟩
    have hw := hw3.two (WTo.set (o := 2) (show ((w.alloc (.cells ROW te)).drew.setCells w.heap.size 0 ys).drew.heap[w.heap.size]? = _ from a1) us)
    obtain ⟨hd, hf⟩ := hik.new_dead
    obtain ⟨h2, h3⟩ := hik.add hw hd hf c1 (hnew (c := ROW) (by omega)).2 (setAll_one (setAll_one (get_of_mem hR1) h1v (by omega)) h1c (by rw [setAll_size]; omega))
    refine ⟨_, F, ι.push w.heap.size, [], rfl, ?_, h2, Ext.killadd hi hw (.inr (Nat.le_refl _))⟩
    simp only [VR]
    refine ⟨some ⟨w.heap.size, 0, none⟩, G, rfl, hGn, .inr ⟨w.heap.size, ROW.size, ?_, rfl, ?_, by omega⟩⟩
    · rw [IM.get_push, hi.len, if_pos rfl]
    · unfold Zc.csize
      rw [c1]
      simp [setAll_size]
end Go.Zc
