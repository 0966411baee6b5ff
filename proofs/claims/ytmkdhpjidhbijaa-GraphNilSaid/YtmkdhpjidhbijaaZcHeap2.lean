/- Operations on memory: stores, slices. No condition. -/
import Derived.Test.YtmkdhpjidhbijaaZcHeap
set_option linter.all false
namespace Go.Zc

section
variable {P : Program} {w : World} {F : Nat → Prop} {ι : IM} {H : Heap} {env : Env} {a : Act}

/-! ### Stores -/

def setAll (c : Array Value) : Nat → List Value → Array Value
  | _, [] => c
  | o, v :: r => setAll (c.setIfInBounds o v) (o + 1) r

theorem setAll_size : ∀ (vs : List Value) (c : Array Value) (o : Nat), (setAll c o vs).size = c.size
  | [], _, _ => rfl
  | v :: r, c, o => by simp [setAll, setAll_size r]

theorem setCells_heap (b : Nat) (e : TypeId) (fz : Nat × Nat) : ∀ (vs : List Value) (o : Nat) (c : Array Value) (w : World), w.heap[b]? = some (.cells c e fz) →
    (w.setCells b o vs).heap[b]? = some (.cells (setAll c o vs) e fz) ∧ (∀ k, k ≠ b → (w.setCells b o vs).heap[k]? = w.heap[k]?) ∧ (w.setCells b o vs).heap.size = w.heap.size ∧
    (w.setCells b o vs).os = w.os ∧ (w.setCells b o vs).tape = w.tape ∧ (w.setCells b o vs).output = w.output
  | [], o, c, w, h => ⟨h, fun _ _ => rfl, rfl, rfl, rfl, rfl⟩
  | v :: r, o, c, w, h => by
    have h1 : (w.setCell ⟨b, o, none⟩ v).heap[b]? = some (.cells (c.setIfInBounds o v) e fz) := by
      simp [World.setCell, Array.getElem?_modify, h]
    obtain ⟨i1, i2, i3, i4, i5, i6⟩ := setCells_heap b e fz r (o + 1) (c.setIfInBounds o v) (w.setCell ⟨b, o, none⟩ v) h1
    refine ⟨i1, fun k hk => ?_, ?_, i4, i5, i6⟩
    · rw [World.setCells, i2 k hk]
      simp only [World.setCell, Array.getElem?_modify]
      rw [if_neg (fun e => hk e.symm)]
    · rw [World.setCells, i3]
      simp [World.setCell]

theorem WTo.set {b o : Nat} {e : TypeId} {fz : Nat × Nat} {c : Array Value} (h : w.heap[b]? = some (.cells c e fz)) (vs : List Value) : WTo w (w.setCells b o vs) b := by
  obtain ⟨i1, i2, i3, i4, i5, i6⟩ := setCells_heap b e fz vs o c w h
  have hlt := (Array.getElem?_eq_some_iff.1 h).1
  exact ⟨i4, i5, i6, by omega, by omega, fun k hk _ => i2 k hk, fun n hn => by
    unfold Zc.csize at hn ⊢
    rw [h] at hn
    rw [i1]
    simpa [setAll_size] using hn⟩

theorem setAll_get : ∀ (vs : List Value) (c : Array Value) (o j : Nat), o + vs.length ≤ c.size → (setAll c o vs)[j]? = if o ≤ j ∧ j < o + vs.length then vs[j - o]? else c[j]?
  | [], c, o, j, _ => by simp [setAll]; intro h1 h2; omega
  | v :: r, c, o, j, h => by
    simp only [List.length_cons] at h ⊢
    rw [setAll, setAll_get r _ (o + 1) j (by simp; omega)]
    by_cases h1 : o + 1 ≤ j ∧ j < o + 1 + r.length
    · rw [if_pos h1, if_pos (by omega)]
      rw [show j - o = (j - (o + 1)) + 1 by omega]
      simp
    · rw [if_neg h1]
      by_cases h2 : j = o
      · subst h2
        rw [if_pos (by omega)]
        have : j < c.size := by omega
        simp [this]
      · rw [if_neg (by omega), Array.getElem?_setIfInBounds, if_neg (fun e => h2 e.symm)]

theorem setMany_get : ∀ (xs cs : List CV) (o j : Nat), o + xs.length ≤ cs.length → (setMany cs o xs)[j]? = if o ≤ j ∧ j < o + xs.length then xs[j - o]? else cs[j]?
  | [], cs, o, j, _ => by simp [setMany]; intro h1 h2; omega
  | x :: r, cs, o, j, h => by
    simp only [List.length_cons] at h ⊢
    rw [setMany, setMany_get r _ (o + 1) j (by simp; omega)]
    by_cases h1 : o + 1 ≤ j ∧ j < o + 1 + r.length
    · rw [if_pos h1, if_pos (by omega)]
      rw [show j - o = (j - (o + 1)) + 1 by omega]
      simp
    · rw [if_neg h1]
      by_cases h2 : j = o
      · subst h2
        rw [if_pos (by omega)]
        have : j < cs.length := by omega
        simp [this]
      · rw [if_neg (by omega), List.getElem?_set, if_neg (fun e => h2 e.symm)]

theorem CR.len {cs : List CV} {c : Array Value} (h : CR w F ι cs c) : cs.length ≤ c.size := by
  rcases Nat.eq_zero_or_pos cs.length with h0 | h0
  · omega
  · obtain ⟨u, hu, _⟩ := h (cs.length - 1) cs[cs.length - 1] (List.getElem?_eq_getElem _)
    have := (Array.getElem?_eq_some_iff.1 hu).1
    omega

theorem CR.set {cs xs : List CV} {c : Array Value} {vs : List Value} (h : CR w F ι cs c) (hx : VRl w F ι xs vs) {o : Nat} (ho : o + xs.length ≤ cs.length) : CR w F ι (setMany cs o xs) (setAll c o vs) := by
  intro j x hj
  have hl := VRl.length hx
  have hc := h.len
  rw [setMany_get xs cs o j ho] at hj
  rw [setAll_get vs c o j (by omega), hl]
  split at hj
  · rename_i hb
    rw [if_pos hb]
    exact hx.get _ x hj
  · rename_i hb
    rw [if_neg hb]
    exact h j x hj

theorem setAll_one {c : Array Value} {vs : List Value} {o : Nat} (hc : ∀ (j : Nat) (x : Value), c[j]? = some x → oneV x = true) (hv : ∀ v ∈ vs, oneV v = true) (ho : o + vs.length ≤ c.size) :
    ∀ (j : Nat) (x : Value), (setAll c o vs)[j]? = some x → oneV x = true := by
  intro j x hj
  rw [setAll_get vs c o j ho] at hj
  split at hj
  · exact hv _ (List.mem_of_getElem? hj)
  · exact hc j x hj

/-- Cells that somebody owns are written. -/
theorem run_store' {b o : Nat} {e : TypeId} {c : Array Value} {vs : List Value} (h : w.heap[b]? = some (.cells c e (0, 0))) (hv : ∀ v ∈ vs, oneV v = true) (ho : o + vs.length ≤ c.size) :
    (storeCells ⟨b, o, none⟩ vs).run P w = .ok () (w.setCells b o vs) := by
  have := run_storeCells_cells (P := P) b o vs 0 w (fun j hj => by
      have : o + j < c.size := by omega
      simp [World.cell?, h, this]) (fun j _ => by simp [World.frozen?, h]) (fun v hm => by rw [oneV_oneCell]; exact hv v hm)
  simpa using this

theorem upd_ok (hi : Inv w F ι H) {o : Oper} {i : Id} {b off : Nat} {old xs : List CV} {e : TypeId} {c : Array Value} {vs : List Value} {v : CV} {v' : Value} (hg : H.get i = some old) (hb : ι.get i = some b)
    (h : w.heap[b]? = some (.cells c e (0, 0))) (hcr : CR w F (ι.of i) old c) (h1 : ∀ (j : Nat) (x : Value), c[j]? = some x → oneV x = true) (hx : VRl w F (ι.of i) xs vs) (hone : ∀ v ∈ vs, oneV v = true) (ho : off + xs.length ≤ old.length)
    (hv : ∀ w', VR w' F ι v v') (hrun : (execOp a.eval o).run P w = .ok (.value v') (w.setCells b off vs) ∨ ((execOp a.eval o).run P w = .ok .skip (w.setCells b off vs) ∧ v' = undef)) :
    HOk P w F ι H a o v (H.put i (setMany old off xs)) := by
  have hw := WTo.set (o := off) h vs
  obtain ⟨i1, _⟩ := setCells_heap b e (0, 0) vs off c w h
  have hl := VRl.length hx
  have hcl := hcr.len
  obtain ⟨h2, h3⟩ := hi.upd hg hb hw i1 (hcr.set hx ho) (setAll_one h1 hone (by omega))
  exact ⟨v', _, F, ι, hrun, hv _, h2, Ext.upd hg hb hw, h3⟩

theorem noloc_of {i : Id} {xs : List CV} {vs : List Value} (h : VRl w F ι xs vs) (hl : i.loc? = true ∨ CV.locs xs = false) : VRl w F (ι.of i) xs vs := by
  cases i with
  | loc s => exact h
  | blk n =>
    rcases hl with hl | hl
    · cases hl
    · exact VRl.noloc _ _ hl h

theorem store_ok (hi : Inv w F ι H) {o : Oper} {t : TypeId} {x y : Operand} (ho : o.op = .store t x y) {n : Nat} (hn : szOf P t = some n) {p q v : CV} {H' : Heap} (hp : VR w F ι p (a.eval x)) (hq : VR w F ι q (a.eval y))
    (hc : heapOp (.store n) [p, q] H = some (v, H')) : HOk P w F ι H a o v H' := by
  simp only [heapOp, Option.map_eq_some_iff, Prod.mk.injEq] at hc
  obtain ⟨Hn, hc, rfl, rfl⟩ := hc
  unfold storeC at hc
  split at hc <;> (try cases hc)
  rename_i i off
  simp only [Option.bind_eq_some_iff] at hc
  obtain ⟨cs, h1, h2⟩ := hc
  split at h2 <;> (try cases h2)
  rename_i hb
  obtain ⟨e1, e2, e3, e4⟩ := hb
  obtain ⟨b, ca, e, h5, h6, h7, h8⟩ := hi.cells i cs h1
  simp only [VR] at hp
  obtain ⟨b', h9, h10⟩ := hp
  rw [h9] at h5; cases h5
  have hcells := hq.cells (ones_und e3)
  have hone := ones_oneV hcells e3
  refine upd_ok hi h1 h9 h6 h7 h8 (noloc_of hcells e4) hone (by omega) (v' := undef) (fun w' => by simp only [VR]; exact ⟨#[], rfl, by simp [VRl]⟩) (.inr ⟨?_, rfl⟩)
  have hl := VRl.length hcells
  have hcl := h7.len
  have hst := run_store' (P := P) (o := off) h6 hone (by omega)
  have hsz : (a.eval y).cells.size = n := by simpa [e1] using hl
  have hst' : (storeCells ⟨b, off, none⟩ (a.eval y).cells.toList).run P w = .ok () (w.setCells b off (a.eval y).cells.toList) := hst
  simp [execOp, ho, Instr.storeAt, h10, Instr.sureAddr, storeVar, run_sizeOf' hn, hsz, hst']

/-! ### Slices that are shown -/

theorem shown_ok (hi : Inv w F ι H) {sz : Nat} {x : CV} {new : List CV} (h : shown H sz x = some new) {u : Value} (hu : VR w F ι x u) :
    ∃ base cap us, u = .slice base (lenOf x) cap ∧ new.length = lenOf x * sz ∧ us.length = new.length ∧ VRl w F ι new us ∧
      (us = [] ∨ ∃ b o, base = some ⟨b, o, none⟩ ∧ ∀ (j : Nat) (v : Value), us[j]? = some v → w.cell? ⟨b, o + j, none⟩ = some v) := by
  unfold shown at h
  split at h <;> (try cases h)
  · simp only [VR, BR] at hu
    exact ⟨none, 0, [], by simpa [lenOf] using hu, by simp [lenOf], rfl, by simp [VRl], .inl rfl⟩
  · rename_i cs n
    split at h <;> (try cases h)
    rename_i hl
    simp only [VR, BR] at hu
    obtain ⟨base, cap, h1, h2, h3⟩ := hu
    rcases h3 with rfl | ⟨b, off, rfl, h4, h5⟩
    · exact ⟨base, cap, [], h1, by simpa [lenOf] using hl, rfl, by simp [VRl], .inl rfl⟩
    · obtain ⟨us, g1, g2, g3⟩ := BRc.vals h5
      exact ⟨_, cap, us, h1, hl, g1, BRl.vr _ _ g2, .inr ⟨b, off, rfl, g3⟩⟩
  · rename_i s i off n
    split at h <;> (try cases h)
    rename_i hs
    subst hs
    simp only [Option.bind_eq_some_iff] at h
    obtain ⟨cs, h1, h2⟩ := h
    split at h2 <;> (try cases h2)
    rename_i hn
    simp only [VR] at hu
    obtain ⟨base, cap, h3, h4, h5⟩ := hu
    rcases h5 with h5 | ⟨b, m, h5, h6, h7, h8⟩
    · have hz : n = 0 := by omega
      subst hz
      exact ⟨base, cap, [], h3, by simp [lenOf], by simp, by simp [VRl], .inl rfl⟩
    · obtain ⟨b', ca, e, g1, g2, g3, _⟩ := hi.cells i cs h1
      rw [h5] at g1; cases g1
      obtain ⟨us, k1, k2, k3⟩ := g3.vals g2 off (n * s) hn
      refine ⟨base, cap, us, h3, by simp [lenOf]; omega, by simp [k1]; omega, ?_, .inr ⟨b, off, h6, k3⟩⟩
      exact VRl.mono ⟨⟨fun _ h => h, fun _ _ => rfl⟩, ι.of_le i, fun _ _ h => h⟩ _ _ k2

theorem run_first {sz n cap : Nat} {base : Option Addr} {us : List Value} (hl : us.length = n * sz) (h : us = [] ∨ ∃ b o, base = some ⟨b, o, none⟩ ∧ ∀ (j : Nat) (v : Value), us[j]? = some v → w.cell? ⟨b, o + j, none⟩ = some v) :
    (Builtin.firstCells sz n (.slice base n cap)).run P w = .ok us.toArray w := by
  rcases h with rfl | ⟨b, o, rfl, h⟩
  · have : n * sz = 0 := by simpa using hl.symm
    cases base with
    | none => simp [Builtin.firstCells]
    | some a => simp [Builtin.firstCells, this, loadCells, loadCellsFrom]
  · have := run_loadCells_list (P := P) w ⟨b, o, none⟩ us (fun j v hj => by rw [addr_add]; exact h j v hj)
    rw [hl] at this
    simp [Builtin.firstCells, this]

theorem growBy_le (n : Nat) : ∀ (r c : Nat), 256 ≤ c → Builtin.growBy n r c ≤ max c (2 * n)
  | 0, c, _ => by simp only [Builtin.growBy]; omega
  | r + 1, c, h => by
    simp only [Builtin.growBy]
    split
    · omega
    · have := growBy_le n r (c + (c + 768) / 4) (by omega)
      omega

theorem nextcap_le {n c : Nat} (h : c < n) : Builtin.nextslicecap n c ≤ 2 * n := by
  unfold Builtin.nextslicecap
  split
  · omega
  · split
    · omega
    · have := growBy_le n 4 c (by omega)
      omega

theorem zeroCells_repC {z : List CV} {zv : Array Value} (h : VRl w F ι z zv.toList) : ∀ (n : Nat), VRl w F ι (repC z n) (Builtin.zeroCells zv n).toList := by
  have hl := VRl.length h
  have hsz : zv.size = z.length := by simpa using hl
  have key : ∀ n, (Builtin.zeroCells zv n).toList = (List.range (n * zv.size)).map fun i => zv[i % zv.size]! := by
    intro n; simp only [Builtin.zeroCells, Array.toList_map, Array.toList_range]
  intro n
  rw [key]
  induction n with
  | zero => simp [repC, VRl]
  | succ n ih =>
    have e : (List.range ((n + 1) * zv.size)).map (fun i => zv[i % zv.size]!) = zv.toList ++ (List.range (n * zv.size)).map fun i => zv[i % zv.size]! := by
      rw [show (n + 1) * zv.size = zv.size + n * zv.size by rw [Nat.add_mul]; omega, List.range_add, List.map_append, List.map_map]
      congr 1
      · apply List.ext_getElem?
        intro j
        by_cases hj : j < zv.size
        · simp [hj, Nat.mod_eq_of_lt hj]
        · simp [hj]
      · apply List.map_congr_left
        intro i _
        simp
    rw [e]
    exact VRl.append h ih

theorem repC_length (z : List CV) : ∀ n, (repC z n).length = n * z.length
  | 0 => by simp [repC]
  | n + 1 => by simp [repC, repC_length z n, Nat.add_mul]; omega

theorem repC_ones {z : List CV} (h : ones z = true) : ∀ n, ones (repC z n) = true
  | 0 => rfl
  | n + 1 => by simp only [ones, repC, List.all_append, Bool.and_eq_true]; exact ⟨h, repC_ones h n⟩

end
end Go.Zc
