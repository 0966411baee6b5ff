/- Operations on memory: boxes, loads, stores, literals. No condition. -/
import Derived.Test.YtfblegjbmhgepaaZcInv
import Derived.Test.YtfblegjbmhgepaaZcSnap
set_option linter.all false
namespace Go.Zc

section
variable {P : Program} {w : World} {F : Nat → Prop} {ι : IM} {H : Heap} {env : Env} {a : Act}

/-- The model does what the interpreter does to memory. -/
def HOk (P : Program) (w : World) (F : Nat → Prop) (ι : IM) (H : Heap) (a : Act) (o : Oper) (v : CV) (H' : Heap) : Prop :=
  ∃ v' w' F' ι', ((execOp a.eval o).run P w = .ok (.value v') w' ∨ ((execOp a.eval o).run P w = .ok .skip w' ∧ v' = undef)) ∧
    VR w' F' ι' v v' ∧ Inv w' F' ι' H' ∧ Ext w F ι H w' F' ι' H' ∧ MoV w w' F F' ι ι'

mutual
theorem VR.noloc : ∀ (c : CV) (v : Value), c.locv = false → VR w F ι c v → VR w F ι.glob c v
  | .op i off, v, hr, h => by
    cases i with
    | loc s => simp [CV.locv, Id.loc?] at hr
    | blk n => simpa [VR, IM.get, IM.glob] using h
  | .os sz i off len, v, hr, h => by
    cases i with
    | loc s => simp [CV.locv, Id.loc?] at hr
    | blk n => simpa [VR, IM.get, IM.glob] using h
  | .om n, v, _, h => by simpa [VR, IM.glob] using h
  | .fn f a c, v, hr, h => by
    simp only [CV.locv, Bool.or_eq_false_iff] at hr
    simp only [VR] at h ⊢
    obtain ⟨a', c', h1, h2, h3⟩ := h
    exact ⟨a', c', h1, VRl.noloc a _ hr.1 h2, VRl.noloc c _ hr.2 h3⟩
  | .ifc t x, v, hr, h => by
    simp only [CV.locv] at hr
    simp only [VR] at h ⊢
    obtain ⟨y, h1, h2⟩ := h
    exact ⟨y, h1, VR.noloc x y hr h2⟩
  | .agg cs, v, hr, h => by
    simp only [CV.locv] at hr
    simp only [VR] at h ⊢
    obtain ⟨vs, h1, h2⟩ := h
    exact ⟨vs, h1, VRl.noloc cs _ hr h2⟩
  | .tup cs, v, hr, h => by
    simp only [CV.locv] at hr
    simp only [VR] at h ⊢
    obtain ⟨vs, h1, h2⟩ := h
    exact ⟨vs, h1, VRl.noloc cs _ hr h2⟩
  | .und, v, _, h => by simpa only [VR] using h
  | .bool b, v, _, h => by simpa only [VR] using h
  | .int k n, v, _, h => by simpa only [VR] using h
  | .float k n, v, _, h => by simpa only [VR] using h
  | .cplx k a b, v, _, h => by simpa only [VR] using h
  | .str s, v, _, h => by simpa only [VR] using h
  | .nilp, v, _, h => by simpa only [VR] using h
  | .vp cs, v, _, h => by simpa only [VR] using h
  | .nils, v, _, h => by simpa only [VR] using h
  | .vs cs len, v, _, h => by simpa only [VR] using h
  | .nilm, v, _, h => by simpa only [VR] using h
  | .nilf, v, _, h => by simpa only [VR] using h
  | .nili, v, _, h => by simpa only [VR] using h
theorem VRl.noloc : ∀ (cs : List CV) (vs : List Value), CV.locs cs = false → VRl w F ι cs vs → VRl w F ι.glob cs vs
  | [], _, _, h => by simpa only [VRl] using h
  | c :: cs, vs, hr, h => by
    simp only [CV.locs, Bool.or_eq_false_iff] at hr
    simp only [VRl] at h ⊢
    obtain ⟨u, us, h1, h2, h3⟩ := h
    exact ⟨u, us, h1, VR.noloc c u hr.1 h2, VRl.noloc cs us hr.2 h3⟩
end

theorem VRl.cr {cs : List CV} {c : Array Value} (h : VRl w F ι cs c.toList) : CR w F ι cs c := fun j x hx => by
  obtain ⟨u, h1, h2⟩ := h.get j x hx
  exact ⟨u, by simpa using h1, h2⟩

theorem ones_oneV {cs : List CV} {vs : List Value} (h : VRl w F ι cs vs) (h1 : ones cs = true) : ∀ v ∈ vs, oneV v = true := by
  intro v hv
  obtain ⟨j, hj, rfl⟩ := List.mem_iff_getElem.1 hv
  have hl := VRl.length h
  have hc : cs[j]? = some cs[j] := List.getElem?_eq_getElem (by omega)
  obtain ⟨u, h2, h3⟩ := h.get j _ hc
  rw [List.getElem?_eq_getElem hj] at h2
  cases h2
  exact h3.one (List.all_eq_true.1 h1 _ (List.getElem_mem _))

theorem oneV_oneCell (v : Value) : v.oneCell' = oneV v := by cases v <;> rfl

theorem ones_und {x : CV} (h : ones x.cells = true) : x ≠ .und := by rintro rfl; simp [ones, CV.cells, CV.one] at h

/-- A new block in the world. -/
theorem WTo.new (w : World) (o : Obj) : WTo w { w with heap := w.heap.push o } w.heap.size where
  os := rfl
  tape := rfl
  output := rfl
  size := by simp
  lt := by simp
  other := fun k _ h => by simp only [Array.getElem?_push, if_neg (Nat.ne_of_lt h)]
  csz := fun n h => by have := csize_lt h; omega

theorem Inv.new_dead (hi : Inv w F ι H) : ¬ Live ι H w.heap.size ∧ ¬ F w.heap.size :=
  ⟨fun h => by have := hi.live_lt h; omega, fun h => by have := hi.lt _ h; omega⟩

/-- Behind a step to a block that was nobody's. -/
theorem Ext.to {w' : World} {ι' : IM} {H' : Heap} {b : Nat} (hw : WTo w w' b) (hpre : ∀ (n x : Nat), ι.bl[n]? = some x → ι'.bl[n]? = some x)
    (hb : Live ι H b ∨ w.heap.size ≤ b) (hl : ∀ x, Live ι' H' x → Live ι H x ∨ x = b) : Ext w F ι H w' F ι' H' where
  os := hw.os
  tape := hw.tape
  output := hw.output
  pre := hpre
  fmono := fun _ h => h
  fnew := fun _ h => .inl h
  size := hw.size
  csz := hw.csize
  frame := fun x hx hn => hw.other x (by
    rintro rfl
    rcases hb with hb | hb
    · exact hn hb
    · omega) hx
  live := fun x h => by
    rcases hl x h with h | rfl
    · exact .inl h
    · exact hb

theorem Ext.add {w' : World} {b : Nat} {c : Blk} (hi : Inv w F ι H) (hw : WTo w w' b) (hb : Live ι H b ∨ w.heap.size ≤ b) : Ext w F ι H w' F (ι.push b) (H.push c) :=
  Ext.to hw (fun n x h => by
    simp only [IM.push]
    rw [List.getElem?_append_left (List.getElem?_eq_some_iff.1 h).1]; exact h) hb (fun x ⟨i, h1, h2⟩ => by
      rw [IM.get_push, hi.len] at h2
      rcases live_push h1 with rfl | h1
      · rw [if_pos rfl] at h2; cases h2; exact .inr rfl
      · split at h2
        · cases h2; exact .inr rfl
        · exact .inl ⟨i, h1, h2⟩)

theorem Ext.bind {w' : World} {b s : Nat} {cs : List CV} (hw : WTo w w' b) (hb : Live ι H b ∨ w.heap.size ≤ b) : Ext w F ι H w' F (ι.bind s b) (H.put (.loc s) cs) :=
  Ext.to hw (fun n x h => h) hb (fun x ⟨i, h1, h2⟩ => by
      rw [IM.get_bind] at h2
      split at h2
      · cases h2; exact .inr rfl
      · rename_i hne
        rcases live_put (by intro n h; cases h) h1 with rfl | h1
        · exact (hne rfl).elim
        · exact .inl ⟨i, h1, h2⟩)

theorem Ext.upd {w' : World} {i : Id} {b : Nat} {old cs : List CV} (hg : H.get i = some old) (hb : ι.get i = some b) (hw : WTo w w' b) : Ext w F ι H w' F ι (H.put i cs) := by
  have hli : H.live i := live_iff.2 (.inl ⟨old, hg⟩)
  refine Ext.to hw (fun n x h => h) (.inl ⟨i, hli, hb⟩) (fun x ⟨j, h1, h2⟩ => ?_)
  have hblk : ∀ n, i = .blk n → n < H.bl.length := by
    rintro n rfl
    simp only [Heap.get] at hg
    split at hg
    · rename_i h; exact (List.getElem?_eq_some_iff.1 h).1
    · cases hg
  rcases live_put hblk h1 with rfl | h1
  · exact .inl ⟨j, hli, h2⟩
  · exact .inl ⟨j, h1, h2⟩

theorem hok_add (hi : Inv w F ι H) {o : Oper} {c : Array Value} {e : TypeId} {cs : List CV} {v : CV} {v' : Value} (hc : VRl w F ι.glob cs c.toList) (h1 : ∀ x ∈ c.toList, oneV x = true)
    (hrun : (execOp a.eval o).run P w = .ok (.value v') { w with heap := w.heap.push (.cells c e) })
    (hv : VR { w with heap := w.heap.push (.cells c e) } F (ι.push w.heap.size) v v') : HOk P w F ι H a o v (H.push (.cells cs)) := by
  have hw := WTo.new w (.cells c e)
  obtain ⟨hd, hf⟩ := hi.new_dead
  obtain ⟨h2, h3⟩ := hi.add hw hd hf (c := c) (e := e) (cs := cs) (by simp) hc.cr (fun j x hx => h1 x (by
    have : c.toList[j]? = some x := by simpa using hx
    exact List.mem_of_getElem? this))
  exact ⟨v', _, F, _, .inl hrun, hv, h2, Ext.add hi hw (.inr (Nat.le_refl _)), h3⟩

theorem hok_bind (hi : Inv w F ι H) {o : Oper} {c : Array Value} {e : TypeId} {cs : List CV} {s : Nat} (hs : look H.bx s = none) (hc : VRl w F ι cs c.toList) (h1 : ∀ x ∈ c.toList, oneV x = true)
    (hrun : (execOp a.eval o).run P w = .ok (.value (.pointer (some ⟨w.heap.size, 0, none⟩))) { w with heap := w.heap.push (.cells c e) }) : HOk P w F ι H a o (.op (.loc s) 0) (H.put (.loc s) cs) := by
  have hw := WTo.new w (.cells c e)
  obtain ⟨hd, hf⟩ := hi.new_dead
  obtain ⟨h2, h3⟩ := hi.bind hw hd hf hs (c := c) (e := e) (cs := cs) (by simp) hc.cr (fun j x hx => h1 x (by
    have : c.toList[j]? = some x := by simpa using hx
    exact List.mem_of_getElem? this))
  refine ⟨_, _, F, _, .inl hrun, ?_, h2, Ext.bind hw (.inr (Nat.le_refl _)), h3⟩
  simp only [VR]
  exact ⟨w.heap.size, by simp [IM.get_bind], rfl⟩

theorem vr_newp {n : Nat} {w' : World} (hn : n = ι.bl.length) : VR w' F (ι.push w.heap.size) (.op (.blk n) 0) (.pointer (some ⟨w.heap.size, 0, none⟩)) := by
  simp only [VR]
  exact ⟨w.heap.size, by rw [IM.get_push, hn, if_pos rfl], rfl⟩

theorem box_ok (hi : Inv w F ι H) {o : Oper} {e : TypeId} {x : Operand} (ho : o.op = .box e x) {c v : CV} {H' : Heap} (hx : VR w F ι c (a.eval x)) {h : HOp} (hh : h = .boxh ∨ ∃ s, h = .box s)
    (hc : heapOp h [c] H = some (v, H')) : HOk P w F ι H a o v H' := by
  have hrun : (execOp a.eval o).run P w = .ok (.value (.pointer (some ⟨w.heap.size, 0, none⟩))) { w with heap := w.heap.push (.cells (a.eval x).cells e) } := by
    simp [execOp, ho, Instr.box, newVar, newRow]
  rcases hh with rfl | ⟨s, rfl⟩ <;> simp only [heapOp] at hc <;> split at hc <;> (try cases hc) <;> rename_i hb <;> simp only [Bool.and_eq_true, Bool.not_eq_true'] at hb
  · have hcells := hx.cells (ones_und hb.1)
    exact hok_add hi (VRl.noloc _ _ hb.2 hcells) (ones_oneV hcells hb.1) hrun (vr_newp hi.len.symm)
  · have hcells := hx.cells (ones_und hb.1)
    exact hok_bind hi (by simpa using hb.2) hcells (ones_oneV hcells hb.1) hrun

theorem alloc_ok (hi : Inv w F ι H) {o : Oper} {e : TypeId} (ho : o.op = .alloc e) {z : List CV} (hz : zeroCs P e = some z) {v : CV} {H' : Heap} {h : HOp} (hh : h = .newh z ∨ ∃ s, h = .newl s z)
    (hc : heapOp h [] H = some (v, H')) : HOk P w F ι H a o v H' := by
  obtain ⟨zv, hz1, hz2⟩ := run_zero (P := P) (w := w) (F := F) (ι := ι) hz
  have hrun : (execOp a.eval o).run P w = .ok (.value (.pointer (some ⟨w.heap.size, 0, none⟩))) { w with heap := w.heap.push (.cells zv.cells e) } := by
    simp [execOp, ho, Instr.alloc, newVar, newRow, hz1]
  rcases hh with rfl | ⟨s, rfl⟩ <;> simp only [heapOp] at hc <;> split at hc <;> (try cases hc) <;> rename_i hb <;> simp only [Bool.and_eq_true, Bool.not_eq_true'] at hb
  · exact hok_add hi (VRl.noloc _ _ hb.2 hz2) (ones_oneV hz2 hb.1) hrun (vr_newp hi.len.symm)
  · exact hok_bind hi (by simpa using hb.1.1) hz2 (ones_oneV hz2 hb.1.2) hrun

/-! ### Loads -/

theorem BRc.vals : ∀ {cs : List CV} {b o : Nat}, BRc w F cs b o → ∃ us : List Value, us.length = cs.length ∧ BRl w F cs us ∧ ∀ (j : Nat) (v : Value), us[j]? = some v → w.cell? ⟨b, o + j, none⟩ = some v
  | [], _, _, _ => ⟨[], rfl, by simp [BRl], by simp⟩
  | c :: cs, b, o, h => by
    simp only [BRc] at h
    obtain ⟨⟨u, h1, h2⟩, h3⟩ := h
    obtain ⟨us, h4, h5, h6⟩ := BRc.vals h3
    refine ⟨u :: us, by simp [h4], by simp only [BRl]; exact ⟨u, us, rfl, h2, h5⟩, ?_⟩
    intro j v hj
    cases j with
    | zero => simp at hj; subst hj; simpa using h1
    | succ j =>
      have := h6 j v (by simpa using hj)
      rwa [show o + (j + 1) = o + 1 + j by omega]

theorem CR.vals {cs : List CV} {c : Array Value} (h : CR w F ι cs c) {b : Nat} {e : TypeId} {fz : Nat × Nat} (hb : w.heap[b]? = some (.cells c e fz)) (off n : Nat) (hn : off + n ≤ cs.length) :
    ∃ us : List Value, us.length = n ∧ VRl w F ι ((cs.drop off).take n) us ∧ ∀ (j : Nat) (v : Value), us[j]? = some v → w.cell? ⟨b, off + j, none⟩ = some v := by
  have hcl : cs.length ≤ c.size := by
    rcases Nat.eq_zero_or_pos cs.length with h0 | h0
    · omega
    · obtain ⟨u, hu, _⟩ := h (cs.length - 1) cs[cs.length - 1] (List.getElem?_eq_getElem _)
      have := (Array.getElem?_eq_some_iff.1 hu).1
      omega
  refine ⟨(c.toList.drop off).take n, by simp; omega, VRl.of_get (by simp; omega) ?_, ?_⟩
  · intro j x u h1 h2
    rw [List.getElem?_take] at h1 h2
    split at h1
    · rename_i hj
      rw [if_pos hj] at h2
      rw [List.getElem?_drop] at h1 h2
      obtain ⟨u', h3, h4⟩ := h _ x h1
      have : c[off + j]? = some u := by simpa using h2
      rw [this] at h3
      cases h3
      exact h4
    · cases h1
  · intro j v hj
    rw [List.getElem?_take] at hj
    split at hj
    · rw [List.getElem?_drop] at hj
      have : c[off + j]? = some v := by simpa using hj
      simp [World.cell?, hb, this]
    · cases hj

theorem run_loadVar' {t : TypeId} {s : Bool × Nat} (hs : shapeOf P t = some s) {b o : Nat} {us : List Value} (hl : us.length = s.2)
    (hc : ∀ (j : Nat) (v : Value), us[j]? = some v → w.cell? ⟨b, o + j, none⟩ = some v) {ds : List CV} (hd : VRl w F ι ds us) {v : CV} (hv : v = if s.1 then .agg ds else ds.getD 0 .und) :
    ∃ u, (loadVar t ⟨b, o, none⟩).run P w = .ok u w ∧ VR w F ι v u := by
  obtain ⟨h1, h2, h3⟩ := shapeOf_ok hs
  cases hb : s.1 with
  | true =>
    rw [hb] at h1 hv
    have := run_loadCells_list (P := P) w ⟨b, o, none⟩ us (fun j v hj => by rw [addr_add]; exact hc j v hj)
    rw [hl] at this
    refine ⟨.agg us.toArray, by simp [loadVar, run_isAgg' h1, run_sizeOf' h2, this], ?_⟩
    subst hv
    simp only [if_true, VR]
    exact ⟨_, rfl, by simpa using hd⟩
  | false =>
    rw [hb] at h1 hv
    have hn := h3 hb
    rw [hn] at hl
    obtain ⟨u, rfl⟩ := List.length_eq_one_iff.1 hl
    have hcell := hc 0 u rfl
    cases ds with
    | nil => simp only [VRl] at hd; cases hd
    | cons d ds =>
      simp only [VRl] at hd
      obtain ⟨u', us', he, h4, h5⟩ := hd
      cases he
      subst hv
      exact ⟨u, by simp [loadVar, run_isAgg' h1, show w.cell? ⟨b, o, none⟩ = some u by simpa using hcell], by simpa using h4⟩

theorem partC_eq {s : Bool × Nat} (h3 : s.1 = false → s.2 = 1) {off : Nat} {cs : List CV} {v : CV} (h : partC s.1 s.2 off cs = some v) : v = if s.1 then .agg ((cs.drop off).take s.2) else ((cs.drop off).take s.2).getD 0 .und := by
  unfold partC at h
  split at h
  · rename_i hb
    cases h
    simp [hb]
  · rename_i hb
    have hb' : s.1 = false := by simpa using hb
    rw [h3 hb']
    simp [List.getD, h, hb']

theorem loadC_ok (hi : Inv w F ι H) {t : TypeId} {s : Bool × Nat} (hs : shapeOf P t = some s) {c v : CV} {u : Value} (hx : VR w F ι c u) (hc : loadC s.1 s.2 H c = some v) :
    ∃ ad u', u = .pointer (some ad) ∧ (loadVar t ad).run P w = .ok u' w ∧ VR w F ι v u' := by
  obtain ⟨_, _, h3⟩ := shapeOf_ok hs
  unfold loadC at hc
  split at hc <;> (try cases hc)
  · rename_i i off
    simp only [Option.bind_eq_some_iff] at hc
    obtain ⟨cs, h1, h2⟩ := hc
    split at h2 <;> (try cases h2)
    rename_i hn
    obtain ⟨b, ca, e, h5, h6, h7, _⟩ := hi.cells i cs h1
    simp only [VR] at hx
    obtain ⟨b', h8, h9⟩ := hx
    rw [h8] at h5; cases h5
    obtain ⟨us, g1, g2, g3⟩ := h7.vals h6 off s.2 hn
    obtain ⟨u, g4, g5⟩ := run_loadVar' (P := P) hs g1 g3 g2 (partC_eq h3 h2)
    exact ⟨_, u, h9, g4, g5.glob⟩
  · rename_i cs
    split at hc <;> (try cases hc)
    rename_i hn
    simp only [VR, BR] at hx
    obtain ⟨b, off, h9, h5, h6⟩ := hx
    obtain ⟨us, g1, g2, g3⟩ := BRc.vals (BRc.take s.2 h6)
    obtain ⟨u, g4, g5⟩ := run_loadVar' (P := P) hs (by simpa [Nat.min_eq_left hn] using g1) g3 (BRl.vr (ι := ι) _ _ g2) (partC_eq h3 hc)
    exact ⟨_, u, h9, g4, g5⟩

theorem load_ok (hi : Inv w F ι H) {o : Oper} {t : TypeId} {x : Operand} (ho : o.op = .load t x) {s : Bool × Nat} (hs : shapeOf P t = some s) {c v : CV} {H' : Heap} (hx : VR w F ι c (a.eval x))
    (hc : heapOp (.load s.1 s.2) [c] H = some (v, H')) : HOk P w F ι H a o v H' := by
  simp only [heapOp, Option.map_eq_some_iff, Prod.mk.injEq] at hc
  obtain ⟨v', hc, rfl, rfl⟩ := hc
  obtain ⟨ad, u, h1, h2, h3⟩ := loadC_ok (P := P) hi hs hx hc
  refine ⟨u, w, F, ι, .inl ?_, h3, hi, Ext.refl _ _ _ _, ⟨⟨fun _ h => h, fun _ _ => rfl⟩, fun _ _ h => h, fun _ _ h => h⟩⟩
  simp [execOp, ho, Instr.loadAt, h1, Instr.sureAddr, h2]
end
end Go.Zc

/- Operations on memory: stores, slices. No condition. -/
namespace Go.Zc

section
variable {P : Program} {w : World} {F : Nat → Prop} {ι : IM} {H : Heap} {env : Env} {a : Act}

/-! ### Stores -/

def setAll (c : Array Value) : Nat → List Value → Array Value
  | _, [] => c
  | o, v :: r => setAll (c.setIfInBounds o v) (o + 1) r

theorem setAll_size : ∀ (vs : List Value) (c : Array Value) (o : Nat), (setAll c o vs).size = c.size
  | [], _, _ => rfl
  | v :: r, c, o => by simp [setAll, setAll_size r]

theorem setCells_heap (b : Nat) (e : TypeId) (fz : Nat × Nat) : ∀ (vs : List Value) (o : Nat) (c : Array Value) (w : World), w.heap[b]? = some (.cells c e fz) →
    (w.setCells b o vs).heap[b]? = some (.cells (setAll c o vs) e fz) ∧ (∀ k, k ≠ b → (w.setCells b o vs).heap[k]? = w.heap[k]?) ∧ (w.setCells b o vs).heap.size = w.heap.size ∧
    (w.setCells b o vs).os = w.os ∧ (w.setCells b o vs).tape = w.tape ∧ (w.setCells b o vs).output = w.output
  | [], o, c, w, h => ⟨h, fun _ _ => rfl, rfl, rfl, rfl, rfl⟩
  | v :: r, o, c, w, h => by
    have h1 : (w.setCell ⟨b, o, none⟩ v).heap[b]? = some (.cells (c.setIfInBounds o v) e fz) := by
      simp [World.setCell, Array.getElem?_modify, h]
    obtain ⟨i1, i2, i3, i4, i5, i6⟩ := setCells_heap b e fz r (o + 1) (c.setIfInBounds o v) (w.setCell ⟨b, o, none⟩ v) h1
    refine ⟨i1, fun k hk => ?_, ?_, i4, i5, i6⟩
    · rw [World.setCells, i2 k hk]
      simp only [World.setCell, Array.getElem?_modify]
      rw [if_neg (fun e => hk e.symm)]
    · rw [World.setCells, i3]
      simp [World.setCell]

theorem WTo.set {b o : Nat} {e : TypeId} {fz : Nat × Nat} {c : Array Value} (h : w.heap[b]? = some (.cells c e fz)) (vs : List Value) : WTo w (w.setCells b o vs) b := by
  obtain ⟨i1, i2, i3, i4, i5, i6⟩ := setCells_heap b e fz vs o c w h
  have hlt := (Array.getElem?_eq_some_iff.1 h).1
  exact ⟨i4, i5, i6, by omega, by omega, fun k hk _ => i2 k hk, fun n hn => by
    unfold Zc.csize at hn ⊢
    rw [h] at hn
    rw [i1]
    simpa [setAll_size] using hn⟩

theorem setAll_get : ∀ (vs : List Value) (c : Array Value) (o j : Nat), o + vs.length ≤ c.size → (setAll c o vs)[j]? = if o ≤ j ∧ j < o + vs.length then vs[j - o]? else c[j]?
  | [], c, o, j, _ => by simp [setAll]; intro h1 h2; omega
  | v :: r, c, o, j, h => by
    simp only [List.length_cons] at h ⊢
    rw [setAll, setAll_get r _ (o + 1) j (by simp; omega)]
    by_cases h1 : o + 1 ≤ j ∧ j < o + 1 + r.length
    · rw [if_pos h1, if_pos (by omega)]
      rw [show j - o = (j - (o + 1)) + 1 by omega]
      simp
    · rw [if_neg h1]
      by_cases h2 : j = o
      · subst h2
        rw [if_pos (by omega)]
        have : j < c.size := by omega
        simp [this]
      · rw [if_neg (by omega), Array.getElem?_setIfInBounds, if_neg (fun e => h2 e.symm)]

theorem setMany_get : ∀ (xs cs : List CV) (o j : Nat), o + xs.length ≤ cs.length → (setMany cs o xs)[j]? = if o ≤ j ∧ j < o + xs.length then xs[j - o]? else cs[j]?
  | [], cs, o, j, _ => by simp [setMany]; intro h1 h2; omega
  | x :: r, cs, o, j, h => by
    simp only [List.length_cons] at h ⊢
    rw [setMany, setMany_get r _ (o + 1) j (by simp; omega)]
    by_cases h1 : o + 1 ≤ j ∧ j < o + 1 + r.length
    · rw [if_pos h1, if_pos (by omega)]
      rw [show j - o = (j - (o + 1)) + 1 by omega]
      simp
    · rw [if_neg h1]
      by_cases h2 : j = o
      · subst h2
        rw [if_pos (by omega)]
        have : j < cs.length := by omega
        simp [this]
      · rw [if_neg (by omega), List.getElem?_set, if_neg (fun e => h2 e.symm)]

theorem CR.len {cs : List CV} {c : Array Value} (h : CR w F ι cs c) : cs.length ≤ c.size := by
  rcases Nat.eq_zero_or_pos cs.length with h0 | h0
  · omega
  · obtain ⟨u, hu, _⟩ := h (cs.length - 1) cs[cs.length - 1] (List.getElem?_eq_getElem _)
    have := (Array.getElem?_eq_some_iff.1 hu).1
    omega

theorem CR.set {cs xs : List CV} {c : Array Value} {vs : List Value} (h : CR w F ι cs c) (hx : VRl w F ι xs vs) {o : Nat} (ho : o + xs.length ≤ cs.length) : CR w F ι (setMany cs o xs) (setAll c o vs) := by
  intro j x hj
  have hl := VRl.length hx
  have hc := h.len
  rw [setMany_get xs cs o j ho] at hj
  rw [setAll_get vs c o j (by omega), hl]
  split at hj
  · rename_i hb
    rw [if_pos hb]
    exact hx.get _ x hj
  · rename_i hb
    rw [if_neg hb]
    exact h j x hj

theorem setAll_one {c : Array Value} {vs : List Value} {o : Nat} (hc : ∀ (j : Nat) (x : Value), c[j]? = some x → oneV x = true) (hv : ∀ v ∈ vs, oneV v = true) (ho : o + vs.length ≤ c.size) :
    ∀ (j : Nat) (x : Value), (setAll c o vs)[j]? = some x → oneV x = true := by
  intro j x hj
  rw [setAll_get vs c o j ho] at hj
  split at hj
  · exact hv _ (List.mem_of_getElem? hj)
  · exact hc j x hj

/-- Cells that somebody owns are written. -/
theorem run_store' {b o : Nat} {e : TypeId} {c : Array Value} {vs : List Value} (h : w.heap[b]? = some (.cells c e (0, 0))) (hv : ∀ v ∈ vs, oneV v = true) (ho : o + vs.length ≤ c.size) :
    (storeCells ⟨b, o, none⟩ vs).run P w = .ok () (w.setCells b o vs) := by
  have := run_storeCells_cells (P := P) b o vs 0 w (fun j hj => by
      have : o + j < c.size := by omega
      simp [World.cell?, h, this]) (fun j _ => by simp [World.frozen?, h]) (fun v hm => by rw [oneV_oneCell]; exact hv v hm)
  simpa using this

theorem upd_ok (hi : Inv w F ι H) {o : Oper} {i : Id} {b off : Nat} {old xs : List CV} {e : TypeId} {c : Array Value} {vs : List Value} {v : CV} {v' : Value} (hg : H.get i = some old) (hb : ι.get i = some b)
    (h : w.heap[b]? = some (.cells c e (0, 0))) (hcr : CR w F (ι.of i) old c) (h1 : ∀ (j : Nat) (x : Value), c[j]? = some x → oneV x = true) (hx : VRl w F (ι.of i) xs vs) (hone : ∀ v ∈ vs, oneV v = true) (ho : off + xs.length ≤ old.length)
    (hv : ∀ w', VR w' F ι v v') (hrun : (execOp a.eval o).run P w = .ok (.value v') (w.setCells b off vs) ∨ ((execOp a.eval o).run P w = .ok .skip (w.setCells b off vs) ∧ v' = undef)) :
    HOk P w F ι H a o v (H.put i (setMany old off xs)) := by
  have hw := WTo.set (o := off) h vs
  obtain ⟨i1, _⟩ := setCells_heap b e (0, 0) vs off c w h
  have hl := VRl.length hx
  have hcl := hcr.len
  obtain ⟨h2, h3⟩ := hi.upd hg hb hw i1 (hcr.set hx ho) (setAll_one h1 hone (by omega))
  exact ⟨v', _, F, ι, hrun, hv _, h2, Ext.upd hg hb hw, h3⟩

theorem noloc_of {i : Id} {xs : List CV} {vs : List Value} (h : VRl w F ι xs vs) (hl : i.loc? = true ∨ CV.locs xs = false) : VRl w F (ι.of i) xs vs := by
  cases i with
  | loc s => exact h
  | blk n =>
    rcases hl with hl | hl
    · cases hl
    · exact VRl.noloc _ _ hl h

theorem store_ok (hi : Inv w F ι H) {o : Oper} {t : TypeId} {x y : Operand} (ho : o.op = .store t x y) {n : Nat} (hn : szOf P t = some n) {p q v : CV} {H' : Heap} (hp : VR w F ι p (a.eval x)) (hq : VR w F ι q (a.eval y))
    (hc : heapOp (.store n) [p, q] H = some (v, H')) : HOk P w F ι H a o v H' := by
  simp only [heapOp, Option.map_eq_some_iff, Prod.mk.injEq] at hc
  obtain ⟨Hn, hc, rfl, rfl⟩ := hc
  unfold storeC at hc
  split at hc <;> (try cases hc)
  rename_i i off
  simp only [Option.bind_eq_some_iff] at hc
  obtain ⟨cs, h1, h2⟩ := hc
  split at h2 <;> (try cases h2)
  rename_i hb
  obtain ⟨e1, e2, e3, e4⟩ := hb
  obtain ⟨b, ca, e, h5, h6, h7, h8⟩ := hi.cells i cs h1
  simp only [VR] at hp
  obtain ⟨b', h9, h10⟩ := hp
  rw [h9] at h5; cases h5
  have hcells := hq.cells (ones_und e3)
  have hone := ones_oneV hcells e3
  refine upd_ok hi h1 h9 h6 h7 h8 (noloc_of hcells e4) hone (by omega) (v' := undef) (fun w' => by simp only [VR]; exact ⟨#[], rfl, by simp [VRl]⟩) (.inr ⟨?_, rfl⟩)
  have hl := VRl.length hcells
  have hcl := h7.len
  have hst := run_store' (P := P) (o := off) h6 hone (by omega)
  have hsz : (a.eval y).cells.size = n := by simpa [e1] using hl
  have hst' : (storeCells ⟨b, off, none⟩ (a.eval y).cells.toList).run P w = .ok () (w.setCells b off (a.eval y).cells.toList) := hst
  simp [execOp, ho, Instr.storeAt, h10, Instr.sureAddr, storeVar, run_sizeOf' hn, hsz, hst']

/-! ### Slices that are shown -/

theorem shown_ok (hi : Inv w F ι H) {sz : Nat} {x : CV} {new : List CV} (h : shown H sz x = some new) {u : Value} (hu : VR w F ι x u) :
    ∃ base cap us, u = .slice base (lenOf x) cap ∧ new.length = lenOf x * sz ∧ us.length = new.length ∧ VRl w F ι new us ∧
      (us = [] ∨ ∃ b o, base = some ⟨b, o, none⟩ ∧ ∀ (j : Nat) (v : Value), us[j]? = some v → w.cell? ⟨b, o + j, none⟩ = some v) := by
  unfold shown at h
  split at h <;> (try cases h)
  · simp only [VR, BR] at hu
    exact ⟨none, 0, [], by simpa [lenOf] using hu, by simp [lenOf], rfl, by simp [VRl], .inl rfl⟩
  · rename_i cs n
    split at h <;> (try cases h)
    rename_i hl
    simp only [VR, BR] at hu
    obtain ⟨base, cap, h1, h2, h3⟩ := hu
    rcases h3 with rfl | ⟨b, off, rfl, h4, h5⟩
    · exact ⟨base, cap, [], h1, by simpa [lenOf] using hl, rfl, by simp [VRl], .inl rfl⟩
    · obtain ⟨us, g1, g2, g3⟩ := BRc.vals h5
      exact ⟨_, cap, us, h1, hl, g1, BRl.vr _ _ g2, .inr ⟨b, off, rfl, g3⟩⟩
  · rename_i s i off n
    split at h <;> (try cases h)
    rename_i hs
    subst hs
    simp only [Option.bind_eq_some_iff] at h
    obtain ⟨cs, h1, h2⟩ := h
    split at h2 <;> (try cases h2)
    rename_i hn
    simp only [VR] at hu
    obtain ⟨base, cap, h3, h4, h5⟩ := hu
    rcases h5 with h5 | ⟨b, m, h5, h6, h7, h8⟩
    · have hz : n = 0 := by omega
      subst hz
      exact ⟨base, cap, [], h3, by simp [lenOf], by simp, by simp [VRl], .inl rfl⟩
    · obtain ⟨b', ca, e, g1, g2, g3, _⟩ := hi.cells i cs h1
      rw [h5] at g1; cases g1
      obtain ⟨us, k1, k2, k3⟩ := g3.vals g2 off (n * s) hn
      refine ⟨base, cap, us, h3, by simp [lenOf]; omega, by simp [k1]; omega, ?_, .inr ⟨b, off, h6, k3⟩⟩
      exact VRl.mono ⟨⟨fun _ h => h, fun _ _ => rfl⟩, ι.of_le i, fun _ _ h => h⟩ _ _ k2

theorem run_first {sz n cap : Nat} {base : Option Addr} {us : List Value} (hl : us.length = n * sz) (h : us = [] ∨ ∃ b o, base = some ⟨b, o, none⟩ ∧ ∀ (j : Nat) (v : Value), us[j]? = some v → w.cell? ⟨b, o + j, none⟩ = some v) :
    (Builtin.firstCells sz n (.slice base n cap)).run P w = .ok us.toArray w := by
  rcases h with rfl | ⟨b, o, rfl, h⟩
  · have : n * sz = 0 := by simpa using hl.symm
    cases base with
    | none => simp [Builtin.firstCells]
    | some a => simp [Builtin.firstCells, this, loadCells, loadCellsFrom]
  · have := run_loadCells_list (P := P) w ⟨b, o, none⟩ us (fun j v hj => by rw [addr_add]; exact h j v hj)
    rw [hl] at this
    simp [Builtin.firstCells, this]

theorem growBy_le (n : Nat) : ∀ (r c : Nat), 256 ≤ c → Builtin.growBy n r c ≤ max c (2 * n)
  | 0, c, _ => by simp only [Builtin.growBy]; omega
  | r + 1, c, h => by
    simp only [Builtin.growBy]
    split
    · omega
    · have := growBy_le n r (c + (c + 768) / 4) (by omega)
      omega

theorem nextcap_le {n c : Nat} (h : c < n) : Builtin.nextslicecap n c ≤ 2 * n := by
  unfold Builtin.nextslicecap
  split
  · omega
  · split
    · omega
    · have := growBy_le n 4 c (by omega)
      omega

theorem zeroCells_repC {z : List CV} {zv : Array Value} (h : VRl w F ι z zv.toList) : ∀ (n : Nat), VRl w F ι (repC z n) (Builtin.zeroCells zv n).toList := by
  have hl := VRl.length h
  have hsz : zv.size = z.length := by simpa using hl
  have key : ∀ n, (Builtin.zeroCells zv n).toList = (List.range (n * zv.size)).map fun i => zv[i % zv.size]! := by
    intro n; simp only [Builtin.zeroCells, Array.toList_map, Array.toList_range]
  intro n
  rw [key]
  induction n with
  | zero => simp [repC, VRl]
  | succ n ih =>
    have e : (List.range ((n + 1) * zv.size)).map (fun i => zv[i % zv.size]!) = zv.toList ++ (List.range (n * zv.size)).map fun i => zv[i % zv.size]! := by
      rw [show (n + 1) * zv.size = zv.size + n * zv.size by rw [Nat.add_mul]; omega, List.range_add, List.map_append, List.map_map]
      congr 1
      · apply List.ext_getElem?
        intro j
        by_cases hj : j < zv.size
        · simp [hj, Nat.mod_eq_of_lt hj]
        · simp [hj]
      · apply List.map_congr_left
        intro i _
        simp
    rw [e]
    exact VRl.append h ih

theorem repC_length (z : List CV) : ∀ n, (repC z n).length = n * z.length
  | 0 => by simp [repC]
  | n + 1 => by simp [repC, repC_length z n, Nat.add_mul]; omega

theorem repC_ones {z : List CV} (h : ones z = true) : ∀ n, ones (repC z n) = true
  | 0 => rfl
  | n + 1 => by simp only [ones, repC, List.all_append, Bool.and_eq_true]; exact ⟨h, repC_ones h n⟩

end
end Go.Zc

/- Operations on memory: slices that are made, appended to, copied. No condition. -/
namespace Go.Zc

section
variable {P : Program} {w : World} {F : Nat → Prop} {ι : IM} {H : Heap} {env : Env} {a : Act}

theorem BRc.of_list : ∀ {cs : List CV} {us : List Value} {b o : Nat}, BRl w F cs us → (∀ (j : Nat) (v : Value), us[j]? = some v → w.cell? ⟨b, o + j, none⟩ = some v) → BRc w F cs b o
  | [], _, _, _, _, _ => by simp [BRc]
  | c :: cs, us, b, o, h, hc => by
    simp only [BRl] at h
    obtain ⟨u, us', rfl, h1, h2⟩ := h
    simp only [BRc]
    refine ⟨⟨u, by simpa using hc 0 u rfl, h1⟩, BRc.of_list h2 fun j v hj => ?_⟩
    have := hc (j + 1) v (by simpa using hj)
    rwa [show o + (j + 1) = o + 1 + j by omega] at this

/-- New memory that nobody writes. -/
theorem hok_frozen (hi : Inv w F ι H) {o : Oper} {c : Array Value} {e : TypeId} {cs : List CV} {n : Nat} (hc : VRl w F ι cs c.toList) (hr : CV.refs cs = false)
    (hrun : (execOp a.eval o).run P w = .ok (.value (.slice (some ⟨w.heap.size, 0, none⟩) n n)) { w with heap := w.heap.push (.cells c e) }) : HOk P w F ι H a o (.vs cs n) H := by
  have hw := WTo.new w (.cells c e)
  obtain ⟨hd, hf⟩ := hi.new_dead
  have hF : ∀ b, F b → (F b ∨ b = w.heap.size) := fun _ h => .inl h
  have hm : MoV w { w with heap := w.heap.push (.cells c e) } F (fun b => F b ∨ b = w.heap.size) ι ι :=
    ⟨⟨hF, fun k hk => hw.other k (by have := hi.lt k hk; omega) (hi.lt k hk)⟩, fun _ _ h => h, hw.csize⟩
  refine ⟨_, _, fun b => F b ∨ b = w.heap.size, ι, .inl hrun, ?_, ?_, ?_, hm⟩
  · simp only [VR, BR]
    refine ⟨_, _, rfl, Nat.le_refl _, .inr ⟨w.heap.size, 0, rfl, .inr rfl, ?_⟩⟩
    refine BRc.of_list (BRl.mono hm.toMo _ _ (VRl.bv _ _ hr hc)) fun j v hj => ?_
    have : c[j]? = some v := by simpa using hj
    simp [World.cell?, this]
  · refine hi.build hm hi.len (fun i cs h => .inl ⟨h, fun b hb => ?_⟩) (fun n es h => .inl ⟨h, fun b hb => ?_⟩) hi.inj ?_ ?_ hi.lo
    · have := hi.live_lt ⟨i, live_iff.2 (.inl ⟨cs, h⟩), hb⟩
      exact hw.other b (by omega) this
    · have := hi.live_lt ⟨.blk n, live_iff.2 (.inr ⟨n, es, rfl, h⟩), hb⟩
      exact hw.other b (by omega) this
    · rintro b (hb | rfl)
      · exact hi.dis b hb
      · exact hd
    · rintro b (hb | rfl)
      · have := hi.lt b hb; simp; omega
      · simp
  · exact ⟨rfl, rfl, rfl, fun _ _ h => h, hF, fun b hb => hb.imp id (fun h => by omega), by simp, hw.csize, fun b hb _ => hw.other b (by omega) hb, fun _ h => .inl h⟩

theorem bsl_ok (he : EnvR w F ι env a) (hi : Inv w F ι H) {o : Oper} {t e : TypeId} {len : Nat} {parts : Array (Nat × Operand)} (ho : o.op = .buildSlice t len parts) (ht : P.underlying t = some (.slice e)) {n : Nat} (hn : szOf P e = some n)
    {z : List CV} (hz : zeroCs P e = some z) (hzl : z.length = n) (hpos : 0 < n) (hcap : len * n ≤ 16777216) {ps : List (Nat × Nat)} {ys : List Opd} (hp : placesA n parts.toList = some (ps, ys)) {v : CV} {H' : Heap}
    {h : HOp} (hh : h = .bslF n len z ps ∨ h = .bslO n len z ps) (hc : heapOp h (evs env ys) H = some (v, H')) : HOk P w F ι H a o v H' := by
  obtain ⟨h1, h2, h3, h4⟩ := placesA_ok he hp
  obtain ⟨zv, hz1, hz2⟩ := run_zero (P := P) (w := w) (F := F) (ι := ι) hz
  have hzs : zv.cells.size = n := by have := VRl.length hz2; simpa [hzl] using this
  have run : ∀ {out : List CV}, fillC (repC z len) (ps.zip (evs env ys)) = some out → ∃ c : Array Value, VRl w F ι out c.toList ∧
      (execOp a.eval o).run P w = .ok (.value (.slice (some ⟨w.heap.size, 0, none⟩) len len)) { w with heap := w.heap.push (.cells c e) } := by
    intro out hf
    have hzero : VRl w F ι (repC z len) ((Array.range (len * n)).map ((if len * n = 0 then #[] else zv.cells)[· % (if len * n = 0 then #[] else zv.cells).size]!)).toList := by
      by_cases h0 : len * n = 0
      · have hl : (repC z len).length = 0 := by rw [repC_length, hzl]; exact h0
        rw [List.length_eq_zero_iff.1 hl]
        simp [h0, VRl]
      · rw [if_neg h0]
        have := zeroCells_repC hz2 len
        simpa [Builtin.zeroCells, hzs] using this
    obtain ⟨us', h6, h7⟩ := fill_ok (w := w) (F := F) (ι := ι) (place := fun i => some (i * n, n)) (parts.toList.map fun x => (x.1, a.eval x.2)) ps (evs env ys) _ out _
      (by simpa [Function.comp_def] using h3) (by simpa using h1) (fun j q hq => by
        simp only [List.getElem?_map, Option.map_eq_some_iff] at hq
        obtain ⟨q', hq', rfl⟩ := hq
        exact ⟨_, h4 j q' hq', rfl⟩) hzero hf
    refine ⟨us', h7, ?_⟩
    have hcap' : ¬ (len * n > 2 ^ 24) := by omega
    have hpl : (parts.map fun (x : Nat × Operand) => (x.1, a.eval x.2)).toList = parts.toList.map fun x => (x.1, a.eval x.2) := by simp
    simp only [execOp, ho, Instr.buildSlice, Sem.run_bind, run_under ht, Result.andThen_ok, run_sizeOf' hn, if_neg hcap']
    by_cases h0 : len * n = 0
    · have hl0 : len = 0 := by
        rcases Nat.mul_eq_zero.1 h0 with h | h
        · exact h
        · omega
      subst hl0
      have r0 : Array.range 0 = #[] := rfl
      simp only [Nat.zero_mul, if_true, r0, Array.map_empty] at h6
      simp [newRow, r0, h6]
    · simp only [if_neg h0] at h6 ⊢
      simp only [Sem.run_bind, hz1, Sem.run_pure, Result.andThen_ok, hpl, h6]
      simp [newRow]
  rcases hh with rfl | rfl <;> simp only [heapOp] at hc <;> split at hc <;> (try cases hc) <;> simp only [Option.bind_eq_some_iff] at hc <;> obtain ⟨out, hf, hc⟩ := hc <;> split at hc <;> (try cases hc) <;>
    rename_i hb <;> simp only [Bool.and_eq_true, Bool.not_eq_true', decide_eq_true_eq] at hb <;> obtain ⟨c, g1, g2⟩ := run hf
  · exact hok_frozen hi g1 hb.1.2 g2
  · refine hok_add hi (VRl.noloc _ _ hb.1.2 g1) (ones_oneV g1 hb.1.1) g2 ?_
    simp only [VR]
    refine ⟨_, _, rfl, Nat.le_refl _, .inr ⟨w.heap.size, c.size, by rw [IM.get_push, hi.len, if_pos rfl], rfl, by simp [csize], ?_⟩⟩
    have := VRl.length g1
    have hs : c.size = out.length := by simpa using this
    omega

theorem mk_run {o : Oper} {t e : TypeId} {l c : Operand} (ho : o.op = .makeSlice t l c) (ht : P.underlying t = some (.slice e)) {i : TypeInfo} (hin : P.info? e = some i) {z : List CV} (hz : zeroCs P e = some z) (hpos : 0 < i.size) (hzl : z.length = i.size)
    {k k' : IntKind} {x' m : Nat} (hp : VR w F ι (.int k x') (a.eval l)) (hq : VR w F ι (.int k' m) (a.eval c)) (e2 : (x' : Int) ≤ m) (e3 : (m : Int) * i.bytes ≤ 140737488355328) (e4 : (m : Int) ≤ 140737488355328) :
    ∃ zc : Array Value, VRl w F ι (repC z m) zc.toList ∧ zc.size = m * z.length ∧ (execOp a.eval o).run P w = .ok (.value (.slice (some ⟨w.heap.size, 0, none⟩) x' m)) { w with heap := w.heap.push (.cells zc e) } := by
  obtain ⟨zv, hz1, hz2⟩ := run_zero (P := P) (w := w) (F := F) (ι := ι) hz
  have hn : szOf P e = some i.size := by simp [szOf, hin]
  have hzs : zv.cells.size = i.size := by have := VRl.length hz2; simpa [hzl] using this
  have w1 : IntKind.i64.wrap (x' : Int) = x' := by simp only [IntKind.wrap, IntKind.bits, IntKind.signed]; simp only [Bool.true_and]; split <;> simp_all <;> omega
  have w2 : IntKind.i64.wrap (m : Int) = m := by simp only [IntKind.wrap, IntKind.bits, IntKind.signed]; simp only [Bool.true_and]; split <;> simp_all <;> omega
  have hrep := zeroCells_repC hz2 m
  have hmk : (Instr.makeSlice t (a.eval l) (a.eval c)).run P w = .ok (.slice (some ⟨w.heap.size, 0, none⟩) x' m) { w with heap := w.heap.push (.cells (Builtin.zeroCells zv.cells m) e) } := by
    have t1 : ¬ ((i.bytes : Int) * (m : Int) > 2 ^ 48) := by rw [Int.mul_comm]; omega
    have b1 : (decide ((m : Int) < 0) || decide ((i.bytes : Int) * (m : Int) > 2 ^ 48)) = false := by simp; omega
    simp only [Instr.makeSlice, Sem.run_bind, run_under ht, Result.andThen_ok, hp.int, hq.int, asInt, asIntOf, Sem.run_pure, typeInfo, run_program, hin, w1, w2, b1]
    have b2 : (false || decide ((x' : Int) < 0) || decide ((x' : Int) > (m : Int))) = false := by simp; omega
    simp only [b2, Bool.false_eq_true, if_false, Int.toNat_natCast]
    by_cases h0 : m * i.size = 0
    · have hm0 : m = 0 := by
        rcases Nat.mul_eq_zero.1 h0 with h | h
        · exact h
        · omega
      subst hm0
      have r0 : Array.range 0 = #[] := rfl
      simp [newRow, Builtin.zeroCells, run_sizeOf' hn, r0]
    · simp [newRow, Builtin.zeroCells, hzs, run_sizeOf' hn, hz1, h0]
  refine ⟨Builtin.zeroCells zv.cells m, hrep, ?_, by simp [execOp, ho, hmk]⟩
  have := VRl.length hrep
  rw [repC_length] at this
  simpa using this
theorem locs_app : ∀ (l r : List CV), CV.locs (l ++ r) = (CV.locs l || CV.locs r)
  | [], _ => by simp [CV.locs]
  | c :: l, r => by simp [CV.locs, locs_app l r, Bool.or_assoc]
theorem refs_app : ∀ (l r : List CV), CV.refs (l ++ r) = (CV.refs l || CV.refs r)
  | [], _ => by simp [CV.refs]
  | c :: l, r => by simp [CV.refs, refs_app l r, Bool.or_assoc]
theorem repC_locs {z : List CV} (h : CV.locs z = false) : ∀ n, CV.locs (repC z n) = false
  | 0 => rfl
  | n + 1 => by simp [repC, locs_app, h, repC_locs h n]
theorem repC_refs {z : List CV} (h : CV.refs z = false) : ∀ n, CV.refs (repC z n) = false
  | 0 => rfl
  | n + 1 => by simp [repC, refs_app, h, repC_refs h n]
theorem mksl_ok (hi : Inv w F ι H) {o : Oper} {t e : TypeId} {l c : Operand} (ho : o.op = .makeSlice t l c) (ht : P.underlying t = some (.slice e)) {i : TypeInfo} (hin : P.info? e = some i) {z : List CV} (hz : zeroCs P e = some z) (hpos : 0 < i.size)
    {p q v : CV} {H' : Heap} (hp : VR w F ι p (a.eval l)) (hq : VR w F ι q (a.eval c)) {h : HOp} (hh : h = .mksl i.size i.bytes z ∨ h = .mkslF i.size i.bytes z) (hc : heapOp h [p, q] H = some (v, H')) : HOk P w F ι H a o v H' := by
  rcases hh with rfl | rfl
  · simp only [heapOp] at hc
    split at hc <;> (try cases hc)
    rename_i hb
    simp only [Bool.and_eq_true, Bool.not_eq_true', decide_eq_true_eq] at hb
    obtain ⟨⟨hzl, hone⟩, hloc⟩ := hb
    unfold mkslC at hc
    split at hc <;> (try cases hc)
    rename_i k x k' y
    split at hc <;> (try cases hc)
    rename_i hcond
    obtain ⟨e1, e2, e3, e4⟩ := hcond
    obtain ⟨m, rfl⟩ : ∃ m : Nat, y = m := ⟨y.toNat, by omega⟩
    obtain ⟨x', rfl⟩ : ∃ m : Nat, x = m := ⟨x.toNat, by omega⟩
    obtain ⟨zc, hrep, hs, hrun⟩ := mk_run ho ht hin hz hpos hzl hp hq e2 e3 e4
    simp only [Int.toNat_natCast]
    refine hok_add hi (VRl.noloc _ _ (repC_locs hloc m) hrep) (ones_oneV hrep (repC_ones hone m)) hrun ?_
    simp only [VR]
    refine ⟨_, _, rfl, by omega, .inr ⟨w.heap.size, zc.size, by rw [IM.get_push, hi.len, if_pos rfl], rfl, by simp [csize], ?_⟩⟩
    rw [hs, hzl]
    omega
  · simp only [heapOp] at hc
    split at hc <;> (try cases hc)
    rename_i hb
    simp only [Bool.and_eq_true, Bool.not_eq_true', decide_eq_true_eq] at hb
    obtain ⟨hzl, href⟩ := hb
    unfold mkslFC at hc
    split at hc <;> (try cases hc)
    rename_i k x k' y
    split at hc <;> (try cases hc)
    rename_i hcond
    obtain ⟨e1, rfl, e3, e4⟩ := hcond
    obtain ⟨m, rfl⟩ : ∃ m : Nat, x = m := ⟨x.toNat, by omega⟩
    obtain ⟨zc, hrep, hs, hrun⟩ := mk_run ho ht hin hz hpos hzl hp hq (Int.le_refl _) e3 e4
    simp only [Int.toNat_natCast]
    exact hok_frozen hi hrep (repC_refs href m) hrun

end
end Go.Zc
