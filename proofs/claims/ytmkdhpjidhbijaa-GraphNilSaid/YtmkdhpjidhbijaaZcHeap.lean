/- Operations on memory: boxes, loads, stores, literals. No condition. -/
import Derived.Test.YtmkdhpjidhbijaaZcInv
import Derived.Test.YtmkdhpjidhbijaaZcSnap
set_option linter.all false
namespace Go.Zc

section
variable {P : Program} {w : World} {F : Nat → Prop} {ι : IM} {H : Heap} {env : Env} {a : Act}

/-- The model does what the interpreter does to memory. -/
def HOk (P : Program) (w : World) (F : Nat → Prop) (ι : IM) (H : Heap) (a : Act) (o : Oper) (v : CV) (H' : Heap) : Prop :=
  ∃ v' w' F' ι', ((execOp a.eval o).run P w = .ok (.value v') w' ∨ ((execOp a.eval o).run P w = .ok .skip w' ∧ v' = undef)) ∧
    VR w' F' ι' v v' ∧ Inv w' F' ι' H' ∧ Ext w F ι H w' F' ι' H' ∧ MoV w w' F F' ι ι'

mutual
theorem VR.noloc : ∀ (c : CV) (v : Value), c.locv = false → VR w F ι c v → VR w F ι.glob c v
  | .op i off, v, hr, h => by
    cases i with
    | loc s => simp [CV.locv, Id.loc?] at hr
    | blk n => simpa [VR, IM.get, IM.glob] using h
  | .os sz i off len, v, hr, h => by
    cases i with
    | loc s => simp [CV.locv, Id.loc?] at hr
    | blk n => simpa [VR, IM.get, IM.glob] using h
  | .om n, v, _, h => by simpa [VR, IM.glob] using h
  | .fn f a c, v, hr, h => by
    simp only [CV.locv, Bool.or_eq_false_iff] at hr
    simp only [VR] at h ⊢
    obtain ⟨a', c', h1, h2, h3⟩ := h
    exact ⟨a', c', h1, VRl.noloc a _ hr.1 h2, VRl.noloc c _ hr.2 h3⟩
  | .ifc t x, v, hr, h => by
    simp only [CV.locv] at hr
    simp only [VR] at h ⊢
    obtain ⟨y, h1, h2⟩ := h
    exact ⟨y, h1, VR.noloc x y hr h2⟩
  | .agg cs, v, hr, h => by
    simp only [CV.locv] at hr
    simp only [VR] at h ⊢
    obtain ⟨vs, h1, h2⟩ := h
    exact ⟨vs, h1, VRl.noloc cs _ hr h2⟩
  | .tup cs, v, hr, h => by
    simp only [CV.locv] at hr
    simp only [VR] at h ⊢
    obtain ⟨vs, h1, h2⟩ := h
    exact ⟨vs, h1, VRl.noloc cs _ hr h2⟩
  | .und, v, _, h => by simpa only [VR] using h
  | .bool b, v, _, h => by simpa only [VR] using h
  | .int k n, v, _, h => by simpa only [VR] using h
  | .float k n, v, _, h => by simpa only [VR] using h
  | .cplx k a b, v, _, h => by simpa only [VR] using h
  | .str s, v, _, h => by simpa only [VR] using h
  | .nilp, v, _, h => by simpa only [VR] using h
  | .vp cs, v, _, h => by simpa only [VR] using h
  | .nils, v, _, h => by simpa only [VR] using h
  | .vs cs len, v, _, h => by simpa only [VR] using h
  | .nilm, v, _, h => by simpa only [VR] using h
  | .nilf, v, _, h => by simpa only [VR] using h
  | .nili, v, _, h => by simpa only [VR] using h
theorem VRl.noloc : ∀ (cs : List CV) (vs : List Value), CV.locs cs = false → VRl w F ι cs vs → VRl w F ι.glob cs vs
  | [], _, _, h => by simpa only [VRl] using h
  | c :: cs, vs, hr, h => by
    simp only [CV.locs, Bool.or_eq_false_iff] at hr
    simp only [VRl] at h ⊢
    obtain ⟨u, us, h1, h2, h3⟩ := h
    exact ⟨u, us, h1, VR.noloc c u hr.1 h2, VRl.noloc cs us hr.2 h3⟩
end

theorem VRl.cr {cs : List CV} {c : Array Value} (h : VRl w F ι cs c.toList) : CR w F ι cs c := fun j x hx => by
  obtain ⟨u, h1, h2⟩ := h.get j x hx
  exact ⟨u, by simpa using h1, h2⟩

theorem ones_oneV {cs : List CV} {vs : List Value} (h : VRl w F ι cs vs) (h1 : ones cs = true) : ∀ v ∈ vs, oneV v = true := by
  intro v hv
  obtain ⟨j, hj, rfl⟩ := List.mem_iff_getElem.1 hv
  have hl := VRl.length h
  have hc : cs[j]? = some cs[j] := List.getElem?_eq_getElem (by omega)
  obtain ⟨u, h2, h3⟩ := h.get j _ hc
  rw [List.getElem?_eq_getElem hj] at h2
  cases h2
  exact h3.one (List.all_eq_true.1 h1 _ (List.getElem_mem _))

theorem oneV_oneCell (v : Value) : v.oneCell' = oneV v := by cases v <;> rfl

theorem ones_und {x : CV} (h : ones x.cells = true) : x ≠ .und := by rintro rfl; simp [ones, CV.cells, CV.one] at h

/-- A new block in the world. -/
theorem WTo.new (w : World) (o : Obj) : WTo w { w with heap := w.heap.push o } w.heap.size where
  os := rfl
  tape := rfl
  output := rfl
  size := by simp
  lt := by simp
  other := fun k _ h => by simp only [Array.getElem?_push, if_neg (Nat.ne_of_lt h)]
  csz := fun n h => by have := csize_lt h; omega

theorem Inv.new_dead (hi : Inv w F ι H) : ¬ Live ι H w.heap.size ∧ ¬ F w.heap.size :=
  ⟨fun h => by have := hi.live_lt h; omega, fun h => by have := hi.lt _ h; omega⟩

/-- Behind a step to a block that was nobody's. -/
theorem Ext.to {w' : World} {ι' : IM} {H' : Heap} {b : Nat} (hw : WTo w w' b) (hpre : ∀ (n x : Nat), ι.bl[n]? = some x → ι'.bl[n]? = some x)
    (hb : Live ι H b ∨ w.heap.size ≤ b) (hl : ∀ x, Live ι' H' x → Live ι H x ∨ x = b) : Ext w F ι H w' F ι' H' where
  os := hw.os
  tape := hw.tape
  output := hw.output
  pre := hpre
  fmono := fun _ h => h
  fnew := fun _ h => .inl h
  size := hw.size
  csz := hw.csize
  frame := fun x hx hn => hw.other x (by
    rintro rfl
    rcases hb with hb | hb
    · exact hn hb
    · omega) hx
  live := fun x h => by
    rcases hl x h with h | rfl
    · exact .inl h
    · exact hb

theorem Ext.add {w' : World} {b : Nat} {c : Blk} (hi : Inv w F ι H) (hw : WTo w w' b) (hb : Live ι H b ∨ w.heap.size ≤ b) : Ext w F ι H w' F (ι.push b) (H.push c) :=
  Ext.to hw (fun n x h => by
    simp only [IM.push]
    rw [List.getElem?_append_left (List.getElem?_eq_some_iff.1 h).1]; exact h) hb (fun x ⟨i, h1, h2⟩ => by
      rw [IM.get_push, hi.len] at h2
      rcases live_push h1 with rfl | h1
      · rw [if_pos rfl] at h2; cases h2; exact .inr rfl
      · split at h2
        · cases h2; exact .inr rfl
        · exact .inl ⟨i, h1, h2⟩)

theorem Ext.bind {w' : World} {b s : Nat} {cs : List CV} (hw : WTo w w' b) (hb : Live ι H b ∨ w.heap.size ≤ b) : Ext w F ι H w' F (ι.bind s b) (H.put (.loc s) cs) :=
  Ext.to hw (fun n x h => h) hb (fun x ⟨i, h1, h2⟩ => by
      rw [IM.get_bind] at h2
      split at h2
      · cases h2; exact .inr rfl
      · rename_i hne
        rcases live_put (by intro n h; cases h) h1 with rfl | h1
        · exact (hne rfl).elim
        · exact .inl ⟨i, h1, h2⟩)

theorem Ext.upd {w' : World} {i : Id} {b : Nat} {old cs : List CV} (hg : H.get i = some old) (hb : ι.get i = some b) (hw : WTo w w' b) : Ext w F ι H w' F ι (H.put i cs) := by
  have hli : H.live i := live_iff.2 (.inl ⟨old, hg⟩)
  refine Ext.to hw (fun n x h => h) (.inl ⟨i, hli, hb⟩) (fun x ⟨j, h1, h2⟩ => ?_)
  have hblk : ∀ n, i = .blk n → n < H.bl.length := by
    rintro n rfl
    simp only [Heap.get] at hg
    split at hg
    · rename_i h; exact (List.getElem?_eq_some_iff.1 h).1
    · cases hg
  rcases live_put hblk h1 with rfl | h1
  · exact .inl ⟨j, hli, h2⟩
  · exact .inl ⟨j, h1, h2⟩

theorem hok_add (hi : Inv w F ι H) {o : Oper} {c : Array Value} {e : TypeId} {cs : List CV} {v : CV} {v' : Value} (hc : VRl w F ι.glob cs c.toList) (h1 : ∀ x ∈ c.toList, oneV x = true)
    (hrun : (execOp a.eval o).run P w = .ok (.value v') { w with heap := w.heap.push (.cells c e) })
    (hv : VR { w with heap := w.heap.push (.cells c e) } F (ι.push w.heap.size) v v') : HOk P w F ι H a o v (H.push (.cells cs)) := by
  have hw := WTo.new w (.cells c e)
  obtain ⟨hd, hf⟩ := hi.new_dead
  obtain ⟨h2, h3⟩ := hi.add hw hd hf (c := c) (e := e) (cs := cs) (by simp) hc.cr (fun j x hx => h1 x (by
    have : c.toList[j]? = some x := by simpa using hx
    exact List.mem_of_getElem? this))
  exact ⟨v', _, F, _, .inl hrun, hv, h2, Ext.add hi hw (.inr (Nat.le_refl _)), h3⟩

theorem hok_bind (hi : Inv w F ι H) {o : Oper} {c : Array Value} {e : TypeId} {cs : List CV} {s : Nat} (hs : look H.bx s = none) (hc : VRl w F ι cs c.toList) (h1 : ∀ x ∈ c.toList, oneV x = true)
    (hrun : (execOp a.eval o).run P w = .ok (.value (.pointer (some ⟨w.heap.size, 0, none⟩))) { w with heap := w.heap.push (.cells c e) }) : HOk P w F ι H a o (.op (.loc s) 0) (H.put (.loc s) cs) := by
  have hw := WTo.new w (.cells c e)
  obtain ⟨hd, hf⟩ := hi.new_dead
  obtain ⟨h2, h3⟩ := hi.bind hw hd hf hs (c := c) (e := e) (cs := cs) (by simp) hc.cr (fun j x hx => h1 x (by
    have : c.toList[j]? = some x := by simpa using hx
    exact List.mem_of_getElem? this))
  refine ⟨_, _, F, _, .inl hrun, ?_, h2, Ext.bind hw (.inr (Nat.le_refl _)), h3⟩
  simp only [VR]
  exact ⟨w.heap.size, by simp [IM.get_bind], rfl⟩

theorem vr_newp {n : Nat} {w' : World} (hn : n = ι.bl.length) : VR w' F (ι.push w.heap.size) (.op (.blk n) 0) (.pointer (some ⟨w.heap.size, 0, none⟩)) := by
  simp only [VR]
  exact ⟨w.heap.size, by rw [IM.get_push, hn, if_pos rfl], rfl⟩

theorem box_ok (hi : Inv w F ι H) {o : Oper} {e : TypeId} {x : Operand} (ho : o.op = .box e x) {c v : CV} {H' : Heap} (hx : VR w F ι c (a.eval x)) {h : HOp} (hh : h = .boxh ∨ ∃ s, h = .box s)
    (hc : heapOp h [c] H = some (v, H')) : HOk P w F ι H a o v H' := by
  have hrun : (execOp a.eval o).run P w = .ok (.value (.pointer (some ⟨w.heap.size, 0, none⟩))) { w with heap := w.heap.push (.cells (a.eval x).cells e) } := by
    simp [execOp, ho, Instr.box, newVar, newRow]
  rcases hh with rfl | ⟨s, rfl⟩ <;> simp only [heapOp] at hc <;> split at hc <;> (try cases hc) <;> rename_i hb <;> simp only [Bool.and_eq_true, Bool.not_eq_true'] at hb
  · have hcells := hx.cells (ones_und hb.1)
    exact hok_add hi (VRl.noloc _ _ hb.2 hcells) (ones_oneV hcells hb.1) hrun (vr_newp hi.len.symm)
  · have hcells := hx.cells (ones_und hb.1)
    exact hok_bind hi (by simpa using hb.2) hcells (ones_oneV hcells hb.1) hrun

theorem alloc_ok (hi : Inv w F ι H) {o : Oper} {e : TypeId} (ho : o.op = .alloc e) {z : List CV} (hz : zeroCs P e = some z) {v : CV} {H' : Heap} {h : HOp} (hh : h = .newh z ∨ ∃ s, h = .newl s z)
    (hc : heapOp h [] H = some (v, H')) : HOk P w F ι H a o v H' := by
  obtain ⟨zv, hz1, hz2⟩ := run_zero (P := P) (w := w) (F := F) (ι := ι) hz
  have hrun : (execOp a.eval o).run P w = .ok (.value (.pointer (some ⟨w.heap.size, 0, none⟩))) { w with heap := w.heap.push (.cells zv.cells e) } := by
    simp [execOp, ho, Instr.alloc, newVar, newRow, hz1]
  rcases hh with rfl | ⟨s, rfl⟩ <;> simp only [heapOp] at hc <;> split at hc <;> (try cases hc) <;> rename_i hb <;> simp only [Bool.and_eq_true, Bool.not_eq_true'] at hb
  · exact hok_add hi (VRl.noloc _ _ hb.2 hz2) (ones_oneV hz2 hb.1) hrun (vr_newp hi.len.symm)
  · exact hok_bind hi (by simpa using hb.1.1) hz2 (ones_oneV hz2 hb.1.2) hrun

/-! ### Loads -/

theorem BRc.vals : ∀ {cs : List CV} {b o : Nat}, BRc w F cs b o → ∃ us : List Value, us.length = cs.length ∧ BRl w F cs us ∧ ∀ (j : Nat) (v : Value), us[j]? = some v → w.cell? ⟨b, o + j, none⟩ = some v
  | [], _, _, _ => ⟨[], rfl, by simp [BRl], by simp⟩
  | c :: cs, b, o, h => by
    simp only [BRc] at h
    obtain ⟨⟨u, h1, h2⟩, h3⟩ := h
    obtain ⟨us, h4, h5, h6⟩ := BRc.vals h3
    refine ⟨u :: us, by simp [h4], by simp only [BRl]; exact ⟨u, us, rfl, h2, h5⟩, ?_⟩
    intro j v hj
    cases j with
    | zero => simp at hj; subst hj; simpa using h1
    | succ j =>
      have := h6 j v (by simpa using hj)
      rwa [show o + (j + 1) = o + 1 + j by omega]

theorem CR.vals {cs : List CV} {c : Array Value} (h : CR w F ι cs c) {b : Nat} {e : TypeId} {fz : Nat × Nat} (hb : w.heap[b]? = some (.cells c e fz)) (off n : Nat) (hn : off + n ≤ cs.length) :
    ∃ us : List Value, us.length = n ∧ VRl w F ι ((cs.drop off).take n) us ∧ ∀ (j : Nat) (v : Value), us[j]? = some v → w.cell? ⟨b, off + j, none⟩ = some v := by
  have hcl : cs.length ≤ c.size := by
    rcases Nat.eq_zero_or_pos cs.length with h0 | h0
    · omega
    · obtain ⟨u, hu, _⟩ := h (cs.length - 1) cs[cs.length - 1] (List.getElem?_eq_getElem _)
      have := (Array.getElem?_eq_some_iff.1 hu).1
      omega
  refine ⟨(c.toList.drop off).take n, by simp; omega, VRl.of_get (by simp; omega) ?_, ?_⟩
  · intro j x u h1 h2
    rw [List.getElem?_take] at h1 h2
    split at h1
    · rename_i hj
      rw [if_pos hj] at h2
      rw [List.getElem?_drop] at h1 h2
      obtain ⟨u', h3, h4⟩ := h _ x h1
      have : c[off + j]? = some u := by simpa using h2
      rw [this] at h3
      cases h3
      exact h4
    · cases h1
  · intro j v hj
    rw [List.getElem?_take] at hj
    split at hj
    · rw [List.getElem?_drop] at hj
      have : c[off + j]? = some v := by simpa using hj
      simp [World.cell?, hb, this]
    · cases hj

theorem run_loadVar' {t : TypeId} {s : Bool × Nat} (hs : shapeOf P t = some s) {b o : Nat} {us : List Value} (hl : us.length = s.2)
    (hc : ∀ (j : Nat) (v : Value), us[j]? = some v → w.cell? ⟨b, o + j, none⟩ = some v) {ds : List CV} (hd : VRl w F ι ds us) {v : CV} (hv : v = if s.1 then .agg ds else ds.getD 0 .und) :
    ∃ u, (loadVar t ⟨b, o, none⟩).run P w = .ok u w ∧ VR w F ι v u := by
  obtain ⟨h1, h2, h3⟩ := shapeOf_ok hs
  cases hb : s.1 with
  | true =>
    rw [hb] at h1 hv
    have := run_loadCells_list (P := P) w ⟨b, o, none⟩ us (fun j v hj => by rw [addr_add]; exact hc j v hj)
    rw [hl] at this
    refine ⟨.agg us.toArray, by simp [loadVar, run_isAgg' h1, run_sizeOf' h2, this], ?_⟩
    subst hv
    simp only [if_true, VR]
    exact ⟨_, rfl, by simpa using hd⟩
  | false =>
    rw [hb] at h1 hv
    have hn := h3 hb
    rw [hn] at hl
    obtain ⟨u, rfl⟩ := List.length_eq_one_iff.1 hl
    have hcell := hc 0 u rfl
    cases ds with
    | nil => simp only [VRl] at hd; cases hd
    | cons d ds =>
      simp only [VRl] at hd
      obtain ⟨u', us', he, h4, h5⟩ := hd
      cases he
      subst hv
      exact ⟨u, by simp [loadVar, run_isAgg' h1, show w.cell? ⟨b, o, none⟩ = some u by simpa using hcell], by simpa using h4⟩

theorem partC_eq {s : Bool × Nat} (h3 : s.1 = false → s.2 = 1) {off : Nat} {cs : List CV} {v : CV} (h : partC s.1 s.2 off cs = some v) : v = if s.1 then .agg ((cs.drop off).take s.2) else ((cs.drop off).take s.2).getD 0 .und := by
  unfold partC at h
  split at h
  · rename_i hb
    cases h
    simp [hb]
  · rename_i hb
    have hb' : s.1 = false := by simpa using hb
    rw [h3 hb']
    simp [List.getD, h, hb']

theorem loadC_ok (hi : Inv w F ι H) {t : TypeId} {s : Bool × Nat} (hs : shapeOf P t = some s) {c v : CV} {u : Value} (hx : VR w F ι c u) (hc : loadC s.1 s.2 H c = some v) :
    ∃ ad u', u = .pointer (some ad) ∧ (loadVar t ad).run P w = .ok u' w ∧ VR w F ι v u' := by
  obtain ⟨_, _, h3⟩ := shapeOf_ok hs
  unfold loadC at hc
  split at hc <;> (try cases hc)
  · rename_i i off
    simp only [Option.bind_eq_some_iff] at hc
    obtain ⟨cs, h1, h2⟩ := hc
    split at h2 <;> (try cases h2)
    rename_i hn
    obtain ⟨b, ca, e, h5, h6, h7, _⟩ := hi.cells i cs h1
    simp only [VR] at hx
    obtain ⟨b', h8, h9⟩ := hx
    rw [h8] at h5; cases h5
    obtain ⟨us, g1, g2, g3⟩ := h7.vals h6 off s.2 hn
    obtain ⟨u, g4, g5⟩ := run_loadVar' (P := P) hs g1 g3 g2 (partC_eq h3 h2)
    exact ⟨_, u, h9, g4, g5.glob⟩
  · rename_i cs
    split at hc <;> (try cases hc)
    rename_i hn
    simp only [VR, BR] at hx
    obtain ⟨b, off, h9, h5, h6⟩ := hx
    obtain ⟨us, g1, g2, g3⟩ := BRc.vals (BRc.take s.2 h6)
    obtain ⟨u, g4, g5⟩ := run_loadVar' (P := P) hs (by simpa [Nat.min_eq_left hn] using g1) g3 (BRl.vr (ι := ι) _ _ g2) (partC_eq h3 hc)
    exact ⟨_, u, h9, g4, g5⟩

theorem load_ok (hi : Inv w F ι H) {o : Oper} {t : TypeId} {x : Operand} (ho : o.op = .load t x) {s : Bool × Nat} (hs : shapeOf P t = some s) {c v : CV} {H' : Heap} (hx : VR w F ι c (a.eval x))
    (hc : heapOp (.load s.1 s.2) [c] H = some (v, H')) : HOk P w F ι H a o v H' := by
  simp only [heapOp, Option.map_eq_some_iff, Prod.mk.injEq] at hc
  obtain ⟨v', hc, rfl, rfl⟩ := hc
  obtain ⟨ad, u, h1, h2, h3⟩ := loadC_ok (P := P) hi hs hx hc
  refine ⟨u, w, F, ι, .inl ?_, h3, hi, Ext.refl _ _ _ _, ⟨⟨fun _ h => h, fun _ _ => rfl⟩, fun _ _ h => h, fun _ _ h => h⟩⟩
  simp [execOp, ho, Instr.loadAt, h1, Instr.sureAddr, h2]
end
end Go.Zc
