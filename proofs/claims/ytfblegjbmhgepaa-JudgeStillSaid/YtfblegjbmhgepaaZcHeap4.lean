/- Operations on memory: append, copy, clear. No condition. -/
import Derived.Test.YtfblegjbmhgepaaZcHeap
set_option linter.all false
namespace Go.Zc

section
variable {P : Program} {w : World} {F : Nat → Prop} {ι : IM} {H : Heap} {env : Env} {a : Act}

/-- What append's operands are, and what it asks of its type. -/
structure AppAt (P : Program) (w : World) (t u e : TypeId) (i : TypeInfo) (zv : Value) : Prop where
  ht : P.underlying t = some (.slice e)
  hu : ∃ e', P.underlying u = some (.slice e')
  hi : P.info? e = some i
  hz : ∀ w' : World, (zeroValue e).run P w' = .ok zv w'

theorem run_append_fit {t u ty e : TypeId} {i : TypeInfo} {zv : Value} (h : AppAt P w t u e i zv) {sbase xbase : Option Addr} {n cap k xcap : Nat} {us : List Value} (hus : us.length = k * i.size)
    (hread : us = [] ∨ ∃ b o, xbase = some ⟨b, o, none⟩ ∧ ∀ (j : Nat) (v : Value), us[j]? = some v → w.cell? ⟨b, o + j, none⟩ = some v) (hfit : n + k ≤ cap) {w' : World}
    (hst : ∀ ad, sbase = some ad → (storeCells (ad.add (n * i.size)) us).run P w = .ok () w') (hsome : sbase = none → w' = w) :
    (Builtin.append_ #[t, u] ty #[.slice sbase n cap, .slice xbase k xcap]).run P w = .ok (.slice sbase (n + k) cap) w' := by
  obtain ⟨e', hu⟩ := h.hu
  have hn : szOf P e = some i.size := by simp [szOf, h.hi]
  have hf := run_first (P := P) (w := w) (cap := xcap) hus hread
  have hst' : ∀ ad, sbase = some ad → (storeCells (ad.add (n * i.size)) us).run P w = .ok () w' := hst
  cases sbase with
  | none =>
    have := hsome rfl
    subst this
    simp [Builtin.append_, run_under h.ht, run_under hu, run_sizeOf' hn, Builtin.lenOf, hfit, hf]
  | some ad =>
    have h2 := hst ad rfl
    simp [Builtin.append_, run_under h.ht, run_under hu, run_sizeOf' hn, Builtin.lenOf, hfit, hf, h2]

theorem run_append_grow {t u ty e : TypeId} {i : TypeInfo} {zv : Value} (h : AppAt P w t u e i zv) {sbase xbase : Option Addr} {n cap k xcap : Nat} {olds us : List Value} (hos : olds.length = n * i.size) (hus : us.length = k * i.size)
    (hold : olds = [] ∨ ∃ b o, sbase = some ⟨b, o, none⟩ ∧ ∀ (j : Nat) (v : Value), olds[j]? = some v → w.cell? ⟨b, o + j, none⟩ = some v)
    (hread : us = [] ∨ ∃ b o, xbase = some ⟨b, o, none⟩ ∧ ∀ (j : Nat) (v : Value), us[j]? = some v → w.cell? ⟨b, o + j, none⟩ = some v) (_hcap : n ≤ cap) (hgrow : ¬ n + k ≤ cap) (hb : 0 < i.bytes) (hroom : (n + k) * i.bytes ≤ 140737488355328) :
    ∃ m, n + k ≤ m ∧ (Builtin.append_ #[t, u] ty #[.slice sbase n cap, .slice xbase k xcap]).run P w =
      .ok (.slice (some ⟨w.heap.size, 0, none⟩) (n + k) m) { w with drawn := w.drawn + 1, heap := w.heap.push (.cells ((olds ++ us).toArray ++ Builtin.zeroCells zv.cells (m - (n + k))) e) } := by
  obtain ⟨e', hu⟩ := h.hu
  have hn : szOf P e = some i.size := by simp [szOf, h.hi]
  let w1 : World := { w with drawn := w.drawn + 1 }
  have hfo := run_first (P := P) (w := w1) (cap := cap) hos hold
  have hfx := run_first (P := P) (w := w1) (cap := xcap) hus hread
  have hle : (n + k) ≤ 140737488355328 := Nat.le_trans (Nat.le_mul_of_pos_right _ hb) hroom
  have hnc := nextcap_le (n := n + k) (c := cap) (by omega)
  have hmul : Builtin.nextslicecap (n + k) cap * i.bytes ≤ 2 * ((n + k) * i.bytes) := by
    rw [← Nat.mul_assoc]; exact Nat.mul_le_mul_right _ hnc
  have hno : ¬ (Builtin.nextslicecap (n + k) cap * i.bytes > 2 ^ 48) := by omega
  refine ⟨(Question.appendCap (n + k) cap e).cut (w.tape w.drawn (.appendCap (n + k) cap e)), by simp only [Question.cut]; omega, ?_⟩
  have h63 : ¬ (((n + k : Nat) : Int) > IntKind.i64.max ∧ ((false = true) ∨ i.bytes = 0)) := by
    rintro ⟨_, h | h⟩
    · cases h
    · omega
  have hforced : (Question.appendCap (n + k) cap e).forced = false := rfl
  have hz := h.hz w1
  have hno' : ¬ (2 ^ 48 < Builtin.nextslicecap (n + k) cap * i.bytes) := hno
  have hb0 : ¬ i.bytes = 0 := by omega
  have hnot : ¬ cap ≥ n + k := by omega
  simp [Builtin.append_, run_under h.ht, run_under hu, run_sizeOf' hn, Builtin.lenOf, typeInfo, h.hi, hgrow, hno', hb0, hforced]
  have hd : w.drew = w1 := rfl
  rw [hd, hfo]
  simp only [Result.andThen_ok, hfx, hz]
  simp [newRow, w1]
  refine ⟨?_, rfl, rfl⟩
  show w.heap.push _ = w.heap.push _
  congr 2
  apply Array.ext'
  simp

theorem run_append_zeros {t u ty e : TypeId} {i : TypeInfo} {zv : Value} {k0 k1 : IntKind} (ht : P.underlying t = some (.slice e)) (hu : P.underlying u = some (.int k0)) (hin : P.info? e = some i) (hz : ∀ w' : World, (zeroValue e).run P w' = .ok zv w') (hs : 0 < i.size) {k : Nat} (hk : 0 < k) (hb : 0 < i.bytes) (hroom : k * i.bytes ≤ 140737488355328) :
    ∃ m, k ≤ m ∧ (Builtin.append_ #[t, u] ty #[.slice none 0 0, .int k1 k]).run P w =
      .ok (.slice (some ⟨w.heap.size, 0, none⟩) k m) { w with drawn := w.drawn + 1, heap := w.heap.push (.cells (Builtin.zeroCells zv.cells k ++ Builtin.zeroCells zv.cells (m - k)) e) } := by
  have hn : szOf P e = some i.size := by simp [szOf, hin]
  let w1 : World := { w with drawn := w.drawn + 1 }
  have hle : k ≤ 140737488355328 := Nat.le_trans (Nat.le_mul_of_pos_right _ hb) hroom
  have hw : IntKind.i64.wrap (k : Int) = k := by rw [IntKind.wrap_i64]; omega
  have hnc : Builtin.nextslicecap k 0 = k := by unfold Builtin.nextslicecap; rw [if_pos (by omega)]
  have hno' : ¬ (2 ^ 48 < Builtin.nextslicecap k 0 * i.bytes) := by rw [hnc]; omega
  have hno : ¬ ((2 : Int) ^ 48 < (k : Int) * (i.bytes : Int)) := by
    have : ((k * i.bytes : Nat) : Int) ≤ ((140737488355328 : Nat) : Int) := Int.ofNat_le.2 hroom
    rw [Int.natCast_mul] at this
    omega
  have hno2 : ¬ ((281474976710656 : Int) < (k : Int) * (i.bytes : Int)) := by omega
  have hno3 : ¬ (281474976710656 < k * i.bytes) := by omega
  have hmax2 : ¬ ((9223372036854775807 : Int) < (k : Int)) := by omega
  have h0 : ¬ ((k : Int) < 0) := by omega
  have hks : ¬ (k * i.size = 0) := by
    have := Nat.mul_pos hk hs; omega
  have hks' : ¬ (k = 0 ∨ i.size = 0) := by omega
  have hmax : ¬ (((k : Nat) : Int) > IntKind.i64.max ∧ (True ∨ i.bytes = 0)) := by
    have : IntKind.i64.max = 9223372036854775807 := rfl
    omega
  have hmax' : ¬ (IntKind.i64.max < (k : Int)) := by
    have : IntKind.i64.max = 9223372036854775807 := rfl
    omega
  refine ⟨(Question.appendCap k 0 e).cut (w.tape w.drawn (.appendCap k 0 e)), by simp only [Question.cut]; omega, ?_⟩
  have hforced : (Question.appendCap k 0 e).forced = false := rfl
  have hz1 := hz w1
  have hfo := run_first (P := P) (w := w1) (cap := 0) (n := 0) (base := none) (us := []) (sz := i.size) (by simp) (.inl rfl)
  have hk0 : ¬ k = 0 := by omega
  simp [Builtin.append_, run_under ht, run_under hu, run_sizeOf' hn, typeInfo, hin, asInt, asIntOf, hw, h0, hno, hno', hmax', hk0, hks', hforced, hno2, hno3, hnc, hmax2]
  have hd : w.drew = w1 := rfl
  rw [hd, hfo]
  simp only [Result.andThen_ok, hz1]
  simp [newRow, w1]
  rw [if_neg hks]
  rfl

theorem isSl_ok {c : CV} {v : Value} (h : isSl c = true) (hv : VR w F ι c v) : ∃ base cap, v = .slice base (lenOf c) cap ∧ lenOf c ≤ cap := by
  cases c <;> simp only [isSl, Bool.false_eq_true] at h <;> simp only [VR, BR] at hv
  · exact ⟨none, 0, by simpa [lenOf] using hv, by simp [lenOf]⟩
  · obtain ⟨base, cap, h1, h2, _⟩ := hv; exact ⟨base, cap, h1, h2⟩
  · obtain ⟨base, cap, h1, h2, _⟩ := hv; exact ⟨base, cap, h1, h2⟩

theorem Ext.killadd {w' : World} {b m : Nat} {c : Blk} (hi : Inv w F ι H) (hw : WTo w w' b) (hb : Live ι H b ∨ w.heap.size ≤ b) : Ext w F ι H w' F (ι.push b) ((H.kill (.blk m)).push c) :=
  Ext.to hw (fun n x h => by
    simp only [IM.push]
    rw [List.getElem?_append_left (List.getElem?_eq_some_iff.1 h).1]; exact h) hb (fun x ⟨i, h1, h2⟩ => by
      have hl : (H.kill (.blk m)).bl.length = ι.bl.length := by simp [Heap.kill, hi.len]
      rw [IM.get_push, ← hl] at h2
      rcases live_push h1 with rfl | h1
      · rw [if_pos rfl] at h2; cases h2; exact .inr rfl
      · split at h2
        · cases h2; exact .inr rfl
        · exact .inl ⟨i, (live_kill h1).2, h2⟩)

theorem oneV_append {l r : List Value} (h1 : ∀ v ∈ l, oneV v = true) (h2 : ∀ v ∈ r, oneV v = true) : ∀ v ∈ l ++ r, oneV v = true := by
  intro v hv
  rcases List.mem_append.1 hv with h | h
  · exact h1 v h
  · exact h2 v h

theorem get_of_mem {c : Array Value} (h : ∀ v ∈ c.toList, oneV v = true) : ∀ (j : Nat) (x : Value), c[j]? = some x → oneV x = true := fun j x hx => h x (by
    have : c.toList[j]? = some x := by simpa using hx
    exact List.mem_of_getElem? this)

theorem CR.front {cs : List CV} {us rest : List Value} {c : Array Value} (h : VRl w F ι cs us) (hc : c.toList = us ++ rest) : CR w F ι cs c := by
  intro j x hx
  obtain ⟨u, h1, h2⟩ := h.get j x hx
  refine ⟨u, ?_, h2⟩
  have := (List.getElem?_eq_some_iff.1 h1).1
  have h3 : c.toList[j]? = some u := by rw [hc, List.getElem?_append_left this, h1]
  simpa using h3

theorem app_ok (hi : Inv w F ι H) {o : Oper} {t u e : TypeId} {s x : Operand} (ho : o.op = .call { callee := .builtin .append, args := #[s, x], argTypes := #[t, u] }) {i : TypeInfo} (ht : P.underlying t = some (.slice e))
    (hu : ∃ e', P.underlying u = some (.slice e')) (hin : P.info? e = some i) {z : List CV} (hz : zeroCs P e = some z) {p q v : CV} {H' : Heap} (hp : VR w F ι p (a.eval s)) (hq : VR w F ι q (a.eval x))
    (hc : heapOp (.app i.size i.bytes z) [p, q] H = some (v, H')) : HOk P w F ι H a o v H' := by
  have hrun : ∀ {v' : Value} {w' : World}, (Builtin.append_ #[t, u] o.type #[a.eval s, a.eval x]).run P w = .ok v' w' → (execOp a.eval o).run P w = .ok (.value v') w' := by
    intro v' w' h
    simp only [execOp, ho, resolve, Sem.run_bind, invoke, Sem.run_pure, Result.andThen_ok, builtin, List.map_toArray, List.map_cons, List.map_nil, h]
  obtain ⟨zv, hz1, _⟩ := run_zero (P := P) (w := w) (F := F) (ι := ι) hz
  have hz2 : VRl w F ι.glob z zv.cells.toList := by
    obtain ⟨zv', h1, h2⟩ := run_zero (P := P) (w := w) (F := F) (ι := ι.glob) hz
    rw [h1] at hz1; cases hz1; exact h2
  have hzw : ∀ w' : World, (zeroValue e).run P w' = .ok zv w' := by
    intro w'
    simp only [zeroCs, Option.bind_eq_some_iff] at hz
    obtain ⟨zz, ⟨j, g1, g2⟩, _⟩ := hz
    have : (zeroValue e).run P w = .ok zz w := by simp [zeroValue, typeInfo, g1, g2]
    rw [this] at hz1; cases hz1
    simp [zeroValue, typeInfo, g1, g2]
  have hat : AppAt P w t u e i zv := ⟨ht, hu, hin, hzw⟩
  simp only [heapOp] at hc
  split at hc
  · rename_i h0
    split at hc <;> (try cases hc)
    rename_i hb
    simp only [Bool.and_eq_true] at hb
    obtain ⟨b1, c1, e1, l1⟩ := isSl_ok hb.1 hp
    obtain ⟨b2, c2, e2, l2⟩ := isSl_ok hb.2 hq
    have := run_append_fit (P := P) (w := w) (ty := o.type) hat (sbase := b1) (xbase := b2) (n := lenOf p) (cap := c1) (k := 0) (xcap := c2) (us := []) (by simp) (.inl rfl) (by omega) (w' := w) (fun _ _ => rfl) (fun _ => rfl)
    rw [h0] at e2
    rw [← e1, ← e2] at this
    exact ⟨_, w, F, ι, .inl (hrun this), by rw [Nat.add_zero, ← e1]; exact hp, hi, Ext.refl _ _ _ _, ⟨⟨fun _ h => h, fun _ _ => rfl⟩, fun _ _ h => h, fun _ _ h => h⟩⟩
  · rename_i hk
    simp only [Option.bind_eq_some_iff] at hc
    obtain ⟨new, hnew, hc⟩ := hc
    split at hc <;> (try cases hc)
    rename_i hb
    simp only [Bool.and_eq_true, Bool.not_eq_true', decide_eq_true_eq] at hb
    obtain ⟨⟨⟨⟨⟨⟨hsz, hby⟩, hone⟩, hloc⟩, hroom⟩, hzl⟩, hzone⟩ := hb
    obtain ⟨xb, xc, us, hx1, hx2, hx3, hx4, hx5⟩ := shown_ok hi hnew hq
    have hus : us.length = lenOf q * i.size := by omega
    have hone' := ones_oneV hx4 hone
    have hx4g := VRl.noloc _ _ hloc hx4
    have hzs : zv.cells.size = i.size := by have := VRl.length hz2; simpa [hzl] using this
    have hzc : ∀ n, ∀ v ∈ (Builtin.zeroCells zv.cells n).toList, oneV v = true := fun n => ones_oneV (zeroCells_repC hz2 n) (repC_ones hzone n)
    have hzlen : ∀ n, (Builtin.zeroCells zv.cells n).size = n * i.size := by
      intro n
      have := VRl.length (zeroCells_repC hz2 n)
      rw [repC_length, hzl] at this
      simpa using this
    unfold appC at hc
    split at hc <;> (try cases hc)
    · -- nil
      simp only [VR, BR] at hp
      obtain ⟨m, hm, hr⟩ := run_append_grow (P := P) (w := w) (ty := o.type) hat (sbase := none) (n := 0) (cap := 0) (k := lenOf q) (xcap := xc) (olds := []) (by simp) hus (.inl rfl) hx5 (Nat.le_refl _) (by omega) hby (by simpa [lenOf] using hroom)
      rw [← hp, ← hx1] at hr
      simp only [List.nil_append, Nat.zero_add] at hr hm
      have hw := WTo.new w (.cells (us.toArray ++ Builtin.zeroCells zv.cells (m - lenOf q)) e)
      have hw' : WTo w { w with drawn := w.drawn + 1, heap := w.heap.push (.cells (us.toArray ++ Builtin.zeroCells zv.cells (m - lenOf q)) e) } w.heap.size := ⟨hw.os, hw.tape, hw.output, hw.size, hw.lt, hw.other, hw.csz⟩
      obtain ⟨hd, hf⟩ := hi.new_dead
      have hcr : CR w F ι.glob new (us.toArray ++ Builtin.zeroCells zv.cells (m - lenOf q)) :=
        CR.front (rest := (Builtin.zeroCells zv.cells (m - lenOf q)).toList) hx4g (by simp)
      obtain ⟨h2, h3⟩ := hi.add hw' hd hf (e := e) (cs := new) (by simp) hcr (get_of_mem (by simpa using oneV_append hone' (hzc _)))
      refine ⟨_, _, F, _, .inl (hrun hr), ?_, h2, Ext.add hi hw' (.inr (Nat.le_refl _)), h3⟩
      simp only [VR]
      refine ⟨_, m, rfl, hm, .inr ⟨w.heap.size, (us.toArray ++ Builtin.zeroCells zv.cells (m - lenOf q)).size, by rw [IM.get_push, hi.len, if_pos rfl], rfl, by simp [csize], ?_⟩⟩
      rw [Array.size_append, hzlen]
      simp only [List.size_toArray, hus, Nat.zero_add]
      rw [← Nat.add_mul]
      exact Nat.mul_le_mul_right _ (by omega)
    · -- owned
      rename_i s' m0 n
      split at hc <;> (try cases hc)
      rename_i hss
      subst hss
      simp only [Option.bind_eq_some_iff] at hc
      obtain ⟨cs, hcs, hc⟩ := hc
      split at hc <;> (try cases hc)
      rename_i hnl
      obtain ⟨b, ca, eo, hb1, hb2, hb3, hb4⟩ := hi.cells (.blk m0) cs hcs
      have hcl := hb3.len
      have hlive : Live ι H b := ⟨.blk m0, live_iff.2 (.inl ⟨cs, hcs⟩), hb1⟩
      simp only [VR] at hp
      obtain ⟨sb, cap, hp1, hp2, hp3⟩ := hp
      have hlen : (H.kill (.blk m0)).bl.length = H.bl.length := by simp [Heap.kill]
      by_cases hfit : n + lenOf q ≤ cap
      · -- in its place
        rcases hp3 with h0 | ⟨b', N, hg1, hg2, hg3, hg4⟩
        · omega
        · rw [hg1] at hb1; cases hb1
          have hN : N = ca.size := by unfold Zc.csize at hg3; rw [hb2] at hg3; simpa using hg3.symm
          have hoff : n * i.size + us.length ≤ ca.size := by
            have : (n + lenOf q) * i.size ≤ cap * i.size := Nat.mul_le_mul_right _ hfit
            rw [Nat.add_mul] at this
            omega
          have hst := run_store' (P := P) (o := n * i.size) hb2 hone' hoff
          have hr := run_append_fit (P := P) (w := w) (ty := o.type) hat (sbase := sb) (xbase := xb) (n := n) (cap := cap) (k := lenOf q) (xcap := xc) hus hx5 hfit (w' := w.setCells b (n * i.size) us)
            (fun ad had => by rw [hg2] at had; cases had; rw [addr_add, Nat.zero_add]; exact hst) (fun h => by rw [hg2] at h; cases h)
          rw [← hp1, ← hx1] at hr
          have hw := WTo.set (o := n * i.size) hb2 us
          obtain ⟨i1, _⟩ := setCells_heap b eo (0, 0) us (n * i.size) ca w hb2
          have hik := hi.kill m0
          have hnl' : ¬ Live ι (H.kill (.blk m0)) b := by
            rintro ⟨j, h1, h2⟩
            obtain ⟨h3, h4⟩ := live_kill h1
            exact h3 (hi.inj j (.blk m0) b h4 (live_iff.2 (.inl ⟨cs, hcs⟩)) h2 hg1)
          have hnf : ¬ F b := fun h => hi.dis b h hlive
          have hcr : CR w F ι.glob (cs.take (n * i.size) ++ new) (setAll ca (n * i.size) us) := by
            intro j y hy
            rw [setAll_get us ca _ j hoff]
            by_cases hj : j < n * i.size
            · rw [if_neg (by omega)]
              rw [List.getElem?_append_left (by simp; omega), List.getElem?_take, if_pos hj] at hy
              exact hb3 j y hy
            · rw [List.getElem?_append_right (by simp; omega)] at hy
              simp only [List.length_take, Nat.min_eq_left hnl] at hy
              have hlt := (List.getElem?_eq_some_iff.1 hy).1
              rw [if_pos (by omega)]
              exact hx4g.get _ y hy
          obtain ⟨h2, h3⟩ := hik.add hw hnl' hnf i1 hcr (setAll_one hb4 hone' hoff)
          refine ⟨_, _, F, _, .inl (hrun hr), ?_, h2, Ext.killadd hi hw (.inl hlive), h3⟩
          simp only [VR]
          refine ⟨sb, cap, rfl, hfit, .inr ⟨b, N, ?_, hg2, ?_, hg4⟩⟩
          · rw [IM.get_push, hi.len, if_pos rfl]
          · unfold Zc.csize
            rw [i1]
            simp [setAll_size, hN]
      · -- in new memory
        have holds : ∃ olds : List Value, olds.length = n * i.size ∧ VRl w F ι.glob (cs.take (n * i.size)) olds ∧ (∀ v ∈ olds, oneV v = true) ∧
            (olds = [] ∨ ∃ b o, sb = some ⟨b, o, none⟩ ∧ ∀ (j : Nat) (v : Value), olds[j]? = some v → w.cell? ⟨b, o + j, none⟩ = some v) := by
          rcases hp3 with h0 | ⟨b', N, hg1, hg2, hg3, hg4⟩
          · have : n = 0 := by omega
            subst this
            exact ⟨[], by simp, by simp [VRl], by simp, .inl rfl⟩
          · rw [hg1] at hb1; cases hb1
            obtain ⟨us', k1, k2, k3⟩ := hb3.vals hb2 0 (n * i.size) (by omega)
            refine ⟨us', k1, by simpa [IM.of] using k2, ?_, .inr ⟨b, 0, hg2, k3⟩⟩
            intro v hv
            obtain ⟨j, hj, rfl⟩ := List.mem_iff_getElem.1 hv
            have := k3 j _ (List.getElem?_eq_getElem hj)
            simp only [World.cell?, hb2] at this
            exact hb4 _ _ (by simpa using this)
        obtain ⟨olds, q1, q2, q3, q4⟩ := holds
        obtain ⟨m, hm, hr⟩ := run_append_grow (P := P) (w := w) (ty := o.type) hat (sbase := sb) (n := n) (cap := cap) (k := lenOf q) (xcap := xc) (olds := olds) q1 hus q4 hx5 hp2 hfit hby (by simpa [lenOf] using hroom)
        rw [← hp1, ← hx1] at hr
        have hw := WTo.new w (.cells ((olds ++ us).toArray ++ Builtin.zeroCells zv.cells (m - (n + lenOf q))) e)
        have hw' : WTo w { w with drawn := w.drawn + 1, heap := w.heap.push (.cells ((olds ++ us).toArray ++ Builtin.zeroCells zv.cells (m - (n + lenOf q))) e) } w.heap.size := ⟨hw.os, hw.tape, hw.output, hw.size, hw.lt, hw.other, hw.csz⟩
        have hik := hi.kill m0
        obtain ⟨hd, hf⟩ := hik.new_dead
        have hcr : CR w F ι.glob (cs.take (n * i.size) ++ new) ((olds ++ us).toArray ++ Builtin.zeroCells zv.cells (m - (n + lenOf q))) := by
          exact CR.front (rest := (Builtin.zeroCells zv.cells (m - (n + lenOf q))).toList) (VRl.append q2 hx4g) (by simp)
        obtain ⟨h2, h3⟩ := hik.add hw' hd hf (e := e) (cs := cs.take (n * i.size) ++ new) (by simp) hcr (get_of_mem (by
          have := oneV_append (oneV_append q3 hone') (hzc (m - (n + lenOf q)))
          simpa using this))
        refine ⟨_, _, F, _, .inl (hrun hr), ?_, h2, Ext.killadd hi hw' (.inr (Nat.le_refl _)), h3⟩
        simp only [VR]
        refine ⟨_, m, rfl, hm, .inr ⟨w.heap.size, ((olds ++ us).toArray ++ Builtin.zeroCells zv.cells (m - (n + lenOf q))).size, by rw [IM.get_push, hi.len, if_pos rfl], rfl, by simp [csize], ?_⟩⟩
        rw [Array.size_append, hzlen]
        simp only [List.size_toArray, List.length_append, q1, hus, Nat.zero_add]
        rw [← Nat.add_mul, ← Nat.add_mul]
        exact Nat.mul_le_mul_right _ (by omega)


theorem appz_ok (hi : Inv w F ι H) {o : Oper} {t u e : TypeId} {s x : Operand} (ho : o.op = .call { callee := .builtin .append, args := #[s, x], argTypes := #[t, u] }) {i : TypeInfo} {k0 : IntKind} (ht : P.underlying t = some (.slice e))
    (hu : P.underlying u = some (.int k0)) (hin : P.info? e = some i) {z : List CV} (hz : zeroCs P e = some z) {p q v : CV} {H' : Heap} (hp : VR w F ι p (a.eval s)) (hq : VR w F ι q (a.eval x))
    (hc : heapOp (.appz i.size i.bytes z) [p, q] H = some (v, H')) : HOk P w F ι H a o v H' := by
  have hrun : ∀ {v' : Value} {w' : World}, (Builtin.append_ #[t, u] o.type #[a.eval s, a.eval x]).run P w = .ok v' w' → (execOp a.eval o).run P w = .ok (.value v') w' := by
    intro v' w' h
    simp only [execOp, ho, resolve, Sem.run_bind, invoke, Sem.run_pure, Result.andThen_ok, builtin, List.map_toArray, List.map_cons, List.map_nil, h]
  obtain ⟨zv, hz1, _⟩ := run_zero (P := P) (w := w) (F := F) (ι := ι) hz
  have hz2 : VRl w F ι.glob z zv.cells.toList := by
    obtain ⟨zv', h1, h2⟩ := run_zero (P := P) (w := w) (F := F) (ι := ι.glob) hz
    rw [h1] at hz1; cases hz1; exact h2
  have hzw : ∀ w' : World, (zeroValue e).run P w' = .ok zv w' := by
    intro w'
    simp only [zeroCs, Option.bind_eq_some_iff] at hz
    obtain ⟨zz, ⟨j, g1, g2⟩, _⟩ := hz
    have : (zeroValue e).run P w = .ok zz w := by simp [zeroValue, typeInfo, g1, g2]
    rw [this] at hz1; cases hz1
    simp [zeroValue, typeInfo, g1, g2]
  cases p <;> (try (simp [heapOp] at hc; done))
  cases q <;> (try (simp [heapOp] at hc; done))
  rename_i k1 l
  simp only [heapOp] at hc
  split at hc <;> (try cases hc)
  rename_i hb
  simp only [Bool.and_eq_true, Bool.not_eq_true', decide_eq_true_eq] at hb
  obtain ⟨⟨⟨⟨⟨⟨hsz, hby⟩, hl0⟩, hroom⟩, hzl⟩, hzone⟩, hzloc⟩ := hb
  obtain ⟨n, rfl⟩ := Int.eq_ofNat_of_zero_le (Int.le_of_lt hl0)
  have hn0 : 0 < n := by omega
  have hroom' : n * i.bytes ≤ 140737488355328 := by
    have : ((n * i.bytes : Nat) : Int) ≤ ((140737488355328 : Nat) : Int) := by rw [Int.natCast_mul]; exact hroom
    omega
  simp only [VR, BR] at hp hq
  have hzs : zv.cells.size = i.size := by have := VRl.length hz2; simpa [hzl] using this
  have hzc : ∀ n, ∀ v ∈ (Builtin.zeroCells zv.cells n).toList, oneV v = true := fun n => ones_oneV (zeroCells_repC hz2 n) (repC_ones hzone n)
  have hzlen : ∀ n, (Builtin.zeroCells zv.cells n).size = n * i.size := by
    intro n
    have := VRl.length (zeroCells_repC hz2 n)
    rw [repC_length, hzl] at this
    simpa using this
  obtain ⟨m, hm, hr⟩ := run_append_zeros (P := P) (w := w) (ty := o.type) (k1 := k1) ht hu hin hzw hsz hn0 hby hroom'
  rw [← hp, ← hq] at hr
  have hw := WTo.new w (.cells (Builtin.zeroCells zv.cells n ++ Builtin.zeroCells zv.cells (m - n)) e)
  have hw' : WTo w { w with drawn := w.drawn + 1, heap := w.heap.push (.cells (Builtin.zeroCells zv.cells n ++ Builtin.zeroCells zv.cells (m - n)) e) } w.heap.size := ⟨hw.os, hw.tape, hw.output, hw.size, hw.lt, hw.other, hw.csz⟩
  obtain ⟨hd, hf⟩ := hi.new_dead
  have hcr : CR w F ι.glob (repC z n) (Builtin.zeroCells zv.cells n ++ Builtin.zeroCells zv.cells (m - n)) :=
    CR.front (rest := (Builtin.zeroCells zv.cells (m - n)).toList) (zeroCells_repC hz2 n) (by simp)
  obtain ⟨h2, h3⟩ := hi.add hw' hd hf (e := e) (cs := repC z n) (by simp) hcr (get_of_mem (by simpa using oneV_append (hzc n) (hzc (m - n))))
  refine ⟨_, _, F, _, .inl (hrun hr), ?_, h2, Ext.add hi hw' (.inr (Nat.le_refl _)), h3⟩
  simp only [VR, Int.toNat_natCast]
  refine ⟨_, m, rfl, hm, .inr ⟨w.heap.size, (Builtin.zeroCells zv.cells n ++ Builtin.zeroCells zv.cells (m - n)).size, by rw [IM.get_push, hi.len, if_pos rfl], rfl, by simp [csize], ?_⟩⟩
  rw [Array.size_append, hzlen, hzlen, Nat.zero_add, ← Nat.add_mul]
  exact Nat.mul_le_mul_right _ (by omega)

theorem copy_ok (hi : Inv w F ι H) {o : Oper} {t u e : TypeId} {d x : Operand} (ho : o.op = .call { callee := .builtin .copy, args := #[d, x], argTypes := #[t, u] }) {n : Nat} (ht : P.underlying t = some (.slice e)) (hn : szOf P e = some n)
    {p q v : CV} {H' : Heap} (hp : VR w F ι p (a.eval d)) (hq : VR w F ι q (a.eval x)) (hc : heapOp (.copy n) [p, q] H = some (v, H')) : HOk P w F ι H a o v H' := by
  simp only [heapOp, Option.bind_eq_some_iff] at hc
  obtain ⟨new, hnew, hc⟩ := hc
  split at hc <;> (try cases hc)
  rename_i hb
  simp only [Bool.and_eq_true, Bool.not_eq_true'] at hb
  obtain ⟨xb, xc, us, hx1, hx2, hx3, hx4, hx5⟩ := shown_ok hi hnew hq
  unfold copyC at hc
  split at hc <;> (try cases hc)
  rename_i s id off len
  split at hc <;> (try cases hc)
  rename_i hs
  subst hs
  simp only [Option.bind_eq_some_iff] at hc
  obtain ⟨cs, hcs, hc⟩ := hc
  split at hc <;> (try cases hc)
  rename_i hcap
  obtain ⟨b, ca, eo, hb1, hb2, hb3, hb4⟩ := hi.cells id cs hcs
  have hcl := hb3.len
  simp only [VR] at hp
  obtain ⟨sb, cap, hp1, hp2, hp3⟩ := hp
  have hk : min (lenOf q) len * s ≤ len * s := Nat.mul_le_mul_right _ (Nat.min_le_right _ _)
  have hkq : min (lenOf q) len * s ≤ lenOf q * s := Nat.mul_le_mul_right _ (Nat.min_le_left _ _)
  have hone := ones_oneV hx4 hb.1
  have hx4n := noloc_of (i := id) hx4 (.inr hb.2)
  have hl : (new.take (min (lenOf q) len * s)).length = min (lenOf q) len * s := by simp; omega
  have hl' : (us.take (min (lenOf q) len * s)).length = min (lenOf q) len * s := by simp; omega
  have hread : us.take (min (lenOf q) len * s) = [] ∨ ∃ b o, xb = some ⟨b, o, none⟩ ∧ ∀ (j : Nat) (v : Value), (us.take (min (lenOf q) len * s))[j]? = some v → w.cell? ⟨b, o + j, none⟩ = some v := by
    rcases hx5 with rfl | ⟨b, o, h1, h2⟩
    · exact .inl (by simp)
    · refine .inr ⟨b, o, h1, fun j v hj => ?_⟩
      rw [List.getElem?_take] at hj
      split at hj
      · exact h2 j v hj
      · cases hj
  have hf := run_first (P := P) (w := w) (cap := xc) (n := min (lenOf q) len) (base := xb) hl' hread
  have hf' : (Builtin.firstCells s (min (lenOf q) len) (.slice xb (lenOf q) xc)).run P w = .ok (us.take (min (lenOf q) len * s)).toArray w := by
    cases xb <;> exact hf
  have hone2 : ∀ v ∈ us.take (min (lenOf q) len * s), oneV v = true := fun v hv => hone v (List.mem_of_mem_take hv)
  have hst : ∀ ad, sb = some ad → (storeCells ad (us.take (min (lenOf q) len * s))).run P w = .ok () (w.setCells b off (us.take (min (lenOf q) len * s))) := by
    intro ad had
    rcases hp3 with h0 | ⟨b', N, hg1, hg2, hg3, hg4⟩
    · have h0' : len = 0 := by omega
      have : min (lenOf q) len * s = 0 := by rw [h0']; simp
      rw [this]
      rfl
    · rw [hg1] at hb1; cases hb1
      rw [hg2] at had; cases had
      exact run_store' hb2 hone2 (by omega)
  have hsome : sb = none → w.setCells b off (us.take (min (lenOf q) len * s)) = w := by
    intro h
    rcases hp3 with h0 | ⟨b', N, hg1, hg2, hg3, hg4⟩
    · have h0' : len = 0 := by omega
      have : min (lenOf q) len * s = 0 := by rw [h0']; simp
      rw [this]
      rfl
    · rw [hg2] at h; cases h
  have hrun : (execOp a.eval o).run P w = .ok (.value (.int .i64 (min (lenOf q) len : Nat))) (w.setCells b off (us.take (min (lenOf q) len * s))) := by
    have : (Builtin.copy_ #[t, u] o.type #[a.eval d, a.eval x]).run P w = .ok (goInt (min (lenOf q) len : Nat)) (w.setCells b off (us.take (min (lenOf q) len * s))) := by
      rw [hp1, hx1]
      have hmin : Nat.min (lenOf q) len = min (lenOf q) len := rfl
      cases hsb : sb with
      | none =>
        rw [hsome hsb]
        simp [Builtin.copy_, run_under ht, run_sizeOf' hn, Builtin.lenOf, hf', hmin]
      | some ad =>
        have h2 := hst ad hsb
        simp [Builtin.copy_, run_under ht, run_sizeOf' hn, Builtin.lenOf, hf', h2, hmin]
    simp only [execOp, ho, resolve, Sem.run_bind, invoke, Sem.run_pure, Result.andThen_ok, builtin, List.map_toArray, List.map_cons, List.map_nil, this]
    rfl
  exact upd_ok hi hcs hb1 hb2 hb3 hb4 (hx4n.take _) hone2 (by omega) (fun w' => vr_int _ _) (.inl hrun)

theorem clear_ok (hi : Inv w F ι H) {o : Oper} {t e : TypeId} {x : Operand} (ho : o.op = .call { callee := .builtin .clear, args := #[x], argTypes := #[t] }) {n : Nat} (ht : P.underlying t = some (.slice e)) (hn : szOf P e = some n)
    {z : List CV} (hz : zeroCs P e = some z) {p v : CV} {H' : Heap} (hp : VR w F ι p (a.eval x)) (hc : heapOp (.clear n z) [p] H = some (v, H')) : HOk P w F ι H a o v H' := by
  simp only [heapOp] at hc
  split at hc <;> (try cases hc)
  rename_i hb
  simp only [Bool.and_eq_true, Bool.not_eq_true', decide_eq_true_eq] at hb
  obtain ⟨⟨hone, hloc⟩, hzl⟩ := hb
  simp only [Option.map_eq_some_iff, Prod.mk.injEq] at hc
  obtain ⟨Hn, hc, rfl, rfl⟩ := hc
  unfold clearC at hc
  split at hc <;> (try cases hc)
  rename_i s id off len
  split at hc <;> (try cases hc)
  rename_i hs
  subst hs
  simp only [Option.bind_eq_some_iff] at hc
  obtain ⟨cs, hcs, hc⟩ := hc
  split at hc <;> (try cases hc)
  rename_i hcap
  obtain ⟨zv, hz1, _⟩ := run_zero (P := P) (w := w) (F := F) (ι := ι) hz
  have hz2 : VRl w F (ι.of id) z zv.cells.toList := by
    obtain ⟨zv', h1, h2⟩ := run_zero (P := P) (w := w) (F := F) (ι := ι.of id) hz
    rw [h1] at hz1; cases hz1; exact h2
  have hrep := zeroCells_repC hz2 len
  have hro := ones_oneV hrep (repC_ones hone len)
  have hlen : (repC z len).length = len * s := by rw [repC_length, hzl]
  have hlen2 := VRl.length hrep
  obtain ⟨b, ca, eo, hb1, hb2, hb3, hb4⟩ := hi.cells id cs hcs
  have hcl := hb3.len
  simp only [VR] at hp
  obtain ⟨sb, cap, hp1, hp2, hp3⟩ := hp
  have hrun : (execOp a.eval o).run P w = .ok (.value (.tuple #[])) (w.setCells b off (Builtin.zeroCells zv.cells len).toList) := by
    have : (Builtin.clear_ #[t] o.type #[a.eval x]).run P w = .ok (.tuple #[]) (w.setCells b off (Builtin.zeroCells zv.cells len).toList) := by
      rw [hp1]
      rcases hp3 with h0 | ⟨b', N, hg1, hg2, hg3, hg4⟩
      · have h0' : len = 0 := by omega
        subst h0'
        have : (Builtin.zeroCells zv.cells 0).toList = [] := by
          apply List.length_eq_zero_iff.1
          rw [hlen2, hlen]; simp
        rw [this]
        cases sb <;> simp [Builtin.clear_, run_under ht, World.setCells]
      · rw [hg1] at hb1; cases hb1
        have hst := run_store' (P := P) (o := off) hb2 hro (by omega)
        rw [hg2]
        cases len with
        | zero =>
          have : (Builtin.zeroCells zv.cells 0).toList = [] := by
            apply List.length_eq_zero_iff.1
            rw [hlen2, hlen]; simp
          rw [this]
          simp [Builtin.clear_, run_under ht, World.setCells]
        | succ k => simp [Builtin.clear_, run_under ht, hz1, hst]
    simp only [execOp, ho, resolve, Sem.run_bind, invoke, Sem.run_pure, Result.andThen_ok, builtin, List.map_toArray, List.map_cons, List.map_nil, this]
  exact upd_ok hi hcs hb1 hb2 hb3 hb4 hrep hro (by omega) (fun w' => by simp only [VR]; exact ⟨#[], rfl, by simp [VRl]⟩) (.inl hrun)

end
end Go.Zc
