/- Operations on memory: slices that are made, appended to, copied. No condition. -/
import Derived.Test.YtmkdhpjidhbijaaZcHeap2
set_option linter.all false
namespace Go.Zc

section
variable {P : Program} {w : World} {F : Nat → Prop} {ι : IM} {H : Heap} {env : Env} {a : Act}

theorem BRc.of_list : ∀ {cs : List CV} {us : List Value} {b o : Nat}, BRl w F cs us → (∀ (j : Nat) (v : Value), us[j]? = some v → w.cell? ⟨b, o + j, none⟩ = some v) → BRc w F cs b o
  | [], _, _, _, _, _ => by simp [BRc]
  | c :: cs, us, b, o, h, hc => by
    simp only [BRl] at h
    obtain ⟨u, us', rfl, h1, h2⟩ := h
    simp only [BRc]
    refine ⟨⟨u, by simpa using hc 0 u rfl, h1⟩, BRc.of_list h2 fun j v hj => ?_⟩
    have := hc (j + 1) v (by simpa using hj)
    rwa [show o + (j + 1) = o + 1 + j by omega] at this

/-- New memory that nobody writes. -/
theorem hok_frozen (hi : Inv w F ι H) {o : Oper} {c : Array Value} {e : TypeId} {cs : List CV} {n : Nat} (hc : VRl w F ι cs c.toList) (hr : CV.refs cs = false)
    (hrun : (execOp a.eval o).run P w = .ok (.value (.slice (some ⟨w.heap.size, 0, none⟩) n n)) { w with heap := w.heap.push (.cells c e) }) : HOk P w F ι H a o (.vs cs n) H := by
  have hw := WTo.new w (.cells c e)
  obtain ⟨hd, hf⟩ := hi.new_dead
  have hF : ∀ b, F b → (F b ∨ b = w.heap.size) := fun _ h => .inl h
  have hm : MoV w { w with heap := w.heap.push (.cells c e) } F (fun b => F b ∨ b = w.heap.size) ι ι :=
    ⟨⟨hF, fun k hk => hw.other k (by have := hi.lt k hk; omega) (hi.lt k hk)⟩, fun _ _ h => h, hw.csize⟩
  refine ⟨_, _, fun b => F b ∨ b = w.heap.size, ι, .inl hrun, ?_, ?_, ?_, hm⟩
  · simp only [VR, BR]
    refine ⟨_, _, rfl, Nat.le_refl _, .inr ⟨w.heap.size, 0, rfl, .inr rfl, ?_⟩⟩
    refine BRc.of_list (BRl.mono hm.toMo _ _ (VRl.bv _ _ hr hc)) fun j v hj => ?_
    have : c[j]? = some v := by simpa using hj
    simp [World.cell?, this]
  · refine hi.build hm hi.len (fun i cs h => .inl ⟨h, fun b hb => ?_⟩) (fun n es h => .inl ⟨h, fun b hb => ?_⟩) hi.inj ?_ ?_ hi.lo
    · have := hi.live_lt ⟨i, live_iff.2 (.inl ⟨cs, h⟩), hb⟩
      exact hw.other b (by omega) this
    · have := hi.live_lt ⟨.blk n, live_iff.2 (.inr ⟨n, es, rfl, h⟩), hb⟩
      exact hw.other b (by omega) this
    · rintro b (hb | rfl)
      · exact hi.dis b hb
      · exact hd
    · rintro b (hb | rfl)
      · have := hi.lt b hb; simp; omega
      · simp
  · exact ⟨rfl, rfl, rfl, fun _ _ h => h, hF, fun b hb => hb.imp id (fun h => by omega), by simp, hw.csize, fun b hb _ => hw.other b (by omega) hb, fun _ h => .inl h⟩

theorem bsl_ok (he : EnvR w F ι env a) (hi : Inv w F ι H) {o : Oper} {t e : TypeId} {len : Nat} {parts : Array (Nat × Operand)} (ho : o.op = .buildSlice t len parts) (ht : P.underlying t = some (.slice e)) {n : Nat} (hn : szOf P e = some n)
    {z : List CV} (hz : zeroCs P e = some z) (hzl : z.length = n) (hpos : 0 < n) (hcap : len * n ≤ 16777216) {ps : List (Nat × Nat)} {ys : List Opd} (hp : placesA n parts.toList = some (ps, ys)) {v : CV} {H' : Heap}
    {h : HOp} (hh : h = .bslF n len z ps ∨ h = .bslO n len z ps) (hc : heapOp h (evs env ys) H = some (v, H')) : HOk P w F ι H a o v H' := by
  obtain ⟨h1, h2, h3, h4⟩ := placesA_ok he hp
  obtain ⟨zv, hz1, hz2⟩ := run_zero (P := P) (w := w) (F := F) (ι := ι) hz
  have hzs : zv.cells.size = n := by have := VRl.length hz2; simpa [hzl] using this
  have run : ∀ {out : List CV}, fillC (repC z len) (ps.zip (evs env ys)) = some out → ∃ c : Array Value, VRl w F ι out c.toList ∧
      (execOp a.eval o).run P w = .ok (.value (.slice (some ⟨w.heap.size, 0, none⟩) len len)) { w with heap := w.heap.push (.cells c e) } := by
    intro out hf
    have hzero : VRl w F ι (repC z len) ((Array.range (len * n)).map ((if len * n = 0 then #[] else zv.cells)[· % (if len * n = 0 then #[] else zv.cells).size]!)).toList := by
      by_cases h0 : len * n = 0
      · have hl : (repC z len).length = 0 := by rw [repC_length, hzl]; exact h0
        rw [List.length_eq_zero_iff.1 hl]
        simp [h0, VRl]
      · rw [if_neg h0]
        have := zeroCells_repC hz2 len
        simpa [Builtin.zeroCells, hzs] using this
    obtain ⟨us', h6, h7⟩ := fill_ok (w := w) (F := F) (ι := ι) (place := fun i => some (i * n, n)) (parts.toList.map fun x => (x.1, a.eval x.2)) ps (evs env ys) _ out _
      (by simpa [Function.comp_def] using h3) (by simpa using h1) (fun j q hq => by
        simp only [List.getElem?_map, Option.map_eq_some_iff] at hq
        obtain ⟨q', hq', rfl⟩ := hq
        exact ⟨_, h4 j q' hq', rfl⟩) hzero hf
    refine ⟨us', h7, ?_⟩
    have hcap' : ¬ (len * n > 2 ^ 24) := by omega
    have hpl : (parts.map fun (x : Nat × Operand) => (x.1, a.eval x.2)).toList = parts.toList.map fun x => (x.1, a.eval x.2) := by simp
    simp only [execOp, ho, Instr.buildSlice, Sem.run_bind, run_under ht, Result.andThen_ok, run_sizeOf' hn, if_neg hcap']
    by_cases h0 : len * n = 0
    · have hl0 : len = 0 := by
        rcases Nat.mul_eq_zero.1 h0 with h | h
        · exact h
        · omega
      subst hl0
      have r0 : Array.range 0 = #[] := rfl
      simp only [Nat.zero_mul, if_true, r0, Array.map_empty] at h6
      simp [newRow, r0, h6]
    · simp only [if_neg h0] at h6 ⊢
      simp only [Sem.run_bind, hz1, Sem.run_pure, Result.andThen_ok, hpl, h6]
      simp [newRow]
  rcases hh with rfl | rfl <;> simp only [heapOp] at hc <;> split at hc <;> (try cases hc) <;> simp only [Option.bind_eq_some_iff] at hc <;> obtain ⟨out, hf, hc⟩ := hc <;> split at hc <;> (try cases hc) <;>
    rename_i hb <;> simp only [Bool.and_eq_true, Bool.not_eq_true', decide_eq_true_eq] at hb <;> obtain ⟨c, g1, g2⟩ := run hf
  · exact hok_frozen hi g1 hb.1.2 g2
  · refine hok_add hi (VRl.noloc _ _ hb.1.2 g1) (ones_oneV g1 hb.1.1) g2 ?_
    simp only [VR]
    refine ⟨_, _, rfl, Nat.le_refl _, .inr ⟨w.heap.size, c.size, by rw [IM.get_push, hi.len, if_pos rfl], rfl, by simp [csize], ?_⟩⟩
    have := VRl.length g1
    have hs : c.size = out.length := by simpa using this
    omega

theorem mksl_ok (hi : Inv w F ι H) {o : Oper} {t e : TypeId} {l c : Operand} (ho : o.op = .makeSlice t l c) (ht : P.underlying t = some (.slice e)) {i : TypeInfo} (hin : P.info? e = some i) {z : List CV} (hz : zeroCs P e = some z) (hpos : 0 < i.size)
    {p q v : CV} {H' : Heap} (hp : VR w F ι p (a.eval l)) (hq : VR w F ι q (a.eval c)) (hc : heapOp (.mksl i.size i.bytes z) [p, q] H = some (v, H')) : HOk P w F ι H a o v H' := by
  simp only [heapOp] at hc
  split at hc <;> (try cases hc)
  rename_i hb
  simp only [Bool.and_eq_true, Bool.not_eq_true', decide_eq_true_eq] at hb
  obtain ⟨⟨hzl, hone⟩, hloc⟩ := hb
  unfold mkslC at hc
  split at hc <;> (try cases hc)
  rename_i k x k' y
  split at hc <;> (try cases hc)
  rename_i hcond
  obtain ⟨e1, e2, e3, e4⟩ := hcond
  obtain ⟨zv, hz1, hz2⟩ := run_zero (P := P) (w := w) (F := F) (ι := ι) hz
  have hn : szOf P e = some i.size := by simp [szOf, hin]
  have hzs : zv.cells.size = i.size := by have := VRl.length hz2; simpa [hzl] using this
  obtain ⟨m, rfl⟩ : ∃ m : Nat, y = m := ⟨y.toNat, by omega⟩
  obtain ⟨x', rfl⟩ : ∃ m : Nat, x = m := ⟨x.toNat, by omega⟩
  have w1 : IntKind.i64.wrap (x' : Int) = x' := by simp only [IntKind.wrap, IntKind.bits, IntKind.signed]; simp only [Bool.true_and]; split <;> simp_all <;> omega
  have w2 : IntKind.i64.wrap (m : Int) = m := by simp only [IntKind.wrap, IntKind.bits, IntKind.signed]; simp only [Bool.true_and]; split <;> simp_all <;> omega
  have hrep := zeroCells_repC hz2 m
  have hmk : (Instr.makeSlice t (a.eval l) (a.eval c)).run P w = .ok (.slice (some ⟨w.heap.size, 0, none⟩) x' m) { w with heap := w.heap.push (.cells (Builtin.zeroCells zv.cells m) e) } := by
    have t1 : ¬ ((i.bytes : Int) * (m : Int) > 2 ^ 48) := by rw [Int.mul_comm]; omega
    have b1 : (decide ((m : Int) < 0) || decide ((i.bytes : Int) * (m : Int) > 2 ^ 48)) = false := by simp; omega
    simp only [Instr.makeSlice, Sem.run_bind, run_under ht, Result.andThen_ok, hp.int, hq.int, asInt, asIntOf, Sem.run_pure, typeInfo, run_program, hin, w1, w2, b1]
    have b2 : (false || decide ((x' : Int) < 0) || decide ((x' : Int) > (m : Int))) = false := by simp; omega
    simp only [b2, Bool.false_eq_true, if_false, Int.toNat_natCast]
    by_cases h0 : m * i.size = 0
    · have hm0 : m = 0 := by
        rcases Nat.mul_eq_zero.1 h0 with h | h
        · exact h
        · omega
      subst hm0
      have r0 : Array.range 0 = #[] := rfl
      simp [newRow, Builtin.zeroCells, run_sizeOf' hn, r0]
    · simp [newRow, Builtin.zeroCells, hzs, run_sizeOf' hn, hz1, h0]
  have hrun : (execOp a.eval o).run P w = .ok (.value (.slice (some ⟨w.heap.size, 0, none⟩) x' m)) { w with heap := w.heap.push (.cells (Builtin.zeroCells zv.cells m) e) } := by
    simp [execOp, ho, hmk]
  simp only [Int.toNat_natCast]
  have hlocs : CV.locs (repC z m) = false := by
    have : ∀ n, CV.locs (repC z n) = false := by
      intro n
      induction n with
      | zero => rfl
      | succ n ih =>
        have : ∀ (l r : List CV), CV.locs (l ++ r) = (CV.locs l || CV.locs r) := by
          intro l r
          induction l with
          | nil => simp [CV.locs]
          | cons c l ih => simp [CV.locs, ih, Bool.or_assoc]
        simp [repC, this, hloc, ih]
    exact this m
  refine hok_add hi (VRl.noloc _ _ hlocs hrep) (ones_oneV hrep (repC_ones hone m)) hrun ?_
  simp only [VR]
  refine ⟨_, _, rfl, by omega, .inr ⟨w.heap.size, (Builtin.zeroCells zv.cells m).size, by rw [IM.get_push, hi.len, if_pos rfl], rfl, by simp [csize], ?_⟩⟩
  have hs : (Builtin.zeroCells zv.cells m).size = m * z.length := by
    have := VRl.length hrep
    rw [repC_length] at this
    simpa using this
  rw [hs, hzl]
  omega

end
end Go.Zc
