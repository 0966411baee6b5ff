/- What is owned, from step to step. No condition. -/
import Derived.Test.YtfblegjbmhgepaaZcPop
set_option linter.all false
namespace Go.Zc

theorem beq_ne {i j : Nat} (h : i ≠ j) : Nat.beq i j = false := by
  cases hb : Nat.beq i j with
  | false => rfl
  | true => exact (h (Nat.eq_of_beq_eq_true hb)).elim

theorem beq_self (i : Nat) : Nat.beq i i = true := by
  have := Nat.beq_eq_true_eq i i
  simp

theorem look_setBx : ∀ (bx : List (Nat × List CV)) (s : Nat) (cs : List CV) (t : Nat), look (setBx bx s cs) t = if t = s then some cs else look bx t
  | [], s, cs, t => by
    simp only [setBx, look]
    by_cases h : t = s
    · subst h; simp
    · simp [beq_ne (fun e => h e.symm), h]
  | (i, x) :: r, s, cs, t => by
    simp only [setBx]
    by_cases hi : i = s
    · subst hi
      simp only [beq_self, cond_true, look]
      by_cases h : t = i
      · subst h; simp
      · simp [beq_ne (fun e => h e.symm), h]
    · simp only [beq_ne hi, cond_false, look, look_setBx r s cs t]
      by_cases h2 : i = t
      · subst h2; simp [hi]
      · simp [beq_ne h2]

theorem get_put {H : Heap} {i : Id} {cs : List CV} (hi : ∀ n, i = .blk n → n < H.bl.length) (j : Id) : (H.put i cs).get j = if j = i then some cs else H.get j := by
  cases i with
  | loc s =>
    cases j with
    | loc t =>
      simp only [Heap.put, Heap.get, look_setBx, Id.loc.injEq]
    | blk m => simp [Heap.put, Heap.get]
  | blk n =>
    have hn := hi n rfl
    cases j with
    | loc t => simp [Heap.put, Heap.get]
    | blk m =>
      simp only [Heap.put, Heap.get, Id.blk.injEq, List.getElem?_set]
      by_cases h : n = m
      · subst h; simp [hn]
      · have : ¬ m = n := fun e => h e.symm
        simp [h, this]

theorem live_iff {H : Heap} {i : Id} : H.live i ↔ (∃ cs, H.get i = some cs) ∨ ∃ n es, i = .blk n ∧ H.bl[n]? = some (.map es) := by
  cases i with
  | loc s => simp [Heap.live, Heap.get]
  | blk n =>
    simp only [Heap.live, Heap.get, Id.blk.injEq]
    constructor
    · rintro ⟨b, hb, hd⟩
      cases b with
      | dead => simp [Blk.dead?] at hd
      | cells cs => exact .inl ⟨cs, by simp [hb]⟩
      | map es => exact .inr ⟨n, es, ⟨rfl, hb⟩⟩
    · rintro (⟨cs, h⟩ | ⟨m, es, rfl, h⟩)
      · split at h
        · rename_i c hc; exact ⟨_, hc, rfl⟩
        · cases h
      · exact ⟨_, h, rfl⟩

theorem put_map {H : Heap} {i : Id} {cs : List CV} {n : Nat} {es : List (CV × CV)} (h : (H.put i cs).bl[n]? = some (.map es)) : H.bl[n]? = some (.map es) := by
  cases i with
  | loc s => exact h
  | blk m =>
    simp only [Heap.put, List.getElem?_set] at h
    split at h
    · split at h <;> cases h
    · exact h

theorem live_put {H : Heap} {i : Id} {cs : List CV} (hi : ∀ n, i = .blk n → n < H.bl.length) {j : Id} (h : (H.put i cs).live j) : j = i ∨ H.live j := by
  rcases live_iff.1 h with ⟨c, h'⟩ | ⟨n, es, hj, h'⟩
  · rw [get_put hi] at h'
    split at h'
    · exact .inl ‹_›
    · exact .inr (live_iff.2 (.inl ⟨c, h'⟩))
  · exact .inr (live_iff.2 (.inr ⟨n, es, hj, put_map h'⟩))

theorem get_push {H : Heap} {cs : List CV} (i : Id) : (H.push (.cells cs)).get i = if i = .blk H.bl.length then some cs else H.get i := by
  cases i with
  | loc s => simp [Heap.push, Heap.get]
  | blk n =>
    simp only [Heap.push, Heap.get, Id.blk.injEq]
    rcases Nat.lt_trichotomy n H.bl.length with h | h | h
    · rw [List.getElem?_append_left h, if_neg (by omega)]
    · subst h; simp
    · rw [List.getElem?_eq_none (by simp; omega), if_neg (by omega), List.getElem?_eq_none (by omega)]

theorem live_push {H : Heap} {b : Blk} {j : Id} (h : (H.push b).live j) : j = .blk H.bl.length ∨ H.live j := by
  cases j with
  | loc s => exact .inr h
  | blk n =>
    obtain ⟨c, hc, hd⟩ := h
    rcases Nat.lt_trichotomy n H.bl.length with h | h | h
    · simp only [Heap.push] at hc
      rw [List.getElem?_append_left h] at hc
      exact .inr ⟨c, hc, hd⟩
    · exact .inl (by rw [h])
    · simp only [Heap.push] at hc
      rw [List.getElem?_eq_none (by simp; omega)] at hc
      cases hc

theorem get_kill {H : Heap} {m : Nat} (i : Id) : (H.kill (.blk m)).get i = if i = .blk m then none else H.get i := by
  cases i with
  | loc s => simp [Heap.kill, Heap.get]
  | blk n =>
    simp only [Heap.kill, Heap.get, Id.blk.injEq, List.getElem?_set]
    by_cases h : m = n
    · subst h
      by_cases h2 : m < H.bl.length <;> simp [h2]
    · have : ¬ n = m := fun e => h e.symm
      simp [h, this]

theorem live_kill {H : Heap} {m : Nat} {j : Id} (h : (H.kill (.blk m)).live j) : j ≠ .blk m ∧ H.live j := by
  cases j with
  | loc s => exact ⟨by simp, h⟩
  | blk n =>
    obtain ⟨c, hc, hd⟩ := h
    simp only [Heap.kill, List.getElem?_set] at hc
    by_cases hn : m = n
    · subst hn
      by_cases h2 : m < H.bl.length
      · simp [h2] at hc; subst hc; simp [Blk.dead?] at hd
      · simp [h2] at hc
    · rw [if_neg hn] at hc
      exact ⟨by simpa using fun e => hn e.symm, c, hc, hd⟩

theorem MoV.of {w w' : World} {F F' : Nat → Prop} {ι ι' : IM} (m : MoV w w' F F' ι ι') (i : Id) : MoV w w' F F' (ι.of i) (ι'.of i) := by
  refine ⟨m.toMo, ?_, m.c⟩
  cases i with
  | loc s => exact m.i
  | blk n =>
    intro j b hj
    cases j with
    | loc s => simp [IM.of, IM.glob, IM.get] at hj
    | blk k => exact m.i (.blk k) b hj

theorem CR.mono {w w' : World} {F F' : Nat → Prop} {ι ι' : IM} (m : MoV w w' F F' ι ι') {cs : List CV} {c : Array Value} (h : CR w F ι cs c) : CR w' F' ι' cs c :=
  fun j x hx => let ⟨u, h1, h2⟩ := h j x hx; ⟨u, h1, VR.mono m _ _ h2⟩

theorem ER.mono {w w' : World} {F F' : Nat → Prop} {ι ι' : IM} (m : MoV w w' F F' ι ι') {e : CV × CV} {x : MapEntry} (h : ER w F ι e x) : ER w' F' ι' e x :=
  ⟨BR.mono m.toMo _ _ h.key, h.one, VR.mono m _ _ h.val, h.vund⟩

theorem MR.mono {w w' : World} {F F' : Nat → Prop} {ι ι' : IM} (m : MoV w w' F F' ι ι') {es : List (CV × CV)} {ms : List MapEntry} (h : MR w F ι es ms) : MR w' F' ι' es ms := by
  induction h with
  | nil => exact .nil
  | cons h1 _ ih => exact .cons (h1.mono m) ih

theorem Inv.build {w w' : World} {F F' : Nat → Prop} {ι ι' : IM} {H H' : Heap} (hi : Inv w F ι H) (m : MoV w w' F F' ι ι') (hlen : ι'.bl.length = H'.bl.length)
    (hcells : ∀ i cs, H'.get i = some cs → (H.get i = some cs ∧ ∀ b, ι.get i = some b → w'.heap[b]? = w.heap[b]?) ∨
      ∃ b c e, ι'.get i = some b ∧ w'.heap[b]? = some (.cells c e (0, 0)) ∧ CR w' F' (ι'.of i) cs c ∧ ∀ (j : Nat) (x : Value), c[j]? = some x → oneV x = true)
    (hmaps : ∀ (n : Nat) (es : List (CV × CV)), H'.bl[n]? = some (.map es) → (H.bl[n]? = some (.map es) ∧ ∀ b, ι.bl[n]? = some b → w'.heap[b]? = w.heap[b]?) ∨
      ∃ b ms clock, ι'.bl[n]? = some b ∧ w'.heap[b]? = some (.map ms clock) ∧ MR w' F' ι'.glob es ms.toList ∧ Go.MapKept.Stamped ms clock)
    (hinj : ∀ i j b, H'.live i → H'.live j → ι'.get i = some b → ι'.get j = some b → i = j) (hdis : ∀ b, F' b → ¬ Live ι' H' b) (hlt : ∀ b, F' b → b < w'.heap.size)
    (hlo : ∀ s, look H'.bx s = none → ι'.lo s = none) : Inv w' F' ι' H' where
  len := hlen
  cells := fun i cs h => by
    rcases hcells i cs h with ⟨h1, h2⟩ | h1
    · obtain ⟨b, c, e, h3, h4, h5, h6⟩ := hi.cells i cs h1
      exact ⟨b, c, e, m.i _ _ h3, (h2 b h3).trans h4, h5.mono (m.of i), h6⟩
    · exact h1
  maps := fun n es h => by
    rcases hmaps n es h with ⟨h1, h2⟩ | h1
    · obtain ⟨b, ms, cl, h3, h4, h5, h6⟩ := hi.maps n es h1
      exact ⟨b, ms, cl, m.i (.blk n) _ h3, (h2 b h3).trans h4, h5.mono (m.of (.blk n)), h6⟩
    · exact h1
  inj := hinj
  dis := hdis
  lt := hlt
  lo := hlo

theorem Inv.live_lt {w : World} {F : Nat → Prop} {ι : IM} {H : Heap} (hi : Inv w F ι H) {b : Nat} (h : Live ι H b) : b < w.heap.size := by
  obtain ⟨i, h1, h2⟩ := h
  rcases live_iff.1 h1 with ⟨cs, h3⟩ | ⟨n, es, rfl, h3⟩
  · obtain ⟨b', c, e, h4, h5, _⟩ := hi.cells i cs h3
    rw [h2] at h4; cases h4
    exact (Array.getElem?_eq_some_iff.1 h5).1
  · obtain ⟨b', ms, cl, h4, h5, _⟩ := hi.maps n es h3
    have : ι.bl[n]? = some b := h2
    rw [this] at h4; cases h4
    exact (Array.getElem?_eq_some_iff.1 h5).1

theorem Inv.has {w : World} {F : Nat → Prop} {ι : IM} {H : Heap} (hi : Inv w F ι H) {i : Id} (h : H.live i) : ∃ b, ι.get i = some b := by
  rcases live_iff.1 h with ⟨cs, h3⟩ | ⟨n, es, rfl, h3⟩
  · obtain ⟨b, _, _, h4, _⟩ := hi.cells i cs h3; exact ⟨b, h4⟩
  · obtain ⟨b, _, _, h4, _⟩ := hi.maps n es h3; exact ⟨b, h4⟩

def IM.push (ι : IM) (b : Nat) : IM := ⟨ι.lo, ι.bl ++ [b]⟩
def IM.bind (ι : IM) (s b : Nat) : IM := ⟨fun t => if t = s then some b else ι.lo t, ι.bl⟩

theorem IM.get_push (ι : IM) (b : Nat) (i : Id) : (ι.push b).get i = if i = .blk ι.bl.length then some b else ι.get i := by
  cases i with
  | loc s => simp [IM.push, IM.get]
  | blk n =>
    simp only [IM.push, IM.get, Id.blk.injEq]
    rcases Nat.lt_trichotomy n ι.bl.length with h | h | h
    · rw [List.getElem?_append_left h, if_neg (by omega)]
    · subst h; simp
    · rw [List.getElem?_eq_none (by simp; omega), if_neg (by omega), List.getElem?_eq_none (by omega)]

theorem IM.push_le (ι : IM) (b : Nat) : ι.le (ι.push b) := by
  intro i x h
  rw [IM.get_push]
  split
  · rename_i e
    subst e
    simp [IM.get] at h
  · exact h

theorem IM.get_bind (ι : IM) (s b : Nat) (i : Id) : (ι.bind s b).get i = if i = .loc s then some b else ι.get i := by
  cases i <;> simp [IM.bind, IM.get]

theorem IM.bind_le {ι : IM} {s : Nat} (b : Nat) (h : ι.lo s = none) : ι.le (ι.bind s b) := by
  intro i x hx
  rw [IM.get_bind]
  split
  · rename_i e
    subst e
    simp [IM.get, h] at hx
  · exact hx

/-- Block b is (over)written; nothing else that was there turns. -/
structure WTo (w w' : World) (b : Nat) : Prop where
  os : w'.os = w.os
  tape : w'.tape = w.tape
  output : w'.output = w.output
  size : w.heap.size ≤ w'.heap.size
  lt : b < w'.heap.size
  other : ∀ k, k ≠ b → k < w.heap.size → w'.heap[k]? = w.heap[k]?
  csz : ∀ n, csize w b = some n → csize w' b = some n

theorem csize_of {w w' : World} {b : Nat} (h : w'.heap[b]? = w.heap[b]?) : csize w' b = csize w b := by simp only [csize, h]

theorem csize_lt {w : World} {b n : Nat} (h : csize w b = some n) : b < w.heap.size := by
  unfold csize at h
  split at h
  · rename_i h'; exact (Array.getElem?_eq_some_iff.1 h').1
  · cases h

theorem WTo.csize {w w' : World} {b : Nat} (h : WTo w w' b) (k n : Nat) (hk : csize w k = some n) : csize w' k = some n := by
  by_cases e : k = b
  · subst e; exact h.csz n hk
  · rw [csize_of (h.other k e (csize_lt hk))]; exact hk

/-- A block that was nobody's, or is new, is owned. -/
theorem Inv.add {w w' : World} {F : Nat → Prop} {ι : IM} {H : Heap} (hi : Inv w F ι H) {b : Nat} (hw : WTo w w' b) (hl : ¬ Live ι H b) (hf : ¬ F b) {c : Array Value} {e : TypeId} {cs : List CV}
    (hc : w'.heap[b]? = some (.cells c e (0, 0))) (hcr : CR w F ι.glob cs c) (h1 : ∀ (j : Nat) (x : Value), c[j]? = some x → oneV x = true) :
    Inv w' F (ι.push b) (H.push (.cells cs)) ∧ MoV w w' F F ι (ι.push b) := by
  have hm : MoV w w' F F ι (ι.push b) := ⟨⟨fun _ h => h, fun k hk => hw.other k (fun e => hf (e ▸ hk)) (hi.lt k hk)⟩, ι.push_le b, hw.csize⟩
  refine ⟨hi.build hm (by simp [IM.push, Heap.push, hi.len]) ?_ ?_ ?_ ?_ (fun k hk => Nat.lt_of_lt_of_le (hi.lt k hk) hw.size) hi.lo, hm⟩
  · intro i ds hd
    rw [Zc.get_push] at hd
    split at hd
    · rename_i hii
      cases hd
      right
      refine ⟨b, c, e, by rw [IM.get_push, hi.len, if_pos hii], hc, ?_, h1⟩
      rw [hii]
      exact hcr.mono (hm.of (.blk 0))
    · left
      refine ⟨hd, fun k hk => hw.other k (fun e => hl ⟨i, live_iff.2 (.inl ⟨ds, hd⟩), e ▸ hk⟩) (hi.live_lt ⟨i, live_iff.2 (.inl ⟨ds, hd⟩), hk⟩)⟩
  · intro n es hn
    left
    have hn' : H.bl[n]? = some (.map es) := by
      simp only [Heap.push] at hn
      rcases Nat.lt_trichotomy n H.bl.length with h | h | h
      · rwa [List.getElem?_append_left h] at hn
      · subst h; simp at hn
      · rw [List.getElem?_eq_none (by simp; omega)] at hn; cases hn
    refine ⟨hn', fun k hk => hw.other k (fun e => hl ⟨.blk n, live_iff.2 (.inr ⟨n, es, rfl, hn'⟩), e ▸ hk⟩) (hi.live_lt ⟨.blk n, live_iff.2 (.inr ⟨n, es, rfl, hn'⟩), hk⟩)⟩
  · intro i j k hi' hj' hik hjk
    rw [IM.get_push, hi.len] at hik hjk
    rcases live_push hi' with rfl | hi'
    · rcases live_push hj' with rfl | hj'
      · rfl
      · rw [if_pos rfl] at hik
        cases hik
        split at hjk
        · rename_i e; exact e.symm
        · exact (hl ⟨j, hj', hjk⟩).elim
    · rcases live_push hj' with rfl | hj'
      · rw [if_pos rfl] at hjk
        cases hjk
        split at hik
        · rename_i e; exact e
        · exact (hl ⟨i, hi', hik⟩).elim
      · split at hik
        · rename_i e
          subst e
          obtain ⟨x, hx⟩ := hi.has hi'
          simp [IM.get, ← hi.len] at hx
        · split at hjk
          · rename_i e
            subst e
            obtain ⟨x, hx⟩ := hi.has hj'
            simp [IM.get, ← hi.len] at hx
          · exact hi.inj i j k hi' hj' hik hjk
  · rintro k hk ⟨i, h1, h2⟩
    rw [IM.get_push, hi.len] at h2
    split at h2
    · cases h2; exact hf hk
    · rcases live_push h1 with rfl | h1
      · rename_i hne; exact hne rfl
      · exact hi.dis k hk ⟨i, h1, h2⟩

/-- A new box of the frame's own. -/
theorem Inv.bind {w w' : World} {F : Nat → Prop} {ι : IM} {H : Heap} (hi : Inv w F ι H) {b s : Nat} (hw : WTo w w' b) (hl : ¬ Live ι H b) (hf : ¬ F b) (hs : look H.bx s = none) {c : Array Value} {e : TypeId} {cs : List CV}
    (hc : w'.heap[b]? = some (.cells c e (0, 0))) (hcr : CR w F ι cs c) (h1 : ∀ (j : Nat) (x : Value), c[j]? = some x → oneV x = true) :
    Inv w' F (ι.bind s b) (H.put (.loc s) cs) ∧ MoV w w' F F ι (ι.bind s b) := by
  have hm : MoV w w' F F ι (ι.bind s b) := ⟨⟨fun _ h => h, fun k hk => hw.other k (fun e => hf (e ▸ hk)) (hi.lt k hk)⟩, IM.bind_le b (hi.lo s hs), hw.csize⟩
  have hblk : ∀ n, Id.loc s = .blk n → n < H.bl.length := by intro n h; cases h
  refine ⟨hi.build hm (by simp [IM.bind, Heap.put, hi.len]) ?_ ?_ ?_ ?_ (fun k hk => Nat.lt_of_lt_of_le (hi.lt k hk) hw.size) ?_, hm⟩
  · intro i ds hd
    rw [get_put hblk] at hd
    split at hd
    · rename_i hii
      cases hd
      right
      refine ⟨b, c, e, by rw [IM.get_bind, if_pos hii], hc, ?_, h1⟩
      rw [hii]
      exact hcr.mono hm
    · left
      refine ⟨hd, fun k hk => hw.other k (fun e => hl ⟨i, live_iff.2 (.inl ⟨ds, hd⟩), e ▸ hk⟩) (hi.live_lt ⟨i, live_iff.2 (.inl ⟨ds, hd⟩), hk⟩)⟩
  · intro n es hn
    left
    have hn' : H.bl[n]? = some (.map es) := hn
    refine ⟨hn', fun k hk => hw.other k (fun e => hl ⟨.blk n, live_iff.2 (.inr ⟨n, es, rfl, hn'⟩), e ▸ hk⟩) (hi.live_lt ⟨.blk n, live_iff.2 (.inr ⟨n, es, rfl, hn'⟩), hk⟩)⟩
  · intro i j k hi' hj' hik hjk
    rw [IM.get_bind] at hik hjk
    rcases live_put hblk hi' with rfl | hi'
    · rcases live_put hblk hj' with rfl | hj'
      · rfl
      · rw [if_pos rfl] at hik
        cases hik
        split at hjk
        · rename_i e; exact e.symm
        · exact (hl ⟨j, hj', hjk⟩).elim
    · rcases live_put hblk hj' with rfl | hj'
      · rw [if_pos rfl] at hjk
        cases hjk
        split at hik
        · rename_i e; exact e
        · exact (hl ⟨i, hi', hik⟩).elim
      · split at hik
        · rename_i e
          subst e
          obtain ⟨x, hx⟩ := hi'
          rw [hs] at hx; cases hx
        · split at hjk
          · rename_i e
            subst e
            obtain ⟨x, hx⟩ := hj'
            rw [hs] at hx; cases hx
          · exact hi.inj i j k hi' hj' hik hjk
  · rintro k hk ⟨i, h1, h2⟩
    rw [IM.get_bind] at h2
    split at h2
    · cases h2; exact hf hk
    · rcases live_put hblk h1 with rfl | h1
      · rename_i hne; exact hne rfl
      · exact hi.dis k hk ⟨i, h1, h2⟩
  · intro t ht
    simp only [Heap.put, look_setBx] at ht
    split at ht
    · cases ht
    · rename_i hne
      simp only [IM.bind, if_neg hne]
      exact hi.lo t ht

/-- What is owned is written. -/
theorem Inv.upd {w w' : World} {F : Nat → Prop} {ι : IM} {H : Heap} (hi : Inv w F ι H) {i : Id} {b : Nat} {old : List CV} (hg : H.get i = some old) (hb : ι.get i = some b) (hw : WTo w w' b) {c : Array Value} {e : TypeId} {cs : List CV}
    (hc : w'.heap[b]? = some (.cells c e (0, 0))) (hcr : CR w F (ι.of i) cs c) (h1 : ∀ (j : Nat) (x : Value), c[j]? = some x → oneV x = true) :
    Inv w' F ι (H.put i cs) ∧ MoV w w' F F ι ι := by
  have hli : H.live i := live_iff.2 (.inl ⟨old, hg⟩)
  have hlive : Live ι H b := ⟨i, hli, hb⟩
  have hm : MoV w w' F F ι ι := ⟨⟨fun _ h => h, fun k hk => hw.other k (fun e => hi.dis k hk (e ▸ hlive)) (hi.lt k hk)⟩, fun _ _ h => h, hw.csize⟩
  have hblk : ∀ n, i = .blk n → n < H.bl.length := by
    rintro n rfl
    simp only [Heap.get] at hg
    split at hg
    · rename_i h; exact (List.getElem?_eq_some_iff.1 h).1
    · cases hg
  have hlp : ∀ {j}, (H.put i cs).live j → H.live j := fun h => by
    rcases live_put hblk h with rfl | h
    · exact hli
    · exact h
  refine ⟨hi.build hm ?_ ?_ ?_ (fun j k x hj hk => hi.inj j k x (hlp hj) (hlp hk)) (fun k hk ⟨j, h1, h2⟩ => hi.dis k hk ⟨j, hlp h1, h2⟩) (fun k hk => Nat.lt_of_lt_of_le (hi.lt k hk) hw.size) ?_, hm⟩
  · cases i <;> simp [Heap.put, hi.len]
  · intro j ds hd
    rw [get_put hblk] at hd
    split at hd
    · rename_i hii
      cases hd
      right
      subst hii
      exact ⟨b, c, e, hb, hc, hcr.mono (hm.of j), h1⟩
    · rename_i hne
      left
      refine ⟨hd, fun k hk => hw.other k ?_ (hi.live_lt ⟨j, live_iff.2 (.inl ⟨ds, hd⟩), hk⟩)⟩
      rintro rfl
      exact hne (hi.inj j i k (live_iff.2 (.inl ⟨ds, hd⟩)) hli hk hb)
  · intro n es hn
    left
    have hn' := put_map hn
    refine ⟨hn', fun k hk => hw.other k ?_ (hi.live_lt ⟨.blk n, live_iff.2 (.inr ⟨n, es, rfl, hn'⟩), hk⟩)⟩
    rintro rfl
    have := hi.inj (.blk n) i k (live_iff.2 (.inr ⟨n, es, rfl, hn'⟩)) hli hk hb
    subst this
    simp [Heap.get, hn'] at hg
  · intro s hs
    refine hi.lo s ?_
    cases i with
    | loc t =>
      simp only [Heap.put, look_setBx] at hs
      split at hs
      · cases hs
      · exact hs
    | blk n => exact hs

/-- Who owns less keeps what he has. -/
theorem Inv.kill {w : World} {F : Nat → Prop} {ι : IM} {H : Heap} (hi : Inv w F ι H) (m : Nat) : Inv w F ι (H.kill (.blk m)) where
  len := by simp [Heap.kill, hi.len]
  cells := fun i cs h => by
    rw [get_kill] at h
    split at h
    · cases h
    · exact hi.cells i cs h
  maps := fun n es h => by
    have : H.bl[n]? = some (.map es) := by
      simp only [Heap.kill, List.getElem?_set] at h
      split at h
      · split at h <;> cases h
      · exact h
    exact hi.maps n es this
  inj := fun i j b h1 h2 => hi.inj i j b (live_kill h1).2 (live_kill h2).2
  dis := fun b hb ⟨i, h1, h2⟩ => hi.dis b hb ⟨i, (live_kill h1).2, h2⟩
  lt := hi.lt
  lo := hi.lo

/-- More is frozen that nobody owns. -/
theorem Inv.freeze {w : World} {F F' : Nat → Prop} {ι : IM} {H : Heap} (hi : Inv w F ι H) (hF : ∀ b, F b → F' b) (hd : ∀ b, F' b → ¬ Live ι H b) (hl : ∀ b, F' b → b < w.heap.size) : Inv w F' ι H := by
  have m : MoV w w F F' ι ι := ⟨⟨hF, fun _ _ => rfl⟩, fun _ _ h => h, fun _ _ h => h⟩
  exact hi.build m hi.len (fun i cs h => .inl ⟨h, fun _ _ => rfl⟩) (fun n es h => .inl ⟨h, fun _ _ => rfl⟩) hi.inj hd hl hi.lo

end Go.Zc
