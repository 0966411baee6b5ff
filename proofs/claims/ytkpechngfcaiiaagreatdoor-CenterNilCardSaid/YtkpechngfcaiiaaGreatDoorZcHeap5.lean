/- Operations on memory: maps, and all at once. No condition. -/
import Derived.Test.YtkpechngfcaiiaaGreatDoorZcPop3
import Derived.Laws.BytesString
import Derived.Orders
set_option linter.all false
section
namespace Go.Zc
variable [Globs]

section
variable {P : Program} {w : World} {F : Nat → Prop} {ι : IM} {H : Heap} {env : Env} {a : Act}

/-- A map's block is written, or new. -/
theorem Inv.setMap (hi : Inv w F ι H) {w' : World} {n b : Nat} {es es' : List (CV × CV)} (hn : H.bl[n]? = some (.map es)) (hb : ι.bl[n]? = some b) (hw : WTo w w' b) {ms : Array MapEntry} {cl : Nat}
    (hm : w'.heap[b]? = some (.map ms cl)) (hmr : MR w F ι.glob es' ms.toList) (hst : Go.MapKept.Stamped ms cl) :
    Inv w' F ι { H with bl := H.bl.set n (.map es') } ∧ MoV w w' F F ι ι ∧ Ext w F ι H w' F ι { H with bl := H.bl.set n (.map es') } := by
  have hli : H.live (.blk n) := live_iff.2 (.inr ⟨n, es, rfl, hn⟩)
  have hlive : Live ι H b := ⟨.blk n, hli, hb⟩
  have hmo : MoV w w' F F ι ι := ⟨⟨fun _ h => h, fun k hk => hw.other k (fun e => hi.dis k hk (e ▸ hlive)) (hi.lt k hk)⟩, fun _ _ h => h, hw.csize⟩
  have hget : ∀ i cs, ({ H with bl := H.bl.set n (.map es') } : Heap).get i = some cs → H.get i = some cs := by
    intro i cs h
    cases i with
    | loc s => exact h
    | blk m =>
      simp only [Heap.get, List.getElem?_set] at h ⊢
      by_cases hnm : n = m
      · subst hnm
        rw [if_pos rfl] at h
        split at h
        · rename_i hx
          split at hx <;> cases hx
        · cases h
      · rwa [if_neg hnm] at h
  have hlv : ∀ i, ({ H with bl := H.bl.set n (.map es') } : Heap).live i → H.live i := by
    intro i h
    rcases live_iff.1 h with ⟨cs, h'⟩ | ⟨m, es2, rfl, h'⟩
    · exact live_iff.2 (.inl ⟨cs, hget i cs h'⟩)
    · by_cases hnm : n = m
      · subst hnm; exact hli
      · change (H.bl.set n (.map es'))[m]? = _ at h'
        rw [List.getElem?_set, if_neg hnm] at h'
        exact live_iff.2 (.inr ⟨m, es2, rfl, h'⟩)
  refine ⟨hi.build hmo (by simp [hi.len]) ?_ ?_ (fun i j x h1 h2 => hi.inj i j x (hlv i h1) (hlv j h2)) (fun x hx ⟨i, h1, h2⟩ => hi.dis x hx ⟨i, hlv i h1, h2⟩) (fun x hx => Nat.lt_of_lt_of_le (hi.lt x hx) hw.size) hi.lo, hmo,
    Ext.to hw (fun _ _ h => h) (.inl hlive) (fun x ⟨i, h1, h2⟩ => .inl ⟨i, hlv i h1, h2⟩)⟩
  · intro i cs h
    left
    have h' := hget i cs h
    refine ⟨h', fun k hk => hw.other k ?_ (hi.live_lt ⟨i, live_iff.2 (.inl ⟨cs, h'⟩), hk⟩)⟩
    rintro rfl
    have := hi.inj i (.blk n) k (live_iff.2 (.inl ⟨cs, h'⟩)) hli hk hb
    subst this
    simp [Heap.get, hn] at h'
  · intro m es2 h
    by_cases hnm : n = m
    · subst hnm
      right
      have hlt : n < H.bl.length := (List.getElem?_eq_some_iff.1 hn).1
      simp only [List.getElem?_set, if_true, hlt] at h
      cases h
      exact .inl ⟨b, ms, cl, hb, hm, hmr.mono (hmo.of (.blk n)), hst⟩
    · left
      simp only [List.getElem?_set, if_neg hnm] at h
      refine ⟨h, fun k hk => hw.other k ?_ (hi.live_lt ⟨.blk m, live_iff.2 (.inr ⟨m, es2, rfl, h⟩), hk⟩)⟩
      rintro rfl
      have := hi.inj (.blk m) (.blk n) k (live_iff.2 (.inr ⟨m, es2, rfl, h⟩)) hli hk hb
      cases this
      exact hnm rfl

theorem Inv.setIt (hi : Inv w F ι H) {w' : World} {n b : Nat} {es es' : List (CV × CV)} (hn : H.bl[n]? = some (.map es)) (hb : ι.bl[n]? = some b) (hw : WTo w w' b) 
    (hok : ItOk ι es' w'.heap[b]?) :
    Inv w' F ι { H with bl := H.bl.set n (.map es') } ∧ MoV w w' F F ι ι ∧ Ext w F ι H w' F ι { H with bl := H.bl.set n (.map es') } := by
  have hli : H.live (.blk n) := live_iff.2 (.inr ⟨n, es, rfl, hn⟩)
  have hlive : Live ι H b := ⟨.blk n, hli, hb⟩
  have hmo : MoV w w' F F ι ι := ⟨⟨fun _ h => h, fun k hk => hw.other k (fun e => hi.dis k hk (e ▸ hlive)) (hi.lt k hk)⟩, fun _ _ h => h, hw.csize⟩
  have hget : ∀ i cs, ({ H with bl := H.bl.set n (.map es') } : Heap).get i = some cs → H.get i = some cs := by
    intro i cs h
    cases i with
    | loc s => exact h
    | blk m =>
      simp only [Heap.get, List.getElem?_set] at h ⊢
      by_cases hnm : n = m
      · subst hnm
        rw [if_pos rfl] at h
        split at h
        · rename_i hx
          split at hx <;> cases hx
        · cases h
      · rwa [if_neg hnm] at h
  have hlv : ∀ i, ({ H with bl := H.bl.set n (.map es') } : Heap).live i → H.live i := by
    intro i h
    rcases live_iff.1 h with ⟨cs, h'⟩ | ⟨m, es2, rfl, h'⟩
    · exact live_iff.2 (.inl ⟨cs, hget i cs h'⟩)
    · by_cases hnm : n = m
      · subst hnm; exact hli
      · change (H.bl.set n (.map es'))[m]? = _ at h'
        rw [List.getElem?_set, if_neg hnm] at h'
        exact live_iff.2 (.inr ⟨m, es2, rfl, h'⟩)
  refine ⟨hi.build hmo (by simp [hi.len]) ?_ ?_ (fun i j x h1 h2 => hi.inj i j x (hlv i h1) (hlv j h2)) (fun x hx ⟨i, h1, h2⟩ => hi.dis x hx ⟨i, hlv i h1, h2⟩) (fun x hx => Nat.lt_of_lt_of_le (hi.lt x hx) hw.size) hi.lo, hmo,
    Ext.to hw (fun _ _ h => h) (.inl hlive) (fun x ⟨i, h1, h2⟩ => .inl ⟨i, hlv i h1, h2⟩)⟩
  · intro i cs h
    left
    have h' := hget i cs h
    refine ⟨h', fun k hk => hw.other k ?_ (hi.live_lt ⟨i, live_iff.2 (.inl ⟨cs, h'⟩), hk⟩)⟩
    rintro rfl
    have := hi.inj i (.blk n) k (live_iff.2 (.inl ⟨cs, h'⟩)) hli hk hb
    subst this
    simp [Heap.get, hn] at h'
  · intro m es2 h
    by_cases hnm : n = m
    · subst hnm
      right
      have hlt : n < H.bl.length := (List.getElem?_eq_some_iff.1 hn).1
      simp only [List.getElem?_set, if_true, hlt] at h
      cases h
      exact .inr ⟨b, hb, hok⟩
    · left
      simp only [List.getElem?_set, if_neg hnm] at h
      refine ⟨h, fun k hk => hw.other k ?_ (hi.live_lt ⟨.blk m, live_iff.2 (.inr ⟨m, es2, rfl, h⟩), hk⟩)⟩
      rintro rfl
      have := hi.inj (.blk m) (.blk n) k (live_iff.2 (.inr ⟨m, es2, rfl, h⟩)) hli hk hb
      cases this
      exact hnm rfl

theorem Inv.addMap (hi : Inv w F ι H) : Inv { w with heap := w.heap.push (.map #[] 0) } F (ι.push w.heap.size) (H.push (.map [])) ∧ MoV w { w with heap := w.heap.push (.map #[] 0) } F F ι (ι.push w.heap.size) := by
  have hw := WTo.new w (.map #[] 0)
  obtain ⟨hl, hf⟩ := hi.new_dead
  have hm : MoV w { w with heap := w.heap.push (.map #[] 0) } F F ι (ι.push w.heap.size) := ⟨⟨fun _ h => h, fun k hk => hw.other k (fun e => hf (e ▸ hk)) (hi.lt k hk)⟩, ι.push_le _, hw.csize⟩
  have hget : ∀ i cs, (H.push (.map [])).get i = some cs → H.get i = some cs := by
    intro i cs h
    cases i with
    | loc s => exact h
    | blk n =>
      simp only [Heap.push, Heap.get] at h ⊢
      rcases Nat.lt_trichotomy n H.bl.length with h' | h' | h'
      · rwa [List.getElem?_append_left h'] at h
      · subst h'; simp at h
      · rw [List.getElem?_eq_none (by simp; omega)] at h; cases h
  refine ⟨hi.build hm (by simp [IM.push, Heap.push, hi.len]) ?_ ?_ ?_ ?_ (fun k hk => Nat.lt_of_lt_of_le (hi.lt k hk) hw.size) hi.lo, hm⟩
  · intro i ds hd
    left
    have hd := hget i ds hd
    exact ⟨hd, fun k hk => hw.other k (fun e => hl ⟨i, live_iff.2 (.inl ⟨ds, hd⟩), e ▸ hk⟩) (hi.live_lt ⟨i, live_iff.2 (.inl ⟨ds, hd⟩), hk⟩)⟩
  · intro n es hn
    simp only [Heap.push] at hn
    rcases Nat.lt_trichotomy n H.bl.length with h | h | h
    · rw [List.getElem?_append_left h] at hn
      exact .inl ⟨hn, fun k hk => hw.other k (fun e => hl ⟨.blk n, live_iff.2 (.inr ⟨n, es, rfl, hn⟩), e ▸ hk⟩) (hi.live_lt ⟨.blk n, live_iff.2 (.inr ⟨n, es, rfl, hn⟩), hk⟩)⟩
    · subst h
      simp at hn
      subst hn
      right
      refine .inl ⟨w.heap.size, #[], 0, ?_, by simp, .nil, Go.MapKept.stamped_empty 0⟩
      simp [IM.push, ← hi.len]
    · rw [List.getElem?_eq_none (by simp; omega)] at hn; cases hn
  · intro i j k hi' hj' hik hjk
    rw [IM.get_push, hi.len] at hik hjk
    rcases live_push hi' with rfl | hi'
    · rcases live_push hj' with rfl | hj'
      · rfl
      · rw [if_pos rfl] at hik
        cases hik
        split at hjk
        · rename_i e; exact e.symm
        · exact (hl ⟨j, hj', hjk⟩).elim
    · rcases live_push hj' with rfl | hj'
      · rw [if_pos rfl] at hjk
        cases hjk
        split at hik
        · rename_i e; exact e
        · exact (hl ⟨i, hi', hik⟩).elim
      · split at hik
        · rename_i e
          subst e
          obtain ⟨x, hx⟩ := hi.has hi'
          simp [IM.get, ← hi.len] at hx
        · split at hjk
          · rename_i e
            subst e
            obtain ⟨x, hx⟩ := hi.has hj'
            simp [IM.get, ← hi.len] at hx
          · exact hi.inj i j k hi' hj' hik hjk
  · rintro k hk ⟨i, h1, h2⟩
    rw [IM.get_push, hi.len] at h2
    split at h2
    · cases h2; exact hf hk
    · rcases live_push h1 with rfl | h1
      · rename_i hne; exact hne rfl
      · exact hi.dis k hk ⟨i, h1, h2⟩

theorem Inv.addIt (hi : Inv w F ι H) {o : Obj} {es : List (CV × CV)} (hok : ItOk ι es (some o)) : Inv { w with heap := w.heap.push o } F (ι.push w.heap.size) (H.push (.map es)) ∧ MoV w { w with heap := w.heap.push o } F F ι (ι.push w.heap.size) := by
  have hw := WTo.new w o
  obtain ⟨hl, hf⟩ := hi.new_dead
  have hm : MoV w { w with heap := w.heap.push o } F F ι (ι.push w.heap.size) := ⟨⟨fun _ h => h, fun k hk => hw.other k (fun e => hf (e ▸ hk)) (hi.lt k hk)⟩, ι.push_le _, hw.csize⟩
  have hget : ∀ i cs, (H.push (.map es)).get i = some cs → H.get i = some cs := by
    intro i cs h
    cases i with
    | loc s => exact h
    | blk n =>
      simp only [Heap.push, Heap.get] at h ⊢
      rcases Nat.lt_trichotomy n H.bl.length with h' | h' | h'
      · rwa [List.getElem?_append_left h'] at h
      · subst h'; simp at h
      · rw [List.getElem?_eq_none (by simp; omega)] at h; cases h
  refine ⟨hi.build hm (by simp [IM.push, Heap.push, hi.len]) ?_ ?_ ?_ ?_ (fun k hk => Nat.lt_of_lt_of_le (hi.lt k hk) hw.size) hi.lo, hm⟩
  · intro i ds hd
    left
    have hd := hget i ds hd
    exact ⟨hd, fun k hk => hw.other k (fun e => hl ⟨i, live_iff.2 (.inl ⟨ds, hd⟩), e ▸ hk⟩) (hi.live_lt ⟨i, live_iff.2 (.inl ⟨ds, hd⟩), hk⟩)⟩
  · intro n es0 hn
    simp only [Heap.push] at hn
    rcases Nat.lt_trichotomy n H.bl.length with h | h | h
    · rw [List.getElem?_append_left h] at hn
      exact .inl ⟨hn, fun k hk => hw.other k (fun e => hl ⟨.blk n, live_iff.2 (.inr ⟨n, es0, rfl, hn⟩), e ▸ hk⟩) (hi.live_lt ⟨.blk n, live_iff.2 (.inr ⟨n, es0, rfl, hn⟩), hk⟩)⟩
    · subst h
      simp at hn
      subst hn
      right
      refine .inr ⟨w.heap.size, by simp [IM.push, ← hi.len], ?_⟩
      have e : (w.heap.push o)[w.heap.size]? = some o := by simp
      show ItOk (ι.push w.heap.size) es (w.heap.push o)[w.heap.size]?
      rw [e]
      exact hok.mono fun k x hx => ι.push_le _ (.blk k) x hx
    · rw [List.getElem?_eq_none (by simp; omega)] at hn; cases hn
  · intro i j k hi' hj' hik hjk
    rw [IM.get_push, hi.len] at hik hjk
    rcases live_push hi' with rfl | hi'
    · rcases live_push hj' with rfl | hj'
      · rfl
      · rw [if_pos rfl] at hik
        cases hik
        split at hjk
        · rename_i e; exact e.symm
        · exact (hl ⟨j, hj', hjk⟩).elim
    · rcases live_push hj' with rfl | hj'
      · rw [if_pos rfl] at hjk
        cases hjk
        split at hik
        · rename_i e; exact e
        · exact (hl ⟨i, hi', hik⟩).elim
      · split at hik
        · rename_i e
          subst e
          obtain ⟨x, hx⟩ := hi.has hi'
          simp [IM.get, ← hi.len] at hx
        · split at hjk
          · rename_i e
            subst e
            obtain ⟨x, hx⟩ := hi.has hj'
            simp [IM.get, ← hi.len] at hx
          · exact hi.inj i j k hi' hj' hik hjk
  · rintro k hk ⟨i, h1, h2⟩
    rw [IM.get_push, hi.len] at h2
    split at h2
    · cases h2; exact hf hk
    · rcases live_push h1 with rfl | h1
      · rename_i hne; exact hne rfl
      · exact hi.dis k hk ⟨i, h1, h2⟩

theorem mkmap_ok (hi : Inv w F ι H) {o : Oper} {t : TypeId} (ho : o.op = .makeMap t none) : HOk P w F ι H a o (.om H.bl.length) (H.push (.map [])) := by
  obtain ⟨h1, h2⟩ := hi.addMap
  refine ⟨.map (some w.heap.size), _, F, _, .inl ?_, ?_, h1, Ext.add hi (WTo.new w _) (.inr (Nat.le_refl _)), h2⟩
  · simp [execOp, ho, Instr.makeMap]
  · simp only [VR]
    exact ⟨w.heap.size, by simp [IM.push, ← hi.len], rfl⟩

/-! ### Keys -/

def KK (kk : Nat) (d : TypeDesc) : Prop := (kk = 0 ∧ ∃ k, d = .int k) ∨ (kk = 1 ∧ d = .string) ∨ (kk = 2 ∧ d = .bool)

theorem plainKey_ok {t : TypeId} {kk : Nat} (h : plainKey P t = some kk) : ∃ d, P.underlying t = some d ∧ KK kk d := by
  unfold plainKey at h
  split at h <;> (try cases h)
  · rename_i k ht; exact ⟨_, ht, .inl ⟨rfl, k, rfl⟩⟩
  · rename_i ht; exact ⟨_, ht, .inr (.inl ⟨rfl, rfl⟩)⟩
  · rename_i ht; exact ⟨_, ht, .inr (.inr ⟨rfl, rfl⟩)⟩

theorem mkey_ok {kk : Nat} {d : TypeDesc} (hd : KK kk d) {p q : CV} {u v : Value} {b : Bool} (h : mkey kk p q = some b) (hp : VR w F ι p u) (hq : BR w F q v) : Instr.sameNow d u v = some b := by
  have hq' := BR.vr (ι := ι) q v hq
  rcases hd with ⟨rfl, k, rfl⟩ | ⟨rfl, rfl⟩ | ⟨rfl, rfl⟩
  · cases p <;> cases q <;> simp only [mkey, reduceCtorEq] at h
    split at h
    · rename_i hk
      cases h
      rw [hp.int, hq'.int]
      simp [Instr.sameNow, hk]
    · cases h
  · cases p <;> cases q <;> simp only [mkey, reduceCtorEq] at h
    cases h
    rw [hp.str, hq'.str]
    simp [Instr.sameNow]
  · cases p <;> cases q <;> simp only [mkey, reduceCtorEq] at h
    cases h
    rw [hp.bool, hq'.bool]
    simp [Instr.sameNow]

theorem mfind_ok {kk : Nat} {d : TypeDesc} (hd : KK kk d) {k : CV} {u : Value} (hk : VR w F ι k u) : ∀ {es : List (CV × CV)} {ms : List MapEntry} {i : Nat} {r : Option (Nat × CV)}, MR w F ι.glob es ms → mfind kk k es i = some r →
    (r = none ∧ Instr.findNow d u ms i = some none) ∨ ∃ j v v' m, r = some (j, v) ∧ Instr.findNow d u ms i = some (some (j, v')) ∧ i ≤ j ∧ ms[j - i]? = some m ∧ m.val = v' ∧ VR w F ι.glob v v' ∧ Instr.sameNow d u m.key = some true ∧ (∃ e, es[j - i]? = some e ∧ e.2 = v)
  | [], _, i, r, hm, h => by
    cases hm
    simp only [mfind, Option.some.injEq] at h
    exact .inl ⟨h.symm, rfl⟩
  | e :: es, _, i, r, hm, h => by
    cases hm with
    | cons h1 h2 =>
      rename_i m ms
      simp only [mfind] at h
      cases hmk : mkey kk k e.1 with
      | none => simp [hmk] at h
      | some b =>
        have hs := mkey_ok (ι := ι) hd hmk hk h1.key
        cases b with
        | true =>
          simp only [hmk, Option.some.injEq] at h
          subst h
          exact .inr ⟨i, e.2, m.val, m, rfl, by simp [Instr.findNow, hs], Nat.le_refl _, by simp, rfl, h1.val, hs, e, by simp, rfl⟩
        | false =>
          simp only [hmk] at h
          rcases mfind_ok hd hk h2 h with ⟨rfl, h3⟩ | ⟨j, v, v', m', rfl, h3, h4, h5, h6, h7, h8, e', h9, h10⟩
          · exact .inl ⟨rfl, by simp [Instr.findNow, hs, h3]⟩
          · refine .inr ⟨j, v, v', m', rfl, by simp [Instr.findNow, hs, h3], by omega, ?_, h6, h7, h8, e', ?_, h10⟩
            · rw [show j - i = (j - (i + 1)) + 1 by omega]; simpa using h5
            · rw [show j - i = (j - (i + 1)) + 1 by omega]; simpa using h9

theorem checkKey_ok {kk : Nat} {t : TypeId} {d : TypeDesc} (ht : P.underlying t = some d) (hd : KK kk d) (em : Bool) (v : Value) (n : Nat) (w : World) : (Instr.checkKey em (n + 1) t v).run P w = .ok () w := by
  rcases hd with ⟨rfl, k, rfl⟩ | ⟨rfl, rfl⟩ | ⟨rfl, rfl⟩ <;> simp [Instr.checkKey, run_under ht]

theorem mkey_self {kk : Nat} {k : CV} {b : Bool} (h : mkey kk k k = some b) : k.ref = false ∧ k.one = true := by
  match kk, k with
  | 0, .int _ _ => exact ⟨rfl, rfl⟩
  | 1, .str _ => exact ⟨rfl, rfl⟩
  | 2, .bool _ => exact ⟨rfl, rfl⟩
  | 0, .und | 0, .bool _ | 0, .float _ _ | 0, .cplx _ _ _ | 0, .str _ | 0, .nilp | 0, .op _ _ | 0, .vp _ | 0, .nils | 0, .os _ _ _ _ | 0, .vs _ _ | 0, .nilm | 0, .om _ | 0, .fn _ _ _ | 0, .nilf | 0, .ifc _ _ | 0, .nili | 0, .agg _ | 0, .tup _ => simp [mkey] at h
  | 1, .und | 1, .bool _ | 1, .float _ _ | 1, .cplx _ _ _ | 1, .int _ _ | 1, .nilp | 1, .op _ _ | 1, .vp _ | 1, .nils | 1, .os _ _ _ _ | 1, .vs _ _ | 1, .nilm | 1, .om _ | 1, .fn _ _ _ | 1, .nilf | 1, .ifc _ _ | 1, .nili | 1, .agg _ | 1, .tup _ => simp [mkey] at h
  | 2, .und | 2, .str _ | 2, .float _ _ | 2, .cplx _ _ _ | 2, .int _ _ | 2, .nilp | 2, .op _ _ | 2, .vp _ | 2, .nils | 2, .os _ _ _ _ | 2, .vs _ _ | 2, .nilm | 2, .om _ | 2, .fn _ _ _ | 2, .nilf | 2, .ifc _ _ | 2, .nili | 2, .agg _ | 2, .tup _ => simp [mkey] at h
  | n + 3, _ => simp [mkey] at h

theorem zeroCV_ok {t : TypeId} {z : CV} (h : zeroCV P t = some z) : ∃ v, (∀ w : World, (zeroValue t).run P w = .ok v w) ∧ VR w F ι z v := by
  simp only [zeroCV, Option.bind_eq_some_iff] at h
  obtain ⟨v, ⟨i, h1, h2⟩, h3⟩ := h
  exact ⟨v, fun w => by simp [zeroValue, typeInfo, h1, h2], cOfA_ok h3⟩

theorem vr_tup2 {x y : CV} {u v : Value} (hx : VR w F ι x u) (hy : VR w F ι y v) : VR w F ι (.tup [x, y]) (.tuple #[u, v]) := by
  simp only [VR, VRl]
  exact ⟨_, rfl, u, [v], rfl, hx, v, [], rfl, hy, rfl⟩

theorem mfind_itE {kk : Nat} {k : CV} {es : List (CV × CV)} {i : Nat} {r : Option (Nat × CV)} (h : mfind kk k es i = some r) : itE es = false := by
  unfold itE
  split
  · exfalso
    unfold mfind at h
    split at h <;> rename_i hm
    · unfold mkey at hm; split at hm <;> simp_all
    · unfold mkey at hm; split at hm <;> simp_all
    · cases h
  · rfl

theorem look_ok (hi : Inv w F ι H) {o : Oper} {t kt e : TypeId} {m k : Operand} {ok : Bool} (ho : o.op = .lookup t m k ok) (ht : P.underlying t = some (.map kt e)) {kk : Nat} (hk : plainKey P kt = some kk) {z : CV} (hz : zeroCV P e = some z)
    {p q v : CV} {H' : Heap} (hp : VR w F ι p (a.eval m)) (hq : VR w F ι q (a.eval k)) (hc : heapOp (.look kk z ok) [p, q] H = some (v, H')) : HOk P w F ι H a o v H' := by
  obtain ⟨d, hd, hkk⟩ := plainKey_ok hk
  obtain ⟨zv, hz1, hz2⟩ := zeroCV_ok (w := w) (F := F) (ι := ι) hz
  simp only [heapOp, Option.map_eq_some_iff, Prod.mk.injEq] at hc
  obtain ⟨v', hc, rfl, rfl⟩ := hc
  have fin : ∀ {u : Value}, (Instr.lookup t (a.eval m) (a.eval k) ok).run P w = .ok u w → VR w F ι v' u → HOk P w F ι H a o v' H := by
    intro u h1 h2
    exact ⟨u, w, F, ι, .inl (by simp [execOp, ho, h1]), h2, hi, Ext.refl _ _ _ _, ⟨⟨fun _ h => h, fun _ _ => rfl⟩, fun _ _ h => h, fun _ _ h => h⟩⟩
  have hck : ∀ em, (Instr.checkKey em 10000 kt (a.eval k)).run P w = .ok () w := fun em => checkKey_ok (n := 9999) hd hkk em _ w
  unfold lookC at hc
  split at hc <;> (try cases hc)
  · simp only [Option.map_eq_some_iff] at hc
    obtain ⟨_, _, rfl⟩ := hc
    simp only [VR, BR] at hp
    have hf : (Instr.findKey kt (a.eval k) ([] : List MapEntry)).run P w = .ok none w := by simp [Instr.findKey, run_under hd, Instr.findNow]
    cases ok with
    | true => exact fin (u := .tuple #[zv, .bool false]) (by simp [Instr.lookup, run_under ht, hp, hck, hf, hz1]) (vr_tup2 hz2 (vr_bool _))
    | false => exact fin (u := zv) (by simp [Instr.lookup, run_under ht, hp, hck, hf, hz1]) hz2
  · rename_i n
    split at hc <;> (try cases hc)
    rename_i es hes
    simp only [Option.bind_eq_some_iff] at hc
    obtain ⟨r, hr, hc⟩ := hc
    obtain ⟨b, ms, cl, h1, h2, h3, hst⟩ := hi.real hes (mfind_itE hr)
    simp only [VR] at hp
    obtain ⟨b', h4, h5⟩ := hp
    rw [h1] at h4; cases h4
    have hobj : (getObj b).run P w = .ok (.map ms cl) w := by simp [getObj, Sem.run, h2]
    rcases mfind_ok hkk hq h3 hr with ⟨rfl, h6⟩ | ⟨j, v2, u2, me, rfl, h6, _, _, _, h7, _, _⟩
    · simp only [Option.map_eq_some_iff] at hc
      obtain ⟨_, _, rfl⟩ := hc
      have hf : (Instr.findKey kt (a.eval k) ms.toList).run P w = .ok none w := by simp [Instr.findKey, run_under hd, h6]
      cases ok with
      | true => exact fin (u := .tuple #[zv, .bool false]) (by simp [Instr.lookup, run_under ht, h5, hobj, hck, hf, hz1]) (vr_tup2 hz2 (vr_bool _))
      | false => exact fin (u := zv) (by simp [Instr.lookup, run_under ht, h5, hobj, hck, hf, hz1]) hz2
    · simp only [Option.some.injEq] at hc
      have hf : (Instr.findKey kt (a.eval k) ms.toList).run P w = .ok (some (j, u2)) w := by simp [Instr.findKey, run_under hd, h6]
      have hv2 : VR w F ι v2 u2 := VR.mono ⟨⟨fun _ h => h, fun _ _ => rfl⟩, ι.glob_le, fun _ _ h => h⟩ _ _ h7
      cases ok with
      | true =>
        subst hc
        exact fin (u := .tuple #[u2, .bool true]) (by simp [Instr.lookup, run_under ht, h5, hobj, hck, hf]) (vr_tup2 hv2 (vr_bool _))
      | false =>
        subst hc
        exact fin (u := u2) (by simp [Instr.lookup, run_under ht, h5, hobj, hck, hf]) hv2

/-- A map's block in the world. -/
theorem WTo.obj {b : Nat} {ms ms' : Array MapEntry} {cl cl' : Nat} (h : w.heap[b]? = some (.map ms cl)) : WTo w { w with heap := w.heap.setIfInBounds b (.map ms' cl') } b ∧
    ({ w with heap := w.heap.setIfInBounds b (.map ms' cl') } : World).heap[b]? = some (.map ms' cl') := by
  have hlt := (Array.getElem?_eq_some_iff.1 h).1
  refine ⟨⟨rfl, rfl, rfl, by simp, by simpa using hlt, fun k hk _ => by
    show (w.heap.setIfInBounds b _)[k]? = _
    rw [Array.getElem?_setIfInBounds, if_neg (fun e => hk e.symm)], fun n hn => ?_⟩, by simp [hlt]⟩
  unfold Zc.csize at hn
  rw [h] at hn
  cases hn

theorem run_setObj {b : Nat} {ms ms' : Array MapEntry} {cl cl' : Nat} (h : w.heap[b]? = some (.map ms cl)) : (setObj b (.map ms' cl')).run P w = .ok () { w with heap := w.heap.setIfInBounds b (.map ms' cl') } := by
  simp [setObj, Sem.run, h]

theorem MR.modify {es : List (CV × CV)} {ms : List MapEntry} (h : MR w F ι es ms) : ∀ (i : Nat) {v : CV} {m' : MapEntry → MapEntry}, (∀ (e : CV × CV) (m : MapEntry), es[i]? = some e → ms[i]? = some m → ER w F ι e m → ER w F ι (e.1, v) (m' m)) →
    MR w F ι (es.modify i fun e => (e.1, v)) (ms.modify i m') := by
  induction h with
  | nil => intro i v m' _; simp; exact .nil
  | cons h1 h2 ih =>
    intro i v m' hm
    cases i with
    | zero => simpa using MR.cons (hm _ _ rfl rfl h1) h2
    | succ i => simpa using MR.cons h1 (ih i fun e m he hm' => hm e m (by simpa using he) (by simpa using hm'))

theorem MR.eraseIdx {es : List (CV × CV)} {ms : List MapEntry} (h : MR w F ι es ms) : ∀ (i : Nat), MR w F ι (es.eraseIdx i) (ms.eraseIdx i) := by
  induction h with
  | nil => intro i; simp; exact .nil
  | cons h1 h2 ih =>
    intro i
    cases i with
    | zero => simpa using h2
    | succ i => simpa using MR.cons h1 (ih i)

theorem MR.append {es es' : List (CV × CV)} {ms ms' : List MapEntry} (h : MR w F ι es ms) (h' : MR w F ι es' ms') : MR w F ι (es ++ es') (ms ++ ms') := by
  induction h with
  | nil => simpa using h'
  | cons h1 _ ih => exact .cons h1 ih

theorem sameNow_bits {d : TypeDesc} {u v : Value} (hd : d ≠ .string) (h : Instr.sameNow d u v = some true) (n : Nat) : Instr.sameBits n v u = true ∧ u = v := by
  unfold Instr.sameNow at h
  split at h <;> (try cases h)
  · split at h
    · rename_i hk
      simp only [Option.some.injEq, beq_iff_eq] at h
      subst h; subst hk
      cases n <;> simp [Instr.sameBits]
    · cases h
  · exact (hd rfl).elim
  · simp only [Option.some.injEq, beq_iff_eq] at h
    subst h
    cases n <;> simp [Instr.sameBits]

theorem hok_map (hi : Inv w F ι H) {o : Oper} {n b : Nat} {es es' : List (CV × CV)} {ms ms' : Array MapEntry} {cl cl' : Nat} (hn : H.bl[n]? = some (.map es)) (hb : ι.bl[n]? = some b) (hw : w.heap[b]? = some (.map ms cl)) (hmr : MR w F ι.glob es' ms'.toList) (hst : Go.MapKept.Stamped ms' cl')
    (hrun : (execOp a.eval o).run P w = .ok .skip { w with heap := w.heap.setIfInBounds b (.map ms' cl') } ∨ (execOp a.eval o).run P w = .ok (.value (.tuple #[])) { w with heap := w.heap.setIfInBounds b (.map ms' cl') }) :
    HOk P w F ι H a o (.tup []) { H with bl := H.bl.set n (.map es') } := by
  obtain ⟨h1, h2⟩ := WTo.obj (ms' := ms') (cl' := cl') hw
  obtain ⟨h3, h4, h5⟩ := hi.setMap hn hb h1 h2 hmr hst
  refine ⟨undef, _, F, ι, hrun.elim (fun h => .inr ⟨h, rfl⟩) (fun h => .inl h), ?_, h3, h5, h4⟩
  simp only [VR, undef]
  exact ⟨#[], rfl, by simp [VRl]⟩

theorem KK.desc {kk : Nat} {d : TypeDesc} (h : KK kk d) : (∃ q, d = .int q) ∨ d = .string ∨ d = .bool := by
  rcases h with ⟨_, h⟩ | ⟨_, h⟩ | ⟨_, h⟩
  · exact .inl h
  · exact .inr (.inl h)
  · exact .inr (.inr h)
theorem findNow_none {d : TypeDesc} {k : Value} (hd : (∃ q, d = .int q) ∨ d = .string ∨ d = .bool) : ∀ {l : List MapEntry} {i : Nat}, Instr.findNow d k l i = some none → ∀ x ∈ l, x.key ≠ k
  | [], _, _, x, hx => by simp at hx
  | e :: es, i, h, x, hx => by
    unfold Instr.findNow at h
    rcases hs : Instr.sameNow d k e.key with _ | (_ | _)
    · simp [hs] at h
    · simp only [hs] at h
      rcases List.mem_cons.1 hx with rfl | hx
      · intro e
        rw [e] at hs
        rcases hd with ⟨q, rfl⟩ | rfl | rfl <;> cases k <;> simp [Instr.sameNow] at hs
        exact absurd ((Go.MapKept.bytes_beq _ _).2 rfl) (by rw [hs]; decide)
      · exact findNow_none hd h x hx
    · simp [hs] at h

theorem mput_ok (hi : Inv w F ι H) {o : Oper} {t kt e : TypeId} {m k x : Operand} (ho : o.op = .mapUpdate t m k x) (ht : P.underlying t = some (.map kt e)) {kk : Nat} (hk : plainKey P kt = some kk)
    {p q r v : CV} {H' : Heap} (hp : VR w F ι p (a.eval m)) (hq : VR w F ι q (a.eval k)) (hr : VR w F ι r (a.eval x)) (hc : heapOp (.mput kk) [p, q, r] H = some (v, H')) : HOk P w F ι H a o v H' := by
  obtain ⟨d, hd, hkk⟩ := plainKey_ok hk
  simp only [heapOp] at hc
  split at hc <;> (try cases hc)
  rename_i hb
  simp only [Bool.or_eq_true, not_or, Bool.not_eq_true] at hb
  have hrg := VR.noloc _ _ hb.2 hr
  have hru : r ≠ .und := by rintro rfl; simp [CV.und?] at hb
  simp only [Option.map_eq_some_iff, Prod.mk.injEq] at hc
  obtain ⟨Hn, hc, rfl, rfl⟩ := hc
  unfold mputC at hc
  split at hc <;> (try cases hc)
  rename_i n
  split at hc <;> (try cases hc)
  rename_i hk1
  split at hc <;> (try cases hc)
  rename_i es hes
  simp only [Option.bind_eq_some_iff] at hc
  obtain ⟨rr, hrr, hc⟩ := hc
  obtain ⟨b, ms, cl, h1, h2, h3, hst⟩ := hi.real hes (mfind_itE hrr)
  simp only [VR] at hp
  obtain ⟨b', h4, h5⟩ := hp
  rw [h1] at h4; cases h4
  have hck : ∀ em, (Instr.checkKey em 10000 kt (a.eval k)).run P w = .ok () w := fun em => checkKey_ok (n := 9999) hd hkk em _ w
  have hobj : (getObj b).run P w = .ok (.map ms cl) w := by simp [getObj, Sem.run, h2]
  rcases mfind_ok hkk hq h3 hrr with ⟨rfl, h6⟩ | ⟨j, v2, u2, me, rfl, h6, _, h8, _, _, h10, _⟩
  · simp only [Option.map_eq_some_iff] at hc
    obtain ⟨bb, hself, rfl⟩ := hc
    obtain ⟨hqr, hqo⟩ := mkey_self hself
    have hf : (Instr.findKey kt (a.eval k) ms.toList).run P w = .ok none w := by simp [Instr.findKey, run_under hd, h6]
    refine hok_map hi hes h1 h2 (ms' := ms.push { key := a.eval k, val := a.eval x, born := cl }) (cl' := cl + 1) ?_ (Go.MapKept.stamped_push hst (findNow_none hkk.desc h6)) (.inl ?_)
    · simp only [Array.toList_push]
      refine h3.append (.cons ⟨VR.bv _ _ hqr hq, hqo, hrg, hru⟩ .nil)
    · simp [execOp, ho, Instr.mapUpdate, run_under ht, h5, hobj, hck, hf, run_setObj h2]
  · simp only [Option.some.injEq] at hc
    subst hc
    obtain ⟨hbits, hkeq⟩ := sameNow_bits (by
      rcases hkk with ⟨_, _, rfl⟩ | ⟨h, _⟩ | ⟨_, rfl⟩
      · simp
      · exact (hk1 h).elim
      · simp) h10 10000
    have hf : (Instr.findKey kt (a.eval k) ms.toList).run P w = .ok (some (j, u2)) w := by simp [Instr.findKey, run_under hd, h6]
    have hme : ms[j]? = some me := by simpa using h8
    refine hok_map hi hes h1 h2 (ms' := ms.modify j fun e => { e with key := a.eval k, val := a.eval x }) (cl' := cl) ?_ (Go.MapKept.stamped_modify hst j _ (fun _ _ => rfl) (fun e _ he => by rw [hme] at he; cases he; exact hkeq)) (.inl ?_)
    · rw [Array.toList_modify]
      refine h3.modify j fun e m he hm hem => ⟨?_, hem.one, hrg, hru⟩
      have : m = me := by
        have : ms.toList[j]? = some me := by simpa using hme
        rw [this] at hm; cases hm; rfl
      subst this
      have hk := hem.key
      show BR w F e.1 (a.eval k)
      rw [hkeq]; exact hk
    · simp [execOp, ho, Instr.mapUpdate, run_under ht, h5, hobj, hck, hf, Instr.keyThatStays, hme, hbits, run_setObj h2]

theorem mdel_ok (hi : Inv w F ι H) {o : Oper} {t u kt e : TypeId} {m k : Operand} (ho : o.op = .call { callee := .builtin .delete, args := #[m, k], argTypes := #[t, u] }) (ht : P.underlying t = some (.map kt e)) {kk : Nat} (hk : plainKey P kt = some kk)
    {p q v : CV} {H' : Heap} (hp : VR w F ι p (a.eval m)) (hq : VR w F ι q (a.eval k)) (hc : heapOp (.mdel kk) [p, q] H = some (v, H')) : HOk P w F ι H a o v H' := by
  obtain ⟨d, hd, hkk⟩ := plainKey_ok hk
  simp only [heapOp, Option.map_eq_some_iff, Prod.mk.injEq] at hc
  obtain ⟨Hn, hc, rfl, rfl⟩ := hc
  unfold mdelC at hc
  split at hc <;> (try cases hc)
  rename_i n
  split at hc <;> (try cases hc)
  rename_i es hes
  simp only [Option.bind_eq_some_iff] at hc
  obtain ⟨rr, hrr, hc⟩ := hc
  obtain ⟨b, ms, cl, h1, h2, h3, hst⟩ := hi.real hes (mfind_itE hrr)
  simp only [VR] at hp
  obtain ⟨b', h4, h5⟩ := hp
  rw [h1] at h4; cases h4
  have hck : ∀ em, (Instr.checkKey em 10000 kt (a.eval k)).run P w = .ok () w := fun em => checkKey_ok (n := 9999) hd hkk em _ w
  have hobj : (getObj b).run P w = .ok (.map ms cl) w := by simp [getObj, Sem.run, h2]
  have red : ∀ {w' : World}, (Builtin.delete_ #[t, u] o.type #[a.eval m, a.eval k]).run P w = .ok (.tuple #[]) w' → (execOp a.eval o).run P w = .ok (.value (.tuple #[])) w' := by
    intro w' h
    simp only [execOp, ho, resolve, Sem.run_bind, invoke, Sem.run_pure, Result.andThen_ok, builtin, List.map_toArray, List.map_cons, List.map_nil, h]
  rcases mfind_ok hkk hq h3 hrr with ⟨rfl, h6⟩ | ⟨j, v2, u2, me, rfl, h6, _, h8, _, _, h10, _⟩
  · simp only [Option.map_eq_some_iff] at hc
    obtain ⟨_, _, rfl⟩ := hc
    have hf : (Instr.findKey kt (a.eval k) ms.toList).run P w = .ok none w := by simp [Instr.findKey, run_under hd, h6]
    have := hok_map (P := P) (a := a) (o := o) hi hes h1 h2 (ms' := ms) (cl' := cl) h3 hst (.inr (red (by simp [Builtin.delete_, run_under ht, h5, hobj, hck, hf, run_setObj h2])))
    have hset : ({ H with bl := H.bl.set n (.map es) } : Heap) = H := by
      have : H.bl.set n (.map es) = H.bl := by
        apply List.ext_getElem?
        intro i
        rw [List.getElem?_set]
        split
        · rename_i hni
          subst hni
          obtain ⟨hlt, he⟩ := List.getElem?_eq_some_iff.1 hes
          simp [hlt, he]
        · rfl
      cases H; simp_all
    rwa [hset] at this
  · simp only [Option.some.injEq] at hc
    subst hc
    have hf : (Instr.findKey kt (a.eval k) ms.toList).run P w = .ok (some (j, u2)) w := by simp [Instr.findKey, run_under hd, h6]
    have hlt : j < ms.size := by
      have : ms[j]? = some me := by simpa using h8
      exact (Array.getElem?_eq_some_iff.1 this).1
    refine hok_map hi hes h1 h2 (ms' := ms.eraseIdxIfInBounds j) (cl' := cl) ?_ (Go.MapKept.stamped_erase hst j) (.inr (red (by simp [Builtin.delete_, run_under ht, h5, hobj, hck, hf, run_setObj h2])))
    rw [Array.eraseIdxIfInBounds, dif_pos hlt]
    simpa using h3.eraseIdx j

theorem MR.length {es : List (CV × CV)} {ms : List MapEntry} (h : MR w F ι es ms) : ms.length = es.length := by
  induction h with
  | nil => rfl
  | cons _ _ ih => simp [ih]

theorem lenM_ok (hi : Inv w F ι H) {o : Oper} {t kt e : TypeId} {m : Operand} (ho : o.op = .call { callee := .builtin .len, args := #[m], argTypes := #[t] }) (ht : P.underlying t = some (.map kt e))
    {p v : CV} {H' : Heap} (hp : VR w F ι p (a.eval m)) (hc : heapOp .lenM [p] H = some (v, H')) : HOk P w F ι H a o v H' := by
  simp only [heapOp, Option.map_eq_some_iff, Prod.mk.injEq] at hc
  obtain ⟨v', hc, rfl, rfl⟩ := hc
  have fin : ∀ {n : Nat}, (Builtin.len_ #[t] o.type #[a.eval m]).run P w = .ok (goInt n) w → v' = .int .i64 n → HOk P w F ι H a o v' H := by
    rintro n h1 rfl
    refine ⟨goInt n, w, F, ι, .inl ?_, vr_int _ _, hi, Ext.refl _ _ _ _, ⟨⟨fun _ h => h, fun _ _ => rfl⟩, fun _ _ h => h, fun _ _ h => h⟩⟩
    simp only [execOp, ho, resolve, Sem.run_bind, invoke, Sem.run_pure, Result.andThen_ok, builtin, List.map_toArray, List.map_cons, List.map_nil, h1]
  unfold lenMC at hc
  split at hc <;> (try cases hc)
  · simp only [VR, BR] at hp
    exact fin (n := 0) (by simp [Builtin.len_, run_under ht, hp]) rfl
  · rename_i n
    split at hc <;> (try cases hc)
    rename_i es hes
    split at hc <;> (try cases hc)
    rename_i hit
    obtain ⟨b, ms, cl, h1, h2, h3, hst⟩ := hi.real hes (by simpa using hit)
    simp only [VR] at hp
    obtain ⟨b', h4, h5⟩ := hp
    rw [h1] at h4; cases h4
    have hobj : (getObj b).run P w = .ok (.map ms cl) w := by simp [getObj, Sem.run, h2]
    have hl := h3.length
    exact fin (n := es.length) (by simp [Builtin.len_, run_under ht, h5, hobj]; rw [show ms.size = es.length by simpa using hl]) rfl

theorem bytesC_ok {w : World} {F : Nat → Prop} {ι : IM} : ∀ {cs : List CV} {l : List Int} {us : List Value}, bytesC cs = some l → VRl w F ι cs us → us = l.map (Value.int .u8)
  | [], l, us, h, hv => by simp only [bytesC, Option.some.injEq] at h; subst h; simpa [VRl] using hv
  | .int .u8 n :: r, l, us, h, hv => by
    simp only [bytesC, Option.map_eq_some_iff] at h
    obtain ⟨l', h1, rfl⟩ := h
    simp only [VRl] at hv
    obtain ⟨u, us', rfl, h2, h3⟩ := hv
    simp only [VR, BR] at h2
    subst h2
    simp [bytesC_ok h1 h3]

theorem bstr_ok (hi : Inv w F ι H) {o : Oper} {s t e : TypeId} {x : Operand} (ho : o.op = .convert s t x) (hs : P.underlying s = some (.slice e)) (he : P.underlying e = some (.int .u8)) (ht : P.underlying t = some .string)
    {p v : CV} {H' : Heap} (hp : VR w F ι p (a.eval x)) (hc : heapOp .bstr [p] H = some (v, H')) : HOk P w F ι H a o v H' := by
  simp only [heapOp, Option.bind_eq_some_iff] at hc
  obtain ⟨cs, h1, h2⟩ := hc
  split at h2 <;> (try cases h2)
  rename_i l hl
  obtain ⟨base, cap, us, e1, e2, e3, e4, e5⟩ := shown_ok hi h1 hp
  have e6 := bytesC_ok hl e4
  refine ⟨.string (strOf l), w, F, ι, .inl ?_, by simp [VR, BR], hi, Ext.refl _ _ _ _, ⟨⟨fun _ h => h, fun _ _ => rfl⟩, fun _ _ h => h, fun _ _ h => h⟩⟩
  have hlen : us.length = lenOf p := by rw [e3, e2, Nat.mul_one]
  have conv : (convert s t (a.eval x)).run P w = .ok (.string (strOf l)) w := by
    rw [e1, run_convert_bytes_string w s t e _ _ _ hs he ht]
    rcases e5 with e5 | ⟨b, off, rfl, e5⟩
    · subst e5
      have hl0 : l = [] := by simpa using e6.symm
      subst hl0
      have : lenOf p = 0 := by simpa using hlen.symm
      rw [this]
      cases base with
      | none => simp [Conv.bytesToString, strOf]
      | some a => exact run_bytesToString w a 0 cap [] (by simp [loadCells, loadCellsFrom])
    · refine run_bytesToString w _ _ cap l ?_
      rw [← e6, ← hlen]
      exact run_loadCells_list w _ us (fun j v hj => by rw [addr_add]; exact e5 j v hj)
  simp [execOp, ho, conv]

theorem no_it {x : CV} {r : List (CV × CV)} {ms : List MapEntry} (h : MR w F ι ((.und, x) :: r) ms) : False := by
  cases h with
  | cons h _ => exact absurd h.one (by simp [CV.one])

theorem newIt_ok (hi : Inv w F ι H) {o : Oper} {x : Obj} {es : List (CV × CV)} (hok : ItOk ι es (some x)) (hrun : (execOp a.eval o).run P w = .ok (.value (.pointer (some ⟨w.heap.size, 0, none⟩))) { w with heap := w.heap.push x }) :
    HOk P w F ι H a o (.op (.blk H.bl.length) 0) (H.push (.map es)) := by
  obtain ⟨h1, h2⟩ := hi.addIt hok
  refine ⟨_, _, F, _, .inl hrun, ?_, h1, Ext.add hi (WTo.new w _) (.inr (Nat.le_refl _)), h2⟩
  simp only [VR]
  exact ⟨w.heap.size, by simp [IM.get, IM.push, ← hi.len], rfl⟩

theorem srng_ok (hi : Inv w F ι H) {o : Oper} {t : TypeId} {x : Operand} (ho : o.op = .range t x) (ht : P.underlying t = some .string) {p v : CV} {H' : Heap} (hp : VR w F ι p (a.eval x)) (hc : heapOp .srng [p] H = some (v, H')) : HOk P w F ι H a o v H' := by
  cases p with
  | str s =>
    simp only [heapOp, Option.some.injEq, Prod.mk.injEq] at hc
    obtain ⟨rfl, rfl⟩ := hc
    simp only [VR, BR] at hp
    refine newIt_ok hi (x := .stringIter s 0) (.inl ⟨s, 0, rfl, rfl⟩) ?_
    simp [execOp, ho, Instr.range, run_under ht, hp]
  | _ => simp [heapOp] at hc

theorem mrng_ok (hi : Inv w F ι H) {o : Oper} {t k e : TypeId} {x : Operand} (ho : o.op = .range t x) (ht : P.underlying t = some (.map k e)) {p v : CV} {H' : Heap} (hp : VR w F ι p (a.eval x)) (hc : heapOp .mrng [p] H = some (v, H')) : HOk P w F ι H a o v H' := by
  simp only [heapOp] at hc
  unfold mrngC at hc
  split at hc
  · simp only [Option.some.injEq, Prod.mk.injEq] at hc
    obtain ⟨rfl, rfl⟩ := hc
    simp only [VR, BR] at hp
    refine newIt_ok hi (x := .mapIter none 0 #[] 0) (.inr (.inl ⟨rfl, 0, 0, rfl⟩)) ?_
    simp [execOp, ho, Instr.range, run_under ht, hp]
  · rename_i m
    split at hc <;> (try cases hc)
    rename_i es hes
    split at hc <;> (try cases hc)
    rename_i hit
    obtain ⟨b, ms, cl, h1, h2, h3, hst⟩ := hi.real hes (by simpa using hit)
    simp only [VR] at hp
    obtain ⟨b', h4, h5⟩ := hp
    rw [h1] at h4; cases h4
    have hobj : (getObj b).run P w = .ok (.map ms cl) w := by simp [getObj, Sem.run, h2]
    refine newIt_ok hi (x := .mapIter (some b) cl #[] cl) (.inr (.inr ⟨m, b, cl, cl, rfl, h1, rfl⟩)) ?_
    simp [execOp, ho, Instr.range, run_under ht, h5, hobj]
  · cases hc

theorem same_ok (hi : Inv w F ι H) {o : Oper} {v : CV} {v' : Value} (hv : VR w F ι v v') (hrun : (execOp a.eval o).run P w = .ok (.value v') w) : HOk P w F ι H a o v H :=
  ⟨v', w, F, ι, .inl hrun, hv, hi, Ext.refl _ _ _ _, ⟨⟨fun _ h => h, fun _ _ => rfl⟩, fun _ _ h => h, fun _ _ h => h⟩⟩

theorem vr_over : VR w F ι (.tup [.bool false]) (.tuple #[.bool false]) := by
  simp only [VR, VRl]
  exact ⟨_, rfl, _, [], rfl, by simp [BR], rfl⟩

theorem nxtM_ok (hi : Inv w F ι H) {o : Oper} {x : Operand} (ho : o.op = .next x false) {p v : CV} {H' : Heap} (hp : VR w F ι p (a.eval x)) (hc : heapOp .nxtM [p] H = some (v, H')) : HOk P w F ι H a o v H' := by
  have hpn : ∃ n, p = .op (.blk n) 0 ∧ nxtMC n H = some (v, H') := by
    cases p with
    | op i off =>
      cases i with
      | blk n =>
        cases off with
        | zero => exact ⟨n, rfl, hc⟩
        | succ k => simp [heapOp] at hc
      | loc s => simp [heapOp] at hc
    | _ => simp [heapOp] at hc
  obtain ⟨n, rfl, hc'⟩ := hpn
  replace hc := hc'
  simp only [VR, IM.get] at hp
  obtain ⟨b, hb, hpv⟩ := hp
  unfold nxtMC at hc
  split at hc
  · rename_i hes
    simp only [Option.some.injEq, Prod.mk.injEq] at hc
    obtain ⟨rfl, rfl⟩ := hc
    rcases hi.maps n _ hes with ⟨_, _, _, _, _, h, _⟩ | ⟨b', h1, h2⟩
    · exact (no_it h).elim
    · rw [hb] at h1; cases h1
      rcases h2 with ⟨_, _, h, _⟩ | ⟨_, c, d, h⟩ | ⟨_, _, _, _, h, _⟩
      · simp at h
      · have hobj : (getObj b).run P w = .ok (.mapIter none c #[] d) w := by simp [getObj, Sem.run, h]
        refine same_ok hi vr_over ?_
        simp [execOp, ho, Instr.next, hpv, hobj]
      · simp at h
  · rename_i m hes
    split at hc <;> (try cases hc)
    rename_i hm
    rcases hi.maps n _ hes with ⟨_, _, _, _, _, h, _⟩ | ⟨b', h1, h2⟩
    · exact (no_it h).elim
    · rw [hb] at h1; cases h1
      rcases h2 with ⟨_, _, h, _⟩ | ⟨h, _⟩ | ⟨m', bm, c, d, h, h3, h4⟩
      · simp at h
      · simp at h
      · simp only [List.cons.injEq, Prod.mk.injEq, CV.tup.injEq, CV.om.injEq, true_and, and_true] at h
        subst h
        obtain ⟨bm', ms, cl, g1, g2, g3, _⟩ := hi.real hm rfl
        rw [h3] at g1; cases g1
        have hms : ms = #[] := by cases ms; cases g3; rfl
        subst hms
        have hobj : (getObj b).run P w = .ok (.mapIter (some bm) c #[] d) w := by simp [getObj, Sem.run, h4]
        have hobj2 : (getObj bm).run P w = .ok (.map #[] cl) w := by simp [getObj, Sem.run, g2]
        refine same_ok hi vr_over ?_
        simp [execOp, ho, Instr.next, hpv, hobj, hobj2, Question.forced]
  · cases hc

theorem run_setIt {b : Nat} {s : ByteArray} {q : Nat} {y : Obj} (h : w.heap[b]? = some (.stringIter s q)) : (setObj b y).run P w = .ok () { w with heap := w.heap.setIfInBounds b y } := by
  simp [setObj, Sem.run, h]

theorem nxtS_ok (hi : Inv w F ι H) {o : Oper} {x : Operand} (ho : o.op = .next x true) {p v : CV} {H' : Heap} (hp : VR w F ι p (a.eval x)) (hc : heapOp .nxtS [p] H = some (v, H')) : HOk P w F ι H a o v H' := by
  have hpn : ∃ n, p = .op (.blk n) 0 ∧ nxtSC n H = some (v, H') := by
    cases p with
    | op i off =>
      cases i with
      | blk n =>
        cases off with
        | zero => exact ⟨n, rfl, hc⟩
        | succ k => simp [heapOp] at hc
      | loc s => simp [heapOp] at hc
    | _ => simp [heapOp] at hc
  obtain ⟨n, rfl, hc'⟩ := hpn
  replace hc := hc'
  simp only [VR, IM.get] at hp
  obtain ⟨b, hb, hpv⟩ := hp
  unfold nxtSC at hc
  split at hc <;> (try cases hc)
  rename_i s q hes
  rcases hi.maps n _ hes with ⟨_, _, _, _, _, h, _⟩ | ⟨b', h1, h2⟩
  · exact (no_it h).elim
  rw [hb] at h1; cases h1
  rcases h2 with ⟨s', pos, h, h4⟩ | ⟨h, _⟩ | ⟨_, _, _, _, h, _⟩
  · simp only [List.cons.injEq, Prod.mk.injEq, CV.tup.injEq, CV.str.injEq, CV.int.injEq, true_and, and_true] at h
    obtain ⟨rfl, rfl⟩ := h
    have hobj : (getObj b).run P w = .ok (.stringIter s pos) w := by simp [getObj, Sem.run, h4]
    simp only [Int.toNat_natCast] at hc
    split at hc
    · rename_i hlt
      simp only [Option.some.injEq, Prod.mk.injEq] at hc
      obtain ⟨rfl, rfl⟩ := hc
      have hbl := (Array.getElem?_eq_some_iff.1 h4).1
      have hw : WTo w { w with heap := w.heap.setIfInBounds b (.stringIter s (pos + (Utf8.decode s pos).2)) } b := by
        refine ⟨rfl, rfl, rfl, by simp, by simpa using hbl, fun k hk _ => by
          show (w.heap.setIfInBounds b _)[k]? = _
          rw [Array.getElem?_setIfInBounds, if_neg (fun e => hk e.symm)], fun n hn => ?_⟩
        unfold Zc.csize at hn
        rw [h4] at hn
        cases hn
      have hat : ({ w with heap := w.heap.setIfInBounds b (.stringIter s (pos + (Utf8.decode s pos).2)) } : World).heap[b]? = some (.stringIter s (pos + (Utf8.decode s pos).2)) := by simp [hbl]
      obtain ⟨k1, k2, k3⟩ := hi.setIt hes hb hw (es' := [(.und, .tup [.str s, .int .i64 (pos + (Utf8.decode s pos).2 : Nat)])]) (.inl ⟨s, _, rfl, hat⟩)
      refine ⟨.tuple #[.bool true, goInt pos, .int .i32 (Utf8.decode s pos).1], _, F, ι, .inl ?_, ?_, k1, k3, k2⟩
      · simp [execOp, ho, Instr.next, hpv, hobj, hlt, run_setIt h4]
      · simp only [VR, VRl]
        exact ⟨_, rfl, _, _, rfl, by simp [BR], _, _, rfl, by simp [BR, goInt], _, _, rfl, by simp [BR], rfl⟩
    · rename_i hlt
      simp only [Option.some.injEq, Prod.mk.injEq] at hc
      obtain ⟨rfl, rfl⟩ := hc
      refine same_ok hi vr_over ?_
      simp [execOp, ho, Instr.next, hpv, hobj, hlt]
  · simp at h
  · simp at h

theorem hop_ok {an : Ann} (he : EnvR w F ι env a) (hi : Inv w F ι H) {o : Oper} {h : HOp} {ys : List Opd} {v : CV} {H' : Heap} (hc : comp1 P an o.dst o.op = some (.h h, ys)) (hh : heapOp h (evs env ys) H = some (v, H')) : HOk P w F ι H a o v H' := by
  cases ho : o.op with
  | alloc e =>
    simp only [ho, comp1] at hc
    split at hc <;> (try cases hc)
    rename_i z d hz hd
    split at hc <;> (try cases hc)
    refine alloc_ok hi ho hz ?_ (by simpa [evs] using hh)
    split
    · exact .inl rfl
    · exact .inr ⟨_, rfl⟩
  | box e x =>
    simp only [ho, comp1] at hc
    split at hc <;> (try cases hc)
    rename_i y d hy hd
    refine box_ok hi ho (opd_ok he hy) ?_ (by simpa [evs] using hh)
    split
    · exact .inl rfl
    · exact .inr ⟨_, rfl⟩
  | buildSlice t len parts =>
    simp only [ho, comp1] at hc
    split at hc <;> (try cases hc)
    rename_i e d ht hd
    split at hc <;> (try cases hc)
    rename_i n z hn hz
    split at hc <;> (try cases hc)
    rename_i hcond
    obtain ⟨h1, h2, h3, h4⟩ := hcond
    simp only [Option.map_eq_some_iff, Prod.mk.injEq, COp.h.injEq] at hc
    obtain ⟨⟨ps, ys'⟩, hp, rfl, rfl⟩ := hc
    refine bsl_ok he hi ho ht hn hz h1 h2 h3 hp ?_ hh
    split
    · exact .inr rfl
    · exact .inl rfl
  | load t x =>
    simp only [ho, comp1, Option.map_eq_some_iff, Option.bind_eq_some_iff, Prod.mk.injEq, COp.h.injEq] at hc
    obtain ⟨s, hs, y, hy, rfl, rfl⟩ := hc
    exact load_ok hi ho hs (opd_ok he hy) (by simpa [evs] using hh)
  | store t x y =>
    simp only [ho, comp1, Option.map_eq_some_iff, Option.bind_eq_some_iff, Prod.mk.injEq, COp.h.injEq] at hc
    obtain ⟨n, hn, l, hl, rfl, rfl⟩ := hc
    obtain ⟨x', y', h1, h2, rfl⟩ := opds2 hl
    exact store_ok hi ho hn (opd_ok he h1) (opd_ok he h2) (by simpa [evs] using hh)
  | makeMap t r =>
    cases r with
    | none =>
      simp only [ho, comp1, Option.some.injEq, Prod.mk.injEq, COp.h.injEq] at hc
      obtain ⟨rfl, rfl⟩ := hc
      simp only [evs, heapOp, Option.some.injEq, Prod.mk.injEq] at hh
      obtain ⟨rfl, rfl⟩ := hh
      exact mkmap_ok hi ho
    | some r => simp [ho, comp1] at hc
  | makeSlice t l c =>
    simp only [ho, comp1] at hc
    split at hc <;> (try cases hc)
    rename_i e ht
    split at hc <;> (try cases hc)
    rename_i i z hin hz
    split at hc <;> (try cases hc)
    rename_i hpos
    simp only [Option.map_eq_some_iff, Prod.mk.injEq, COp.h.injEq] at hc
    obtain ⟨l', hl, rfl, rfl⟩ := hc
    obtain ⟨x', y', h1, h2, rfl⟩ := opds2 hl
    refine mksl_ok hi ho ht hin hz hpos (opd_ok he h1) (opd_ok he h2) ?_ (by simpa [evs] using hh)
    split
    · split
      · exact .inr rfl
      · exact .inl rfl
    · exact .inl rfl
  | lookup t m k ok =>
    simp only [ho, comp1] at hc
    split at hc <;> (try cases hc)
    rename_i kt e ht
    simp only [Option.map_eq_some_iff, Option.bind_eq_some_iff, Prod.mk.injEq, COp.h.injEq] at hc
    obtain ⟨kk, hk, z, hz, l, hl, rfl, rfl⟩ := hc
    obtain ⟨x', y', h1, h2, rfl⟩ := opds2 hl
    exact look_ok hi ho ht hk hz (opd_ok he h1) (opd_ok he h2) (by simpa [evs] using hh)
  | mapUpdate t m k x =>
    simp only [ho, comp1] at hc
    split at hc <;> (try cases hc)
    rename_i kt e ht
    simp only [Option.map_eq_some_iff, Option.bind_eq_some_iff, Prod.mk.injEq, COp.h.injEq] at hc
    obtain ⟨kk, hk, l, hl, rfl, rfl⟩ := hc
    obtain ⟨x', y', z', h1, h2, h3, rfl⟩ := opds3 hl
    exact mput_ok hi ho ht hk (opd_ok he h1) (opd_ok he h2) (opd_ok he h3) (by simpa [evs] using hh)
  | call c =>
    obtain ⟨cal, args, ats⟩ := c
    cases cal with
    | value f => simp only [ho, comp1, Option.map_eq_some_iff, Option.bind_eq_some_iff, Prod.mk.injEq, reduceCtorEq, false_and, and_false, exists_false] at hc
    | invoke r m => simp [ho, comp1] at hc
    | builtin b =>
      simp only [ho, comp1] at hc
      split at hc <;> (try cases hc)
      · rename_i t x h1 h2
        obtain rfl : ats = #[t] := by apply Array.ext'; simpa using h1
        obtain rfl : args = #[x] := by apply Array.ext'; simpa using h2
        split at hc <;> (try cases hc)
        · simp only [Option.map_eq_some_iff, Prod.mk.injEq, reduceCtorEq, false_and, and_false, exists_false] at hc
        · simp only [Option.map_eq_some_iff, Prod.mk.injEq, reduceCtorEq, false_and, and_false, exists_false] at hc
        · simp only [Option.map_eq_some_iff, Prod.mk.injEq, reduceCtorEq, false_and, and_false, exists_false] at hc
        · rename_i kt e ht
          simp only [Option.map_eq_some_iff, Prod.mk.injEq, COp.h.injEq] at hc
          obtain ⟨y, hy, rfl, rfl⟩ := hc
          exact lenM_ok hi ho ht (opd_ok he hy) (by simpa [evs] using hh)
      · rename_i t u s x h1 h2
        obtain rfl : ats = #[t, u] := by apply Array.ext'; simpa using h1
        obtain rfl : args = #[s, x] := by apply Array.ext'; simpa using h2
        split at hc <;> (try cases hc)
        · rename_i e e' ht hu
          split at hc <;> (try cases hc)
          rename_i i z hin hz
          simp only [Option.map_eq_some_iff, Prod.mk.injEq, COp.h.injEq] at hc
          obtain ⟨l, hl, rfl, rfl⟩ := hc
          obtain ⟨x', y', g1, g2, rfl⟩ := opds2 hl
          exact app_ok hi ho ht ⟨_, hu⟩ hin hz (opd_ok he g1) (opd_ok he g2) (by simpa [evs] using hh)
        · rename_i e k0 ht hu
          split at hc <;> (try cases hc)
          rename_i i z hin hz
          simp only [Option.map_eq_some_iff, Prod.mk.injEq, COp.h.injEq] at hc
          obtain ⟨l, hl, rfl, rfl⟩ := hc
          obtain ⟨x', y', g1, g2, rfl⟩ := opds2 hl
          exact appz_ok hi ho ht hu hin hz (opd_ok he g1) (opd_ok he g2) (by simpa [evs] using hh)
      · rename_i t u d x h1 h2
        obtain rfl : ats = #[t, u] := by apply Array.ext'; simpa using h1
        obtain rfl : args = #[d, x] := by apply Array.ext'; simpa using h2
        split at hc <;> (try cases hc)
        rename_i e ht
        simp only [Option.map_eq_some_iff, Option.bind_eq_some_iff, Prod.mk.injEq, COp.h.injEq] at hc
        obtain ⟨n, hn, l, hl, rfl, rfl⟩ := hc
        obtain ⟨x', y', g1, g2, rfl⟩ := opds2 hl
        exact copy_ok hi ho ht hn (opd_ok he g1) (opd_ok he g2) (by simpa [evs] using hh)
      · rename_i t x h1 h2
        obtain rfl : ats = #[t] := by apply Array.ext'; simpa using h1
        obtain rfl : args = #[x] := by apply Array.ext'; simpa using h2
        split at hc <;> (try cases hc)
        rename_i e ht
        split at hc <;> (try cases hc)
        rename_i n z hn hz
        simp only [Option.map_eq_some_iff, Prod.mk.injEq, COp.h.injEq] at hc
        obtain ⟨y, hy, rfl, rfl⟩ := hc
        exact clear_ok hi ho ht hn hz (opd_ok he hy) (by simpa [evs] using hh)
      · rename_i t u m k h1 h2
        obtain rfl : ats = #[t, u] := by apply Array.ext'; simpa using h1
        obtain rfl : args = #[m, k] := by apply Array.ext'; simpa using h2
        split at hc <;> (try cases hc)
        rename_i kt e ht
        simp only [Option.map_eq_some_iff, Option.bind_eq_some_iff, Prod.mk.injEq, COp.h.injEq] at hc
        obtain ⟨kk, hk, l, hl, rfl, rfl⟩ := hc
        obtain ⟨x', y', g1, g2, rfl⟩ := opds2 hl
        exact mdel_ok hi ho ht hk (opd_ok he g1) (opd_ok he g2) (by simpa [evs] using hh)
      all_goals first
        | simp only [Option.map_eq_some_iff, Prod.mk.injEq, reduceCtorEq, false_and, and_false, exists_false] at hc
        | (split at hc <;> (try cases hc); simp only [Option.map_eq_some_iff, Prod.mk.injEq, reduceCtorEq, false_and, and_false, exists_false] at hc)
  | binOp op t x y yt => cases op <;> simp only [ho, comp1, Option.map_eq_some_iff, Prod.mk.injEq, reduceCtorEq, false_and, and_false, exists_false] at hc
  | build t parts =>
    simp only [ho, comp1] at hc
    split at hc <;> (try cases hc)
    · split at hc <;> (try cases hc)
      simp only [Option.map_eq_some_iff, Prod.mk.injEq, reduceCtorEq, false_and, and_false, exists_false] at hc
    · simp only [Option.map_eq_some_iff, Option.bind_eq_some_iff, Prod.mk.injEq, reduceCtorEq, false_and, and_false, exists_false] at hc
  | convert s t x =>
    simp only [ho, comp1] at hc
    split at hc <;> (try cases hc)
    · simp only [Option.map_eq_some_iff, Prod.mk.injEq, reduceCtorEq, false_and, and_false, exists_false] at hc
    · simp only [Option.map_eq_some_iff, Prod.mk.injEq, reduceCtorEq, false_and, and_false, exists_false] at hc
    · rename_i e hs ht
      split at hc <;> (try cases hc)
      rename_i he'
      simp only [Option.map_eq_some_iff, Prod.mk.injEq, COp.h.injEq] at hc
      obtain ⟨y, hy, rfl, rfl⟩ := hc
      exact bstr_ok hi ho hs he' ht (opd_ok he hy) (by simpa [evs] using hh)
  | makeInterface t x =>
    simp only [ho, comp1] at hc
    split at hc <;> (try cases hc) <;> simp only [Option.map_eq_some_iff, Prod.mk.injEq, reduceCtorEq, false_and, and_false, exists_false] at hc
  | slice t x lo hi' mx =>
    cases mx with
    | some m => simp [ho, comp1] at hc
    | none =>
      simp only [ho, comp1] at hc
      split at hc <;> (try cases hc)
      simp only [Option.map_eq_some_iff, Option.bind_eq_some_iff, Prod.mk.injEq, reduceCtorEq, false_and, and_false, exists_false] at hc
  | fieldAddr s x f =>
    simp only [ho, comp1] at hc
    split at hc <;> (try cases hc)
    simp only [Option.bind_eq_some_iff] at hc
    obtain ⟨fd, hf, hc⟩ := hc
    split at hc <;> (try cases hc)
    simp only [Option.map_eq_some_iff, Prod.mk.injEq, reduceCtorEq, false_and, and_false, exists_false] at hc
  | field t x f =>
    simp only [ho, comp1] at hc
    split at hc <;> (try cases hc)
    simp only [Option.map_eq_some_iff, Option.bind_eq_some_iff, Prod.mk.injEq, reduceCtorEq, false_and, and_false, exists_false] at hc
  | indexAddr t x i =>
    simp only [ho, comp1] at hc
    split at hc <;> (try cases hc) <;> simp only [Option.map_eq_some_iff, Option.bind_eq_some_iff, Prod.mk.injEq, reduceCtorEq, false_and, and_false, exists_false] at hc
  | index t x i =>
    simp only [ho, comp1] at hc
    split at hc <;> (try cases hc) <;> simp only [Option.map_eq_some_iff, Option.bind_eq_some_iff, Prod.mk.injEq, reduceCtorEq, false_and, and_false, exists_false] at hc
  | range t x =>
    simp only [ho, comp1] at hc
    split at hc <;> (try cases hc)
    · rename_i ht
      simp only [Option.map_eq_some_iff, Prod.mk.injEq, COp.h.injEq] at hc
      obtain ⟨y, hy, rfl, rfl⟩ := hc
      exact srng_ok hi ho ht (opd_ok he hy) (by simpa [evs] using hh)
    · rename_i ht
      simp only [Option.map_eq_some_iff, Prod.mk.injEq, COp.h.injEq] at hc
      obtain ⟨y, hy, rfl, rfl⟩ := hc
      exact mrng_ok hi ho ht (opd_ok he hy) (by simpa [evs] using hh)
  | next x s =>
    simp only [ho, comp1, Option.map_eq_some_iff, Prod.mk.injEq, COp.h.injEq] at hc
    obtain ⟨y, hy, rfl, rfl⟩ := hc
    cases s with
    | true => exact nxtS_ok hi ho (opd_ok he hy) (by simpa [evs] using hh)
    | false => exact nxtM_ok hi ho (opd_ok he hy) (by simpa [evs] using hh)
  | makeFunc f xs ys' => simp only [ho, comp1, Option.map_eq_some_iff, Option.bind_eq_some_iff, Prod.mk.injEq, reduceCtorEq, false_and, and_false, exists_false] at hc
  | _ => simp [ho, comp1] at hc

end
end Go.Zc
end
section
namespace Go.Zc
variable [Globs]

section
variable {P : Program} {w : World} {F : Nat → Prop} {ι : IM} {H : Heap} {env : Env} {a : Act}

/-- How a frame stands to the interpreter's. -/
structure St (n : Nat) (w : World) (F : Nat → Prop) (ι : IM) (H : Heap) (env : Env) (a : Act) : Prop where
  e : EnvR w F ι env a
  i : Inv w F ι H
  d : a.defers = []
  s : n ≤ a.tmps.size

/-- What calls come to: who calls is told what is handed back, and what has turned. -/
def CallerOk (P : Program) (call : Caller) : Prop :=
  ∀ f args H v H', call f args H = some (v, H') → ∃ k first cap fn, f = .fn (.func k) first cap ∧ P.funcs[k]? = some fn ∧ fn.body.isSome = true ∧ (fn.name == "runtime.NumGoroutine") = false ∧
    ∀ (w : World) (F : Nat → Prop) (ι : IM) (as : List Value), Inv w F ι H → VRl w F ι (first ++ (args ++ cap)) as →
      Calls P k as.toArray w fun e w' => ∃ v' F' ι', e = .returned v' ∧ VR w' F' ι' v v' ∧ Inv w' F' ι' H' ∧ Ext w F ι H w' F' ι' H' ∧ MoV w w' F F' ι ι'

theorem EnvR.mono {w' : World} {F' : Nat → Prop} {ι' : IM} (h : EnvR w F ι env a) (m : MoV w w' F F' ι ι') : EnvR w' F' ι' env a := ⟨fun t => VR.mono m _ _ (h t), h.g.mono m.toMo⟩

theorem look_cons (env : Env) (d t : Nat) (c : CV) : Env.at ((d, c) :: env) t = if t = d then c else Env.at env t := by
  unfold Env.at
  simp only [look]
  by_cases h : t = d
  · subst h; simp
  · simp [beq_ne (fun e => h e.symm), h]

theorem EnvR.put {n : Nat} (h : EnvR w F ι env a) (hs : n ≤ a.tmps.size) {dst : Option Nat} (hd : dst.all (· < n) = true) {c : CV} {v : Value} (hv : VR w F ι c v) : EnvR w F ι (putD env dst c) (a.put dst v) := by
  cases dst with
  | none => exact h
  | some d =>
    refine ⟨fun t => ?_, h.g⟩
    simp only [Option.all_some, decide_eq_true_eq] at hd
    simp only [putD, Act.put, look_cons]
    by_cases ht : t = d
    · subst ht
      rw [if_pos rfl]
      simp only [Array.getD_eq_getD_getElem?, Array.getElem?_setIfInBounds, if_true]
      rw [if_pos (by omega)]
      exact hv
    · rw [if_neg ht]
      simp only [Array.getD_eq_getD_getElem?, Array.getElem?_setIfInBounds, if_neg (fun e : d = t => ht e.symm)]
      simpa only [Array.getD_eq_getD_getElem?] using h t

theorem put_size (a : Act) (dst : Option Nat) (v : Value) : (a.put dst v).tmps.size = a.tmps.size := by cases dst <;> simp [Act.put]
theorem put_defers (a : Act) (dst : Option Nat) (v : Value) : (a.put dst v).defers = a.defers := by cases dst <;> rfl

theorem St.put {n : Nat} (h : St n w F ι H env a) {dst : Option Nat} (hd : dst.all (· < n) = true) {w' : World} {F' : Nat → Prop} {ι' : IM} {H' : Heap} {c : CV} {v : Value} (hv : VR w' F' ι' c v) (hi : Inv w' F' ι' H') (m : MoV w w' F F' ι ι') :
    St n w' F' ι' H' (putD env dst c) (a.put dst v) :=
  ⟨(h.e.mono m).put h.s hd hv, hi, by rw [put_defers]; exact h.d, by rw [put_size]; exact h.s⟩

/-- What the compiler makes is plain. -/
def plainC : COp → Bool
  | .hb _ | .hl _ _ | .callb | .callp | .callk _ | .callv => false
  | _ => true

theorem all_map' {α β : Type} {p : β → Bool} (o : Option α) {f : α → β} (h : ∀ x, p (f x) = true) : (o.map f).all p = true := by cases o <;> simp [h]
theorem all_bind' {α β : Type} {p : β → Bool} (o : Option α) {f : α → Option β} (h : ∀ x, (f x).all p = true) : (o.bind f).all p = true := by cases o <;> simp [h]

theorem comp1_plain (P : Program) (an : Ann) (d : Option Nat) (o : Op) : (comp1 P an d o).all (fun x => plainC x.1) = true := by
  unfold comp1
  repeat' (first | rfl | (apply all_map'; intro _) | (apply all_bind'; intro _) | split)

/-- One statement that is carried out. -/
theorem stm_ok {call : Caller} (hcall : CallerOk P call) {an : Ann} {o : Oper} {c : COp} {ys : List Opd} (hc : comp1 P an o.dst o.op = some (c, ys)) (he : EnvR w F ι env a) (hi : Inv w F ι H) {v : CV} {H' : Heap}
    (hr : runOp call c (evs env ys) H = some (v, H')) {K : Act → World → Prop} {Q : Exit → Act → World → Prop}
    (hK : ∀ v' w' F' ι', VR w' F' ι' v v' → Inv w' F' ι' H' → Ext w F ι H w' F' ι' H' → MoV w w' F F' ι ι' → K (a.put o.dst v') w') : o.wp P a w K Q := by
  cases c with
  | p p =>
    simp only [runOp, Option.map_eq_some_iff, Prod.mk.injEq] at hr
    obtain ⟨v', h1, rfl, rfl⟩ := hr
    obtain ⟨u, h2, h3⟩ := pop_ok he hc h1
    unfold Oper.wp
    rw [h2]
    exact hK u w F ι h3 hi (Ext.refl _ _ _ _) ⟨⟨fun _ h => h, fun _ _ => rfl⟩, fun _ _ h => h, fun _ _ h => h⟩
  | h h =>
    simp only [runOp] at hr
    obtain ⟨u, w', F', ι', h1, h2, h3, h4, h5⟩ := hop_ok he hi hc hr
    unfold Oper.wp
    rcases h1 with h1 | ⟨h1, rfl⟩
    · rw [h1]; exact hK u w' F' ι' h2 h3 h4 h5
    · rw [h1]; exact hK undef w' F' ι' h2 h3 h4 h5
  | hb h => have := comp1_plain P an o.dst o.op; simp [hc, plainC] at this
  | hl s h => have := comp1_plain P an o.dst o.op; simp [hc, plainC] at this
  | callb => have := comp1_plain P an o.dst o.op; simp [hc, plainC] at this
  | callp => have := comp1_plain P an o.dst o.op; simp [hc, plainC] at this
  | callk n => have := comp1_plain P an o.dst o.op; simp [hc, plainC] at this
  | callv => have := comp1_plain P an o.dst o.op; simp [hc, plainC] at this
  | call =>
    have : ∃ f args ats, o.op = .call { callee := .value f, args := args, argTypes := ats } ∧ ∃ g l, opd f = some g ∧ opds args.toList = some l ∧ ys = g :: l := by
      cases ho : o.op with
      | call cc =>
        obtain ⟨cal, args, ats⟩ := cc
        cases cal with
        | value f =>
          simp only [ho, comp1, Option.map_eq_some_iff, Option.bind_eq_some_iff, Prod.mk.injEq, true_and] at hc
          obtain ⟨g, hg, l, hl, rfl⟩ := hc
          exact ⟨f, args, ats, rfl, g, l, hg, hl, rfl⟩
        | invoke r m => simp [ho, comp1] at hc
        | builtin b =>
          simp only [ho, comp1] at hc
          split at hc <;> (try cases hc)
          · split at hc <;> (try cases hc) <;> simp only [Option.map_eq_some_iff, Prod.mk.injEq, reduceCtorEq, false_and, and_false, exists_false] at hc
          · split at hc <;> (try cases hc)
            all_goals
              split at hc <;> (try cases hc)
              simp only [Option.map_eq_some_iff, Prod.mk.injEq, reduceCtorEq, false_and, and_false, exists_false] at hc
          · split at hc <;> (try cases hc)
            simp only [Option.map_eq_some_iff, Option.bind_eq_some_iff, Prod.mk.injEq, reduceCtorEq, false_and, and_false, exists_false] at hc
          · split at hc <;> (try cases hc)
            split at hc <;> (try cases hc)
            simp only [Option.map_eq_some_iff, Prod.mk.injEq, reduceCtorEq, false_and, and_false, exists_false] at hc
          · split at hc <;> (try cases hc)
            simp only [Option.map_eq_some_iff, Option.bind_eq_some_iff, Prod.mk.injEq, reduceCtorEq, false_and, and_false, exists_false] at hc
          all_goals first
            | simp only [Option.map_eq_some_iff, Prod.mk.injEq, reduceCtorEq, false_and, and_false, exists_false] at hc
            | (split at hc <;> (try cases hc); simp only [Option.map_eq_some_iff, Prod.mk.injEq, reduceCtorEq, false_and, and_false, exists_false] at hc)
      | alloc e =>
        simp only [ho, comp1] at hc
        split at hc <;> (try cases hc)
        split at hc <;> (try cases hc)
      | box e x =>
        simp only [ho, comp1] at hc
        split at hc <;> (try cases hc)
      | buildSlice t len parts =>
        simp only [ho, comp1] at hc
        split at hc <;> (try cases hc)
        split at hc <;> (try cases hc)
        split at hc <;> (try cases hc)
        simp only [Option.map_eq_some_iff, Prod.mk.injEq, reduceCtorEq, false_and, and_false, exists_false] at hc
      | build t parts =>
        simp only [ho, comp1] at hc
        split at hc <;> (try cases hc)
        · split at hc <;> (try cases hc)
          simp only [Option.map_eq_some_iff, Prod.mk.injEq, reduceCtorEq, false_and, and_false, exists_false] at hc
        · simp only [Option.map_eq_some_iff, Option.bind_eq_some_iff, Prod.mk.injEq, reduceCtorEq, false_and, and_false, exists_false] at hc
      | makeSlice t l c =>
        simp only [ho, comp1] at hc
        split at hc <;> (try cases hc)
        split at hc <;> (try cases hc)
        split at hc <;> (try cases hc)
        simp only [Option.map_eq_some_iff, Prod.mk.injEq, reduceCtorEq, false_and, and_false, exists_false] at hc
      | makeMap t r => cases r <;> simp [ho, comp1] at hc
      | binOp op t x y yt => cases op <;> simp only [ho, comp1, Option.map_eq_some_iff, Prod.mk.injEq, reduceCtorEq, false_and, and_false, exists_false] at hc
      | convert s t x =>
        simp only [ho, comp1] at hc
        split at hc <;> (try cases hc)
        · simp only [Option.map_eq_some_iff, Prod.mk.injEq, reduceCtorEq, false_and, and_false, exists_false] at hc
        · simp only [Option.map_eq_some_iff, Prod.mk.injEq, reduceCtorEq, false_and, and_false, exists_false] at hc
        · split at hc <;> (try cases hc)
          simp only [Option.map_eq_some_iff, Prod.mk.injEq, reduceCtorEq, false_and, and_false, exists_false] at hc
      | range t x =>
        simp only [ho, comp1] at hc
        split at hc <;> (try cases hc) <;> simp only [Option.map_eq_some_iff, Prod.mk.injEq, reduceCtorEq, false_and, and_false, exists_false] at hc
      | makeInterface t x =>
        simp only [ho, comp1] at hc
        split at hc <;> (try cases hc) <;> simp only [Option.map_eq_some_iff, Prod.mk.injEq, reduceCtorEq, false_and, and_false, exists_false] at hc
      | slice t x lo hi' mx =>
        cases mx with
        | some m => simp [ho, comp1] at hc
        | none =>
          simp only [ho, comp1] at hc
          split at hc <;> (try cases hc)
          simp only [Option.map_eq_some_iff, Option.bind_eq_some_iff, Prod.mk.injEq, reduceCtorEq, false_and, and_false, exists_false] at hc
      | fieldAddr s x f =>
        simp only [ho, comp1] at hc
        split at hc <;> (try cases hc)
        simp only [Option.bind_eq_some_iff] at hc
        obtain ⟨fd, hf, hc⟩ := hc
        split at hc <;> (try cases hc)
        simp only [Option.map_eq_some_iff, Prod.mk.injEq, reduceCtorEq, false_and, and_false, exists_false] at hc
      | field t x f =>
        simp only [ho, comp1] at hc
        split at hc <;> (try cases hc)
        simp only [Option.map_eq_some_iff, Option.bind_eq_some_iff, Prod.mk.injEq, reduceCtorEq, false_and, and_false, exists_false] at hc
      | indexAddr t x i =>
        simp only [ho, comp1] at hc
        split at hc <;> (try cases hc) <;> simp only [Option.map_eq_some_iff, Option.bind_eq_some_iff, Prod.mk.injEq, reduceCtorEq, false_and, and_false, exists_false] at hc
      | index t x i =>
        simp only [ho, comp1] at hc
        split at hc <;> (try cases hc) <;> simp only [Option.map_eq_some_iff, Option.bind_eq_some_iff, Prod.mk.injEq, reduceCtorEq, false_and, and_false, exists_false] at hc
      | lookup t m k ok =>
        simp only [ho, comp1] at hc
        split at hc <;> (try cases hc)
        simp only [Option.map_eq_some_iff, Option.bind_eq_some_iff, Prod.mk.injEq, reduceCtorEq, false_and, and_false, exists_false] at hc
      | mapUpdate t m k x =>
        simp only [ho, comp1] at hc
        split at hc <;> (try cases hc)
        simp only [Option.map_eq_some_iff, Option.bind_eq_some_iff, Prod.mk.injEq, reduceCtorEq, false_and, and_false, exists_false] at hc
      | makeFunc f xs ys' => simp only [ho, comp1, Option.map_eq_some_iff, Option.bind_eq_some_iff, Prod.mk.injEq, reduceCtorEq, false_and, and_false, exists_false] at hc
      | load t x => simp only [ho, comp1, Option.map_eq_some_iff, Option.bind_eq_some_iff, Prod.mk.injEq, reduceCtorEq, false_and, and_false, exists_false] at hc
      | store t x y => simp only [ho, comp1, Option.map_eq_some_iff, Option.bind_eq_some_iff, Prod.mk.injEq, reduceCtorEq, false_and, and_false, exists_false] at hc
      | _ => simp [ho, comp1] at hc
    obtain ⟨f, args, ats, ho, g, l, hg, hl, rfl⟩ := this
    simp only [evs, runOp] at hr
    obtain ⟨k, first, cap, fn, hf, hfn, hbody, hname, hcalls⟩ := hcall _ _ _ _ _ hr
    have hfv := opd_ok he hg
    rw [hf] at hfv
    simp only [VR] at hfv
    obtain ⟨first', cap', hfe, hv1, hv2⟩ := hfv
    have hargs := opds_ok he hl
    have hall : VRl w F ι (first ++ (evs env l ++ cap)) (first'.toList ++ (args.toList.map a.eval ++ cap'.toList)) := VRl.append hv1 (VRl.append hargs hv2)
    have hc2 := hcalls w F ι _ hi hall
    have harr : (first'.toList ++ (args.toList.map a.eval ++ cap'.toList)).toArray = first' ++ args.map a.eval ++ cap' := by
      apply Array.ext'; simp
    rw [harr] at hc2
    unfold Oper.wp
    have hrun : (execOp a.eval o).run P w = .ok (.enter k (first' ++ args.map a.eval ++ cap')) w := by
      have hb : fn.body.isNone = false := by cases h : fn.body <;> simp_all
      simp only [execOp, ho, resolve, hfe, Deferred.ofValue, Sem.run_bind, Sem.run_pure, Result.andThen_ok, invoke, callFunc, run_program, hfn, hname, hb, Bool.false_eq_true, if_false]
    rw [hrun]
    simp only [Oper.upon]
    refine hc2.mono ?_
    rintro e w' ⟨v', F', ι', rfl, h1, h2, h3, h4⟩
    exact hK v' w' F' ι' h1 h2 h3 h4

theorem yielded_of {ops : Array Oper} {j g : Nat} (hg : (ops[j]?).bind (·.dst) = some g) (he : EnvR w F ι env a) {c : Option Bool} (hb : gvC (Env.at env g) = some c) : yielded ops a.tmps j = c := by
  have := he g
  unfold yielded
  rw [hg]
  simp only [Option.bind_some]
  rw [Array.getD_eq_getD_getElem?] at this
  unfold gvC at hb
  split at hb <;> (try cases hb)
  · rename_i b heq
    rw [heq] at this
    have := this.bool
    cases h : a.tmps[g]? with
    | none => simp [h, undef] at this
    | some v => simp [h] at this; subst this; rfl
  · rename_i heq
    rw [heq] at this
    simp only [VR] at this
    obtain ⟨vs, hv, _⟩ := this
    cases h : a.tmps[g]? with
    | none => rfl
    | some v => simp [h] at hv; subst hv; rfl

theorem wanted_none {o : Oper} (h : o.guard = none) (y : Nat → Option Bool) : Region.wanted o y = true := by simp [Region.wanted, h]

/-- What a statement comes to, its guard asked. -/
def Stepped (call : Caller) (s : CStm) (env : Env) (H : Heap) (v : CV) (H1 : Heap) : Prop :=
  match s.guard with
  | none => runOp call s.op (evs env s.args) H = some (v, H1)
  | some (g, want) => ∃ c, gvC (Env.at env g) = some c ∧ if c = some want then runOp call s.op (evs env s.args) H = some (v, H1) else (v = .tup [] ∧ H1 = H)

/-- One statement of a region, with its guard. -/
theorem wpOp_ok {call : Caller} (hcall : CallerOk P call) {an : Ann} {n : Nat} {ops : Array Oper} {i : Nat} {o : Oper} (ho : ops[i]? = some o) {s : CStm} (hs : compStm P an n ops o = some s) (he : EnvR w F ι env a) (hi : Inv w F ι H) {H' : Heap} {v : CV}
    (hr : Stepped call s env H v H')
    {K : Act → World → Prop} {Q : Exit → Act → World → Prop}
    (hK : ∀ v' w' F' ι', VR w' F' ι' v v' → Inv w' F' ι' H' → Ext w F ι H w' F' ι' H' → MoV w w' F F' ι ι' → K (a.put o.dst v') w') : wpOp P ops Q i K a w ∧ s.dst = o.dst ∧ o.dst.all (· < n) = true := by
  unfold compStm at hs
  split at hs <;> (try cases hs)
  rename_i hdst
  split at hs <;> (try cases hs)
  rename_i c args g hc hg
  refine ⟨?_, rfl, hdst⟩
  unfold wpOp
  rw [ho]
  unfold Stepped at hr
  dsimp only at hr ⊢
  cases hgo : o.guard with
  | none =>
    rw [hgo] at hg
    simp only [gOf, Option.some.injEq] at hg
    subst hg
    rw [wanted_none hgo, if_pos rfl]
    exact .inl (stm_ok hcall hc he hi hr hK)
  | some jw =>
    obtain ⟨j, want⟩ := jw
    rw [hgo] at hg
    simp only [gOf, Option.map_eq_some_iff] at hg
    obtain ⟨t, ht, rfl⟩ := hg
    obtain ⟨b, hb, hr⟩ := hr
    have hy := yielded_of ht he hb
    have hw : Region.wanted o (yielded ops a.tmps) = (b == some want) := by
      simp only [Region.wanted, hgo, hy]
    rw [hw]
    by_cases hbw : b = some want
    · rw [if_pos hbw] at hr
      rw [if_pos (by simp [hbw])]
      exact .inl (stm_ok hcall hc he hi hr hK)
    · rw [if_neg hbw] at hr
      obtain ⟨rfl, rfl⟩ := hr
      rw [if_neg (by simp [hbw])]
      exact hK undef w F ι (by simp only [VR]; exact ⟨#[], rfl, by simp [VRl]⟩) hi (Ext.refl _ _ _ _) ⟨⟨fun _ h => h, fun _ _ => rfl⟩, fun _ _ h => h, fun _ _ h => h⟩

/-- One step of 'runOps'. -/
theorem runOps_cons {call : Caller} {s : CStm} {r : List CStm} {env' : Env} {H' : Heap} (h : runOps call (s :: r) env H = some (env', H')) : ∃ v H1, Stepped call s env H v H1 ∧
    runOps call r (putD env s.dst v) H1 = some (env', H') := by
  simp only [runOps] at h
  split at h
  · rename_i hg
    simp only [Option.bind_eq_some_iff] at h
    obtain ⟨⟨v, H1⟩, h1, h2⟩ := h
    exact ⟨v, H1, by unfold Stepped; rw [hg]; exact h1, h2⟩
  · rename_i g want hg
    split at h <;> (try cases h)
    rename_i b hb
    split at h
    · rename_i hbw
      simp only [Option.bind_eq_some_iff] at h
      obtain ⟨⟨v, H1⟩, h1, h2⟩ := h
      exact ⟨v, H1, by unfold Stepped; rw [hg]; exact ⟨b, hb, by rw [if_pos hbw]; exact h1⟩, h2⟩
    · rename_i hbw
      exact ⟨.tup [], H, by unfold Stepped; rw [hg]; exact ⟨b, hb, by rw [if_neg hbw]; exact ⟨rfl, rfl⟩⟩, h⟩

/-- In the text's order. -/
theorem ops_ok {call : Caller} (hcall : CallerOk P call) {an : Ann} {n : Nat} {ops : Array Oper} {Q : Exit → Act → World → Prop} {env' : Env} {H' : Heap} : ∀ (rest : List Oper) (l : List CStm) (i : Nat) (w : World) (F : Nat → Prop) (ι : IM) (H : Heap) (env : Env) (a : Act),
    ops.toList.drop i = rest → compStms P an n ops rest = some l → runOps call l env H = some (env', H') → St n w F ι H env a →
    (∀ a' w' F' ι', St n w' F' ι' H' env' a' → Ext w F ι H w' F' ι' H' → MoV w w' F F' ι ι' → Q .normal a' w') → wpOps P ops Q (List.range' i rest.length) a w
  | [], l, i, w, F, ι, H, env, a, _, hl, hr, hst, hQ => by
    simp only [compStms, Option.some.injEq] at hl
    subst hl
    simp only [runOps, Option.some.injEq, Prod.mk.injEq] at hr
    obtain ⟨rfl, rfl⟩ := hr
    simp only [List.length_nil, List.range'_zero, wpOps]
    exact hQ a w F ι hst (Ext.refl _ _ _ _) ⟨⟨fun _ h => h, fun _ _ => rfl⟩, fun _ _ h => h, fun _ _ h => h⟩
  | o :: rest, l, i, w, F, ι, H, env, a, hd, hl, hr, hst, hQ => by
    simp only [compStms, Option.bind_eq_some_iff, Option.map_eq_some_iff] at hl
    obtain ⟨s, hs, l', hl', rfl⟩ := hl
    obtain ⟨v, H1, h1, h2⟩ := runOps_cons hr
    have ho : ops[i]? = some o := by
      have : (ops.toList.drop i)[0]? = some o := by rw [hd]; rfl
      rw [List.getElem?_drop] at this
      simpa using this
    have hd' : ops.toList.drop (i + 1) = rest := by
      rw [← List.drop_drop, hd]; rfl
    simp only [List.length_cons, List.range'_succ]
    rw [wpOps_cons]
    have hdst : s.dst = o.dst ∧ o.dst.all (· < n) = true := by
      unfold compStm at hs
      split at hs <;> (try cases hs)
      rename_i hdst
      split at hs <;> (try cases hs)
      exact ⟨rfl, hdst⟩
    refine (wpOp_ok hcall ho hs hst.e hst.i h1 (fun v' w' F' ι' g1 g2 g3 g4 => ?_)).1
    refine ops_ok hcall rest l' (i + 1) w' F' ι' H1 (putD env s.dst v) (a.put o.dst v') hd' hl' h2 ?_ ?_
    · rw [hdst.1]
      exact hst.put hdst.2 g1 g2 g4
    · intro a' w'' F'' ι'' k1 k2 k3
      exact hQ a' w'' F'' ι'' k1 (g3.trans k2) ⟨⟨fun b hb => k3.f b (g4.f b hb), fun b hb => (k3.h b (g4.f b hb)).trans (g4.h b hb)⟩, fun i b hb => k3.i i b (g4.i i b hb), fun b n hb => k3.c b n (g4.c b n hb)⟩

end
end Go.Zc
end
section
namespace Go.Zc
variable [Globs]

def same : Rsc → Heap → Heap → Prop
  | .loc s, H, H' => look H.bx s = look H'.bx s
  | .bl, H, H' => H.bl = H'.bl

theorem same.refl (r : Rsc) (H : Heap) : same r H H := by cases r <;> exact rfl
theorem same.symm {r : Rsc} {H H' : Heap} (h : same r H H') : same r H' H := by cases r <;> exact Eq.symm h
theorem same.trans {r : Rsc} {H H' H'' : Heap} (h : same r H H') (h' : same r H' H'') : same r H H'' := by cases r <;> exact Eq.trans h h'

/-- Two heaps that agree on the blocks, and on some boxes. -/
structure Agr (D : Nat → Prop) (H H' : Heap) : Prop where
  bl : H.bl = H'.bl
  bx : ∀ s, D s → look H.bx s = look H'.bx s

def inD (D : Nat → Prop) : Id → Prop
  | .loc s => D s
  | .blk _ => True

variable {D : Nat → Prop} {H H' : Heap}

theorem Agr.get (h : Agr D H H') {i : Id} (hi : inD D i) : H.get i = H'.get i := by
  cases i with
  | loc s => exact h.bx s hi
  | blk n => simp only [Heap.get, h.bl]

/-- What an operation leaves alone. -/
def Rest (D : Nat → Prop) (H H1 : Heap) : Prop := ∀ s, ¬ D s → look H1.bx s = look H.bx s

theorem Agr.put (h : Agr D H H') (i : Id) (hi : inD D i) (cs : List CV) : Agr D (H.put i cs) (H'.put i cs) ∧ Rest D H (H.put i cs) := by
  cases i with
  | loc s =>
    refine ⟨⟨h.bl, fun t ht => ?_⟩, fun t ht => ?_⟩
    · simp only [Heap.put, look_setBx, h.bx t ht]
    · simp only [Heap.put, look_setBx]
      rw [if_neg (fun e => ht (by subst e; exact hi))]
  | blk n => exact ⟨⟨by simp only [Heap.put, h.bl], h.bx⟩, fun _ _ => rfl⟩

theorem Agr.push (h : Agr D H H') (b : Blk) : Agr D (H.push b) (H'.push b) ∧ Rest D H (H.push b) := ⟨⟨by simp only [Heap.push, h.bl], h.bx⟩, fun _ _ => rfl⟩
theorem Agr.kill (h : Agr D H H') (n : Nat) : Agr D (H.kill (.blk n)) (H'.kill (.blk n)) ∧ Rest D H (H.kill (.blk n)) := ⟨⟨by simp only [Heap.kill, h.bl], h.bx⟩, fun _ _ => rfl⟩
theorem Agr.setb (h : Agr D H H') (n : Nat) (b : Blk) : Agr D { H with bl := H.bl.set n b } { H' with bl := H'.bl.set n b } ∧ Rest D H { H with bl := H.bl.set n b } := ⟨⟨by simp only [h.bl], h.bx⟩, fun _ _ => rfl⟩

/-- The operands' own addresses. -/
def vIn (D : Nat → Prop) : CV → Prop
  | .op i _ => inD D i
  | .os _ i _ _ => inD D i
  | _ => True

theorem Agr.shown (h : Agr D H H') (sz : Nat) {x : CV} (hx : vIn D x) : Zc.shown H sz x = Zc.shown H' sz x := by
  cases x with
  | os s i off n => simp only [Zc.shown, h.get hx]
  | _ => rfl
theorem Agr.loadC (h : Agr D H H') (a : Bool) (n : Nat) {x : CV} (hx : vIn D x) : Zc.loadC a n H x = Zc.loadC a n H' x := by
  cases x with
  | op i off => simp only [Zc.loadC, h.get hx]
  | _ => rfl

/-- What both come to. -/
def Both (D : Nat → Prop) (H H' : Heap) (r r' : Option (CV × Heap)) : Prop := ∀ v H1, r = some (v, H1) → ∃ H1', r' = some (v, H1') ∧ Agr D H1 H1' ∧ Rest D H H1 ∧ Rest D H' H1'

theorem Agr.symm (h : Agr D H H') : Agr D H' H := ⟨h.bl.symm, fun s hs => (h.bx s hs).symm⟩

theorem both_look (h : Agr D H H') {f : Heap → Option CV} (hf : f H = f H') : Both D H H' ((f H).map fun v => (v, H)) ((f H').map fun v => (v, H')) := by
  intro v H1 hr
  rw [hf] at hr
  simp only [Option.map_eq_some_iff, Prod.mk.injEq] at hr
  obtain ⟨u, hu, rfl, rfl⟩ := hr
  exact ⟨H', by simp [hu], h, fun _ _ => rfl, fun _ _ => rfl⟩

theorem both_none {r' : Option (CV × Heap)} : Both D H H' none r' := fun _ _ h => by cases h

theorem both_some (_h : Agr D H H') {v : CV} {H1 H1' : Heap} (g : Agr D H1 H1') (h1 : Rest D H H1) (h2 : Rest D H' H1') : Both D H H' (some (v, H1)) (some (v, H1')) := by
  intro v' H2 hr
  cases hr
  exact ⟨H1', rfl, g, h1, h2⟩

theorem both_ite {c : Prop} [Decidable c] {a a' b b' : Option (CV × Heap)} (h1 : Both D H H' a a') (h2 : Both D H H' b b') : Both D H H' (if c then a else b) (if c then a' else b') := by
  split
  · exact h1
  · exact h2

theorem both_bind {α : Type} {o : Option α} {f f' : α → Option (CV × Heap)} (h : ∀ x, o = some x → Both D H H' (f x) (f' x)) : Both D H H' (o.bind f) (o.bind f') := by
  cases o with
  | none => exact both_none
  | some x => exact h x rfl

theorem both_map {o o' : Option Heap} {v : CV} (h : ∀ H1, o = some H1 → ∃ H1', o' = some H1' ∧ Agr D H1 H1' ∧ Rest D H H1 ∧ Rest D H' H1') : Both D H H' (o.map fun x => (v, x)) (o'.map fun x => (v, x)) := by
  intro v' H1 hr
  simp only [Option.map_eq_some_iff, Prod.mk.injEq] at hr
  obtain ⟨H2, h2, rfl, rfl⟩ := hr
  obtain ⟨H3, h3, g⟩ := h H2 h2
  exact ⟨H3, by simp [h3], g⟩

theorem Rest.trans {H1 H2 : Heap} (h : Rest D H H1) (h' : Rest D H1 H2) : Rest D H H2 := fun s hs => (h' s hs).trans (h s hs)

theorem Agr.len (h : Agr D H H') : H.bl.length = H'.bl.length := by rw [h.bl]

/-- Of an operation that makes no box. -/
theorem heapOp_agr (h : Agr D H H') (o : HOp) (hb : ∀ s, o ≠ .box s) (hn : ∀ s z, o ≠ .newl s z) (vs : List CV) (hv : ∀ x ∈ vs, vIn D x) : Both D H H' (heapOp o vs H) (heapOp o vs H') := by
  have hs := h.symm
  unfold heapOp
  split
  · exact (hb _ rfl).elim
  · refine both_ite ?_ both_none
    rw [h.len]; exact both_some h (h.push _).1 (h.push _).2 (hs.push _).2
  · exact (hn _ _ rfl).elim
  · refine both_ite ?_ both_none
    rw [h.len]; exact both_some h (h.push _).1 (h.push _).2 (hs.push _).2
  · refine both_ite (both_bind fun cs _ => both_ite ?_ both_none) both_none
    exact both_some h h (fun _ _ => rfl) (fun _ _ => rfl)
  · refine both_ite (both_bind fun cs _ => both_ite ?_ both_none) both_none
    rw [h.len]; exact both_some h (h.push _).1 (h.push _).2 (hs.push _).2
  · exact both_look h (f := fun H => loadC _ _ H _) (h.loadC _ _ (hv _ (by simp)))
  · rename_i n p x
    refine both_map fun H1 h1 => ?_
    cases p with
    | op i off =>
      have hi : inD D i := hv (.op i off) (by simp)
      simp only [storeC] at h1 ⊢
      rw [h.get hi] at h1
      obtain ⟨cs, hc, h1⟩ := Option.bind_eq_some_iff.1 h1
      split at h1 <;> (try cases h1)
      rename_i hcond
      exact ⟨_, by rw [hc, Option.bind_some, if_pos hcond], (h.put i hi _).1, (h.put i hi _).2, (hs.put i hi _).2⟩
    | _ => simp [storeC] at h1
  · rename_i sz bytes zero s x
    have hx := hv x (by simp)
    have hs1 := hv s (by simp)
    refine both_ite (both_ite (both_some h h (fun _ _ => rfl) (fun _ _ => rfl)) both_none) ?_
    rw [h.shown sz hx]
    refine both_bind fun new _ => both_ite ?_ both_none
    cases s with
    | nils =>
      simp only [appC]
      rw [h.len]; exact both_some h (h.push _).1 (h.push _).2 (hs.push _).2
    | os s i off n =>
      unfold appC
      split
      · rename_i heq; cases heq
      · rename_i s' m n' heq
        cases heq
        refine both_ite ?_ both_none
        rw [h.get (i := .blk m) trivial]
        refine both_bind fun cs _ => both_ite ?_ both_none
        rw [h.len]
        exact both_some h ((h.kill m).1.push _).1 ((h.kill m).2.trans ((h.kill m).1.push _).2) ((hs.kill m).2.trans ((hs.kill m).1.push _).2)
      · exact both_none
    | _ => simp only [appC]; exact both_none
  · refine both_ite (both_ite (both_some h h (fun _ _ => rfl) (fun _ _ => rfl)) both_none) (both_ite ?_ both_none)
    rw [h.len]; exact both_some h (h.push _).1 (h.push _).2 (hs.push _).2
  · rename_i sz d x
    have hx := hv x (by simp)
    have hd := hv d (by simp)
    rw [h.shown sz hx]
    refine both_bind fun new _ => both_ite ?_ both_none
    cases d with
    | os s i off n =>
      simp only [copyC]
      refine both_ite ?_ both_none
      rw [h.get (i := i) hd]
      refine both_bind fun cs _ => both_ite ?_ both_none
      exact both_some h (h.put i hd _).1 (h.put i hd _).2 (hs.put i hd _).2
    | _ => simp only [copyC]; exact both_none
  · rename_i sz zero s
    have hd := hv s (by simp)
    refine both_ite (both_map fun H1 h1 => ?_) both_none
    cases s with
    | os s i off n =>
      simp only [clearC] at h1 ⊢
      split at h1 <;> (try cases h1)
      rename_i hsz
      rw [h.get (i := i) hd] at h1
      obtain ⟨cs, hc, h1⟩ := Option.bind_eq_some_iff.1 h1
      split at h1 <;> (try cases h1)
      rename_i hcond
      exact ⟨_, by rw [if_pos hsz, hc, Option.bind_some, if_pos hcond], (h.put i hd _).1, (h.put i hd _).2, (hs.put i hd _).2⟩
    | _ => simp [clearC] at h1
  · refine both_ite ?_ both_none
    unfold mkslC
    split
    · refine both_ite ?_ both_none
      rw [h.len]; exact both_some h (h.push _).1 (h.push _).2 (hs.push _).2
    · exact both_none
  · refine both_ite ?_ both_none
    unfold mkslFC
    split
    · exact both_ite (both_some h h (fun _ _ => rfl) (fun _ _ => rfl)) both_none
    · exact both_none
  · rw [h.len]; exact both_some h (h.push _).1 (h.push _).2 (hs.push _).2
  · refine both_look h (f := fun H => lookC _ _ _ _ H _) ?_
    unfold lookC
    rw [h.bl]
  · rename_i kk m k v
    refine both_ite both_none (both_map fun H1 h1 => ?_)
    unfold mputC at h1 ⊢
    split at h1 <;> (try cases h1)
    rename_i n
    split at h1 <;> (try cases h1)
    rename_i hkk
    rw [if_neg hkk]
    rw [h.bl] at h1
    split at h1 <;> (try cases h1)
    rename_i es _
    obtain ⟨y, hy, h1⟩ := Option.bind_eq_some_iff.1 h1
    rw [hy, Option.bind_some]
    cases y with
    | some y =>
      obtain ⟨i, u⟩ := y
      simp only [Option.some.injEq] at h1
      subst h1
      refine ⟨_, rfl, ?_, ?_, ?_⟩
      · exact ⟨rfl, h.bx⟩
      · exact fun _ _ => rfl
      · exact fun _ _ => rfl
    | none =>
      simp only [Option.map_eq_some_iff] at h1
      obtain ⟨z, hz, rfl⟩ := h1
      exact ⟨{ bx := H'.bx, bl := H'.bl.set n (.map (es ++ [(k, v)])) }, by simp only [hz, Option.map_some], ⟨rfl, h.bx⟩, fun _ _ => rfl, fun _ _ => rfl⟩
  · rename_i kk m k
    refine both_map fun H1 h1 => ?_
    unfold mdelC at h1 ⊢
    split at h1 <;> (try cases h1)
    rename_i n
    rw [h.bl] at h1
    split at h1 <;> (try cases h1)
    rename_i es _
    obtain ⟨y, hy, h1⟩ := Option.bind_eq_some_iff.1 h1
    rw [hy, Option.bind_some]
    cases y with
    | some y =>
      obtain ⟨i, u⟩ := y
      simp only [Option.some.injEq] at h1
      subst h1
      exact ⟨_, rfl, ⟨rfl, h.bx⟩, fun _ _ => rfl, fun _ _ => rfl⟩
    | none =>
      simp only [Option.map_eq_some_iff] at h1
      obtain ⟨z, hz, rfl⟩ := h1
      exact ⟨_, by simp only [hz, Option.map_some], h, fun _ _ => rfl, fun _ _ => rfl⟩
  · refine both_look h (f := fun H => lenMC H _) ?_
    unfold lenMC
    rw [h.bl]
  · rw [h.len]; exact both_some h (h.push _).1 (h.push _).2 (hs.push _).2
  · unfold mrngC
    split
    · rw [h.len]; exact both_some h (h.push _).1 (h.push _).2 (hs.push _).2
    · rw [h.bl]
      split
      · exact both_ite both_none (both_some h (h.push _).1 (h.push _).2 (hs.push _).2)
      · exact both_none
    · exact both_none
  · unfold nxtSC
    rw [h.bl]
    split
    · exact both_ite (both_some h ⟨rfl, h.bx⟩ (fun _ _ => rfl) (fun _ _ => rfl)) (both_some h h (fun _ _ => rfl) (fun _ _ => rfl))
    · exact both_none
  · unfold nxtMC
    rw [h.bl]
    split
    · exact both_some h h (fun _ _ => rfl) (fun _ _ => rfl)
    · split
      · exact both_some h h (fun _ _ => rfl) (fun _ _ => rfl)
      · exact both_none
    · exact both_none
  · rename_i x
    rw [h.shown 1 (hv x (by simp))]
    refine both_bind fun cs _ => ?_
    split
    · exact both_some h h (fun _ _ => rfl) (fun _ _ => rfl)
    · exact both_none
  · exact both_none

/-! ### Footprints -/

def Foot.rd (f : Foot) (r : Rsc) : Prop := f.ra = true ∨ r ∈ f.r
def Foot.wr (f : Foot) (r : Rsc) : Prop := f.wa = true ∨ r ∈ f.w

theorem hit_false {a b : Bool} {l m : List Rsc} (h : hit a l b m = false) (r : Rsc) (h1 : a = true ∨ r ∈ l) (h2 : b = true ∨ r ∈ m) : False := by
  simp only [hit, Bool.or_eq_false_iff, Bool.and_eq_false_iff, List.any_eq_false] at h
  obtain ⟨⟨g1, g2⟩, g3⟩ := h
  rcases h1 with rfl | h1
  · rcases g1 with g1 | g1
    · cases g1
    · rcases h2 with rfl | h2
      · simp at g1
      · cases m with
        | nil => simp at h2
        | cons x m => simp at g1
  · rcases h2 with rfl | h2
    · rcases g2 with g2 | g2
      · cases g2
      · cases l with
        | nil => simp at h1
        | cons x l => simp at g2
    · exact g3 r h1 (by simpa using h2)

theorem clash_false {x y : Foot} (h : x.clash y = false) (r : Rsc) : (x.wr r → ¬ y.rd r ∧ ¬ y.wr r) ∧ (y.wr r → ¬ x.rd r) := by
  simp only [Foot.clash, Bool.or_eq_false_iff] at h
  exact ⟨fun hw => ⟨fun hr => hit_false h.1.1 r hw hr, fun hr => hit_false h.1.2 r hw hr⟩, fun hw hr => hit_false h.2 r hw hr⟩

/-- A call leaves what is owned alone where it is quiet, and goes by what the boxes hold, not by how they stand. -/
structure QuietOk (call : Caller) (quiet : FuncId → Bool) : Prop where
  free : ∀ k first cap args H v H1, quiet k = true → CV.refs (.fn (.func k) first cap :: args) = false → call (.fn (.func k) first cap) args ⟨[], []⟩ = some (v, H1) → call (.fn (.func k) first cap) args H = some (v, H)
  quiet : ∀ k first cap args H v H', quiet k = true → call (.fn (.func k) first cap) args H = some (v, H') → H' = H
  lone : ∀ f args H v H1, call f args ⟨[], H.bl⟩ = some (v, H1) → call f args H = some (v, ⟨H.bx, H1.bl⟩)
  agr : ∀ f args H H' v H1, Agr (fun _ => True) H H' → call f args H = some (v, H1) → ∃ H1', call f args H' = some (v, H1') ∧ Agr (fun _ => True) H1 H1'

theorem agr_all {H H' : Heap} : Agr (fun _ => True) H H' ↔ ∀ r, same r H H' :=
  ⟨fun h r => by cases r with | loc s => exact h.bx s trivial | bl => exact h.bl, fun h => ⟨h .bl, fun s _ => h (.loc s)⟩⟩

theorem locs_in {vs : List CV} (h : CV.locs vs = false) : ∀ x ∈ vs, vIn (fun _ => False) x := by
  induction vs with
  | nil => intro x hx; simp at hx
  | cons c cs ih =>
    simp only [CV.locs, Bool.or_eq_false_iff] at h
    intro x hx
    rcases List.mem_cons.1 hx with rfl | hx
    · cases x with
      | op i off => cases i with
        | loc s => simp [CV.locv, Id.loc?] at h
        | blk n => trivial
      | os s i off n => cases i with
        | loc s => simp [CV.locv, Id.loc?] at h
        | blk n => trivial
      | _ => trivial
    · exact ih h.2 x hx

/-- What a step comes to elsewhere. -/
def Moves (f : Foot) (H H' : Heap) (r r' : Option (CV × Heap)) : Prop :=
  ∀ v H1, r = some (v, H1) → ∃ H1', r' = some (v, H1') ∧ (∀ x, f.wr x → same x H1' H1) ∧ (∀ x, ¬ f.wr x → same x H1' H') ∧ (∀ x, ¬ f.wr x → same x H1 H)

theorem moves_looks {f : Foot} {H H' : Heap} {r r' : Option (CV × Heap)} (hw : ∀ x, ¬ f.wr x) (h : ∀ v H1, r = some (v, H1) → H1 = H ∧ r' = some (v, H')) : Moves f H H' r r' := by
  intro v H1 hr
  obtain ⟨rfl, h2⟩ := h v H1 hr
  exact ⟨H', h2, fun x hx => (hw x hx).elim, fun x _ => same.refl x _, fun x _ => same.refl x _⟩

theorem heapOp_looks {o : HOp} (ho : (∃ a n, o = .load a n) ∨ (∃ k z b, o = .look k z b) ∨ o = .lenM) {vs : List CV} {H : Heap} {v : CV} {H1 : Heap} (h : heapOp o vs H = some (v, H1)) : H1 = H := by
  rcases ho with ⟨a, n, rfl⟩ | ⟨k, z, b, rfl⟩ | rfl
  all_goals
    unfold heapOp at h
    split at h <;> (try cases h) <;> rename_i heq <;> cases heq
    simp only [Option.map_eq_some_iff, Prod.mk.injEq] at h
    obtain ⟨_, _, _, rfl⟩ := h
    rfl

theorem box_moves {d : Nat} {H H' : Heap} (hs : same (.loc d) H H') {cs : List CV} {c : Bool} {v : CV} : Moves ⟨false, [.loc d], false, [.loc d]⟩ H H' (if ((look H.bx d).isNone && c) = true then some (v, H.put (.loc d) cs) else none) (if ((look H'.bx d).isNone && c) = true then some (v, H'.put (.loc d) cs) else none) := by
  intro v' H1 hr
  have hs' : look H.bx d = look H'.bx d := hs
  split at hr <;> cases hr
  rename_i hc
  refine ⟨H'.put (.loc d) cs, by rw [if_pos (by rw [← hs']; exact hc)], ?_, ?_, ?_⟩
  · intro x hx
    simp only [Foot.wr, Bool.false_eq_true, false_or, List.mem_singleton] at hx
    subst hx
    simp [same, Heap.put, look_setBx]
  all_goals
    intro x hx
    simp only [Foot.wr, Bool.false_eq_true, false_or, List.mem_singleton] at hx
    cases x with
    | loc s =>
      have : ¬ s = d := fun e => hx (by rw [e])
      simp [same, Heap.put, look_setBx, this]
    | bl => rfl

/-- An operation that works in the blocks alone. -/
theorem blk_moves {o : HOp} (hb : ∀ s, o ≠ .box s) (hn : ∀ s z, o ≠ .newl s z) {H H' : Heap} (h : H.bl = H'.bl) {vs : List CV} (hv : ∀ x ∈ vs, vIn (fun _ => False) x) (ra : Bool) (rl : List Rsc) : Moves ⟨ra, rl, false, [.bl]⟩ H H' (heapOp o vs H) (heapOp o vs H') := by
  intro v H1 hr
  obtain ⟨H1', h1, h2, h3, h4⟩ := heapOp_agr (D := fun _ => False) ⟨h, fun _ hf => hf.elim⟩ o hb hn vs hv v H1 hr
  refine ⟨H1', h1, fun x hx => ?_, fun x hx => ?_, fun x hx => ?_⟩
  · simp only [Foot.wr, Bool.false_eq_true, false_or, List.mem_singleton] at hx
    subst hx
    exact h2.bl.symm
  · cases x with
    | loc s => exact h4 s id
    | bl => exact (hx (.inr (by simp))).elim
  · cases x with
    | loc s => exact h3 s id
    | bl => exact (hx (.inr (by simp))).elim

/-- An operation at one box. -/
theorem at_moves {s : Nat} {H H' : Heap} (hs : look H.bx s = look H'.bx s) {off : Nat} {r : List CV} :
    (∀ a n, Moves ⟨false, [.loc s], false, []⟩ H H' (heapOp (.load a n) (.op (.loc s) off :: r) H) (heapOp (.load a n) (.op (.loc s) off :: r) H')) ∧
    (∀ n, Moves ⟨false, [.loc s], false, [.loc s]⟩ H H' (heapOp (.store n) (.op (.loc s) off :: r) H) (heapOp (.store n) (.op (.loc s) off :: r) H')) := by
  refine ⟨fun a n => ?_, fun n => ?_⟩
  · refine moves_looks (fun x hx => by simp [Foot.wr] at hx) fun v H1 hr => ?_
    refine ⟨heapOp_looks (.inl ⟨a, n, rfl⟩) hr, ?_⟩
    cases r with
    | cons _ _ => simp [heapOp] at hr
    | nil =>
      simp only [heapOp, loadC, Heap.get] at hr ⊢
      rw [← hs]
      simp only [Option.map_eq_some_iff, Prod.mk.injEq] at hr ⊢
      obtain ⟨u, hu, rfl, _⟩ := hr
      exact ⟨u, hu, rfl, trivial⟩
  · intro v H1 hr
    match r, hr with
    | [x], hr =>
      simp only [heapOp, storeC, Heap.get] at hr ⊢
      rw [← hs]
      simp only [Option.map_eq_some_iff, Prod.mk.injEq] at hr
      obtain ⟨H2, h2, rfl, rfl⟩ := hr
      obtain ⟨cs, hc, h2⟩ := Option.bind_eq_some_iff.1 h2
      split at h2 <;> (try cases h2)
      rename_i hcond
      refine ⟨H'.put (.loc s) (setMany cs off x.cells), by rw [hc, Option.bind_some, if_pos hcond]; rfl, ?_, ?_, ?_⟩
      · intro y hy
        simp only [Foot.wr, Bool.false_eq_true, false_or, List.mem_singleton] at hy
        subst hy
        simp [same, Heap.put, look_setBx]
      all_goals
        intro y hy
        simp only [Foot.wr, Bool.false_eq_true, false_or, List.mem_singleton] at hy
        cases y with
        | loc t =>
          have : ¬ t = s := fun e => hy (by rw [e])
          simp [same, Heap.put, look_setBx, this]
        | bl => rfl
    | [], hr => simp [heapOp] at hr
    | _ :: _ :: _, hr => simp [heapOp] at hr

/-- An operation that may look at all, and turn all. -/
theorem all_moves {o : HOp} (hb : ∀ s, o ≠ .box s) (hn : ∀ s z, o ≠ .newl s z) {H H' : Heap} (h : Agr (fun _ => True) H H') {vs : List CV} : Moves ⟨true, [], true, []⟩ H H' (heapOp o vs H) (heapOp o vs H') := by
  intro v H1 hr
  have hv : ∀ x ∈ vs, vIn (fun _ => True) x := by
    intro x _
    cases x with
    | op i _ => cases i <;> trivial
    | os _ i _ _ => cases i <;> trivial
    | _ => trivial
  obtain ⟨H1', h1, h2, _⟩ := heapOp_agr h o hb hn vs hv v H1 hr
  exact ⟨H1', h1, fun x _ => (agr_all.1 h2 x).symm, fun x hx => (hx (.inl rfl)).elim, fun x hx => (hx (.inl rfl)).elim⟩

theorem widen {f : Foot} {H H' : Heap} {r r' : Option (CV × Heap)} (ha : Agr (fun _ => True) H H') (h : Moves f H H' r r') : Moves ⟨true, [], true, []⟩ H H' r r' := by
  intro v H1 hr
  obtain ⟨H2, h2, g1, g2, g3⟩ := h v H1 hr
  refine ⟨H2, h2, fun y _ => ?_, fun y hy => (hy (.inl rfl)).elim, fun y hy => (hy (.inl rfl)).elim⟩
  by_cases hy : f.wr y
  · exact g1 y hy
  · exact (g2 y hy).trans ((agr_all.1 ha y).symm.trans (g3 y hy).symm)

theorem newl_moves {d : Nat} {z vs : List CV} {H H' : Heap} (hs : same (.loc d) H H') : Moves ⟨false, [.loc d], false, [.loc d]⟩ H H' (heapOp (.newl d z) vs H) (heapOp (.newl d z) vs H') := by
  cases vs with
  | nil =>
    have := box_moves hs (cs := z) (c := ones z && !CV.locs z) (v := .op (.loc d) 0)
    simpa only [heapOp, Bool.and_assoc] using this
  | cons x r => intro v H1 hr; simp [heapOp] at hr

theorem boxl_moves {d : Nat} {vs : List CV} {H H' : Heap} (hs : same (.loc d) H H') : Moves ⟨false, [.loc d], false, [.loc d]⟩ H H' (heapOp (.box d) vs H) (heapOp (.box d) vs H') := by
  match vs with
  | [] => intro v H1 hr; simp [heapOp] at hr
  | [x] =>
    have := box_moves hs (cs := x.cells) (c := ones x.cells) (v := .op (.loc d) 0)
    simpa only [heapOp, Bool.and_comm] using this
  | _ :: _ :: _ => intro v H1 hr; simp [heapOp] at hr

theorem any_moves (o : HOp) {H H' : Heap} (h : Agr (fun _ => True) H H') {vs : List CV} : Moves ⟨true, [], true, []⟩ H H' (heapOp o vs H) (heapOp o vs H') := by
  cases o with
  | box d => exact widen h (boxl_moves (h.bx d trivial))
  | newl d z => exact widen h (newl_moves (h.bx d trivial))
  | _ => exact all_moves (by simp) (by simp) h

theorem ite_none {c : Prop} [Decidable c] {a : Option (CV × Heap)} {v : CV} {H : Heap} (h : (if c then none else a) = some (v, H)) : ¬ c ∧ a = some (v, H) := by
  split at h
  · cases h
  · exact ⟨‹_›, h⟩

theorem run_foot {call : Caller} {quiet : FuncId → Bool} (hq : QuietOk call quiet) {s : CStm} {env : Env} {H H' : Heap} (h : ∀ r, (footOf quiet s).rd r → same r H H') :
    Moves (footOf quiet s) H H' (runOp call s.op (evs env s.args) H) (runOp call s.op (evs env s.args) H') := by
  obtain ⟨dst, op, args, guard⟩ := s
  have hall : ∀ {f : Foot}, f.ra = true → footOf quiet ⟨dst, op, args, guard⟩ = f → Agr (fun _ => True) H H' := fun hra hf => agr_all.2 fun r => h r (by rw [hf]; exact .inl hra)
  cases op with
  | p o =>
    refine moves_looks (fun x hx => by simp [Foot.wr, footOf] at hx) fun v H1 hr => ?_
    simp only [runOp, Option.map_eq_some_iff, Prod.mk.injEq] at hr ⊢
    obtain ⟨u, hu, rfl, rfl⟩ := hr
    exact ⟨rfl, u, hu, rfl, trivial⟩
  | h o =>
    have plain : footOf quiet ⟨dst, .h o, args, guard⟩ = ⟨true, [], true, []⟩ → (∀ s, o ≠ .box s) → (∀ s z, o ≠ .newl s z) → Moves (footOf quiet ⟨dst, .h o, args, guard⟩) H H' (runOp call (.h o) (evs env args) H) (runOp call (.h o) (evs env args) H') := by
      intro hf hb hn
      have := hall (by rw [hf]) rfl
      rw [hf]
      exact all_moves hb hn this
    have looks : footOf quiet ⟨dst, .h o, args, guard⟩ = ⟨true, [], false, []⟩ → ((∃ a n, o = .load a n) ∨ (∃ k z b, o = .look k z b) ∨ o = .lenM) → Moves (footOf quiet ⟨dst, .h o, args, guard⟩) H H' (runOp call (.h o) (evs env args) H) (runOp call (.h o) (evs env args) H') := by
      intro hf ho
      have ha := hall (by rw [hf]) rfl
      intro v H1 hr
      have e1 := heapOp_looks ho hr
      subst e1
      have hb : ∀ s, o ≠ .box s := by rcases ho with ⟨_, _, rfl⟩ | ⟨_, _, _, rfl⟩ | rfl <;> simp
      have hn : ∀ s z, o ≠ .newl s z := by rcases ho with ⟨_, _, rfl⟩ | ⟨_, _, _, rfl⟩ | rfl <;> simp
      obtain ⟨H2, h2, _⟩ := all_moves hb hn ha v _ hr
      have e2 := heapOp_looks ho h2
      subst e2
      refine ⟨_, h2, fun x hx => ?_, fun x _ => same.refl x _, fun x _ => same.refl x _⟩
      rw [hf] at hx
      simp [Foot.wr] at hx
    cases o with
    | bslF sz len z ps =>
      refine moves_looks (fun x hx => by simp [Foot.wr, footOf] at hx) fun v H1 hr => ?_
      simp only [runOp, heapOp] at hr ⊢
      split at hr <;> (try cases hr)
      rename_i hl
      obtain ⟨cs, h1, h2⟩ := Option.bind_eq_some_iff.1 hr
      split at h2 <;> cases h2
      rename_i hb
      exact ⟨rfl, by rw [if_pos hl, h1, Option.bind_some, if_pos hb]⟩
    | newl d z => exact newl_moves (h (.loc d) (.inr (by simp [footOf])))
    | box d => exact boxl_moves (h (.loc d) (.inr (by simp [footOf])))
    | load a n => exact looks rfl (.inl ⟨a, n, rfl⟩)
    | look k z b => exact looks rfl (.inr (.inl ⟨k, z, b, rfl⟩))
    | lenM => exact looks rfl (.inr (.inr rfl))
    | _ => exact plain rfl (by simp) (by simp)
  | hb o =>
    have blk : ∀ (rl wl : List Rsc), footOf quiet ⟨dst, .hb o, args, guard⟩ = ⟨false, rl, false, wl⟩ → .bl ∈ rl → (wl = [.bl] ∨ (wl = [] ∧ ((∃ a n, o = .load a n) ∨ (∃ k z b, o = .look k z b) ∨ o = .lenM))) → (∀ s, o ≠ .box s) → (∀ s z, o ≠ .newl s z) → Moves (footOf quiet ⟨dst, .hb o, args, guard⟩) H H' (runOp call (.hb o) (evs env args) H) (runOp call (.hb o) (evs env args) H') := by
      intro rl wl hf hrl hwl hb hn v H1 hr
      have hbl : H.bl = H'.bl := h .bl (by rw [hf]; exact .inr hrl)
      simp only [runOp] at hr ⊢
      obtain ⟨hlc, hr⟩ := ite_none hr
      rw [if_neg hlc]
      obtain ⟨H2, h2, g1, g2, g3⟩ := blk_moves hb hn hbl (locs_in (by simpa using hlc)) false [] v H1 hr
      rw [hf]
      rcases hwl with rfl | ⟨rfl, ho⟩
      · exact ⟨H2, h2, g1, g2, g3⟩
      · have e1 := heapOp_looks ho hr
        have e2 := heapOp_looks ho h2
        subst e1
        subst e2
        exact ⟨_, h2, fun x hx => by simp [Foot.wr] at hx, fun x _ => same.refl x _, fun x _ => same.refl x _⟩
    cases o with
    | box d =>
      intro v H1 hr
      have ha := agr_all.2 fun r => h r (.inl rfl)
      simp only [runOp] at hr ⊢
      obtain ⟨hlc, hr⟩ := ite_none hr
      rw [if_neg hlc]
      exact any_moves _ ha v H1 hr
    | newl d z =>
      intro v H1 hr
      have ha := agr_all.2 fun r => h r (.inl rfl)
      simp only [runOp] at hr ⊢
      obtain ⟨hlc, hr⟩ := ite_none hr
      rw [if_neg hlc]
      exact any_moves _ ha v H1 hr
    | load a n => exact blk [.bl] [] rfl (by simp) (.inr ⟨rfl, .inl ⟨a, n, rfl⟩⟩) (by simp) (by simp)
    | look k z b => exact blk [.bl] [] rfl (by simp) (.inr ⟨rfl, .inr (.inl ⟨k, z, b, rfl⟩)⟩) (by simp) (by simp)
    | lenM => exact blk [.bl] [] rfl (by simp) (.inr ⟨rfl, .inr (.inr rfl)⟩) (by simp) (by simp)
    | _ => exact blk [.bl] [.bl] rfl (by simp) (.inl rfl) (by simp) (by simp)
  | hl d o =>
    cases hv : evs env args with
    | nil => intro v H1 hr; simp [runOp] at hr
    | cons x r =>
      by_cases hx : ∃ off, x = .op (.loc d) off ∧ CV.locs r = false
      · obtain ⟨off, rfl, hr⟩ := hx
        have e : ∀ H, runOp call (.hl d o) (.op (.loc d) off :: r) H = heapOp o (.op (.loc d) off :: r) H := fun H => by simp only [runOp, hr, and_self, if_true]
        simp only [e]
        cases o with
        | load a n => exact (at_moves (h (.loc d) (.inr (by simp [footOf])))).1 a n
        | store n => exact (at_moves (h (.loc d) (.inr (by simp [footOf])))).2 n
        | _ => exact any_moves _ (agr_all.2 fun r => h r (.inl rfl))
      · intro v H1 hr
        exfalso
        simp only [runOp] at hr
        split at hr <;> (try cases hr)
        rename_i t off r' heq
        cases heq
        split at hr <;> (try cases hr)
        rename_i hc
        exact hx ⟨off, by rw [hc.1], hc.2⟩
  | callb =>
    have hbl : H.bl = H'.bl := h .bl (by
      unfold footOf Foot.rd
      dsimp only
      split
      · split <;> simp
      · simp)
    intro v H1 hr
    cases hv : evs env args with
    | nil => rw [hv] at hr; simp [runOp] at hr
    | cons f as =>
      rw [hv] at hr
      simp only [runOp, Option.map_eq_some_iff, Prod.mk.injEq] at hr ⊢
      obtain ⟨⟨u, H2⟩, h2, rfl, rfl⟩ := hr
      rw [← hbl]
      refine ⟨⟨H'.bx, H2.bl⟩, ⟨(u, H2), h2, rfl, rfl⟩, ?_⟩
      by_cases hqk : ∃ k a c r, args = .c (.fn (.func k) a c) :: r ∧ quiet k = true
      · obtain ⟨k, a, c, r, rfl, hqk⟩ := hqk
        have hf : f = .fn (.func k) a c := by simp only [evs, ev, List.cons.injEq] at hv; exact hv.1.symm
        subst hf
        have e1 := hq.quiet _ _ _ _ _ _ _ hqk h2
        subst e1
        refine ⟨fun x hx => by simp [Foot.wr, footOf, hqk] at hx, fun x _ => ?_, fun x _ => ?_⟩
        · cases x with
          | loc s => rfl
          | bl => exact hbl
        · cases x with
          | loc s => rfl
          | bl => rfl
      · have hf : footOf quiet ⟨dst, .callb, args, guard⟩ = ⟨false, [.bl], false, [.bl]⟩ := by
          unfold footOf
          dsimp only
          split
          · split
            · exact (hqk ⟨_, _, _, _, rfl, by assumption⟩).elim
            · rfl
          · rfl
        rw [hf]
        refine ⟨fun x hx => ?_, fun x hx => ?_, fun x hx => ?_⟩
        · simp only [Foot.wr, Bool.false_eq_true, false_or, List.mem_singleton] at hx
          subst hx
          rfl
        · cases x with
          | loc s => rfl
          | bl => exact (hx (.inr (by simp))).elim
        · cases x with
          | loc s => rfl
          | bl => exact (hx (.inr (by simp))).elim
  | callp =>
    have hbl : H.bl = H'.bl := h .bl (.inr (by simp [footOf]))
    intro v H1 hr
    cases hv : evs env args with
    | nil => rw [hv] at hr; simp [runOp] at hr
    | cons f as =>
      rw [hv] at hr
      simp only [runOp] at hr ⊢
      rw [← hbl]
      obtain ⟨⟨u, H2⟩, h2, h3⟩ := Option.bind_eq_some_iff.1 hr
      split at h3 <;> cases h3
      rename_i hp
      refine ⟨⟨H'.bx, H2.bl⟩, by rw [h2, Option.bind_some, if_pos hp], ?_⟩
      refine ⟨fun x hx => ?_, fun x hx => ?_, fun x hx => ?_⟩
      · simp only [Foot.wr, footOf, Bool.false_eq_true, false_or, List.mem_singleton] at hx
        subst hx
        rfl
      · cases x with
        | loc s => rfl
        | bl => exact (hx (.inr (by simp [footOf]))).elim
      · cases x with
        | loc s => rfl
        | bl => exact (hx (.inr (by simp [footOf]))).elim
  | callk n =>
    have hbl : H.bl = H'.bl := h .bl (.inr (by simp [footOf]))
    intro v H1 hr
    cases hv : evs env args with
    | nil => rw [hv] at hr; simp [runOp] at hr
    | cons f rest =>
      rw [hv] at hr
      simp only [runOp] at hr ⊢
      rw [← hbl]
      obtain ⟨⟨u, H2⟩, h2, h3⟩ := Option.bind_eq_some_iff.1 hr
      split at h3 <;> cases h3
      rename_i hp
      refine ⟨⟨H'.bx, H2.bl⟩, by rw [h2, Option.bind_some, if_pos hp], ?_⟩
      refine ⟨fun x hx => ?_, fun x hx => ?_, fun x hx => ?_⟩
      · simp only [Foot.wr, footOf, Bool.false_eq_true, false_or, List.mem_singleton] at hx
        subst hx
        rfl
      · cases x with
        | loc s => rfl
        | bl => exact (hx (.inr (by simp [footOf]))).elim
      · cases x with
        | loc s => rfl
        | bl => exact (hx (.inr (by simp [footOf]))).elim
  | callv =>
    intro v H1 hr
    cases hv : evs env args with
    | nil => rw [hv] at hr; simp [runOp] at hr
    | cons f as =>
      rw [hv] at hr
      simp only [runOp] at hr ⊢
      obtain ⟨hrf, hr⟩ := ite_none hr
      rw [if_neg hrf]
      simp only [Option.map_eq_some_iff, Prod.mk.injEq] at hr ⊢
      obtain ⟨y, hy, rfl, rfl⟩ := hr
      refine ⟨H', ⟨y, hy, rfl, rfl⟩, fun x hx => ?_, fun x _ => same.refl x _, fun x _ => same.refl x _⟩
      by_cases hqk : ∃ k a c r, args = .c (.fn (.func k) a c) :: r ∧ quiet k = true
      · obtain ⟨k, a, c, r, rfl, hqk⟩ := hqk
        simp [Foot.wr, footOf, hqk] at hx
      · have hf : footOf quiet ⟨dst, .callv, args, guard⟩ = ⟨true, [], true, []⟩ := by
          unfold footOf
          dsimp only
          split
          · split
            · exact (hqk ⟨_, _, _, _, rfl, by assumption⟩).elim
            · rfl
          · rfl
        exact (h x (by rw [hf]; exact .inl rfl)).symm
  | call =>
    have ha : Agr (fun _ => True) H H' := agr_all.2 fun r => h r (.inl (by
      unfold footOf
      dsimp only
      split
      · split <;> rfl
      · rfl))
    intro v H1 hr
    cases hv : evs env args with
    | nil => rw [hv] at hr; simp [runOp] at hr
    | cons f as =>
      rw [hv] at hr
      simp only [runOp] at hr ⊢
      obtain ⟨H2, h2, h3⟩ := hq.agr f as H H' v H1 ha hr
      have full : ∀ g : Foot, g.wa = true → (∃ H1', call f as H' = some (v, H1') ∧ (∀ x, g.wr x → same x H1' H1) ∧ (∀ x, ¬ g.wr x → same x H1' H') ∧ (∀ x, ¬ g.wr x → same x H1 H)) := fun g hg =>
        ⟨H2, h2, fun x _ => (agr_all.1 h3 x).symm, fun x hx => (hx (.inl hg)).elim, fun x hx => (hx (.inl hg)).elim⟩
      by_cases hqk : ∃ k a c r, args = .c (.fn (.func k) a c) :: r ∧ quiet k = true
      · obtain ⟨k, a, c, r, rfl, hqk⟩ := hqk
        have hf : f = .fn (.func k) a c := by simp only [evs, ev, List.cons.injEq] at hv; exact hv.1.symm
        subst hf
        have e1 := hq.quiet _ _ _ _ _ _ _ hqk hr
        have e2 := hq.quiet _ _ _ _ _ _ _ hqk h2
        subst e1
        subst e2
        exact ⟨_, h2, fun x hx => by simp [Foot.wr, footOf, hqk] at hx, fun x _ => same.refl x _, fun x _ => same.refl x _⟩
      · refine full _ ?_
        unfold footOf
        dsimp only
        split
        · split
          · exact (hqk ⟨_, _, _, _, rfl, by assumption⟩).elim
          · rfl
        · rfl

end Go.Zc
end
