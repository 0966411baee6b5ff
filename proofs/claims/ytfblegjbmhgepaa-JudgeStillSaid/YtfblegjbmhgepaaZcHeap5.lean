/- Operations on memory: maps, and all at once. No condition. -/
import Derived.Test.YtfblegjbmhgepaaZcHeap4
set_option linter.all false
namespace Go.Zc

section
variable {P : Program} {w : World} {F : Nat → Prop} {ι : IM} {H : Heap} {env : Env} {a : Act}

/-- A map's block is written, or new. -/
theorem Inv.setMap (hi : Inv w F ι H) {w' : World} {n b : Nat} {es es' : List (CV × CV)} (hn : H.bl[n]? = some (.map es)) (hb : ι.bl[n]? = some b) (hw : WTo w w' b) {ms : Array MapEntry} {cl : Nat}
    (hm : w'.heap[b]? = some (.map ms cl)) (hmr : MR w F ι.glob es' ms.toList) (hst : Go.MapKept.Stamped ms cl) :
    Inv w' F ι { H with bl := H.bl.set n (.map es') } ∧ MoV w w' F F ι ι ∧ Ext w F ι H w' F ι { H with bl := H.bl.set n (.map es') } := by
  have hli : H.live (.blk n) := live_iff.2 (.inr ⟨n, es, rfl, hn⟩)
  have hlive : Live ι H b := ⟨.blk n, hli, hb⟩
  have hmo : MoV w w' F F ι ι := ⟨⟨fun _ h => h, fun k hk => hw.other k (fun e => hi.dis k hk (e ▸ hlive)) (hi.lt k hk)⟩, fun _ _ h => h, hw.csize⟩
  have hget : ∀ i cs, ({ H with bl := H.bl.set n (.map es') } : Heap).get i = some cs → H.get i = some cs := by
    intro i cs h
    cases i with
    | loc s => exact h
    | blk m =>
      simp only [Heap.get, List.getElem?_set] at h ⊢
      by_cases hnm : n = m
      · subst hnm
        rw [if_pos rfl] at h
        split at h
        · rename_i hx
          split at hx <;> cases hx
        · cases h
      · rwa [if_neg hnm] at h
  have hlv : ∀ i, ({ H with bl := H.bl.set n (.map es') } : Heap).live i → H.live i := by
    intro i h
    rcases live_iff.1 h with ⟨cs, h'⟩ | ⟨m, es2, rfl, h'⟩
    · exact live_iff.2 (.inl ⟨cs, hget i cs h'⟩)
    · by_cases hnm : n = m
      · subst hnm; exact hli
      · change (H.bl.set n (.map es'))[m]? = _ at h'
        rw [List.getElem?_set, if_neg hnm] at h'
        exact live_iff.2 (.inr ⟨m, es2, rfl, h'⟩)
  refine ⟨hi.build hmo (by simp [hi.len]) ?_ ?_ (fun i j x h1 h2 => hi.inj i j x (hlv i h1) (hlv j h2)) (fun x hx ⟨i, h1, h2⟩ => hi.dis x hx ⟨i, hlv i h1, h2⟩) (fun x hx => Nat.lt_of_lt_of_le (hi.lt x hx) hw.size) hi.lo, hmo,
    Ext.to hw (fun _ _ h => h) (.inl hlive) (fun x ⟨i, h1, h2⟩ => .inl ⟨i, hlv i h1, h2⟩)⟩
  · intro i cs h
    left
    have h' := hget i cs h
    refine ⟨h', fun k hk => hw.other k ?_ (hi.live_lt ⟨i, live_iff.2 (.inl ⟨cs, h'⟩), hk⟩)⟩
    rintro rfl
    have := hi.inj i (.blk n) k (live_iff.2 (.inl ⟨cs, h'⟩)) hli hk hb
    subst this
    simp [Heap.get, hn] at h'
  · intro m es2 h
    by_cases hnm : n = m
    · subst hnm
      right
      have hlt : n < H.bl.length := (List.getElem?_eq_some_iff.1 hn).1
      simp only [List.getElem?_set, if_true, hlt] at h
      cases h
      exact ⟨b, ms, cl, hb, hm, hmr.mono (hmo.of (.blk n)), hst⟩
    · left
      simp only [List.getElem?_set, if_neg hnm] at h
      refine ⟨h, fun k hk => hw.other k ?_ (hi.live_lt ⟨.blk m, live_iff.2 (.inr ⟨m, es2, rfl, h⟩), hk⟩)⟩
      rintro rfl
      have := hi.inj (.blk m) (.blk n) k (live_iff.2 (.inr ⟨m, es2, rfl, h⟩)) hli hk hb
      cases this
      exact hnm rfl

theorem Inv.addMap (hi : Inv w F ι H) : Inv { w with heap := w.heap.push (.map #[] 0) } F (ι.push w.heap.size) (H.push (.map [])) ∧ MoV w { w with heap := w.heap.push (.map #[] 0) } F F ι (ι.push w.heap.size) := by
  have hw := WTo.new w (.map #[] 0)
  obtain ⟨hl, hf⟩ := hi.new_dead
  have hm : MoV w { w with heap := w.heap.push (.map #[] 0) } F F ι (ι.push w.heap.size) := ⟨⟨fun _ h => h, fun k hk => hw.other k (fun e => hf (e ▸ hk)) (hi.lt k hk)⟩, ι.push_le _, hw.csize⟩
  have hget : ∀ i cs, (H.push (.map [])).get i = some cs → H.get i = some cs := by
    intro i cs h
    cases i with
    | loc s => exact h
    | blk n =>
      simp only [Heap.push, Heap.get] at h ⊢
      rcases Nat.lt_trichotomy n H.bl.length with h' | h' | h'
      · rwa [List.getElem?_append_left h'] at h
      · subst h'; simp at h
      · rw [List.getElem?_eq_none (by simp; omega)] at h; cases h
  refine ⟨hi.build hm (by simp [IM.push, Heap.push, hi.len]) ?_ ?_ ?_ ?_ (fun k hk => Nat.lt_of_lt_of_le (hi.lt k hk) hw.size) hi.lo, hm⟩
  · intro i ds hd
    left
    have hd := hget i ds hd
    exact ⟨hd, fun k hk => hw.other k (fun e => hl ⟨i, live_iff.2 (.inl ⟨ds, hd⟩), e ▸ hk⟩) (hi.live_lt ⟨i, live_iff.2 (.inl ⟨ds, hd⟩), hk⟩)⟩
  · intro n es hn
    simp only [Heap.push] at hn
    rcases Nat.lt_trichotomy n H.bl.length with h | h | h
    · rw [List.getElem?_append_left h] at hn
      exact .inl ⟨hn, fun k hk => hw.other k (fun e => hl ⟨.blk n, live_iff.2 (.inr ⟨n, es, rfl, hn⟩), e ▸ hk⟩) (hi.live_lt ⟨.blk n, live_iff.2 (.inr ⟨n, es, rfl, hn⟩), hk⟩)⟩
    · subst h
      simp at hn
      subst hn
      right
      refine ⟨w.heap.size, #[], 0, ?_, by simp, .nil, Go.MapKept.stamped_empty 0⟩
      simp [IM.push, ← hi.len]
    · rw [List.getElem?_eq_none (by simp; omega)] at hn; cases hn
  · intro i j k hi' hj' hik hjk
    rw [IM.get_push, hi.len] at hik hjk
    rcases live_push hi' with rfl | hi'
    · rcases live_push hj' with rfl | hj'
      · rfl
      · rw [if_pos rfl] at hik
        cases hik
        split at hjk
        · rename_i e; exact e.symm
        · exact (hl ⟨j, hj', hjk⟩).elim
    · rcases live_push hj' with rfl | hj'
      · rw [if_pos rfl] at hjk
        cases hjk
        split at hik
        · rename_i e; exact e
        · exact (hl ⟨i, hi', hik⟩).elim
      · split at hik
        · rename_i e
          subst e
          obtain ⟨x, hx⟩ := hi.has hi'
          simp [IM.get, ← hi.len] at hx
        · split at hjk
          · rename_i e
            subst e
            obtain ⟨x, hx⟩ := hi.has hj'
            simp [IM.get, ← hi.len] at hx
          · exact hi.inj i j k hi' hj' hik hjk
  · rintro k hk ⟨i, h1, h2⟩
    rw [IM.get_push, hi.len] at h2
    split at h2
    · cases h2; exact hf hk
    · rcases live_push h1 with rfl | h1
      · rename_i hne; exact hne rfl
      · exact hi.dis k hk ⟨i, h1, h2⟩

theorem mkmap_ok (hi : Inv w F ι H) {o : Oper} {t : TypeId} (ho : o.op = .makeMap t none) : HOk P w F ι H a o (.om H.bl.length) (H.push (.map [])) := by
  obtain ⟨h1, h2⟩ := hi.addMap
  refine ⟨.map (some w.heap.size), _, F, _, .inl ?_, ?_, h1, Ext.add hi (WTo.new w _) (.inr (Nat.le_refl _)), h2⟩
  · simp [execOp, ho, Instr.makeMap]
  · simp only [VR]
    exact ⟨w.heap.size, by simp [IM.push, ← hi.len], rfl⟩

/-! ### Keys -/

def KK (kk : Nat) (d : TypeDesc) : Prop := (kk = 0 ∧ ∃ k, d = .int k) ∨ (kk = 1 ∧ d = .string) ∨ (kk = 2 ∧ d = .bool)

theorem plainKey_ok {t : TypeId} {kk : Nat} (h : plainKey P t = some kk) : ∃ d, P.underlying t = some d ∧ KK kk d := by
  unfold plainKey at h
  split at h <;> (try cases h)
  · rename_i k ht; exact ⟨_, ht, .inl ⟨rfl, k, rfl⟩⟩
  · rename_i ht; exact ⟨_, ht, .inr (.inl ⟨rfl, rfl⟩)⟩
  · rename_i ht; exact ⟨_, ht, .inr (.inr ⟨rfl, rfl⟩)⟩

theorem mkey_ok {kk : Nat} {d : TypeDesc} (hd : KK kk d) {p q : CV} {u v : Value} {b : Bool} (h : mkey kk p q = some b) (hp : VR w F ι p u) (hq : BR w F q v) : Instr.sameNow d u v = some b := by
  have hq' := BR.vr (ι := ι) q v hq
  rcases hd with ⟨rfl, k, rfl⟩ | ⟨rfl, rfl⟩ | ⟨rfl, rfl⟩
  · cases p <;> cases q <;> simp only [mkey, reduceCtorEq] at h
    split at h
    · rename_i hk
      cases h
      rw [hp.int, hq'.int]
      simp [Instr.sameNow, hk]
    · cases h
  · cases p <;> cases q <;> simp only [mkey, reduceCtorEq] at h
    cases h
    rw [hp.str, hq'.str]
    simp [Instr.sameNow]
  · cases p <;> cases q <;> simp only [mkey, reduceCtorEq] at h
    cases h
    rw [hp.bool, hq'.bool]
    simp [Instr.sameNow]

theorem mfind_ok {kk : Nat} {d : TypeDesc} (hd : KK kk d) {k : CV} {u : Value} (hk : VR w F ι k u) : ∀ {es : List (CV × CV)} {ms : List MapEntry} {i : Nat} {r : Option (Nat × CV)}, MR w F ι.glob es ms → mfind kk k es i = some r →
    (r = none ∧ Instr.findNow d u ms i = some none) ∨ ∃ j v v' m, r = some (j, v) ∧ Instr.findNow d u ms i = some (some (j, v')) ∧ i ≤ j ∧ ms[j - i]? = some m ∧ m.val = v' ∧ VR w F ι.glob v v' ∧ Instr.sameNow d u m.key = some true ∧ (∃ e, es[j - i]? = some e ∧ e.2 = v)
  | [], _, i, r, hm, h => by
    cases hm
    simp only [mfind, Option.some.injEq] at h
    exact .inl ⟨h.symm, rfl⟩
  | e :: es, _, i, r, hm, h => by
    cases hm with
    | cons h1 h2 =>
      rename_i m ms
      simp only [mfind] at h
      cases hmk : mkey kk k e.1 with
      | none => simp [hmk] at h
      | some b =>
        have hs := mkey_ok (ι := ι) hd hmk hk h1.key
        cases b with
        | true =>
          simp only [hmk, Option.some.injEq] at h
          subst h
          exact .inr ⟨i, e.2, m.val, m, rfl, by simp [Instr.findNow, hs], Nat.le_refl _, by simp, rfl, h1.val, hs, e, by simp, rfl⟩
        | false =>
          simp only [hmk] at h
          rcases mfind_ok hd hk h2 h with ⟨rfl, h3⟩ | ⟨j, v, v', m', rfl, h3, h4, h5, h6, h7, h8, e', h9, h10⟩
          · exact .inl ⟨rfl, by simp [Instr.findNow, hs, h3]⟩
          · refine .inr ⟨j, v, v', m', rfl, by simp [Instr.findNow, hs, h3], by omega, ?_, h6, h7, h8, e', ?_, h10⟩
            · rw [show j - i = (j - (i + 1)) + 1 by omega]; simpa using h5
            · rw [show j - i = (j - (i + 1)) + 1 by omega]; simpa using h9

theorem checkKey_ok {kk : Nat} {t : TypeId} {d : TypeDesc} (ht : P.underlying t = some d) (hd : KK kk d) (em : Bool) (v : Value) (n : Nat) (w : World) : (Instr.checkKey em (n + 1) t v).run P w = .ok () w := by
  rcases hd with ⟨rfl, k, rfl⟩ | ⟨rfl, rfl⟩ | ⟨rfl, rfl⟩ <;> simp [Instr.checkKey, run_under ht]

theorem mkey_self {kk : Nat} {k : CV} {b : Bool} (h : mkey kk k k = some b) : k.ref = false ∧ k.one = true := by
  match kk, k with
  | 0, .int _ _ => exact ⟨rfl, rfl⟩
  | 1, .str _ => exact ⟨rfl, rfl⟩
  | 2, .bool _ => exact ⟨rfl, rfl⟩
  | 0, .und | 0, .bool _ | 0, .float _ _ | 0, .cplx _ _ _ | 0, .str _ | 0, .nilp | 0, .op _ _ | 0, .vp _ | 0, .nils | 0, .os _ _ _ _ | 0, .vs _ _ | 0, .nilm | 0, .om _ | 0, .fn _ _ _ | 0, .nilf | 0, .ifc _ _ | 0, .nili | 0, .agg _ | 0, .tup _ => simp [mkey] at h
  | 1, .und | 1, .bool _ | 1, .float _ _ | 1, .cplx _ _ _ | 1, .int _ _ | 1, .nilp | 1, .op _ _ | 1, .vp _ | 1, .nils | 1, .os _ _ _ _ | 1, .vs _ _ | 1, .nilm | 1, .om _ | 1, .fn _ _ _ | 1, .nilf | 1, .ifc _ _ | 1, .nili | 1, .agg _ | 1, .tup _ => simp [mkey] at h
  | 2, .und | 2, .str _ | 2, .float _ _ | 2, .cplx _ _ _ | 2, .int _ _ | 2, .nilp | 2, .op _ _ | 2, .vp _ | 2, .nils | 2, .os _ _ _ _ | 2, .vs _ _ | 2, .nilm | 2, .om _ | 2, .fn _ _ _ | 2, .nilf | 2, .ifc _ _ | 2, .nili | 2, .agg _ | 2, .tup _ => simp [mkey] at h
  | n + 3, _ => simp [mkey] at h

theorem zeroCV_ok {t : TypeId} {z : CV} (h : zeroCV P t = some z) : ∃ v, (∀ w : World, (zeroValue t).run P w = .ok v w) ∧ VR w F ι z v := by
  simp only [zeroCV, Option.bind_eq_some_iff] at h
  obtain ⟨v, ⟨i, h1, h2⟩, h3⟩ := h
  exact ⟨v, fun w => by simp [zeroValue, typeInfo, h1, h2], cOfA_ok h3⟩

theorem vr_tup2 {x y : CV} {u v : Value} (hx : VR w F ι x u) (hy : VR w F ι y v) : VR w F ι (.tup [x, y]) (.tuple #[u, v]) := by
  simp only [VR, VRl]
  exact ⟨_, rfl, u, [v], rfl, hx, v, [], rfl, hy, rfl⟩

theorem look_ok (hi : Inv w F ι H) {o : Oper} {t kt e : TypeId} {m k : Operand} {ok : Bool} (ho : o.op = .lookup t m k ok) (ht : P.underlying t = some (.map kt e)) {kk : Nat} (hk : plainKey P kt = some kk) {z : CV} (hz : zeroCV P e = some z)
    {p q v : CV} {H' : Heap} (hp : VR w F ι p (a.eval m)) (hq : VR w F ι q (a.eval k)) (hc : heapOp (.look kk z ok) [p, q] H = some (v, H')) : HOk P w F ι H a o v H' := by
  obtain ⟨d, hd, hkk⟩ := plainKey_ok hk
  obtain ⟨zv, hz1, hz2⟩ := zeroCV_ok (w := w) (F := F) (ι := ι) hz
  simp only [heapOp, Option.map_eq_some_iff, Prod.mk.injEq] at hc
  obtain ⟨v', hc, rfl, rfl⟩ := hc
  have fin : ∀ {u : Value}, (Instr.lookup t (a.eval m) (a.eval k) ok).run P w = .ok u w → VR w F ι v' u → HOk P w F ι H a o v' H := by
    intro u h1 h2
    exact ⟨u, w, F, ι, .inl (by simp [execOp, ho, h1]), h2, hi, Ext.refl _ _ _ _, ⟨⟨fun _ h => h, fun _ _ => rfl⟩, fun _ _ h => h, fun _ _ h => h⟩⟩
  have hck : ∀ em, (Instr.checkKey em 10000 kt (a.eval k)).run P w = .ok () w := fun em => checkKey_ok (n := 9999) hd hkk em _ w
  unfold lookC at hc
  split at hc <;> (try cases hc)
  · simp only [Option.map_eq_some_iff] at hc
    obtain ⟨_, _, rfl⟩ := hc
    simp only [VR, BR] at hp
    have hf : (Instr.findKey kt (a.eval k) ([] : List MapEntry)).run P w = .ok none w := by simp [Instr.findKey, run_under hd, Instr.findNow]
    cases ok with
    | true => exact fin (u := .tuple #[zv, .bool false]) (by simp [Instr.lookup, run_under ht, hp, hck, hf, hz1]) (vr_tup2 hz2 (vr_bool _))
    | false => exact fin (u := zv) (by simp [Instr.lookup, run_under ht, hp, hck, hf, hz1]) hz2
  · rename_i n
    split at hc <;> (try cases hc)
    rename_i es hes
    simp only [Option.bind_eq_some_iff] at hc
    obtain ⟨r, hr, hc⟩ := hc
    obtain ⟨b, ms, cl, h1, h2, h3, hst⟩ := hi.maps n es hes
    simp only [VR] at hp
    obtain ⟨b', h4, h5⟩ := hp
    rw [h1] at h4; cases h4
    have hobj : (getObj b).run P w = .ok (.map ms cl) w := by simp [getObj, Sem.run, h2]
    rcases mfind_ok hkk hq h3 hr with ⟨rfl, h6⟩ | ⟨j, v2, u2, me, rfl, h6, _, _, _, h7, _, _⟩
    · simp only [Option.map_eq_some_iff] at hc
      obtain ⟨_, _, rfl⟩ := hc
      have hf : (Instr.findKey kt (a.eval k) ms.toList).run P w = .ok none w := by simp [Instr.findKey, run_under hd, h6]
      cases ok with
      | true => exact fin (u := .tuple #[zv, .bool false]) (by simp [Instr.lookup, run_under ht, h5, hobj, hck, hf, hz1]) (vr_tup2 hz2 (vr_bool _))
      | false => exact fin (u := zv) (by simp [Instr.lookup, run_under ht, h5, hobj, hck, hf, hz1]) hz2
    · simp only [Option.some.injEq] at hc
      have hf : (Instr.findKey kt (a.eval k) ms.toList).run P w = .ok (some (j, u2)) w := by simp [Instr.findKey, run_under hd, h6]
      have hv2 : VR w F ι v2 u2 := VR.mono ⟨⟨fun _ h => h, fun _ _ => rfl⟩, ι.glob_le, fun _ _ h => h⟩ _ _ h7
      cases ok with
      | true =>
        subst hc
        exact fin (u := .tuple #[u2, .bool true]) (by simp [Instr.lookup, run_under ht, h5, hobj, hck, hf]) (vr_tup2 hv2 (vr_bool _))
      | false =>
        subst hc
        exact fin (u := u2) (by simp [Instr.lookup, run_under ht, h5, hobj, hck, hf]) hv2

/-- A map's block in the world. -/
theorem WTo.obj {b : Nat} {ms ms' : Array MapEntry} {cl cl' : Nat} (h : w.heap[b]? = some (.map ms cl)) : WTo w { w with heap := w.heap.setIfInBounds b (.map ms' cl') } b ∧
    ({ w with heap := w.heap.setIfInBounds b (.map ms' cl') } : World).heap[b]? = some (.map ms' cl') := by
  have hlt := (Array.getElem?_eq_some_iff.1 h).1
  refine ⟨⟨rfl, rfl, rfl, by simp, by simpa using hlt, fun k hk _ => by
    show (w.heap.setIfInBounds b _)[k]? = _
    rw [Array.getElem?_setIfInBounds, if_neg (fun e => hk e.symm)], fun n hn => ?_⟩, by simp [hlt]⟩
  unfold Zc.csize at hn
  rw [h] at hn
  cases hn

theorem run_setObj {b : Nat} {ms ms' : Array MapEntry} {cl cl' : Nat} (h : w.heap[b]? = some (.map ms cl)) : (setObj b (.map ms' cl')).run P w = .ok () { w with heap := w.heap.setIfInBounds b (.map ms' cl') } := by
  simp [setObj, Sem.run, h]

theorem MR.modify {es : List (CV × CV)} {ms : List MapEntry} (h : MR w F ι es ms) : ∀ (i : Nat) {v : CV} {m' : MapEntry → MapEntry}, (∀ (e : CV × CV) (m : MapEntry), es[i]? = some e → ms[i]? = some m → ER w F ι e m → ER w F ι (e.1, v) (m' m)) →
    MR w F ι (es.modify i fun e => (e.1, v)) (ms.modify i m') := by
  induction h with
  | nil => intro i v m' _; simp; exact .nil
  | cons h1 h2 ih =>
    intro i v m' hm
    cases i with
    | zero => simpa using MR.cons (hm _ _ rfl rfl h1) h2
    | succ i => simpa using MR.cons h1 (ih i fun e m he hm' => hm e m (by simpa using he) (by simpa using hm'))

theorem MR.eraseIdx {es : List (CV × CV)} {ms : List MapEntry} (h : MR w F ι es ms) : ∀ (i : Nat), MR w F ι (es.eraseIdx i) (ms.eraseIdx i) := by
  induction h with
  | nil => intro i; simp; exact .nil
  | cons h1 h2 ih =>
    intro i
    cases i with
    | zero => simpa using h2
    | succ i => simpa using MR.cons h1 (ih i)

theorem MR.append {es es' : List (CV × CV)} {ms ms' : List MapEntry} (h : MR w F ι es ms) (h' : MR w F ι es' ms') : MR w F ι (es ++ es') (ms ++ ms') := by
  induction h with
  | nil => simpa using h'
  | cons h1 _ ih => exact .cons h1 ih

theorem sameNow_bits {d : TypeDesc} {u v : Value} (hd : d ≠ .string) (h : Instr.sameNow d u v = some true) (n : Nat) : Instr.sameBits n v u = true ∧ u = v := by
  unfold Instr.sameNow at h
  split at h <;> (try cases h)
  · split at h
    · rename_i hk
      simp only [Option.some.injEq, beq_iff_eq] at h
      subst h; subst hk
      cases n <;> simp [Instr.sameBits]
    · cases h
  · exact (hd rfl).elim
  · simp only [Option.some.injEq, beq_iff_eq] at h
    subst h
    cases n <;> simp [Instr.sameBits]

theorem hok_map (hi : Inv w F ι H) {o : Oper} {n b : Nat} {es es' : List (CV × CV)} {ms ms' : Array MapEntry} {cl cl' : Nat} (hn : H.bl[n]? = some (.map es)) (hb : ι.bl[n]? = some b) (hw : w.heap[b]? = some (.map ms cl)) (hmr : MR w F ι.glob es' ms'.toList) (hst : Go.MapKept.Stamped ms' cl')
    (hrun : (execOp a.eval o).run P w = .ok .skip { w with heap := w.heap.setIfInBounds b (.map ms' cl') } ∨ (execOp a.eval o).run P w = .ok (.value (.tuple #[])) { w with heap := w.heap.setIfInBounds b (.map ms' cl') }) :
    HOk P w F ι H a o (.tup []) { H with bl := H.bl.set n (.map es') } := by
  obtain ⟨h1, h2⟩ := WTo.obj (ms' := ms') (cl' := cl') hw
  obtain ⟨h3, h4, h5⟩ := hi.setMap hn hb h1 h2 hmr hst
  refine ⟨undef, _, F, ι, hrun.elim (fun h => .inr ⟨h, rfl⟩) (fun h => .inl h), ?_, h3, h5, h4⟩
  simp only [VR, undef]
  exact ⟨#[], rfl, by simp [VRl]⟩

theorem KK.desc {kk : Nat} {d : TypeDesc} (h : KK kk d) : (∃ q, d = .int q) ∨ d = .string ∨ d = .bool := by
  rcases h with ⟨_, h⟩ | ⟨_, h⟩ | ⟨_, h⟩
  · exact .inl h
  · exact .inr (.inl h)
  · exact .inr (.inr h)
theorem findNow_none {d : TypeDesc} {k : Value} (hd : (∃ q, d = .int q) ∨ d = .string ∨ d = .bool) : ∀ {l : List MapEntry} {i : Nat}, Instr.findNow d k l i = some none → ∀ x ∈ l, x.key ≠ k
  | [], _, _, x, hx => by simp at hx
  | e :: es, i, h, x, hx => by
    unfold Instr.findNow at h
    rcases hs : Instr.sameNow d k e.key with _ | (_ | _)
    · simp [hs] at h
    · simp only [hs] at h
      rcases List.mem_cons.1 hx with rfl | hx
      · intro e
        rw [e] at hs
        rcases hd with ⟨q, rfl⟩ | rfl | rfl <;> cases k <;> simp [Instr.sameNow] at hs
        exact absurd ((Go.MapKept.bytes_beq _ _).2 rfl) (by rw [hs]; decide)
      · exact findNow_none hd h x hx
    · simp [hs] at h

theorem mput_ok (hi : Inv w F ι H) {o : Oper} {t kt e : TypeId} {m k x : Operand} (ho : o.op = .mapUpdate t m k x) (ht : P.underlying t = some (.map kt e)) {kk : Nat} (hk : plainKey P kt = some kk)
    {p q r v : CV} {H' : Heap} (hp : VR w F ι p (a.eval m)) (hq : VR w F ι q (a.eval k)) (hr : VR w F ι r (a.eval x)) (hc : heapOp (.mput kk) [p, q, r] H = some (v, H')) : HOk P w F ι H a o v H' := by
  obtain ⟨d, hd, hkk⟩ := plainKey_ok hk
  simp only [heapOp] at hc
  split at hc <;> (try cases hc)
  rename_i hb
  simp only [Bool.or_eq_true, not_or, Bool.not_eq_true] at hb
  have hrg := VR.noloc _ _ hb.2 hr
  have hru : r ≠ .und := by rintro rfl; simp [CV.und?] at hb
  simp only [Option.map_eq_some_iff, Prod.mk.injEq] at hc
  obtain ⟨Hn, hc, rfl, rfl⟩ := hc
  unfold mputC at hc
  split at hc <;> (try cases hc)
  rename_i n
  split at hc <;> (try cases hc)
  rename_i hk1
  split at hc <;> (try cases hc)
  rename_i es hes
  simp only [Option.bind_eq_some_iff] at hc
  obtain ⟨rr, hrr, hc⟩ := hc
  obtain ⟨b, ms, cl, h1, h2, h3, hst⟩ := hi.maps n es hes
  simp only [VR] at hp
  obtain ⟨b', h4, h5⟩ := hp
  rw [h1] at h4; cases h4
  have hck : ∀ em, (Instr.checkKey em 10000 kt (a.eval k)).run P w = .ok () w := fun em => checkKey_ok (n := 9999) hd hkk em _ w
  have hobj : (getObj b).run P w = .ok (.map ms cl) w := by simp [getObj, Sem.run, h2]
  rcases mfind_ok hkk hq h3 hrr with ⟨rfl, h6⟩ | ⟨j, v2, u2, me, rfl, h6, _, h8, _, _, h10, _⟩
  · simp only [Option.map_eq_some_iff] at hc
    obtain ⟨bb, hself, rfl⟩ := hc
    obtain ⟨hqr, hqo⟩ := mkey_self hself
    have hf : (Instr.findKey kt (a.eval k) ms.toList).run P w = .ok none w := by simp [Instr.findKey, run_under hd, h6]
    refine hok_map hi hes h1 h2 (ms' := ms.push { key := a.eval k, val := a.eval x, born := cl }) (cl' := cl + 1) ?_ (Go.MapKept.stamped_push hst (findNow_none hkk.desc h6)) (.inl ?_)
    · simp only [Array.toList_push]
      refine h3.append (.cons ⟨VR.bv _ _ hqr hq, hqo, hrg, hru⟩ .nil)
    · simp [execOp, ho, Instr.mapUpdate, run_under ht, h5, hobj, hck, hf, run_setObj h2]
  · simp only [Option.some.injEq] at hc
    subst hc
    obtain ⟨hbits, hkeq⟩ := sameNow_bits (by
      rcases hkk with ⟨_, _, rfl⟩ | ⟨h, _⟩ | ⟨_, rfl⟩
      · simp
      · exact (hk1 h).elim
      · simp) h10 10000
    have hf : (Instr.findKey kt (a.eval k) ms.toList).run P w = .ok (some (j, u2)) w := by simp [Instr.findKey, run_under hd, h6]
    have hme : ms[j]? = some me := by simpa using h8
    refine hok_map hi hes h1 h2 (ms' := ms.modify j fun e => { e with key := a.eval k, val := a.eval x }) (cl' := cl) ?_ (Go.MapKept.stamped_modify hst j _ (fun _ _ => rfl) (fun e _ he => by rw [hme] at he; cases he; exact hkeq)) (.inl ?_)
    · rw [Array.toList_modify]
      refine h3.modify j fun e m he hm hem => ⟨?_, hem.one, hrg, hru⟩
      have : m = me := by
        have : ms.toList[j]? = some me := by simpa using hme
        rw [this] at hm; cases hm; rfl
      subst this
      have hk := hem.key
      show BR w F e.1 (a.eval k)
      rw [hkeq]; exact hk
    · simp [execOp, ho, Instr.mapUpdate, run_under ht, h5, hobj, hck, hf, Instr.keyThatStays, hme, hbits, run_setObj h2]

theorem mdel_ok (hi : Inv w F ι H) {o : Oper} {t u kt e : TypeId} {m k : Operand} (ho : o.op = .call { callee := .builtin .delete, args := #[m, k], argTypes := #[t, u] }) (ht : P.underlying t = some (.map kt e)) {kk : Nat} (hk : plainKey P kt = some kk)
    {p q v : CV} {H' : Heap} (hp : VR w F ι p (a.eval m)) (hq : VR w F ι q (a.eval k)) (hc : heapOp (.mdel kk) [p, q] H = some (v, H')) : HOk P w F ι H a o v H' := by
  obtain ⟨d, hd, hkk⟩ := plainKey_ok hk
  simp only [heapOp, Option.map_eq_some_iff, Prod.mk.injEq] at hc
  obtain ⟨Hn, hc, rfl, rfl⟩ := hc
  unfold mdelC at hc
  split at hc <;> (try cases hc)
  rename_i n
  split at hc <;> (try cases hc)
  rename_i es hes
  simp only [Option.bind_eq_some_iff] at hc
  obtain ⟨rr, hrr, hc⟩ := hc
  obtain ⟨b, ms, cl, h1, h2, h3, hst⟩ := hi.maps n es hes
  simp only [VR] at hp
  obtain ⟨b', h4, h5⟩ := hp
  rw [h1] at h4; cases h4
  have hck : ∀ em, (Instr.checkKey em 10000 kt (a.eval k)).run P w = .ok () w := fun em => checkKey_ok (n := 9999) hd hkk em _ w
  have hobj : (getObj b).run P w = .ok (.map ms cl) w := by simp [getObj, Sem.run, h2]
  have red : ∀ {w' : World}, (Builtin.delete_ #[t, u] o.type #[a.eval m, a.eval k]).run P w = .ok (.tuple #[]) w' → (execOp a.eval o).run P w = .ok (.value (.tuple #[])) w' := by
    intro w' h
    simp only [execOp, ho, resolve, Sem.run_bind, invoke, Sem.run_pure, Result.andThen_ok, builtin, List.map_toArray, List.map_cons, List.map_nil, h]
  rcases mfind_ok hkk hq h3 hrr with ⟨rfl, h6⟩ | ⟨j, v2, u2, me, rfl, h6, _, h8, _, _, h10, _⟩
  · simp only [Option.map_eq_some_iff] at hc
    obtain ⟨_, _, rfl⟩ := hc
    have hf : (Instr.findKey kt (a.eval k) ms.toList).run P w = .ok none w := by simp [Instr.findKey, run_under hd, h6]
    have := hok_map (P := P) (a := a) (o := o) hi hes h1 h2 (ms' := ms) (cl' := cl) h3 hst (.inr (red (by simp [Builtin.delete_, run_under ht, h5, hobj, hck, hf, run_setObj h2])))
    have hset : ({ H with bl := H.bl.set n (.map es) } : Heap) = H := by
      have : H.bl.set n (.map es) = H.bl := by
        apply List.ext_getElem?
        intro i
        rw [List.getElem?_set]
        split
        · rename_i hni
          subst hni
          obtain ⟨hlt, he⟩ := List.getElem?_eq_some_iff.1 hes
          simp [hlt, he]
        · rfl
      cases H; simp_all
    rwa [hset] at this
  · simp only [Option.some.injEq] at hc
    subst hc
    have hf : (Instr.findKey kt (a.eval k) ms.toList).run P w = .ok (some (j, u2)) w := by simp [Instr.findKey, run_under hd, h6]
    have hlt : j < ms.size := by
      have : ms[j]? = some me := by simpa using h8
      exact (Array.getElem?_eq_some_iff.1 this).1
    refine hok_map hi hes h1 h2 (ms' := ms.eraseIdxIfInBounds j) (cl' := cl) ?_ (Go.MapKept.stamped_erase hst j) (.inr (red (by simp [Builtin.delete_, run_under ht, h5, hobj, hck, hf, run_setObj h2])))
    rw [Array.eraseIdxIfInBounds, dif_pos hlt]
    simpa using h3.eraseIdx j

theorem MR.length {es : List (CV × CV)} {ms : List MapEntry} (h : MR w F ι es ms) : ms.length = es.length := by
  induction h with
  | nil => rfl
  | cons _ _ ih => simp [ih]

theorem lenM_ok (hi : Inv w F ι H) {o : Oper} {t kt e : TypeId} {m : Operand} (ho : o.op = .call { callee := .builtin .len, args := #[m], argTypes := #[t] }) (ht : P.underlying t = some (.map kt e))
    {p v : CV} {H' : Heap} (hp : VR w F ι p (a.eval m)) (hc : heapOp .lenM [p] H = some (v, H')) : HOk P w F ι H a o v H' := by
  simp only [heapOp, Option.map_eq_some_iff, Prod.mk.injEq] at hc
  obtain ⟨v', hc, rfl, rfl⟩ := hc
  have fin : ∀ {n : Nat}, (Builtin.len_ #[t] o.type #[a.eval m]).run P w = .ok (goInt n) w → v' = .int .i64 n → HOk P w F ι H a o v' H := by
    rintro n h1 rfl
    refine ⟨goInt n, w, F, ι, .inl ?_, vr_int _ _, hi, Ext.refl _ _ _ _, ⟨⟨fun _ h => h, fun _ _ => rfl⟩, fun _ _ h => h, fun _ _ h => h⟩⟩
    simp only [execOp, ho, resolve, Sem.run_bind, invoke, Sem.run_pure, Result.andThen_ok, builtin, List.map_toArray, List.map_cons, List.map_nil, h1]
  unfold lenMC at hc
  split at hc <;> (try cases hc)
  · simp only [VR, BR] at hp
    exact fin (n := 0) (by simp [Builtin.len_, run_under ht, hp]) rfl
  · rename_i n
    split at hc <;> (try cases hc)
    rename_i es hes
    obtain ⟨b, ms, cl, h1, h2, h3, hst⟩ := hi.maps n es hes
    simp only [VR] at hp
    obtain ⟨b', h4, h5⟩ := hp
    rw [h1] at h4; cases h4
    have hobj : (getObj b).run P w = .ok (.map ms cl) w := by simp [getObj, Sem.run, h2]
    have hl := h3.length
    exact fin (n := es.length) (by simp [Builtin.len_, run_under ht, h5, hobj]; rw [show ms.size = es.length by simpa using hl]) rfl

theorem hop_ok {an : Ann} (he : EnvR w F ι env a) (hi : Inv w F ι H) {o : Oper} {h : HOp} {ys : List Opd} {v : CV} {H' : Heap} (hc : comp1 P an o.dst o.op = some (.h h, ys)) (hh : heapOp h (evs env ys) H = some (v, H')) : HOk P w F ι H a o v H' := by
  cases ho : o.op with
  | alloc e =>
    simp only [ho, comp1] at hc
    split at hc <;> (try cases hc)
    rename_i z d hz hd
    split at hc <;> (try cases hc)
    refine alloc_ok hi ho hz ?_ (by simpa [evs] using hh)
    split
    · exact .inl rfl
    · exact .inr ⟨_, rfl⟩
  | box e x =>
    simp only [ho, comp1] at hc
    split at hc <;> (try cases hc)
    rename_i y d hy hd
    refine box_ok hi ho (opd_ok he hy) ?_ (by simpa [evs] using hh)
    split
    · exact .inl rfl
    · exact .inr ⟨_, rfl⟩
  | buildSlice t len parts =>
    simp only [ho, comp1] at hc
    split at hc <;> (try cases hc)
    rename_i e d ht hd
    split at hc <;> (try cases hc)
    rename_i n z hn hz
    split at hc <;> (try cases hc)
    rename_i hcond
    obtain ⟨h1, h2, h3, h4⟩ := hcond
    simp only [Option.map_eq_some_iff, Prod.mk.injEq, COp.h.injEq] at hc
    obtain ⟨⟨ps, ys'⟩, hp, rfl, rfl⟩ := hc
    refine bsl_ok he hi ho ht hn hz h1 h2 h3 hp ?_ hh
    split
    · exact .inr rfl
    · exact .inl rfl
  | load t x =>
    simp only [ho, comp1, Option.map_eq_some_iff, Option.bind_eq_some_iff, Prod.mk.injEq, COp.h.injEq] at hc
    obtain ⟨s, hs, y, hy, rfl, rfl⟩ := hc
    exact load_ok hi ho hs (opd_ok he hy) (by simpa [evs] using hh)
  | store t x y =>
    simp only [ho, comp1, Option.map_eq_some_iff, Option.bind_eq_some_iff, Prod.mk.injEq, COp.h.injEq] at hc
    obtain ⟨n, hn, l, hl, rfl, rfl⟩ := hc
    obtain ⟨x', y', h1, h2, rfl⟩ := opds2 hl
    exact store_ok hi ho hn (opd_ok he h1) (opd_ok he h2) (by simpa [evs] using hh)
  | makeMap t r =>
    cases r with
    | none =>
      simp only [ho, comp1, Option.some.injEq, Prod.mk.injEq, COp.h.injEq] at hc
      obtain ⟨rfl, rfl⟩ := hc
      simp only [evs, heapOp, Option.some.injEq, Prod.mk.injEq] at hh
      obtain ⟨rfl, rfl⟩ := hh
      exact mkmap_ok hi ho
    | some r => simp [ho, comp1] at hc
  | makeSlice t l c =>
    simp only [ho, comp1] at hc
    split at hc <;> (try cases hc)
    rename_i e ht
    split at hc <;> (try cases hc)
    rename_i i z hin hz
    split at hc <;> (try cases hc)
    rename_i hpos
    simp only [Option.map_eq_some_iff, Prod.mk.injEq, COp.h.injEq] at hc
    obtain ⟨l', hl, rfl, rfl⟩ := hc
    obtain ⟨x', y', h1, h2, rfl⟩ := opds2 hl
    refine mksl_ok hi ho ht hin hz hpos (opd_ok he h1) (opd_ok he h2) ?_ (by simpa [evs] using hh)
    split
    · split
      · exact .inr rfl
      · exact .inl rfl
    · exact .inl rfl
  | lookup t m k ok =>
    simp only [ho, comp1] at hc
    split at hc <;> (try cases hc)
    rename_i kt e ht
    simp only [Option.map_eq_some_iff, Option.bind_eq_some_iff, Prod.mk.injEq, COp.h.injEq] at hc
    obtain ⟨kk, hk, z, hz, l, hl, rfl, rfl⟩ := hc
    obtain ⟨x', y', h1, h2, rfl⟩ := opds2 hl
    exact look_ok hi ho ht hk hz (opd_ok he h1) (opd_ok he h2) (by simpa [evs] using hh)
  | mapUpdate t m k x =>
    simp only [ho, comp1] at hc
    split at hc <;> (try cases hc)
    rename_i kt e ht
    simp only [Option.map_eq_some_iff, Option.bind_eq_some_iff, Prod.mk.injEq, COp.h.injEq] at hc
    obtain ⟨kk, hk, l, hl, rfl, rfl⟩ := hc
    obtain ⟨x', y', z', h1, h2, h3, rfl⟩ := opds3 hl
    exact mput_ok hi ho ht hk (opd_ok he h1) (opd_ok he h2) (opd_ok he h3) (by simpa [evs] using hh)
  | call c =>
    obtain ⟨cal, args, ats⟩ := c
    cases cal with
    | value f => simp only [ho, comp1, Option.map_eq_some_iff, Option.bind_eq_some_iff, Prod.mk.injEq, reduceCtorEq, false_and, and_false, exists_false] at hc
    | invoke r m => simp [ho, comp1] at hc
    | builtin b =>
      simp only [ho, comp1] at hc
      split at hc <;> (try cases hc)
      · rename_i t x h1 h2
        obtain rfl : ats = #[t] := by apply Array.ext'; simpa using h1
        obtain rfl : args = #[x] := by apply Array.ext'; simpa using h2
        split at hc <;> (try cases hc)
        · simp only [Option.map_eq_some_iff, Prod.mk.injEq, reduceCtorEq, false_and, and_false, exists_false] at hc
        · simp only [Option.map_eq_some_iff, Prod.mk.injEq, reduceCtorEq, false_and, and_false, exists_false] at hc
        · simp only [Option.map_eq_some_iff, Prod.mk.injEq, reduceCtorEq, false_and, and_false, exists_false] at hc
        · rename_i kt e ht
          simp only [Option.map_eq_some_iff, Prod.mk.injEq, COp.h.injEq] at hc
          obtain ⟨y, hy, rfl, rfl⟩ := hc
          exact lenM_ok hi ho ht (opd_ok he hy) (by simpa [evs] using hh)
      · rename_i t u s x h1 h2
        obtain rfl : ats = #[t, u] := by apply Array.ext'; simpa using h1
        obtain rfl : args = #[s, x] := by apply Array.ext'; simpa using h2
        split at hc <;> (try cases hc)
        · rename_i e e' ht hu
          split at hc <;> (try cases hc)
          rename_i i z hin hz
          simp only [Option.map_eq_some_iff, Prod.mk.injEq, COp.h.injEq] at hc
          obtain ⟨l, hl, rfl, rfl⟩ := hc
          obtain ⟨x', y', g1, g2, rfl⟩ := opds2 hl
          exact app_ok hi ho ht ⟨_, hu⟩ hin hz (opd_ok he g1) (opd_ok he g2) (by simpa [evs] using hh)
        · rename_i e k0 ht hu
          split at hc <;> (try cases hc)
          rename_i i z hin hz
          simp only [Option.map_eq_some_iff, Prod.mk.injEq, COp.h.injEq] at hc
          obtain ⟨l, hl, rfl, rfl⟩ := hc
          obtain ⟨x', y', g1, g2, rfl⟩ := opds2 hl
          exact appz_ok hi ho ht hu hin hz (opd_ok he g1) (opd_ok he g2) (by simpa [evs] using hh)
      · rename_i t u d x h1 h2
        obtain rfl : ats = #[t, u] := by apply Array.ext'; simpa using h1
        obtain rfl : args = #[d, x] := by apply Array.ext'; simpa using h2
        split at hc <;> (try cases hc)
        rename_i e ht
        simp only [Option.map_eq_some_iff, Option.bind_eq_some_iff, Prod.mk.injEq, COp.h.injEq] at hc
        obtain ⟨n, hn, l, hl, rfl, rfl⟩ := hc
        obtain ⟨x', y', g1, g2, rfl⟩ := opds2 hl
        exact copy_ok hi ho ht hn (opd_ok he g1) (opd_ok he g2) (by simpa [evs] using hh)
      · rename_i t x h1 h2
        obtain rfl : ats = #[t] := by apply Array.ext'; simpa using h1
        obtain rfl : args = #[x] := by apply Array.ext'; simpa using h2
        split at hc <;> (try cases hc)
        rename_i e ht
        split at hc <;> (try cases hc)
        rename_i n z hn hz
        simp only [Option.map_eq_some_iff, Prod.mk.injEq, COp.h.injEq] at hc
        obtain ⟨y, hy, rfl, rfl⟩ := hc
        exact clear_ok hi ho ht hn hz (opd_ok he hy) (by simpa [evs] using hh)
      · rename_i t u m k h1 h2
        obtain rfl : ats = #[t, u] := by apply Array.ext'; simpa using h1
        obtain rfl : args = #[m, k] := by apply Array.ext'; simpa using h2
        split at hc <;> (try cases hc)
        rename_i kt e ht
        simp only [Option.map_eq_some_iff, Option.bind_eq_some_iff, Prod.mk.injEq, COp.h.injEq] at hc
        obtain ⟨kk, hk, l, hl, rfl, rfl⟩ := hc
        obtain ⟨x', y', g1, g2, rfl⟩ := opds2 hl
        exact mdel_ok hi ho ht hk (opd_ok he g1) (opd_ok he g2) (by simpa [evs] using hh)
      all_goals first
        | simp only [Option.map_eq_some_iff, Prod.mk.injEq, reduceCtorEq, false_and, and_false, exists_false] at hc
        | (split at hc <;> (try cases hc); simp only [Option.map_eq_some_iff, Prod.mk.injEq, reduceCtorEq, false_and, and_false, exists_false] at hc)
  | binOp op t x y yt => cases op <;> simp only [ho, comp1, Option.map_eq_some_iff, Prod.mk.injEq, reduceCtorEq, false_and, and_false, exists_false] at hc
  | build t parts =>
    simp only [ho, comp1] at hc
    split at hc <;> (try cases hc)
    · split at hc <;> (try cases hc)
      simp only [Option.map_eq_some_iff, Prod.mk.injEq, reduceCtorEq, false_and, and_false, exists_false] at hc
    · simp only [Option.map_eq_some_iff, Option.bind_eq_some_iff, Prod.mk.injEq, reduceCtorEq, false_and, and_false, exists_false] at hc
  | convert s t x =>
    simp only [ho, comp1] at hc
    split at hc <;> (try cases hc) <;> simp only [Option.map_eq_some_iff, Prod.mk.injEq, reduceCtorEq, false_and, and_false, exists_false] at hc
  | makeInterface t x =>
    simp only [ho, comp1] at hc
    split at hc <;> (try cases hc) <;> simp only [Option.map_eq_some_iff, Prod.mk.injEq, reduceCtorEq, false_and, and_false, exists_false] at hc
  | slice t x lo hi' mx =>
    cases mx with
    | some m => simp [ho, comp1] at hc
    | none =>
      simp only [ho, comp1] at hc
      split at hc <;> (try cases hc)
      simp only [Option.map_eq_some_iff, Option.bind_eq_some_iff, Prod.mk.injEq, reduceCtorEq, false_and, and_false, exists_false] at hc
  | fieldAddr s x f =>
    simp only [ho, comp1] at hc
    split at hc <;> (try cases hc)
    simp only [Option.bind_eq_some_iff] at hc
    obtain ⟨fd, hf, hc⟩ := hc
    split at hc <;> (try cases hc)
    simp only [Option.map_eq_some_iff, Prod.mk.injEq, reduceCtorEq, false_and, and_false, exists_false] at hc
  | field t x f =>
    simp only [ho, comp1] at hc
    split at hc <;> (try cases hc)
    simp only [Option.map_eq_some_iff, Option.bind_eq_some_iff, Prod.mk.injEq, reduceCtorEq, false_and, and_false, exists_false] at hc
  | indexAddr t x i =>
    simp only [ho, comp1] at hc
    split at hc <;> (try cases hc) <;> simp only [Option.map_eq_some_iff, Option.bind_eq_some_iff, Prod.mk.injEq, reduceCtorEq, false_and, and_false, exists_false] at hc
  | index t x i =>
    simp only [ho, comp1] at hc
    split at hc <;> (try cases hc) <;> simp only [Option.map_eq_some_iff, Option.bind_eq_some_iff, Prod.mk.injEq, reduceCtorEq, false_and, and_false, exists_false] at hc
  | makeFunc f xs ys' => simp only [ho, comp1, Option.map_eq_some_iff, Option.bind_eq_some_iff, Prod.mk.injEq, reduceCtorEq, false_and, and_false, exists_false] at hc
  | _ => simp [ho, comp1] at hc

end
end Go.Zc
