/- Operations on memory: maps, and all at once. No condition. -/
import Derived.Test.YtlhjpcgfkkhogaaGreatZcPopAll
import Derived.Orders
set_option linter.all false
section
namespace Go.Zc

section
variable {P : Program} {w : World} {F : Nat → Prop} {ι : IM} {H : Heap} {env : Env} {a : Act}

/-- A map's block is written, or new. -/
theorem Inv.setMap (hi : Inv w F ι H) {w' : World} {n b : Nat} {es es' : List (CV × CV)} (hn : H.bl[n]? = some (.map es)) (hb : ι.bl[n]? = some b) (hw : WTo w w' b) {ms : Array MapEntry} {cl : Nat}
    (hm : w'.heap[b]? = some (.map ms cl)) (hmr : MR w F ι.glob es' ms.toList) (hst : Go.MapKept.Stamped ms cl) :
    Inv w' F ι { H with bl := H.bl.set n (.map es') } ∧ MoV w w' F F ι ι ∧ Ext w F ι H w' F ι { H with bl := H.bl.set n (.map es') } := by
  have hli : H.live (.blk n) := live_iff.2 (.inr ⟨n, es, rfl, hn⟩)
  have hlive : Live ι H b := ⟨.blk n, hli, hb⟩
  have hmo : MoV w w' F F ι ι := ⟨⟨fun _ h => h, fun k hk => hw.other k (fun e => hi.dis k hk (e ▸ hlive)) (hi.lt k hk)⟩, fun _ _ h => h, hw.csize⟩
  have hget : ∀ i cs, ({ H with bl := H.bl.set n (.map es') } : Heap).get i = some cs → H.get i = some cs := by
    intro i cs h
    cases i with
    | loc s => exact h
    | blk m =>
      simp only [Heap.get, List.getElem?_set] at h ⊢
      by_cases hnm : n = m
      · subst hnm
        rw [if_pos rfl] at h
        split at h
        · rename_i hx
          split at hx <;> cases hx
        · cases h
      · rwa [if_neg hnm] at h
  have hlv : ∀ i, ({ H with bl := H.bl.set n (.map es') } : Heap).live i → H.live i := by
    intro i h
    rcases live_iff.1 h with ⟨cs, h'⟩ | ⟨m, es2, rfl, h'⟩
    · exact live_iff.2 (.inl ⟨cs, hget i cs h'⟩)
    · by_cases hnm : n = m
      · subst hnm; exact hli
      · change (H.bl.set n (.map es'))[m]? = _ at h'
        rw [List.getElem?_set, if_neg hnm] at h'
        exact live_iff.2 (.inr ⟨m, es2, rfl, h'⟩)
  refine ⟨hi.build hmo (by simp [hi.len]) ?_ ?_ (fun i j x h1 h2 => hi.inj i j x (hlv i h1) (hlv j h2)) (fun x hx ⟨i, h1, h2⟩ => hi.dis x hx ⟨i, hlv i h1, h2⟩) (fun x hx => Nat.lt_of_lt_of_le (hi.lt x hx) hw.size) hi.lo, hmo,
    Ext.to hw (fun _ _ h => h) (.inl hlive) (fun x ⟨i, h1, h2⟩ => .inl ⟨i, hlv i h1, h2⟩)⟩
  · intro i cs h
    left
    have h' := hget i cs h
    refine ⟨h', fun k hk => hw.other k ?_ (hi.live_lt ⟨i, live_iff.2 (.inl ⟨cs, h'⟩), hk⟩)⟩
    rintro rfl
    have := hi.inj i (.blk n) k (live_iff.2 (.inl ⟨cs, h'⟩)) hli hk hb
    subst this
    simp [Heap.get, hn] at h'
  · intro m es2 h
    by_cases hnm : n = m
    · subst hnm
      right
      have hlt : n < H.bl.length := (List.getElem?_eq_some_iff.1 hn).1
      simp only [List.getElem?_set, if_true, hlt] at h
      cases h
      exact ⟨b, ms, cl, hb, hm, hmr.mono (hmo.of (.blk n)), hst⟩
    · left
      simp only [List.getElem?_set, if_neg hnm] at h
      refine ⟨h, fun k hk => hw.other k ?_ (hi.live_lt ⟨.blk m, live_iff.2 (.inr ⟨m, es2, rfl, h⟩), hk⟩)⟩
      rintro rfl
      have := hi.inj (.blk m) (.blk n) k (live_iff.2 (.inr ⟨m, es2, rfl, h⟩)) hli hk hb
      cases this
      exact hnm rfl

theorem Inv.addMap (hi : Inv w F ι H) : Inv { w with heap := w.heap.push (.map #[] 0) } F (ι.push w.heap.size) (H.push (.map [])) ∧ MoV w { w with heap := w.heap.push (.map #[] 0) } F F ι (ι.push w.heap.size) := by
  have hw := WTo.new w (.map #[] 0)
  obtain ⟨hl, hf⟩ := hi.new_dead
  have hm : MoV w { w with heap := w.heap.push (.map #[] 0) } F F ι (ι.push w.heap.size) := ⟨⟨fun _ h => h, fun k hk => hw.other k (fun e => hf (e ▸ hk)) (hi.lt k hk)⟩, ι.push_le _, hw.csize⟩
  have hget : ∀ i cs, (H.push (.map [])).get i = some cs → H.get i = some cs := by
    intro i cs h
    cases i with
    | loc s => exact h
    | blk n =>
      simp only [Heap.push, Heap.get] at h ⊢
      rcases Nat.lt_trichotomy n H.bl.length with h' | h' | h'
      · rwa [List.getElem?_append_left h'] at h
      · subst h'; simp at h
      · rw [List.getElem?_eq_none (by simp; omega)] at h; cases h
  refine ⟨hi.build hm (by simp [IM.push, Heap.push, hi.len]) ?_ ?_ ?_ ?_ (fun k hk => Nat.lt_of_lt_of_le (hi.lt k hk) hw.size) hi.lo, hm⟩
  · intro i ds hd
    left
    have hd := hget i ds hd
    exact ⟨hd, fun k hk => hw.other k (fun e => hl ⟨i, live_iff.2 (.inl ⟨ds, hd⟩), e ▸ hk⟩) (hi.live_lt ⟨i, live_iff.2 (.inl ⟨ds, hd⟩), hk⟩)⟩
  · intro n es hn
    simp only [Heap.push] at hn
    rcases Nat.lt_trichotomy n H.bl.length with h | h | h
    · rw [List.getElem?_append_left h] at hn
      exact .inl ⟨hn, fun k hk => hw.other k (fun e => hl ⟨.blk n, live_iff.2 (.inr ⟨n, es, rfl, hn⟩), e ▸ hk⟩) (hi.live_lt ⟨.blk n, live_iff.2 (.inr ⟨n, es, rfl, hn⟩), hk⟩)⟩
    · subst h
      simp at hn
      subst hn
      right
      refine ⟨w.heap.size, #[], 0, ?_, by simp, .nil, Go.MapKept.stamped_empty 0⟩
      simp [IM.push, ← hi.len]
    · rw [List.getElem?_eq_none (by simp; omega)] at hn; cases hn
  · intro i j k hi' hj' hik hjk
    rw [IM.get_push, hi.len] at hik hjk
    rcases live_push hi' with rfl | hi'
    · rcases live_push hj' with rfl | hj'
      · rfl
      · rw [if_pos rfl] at hik
        cases hik
        split at hjk
        · rename_i e; exact e.symm
        · exact (hl ⟨j, hj', hjk⟩).elim
    · rcases live_push hj' with rfl | hj'
      · rw [if_pos rfl] at hjk
        cases hjk
        split at hik
        · rename_i e; exact e
        · exact (hl ⟨i, hi', hik⟩).elim
      · split at hik
        · rename_i e
          subst e
          obtain ⟨x, hx⟩ := hi.has hi'
          simp [IM.get, ← hi.len] at hx
        · split at hjk
          · rename_i e
            subst e
            obtain ⟨x, hx⟩ := hi.has hj'
            simp [IM.get, ← hi.len] at hx
          · exact hi.inj i j k hi' hj' hik hjk
  · rintro k hk ⟨i, h1, h2⟩
    rw [IM.get_push, hi.len] at h2
    split at h2
    · cases h2; exact hf hk
    · rcases live_push h1 with rfl | h1
      · rename_i hne; exact hne rfl
      · exact hi.dis k hk ⟨i, h1, h2⟩

theorem mkmap_ok (hi : Inv w F ι H) {o : Oper} {t : TypeId} (ho : o.op = .makeMap t none) : HOk P w F ι H a o (.om H.bl.length) (H.push (.map [])) := by
  obtain ⟨h1, h2⟩ := hi.addMap
  refine ⟨.map (some w.heap.size), _, F, _, .inl ?_, ?_, h1, Ext.add hi (WTo.new w _) (.inr (Nat.le_refl _)), h2⟩
  · simp [execOp, ho, Instr.makeMap]
  · simp only [VR]
    exact ⟨w.heap.size, by simp [IM.push, ← hi.len], rfl⟩

/-! ### Keys -/

def KK (kk : Nat) (d : TypeDesc) : Prop := (kk = 0 ∧ ∃ k, d = .int k) ∨ (kk = 1 ∧ d = .string) ∨ (kk = 2 ∧ d = .bool)

theorem plainKey_ok {t : TypeId} {kk : Nat} (h : plainKey P t = some kk) : ∃ d, P.underlying t = some d ∧ KK kk d := by
  unfold plainKey at h
  split at h <;> (try cases h)
  · rename_i k ht; exact ⟨_, ht, .inl ⟨rfl, k, rfl⟩⟩
  · rename_i ht; exact ⟨_, ht, .inr (.inl ⟨rfl, rfl⟩)⟩
  · rename_i ht; exact ⟨_, ht, .inr (.inr ⟨rfl, rfl⟩)⟩

theorem mkey_ok {kk : Nat} {d : TypeDesc} (hd : KK kk d) {p q : CV} {u v : Value} {b : Bool} (h : mkey kk p q = some b) (hp : VR w F ι p u) (hq : BR w F q v) : Instr.sameNow d u v = some b := by
  have hq' := BR.vr (ι := ι) q v hq
  rcases hd with ⟨rfl, k, rfl⟩ | ⟨rfl, rfl⟩ | ⟨rfl, rfl⟩
  · cases p <;> cases q <;> simp only [mkey, reduceCtorEq] at h
    split at h
    · rename_i hk
      cases h
      rw [hp.int, hq'.int]
      simp [Instr.sameNow, hk]
    · cases h
  · cases p <;> cases q <;> simp only [mkey, reduceCtorEq] at h
    cases h
    rw [hp.str, hq'.str]
    simp [Instr.sameNow]
  · cases p <;> cases q <;> simp only [mkey, reduceCtorEq] at h
    cases h
    rw [hp.bool, hq'.bool]
    simp [Instr.sameNow]

theorem mfind_ok {kk : Nat} {d : TypeDesc} (hd : KK kk d) {k : CV} {u : Value} (hk : VR w F ι k u) : ∀ {es : List (CV × CV)} {ms : List MapEntry} {i : Nat} {r : Option (Nat × CV)}, MR w F ι.glob es ms → mfind kk k es i = some r →
    (r = none ∧ Instr.findNow d u ms i = some none) ∨ ∃ j v v' m, r = some (j, v) ∧ Instr.findNow d u ms i = some (some (j, v')) ∧ i ≤ j ∧ ms[j - i]? = some m ∧ m.val = v' ∧ VR w F ι.glob v v' ∧ Instr.sameNow d u m.key = some true ∧ (∃ e, es[j - i]? = some e ∧ e.2 = v)
  | [], _, i, r, hm, h => by
    cases hm
    simp only [mfind, Option.some.injEq] at h
    exact .inl ⟨h.symm, rfl⟩
  | e :: es, _, i, r, hm, h => by
    cases hm with
    | cons h1 h2 =>
      rename_i m ms
      simp only [mfind] at h
      cases hmk : mkey kk k e.1 with
      | none => simp [hmk] at h
      | some b =>
        have hs := mkey_ok (ι := ι) hd hmk hk h1.key
        cases b with
        | true =>
          simp only [hmk, Option.some.injEq] at h
          subst h
          exact .inr ⟨i, e.2, m.val, m, rfl, by simp [Instr.findNow, hs], Nat.le_refl _, by simp, rfl, h1.val, hs, e, by simp, rfl⟩
        | false =>
          simp only [hmk] at h
          rcases mfind_ok hd hk h2 h with ⟨rfl, h3⟩ | ⟨j, v, v', m', rfl, h3, h4, h5, h6, h7, h8, e', h9, h10⟩
          · exact .inl ⟨rfl, by simp [Instr.findNow, hs, h3]⟩
          · refine .inr ⟨j, v, v', m', rfl, by simp [Instr.findNow, hs, h3], by omega, ?_, h6, h7, h8, e', ?_, h10⟩
            · rw [show j - i = (j - (i + 1)) + 1 by omega]; simpa using h5
            · rw [show j - i = (j - (i + 1)) + 1 by omega]; simpa using h9

theorem checkKey_ok {kk : Nat} {t : TypeId} {d : TypeDesc} (ht : P.underlying t = some d) (hd : KK kk d) (em : Bool) (v : Value) (n : Nat) (w : World) : (Instr.checkKey em (n + 1) t v).run P w = .ok () w := by
  rcases hd with ⟨rfl, k, rfl⟩ | ⟨rfl, rfl⟩ | ⟨rfl, rfl⟩ <;> simp [Instr.checkKey, run_under ht]

theorem mkey_self {kk : Nat} {k : CV} {b : Bool} (h : mkey kk k k = some b) : k.ref = false ∧ k.one = true := by
  match kk, k with
  | 0, .int _ _ => exact ⟨rfl, rfl⟩
  | 1, .str _ => exact ⟨rfl, rfl⟩
  | 2, .bool _ => exact ⟨rfl, rfl⟩
  | 0, .und | 0, .bool _ | 0, .float _ _ | 0, .cplx _ _ _ | 0, .str _ | 0, .nilp | 0, .op _ _ | 0, .vp _ | 0, .nils | 0, .os _ _ _ _ | 0, .vs _ _ | 0, .nilm | 0, .om _ | 0, .fn _ _ _ | 0, .nilf | 0, .ifc _ _ | 0, .nili | 0, .agg _ | 0, .tup _ => simp [mkey] at h
  | 1, .und | 1, .bool _ | 1, .float _ _ | 1, .cplx _ _ _ | 1, .int _ _ | 1, .nilp | 1, .op _ _ | 1, .vp _ | 1, .nils | 1, .os _ _ _ _ | 1, .vs _ _ | 1, .nilm | 1, .om _ | 1, .fn _ _ _ | 1, .nilf | 1, .ifc _ _ | 1, .nili | 1, .agg _ | 1, .tup _ => simp [mkey] at h
  | 2, .und | 2, .str _ | 2, .float _ _ | 2, .cplx _ _ _ | 2, .int _ _ | 2, .nilp | 2, .op _ _ | 2, .vp _ | 2, .nils | 2, .os _ _ _ _ | 2, .vs _ _ | 2, .nilm | 2, .om _ | 2, .fn _ _ _ | 2, .nilf | 2, .ifc _ _ | 2, .nili | 2, .agg _ | 2, .tup _ => simp [mkey] at h
  | n + 3, _ => simp [mkey] at h

theorem zeroCV_ok {t : TypeId} {z : CV} (h : zeroCV P t = some z) : ∃ v, (∀ w : World, (zeroValue t).run P w = .ok v w) ∧ VR w F ι z v := by
  simp only [zeroCV, Option.bind_eq_some_iff] at h
  obtain ⟨v, ⟨i, h1, h2⟩, h3⟩ := h
  exact ⟨v, fun w => by simp [zeroValue, typeInfo, h1, h2], cOfA_ok h3⟩

theorem vr_tup2 {x y : CV} {u v : Value} (hx : VR w F ι x u) (hy : VR w F ι y v) : VR w F ι (.tup [x, y]) (.tuple #[u, v]) := by
  simp only [VR, VRl]
  exact ⟨_, rfl, u, [v], rfl, hx, v, [], rfl, hy, rfl⟩

theorem look_ok (hi : Inv w F ι H) {o : Oper} {t kt e : TypeId} {m k : Operand} {ok : Bool} (ho : o.op = .lookup t m k ok) (ht : P.underlying t = some (.map kt e)) {kk : Nat} (hk : plainKey P kt = some kk) {z : CV} (hz : zeroCV P e = some z)
    {p q v : CV} {H' : Heap} (hp : VR w F ι p (a.eval m)) (hq : VR w F ι q (a.eval k)) (hc : heapOp (.look kk z ok) [p, q] H = some (v, H')) : HOk P w F ι H a o v H' := by
  obtain ⟨d, hd, hkk⟩ := plainKey_ok hk
  obtain ⟨zv, hz1, hz2⟩ := zeroCV_ok (w := w) (F := F) (ι := ι) hz
  simp only [heapOp, Option.map_eq_some_iff, Prod.mk.injEq] at hc
  obtain ⟨v', hc, rfl, rfl⟩ := hc
  have fin : ∀ {u : Value}, (Instr.lookup t (a.eval m) (a.eval k) ok).run P w = .ok u w → VR w F ι v' u → HOk P w F ι H a o v' H := by
    intro u h1 h2
    exact ⟨u, w, F, ι, .inl (by simp [execOp, ho, h1]), h2, hi, Ext.refl _ _ _ _, ⟨⟨fun _ h => h, fun _ _ => rfl⟩, fun _ _ h => h, fun _ _ h => h⟩⟩
  have hck : ∀ em, (Instr.checkKey em 10000 kt (a.eval k)).run P w = .ok () w := fun em => checkKey_ok (n := 9999) hd hkk em _ w
  unfold lookC at hc
  split at hc <;> (try cases hc)
  · simp only [Option.map_eq_some_iff] at hc
    obtain ⟨_, _, rfl⟩ := hc
    simp only [VR, BR] at hp
    have hf : (Instr.findKey kt (a.eval k) ([] : List MapEntry)).run P w = .ok none w := by simp [Instr.findKey, run_under hd, Instr.findNow]
    cases ok with
    | true => exact fin (u := .tuple #[zv, .bool false]) (by simp [Instr.lookup, run_under ht, hp, hck, hf, hz1]) (vr_tup2 hz2 (vr_bool _))
    | false => exact fin (u := zv) (by simp [Instr.lookup, run_under ht, hp, hck, hf, hz1]) hz2
  · rename_i n
    split at hc <;> (try cases hc)
    rename_i es hes
    simp only [Option.bind_eq_some_iff] at hc
    obtain ⟨r, hr, hc⟩ := hc
    obtain ⟨b, ms, cl, h1, h2, h3, hst⟩ := hi.maps n es hes
    simp only [VR] at hp
    obtain ⟨b', h4, h5⟩ := hp
    rw [h1] at h4; cases h4
    have hobj : (getObj b).run P w = .ok (.map ms cl) w := by simp [getObj, Sem.run, h2]
    rcases mfind_ok hkk hq h3 hr with ⟨rfl, h6⟩ | ⟨j, v2, u2, me, rfl, h6, _, _, _, h7, _, _⟩
    · simp only [Option.map_eq_some_iff] at hc
      obtain ⟨_, _, rfl⟩ := hc
      have hf : (Instr.findKey kt (a.eval k) ms.toList).run P w = .ok none w := by simp [Instr.findKey, run_under hd, h6]
      cases ok with
      | true => exact fin (u := .tuple #[zv, .bool false]) (by simp [Instr.lookup, run_under ht, h5, hobj, hck, hf, hz1]) (vr_tup2 hz2 (vr_bool _))
      | false => exact fin (u := zv) (by simp [Instr.lookup, run_under ht, h5, hobj, hck, hf, hz1]) hz2
    · simp only [Option.some.injEq] at hc
      have hf : (Instr.findKey kt (a.eval k) ms.toList).run P w = .ok (some (j, u2)) w := by simp [Instr.findKey, run_under hd, h6]
      have hv2 : VR w F ι v2 u2 := VR.mono ⟨⟨fun _ h => h, fun _ _ => rfl⟩, ι.glob_le, fun _ _ h => h⟩ _ _ h7
      cases ok with
      | true =>
        subst hc
        exact fin (u := .tuple #[u2, .bool true]) (by simp [Instr.lookup, run_under ht, h5, hobj, hck, hf]) (vr_tup2 hv2 (vr_bool _))
      | false =>
        subst hc
        exact fin (u := u2) (by simp [Instr.lookup, run_under ht, h5, hobj, hck, hf]) hv2

/-- A map's block in the world. -/
theorem WTo.obj {b : Nat} {ms ms' : Array MapEntry} {cl cl' : Nat} (h : w.heap[b]? = some (.map ms cl)) : WTo w { w with heap := w.heap.setIfInBounds b (.map ms' cl') } b ∧
    ({ w with heap := w.heap.setIfInBounds b (.map ms' cl') } : World).heap[b]? = some (.map ms' cl') := by
  have hlt := (Array.getElem?_eq_some_iff.1 h).1
  refine ⟨⟨rfl, rfl, rfl, by simp, by simpa using hlt, fun k hk _ => by
    show (w.heap.setIfInBounds b _)[k]? = _
    rw [Array.getElem?_setIfInBounds, if_neg (fun e => hk e.symm)], fun n hn => ?_⟩, by simp [hlt]⟩
  unfold Zc.csize at hn
  rw [h] at hn
  cases hn

theorem run_setObj {b : Nat} {ms ms' : Array MapEntry} {cl cl' : Nat} (h : w.heap[b]? = some (.map ms cl)) : (setObj b (.map ms' cl')).run P w = .ok () { w with heap := w.heap.setIfInBounds b (.map ms' cl') } := by
  simp [setObj, Sem.run, h]

theorem MR.modify {es : List (CV × CV)} {ms : List MapEntry} (h : MR w F ι es ms) : ∀ (i : Nat) {v : CV} {m' : MapEntry → MapEntry}, (∀ (e : CV × CV) (m : MapEntry), es[i]? = some e → ms[i]? = some m → ER w F ι e m → ER w F ι (e.1, v) (m' m)) →
    MR w F ι (es.modify i fun e => (e.1, v)) (ms.modify i m') := by
  induction h with
  | nil => intro i v m' _; simp; exact .nil
  | cons h1 h2 ih =>
    intro i v m' hm
    cases i with
    | zero => simpa using MR.cons (hm _ _ rfl rfl h1) h2
    | succ i => simpa using MR.cons h1 (ih i fun e m he hm' => hm e m (by simpa using he) (by simpa using hm'))

theorem MR.eraseIdx {es : List (CV × CV)} {ms : List MapEntry} (h : MR w F ι es ms) : ∀ (i : Nat), MR w F ι (es.eraseIdx i) (ms.eraseIdx i) := by
  induction h with
  | nil => intro i; simp; exact .nil
  | cons h1 h2 ih =>
    intro i
    cases i with
    | zero => simpa using h2
    | succ i => simpa using MR.cons h1 (ih i)

theorem MR.append {es es' : List (CV × CV)} {ms ms' : List MapEntry} (h : MR w F ι es ms) (h' : MR w F ι es' ms') : MR w F ι (es ++ es') (ms ++ ms') := by
  induction h with
  | nil => simpa using h'
  | cons h1 _ ih => exact .cons h1 ih

theorem sameNow_bits {d : TypeDesc} {u v : Value} (hd : d ≠ .string) (h : Instr.sameNow d u v = some true) (n : Nat) : Instr.sameBits n v u = true ∧ u = v := by
  unfold Instr.sameNow at h
  split at h <;> (try cases h)
  · split at h
    · rename_i hk
      simp only [Option.some.injEq, beq_iff_eq] at h
      subst h; subst hk
      cases n <;> simp [Instr.sameBits]
    · cases h
  · exact (hd rfl).elim
  · simp only [Option.some.injEq, beq_iff_eq] at h
    subst h
    cases n <;> simp [Instr.sameBits]

theorem hok_map (hi : Inv w F ι H) {o : Oper} {n b : Nat} {es es' : List (CV × CV)} {ms ms' : Array MapEntry} {cl cl' : Nat} (hn : H.bl[n]? = some (.map es)) (hb : ι.bl[n]? = some b) (hw : w.heap[b]? = some (.map ms cl)) (hmr : MR w F ι.glob es' ms'.toList) (hst : Go.MapKept.Stamped ms' cl')
    (hrun : (execOp a.eval o).run P w = .ok .skip { w with heap := w.heap.setIfInBounds b (.map ms' cl') } ∨ (execOp a.eval o).run P w = .ok (.value (.tuple #[])) { w with heap := w.heap.setIfInBounds b (.map ms' cl') }) :
    HOk P w F ι H a o (.tup []) { H with bl := H.bl.set n (.map es') } := by
  obtain ⟨h1, h2⟩ := WTo.obj (ms' := ms') (cl' := cl') hw
  obtain ⟨h3, h4, h5⟩ := hi.setMap hn hb h1 h2 hmr hst
  refine ⟨undef, _, F, ι, hrun.elim (fun h => .inr ⟨h, rfl⟩) (fun h => .inl h), ?_, h3, h5, h4⟩
  simp only [VR, undef]
  exact ⟨#[], rfl, by simp [VRl]⟩

theorem KK.desc {kk : Nat} {d : TypeDesc} (h : KK kk d) : (∃ q, d = .int q) ∨ d = .string ∨ d = .bool := by
  rcases h with ⟨_, h⟩ | ⟨_, h⟩ | ⟨_, h⟩
  · exact .inl h
  · exact .inr (.inl h)
  · exact .inr (.inr h)
theorem findNow_none {d : TypeDesc} {k : Value} (hd : (∃ q, d = .int q) ∨ d = .string ∨ d = .bool) : ∀ {l : List MapEntry} {i : Nat}, Instr.findNow d k l i = some none → ∀ x ∈ l, x.key ≠ k
  | [], _, _, x, hx => by simp at hx
  | e :: es, i, h, x, hx => by
    unfold Instr.findNow at h
    rcases hs : Instr.sameNow d k e.key with _ | (_ | _)
    · simp [hs] at h
    · simp only [hs] at h
      rcases List.mem_cons.1 hx with rfl | hx
      · intro e
        rw [e] at hs
        rcases hd with ⟨q, rfl⟩ | rfl | rfl <;> cases k <;> simp [Instr.sameNow] at hs
        exact absurd ((Go.MapKept.bytes_beq _ _).2 rfl) (by rw [hs]; decide)
      · exact findNow_none hd h x hx
    · simp [hs] at h

theorem mput_ok (hi : Inv w F ι H) {o : Oper} {t kt e : TypeId} {m k x : Operand} (ho : o.op = .mapUpdate t m k x) (ht : P.underlying t = some (.map kt e)) {kk : Nat} (hk : plainKey P kt = some kk)
    {p q r v : CV} {H' : Heap} (hp : VR w F ι p (a.eval m)) (hq : VR w F ι q (a.eval k)) (hr : VR w F ι r (a.eval x)) (hc : heapOp (.mput kk) [p, q, r] H = some (v, H')) : HOk P w F ι H a o v H' := by
  obtain ⟨d, hd, hkk⟩ := plainKey_ok hk
  simp only [heapOp] at hc
  split at hc <;> (try cases hc)
  rename_i hb
  simp only [Bool.or_eq_true, not_or, Bool.not_eq_true] at hb
  have hrg := VR.noloc _ _ hb.2 hr
  have hru : r ≠ .und := by rintro rfl; simp [CV.und?] at hb
  simp only [Option.map_eq_some_iff, Prod.mk.injEq] at hc
  obtain ⟨Hn, hc, rfl, rfl⟩ := hc
  unfold mputC at hc
  split at hc <;> (try cases hc)
  rename_i n
  split at hc <;> (try cases hc)
  rename_i hk1
  split at hc <;> (try cases hc)
  rename_i es hes
  simp only [Option.bind_eq_some_iff] at hc
  obtain ⟨rr, hrr, hc⟩ := hc
  obtain ⟨b, ms, cl, h1, h2, h3, hst⟩ := hi.maps n es hes
  simp only [VR] at hp
  obtain ⟨b', h4, h5⟩ := hp
  rw [h1] at h4; cases h4
  have hck : ∀ em, (Instr.checkKey em 10000 kt (a.eval k)).run P w = .ok () w := fun em => checkKey_ok (n := 9999) hd hkk em _ w
  have hobj : (getObj b).run P w = .ok (.map ms cl) w := by simp [getObj, Sem.run, h2]
  rcases mfind_ok hkk hq h3 hrr with ⟨rfl, h6⟩ | ⟨j, v2, u2, me, rfl, h6, _, h8, _, _, h10, _⟩
  · simp only [Option.map_eq_some_iff] at hc
    obtain ⟨bb, hself, rfl⟩ := hc
    obtain ⟨hqr, hqo⟩ := mkey_self hself
    have hf : (Instr.findKey kt (a.eval k) ms.toList).run P w = .ok none w := by simp [Instr.findKey, run_under hd, h6]
    refine hok_map hi hes h1 h2 (ms' := ms.push { key := a.eval k, val := a.eval x, born := cl }) (cl' := cl + 1) ?_ (Go.MapKept.stamped_push hst (findNow_none hkk.desc h6)) (.inl ?_)
    · simp only [Array.toList_push]
      refine h3.append (.cons ⟨VR.bv _ _ hqr hq, hqo, hrg, hru⟩ .nil)
    · simp [execOp, ho, Instr.mapUpdate, run_under ht, h5, hobj, hck, hf, run_setObj h2]
  · simp only [Option.some.injEq] at hc
    subst hc
    obtain ⟨hbits, hkeq⟩ := sameNow_bits (by
      rcases hkk with ⟨_, _, rfl⟩ | ⟨h, _⟩ | ⟨_, rfl⟩
      · simp
      · exact (hk1 h).elim
      · simp) h10 10000
    have hf : (Instr.findKey kt (a.eval k) ms.toList).run P w = .ok (some (j, u2)) w := by simp [Instr.findKey, run_under hd, h6]
    have hme : ms[j]? = some me := by simpa using h8
    refine hok_map hi hes h1 h2 (ms' := ms.modify j fun e => { e with key := a.eval k, val := a.eval x }) (cl' := cl) ?_ (Go.MapKept.stamped_modify hst j _ (fun _ _ => rfl) (fun e _ he => by rw [hme] at he; cases he; exact hkeq)) (.inl ?_)
    · rw [Array.toList_modify]
      refine h3.modify j fun e m he hm hem => ⟨?_, hem.one, hrg, hru⟩
      have : m = me := by
        have : ms.toList[j]? = some me := by simpa using hme
        rw [this] at hm; cases hm; rfl
      subst this
      have hk := hem.key
      show BR w F e.1 (a.eval k)
      rw [hkeq]; exact hk
    · simp [execOp, ho, Instr.mapUpdate, run_under ht, h5, hobj, hck, hf, Instr.keyThatStays, hme, hbits, run_setObj h2]

theorem mdel_ok (hi : Inv w F ι H) {o : Oper} {t u kt e : TypeId} {m k : Operand} (ho : o.op = .call { callee := .builtin .delete, args := #[m, k], argTypes := #[t, u] }) (ht : P.underlying t = some (.map kt e)) {kk : Nat} (hk : plainKey P kt = some kk)
    {p q v : CV} {H' : Heap} (hp : VR w F ι p (a.eval m)) (hq : VR w F ι q (a.eval k)) (hc : heapOp (.mdel kk) [p, q] H = some (v, H')) : HOk P w F ι H a o v H' := by
  obtain ⟨d, hd, hkk⟩ := plainKey_ok hk
  simp only [heapOp, Option.map_eq_some_iff, Prod.mk.injEq] at hc
  obtain ⟨Hn, hc, rfl, rfl⟩ := hc
  unfold mdelC at hc
  split at hc <;> (try cases hc)
  rename_i n
  split at hc <;> (try cases hc)
  rename_i es hes
  simp only [Option.bind_eq_some_iff] at hc
  obtain ⟨rr, hrr, hc⟩ := hc
  obtain ⟨b, ms, cl, h1, h2, h3, hst⟩ := hi.maps n es hes
  simp only [VR] at hp
  obtain ⟨b', h4, h5⟩ := hp
  rw [h1] at h4; cases h4
  have hck : ∀ em, (Instr.checkKey em 10000 kt (a.eval k)).run P w = .ok () w := fun em => checkKey_ok (n := 9999) hd hkk em _ w
  have hobj : (getObj b).run P w = .ok (.map ms cl) w := by simp [getObj, Sem.run, h2]
  have red : ∀ {w' : World}, (Builtin.delete_ #[t, u] o.type #[a.eval m, a.eval k]).run P w = .ok (.tuple #[]) w' → (execOp a.eval o).run P w = .ok (.value (.tuple #[])) w' := by
    intro w' h
    simp only [execOp, ho, resolve, Sem.run_bind, invoke, Sem.run_pure, Result.andThen_ok, builtin, List.map_toArray, List.map_cons, List.map_nil, h]
  rcases mfind_ok hkk hq h3 hrr with ⟨rfl, h6⟩ | ⟨j, v2, u2, me, rfl, h6, _, h8, _, _, h10, _⟩
  · simp only [Option.map_eq_some_iff] at hc
    obtain ⟨_, _, rfl⟩ := hc
    have hf : (Instr.findKey kt (a.eval k) ms.toList).run P w = .ok none w := by simp [Instr.findKey, run_under hd, h6]
    have := hok_map (P := P) (a := a) (o := o) hi hes h1 h2 (ms' := ms) (cl' := cl) h3 hst (.inr (red (by simp [Builtin.delete_, run_under ht, h5, hobj, hck, hf, run_setObj h2])))
    have hset : ({ H with bl := H.bl.set n (.map es) } : Heap) = H := by
      have : H.bl.set n (.map es) = H.bl := by
        apply List.ext_getElem?
        intro i
        rw [List.getElem?_set]
        split
        · rename_i hni
          subst hni
          obtain ⟨hlt, he⟩ := List.getElem?_eq_some_iff.1 hes
          simp [hlt, he]
        · rfl
      cases H; simp_all
    rwa [hset] at this
  · simp only [Option.some.injEq] at hc
    subst hc
    have hf : (Instr.findKey kt (a.eval k) ms.toList).run P w = .ok (some (j, u2)) w := by simp [Instr.findKey, run_under hd, h6]
    have hlt : j < ms.size := by
      have : ms[j]? = some me := by simpa using h8
      exact (Array.getElem?_eq_some_iff.1 this).1
    refine hok_map hi hes h1 h2 (ms' := ms.eraseIdxIfInBounds j) (cl' := cl) ?_ (Go.MapKept.stamped_erase hst j) (.inr (red (by simp [Builtin.delete_, run_under ht, h5, hobj, hck, hf, run_setObj h2])))
    rw [Array.eraseIdxIfInBounds, dif_pos hlt]
    simpa using h3.eraseIdx j

theorem MR.length {es : List (CV × CV)} {ms : List MapEntry} (h : MR w F ι es ms) : ms.length = es.length := by
  induction h with
  | nil => rfl
  | cons _ _ ih => simp [ih]

theorem lenM_ok (hi : Inv w F ι H) {o : Oper} {t kt e : TypeId} {m : Operand} (ho : o.op = .call { callee := .builtin .len, args := #[m], argTypes := #[t] }) (ht : P.underlying t = some (.map kt e))
    {p v : CV} {H' : Heap} (hp : VR w F ι p (a.eval m)) (hc : heapOp .lenM [p] H = some (v, H')) : HOk P w F ι H a o v H' := by
  simp only [heapOp, Option.map_eq_some_iff, Prod.mk.injEq] at hc
  obtain ⟨v', hc, rfl, rfl⟩ := hc
  have fin : ∀ {n : Nat}, (Builtin.len_ #[t] o.type #[a.eval m]).run P w = .ok (goInt n) w → v' = .int .i64 n → HOk P w F ι H a o v' H := by
    rintro n h1 rfl
    refine ⟨goInt n, w, F, ι, .inl ?_, vr_int _ _, hi, Ext.refl _ _ _ _, ⟨⟨fun _ h => h, fun _ _ => rfl⟩, fun _ _ h => h, fun _ _ h => h⟩⟩
    simp only [execOp, ho, resolve, Sem.run_bind, invoke, Sem.run_pure, Result.andThen_ok, builtin, List.map_toArray, List.map_cons, List.map_nil, h1]
  unfold lenMC at hc
  split at hc <;> (try cases hc)
  · simp only [VR, BR] at hp
    exact fin (n := 0) (by simp [Builtin.len_, run_under ht, hp]) rfl
  · rename_i n
    split at hc <;> (try cases hc)
    rename_i es hes
    obtain ⟨b, ms, cl, h1, h2, h3, hst⟩ := hi.maps n es hes
    simp only [VR] at hp
    obtain ⟨b', h4, h5⟩ := hp
    rw [h1] at h4; cases h4
    have hobj : (getObj b).run P w = .ok (.map ms cl) w := by simp [getObj, Sem.run, h2]
    have hl := h3.length
    exact fin (n := es.length) (by simp [Builtin.len_, run_under ht, h5, hobj]; rw [show ms.size = es.length by simpa using hl]) rfl

theorem hop_ok {an : Ann} (he : EnvR w F ι env a) (hi : Inv w F ι H) {o : Oper} {h : HOp} {ys : List Opd} {v : CV} {H' : Heap} (hc : comp1 P an o.dst o.op = some (.h h, ys)) (hh : heapOp h (evs env ys) H = some (v, H')) : HOk P w F ι H a o v H' := by
  cases ho : o.op with
  | alloc e =>
    simp only [ho, comp1] at hc
    split at hc <;> (try cases hc)
    rename_i z d hz hd
    split at hc <;> (try cases hc)
    refine alloc_ok hi ho hz ?_ (by simpa [evs] using hh)
    split
    · exact .inl rfl
    · exact .inr ⟨_, rfl⟩
  | box e x =>
    simp only [ho, comp1] at hc
    split at hc <;> (try cases hc)
    rename_i y d hy hd
    refine box_ok hi ho (opd_ok he hy) ?_ (by simpa [evs] using hh)
    split
    · exact .inl rfl
    · exact .inr ⟨_, rfl⟩
  | buildSlice t len parts =>
    simp only [ho, comp1] at hc
    split at hc <;> (try cases hc)
    rename_i e d ht hd
    split at hc <;> (try cases hc)
    rename_i n z hn hz
    split at hc <;> (try cases hc)
    rename_i hcond
    obtain ⟨h1, h2, h3, h4⟩ := hcond
    simp only [Option.map_eq_some_iff, Prod.mk.injEq, COp.h.injEq] at hc
    obtain ⟨⟨ps, ys'⟩, hp, rfl, rfl⟩ := hc
    refine bsl_ok he hi ho ht hn hz h1 h2 h3 hp ?_ hh
    split
    · exact .inr rfl
    · exact .inl rfl
  | load t x =>
    simp only [ho, comp1, Option.map_eq_some_iff, Option.bind_eq_some_iff, Prod.mk.injEq, COp.h.injEq] at hc
    obtain ⟨s, hs, y, hy, rfl, rfl⟩ := hc
    exact load_ok hi ho hs (opd_ok he hy) (by simpa [evs] using hh)
  | store t x y =>
    simp only [ho, comp1, Option.map_eq_some_iff, Option.bind_eq_some_iff, Prod.mk.injEq, COp.h.injEq] at hc
    obtain ⟨n, hn, l, hl, rfl, rfl⟩ := hc
    obtain ⟨x', y', h1, h2, rfl⟩ := opds2 hl
    exact store_ok hi ho hn (opd_ok he h1) (opd_ok he h2) (by simpa [evs] using hh)
  | makeMap t r =>
    cases r with
    | none =>
      simp only [ho, comp1, Option.some.injEq, Prod.mk.injEq, COp.h.injEq] at hc
      obtain ⟨rfl, rfl⟩ := hc
      simp only [evs, heapOp, Option.some.injEq, Prod.mk.injEq] at hh
      obtain ⟨rfl, rfl⟩ := hh
      exact mkmap_ok hi ho
    | some r => simp [ho, comp1] at hc
  | makeSlice t l c =>
    simp only [ho, comp1] at hc
    split at hc <;> (try cases hc)
    rename_i e ht
    split at hc <;> (try cases hc)
    rename_i i z hin hz
    split at hc <;> (try cases hc)
    rename_i hpos
    simp only [Option.map_eq_some_iff, Prod.mk.injEq, COp.h.injEq] at hc
    obtain ⟨l', hl, rfl, rfl⟩ := hc
    obtain ⟨x', y', h1, h2, rfl⟩ := opds2 hl
    refine mksl_ok hi ho ht hin hz hpos (opd_ok he h1) (opd_ok he h2) ?_ (by simpa [evs] using hh)
    split
    · split
      · exact .inr rfl
      · exact .inl rfl
    · exact .inl rfl
  | lookup t m k ok =>
    simp only [ho, comp1] at hc
    split at hc <;> (try cases hc)
    rename_i kt e ht
    simp only [Option.map_eq_some_iff, Option.bind_eq_some_iff, Prod.mk.injEq, COp.h.injEq] at hc
    obtain ⟨kk, hk, z, hz, l, hl, rfl, rfl⟩ := hc
    obtain ⟨x', y', h1, h2, rfl⟩ := opds2 hl
    exact look_ok hi ho ht hk hz (opd_ok he h1) (opd_ok he h2) (by simpa [evs] using hh)
  | mapUpdate t m k x =>
    simp only [ho, comp1] at hc
    split at hc <;> (try cases hc)
    rename_i kt e ht
    simp only [Option.map_eq_some_iff, Option.bind_eq_some_iff, Prod.mk.injEq, COp.h.injEq] at hc
    obtain ⟨kk, hk, l, hl, rfl, rfl⟩ := hc
    obtain ⟨x', y', z', h1, h2, h3, rfl⟩ := opds3 hl
    exact mput_ok hi ho ht hk (opd_ok he h1) (opd_ok he h2) (opd_ok he h3) (by simpa [evs] using hh)
  | call c =>
    obtain ⟨cal, args, ats⟩ := c
    cases cal with
    | value f => simp only [ho, comp1, Option.map_eq_some_iff, Option.bind_eq_some_iff, Prod.mk.injEq, reduceCtorEq, false_and, and_false, exists_false] at hc
    | invoke r m => simp [ho, comp1] at hc
    | builtin b =>
      simp only [ho, comp1] at hc
      split at hc <;> (try cases hc)
      · rename_i t x h1 h2
        obtain rfl : ats = #[t] := by apply Array.ext'; simpa using h1
        obtain rfl : args = #[x] := by apply Array.ext'; simpa using h2
        split at hc <;> (try cases hc)
        · simp only [Option.map_eq_some_iff, Prod.mk.injEq, reduceCtorEq, false_and, and_false, exists_false] at hc
        · simp only [Option.map_eq_some_iff, Prod.mk.injEq, reduceCtorEq, false_and, and_false, exists_false] at hc
        · simp only [Option.map_eq_some_iff, Prod.mk.injEq, reduceCtorEq, false_and, and_false, exists_false] at hc
        · rename_i kt e ht
          simp only [Option.map_eq_some_iff, Prod.mk.injEq, COp.h.injEq] at hc
          obtain ⟨y, hy, rfl, rfl⟩ := hc
          exact lenM_ok hi ho ht (opd_ok he hy) (by simpa [evs] using hh)
      · rename_i t u s x h1 h2
        obtain rfl : ats = #[t, u] := by apply Array.ext'; simpa using h1
        obtain rfl : args = #[s, x] := by apply Array.ext'; simpa using h2
        split at hc <;> (try cases hc)
        · rename_i e e' ht hu
          split at hc <;> (try cases hc)
          rename_i i z hin hz
          simp only [Option.map_eq_some_iff, Prod.mk.injEq, COp.h.injEq] at hc
          obtain ⟨l, hl, rfl, rfl⟩ := hc
          obtain ⟨x', y', g1, g2, rfl⟩ := opds2 hl
          exact app_ok hi ho ht ⟨_, hu⟩ hin hz (opd_ok he g1) (opd_ok he g2) (by simpa [evs] using hh)
        · rename_i e k0 ht hu
          split at hc <;> (try cases hc)
          rename_i i z hin hz
          simp only [Option.map_eq_some_iff, Prod.mk.injEq, COp.h.injEq] at hc
          obtain ⟨l, hl, rfl, rfl⟩ := hc
          obtain ⟨x', y', g1, g2, rfl⟩ := opds2 hl
          exact appz_ok hi ho ht hu hin hz (opd_ok he g1) (opd_ok he g2) (by simpa [evs] using hh)
      · rename_i t u d x h1 h2
        obtain rfl : ats = #[t, u] := by apply Array.ext'; simpa using h1
        obtain rfl : args = #[d, x] := by apply Array.ext'; simpa using h2
        split at hc <;> (try cases hc)
        rename_i e ht
        simp only [Option.map_eq_some_iff, Option.bind_eq_some_iff, Prod.mk.injEq, COp.h.injEq] at hc
        obtain ⟨n, hn, l, hl, rfl, rfl⟩ := hc
        obtain ⟨x', y', g1, g2, rfl⟩ := opds2 hl
        exact copy_ok hi ho ht hn (opd_ok he g1) (opd_ok he g2) (by simpa [evs] using hh)
      · rename_i t x h1 h2
        obtain rfl : ats = #[t] := by apply Array.ext'; simpa using h1
        obtain rfl : args = #[x] := by apply Array.ext'; simpa using h2
        split at hc <;> (try cases hc)
        rename_i e ht
        split at hc <;> (try cases hc)
        rename_i n z hn hz
        simp only [Option.map_eq_some_iff, Prod.mk.injEq, COp.h.injEq] at hc
        obtain ⟨y, hy, rfl, rfl⟩ := hc
        exact clear_ok hi ho ht hn hz (opd_ok he hy) (by simpa [evs] using hh)
      · rename_i t u m k h1 h2
        obtain rfl : ats = #[t, u] := by apply Array.ext'; simpa using h1
        obtain rfl : args = #[m, k] := by apply Array.ext'; simpa using h2
        split at hc <;> (try cases hc)
        rename_i kt e ht
        simp only [Option.map_eq_some_iff, Option.bind_eq_some_iff, Prod.mk.injEq, COp.h.injEq] at hc
        obtain ⟨kk, hk, l, hl, rfl, rfl⟩ := hc
        obtain ⟨x', y', g1, g2, rfl⟩ := opds2 hl
        exact mdel_ok hi ho ht hk (opd_ok he g1) (opd_ok he g2) (by simpa [evs] using hh)
      all_goals first
        | simp only [Option.map_eq_some_iff, Prod.mk.injEq, reduceCtorEq, false_and, and_false, exists_false] at hc
        | (split at hc <;> (try cases hc); simp only [Option.map_eq_some_iff, Prod.mk.injEq, reduceCtorEq, false_and, and_false, exists_false] at hc)
  | binOp op t x y yt => cases op <;> simp only [ho, comp1, Option.map_eq_some_iff, Prod.mk.injEq, reduceCtorEq, false_and, and_false, exists_false] at hc
  | build t parts =>
    simp only [ho, comp1] at hc
    split at hc <;> (try cases hc)
    · split at hc <;> (try cases hc)
      simp only [Option.map_eq_some_iff, Prod.mk.injEq, reduceCtorEq, false_and, and_false, exists_false] at hc
    · simp only [Option.map_eq_some_iff, Option.bind_eq_some_iff, Prod.mk.injEq, reduceCtorEq, false_and, and_false, exists_false] at hc
  | convert s t x =>
    simp only [ho, comp1] at hc
    split at hc <;> (try cases hc) <;> simp only [Option.map_eq_some_iff, Prod.mk.injEq, reduceCtorEq, false_and, and_false, exists_false] at hc
  | makeInterface t x =>
    simp only [ho, comp1] at hc
    split at hc <;> (try cases hc) <;> simp only [Option.map_eq_some_iff, Prod.mk.injEq, reduceCtorEq, false_and, and_false, exists_false] at hc
  | slice t x lo hi' mx =>
    cases mx with
    | some m => simp [ho, comp1] at hc
    | none =>
      simp only [ho, comp1] at hc
      split at hc <;> (try cases hc)
      simp only [Option.map_eq_some_iff, Option.bind_eq_some_iff, Prod.mk.injEq, reduceCtorEq, false_and, and_false, exists_false] at hc
  | fieldAddr s x f =>
    simp only [ho, comp1] at hc
    split at hc <;> (try cases hc)
    simp only [Option.bind_eq_some_iff] at hc
    obtain ⟨fd, hf, hc⟩ := hc
    split at hc <;> (try cases hc)
    simp only [Option.map_eq_some_iff, Prod.mk.injEq, reduceCtorEq, false_and, and_false, exists_false] at hc
  | field t x f =>
    simp only [ho, comp1] at hc
    split at hc <;> (try cases hc)
    simp only [Option.map_eq_some_iff, Option.bind_eq_some_iff, Prod.mk.injEq, reduceCtorEq, false_and, and_false, exists_false] at hc
  | indexAddr t x i =>
    simp only [ho, comp1] at hc
    split at hc <;> (try cases hc) <;> simp only [Option.map_eq_some_iff, Option.bind_eq_some_iff, Prod.mk.injEq, reduceCtorEq, false_and, and_false, exists_false] at hc
  | index t x i =>
    simp only [ho, comp1] at hc
    split at hc <;> (try cases hc) <;> simp only [Option.map_eq_some_iff, Option.bind_eq_some_iff, Prod.mk.injEq, reduceCtorEq, false_and, and_false, exists_false] at hc
  | makeFunc f xs ys' => simp only [ho, comp1, Option.map_eq_some_iff, Option.bind_eq_some_iff, Prod.mk.injEq, reduceCtorEq, false_and, and_false, exists_false] at hc
  | _ => simp [ho, comp1] at hc

end
end Go.Zc
end
section
namespace Go.Zc

section
variable {P : Program} {w : World} {F : Nat → Prop} {ι : IM} {H : Heap} {env : Env} {a : Act}

/-- How a frame stands to the interpreter's. -/
structure St (n : Nat) (w : World) (F : Nat → Prop) (ι : IM) (H : Heap) (env : Env) (a : Act) : Prop where
  e : EnvR w F ι env a
  i : Inv w F ι H
  d : a.defers = []
  s : n ≤ a.tmps.size

/-- What calls come to: who calls is told what is handed back, and what has turned. -/
def CallerOk (P : Program) (call : Caller) : Prop :=
  ∀ f args H v H', call f args H = some (v, H') → ∃ k first cap fn, f = .fn (.func k) first cap ∧ P.funcs[k]? = some fn ∧ fn.body.isSome = true ∧ (fn.name == "runtime.NumGoroutine") = false ∧
    ∀ (w : World) (F : Nat → Prop) (ι : IM) (as : List Value), Inv w F ι H → VRl w F ι (first ++ (args ++ cap)) as →
      Calls P k as.toArray w fun e w' => ∃ v' F' ι', e = .returned v' ∧ VR w' F' ι' v v' ∧ Inv w' F' ι' H' ∧ Ext w F ι H w' F' ι' H' ∧ MoV w w' F F' ι ι'

theorem EnvR.mono {w' : World} {F' : Nat → Prop} {ι' : IM} (h : EnvR w F ι env a) (m : MoV w w' F F' ι ι') : EnvR w' F' ι' env a := fun t => VR.mono m _ _ (h t)

theorem look_cons (env : Env) (d t : Nat) (c : CV) : Env.at ((d, c) :: env) t = if t = d then c else Env.at env t := by
  unfold Env.at
  simp only [look]
  by_cases h : t = d
  · subst h; simp
  · simp [beq_ne (fun e => h e.symm), h]

theorem EnvR.put {n : Nat} (h : EnvR w F ι env a) (hs : n ≤ a.tmps.size) {dst : Option Nat} (hd : dst.all (· < n) = true) {c : CV} {v : Value} (hv : VR w F ι c v) : EnvR w F ι (putD env dst c) (a.put dst v) := by
  cases dst with
  | none => exact h
  | some d =>
    intro t
    simp only [Option.all_some, decide_eq_true_eq] at hd
    simp only [putD, Act.put, look_cons]
    by_cases ht : t = d
    · subst ht
      rw [if_pos rfl]
      simp only [Array.getD_eq_getD_getElem?, Array.getElem?_setIfInBounds, if_true]
      rw [if_pos (by omega)]
      exact hv
    · rw [if_neg ht]
      simp only [Array.getD_eq_getD_getElem?, Array.getElem?_setIfInBounds, if_neg (fun e : d = t => ht e.symm)]
      simpa only [Array.getD_eq_getD_getElem?] using h t

theorem put_size (a : Act) (dst : Option Nat) (v : Value) : (a.put dst v).tmps.size = a.tmps.size := by cases dst <;> simp [Act.put]
theorem put_defers (a : Act) (dst : Option Nat) (v : Value) : (a.put dst v).defers = a.defers := by cases dst <;> rfl

theorem St.put {n : Nat} (h : St n w F ι H env a) {dst : Option Nat} (hd : dst.all (· < n) = true) {w' : World} {F' : Nat → Prop} {ι' : IM} {H' : Heap} {c : CV} {v : Value} (hv : VR w' F' ι' c v) (hi : Inv w' F' ι' H') (m : MoV w w' F F' ι ι') :
    St n w' F' ι' H' (putD env dst c) (a.put dst v) :=
  ⟨(h.e.mono m).put h.s hd hv, hi, by rw [put_defers]; exact h.d, by rw [put_size]; exact h.s⟩

/-- What the compiler makes is plain. -/
def plainC : COp → Bool
  | .hb _ | .hl _ _ | .callb | .callp | .callv => false
  | _ => true

theorem all_map' {α β : Type} {p : β → Bool} (o : Option α) {f : α → β} (h : ∀ x, p (f x) = true) : (o.map f).all p = true := by cases o <;> simp [h]
theorem all_bind' {α β : Type} {p : β → Bool} (o : Option α) {f : α → Option β} (h : ∀ x, (f x).all p = true) : (o.bind f).all p = true := by cases o <;> simp [h]

theorem comp1_plain (P : Program) (an : Ann) (d : Option Nat) (o : Op) : (comp1 P an d o).all (fun x => plainC x.1) = true := by
  unfold comp1
  repeat' (first | rfl | (apply all_map'; intro _) | (apply all_bind'; intro _) | split)

/-- One statement that is carried out. -/
theorem stm_ok {call : Caller} (hcall : CallerOk P call) {an : Ann} {o : Oper} {c : COp} {ys : List Opd} (hc : comp1 P an o.dst o.op = some (c, ys)) (he : EnvR w F ι env a) (hi : Inv w F ι H) {v : CV} {H' : Heap}
    (hr : runOp call c (evs env ys) H = some (v, H')) {K : Act → World → Prop} {Q : Exit → Act → World → Prop}
    (hK : ∀ v' w' F' ι', VR w' F' ι' v v' → Inv w' F' ι' H' → Ext w F ι H w' F' ι' H' → MoV w w' F F' ι ι' → K (a.put o.dst v') w') : o.wp P a w K Q := by
  cases c with
  | p p =>
    simp only [runOp, Option.map_eq_some_iff, Prod.mk.injEq] at hr
    obtain ⟨v', h1, rfl, rfl⟩ := hr
    obtain ⟨u, h2, h3⟩ := pop_ok he hc h1
    unfold Oper.wp
    rw [h2]
    exact hK u w F ι h3 hi (Ext.refl _ _ _ _) ⟨⟨fun _ h => h, fun _ _ => rfl⟩, fun _ _ h => h, fun _ _ h => h⟩
  | h h =>
    simp only [runOp] at hr
    obtain ⟨u, w', F', ι', h1, h2, h3, h4, h5⟩ := hop_ok he hi hc hr
    unfold Oper.wp
    rcases h1 with h1 | ⟨h1, rfl⟩
    · rw [h1]; exact hK u w' F' ι' h2 h3 h4 h5
    · rw [h1]; exact hK undef w' F' ι' h2 h3 h4 h5
  | hb h => have := comp1_plain P an o.dst o.op; simp [hc, plainC] at this
  | hl s h => have := comp1_plain P an o.dst o.op; simp [hc, plainC] at this
  | callb => have := comp1_plain P an o.dst o.op; simp [hc, plainC] at this
  | callp => have := comp1_plain P an o.dst o.op; simp [hc, plainC] at this
  | callv => have := comp1_plain P an o.dst o.op; simp [hc, plainC] at this
  | call =>
    have : ∃ f args ats, o.op = .call { callee := .value f, args := args, argTypes := ats } ∧ ∃ g l, opd f = some g ∧ opds args.toList = some l ∧ ys = g :: l := by
      cases ho : o.op with
      | call cc =>
        obtain ⟨cal, args, ats⟩ := cc
        cases cal with
        | value f =>
          simp only [ho, comp1, Option.map_eq_some_iff, Option.bind_eq_some_iff, Prod.mk.injEq, true_and] at hc
          obtain ⟨g, hg, l, hl, rfl⟩ := hc
          exact ⟨f, args, ats, rfl, g, l, hg, hl, rfl⟩
        | invoke r m => simp [ho, comp1] at hc
        | builtin b =>
          simp only [ho, comp1] at hc
          split at hc <;> (try cases hc)
          · split at hc <;> (try cases hc) <;> simp only [Option.map_eq_some_iff, Prod.mk.injEq, reduceCtorEq, false_and, and_false, exists_false] at hc
          · split at hc <;> (try cases hc)
            all_goals
              split at hc <;> (try cases hc)
              simp only [Option.map_eq_some_iff, Prod.mk.injEq, reduceCtorEq, false_and, and_false, exists_false] at hc
          · split at hc <;> (try cases hc)
            simp only [Option.map_eq_some_iff, Option.bind_eq_some_iff, Prod.mk.injEq, reduceCtorEq, false_and, and_false, exists_false] at hc
          · split at hc <;> (try cases hc)
            split at hc <;> (try cases hc)
            simp only [Option.map_eq_some_iff, Prod.mk.injEq, reduceCtorEq, false_and, and_false, exists_false] at hc
          · split at hc <;> (try cases hc)
            simp only [Option.map_eq_some_iff, Option.bind_eq_some_iff, Prod.mk.injEq, reduceCtorEq, false_and, and_false, exists_false] at hc
          all_goals first
            | simp only [Option.map_eq_some_iff, Prod.mk.injEq, reduceCtorEq, false_and, and_false, exists_false] at hc
            | (split at hc <;> (try cases hc); simp only [Option.map_eq_some_iff, Prod.mk.injEq, reduceCtorEq, false_and, and_false, exists_false] at hc)
      | alloc e =>
        simp only [ho, comp1] at hc
        split at hc <;> (try cases hc)
        split at hc <;> (try cases hc)
      | box e x =>
        simp only [ho, comp1] at hc
        split at hc <;> (try cases hc)
      | buildSlice t len parts =>
        simp only [ho, comp1] at hc
        split at hc <;> (try cases hc)
        split at hc <;> (try cases hc)
        split at hc <;> (try cases hc)
        simp only [Option.map_eq_some_iff, Prod.mk.injEq, reduceCtorEq, false_and, and_false, exists_false] at hc
      | build t parts =>
        simp only [ho, comp1] at hc
        split at hc <;> (try cases hc)
        · split at hc <;> (try cases hc)
          simp only [Option.map_eq_some_iff, Prod.mk.injEq, reduceCtorEq, false_and, and_false, exists_false] at hc
        · simp only [Option.map_eq_some_iff, Option.bind_eq_some_iff, Prod.mk.injEq, reduceCtorEq, false_and, and_false, exists_false] at hc
      | makeSlice t l c =>
        simp only [ho, comp1] at hc
        split at hc <;> (try cases hc)
        split at hc <;> (try cases hc)
        split at hc <;> (try cases hc)
        simp only [Option.map_eq_some_iff, Prod.mk.injEq, reduceCtorEq, false_and, and_false, exists_false] at hc
      | makeMap t r => cases r <;> simp [ho, comp1] at hc
      | binOp op t x y yt => cases op <;> simp only [ho, comp1, Option.map_eq_some_iff, Prod.mk.injEq, reduceCtorEq, false_and, and_false, exists_false] at hc
      | convert s t x =>
        simp only [ho, comp1] at hc
        split at hc <;> (try cases hc) <;> simp only [Option.map_eq_some_iff, Prod.mk.injEq, reduceCtorEq, false_and, and_false, exists_false] at hc
      | makeInterface t x =>
        simp only [ho, comp1] at hc
        split at hc <;> (try cases hc) <;> simp only [Option.map_eq_some_iff, Prod.mk.injEq, reduceCtorEq, false_and, and_false, exists_false] at hc
      | slice t x lo hi' mx =>
        cases mx with
        | some m => simp [ho, comp1] at hc
        | none =>
          simp only [ho, comp1] at hc
          split at hc <;> (try cases hc)
          simp only [Option.map_eq_some_iff, Option.bind_eq_some_iff, Prod.mk.injEq, reduceCtorEq, false_and, and_false, exists_false] at hc
      | fieldAddr s x f =>
        simp only [ho, comp1] at hc
        split at hc <;> (try cases hc)
        simp only [Option.bind_eq_some_iff] at hc
        obtain ⟨fd, hf, hc⟩ := hc
        split at hc <;> (try cases hc)
        simp only [Option.map_eq_some_iff, Prod.mk.injEq, reduceCtorEq, false_and, and_false, exists_false] at hc
      | field t x f =>
        simp only [ho, comp1] at hc
        split at hc <;> (try cases hc)
        simp only [Option.map_eq_some_iff, Option.bind_eq_some_iff, Prod.mk.injEq, reduceCtorEq, false_and, and_false, exists_false] at hc
      | indexAddr t x i =>
        simp only [ho, comp1] at hc
        split at hc <;> (try cases hc) <;> simp only [Option.map_eq_some_iff, Option.bind_eq_some_iff, Prod.mk.injEq, reduceCtorEq, false_and, and_false, exists_false] at hc
      | index t x i =>
        simp only [ho, comp1] at hc
        split at hc <;> (try cases hc) <;> simp only [Option.map_eq_some_iff, Option.bind_eq_some_iff, Prod.mk.injEq, reduceCtorEq, false_and, and_false, exists_false] at hc
      | lookup t m k ok =>
        simp only [ho, comp1] at hc
        split at hc <;> (try cases hc)
        simp only [Option.map_eq_some_iff, Option.bind_eq_some_iff, Prod.mk.injEq, reduceCtorEq, false_and, and_false, exists_false] at hc
      | mapUpdate t m k x =>
        simp only [ho, comp1] at hc
        split at hc <;> (try cases hc)
        simp only [Option.map_eq_some_iff, Option.bind_eq_some_iff, Prod.mk.injEq, reduceCtorEq, false_and, and_false, exists_false] at hc
      | makeFunc f xs ys' => simp only [ho, comp1, Option.map_eq_some_iff, Option.bind_eq_some_iff, Prod.mk.injEq, reduceCtorEq, false_and, and_false, exists_false] at hc
      | load t x => simp only [ho, comp1, Option.map_eq_some_iff, Option.bind_eq_some_iff, Prod.mk.injEq, reduceCtorEq, false_and, and_false, exists_false] at hc
      | store t x y => simp only [ho, comp1, Option.map_eq_some_iff, Option.bind_eq_some_iff, Prod.mk.injEq, reduceCtorEq, false_and, and_false, exists_false] at hc
      | _ => simp [ho, comp1] at hc
    obtain ⟨f, args, ats, ho, g, l, hg, hl, rfl⟩ := this
    simp only [evs, runOp] at hr
    obtain ⟨k, first, cap, fn, hf, hfn, hbody, hname, hcalls⟩ := hcall _ _ _ _ _ hr
    have hfv := opd_ok he hg
    rw [hf] at hfv
    simp only [VR] at hfv
    obtain ⟨first', cap', hfe, hv1, hv2⟩ := hfv
    have hargs := opds_ok he hl
    have hall : VRl w F ι (first ++ (evs env l ++ cap)) (first'.toList ++ (args.toList.map a.eval ++ cap'.toList)) := VRl.append hv1 (VRl.append hargs hv2)
    have hc2 := hcalls w F ι _ hi hall
    have harr : (first'.toList ++ (args.toList.map a.eval ++ cap'.toList)).toArray = first' ++ args.map a.eval ++ cap' := by
      apply Array.ext'; simp
    rw [harr] at hc2
    unfold Oper.wp
    have hrun : (execOp a.eval o).run P w = .ok (.enter k (first' ++ args.map a.eval ++ cap')) w := by
      have hb : fn.body.isNone = false := by cases h : fn.body <;> simp_all
      simp only [execOp, ho, resolve, hfe, Deferred.ofValue, Sem.run_bind, Sem.run_pure, Result.andThen_ok, invoke, callFunc, run_program, hfn, hname, hb, Bool.false_eq_true, if_false]
    rw [hrun]
    simp only [Oper.upon]
    refine hc2.mono ?_
    rintro e w' ⟨v', F', ι', rfl, h1, h2, h3, h4⟩
    exact hK v' w' F' ι' h1 h2 h3 h4

theorem yielded_of {ops : Array Oper} {j g : Nat} (hg : (ops[j]?).bind (·.dst) = some g) (he : EnvR w F ι env a) {c : Option Bool} (hb : gvC (Env.at env g) = some c) : yielded ops a.tmps j = c := by
  have := he g
  unfold yielded
  rw [hg]
  simp only [Option.bind_some]
  rw [Array.getD_eq_getD_getElem?] at this
  unfold gvC at hb
  split at hb <;> (try cases hb)
  · rename_i b heq
    rw [heq] at this
    have := this.bool
    cases h : a.tmps[g]? with
    | none => simp [h, undef] at this
    | some v => simp [h] at this; subst this; rfl
  · rename_i heq
    rw [heq] at this
    simp only [VR] at this
    obtain ⟨vs, hv, _⟩ := this
    cases h : a.tmps[g]? with
    | none => rfl
    | some v => simp [h] at hv; subst hv; rfl

theorem wanted_none {o : Oper} (h : o.guard = none) (y : Nat → Option Bool) : Region.wanted o y = true := by simp [Region.wanted, h]

/-- What a statement comes to, its guard asked. -/
def Stepped (call : Caller) (s : CStm) (env : Env) (H : Heap) (v : CV) (H1 : Heap) : Prop :=
  match s.guard with
  | none => runOp call s.op (evs env s.args) H = some (v, H1)
  | some (g, want) => ∃ c, gvC (Env.at env g) = some c ∧ if c = some want then runOp call s.op (evs env s.args) H = some (v, H1) else (v = .tup [] ∧ H1 = H)

/-- One statement of a region, with its guard. -/
theorem wpOp_ok {call : Caller} (hcall : CallerOk P call) {an : Ann} {n : Nat} {ops : Array Oper} {i : Nat} {o : Oper} (ho : ops[i]? = some o) {s : CStm} (hs : compStm P an n ops o = some s) (he : EnvR w F ι env a) (hi : Inv w F ι H) {H' : Heap} {v : CV}
    (hr : Stepped call s env H v H')
    {K : Act → World → Prop} {Q : Exit → Act → World → Prop}
    (hK : ∀ v' w' F' ι', VR w' F' ι' v v' → Inv w' F' ι' H' → Ext w F ι H w' F' ι' H' → MoV w w' F F' ι ι' → K (a.put o.dst v') w') : wpOp P ops Q i K a w ∧ s.dst = o.dst ∧ o.dst.all (· < n) = true := by
  unfold compStm at hs
  split at hs <;> (try cases hs)
  rename_i hdst
  split at hs <;> (try cases hs)
  rename_i c args g hc hg
  refine ⟨?_, rfl, hdst⟩
  unfold wpOp
  rw [ho]
  unfold Stepped at hr
  dsimp only at hr ⊢
  cases hgo : o.guard with
  | none =>
    rw [hgo] at hg
    simp only [gOf, Option.some.injEq] at hg
    subst hg
    rw [wanted_none hgo, if_pos rfl]
    exact .inl (stm_ok hcall hc he hi hr hK)
  | some jw =>
    obtain ⟨j, want⟩ := jw
    rw [hgo] at hg
    simp only [gOf, Option.map_eq_some_iff] at hg
    obtain ⟨t, ht, rfl⟩ := hg
    obtain ⟨b, hb, hr⟩ := hr
    have hy := yielded_of ht he hb
    have hw : Region.wanted o (yielded ops a.tmps) = (b == some want) := by
      simp only [Region.wanted, hgo, hy]
    rw [hw]
    by_cases hbw : b = some want
    · rw [if_pos hbw] at hr
      rw [if_pos (by simp [hbw])]
      exact .inl (stm_ok hcall hc he hi hr hK)
    · rw [if_neg hbw] at hr
      obtain ⟨rfl, rfl⟩ := hr
      rw [if_neg (by simp [hbw])]
      exact hK undef w F ι (by simp only [VR]; exact ⟨#[], rfl, by simp [VRl]⟩) hi (Ext.refl _ _ _ _) ⟨⟨fun _ h => h, fun _ _ => rfl⟩, fun _ _ h => h, fun _ _ h => h⟩

/-- One step of 'runOps'. -/
theorem runOps_cons {call : Caller} {s : CStm} {r : List CStm} {env' : Env} {H' : Heap} (h : runOps call (s :: r) env H = some (env', H')) : ∃ v H1, Stepped call s env H v H1 ∧
    runOps call r (putD env s.dst v) H1 = some (env', H') := by
  simp only [runOps] at h
  split at h
  · rename_i hg
    simp only [Option.bind_eq_some_iff] at h
    obtain ⟨⟨v, H1⟩, h1, h2⟩ := h
    exact ⟨v, H1, by unfold Stepped; rw [hg]; exact h1, h2⟩
  · rename_i g want hg
    split at h <;> (try cases h)
    rename_i b hb
    split at h
    · rename_i hbw
      simp only [Option.bind_eq_some_iff] at h
      obtain ⟨⟨v, H1⟩, h1, h2⟩ := h
      exact ⟨v, H1, by unfold Stepped; rw [hg]; exact ⟨b, hb, by rw [if_pos hbw]; exact h1⟩, h2⟩
    · rename_i hbw
      exact ⟨.tup [], H, by unfold Stepped; rw [hg]; exact ⟨b, hb, by rw [if_neg hbw]; exact ⟨rfl, rfl⟩⟩, h⟩

/-- In the text's order. -/
theorem ops_ok {call : Caller} (hcall : CallerOk P call) {an : Ann} {n : Nat} {ops : Array Oper} {Q : Exit → Act → World → Prop} {env' : Env} {H' : Heap} : ∀ (rest : List Oper) (l : List CStm) (i : Nat) (w : World) (F : Nat → Prop) (ι : IM) (H : Heap) (env : Env) (a : Act),
    ops.toList.drop i = rest → compStms P an n ops rest = some l → runOps call l env H = some (env', H') → St n w F ι H env a →
    (∀ a' w' F' ι', St n w' F' ι' H' env' a' → Ext w F ι H w' F' ι' H' → MoV w w' F F' ι ι' → Q .normal a' w') → wpOps P ops Q (List.range' i rest.length) a w
  | [], l, i, w, F, ι, H, env, a, _, hl, hr, hst, hQ => by
    simp only [compStms, Option.some.injEq] at hl
    subst hl
    simp only [runOps, Option.some.injEq, Prod.mk.injEq] at hr
    obtain ⟨rfl, rfl⟩ := hr
    simp only [List.length_nil, List.range'_zero, wpOps]
    exact hQ a w F ι hst (Ext.refl _ _ _ _) ⟨⟨fun _ h => h, fun _ _ => rfl⟩, fun _ _ h => h, fun _ _ h => h⟩
  | o :: rest, l, i, w, F, ι, H, env, a, hd, hl, hr, hst, hQ => by
    simp only [compStms, Option.bind_eq_some_iff, Option.map_eq_some_iff] at hl
    obtain ⟨s, hs, l', hl', rfl⟩ := hl
    obtain ⟨v, H1, h1, h2⟩ := runOps_cons hr
    have ho : ops[i]? = some o := by
      have : (ops.toList.drop i)[0]? = some o := by rw [hd]; rfl
      rw [List.getElem?_drop] at this
      simpa using this
    have hd' : ops.toList.drop (i + 1) = rest := by
      rw [← List.drop_drop, hd]; rfl
    simp only [List.length_cons, List.range'_succ]
    rw [wpOps_cons]
    have hdst : s.dst = o.dst ∧ o.dst.all (· < n) = true := by
      unfold compStm at hs
      split at hs <;> (try cases hs)
      rename_i hdst
      split at hs <;> (try cases hs)
      exact ⟨rfl, hdst⟩
    refine (wpOp_ok hcall ho hs hst.e hst.i h1 (fun v' w' F' ι' g1 g2 g3 g4 => ?_)).1
    refine ops_ok hcall rest l' (i + 1) w' F' ι' H1 (putD env s.dst v) (a.put o.dst v') hd' hl' h2 ?_ ?_
    · rw [hdst.1]
      exact hst.put hdst.2 g1 g2 g4
    · intro a' w'' F'' ι'' k1 k2 k3
      exact hQ a' w'' F'' ι'' k1 (g3.trans k2) ⟨⟨fun b hb => k3.f b (g4.f b hb), fun b hb => (k3.h b (g4.f b hb)).trans (g4.h b hb)⟩, fun i b hb => k3.i i b (g4.i i b hb), fun b n hb => k3.c b n (g4.c b n hb)⟩

end
end Go.Zc
end
section
namespace Go.Zc

def same : Rsc → Heap → Heap → Prop
  | .loc s, H, H' => look H.bx s = look H'.bx s
  | .bl, H, H' => H.bl = H'.bl

theorem same.refl (r : Rsc) (H : Heap) : same r H H := by cases r <;> exact rfl
theorem same.symm {r : Rsc} {H H' : Heap} (h : same r H H') : same r H' H := by cases r <;> exact Eq.symm h
theorem same.trans {r : Rsc} {H H' H'' : Heap} (h : same r H H') (h' : same r H' H'') : same r H H'' := by cases r <;> exact Eq.trans h h'

/-- Two heaps that agree on the blocks, and on some boxes. -/
structure Agr (D : Nat → Prop) (H H' : Heap) : Prop where
  bl : H.bl = H'.bl
  bx : ∀ s, D s → look H.bx s = look H'.bx s

def inD (D : Nat → Prop) : Id → Prop
  | .loc s => D s
  | .blk _ => True

variable {D : Nat → Prop} {H H' : Heap}

theorem Agr.get (h : Agr D H H') {i : Id} (hi : inD D i) : H.get i = H'.get i := by
  cases i with
  | loc s => exact h.bx s hi
  | blk n => simp only [Heap.get, h.bl]

/-- What an operation leaves alone. -/
def Rest (D : Nat → Prop) (H H1 : Heap) : Prop := ∀ s, ¬ D s → look H1.bx s = look H.bx s

theorem Agr.put (h : Agr D H H') (i : Id) (hi : inD D i) (cs : List CV) : Agr D (H.put i cs) (H'.put i cs) ∧ Rest D H (H.put i cs) := by
  cases i with
  | loc s =>
    refine ⟨⟨h.bl, fun t ht => ?_⟩, fun t ht => ?_⟩
    · simp only [Heap.put, look_setBx, h.bx t ht]
    · simp only [Heap.put, look_setBx]
      rw [if_neg (fun e => ht (by subst e; exact hi))]
  | blk n => exact ⟨⟨by simp only [Heap.put, h.bl], h.bx⟩, fun _ _ => rfl⟩

theorem Agr.push (h : Agr D H H') (b : Blk) : Agr D (H.push b) (H'.push b) ∧ Rest D H (H.push b) := ⟨⟨by simp only [Heap.push, h.bl], h.bx⟩, fun _ _ => rfl⟩
theorem Agr.kill (h : Agr D H H') (n : Nat) : Agr D (H.kill (.blk n)) (H'.kill (.blk n)) ∧ Rest D H (H.kill (.blk n)) := ⟨⟨by simp only [Heap.kill, h.bl], h.bx⟩, fun _ _ => rfl⟩
theorem Agr.setb (h : Agr D H H') (n : Nat) (b : Blk) : Agr D { H with bl := H.bl.set n b } { H' with bl := H'.bl.set n b } ∧ Rest D H { H with bl := H.bl.set n b } := ⟨⟨by simp only [h.bl], h.bx⟩, fun _ _ => rfl⟩

/-- The operands' own addresses. -/
def vIn (D : Nat → Prop) : CV → Prop
  | .op i _ => inD D i
  | .os _ i _ _ => inD D i
  | _ => True

theorem Agr.shown (h : Agr D H H') (sz : Nat) {x : CV} (hx : vIn D x) : Zc.shown H sz x = Zc.shown H' sz x := by
  cases x with
  | os s i off n => simp only [Zc.shown, h.get hx]
  | _ => rfl
theorem Agr.loadC (h : Agr D H H') (a : Bool) (n : Nat) {x : CV} (hx : vIn D x) : Zc.loadC a n H x = Zc.loadC a n H' x := by
  cases x with
  | op i off => simp only [Zc.loadC, h.get hx]
  | _ => rfl

/-- What both come to. -/
def Both (D : Nat → Prop) (H H' : Heap) (r r' : Option (CV × Heap)) : Prop := ∀ v H1, r = some (v, H1) → ∃ H1', r' = some (v, H1') ∧ Agr D H1 H1' ∧ Rest D H H1 ∧ Rest D H' H1'

theorem Agr.symm (h : Agr D H H') : Agr D H' H := ⟨h.bl.symm, fun s hs => (h.bx s hs).symm⟩

theorem both_look (h : Agr D H H') {f : Heap → Option CV} (hf : f H = f H') : Both D H H' ((f H).map fun v => (v, H)) ((f H').map fun v => (v, H')) := by
  intro v H1 hr
  rw [hf] at hr
  simp only [Option.map_eq_some_iff, Prod.mk.injEq] at hr
  obtain ⟨u, hu, rfl, rfl⟩ := hr
  exact ⟨H', by simp [hu], h, fun _ _ => rfl, fun _ _ => rfl⟩

theorem both_none {r' : Option (CV × Heap)} : Both D H H' none r' := fun _ _ h => by cases h

theorem both_some (_h : Agr D H H') {v : CV} {H1 H1' : Heap} (g : Agr D H1 H1') (h1 : Rest D H H1) (h2 : Rest D H' H1') : Both D H H' (some (v, H1)) (some (v, H1')) := by
  intro v' H2 hr
  cases hr
  exact ⟨H1', rfl, g, h1, h2⟩

theorem both_ite {c : Prop} [Decidable c] {a a' b b' : Option (CV × Heap)} (h1 : Both D H H' a a') (h2 : Both D H H' b b') : Both D H H' (if c then a else b) (if c then a' else b') := by
  split
  · exact h1
  · exact h2

theorem both_bind {α : Type} {o : Option α} {f f' : α → Option (CV × Heap)} (h : ∀ x, o = some x → Both D H H' (f x) (f' x)) : Both D H H' (o.bind f) (o.bind f') := by
  cases o with
  | none => exact both_none
  | some x => exact h x rfl

theorem both_map {o o' : Option Heap} {v : CV} (h : ∀ H1, o = some H1 → ∃ H1', o' = some H1' ∧ Agr D H1 H1' ∧ Rest D H H1 ∧ Rest D H' H1') : Both D H H' (o.map fun x => (v, x)) (o'.map fun x => (v, x)) := by
  intro v' H1 hr
  simp only [Option.map_eq_some_iff, Prod.mk.injEq] at hr
  obtain ⟨H2, h2, rfl, rfl⟩ := hr
  obtain ⟨H3, h3, g⟩ := h H2 h2
  exact ⟨H3, by simp [h3], g⟩

theorem Rest.trans {H1 H2 : Heap} (h : Rest D H H1) (h' : Rest D H1 H2) : Rest D H H2 := fun s hs => (h' s hs).trans (h s hs)

theorem Agr.len (h : Agr D H H') : H.bl.length = H'.bl.length := by rw [h.bl]

/-- Of an operation that makes no box. -/
theorem heapOp_agr (h : Agr D H H') (o : HOp) (hb : ∀ s, o ≠ .box s) (hn : ∀ s z, o ≠ .newl s z) (vs : List CV) (hv : ∀ x ∈ vs, vIn D x) : Both D H H' (heapOp o vs H) (heapOp o vs H') := by
  have hs := h.symm
  unfold heapOp
  split
  · exact (hb _ rfl).elim
  · refine both_ite ?_ both_none
    rw [h.len]; exact both_some h (h.push _).1 (h.push _).2 (hs.push _).2
  · exact (hn _ _ rfl).elim
  · refine both_ite ?_ both_none
    rw [h.len]; exact both_some h (h.push _).1 (h.push _).2 (hs.push _).2
  · refine both_ite (both_bind fun cs _ => both_ite ?_ both_none) both_none
    exact both_some h h (fun _ _ => rfl) (fun _ _ => rfl)
  · refine both_ite (both_bind fun cs _ => both_ite ?_ both_none) both_none
    rw [h.len]; exact both_some h (h.push _).1 (h.push _).2 (hs.push _).2
  · exact both_look h (f := fun H => loadC _ _ H _) (h.loadC _ _ (hv _ (by simp)))
  · rename_i n p x
    refine both_map fun H1 h1 => ?_
    cases p with
    | op i off =>
      have hi : inD D i := hv (.op i off) (by simp)
      simp only [storeC] at h1 ⊢
      rw [h.get hi] at h1
      obtain ⟨cs, hc, h1⟩ := Option.bind_eq_some_iff.1 h1
      split at h1 <;> (try cases h1)
      rename_i hcond
      exact ⟨_, by rw [hc, Option.bind_some, if_pos hcond], (h.put i hi _).1, (h.put i hi _).2, (hs.put i hi _).2⟩
    | _ => simp [storeC] at h1
  · rename_i sz bytes zero s x
    have hx := hv x (by simp)
    have hs1 := hv s (by simp)
    refine both_ite (both_ite (both_some h h (fun _ _ => rfl) (fun _ _ => rfl)) both_none) ?_
    rw [h.shown sz hx]
    refine both_bind fun new _ => both_ite ?_ both_none
    cases s with
    | nils =>
      simp only [appC]
      rw [h.len]; exact both_some h (h.push _).1 (h.push _).2 (hs.push _).2
    | os s i off n =>
      unfold appC
      split
      · rename_i heq; cases heq
      · rename_i s' m n' heq
        cases heq
        refine both_ite ?_ both_none
        rw [h.get (i := .blk m) trivial]
        refine both_bind fun cs _ => both_ite ?_ both_none
        rw [h.len]
        exact both_some h ((h.kill m).1.push _).1 ((h.kill m).2.trans ((h.kill m).1.push _).2) ((hs.kill m).2.trans ((hs.kill m).1.push _).2)
      · exact both_none
    | _ => simp only [appC]; exact both_none
  · refine both_ite ?_ both_none
    rw [h.len]; exact both_some h (h.push _).1 (h.push _).2 (hs.push _).2
  · rename_i sz d x
    have hx := hv x (by simp)
    have hd := hv d (by simp)
    rw [h.shown sz hx]
    refine both_bind fun new _ => both_ite ?_ both_none
    cases d with
    | os s i off n =>
      simp only [copyC]
      refine both_ite ?_ both_none
      rw [h.get (i := i) hd]
      refine both_bind fun cs _ => both_ite ?_ both_none
      exact both_some h (h.put i hd _).1 (h.put i hd _).2 (hs.put i hd _).2
    | _ => simp only [copyC]; exact both_none
  · rename_i sz zero s
    have hd := hv s (by simp)
    refine both_ite (both_map fun H1 h1 => ?_) both_none
    cases s with
    | os s i off n =>
      simp only [clearC] at h1 ⊢
      split at h1 <;> (try cases h1)
      rename_i hsz
      rw [h.get (i := i) hd] at h1
      obtain ⟨cs, hc, h1⟩ := Option.bind_eq_some_iff.1 h1
      split at h1 <;> (try cases h1)
      rename_i hcond
      exact ⟨_, by rw [if_pos hsz, hc, Option.bind_some, if_pos hcond], (h.put i hd _).1, (h.put i hd _).2, (hs.put i hd _).2⟩
    | _ => simp [clearC] at h1
  · refine both_ite ?_ both_none
    unfold mkslC
    split
    · refine both_ite ?_ both_none
      rw [h.len]; exact both_some h (h.push _).1 (h.push _).2 (hs.push _).2
    · exact both_none
  · refine both_ite ?_ both_none
    unfold mkslFC
    split
    · exact both_ite (both_some h h (fun _ _ => rfl) (fun _ _ => rfl)) both_none
    · exact both_none
  · rw [h.len]; exact both_some h (h.push _).1 (h.push _).2 (hs.push _).2
  · refine both_look h (f := fun H => lookC _ _ _ _ H _) ?_
    unfold lookC
    rw [h.bl]
  · rename_i kk m k v
    refine both_ite both_none (both_map fun H1 h1 => ?_)
    unfold mputC at h1 ⊢
    split at h1 <;> (try cases h1)
    rename_i n
    split at h1 <;> (try cases h1)
    rename_i hkk
    rw [if_neg hkk]
    rw [h.bl] at h1
    split at h1 <;> (try cases h1)
    rename_i es _
    obtain ⟨y, hy, h1⟩ := Option.bind_eq_some_iff.1 h1
    rw [hy, Option.bind_some]
    cases y with
    | some y =>
      obtain ⟨i, u⟩ := y
      simp only [Option.some.injEq] at h1
      subst h1
      refine ⟨_, rfl, ?_, ?_, ?_⟩
      · exact ⟨rfl, h.bx⟩
      · exact fun _ _ => rfl
      · exact fun _ _ => rfl
    | none =>
      simp only [Option.map_eq_some_iff] at h1
      obtain ⟨z, hz, rfl⟩ := h1
      exact ⟨{ bx := H'.bx, bl := H'.bl.set n (.map (es ++ [(k, v)])) }, by simp only [hz, Option.map_some], ⟨rfl, h.bx⟩, fun _ _ => rfl, fun _ _ => rfl⟩
  · rename_i kk m k
    refine both_map fun H1 h1 => ?_
    unfold mdelC at h1 ⊢
    split at h1 <;> (try cases h1)
    rename_i n
    rw [h.bl] at h1
    split at h1 <;> (try cases h1)
    rename_i es _
    obtain ⟨y, hy, h1⟩ := Option.bind_eq_some_iff.1 h1
    rw [hy, Option.bind_some]
    cases y with
    | some y =>
      obtain ⟨i, u⟩ := y
      simp only [Option.some.injEq] at h1
      subst h1
      exact ⟨_, rfl, ⟨rfl, h.bx⟩, fun _ _ => rfl, fun _ _ => rfl⟩
    | none =>
      simp only [Option.map_eq_some_iff] at h1
      obtain ⟨z, hz, rfl⟩ := h1
      exact ⟨_, by simp only [hz, Option.map_some], h, fun _ _ => rfl, fun _ _ => rfl⟩
  · refine both_look h (f := fun H => lenMC H _) ?_
    unfold lenMC
    rw [h.bl]
  · exact both_none

/-! ### Footprints -/

def Foot.rd (f : Foot) (r : Rsc) : Prop := f.ra = true ∨ r ∈ f.r
def Foot.wr (f : Foot) (r : Rsc) : Prop := f.wa = true ∨ r ∈ f.w

theorem hit_false {a b : Bool} {l m : List Rsc} (h : hit a l b m = false) (r : Rsc) (h1 : a = true ∨ r ∈ l) (h2 : b = true ∨ r ∈ m) : False := by
  simp only [hit, Bool.or_eq_false_iff, Bool.and_eq_false_iff, List.any_eq_false] at h
  obtain ⟨⟨g1, g2⟩, g3⟩ := h
  rcases h1 with rfl | h1
  · rcases g1 with g1 | g1
    · cases g1
    · rcases h2 with rfl | h2
      · simp at g1
      · cases m with
        | nil => simp at h2
        | cons x m => simp at g1
  · rcases h2 with rfl | h2
    · rcases g2 with g2 | g2
      · cases g2
      · cases l with
        | nil => simp at h1
        | cons x l => simp at g2
    · exact g3 r h1 (by simpa using h2)

theorem clash_false {x y : Foot} (h : x.clash y = false) (r : Rsc) : (x.wr r → ¬ y.rd r ∧ ¬ y.wr r) ∧ (y.wr r → ¬ x.rd r) := by
  simp only [Foot.clash, Bool.or_eq_false_iff] at h
  exact ⟨fun hw => ⟨fun hr => hit_false h.1.1 r hw hr, fun hr => hit_false h.1.2 r hw hr⟩, fun hw hr => hit_false h.2 r hw hr⟩

/-- A call leaves what is owned alone where it is quiet, and goes by what the boxes hold, not by how they stand. -/
structure QuietOk (call : Caller) (quiet : FuncId → Bool) : Prop where
  free : ∀ k first cap args H v H1, quiet k = true → CV.refs (.fn (.func k) first cap :: args) = false → call (.fn (.func k) first cap) args ⟨[], []⟩ = some (v, H1) → call (.fn (.func k) first cap) args H = some (v, H)
  quiet : ∀ k first cap args H v H', quiet k = true → call (.fn (.func k) first cap) args H = some (v, H') → H' = H
  lone : ∀ f args H v H1, call f args ⟨[], H.bl⟩ = some (v, H1) → call f args H = some (v, ⟨H.bx, H1.bl⟩)
  agr : ∀ f args H H' v H1, Agr (fun _ => True) H H' → call f args H = some (v, H1) → ∃ H1', call f args H' = some (v, H1') ∧ Agr (fun _ => True) H1 H1'

theorem agr_all {H H' : Heap} : Agr (fun _ => True) H H' ↔ ∀ r, same r H H' :=
  ⟨fun h r => by cases r with | loc s => exact h.bx s trivial | bl => exact h.bl, fun h => ⟨h .bl, fun s _ => h (.loc s)⟩⟩

theorem locs_in {vs : List CV} (h : CV.locs vs = false) : ∀ x ∈ vs, vIn (fun _ => False) x := by
  induction vs with
  | nil => intro x hx; simp at hx
  | cons c cs ih =>
    simp only [CV.locs, Bool.or_eq_false_iff] at h
    intro x hx
    rcases List.mem_cons.1 hx with rfl | hx
    · cases x with
      | op i off => cases i with
        | loc s => simp [CV.locv, Id.loc?] at h
        | blk n => trivial
      | os s i off n => cases i with
        | loc s => simp [CV.locv, Id.loc?] at h
        | blk n => trivial
      | _ => trivial
    · exact ih h.2 x hx

/-- What a step comes to elsewhere. -/
def Moves (f : Foot) (H H' : Heap) (r r' : Option (CV × Heap)) : Prop :=
  ∀ v H1, r = some (v, H1) → ∃ H1', r' = some (v, H1') ∧ (∀ x, f.wr x → same x H1' H1) ∧ (∀ x, ¬ f.wr x → same x H1' H') ∧ (∀ x, ¬ f.wr x → same x H1 H)

theorem moves_looks {f : Foot} {H H' : Heap} {r r' : Option (CV × Heap)} (hw : ∀ x, ¬ f.wr x) (h : ∀ v H1, r = some (v, H1) → H1 = H ∧ r' = some (v, H')) : Moves f H H' r r' := by
  intro v H1 hr
  obtain ⟨rfl, h2⟩ := h v H1 hr
  exact ⟨H', h2, fun x hx => (hw x hx).elim, fun x _ => same.refl x _, fun x _ => same.refl x _⟩

theorem heapOp_looks {o : HOp} (ho : (∃ a n, o = .load a n) ∨ (∃ k z b, o = .look k z b) ∨ o = .lenM) {vs : List CV} {H : Heap} {v : CV} {H1 : Heap} (h : heapOp o vs H = some (v, H1)) : H1 = H := by
  rcases ho with ⟨a, n, rfl⟩ | ⟨k, z, b, rfl⟩ | rfl
  all_goals
    unfold heapOp at h
    split at h <;> (try cases h) <;> rename_i heq <;> cases heq
    simp only [Option.map_eq_some_iff, Prod.mk.injEq] at h
    obtain ⟨_, _, _, rfl⟩ := h
    rfl

theorem box_moves {d : Nat} {H H' : Heap} (hs : same (.loc d) H H') {cs : List CV} {c : Bool} {v : CV} : Moves ⟨false, [.loc d], false, [.loc d]⟩ H H' (if ((look H.bx d).isNone && c) = true then some (v, H.put (.loc d) cs) else none) (if ((look H'.bx d).isNone && c) = true then some (v, H'.put (.loc d) cs) else none) := by
  intro v' H1 hr
  have hs' : look H.bx d = look H'.bx d := hs
  split at hr <;> cases hr
  rename_i hc
  refine ⟨H'.put (.loc d) cs, by rw [if_pos (by rw [← hs']; exact hc)], ?_, ?_, ?_⟩
  · intro x hx
    simp only [Foot.wr, Bool.false_eq_true, false_or, List.mem_singleton] at hx
    subst hx
    simp [same, Heap.put, look_setBx]
  all_goals
    intro x hx
    simp only [Foot.wr, Bool.false_eq_true, false_or, List.mem_singleton] at hx
    cases x with
    | loc s =>
      have : ¬ s = d := fun e => hx (by rw [e])
      simp [same, Heap.put, look_setBx, this]
    | bl => rfl

/-- An operation that works in the blocks alone. -/
theorem blk_moves {o : HOp} (hb : ∀ s, o ≠ .box s) (hn : ∀ s z, o ≠ .newl s z) {H H' : Heap} (h : H.bl = H'.bl) {vs : List CV} (hv : ∀ x ∈ vs, vIn (fun _ => False) x) (ra : Bool) (rl : List Rsc) : Moves ⟨ra, rl, false, [.bl]⟩ H H' (heapOp o vs H) (heapOp o vs H') := by
  intro v H1 hr
  obtain ⟨H1', h1, h2, h3, h4⟩ := heapOp_agr (D := fun _ => False) ⟨h, fun _ hf => hf.elim⟩ o hb hn vs hv v H1 hr
  refine ⟨H1', h1, fun x hx => ?_, fun x hx => ?_, fun x hx => ?_⟩
  · simp only [Foot.wr, Bool.false_eq_true, false_or, List.mem_singleton] at hx
    subst hx
    exact h2.bl.symm
  · cases x with
    | loc s => exact h4 s id
    | bl => exact (hx (.inr (by simp))).elim
  · cases x with
    | loc s => exact h3 s id
    | bl => exact (hx (.inr (by simp))).elim

/-- An operation at one box. -/
theorem at_moves {s : Nat} {H H' : Heap} (hs : look H.bx s = look H'.bx s) {off : Nat} {r : List CV} :
    (∀ a n, Moves ⟨false, [.loc s], false, []⟩ H H' (heapOp (.load a n) (.op (.loc s) off :: r) H) (heapOp (.load a n) (.op (.loc s) off :: r) H')) ∧
    (∀ n, Moves ⟨false, [.loc s], false, [.loc s]⟩ H H' (heapOp (.store n) (.op (.loc s) off :: r) H) (heapOp (.store n) (.op (.loc s) off :: r) H')) := by
  refine ⟨fun a n => ?_, fun n => ?_⟩
  · refine moves_looks (fun x hx => by simp [Foot.wr] at hx) fun v H1 hr => ?_
    refine ⟨heapOp_looks (.inl ⟨a, n, rfl⟩) hr, ?_⟩
    cases r with
    | cons _ _ => simp [heapOp] at hr
    | nil =>
      simp only [heapOp, loadC, Heap.get] at hr ⊢
      rw [← hs]
      simp only [Option.map_eq_some_iff, Prod.mk.injEq] at hr ⊢
      obtain ⟨u, hu, rfl, _⟩ := hr
      exact ⟨u, hu, rfl, trivial⟩
  · intro v H1 hr
    match r, hr with
    | [x], hr =>
      simp only [heapOp, storeC, Heap.get] at hr ⊢
      rw [← hs]
      simp only [Option.map_eq_some_iff, Prod.mk.injEq] at hr
      obtain ⟨H2, h2, rfl, rfl⟩ := hr
      obtain ⟨cs, hc, h2⟩ := Option.bind_eq_some_iff.1 h2
      split at h2 <;> (try cases h2)
      rename_i hcond
      refine ⟨H'.put (.loc s) (setMany cs off x.cells), by rw [hc, Option.bind_some, if_pos hcond]; rfl, ?_, ?_, ?_⟩
      · intro y hy
        simp only [Foot.wr, Bool.false_eq_true, false_or, List.mem_singleton] at hy
        subst hy
        simp [same, Heap.put, look_setBx]
      all_goals
        intro y hy
        simp only [Foot.wr, Bool.false_eq_true, false_or, List.mem_singleton] at hy
        cases y with
        | loc t =>
          have : ¬ t = s := fun e => hy (by rw [e])
          simp [same, Heap.put, look_setBx, this]
        | bl => rfl
    | [], hr => simp [heapOp] at hr
    | _ :: _ :: _, hr => simp [heapOp] at hr

/-- An operation that may look at all, and turn all. -/
theorem all_moves {o : HOp} (hb : ∀ s, o ≠ .box s) (hn : ∀ s z, o ≠ .newl s z) {H H' : Heap} (h : Agr (fun _ => True) H H') {vs : List CV} : Moves ⟨true, [], true, []⟩ H H' (heapOp o vs H) (heapOp o vs H') := by
  intro v H1 hr
  have hv : ∀ x ∈ vs, vIn (fun _ => True) x := by
    intro x _
    cases x with
    | op i _ => cases i <;> trivial
    | os _ i _ _ => cases i <;> trivial
    | _ => trivial
  obtain ⟨H1', h1, h2, _⟩ := heapOp_agr h o hb hn vs hv v H1 hr
  exact ⟨H1', h1, fun x _ => (agr_all.1 h2 x).symm, fun x hx => (hx (.inl rfl)).elim, fun x hx => (hx (.inl rfl)).elim⟩

theorem widen {f : Foot} {H H' : Heap} {r r' : Option (CV × Heap)} (ha : Agr (fun _ => True) H H') (h : Moves f H H' r r') : Moves ⟨true, [], true, []⟩ H H' r r' := by
  intro v H1 hr
  obtain ⟨H2, h2, g1, g2, g3⟩ := h v H1 hr
  refine ⟨H2, h2, fun y _ => ?_, fun y hy => (hy (.inl rfl)).elim, fun y hy => (hy (.inl rfl)).elim⟩
  by_cases hy : f.wr y
  · exact g1 y hy
  · exact (g2 y hy).trans ((agr_all.1 ha y).symm.trans (g3 y hy).symm)

theorem newl_moves {d : Nat} {z vs : List CV} {H H' : Heap} (hs : same (.loc d) H H') : Moves ⟨false, [.loc d], false, [.loc d]⟩ H H' (heapOp (.newl d z) vs H) (heapOp (.newl d z) vs H') := by
  cases vs with
  | nil =>
    have := box_moves hs (cs := z) (c := ones z && !CV.locs z) (v := .op (.loc d) 0)
    simpa only [heapOp, Bool.and_assoc] using this
  | cons x r => intro v H1 hr; simp [heapOp] at hr

theorem boxl_moves {d : Nat} {vs : List CV} {H H' : Heap} (hs : same (.loc d) H H') : Moves ⟨false, [.loc d], false, [.loc d]⟩ H H' (heapOp (.box d) vs H) (heapOp (.box d) vs H') := by
  match vs with
  | [] => intro v H1 hr; simp [heapOp] at hr
  | [x] =>
    have := box_moves hs (cs := x.cells) (c := ones x.cells) (v := .op (.loc d) 0)
    simpa only [heapOp, Bool.and_comm] using this
  | _ :: _ :: _ => intro v H1 hr; simp [heapOp] at hr

theorem any_moves (o : HOp) {H H' : Heap} (h : Agr (fun _ => True) H H') {vs : List CV} : Moves ⟨true, [], true, []⟩ H H' (heapOp o vs H) (heapOp o vs H') := by
  cases o with
  | box d => exact widen h (boxl_moves (h.bx d trivial))
  | newl d z => exact widen h (newl_moves (h.bx d trivial))
  | _ => exact all_moves (by simp) (by simp) h

theorem ite_none {c : Prop} [Decidable c] {a : Option (CV × Heap)} {v : CV} {H : Heap} (h : (if c then none else a) = some (v, H)) : ¬ c ∧ a = some (v, H) := by
  split at h
  · cases h
  · exact ⟨‹_›, h⟩

theorem run_foot {call : Caller} {quiet : FuncId → Bool} (hq : QuietOk call quiet) {s : CStm} {env : Env} {H H' : Heap} (h : ∀ r, (footOf quiet s).rd r → same r H H') :
    Moves (footOf quiet s) H H' (runOp call s.op (evs env s.args) H) (runOp call s.op (evs env s.args) H') := by
  obtain ⟨dst, op, args, guard⟩ := s
  have hall : ∀ {f : Foot}, f.ra = true → footOf quiet ⟨dst, op, args, guard⟩ = f → Agr (fun _ => True) H H' := fun hra hf => agr_all.2 fun r => h r (by rw [hf]; exact .inl hra)
  cases op with
  | p o =>
    refine moves_looks (fun x hx => by simp [Foot.wr, footOf] at hx) fun v H1 hr => ?_
    simp only [runOp, Option.map_eq_some_iff, Prod.mk.injEq] at hr ⊢
    obtain ⟨u, hu, rfl, rfl⟩ := hr
    exact ⟨rfl, u, hu, rfl, trivial⟩
  | h o =>
    have plain : footOf quiet ⟨dst, .h o, args, guard⟩ = ⟨true, [], true, []⟩ → (∀ s, o ≠ .box s) → (∀ s z, o ≠ .newl s z) → Moves (footOf quiet ⟨dst, .h o, args, guard⟩) H H' (runOp call (.h o) (evs env args) H) (runOp call (.h o) (evs env args) H') := by
      intro hf hb hn
      have := hall (by rw [hf]) rfl
      rw [hf]
      exact all_moves hb hn this
    have looks : footOf quiet ⟨dst, .h o, args, guard⟩ = ⟨true, [], false, []⟩ → ((∃ a n, o = .load a n) ∨ (∃ k z b, o = .look k z b) ∨ o = .lenM) → Moves (footOf quiet ⟨dst, .h o, args, guard⟩) H H' (runOp call (.h o) (evs env args) H) (runOp call (.h o) (evs env args) H') := by
      intro hf ho
      have ha := hall (by rw [hf]) rfl
      intro v H1 hr
      have e1 := heapOp_looks ho hr
      subst e1
      have hb : ∀ s, o ≠ .box s := by rcases ho with ⟨_, _, rfl⟩ | ⟨_, _, _, rfl⟩ | rfl <;> simp
      have hn : ∀ s z, o ≠ .newl s z := by rcases ho with ⟨_, _, rfl⟩ | ⟨_, _, _, rfl⟩ | rfl <;> simp
      obtain ⟨H2, h2, _⟩ := all_moves hb hn ha v _ hr
      have e2 := heapOp_looks ho h2
      subst e2
      refine ⟨_, h2, fun x hx => ?_, fun x _ => same.refl x _, fun x _ => same.refl x _⟩
      rw [hf] at hx
      simp [Foot.wr] at hx
    cases o with
    | bslF sz len z ps =>
      refine moves_looks (fun x hx => by simp [Foot.wr, footOf] at hx) fun v H1 hr => ?_
      simp only [runOp, heapOp] at hr ⊢
      split at hr <;> (try cases hr)
      rename_i hl
      obtain ⟨cs, h1, h2⟩ := Option.bind_eq_some_iff.1 hr
      split at h2 <;> cases h2
      rename_i hb
      exact ⟨rfl, by rw [if_pos hl, h1, Option.bind_some, if_pos hb]⟩
    | newl d z => exact newl_moves (h (.loc d) (.inr (by simp [footOf])))
    | box d => exact boxl_moves (h (.loc d) (.inr (by simp [footOf])))
    | load a n => exact looks rfl (.inl ⟨a, n, rfl⟩)
    | look k z b => exact looks rfl (.inr (.inl ⟨k, z, b, rfl⟩))
    | lenM => exact looks rfl (.inr (.inr rfl))
    | _ => exact plain rfl (by simp) (by simp)
  | hb o =>
    have blk : ∀ (rl wl : List Rsc), footOf quiet ⟨dst, .hb o, args, guard⟩ = ⟨false, rl, false, wl⟩ → .bl ∈ rl → (wl = [.bl] ∨ (wl = [] ∧ ((∃ a n, o = .load a n) ∨ (∃ k z b, o = .look k z b) ∨ o = .lenM))) → (∀ s, o ≠ .box s) → (∀ s z, o ≠ .newl s z) → Moves (footOf quiet ⟨dst, .hb o, args, guard⟩) H H' (runOp call (.hb o) (evs env args) H) (runOp call (.hb o) (evs env args) H') := by
      intro rl wl hf hrl hwl hb hn v H1 hr
      have hbl : H.bl = H'.bl := h .bl (by rw [hf]; exact .inr hrl)
      simp only [runOp] at hr ⊢
      obtain ⟨hlc, hr⟩ := ite_none hr
      rw [if_neg hlc]
      obtain ⟨H2, h2, g1, g2, g3⟩ := blk_moves hb hn hbl (locs_in (by simpa using hlc)) false [] v H1 hr
      rw [hf]
      rcases hwl with rfl | ⟨rfl, ho⟩
      · exact ⟨H2, h2, g1, g2, g3⟩
      · have e1 := heapOp_looks ho hr
        have e2 := heapOp_looks ho h2
        subst e1
        subst e2
        exact ⟨_, h2, fun x hx => by simp [Foot.wr] at hx, fun x _ => same.refl x _, fun x _ => same.refl x _⟩
    cases o with
    | box d =>
      intro v H1 hr
      have ha := agr_all.2 fun r => h r (.inl rfl)
      simp only [runOp] at hr ⊢
      obtain ⟨hlc, hr⟩ := ite_none hr
      rw [if_neg hlc]
      exact any_moves _ ha v H1 hr
    | newl d z =>
      intro v H1 hr
      have ha := agr_all.2 fun r => h r (.inl rfl)
      simp only [runOp] at hr ⊢
      obtain ⟨hlc, hr⟩ := ite_none hr
      rw [if_neg hlc]
      exact any_moves _ ha v H1 hr
    | load a n => exact blk [.bl] [] rfl (by simp) (.inr ⟨rfl, .inl ⟨a, n, rfl⟩⟩) (by simp) (by simp)
    | look k z b => exact blk [.bl] [] rfl (by simp) (.inr ⟨rfl, .inr (.inl ⟨k, z, b, rfl⟩)⟩) (by simp) (by simp)
    | lenM => exact blk [.bl] [] rfl (by simp) (.inr ⟨rfl, .inr (.inr rfl)⟩) (by simp) (by simp)
    | _ => exact blk [.bl] [.bl] rfl (by simp) (.inl rfl) (by simp) (by simp)
  | hl d o =>
    cases hv : evs env args with
    | nil => intro v H1 hr; simp [runOp] at hr
    | cons x r =>
      by_cases hx : ∃ off, x = .op (.loc d) off ∧ CV.locs r = false
      · obtain ⟨off, rfl, hr⟩ := hx
        have e : ∀ H, runOp call (.hl d o) (.op (.loc d) off :: r) H = heapOp o (.op (.loc d) off :: r) H := fun H => by simp only [runOp, hr, and_self, if_true]
        simp only [e]
        cases o with
        | load a n => exact (at_moves (h (.loc d) (.inr (by simp [footOf])))).1 a n
        | store n => exact (at_moves (h (.loc d) (.inr (by simp [footOf])))).2 n
        | _ => exact any_moves _ (agr_all.2 fun r => h r (.inl rfl))
      · intro v H1 hr
        exfalso
        simp only [runOp] at hr
        split at hr <;> (try cases hr)
        rename_i t off r' heq
        cases heq
        split at hr <;> (try cases hr)
        rename_i hc
        exact hx ⟨off, by rw [hc.1], hc.2⟩
  | callb =>
    have hbl : H.bl = H'.bl := h .bl (by
      unfold footOf Foot.rd
      dsimp only
      split
      · split <;> simp
      · simp)
    intro v H1 hr
    cases hv : evs env args with
    | nil => rw [hv] at hr; simp [runOp] at hr
    | cons f as =>
      rw [hv] at hr
      simp only [runOp, Option.map_eq_some_iff, Prod.mk.injEq] at hr ⊢
      obtain ⟨⟨u, H2⟩, h2, rfl, rfl⟩ := hr
      rw [← hbl]
      refine ⟨⟨H'.bx, H2.bl⟩, ⟨(u, H2), h2, rfl, rfl⟩, ?_⟩
      by_cases hqk : ∃ k a c r, args = .c (.fn (.func k) a c) :: r ∧ quiet k = true
      · obtain ⟨k, a, c, r, rfl, hqk⟩ := hqk
        have hf : f = .fn (.func k) a c := by simp only [evs, ev, List.cons.injEq] at hv; exact hv.1.symm
        subst hf
        have e1 := hq.quiet _ _ _ _ _ _ _ hqk h2
        subst e1
        refine ⟨fun x hx => by simp [Foot.wr, footOf, hqk] at hx, fun x _ => ?_, fun x _ => ?_⟩
        · cases x with
          | loc s => rfl
          | bl => exact hbl
        · cases x with
          | loc s => rfl
          | bl => rfl
      · have hf : footOf quiet ⟨dst, .callb, args, guard⟩ = ⟨false, [.bl], false, [.bl]⟩ := by
          unfold footOf
          dsimp only
          split
          · split
            · exact (hqk ⟨_, _, _, _, rfl, by assumption⟩).elim
            · rfl
          · rfl
        rw [hf]
        refine ⟨fun x hx => ?_, fun x hx => ?_, fun x hx => ?_⟩
        · simp only [Foot.wr, Bool.false_eq_true, false_or, List.mem_singleton] at hx
          subst hx
          rfl
        · cases x with
          | loc s => rfl
          | bl => exact (hx (.inr (by simp))).elim
        · cases x with
          | loc s => rfl
          | bl => exact (hx (.inr (by simp))).elim
  | callp =>
    have hbl : H.bl = H'.bl := h .bl (.inr (by simp [footOf]))
    intro v H1 hr
    cases hv : evs env args with
    | nil => rw [hv] at hr; simp [runOp] at hr
    | cons f as =>
      rw [hv] at hr
      simp only [runOp] at hr ⊢
      rw [← hbl]
      obtain ⟨⟨u, H2⟩, h2, h3⟩ := Option.bind_eq_some_iff.1 hr
      split at h3 <;> cases h3
      rename_i hp
      refine ⟨⟨H'.bx, H2.bl⟩, by rw [h2, Option.bind_some, if_pos hp], ?_⟩
      refine ⟨fun x hx => ?_, fun x hx => ?_, fun x hx => ?_⟩
      · simp only [Foot.wr, footOf, Bool.false_eq_true, false_or, List.mem_singleton] at hx
        subst hx
        rfl
      · cases x with
        | loc s => rfl
        | bl => exact (hx (.inr (by simp [footOf]))).elim
      · cases x with
        | loc s => rfl
        | bl => exact (hx (.inr (by simp [footOf]))).elim
  | callv =>
    intro v H1 hr
    cases hv : evs env args with
    | nil => rw [hv] at hr; simp [runOp] at hr
    | cons f as =>
      rw [hv] at hr
      simp only [runOp] at hr ⊢
      obtain ⟨hrf, hr⟩ := ite_none hr
      rw [if_neg hrf]
      simp only [Option.map_eq_some_iff, Prod.mk.injEq] at hr ⊢
      obtain ⟨y, hy, rfl, rfl⟩ := hr
      refine ⟨H', ⟨y, hy, rfl, rfl⟩, fun x hx => ?_, fun x _ => same.refl x _, fun x _ => same.refl x _⟩
      by_cases hqk : ∃ k a c r, args = .c (.fn (.func k) a c) :: r ∧ quiet k = true
      · obtain ⟨k, a, c, r, rfl, hqk⟩ := hqk
        simp [Foot.wr, footOf, hqk] at hx
      · have hf : footOf quiet ⟨dst, .callv, args, guard⟩ = ⟨true, [], true, []⟩ := by
          unfold footOf
          dsimp only
          split
          · split
            · exact (hqk ⟨_, _, _, _, rfl, by assumption⟩).elim
            · rfl
          · rfl
        exact (h x (by rw [hf]; exact .inl rfl)).symm
  | call =>
    have ha : Agr (fun _ => True) H H' := agr_all.2 fun r => h r (.inl (by
      unfold footOf
      dsimp only
      split
      · split <;> rfl
      · rfl))
    intro v H1 hr
    cases hv : evs env args with
    | nil => rw [hv] at hr; simp [runOp] at hr
    | cons f as =>
      rw [hv] at hr
      simp only [runOp] at hr ⊢
      obtain ⟨H2, h2, h3⟩ := hq.agr f as H H' v H1 ha hr
      have full : ∀ g : Foot, g.wa = true → (∃ H1', call f as H' = some (v, H1') ∧ (∀ x, g.wr x → same x H1' H1) ∧ (∀ x, ¬ g.wr x → same x H1' H') ∧ (∀ x, ¬ g.wr x → same x H1 H)) := fun g hg =>
        ⟨H2, h2, fun x _ => (agr_all.1 h3 x).symm, fun x hx => (hx (.inl hg)).elim, fun x hx => (hx (.inl hg)).elim⟩
      by_cases hqk : ∃ k a c r, args = .c (.fn (.func k) a c) :: r ∧ quiet k = true
      · obtain ⟨k, a, c, r, rfl, hqk⟩ := hqk
        have hf : f = .fn (.func k) a c := by simp only [evs, ev, List.cons.injEq] at hv; exact hv.1.symm
        subst hf
        have e1 := hq.quiet _ _ _ _ _ _ _ hqk hr
        have e2 := hq.quiet _ _ _ _ _ _ _ hqk h2
        subst e1
        subst e2
        exact ⟨_, h2, fun x hx => by simp [Foot.wr, footOf, hqk] at hx, fun x _ => same.refl x _, fun x _ => same.refl x _⟩
      · refine full _ ?_
        unfold footOf
        dsimp only
        split
        · split
          · exact (hqk ⟨_, _, _, _, rfl, by assumption⟩).elim
          · rfl
        · rfl

end Go.Zc
end
section
namespace Go.Zc

section
variable {P : Program} {w : World} {F : Nat → Prop} {ι : IM} {H : Heap} {env : Env} {a : Act}


theorem trace {call : Caller} : ∀ {l : List CStm} {env env' : Env} {H H' : Heap}, runOps call l env H = some (env', H') →
    ∃ (E : Nat → Env) (Hs : Nat → Heap) (C : Nat → CV), E 0 = env ∧ Hs 0 = H ∧ E l.length = env' ∧ Hs l.length = H' ∧ ∀ (k : Nat) (s : CStm), l[k]? = some s → Stepped call s (E k) (Hs k) (C k) (Hs (k + 1)) ∧ E (k + 1) = putD (E k) s.dst (C k)
  | [], env, env', H, H', h => by
    simp only [runOps, Option.some.injEq, Prod.mk.injEq] at h
    obtain ⟨rfl, rfl⟩ := h
    exact ⟨fun _ => env, fun _ => H, fun _ => .und, rfl, rfl, rfl, rfl, by simp⟩
  | s :: l, env, env', H, H', h => by
    obtain ⟨v, H1, h1, h2⟩ := runOps_cons h
    obtain ⟨E, Hs, C, e1, e2, e3, e4, e5⟩ := trace h2
    refine ⟨fun k => match k with | 0 => env | k + 1 => E k, fun k => match k with | 0 => H | k + 1 => Hs k, fun k => match k with | 0 => v | k + 1 => C k, rfl, rfl, e3, e4, ?_⟩
    intro k t hk
    cases k with
    | zero =>
      simp only [List.getElem?_cons_zero, Option.some.injEq] at hk
      subst hk
      exact ⟨by simpa [e2] using h1, e1⟩
    | succ k => exact e5 k t (by simpa using hk)

theorem evs_congr {e e' : Env} : ∀ {l : List Opd}, (∀ t ∈ temps l, Env.at e t = Env.at e' t) → evs e l = evs e' l
  | [], _ => rfl
  | .t n :: r, h => by
    simp only [temps, List.mem_cons, forall_eq_or_imp] at h
    simp only [evs, ev, h.1, evs_congr h.2]
  | .c v :: r, h => by
    simp only [temps] at h
    simp only [evs, ev, evs_congr h]

theorem wr_rd {quiet : FuncId → Bool} {s : CStm} {r : Rsc} (h : (footOf quiet s).wr r) : (footOf quiet s).rd r := by
  obtain ⟨dst, op, args, guard⟩ := s
  cases op with
  | p o => simp [Foot.wr, footOf] at h
  | h o => cases o <;> simp_all [Foot.wr, Foot.rd, footOf]
  | hb o => cases o <;> simp_all [Foot.wr, Foot.rd, footOf]
  | hl d o => cases o <;> simp_all [Foot.wr, Foot.rd, footOf]
  | callb =>
    revert h
    unfold footOf
    dsimp only
    split
    · split <;> simp [Foot.wr, Foot.rd]
    · simp [Foot.wr, Foot.rd]
  | callp => simpa [Foot.wr, Foot.rd, footOf] using h
  | callv =>
    revert h
    unfold footOf
    dsimp only
    split
    · split <;> simp [Foot.wr, Foot.rd]
    · simp [Foot.wr, Foot.rd]
  | call =>
    unfold footOf at h ⊢
    dsimp only at h ⊢
    split
    · split
      · exact .inl rfl
      · exact .inl rfl
    · exact .inl rfl

theorem stepped_foot {call : Caller} {quiet : FuncId → Bool} (hq : QuietOk call quiet) {s : CStm} {e e' : Env} {H H1 H' : Heap} {v : CV} (h : Stepped call s e H v H1) (he : ∀ t ∈ reads s, Env.at e t = Env.at e' t) (hh : ∀ r, (footOf quiet s).rd r → same r H H') :
    ∃ H1', Stepped call s e' H' v H1' ∧ (∀ x, (footOf quiet s).wr x → same x H1' H1) ∧ (∀ x, ¬ (footOf quiet s).wr x → same x H1' H') ∧ (∀ x, ¬ (footOf quiet s).wr x → same x H1 H) := by
  unfold Stepped at h ⊢
  have hr : evs e s.args = evs e' s.args := evs_congr fun t ht => he t (by unfold reads; split <;> simp [ht])
  cases hg : s.guard with
  | none =>
    simp only [hg] at h ⊢
    rw [← hr]
    exact run_foot hq hh v H1 h
  | some gw =>
    obtain ⟨g, want⟩ := gw
    simp only [hg] at h ⊢
    have hgt := he g (by simp [reads, hg])
    obtain ⟨b, hb, h⟩ := h
    rw [hgt] at hb
    by_cases hbw : b = some want
    · rw [if_pos hbw] at h
      obtain ⟨H1', h1, h2⟩ := run_foot hq hh v H1 h
      exact ⟨H1', ⟨b, hb, by rw [if_pos hbw, ← hr]; exact h1⟩, h2⟩
    · rw [if_neg hbw] at h
      obtain ⟨rfl, rfl⟩ := h
      exact ⟨H', ⟨b, hb, by rw [if_neg hbw]; exact ⟨rfl, rfl⟩⟩, fun x hx => (hh x (wr_rd hx)).symm, fun x _ => same.refl x _, fun x _ => same.refl x _⟩

/-- A statement with where it works says what the plain one says. -/
def Sharp (quiet : FuncId → Bool) (s s' : CStm) : Prop := s'.dst = s.dst ∧ ∀ (call : Caller), QuietOk call quiet → ∀ (e : Env) (H : Heap) (v : CV) (H1 : Heap), Stepped call s' e H v H1 → Stepped call s e H v H1

theorem Sharp.refl (quiet : FuncId → Bool) (s : CStm) : Sharp quiet s s := ⟨rfl, fun _ _ _ _ _ _ h => h⟩
theorem Sharp.trans {quiet : FuncId → Bool} {a b c : CStm} (h : Sharp quiet a b) (h' : Sharp quiet b c) : Sharp quiet a c := ⟨h'.1.trans h.1, fun call hq e H v H1 g => h.2 call hq e H v H1 (h'.2 call hq e H v H1 g)⟩

theorem sharp_of {quiet : FuncId → Bool} {s : CStm} {o o' : COp} (ho : s.op = o) (h : ∀ (call : Caller), QuietOk call quiet → ∀ (vs : List CV) (H : Heap) (v : CV) (H1 : Heap), runOp call o' vs H = some (v, H1) → runOp call o vs H = some (v, H1)) : Sharp quiet s { s with op := o' } := by
  refine ⟨rfl, fun call hq e H v H1 hs => ?_⟩
  unfold Stepped at hs ⊢
  simp only [ho]
  cases hg : s.guard with
  | none => simp only [hg] at hs ⊢; exact h _ hq _ _ _ _ hs
  | some gw =>
    simp only [hg] at hs ⊢
    obtain ⟨b, hb, hs⟩ := hs
    refine ⟨b, hb, ?_⟩
    split
    · rename_i hc; rw [if_pos hc] at hs; exact h _ hq _ _ _ _ hs
    · rename_i hc; rw [if_neg hc] at hs; exact hs

theorem run_hb {call : Caller} {o : HOp} {vs : List CV} {H : Heap} {v : CV} {H1 : Heap} (h : runOp call (.hb o) vs H = some (v, H1)) : runOp call (.h o) vs H = some (v, H1) := by
  simp only [runOp] at h ⊢
  exact (ite_none h).2

theorem run_hl {call : Caller} {d : Nat} {o : HOp} {vs : List CV} {H : Heap} {v : CV} {H1 : Heap} (h : runOp call (.hl d o) vs H = some (v, H1)) : runOp call (.h o) vs H = some (v, H1) := by
  simp only [runOp] at h ⊢
  split at h <;> (try cases h)
  split at h <;> (try cases h)
  exact h

theorem focus_sharp (quiet : FuncId → Bool) (boxes : List Nat) (l : List CStm) (s : CStm) : Sharp quiet s (focus boxes l s) := by
  unfold focus
  split
  · rename_i h _
    split
    · exact sharp_of h fun _ _ _ _ _ _ => run_hl
    · exact sharp_of h fun _ _ _ _ _ _ => run_hb
  · rename_i h _
    split
    · exact sharp_of h fun _ _ _ _ _ _ => run_hl
    · exact sharp_of h fun _ _ _ _ _ _ => run_hb
  · exact Sharp.refl _ s
  · exact Sharp.refl _ s
  · exact Sharp.refl _ s
  · exact sharp_of (by assumption) fun _ _ _ _ _ _ => run_hb
  · refine sharp_of (by assumption) fun call hq vs H v H1 h => ?_
    cases vs with
    | nil => simp [runOp] at h
    | cons f as =>
      simp only [runOp, Option.map_eq_some_iff, Prod.mk.injEq] at h ⊢
      obtain ⟨⟨u, H2⟩, h2, rfl, rfl⟩ := h
      exact hq.lone _ _ _ _ _ h2
  · exact Sharp.refl _ s

theorem focusC_sharp (quiet : FuncId → Bool) (b : Bool) (s : CStm) : Sharp quiet s (focusC quiet b s) := by
  unfold focusC
  split
  · rename_i k a c r ho ha
    split
    · rename_i hqk
      split
      · refine ⟨rfl, fun call hq e H v H1 hs => ?_⟩
        have key : runOp call .callv (evs e s.args) H = some (v, H1) → runOp call s.op (evs e s.args) H = some (v, H1) := by
          rw [ho, ha]
          simp only [evs, ev, runOp]
          intro h
          obtain ⟨hrf, h⟩ := ite_none h
          simp only [Option.map_eq_some_iff, Prod.mk.injEq] at h
          obtain ⟨⟨u, H2⟩, h2, rfl, rfl⟩ := h
          have := hq.free k a c (evs e r) ⟨[], H.bl⟩ u H2 hqk (by simpa using hrf) h2
          rw [this]
          rfl
        unfold Stepped at hs ⊢
        dsimp only at hs
        cases hg : s.guard with
        | none => simp only [hg] at hs ⊢; exact key hs
        | some gw =>
          simp only [hg] at hs ⊢
          obtain ⟨b, hb, hs⟩ := hs
          refine ⟨b, hb, ?_⟩
          split
          · rename_i hc; rw [if_pos hc] at hs; exact key hs
          · rename_i hc; rw [if_neg hc] at hs; exact hs
      · exact Sharp.refl _ s
    · refine sharp_of ho fun call hq vs H v H1 h => ?_
      cases vs with
      | nil => simp [runOp] at h
      | cons f as =>
        simp only [runOp, Option.map_eq_some_iff, Option.bind_eq_some_iff, Prod.mk.injEq] at h ⊢
        obtain ⟨⟨u, H2⟩, h2, h3⟩ := h
        split at h3 <;> cases h3
        exact ⟨(u, H2), h2, rfl, rfl⟩
  · exact Sharp.refl _ s

/-! ### What looks, and what but grows -/

theorem steady_nowr {quiet : FuncId → Bool} {s : CStm} (h : steady s = true) (r : Rsc) : ¬ (footOf quiet s).wr r := by
  obtain ⟨dst, op, args, guard⟩ := s
  unfold steady at h
  split at h
  · rename_i h1 _; dsimp only at h1; subst h1; simp [Foot.wr, footOf]
  · rename_i h1 _; dsimp only at h1; subst h1; simp [Foot.wr, footOf]
  · rename_i h1 _; dsimp only at h1; subst h1; simp [Foot.wr, footOf]
  · cases h

theorem alloc_grows {o : HOp} (ho : o = .boxh ∨ (∃ z, o = .newh z) ∨ o = .mkmap ∨ ∃ a b c d, o = .bslO a b c d) {vs : List CV} {H H1 : Heap} {v : CV} (h : heapOp o vs H = some (v, H1)) : ∃ X, H1.bl = H.bl ++ X := by
  rcases ho with rfl | ⟨z, rfl⟩ | rfl | ⟨a, b, c, d, rfl⟩
  · match vs, h with
    | [], h => simp [heapOp] at h
    | [x], h =>
      simp only [heapOp] at h
      split at h <;> cases h
      exact ⟨_, rfl⟩
    | _ :: _ :: _, h => simp [heapOp] at h
  · match vs, h with
    | [], h =>
      simp only [heapOp] at h
      split at h <;> cases h
      exact ⟨_, rfl⟩
    | _ :: _, h => simp [heapOp] at h
  · match vs, h with
    | [], h =>
      simp only [heapOp] at h
      cases h
      exact ⟨_, rfl⟩
    | _ :: _, h => simp [heapOp] at h
  · simp only [heapOp] at h
    split at h <;> (try cases h)
    simp only [Option.bind_eq_some_iff] at h
    obtain ⟨cs, _, h⟩ := h
    split at h <;> cases h
    exact ⟨_, rfl⟩

theorem grows_step {call : Caller} {s : CStm} (h : grows s = true) {e : Env} {H H1 : Heap} {v : CV} (hs : Stepped call s e H v H1) : ∃ X, H1.bl = H.bl ++ X := by
  have ho : s.op = .callp ∨ ∃ o, s.op = .hb o ∧ (o = .boxh ∨ (∃ z, o = .newh z) ∨ o = .mkmap ∨ ∃ a b c d, o = .bslO a b c d) := by
    unfold grows at h
    split at h
    · exact .inl (by assumption)
    · exact .inr ⟨_, by assumption, .inl rfl⟩
    · exact .inr ⟨_, by assumption, .inr (.inl ⟨_, rfl⟩)⟩
    · exact .inr ⟨_, by assumption, .inr (.inr (.inl rfl))⟩
    · exact .inr ⟨_, by assumption, .inr (.inr (.inr ⟨_, _, _, _, rfl⟩))⟩
    · cases h
  have key : runOp call s.op (evs e s.args) H = some (v, H1) → ∃ X, H1.bl = H.bl ++ X := by
    rcases ho with ho | ⟨o, ho, ho2⟩
    · rw [ho]
      intro h
      cases hv : evs e s.args with
      | nil => rw [hv] at h; simp [runOp] at h
      | cons f as =>
        rw [hv] at h
        simp only [runOp, Option.bind_eq_some_iff] at h
        obtain ⟨x, h2, h3⟩ := h
        split at h3 <;> cases h3
        rename_i hp
        exact isPre_ex hp
    · rw [ho]
      intro h
      simp only [runOp] at h
      exact alloc_grows ho2 (ite_none h).2
  unfold Stepped at hs
  split at hs
  · exact key hs
  · obtain ⟨c, _, hs⟩ := hs
    split at hs
    · exact key hs
    · exact ⟨[], by rw [hs.2]; simp⟩

/-- Which block a look goes to. -/
def idOf : CV → Option Nat
  | .op (.blk k) _ => some k
  | .om k => some k
  | _ => none

theorem look_move {o : HOp} (ho : (∃ a n, o = .load a n) ∨ (∃ k z b, o = .look k z b) ∨ o = .lenM) {x : CV} {r : List CV} (hl : CV.locs (x :: r) = false) {H H' : Heap} {v : CV} {H1 : Heap} (h : heapOp o (x :: r) H = some (v, H1))
    (hk : ∀ k b, idOf x = some k → H.bl[k]? = some b → H'.bl[k]? = some b) : heapOp o (x :: r) H' = some (v, H') := by
  rcases ho with ⟨a, n, rfl⟩ | ⟨kk, z, b, rfl⟩ | rfl
  · cases r with
    | cons _ _ => simp [heapOp] at h
    | nil =>
      simp only [heapOp, Option.map_eq_some_iff, Prod.mk.injEq] at h ⊢
      obtain ⟨u, hu, rfl, _⟩ := h
      refine ⟨u, ?_, rfl, trivial⟩
      cases x with
      | op i off =>
        cases i with
        | loc s => simp [CV.locs, CV.locv, Id.loc?] at hl
        | blk k =>
          simp only [loadC, Heap.get] at hu ⊢
          cases hb : H.bl[k]? with
          | none => rw [hb] at hu; simp at hu
          | some b => rw [hb] at hu; rw [hk k b rfl hb]; exact hu
      | _ => exact hu
  · match r, h with
    | [], h => simp [heapOp] at h
    | [k], h =>
      simp only [heapOp, Option.map_eq_some_iff, Prod.mk.injEq] at h ⊢
      obtain ⟨u, hu, rfl, _⟩ := h
      refine ⟨u, ?_, rfl, trivial⟩
      cases x with
      | om m =>
        simp only [lookC] at hu ⊢
        cases hb : H.bl[m]? with
        | none => rw [hb] at hu; simp at hu
        | some b => rw [hb] at hu; rw [hk m b rfl hb]; exact hu
      | _ => exact hu
    | _ :: _ :: _, h => simp [heapOp] at h
  · cases r with
    | cons _ _ => simp [heapOp] at h
    | nil =>
      simp only [heapOp, Option.map_eq_some_iff, Prod.mk.injEq] at h ⊢
      obtain ⟨u, hu, rfl, _⟩ := h
      refine ⟨u, ?_, rfl, trivial⟩
      cases x with
      | om m =>
        simp only [lenMC] at hu ⊢
        cases hb : H.bl[m]? with
        | none => rw [hb] at hu; simp at hu
        | some b => rw [hb] at hu; rw [hk m b rfl hb]; exact hu
      | _ => exact hu

theorem steady_step {call : Caller} {s : CStm} (hst : steady s = true) {e e' : Env} {H H1 H' : Heap} {v : CV} (h : Stepped call s e H v H1) (he : ∀ t ∈ reads s, Env.at e t = Env.at e' t)
    (hk : ∀ t k b, idOf (Env.at e' t) = some k → H.bl[k]? = some b → H'.bl[k]? = some b) : Stepped call s e' H' v H' ∧ H1 = H := by
  have hr : evs e s.args = evs e' s.args := evs_congr fun t ht => he t (by unfold reads; split <;> simp [ht])
  have ho : ∃ o t r, s.op = .hb o ∧ s.args = .t t :: r ∧ ((∃ a n, o = .load a n) ∨ (∃ k z b, o = .look k z b) ∨ o = .lenM) := by
    unfold steady at hst
    split at hst
    · exact ⟨_, _, _, by assumption, by assumption, .inl ⟨_, _, rfl⟩⟩
    · exact ⟨_, _, _, by assumption, by assumption, .inr (.inl ⟨_, _, _, rfl⟩)⟩
    · exact ⟨_, _, _, by assumption, by assumption, .inr (.inr rfl)⟩
    · cases hst
  obtain ⟨o, t, r, h1, h2, h3⟩ := ho
  have key : runOp call s.op (evs e s.args) H = some (v, H1) → runOp call s.op (evs e' s.args) H' = some (v, H') ∧ H1 = H := by
    have hev : evs e' (.t t :: r) = Env.at e' t :: evs e' r := rfl
    rw [hr, h1, h2, hev]
    simp only [runOp]
    intro h
    obtain ⟨hlc, h⟩ := ite_none h
    refine ⟨?_, heapOp_looks h3 h⟩
    rw [if_neg hlc]
    exact look_move h3 (by simpa using hlc) h fun k b hi hb => hk t k b hi hb
  unfold Stepped at h ⊢
  cases hg : s.guard with
  | none => simp only [hg] at h ⊢; exact key h
  | some gw =>
    obtain ⟨g, want⟩ := gw
    simp only [hg] at h ⊢
    have hgt := he g (by simp [reads, hg])
    obtain ⟨b, hb, h⟩ := h
    rw [hgt] at hb
    by_cases hbw : b = some want
    · rw [if_pos hbw] at h
      obtain ⟨k1, k2⟩ := key h
      exact ⟨⟨b, hb, by rw [if_pos hbw]; exact k1⟩, k2⟩
    · rw [if_neg hbw] at h
      obtain ⟨rfl, rfl⟩ := h
      exact ⟨⟨b, hb, by rw [if_neg hbw]; exact ⟨rfl, trivial⟩⟩, rfl⟩

/-- Heaps that agree are one. -/
theorem alike_get {H H' : Heap} (h : Agr (fun _ => True) H H') (i : Id) : H.get i = H'.get i := h.get (by cases i <;> trivial)

theorem alike_live {H H' : Heap} (h : Agr (fun _ => True) H H') (i : Id) : H.live i ↔ H'.live i := by
  cases i with
  | loc s => simp only [Heap.live, h.bx s trivial]
  | blk n => simp only [Heap.live, h.bl]

theorem alike_Live {H H' : Heap} (h : Agr (fun _ => True) H H') {b : Nat} : Live ι H b ↔ Live ι H' b := by
  unfold Live
  simp only [alike_live h]

theorem alike_inv {H H' : Heap} (h : Agr (fun _ => True) H H') (hi : Inv w F ι H) : Inv w F ι H' where
  len := by rw [← h.bl]; exact hi.len
  cells := fun i cs hc => hi.cells i cs (by rw [alike_get h]; exact hc)
  maps := fun n es hc => hi.maps n es (by rw [h.bl]; exact hc)
  inj := fun i j b h1 h2 => hi.inj i j b ((alike_live h i).2 h1) ((alike_live h j).2 h2)
  dis := fun b hb hl => hi.dis b hb ((alike_Live h).2 hl)
  lt := hi.lt
  lo := fun s hs => hi.lo s (by
    first
      | exact hs
      | (rw [h.bx s trivial]; exact hs))

/-! ### The edges -/

theorem mask_fold (S : Nat → Prop) (acc : List Nat) (hacc : ∀ i, S i → ∀ j, (acc.getD i 0).testBit j = true → S j) : ∀ (es : List Edge) (s : Nat), (∀ e ∈ es, Region.binds .any e = true → S e.on) → (∀ j, s.testBit j = true → S j) →
    ∀ j, (es.foldl (fun s e => if Region.binds .any e then s ||| 2 ^ e.on ||| acc.getD e.on 0 else s) s).testBit j = true → S j
  | [], s, _, hs, j, h => hs j h
  | e :: es, s, he, hs, j, h => by
    simp only [List.foldl_cons] at h
    refine mask_fold S acc hacc es _ (fun e' h' => he e' (List.mem_cons_of_mem _ h')) ?_ j h
    intro j hj
    split at hj
    · rename_i hb
      have hon := he e (by simp) hb
      simp only [Nat.testBit_or, Bool.or_eq_true, Nat.testBit_two_pow, decide_eq_true_eq] at hj
      rcases hj with (hj | hj) | hj
      · exact hs j hj
      · exact hj ▸ hon
      · exact hacc _ hon j hj
    · exact hs j hj

theorem masks_ok (S : Nat → Prop) : ∀ (rest : List Oper) (acc : List Nat), (∀ i, S i → ∀ j, (acc.getD i 0).testBit j = true → S j) →
    (∀ i o, rest[i]? = some o → S (acc.length + i) → ∀ e ∈ o.after.toList, Region.binds .any e = true → S e.on) → ∀ i, S i → ∀ j, ((masks acc rest).getD i 0).testBit j = true → S j
  | [], acc, hacc, _ => hacc
  | o :: rest, acc, hacc, hc => by
    refine masks_ok S rest (acc ++ [maskOf acc o]) ?_ ?_
    · intro i hi j hj
      rcases Nat.lt_trichotomy i acc.length with h | h | h
      · refine hacc i hi j ?_
        simpa [List.getD, List.getElem?_append_left h] using hj
      · subst h
        have hj' : (maskOf acc o).testBit j = true := by simpa [List.getD] using hj
        exact mask_fold S acc hacc _ 0 (hc 0 o rfl (by simpa using hi)) (fun j h => by simp at h) j hj'
      · have : (acc ++ [maskOf acc o]).getD i 0 = 0 := by simp [List.getD, List.getElem?_eq_none (show (acc ++ [maskOf acc o]).length ≤ i by simp; omega)]
        rw [this] at hj
        simp at hj
    · intro i o' ho hi
      refine hc (i + 1) o' (by simpa using ho) ?_
      simpa [Nat.add_assoc, Nat.add_comm 1 i] using hi

theorem filt {p q : Nat → Bool} {i : Nat} (hp : p i = true) (hq : ∀ x, q x = (p x && !(x == i))) : ∀ (l : List Nat), l.Nodup → i ∈ l → (l.filter q).length + 1 = (l.filter p).length
  | [], _, h => by simp at h
  | x :: l, hn, h => by
    have hn' := List.nodup_cons.1 hn
    by_cases hx : x = i
    · subst hx
      have : l.filter q = l.filter p := List.filter_congr fun y hy => by
        have : y ≠ x := fun e => hn'.1 (e ▸ hy)
        simp [hq, this]
      simp [hq, hp, this]
    · have hm : i ∈ l := by
        rcases List.mem_cons.1 h with h | h
        · exact (hx h.symm).elim
        · exact h
      have := filt hp hq l hn'.2 hm
      have hqx : q x = p x := by simp [hq, hx]
      cases hpx : p x with
      | true =>
        rw [List.filter_cons_of_pos (by rw [hqx]; exact hpx), List.filter_cons_of_pos hpx]
        simp only [List.length_cons]; omega
      | false =>
        rw [List.filter_cons_of_neg (by rw [hqx, hpx]; simp), List.filter_cons_of_neg (by rw [hpx]; simp)]
        exact this

theorem compStms_get {an : Ann} {n : Nat} {ops : Array Oper} : ∀ {rest : List Oper} {l : List CStm}, compStms P an n ops rest = some l → l.length = rest.length ∧ ∀ (k : Nat) (o : Oper), rest[k]? = some o → ∃ s, l[k]? = some s ∧ compStm P an n ops o = some s
  | [], l, h => by
    simp only [compStms, Option.some.injEq] at h; subst h
    simp
  | o :: rest, l, h => by
    simp only [compStms, Option.bind_eq_some_iff, Option.map_eq_some_iff] at h
    obtain ⟨s, hs, l', hl', rfl⟩ := h
    obtain ⟨h1, h2⟩ := compStms_get hl'
    refine ⟨by simp [h1], fun k o' hk => ?_⟩
    cases k with
    | zero => simp at hk; subst hk; exact ⟨s, rfl, hs⟩
    | succ k => simpa using h2 k o' (by simpa using hk)

theorem meet_spec {quiet : FuncId → Bool} {x y : CStm} (h : meet quiet x y = false) : ((footOf quiet x).clash (footOf quiet y) = false ∨ swaps x y = true) ∧ (∀ d, x.dst = some d → d ∉ reads y ∧ y.dst ≠ some d) ∧ (∀ d, y.dst = some d → d ∉ reads x) := by
  simp only [meet, Bool.or_eq_false_iff] at h
  obtain ⟨⟨h1, h2⟩, h3⟩ := h
  have h1' : (footOf quiet x).clash (footOf quiet y) = false ∨ swaps x y = true := by
    simp only [Bool.and_eq_false_iff, Bool.not_eq_false'] at h1
    exact h1
  refine ⟨h1', fun d hd => ?_, fun d hd => ?_⟩
  · rw [hd] at h2
    simp only [Bool.or_eq_false_iff] at h2
    exact ⟨by simpa using h2.1, by simpa using h2.2⟩
  · rw [hd] at h3
    simpa using h3

/-- What a region whose order is drawn has come to, some of it carried out. -/
structure DI (n : Nat) (quiet : FuncId → Bool) (ops : Array Oper) (l : List CStm) (E : Nat → Env) (Hs : Nat → Heap) (S : Nat → Prop) (envS : Env) (HS : Heap) : Prop where
  closed : ∀ i o, ops[i]? = some o → S i → ∀ e ∈ o.after.toList, Region.binds .any e = true → S e.on
  env : ∀ t i, i ≤ l.length → (∀ (j : Nat) (s : CStm), l[j]? = some s → s.dst = some t → (S j ↔ j < i)) → Env.at envS t = Env.at (E i) t
  heap : ∀ r i, i ≤ l.length → (∀ (j : Nat) (s : CStm), l[j]? = some s → (footOf quiet s).wr r → (S j ↔ j < i)) → same r HS (Hs i)

theorem at_put (env : Env) (dst : Option Nat) (c : CV) (t : Nat) : Env.at (putD env dst c) t = if dst = some t then c else Env.at env t := by
  cases dst with
  | none => simp [putD]
  | some d =>
    simp only [putD, look_cons, Option.some.injEq]
    by_cases h : t = d
    · subst h; simp
    · have : ¬ d = t := fun e => h e.symm
      simp [h, this]

/-- Nothing is written between: the slot is as it was. -/
theorem between {call : Caller} {l : List CStm} {E : Nat → Env} {Hs : Nat → Heap} {C : Nat → CV} (ht : ∀ (k : Nat) (s : CStm), l[k]? = some s → Stepped call s (E k) (Hs k) (C k) (Hs (k + 1)) ∧ E (k + 1) = putD (E k) s.dst (C k)) {t m : Nat} :
    ∀ i, m ≤ i → i ≤ l.length → (∀ (j : Nat) (s : CStm), l[j]? = some s → m ≤ j → j < i → s.dst ≠ some t) → Env.at (E i) t = Env.at (E m) t
  | 0, h, _, _ => by
    obtain rfl : m = 0 := by omega
    rfl
  | i + 1, h, hl, hn => by
    by_cases hm : m = i + 1
    · subst hm; rfl
    · have hs : ∃ s, l[i]? = some s := ⟨l[i], List.getElem?_eq_getElem (by omega)⟩
      obtain ⟨s, hs⟩ := hs
      rw [(ht i s hs).2, at_put, if_neg (hn i s hs (by omega) (by omega))]
      exact between ht i (by omega) (by omega) fun j s hj h1 h2 => hn j s hj h1 (by omega)

theorem betweenH {call : Caller} {quiet : FuncId → Bool} (hq : QuietOk call quiet) {l : List CStm} {E : Nat → Env} {Hs : Nat → Heap} {C : Nat → CV} (ht : ∀ (k : Nat) (s : CStm), l[k]? = some s → Stepped call s (E k) (Hs k) (C k) (Hs (k + 1)) ∧ E (k + 1) = putD (E k) s.dst (C k)) {r : Rsc} {m : Nat} :
    ∀ i, m ≤ i → i ≤ l.length → (∀ (j : Nat) (s : CStm), l[j]? = some s → m ≤ j → j < i → ¬ (footOf quiet s).wr r) → same r (Hs i) (Hs m)
  | 0, h, _, _ => by
    obtain rfl : m = 0 := by omega
    exact same.refl r _
  | i + 1, h, hl, hn => by
    by_cases hm : m = i + 1
    · subst hm; exact same.refl r _
    · obtain ⟨s, hs⟩ : ∃ s, l[i]? = some s := ⟨l[i], List.getElem?_eq_getElem (by omega)⟩
      obtain ⟨_, _, _, _, h4⟩ := stepped_foot hq (ht i s hs).1 (e' := E i) (H' := Hs i) (fun _ _ => rfl) (fun r _ => same.refl r _)
      exact (h4 r (hn i s hs (by omega) (by omega))).trans (betweenH hq ht i (by omega) (by omega) fun j s hj h1 h2 => hn j s hj h1 (by omega))

theorem prefix_of {W S : Nat → Prop} (hc : ∀ j k, j < k → W j → W k → S k → S j) : ∀ n, ∃ m, m ≤ n ∧ ∀ j, j < n → W j → (S j ↔ j < m)
  | 0 => ⟨0, Nat.le_refl _, fun j h => by omega⟩
  | n + 1 => by
    obtain ⟨m, hm, h⟩ := prefix_of hc n
    by_cases hW : W n
    · by_cases hS : S n
      · refine ⟨n + 1, Nat.le_refl _, fun j hj hWj => ⟨fun _ => hj, fun _ => ?_⟩⟩
        rcases Nat.lt_or_ge j n with h1 | h1
        · exact hc j n h1 hWj hW hS
        · obtain rfl : j = n := by omega
          exact hS
      · refine ⟨m, by omega, fun j hj hWj => ?_⟩
        rcases Nat.lt_or_ge j n with h1 | h1
        · exact h j h1 hWj
        · obtain rfl : j = n := by omega
          exact ⟨fun h => (hS h).elim, fun h => by omega⟩
    · refine ⟨m, by omega, fun j hj hWj => ?_⟩
      rcases Nat.lt_or_ge j n with h1 | h1
      · exact h j h1 hWj
      · obtain rfl : j = n := by omega
        exact (hW hWj).elim

theorem grown_to {call : Caller} {quiet : FuncId → Bool} (hq : QuietOk call quiet) {l : List CStm} {E : Nat → Env} {Hs : Nat → Heap} {C : Nat → CV} (ht : ∀ (k : Nat) (s : CStm), l[k]? = some s → Stepped call s (E k) (Hs k) (C k) (Hs (k + 1)) ∧ E (k + 1) = putD (E k) s.dst (C k)) {m : Nat} :
    ∀ i, m ≤ i → i ≤ l.length → (∀ (j : Nat) (s : CStm), l[j]? = some s → m ≤ j → j < i → (footOf quiet s).wr .bl → grows s = true) → ∃ X, (Hs i).bl = (Hs m).bl ++ X
  | 0, h, _, _ => by
    obtain rfl : m = 0 := by omega
    exact ⟨[], by simp⟩
  | i + 1, h, hl, hn => by
    by_cases hm : m = i + 1
    · subst hm; exact ⟨[], by simp⟩
    · obtain ⟨s, hs⟩ : ∃ s, l[i]? = some s := ⟨l[i], List.getElem?_eq_getElem (by omega)⟩
      obtain ⟨X, hX⟩ := grown_to hq ht i (by omega) (by omega) fun j s hj h1 h2 hw => hn j s hj h1 (by omega) hw
      by_cases hw : (footOf quiet s).wr .bl
      · obtain ⟨Y, hY⟩ := grows_step (hn i s hs (by omega) (by omega) hw) (ht i s hs).1
        exact ⟨X ++ Y, by rw [hY, hX, List.append_assoc]⟩
      · obtain ⟨_, _, _, _, h4⟩ := stepped_foot hq (ht i s hs).1 (e' := E i) (H' := Hs i) (fun _ _ => rfl) (fun r _ => same.refl r _)
        have h5 : (Hs (i + 1)).bl = (Hs i).bl := h4 .bl hw
        exact ⟨X, by rw [h5, hX]⟩

theorem steady_rd {quiet : FuncId → Bool} {s : CStm} (h : steady s = true) : (footOf quiet s).rd .bl := by
  obtain ⟨dst, op, args, guard⟩ := s
  unfold steady at h
  split at h
  · rename_i h1 _; dsimp only at h1; subst h1; simp [Foot.rd, footOf]
  · rename_i h1 _; dsimp only at h1; subst h1; simp [Foot.rd, footOf]
  · rename_i h1 _; dsimp only at h1; subst h1; simp [Foot.rd, footOf]
  · cases h

theorem draw_ok {call : Caller} (hcall : CallerOk P call) {quiet : FuncId → Bool} (hq : QuietOk call quiet) {an : Ann} {n : Nat} {ops : Array Oper} {l l0 : List CStm} (hl0 : compStms P an n ops ops.toList = some l0) (hsh : l.length = l0.length ∧ ∀ (k : Nat) (s : CStm), l0[k]? = some s → ∃ s', l[k]? = some s' ∧ Sharp quiet s s') (hd : drawOk quiet ops l = true)
    {w0 : World} {F0 : Nat → Prop} {ι0 : IM} {H0 : Heap} {E : Nat → Env} {Hs : Nat → Heap} {C : Nat → CV} (ht : ∀ (k : Nat) (s : CStm), l[k]? = some s → Stepped call s (E k) (Hs k) (C k) (Hs (k + 1)) ∧ E (k + 1) = putD (E k) s.dst (C k))
    {Q : Exit → Act → World → Prop} (hQ : ∀ a' w' F' ι', St n w' F' ι' (Hs l.length) (E l.length) a' → Ext w0 F0 ι0 H0 w' F' ι' (Hs l.length) → MoV w0 w' F0 F' ι0 ι' → Q .normal a' w') :
    ∀ (fuel : Nat) (listed : Array Bool) (a : Act) (w : World) (F : Nat → Prop) (ι : IM) (envS : Env) (HS : Heap), listed.size = ops.size → ((List.range ops.size).filter fun i => !listed.getD i true).length = fuel →
      DI n quiet ops l E Hs (fun i => listed[i]? = some true) envS HS → St n w F ι HS envS a → Ext w0 F0 ι0 H0 w F ι HS → MoV w0 w F0 F ι0 ι → wpAny P .any ops Q fuel listed a w := by
  obtain ⟨hlen, hget⟩ := compStms_get hl0
  have hsz : l.length = ops.size := by rw [hsh.1]; simpa using hlen
  simp only [drawOk, Bool.and_eq_true] at hd
  obtain ⟨hearly, hmeets⟩ := hd
  have hearly' : ∀ i o, ops[i]? = some o → ∀ e ∈ o.after.toList, Region.binds .any e = true → e.on < i := by
    intro i o ho e he hb
    have h1 := List.all_eq_true.1 hearly (o, i) (by
      rw [List.mem_iff_getElem?]
      exact ⟨i, by simp [List.getElem?_zipIdx, ho]⟩)
    have h2 := List.all_eq_true.1 h1 e he
    simpa [hb] using h2
  have hmeet : ∀ i j x y, i < j → l[i]? = some x → l[j]? = some y → meet quiet x y = false ∨ ((masks [] ops.toList).getD j 0).testBit i = true := by
    intro i j x y hij hx hy
    have h1 := List.all_eq_true.1 hmeets (y, j) (by
      rw [List.mem_iff_getElem?]
      exact ⟨j, by simp [List.getElem?_zipIdx, hy]⟩)
    have h2 := List.all_eq_true.1 h1 (x, i) (by
      rw [List.mem_iff_getElem?]
      refine ⟨i, ?_⟩
      simp [List.getElem?_zipIdx, hij, hx])
    simpa using h2
  -- when all is listed
  have hfin : ∀ (listed : Array Bool) (a : Act) (w : World) (F : Nat → Prop) (ι : IM) (envS : Env) (HS : Heap), (∀ i, i < ops.size → listed[i]? = some true) → DI n quiet ops l E Hs (fun i => listed[i]? = some true) envS HS → St n w F ι HS envS a → Ext w0 F0 ι0 H0 w F ι HS → MoV w0 w F0 F ι0 ι → Q .normal a w := by
    intro listed a w F ι envS HS hall hdi hst hext hmo
    have hH : Agr (fun _ => True) HS (Hs l.length) := agr_all.2 fun r => hdi.heap r l.length (Nat.le_refl _) fun j s hj _ => by
      have := (List.getElem?_eq_some_iff.1 hj).1
      exact ⟨fun _ => this, fun _ => hall j (by omega)⟩
    have hE : ∀ t, Env.at envS t = Env.at (E l.length) t := fun t => hdi.env t l.length (Nat.le_refl _) fun j s hj _ => by
      have := (List.getElem?_eq_some_iff.1 hj).1
      exact ⟨fun _ => this, fun _ => hall j (by omega)⟩
    refine hQ a w F ι ⟨fun t => by rw [← hE t]; exact hst.e t, alike_inv hH hst.i, hst.d, hst.s⟩ ?_ hmo
    exact { hext with live := fun b hb => hext.live b ((alike_Live hH).2 hb) }
  -- what is ready
  have hready : ∀ (listed : Array Bool), listed.size = ops.size → Region.ready .any ops listed = [] → ∀ i, i < ops.size → listed[i]? = some true := by
    intro listed hs hr i
    induction i using Nat.strongRecOn with
    | _ i ih =>
      intro hi
      cases hli : listed.getD i true with
      | true =>
        simp only [Array.getD_eq_getD_getElem?] at hli
        have : i < listed.size := by omega
        rw [Array.getElem?_eq_getElem this] at hli ⊢
        simpa using hli
      | false =>
        have hmem : i ∈ Region.ready .any ops listed := by
          obtain ⟨o, ho⟩ : ∃ o, ops[i]? = some o := ⟨ops[i], Array.getElem?_eq_getElem hi⟩
          simp only [Region.ready, List.mem_filter, List.mem_range, hli, Bool.not_false, Bool.true_and, ho, Option.map_some, Option.getD_some]
          refine ⟨hi, ?_⟩
          rw [← Array.all_toList]
          refine List.all_eq_true.2 fun e he => ?_
          cases hb : Region.binds .any e with
          | false => simp
          | true =>
            have hlt := hearly' i o ho e he hb
            have := ih e.on hlt (by omega)
            simp [Array.getD_eq_getD_getElem?, this]
        rw [hr] at hmem
        simp at hmem
  intro fuel
  induction fuel with
  | zero =>
    intro listed a w F ι envS HS hs hcnt hdi hst hext hmo
    have hall : ∀ i, i < ops.size → listed[i]? = some true := by
      intro i hi
      have hemp := List.length_eq_zero_iff.1 hcnt
      cases hli : listed.getD i true with
      | true =>
        simp only [Array.getD_eq_getD_getElem?] at hli
        have : i < listed.size := by omega
        rw [Array.getElem?_eq_getElem this] at hli ⊢
        simpa using hli
      | false =>
        have : i ∈ ((List.range ops.size).filter fun i => !listed.getD i true) := by simp only [List.mem_filter, List.mem_range, hli, Bool.not_false, and_true]; exact hi
        rw [hemp] at this
        simp at this
    refine ⟨?_, hfin listed a w F ι envS HS hall hdi hst hext hmo⟩
    unfold Region.ready
    rw [List.filter_eq_nil_iff]
    intro i hi
    have := hall i (by simpa using hi)
    simp [Array.getD_eq_getD_getElem?, this]
  | succ fuel ih =>
    intro listed a w F ι envS HS hs hcnt hdi hst hext hmo
    refine ⟨fun hr => hfin listed a w F ι envS HS (hready listed hs hr) hdi hst hext hmo, fun i hi => ?_⟩
    simp only [Region.ready, List.mem_filter, List.mem_range, Bool.and_eq_true, Bool.not_eq_true'] at hi
    obtain ⟨hin, hli, hafter⟩ := hi
    obtain ⟨o, ho⟩ : ∃ o, ops[i]? = some o := ⟨ops[i], Array.getElem?_eq_getElem hin⟩
    simp only [ho, Option.map_some, Option.getD_some] at hafter
    rw [← Array.all_toList] at hafter
    have hafter' : ∀ e ∈ o.after.toList, Region.binds .any e = true → listed[e.on]? = some true := by
      intro e he hb
      have := List.all_eq_true.1 hafter e he
      simp only [hb, Bool.not_true, Bool.false_or, Array.getD_eq_getD_getElem?] at this
      cases hx : listed[e.on]? with
      | none => simp [hx] at this
      | some b => simp [hx] at this; rw [this]
    have hnot : ¬ listed[i]? = some true := by
      intro h
      simp [Array.getD_eq_getD_getElem?, h] at hli
    -- who must stand ahead does
    let S : Nat → Prop := fun j => listed[j]? = some true
    have hS' : ∀ j, (listed.setIfInBounds i true)[j]? = some true ↔ (j = i ∨ S j) := by
      intro j
      rw [Array.getElem?_setIfInBounds]
      by_cases hj : i = j
      · subst hj; simp; omega
      · rw [if_neg hj]
        constructor
        · exact fun h => .inr h
        · rintro (h | h)
          · exact (hj h.symm).elim
          · exact h
    have hmask : ∀ j, ((masks [] ops.toList).getD i 0).testBit j = true → S j := by
      have := masks_ok (fun j => j = i ∨ S j) ops.toList [] (by simp [List.getD]) (by
        intro k o' ho' hk e he hb
        have ho'' : ops[k]? = some o' := by simpa using ho'
        simp only [List.length_nil, Nat.zero_add] at hk
        rcases hk with rfl | hk
        · rw [ho] at ho''; cases ho''
          exact .inr (hafter' e he hb)
        · exact .inr (hdi.closed k o' ho'' hk e he hb)) i (.inl rfl)
      intro j hj
      rcases this j hj with rfl | h
      · exfalso
        -- an operation does not wait for itself
        have hself : ∀ (rest : List Oper) (acc : List Nat), (∀ k, ∀ b, (acc.getD k 0).testBit b = true → b < k) → (∀ k o', rest[k]? = some o' → ∀ e ∈ o'.after.toList, Region.binds .any e = true → e.on < acc.length + k) →
            ∀ k, ∀ b, ((masks acc rest).getD k 0).testBit b = true → b < k := by
          intro rest
          induction rest with
          | nil => intro acc h _; exact h
          | cons o' rest ih =>
            intro acc hacc hrest
            refine ih (acc ++ [maskOf acc o']) ?_ ?_
            · intro k b hb
              rcases Nat.lt_trichotomy k acc.length with h | h | h
              · exact hacc k b (by simpa [List.getD, List.getElem?_append_left h] using hb)
              · subst h
                have hb' : (maskOf acc o').testBit b = true := by simpa [List.getD] using hb
                refine mask_fold (fun b => b < acc.length) acc ?_ _ 0 (fun e he hbi => by simpa using hrest 0 o' rfl e he hbi) (fun j h => by simp at h) b hb'
                intro i' hi' j' hj'
                have := hacc i' j' hj'
                omega
              · have : (acc ++ [maskOf acc o']).getD k 0 = 0 := by simp [List.getD, List.getElem?_eq_none (show (acc ++ [maskOf acc o']).length ≤ k by simp; omega)]
                rw [this] at hb
                simp at hb
            · intro k o'' ho'' e he hbi
              have := hrest (k + 1) o'' (by simpa using ho'') e he hbi
              simp only [List.length_append, List.length_cons, List.length_nil]
              omega
        have := hself ops.toList [] (by simp [List.getD]) (fun k o' ho' e he hb => by
          have := hearly' k o' (by simpa using ho') e he hb
          simpa using this) j j hj
        omega
      · exact h
    have hmaskS : ∀ k, S k → ∀ j, ((masks [] ops.toList).getD k 0).testBit j = true → S j := masks_ok S ops.toList [] (by simp [List.getD]) (by
      intro k o' ho' hk e he hb
      exact hdi.closed k o' (by simpa using ho') (by simpa using hk) e he hb)
    obtain ⟨s0, hls0, hcs⟩ := hget i o (by simpa using ho)
    obtain ⟨s, hls, hsd, hsharp⟩ := hsh.2 i s0 hls0
    obtain ⟨hstep, hnext⟩ := ht i s hls
    -- what it reads is what it read in the text's order
    have hreads : ∀ t ∈ reads s, Env.at (E i) t = Env.at envS t := by
      intro t htr
      refine (hdi.env t i (by omega) fun j x hj hx => ?_).symm
      constructor
      · intro hSj
        rcases Nat.lt_trichotomy j i with h | h | h
        · exact h
        · subst h; exact (hnot hSj).elim
        · rcases hmeet i j s x h hls hj with hm | hm
          · exact ((meet_spec hm).2.2 t hx htr).elim
          · exact (hnot (hmaskS j hSj i hm)).elim
      · intro hji
        rcases hmeet j i x s hji hj hls with hm | hm
        · exact (((meet_spec hm).2.1 t hx).1 htr).elim
        · exact hmask j hm
    have hstep2 : ∃ H1', Stepped call s envS HS (C i) H1' ∧ (∀ x, (footOf quiet s).wr x → same x H1' (Hs (i + 1))) ∧ (∀ x, ¬ (footOf quiet s).wr x → same x H1' HS) := by
      cases hsteady : steady s with
      | false =>
        have hheap : ∀ r, (footOf quiet s).rd r → same r (Hs i) HS := by
          intro r hp
          have no : ∀ x, (footOf quiet x).wr r → (swaps s x = true ∨ swaps x s = true) → False := by
            intro x hx ha
            have hxs : steady x = false := by
              cases hxs : steady x with
              | false => rfl
              | true => exact (steady_nowr hxs r hx).elim
            rcases ha with ha | ha <;> simp [swaps, hsteady, hxs] at ha
          refine (hdi.heap r i (by omega) fun j x hj hx => ?_).symm
          constructor
          · intro hSj
            rcases Nat.lt_trichotomy j i with h | h | h
            · exact h
            · subst h; exact (hnot hSj).elim
            · rcases hmeet i j s x h hls hj with hm | hm
              · rcases (meet_spec hm).1 with hc | hc
                · exact ((clash_false hc r).2 hx hp).elim
                · exact (no x hx (.inl hc)).elim
              · exact (hnot (hmaskS j hSj i hm)).elim
          · intro hji
            rcases hmeet j i x s hji hj hls with hm | hm
            · rcases (meet_spec hm).1 with hc | hc
              · exact (((clash_false hc r).1 hx).1 hp).elim
              · exact (no x hx (.inr hc)).elim
            · exact hmask j hm
        obtain ⟨H1', g1, g2, g3, _⟩ := stepped_foot hq hstep hreads hheap
        exact ⟨H1', g1, g2, g3⟩
      | true =>
        -- who has grown the blocks, and who hasn't
        obtain ⟨m, hml, hm⟩ := prefix_of (W := fun j => ∃ x, l[j]? = some x ∧ (footOf quiet x).wr .bl) (S := S) (fun j k hjk hWj hWk hSk => by
          obtain ⟨x, hx, hxw⟩ := hWj
          obtain ⟨y, hy, hyw⟩ := hWk
          rcases hmeet j k x y hjk hx hy with h | h
          · rcases (meet_spec h).1 with hc | hc
            · exact (((clash_false hc .bl).1 hxw).2 hyw).elim
            · exfalso
              have h1 : steady x = false := by
                cases h : steady x with
                | false => rfl
                | true => exact (steady_nowr h .bl hxw).elim
              have h2 : steady y = false := by
                cases h : steady y with
                | false => rfl
                | true => exact (steady_nowr h .bl hyw).elim
              simp [swaps, h1, h2] at hc
          · exact hmaskS k hSk j h) l.length
        have hbl : HS.bl = (Hs m).bl := hdi.heap .bl m hml fun j x hj hx => hm j (List.getElem?_eq_some_iff.1 hj).1 ⟨x, hj, hx⟩
        have grown : ∀ j x, l[j]? = some x → (footOf quiet x).wr .bl → (i ≤ j ∧ S j ∨ j < i ∧ ¬ S j) → grows x = true := by
          intro j x hj hx hcase
          have fin : (swaps s x = true ∨ swaps x s = true) → grows x = true := by
            intro ha
            have hxs : steady x = false := by
              cases h : steady x with
              | false => rfl
              | true => exact (steady_nowr h .bl hx).elim
            rcases ha with ha | ha
            · simpa [swaps, hsteady, hxs] using ha
            · simpa [swaps, hsteady, hxs] using ha
          have hrd : (footOf quiet s).rd .bl := steady_rd hsteady
          rcases hcase with ⟨hij, hSj⟩ | ⟨hji, hSj⟩
          · have hne : i ≠ j := fun e => hnot (e ▸ hSj)
            rcases hmeet i j s x (by omega) hls hj with h | h
            · rcases (meet_spec h).1 with hc | hc
              · exact ((clash_false hc .bl).2 hx hrd).elim
              · exact fin (.inl hc)
            · exact (hnot (hmaskS j hSj i h)).elim
          · rcases hmeet j i x s hji hj hls with h | h
            · rcases (meet_spec h).1 with hc | hc
              · exact (((clash_false hc .bl).1 hx).1 hrd).elim
              · exact fin (.inr hc)
            · exact (hSj (hmask j h)).elim
        have hlive : ∀ t k, idOf (Env.at envS t) = some k → k < HS.bl.length := by
          intro t k hk
          have hv := hst.e t
          rw [← hst.i.len]
          cases hx : Env.at envS t with
          | op id off =>
            rw [hx] at hk hv
            cases id with
            | loc s => simp [idOf] at hk
            | blk n =>
              simp only [idOf, Option.some.injEq] at hk
              subst hk
              simp only [VR, IM.get] at hv
              obtain ⟨b, hb, _⟩ := hv
              exact (List.getElem?_eq_some_iff.1 hb).1
          | om n =>
            rw [hx] at hk hv
            simp only [idOf, Option.some.injEq] at hk
            subst hk
            simp only [VR] at hv
            obtain ⟨b, hb, _⟩ := hv
            exact (List.getElem?_eq_some_iff.1 hb).1
          | _ => rw [hx] at hk; simp [idOf] at hk
        obtain ⟨g1, g2⟩ := steady_step hsteady hstep hreads (H' := HS) (fun t k b hk hb => by
          rcases Nat.lt_or_ge m i with hmi | hmi
          · obtain ⟨X, hX⟩ := grown_to hq ht (m := m) i (by omega) (by omega) fun j x hj h1 h2 hx => grown j x hj hx (.inr ⟨h2, fun hS => by
              have := (hm j (List.getElem?_eq_some_iff.1 hj).1 ⟨x, hj, hx⟩).1 hS
              omega⟩)
            rw [hX, ← hbl, List.getElem?_append_left (hlive t k hk)] at hb
            exact hb
          · obtain ⟨X, hX⟩ := grown_to hq ht (m := i) m hmi hml fun j x hj h1 h2 hx => grown j x hj hx (.inl ⟨h1, (hm j (List.getElem?_eq_some_iff.1 hj).1 ⟨x, hj, hx⟩).2 h2⟩)
            rw [hbl, hX, List.getElem?_append_left (List.getElem?_eq_some_iff.1 hb).1]
            exact hb)
        exact ⟨HS, g1, fun x hx => (steady_nowr hsteady x hx).elim, fun x _ => same.refl x _⟩
    obtain ⟨H1', hstep', hwr, hkeep⟩ := hstep2
    have hdst : s.dst = o.dst ∧ o.dst.all (· < n) = true := by
      rw [hsd]
      unfold compStm at hcs
      split at hcs <;> (try cases hcs)
      rename_i hdst
      split at hcs <;> (try cases hcs)
      exact ⟨rfl, hdst⟩
    refine (wpOp_ok hcall ho hcs hst.e hst.i (hsharp _ hq _ _ _ _ hstep') (fun v' w' F' ι' g1 g2 g3 g4 => ?_)).1
    refine ih (listed.setIfInBounds i true) (a.put o.dst v') w' F' ι' (putD envS s.dst (C i)) _ (by simpa using hs) ?_ ?_ ?_ (hext.trans g3) ⟨⟨fun b hb => g4.f b (hmo.f b hb), fun b hb => (g4.h b (hmo.f b hb)).trans (hmo.h b hb)⟩, fun i b hb => g4.i i b (hmo.i i b hb), fun b n hb => g4.c b n (hmo.c b n hb)⟩
    · have := filt (p := fun j => !listed.getD j true) (q := fun j => !(listed.setIfInBounds i true).getD j true) (i := i) (by simp [hli]) (by
        intro x
        simp only [Array.getD_eq_getD_getElem?, Array.getElem?_setIfInBounds]
        by_cases hx : i = x
        · subst hx
          rw [if_pos rfl, if_pos (by omega)]
          simp
        · have hx' : ¬ x = i := fun e => hx e.symm
          simp [hx, hx']) (List.range ops.size) List.nodup_range (by simpa using hin)
      omega
    · refine ⟨?_, ?_, ?_⟩
      · intro k o' ho' hk e he hb
        rcases (hS' k).1 hk with rfl | hk
        · rw [ho] at ho'; cases ho'
          exact (hS' _).2 (.inr (hafter' e he hb))
        · exact (hS' _).2 (.inr (hdi.closed k o' ho' hk e he hb))
      · intro t k hk hiff
        rw [at_put]
        split
        · rename_i hst'
          have hik : i < k := (hiff i s hls hst').1 ((hS' i).2 (.inl rfl))
          have hother : ∀ j x, l[j]? = some x → x.dst = some t → i < j → ¬ S j := by
            intro j x hj hx hij hSj
            rcases hmeet i j s x hij hls hj with hm | hm
            · exact ((meet_spec hm).2.1 t hst').2 hx
            · exact hnot (hmaskS j hSj i hm)
          have := between ht (t := t) (m := i + 1) k (by omega) hk fun j x hj h1 h2 hx => by
            have := (hiff j x hj hx).2 h2
            rcases (hS' j).1 this with h | h
            · omega
            · exact hother j x hj hx (by omega) h
          rw [this, hnext, at_put, if_pos hst']
        · rename_i hst'
          refine hdi.env t k hk fun j x hj hx => ?_
          rw [← hiff j x hj hx, hS' j]
          constructor
          · exact fun h => .inr h
          · rintro (rfl | h)
            · rw [hls] at hj; cases hj
              exact (hst' hx).elim
            · exact h
      · intro r k hk hiff
        by_cases hturn : (footOf quiet s).wr r
        · have hik : i < k := (hiff i s hls hturn).1 ((hS' i).2 (.inl rfl))
          refine (hwr r hturn).trans (betweenH hq ht (r := r) (m := i + 1) k (by omega) hk fun j x hj h1 h2 hx => ?_).symm
          have := (hiff j x hj hx).2 h2
          rcases (hS' j).1 this with h | h
          · omega
          · rcases hmeet i j s x (by omega) hls hj with hm | hm
            · rcases (meet_spec hm).1 with hc | hc
              · exact ((clash_false hc r).1 hturn).2 hx
              · have h1 : steady s = false := by
                  cases h : steady s with
                  | false => rfl
                  | true => exact (steady_nowr h r hturn).elim
                have h2 : steady x = false := by
                  cases h : steady x with
                  | false => rfl
                  | true => exact (steady_nowr h r hx).elim
                simp [swaps, h1, h2] at hc
            · exact hnot (hmaskS j h i hm)
        · refine (hkeep r hturn).trans (hdi.heap r k hk fun j x hj hx => ?_)
          rw [← hiff j x hj hx, hS' j]
          constructor
          · exact fun h => .inr h
          · rintro (rfl | h)
            · rw [hls] at hj; cases hj
              exact (hturn hx).elim
            · exact h
    · rw [hdst.1]
      exact hst.put hdst.2 g1 g2 g4

/-- A region, its order drawn or not. -/
theorem region_ok {call : Caller} (hcall : CallerOk P call) {quiet : FuncId → Bool} (hq : QuietOk call quiet) (hmix : P.follows .mixedOrders = true) {an : Ann} {n id : Nat} {ops : Array Oper} {draw : Bool} {l l0 : List CStm} (hl : compStms P an n ops ops.toList = some l0)
    (hsh : l.length = l0.length ∧ ∀ (k : Nat) (s : CStm), l0[k]? = some s → ∃ s', l[k]? = some s' ∧ Sharp quiet s s') (hd : (draw = false ∧ l = l0) ∨ (draw = true ∧ drawOk quiet ops l = true)) {env' : Env} {H' : Heap} (hr : runOps call l env H = some (env', H')) (hst : St n w F ι H env a) {Q : Exit → Act → World → Prop}
    (hQ : ∀ a' w' F' ι', St n w' F' ι' H' env' a' → Ext w F ι H w' F' ι' H' → MoV w w' F F' ι ι' → Q .normal a' w') : (Code.region id ops draw).wp P Q a w := by
  cases draw with
  | false =>
    refine wp_region ?_
    rw [List.range_eq_range', show ops.size = ops.toList.length by simp]
    rcases hd with ⟨_, rfl⟩ | ⟨hd, _⟩
    · exact ops_ok hcall ops.toList l 0 w F ι H env a rfl hl hr hst hQ
    · cases hd
  | true =>
    obtain ⟨E, Hs, C, e1, e2, e3, e4, e5⟩ := trace hr
    subst e1 e2 e3 e4
    have hw : ∀ b : Nat, ({ w with drawn := w.drawn + 1 } : World).heap[b]? = w.heap[b]? := fun _ => rfl
    have hm : MoV w { w with drawn := w.drawn + 1 } F F ι ι := ⟨⟨fun _ h => h, fun _ _ => rfl⟩, fun _ _ h => h, fun _ _ h => h⟩
    have hst' : St n { w with drawn := w.drawn + 1 } F ι (Hs 0) (E 0) a := ⟨hst.e.mono hm, hst.i.build hm hst.i.len (fun i cs h => .inl ⟨h, fun _ _ => rfl⟩) (fun n es h => .inl ⟨h, fun _ _ => rfl⟩) hst.i.inj hst.i.dis hst.i.lt hst.i.lo, hst.d, hst.s⟩
    have hx : Ext w F ι (Hs 0) { w with drawn := w.drawn + 1 } F ι (Hs 0) := ⟨rfl, rfl, rfl, fun _ _ h => h, fun _ h => h, fun _ h => .inl h, Nat.le_refl _, fun _ _ h => h, fun _ _ _ => rfl, fun _ h => .inl h⟩
    refine wp_region_any hmix (draw_ok hcall hq hl hsh (by simpa using hd) e5 hQ ops.size _ a _ F ι (E 0) (Hs 0) (by simp) ?_ ?_ hst' hx hm)
    · have : (List.range ops.size).filter (fun i => !(Array.replicate ops.size false).getD i true) = List.range ops.size := by
        rw [List.filter_eq_self]
        intro i hi
        have : i < ops.size := by simpa using hi
        simp [Array.getD_eq_getD_getElem?, this]
      rw [this]; simp
    · have hno : ∀ i : Nat, ¬ (Array.replicate ops.size false)[i]? = some true := by
        intro i h
        rw [Array.getElem?_replicate] at h
        split at h <;> cases h
      refine ⟨fun i o _ h => (hno i h).elim, fun t i hi hiff => ?_, fun r i hi hiff => ?_⟩
      · exact (between e5 (t := t) (m := 0) i (by omega) hi fun j s hj _ h2 hs => hno j ((hiff j s hj hs).2 h2)).symm
      · exact (betweenH hq e5 (r := r) (m := 0) i (by omega) hi fun j s hj _ h2 hs => hno j ((hiff j s hj hs).2 h2)).symm

end
end Go.Zc
end
