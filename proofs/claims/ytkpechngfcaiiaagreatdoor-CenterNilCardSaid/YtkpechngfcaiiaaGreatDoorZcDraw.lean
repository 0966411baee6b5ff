/- Statements in whatever order their edges let. No condition. -/
import Derived.Test.YtkpechngfcaiiaaGreatDoorZcHeap5
set_option linter.all false
section
namespace Go.Zc
variable [Globs]

section
variable {P : Program} {w : World} {F : Nat → Prop} {ι : IM} {H : Heap} {env : Env} {a : Act}


theorem trace {call : Caller} : ∀ {l : List CStm} {env env' : Env} {H H' : Heap}, runOps call l env H = some (env', H') →
    ∃ (E : Nat → Env) (Hs : Nat → Heap) (C : Nat → CV), E 0 = env ∧ Hs 0 = H ∧ E l.length = env' ∧ Hs l.length = H' ∧ ∀ (k : Nat) (s : CStm), l[k]? = some s → Stepped call s (E k) (Hs k) (C k) (Hs (k + 1)) ∧ E (k + 1) = putD (E k) s.dst (C k)
  | [], env, env', H, H', h => by
    simp only [runOps, Option.some.injEq, Prod.mk.injEq] at h
    obtain ⟨rfl, rfl⟩ := h
    exact ⟨fun _ => env, fun _ => H, fun _ => .und, rfl, rfl, rfl, rfl, by simp⟩
  | s :: l, env, env', H, H', h => by
    obtain ⟨v, H1, h1, h2⟩ := runOps_cons h
    obtain ⟨E, Hs, C, e1, e2, e3, e4, e5⟩ := trace h2
    refine ⟨fun k => match k with | 0 => env | k + 1 => E k, fun k => match k with | 0 => H | k + 1 => Hs k, fun k => match k with | 0 => v | k + 1 => C k, rfl, rfl, e3, e4, ?_⟩
    intro k t hk
    cases k with
    | zero =>
      simp only [List.getElem?_cons_zero, Option.some.injEq] at hk
      subst hk
      exact ⟨by simpa [e2] using h1, e1⟩
    | succ k => exact e5 k t (by simpa using hk)

theorem evs_congr {e e' : Env} : ∀ {l : List Opd}, (∀ t ∈ temps l, Env.at e t = Env.at e' t) → evs e l = evs e' l
  | [], _ => rfl
  | .t n :: r, h => by
    simp only [temps, List.mem_cons, forall_eq_or_imp] at h
    simp only [evs, ev, h.1, evs_congr h.2]
  | .c v :: r, h => by
    simp only [temps] at h
    simp only [evs, ev, evs_congr h]

theorem wr_rd {quiet : FuncId → Bool} {s : CStm} {r : Rsc} (h : (footOf quiet s).wr r) : (footOf quiet s).rd r := by
  obtain ⟨dst, op, args, guard⟩ := s
  cases op with
  | p o => simp [Foot.wr, footOf] at h
  | h o => cases o <;> simp_all [Foot.wr, Foot.rd, footOf]
  | hb o => cases o <;> simp_all [Foot.wr, Foot.rd, footOf]
  | hl d o => cases o <;> simp_all [Foot.wr, Foot.rd, footOf]
  | callb =>
    revert h
    unfold footOf
    dsimp only
    split
    · split <;> simp [Foot.wr, Foot.rd]
    · simp [Foot.wr, Foot.rd]
  | callp => simpa [Foot.wr, Foot.rd, footOf] using h
  | callk n => simpa [Foot.wr, Foot.rd, footOf] using h
  | callv =>
    revert h
    unfold footOf
    dsimp only
    split
    · split <;> simp [Foot.wr, Foot.rd]
    · simp [Foot.wr, Foot.rd]
  | call =>
    unfold footOf at h ⊢
    dsimp only at h ⊢
    split
    · split
      · exact .inl rfl
      · exact .inl rfl
    · exact .inl rfl

theorem stepped_foot {call : Caller} {quiet : FuncId → Bool} (hq : QuietOk call quiet) {s : CStm} {e e' : Env} {H H1 H' : Heap} {v : CV} (h : Stepped call s e H v H1) (he : ∀ t ∈ reads s, Env.at e t = Env.at e' t) (hh : ∀ r, (footOf quiet s).rd r → same r H H') :
    ∃ H1', Stepped call s e' H' v H1' ∧ (∀ x, (footOf quiet s).wr x → same x H1' H1) ∧ (∀ x, ¬ (footOf quiet s).wr x → same x H1' H') ∧ (∀ x, ¬ (footOf quiet s).wr x → same x H1 H) := by
  unfold Stepped at h ⊢
  have hr : evs e s.args = evs e' s.args := evs_congr fun t ht => he t (by unfold reads; split <;> simp [ht])
  cases hg : s.guard with
  | none =>
    simp only [hg] at h ⊢
    rw [← hr]
    exact run_foot hq hh v H1 h
  | some gw =>
    obtain ⟨g, want⟩ := gw
    simp only [hg] at h ⊢
    have hgt := he g (by simp [reads, hg])
    obtain ⟨b, hb, h⟩ := h
    rw [hgt] at hb
    by_cases hbw : b = some want
    · rw [if_pos hbw] at h
      obtain ⟨H1', h1, h2⟩ := run_foot hq hh v H1 h
      exact ⟨H1', ⟨b, hb, by rw [if_pos hbw, ← hr]; exact h1⟩, h2⟩
    · rw [if_neg hbw] at h
      obtain ⟨rfl, rfl⟩ := h
      exact ⟨H', ⟨b, hb, by rw [if_neg hbw]; exact ⟨rfl, rfl⟩⟩, fun x hx => (hh x (wr_rd hx)).symm, fun x _ => same.refl x _, fun x _ => same.refl x _⟩

/-- A statement with where it works says what the plain one says. -/
def Sharp (quiet : FuncId → Bool) (s s' : CStm) : Prop := s'.dst = s.dst ∧ ∀ (call : Caller), QuietOk call quiet → ∀ (e : Env) (H : Heap) (v : CV) (H1 : Heap), Stepped call s' e H v H1 → Stepped call s e H v H1

theorem Sharp.refl (quiet : FuncId → Bool) (s : CStm) : Sharp quiet s s := ⟨rfl, fun _ _ _ _ _ _ h => h⟩
theorem Sharp.trans {quiet : FuncId → Bool} {a b c : CStm} (h : Sharp quiet a b) (h' : Sharp quiet b c) : Sharp quiet a c := ⟨h'.1.trans h.1, fun call hq e H v H1 g => h.2 call hq e H v H1 (h'.2 call hq e H v H1 g)⟩

theorem sharp_of {quiet : FuncId → Bool} {s : CStm} {o o' : COp} (ho : s.op = o) (h : ∀ (call : Caller), QuietOk call quiet → ∀ (vs : List CV) (H : Heap) (v : CV) (H1 : Heap), runOp call o' vs H = some (v, H1) → runOp call o vs H = some (v, H1)) : Sharp quiet s { s with op := o' } := by
  refine ⟨rfl, fun call hq e H v H1 hs => ?_⟩
  unfold Stepped at hs ⊢
  simp only [ho]
  cases hg : s.guard with
  | none => simp only [hg] at hs ⊢; exact h _ hq _ _ _ _ hs
  | some gw =>
    simp only [hg] at hs ⊢
    obtain ⟨b, hb, hs⟩ := hs
    refine ⟨b, hb, ?_⟩
    split
    · rename_i hc; rw [if_pos hc] at hs; exact h _ hq _ _ _ _ hs
    · rename_i hc; rw [if_neg hc] at hs; exact hs

theorem run_hb {call : Caller} {o : HOp} {vs : List CV} {H : Heap} {v : CV} {H1 : Heap} (h : runOp call (.hb o) vs H = some (v, H1)) : runOp call (.h o) vs H = some (v, H1) := by
  simp only [runOp] at h ⊢
  exact (ite_none h).2

theorem run_hl {call : Caller} {d : Nat} {o : HOp} {vs : List CV} {H : Heap} {v : CV} {H1 : Heap} (h : runOp call (.hl d o) vs H = some (v, H1)) : runOp call (.h o) vs H = some (v, H1) := by
  simp only [runOp] at h ⊢
  split at h <;> (try cases h)
  split at h <;> (try cases h)
  exact h

theorem focus_sharp (quiet : FuncId → Bool) (boxes : List Nat) (l : List CStm) (s : CStm) : Sharp quiet s (focus boxes l s) := by
  unfold focus
  split
  · rename_i h _
    split
    · exact sharp_of h fun _ _ _ _ _ _ => run_hl
    · exact sharp_of h fun _ _ _ _ _ _ => run_hb
  · rename_i h _
    split
    · exact sharp_of h fun _ _ _ _ _ _ => run_hl
    · exact sharp_of h fun _ _ _ _ _ _ => run_hb
  · exact Sharp.refl _ s
  · exact Sharp.refl _ s
  · exact Sharp.refl _ s
  · exact sharp_of (by assumption) fun _ _ _ _ _ _ => run_hb
  · refine sharp_of (by assumption) fun call hq vs H v H1 h => ?_
    cases vs with
    | nil => simp [runOp] at h
    | cons f as =>
      simp only [runOp, Option.map_eq_some_iff, Prod.mk.injEq] at h ⊢
      obtain ⟨⟨u, H2⟩, h2, rfl, rfl⟩ := h
      exact hq.lone _ _ _ _ _ h2
  · exact Sharp.refl _ s

theorem focusC_sharp (quiet : FuncId → Bool) (b : Bool) (s : CStm) : Sharp quiet s (focusC quiet b s) := by
  unfold focusC
  split
  · rename_i k a c r ho ha
    split
    · rename_i hqk
      split
      · refine ⟨rfl, fun call hq e H v H1 hs => ?_⟩
        have key : runOp call .callv (evs e s.args) H = some (v, H1) → runOp call s.op (evs e s.args) H = some (v, H1) := by
          rw [ho, ha]
          simp only [evs, ev, runOp]
          intro h
          obtain ⟨hrf, h⟩ := ite_none h
          simp only [Option.map_eq_some_iff, Prod.mk.injEq] at h
          obtain ⟨⟨u, H2⟩, h2, rfl, rfl⟩ := h
          have := hq.free k a c (evs e r) ⟨[], H.bl⟩ u H2 hqk (by simpa using hrf) h2
          rw [this]
          rfl
        unfold Stepped at hs ⊢
        dsimp only at hs
        cases hg : s.guard with
        | none => simp only [hg] at hs ⊢; exact key hs
        | some gw =>
          simp only [hg] at hs ⊢
          obtain ⟨b, hb, hs⟩ := hs
          refine ⟨b, hb, ?_⟩
          split
          · rename_i hc; rw [if_pos hc] at hs; exact key hs
          · rename_i hc; rw [if_neg hc] at hs; exact hs
      · exact Sharp.refl _ s
    · refine sharp_of ho fun call hq vs H v H1 h => ?_
      cases vs with
      | nil => simp [runOp] at h
      | cons f as =>
        simp only [runOp, Option.map_eq_some_iff, Option.bind_eq_some_iff, Prod.mk.injEq] at h ⊢
        obtain ⟨⟨u, H2⟩, h2, h3⟩ := h
        split at h3 <;> cases h3
        exact ⟨(u, H2), h2, rfl, rfl⟩
  · exact Sharp.refl _ s

theorem evs_app (env : Env) : ∀ (a b : List Opd), evs env (a ++ b) = evs env a ++ evs env b
  | [], b => rfl
  | x :: a, b => by simp only [List.cons_append, evs, evs_app env a b]
theorem evs_len (env : Env) : ∀ (a : List Opd), (evs env a).length = a.length
  | [] => rfl
  | x :: a => by simp only [evs, List.length_cons, evs_len env a]

theorem focusK_key {call : Caller} {quiet : FuncId → Bool} (hq : QuietOk call quiet) {f : Opd} {r : List Opd} {ss : List Nat} {e : Env} {H : Heap} {v : CV} {H1 : Heap}
    (h : runOp call (.callk ss.length) (evs e (f :: (r ++ ss.map .t))) H = some (v, H1)) : runOp call .callb (evs e (f :: r)) H = some (v, H1) := by
  simp only [evs, runOp, evs_app, List.length_append, evs_len, List.length_map, Nat.add_sub_cancel] at h ⊢
  rw [show (evs e r ++ evs e (ss.map .t)).take r.length = evs e r by rw [← evs_len e r, List.take_left']; rfl] at h
  simp only [Option.bind_eq_some_iff, Option.map_eq_some_iff, Prod.mk.injEq] at h ⊢
  obtain ⟨⟨u, H2⟩, h2, h3⟩ := h
  split at h3 <;> cases h3
  exact ⟨(u, H2), h2, rfl, rfl⟩

theorem focusK_sharp (quiet : FuncId → Bool) (ss : List Nat) (s : CStm) : Sharp quiet s (focusK quiet ss s) := by
  have fin : ∀ (f : Opd) (r : List Opd), s.op = .callb → s.args = f :: r → Sharp quiet s { s with op := .callk ss.length, args := f :: (r ++ ss.map .t) } := by
    intro f r ho ha
    refine ⟨rfl, fun call hq e H v H1 hs => ?_⟩
    unfold Stepped at hs ⊢
    dsimp only at hs
    rw [ho, ha]
    cases hg : s.guard with
    | none => simp only [hg] at hs ⊢; exact focusK_key hq hs
    | some gw =>
      simp only [hg] at hs ⊢
      obtain ⟨b, hb, hs⟩ := hs
      refine ⟨b, hb, ?_⟩
      split
      · rename_i hc; rw [if_pos hc] at hs; exact focusK_key hq hs
      · rename_i hc; rw [if_neg hc] at hs; exact hs
  unfold focusK
  split
  · split
    · exact Sharp.refl _ s
    · exact fin _ _ (by assumption) (by assumption)
  · exact fin _ _ (by assumption) (by assumption)
  · exact Sharp.refl _ s

/-! ### What looks, and what but grows -/

theorem steady_nowr {quiet : FuncId → Bool} {s : CStm} (h : steady s = true) (r : Rsc) : ¬ (footOf quiet s).wr r := by
  obtain ⟨dst, op, args, guard⟩ := s
  unfold steady at h
  split at h
  · rename_i h1 _; dsimp only at h1; subst h1; simp [Foot.wr, footOf]
  · rename_i h1 _; dsimp only at h1; subst h1; simp [Foot.wr, footOf]
  · rename_i h1 _; dsimp only at h1; subst h1; simp [Foot.wr, footOf]
  · cases h

theorem alloc_grows {o : HOp} (ho : o = .boxh ∨ (∃ z, o = .newh z) ∨ o = .mkmap ∨ ∃ a b c d, o = .bslO a b c d) {vs : List CV} {H H1 : Heap} {v : CV} (h : heapOp o vs H = some (v, H1)) : ∃ X, H1.bl = H.bl ++ X := by
  rcases ho with rfl | ⟨z, rfl⟩ | rfl | ⟨a, b, c, d, rfl⟩
  · match vs, h with
    | [], h => simp [heapOp] at h
    | [x], h =>
      simp only [heapOp] at h
      split at h <;> cases h
      exact ⟨_, rfl⟩
    | _ :: _ :: _, h => simp [heapOp] at h
  · match vs, h with
    | [], h =>
      simp only [heapOp] at h
      split at h <;> cases h
      exact ⟨_, rfl⟩
    | _ :: _, h => simp [heapOp] at h
  · match vs, h with
    | [], h =>
      simp only [heapOp] at h
      cases h
      exact ⟨_, rfl⟩
    | _ :: _, h => simp [heapOp] at h
  · simp only [heapOp] at h
    split at h <;> (try cases h)
    simp only [Option.bind_eq_some_iff] at h
    obtain ⟨cs, _, h⟩ := h
    split at h <;> cases h
    exact ⟨_, rfl⟩

theorem grows_step {call : Caller} {s : CStm} (h : grows s = true) {e : Env} {H H1 : Heap} {v : CV} (hs : Stepped call s e H v H1) : ∃ X, H1.bl = H.bl ++ X := by
  have ho : s.op = .callp ∨ ∃ o, s.op = .hb o ∧ (o = .boxh ∨ (∃ z, o = .newh z) ∨ o = .mkmap ∨ ∃ a b c d, o = .bslO a b c d) := by
    unfold grows at h
    split at h
    · exact .inl (by assumption)
    · exact .inr ⟨_, by assumption, .inl rfl⟩
    · exact .inr ⟨_, by assumption, .inr (.inl ⟨_, rfl⟩)⟩
    · exact .inr ⟨_, by assumption, .inr (.inr (.inl rfl))⟩
    · exact .inr ⟨_, by assumption, .inr (.inr (.inr ⟨_, _, _, _, rfl⟩))⟩
    · cases h
  have key : runOp call s.op (evs e s.args) H = some (v, H1) → ∃ X, H1.bl = H.bl ++ X := by
    rcases ho with ho | ⟨o, ho, ho2⟩
    · rw [ho]
      intro h
      cases hv : evs e s.args with
      | nil => rw [hv] at h; simp [runOp] at h
      | cons f as =>
        rw [hv] at h
        simp only [runOp, Option.bind_eq_some_iff] at h
        obtain ⟨x, h2, h3⟩ := h
        split at h3 <;> cases h3
        rename_i hp
        exact isPre_ex hp
    · rw [ho]
      intro h
      simp only [runOp] at h
      exact alloc_grows ho2 (ite_none h).2
  unfold Stepped at hs
  split at hs
  · exact key hs
  · obtain ⟨c, _, hs⟩ := hs
    split at hs
    · exact key hs
    · exact ⟨[], by rw [hs.2]; simp⟩

theorem look_move {o : HOp} (ho : (∃ a n, o = .load a n) ∨ (∃ k z b, o = .look k z b) ∨ o = .lenM) {x : CV} {r : List CV} (hl : CV.locs (x :: r) = false) {H H' : Heap} {v : CV} {H1 : Heap} (h : heapOp o (x :: r) H = some (v, H1))
    (hk : ∀ k b, idOf x = some k → H.bl[k]? = some b → H'.bl[k]? = some b) : heapOp o (x :: r) H' = some (v, H') := by
  rcases ho with ⟨a, n, rfl⟩ | ⟨kk, z, b, rfl⟩ | rfl
  · cases r with
    | cons _ _ => simp [heapOp] at h
    | nil =>
      simp only [heapOp, Option.map_eq_some_iff, Prod.mk.injEq] at h ⊢
      obtain ⟨u, hu, rfl, _⟩ := h
      refine ⟨u, ?_, rfl, trivial⟩
      cases x with
      | op i off =>
        cases i with
        | loc s => simp [CV.locs, CV.locv, Id.loc?] at hl
        | blk k =>
          simp only [loadC, Heap.get] at hu ⊢
          cases hb : H.bl[k]? with
          | none => rw [hb] at hu; simp at hu
          | some b => rw [hb] at hu; rw [hk k b rfl hb]; exact hu
      | _ => exact hu
  · match r, h with
    | [], h => simp [heapOp] at h
    | [k], h =>
      simp only [heapOp, Option.map_eq_some_iff, Prod.mk.injEq] at h ⊢
      obtain ⟨u, hu, rfl, _⟩ := h
      refine ⟨u, ?_, rfl, trivial⟩
      cases x with
      | om m =>
        simp only [lookC] at hu ⊢
        cases hb : H.bl[m]? with
        | none => rw [hb] at hu; simp at hu
        | some b => rw [hb] at hu; rw [hk m b rfl hb]; exact hu
      | _ => exact hu
    | _ :: _ :: _, h => simp [heapOp] at h
  · cases r with
    | cons _ _ => simp [heapOp] at h
    | nil =>
      simp only [heapOp, Option.map_eq_some_iff, Prod.mk.injEq] at h ⊢
      obtain ⟨u, hu, rfl, _⟩ := h
      refine ⟨u, ?_, rfl, trivial⟩
      cases x with
      | om m =>
        simp only [lenMC] at hu ⊢
        cases hb : H.bl[m]? with
        | none => rw [hb] at hu; simp at hu
        | some b => rw [hb] at hu; rw [hk m b rfl hb]; exact hu
      | _ => exact hu

theorem steady_step {call : Caller} {s : CStm} (hst : steady s = true) {e e' : Env} {H H1 H' : Heap} {v : CV} (h : Stepped call s e H v H1) (he : ∀ t ∈ reads s, Env.at e t = Env.at e' t)
    (hk : ∀ t r k b, s.args = .t t :: r → idOf (Env.at e' t) = some k → H.bl[k]? = some b → H'.bl[k]? = some b) : Stepped call s e' H' v H' ∧ H1 = H := by
  have hr : evs e s.args = evs e' s.args := evs_congr fun t ht => he t (by unfold reads; split <;> simp [ht])
  have ho : ∃ o t r, s.op = .hb o ∧ s.args = .t t :: r ∧ ((∃ a n, o = .load a n) ∨ (∃ k z b, o = .look k z b) ∨ o = .lenM) := by
    unfold steady at hst
    split at hst
    · exact ⟨_, _, _, by assumption, by assumption, .inl ⟨_, _, rfl⟩⟩
    · exact ⟨_, _, _, by assumption, by assumption, .inr (.inl ⟨_, _, _, rfl⟩)⟩
    · exact ⟨_, _, _, by assumption, by assumption, .inr (.inr rfl)⟩
    · cases hst
  obtain ⟨o, t, r, h1, h2, h3⟩ := ho
  have key : runOp call s.op (evs e s.args) H = some (v, H1) → runOp call s.op (evs e' s.args) H' = some (v, H') ∧ H1 = H := by
    have hev : evs e' (.t t :: r) = Env.at e' t :: evs e' r := rfl
    rw [hr, h1, h2, hev]
    simp only [runOp]
    intro h
    obtain ⟨hlc, h⟩ := ite_none h
    refine ⟨?_, heapOp_looks h3 h⟩
    rw [if_neg hlc]
    exact look_move h3 (by simpa using hlc) h fun k b hi hb => hk t r k b h2 hi hb
  unfold Stepped at h ⊢
  cases hg : s.guard with
  | none => simp only [hg] at h ⊢; exact key h
  | some gw =>
    obtain ⟨g, want⟩ := gw
    simp only [hg] at h ⊢
    have hgt := he g (by simp [reads, hg])
    obtain ⟨b, hb, h⟩ := h
    rw [hgt] at hb
    by_cases hbw : b = some want
    · rw [if_pos hbw] at h
      obtain ⟨k1, k2⟩ := key h
      exact ⟨⟨b, hb, by rw [if_pos hbw]; exact k1⟩, k2⟩
    · rw [if_neg hbw] at h
      obtain ⟨rfl, rfl⟩ := h
      exact ⟨⟨b, hb, by rw [if_neg hbw]; exact ⟨rfl, trivial⟩⟩, rfl⟩

/-- Heaps that agree are one. -/
theorem alike_get {H H' : Heap} (h : Agr (fun _ => True) H H') (i : Id) : H.get i = H'.get i := h.get (by cases i <;> trivial)

theorem alike_live {H H' : Heap} (h : Agr (fun _ => True) H H') (i : Id) : H.live i ↔ H'.live i := by
  cases i with
  | loc s => simp only [Heap.live, h.bx s trivial]
  | blk n => simp only [Heap.live, h.bl]

theorem alike_Live {H H' : Heap} (h : Agr (fun _ => True) H H') {b : Nat} : Live ι H b ↔ Live ι H' b := by
  unfold Live
  simp only [alike_live h]

theorem alike_inv {H H' : Heap} (h : Agr (fun _ => True) H H') (hi : Inv w F ι H) : Inv w F ι H' where
  len := by rw [← h.bl]; exact hi.len
  cells := fun i cs hc => hi.cells i cs (by rw [alike_get h]; exact hc)
  maps := fun n es hc => hi.maps n es (by rw [h.bl]; exact hc)
  inj := fun i j b h1 h2 => hi.inj i j b ((alike_live h i).2 h1) ((alike_live h j).2 h2)
  dis := fun b hb hl => hi.dis b hb ((alike_Live h).2 hl)
  lt := hi.lt
  lo := fun s hs => hi.lo s (by
    first
      | exact hs
      | (rw [h.bx s trivial]; exact hs))
  gl := hi.gl

/-! ### The edges -/

theorem mask_fold (S : Nat → Prop) (acc : List Nat) (hacc : ∀ i, S i → ∀ j, (acc.getD i 0).testBit j = true → S j) : ∀ (es : List Edge) (s : Nat), (∀ e ∈ es, Region.binds .any e = true → S e.on) → (∀ j, s.testBit j = true → S j) →
    ∀ j, (es.foldl (fun s e => if Region.binds .any e then s ||| 2 ^ e.on ||| acc.getD e.on 0 else s) s).testBit j = true → S j
  | [], s, _, hs, j, h => hs j h
  | e :: es, s, he, hs, j, h => by
    simp only [List.foldl_cons] at h
    refine mask_fold S acc hacc es _ (fun e' h' => he e' (List.mem_cons_of_mem _ h')) ?_ j h
    intro j hj
    split at hj
    · rename_i hb
      have hon := he e (by simp) hb
      simp only [Nat.testBit_or, Bool.or_eq_true, Nat.testBit_two_pow, decide_eq_true_eq] at hj
      rcases hj with (hj | hj) | hj
      · exact hs j hj
      · exact hj ▸ hon
      · exact hacc _ hon j hj
    · exact hs j hj

theorem masks_ok (S : Nat → Prop) : ∀ (rest : List Oper) (acc : List Nat), (∀ i, S i → ∀ j, (acc.getD i 0).testBit j = true → S j) →
    (∀ i o, rest[i]? = some o → S (acc.length + i) → ∀ e ∈ o.after.toList, Region.binds .any e = true → S e.on) → ∀ i, S i → ∀ j, ((masks acc rest).getD i 0).testBit j = true → S j
  | [], acc, hacc, _ => hacc
  | o :: rest, acc, hacc, hc => by
    refine masks_ok S rest (acc ++ [maskOf acc o]) ?_ ?_
    · intro i hi j hj
      rcases Nat.lt_trichotomy i acc.length with h | h | h
      · refine hacc i hi j ?_
        simpa [List.getD, List.getElem?_append_left h] using hj
      · subst h
        have hj' : (maskOf acc o).testBit j = true := by simpa [List.getD] using hj
        exact mask_fold S acc hacc _ 0 (hc 0 o rfl (by simpa using hi)) (fun j h => by simp at h) j hj'
      · have : (acc ++ [maskOf acc o]).getD i 0 = 0 := by simp [List.getD, List.getElem?_eq_none (show (acc ++ [maskOf acc o]).length ≤ i by simp; omega)]
        rw [this] at hj
        simp at hj
    · intro i o' ho hi
      refine hc (i + 1) o' (by simpa using ho) ?_
      simpa [Nat.add_assoc, Nat.add_comm 1 i] using hi

theorem filt {p q : Nat → Bool} {i : Nat} (hp : p i = true) (hq : ∀ x, q x = (p x && !(x == i))) : ∀ (l : List Nat), l.Nodup → i ∈ l → (l.filter q).length + 1 = (l.filter p).length
  | [], _, h => by simp at h
  | x :: l, hn, h => by
    have hn' := List.nodup_cons.1 hn
    by_cases hx : x = i
    · subst hx
      have : l.filter q = l.filter p := List.filter_congr fun y hy => by
        have : y ≠ x := fun e => hn'.1 (e ▸ hy)
        simp [hq, this]
      simp [hq, hp, this]
    · have hm : i ∈ l := by
        rcases List.mem_cons.1 h with h | h
        · exact (hx h.symm).elim
        · exact h
      have := filt hp hq l hn'.2 hm
      have hqx : q x = p x := by simp [hq, hx]
      cases hpx : p x with
      | true =>
        rw [List.filter_cons_of_pos (by rw [hqx]; exact hpx), List.filter_cons_of_pos hpx]
        simp only [List.length_cons]; omega
      | false =>
        rw [List.filter_cons_of_neg (by rw [hqx, hpx]; simp), List.filter_cons_of_neg (by rw [hpx]; simp)]
        exact this

theorem compStms_get {an : Ann} {n : Nat} {ops : Array Oper} : ∀ {rest : List Oper} {l : List CStm}, compStms P an n ops rest = some l → l.length = rest.length ∧ ∀ (k : Nat) (o : Oper), rest[k]? = some o → ∃ s, l[k]? = some s ∧ compStm P an n ops o = some s
  | [], l, h => by
    simp only [compStms, Option.some.injEq] at h; subst h
    simp
  | o :: rest, l, h => by
    simp only [compStms, Option.bind_eq_some_iff, Option.map_eq_some_iff] at h
    obtain ⟨s, hs, l', hl', rfl⟩ := h
    obtain ⟨h1, h2⟩ := compStms_get hl'
    refine ⟨by simp [h1], fun k o' hk => ?_⟩
    cases k with
    | zero => simp at hk; subst hk; exact ⟨s, rfl, hs⟩
    | succ k => simpa using h2 k o' (by simpa using hk)

theorem meet_spec {quiet : FuncId → Bool} {x y : CStm} (h : meet quiet x y = false) : ((footOf quiet x).clash (footOf quiet y) = false ∨ swaps x y = true) ∧ (∀ d, x.dst = some d → d ∉ reads y ∧ y.dst ≠ some d) ∧ (∀ d, y.dst = some d → d ∉ reads x) := by
  simp only [meet, Bool.or_eq_false_iff] at h
  obtain ⟨⟨h1, h2⟩, h3⟩ := h
  have h1' : (footOf quiet x).clash (footOf quiet y) = false ∨ swaps x y = true := by
    simp only [Bool.and_eq_false_iff, Bool.not_eq_false'] at h1
    exact h1
  refine ⟨h1', fun d hd => ?_, fun d hd => ?_⟩
  · rw [hd] at h2
    simp only [Bool.or_eq_false_iff] at h2
    exact ⟨by simpa using h2.1, by simpa using h2.2⟩
  · rw [hd] at h3
    simpa using h3

/-- What a region whose order is drawn has come to, some of it carried out. -/
structure DI (quiet : FuncId → Bool) (l : List CStm) (E : Nat → Env) (Hs : Nat → Heap) (S : Nat → Prop) (envS : Env) (HS : Heap) : Prop where
  env : ∀ t i, i ≤ l.length → (∀ (j : Nat) (s : CStm), l[j]? = some s → s.dst = some t → (S j ↔ j < i)) → Env.at envS t = Env.at (E i) t
  heap : ∀ r i, i ≤ l.length → (∀ (j : Nat) (s : CStm), l[j]? = some s → (footOf quiet s).wr r → (S j ↔ j < i)) → same r HS (Hs i)

theorem at_put (env : Env) (dst : Option Nat) (c : CV) (t : Nat) : Env.at (putD env dst c) t = if dst = some t then c else Env.at env t := by
  cases dst with
  | none => simp [putD]
  | some d =>
    simp only [putD, look_cons, Option.some.injEq]
    by_cases h : t = d
    · subst h; simp
    · have : ¬ d = t := fun e => h e.symm
      simp [h, this]

/-- Nothing is written between: the slot is as it was. -/
theorem between {call : Caller} {l : List CStm} {E : Nat → Env} {Hs : Nat → Heap} {C : Nat → CV} (ht : ∀ (k : Nat) (s : CStm), l[k]? = some s → Stepped call s (E k) (Hs k) (C k) (Hs (k + 1)) ∧ E (k + 1) = putD (E k) s.dst (C k)) {t m : Nat} :
    ∀ i, m ≤ i → i ≤ l.length → (∀ (j : Nat) (s : CStm), l[j]? = some s → m ≤ j → j < i → s.dst ≠ some t) → Env.at (E i) t = Env.at (E m) t
  | 0, h, _, _ => by
    obtain rfl : m = 0 := by omega
    rfl
  | i + 1, h, hl, hn => by
    by_cases hm : m = i + 1
    · subst hm; rfl
    · have hs : ∃ s, l[i]? = some s := ⟨l[i], List.getElem?_eq_getElem (by omega)⟩
      obtain ⟨s, hs⟩ := hs
      rw [(ht i s hs).2, at_put, if_neg (hn i s hs (by omega) (by omega))]
      exact between ht i (by omega) (by omega) fun j s hj h1 h2 => hn j s hj h1 (by omega)

theorem betweenH {call : Caller} {quiet : FuncId → Bool} (hq : QuietOk call quiet) {l : List CStm} {E : Nat → Env} {Hs : Nat → Heap} {C : Nat → CV} (ht : ∀ (k : Nat) (s : CStm), l[k]? = some s → Stepped call s (E k) (Hs k) (C k) (Hs (k + 1)) ∧ E (k + 1) = putD (E k) s.dst (C k)) {r : Rsc} {m : Nat} :
    ∀ i, m ≤ i → i ≤ l.length → (∀ (j : Nat) (s : CStm), l[j]? = some s → m ≤ j → j < i → ¬ (footOf quiet s).wr r) → same r (Hs i) (Hs m)
  | 0, h, _, _ => by
    obtain rfl : m = 0 := by omega
    exact same.refl r _
  | i + 1, h, hl, hn => by
    by_cases hm : m = i + 1
    · subst hm; exact same.refl r _
    · obtain ⟨s, hs⟩ : ∃ s, l[i]? = some s := ⟨l[i], List.getElem?_eq_getElem (by omega)⟩
      obtain ⟨_, _, _, _, h4⟩ := stepped_foot hq (ht i s hs).1 (e' := E i) (H' := Hs i) (fun _ _ => rfl) (fun r _ => same.refl r _)
      exact (h4 r (hn i s hs (by omega) (by omega))).trans (betweenH hq ht i (by omega) (by omega) fun j s hj h1 h2 => hn j s hj h1 (by omega))

theorem prefix_of {W S : Nat → Prop} (hc : ∀ j k, j < k → W j → W k → S k → S j) : ∀ n, ∃ m, m ≤ n ∧ ∀ j, j < n → W j → (S j ↔ j < m)
  | 0 => ⟨0, Nat.le_refl _, fun j h => by omega⟩
  | n + 1 => by
    obtain ⟨m, hm, h⟩ := prefix_of hc n
    by_cases hW : W n
    · by_cases hS : S n
      · refine ⟨n + 1, Nat.le_refl _, fun j hj hWj => ⟨fun _ => hj, fun _ => ?_⟩⟩
        rcases Nat.lt_or_ge j n with h1 | h1
        · exact hc j n h1 hWj hW hS
        · obtain rfl : j = n := by omega
          exact hS
      · refine ⟨m, by omega, fun j hj hWj => ?_⟩
        rcases Nat.lt_or_ge j n with h1 | h1
        · exact h j h1 hWj
        · obtain rfl : j = n := by omega
          exact ⟨fun h => (hS h).elim, fun h => by omega⟩
    · refine ⟨m, by omega, fun j hj hWj => ?_⟩
      rcases Nat.lt_or_ge j n with h1 | h1
      · exact h j h1 hWj
      · obtain rfl : j = n := by omega
        exact (hW hWj).elim

theorem oEqb_eq {x y : Option Blk} (h : oEqb x y = true) : x = y := by
  unfold oEqb at h
  split at h
  · rw [Blk.eqb_eq _ _ h]
  · rfl
  · cases h
theorem spares_at {a b : List Blk} : ∀ {vs : List CV}, sparesC vs a b = true → ∀ v ∈ vs, ∀ k, idOf v = some k → a[k]? = b[k]?
  | [], _, v, hv, _, _ => by simp at hv
  | x :: r, h, v, hv, k, hk => by
    simp only [sparesC, Bool.and_eq_true] at h
    rcases List.mem_cons.1 hv with rfl | hv
    · have := h.1
      rw [hk] at this
      exact oEqb_eq this
    · exact spares_at h.2 v hv k hk
theorem mem_evs_temps {e : Env} {t : Nat} : ∀ {l : List Opd}, t ∈ temps l → Env.at e t ∈ evs e l
  | [], h => by simp [temps] at h
  | .t n :: r, h => by
    simp only [temps, List.mem_cons] at h
    simp only [evs, List.mem_cons]
    rcases h with rfl | h
    · exact .inl rfl
    · exact .inr (mem_evs_temps h)
  | .c _ :: r, h => by
    simp only [temps] at h
    simp only [evs, List.mem_cons]
    exact .inr (mem_evs_temps h)
theorem evs_drop (e : Env) : ∀ (l : List Opd) (n : Nat), evs e (l.drop n) = (evs e l).drop n
  | [], n => by simp [evs]
  | x :: l, 0 => by simp
  | x :: l, n + 1 => by simp only [List.drop_succ_cons, evs, evs_drop e l n]

/-- A call leaves what it shows. -/
theorem shows_step {call : Caller} {s : CStm} {e : Env} {H H1 : Heap} {v : CV} (hs : Stepped call s e H v H1) {t k : Nat} (ht : t ∈ shows s) (hk : idOf (Env.at e t) = some k) : H1.bl[k]? = H.bl[k]? := by
  unfold shows at ht
  split at ht
  · rename_i n f r ho ha
    have key : runOp call s.op (evs e s.args) H = some (v, H1) → H1.bl[k]? = H.bl[k]? := by
      rw [ho, ha]
      intro h
      simp only [evs, runOp, Option.bind_eq_some_iff] at h
      obtain ⟨x, h2, h3⟩ := h
      split at h3 <;> cases h3
      rename_i hp
      have := mem_evs_temps (e := e) ht
      rw [evs_drop, ← evs_len e r] at this
      exact (spares_at hp _ this k hk).symm
    unfold Stepped at hs
    split at hs
    · exact key hs
    · obtain ⟨c, _, hs⟩ := hs
      split at hs
      · exact key hs
      · rw [hs.2]
  · simp at ht

/-- Between, all but grow, or leave a block. -/
theorem kept_to {call : Caller} {quiet : FuncId → Bool} (hq : QuietOk call quiet) {l : List CStm} {E : Nat → Env} {Hs : Nat → Heap} {C : Nat → CV} (ht : ∀ (k : Nat) (s : CStm), l[k]? = some s → Stepped call s (E k) (Hs k) (C k) (Hs (k + 1)) ∧ E (k + 1) = putD (E k) s.dst (C k)) {m k : Nat} (hk : k < (Hs m).bl.length) :
    ∀ i, m ≤ i → i ≤ l.length → (∀ (j : Nat) (s : CStm), l[j]? = some s → m ≤ j → j < i → (footOf quiet s).wr .bl → grows s = true ∨ ∃ t, t ∈ shows s ∧ idOf (Env.at (E j) t) = some k) → (Hs i).bl[k]? = (Hs m).bl[k]?
  | 0, h, _, _ => by
    obtain rfl : m = 0 := by omega
    rfl
  | i + 1, h, hl, hn => by
    by_cases hm : m = i + 1
    · subst hm; rfl
    · obtain ⟨s, hs⟩ : ∃ s, l[i]? = some s := ⟨l[i], List.getElem?_eq_getElem (by omega)⟩
      have ih := kept_to hq ht hk i (by omega) (by omega) fun j s hj h1 h2 hw => hn j s hj h1 (by omega) hw
      by_cases hw : (footOf quiet s).wr .bl
      · rcases hn i s hs (by omega) (by omega) hw with hg | ⟨t, h1, h2⟩
        · obtain ⟨Y, hY⟩ := grows_step hg (ht i s hs).1
          have hlt : k < (Hs i).bl.length := by
            have : (Hs i).bl[k]? = some ((Hs m).bl[k]) := by rw [ih]; exact List.getElem?_eq_getElem hk
            exact (List.getElem?_eq_some_iff.1 this).1
          rw [hY, List.getElem?_append_left hlt, ih]
        · rw [shows_step (ht i s hs).1 h1 h2, ih]
      · obtain ⟨_, _, _, _, h4⟩ := stepped_foot hq (ht i s hs).1 (e' := E i) (H' := Hs i) (fun _ _ => rfl) (fun r _ => same.refl r _)
        have h5 : (Hs (i + 1)).bl = (Hs i).bl := h4 .bl hw
        rw [h5, ih]

theorem steady_rd {quiet : FuncId → Bool} {s : CStm} (h : steady s = true) : (footOf quiet s).rd .bl := by
  obtain ⟨dst, op, args, guard⟩ := s
  unfold steady at h
  split at h
  · rename_i h1 _; dsimp only at h1; subst h1; simp [Foot.rd, footOf]
  · rename_i h1 _; dsimp only at h1; subst h1; simp [Foot.rd, footOf]
  · rename_i h1 _; dsimp only at h1; subst h1; simp [Foot.rd, footOf]
  · cases h

/-- One statement more is carried out. -/
theorem di_step {call : Caller} {quiet : FuncId → Bool} (hq : QuietOk call quiet) {l : List CStm} (hstay : stays l = true) {E : Nat → Env} {Hs : Nat → Heap} {C : Nat → CV} (ht : ∀ (k : Nat) (s : CStm), l[k]? = some s → Stepped call s (E k) (Hs k) (C k) (Hs (k + 1)) ∧ E (k + 1) = putD (E k) s.dst (C k))
    {S : Nat → Prop} {pm : List Nat} (hmeet : ∀ i j x y, i < j → l[i]? = some x → l[j]? = some y → meet quiet x y = false ∨ (pm.getD j 0).testBit i = true) {envS : Env} {HS : Heap} (hdi : DI quiet l E Hs S envS HS) {i : Nat} {s : CStm} (hls : l[i]? = some s) (hnot : ¬ S i)
    (hmask : ∀ j, (pm.getD i 0).testBit j = true → S j) (hmaskS : ∀ k, S k → ∀ j, (pm.getD k 0).testBit j = true → S j) (hlive : ∀ t k, idOf (Env.at envS t) = some k → k < HS.bl.length) :
    ∃ H1', Stepped call s envS HS (C i) H1' ∧ ∀ S' : Nat → Prop, (∀ j, S' j ↔ (j = i ∨ S j)) → DI quiet l E Hs S' (putD envS s.dst (C i)) H1' := by
  have hin : i < l.length := (List.getElem?_eq_some_iff.1 hls).1
  obtain ⟨hstep, hnext⟩ := ht i s hls
  -- what it reads is what it read in the text's order
  have hreads : ∀ t ∈ reads s, Env.at (E i) t = Env.at envS t := by
    intro t htr
    refine (hdi.env t i (by omega) fun j x hj hx => ?_).symm
    constructor
    · intro hSj
      rcases Nat.lt_trichotomy j i with h | h | h
      · exact h
      · subst h; exact (hnot hSj).elim
      · rcases hmeet i j s x h hls hj with hm | hm
        · exact ((meet_spec hm).2.2 t hx htr).elim
        · exact (hnot (hmaskS j hSj i hm)).elim
    · intro hji
      rcases hmeet j i x s hji hj hls with hm | hm
      · exact (((meet_spec hm).2.1 t hx).1 htr).elim
      · exact hmask j hm
  have hstep2 : ∃ H1', Stepped call s envS HS (C i) H1' ∧ (∀ x, (footOf quiet s).wr x → same x H1' (Hs (i + 1))) ∧ (∀ x, ¬ (footOf quiet s).wr x → same x H1' HS) := by
    cases hsteady : steady s with
    | false =>
      have hheap : ∀ r, (footOf quiet s).rd r → same r (Hs i) HS := by
        intro r hp
        have no : ∀ x, (footOf quiet x).wr r → (swaps s x = true ∨ swaps x s = true) → False := by
          intro x hx ha
          have hxs : steady x = false := by
            cases hxs : steady x with
            | false => rfl
            | true => exact (steady_nowr hxs r hx).elim
          rcases ha with ha | ha <;> simp [swaps, hsteady, hxs] at ha
        refine (hdi.heap r i (by omega) fun j x hj hx => ?_).symm
        constructor
        · intro hSj
          rcases Nat.lt_trichotomy j i with h | h | h
          · exact h
          · subst h; exact (hnot hSj).elim
          · rcases hmeet i j s x h hls hj with hm | hm
            · rcases (meet_spec hm).1 with hc | hc
              · exact ((clash_false hc r).2 hx hp).elim
              · exact (no x hx (.inl hc)).elim
            · exact (hnot (hmaskS j hSj i hm)).elim
        · intro hji
          rcases hmeet j i x s hji hj hls with hm | hm
          · rcases (meet_spec hm).1 with hc | hc
            · exact (((clash_false hc r).1 hx).1 hp).elim
            · exact (no x hx (.inr hc)).elim
          · exact hmask j hm
      obtain ⟨H1', g1, g2, g3, _⟩ := stepped_foot hq hstep hreads hheap
      exact ⟨H1', g1, g2, g3⟩
    | true =>
      -- who has grown the blocks, and who hasn't
      obtain ⟨m, hml, hm⟩ := prefix_of (W := fun j => ∃ x, l[j]? = some x ∧ (footOf quiet x).wr .bl) (S := S) (fun j k hjk hWj hWk hSk => by
        obtain ⟨x, hx, hxw⟩ := hWj
        obtain ⟨y, hy, hyw⟩ := hWk
        rcases hmeet j k x y hjk hx hy with h | h
        · rcases (meet_spec h).1 with hc | hc
          · exact (((clash_false hc .bl).1 hxw).2 hyw).elim
          · exfalso
            have h1 : steady x = false := by
              cases h : steady x with
              | false => rfl
              | true => exact (steady_nowr h .bl hxw).elim
            have h2 : steady y = false := by
              cases h : steady y with
              | false => rfl
              | true => exact (steady_nowr h .bl hyw).elim
            simp [swaps, h1, h2] at hc
        · exact hmaskS k hSk j h) l.length
      have hbl : HS.bl = (Hs m).bl := hdi.heap .bl m hml fun j x hj hx => hm j (List.getElem?_eq_some_iff.1 hj).1 ⟨x, hj, hx⟩
      have grown : ∀ j x, l[j]? = some x → (footOf quiet x).wr .bl → (i ≤ j ∧ S j ∨ j < i ∧ ¬ S j) → grows x = true ∨ spare s x = true := by
        intro j x hj hx hcase
        have fin : (swaps s x = true ∨ swaps x s = true) → grows x = true ∨ spare s x = true := by
          intro ha
          have hxs : steady x = false := by
            cases h : steady x with
            | false => rfl
            | true => exact (steady_nowr h .bl hx).elim
          rcases ha with ha | ha
          · simpa [swaps, hsteady, hxs] using ha
          · simpa [swaps, hsteady, hxs] using ha
        have hrd : (footOf quiet s).rd .bl := steady_rd hsteady
        rcases hcase with ⟨hij, hSj⟩ | ⟨hji, hSj⟩
        · have hne : i ≠ j := fun e => hnot (e ▸ hSj)
          rcases hmeet i j s x (by omega) hls hj with h | h
          · rcases (meet_spec h).1 with hc | hc
            · exact ((clash_false hc .bl).2 hx hrd).elim
            · exact fin (.inl hc)
          · exact (hnot (hmaskS j hSj i h)).elim
        · rcases hmeet j i x s hji hj hls with h | h
          · rcases (meet_spec h).1 with hc | hc
            · exact (((clash_false hc .bl).1 hx).1 hrd).elim
            · exact fin (.inr hc)
          · exact (hSj (hmask j h)).elim
      -- a look's address stays as it is
      have hat : ∀ t r k, s.args = .t t :: r → idOf (Env.at envS t) = some k → ∀ j x, l[j]? = some x → (grows x = true ∨ spare s x = true) → grows x = true ∨ ∃ u, u ∈ shows x ∧ idOf (Env.at (E j) u) = some k := by
        intro t r k hargs hk j x hj hx
        rcases hx with hx | hx
        · exact .inl hx
        · right
          unfold spare at hx
          rw [hargs] at hx
          have hmem : t ∈ shows x := by simpa using hx
          refine ⟨t, hmem, ?_⟩
          have hno : ∀ (j' : Nat) (z : CStm), l[j']? = some z → z.dst ≠ some t := by
            intro j' z hz
            have h1 := List.all_eq_true.1 hstay x (List.mem_of_getElem? hj)
            have h2 := List.all_eq_true.1 h1 t hmem
            have h3 := List.all_eq_true.1 h2 z (List.mem_of_getElem? hz)
            simpa using h3
          have hjl := (List.getElem?_eq_some_iff.1 hj).1
          rw [← hdi.env t j (by omega) fun j' z hz hd => (hno j' z hz hd).elim]
          exact hk
      obtain ⟨g1, g2⟩ := steady_step hsteady hstep hreads (H' := HS) (fun t r k b hargs hk hb => by
        rcases Nat.lt_or_ge m i with hmi | hmi
        · have := kept_to hq ht (m := m) (k := k) (by rw [← hbl]; exact hlive t k hk) i (by omega) (by omega) fun j x hj h1 h2 hx => hat t r k hargs hk j x hj (grown j x hj hx (.inr ⟨h2, fun hS => by
            have := (hm j (List.getElem?_eq_some_iff.1 hj).1 ⟨x, hj, hx⟩).1 hS
            omega⟩))
          rw [hbl, ← this]
          exact hb
        · have := kept_to hq ht (m := i) (k := k) (List.getElem?_eq_some_iff.1 hb).1 m hmi hml fun j x hj h1 h2 hx => hat t r k hargs hk j x hj (grown j x hj hx (.inl ⟨h1, (hm j (List.getElem?_eq_some_iff.1 hj).1 ⟨x, hj, hx⟩).2 h2⟩))
          rw [hbl, this]
          exact hb)
      exact ⟨HS, g1, fun x hx => (steady_nowr hsteady x hx).elim, fun x _ => same.refl x _⟩
  obtain ⟨H1', hstep', hwr, hkeep⟩ := hstep2
  refine ⟨H1', hstep', fun S' hS' => ⟨?_, ?_⟩⟩
  · intro t k hk hiff
    rw [at_put]
    split
    · rename_i hst'
      have hik : i < k := (hiff i s hls hst').1 ((hS' i).2 (.inl rfl))
      have hother : ∀ j x, l[j]? = some x → x.dst = some t → i < j → ¬ S j := by
        intro j x hj hx hij hSj
        rcases hmeet i j s x hij hls hj with hm | hm
        · exact ((meet_spec hm).2.1 t hst').2 hx
        · exact hnot (hmaskS j hSj i hm)
      have := between ht (t := t) (m := i + 1) k (by omega) hk fun j x hj h1 h2 hx => by
        have := (hiff j x hj hx).2 h2
        rcases (hS' j).1 this with h | h
        · omega
        · exact hother j x hj hx (by omega) h
      rw [this, hnext, at_put, if_pos hst']
    · rename_i hst'
      refine hdi.env t k hk fun j x hj hx => ?_
      rw [← hiff j x hj hx, hS' j]
      constructor
      · exact fun h => .inr h
      · rintro (rfl | h)
        · rw [hls] at hj; cases hj
          exact (hst' hx).elim
        · exact h
  · intro r k hk hiff
    by_cases hturn : (footOf quiet s).wr r
    · have hik : i < k := (hiff i s hls hturn).1 ((hS' i).2 (.inl rfl))
      refine (hwr r hturn).trans (betweenH hq ht (r := r) (m := i + 1) k (by omega) hk fun j x hj h1 h2 hx => ?_).symm
      have := (hiff j x hj hx).2 h2
      rcases (hS' j).1 this with h | h
      · omega
      · rcases hmeet i j s x (by omega) hls hj with hm | hm
        · rcases (meet_spec hm).1 with hc | hc
          · exact ((clash_false hc r).1 hturn).2 hx
          · have h1 : steady s = false := by
              cases h : steady s with
              | false => rfl
              | true => exact (steady_nowr h r hturn).elim
            have h2 : steady x = false := by
              cases h : steady x with
              | false => rfl
              | true => exact (steady_nowr h r hx).elim
            simp [swaps, h1, h2] at hc
        · exact hnot (hmaskS j h i hm)
    · refine (hkeep r hturn).trans (hdi.heap r k hk fun j x hj hx => ?_)
      rw [← hiff j x hj hx, hS' j]
      constructor
      · exact fun h => .inr h
      · rintro (rfl | h)
        · rw [hls] at hj; cases hj
          exact (hturn hx).elim
        · exact h


/-- The masks that count: what is carried out late in the text waits for all ahead of it. -/
def lateM (L : Option (Nat × Nat)) (ms : List Nat) : List Nat :=
  match L with
  | none => ms
  | some (B, _) => lateMasks ms B

theorem lateM_bit {L : Option (Nat × Nat)} {ms : List Nat} {j i : Nat} (h : ((lateM L ms).getD j 0).testBit i = true) : (ms.getD j 0).testBit i = true ∨ ∃ B d, L = some (B, d) ∧ j = B ∧ i < B := by
  unfold lateM at h
  split at h
  · exact .inl h
  · rename_i B d
    unfold lateMasks at h
    by_cases hj : j = B
    · subst hj
      by_cases hl : j < ms.length
      · simp only [List.getD_eq_getElem?_getD, List.getElem?_set, if_true, hl, Option.getD_some, Nat.testBit_or, Nat.testBit_two_pow_sub_one, Bool.or_eq_true, decide_eq_true_eq] at h
        rcases h with h | h
        · exact .inl (by simpa only [List.getD_eq_getElem?_getD] using h)
        · exact .inr ⟨j, d, rfl, rfl, h⟩
      · exact .inl (by rwa [List.set_eq_of_length_le (by omega)] at h)
    · refine .inl ?_
      simp only [List.getD_eq_getElem?_getD, List.getElem?_set, if_neg (fun e => hj e.symm : ¬ B = j)] at h
      simpa only [List.getD_eq_getElem?_getD] using h

theorem Inv.addHidden (hi : Inv w F ι H) {b : Nat} (hb : w.heap[b]? = some (.map #[] 0)) (hl : ¬ Live ι H b) (hf : ¬ F b) : Inv w F (ι.push b) (H.push (.map [])) ∧ MoV w w F F ι (ι.push b) := by
  have hm : MoV w w F F ι (ι.push b) := ⟨⟨fun _ h => h, fun _ _ => rfl⟩, ι.push_le _, fun _ _ h => h⟩
  refine ⟨hi.build hm (by simp [IM.push, Heap.push, hi.len]) ?_ ?_ ?_ ?_ hi.lt hi.lo, hm⟩
  · intro i ds hd
    refine .inl ⟨?_, fun _ _ => rfl⟩
    cases i with
    | loc s => exact hd
    | blk n =>
      simp only [Heap.push, Heap.get] at hd ⊢
      rcases Nat.lt_trichotomy n H.bl.length with h' | h' | h'
      · rwa [List.getElem?_append_left h'] at hd
      · subst h'; simp at hd
      · rw [List.getElem?_eq_none (by simp; omega)] at hd; cases hd
  · intro n es hn
    simp only [Heap.push] at hn
    rcases Nat.lt_trichotomy n H.bl.length with h | h | h
    · rw [List.getElem?_append_left h] at hn
      exact .inl ⟨hn, fun _ _ => rfl⟩
    · subst h
      simp at hn
      subst hn
      right
      refine .inl ⟨b, #[], 0, ?_, hb, .nil, Go.MapKept.stamped_empty 0⟩
      simp [IM.push, ← hi.len]
    · rw [List.getElem?_eq_none (by simp; omega)] at hn; cases hn
  · intro i j k hi' hj' hik hjk
    rw [IM.get_push, hi.len] at hik hjk
    rcases live_push hi' with rfl | hi'
    · rcases live_push hj' with rfl | hj'
      · rfl
      · rw [if_pos rfl] at hik
        cases hik
        split at hjk
        · rename_i e; exact e.symm
        · exact (hl ⟨j, hj', hjk⟩).elim
    · rcases live_push hj' with rfl | hj'
      · rw [if_pos rfl] at hjk
        cases hjk
        split at hik
        · rename_i e; exact e
        · exact (hl ⟨i, hi', hik⟩).elim
      · split at hik
        · rename_i e
          subst e
          obtain ⟨x, hx⟩ := hi.has hi'
          simp [IM.get, ← hi.len] at hx
        · split at hjk
          · rename_i e
            subst e
            obtain ⟨x, hx⟩ := hi.has hj'
            simp [IM.get, ← hi.len] at hx
          · exact hi.inj i j k hi' hj' hik hjk
  · rintro k hk ⟨i, h1, h2⟩
    rw [IM.get_push, hi.len] at h2
    split at h2
    · cases h2; exact hf hk
    · rcases live_push h1 with rfl | h1
      · rename_i hne; exact hne rfl
      · exact hi.dis k hk ⟨i, h1, h2⟩

theorem St.ids {n : Nat} (hst : St n w F ι H env a) : ∀ t k, idOf (Env.at env t) = some k → k < H.bl.length := by
  intro t k hk
  have hv := hst.e t
  rw [← hst.i.len]
  cases hx : Env.at env t with
  | op id off =>
    rw [hx] at hk hv
    cases id with
    | loc s => simp [idOf] at hk
    | blk n =>
      simp only [idOf, Option.some.injEq] at hk
      subst hk
      simp only [VR, IM.get] at hv
      obtain ⟨b, hb, _⟩ := hv
      exact (List.getElem?_eq_some_iff.1 hb).1
  | om n =>
    rw [hx] at hk hv
    simp only [idOf, Option.some.injEq] at hk
    subst hk
    simp only [VR] at hv
    obtain ⟨b, hb, _⟩ := hv
    exact (List.getElem?_eq_some_iff.1 hb).1
  | _ => rw [hx] at hk; simp [idOf] at hk

/-- What a map's block that is made early is, till it counts. -/
def Ghost (L : Option (Nat × Nat)) (listed : Array Bool) (w0 : World) (a : Act) (w : World) (F : Nat → Prop) (ι : IM) (HS : Heap) : Prop :=
  ∀ B d, L = some (B, d) → listed[B]? = some true → ¬ (∀ k, k < B → listed[k]? = some true) →
    ∃ b, a.tmps.getD d undef = .map (some b) ∧ w.heap[b]? = some (.map #[] 0) ∧ ¬ Live ι HS b ∧ ¬ F b ∧ w0.heap.size ≤ b

def Counts (L : Option (Nat × Nat)) (listed : Array Bool) (j : Nat) : Prop := listed[j]? = some true ∧ ∀ B d, L = some (B, d) → j = B → ∀ k, k < B → listed[k]? = some true

/-- What is compiled to a new map is one. -/
def isMk : Op → Bool
  | .makeMap _ none => true
  | _ => false
theorem comp1_mk (P : Program) (an : Ann) (d : Option Nat) (o : Op) : (comp1 P an d o).all (fun x => match x.1 with | .h .mkmap => isMk o | _ => true) = true := by
  unfold comp1
  repeat' (first | rfl | (apply all_map'; intro _) | (apply all_bind'; intro _) | split)
  all_goals (rename_i heq; simp only [COp.h.injEq] at heq; (repeat' (split at heq)) <;> cases heq)
theorem mk_of {an : Ann} {n : Nat} {ops : Array Oper} {o : Oper} {d : Nat} (h : compStm P an n ops o = some ⟨some d, .h .mkmap, [], none⟩) : ∃ t, o.op = .makeMap t none ∧ o.guard = none := by
  unfold compStm at h
  split at h <;> (try cases h)
  split at h <;> (try cases h)
  rename_i hc hg
  simp only [Option.some.injEq, CStm.mk.injEq] at h
  obtain ⟨_, rfl, rfl, rfl⟩ := h
  have h1 := comp1_mk P an o.dst o.op
  rw [hc] at h1
  simp only [Option.all_some] at h1
  have hop : ∃ t, o.op = .makeMap t none := by
    cases hop : o.op with
    | makeMap t r =>
      cases r with
      | none => exact ⟨t, rfl⟩
      | some r => simp [isMk, hop] at h1
    | _ => simp [isMk, hop] at h1
  obtain ⟨t, hop⟩ := hop
  refine ⟨t, hop, ?_⟩
  cases hgo : o.guard with
  | none => rfl
  | some jw =>
    rw [hgo] at hg
    obtain ⟨j, want⟩ := jw
    simp only [gOf, Option.map_eq_some_iff] at hg
    obtain ⟨t', _, h⟩ := hg
    cases h

theorem draw_ok {call : Caller} (hcall : CallerOk P call) {quiet : FuncId → Bool} (hq : QuietOk call quiet) {an : Ann} {n : Nat} {ops : Array Oper} {l l0 : List CStm} (hl0 : compStms P an n ops ops.toList = some l0) (hsh : l.length = l0.length ∧ ∀ (k : Nat) (s : CStm), l0[k]? = some s → ∃ s', l[k]? = some s' ∧ Sharp quiet s s') (L : Option (Nat × Nat)) (hstay : stays l = true) (hearly : early ops = true) (hmeets : (l.zipIdx.all fun y => meets quiet (lateM L (masks [] ops.toList)) l y.1 y.2) = true)
    {w0 : World} {F0 : Nat → Prop} {ι0 : IM} {H0 : Heap} {E : Nat → Env} {Hs : Nat → Heap} {C : Nat → CV} (ht : ∀ (k : Nat) (s : CStm), l[k]? = some s → Stepped call s (E k) (Hs k) (C k) (Hs (k + 1)) ∧ E (k + 1) = putD (E k) s.dst (C k))
    (hL : ∀ B d, L = some (B, d) → l[B]? = some ⟨some d, .hb .mkmap, [], none⟩ ∧ l0[B]? = some ⟨some d, .h .mkmap, [], none⟩ ∧ Env.at (E 0) d = .und ∧ (∀ j x, l[j]? = some x → x.dst = some d → j = B) ∧ ((masks [] ops.toList).getD B 0).testBit B = false ∧ ∀ j, ((masks [] ops.toList).getD j 0).testBit B = true → ∀ k, k < B → ((masks [] ops.toList).getD j 0).testBit k = true)
    {Q : Exit → Act → World → Prop} (hQ : ∀ a' w' F' ι', St n w' F' ι' (Hs l.length) (E l.length) a' → Ext w0 F0 ι0 H0 w' F' ι' (Hs l.length) → MoV w0 w' F0 F' ι0 ι' → Q .normal a' w') :
    ∀ (fuel : Nat) (listed : Array Bool) (a : Act) (w : World) (F : Nat → Prop) (ι : IM) (envS : Env) (HS : Heap), listed.size = ops.size → ((List.range ops.size).filter fun i => !listed.getD i true).length = fuel →
      (∀ (i : Nat) (o : Oper), ops[i]? = some o → listed[i]? = some true → ∀ e ∈ o.after.toList, Region.binds .any e = true → listed[e.on]? = some true) → DI quiet l E Hs (Counts L listed) envS HS → Ghost L listed w0 a w F ι HS → St n w F ι HS envS a → Ext w0 F0 ι0 H0 w F ι HS → MoV w0 w F0 F ι0 ι → wpAny P .any ops Q fuel listed a w := by
  obtain ⟨hlen, hget⟩ := compStms_get hl0
  have hsz : l.length = ops.size := by rw [hsh.1]; simpa using hlen
  have hearly' : ∀ i o, ops[i]? = some o → ∀ e ∈ o.after.toList, Region.binds .any e = true → e.on < i := by
    intro i o ho e he hb
    have h1 := List.all_eq_true.1 hearly (o, i) (by
      rw [List.mem_iff_getElem?]
      exact ⟨i, by simp [List.getElem?_zipIdx, ho]⟩)
    have h2 := List.all_eq_true.1 h1 e he
    simpa [hb] using h2
  have hmeet : ∀ i j x y, i < j → l[i]? = some x → l[j]? = some y → meet quiet x y = false ∨ ((lateM L (masks [] ops.toList)).getD j 0).testBit i = true := by
    intro i j x y hij hx hy
    have h1 := List.all_eq_true.1 hmeets (y, j) (by
      rw [List.mem_iff_getElem?]
      exact ⟨j, by simp [List.getElem?_zipIdx, hy]⟩)
    have h2 := List.all_eq_true.1 h1 (x, i) (by
      rw [List.mem_iff_getElem?]
      refine ⟨i, ?_⟩
      simp [List.getElem?_zipIdx, hij, hx])
    simpa using h2
  -- when all is listed
  have hfin : ∀ (listed : Array Bool) (a : Act) (w : World) (F : Nat → Prop) (ι : IM) (envS : Env) (HS : Heap), (∀ i, i < ops.size → listed[i]? = some true) → DI quiet l E Hs (Counts L listed) envS HS → St n w F ι HS envS a → Ext w0 F0 ι0 H0 w F ι HS → MoV w0 w F0 F ι0 ι → Q .normal a w := by
    intro listed a w F ι envS HS hall hdi hst hext hmo
    have hH : Agr (fun _ => True) HS (Hs l.length) := agr_all.2 fun r => hdi.heap r l.length (Nat.le_refl _) fun j s hj _ => by
      have := (List.getElem?_eq_some_iff.1 hj).1
      exact ⟨fun _ => this, fun _ => ⟨hall j (by omega), fun B d h1 h2 k hk => hall k (by omega)⟩⟩
    have hE : ∀ t, Env.at envS t = Env.at (E l.length) t := fun t => hdi.env t l.length (Nat.le_refl _) fun j s hj _ => by
      have := (List.getElem?_eq_some_iff.1 hj).1
      exact ⟨fun _ => this, fun _ => ⟨hall j (by omega), fun B d h1 h2 k hk => hall k (by omega)⟩⟩
    refine hQ a w F ι ⟨⟨fun t => by rw [← hE t]; exact hst.e t, hst.e.g⟩, alike_inv hH hst.i, hst.d, hst.s⟩ ?_ hmo
    exact { hext with live := fun b hb => hext.live b ((alike_Live hH).2 hb) }
  -- what is ready
  have hready : ∀ (listed : Array Bool), listed.size = ops.size → Region.ready .any ops listed = [] → ∀ i, i < ops.size → listed[i]? = some true := by
    intro listed hs hr i
    induction i using Nat.strongRecOn with
    | _ i ih =>
      intro hi
      cases hli : listed.getD i true with
      | true =>
        simp only [Array.getD_eq_getD_getElem?] at hli
        have : i < listed.size := by omega
        rw [Array.getElem?_eq_getElem this] at hli ⊢
        simpa using hli
      | false =>
        have hmem : i ∈ Region.ready .any ops listed := by
          obtain ⟨o, ho⟩ : ∃ o, ops[i]? = some o := ⟨ops[i], Array.getElem?_eq_getElem hi⟩
          simp only [Region.ready, List.mem_filter, List.mem_range, hli, Bool.not_false, Bool.true_and, ho, Option.map_some, Option.getD_some]
          refine ⟨hi, ?_⟩
          rw [← Array.all_toList]
          refine List.all_eq_true.2 fun e he => ?_
          cases hb : Region.binds .any e with
          | false => simp
          | true =>
            have hlt := hearly' i o ho e he hb
            have := ih e.on hlt (by omega)
            simp [Array.getD_eq_getD_getElem?, this]
        rw [hr] at hmem
        simp at hmem
  intro fuel
  induction fuel with
  | zero =>
    intro listed a w F ι envS HS hs hcnt hcl hdi hgh hst hext hmo
    have hall : ∀ i, i < ops.size → listed[i]? = some true := by
      intro i hi
      have hemp := List.length_eq_zero_iff.1 hcnt
      cases hli : listed.getD i true with
      | true =>
        simp only [Array.getD_eq_getD_getElem?] at hli
        have : i < listed.size := by omega
        rw [Array.getElem?_eq_getElem this] at hli ⊢
        simpa using hli
      | false =>
        have : i ∈ ((List.range ops.size).filter fun i => !listed.getD i true) := by simp only [List.mem_filter, List.mem_range, hli, Bool.not_false, and_true]; exact hi
        rw [hemp] at this
        simp at this
    refine ⟨?_, hfin listed a w F ι envS HS hall hdi hst hext hmo⟩
    unfold Region.ready
    rw [List.filter_eq_nil_iff]
    intro i hi
    have := hall i (by simpa using hi)
    simp [Array.getD_eq_getD_getElem?, this]
  | succ fuel ih =>
    intro listed a w F ι envS HS hs hcnt hcl hdi hgh hst hext hmo
    refine ⟨fun hr => hfin listed a w F ι envS HS (hready listed hs hr) hdi hst hext hmo, fun i hi => ?_⟩
    simp only [Region.ready, List.mem_filter, List.mem_range, Bool.and_eq_true, Bool.not_eq_true'] at hi
    obtain ⟨hin, hli, hafter⟩ := hi
    obtain ⟨o, ho⟩ : ∃ o, ops[i]? = some o := ⟨ops[i], Array.getElem?_eq_getElem hin⟩
    simp only [ho, Option.map_some, Option.getD_some] at hafter
    rw [← Array.all_toList] at hafter
    have hafter' : ∀ e ∈ o.after.toList, Region.binds .any e = true → listed[e.on]? = some true := by
      intro e he hb
      have := List.all_eq_true.1 hafter e he
      simp only [hb, Bool.not_true, Bool.false_or, Array.getD_eq_getD_getElem?] at this
      cases hx : listed[e.on]? with
      | none => simp [hx] at this
      | some b => simp [hx] at this; rw [this]
    have hnot : ¬ listed[i]? = some true := by
      intro h
      simp [Array.getD_eq_getD_getElem?, h] at hli
    -- who must stand ahead does
    let S : Nat → Prop := fun j => listed[j]? = some true
    have hS' : ∀ j, (listed.setIfInBounds i true)[j]? = some true ↔ (j = i ∨ S j) := by
      intro j
      rw [Array.getElem?_setIfInBounds]
      by_cases hj : i = j
      · subst hj; simp; omega
      · rw [if_neg hj]
        constructor
        · exact fun h => .inr h
        · rintro (h | h)
          · exact (hj h.symm).elim
          · exact h
    have hmaskL : ∀ j, ((masks [] ops.toList).getD i 0).testBit j = true → S j := by
      have := masks_ok (fun j => j = i ∨ S j) ops.toList [] (by simp [List.getD]) (by
        intro k o' ho' hk e he hb
        have ho'' : ops[k]? = some o' := by simpa using ho'
        simp only [List.length_nil, Nat.zero_add] at hk
        rcases hk with rfl | hk
        · rw [ho] at ho''; cases ho''
          exact .inr (hafter' e he hb)
        · exact .inr (hcl k o' ho'' hk e he hb)) i (.inl rfl)
      intro j hj
      rcases this j hj with rfl | h
      · exfalso
        -- an operation does not wait for itself
        have hself : ∀ (rest : List Oper) (acc : List Nat), (∀ k, ∀ b, (acc.getD k 0).testBit b = true → b < k) → (∀ k o', rest[k]? = some o' → ∀ e ∈ o'.after.toList, Region.binds .any e = true → e.on < acc.length + k) →
            ∀ k, ∀ b, ((masks acc rest).getD k 0).testBit b = true → b < k := by
          intro rest
          induction rest with
          | nil => intro acc h _; exact h
          | cons o' rest ih =>
            intro acc hacc hrest
            refine ih (acc ++ [maskOf acc o']) ?_ ?_
            · intro k b hb
              rcases Nat.lt_trichotomy k acc.length with h | h | h
              · exact hacc k b (by simpa [List.getD, List.getElem?_append_left h] using hb)
              · subst h
                have hb' : (maskOf acc o').testBit b = true := by simpa [List.getD] using hb
                refine mask_fold (fun b => b < acc.length) acc ?_ _ 0 (fun e he hbi => by simpa using hrest 0 o' rfl e he hbi) (fun j h => by simp at h) b hb'
                intro i' hi' j' hj'
                have := hacc i' j' hj'
                omega
              · have : (acc ++ [maskOf acc o']).getD k 0 = 0 := by simp [List.getD, List.getElem?_eq_none (show (acc ++ [maskOf acc o']).length ≤ k by simp; omega)]
                rw [this] at hb
                simp at hb
            · intro k o'' ho'' e he hbi
              have := hrest (k + 1) o'' (by simpa using ho'') e he hbi
              simp only [List.length_append, List.length_cons, List.length_nil]
              omega
        have := hself ops.toList [] (by simp [List.getD]) (fun k o' ho' e he hb => by
          have := hearly' k o' (by simpa using ho') e he hb
          simpa using this) j j hj
        omega
      · exact h
    have hmaskLS : ∀ k, S k → ∀ j, ((masks [] ops.toList).getD k 0).testBit j = true → S j := masks_ok S ops.toList [] (by simp [List.getD]) (by
      intro k o' ho' hk e he hb
      exact hcl k o' (by simpa using ho') (by simpa using hk) e he hb)
    -- what counts is closed
    have hmaskC : ∀ k, Counts L listed k → ∀ j, ((lateM L (masks [] ops.toList)).getD k 0).testBit j = true → Counts L listed j := by
      intro k hk j hj
      rcases lateM_bit hj with hj | ⟨B, d, hBd, rfl, hjk⟩
      · refine ⟨hmaskLS k hk.1 j hj, fun B d hBd hjB k' hk' => ?_⟩
        subst hjB
        exact hmaskLS k hk.1 k' ((hL j d hBd).2.2.2.2.2 k hj k' hk')
      · refine ⟨hk.2 k d hBd rfl j hjk, fun B' d' hBd' hjB => ?_⟩
        rw [hBd] at hBd'
        cases hBd'
        omega
    obtain ⟨s0, hls0, hcs⟩ := hget i o (by simpa using ho)
    obtain ⟨s, hls, hsd, hsharp⟩ := hsh.2 i s0 hls0
    have hdst : s.dst = o.dst ∧ o.dst.all (· < n) = true := by
      rw [hsd]
      unfold compStm at hcs
      split at hcs <;> (try cases hcs)
      rename_i hdst
      split at hcs <;> (try cases hcs)
      exact ⟨rfl, hdst⟩
    have hcnt' : ((List.range ops.size).filter fun j => !(listed.setIfInBounds i true).getD j true).length = fuel := by
      have := filt (p := fun j => !listed.getD j true) (q := fun j => !(listed.setIfInBounds i true).getD j true) (i := i) (by simp [hli]) (by
        intro x
        simp only [Array.getD_eq_getD_getElem?, Array.getElem?_setIfInBounds]
        by_cases hx : i = x
        · subst hx
          rw [if_pos rfl, if_pos (by omega)]
          simp
        · have hx' : ¬ x = i := fun e => hx e.symm
          simp [hx, hx']) (List.range ops.size) List.nodup_range (by simpa using hin)
      omega
    have hcl' : ∀ (k : Nat) (o' : Oper), ops[k]? = some o' → (listed.setIfInBounds i true)[k]? = some true → ∀ e ∈ o'.after.toList, Region.binds .any e = true → (listed.setIfInBounds i true)[e.on]? = some true := by
      intro k o' ho' hk e he hb
      rcases (hS' k).1 hk with rfl | hk
      · rw [ho] at ho'; cases ho'
        exact (hS' _).2 (.inr (hafter' e he hb))
      · exact (hS' _).2 (.inr (hcl k o' ho' hk e he hb))
    have hnotC : ¬ Counts L listed i := fun h => hnot h.1
    by_cases hghost : ∃ d, L = some (i, d) ∧ ¬ ∀ k, k < i → listed[k]? = some true
    · -- a map that is made early: it doesn't count yet
      obtain ⟨d, hLd, hnall⟩ := hghost
      obtain ⟨hBs, hBs0, hund, huniq, _, _⟩ := hL i d hLd
      rw [hls] at hBs
      cases hBs
      rw [hls0] at hBs0
      cases hBs0
      obtain ⟨t, hop, hgu⟩ := mk_of hcs
      have hsame : ∀ j, Counts L (listed.setIfInBounds i true) j ↔ Counts L listed j := by
        intro j
        constructor
        · rintro ⟨h1, h2⟩
          rcases (hS' j).1 h1 with rfl | h1
          · exact (hnall fun k hk => by
              rcases (hS' k).1 (h2 j d hLd rfl k hk) with h | h
              · omega
              · exact h).elim
          · refine ⟨h1, fun B d' hBd hjB k hk => ?_⟩
            rw [hLd] at hBd
            cases hBd
            exact (hnot (hjB ▸ h1)).elim
        · rintro ⟨h1, h2⟩
          exact ⟨(hS' j).2 (.inr h1), fun B d' hBd hjB k hk => (hS' k).2 (.inr (h2 B d' hBd hjB k hk))⟩
      have hatd : Env.at envS d = .und := by
        rw [← hund]
        refine hdi.env d 0 (Nat.zero_le _) fun j x hj hx => ⟨fun hSj => ?_, fun h => by omega⟩
        have := huniq j x hj hx
        subst this
        exact (hnot hSj.1).elim
      have hdn : d < a.tmps.size := by
        have h1 := hdst.2
        rw [← hdst.1] at h1
        have : d < n := by simpa using h1
        have := hst.s
        omega
      have hbl := hst.i.new_dead
      have hw := WTo.new w (.map #[] 0)
      have hm : MoV w { w with heap := w.heap.push (.map #[] 0) } F F ι ι := ⟨⟨fun _ h => h, fun k hk => hw.other k (fun e => hbl.2 (e ▸ hk)) (hst.i.lt k hk)⟩, fun _ _ h => h, hw.csize⟩
      have hi2 : Inv { w with heap := w.heap.push (.map #[] 0) } F ι HS := hst.i.build hm hst.i.len
        (fun k cs h => .inl ⟨h, fun b hb => hw.other b (fun e => hbl.1 (e ▸ ⟨k, live_iff.2 (.inl ⟨cs, h⟩), hb⟩)) (hst.i.live_lt ⟨k, live_iff.2 (.inl ⟨cs, h⟩), hb⟩)⟩)
        (fun k es h => .inl ⟨h, fun b hb => hw.other b (fun e => hbl.1 (e ▸ ⟨.blk k, live_iff.2 (.inr ⟨k, es, rfl, h⟩), hb⟩)) (hst.i.live_lt ⟨.blk k, live_iff.2 (.inr ⟨k, es, rfl, h⟩), hb⟩)⟩)
        hst.i.inj hst.i.dis (fun x hx => Nat.lt_of_lt_of_le (hst.i.lt x hx) hw.size) hst.i.lo
      unfold wpOp
      rw [ho]
      dsimp only
      rw [wanted_none hgu, if_pos rfl]
      refine .inl ?_
      unfold Oper.wp
      have hrun : (execOp a.eval o).run P w = .ok (.value (.map (some w.heap.size))) { w with heap := w.heap.push (.map #[] 0) } := by simp [execOp, hop, Instr.makeMap]
      rw [hrun]
      have hod : o.dst = some d := by rw [← hdst.1]
      refine ih (listed.setIfInBounds i true) _ _ F ι envS HS (by simpa using hs) hcnt' hcl' ⟨fun t k hk h => hdi.env t k hk fun j x hj hx => by rw [← hsame j]; exact h j x hj hx, fun r k hk h => hdi.heap r k hk fun j x hj hx => by rw [← hsame j]; exact h j x hj hx⟩ ?_ ?_ (hext.trans (Ext.to hw (fun _ _ h => h) (.inr (Nat.le_refl _)) (fun x h => .inl h))) ⟨⟨fun b hb => hmo.f b hb, fun b hb => (hm.h b (hmo.f b hb)).trans (hmo.h b hb)⟩, fun k b hb => hmo.i k b hb, fun b n hb => hm.c b n (hmo.c b n hb)⟩
      · intro B d' hBd _ _
        rw [hLd] at hBd
        cases hBd
        refine ⟨w.heap.size, ?_, by simp, hbl.1, hbl.2, hext.size⟩
        rw [hod]
        simp [Act.put, Array.getD_eq_getD_getElem?, hdn]
      · have := hst.put (dst := o.dst) hdst.2 (c := .und) (v := .map (some w.heap.size)) (by simp [VR, BR]) hi2 hm
        refine ⟨⟨fun u => ?_, this.e.g⟩, this.i, this.d, this.s⟩
        have hu := this.e u
        rw [hod, at_put] at hu
        by_cases hud : some d = some u
        · cases hud
          rw [hatd]
          simp [VR, BR]
        · rw [if_neg hud] at hu
          rw [hod]
          exact hu
    · have hmask : ∀ j, ((lateM L (masks [] ops.toList)).getD i 0).testBit j = true → Counts L listed j := by
        intro j hj
        rcases lateM_bit hj with hj | ⟨B, d, hBd, rfl, hjk⟩
        · refine ⟨hmaskL j hj, fun B d hBd hjB k' hk' => ?_⟩
          subst hjB
          exact hmaskL k' ((hL j d hBd).2.2.2.2.2 i hj k' hk')
        · have hall : ∀ k, k < i → listed[k]? = some true := Classical.byContradiction fun h => hghost ⟨d, hBd, h⟩
          refine ⟨hall j hjk, fun B' d' hBd' hjB => ?_⟩
          rw [hBd] at hBd'
          cases hBd'
          omega
      obtain ⟨H1', hstep', hnext⟩ := di_step hq hstay ht hmeet hdi hls hnotC hmask hmaskC hst.ids
      refine (wpOp_ok hcall ho hcs hst.e hst.i (hsharp _ hq _ _ _ _ hstep') (fun v' w' F' ι' g1 g2 g3 g4 => ?_)).1
      have hst1 : St n w' F' ι' H1' (putD envS s.dst (C i)) (a.put o.dst v') := by rw [hdst.1]; exact hst.put hdst.2 g1 g2 g4
      have hmo1 : MoV w0 w' F0 F' ι0 ι' := ⟨⟨fun b hb => g4.f b (hmo.f b hb), fun b hb => (g4.h b (hmo.f b hb)).trans (hmo.h b hb)⟩, fun i b hb => g4.i i b (hmo.i i b hb), fun b n hb => g4.c b n (hmo.c b n hb)⟩
      -- the ghost stays as it is
      have hkeepG : ∀ B d, L = some (B, d) → i ≠ B → listed[B]? = some true → ¬ (∀ k, k < B → listed[k]? = some true) → ∃ b, (a.put o.dst v').tmps.getD d undef = .map (some b) ∧ w'.heap[b]? = some (.map #[] 0) ∧ ¬ Live ι' H1' b ∧ ¬ F' b ∧ w0.heap.size ≤ b := by
        intro B d hBd hiB h1 h2
        obtain ⟨b, k1, k2, k3, k4, k5⟩ := hgh B d hBd h1 h2
        have hblt : b < w.heap.size := (Array.getElem?_eq_some_iff.1 k2).1
        refine ⟨b, ?_, (g3.frame b hblt k3).trans k2, fun h => ?_, fun h => ?_, k5⟩
        · have hne : o.dst ≠ some d := by
            intro e
            rw [← hdst.1] at e
            exact hiB ((hL B d hBd).2.2.2.1 i s hls e)
          cases hod : o.dst with
          | none => exact k1
          | some x =>
            have hxd : x ≠ d := fun e => hne (by rw [hod, e])
            simp only [Act.put, Array.getD_eq_getD_getElem?, Array.getElem?_setIfInBounds, if_neg hxd]
            simpa only [Array.getD_eq_getD_getElem?] using k1
        · rcases g3.live b h with h | h
          · exact k3 h
          · omega
        · rcases g3.fnew b h with h | h | h
          · exact k4 h
          · omega
          · exact k3 h
      by_cases hbind : ∃ B d, L = some (B, d) ∧ i ≠ B ∧ listed[B]? = some true ∧ ¬ (∀ k, k < B → listed[k]? = some true) ∧ ∀ k, k < B → (listed.setIfInBounds i true)[k]? = some true
      · -- now it counts
        obtain ⟨B, d, hBd, hiB, hB1, hB2, hB3⟩ := hbind
        obtain ⟨b, k1, k2, k3, k4, k5⟩ := hkeepG B d hBd hiB hB1 hB2
        obtain ⟨hBs, hBs0, hund, huniq, hself, hup⟩ := hL B d hBd
        have hdi1 := hnext (fun j => j = i ∨ Counts L listed j) (fun j => Iff.rfl)
        have hnB : ¬ (B = i ∨ Counts L listed B) := by
          rintro (h | h)
          · exact hiB h.symm
          · exact hB2 (h.2 B d hBd rfl)
        obtain ⟨H2', hstepB, hnextB⟩ := di_step hq hstay ht hmeet hdi1 hBs hnB (fun j hj => by
          rcases lateM_bit hj with hj | ⟨B', d', hBd', h1, hjk⟩
          · by_cases hjB : j = B
            · subst hjB
              rw [hself] at hj
              cases hj
            · refine .inr ⟨hmaskLS B hB1 j hj, fun B' d' hBd' hj' => ?_⟩
              rw [hBd] at hBd'
              cases hBd'
              exact (hjB hj').elim
          · subst h1
            rcases (hS' j).1 (hB3 j hjk) with h | h
            · exact .inl h
            · refine .inr ⟨h, fun B'' d'' hBd'' hj' => ?_⟩
              rw [hBd] at hBd''
              cases hBd''
              omega) (fun k hk j hj => by
          rcases hk with rfl | hk
          · exact .inr (hmask j hj)
          · exact .inr (hmaskC k hk j hj)) hst1.ids
        have hC : C B = .om H1'.bl.length ∧ H2' = H1'.push (.map []) := by
          simp only [Stepped, runOp, evs, CV.locs, heapOp, Bool.false_eq_true, if_false, Option.some.injEq, Prod.mk.injEq] at hstepB
          exact ⟨hstepB.1.symm, hstepB.2.symm⟩
        obtain ⟨hC1, hC2⟩ := hC
        subst hC2
        obtain ⟨i1, i2⟩ := hst1.i.addHidden k2 k3 k4
        have hx1 := hext.trans g3
        refine ih (listed.setIfInBounds i true) (a.put o.dst v') w' F' (ι'.push b) (putD (putD envS s.dst (C i)) (some d) (C B)) _ (by simpa using hs) hcnt' hcl' (hnextB _ fun j => ?_) ?_ ?_ ⟨hx1.os, hx1.tape, hx1.output, fun m x h => ι'.push_le b (.blk m) x (hx1.pre m x h), hx1.fmono, hx1.fnew, hx1.size, hx1.csz, hx1.frame, fun x hx => ?_⟩ ⟨hmo1.toMo, fun k x h => ι'.push_le b k x (hmo1.i k x h), hmo1.c⟩
        · constructor
          · rintro ⟨h1, h2⟩
            by_cases hjB : j = B
            · exact .inl hjB
            · refine .inr ?_
              rcases (hS' j).1 h1 with h1 | h1
              · exact .inl h1
              · refine .inr ⟨h1, fun B' d' hBd' hj' => ?_⟩
                rw [hBd] at hBd'
                cases hBd'
                exact (hjB hj').elim
          · rintro (rfl | rfl | ⟨h1, h2⟩)
            · refine ⟨(hS' _).2 (.inr hB1), fun B' d' hBd' _ => ?_⟩
              rw [hBd] at hBd'
              cases hBd'
              exact hB3
            · refine ⟨(hS' _).2 (.inl rfl), fun B' d' hBd' hj' => ?_⟩
              rw [hBd] at hBd'
              cases hBd'
              exact (hiB hj').elim
            · exact ⟨(hS' j).2 (.inr h1), fun B' d' hBd' hj' k hk => (hS' k).2 (.inr (h2 B' d' hBd' hj' k hk))⟩
        · intro B' d' hBd' _ hno
          rw [hBd] at hBd'
          cases hBd'
          exact (hno hB3).elim
        · refine ⟨⟨fun t => ?_, hst1.e.g⟩, i1, hst1.d, hst1.s⟩
          rw [at_put]
          split
          · rename_i htd
            cases htd
            rw [hC1, k1]
            simp only [VR]
            exact ⟨b, by simp [IM.push, ← hst1.i.len], rfl⟩
          · exact VR.mono i2 _ _ (hst1.e t)
        · obtain ⟨k, hk1, hk2⟩ := hx
          rw [IM.get_push, hst1.i.len] at hk2
          split at hk2
          · cases hk2; exact .inr k5
          · rcases live_push hk1 with rfl | hk1
            · rename_i hne; exact (hne rfl).elim
            · exact hx1.live x ⟨k, hk1, hk2⟩
      · refine ih (listed.setIfInBounds i true) (a.put o.dst v') w' F' ι' (putD envS s.dst (C i)) _ (by simpa using hs) hcnt' hcl' (hnext _ fun j => ?_) ?_ hst1 (hext.trans g3) hmo1
        · constructor
          · rintro ⟨h1, h2⟩
            rcases (hS' j).1 h1 with h1 | h1
            · exact .inl h1
            · by_cases hji : j = i
              · exact .inl hji
              · refine .inr ⟨h1, fun B d hBd hjB => Classical.byContradiction fun hno => hbind ⟨B, d, hBd, fun e => hji (by rw [hjB, e]), hjB ▸ h1, hno, h2 B d hBd hjB⟩⟩
          · rintro (rfl | ⟨h1, h2⟩)
            · refine ⟨(hS' _).2 (.inl rfl), fun B d hBd hjB k hk => (hS' k).2 (.inr ?_)⟩
              subst hjB
              exact Classical.byContradiction fun hno => hghost ⟨d, hBd, fun h => hno (h k hk)⟩
            · exact ⟨(hS' j).2 (.inr h1), fun B' d' hBd' hj' k hk => (hS' k).2 (.inr (h2 B' d' hBd' hj' k hk))⟩
        · intro B d hBd h1 h2
          have h2' : ¬ ∀ k, k < B → listed[k]? = some true := fun h => h2 fun k hk => (hS' k).2 (.inr (h k hk))
          by_cases hiB : i = B
          · subst hiB
            exact (hghost ⟨d, hBd, h2'⟩).elim
          · rcases (hS' B).1 h1 with h1 | h1
            · exact (hiB h1.symm).elim
            · exact hkeepG B d hBd hiB h1 h2'

/-- A region, its order drawn or not. -/
theorem region_ok {call : Caller} (hcall : CallerOk P call) {quiet : FuncId → Bool} (hq : QuietOk call quiet) (hmix : P.follows .mixedOrders = true) {an : Ann} {n id : Nat} {ops : Array Oper} {draw : Bool} {l l0 : List CStm} (hl : compStms P an n ops ops.toList = some l0)
    (hsh : l.length = l0.length ∧ ∀ (k : Nat) (s : CStm), l0[k]? = some s → ∃ s', l[k]? = some s' ∧ Sharp quiet s s') (hd : (draw = false ∧ l = l0) ∨ (draw = true ∧ (drawOk quiet ops l = true ∨ ∃ B d, lateOk quiet ops l B d = true ∧ l[B]? = some ⟨some d, .hb .mkmap, [], none⟩ ∧ l0[B]? = some ⟨some d, .h .mkmap, [], none⟩ ∧ Env.at env d = .und))) {env' : Env} {H' : Heap} (hr : runOps call l env H = some (env', H')) (hst : St n w F ι H env a) {Q : Exit → Act → World → Prop}
    (hQ : ∀ a' w' F' ι', St n w' F' ι' H' env' a' → Ext w F ι H w' F' ι' H' → MoV w w' F F' ι ι' → Q .normal a' w') : (Code.region id ops draw).wp P Q a w := by
  cases draw with
  | false =>
    refine wp_region ?_
    rw [List.range_eq_range', show ops.size = ops.toList.length by simp]
    rcases hd with ⟨_, rfl⟩ | ⟨hd, _⟩
    · exact ops_ok hcall ops.toList l 0 w F ι H env a rfl hl hr hst hQ
    · cases hd
  | true =>
    obtain ⟨E, Hs, C, e1, e2, e3, e4, e5⟩ := trace hr
    subst e1 e2 e3 e4
    have hw : ∀ b : Nat, ({ w with drawn := w.drawn + 1 } : World).heap[b]? = w.heap[b]? := fun _ => rfl
    have hm : MoV w { w with drawn := w.drawn + 1 } F F ι ι := ⟨⟨fun _ h => h, fun _ _ => rfl⟩, fun _ _ h => h, fun _ _ h => h⟩
    have hst' : St n { w with drawn := w.drawn + 1 } F ι (Hs 0) (E 0) a := ⟨hst.e.mono hm, hst.i.build hm hst.i.len (fun i cs h => .inl ⟨h, fun _ _ => rfl⟩) (fun n es h => .inl ⟨h, fun _ _ => rfl⟩) hst.i.inj hst.i.dis hst.i.lt hst.i.lo, hst.d, hst.s⟩
    have hx : Ext w F ι (Hs 0) { w with drawn := w.drawn + 1 } F ι (Hs 0) := ⟨rfl, rfl, rfl, fun _ _ h => h, fun _ h => h, fun _ h => .inl h, Nat.le_refl _, fun _ _ h => h, fun _ _ _ => rfl, fun _ h => .inl h⟩
    have hcount : ((List.range ops.size).filter fun i => !(Array.replicate ops.size false).getD i true).length = ops.size := by
      have : (List.range ops.size).filter (fun i => !(Array.replicate ops.size false).getD i true) = List.range ops.size := by
        rw [List.filter_eq_self]
        intro i hi
        have : i < ops.size := by simpa using hi
        simp [Array.getD_eq_getD_getElem?, this]
      rw [this]; simp
    have hno : ∀ i : Nat, ¬ (Array.replicate ops.size false)[i]? = some true := by
      intro i h
      rw [Array.getElem?_replicate] at h
      split at h <;> cases h
    have go : ∀ (L : Option (Nat × Nat)), stays l = true → early ops = true → (l.zipIdx.all fun y => meets quiet (lateM L (masks [] ops.toList)) l y.1 y.2) = true →
        (∀ B d, L = some (B, d) → l[B]? = some ⟨some d, .hb .mkmap, [], none⟩ ∧ l0[B]? = some ⟨some d, .h .mkmap, [], none⟩ ∧ Env.at (E 0) d = .und ∧ (∀ j x, l[j]? = some x → x.dst = some d → j = B) ∧ ((masks [] ops.toList).getD B 0).testBit B = false ∧ ∀ j, ((masks [] ops.toList).getD j 0).testBit B = true → ∀ k, k < B → ((masks [] ops.toList).getD j 0).testBit k = true) → (Code.region id ops true).wp P Q a w := by
      intro L hL0 hL1 hL2 hL3
      refine wp_region_any hmix (draw_ok hcall hq hl hsh L hL0 hL1 hL2 e5 hL3 hQ ops.size _ a _ F ι (E 0) (Hs 0) (by simp) hcount (fun i o _ h => (hno i h).elim) ⟨fun t i hi hiff => ?_, fun r i hi hiff => ?_⟩ (fun B d _ h => (hno B h).elim) hst' hx hm)
      · exact (between e5 (t := t) (m := 0) i (by omega) hi fun j s hj _ h2 hs => hno j ((hiff j s hj hs).2 h2).1).symm
      · exact (betweenH hq e5 (r := r) (m := 0) i (by omega) hi fun j s hj _ h2 hs => hno j ((hiff j s hj hs).2 h2).1).symm
    rcases hd with ⟨h, _⟩ | ⟨_, hd | ⟨B, d, hd, hB, hB0, hund⟩⟩
    · cases h
    · simp only [drawOk, Bool.and_eq_true] at hd
      exact go none hd.2 hd.1.1 hd.1.2 (fun _ _ h => by cases h)
    · simp only [lateOk, Bool.and_eq_true, Bool.not_eq_true'] at hd
      obtain ⟨⟨⟨⟨⟨d1, d2⟩, d3⟩, d4⟩, d5⟩, d6⟩ := hd
      refine go (some (B, d)) d6 d1 d2 (fun B' d' h => ?_)
      cases h
      refine ⟨hB, hB0, hund, fun j x hj hx => ?_, d4, fun j hj k hk => ?_⟩
      · have := List.all_eq_true.1 d3 (x, j) (by
          rw [List.mem_iff_getElem?]
          exact ⟨j, by simp [List.getElem?_zipIdx, hj]⟩)
        simp only [hx, Bool.or_eq_true, beq_iff_eq, bne_self_eq_false, Bool.false_eq_true, or_false] at this
        exact this
      · by_cases hjl : j < (masks [] ops.toList).length
        · have hm := List.all_eq_true.1 d5 ((masks [] ops.toList).getD j 0) (by
            rw [List.getD_eq_getElem?_getD, List.getElem?_eq_getElem hjl]
            exact List.getElem_mem _)
          rw [hj] at hm
          simp only [Bool.not_true, Bool.false_or] at hm
          exact List.all_eq_true.1 hm k (by simpa using hk)
        · rw [List.getD_eq_getElem?_getD, List.getElem?_eq_none (by omega)] at hj
          simp at hj

end
end Go.Zc
end
section
namespace Go.Zc
variable [Globs]

def exOf : Ex → Exit
  | .norm => .normal
  | .exit k => .exit k
  | .ret => .ret

section
variable {P : Program} {w : World} {F : Nat → Prop} {ι : IM} {H : Heap} {env : Env} {a : Act}

theorem at_keep (env : Env) : ∀ (l : List Nat) (t : Nat), Env.at (keep env l) t = if t ∈ l then Env.at env t else .und
  | [], t => by simp [keep, Env.at, look]
  | x :: l, t => by
    simp only [keep, look_cons, at_keep env l t, List.mem_cons]
    by_cases h : t = x
    · subst h; simp
    · simp [h]

theorem look_keepB (bx : List (Nat × List CV)) : ∀ (l : List Nat) (t : Nat), look (keepB bx l) t = if t ∈ l then look bx t else none
  | [], t => by simp [keepB, look]
  | x :: l, t => by
    simp only [keepB, List.mem_cons]
    split
    · rename_i cs hcs
      simp only [look, look_keepB bx l t]
      by_cases h : t = x
      · subst h; simp [hcs]
      · simp [beq_ne (fun e => h e.symm), h]
    · rename_i hn
      rw [look_keepB bx l t]
      by_cases h : t = x
      · subst h; simp [hn]
      · simp [h]

theorem mem_look {α : Type} : ∀ {l : List (Nat × α)} {s : Nat} {x : α}, look l s = some x → (s, x) ∈ l
  | [], _, _, h => by simp [look] at h
  | (i, y) :: l, s, x, h => by
    simp only [look] at h
    by_cases e : i = s
    · subst e; simp at h; subst h; simp
    · simp only [beq_ne e, cond_false] at h
      exact List.mem_cons_of_mem _ (mem_look h)

theorem mem_keep : ∀ (l : List Nat) {t : Nat}, t ∈ l → (t, Env.at env t) ∈ keep env l
  | x :: l, t, h => by
    simp only [keep]
    rcases List.mem_cons.1 h with rfl | h
    · simp
    · exact List.mem_cons_of_mem _ (mem_keep l h)

/-- Slots that are let go. -/
theorem keep_ok {n : Nat} {l : List Nat} {env' : Env} {H' : Heap} (h : keepE l env H = some (env', H')) (hst : St n w F ι H env a) : ∃ ι', St n w F ι' H' env' a ∧ Ext w F ι H w F ι' H' := by
  unfold keepE at h
  split at h <;> (try cases h)
  rename_i hchk
  simp only [chk, Bool.and_eq_true] at hchk
  obtain ⟨hc1, hc2⟩ := hchk
  let ι' : IM := ⟨fun s => if s ∈ l then ι.lo s else none, ι.bl⟩
  have hglob : ι'.glob = ι.glob := rfl
  have hle : ι.glob.le ι' := fun i b hb => by cases i <;> simp_all [IM.glob, IM.get, ι']
  have hmono : ∀ {c : CV} {v : Value}, VR w F ι.glob c v → VR w F ι' c v := fun h => VR.mono ⟨⟨fun _ h => h, fun _ _ => rfl⟩, hle, fun _ _ h => h⟩ _ _ h
  have hget : ∀ i cs, (⟨keepB H.bx l, H.bl⟩ : Heap).get i = some cs → H.get i = some cs ∧ ι'.get i = ι.get i := by
    intro i cs hg
    cases i with
    | loc s =>
      simp only [Heap.get, look_keepB] at hg ⊢
      split at hg
      · rename_i hs
        exact ⟨hg, by simp [IM.get, ι', hs]⟩
      · cases hg
    | blk m => exact ⟨hg, rfl⟩
  have hlive : ∀ i, (⟨keepB H.bx l, H.bl⟩ : Heap).live i → H.live i ∧ ι'.get i = ι.get i := by
    intro i hi
    rcases live_iff.1 hi with ⟨cs, h'⟩ | ⟨m, es, rfl, h'⟩
    · exact ⟨live_iff.2 (.inl ⟨cs, (hget i cs h').1⟩), (hget i cs h').2⟩
    · exact ⟨live_iff.2 (.inr ⟨m, es, rfl, h'⟩), rfl⟩
  have hi := hst.i
  refine ⟨ι', ⟨⟨?_, hst.e.g⟩, ?_, hst.d, hst.s⟩, ?_⟩
  · intro t
    rw [at_keep]
    split
    · rename_i htl
      have hv := hst.e t
      have hck := List.all_eq_true.1 hc1 _ (mem_keep (env := env) l htl)
      cases hcv : Env.at env t with
      | op i off =>
        rw [hcv] at hv hck
        cases i with
        | loc s =>
          simp only [chkV, List.contains_eq_mem, decide_eq_true_eq] at hck
          simp only [VR] at hv ⊢
          obtain ⟨b, h1, h2⟩ := hv
          exact ⟨b, by simpa [IM.get, ι', hck] using h1, h2⟩
        | blk m => simpa [VR, IM.get, ι'] using hv
      | _ =>
        rw [hcv] at hv hck
        exact hmono (VR.noloc _ _ (by simpa [chkV] using hck) hv)
    · simp [VR, BR]
  · refine ⟨hi.len, ?_, ?_, ?_, ?_, hi.lt, ?_, hi.gl⟩
    · intro i cs hg
      obtain ⟨h1, h2⟩ := hget i cs hg
      obtain ⟨b, c, e, h3, h4, h5, h6⟩ := hi.cells i cs h1
      refine ⟨b, c, e, by rw [h2]; exact h3, h4, ?_, h6⟩
      cases i with
      | blk m => exact h5
      | loc s =>
        have hno : CV.locs cs = false := by
          have := List.all_eq_true.1 hc2 _ (mem_look hg)
          simpa using this
        intro j x hx
        obtain ⟨u, g1, g2⟩ := h5 j x hx
        refine ⟨u, g1, hmono (VR.noloc x u ?_ g2)⟩
        have : ∀ (cs : List CV), CV.locs cs = false → ∀ (j : Nat) (x : CV), cs[j]? = some x → x.locv = false := by
          intro cs
          induction cs with
          | nil => intro _ j x hx; simp at hx
          | cons c cs ih =>
            intro hl j x hx
            simp only [CV.locs, Bool.or_eq_false_iff] at hl
            cases j with
            | zero => simp at hx; subst hx; exact hl.1
            | succ j => exact ih hl.2 j x (by simpa using hx)
        exact this cs hno j x hx
    · intro m es hm
      exact hi.maps m es hm
    · intro i j b h1 h2 h3 h4
      rw [(hlive i h1).2] at h3
      rw [(hlive j h2).2] at h4
      exact hi.inj i j b (hlive i h1).1 (hlive j h2).1 h3 h4
    · rintro b hb ⟨i, h1, h2⟩
      rw [(hlive i h1).2] at h2
      exact hi.dis b hb ⟨i, (hlive i h1).1, h2⟩
    · intro s hs
      show (if s ∈ l then ι.lo s else none) = none
      split
      · rename_i hsl
        refine hi.lo s ?_
        rw [look_keepB, if_pos hsl] at hs
        exact hs
      · rfl
  · refine ⟨rfl, rfl, rfl, fun _ _ h => h, fun _ h => h, fun _ h => .inl h, Nat.le_refl _, fun _ _ h => h, fun _ _ _ => rfl, ?_⟩
    rintro b ⟨i, h1, h2⟩
    rw [(hlive i h1).2] at h2
    exact .inl ⟨i, (hlive i h1).1, h2⟩

/-- Where code leads that comes to 'x', 'env'', 'H''. -/
def Post (n : Nat) (w : World) (F : Nat → Prop) (ι : IM) (H : Heap) (x : Ex) (env' : Env) (H' : Heap) (e : Exit) (a' : Act) (w' : World) : Prop :=
  e = exOf x ∧ ∃ F' ι', St n w' F' ι' H' env' a' ∧ Ext w F ι H w' F' ι' H'

theorem EnvR.keep {rs : List Nat} (h : EnvR w F ι env a) : EnvR w F ι (Zc.keep env rs) a := ⟨fun t => by
  rw [at_keep]
  split
  · exact h t
  · simp [VR, BR], h.g⟩

theorem join_ok {n : Nat} {lo : Option (List Nat)} {x : Ex} {env' : Env} {H' : Heap} (h : joinE lo env H = some (x, env', H')) (hst : St n w F ι H env a) : x = .norm ∧ ∃ ι', St n w F ι' H' env' a ∧ Ext w F ι H w F ι' H' := by
  cases lo with
  | none =>
    simp only [joinE, Option.some.injEq, Prod.mk.injEq] at h
    obtain ⟨rfl, rfl, rfl⟩ := h
    exact ⟨rfl, ι, hst, Ext.refl _ _ _ _⟩
  | some l =>
    simp only [joinE, Option.map_eq_some_iff, Prod.mk.injEq] at h
    obtain ⟨⟨e1, H1⟩, h1, rfl, rfl, rfl⟩ := h
    exact ⟨rfl, keep_ok h1 hst⟩

theorem loop_ok {n id : Nat} {li lo : List Nat} {c : Code} {f : Env → Heap → Out}
    (hf : ∀ (w : World) (F : Nat → Prop) (ι : IM) (H : Heap) (env : Env) (a : Act) (x : Ex) (env' : Env) (H' : Heap), f env H = some (x, env', H') → St n w F ι H env a → c.wp P (Post n w F ι H x env' H') a w) :
    ∀ (m : Nat) (w : World) (F : Nat → Prop) (ι : IM) (H : Heap) (env : Env) (a : Act) (x : Ex) (env' : Env) (H' : Heap), iter id li lo f m env H = some (x, env', H') → St n w F ι H env a →
      ∀ (b : Frame) (k : List Item) (cs : List Frame), ∃ e a' w', Exit.inBlock id (Post n w F ι H x env' H') e a' w' ∧ Arrives P (lone (b.at a (.code c :: .inLoop c :: k)) cs w) b k cs e a' w'
  | 0, _, _, _, _, _, _, _, _, _, h, _, _, _, _ => by simp [iter] at h
  | m + 1, w, F, ι, H, env, a, x, env', H', h, hst, b, k, cs => by
    simp only [iter, Option.bind_eq_some_iff] at h
    obtain ⟨⟨env1, H1⟩, h1, ⟨x1, env2, H2⟩, h2, h3⟩ := h
    obtain ⟨ι1, hst1, hext1⟩ := keep_ok h1 hst
    obtain ⟨e, a1, w1, ⟨rfl, F2, ι2, hst2, hext2⟩, harr⟩ := hf w F ι1 H1 env1 a x1 env2 H2 h2 hst1 b (.inLoop c :: k) cs
    have hext := hext1.trans hext2
    cases x1 with
    | norm =>
      simp only at h3
      obtain ⟨e, a', w', hq, harr2⟩ := loop_ok hf m w1 F2 ι2 H2 env2 a1 x env' H' h3 hst2 b k cs
      refine ⟨e, a', w', ?_, .of_steps (Steps.trans harr (.one step_inLoop)) harr2⟩
      revert hq
      cases e <;> simp only [Exit.inBlock] <;> (try split) <;> rintro ⟨q1, F', ι', q2, q3⟩ <;> exact ⟨q1, F', ι', q2, hext.trans q3⟩
    | exit j =>
      simp only at h3
      refine ⟨.exit j, a1, w1, ?_, .pass (x := .inLoop c) rfl (fun _ _ => .inl (by simp)) harr⟩
      by_cases hj : j = id
      · rw [if_pos hj] at h3
        simp only [Option.map_eq_some_iff, Prod.mk.injEq] at h3
        obtain ⟨⟨env3, H3⟩, h4, rfl, rfl, rfl⟩ := h3
        obtain ⟨ι3, hst3, hext3⟩ := keep_ok h4 hst2
        simp only [Exit.inBlock, if_pos hj]
        exact ⟨rfl, F2, ι3, hst3, hext.trans hext3⟩
      · rw [if_neg hj] at h3
        simp only [Option.some.injEq, Prod.mk.injEq] at h3
        obtain ⟨rfl, rfl, rfl⟩ := h3
        simp only [Exit.inBlock, if_neg hj]
        exact ⟨rfl, F2, ι2, hst2, hext⟩
    | ret =>
      simp only [Option.some.injEq, Prod.mk.injEq] at h3
      obtain ⟨rfl, rfl, rfl⟩ := h3
      refine ⟨.ret, a1, w1, ?_, .pass (x := .inLoop c) rfl (fun _ _ => .inl (by simp)) harr⟩
      simp only [Exit.inBlock]
      exact ⟨rfl, F2, ι2, hst2, hext⟩

theorem mkAt_get : ∀ {l : List CStm} {i B d : Nat}, mkAt l i = some (B, d) → ∃ k, B = i + k ∧ l[k]? = some ⟨some d, .h .mkmap, [], none⟩
  | [], _, _, _, h => by simp [mkAt] at h
  | s :: r, i, B, d, h => by
    unfold mkAt at h
    split at h
    · cases ‹_ = _›
    · rename_i d' r' heq
      cases heq
      simp only [Option.some.injEq, Prod.mk.injEq] at h
      obtain ⟨rfl, rfl⟩ := h
      exact ⟨0, rfl, rfl⟩
    · rename_i heq
      cases heq
      obtain ⟨k, h1, h2⟩ := mkAt_get h
      exact ⟨k + 1, by omega, by simpa using h2⟩

theorem reg_ok {call : Caller} (hcall : CallerOk P call) {quiet : FuncId → Bool} (hq : QuietOk call quiet) (hmix : P.follows .mixedOrders = true) {an : Ann} {n lf : Nat} (id : Nat) (ops : Array Oper) (draw : Bool) :
    ∀ (c : CCode) (w : World) (F : Nat → Prop) (ι : IM) (H : Heap) (env : Env) (a : Act) (x : Ex) (env' : Env) (H' : Heap), compReg P quiet an n ops draw = some c → runC call lf c env H = some (x, env', H') → St n w F ι H env a →
      (Code.region id ops draw).wp P (Post n w F ι H x env' H') a w := by
  intro c w F ι H env a x env' H' hc hr hst
  simp only [compReg] at hc
  have hne : c ≠ bad := by rintro rfl; simp [runC, bad, ev] at hr
  cases hl : compStms P an n ops ops.toList with
  | none => simp only [hl, Option.some.injEq] at hc; exact (hne hc.symm).elim
  | some l =>
  simp only [hl] at hc
  have fin : ∀ l', c = .ops l' → (l'.length = l.length ∧ ∀ (k : Nat) (s : CStm), l[k]? = some s → ∃ s', l'[k]? = some s' ∧ Sharp quiet s s') → ((draw = false ∧ l' = l) ∨ (draw = true ∧ drawOk quiet ops l' = true)) → (Code.region id ops draw).wp P (Post n w F ι H x env' H') a w := by
    rintro l' rfl hsh hd
    replace hd : (draw = false ∧ l' = l) ∨ (draw = true ∧ (drawOk quiet ops l' = true ∨ ∃ B d, lateOk quiet ops l' B d = true ∧ l'[B]? = some ⟨some d, .hb .mkmap, [], none⟩ ∧ l[B]? = some ⟨some d, .h .mkmap, [], none⟩ ∧ Env.at env d = .und)) := hd.imp (fun h => h) fun h => ⟨h.1, .inl h.2⟩
    simp only [runC, Option.map_eq_some_iff, Prod.mk.injEq] at hr
    obtain ⟨⟨e1, H1⟩, h1, rfl, rfl, rfl⟩ := hr
    exact region_ok hcall hq hmix hl hsh hd h1 hst fun a' w' F' ι' g1 g2 _ => ⟨rfl, F', ι', g1, g2⟩
  split at hc
  · rename_i hd
    simp only [Option.some.injEq] at hc
    refine fin l hc.symm ⟨rfl, fun k s hk => ⟨s, hk, Sharp.refl _ s⟩⟩ ?_
    cases draw with
    | false => exact .inl ⟨rfl, rfl⟩
    | true => exact .inr ⟨rfl, by simpa using hd⟩
  · split at hc
    · rename_i hnd hd
      simp only [Option.some.injEq] at hc
      refine fin _ hc.symm ⟨by simp, fun k s hk => ⟨_, by rw [List.getElem?_map, hk]; rfl, focus_sharp _ _ _ _⟩⟩ ?_
      cases draw with
      | false => simp at hnd
      | true => exact .inr ⟨rfl, hd⟩
    · have fin2 : ∀ b, some (CCode.ops ((l.map (focus an.boxes l)).map (focusC quiet b))) = some c → drawOk quiet ops ((l.map (focus an.boxes l)).map (focusC quiet b)) = true → (Code.region id ops draw).wp P (Post n w F ι H x env' H') a w := by
        intro b hc hd
        simp only [Option.some.injEq] at hc
        refine fin _ hc.symm ⟨by simp, fun k s hk => ⟨_, by rw [List.getElem?_map, List.getElem?_map, hk]; rfl, (focus_sharp _ _ _ _).trans (focusC_sharp _ _ _)⟩⟩ ?_
        cases draw with
        | false => simp_all
        | true => exact .inr ⟨rfl, hd⟩
      have hdraw : draw = true := by cases draw with | false => simp_all | true => rfl
      split at hc
      · rename_i hd
        simp only [Bool.and_eq_true] at hd
        simp only [Option.some.injEq] at hc
        exact fin _ hc.symm ⟨by simp, fun k s hk => ⟨_, by rw [List.getElem?_map, List.getElem?_map, hk]; rfl, (focus_sharp _ _ _ _).trans (focusK_sharp _ _ _)⟩⟩ (.inr ⟨hdraw, hd.2⟩)
      split at hc
      · rename_i hd; exact fin2 false hc hd
      · split at hc
        · rename_i hd; exact fin2 true hc hd
        · split at hc
          · rename_i B d hmk
            split at hc
            · rename_i hlate
              simp only [Option.some.injEq] at hc
              subst hc
              simp only [runC, Option.map_eq_some_iff, Prod.mk.injEq] at hr
              obtain ⟨⟨e1, H1⟩, h1, rfl, rfl, rfl⟩ := hr
              obtain ⟨v, H2, h2, h3⟩ := runOps_cons h1
              have hund : Env.at env d = .und ∧ H2 = H := by
                simp only [Stepped, chkS, runOp, evs, ev, pureOp, Option.map_eq_some_iff, Prod.mk.injEq] at h2
                obtain ⟨y, hy, _, rfl⟩ := h2
                split at hy <;> (try cases hy)
                refine ⟨?_, rfl⟩
                cases hev : Env.at env d with
                | und => rfl
                | _ => simp_all [CV.und?]
              obtain ⟨hund, rfl⟩ := hund
              obtain ⟨k, hk1, hk2⟩ := mkAt_get hmk
              have hBk : B = k := by omega
              subst hBk
              exact region_ok hcall hq hmix hl (l := (l.map (focus an.boxes l)).map (focusC quiet false)) ⟨by simp, fun k s hk => ⟨_, by rw [List.getElem?_map, List.getElem?_map, hk]; rfl, (focus_sharp _ _ _ _).trans (focusC_sharp _ _ _)⟩⟩
                (.inr ⟨hdraw, .inr ⟨B, d, hlate, by rw [List.getElem?_map, List.getElem?_map, hk2]; rfl, hk2, hund⟩⟩) h3 hst fun a' w' F' ι' g1 g2 _ => ⟨rfl, F', ι', g1, g2⟩
            · exact (hne (Option.some.inj hc).symm).elim
          · exact (hne (Option.some.inj hc).symm).elim

theorem BRc_at {w : World} {F : Nat → Prop} {b : Nat} : ∀ (cs : List CV) (o : Nat), (∀ (j : Nat) (x : CV), cs[j]? = some x → ∃ u, w.cell? ⟨b, o + j, none⟩ = some u ∧ BR w F x u) → BRc w F cs b o
  | [], _, _ => by simp [BRc]
  | c :: cs, o, h => by
    simp only [BRc]
    refine ⟨by simpa using h 0 c rfl, BRc_at cs (o + 1) fun j x hx => ?_⟩
    have := h (j + 1) x (by simpa using hx)
    rwa [show o + (j + 1) = o + 1 + j by omega] at this
theorem refs_get : ∀ {cs : List CV}, CV.refs cs = false → ∀ (j : Nat) (x : CV), cs[j]? = some x → x.ref = false
  | [], _, j, x, hx => by simp at hx
  | c :: cs, h, j, x, hx => by
    simp only [CV.refs, Bool.or_eq_false_iff] at h
    cases j with
    | zero => simp only [List.getElem?_cons_zero, Option.some.injEq] at hx; subst hx; exact h.1
    | succ j => exact refs_get h.2 j x (by simpa using hx)
theorem frz_ok {n : Nat} {t : Nat} {env' : Env} {H' : Heap} (h : frzC t env H = some (env', H')) (hst : St n w F ι H env a) : ∃ F', St n w F' ι H' env' a ∧ Ext w F ι H w F' ι H' := by
  unfold frzC at h
  split at h <;> (try cases h)
  rename_i k ht
  split at h <;> (try cases h)
  rename_i cs hcs
  split at h <;> (try cases h)
  rename_i hr
  have hr' : CV.refs cs = false := by simpa using hr
  obtain ⟨b, c, e, h1, h2, h3, h4⟩ := hst.i.cells (.blk k) cs hcs
  have hlk : H.live (.blk k) := live_iff.2 (.inl ⟨cs, hcs⟩)
  have hl : Live ι H b := ⟨.blk k, hlk, h1⟩
  have hbl : b < w.heap.size := hst.i.live_lt hl
  have hdead : ¬ Live ι (H.kill (.blk k)) b := by
    rintro ⟨i, g1, g2⟩
    obtain ⟨g3, g4⟩ := live_kill g1
    exact g3 (hst.i.inj i (.blk k) b g4 hlk g2 h1)
  have hi' : Inv w (fun x => F x ∨ x = b) ι (H.kill (.blk k)) := (hst.i.kill k).freeze (fun _ h => .inl h) (fun x hx => by
    rcases hx with hx | rfl
    · exact (hst.i.kill k).dis x hx
    · exact hdead) (fun x hx => by
    rcases hx with hx | rfl
    · exact hst.i.lt x hx
    · exact hbl)
  have hm : MoV w w F (fun x => F x ∨ x = b) ι ι := ⟨⟨fun _ h => .inl h, fun _ _ => rfl⟩, fun _ _ h => h, fun _ _ h => h⟩
  refine ⟨_, ⟨⟨fun u => ?_, hst.e.g.mono hm.toMo⟩, hi', hst.d, hst.s⟩, ⟨rfl, rfl, rfl, fun _ _ h => h, fun _ h => .inl h, fun x hx => ?_, Nat.le_refl _, fun _ _ h => h, fun _ _ _ => rfl, fun x hx => ?_⟩⟩
  · have hu := hst.e u
    by_cases hut : u = t
    · subst hut
      rw [ht] at hu
      simp only [VR] at hu
      obtain ⟨b', g1, g2⟩ := hu
      have hbb : b' = b := by
        have h1' : ι.get (.blk k) = some b := h1
        rw [h1'] at g1
        exact (Option.some.inj g1).symm
      subst hbb
      have hat : Env.at ((u, CV.vp cs) :: env) u = .vp cs := by simp [Env.at, look]
      rw [hat, g2]
      simp only [VR, BR]
      refine ⟨b', 0, rfl, .inr rfl, BRc_at cs 0 fun j x hx => ?_⟩
      obtain ⟨y, y1, y2⟩ := h3 j x hx
      refine ⟨y, ?_, ?_⟩
      · simp only [World.cell?, h2, Nat.zero_add]
        simpa using y1
      · exact BR.mono hm.toMo _ _ (VR.bv x y (refs_get hr' j x hx) y2)
    · have hat : Env.at ((t, CV.vp cs) :: env) u = Env.at env u := by
        have : (t.beq u) = false := by
          cases h : t.beq u with
          | true => exact (hut (Nat.eq_of_beq_eq_true h).symm).elim
          | false => rfl
        simp [Env.at, look, this]
      rw [hat]
      exact VR.mono hm _ _ hu
  · rcases hx with hx | rfl
    · exact .inl hx
    · exact .inr (.inr hl)
  · obtain ⟨i, g1, g2⟩ := hx
    exact .inl ⟨i, (live_kill g1).2, g2⟩

theorem code_ok {call : Caller} (hcall : CallerOk P call) {quiet : FuncId → Bool} (hq : QuietOk call quiet) (hmix : P.follows .mixedOrders = true) {an : Ann} {n lf : Nat} {rs : List Nat} (code : Code) :
    ∀ (c : CCode) (w : World) (F : Nat → Prop) (ι : IM) (H : Heap) (env : Env) (a : Act) (x : Ex) (env' : Env) (H' : Heap), compC P quiet an n rs code = some c → runC call lf c env H = some (x, env', H') → St n w F ι H env a →
      code.wp P (Post n w F ι H x env' H') a w := by
  intro c w F ι H env a x env' H' hc hr hst
  match code with
  | .skip =>
    simp only [compC, Option.some.injEq] at hc
    subst hc
    simp only [runC, Option.some.injEq, Prod.mk.injEq] at hr
    obtain ⟨rfl, rfl, rfl⟩ := hr
    exact wp_skip ⟨rfl, F, ι, hst, Ext.refl _ _ _ _⟩
  | .region id ops draw =>
    simp only [compC, Option.map_eq_some_iff] at hc
    obtain ⟨c0, h0, rfl⟩ := hc
    have base := fun x env' H' hr => reg_ok hcall hq hmix (lf := lf) id ops draw c0 w F ι H env a x env' H' h0 hr hst
    have all : ∀ (l : List Nat) (c : CCode), (∀ x env' H', runC call lf c env H = some (x, env', H') → (Code.region id ops draw).wp P (Post n w F ι H x env' H') a w) →
        ∀ x env' H', runC call lf (frzAll c l) env H = some (x, env', H') → (Code.region id ops draw).wp P (Post n w F ι H x env' H') a w := by
      intro l
      induction l with
      | nil => intro c hc; exact hc
      | cons t l ih =>
        intro c hc
        refine ih (.seq c (.frz t)) ?_
        intro x env' H' hr
        simp only [runC, Option.bind_eq_some_iff] at hr
        obtain ⟨⟨x1, env1, H1⟩, h1, h2⟩ := hr
        refine wp_mono (hc x1 env1 H1 h1) ?_
        rintro e a1 w1 ⟨rfl, F1, ι1, hst1, hext1⟩
        cases x1 with
        | norm =>
          simp only [Option.map_eq_some_iff, Prod.mk.injEq] at h2
          obtain ⟨⟨e2, H2⟩, h3, rfl, rfl, rfl⟩ := h2
          obtain ⟨F2, g1, g2⟩ := frz_ok h3 hst1
          exact ⟨rfl, F2, ι1, g1, hext1.trans g2⟩
        | exit k =>
          simp only [Option.some.injEq, Prod.mk.injEq] at h2
          obtain ⟨rfl, rfl, rfl⟩ := h2
          exact ⟨rfl, F1, ι1, hst1, hext1⟩
        | ret =>
          simp only [Option.some.injEq, Prod.mk.injEq] at h2
          obtain ⟨rfl, rfl, rfl⟩ := h2
          exact ⟨rfl, F1, ι1, hst1, hext1⟩
    exact all _ c0 base x env' H' hr
  | .seq p q =>
    simp only [compC, Option.bind_eq_some_iff, Option.map_eq_some_iff] at hc
    obtain ⟨cp, hp, cq, hqc, rfl⟩ := hc
    simp only [runC, Option.bind_eq_some_iff] at hr
    obtain ⟨⟨x1, env1, H1⟩, h1, h2⟩ := hr
    have hp' := code_ok hcall hq hmix p cp w F ι H env a x1 env1 H1 hp h1 hst
    refine wp_seq (wp_mono hp' ?_)
    rintro e a1 w1 ⟨rfl, F1, ι1, hst1, hext1⟩
    cases x1 with
    | norm =>
      refine wp_mono (code_ok hcall hq hmix q cq w1 F1 ι1 H1 env1 a1 x env' H' hqc h2 hst1) ?_
      rintro e a2 w2 ⟨rfl, F2, ι2, hst2, hext2⟩
      exact ⟨rfl, F2, ι2, hst2, hext1.trans hext2⟩
    | exit k =>
      simp only [Option.some.injEq, Prod.mk.injEq] at h2
      obtain ⟨rfl, rfl, rfl⟩ := h2
      exact ⟨rfl, F1, ι1, hst1, hext1⟩
    | ret =>
      simp only [Option.some.injEq, Prod.mk.injEq] at h2
      obtain ⟨rfl, rfl, rfl⟩ := h2
      exact ⟨rfl, F1, ι1, hst1, hext1⟩
  | .cond o p q =>
    simp only [compC, Option.bind_eq_some_iff, Option.map_eq_some_iff] at hc
    obtain ⟨co, ho, cp, hp, cq, hqc, rfl⟩ := hc
    simp only [runC] at hr
    split at hr <;> (try cases hr)
    rename_i t ht
    have hv := opd_ok hst.e ho
    rw [ht] at hv
    cases t with
    | true =>
      simp only [if_true] at hr
      exact wp_cond_true hv.bool (code_ok hcall hq hmix p cp w F ι H env a x env' H' hp hr hst)
    | false =>
      simp only [Bool.false_eq_true, if_false] at hr
      exact wp_cond_false hv.bool (code_ok hcall hq hmix q cq w F ι H env a x env' H' hqc hr hst)
  | .exit id =>
    simp only [compC, Option.some.injEq] at hc
    subst hc
    simp only [runC, Option.some.injEq, Prod.mk.injEq] at hr
    obtain ⟨rfl, rfl, rfl⟩ := hr
    exact wp_exit ⟨rfl, F, ι, hst, Ext.refl _ _ _ _⟩
  | .ret =>
    simp only [compC, Option.some.injEq] at hc
    subst hc
    simp only [runC, Option.some.injEq, Prod.mk.injEq] at hr
    obtain ⟨rfl, rfl, rfl⟩ := hr
    exact wp_ret ⟨rfl, F, ι, ⟨hst.e.keep, hst.i, hst.d, hst.s⟩, Ext.refl _ _ _ _⟩
  | .block id body =>
    by_cases hb : ∃ c', body = .loop c'
    · obtain ⟨c', hbc⟩ := hb
      have hlt : SizeOf.sizeOf c' < SizeOf.sizeOf body := by rw [hbc]; simp
      rw [hbc] at hc ⊢
      simp only [compC, Option.bind_eq_some_iff, Option.map_eq_some_iff] at hc
      obtain ⟨cc, hcc, l, hl, rfl⟩ := hc
      simp only [runC] at hr
      refine wp_block ?_
      intro b k cs
      obtain ⟨e, a', w', hq', harr⟩ := loop_ok (P := P) (n := n) (id := id) (c := c') (f := fun e h => runC call lf cc e h)
        (fun w F ι H env a x env' H' h hst => code_ok hcall hq hmix c' cc w F ι H env a x env' H' hcc h hst) lf w F ι H env a x env' H' hr hst b k cs
      exact ⟨e, a', w', hq', .of_steps (.one step_loop) harr⟩
    · have hc' : ((compC P quiet an n rs body).bind fun y => some (CCode.block id (look an.blocks id) y)) = some c := by
        rw [← hc]
        cases body <;> first | rfl | exact (hb ⟨_, rfl⟩).elim
      simp only [Option.bind_eq_some_iff, Option.some.injEq] at hc'
      obtain ⟨cb, hcb, rfl⟩ := hc'
      simp only [runC, Option.bind_eq_some_iff] at hr
      obtain ⟨⟨x1, env1, H1⟩, h1, h2⟩ := hr
      have hb' := code_ok hcall hq hmix body cb w F ι H env a x1 env1 H1 hcb h1 hst
      refine wp_block (wp_mono hb' ?_)
      rintro e a1 w1 ⟨rfl, F1, ι1, hst1, hext1⟩
      cases x1 with
      | norm =>
        simp only at h2
        obtain ⟨rfl, ι2, hst2, hext2⟩ := join_ok h2 hst1
        exact ⟨rfl, F1, ι2, hst2, hext1.trans hext2⟩
      | exit k =>
        simp only at h2
        simp only [exOf, Exit.inBlock]
        split
        · rename_i hk
          rw [if_pos hk] at h2
          obtain ⟨rfl, ι2, hst2, hext2⟩ := join_ok h2 hst1
          exact ⟨rfl, F1, ι2, hst2, hext1.trans hext2⟩
        · rename_i hk
          rw [if_neg hk] at h2
          simp only [Option.some.injEq, Prod.mk.injEq] at h2
          obtain ⟨rfl, rfl, rfl⟩ := h2
          exact ⟨rfl, F1, ι1, hst1, hext1⟩
      | ret =>
        simp only [Option.some.injEq, Prod.mk.injEq] at h2
        obtain ⟨rfl, rfl, rfl⟩ := h2
        exact ⟨rfl, F1, ι1, hst1, hext1⟩
  | .loop _ | .rangeFunc _ _ _ _ | .scope _ | .label _ | .goto _ | .refuse _ =>
    simp only [compC, Option.some.injEq] at hc
    subst hc
    simp [runC, bad, ev] at hr
termination_by SizeOf.sizeOf code
decreasing_by all_goals simp_wf; omega

end
end Go.Zc
end
section
namespace Go.Zc
variable [Globs]

section
variable {P : Program} {w : World} {F : Nat → Prop} {ι : IM} {H : Heap} {env : Env} {a : Act}

/-- A function whose contract is proved by itself. -/
def PrimOk (P : Program) (k : FuncId) (s : List CV → List Blk → Option (CV × List Blk)) : Prop :=
  ∃ fn, P.funcs[k]? = some fn ∧ fn.body.isSome = true ∧ (fn.name == "runtime.NumGoroutine") = false ∧
    ∀ args bl v bl', s args bl = some (v, bl') → ∀ (w : World) (F : Nat → Prop) (ι : IM) (as : List Value), (∀ s, ι.lo s = none) → Inv w F ι ⟨[], bl⟩ → VRl w F ι args as →
      Calls P k as.toArray w fun e w' => ∃ v' F' ι' bx, e = .returned v' ∧ VR w' F' ι' v v' ∧ Inv w' F' ι' ⟨bx, bl'⟩ ∧ Ext w F ι ⟨[], bl⟩ w' F' ι' ⟨bx, bl'⟩

def quietOf (C : Ctx) (k : FuncId) : Bool :=
  (C.prim k).isNone && match C.info k with
    | some I => match I.mode with | .fz _ => true | _ => false
    | none => false

structure CtxOk (P : Program) (C : Ctx) : Prop where
  mix : P.follows .mixedOrders = true
  info : ∀ k I, C.prim k = none → C.info k = some I → ∃ fn an, P.funcs[k]? = some fn ∧ compF P (quietOf C) an I.mode fn = some I
  prim : ∀ k s, C.prim k = some s → PrimOk P k s

theorem at_enter : ∀ (as : List CV) (i t : Nat), Env.at (enterC i as) t = if i ≤ t then (as[t - i]?).getD .und else .und
  | [], i, t => by simp [enterC, Env.at, look]
  | v :: r, i, t => by
    simp only [enterC, look_cons, at_enter r (i + 1) t]
    by_cases h : t = i
    · subst h; simp
    · rw [if_neg h]
      by_cases h2 : i ≤ t
      · rw [if_pos h2, if_pos (by omega), show t - i = (t - (i + 1)) + 1 by omega]; simp
      · rw [if_neg h2, if_neg (by omega)]

def resSem (tmps : Array Value) : ResultVar → Sem Value
  | .tmp t => pure (tmps.getD t undef)
  | .cell ad t => do loadVar t (← asAddr (tmps.getD ad undef))

theorem results_eq (fn : Func) (tmps : Array Value) : results fn tmps = (do let vs ← fn.results.mapM (resSem tmps); pure (if h : vs.size = 1 then vs[0] else .tuple vs)) := by
  unfold results
  congr

theorem resOne_ok (hi : Inv w F ι H) (he : EnvR w F ι env a) {r : ResultVar} {rs : Res} (hc : compRes P [r] = some [rs]) {v : CV} (h : resOne env H rs = some v) :
    ∃ u, (resSem a.tmps r).run P w = .ok u w ∧ VR w F ι v u := by
  cases r with
  | tmp t =>
    simp only [compRes, Option.map_some, Option.some.injEq, List.cons.injEq, and_true] at hc
    subst hc
    simp only [resOne, Option.some.injEq] at h
    subst h
    exact ⟨_, rfl, he t⟩
  | cell ad t =>
    simp only [compRes, Option.map_some, Option.bind_eq_some_iff, Option.some.injEq, List.cons.injEq, and_true] at hc
    obtain ⟨s, hs, rfl⟩ := hc
    simp only [resOne, heapOp, Option.map_eq_some_iff] at h
    obtain ⟨⟨x, H1⟩, ⟨y, hy, hyx⟩, rfl⟩ := h
    cases hyx
    obtain ⟨ad', u, h1, h2, h3⟩ := loadC_ok (P := P) hi hs (he ad) hy
    refine ⟨u, ?_, h3⟩
    simp only [resSem, Sem.run_bind, h1, asAddr, Sem.run_pure, Result.andThen_ok]
    exact h2

theorem resAll_ok (hi : Inv w F ι H) (he : EnvR w F ι env a) : ∀ (rv : List ResultVar) (rs : List Res) (vs : List CV), compRes P rv = some rs → resAll env H rs = some vs →
    ∃ us : List Value, (rv.mapM (m := Sem) (resSem a.tmps)).run P w = .ok us w ∧ VRl w F ι vs us
  | [], rs, vs, hc, h => by
    simp only [compRes, Option.some.injEq] at hc
    subst hc
    simp only [resAll, Option.some.injEq] at h
    subst h
    exact ⟨[], by simp, by simp [VRl]⟩
  | r :: rv, rs, vs, hc, h => by
    have hsplit : ∃ r1 rs1, compRes P [r] = some [r1] ∧ compRes P rv = some rs1 ∧ rs = r1 :: rs1 := by
      cases r with
      | tmp t =>
        simp only [compRes, Option.map_eq_some_iff] at hc
        obtain ⟨l, h1, rfl⟩ := hc
        exact ⟨_, l, by simp [compRes], h1, rfl⟩
      | cell ad t =>
        simp only [compRes, Option.bind_eq_some_iff, Option.map_eq_some_iff] at hc
        obtain ⟨s, hs, l, h1, rfl⟩ := hc
        exact ⟨_, l, by simp [compRes, hs], h1, rfl⟩
    obtain ⟨r1, rs1, h1, h2, rfl⟩ := hsplit
    simp only [resAll, Option.bind_eq_some_iff, Option.map_eq_some_iff] at h
    obtain ⟨v, h3, l, h4, rfl⟩ := h
    obtain ⟨u, h5, h6⟩ := resOne_ok (P := P) hi he h1 h3
    obtain ⟨us, h7, h8⟩ := resAll_ok hi he rv rs1 l h2 h4
    refine ⟨u :: us, ?_, by simp only [VRl]; exact ⟨u, us, rfl, h6, h8⟩⟩
    rw [List.mapM_cons]
    simp only [Sem.run_bind]
    rw [h5]
    simp only [Result.andThen_ok, h7, Sem.run_pure]

/-- A body, run by the model. -/
theorem body_ok {call : Caller} (hcall : CallerOk P call) {quiet : FuncId → Bool} (hq : QuietOk call quiet) (hmix : P.follows .mixedOrders = true) {k : FuncId} {fn : Func} (hfn : P.funcs[k]? = some fn) {an : Ann} {mode : Mode} {I : FInfo} (hI : compF P quiet an mode fn = some I)
    {lf : Nat} {as : List CV} {bl : List Blk} {v : CV} {Hf : Heap} (h : bodyC (runC call lf) I as bl = some (v, Hf)) (hi : Inv w F ι ⟨[], bl⟩) {avs : List Value} (hargs : VRl w F ι as avs) :
    Calls P k avs.toArray w fun e w' => ∃ v' F' ι', e = .returned v' ∧ VR w' F' ι' v v' ∧ Inv w' F' ι' Hf ∧ Ext w F ι ⟨[], bl⟩ w' F' ι' Hf := by
  unfold compF at hI
  split at hI
  · cases hI
  · rename_i code hbody
    split at hI
    · cases hI
    · simp only [Option.bind_eq_some_iff, Option.map_eq_some_iff] at hI
      obtain ⟨cc, hcc, rs, hrs, rfl⟩ := hI
      unfold bodyC at h
      split at h <;> (try cases h)
      simp only [Option.bind_eq_some_iff] at h
      obtain ⟨⟨x, env', H1⟩, hrun, hres⟩ := h
      have hlen := VRl.length hargs
      let a0 : Act := { tmps := avs.toArray ++ Array.replicate (fn.ntmps - avs.toArray.size) undef, defers := [] }
      have hst : St fn.ntmps w F ι ⟨[], bl⟩ (enterC 0 as) a0 := by
        refine ⟨⟨fun t => ?_, hi.gl⟩, hi, rfl, by simp [a0]; omega⟩
        rw [at_enter, if_pos (Nat.zero_le _), Nat.sub_zero]
        cases hat : as[t]? with
        | none => simp [VR, BR]
        | some c =>
          obtain ⟨u, hu, huv⟩ := hargs.get t c hat
          have hlt := (List.getElem?_eq_some_iff.1 hu).1
          have : a0.tmps.getD t undef = u := by
            simp [a0, Array.getD_eq_getD_getElem?, Array.getElem?_append, hlt, (List.getElem?_eq_some_iff.1 hu).2]
          rw [this]
          exact huv
      have hwp := code_ok hcall hq hmix code cc w F ι ⟨[], bl⟩ (enterC 0 as) a0 x env' H1 hcc hrun hst
      refine calls_of_wp hfn hbody (wp_mono hwp ?_)
      rintro e a' w' ⟨rfl, F', ι', hst', hext⟩
      have fin : (resAll env' H1 rs).map (fun vs => (resV vs, H1)) = some (v, Hf) → a'.defers = [] ∧ ∃ u, (results fn a'.tmps).run P w' = .ok u w' ∧ ∃ v' F'' ι'', Ending.returned u = .returned v' ∧ VR w' F'' ι'' v v' ∧ Inv w' F'' ι'' Hf ∧ Ext w F ι ⟨[], bl⟩ w' F'' ι'' Hf := by
        intro hr
        simp only [Option.map_eq_some_iff, Prod.mk.injEq] at hr
        obtain ⟨vs, hvs, rfl, rfl⟩ := hr
        obtain ⟨us, h1, h2⟩ := resAll_ok (P := P) hst'.i hst'.e fn.results.toList rs vs hrs hvs
        refine ⟨hst'.d, if h : us.length = 1 then us[0] else .tuple us.toArray, ?_, _, F', ι', rfl, ?_, hst'.i, hext⟩
        · rw [results_eq, Array.mapM_eq_mapM_toList]
          simp only [Sem.run_bind, Sem.run_map, h1]
          simp
        · have hl := VRl.length h2
          cases vs with
          | nil =>
            simp only [VRl] at h2
            subst h2
            simp only [List.length_nil, resV, VR]
            exact ⟨_, rfl, by simp [VRl]⟩
          | cons c vs =>
            cases vs with
            | nil =>
              simp only [VRl] at h2
              obtain ⟨u, us', rfl, h3, rfl⟩ := h2
              simpa [resV] using h3
            | cons d vs =>
              have hne : ¬ us.length = 1 := by simp at hl; omega
              rw [dif_neg hne]
              simp only [resV, VR]
              exact ⟨_, rfl, by simpa using h2⟩
      cases x with
      | norm => exact fin hres
      | ret => exact fin hres
      | exit j => simp at hres

/-! ### What a caller keeps -/

theorem Inv.glob (hi : Inv w F ι H) : Inv w F ι.glob ⟨[], H.bl⟩ where
  len := hi.len
  cells := fun i cs h => by
    cases i with
    | loc s => simp [Heap.get, look] at h
    | blk n => exact hi.cells (.blk n) cs h
  maps := hi.maps
  inj := fun i j b h1 h2 h3 h4 => by
    cases i with
    | loc s => simp [Heap.live, look] at h1
    | blk n =>
      cases j with
      | loc s => simp [Heap.live, look] at h2
      | blk m => exact hi.inj (.blk n) (.blk m) b h1 h2 h3 h4
  dis := fun b hb ⟨i, h1, h2⟩ => by
    cases i with
    | loc s => simp [Heap.live, look] at h1
    | blk n => exact hi.dis b hb ⟨.blk n, h1, h2⟩
  lt := hi.lt
  lo := fun _ _ => rfl
  gl := hi.gl

/-- Behind a call that works on the caller's own memory. -/
theorem restore (hi : Inv w F ι H) {w' : World} {F' : Nat → Prop} {ι' : IM} {bx : List (Nat × List CV)} {bl : List Blk} (hi' : Inv w' F' ι' ⟨bx, bl⟩) (hx : Ext w F ι.glob ⟨[], H.bl⟩ w' F' ι' ⟨bx, bl⟩) :
    Inv w' F' ⟨ι.lo, ι'.bl⟩ ⟨H.bx, bl⟩ ∧ Ext w F ι H w' F' ⟨ι.lo, ι'.bl⟩ ⟨H.bx, bl⟩ ∧ MoV w w' F F' ι ⟨ι.lo, ι'.bl⟩ := by
  have hgl : ∀ b, Live ι.glob ⟨[], H.bl⟩ b → Live ι H b := by
    rintro b ⟨i, h1, h2⟩
    cases i with
    | loc s => simp [Heap.live, look] at h1
    | blk n => exact ⟨.blk n, h1, h2⟩
  have hF : ∀ b, F b → w'.heap[b]? = w.heap[b]? := fun b hb => hx.frame b (hi.lt b hb) fun h => hi.dis b hb (hgl b h)
  have hm : MoV w w' F F' ι ⟨ι.lo, ι'.bl⟩ := by
    refine ⟨⟨hx.fmono, hF⟩, fun i b hb => ?_, hx.csz⟩
    cases i with
    | loc s => exact hb
    | blk n => exact hx.pre n b hb
  have hbox : ∀ s b, H.live (.loc s) → ι.get (.loc s) = some b → b < w.heap.size ∧ ¬ Live ι.glob ⟨[], H.bl⟩ b := by
    intro s b h1 h2
    refine ⟨hi.live_lt ⟨.loc s, h1, h2⟩, ?_⟩
    rintro ⟨i, h3, h4⟩
    cases i with
    | loc t => simp [Heap.live, look] at h3
    | blk n =>
      have := hi.inj (.loc s) (.blk n) b h1 h3 h2 h4
      cases this
  have hblk : ∀ n b, (⟨H.bx, bl⟩ : Heap).live (.blk n) → ι'.bl[n]? = some b → Live ι.glob ⟨[], H.bl⟩ b ∨ w.heap.size ≤ b := fun n b h1 h2 => hx.live b ⟨.blk n, h1, h2⟩
  refine ⟨⟨hi'.len, ?_, ?_, ?_, ?_, hi'.lt, hi.lo, hi'.gl⟩, ⟨hx.os, hx.tape, hx.output, hx.pre, hx.fmono, fun b hb => (hx.fnew b hb).imp id (Or.imp id (hgl b)), hx.size, hx.csz, fun b hb hn => hx.frame b hb fun h => hn (hgl b h), ?_⟩, hm⟩
  · intro i cs h
    cases i with
    | loc s =>
      obtain ⟨b, c, e, h1, h2, h3, h4⟩ := hi.cells (.loc s) cs h
      obtain ⟨g1, g2⟩ := hbox s b ⟨cs, h⟩ h1
      exact ⟨b, c, e, h1, (hx.frame b g1 g2).trans h2, h3.mono hm, h4⟩
    | blk n => exact hi'.cells (.blk n) cs h
  · exact hi'.maps
  · intro i j b h1 h2 h3 h4
    cases i with
    | loc s =>
      cases j with
      | loc t => exact hi.inj (.loc s) (.loc t) b h1 h2 h3 h4
      | blk n =>
        obtain ⟨g1, g2⟩ := hbox s b h1 h3
        rcases hblk n b h2 h4 with h | h
        · exact (g2 h).elim
        · omega
    | blk n =>
      cases j with
      | loc t =>
        obtain ⟨g1, g2⟩ := hbox t b h2 h4
        rcases hblk n b h1 h3 with h | h
        · exact (g2 h).elim
        · omega
      | blk m => exact hi'.inj (.blk n) (.blk m) b h1 h2 h3 h4
  · rintro b hb ⟨i, h1, h2⟩
    cases i with
    | loc s =>
      obtain ⟨g1, g2⟩ := hbox s b h1 h2
      rcases hx.fnew b hb with h | h | h
      · exact hi.dis b h ⟨.loc s, h1, h2⟩
      · omega
      · exact g2 h
    | blk n => exact hi'.dis b hb ⟨.blk n, h1, h2⟩
  · rintro b ⟨i, h1, h2⟩
    cases i with
    | loc s => exact .inl ⟨.loc s, h1, h2⟩
    | blk n => exact (hblk n b h1 h2).imp (hgl b) id

mutual
theorem snapV_noref {H' : Heap} {st kn : Bool} {f g : CV → Option CV} : ∀ (c : CV), c.ref = false → snapV H st kn f c = snapV H' st kn g c
  | .op _ _, h => by simp [CV.ref] at h
  | .os _ _ _ _, h => by simp [CV.ref] at h
  | .om _, h => by simp [CV.ref] at h
  | .fn _ a c, h => by
    simp only [CV.ref, Bool.or_eq_false_iff] at h
    simp only [snapV, snapVs_noref (H' := H') (g := g) a h.1, snapVs_noref (H' := H') (g := g) c h.2]
  | .ifc _ x, h => by
    simp only [CV.ref] at h
    simp only [snapV, snapV_noref (H' := H') (g := g) x h]
  | .agg cs, h => by
    simp only [CV.ref] at h
    simp only [snapV, snapVs_noref (H' := H') (g := g) cs h]
  | .tup cs, h => by
    simp only [CV.ref] at h
    simp only [snapV, snapVs_noref (H' := H') (g := g) cs h]
  | .und, _ | .bool _, _ | .int _ _, _ | .float _ _, _ | .cplx _ _ _, _ | .str _, _ | .nilp, _ | .vp _, _ | .nils, _ | .vs _ _, _ | .nilm, _ | .nilf, _ | .nili, _ => by simp only [snapV]
theorem snapVs_noref {H' : Heap} {st kn : Bool} {f g : CV → Option CV} : ∀ (cs : List CV), CV.refs cs = false → snapVs H st kn f cs = snapVs H' st kn g cs
  | [], _ => rfl
  | c :: cs, h => by
    simp only [CV.refs, Bool.or_eq_false_iff] at h
    simp only [snapVs, snapV_noref (H' := H') (g := g) c h.1, snapVs_noref (H' := H') (g := g) cs h.2]
end

theorem snap_noref {H' : Heap} {st kn : Bool} {c : CV} (h : c.ref = false) : snap H st kn c = snap H' st kn c := snapV_noref c h

theorem mapC_noref {f g : CV → Option CV} (hfg : ∀ c, c.ref = false → f c = g c) (cs : List CV) : CV.refs cs = false → mapC f cs = mapC g cs := by
  induction cs with
  | nil => intro _; rfl
  | cons c cs ih =>
    intro h
    simp only [CV.refs, Bool.or_eq_false_iff] at h
    simp only [mapC, hfg c h.1, ih h.2]

theorem snapL_noref {H' : Heap} {st kn : Bool} (cs : List CV) (h : CV.refs cs = false) : snapL H st kn cs = snapL H' st kn cs :=
  mapC_noref (f := snap H st kn) (g := snap H' st kn) (fun _ hc => snap_noref hc) cs h

theorem Inv.empty (w : World) (F : Nat → Prop) (hg : GlobOk w F) (h : ∀ b, F b → b < w.heap.size) : Inv w F IM.nil ⟨[], []⟩ where
  len := rfl
  cells := fun i cs hg => by cases i <;> simp [Heap.get, look] at hg
  maps := fun n es hg => by simp at hg
  inj := fun i j b h1 => by cases i <;> simp [Heap.live, look] at h1
  dis := fun b _ ⟨i, h1, _⟩ => by cases i <;> simp [Heap.live, look] at h1
  lt := h
  lo := fun _ _ => rfl
  gl := hg

theorem no_live {b : Nat} : ¬ Live IM.nil ⟨[], []⟩ b := fun ⟨i, h1, _⟩ => by cases i <;> simp [Heap.live, look] at h1

/-- The arguments of a call by value. -/
theorem args_ok (hi : Inv w F ι H) {as as' : List CV} (hs : snapL H false false as = some as') {avs : List Value} (hv : VRl w F ι as avs) :
    BRl w (fun b => F b ∨ (CV.refs as = true ∧ Live ι H b)) as' avs := by
  cases hr : CV.refs as with
  | true => exact hi.snapL (G := fun b => F b ∨ (true = true ∧ Live ι H b)) (fun b hb => .inr ⟨rfl, hb⟩) (.inr fun b hb => .inl hb) hs hv
  | false =>
    rw [snapL_noref (H' := ⟨[], []⟩) as hr] at hs
    have hv' : VRl w F IM.nil as avs := BRl.vr _ _ (VRl.bv _ _ hr hv)
    have := (Inv.empty w F hi.gl hi.lt).snapL (G := F) (fun b hb => (no_live hb).elim) (.inr fun b hb => hb) hs hv'
    exact BRl.mono ⟨fun b hb => .inl hb, fun _ _ => rfl⟩ _ _ this

/-- Behind a call by value: nothing that was there has turned. -/
theorem behind (hi : Inv w F ι H) {w' : World} {F1 : Nat → Prop} {ι1 : IM} {Hf : Heap} {Fc G : Nat → Prop} (hx : Ext w Fc IM.nil ⟨[], []⟩ w' F1 ι1 Hf) (hG : ∀ b, F b → G b) (hG2 : ∀ b, G b → F b ∨ w.heap.size ≤ b) (hG3 : ∀ b, G b → b < w'.heap.size) :
    Inv w' G ι H ∧ Ext w F ι H w' G ι H ∧ MoV w w' F G ι ι := by
  have hsame : ∀ b, b < w.heap.size → w'.heap[b]? = w.heap[b]? := fun b hb => hx.frame b hb no_live
  have hm : MoV w w' F G ι ι := ⟨⟨hG, fun b hb => hsame b (hi.lt b hb)⟩, fun _ _ h => h, hx.csz⟩
  refine ⟨hi.build hm hi.len (fun i cs h => .inl ⟨h, fun b hb => hsame b (hi.live_lt ⟨i, live_iff.2 (.inl ⟨cs, h⟩), hb⟩)⟩) (fun n es h => .inl ⟨h, fun b hb => hsame b (hi.live_lt ⟨.blk n, live_iff.2 (.inr ⟨n, es, rfl, h⟩), hb⟩)⟩) hi.inj ?_ hG3 hi.lo,
    ⟨hx.os, hx.tape, hx.output, fun _ _ h => h, hG, fun b hb => (hG2 b hb).imp id .inl, hx.size, hx.csz, fun b hb _ => hsame b hb, fun _ h => .inl h⟩, hm⟩
  intro b hb hl
  rcases hG2 b hb with h | h
  · exact hi.dis b h hl
  · have := hi.live_lt hl; omega

mutual
theorem snapV_agr {H H' : Heap} (h : Agr (fun _ => True) H H') {st kn : Bool} {f g : CV → Option CV} (hfg : ∀ c, f c = g c) : ∀ (c : CV), snapV H st kn f c = snapV H' st kn g c
  | .op i off => by
    have hm : ∀ l, mapC f l = mapC g l := fun l => by rw [show f = g from funext hfg]
    simp only [snapV, alike_get h, hm]
  | .os sz i off n => by
    have hm : ∀ l, mapC f l = mapC g l := fun l => by rw [show f = g from funext hfg]
    simp only [snapV, alike_get h, hm]
  | .fn _ a c => by simp only [snapV, snapVs_agr h hfg a, snapVs_agr h hfg c]
  | .ifc _ x => by simp only [snapV, snapV_agr h hfg x]
  | .agg cs => by simp only [snapV, snapVs_agr h hfg cs]
  | .tup cs => by simp only [snapV, snapVs_agr h hfg cs]
  | .om _ | .nils | .vp _ | .vs _ _ | .und | .bool _ | .int _ _ | .float _ _ | .cplx _ _ _ | .str _ | .nilp | .nilm | .nilf | .nili => by simp only [snapV]
theorem snapVs_agr {H H' : Heap} (h : Agr (fun _ => True) H H') {st kn : Bool} {f g : CV → Option CV} (hfg : ∀ c, f c = g c) : ∀ (cs : List CV), snapVs H st kn f cs = snapVs H' st kn g cs
  | [] => by simp only [snapVs]
  | c :: cs => by simp only [snapVs, snapV_agr h hfg c, snapVs_agr h hfg cs]
end

theorem snapN_agr {H H' : Heap} (h : Agr (fun _ => True) H H') {st kn : Bool} : ∀ (n : Nat) (c : CV), snapN H st kn n c = snapN H' st kn n c
  | 0, _ => rfl
  | n + 1, c => snapV_agr h (snapN_agr h n) c

theorem snapL_agr {H H' : Heap} (h : Agr (fun _ => True) H H') {st kn : Bool} (l : List CV) : snapL H st kn l = snapL H' st kn l := by
  unfold snapL
  rw [show snap H st kn = snap H' st kn from funext fun c => snapN_agr h deep c]

theorem callC_agr {C : Ctx} {r : CCode → Env → Heap → Out} {f : CV} {args : List CV} {H H' : Heap} {v : CV} {H1 : Heap} (ha : Agr (fun _ => True) H H') (h : callC C r f args H = some (v, H1)) : ∃ H1', callC C r f args H' = some (v, H1') ∧ Agr (fun _ => True) H1 H1' := by
  unfold callC at h ⊢
  split at h <;> (try cases h)
  rename_i k first cap
  dsimp only at h ⊢
  rw [← ha.bl]
  simp only [← snapL_agr ha]
  cases hp : C.prim k with
  | some s =>
    simp only [hp] at h ⊢
    split at h <;> (try cases h)
    rename_i hl
    rw [if_neg hl]
    obtain ⟨x, h1, h2⟩ := Option.bind_eq_some_iff.1 h
    split at h2 <;> cases h2
    rename_i hv
    exact ⟨⟨H'.bx, x.2⟩, by rw [h1, Option.bind_some, if_neg hv], rfl, ha.bx⟩
  | none =>
    simp only [hp] at h ⊢
    cases hI : C.info k with
    | none => simp [hI] at h
    | some I =>
      simp only [hI] at h ⊢
      cases hm : I.mode with
      | ref =>
        simp only [hm] at h ⊢
        split at h <;> (try cases h)
        rename_i hl
        rw [if_neg hl]
        obtain ⟨x, h1, h2⟩ := Option.bind_eq_some_iff.1 h
        split at h2 <;> cases h2
        rename_i hv
        exact ⟨⟨H'.bx, x.2.bl⟩, by rw [h1, Option.bind_some, if_neg hv], rfl, ha.bx⟩
      | fz kn =>
        simp only [hm] at h ⊢
        obtain ⟨as', h0, h⟩ := Option.bind_eq_some_iff.1 h
        obtain ⟨x, h1, h2⟩ := Option.bind_eq_some_iff.1 h
        obtain ⟨u, h3, h4⟩ := Option.map_eq_some_iff.1 h2
        cases h4
        exact ⟨H', by rw [h0, Option.bind_some, h1, Option.bind_some, h3]; rfl, ha⟩
      | own =>
        simp only [hm] at h ⊢
        obtain ⟨as', h0, h⟩ := Option.bind_eq_some_iff.1 h
        obtain ⟨x, h1, h2⟩ := Option.bind_eq_some_iff.1 h
        obtain ⟨u, h3, h4⟩ := Option.map_eq_some_iff.1 h2
        rw [h0, Option.bind_some, h1, Option.bind_some, h3]
        cases u with
        | none =>
          simp only [Prod.mk.injEq] at h4
          obtain ⟨rfl, rfl⟩ := h4
          exact ⟨H', rfl, ha⟩
        | some y =>
          obtain ⟨sz, n, cs⟩ := y
          simp only [Prod.mk.injEq] at h4
          obtain ⟨rfl, rfl⟩ := h4
          exact ⟨H'.push (.cells cs), by simp, (ha.push _).1⟩

theorem mapC_up {f g : CV → Option CV} (h : ∀ c v, f c = some v → g c = some v) : ∀ (l r : List CV), mapC f l = some r → mapC g l = some r
  | [], r, hr => by simpa only [mapC] using hr
  | c :: cs, r, hr => by
    simp only [mapC, Option.bind_eq_some_iff, Option.map_eq_some_iff] at hr ⊢
    obtain ⟨u, h1, us, h2, rfl⟩ := hr
    exact ⟨u, h _ _ h1, us, mapC_up h cs us h2, rfl⟩

theorem get_lone {H : Heap} {i : Id} {cs : List CV} (h : Heap.get ⟨[], H.bl⟩ i = some cs) : H.get i = some cs := by
  cases i with
  | loc s => simp [Heap.get, look] at h
  | blk n => exact h

mutual
theorem snapV_lone {H : Heap} {st kn : Bool} {f g : CV → Option CV} (hfg : ∀ c v, f c = some v → g c = some v) : ∀ (c v : CV), snapV ⟨[], H.bl⟩ st kn f c = some v → snapV H st kn g c = some v
  | .op i off, v, h => by
    simp only [snapV, Option.bind_eq_some_iff] at h ⊢
    obtain ⟨cs, h1, h2⟩ := h
    refine ⟨cs, get_lone h1, ?_⟩
    split at h2 <;> (try cases h2)
    rename_i hc
    obtain ⟨u, h3, h4⟩ := Option.map_eq_some_iff.1 h2
    rw [if_pos hc, mapC_up hfg _ _ h3]
    exact congrArg some h4
  | .os sz i off n, v, h => by
    simp only [snapV] at h ⊢
    split at h
    · rename_i h0; rw [if_pos h0]; exact h
    · rename_i h0
      rw [if_neg h0]
      obtain ⟨cs, h1, h2⟩ := Option.bind_eq_some_iff.1 h
      rw [get_lone h1, Option.bind_some]
      split at h2 <;> (try cases h2)
      rename_i hc
      obtain ⟨u, h3, h4⟩ := Option.map_eq_some_iff.1 h2
      rw [if_pos hc, mapC_up hfg _ _ h3]
      exact congrArg some h4
  | .fn _ a c, v, h => by
    simp only [snapV, Option.bind_eq_some_iff, Option.map_eq_some_iff] at h ⊢
    obtain ⟨x, h1, y, h2, h3⟩ := h
    exact ⟨x, snapVs_lone hfg _ _ h1, y, snapVs_lone hfg _ _ h2, h3⟩
  | .ifc _ x, v, h => by
    simp only [snapV, Option.map_eq_some_iff] at h ⊢
    obtain ⟨y, h1, h2⟩ := h
    exact ⟨y, snapV_lone hfg _ _ h1, h2⟩
  | .agg cs, v, h => by
    simp only [snapV, Option.map_eq_some_iff] at h ⊢
    obtain ⟨y, h1, h2⟩ := h
    exact ⟨y, snapVs_lone hfg _ _ h1, h2⟩
  | .tup cs, v, h => by
    simp only [snapV, Option.map_eq_some_iff] at h ⊢
    obtain ⟨y, h1, h2⟩ := h
    exact ⟨y, snapVs_lone hfg _ _ h1, h2⟩
  | .om _, v, h | .nils, v, h | .vp _, v, h | .vs _ _, v, h | .und, v, h | .bool _, v, h | .int _ _, v, h | .float _ _, v, h | .cplx _ _ _, v, h | .str _, v, h | .nilp, v, h | .nilm, v, h | .nilf, v, h | .nili, v, h => by simpa only [snapV] using h
theorem snapVs_lone {H : Heap} {st kn : Bool} {f g : CV → Option CV} (hfg : ∀ c v, f c = some v → g c = some v) : ∀ (cs vs : List CV), snapVs ⟨[], H.bl⟩ st kn f cs = some vs → snapVs H st kn g cs = some vs
  | [], v, h => by simpa only [snapVs] using h
  | c :: cs, v, h => by
    simp only [snapVs, Option.bind_eq_some_iff, Option.map_eq_some_iff] at h ⊢
    obtain ⟨x, h1, y, h2, h3⟩ := h
    exact ⟨x, snapV_lone hfg _ _ h1, y, snapVs_lone hfg _ _ h2, h3⟩
end

theorem snapN_lone {H : Heap} {st kn : Bool} : ∀ (n : Nat) (c v : CV), snapN ⟨[], H.bl⟩ st kn n c = some v → snapN H st kn n c = some v
  | 0, _, _, h => by simp [snapN] at h
  | n + 1, c, v, h => snapV_lone (snapN_lone n) c v h

theorem snapL_lone {H : Heap} {st kn : Bool} {l r : List CV} (h : snapL ⟨[], H.bl⟩ st kn l = some r) : snapL H st kn l = some r := mapC_up (fun c v hv => snapN_lone deep c v hv) l r h

theorem callC_lone {C : Ctx} {r : CCode → Env → Heap → Out} {f : CV} {args : List CV} {H : Heap} {v : CV} {H1 : Heap} (h : callC C r f args ⟨[], H.bl⟩ = some (v, H1)) : callC C r f args H = some (v, ⟨H.bx, H1.bl⟩) := by
  unfold callC at h ⊢
  split at h <;> (try cases h)
  rename_i k first cap
  dsimp only at h ⊢
  cases hp : C.prim k with
  | some s =>
    simp only [hp] at h ⊢
    split at h <;> (try cases h)
    rename_i hl
    rw [if_neg hl]
    obtain ⟨x, h1, h2⟩ := Option.bind_eq_some_iff.1 h
    rw [h1, Option.bind_some]
    split at h2 <;> (try cases h2)
    rename_i hx
    rw [if_neg hx]
  | none =>
    simp only [hp] at h ⊢
    cases hI : C.info k with
    | none => simp [hI] at h
    | some I =>
      simp only [hI] at h ⊢
      cases hm : I.mode with
      | ref =>
        simp only [hm] at h ⊢
        split at h <;> (try cases h)
        rename_i hl
        rw [if_neg hl]
        obtain ⟨x, h1, h2⟩ := Option.bind_eq_some_iff.1 h
        rw [h1, Option.bind_some]
        split at h2 <;> (try cases h2)
        rename_i hx
        rw [if_neg hx]
      | fz kn =>
        simp only [hm] at h ⊢
        obtain ⟨as', h1, h2⟩ := Option.bind_eq_some_iff.1 h
        rw [snapL_lone h1, Option.bind_some]
        obtain ⟨x, h3, h4⟩ := Option.bind_eq_some_iff.1 h2
        rw [h3, Option.bind_some]
        obtain ⟨y, h5, h6⟩ := Option.map_eq_some_iff.1 h4
        rw [h5, Option.map_some]
        cases h6
        rfl
      | own =>
        simp only [hm] at h ⊢
        obtain ⟨as', h1, h2⟩ := Option.bind_eq_some_iff.1 h
        rw [snapL_lone h1, Option.bind_some]
        obtain ⟨x, h3, h4⟩ := Option.bind_eq_some_iff.1 h2
        rw [h3, Option.bind_some]
        obtain ⟨y, h5, h6⟩ := Option.map_eq_some_iff.1 h4
        rw [h5, Option.map_some]
        cases y with
        | none => simp only [Prod.mk.injEq] at h6; obtain ⟨rfl, rfl⟩ := h6; rfl
        | some y =>
          obtain ⟨sz, n, cs⟩ := y
          simp only [Prod.mk.injEq] at h6
          obtain ⟨rfl, rfl⟩ := h6
          rfl

theorem caller_ok {C : Ctx} (hC : CtxOk P C) : ∀ n, CallerOk P (callC C (run C n)) ∧ QuietOk (callC C (run C n)) (quietOf C) := by
  intro n
  have hquiet : ∀ n, QuietOk (callC C (run C n)) (quietOf C) := by
    intro n
    refine ⟨?_, ?_, fun f args H v H1 h => callC_lone h, fun f args H H' v H1 ha h => callC_agr ha h⟩
    · intro k first cap args H v H1 hq hrf h
      simp only [quietOf, Bool.and_eq_true, Option.isNone_iff_eq_none] at hq
      obtain ⟨h1, h2⟩ := hq
      simp only [callC, h1] at h ⊢
      cases hI : C.info k with
      | none => simp [hI] at h
      | some I =>
        simp only [hI] at h h2 ⊢
        cases hm : I.mode with
        | ref => simp [hm] at h2
        | own => simp [hm] at h2
        | fz kn =>
          have hrf' : CV.refs (first ++ (args ++ cap)) = false := by
            have app : ∀ (a b : List CV), CV.refs (a ++ b) = (CV.refs a || CV.refs b) := by
              intro a b
              induction a with
              | nil => simp [CV.refs]
              | cons c a ih => simp [CV.refs, ih, Bool.or_assoc]
            simp only [CV.refs, CV.ref, Bool.or_eq_false_iff] at hrf
            simp [app, hrf]
          simp only [hm, Option.bind_eq_some_iff, Option.map_eq_some_iff, Prod.mk.injEq] at h ⊢
          obtain ⟨as', g1, x, g2, y, g3, rfl, rfl⟩ := h
          exact ⟨as', by rw [← g1]; exact snapL_noref _ hrf', x, g2, y, g3, rfl, trivial⟩
    intro k first cap args H v H' hq h
    simp only [quietOf, Bool.and_eq_true, Option.isNone_iff_eq_none] at hq
    obtain ⟨h1, h2⟩ := hq
    simp only [callC, h1] at h
    cases hI : C.info k with
    | none => simp [hI] at h
    | some I =>
      simp only [hI] at h h2
      cases hm : I.mode with
      | ref => simp [hm] at h2
      | own => simp [hm] at h2
      | fz kn =>
        simp only [hm, Option.bind_eq_some_iff, Option.map_eq_some_iff, Prod.mk.injEq] at h
        obtain ⟨_, _, _, _, _, _, _, rfl⟩ := h
        rfl
  refine ⟨?_, hquiet n⟩
  induction n with
  | zero =>
    intro f args H v H' h
    have hrun : ∀ I as bl, bodyC (run C 0) I as bl = none := by intro I as bl; unfold bodyC run; split <;> rfl
    unfold callC at h
    split at h <;> (try cases h)
    rename_i k first cap
    dsimp only at h
    cases hp : C.prim k with
    | none =>
      simp only [hp] at h
      cases hI : C.info k with
      | none => simp [hI] at h
      | some I =>
        simp only [hI] at h
        cases hm : I.mode with
        | ref => simp only [hm, hrun] at h; split at h <;> simp at h
        | own =>
          simp only [hm, hrun, Option.bind_eq_some_iff] at h
          obtain ⟨_, _, _, h, _⟩ := h
          cases h
        | fz kn =>
          simp only [hm, hrun, Option.bind_eq_some_iff] at h
          obtain ⟨_, _, _, h, _⟩ := h
          cases h
    | some s =>
      simp only [hp] at h
      split at h <;> (try cases h)
      rename_i hl
      simp only [Option.bind_eq_some_iff] at h
      obtain ⟨⟨v1, bl1⟩, h1, h2⟩ := h
      split at h2 <;> (try cases h2)
      rename_i hv
      obtain ⟨fn, g1, g2, g3, g4⟩ := hC.prim k s hp
      refine ⟨k, first, cap, fn, rfl, g1, g2, g3, ?_⟩
      intro w F ι as hi hvs
      refine (g4 _ _ _ _ h1 w F ι.glob as (fun _ => rfl) hi.glob (VRl.noloc _ _ (by simpa using hl) hvs)).mono ?_
      rintro e w' ⟨v', F', ι', bx, rfl, k1, k2, k3⟩
      obtain ⟨r1, r2, r3⟩ := restore hi k2 k3
      refine ⟨v', F', _, rfl, ?_, r1, r2, r3⟩
      exact VR.mono ⟨⟨fun _ h => h, fun _ _ => rfl⟩, fun i b hb => by cases i <;> simp_all [IM.glob, IM.get], fun _ _ h => h⟩ _ _ (VR.noloc _ _ (by simpa using hv) k1)
  | succ n ih =>
    intro f args H v H' h
    unfold callC at h
    split at h <;> (try cases h)
    rename_i k first cap
    dsimp only at h
    cases hp : C.prim k with
    | some s =>
      simp only [hp] at h
      split at h <;> (try cases h)
      rename_i hl
      simp only [Option.bind_eq_some_iff] at h
      obtain ⟨⟨v1, bl1⟩, h1, h2⟩ := h
      split at h2 <;> (try cases h2)
      rename_i hv
      obtain ⟨fn, g1, g2, g3, g4⟩ := hC.prim k s hp
      refine ⟨k, first, cap, fn, rfl, g1, g2, g3, ?_⟩
      intro w F ι as hi hvs
      refine (g4 _ _ _ _ h1 w F ι.glob as (fun _ => rfl) hi.glob (VRl.noloc _ _ (by simpa using hl) hvs)).mono ?_
      rintro e w' ⟨v', F', ι', bx, rfl, k1, k2, k3⟩
      obtain ⟨r1, r2, r3⟩ := restore hi k2 k3
      refine ⟨v', F', _, rfl, ?_, r1, r2, r3⟩
      exact VR.mono ⟨⟨fun _ h => h, fun _ _ => rfl⟩, fun i b hb => by cases i <;> simp_all [IM.glob, IM.get], fun _ _ h => h⟩ _ _ (VR.noloc _ _ (by simpa using hv) k1)
    | none =>
      simp only [hp] at h
      cases hI : C.info k with
      | none => simp [hI] at h
      | some I =>
        simp only [hI] at h
        obtain ⟨fn, an, hfn, hcomp⟩ := hC.info k I hp hI
        have hbody : fn.body.isSome = true ∧ (fn.name == "runtime.NumGoroutine") = false := by
          unfold compF at hcomp
          split at hcomp
          · cases hcomp
          · rename_i c hc
            split at hcomp
            · cases hcomp
            · rename_i hnm
              exact ⟨by simp [hc], by simpa using hnm⟩
        have body := fun (as : List CV) (bl : List Blk) (v : CV) (Hf : Heap) (h : bodyC (run C (n + 1)) I as bl = some (v, Hf)) (w : World) (F : Nat → Prop) (ι : IM) (hi : Inv w F ι ⟨[], bl⟩) (avs : List Value) (hargs : VRl w F ι as avs) =>
          body_ok (P := P) ih (hquiet n) hC.mix hfn hcomp (lf := n) (as := as) (bl := bl) (v := v) (Hf := Hf) h hi hargs
        refine ⟨k, first, cap, fn, rfl, hfn, hbody.1, hbody.2, ?_⟩
        intro w F ι as hi hvs
        cases hm : I.mode with
        | ref =>
          simp only [hm] at h
          split at h <;> (try cases h)
          rename_i hl
          simp only [Option.bind_eq_some_iff] at h
          obtain ⟨⟨v1, H1⟩, h1, h2⟩ := h
          split at h2 <;> (try cases h2)
          rename_i hv
          refine (body _ _ _ _ h1 w F ι.glob hi.glob as (VRl.noloc _ _ (by simpa using hl) hvs)).mono ?_
          rintro e w' ⟨v', F', ι', rfl, k1, k2, k3⟩
          obtain ⟨r1, r2, r3⟩ := restore hi (bx := H1.bx) (bl := H1.bl) k2 k3
          refine ⟨v', F', _, rfl, ?_, r1, r2, r3⟩
          exact VR.mono ⟨⟨fun _ h => h, fun _ _ => rfl⟩, fun i b hb => by cases i <;> simp_all [IM.glob, IM.get], fun _ _ h => h⟩ _ _ (VR.noloc _ _ (by simpa using hv) k1)
        | fz kn =>
          simp only [hm, Option.bind_eq_some_iff, Option.map_eq_some_iff, Prod.mk.injEq] at h
          obtain ⟨as', hs, ⟨v1, Hf⟩, hb, v2, hsn, rfl, rfl⟩ := h
          have hargs := args_ok hi hs hvs
          have hlt : ∀ b, (F b ∨ (CV.refs (first ++ (args ++ cap)) = true ∧ Live ι H b)) → b < w.heap.size := fun b hb => hb.elim (hi.lt b) fun h => hi.live_lt h.2
          refine (body _ _ _ _ hb w _ IM.nil (Inv.empty w _ (hi.gl.mono ⟨fun _ h => .inl h, fun _ _ => rfl⟩) hlt) as (BRl.vr _ _ hargs)).mono ?_
          rintro e w' ⟨v', F1, ι1, rfl, k1, k2, k3⟩
          have hbr : BR w' (fun b => F b ∨ (w.heap.size ≤ b ∧ b < w'.heap.size)) v2 v' := by
            refine k2.snap (fun b hb => ?_) ?_ hsn k1
            · rcases k3.live b hb with h | h
              · exact (no_live h).elim
              · exact .inr ⟨h, k2.live_lt hb⟩
            · cases hr : CV.refs (first ++ (args ++ cap)) with
              | true => exact .inl rfl
              | false =>
                right
                intro b hb
                rcases k3.fnew b hb with h | h | h
                · rcases h with h | ⟨h, _⟩
                  · exact .inl h
                  · rw [hr] at h; cases h
                · exact .inr ⟨h, k2.lt b hb⟩
                · exact (no_live h).elim
          obtain ⟨r1, r2, r3⟩ := behind hi k3 (G := fun b => F b ∨ (w.heap.size ≤ b ∧ b < w'.heap.size)) (fun b hb => .inl hb) (fun b hb => hb.imp id fun h => h.1) (fun b hb => hb.elim (fun h => Nat.lt_of_lt_of_le (hi.lt b h) k3.size) fun h => h.2)
          exact ⟨v', _, ι, rfl, BR.vr _ _ hbr, r1, r2, r3⟩
        | own =>
          simp only [hm, Option.bind_eq_some_iff, Option.map_eq_some_iff] at h
          obtain ⟨as', hs, ⟨v1, Hf⟩, hb, r, hown, hres⟩ := h
          have hargs := args_ok hi hs hvs
          have hlt : ∀ b, (F b ∨ (CV.refs (first ++ (args ++ cap)) = true ∧ Live ι H b)) → b < w.heap.size := fun b hb => hb.elim (hi.lt b) fun h => hi.live_lt h.2
          refine (body _ _ _ _ hb w _ IM.nil (Inv.empty w _ (hi.gl.mono ⟨fun _ h => .inl h, fun _ _ => rfl⟩) hlt) as (BRl.vr _ _ hargs)).mono ?_
          rintro e w' ⟨v', F1, ι1, rfl, k1, k2, k3⟩
          dsimp only at hown
          unfold ownOf at hown
          split at hown <;> (try cases hown)
          · simp only [Prod.mk.injEq] at hres
            obtain ⟨rfl, rfl⟩ := hres
            obtain ⟨r1, r2, r3⟩ := behind hi k3 (G := F) (fun b hb => hb) (fun b hb => .inl hb) (fun b hb => Nat.lt_of_lt_of_le (hi.lt b hb) k3.size)
            exact ⟨v', _, ι, rfl, by simpa [VR, BR] using k1, r1, r2, r3⟩
          · rename_i sz m len
            simp only [Option.bind_eq_some_iff] at hown
            obtain ⟨cs, hcs, hown⟩ := hown
            split at hown <;> (try cases hown)
            simp only [Option.map_eq_some_iff] at hown
            obtain ⟨cs', hmap, rfl⟩ := hown
            simp only [Prod.mk.injEq] at hres
            obtain ⟨rfl, rfl⟩ := hres
            obtain ⟨b0, c, ec, q1, q2, q3, q4⟩ := k2.cells (.blk m) cs hcs
            have hlive0 : Live ι1 Hf b0 := ⟨.blk m, live_iff.2 (.inl ⟨cs, hcs⟩), q1⟩
            have hge : w.heap.size ≤ b0 := by
              rcases k3.live b0 hlive0 with h | h
              · exact (no_live h).elim
              · exact h
            have hlt0 := k2.live_lt hlive0
            let G : Nat → Prop := fun b => F b ∨ (w.heap.size ≤ b ∧ b < w'.heap.size ∧ b ≠ b0)
            obtain ⟨r1, r2, r3⟩ := behind hi k3 (G := G) (fun b hb => .inl hb) (fun b hb => hb.imp id fun h => h.1) (fun b hb => hb.elim (fun h => Nat.lt_of_lt_of_le (hi.lt b h) k3.size) fun h => h.2.1)
            have hnl : ¬ Live ι H b0 := fun h => by have := hi.live_lt h; omega
            have hng : ¬ G b0 := by
              rintro (h | h)
              · have := hi.lt b0 h; omega
              · exact h.2.2 rfl
            have hw : WTo w' w' b0 := ⟨rfl, rfl, rfl, Nat.le_refl _, hlt0, fun _ _ _ => rfl, fun _ h => h⟩
            have hst : ∀ (j : Nat) (x : CV), cs'[j]? = some x → ∃ u, c[j]? = some u ∧ VR w' G ι.glob x u := by
              intro j x hx
              obtain ⟨y, hy, hsy⟩ := mapC_get _ _ hmap j x hx
              obtain ⟨u, hu, huv⟩ := q3 j y hy
              refine ⟨u, hu, BR.vr _ _ ?_⟩
              refine (k2.kill m).snap (fun b hb => ?_) ?_ hsy huv.glob
              · obtain ⟨i, h1, h2⟩ := hb
                obtain ⟨h3, h4⟩ := live_kill h1
                have hb' : Live ι1 Hf b := ⟨i, h4, h2⟩
                rcases k3.live b hb' with h | h
                · exact (no_live h).elim
                · refine .inr ⟨h, k2.live_lt hb', ?_⟩
                  rintro rfl
                  exact h3 (k2.inj i (.blk m) b h4 (live_iff.2 (.inl ⟨cs, hcs⟩)) h2 q1)
              · cases hr : CV.refs (first ++ (args ++ cap)) with
                | true => exact .inl rfl
                | false =>
                  right
                  intro b hb
                  rcases k3.fnew b hb with h | h | h
                  · rcases h with h | ⟨h, _⟩
                    · exact .inl h
                    · rw [hr] at h; cases h
                  · refine .inr ⟨h, k2.lt b hb, ?_⟩
                    rintro rfl
                    exact k2.dis b hb hlive0
                  · exact (no_live h).elim
            obtain ⟨t1, t2⟩ := r1.add hw hnl hng q2 hst q4
            refine ⟨v', G, ι.push b0, rfl, ?_, t1, ?_, ⟨⟨fun b hb => .inl hb, r3.h⟩, ι.push_le b0, r3.c⟩⟩
            · simp only [VR] at k1 ⊢
              obtain ⟨base, cap, g1, g2, g3⟩ := k1
              refine ⟨base, cap, g1, g2, ?_⟩
              rcases g3 with g3 | ⟨b, N, g3, g4, g5, g6⟩
              · exact .inl g3
              · rw [q1] at g3; cases g3
                exact .inr ⟨b0, N, by rw [IM.get_push, hi.len, if_pos rfl], g4, g5, g6⟩
            · refine ⟨r2.os, r2.tape, r2.output, fun n x h => ?_, fun b hb => .inl hb, r2.fnew, r2.size, r2.csz, r2.frame, ?_⟩
              · simp only [IM.push]
                rw [List.getElem?_append_left (List.getElem?_eq_some_iff.1 h).1]; exact h
              · rintro b ⟨i, h1, h2⟩
                rw [IM.get_push, hi.len] at h2
                rcases live_push h1 with rfl | h1
                · rw [if_pos rfl] at h2; cases h2; exact .inr hge
                · split at h2
                  · cases h2; exact .inr hge
                  · exact .inl ⟨i, h1, h2⟩

end
end Go.Zc
end
