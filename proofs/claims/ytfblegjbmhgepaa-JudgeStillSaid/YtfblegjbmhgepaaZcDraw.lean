/- Statements in whatever order their edges let. No condition. -/
import Derived.Test.YtfblegjbmhgepaaZcFoot
set_option linter.all false
namespace Go.Zc

section
variable {P : Program} {w : World} {F : Nat → Prop} {ι : IM} {H : Heap} {env : Env} {a : Act}


theorem trace {call : Caller} : ∀ {l : List CStm} {env env' : Env} {H H' : Heap}, runOps call l env H = some (env', H') →
    ∃ (E : Nat → Env) (Hs : Nat → Heap) (C : Nat → CV), E 0 = env ∧ Hs 0 = H ∧ E l.length = env' ∧ Hs l.length = H' ∧ ∀ (k : Nat) (s : CStm), l[k]? = some s → Stepped call s (E k) (Hs k) (C k) (Hs (k + 1)) ∧ E (k + 1) = putD (E k) s.dst (C k)
  | [], env, env', H, H', h => by
    simp only [runOps, Option.some.injEq, Prod.mk.injEq] at h
    obtain ⟨rfl, rfl⟩ := h
    exact ⟨fun _ => env, fun _ => H, fun _ => .und, rfl, rfl, rfl, rfl, by simp⟩
  | s :: l, env, env', H, H', h => by
    obtain ⟨v, H1, h1, h2⟩ := runOps_cons h
    obtain ⟨E, Hs, C, e1, e2, e3, e4, e5⟩ := trace h2
    refine ⟨fun k => match k with | 0 => env | k + 1 => E k, fun k => match k with | 0 => H | k + 1 => Hs k, fun k => match k with | 0 => v | k + 1 => C k, rfl, rfl, e3, e4, ?_⟩
    intro k t hk
    cases k with
    | zero =>
      simp only [List.getElem?_cons_zero, Option.some.injEq] at hk
      subst hk
      exact ⟨by simpa [e2] using h1, e1⟩
    | succ k => exact e5 k t (by simpa using hk)

theorem evs_congr {e e' : Env} : ∀ {l : List Opd}, (∀ t ∈ temps l, Env.at e t = Env.at e' t) → evs e l = evs e' l
  | [], _ => rfl
  | .t n :: r, h => by
    simp only [temps, List.mem_cons, forall_eq_or_imp] at h
    simp only [evs, ev, h.1, evs_congr h.2]
  | .c v :: r, h => by
    simp only [temps] at h
    simp only [evs, ev, evs_congr h]

theorem wr_rd {quiet : FuncId → Bool} {s : CStm} {r : Rsc} (h : (footOf quiet s).wr r) : (footOf quiet s).rd r := by
  obtain ⟨dst, op, args, guard⟩ := s
  cases op with
  | p o => simp [Foot.wr, footOf] at h
  | h o => cases o <;> simp_all [Foot.wr, Foot.rd, footOf]
  | hb o => cases o <;> simp_all [Foot.wr, Foot.rd, footOf]
  | hl d o => cases o <;> simp_all [Foot.wr, Foot.rd, footOf]
  | callb =>
    revert h
    unfold footOf
    dsimp only
    split
    · split <;> simp [Foot.wr, Foot.rd]
    · simp [Foot.wr, Foot.rd]
  | callp => simpa [Foot.wr, Foot.rd, footOf] using h
  | callv =>
    revert h
    unfold footOf
    dsimp only
    split
    · split <;> simp [Foot.wr, Foot.rd]
    · simp [Foot.wr, Foot.rd]
  | call =>
    unfold footOf at h ⊢
    dsimp only at h ⊢
    split
    · split
      · exact .inl rfl
      · exact .inl rfl
    · exact .inl rfl

theorem stepped_foot {call : Caller} {quiet : FuncId → Bool} (hq : QuietOk call quiet) {s : CStm} {e e' : Env} {H H1 H' : Heap} {v : CV} (h : Stepped call s e H v H1) (he : ∀ t ∈ reads s, Env.at e t = Env.at e' t) (hh : ∀ r, (footOf quiet s).rd r → same r H H') :
    ∃ H1', Stepped call s e' H' v H1' ∧ (∀ x, (footOf quiet s).wr x → same x H1' H1) ∧ (∀ x, ¬ (footOf quiet s).wr x → same x H1' H') ∧ (∀ x, ¬ (footOf quiet s).wr x → same x H1 H) := by
  unfold Stepped at h ⊢
  have hr : evs e s.args = evs e' s.args := evs_congr fun t ht => he t (by unfold reads; split <;> simp [ht])
  cases hg : s.guard with
  | none =>
    simp only [hg] at h ⊢
    rw [← hr]
    exact run_foot hq hh v H1 h
  | some gw =>
    obtain ⟨g, want⟩ := gw
    simp only [hg] at h ⊢
    have hgt := he g (by simp [reads, hg])
    obtain ⟨b, hb, h⟩ := h
    rw [hgt] at hb
    by_cases hbw : b = some want
    · rw [if_pos hbw] at h
      obtain ⟨H1', h1, h2⟩ := run_foot hq hh v H1 h
      exact ⟨H1', ⟨b, hb, by rw [if_pos hbw, ← hr]; exact h1⟩, h2⟩
    · rw [if_neg hbw] at h
      obtain ⟨rfl, rfl⟩ := h
      exact ⟨H', ⟨b, hb, by rw [if_neg hbw]; exact ⟨rfl, rfl⟩⟩, fun x hx => (hh x (wr_rd hx)).symm, fun x _ => same.refl x _, fun x _ => same.refl x _⟩

/-- A statement with where it works says what the plain one says. -/
def Sharp (quiet : FuncId → Bool) (s s' : CStm) : Prop := s'.dst = s.dst ∧ ∀ (call : Caller), QuietOk call quiet → ∀ (e : Env) (H : Heap) (v : CV) (H1 : Heap), Stepped call s' e H v H1 → Stepped call s e H v H1

theorem Sharp.refl (quiet : FuncId → Bool) (s : CStm) : Sharp quiet s s := ⟨rfl, fun _ _ _ _ _ _ h => h⟩
theorem Sharp.trans {quiet : FuncId → Bool} {a b c : CStm} (h : Sharp quiet a b) (h' : Sharp quiet b c) : Sharp quiet a c := ⟨h'.1.trans h.1, fun call hq e H v H1 g => h.2 call hq e H v H1 (h'.2 call hq e H v H1 g)⟩

theorem sharp_of {quiet : FuncId → Bool} {s : CStm} {o o' : COp} (ho : s.op = o) (h : ∀ (call : Caller), QuietOk call quiet → ∀ (vs : List CV) (H : Heap) (v : CV) (H1 : Heap), runOp call o' vs H = some (v, H1) → runOp call o vs H = some (v, H1)) : Sharp quiet s { s with op := o' } := by
  refine ⟨rfl, fun call hq e H v H1 hs => ?_⟩
  unfold Stepped at hs ⊢
  simp only [ho]
  cases hg : s.guard with
  | none => simp only [hg] at hs ⊢; exact h _ hq _ _ _ _ hs
  | some gw =>
    simp only [hg] at hs ⊢
    obtain ⟨b, hb, hs⟩ := hs
    refine ⟨b, hb, ?_⟩
    split
    · rename_i hc; rw [if_pos hc] at hs; exact h _ hq _ _ _ _ hs
    · rename_i hc; rw [if_neg hc] at hs; exact hs

theorem run_hb {call : Caller} {o : HOp} {vs : List CV} {H : Heap} {v : CV} {H1 : Heap} (h : runOp call (.hb o) vs H = some (v, H1)) : runOp call (.h o) vs H = some (v, H1) := by
  simp only [runOp] at h ⊢
  exact (ite_none h).2

theorem run_hl {call : Caller} {d : Nat} {o : HOp} {vs : List CV} {H : Heap} {v : CV} {H1 : Heap} (h : runOp call (.hl d o) vs H = some (v, H1)) : runOp call (.h o) vs H = some (v, H1) := by
  simp only [runOp] at h ⊢
  split at h <;> (try cases h)
  split at h <;> (try cases h)
  exact h

theorem focus_sharp (quiet : FuncId → Bool) (boxes : List Nat) (l : List CStm) (s : CStm) : Sharp quiet s (focus boxes l s) := by
  unfold focus
  split
  · rename_i h _
    split
    · exact sharp_of h fun _ _ _ _ _ _ => run_hl
    · exact sharp_of h fun _ _ _ _ _ _ => run_hb
  · rename_i h _
    split
    · exact sharp_of h fun _ _ _ _ _ _ => run_hl
    · exact sharp_of h fun _ _ _ _ _ _ => run_hb
  · exact Sharp.refl _ s
  · exact Sharp.refl _ s
  · exact Sharp.refl _ s
  · exact sharp_of (by assumption) fun _ _ _ _ _ _ => run_hb
  · refine sharp_of (by assumption) fun call hq vs H v H1 h => ?_
    cases vs with
    | nil => simp [runOp] at h
    | cons f as =>
      simp only [runOp, Option.map_eq_some_iff, Prod.mk.injEq] at h ⊢
      obtain ⟨⟨u, H2⟩, h2, rfl, rfl⟩ := h
      exact hq.lone _ _ _ _ _ h2
  · exact Sharp.refl _ s

theorem focusC_sharp (quiet : FuncId → Bool) (b : Bool) (s : CStm) : Sharp quiet s (focusC quiet b s) := by
  unfold focusC
  split
  · rename_i k a c r ho ha
    split
    · rename_i hqk
      split
      · refine ⟨rfl, fun call hq e H v H1 hs => ?_⟩
        have key : runOp call .callv (evs e s.args) H = some (v, H1) → runOp call s.op (evs e s.args) H = some (v, H1) := by
          rw [ho, ha]
          simp only [evs, ev, runOp]
          intro h
          obtain ⟨hrf, h⟩ := ite_none h
          simp only [Option.map_eq_some_iff, Prod.mk.injEq] at h
          obtain ⟨⟨u, H2⟩, h2, rfl, rfl⟩ := h
          have := hq.free k a c (evs e r) ⟨[], H.bl⟩ u H2 hqk (by simpa using hrf) h2
          rw [this]
          rfl
        unfold Stepped at hs ⊢
        dsimp only at hs
        cases hg : s.guard with
        | none => simp only [hg] at hs ⊢; exact key hs
        | some gw =>
          simp only [hg] at hs ⊢
          obtain ⟨b, hb, hs⟩ := hs
          refine ⟨b, hb, ?_⟩
          split
          · rename_i hc; rw [if_pos hc] at hs; exact key hs
          · rename_i hc; rw [if_neg hc] at hs; exact hs
      · exact Sharp.refl _ s
    · refine sharp_of ho fun call hq vs H v H1 h => ?_
      cases vs with
      | nil => simp [runOp] at h
      | cons f as =>
        simp only [runOp, Option.map_eq_some_iff, Option.bind_eq_some_iff, Prod.mk.injEq] at h ⊢
        obtain ⟨⟨u, H2⟩, h2, h3⟩ := h
        split at h3 <;> cases h3
        exact ⟨(u, H2), h2, rfl, rfl⟩
  · exact Sharp.refl _ s

/-! ### What looks, and what but grows -/

theorem steady_nowr {quiet : FuncId → Bool} {s : CStm} (h : steady s = true) (r : Rsc) : ¬ (footOf quiet s).wr r := by
  obtain ⟨dst, op, args, guard⟩ := s
  unfold steady at h
  split at h
  · rename_i h1 _; dsimp only at h1; subst h1; simp [Foot.wr, footOf]
  · rename_i h1 _; dsimp only at h1; subst h1; simp [Foot.wr, footOf]
  · rename_i h1 _; dsimp only at h1; subst h1; simp [Foot.wr, footOf]
  · cases h

theorem alloc_grows {o : HOp} (ho : o = .boxh ∨ (∃ z, o = .newh z) ∨ o = .mkmap) {vs : List CV} {H H1 : Heap} {v : CV} (h : heapOp o vs H = some (v, H1)) : ∃ X, H1.bl = H.bl ++ X := by
  rcases ho with rfl | ⟨z, rfl⟩ | rfl
  · match vs, h with
    | [], h => simp [heapOp] at h
    | [x], h =>
      simp only [heapOp] at h
      split at h <;> cases h
      exact ⟨_, rfl⟩
    | _ :: _ :: _, h => simp [heapOp] at h
  · match vs, h with
    | [], h =>
      simp only [heapOp] at h
      split at h <;> cases h
      exact ⟨_, rfl⟩
    | _ :: _, h => simp [heapOp] at h
  · match vs, h with
    | [], h =>
      simp only [heapOp] at h
      cases h
      exact ⟨_, rfl⟩
    | _ :: _, h => simp [heapOp] at h

theorem grows_step {call : Caller} {s : CStm} (h : grows s = true) {e : Env} {H H1 : Heap} {v : CV} (hs : Stepped call s e H v H1) : ∃ X, H1.bl = H.bl ++ X := by
  have ho : s.op = .callp ∨ ∃ o, s.op = .hb o ∧ (o = .boxh ∨ (∃ z, o = .newh z) ∨ o = .mkmap) := by
    unfold grows at h
    split at h
    · exact .inl (by assumption)
    · exact .inr ⟨_, by assumption, .inl rfl⟩
    · exact .inr ⟨_, by assumption, .inr (.inl ⟨_, rfl⟩)⟩
    · exact .inr ⟨_, by assumption, .inr (.inr rfl)⟩
    · cases h
  have key : runOp call s.op (evs e s.args) H = some (v, H1) → ∃ X, H1.bl = H.bl ++ X := by
    rcases ho with ho | ⟨o, ho, ho2⟩
    · rw [ho]
      intro h
      cases hv : evs e s.args with
      | nil => rw [hv] at h; simp [runOp] at h
      | cons f as =>
        rw [hv] at h
        simp only [runOp, Option.bind_eq_some_iff] at h
        obtain ⟨x, h2, h3⟩ := h
        split at h3 <;> cases h3
        rename_i hp
        exact isPre_ex hp
    · rw [ho]
      intro h
      simp only [runOp] at h
      exact alloc_grows ho2 (ite_none h).2
  unfold Stepped at hs
  split at hs
  · exact key hs
  · obtain ⟨c, _, hs⟩ := hs
    split at hs
    · exact key hs
    · exact ⟨[], by rw [hs.2]; simp⟩

/-- Which block a look goes to. -/
def idOf : CV → Option Nat
  | .op (.blk k) _ => some k
  | .om k => some k
  | _ => none

theorem look_move {o : HOp} (ho : (∃ a n, o = .load a n) ∨ (∃ k z b, o = .look k z b) ∨ o = .lenM) {x : CV} {r : List CV} (hl : CV.locs (x :: r) = false) {H H' : Heap} {v : CV} {H1 : Heap} (h : heapOp o (x :: r) H = some (v, H1))
    (hk : ∀ k b, idOf x = some k → H.bl[k]? = some b → H'.bl[k]? = some b) : heapOp o (x :: r) H' = some (v, H') := by
  rcases ho with ⟨a, n, rfl⟩ | ⟨kk, z, b, rfl⟩ | rfl
  · cases r with
    | cons _ _ => simp [heapOp] at h
    | nil =>
      simp only [heapOp, Option.map_eq_some_iff, Prod.mk.injEq] at h ⊢
      obtain ⟨u, hu, rfl, _⟩ := h
      refine ⟨u, ?_, rfl, trivial⟩
      cases x with
      | op i off =>
        cases i with
        | loc s => simp [CV.locs, CV.locv, Id.loc?] at hl
        | blk k =>
          simp only [loadC, Heap.get] at hu ⊢
          cases hb : H.bl[k]? with
          | none => rw [hb] at hu; simp at hu
          | some b => rw [hb] at hu; rw [hk k b rfl hb]; exact hu
      | _ => exact hu
  · match r, h with
    | [], h => simp [heapOp] at h
    | [k], h =>
      simp only [heapOp, Option.map_eq_some_iff, Prod.mk.injEq] at h ⊢
      obtain ⟨u, hu, rfl, _⟩ := h
      refine ⟨u, ?_, rfl, trivial⟩
      cases x with
      | om m =>
        simp only [lookC] at hu ⊢
        cases hb : H.bl[m]? with
        | none => rw [hb] at hu; simp at hu
        | some b => rw [hb] at hu; rw [hk m b rfl hb]; exact hu
      | _ => exact hu
    | _ :: _ :: _, h => simp [heapOp] at h
  · cases r with
    | cons _ _ => simp [heapOp] at h
    | nil =>
      simp only [heapOp, Option.map_eq_some_iff, Prod.mk.injEq] at h ⊢
      obtain ⟨u, hu, rfl, _⟩ := h
      refine ⟨u, ?_, rfl, trivial⟩
      cases x with
      | om m =>
        simp only [lenMC] at hu ⊢
        cases hb : H.bl[m]? with
        | none => rw [hb] at hu; simp at hu
        | some b => rw [hb] at hu; rw [hk m b rfl hb]; exact hu
      | _ => exact hu

theorem steady_step {call : Caller} {s : CStm} (hst : steady s = true) {e e' : Env} {H H1 H' : Heap} {v : CV} (h : Stepped call s e H v H1) (he : ∀ t ∈ reads s, Env.at e t = Env.at e' t)
    (hk : ∀ t k b, idOf (Env.at e' t) = some k → H.bl[k]? = some b → H'.bl[k]? = some b) : Stepped call s e' H' v H' ∧ H1 = H := by
  have hr : evs e s.args = evs e' s.args := evs_congr fun t ht => he t (by unfold reads; split <;> simp [ht])
  have ho : ∃ o t r, s.op = .hb o ∧ s.args = .t t :: r ∧ ((∃ a n, o = .load a n) ∨ (∃ k z b, o = .look k z b) ∨ o = .lenM) := by
    unfold steady at hst
    split at hst
    · exact ⟨_, _, _, by assumption, by assumption, .inl ⟨_, _, rfl⟩⟩
    · exact ⟨_, _, _, by assumption, by assumption, .inr (.inl ⟨_, _, _, rfl⟩)⟩
    · exact ⟨_, _, _, by assumption, by assumption, .inr (.inr rfl)⟩
    · cases hst
  obtain ⟨o, t, r, h1, h2, h3⟩ := ho
  have key : runOp call s.op (evs e s.args) H = some (v, H1) → runOp call s.op (evs e' s.args) H' = some (v, H') ∧ H1 = H := by
    have hev : evs e' (.t t :: r) = Env.at e' t :: evs e' r := rfl
    rw [hr, h1, h2, hev]
    simp only [runOp]
    intro h
    obtain ⟨hlc, h⟩ := ite_none h
    refine ⟨?_, heapOp_looks h3 h⟩
    rw [if_neg hlc]
    exact look_move h3 (by simpa using hlc) h fun k b hi hb => hk t k b hi hb
  unfold Stepped at h ⊢
  cases hg : s.guard with
  | none => simp only [hg] at h ⊢; exact key h
  | some gw =>
    obtain ⟨g, want⟩ := gw
    simp only [hg] at h ⊢
    have hgt := he g (by simp [reads, hg])
    obtain ⟨b, hb, h⟩ := h
    rw [hgt] at hb
    by_cases hbw : b = some want
    · rw [if_pos hbw] at h
      obtain ⟨k1, k2⟩ := key h
      exact ⟨⟨b, hb, by rw [if_pos hbw]; exact k1⟩, k2⟩
    · rw [if_neg hbw] at h
      obtain ⟨rfl, rfl⟩ := h
      exact ⟨⟨b, hb, by rw [if_neg hbw]; exact ⟨rfl, trivial⟩⟩, rfl⟩

/-- Heaps that agree are one. -/
theorem alike_get {H H' : Heap} (h : Agr (fun _ => True) H H') (i : Id) : H.get i = H'.get i := h.get (by cases i <;> trivial)

theorem alike_live {H H' : Heap} (h : Agr (fun _ => True) H H') (i : Id) : H.live i ↔ H'.live i := by
  cases i with
  | loc s => simp only [Heap.live, h.bx s trivial]
  | blk n => simp only [Heap.live, h.bl]

theorem alike_Live {H H' : Heap} (h : Agr (fun _ => True) H H') {b : Nat} : Live ι H b ↔ Live ι H' b := by
  unfold Live
  simp only [alike_live h]

theorem alike_inv {H H' : Heap} (h : Agr (fun _ => True) H H') (hi : Inv w F ι H) : Inv w F ι H' where
  len := by rw [← h.bl]; exact hi.len
  cells := fun i cs hc => hi.cells i cs (by rw [alike_get h]; exact hc)
  maps := fun n es hc => hi.maps n es (by rw [h.bl]; exact hc)
  inj := fun i j b h1 h2 => hi.inj i j b ((alike_live h i).2 h1) ((alike_live h j).2 h2)
  dis := fun b hb hl => hi.dis b hb ((alike_Live h).2 hl)
  lt := hi.lt
  lo := fun s hs => hi.lo s (by
    first
      | exact hs
      | (rw [h.bx s trivial]; exact hs))

/-! ### The edges -/

theorem mask_fold (S : Nat → Prop) (acc : List Nat) (hacc : ∀ i, S i → ∀ j, (acc.getD i 0).testBit j = true → S j) : ∀ (es : List Edge) (s : Nat), (∀ e ∈ es, Region.binds .any e = true → S e.on) → (∀ j, s.testBit j = true → S j) →
    ∀ j, (es.foldl (fun s e => if Region.binds .any e then s ||| 2 ^ e.on ||| acc.getD e.on 0 else s) s).testBit j = true → S j
  | [], s, _, hs, j, h => hs j h
  | e :: es, s, he, hs, j, h => by
    simp only [List.foldl_cons] at h
    refine mask_fold S acc hacc es _ (fun e' h' => he e' (List.mem_cons_of_mem _ h')) ?_ j h
    intro j hj
    split at hj
    · rename_i hb
      have hon := he e (by simp) hb
      simp only [Nat.testBit_or, Bool.or_eq_true, Nat.testBit_two_pow, decide_eq_true_eq] at hj
      rcases hj with (hj | hj) | hj
      · exact hs j hj
      · exact hj ▸ hon
      · exact hacc _ hon j hj
    · exact hs j hj

theorem masks_ok (S : Nat → Prop) : ∀ (rest : List Oper) (acc : List Nat), (∀ i, S i → ∀ j, (acc.getD i 0).testBit j = true → S j) →
    (∀ i o, rest[i]? = some o → S (acc.length + i) → ∀ e ∈ o.after.toList, Region.binds .any e = true → S e.on) → ∀ i, S i → ∀ j, ((masks acc rest).getD i 0).testBit j = true → S j
  | [], acc, hacc, _ => hacc
  | o :: rest, acc, hacc, hc => by
    refine masks_ok S rest (acc ++ [maskOf acc o]) ?_ ?_
    · intro i hi j hj
      rcases Nat.lt_trichotomy i acc.length with h | h | h
      · refine hacc i hi j ?_
        simpa [List.getD, List.getElem?_append_left h] using hj
      · subst h
        have hj' : (maskOf acc o).testBit j = true := by simpa [List.getD] using hj
        exact mask_fold S acc hacc _ 0 (hc 0 o rfl (by simpa using hi)) (fun j h => by simp at h) j hj'
      · have : (acc ++ [maskOf acc o]).getD i 0 = 0 := by simp [List.getD, List.getElem?_eq_none (show (acc ++ [maskOf acc o]).length ≤ i by simp; omega)]
        rw [this] at hj
        simp at hj
    · intro i o' ho hi
      refine hc (i + 1) o' (by simpa using ho) ?_
      simpa [Nat.add_assoc, Nat.add_comm 1 i] using hi

theorem filt {p q : Nat → Bool} {i : Nat} (hp : p i = true) (hq : ∀ x, q x = (p x && !(x == i))) : ∀ (l : List Nat), l.Nodup → i ∈ l → (l.filter q).length + 1 = (l.filter p).length
  | [], _, h => by simp at h
  | x :: l, hn, h => by
    have hn' := List.nodup_cons.1 hn
    by_cases hx : x = i
    · subst hx
      have : l.filter q = l.filter p := List.filter_congr fun y hy => by
        have : y ≠ x := fun e => hn'.1 (e ▸ hy)
        simp [hq, this]
      simp [hq, hp, this]
    · have hm : i ∈ l := by
        rcases List.mem_cons.1 h with h | h
        · exact (hx h.symm).elim
        · exact h
      have := filt hp hq l hn'.2 hm
      have hqx : q x = p x := by simp [hq, hx]
      cases hpx : p x with
      | true =>
        rw [List.filter_cons_of_pos (by rw [hqx]; exact hpx), List.filter_cons_of_pos hpx]
        simp only [List.length_cons]; omega
      | false =>
        rw [List.filter_cons_of_neg (by rw [hqx, hpx]; simp), List.filter_cons_of_neg (by rw [hpx]; simp)]
        exact this

theorem compStms_get {an : Ann} {n : Nat} {ops : Array Oper} : ∀ {rest : List Oper} {l : List CStm}, compStms P an n ops rest = some l → l.length = rest.length ∧ ∀ (k : Nat) (o : Oper), rest[k]? = some o → ∃ s, l[k]? = some s ∧ compStm P an n ops o = some s
  | [], l, h => by
    simp only [compStms, Option.some.injEq] at h; subst h
    simp
  | o :: rest, l, h => by
    simp only [compStms, Option.bind_eq_some_iff, Option.map_eq_some_iff] at h
    obtain ⟨s, hs, l', hl', rfl⟩ := h
    obtain ⟨h1, h2⟩ := compStms_get hl'
    refine ⟨by simp [h1], fun k o' hk => ?_⟩
    cases k with
    | zero => simp at hk; subst hk; exact ⟨s, rfl, hs⟩
    | succ k => simpa using h2 k o' (by simpa using hk)

theorem meet_spec {quiet : FuncId → Bool} {x y : CStm} (h : meet quiet x y = false) : ((footOf quiet x).clash (footOf quiet y) = false ∨ swaps x y = true) ∧ (∀ d, x.dst = some d → d ∉ reads y ∧ y.dst ≠ some d) ∧ (∀ d, y.dst = some d → d ∉ reads x) := by
  simp only [meet, Bool.or_eq_false_iff] at h
  obtain ⟨⟨h1, h2⟩, h3⟩ := h
  have h1' : (footOf quiet x).clash (footOf quiet y) = false ∨ swaps x y = true := by
    simp only [Bool.and_eq_false_iff, Bool.not_eq_false'] at h1
    exact h1
  refine ⟨h1', fun d hd => ?_, fun d hd => ?_⟩
  · rw [hd] at h2
    simp only [Bool.or_eq_false_iff] at h2
    exact ⟨by simpa using h2.1, by simpa using h2.2⟩
  · rw [hd] at h3
    simpa using h3

/-- What a region whose order is drawn has come to, some of it carried out. -/
structure DI (n : Nat) (quiet : FuncId → Bool) (ops : Array Oper) (l : List CStm) (E : Nat → Env) (Hs : Nat → Heap) (S : Nat → Prop) (envS : Env) (HS : Heap) : Prop where
  closed : ∀ i o, ops[i]? = some o → S i → ∀ e ∈ o.after.toList, Region.binds .any e = true → S e.on
  env : ∀ t i, i ≤ l.length → (∀ (j : Nat) (s : CStm), l[j]? = some s → s.dst = some t → (S j ↔ j < i)) → Env.at envS t = Env.at (E i) t
  heap : ∀ r i, i ≤ l.length → (∀ (j : Nat) (s : CStm), l[j]? = some s → (footOf quiet s).wr r → (S j ↔ j < i)) → same r HS (Hs i)

theorem at_put (env : Env) (dst : Option Nat) (c : CV) (t : Nat) : Env.at (putD env dst c) t = if dst = some t then c else Env.at env t := by
  cases dst with
  | none => simp [putD]
  | some d =>
    simp only [putD, look_cons, Option.some.injEq]
    by_cases h : t = d
    · subst h; simp
    · have : ¬ d = t := fun e => h e.symm
      simp [h, this]

/-- Nothing is written between: the slot is as it was. -/
theorem between {call : Caller} {l : List CStm} {E : Nat → Env} {Hs : Nat → Heap} {C : Nat → CV} (ht : ∀ (k : Nat) (s : CStm), l[k]? = some s → Stepped call s (E k) (Hs k) (C k) (Hs (k + 1)) ∧ E (k + 1) = putD (E k) s.dst (C k)) {t m : Nat} :
    ∀ i, m ≤ i → i ≤ l.length → (∀ (j : Nat) (s : CStm), l[j]? = some s → m ≤ j → j < i → s.dst ≠ some t) → Env.at (E i) t = Env.at (E m) t
  | 0, h, _, _ => by
    obtain rfl : m = 0 := by omega
    rfl
  | i + 1, h, hl, hn => by
    by_cases hm : m = i + 1
    · subst hm; rfl
    · have hs : ∃ s, l[i]? = some s := ⟨l[i], List.getElem?_eq_getElem (by omega)⟩
      obtain ⟨s, hs⟩ := hs
      rw [(ht i s hs).2, at_put, if_neg (hn i s hs (by omega) (by omega))]
      exact between ht i (by omega) (by omega) fun j s hj h1 h2 => hn j s hj h1 (by omega)

theorem betweenH {call : Caller} {quiet : FuncId → Bool} (hq : QuietOk call quiet) {l : List CStm} {E : Nat → Env} {Hs : Nat → Heap} {C : Nat → CV} (ht : ∀ (k : Nat) (s : CStm), l[k]? = some s → Stepped call s (E k) (Hs k) (C k) (Hs (k + 1)) ∧ E (k + 1) = putD (E k) s.dst (C k)) {r : Rsc} {m : Nat} :
    ∀ i, m ≤ i → i ≤ l.length → (∀ (j : Nat) (s : CStm), l[j]? = some s → m ≤ j → j < i → ¬ (footOf quiet s).wr r) → same r (Hs i) (Hs m)
  | 0, h, _, _ => by
    obtain rfl : m = 0 := by omega
    exact same.refl r _
  | i + 1, h, hl, hn => by
    by_cases hm : m = i + 1
    · subst hm; exact same.refl r _
    · obtain ⟨s, hs⟩ : ∃ s, l[i]? = some s := ⟨l[i], List.getElem?_eq_getElem (by omega)⟩
      obtain ⟨_, _, _, _, h4⟩ := stepped_foot hq (ht i s hs).1 (e' := E i) (H' := Hs i) (fun _ _ => rfl) (fun r _ => same.refl r _)
      exact (h4 r (hn i s hs (by omega) (by omega))).trans (betweenH hq ht i (by omega) (by omega) fun j s hj h1 h2 => hn j s hj h1 (by omega))

theorem prefix_of {W S : Nat → Prop} (hc : ∀ j k, j < k → W j → W k → S k → S j) : ∀ n, ∃ m, m ≤ n ∧ ∀ j, j < n → W j → (S j ↔ j < m)
  | 0 => ⟨0, Nat.le_refl _, fun j h => by omega⟩
  | n + 1 => by
    obtain ⟨m, hm, h⟩ := prefix_of hc n
    by_cases hW : W n
    · by_cases hS : S n
      · refine ⟨n + 1, Nat.le_refl _, fun j hj hWj => ⟨fun _ => hj, fun _ => ?_⟩⟩
        rcases Nat.lt_or_ge j n with h1 | h1
        · exact hc j n h1 hWj hW hS
        · obtain rfl : j = n := by omega
          exact hS
      · refine ⟨m, by omega, fun j hj hWj => ?_⟩
        rcases Nat.lt_or_ge j n with h1 | h1
        · exact h j h1 hWj
        · obtain rfl : j = n := by omega
          exact ⟨fun h => (hS h).elim, fun h => by omega⟩
    · refine ⟨m, by omega, fun j hj hWj => ?_⟩
      rcases Nat.lt_or_ge j n with h1 | h1
      · exact h j h1 hWj
      · obtain rfl : j = n := by omega
        exact (hW hWj).elim

theorem grown_to {call : Caller} {quiet : FuncId → Bool} (hq : QuietOk call quiet) {l : List CStm} {E : Nat → Env} {Hs : Nat → Heap} {C : Nat → CV} (ht : ∀ (k : Nat) (s : CStm), l[k]? = some s → Stepped call s (E k) (Hs k) (C k) (Hs (k + 1)) ∧ E (k + 1) = putD (E k) s.dst (C k)) {m : Nat} :
    ∀ i, m ≤ i → i ≤ l.length → (∀ (j : Nat) (s : CStm), l[j]? = some s → m ≤ j → j < i → (footOf quiet s).wr .bl → grows s = true) → ∃ X, (Hs i).bl = (Hs m).bl ++ X
  | 0, h, _, _ => by
    obtain rfl : m = 0 := by omega
    exact ⟨[], by simp⟩
  | i + 1, h, hl, hn => by
    by_cases hm : m = i + 1
    · subst hm; exact ⟨[], by simp⟩
    · obtain ⟨s, hs⟩ : ∃ s, l[i]? = some s := ⟨l[i], List.getElem?_eq_getElem (by omega)⟩
      obtain ⟨X, hX⟩ := grown_to hq ht i (by omega) (by omega) fun j s hj h1 h2 hw => hn j s hj h1 (by omega) hw
      by_cases hw : (footOf quiet s).wr .bl
      · obtain ⟨Y, hY⟩ := grows_step (hn i s hs (by omega) (by omega) hw) (ht i s hs).1
        exact ⟨X ++ Y, by rw [hY, hX, List.append_assoc]⟩
      · obtain ⟨_, _, _, _, h4⟩ := stepped_foot hq (ht i s hs).1 (e' := E i) (H' := Hs i) (fun _ _ => rfl) (fun r _ => same.refl r _)
        have h5 : (Hs (i + 1)).bl = (Hs i).bl := h4 .bl hw
        exact ⟨X, by rw [h5, hX]⟩

theorem steady_rd {quiet : FuncId → Bool} {s : CStm} (h : steady s = true) : (footOf quiet s).rd .bl := by
  obtain ⟨dst, op, args, guard⟩ := s
  unfold steady at h
  split at h
  · rename_i h1 _; dsimp only at h1; subst h1; simp [Foot.rd, footOf]
  · rename_i h1 _; dsimp only at h1; subst h1; simp [Foot.rd, footOf]
  · rename_i h1 _; dsimp only at h1; subst h1; simp [Foot.rd, footOf]
  · cases h

theorem draw_ok {call : Caller} (hcall : CallerOk P call) {quiet : FuncId → Bool} (hq : QuietOk call quiet) {an : Ann} {n : Nat} {ops : Array Oper} {l l0 : List CStm} (hl0 : compStms P an n ops ops.toList = some l0) (hsh : l.length = l0.length ∧ ∀ (k : Nat) (s : CStm), l0[k]? = some s → ∃ s', l[k]? = some s' ∧ Sharp quiet s s') (hd : drawOk quiet ops l = true)
    {w0 : World} {F0 : Nat → Prop} {ι0 : IM} {H0 : Heap} {E : Nat → Env} {Hs : Nat → Heap} {C : Nat → CV} (ht : ∀ (k : Nat) (s : CStm), l[k]? = some s → Stepped call s (E k) (Hs k) (C k) (Hs (k + 1)) ∧ E (k + 1) = putD (E k) s.dst (C k))
    {Q : Exit → Act → World → Prop} (hQ : ∀ a' w' F' ι', St n w' F' ι' (Hs l.length) (E l.length) a' → Ext w0 F0 ι0 H0 w' F' ι' (Hs l.length) → MoV w0 w' F0 F' ι0 ι' → Q .normal a' w') :
    ∀ (fuel : Nat) (listed : Array Bool) (a : Act) (w : World) (F : Nat → Prop) (ι : IM) (envS : Env) (HS : Heap), listed.size = ops.size → ((List.range ops.size).filter fun i => !listed.getD i true).length = fuel →
      DI n quiet ops l E Hs (fun i => listed[i]? = some true) envS HS → St n w F ι HS envS a → Ext w0 F0 ι0 H0 w F ι HS → MoV w0 w F0 F ι0 ι → wpAny P .any ops Q fuel listed a w := by
  obtain ⟨hlen, hget⟩ := compStms_get hl0
  have hsz : l.length = ops.size := by rw [hsh.1]; simpa using hlen
  simp only [drawOk, Bool.and_eq_true] at hd
  obtain ⟨hearly, hmeets⟩ := hd
  have hearly' : ∀ i o, ops[i]? = some o → ∀ e ∈ o.after.toList, Region.binds .any e = true → e.on < i := by
    intro i o ho e he hb
    have h1 := List.all_eq_true.1 hearly (o, i) (by
      rw [List.mem_iff_getElem?]
      exact ⟨i, by simp [List.getElem?_zipIdx, ho]⟩)
    have h2 := List.all_eq_true.1 h1 e he
    simpa [hb] using h2
  have hmeet : ∀ i j x y, i < j → l[i]? = some x → l[j]? = some y → meet quiet x y = false ∨ ((masks [] ops.toList).getD j 0).testBit i = true := by
    intro i j x y hij hx hy
    have h1 := List.all_eq_true.1 hmeets (y, j) (by
      rw [List.mem_iff_getElem?]
      exact ⟨j, by simp [List.getElem?_zipIdx, hy]⟩)
    have h2 := List.all_eq_true.1 h1 (x, i) (by
      rw [List.mem_iff_getElem?]
      refine ⟨i, ?_⟩
      simp [List.getElem?_zipIdx, hij, hx])
    simpa using h2
  -- when all is listed
  have hfin : ∀ (listed : Array Bool) (a : Act) (w : World) (F : Nat → Prop) (ι : IM) (envS : Env) (HS : Heap), (∀ i, i < ops.size → listed[i]? = some true) → DI n quiet ops l E Hs (fun i => listed[i]? = some true) envS HS → St n w F ι HS envS a → Ext w0 F0 ι0 H0 w F ι HS → MoV w0 w F0 F ι0 ι → Q .normal a w := by
    intro listed a w F ι envS HS hall hdi hst hext hmo
    have hH : Agr (fun _ => True) HS (Hs l.length) := agr_all.2 fun r => hdi.heap r l.length (Nat.le_refl _) fun j s hj _ => by
      have := (List.getElem?_eq_some_iff.1 hj).1
      exact ⟨fun _ => this, fun _ => hall j (by omega)⟩
    have hE : ∀ t, Env.at envS t = Env.at (E l.length) t := fun t => hdi.env t l.length (Nat.le_refl _) fun j s hj _ => by
      have := (List.getElem?_eq_some_iff.1 hj).1
      exact ⟨fun _ => this, fun _ => hall j (by omega)⟩
    refine hQ a w F ι ⟨fun t => by rw [← hE t]; exact hst.e t, alike_inv hH hst.i, hst.d, hst.s⟩ ?_ hmo
    exact { hext with live := fun b hb => hext.live b ((alike_Live hH).2 hb) }
  -- what is ready
  have hready : ∀ (listed : Array Bool), listed.size = ops.size → Region.ready .any ops listed = [] → ∀ i, i < ops.size → listed[i]? = some true := by
    intro listed hs hr i
    induction i using Nat.strongRecOn with
    | _ i ih =>
      intro hi
      cases hli : listed.getD i true with
      | true =>
        simp only [Array.getD_eq_getD_getElem?] at hli
        have : i < listed.size := by omega
        rw [Array.getElem?_eq_getElem this] at hli ⊢
        simpa using hli
      | false =>
        have hmem : i ∈ Region.ready .any ops listed := by
          obtain ⟨o, ho⟩ : ∃ o, ops[i]? = some o := ⟨ops[i], Array.getElem?_eq_getElem hi⟩
          simp only [Region.ready, List.mem_filter, List.mem_range, hli, Bool.not_false, Bool.true_and, ho, Option.map_some, Option.getD_some]
          refine ⟨hi, ?_⟩
          rw [← Array.all_toList]
          refine List.all_eq_true.2 fun e he => ?_
          cases hb : Region.binds .any e with
          | false => simp
          | true =>
            have hlt := hearly' i o ho e he hb
            have := ih e.on hlt (by omega)
            simp [Array.getD_eq_getD_getElem?, this]
        rw [hr] at hmem
        simp at hmem
  intro fuel
  induction fuel with
  | zero =>
    intro listed a w F ι envS HS hs hcnt hdi hst hext hmo
    have hall : ∀ i, i < ops.size → listed[i]? = some true := by
      intro i hi
      have hemp := List.length_eq_zero_iff.1 hcnt
      cases hli : listed.getD i true with
      | true =>
        simp only [Array.getD_eq_getD_getElem?] at hli
        have : i < listed.size := by omega
        rw [Array.getElem?_eq_getElem this] at hli ⊢
        simpa using hli
      | false =>
        have : i ∈ ((List.range ops.size).filter fun i => !listed.getD i true) := by simp only [List.mem_filter, List.mem_range, hli, Bool.not_false, and_true]; exact hi
        rw [hemp] at this
        simp at this
    refine ⟨?_, hfin listed a w F ι envS HS hall hdi hst hext hmo⟩
    unfold Region.ready
    rw [List.filter_eq_nil_iff]
    intro i hi
    have := hall i (by simpa using hi)
    simp [Array.getD_eq_getD_getElem?, this]
  | succ fuel ih =>
    intro listed a w F ι envS HS hs hcnt hdi hst hext hmo
    refine ⟨fun hr => hfin listed a w F ι envS HS (hready listed hs hr) hdi hst hext hmo, fun i hi => ?_⟩
    simp only [Region.ready, List.mem_filter, List.mem_range, Bool.and_eq_true, Bool.not_eq_true'] at hi
    obtain ⟨hin, hli, hafter⟩ := hi
    obtain ⟨o, ho⟩ : ∃ o, ops[i]? = some o := ⟨ops[i], Array.getElem?_eq_getElem hin⟩
    simp only [ho, Option.map_some, Option.getD_some] at hafter
    rw [← Array.all_toList] at hafter
    have hafter' : ∀ e ∈ o.after.toList, Region.binds .any e = true → listed[e.on]? = some true := by
      intro e he hb
      have := List.all_eq_true.1 hafter e he
      simp only [hb, Bool.not_true, Bool.false_or, Array.getD_eq_getD_getElem?] at this
      cases hx : listed[e.on]? with
      | none => simp [hx] at this
      | some b => simp [hx] at this; rw [this]
    have hnot : ¬ listed[i]? = some true := by
      intro h
      simp [Array.getD_eq_getD_getElem?, h] at hli
    -- who must stand ahead does
    let S : Nat → Prop := fun j => listed[j]? = some true
    have hS' : ∀ j, (listed.setIfInBounds i true)[j]? = some true ↔ (j = i ∨ S j) := by
      intro j
      rw [Array.getElem?_setIfInBounds]
      by_cases hj : i = j
      · subst hj; simp; omega
      · rw [if_neg hj]
        constructor
        · exact fun h => .inr h
        · rintro (h | h)
          · exact (hj h.symm).elim
          · exact h
    have hmask : ∀ j, ((masks [] ops.toList).getD i 0).testBit j = true → S j := by
      have := masks_ok (fun j => j = i ∨ S j) ops.toList [] (by simp [List.getD]) (by
        intro k o' ho' hk e he hb
        have ho'' : ops[k]? = some o' := by simpa using ho'
        simp only [List.length_nil, Nat.zero_add] at hk
        rcases hk with rfl | hk
        · rw [ho] at ho''; cases ho''
          exact .inr (hafter' e he hb)
        · exact .inr (hdi.closed k o' ho'' hk e he hb)) i (.inl rfl)
      intro j hj
      rcases this j hj with rfl | h
      · exfalso
        -- an operation does not wait for itself
        have hself : ∀ (rest : List Oper) (acc : List Nat), (∀ k, ∀ b, (acc.getD k 0).testBit b = true → b < k) → (∀ k o', rest[k]? = some o' → ∀ e ∈ o'.after.toList, Region.binds .any e = true → e.on < acc.length + k) →
            ∀ k, ∀ b, ((masks acc rest).getD k 0).testBit b = true → b < k := by
          intro rest
          induction rest with
          | nil => intro acc h _; exact h
          | cons o' rest ih =>
            intro acc hacc hrest
            refine ih (acc ++ [maskOf acc o']) ?_ ?_
            · intro k b hb
              rcases Nat.lt_trichotomy k acc.length with h | h | h
              · exact hacc k b (by simpa [List.getD, List.getElem?_append_left h] using hb)
              · subst h
                have hb' : (maskOf acc o').testBit b = true := by simpa [List.getD] using hb
                refine mask_fold (fun b => b < acc.length) acc ?_ _ 0 (fun e he hbi => by simpa using hrest 0 o' rfl e he hbi) (fun j h => by simp at h) b hb'
                intro i' hi' j' hj'
                have := hacc i' j' hj'
                omega
              · have : (acc ++ [maskOf acc o']).getD k 0 = 0 := by simp [List.getD, List.getElem?_eq_none (show (acc ++ [maskOf acc o']).length ≤ k by simp; omega)]
                rw [this] at hb
                simp at hb
            · intro k o'' ho'' e he hbi
              have := hrest (k + 1) o'' (by simpa using ho'') e he hbi
              simp only [List.length_append, List.length_cons, List.length_nil]
              omega
        have := hself ops.toList [] (by simp [List.getD]) (fun k o' ho' e he hb => by
          have := hearly' k o' (by simpa using ho') e he hb
          simpa using this) j j hj
        omega
      · exact h
    have hmaskS : ∀ k, S k → ∀ j, ((masks [] ops.toList).getD k 0).testBit j = true → S j := masks_ok S ops.toList [] (by simp [List.getD]) (by
      intro k o' ho' hk e he hb
      exact hdi.closed k o' (by simpa using ho') (by simpa using hk) e he hb)
    obtain ⟨s0, hls0, hcs⟩ := hget i o (by simpa using ho)
    obtain ⟨s, hls, hsd, hsharp⟩ := hsh.2 i s0 hls0
    obtain ⟨hstep, hnext⟩ := ht i s hls
    -- what it reads is what it read in the text's order
    have hreads : ∀ t ∈ reads s, Env.at (E i) t = Env.at envS t := by
      intro t htr
      refine (hdi.env t i (by omega) fun j x hj hx => ?_).symm
      constructor
      · intro hSj
        rcases Nat.lt_trichotomy j i with h | h | h
        · exact h
        · subst h; exact (hnot hSj).elim
        · rcases hmeet i j s x h hls hj with hm | hm
          · exact ((meet_spec hm).2.2 t hx htr).elim
          · exact (hnot (hmaskS j hSj i hm)).elim
      · intro hji
        rcases hmeet j i x s hji hj hls with hm | hm
        · exact (((meet_spec hm).2.1 t hx).1 htr).elim
        · exact hmask j hm
    have hstep2 : ∃ H1', Stepped call s envS HS (C i) H1' ∧ (∀ x, (footOf quiet s).wr x → same x H1' (Hs (i + 1))) ∧ (∀ x, ¬ (footOf quiet s).wr x → same x H1' HS) := by
      cases hsteady : steady s with
      | false =>
        have hheap : ∀ r, (footOf quiet s).rd r → same r (Hs i) HS := by
          intro r hp
          have no : ∀ x, (footOf quiet x).wr r → (swaps s x = true ∨ swaps x s = true) → False := by
            intro x hx ha
            have hxs : steady x = false := by
              cases hxs : steady x with
              | false => rfl
              | true => exact (steady_nowr hxs r hx).elim
            rcases ha with ha | ha <;> simp [swaps, hsteady, hxs] at ha
          refine (hdi.heap r i (by omega) fun j x hj hx => ?_).symm
          constructor
          · intro hSj
            rcases Nat.lt_trichotomy j i with h | h | h
            · exact h
            · subst h; exact (hnot hSj).elim
            · rcases hmeet i j s x h hls hj with hm | hm
              · rcases (meet_spec hm).1 with hc | hc
                · exact ((clash_false hc r).2 hx hp).elim
                · exact (no x hx (.inl hc)).elim
              · exact (hnot (hmaskS j hSj i hm)).elim
          · intro hji
            rcases hmeet j i x s hji hj hls with hm | hm
            · rcases (meet_spec hm).1 with hc | hc
              · exact (((clash_false hc r).1 hx).1 hp).elim
              · exact (no x hx (.inr hc)).elim
            · exact hmask j hm
        obtain ⟨H1', g1, g2, g3, _⟩ := stepped_foot hq hstep hreads hheap
        exact ⟨H1', g1, g2, g3⟩
      | true =>
        -- who has grown the blocks, and who hasn't
        obtain ⟨m, hml, hm⟩ := prefix_of (W := fun j => ∃ x, l[j]? = some x ∧ (footOf quiet x).wr .bl) (S := S) (fun j k hjk hWj hWk hSk => by
          obtain ⟨x, hx, hxw⟩ := hWj
          obtain ⟨y, hy, hyw⟩ := hWk
          rcases hmeet j k x y hjk hx hy with h | h
          · rcases (meet_spec h).1 with hc | hc
            · exact (((clash_false hc .bl).1 hxw).2 hyw).elim
            · exfalso
              have h1 : steady x = false := by
                cases h : steady x with
                | false => rfl
                | true => exact (steady_nowr h .bl hxw).elim
              have h2 : steady y = false := by
                cases h : steady y with
                | false => rfl
                | true => exact (steady_nowr h .bl hyw).elim
              simp [swaps, h1, h2] at hc
          · exact hmaskS k hSk j h) l.length
        have hbl : HS.bl = (Hs m).bl := hdi.heap .bl m hml fun j x hj hx => hm j (List.getElem?_eq_some_iff.1 hj).1 ⟨x, hj, hx⟩
        have grown : ∀ j x, l[j]? = some x → (footOf quiet x).wr .bl → (i ≤ j ∧ S j ∨ j < i ∧ ¬ S j) → grows x = true := by
          intro j x hj hx hcase
          have fin : (swaps s x = true ∨ swaps x s = true) → grows x = true := by
            intro ha
            have hxs : steady x = false := by
              cases h : steady x with
              | false => rfl
              | true => exact (steady_nowr h .bl hx).elim
            rcases ha with ha | ha
            · simpa [swaps, hsteady, hxs] using ha
            · simpa [swaps, hsteady, hxs] using ha
          have hrd : (footOf quiet s).rd .bl := steady_rd hsteady
          rcases hcase with ⟨hij, hSj⟩ | ⟨hji, hSj⟩
          · have hne : i ≠ j := fun e => hnot (e ▸ hSj)
            rcases hmeet i j s x (by omega) hls hj with h | h
            · rcases (meet_spec h).1 with hc | hc
              · exact ((clash_false hc .bl).2 hx hrd).elim
              · exact fin (.inl hc)
            · exact (hnot (hmaskS j hSj i h)).elim
          · rcases hmeet j i x s hji hj hls with h | h
            · rcases (meet_spec h).1 with hc | hc
              · exact (((clash_false hc .bl).1 hx).1 hrd).elim
              · exact fin (.inr hc)
            · exact (hSj (hmask j h)).elim
        have hlive : ∀ t k, idOf (Env.at envS t) = some k → k < HS.bl.length := by
          intro t k hk
          have hv := hst.e t
          rw [← hst.i.len]
          cases hx : Env.at envS t with
          | op id off =>
            rw [hx] at hk hv
            cases id with
            | loc s => simp [idOf] at hk
            | blk n =>
              simp only [idOf, Option.some.injEq] at hk
              subst hk
              simp only [VR, IM.get] at hv
              obtain ⟨b, hb, _⟩ := hv
              exact (List.getElem?_eq_some_iff.1 hb).1
          | om n =>
            rw [hx] at hk hv
            simp only [idOf, Option.some.injEq] at hk
            subst hk
            simp only [VR] at hv
            obtain ⟨b, hb, _⟩ := hv
            exact (List.getElem?_eq_some_iff.1 hb).1
          | _ => rw [hx] at hk; simp [idOf] at hk
        obtain ⟨g1, g2⟩ := steady_step hsteady hstep hreads (H' := HS) (fun t k b hk hb => by
          rcases Nat.lt_or_ge m i with hmi | hmi
          · obtain ⟨X, hX⟩ := grown_to hq ht (m := m) i (by omega) (by omega) fun j x hj h1 h2 hx => grown j x hj hx (.inr ⟨h2, fun hS => by
              have := (hm j (List.getElem?_eq_some_iff.1 hj).1 ⟨x, hj, hx⟩).1 hS
              omega⟩)
            rw [hX, ← hbl, List.getElem?_append_left (hlive t k hk)] at hb
            exact hb
          · obtain ⟨X, hX⟩ := grown_to hq ht (m := i) m hmi hml fun j x hj h1 h2 hx => grown j x hj hx (.inl ⟨h1, (hm j (List.getElem?_eq_some_iff.1 hj).1 ⟨x, hj, hx⟩).2 h2⟩)
            rw [hbl, hX, List.getElem?_append_left (List.getElem?_eq_some_iff.1 hb).1]
            exact hb)
        exact ⟨HS, g1, fun x hx => (steady_nowr hsteady x hx).elim, fun x _ => same.refl x _⟩
    obtain ⟨H1', hstep', hwr, hkeep⟩ := hstep2
    have hdst : s.dst = o.dst ∧ o.dst.all (· < n) = true := by
      rw [hsd]
      unfold compStm at hcs
      split at hcs <;> (try cases hcs)
      rename_i hdst
      split at hcs <;> (try cases hcs)
      exact ⟨rfl, hdst⟩
    refine (wpOp_ok hcall ho hcs hst.e hst.i (hsharp _ hq _ _ _ _ hstep') (fun v' w' F' ι' g1 g2 g3 g4 => ?_)).1
    refine ih (listed.setIfInBounds i true) (a.put o.dst v') w' F' ι' (putD envS s.dst (C i)) _ (by simpa using hs) ?_ ?_ ?_ (hext.trans g3) ⟨⟨fun b hb => g4.f b (hmo.f b hb), fun b hb => (g4.h b (hmo.f b hb)).trans (hmo.h b hb)⟩, fun i b hb => g4.i i b (hmo.i i b hb), fun b n hb => g4.c b n (hmo.c b n hb)⟩
    · have := filt (p := fun j => !listed.getD j true) (q := fun j => !(listed.setIfInBounds i true).getD j true) (i := i) (by simp [hli]) (by
        intro x
        simp only [Array.getD_eq_getD_getElem?, Array.getElem?_setIfInBounds]
        by_cases hx : i = x
        · subst hx
          rw [if_pos rfl, if_pos (by omega)]
          simp
        · have hx' : ¬ x = i := fun e => hx e.symm
          simp [hx, hx']) (List.range ops.size) List.nodup_range (by simpa using hin)
      omega
    · refine ⟨?_, ?_, ?_⟩
      · intro k o' ho' hk e he hb
        rcases (hS' k).1 hk with rfl | hk
        · rw [ho] at ho'; cases ho'
          exact (hS' _).2 (.inr (hafter' e he hb))
        · exact (hS' _).2 (.inr (hdi.closed k o' ho' hk e he hb))
      · intro t k hk hiff
        rw [at_put]
        split
        · rename_i hst'
          have hik : i < k := (hiff i s hls hst').1 ((hS' i).2 (.inl rfl))
          have hother : ∀ j x, l[j]? = some x → x.dst = some t → i < j → ¬ S j := by
            intro j x hj hx hij hSj
            rcases hmeet i j s x hij hls hj with hm | hm
            · exact ((meet_spec hm).2.1 t hst').2 hx
            · exact hnot (hmaskS j hSj i hm)
          have := between ht (t := t) (m := i + 1) k (by omega) hk fun j x hj h1 h2 hx => by
            have := (hiff j x hj hx).2 h2
            rcases (hS' j).1 this with h | h
            · omega
            · exact hother j x hj hx (by omega) h
          rw [this, hnext, at_put, if_pos hst']
        · rename_i hst'
          refine hdi.env t k hk fun j x hj hx => ?_
          rw [← hiff j x hj hx, hS' j]
          constructor
          · exact fun h => .inr h
          · rintro (rfl | h)
            · rw [hls] at hj; cases hj
              exact (hst' hx).elim
            · exact h
      · intro r k hk hiff
        by_cases hturn : (footOf quiet s).wr r
        · have hik : i < k := (hiff i s hls hturn).1 ((hS' i).2 (.inl rfl))
          refine (hwr r hturn).trans (betweenH hq ht (r := r) (m := i + 1) k (by omega) hk fun j x hj h1 h2 hx => ?_).symm
          have := (hiff j x hj hx).2 h2
          rcases (hS' j).1 this with h | h
          · omega
          · rcases hmeet i j s x (by omega) hls hj with hm | hm
            · rcases (meet_spec hm).1 with hc | hc
              · exact ((clash_false hc r).1 hturn).2 hx
              · have h1 : steady s = false := by
                  cases h : steady s with
                  | false => rfl
                  | true => exact (steady_nowr h r hturn).elim
                have h2 : steady x = false := by
                  cases h : steady x with
                  | false => rfl
                  | true => exact (steady_nowr h r hx).elim
                simp [swaps, h1, h2] at hc
            · exact hnot (hmaskS j h i hm)
        · refine (hkeep r hturn).trans (hdi.heap r k hk fun j x hj hx => ?_)
          rw [← hiff j x hj hx, hS' j]
          constructor
          · exact fun h => .inr h
          · rintro (rfl | h)
            · rw [hls] at hj; cases hj
              exact (hturn hx).elim
            · exact h
    · rw [hdst.1]
      exact hst.put hdst.2 g1 g2 g4

/-- A region, its order drawn or not. -/
theorem region_ok {call : Caller} (hcall : CallerOk P call) {quiet : FuncId → Bool} (hq : QuietOk call quiet) (hmix : P.follows .mixedOrders = true) {an : Ann} {n id : Nat} {ops : Array Oper} {draw : Bool} {l l0 : List CStm} (hl : compStms P an n ops ops.toList = some l0)
    (hsh : l.length = l0.length ∧ ∀ (k : Nat) (s : CStm), l0[k]? = some s → ∃ s', l[k]? = some s' ∧ Sharp quiet s s') (hd : (draw = false ∧ l = l0) ∨ (draw = true ∧ drawOk quiet ops l = true)) {env' : Env} {H' : Heap} (hr : runOps call l env H = some (env', H')) (hst : St n w F ι H env a) {Q : Exit → Act → World → Prop}
    (hQ : ∀ a' w' F' ι', St n w' F' ι' H' env' a' → Ext w F ι H w' F' ι' H' → MoV w w' F F' ι ι' → Q .normal a' w') : (Code.region id ops draw).wp P Q a w := by
  cases draw with
  | false =>
    refine wp_region ?_
    rw [List.range_eq_range', show ops.size = ops.toList.length by simp]
    rcases hd with ⟨_, rfl⟩ | ⟨hd, _⟩
    · exact ops_ok hcall ops.toList l 0 w F ι H env a rfl hl hr hst hQ
    · cases hd
  | true =>
    obtain ⟨E, Hs, C, e1, e2, e3, e4, e5⟩ := trace hr
    subst e1 e2 e3 e4
    have hw : ∀ b : Nat, ({ w with drawn := w.drawn + 1 } : World).heap[b]? = w.heap[b]? := fun _ => rfl
    have hm : MoV w { w with drawn := w.drawn + 1 } F F ι ι := ⟨⟨fun _ h => h, fun _ _ => rfl⟩, fun _ _ h => h, fun _ _ h => h⟩
    have hst' : St n { w with drawn := w.drawn + 1 } F ι (Hs 0) (E 0) a := ⟨hst.e.mono hm, hst.i.build hm hst.i.len (fun i cs h => .inl ⟨h, fun _ _ => rfl⟩) (fun n es h => .inl ⟨h, fun _ _ => rfl⟩) hst.i.inj hst.i.dis hst.i.lt hst.i.lo, hst.d, hst.s⟩
    have hx : Ext w F ι (Hs 0) { w with drawn := w.drawn + 1 } F ι (Hs 0) := ⟨rfl, rfl, rfl, fun _ _ h => h, fun _ h => h, fun _ h => .inl h, Nat.le_refl _, fun _ _ h => h, fun _ _ _ => rfl, fun _ h => .inl h⟩
    refine wp_region_any hmix (draw_ok hcall hq hl hsh (by simpa using hd) e5 hQ ops.size _ a _ F ι (E 0) (Hs 0) (by simp) ?_ ?_ hst' hx hm)
    · have : (List.range ops.size).filter (fun i => !(Array.replicate ops.size false).getD i true) = List.range ops.size := by
        rw [List.filter_eq_self]
        intro i hi
        have : i < ops.size := by simpa using hi
        simp [Array.getD_eq_getD_getElem?, this]
      rw [this]; simp
    · have hno : ∀ i : Nat, ¬ (Array.replicate ops.size false)[i]? = some true := by
        intro i h
        rw [Array.getElem?_replicate] at h
        split at h <;> cases h
      refine ⟨fun i o _ h => (hno i h).elim, fun t i hi hiff => ?_, fun r i hi hiff => ?_⟩
      · exact (between e5 (t := t) (m := 0) i (by omega) hi fun j s hj _ h2 hs => hno j ((hiff j s hj hs).2 h2)).symm
      · exact (betweenH hq e5 (r := r) (m := 0) i (by omega) hi fun j s hj _ h2 hs => hno j ((hiff j s hj hs).2 h2)).symm

end
end Go.Zc
