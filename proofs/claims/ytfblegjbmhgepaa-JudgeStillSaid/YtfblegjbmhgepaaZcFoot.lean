/- Which memory an operation looks at and turns. No condition. -/
import Derived.Test.YtfblegjbmhgepaaZcReg
set_option linter.all false
namespace Go.Zc

def same : Rsc → Heap → Heap → Prop
  | .loc s, H, H' => look H.bx s = look H'.bx s
  | .bl, H, H' => H.bl = H'.bl

theorem same.refl (r : Rsc) (H : Heap) : same r H H := by cases r <;> exact rfl
theorem same.symm {r : Rsc} {H H' : Heap} (h : same r H H') : same r H' H := by cases r <;> exact Eq.symm h
theorem same.trans {r : Rsc} {H H' H'' : Heap} (h : same r H H') (h' : same r H' H'') : same r H H'' := by cases r <;> exact Eq.trans h h'

/-- Two heaps that agree on the blocks, and on some boxes. -/
structure Agr (D : Nat → Prop) (H H' : Heap) : Prop where
  bl : H.bl = H'.bl
  bx : ∀ s, D s → look H.bx s = look H'.bx s

def inD (D : Nat → Prop) : Id → Prop
  | .loc s => D s
  | .blk _ => True

variable {D : Nat → Prop} {H H' : Heap}

theorem Agr.get (h : Agr D H H') {i : Id} (hi : inD D i) : H.get i = H'.get i := by
  cases i with
  | loc s => exact h.bx s hi
  | blk n => simp only [Heap.get, h.bl]

/-- What an operation leaves alone. -/
def Rest (D : Nat → Prop) (H H1 : Heap) : Prop := ∀ s, ¬ D s → look H1.bx s = look H.bx s

theorem Agr.put (h : Agr D H H') (i : Id) (hi : inD D i) (cs : List CV) : Agr D (H.put i cs) (H'.put i cs) ∧ Rest D H (H.put i cs) := by
  cases i with
  | loc s =>
    refine ⟨⟨h.bl, fun t ht => ?_⟩, fun t ht => ?_⟩
    · simp only [Heap.put, look_setBx, h.bx t ht]
    · simp only [Heap.put, look_setBx]
      rw [if_neg (fun e => ht (by subst e; exact hi))]
  | blk n => exact ⟨⟨by simp only [Heap.put, h.bl], h.bx⟩, fun _ _ => rfl⟩

theorem Agr.push (h : Agr D H H') (b : Blk) : Agr D (H.push b) (H'.push b) ∧ Rest D H (H.push b) := ⟨⟨by simp only [Heap.push, h.bl], h.bx⟩, fun _ _ => rfl⟩
theorem Agr.kill (h : Agr D H H') (n : Nat) : Agr D (H.kill (.blk n)) (H'.kill (.blk n)) ∧ Rest D H (H.kill (.blk n)) := ⟨⟨by simp only [Heap.kill, h.bl], h.bx⟩, fun _ _ => rfl⟩
theorem Agr.setb (h : Agr D H H') (n : Nat) (b : Blk) : Agr D { H with bl := H.bl.set n b } { H' with bl := H'.bl.set n b } ∧ Rest D H { H with bl := H.bl.set n b } := ⟨⟨by simp only [h.bl], h.bx⟩, fun _ _ => rfl⟩

/-- The operands' own addresses. -/
def vIn (D : Nat → Prop) : CV → Prop
  | .op i _ => inD D i
  | .os _ i _ _ => inD D i
  | _ => True

theorem Agr.shown (h : Agr D H H') (sz : Nat) {x : CV} (hx : vIn D x) : Zc.shown H sz x = Zc.shown H' sz x := by
  cases x with
  | os s i off n => simp only [Zc.shown, h.get hx]
  | _ => rfl
theorem Agr.loadC (h : Agr D H H') (a : Bool) (n : Nat) {x : CV} (hx : vIn D x) : Zc.loadC a n H x = Zc.loadC a n H' x := by
  cases x with
  | op i off => simp only [Zc.loadC, h.get hx]
  | _ => rfl

/-- What both come to. -/
def Both (D : Nat → Prop) (H H' : Heap) (r r' : Option (CV × Heap)) : Prop := ∀ v H1, r = some (v, H1) → ∃ H1', r' = some (v, H1') ∧ Agr D H1 H1' ∧ Rest D H H1 ∧ Rest D H' H1'

theorem Agr.symm (h : Agr D H H') : Agr D H' H := ⟨h.bl.symm, fun s hs => (h.bx s hs).symm⟩

theorem both_look (h : Agr D H H') {f : Heap → Option CV} (hf : f H = f H') : Both D H H' ((f H).map fun v => (v, H)) ((f H').map fun v => (v, H')) := by
  intro v H1 hr
  rw [hf] at hr
  simp only [Option.map_eq_some_iff, Prod.mk.injEq] at hr
  obtain ⟨u, hu, rfl, rfl⟩ := hr
  exact ⟨H', by simp [hu], h, fun _ _ => rfl, fun _ _ => rfl⟩

theorem both_none {r' : Option (CV × Heap)} : Both D H H' none r' := fun _ _ h => by cases h

theorem both_some (_h : Agr D H H') {v : CV} {H1 H1' : Heap} (g : Agr D H1 H1') (h1 : Rest D H H1) (h2 : Rest D H' H1') : Both D H H' (some (v, H1)) (some (v, H1')) := by
  intro v' H2 hr
  cases hr
  exact ⟨H1', rfl, g, h1, h2⟩

theorem both_ite {c : Prop} [Decidable c] {a a' b b' : Option (CV × Heap)} (h1 : Both D H H' a a') (h2 : Both D H H' b b') : Both D H H' (if c then a else b) (if c then a' else b') := by
  split
  · exact h1
  · exact h2

theorem both_bind {α : Type} {o : Option α} {f f' : α → Option (CV × Heap)} (h : ∀ x, o = some x → Both D H H' (f x) (f' x)) : Both D H H' (o.bind f) (o.bind f') := by
  cases o with
  | none => exact both_none
  | some x => exact h x rfl

theorem both_map {o o' : Option Heap} {v : CV} (h : ∀ H1, o = some H1 → ∃ H1', o' = some H1' ∧ Agr D H1 H1' ∧ Rest D H H1 ∧ Rest D H' H1') : Both D H H' (o.map fun x => (v, x)) (o'.map fun x => (v, x)) := by
  intro v' H1 hr
  simp only [Option.map_eq_some_iff, Prod.mk.injEq] at hr
  obtain ⟨H2, h2, rfl, rfl⟩ := hr
  obtain ⟨H3, h3, g⟩ := h H2 h2
  exact ⟨H3, by simp [h3], g⟩

theorem Rest.trans {H1 H2 : Heap} (h : Rest D H H1) (h' : Rest D H1 H2) : Rest D H H2 := fun s hs => (h' s hs).trans (h s hs)

theorem Agr.len (h : Agr D H H') : H.bl.length = H'.bl.length := by rw [h.bl]

/-- Of an operation that makes no box. -/
theorem heapOp_agr (h : Agr D H H') (o : HOp) (hb : ∀ s, o ≠ .box s) (hn : ∀ s z, o ≠ .newl s z) (vs : List CV) (hv : ∀ x ∈ vs, vIn D x) : Both D H H' (heapOp o vs H) (heapOp o vs H') := by
  have hs := h.symm
  unfold heapOp
  split
  · exact (hb _ rfl).elim
  · refine both_ite ?_ both_none
    rw [h.len]; exact both_some h (h.push _).1 (h.push _).2 (hs.push _).2
  · exact (hn _ _ rfl).elim
  · refine both_ite ?_ both_none
    rw [h.len]; exact both_some h (h.push _).1 (h.push _).2 (hs.push _).2
  · refine both_ite (both_bind fun cs _ => both_ite ?_ both_none) both_none
    exact both_some h h (fun _ _ => rfl) (fun _ _ => rfl)
  · refine both_ite (both_bind fun cs _ => both_ite ?_ both_none) both_none
    rw [h.len]; exact both_some h (h.push _).1 (h.push _).2 (hs.push _).2
  · exact both_look h (f := fun H => loadC _ _ H _) (h.loadC _ _ (hv _ (by simp)))
  · rename_i n p x
    refine both_map fun H1 h1 => ?_
    cases p with
    | op i off =>
      have hi : inD D i := hv (.op i off) (by simp)
      simp only [storeC] at h1 ⊢
      rw [h.get hi] at h1
      obtain ⟨cs, hc, h1⟩ := Option.bind_eq_some_iff.1 h1
      split at h1 <;> (try cases h1)
      rename_i hcond
      exact ⟨_, by rw [hc, Option.bind_some, if_pos hcond], (h.put i hi _).1, (h.put i hi _).2, (hs.put i hi _).2⟩
    | _ => simp [storeC] at h1
  · rename_i sz bytes zero s x
    have hx := hv x (by simp)
    have hs1 := hv s (by simp)
    refine both_ite (both_ite (both_some h h (fun _ _ => rfl) (fun _ _ => rfl)) both_none) ?_
    rw [h.shown sz hx]
    refine both_bind fun new _ => both_ite ?_ both_none
    cases s with
    | nils =>
      simp only [appC]
      rw [h.len]; exact both_some h (h.push _).1 (h.push _).2 (hs.push _).2
    | os s i off n =>
      unfold appC
      split
      · rename_i heq; cases heq
      · rename_i s' m n' heq
        cases heq
        refine both_ite ?_ both_none
        rw [h.get (i := .blk m) trivial]
        refine both_bind fun cs _ => both_ite ?_ both_none
        rw [h.len]
        exact both_some h ((h.kill m).1.push _).1 ((h.kill m).2.trans ((h.kill m).1.push _).2) ((hs.kill m).2.trans ((hs.kill m).1.push _).2)
      · exact both_none
    | _ => simp only [appC]; exact both_none
  · refine both_ite ?_ both_none
    rw [h.len]; exact both_some h (h.push _).1 (h.push _).2 (hs.push _).2
  · rename_i sz d x
    have hx := hv x (by simp)
    have hd := hv d (by simp)
    rw [h.shown sz hx]
    refine both_bind fun new _ => both_ite ?_ both_none
    cases d with
    | os s i off n =>
      simp only [copyC]
      refine both_ite ?_ both_none
      rw [h.get (i := i) hd]
      refine both_bind fun cs _ => both_ite ?_ both_none
      exact both_some h (h.put i hd _).1 (h.put i hd _).2 (hs.put i hd _).2
    | _ => simp only [copyC]; exact both_none
  · rename_i sz zero s
    have hd := hv s (by simp)
    refine both_ite (both_map fun H1 h1 => ?_) both_none
    cases s with
    | os s i off n =>
      simp only [clearC] at h1 ⊢
      split at h1 <;> (try cases h1)
      rename_i hsz
      rw [h.get (i := i) hd] at h1
      obtain ⟨cs, hc, h1⟩ := Option.bind_eq_some_iff.1 h1
      split at h1 <;> (try cases h1)
      rename_i hcond
      exact ⟨_, by rw [if_pos hsz, hc, Option.bind_some, if_pos hcond], (h.put i hd _).1, (h.put i hd _).2, (hs.put i hd _).2⟩
    | _ => simp [clearC] at h1
  · refine both_ite ?_ both_none
    unfold mkslC
    split
    · refine both_ite ?_ both_none
      rw [h.len]; exact both_some h (h.push _).1 (h.push _).2 (hs.push _).2
    · exact both_none
  · refine both_ite ?_ both_none
    unfold mkslFC
    split
    · exact both_ite (both_some h h (fun _ _ => rfl) (fun _ _ => rfl)) both_none
    · exact both_none
  · rw [h.len]; exact both_some h (h.push _).1 (h.push _).2 (hs.push _).2
  · refine both_look h (f := fun H => lookC _ _ _ _ H _) ?_
    unfold lookC
    rw [h.bl]
  · rename_i kk m k v
    refine both_ite both_none (both_map fun H1 h1 => ?_)
    unfold mputC at h1 ⊢
    split at h1 <;> (try cases h1)
    rename_i n
    split at h1 <;> (try cases h1)
    rename_i hkk
    rw [if_neg hkk]
    rw [h.bl] at h1
    split at h1 <;> (try cases h1)
    rename_i es _
    obtain ⟨y, hy, h1⟩ := Option.bind_eq_some_iff.1 h1
    rw [hy, Option.bind_some]
    cases y with
    | some y =>
      obtain ⟨i, u⟩ := y
      simp only [Option.some.injEq] at h1
      subst h1
      refine ⟨_, rfl, ?_, ?_, ?_⟩
      · exact ⟨rfl, h.bx⟩
      · exact fun _ _ => rfl
      · exact fun _ _ => rfl
    | none =>
      simp only [Option.map_eq_some_iff] at h1
      obtain ⟨z, hz, rfl⟩ := h1
      exact ⟨{ bx := H'.bx, bl := H'.bl.set n (.map (es ++ [(k, v)])) }, by simp only [hz, Option.map_some], ⟨rfl, h.bx⟩, fun _ _ => rfl, fun _ _ => rfl⟩
  · rename_i kk m k
    refine both_map fun H1 h1 => ?_
    unfold mdelC at h1 ⊢
    split at h1 <;> (try cases h1)
    rename_i n
    rw [h.bl] at h1
    split at h1 <;> (try cases h1)
    rename_i es _
    obtain ⟨y, hy, h1⟩ := Option.bind_eq_some_iff.1 h1
    rw [hy, Option.bind_some]
    cases y with
    | some y =>
      obtain ⟨i, u⟩ := y
      simp only [Option.some.injEq] at h1
      subst h1
      exact ⟨_, rfl, ⟨rfl, h.bx⟩, fun _ _ => rfl, fun _ _ => rfl⟩
    | none =>
      simp only [Option.map_eq_some_iff] at h1
      obtain ⟨z, hz, rfl⟩ := h1
      exact ⟨_, by simp only [hz, Option.map_some], h, fun _ _ => rfl, fun _ _ => rfl⟩
  · refine both_look h (f := fun H => lenMC H _) ?_
    unfold lenMC
    rw [h.bl]
  · exact both_none

/-! ### Footprints -/

def Foot.rd (f : Foot) (r : Rsc) : Prop := f.ra = true ∨ r ∈ f.r
def Foot.wr (f : Foot) (r : Rsc) : Prop := f.wa = true ∨ r ∈ f.w

theorem hit_false {a b : Bool} {l m : List Rsc} (h : hit a l b m = false) (r : Rsc) (h1 : a = true ∨ r ∈ l) (h2 : b = true ∨ r ∈ m) : False := by
  simp only [hit, Bool.or_eq_false_iff, Bool.and_eq_false_iff, List.any_eq_false] at h
  obtain ⟨⟨g1, g2⟩, g3⟩ := h
  rcases h1 with rfl | h1
  · rcases g1 with g1 | g1
    · cases g1
    · rcases h2 with rfl | h2
      · simp at g1
      · cases m with
        | nil => simp at h2
        | cons x m => simp at g1
  · rcases h2 with rfl | h2
    · rcases g2 with g2 | g2
      · cases g2
      · cases l with
        | nil => simp at h1
        | cons x l => simp at g2
    · exact g3 r h1 (by simpa using h2)

theorem clash_false {x y : Foot} (h : x.clash y = false) (r : Rsc) : (x.wr r → ¬ y.rd r ∧ ¬ y.wr r) ∧ (y.wr r → ¬ x.rd r) := by
  simp only [Foot.clash, Bool.or_eq_false_iff] at h
  exact ⟨fun hw => ⟨fun hr => hit_false h.1.1 r hw hr, fun hr => hit_false h.1.2 r hw hr⟩, fun hw hr => hit_false h.2 r hw hr⟩

/-- A call leaves what is owned alone where it is quiet, and goes by what the boxes hold, not by how they stand. -/
structure QuietOk (call : Caller) (quiet : FuncId → Bool) : Prop where
  free : ∀ k first cap args H v H1, quiet k = true → CV.refs (.fn (.func k) first cap :: args) = false → call (.fn (.func k) first cap) args ⟨[], []⟩ = some (v, H1) → call (.fn (.func k) first cap) args H = some (v, H)
  quiet : ∀ k first cap args H v H', quiet k = true → call (.fn (.func k) first cap) args H = some (v, H') → H' = H
  lone : ∀ f args H v H1, call f args ⟨[], H.bl⟩ = some (v, H1) → call f args H = some (v, ⟨H.bx, H1.bl⟩)
  agr : ∀ f args H H' v H1, Agr (fun _ => True) H H' → call f args H = some (v, H1) → ∃ H1', call f args H' = some (v, H1') ∧ Agr (fun _ => True) H1 H1'

theorem agr_all {H H' : Heap} : Agr (fun _ => True) H H' ↔ ∀ r, same r H H' :=
  ⟨fun h r => by cases r with | loc s => exact h.bx s trivial | bl => exact h.bl, fun h => ⟨h .bl, fun s _ => h (.loc s)⟩⟩

theorem locs_in {vs : List CV} (h : CV.locs vs = false) : ∀ x ∈ vs, vIn (fun _ => False) x := by
  induction vs with
  | nil => intro x hx; simp at hx
  | cons c cs ih =>
    simp only [CV.locs, Bool.or_eq_false_iff] at h
    intro x hx
    rcases List.mem_cons.1 hx with rfl | hx
    · cases x with
      | op i off => cases i with
        | loc s => simp [CV.locv, Id.loc?] at h
        | blk n => trivial
      | os s i off n => cases i with
        | loc s => simp [CV.locv, Id.loc?] at h
        | blk n => trivial
      | _ => trivial
    · exact ih h.2 x hx

/-- What a step comes to elsewhere. -/
def Moves (f : Foot) (H H' : Heap) (r r' : Option (CV × Heap)) : Prop :=
  ∀ v H1, r = some (v, H1) → ∃ H1', r' = some (v, H1') ∧ (∀ x, f.wr x → same x H1' H1) ∧ (∀ x, ¬ f.wr x → same x H1' H') ∧ (∀ x, ¬ f.wr x → same x H1 H)

theorem moves_looks {f : Foot} {H H' : Heap} {r r' : Option (CV × Heap)} (hw : ∀ x, ¬ f.wr x) (h : ∀ v H1, r = some (v, H1) → H1 = H ∧ r' = some (v, H')) : Moves f H H' r r' := by
  intro v H1 hr
  obtain ⟨rfl, h2⟩ := h v H1 hr
  exact ⟨H', h2, fun x hx => (hw x hx).elim, fun x _ => same.refl x _, fun x _ => same.refl x _⟩

theorem heapOp_looks {o : HOp} (ho : (∃ a n, o = .load a n) ∨ (∃ k z b, o = .look k z b) ∨ o = .lenM) {vs : List CV} {H : Heap} {v : CV} {H1 : Heap} (h : heapOp o vs H = some (v, H1)) : H1 = H := by
  rcases ho with ⟨a, n, rfl⟩ | ⟨k, z, b, rfl⟩ | rfl
  all_goals
    unfold heapOp at h
    split at h <;> (try cases h) <;> rename_i heq <;> cases heq
    simp only [Option.map_eq_some_iff, Prod.mk.injEq] at h
    obtain ⟨_, _, _, rfl⟩ := h
    rfl

theorem box_moves {d : Nat} {H H' : Heap} (hs : same (.loc d) H H') {cs : List CV} {c : Bool} {v : CV} : Moves ⟨false, [.loc d], false, [.loc d]⟩ H H' (if ((look H.bx d).isNone && c) = true then some (v, H.put (.loc d) cs) else none) (if ((look H'.bx d).isNone && c) = true then some (v, H'.put (.loc d) cs) else none) := by
  intro v' H1 hr
  have hs' : look H.bx d = look H'.bx d := hs
  split at hr <;> cases hr
  rename_i hc
  refine ⟨H'.put (.loc d) cs, by rw [if_pos (by rw [← hs']; exact hc)], ?_, ?_, ?_⟩
  · intro x hx
    simp only [Foot.wr, Bool.false_eq_true, false_or, List.mem_singleton] at hx
    subst hx
    simp [same, Heap.put, look_setBx]
  all_goals
    intro x hx
    simp only [Foot.wr, Bool.false_eq_true, false_or, List.mem_singleton] at hx
    cases x with
    | loc s =>
      have : ¬ s = d := fun e => hx (by rw [e])
      simp [same, Heap.put, look_setBx, this]
    | bl => rfl

/-- An operation that works in the blocks alone. -/
theorem blk_moves {o : HOp} (hb : ∀ s, o ≠ .box s) (hn : ∀ s z, o ≠ .newl s z) {H H' : Heap} (h : H.bl = H'.bl) {vs : List CV} (hv : ∀ x ∈ vs, vIn (fun _ => False) x) (ra : Bool) (rl : List Rsc) : Moves ⟨ra, rl, false, [.bl]⟩ H H' (heapOp o vs H) (heapOp o vs H') := by
  intro v H1 hr
  obtain ⟨H1', h1, h2, h3, h4⟩ := heapOp_agr (D := fun _ => False) ⟨h, fun _ hf => hf.elim⟩ o hb hn vs hv v H1 hr
  refine ⟨H1', h1, fun x hx => ?_, fun x hx => ?_, fun x hx => ?_⟩
  · simp only [Foot.wr, Bool.false_eq_true, false_or, List.mem_singleton] at hx
    subst hx
    exact h2.bl.symm
  · cases x with
    | loc s => exact h4 s id
    | bl => exact (hx (.inr (by simp))).elim
  · cases x with
    | loc s => exact h3 s id
    | bl => exact (hx (.inr (by simp))).elim

/-- An operation at one box. -/
theorem at_moves {s : Nat} {H H' : Heap} (hs : look H.bx s = look H'.bx s) {off : Nat} {r : List CV} :
    (∀ a n, Moves ⟨false, [.loc s], false, []⟩ H H' (heapOp (.load a n) (.op (.loc s) off :: r) H) (heapOp (.load a n) (.op (.loc s) off :: r) H')) ∧
    (∀ n, Moves ⟨false, [.loc s], false, [.loc s]⟩ H H' (heapOp (.store n) (.op (.loc s) off :: r) H) (heapOp (.store n) (.op (.loc s) off :: r) H')) := by
  refine ⟨fun a n => ?_, fun n => ?_⟩
  · refine moves_looks (fun x hx => by simp [Foot.wr] at hx) fun v H1 hr => ?_
    refine ⟨heapOp_looks (.inl ⟨a, n, rfl⟩) hr, ?_⟩
    cases r with
    | cons _ _ => simp [heapOp] at hr
    | nil =>
      simp only [heapOp, loadC, Heap.get] at hr ⊢
      rw [← hs]
      simp only [Option.map_eq_some_iff, Prod.mk.injEq] at hr ⊢
      obtain ⟨u, hu, rfl, _⟩ := hr
      exact ⟨u, hu, rfl, trivial⟩
  · intro v H1 hr
    match r, hr with
    | [x], hr =>
      simp only [heapOp, storeC, Heap.get] at hr ⊢
      rw [← hs]
      simp only [Option.map_eq_some_iff, Prod.mk.injEq] at hr
      obtain ⟨H2, h2, rfl, rfl⟩ := hr
      obtain ⟨cs, hc, h2⟩ := Option.bind_eq_some_iff.1 h2
      split at h2 <;> (try cases h2)
      rename_i hcond
      refine ⟨H'.put (.loc s) (setMany cs off x.cells), by rw [hc, Option.bind_some, if_pos hcond]; rfl, ?_, ?_, ?_⟩
      · intro y hy
        simp only [Foot.wr, Bool.false_eq_true, false_or, List.mem_singleton] at hy
        subst hy
        simp [same, Heap.put, look_setBx]
      all_goals
        intro y hy
        simp only [Foot.wr, Bool.false_eq_true, false_or, List.mem_singleton] at hy
        cases y with
        | loc t =>
          have : ¬ t = s := fun e => hy (by rw [e])
          simp [same, Heap.put, look_setBx, this]
        | bl => rfl
    | [], hr => simp [heapOp] at hr
    | _ :: _ :: _, hr => simp [heapOp] at hr

/-- An operation that may look at all, and turn all. -/
theorem all_moves {o : HOp} (hb : ∀ s, o ≠ .box s) (hn : ∀ s z, o ≠ .newl s z) {H H' : Heap} (h : Agr (fun _ => True) H H') {vs : List CV} : Moves ⟨true, [], true, []⟩ H H' (heapOp o vs H) (heapOp o vs H') := by
  intro v H1 hr
  have hv : ∀ x ∈ vs, vIn (fun _ => True) x := by
    intro x _
    cases x with
    | op i _ => cases i <;> trivial
    | os _ i _ _ => cases i <;> trivial
    | _ => trivial
  obtain ⟨H1', h1, h2, _⟩ := heapOp_agr h o hb hn vs hv v H1 hr
  exact ⟨H1', h1, fun x _ => (agr_all.1 h2 x).symm, fun x hx => (hx (.inl rfl)).elim, fun x hx => (hx (.inl rfl)).elim⟩

theorem widen {f : Foot} {H H' : Heap} {r r' : Option (CV × Heap)} (ha : Agr (fun _ => True) H H') (h : Moves f H H' r r') : Moves ⟨true, [], true, []⟩ H H' r r' := by
  intro v H1 hr
  obtain ⟨H2, h2, g1, g2, g3⟩ := h v H1 hr
  refine ⟨H2, h2, fun y _ => ?_, fun y hy => (hy (.inl rfl)).elim, fun y hy => (hy (.inl rfl)).elim⟩
  by_cases hy : f.wr y
  · exact g1 y hy
  · exact (g2 y hy).trans ((agr_all.1 ha y).symm.trans (g3 y hy).symm)

theorem newl_moves {d : Nat} {z vs : List CV} {H H' : Heap} (hs : same (.loc d) H H') : Moves ⟨false, [.loc d], false, [.loc d]⟩ H H' (heapOp (.newl d z) vs H) (heapOp (.newl d z) vs H') := by
  cases vs with
  | nil =>
    have := box_moves hs (cs := z) (c := ones z && !CV.locs z) (v := .op (.loc d) 0)
    simpa only [heapOp, Bool.and_assoc] using this
  | cons x r => intro v H1 hr; simp [heapOp] at hr

theorem boxl_moves {d : Nat} {vs : List CV} {H H' : Heap} (hs : same (.loc d) H H') : Moves ⟨false, [.loc d], false, [.loc d]⟩ H H' (heapOp (.box d) vs H) (heapOp (.box d) vs H') := by
  match vs with
  | [] => intro v H1 hr; simp [heapOp] at hr
  | [x] =>
    have := box_moves hs (cs := x.cells) (c := ones x.cells) (v := .op (.loc d) 0)
    simpa only [heapOp, Bool.and_comm] using this
  | _ :: _ :: _ => intro v H1 hr; simp [heapOp] at hr

theorem any_moves (o : HOp) {H H' : Heap} (h : Agr (fun _ => True) H H') {vs : List CV} : Moves ⟨true, [], true, []⟩ H H' (heapOp o vs H) (heapOp o vs H') := by
  cases o with
  | box d => exact widen h (boxl_moves (h.bx d trivial))
  | newl d z => exact widen h (newl_moves (h.bx d trivial))
  | _ => exact all_moves (by simp) (by simp) h

theorem ite_none {c : Prop} [Decidable c] {a : Option (CV × Heap)} {v : CV} {H : Heap} (h : (if c then none else a) = some (v, H)) : ¬ c ∧ a = some (v, H) := by
  split at h
  · cases h
  · exact ⟨‹_›, h⟩

theorem run_foot {call : Caller} {quiet : FuncId → Bool} (hq : QuietOk call quiet) {s : CStm} {env : Env} {H H' : Heap} (h : ∀ r, (footOf quiet s).rd r → same r H H') :
    Moves (footOf quiet s) H H' (runOp call s.op (evs env s.args) H) (runOp call s.op (evs env s.args) H') := by
  obtain ⟨dst, op, args, guard⟩ := s
  have hall : ∀ {f : Foot}, f.ra = true → footOf quiet ⟨dst, op, args, guard⟩ = f → Agr (fun _ => True) H H' := fun hra hf => agr_all.2 fun r => h r (by rw [hf]; exact .inl hra)
  cases op with
  | p o =>
    refine moves_looks (fun x hx => by simp [Foot.wr, footOf] at hx) fun v H1 hr => ?_
    simp only [runOp, Option.map_eq_some_iff, Prod.mk.injEq] at hr ⊢
    obtain ⟨u, hu, rfl, rfl⟩ := hr
    exact ⟨rfl, u, hu, rfl, trivial⟩
  | h o =>
    have plain : footOf quiet ⟨dst, .h o, args, guard⟩ = ⟨true, [], true, []⟩ → (∀ s, o ≠ .box s) → (∀ s z, o ≠ .newl s z) → Moves (footOf quiet ⟨dst, .h o, args, guard⟩) H H' (runOp call (.h o) (evs env args) H) (runOp call (.h o) (evs env args) H') := by
      intro hf hb hn
      have := hall (by rw [hf]) rfl
      rw [hf]
      exact all_moves hb hn this
    have looks : footOf quiet ⟨dst, .h o, args, guard⟩ = ⟨true, [], false, []⟩ → ((∃ a n, o = .load a n) ∨ (∃ k z b, o = .look k z b) ∨ o = .lenM) → Moves (footOf quiet ⟨dst, .h o, args, guard⟩) H H' (runOp call (.h o) (evs env args) H) (runOp call (.h o) (evs env args) H') := by
      intro hf ho
      have ha := hall (by rw [hf]) rfl
      intro v H1 hr
      have e1 := heapOp_looks ho hr
      subst e1
      have hb : ∀ s, o ≠ .box s := by rcases ho with ⟨_, _, rfl⟩ | ⟨_, _, _, rfl⟩ | rfl <;> simp
      have hn : ∀ s z, o ≠ .newl s z := by rcases ho with ⟨_, _, rfl⟩ | ⟨_, _, _, rfl⟩ | rfl <;> simp
      obtain ⟨H2, h2, _⟩ := all_moves hb hn ha v _ hr
      have e2 := heapOp_looks ho h2
      subst e2
      refine ⟨_, h2, fun x hx => ?_, fun x _ => same.refl x _, fun x _ => same.refl x _⟩
      rw [hf] at hx
      simp [Foot.wr] at hx
    cases o with
    | bslF sz len z ps =>
      refine moves_looks (fun x hx => by simp [Foot.wr, footOf] at hx) fun v H1 hr => ?_
      simp only [runOp, heapOp] at hr ⊢
      split at hr <;> (try cases hr)
      rename_i hl
      obtain ⟨cs, h1, h2⟩ := Option.bind_eq_some_iff.1 hr
      split at h2 <;> cases h2
      rename_i hb
      exact ⟨rfl, by rw [if_pos hl, h1, Option.bind_some, if_pos hb]⟩
    | newl d z => exact newl_moves (h (.loc d) (.inr (by simp [footOf])))
    | box d => exact boxl_moves (h (.loc d) (.inr (by simp [footOf])))
    | load a n => exact looks rfl (.inl ⟨a, n, rfl⟩)
    | look k z b => exact looks rfl (.inr (.inl ⟨k, z, b, rfl⟩))
    | lenM => exact looks rfl (.inr (.inr rfl))
    | _ => exact plain rfl (by simp) (by simp)
  | hb o =>
    have blk : ∀ (rl wl : List Rsc), footOf quiet ⟨dst, .hb o, args, guard⟩ = ⟨false, rl, false, wl⟩ → .bl ∈ rl → (wl = [.bl] ∨ (wl = [] ∧ ((∃ a n, o = .load a n) ∨ (∃ k z b, o = .look k z b) ∨ o = .lenM))) → (∀ s, o ≠ .box s) → (∀ s z, o ≠ .newl s z) → Moves (footOf quiet ⟨dst, .hb o, args, guard⟩) H H' (runOp call (.hb o) (evs env args) H) (runOp call (.hb o) (evs env args) H') := by
      intro rl wl hf hrl hwl hb hn v H1 hr
      have hbl : H.bl = H'.bl := h .bl (by rw [hf]; exact .inr hrl)
      simp only [runOp] at hr ⊢
      obtain ⟨hlc, hr⟩ := ite_none hr
      rw [if_neg hlc]
      obtain ⟨H2, h2, g1, g2, g3⟩ := blk_moves hb hn hbl (locs_in (by simpa using hlc)) false [] v H1 hr
      rw [hf]
      rcases hwl with rfl | ⟨rfl, ho⟩
      · exact ⟨H2, h2, g1, g2, g3⟩
      · have e1 := heapOp_looks ho hr
        have e2 := heapOp_looks ho h2
        subst e1
        subst e2
        exact ⟨_, h2, fun x hx => by simp [Foot.wr] at hx, fun x _ => same.refl x _, fun x _ => same.refl x _⟩
    cases o with
    | box d =>
      intro v H1 hr
      have ha := agr_all.2 fun r => h r (.inl rfl)
      simp only [runOp] at hr ⊢
      obtain ⟨hlc, hr⟩ := ite_none hr
      rw [if_neg hlc]
      exact any_moves _ ha v H1 hr
    | newl d z =>
      intro v H1 hr
      have ha := agr_all.2 fun r => h r (.inl rfl)
      simp only [runOp] at hr ⊢
      obtain ⟨hlc, hr⟩ := ite_none hr
      rw [if_neg hlc]
      exact any_moves _ ha v H1 hr
    | load a n => exact blk [.bl] [] rfl (by simp) (.inr ⟨rfl, .inl ⟨a, n, rfl⟩⟩) (by simp) (by simp)
    | look k z b => exact blk [.bl] [] rfl (by simp) (.inr ⟨rfl, .inr (.inl ⟨k, z, b, rfl⟩)⟩) (by simp) (by simp)
    | lenM => exact blk [.bl] [] rfl (by simp) (.inr ⟨rfl, .inr (.inr rfl)⟩) (by simp) (by simp)
    | _ => exact blk [.bl] [.bl] rfl (by simp) (.inl rfl) (by simp) (by simp)
  | hl d o =>
    cases hv : evs env args with
    | nil => intro v H1 hr; simp [runOp] at hr
    | cons x r =>
      by_cases hx : ∃ off, x = .op (.loc d) off ∧ CV.locs r = false
      · obtain ⟨off, rfl, hr⟩ := hx
        have e : ∀ H, runOp call (.hl d o) (.op (.loc d) off :: r) H = heapOp o (.op (.loc d) off :: r) H := fun H => by simp only [runOp, hr, and_self, if_true]
        simp only [e]
        cases o with
        | load a n => exact (at_moves (h (.loc d) (.inr (by simp [footOf])))).1 a n
        | store n => exact (at_moves (h (.loc d) (.inr (by simp [footOf])))).2 n
        | _ => exact any_moves _ (agr_all.2 fun r => h r (.inl rfl))
      · intro v H1 hr
        exfalso
        simp only [runOp] at hr
        split at hr <;> (try cases hr)
        rename_i t off r' heq
        cases heq
        split at hr <;> (try cases hr)
        rename_i hc
        exact hx ⟨off, by rw [hc.1], hc.2⟩
  | callb =>
    have hbl : H.bl = H'.bl := h .bl (by
      unfold footOf Foot.rd
      dsimp only
      split
      · split <;> simp
      · simp)
    intro v H1 hr
    cases hv : evs env args with
    | nil => rw [hv] at hr; simp [runOp] at hr
    | cons f as =>
      rw [hv] at hr
      simp only [runOp, Option.map_eq_some_iff, Prod.mk.injEq] at hr ⊢
      obtain ⟨⟨u, H2⟩, h2, rfl, rfl⟩ := hr
      rw [← hbl]
      refine ⟨⟨H'.bx, H2.bl⟩, ⟨(u, H2), h2, rfl, rfl⟩, ?_⟩
      by_cases hqk : ∃ k a c r, args = .c (.fn (.func k) a c) :: r ∧ quiet k = true
      · obtain ⟨k, a, c, r, rfl, hqk⟩ := hqk
        have hf : f = .fn (.func k) a c := by simp only [evs, ev, List.cons.injEq] at hv; exact hv.1.symm
        subst hf
        have e1 := hq.quiet _ _ _ _ _ _ _ hqk h2
        subst e1
        refine ⟨fun x hx => by simp [Foot.wr, footOf, hqk] at hx, fun x _ => ?_, fun x _ => ?_⟩
        · cases x with
          | loc s => rfl
          | bl => exact hbl
        · cases x with
          | loc s => rfl
          | bl => rfl
      · have hf : footOf quiet ⟨dst, .callb, args, guard⟩ = ⟨false, [.bl], false, [.bl]⟩ := by
          unfold footOf
          dsimp only
          split
          · split
            · exact (hqk ⟨_, _, _, _, rfl, by assumption⟩).elim
            · rfl
          · rfl
        rw [hf]
        refine ⟨fun x hx => ?_, fun x hx => ?_, fun x hx => ?_⟩
        · simp only [Foot.wr, Bool.false_eq_true, false_or, List.mem_singleton] at hx
          subst hx
          rfl
        · cases x with
          | loc s => rfl
          | bl => exact (hx (.inr (by simp))).elim
        · cases x with
          | loc s => rfl
          | bl => exact (hx (.inr (by simp))).elim
  | callp =>
    have hbl : H.bl = H'.bl := h .bl (.inr (by simp [footOf]))
    intro v H1 hr
    cases hv : evs env args with
    | nil => rw [hv] at hr; simp [runOp] at hr
    | cons f as =>
      rw [hv] at hr
      simp only [runOp] at hr ⊢
      rw [← hbl]
      obtain ⟨⟨u, H2⟩, h2, h3⟩ := Option.bind_eq_some_iff.1 hr
      split at h3 <;> cases h3
      rename_i hp
      refine ⟨⟨H'.bx, H2.bl⟩, by rw [h2, Option.bind_some, if_pos hp], ?_⟩
      refine ⟨fun x hx => ?_, fun x hx => ?_, fun x hx => ?_⟩
      · simp only [Foot.wr, footOf, Bool.false_eq_true, false_or, List.mem_singleton] at hx
        subst hx
        rfl
      · cases x with
        | loc s => rfl
        | bl => exact (hx (.inr (by simp [footOf]))).elim
      · cases x with
        | loc s => rfl
        | bl => exact (hx (.inr (by simp [footOf]))).elim
  | callv =>
    intro v H1 hr
    cases hv : evs env args with
    | nil => rw [hv] at hr; simp [runOp] at hr
    | cons f as =>
      rw [hv] at hr
      simp only [runOp] at hr ⊢
      obtain ⟨hrf, hr⟩ := ite_none hr
      rw [if_neg hrf]
      simp only [Option.map_eq_some_iff, Prod.mk.injEq] at hr ⊢
      obtain ⟨y, hy, rfl, rfl⟩ := hr
      refine ⟨H', ⟨y, hy, rfl, rfl⟩, fun x hx => ?_, fun x _ => same.refl x _, fun x _ => same.refl x _⟩
      by_cases hqk : ∃ k a c r, args = .c (.fn (.func k) a c) :: r ∧ quiet k = true
      · obtain ⟨k, a, c, r, rfl, hqk⟩ := hqk
        simp [Foot.wr, footOf, hqk] at hx
      · have hf : footOf quiet ⟨dst, .callv, args, guard⟩ = ⟨true, [], true, []⟩ := by
          unfold footOf
          dsimp only
          split
          · split
            · exact (hqk ⟨_, _, _, _, rfl, by assumption⟩).elim
            · rfl
          · rfl
        exact (h x (by rw [hf]; exact .inl rfl)).symm
  | call =>
    have ha : Agr (fun _ => True) H H' := agr_all.2 fun r => h r (.inl (by
      unfold footOf
      dsimp only
      split
      · split <;> rfl
      · rfl))
    intro v H1 hr
    cases hv : evs env args with
    | nil => rw [hv] at hr; simp [runOp] at hr
    | cons f as =>
      rw [hv] at hr
      simp only [runOp] at hr ⊢
      obtain ⟨H2, h2, h3⟩ := hq.agr f as H H' v H1 ha hr
      have full : ∀ g : Foot, g.wa = true → (∃ H1', call f as H' = some (v, H1') ∧ (∀ x, g.wr x → same x H1' H1) ∧ (∀ x, ¬ g.wr x → same x H1' H') ∧ (∀ x, ¬ g.wr x → same x H1 H)) := fun g hg =>
        ⟨H2, h2, fun x _ => (agr_all.1 h3 x).symm, fun x hx => (hx (.inl hg)).elim, fun x hx => (hx (.inl hg)).elim⟩
      by_cases hqk : ∃ k a c r, args = .c (.fn (.func k) a c) :: r ∧ quiet k = true
      · obtain ⟨k, a, c, r, rfl, hqk⟩ := hqk
        have hf : f = .fn (.func k) a c := by simp only [evs, ev, List.cons.injEq] at hv; exact hv.1.symm
        subst hf
        have e1 := hq.quiet _ _ _ _ _ _ _ hqk hr
        have e2 := hq.quiet _ _ _ _ _ _ _ hqk h2
        subst e1
        subst e2
        exact ⟨_, h2, fun x hx => by simp [Foot.wr, footOf, hqk] at hx, fun x _ => same.refl x _, fun x _ => same.refl x _⟩
      · refine full _ ?_
        unfold footOf
        dsimp only
        split
        · split
          · exact (hqk ⟨_, _, _, _, rfl, by assumption⟩).elim
          · rfl
        · rfl

end Go.Zc
