/- Each operation that looks at its operands alone: the model does what the interpreter does. No condition. -/
import Derived.Test.YtfblegjbmhgepaaZcEq
set_option linter.all false
namespace Go.Zc

section
variable {P : Program} {w : World} {F : Nat → Prop} {ι : IM} {env : Env} {a : Act}

/-- The model hands back what the interpreter does, and nothing has turned. -/
def POk (P : Program) (w : World) (F : Nat → Prop) (ι : IM) (a : Act) (o : Oper) (v : CV) : Prop :=
  ∃ v', (execOp a.eval o).run P w = .ok (.value v') w ∧ VR w F ι v v'

theorem VR.tup {cs : List CV} {v : Value} (h : VR w F ι (.tup cs) v) : ∃ vs, v = .tuple vs ∧ VRl w F ι cs vs.toList := by simpa only [VR] using h

theorem mov_ok (he : EnvR w F ι env a) {o : Oper} {x : Operand} {y : Opd} (ho : o.op = .move x ∨ o.op = .assign x) (hx : opd x = some y) : POk P w F ι a o (ev env y) := by
  refine ⟨a.eval x, ?_, opd_ok he hx⟩
  rcases ho with ho | ho <;> simp [execOp, ho]

theorem pick_ok {o : Oper} {c x y : Operand} (ho : o.op = .pick c x y) {b : Bool} {p q : CV} (hc : VR w F ι (.bool b) (a.eval c)) (hx : VR w F ι p (a.eval x)) (hy : VR w F ι q (a.eval y)) :
    POk P w F ι a o (if b then p else q) := by
  refine ⟨if b then a.eval x else a.eval y, ?_, ?_⟩
  · cases b <;> simp [execOp, ho, hc.bool, asBool]
  · cases b <;> assumption

theorem nchk_ok {o : Oper} {x : Operand} (ho : o.op = .nilCheck x) {c v : CV} (hx : VR w F ι c (a.eval x)) (h : nchkC c = some v) : POk P w F ι a o v := by
  unfold nchkC at h
  split at h <;> (try cases h)
  · refine ⟨a.eval x, ?_, hx⟩
    simp only [VR] at hx
    obtain ⟨b, _, e⟩ := hx
    simp [execOp, ho, e]
  · refine ⟨a.eval x, ?_, hx⟩
    simp only [VR, BR] at hx
    obtain ⟨b, _, e, _⟩ := hx
    simp [execOp, ho, e]
  · refine ⟨a.eval x, ?_, hx⟩
    simp only [VR] at hx
    obtain ⟨b, _, e, _⟩ := hx
    simp [execOp, ho, e]

theorem places_ok (he : EnvR w F ι env a) {fs : Array Field} : ∀ {parts : List (Nat × Operand)} {ps : List (Nat × Nat)} {ys : List Opd}, places P fs parts = some (ps, ys) →
    ps.length = parts.length ∧ ys.length = parts.length ∧ VRl w F ι (evs env ys) (parts.map fun x => a.eval x.2) ∧
    ∀ (j : Nat) (p : Nat × Operand), parts[j]? = some p → ∃ f n, fs[p.1]? = some f ∧ szOf P f.type = some n ∧ ps[j]? = some (f.offset, n)
  | [], _, _, h => by
    simp only [places, Option.some.injEq, Prod.mk.injEq] at h
    obtain ⟨rfl, rfl⟩ := h
    simp [VRl, evs]
  | (i, x) :: r, _, _, h => by
    simp only [places] at h
    split at h
    · rename_i f y ps' ys' h1 h2 h3
      simp only [Option.map_eq_some_iff, Prod.mk.injEq] at h
      obtain ⟨n, h4, rfl, rfl⟩ := h
      obtain ⟨i1, i2, i3, i4⟩ := places_ok he h3
      refine ⟨by simp [i1], by simp [i2], ?_, ?_⟩
      · simp only [evs, List.map_cons, VRl]
        exact ⟨_, _, rfl, opd_ok he h2, i3⟩
      · intro j p hp
        cases j with
        | zero => simp at hp; subst hp; exact ⟨f, n, h1, h4, rfl⟩
        | succ j => simpa using i4 j p (by simpa using hp)
    · cases h

theorem placesA_ok (he : EnvR w F ι env a) {sz : Nat} : ∀ {parts : List (Nat × Operand)} {ps : List (Nat × Nat)} {ys : List Opd}, placesA sz parts = some (ps, ys) →
    ps.length = parts.length ∧ ys.length = parts.length ∧ VRl w F ι (evs env ys) (parts.map fun x => a.eval x.2) ∧
    ∀ (j : Nat) (p : Nat × Operand), parts[j]? = some p → ps[j]? = some (p.1 * sz, sz)
  | [], _, _, h => by
    simp only [placesA, Option.some.injEq, Prod.mk.injEq] at h
    obtain ⟨rfl, rfl⟩ := h
    simp [VRl, evs]
  | (i, x) :: r, _, _, h => by
    simp only [placesA] at h
    split at h
    · rename_i y ps' ys' h2 h3
      simp only [Option.some.injEq, Prod.mk.injEq] at h
      obtain ⟨rfl, rfl⟩ := h
      obtain ⟨i1, i2, i3, i4⟩ := placesA_ok he h3
      refine ⟨by simp [i1], by simp [i2], ?_, ?_⟩
      · simp only [evs, List.map_cons, VRl]
        exact ⟨_, _, rfl, opd_ok he h2, i3⟩
      · intro j p hp
        cases j with
        | zero => simp at hp; subst hp; rfl
        | succ j => simpa using i4 j p (by simpa using hp)
    · cases h

theorem setMany_length : ∀ (r cs : List CV) (o : Nat), (setMany cs o r).length = cs.length
  | [], _, _ => rfl
  | c :: r, cs, o => by simp [setMany, setMany_length r]

theorem fold_set {c : CV} {v : Value} {off : Nat} : ∀ (xs : List CV) (us : List Value) (k : Nat) (cs : List CV) (vs : Array Value), VRl w F ι xs us → VRl w F ι cs vs.toList →
    VRl w F ι (setMany cs (off + k) xs) (((us.zipIdx k).foldl (fun cs x => cs.setIfInBounds (off + x.2) x.1) vs).toList)
  | [], us, k, cs, vs, hx, h => by
    simp only [VRl] at hx; subst hx
    simpa [setMany] using h
  | x :: xs, us, k, cs, vs, hx, h => by
    simp only [VRl] at hx
    obtain ⟨u, us', rfl, h1, h2⟩ := hx
    simp only [List.zipIdx_cons, List.foldl_cons, setMany]
    have := fold_set (c := c) (v := v) (off := off) xs us' (k + 1) (cs.set (off + k) x) (vs.setIfInBounds (off + k) u) h2 (by simpa using h.set (off + k) h1)
    rwa [show off + (k + 1) = off + k + 1 by omega] at this

theorem fill_ok {place : Nat → Option (Nat × Nat)} : ∀ (parts : List (Nat × Value)) (ps : List (Nat × Nat)) (vs : List CV) (cs out : List CV) (us : Array Value),
    VRl w F ι vs (parts.map (·.2)) → ps.length = parts.length → (∀ (j : Nat) (p : Nat × Value), parts[j]? = some p → ∃ q, ps[j]? = some q ∧ place p.1 = some q) →
    VRl w F ι cs us.toList → fillC cs (ps.zip vs) = some out → ∃ us', Instr.fill place us parts = some us' ∧ VRl w F ι out us'.toList
  | [], ps, vs, cs, out, us, _, hl, _, hc, h => by
    have : ps = [] := List.length_eq_zero_iff.1 (by simpa using hl)
    subst this
    simp only [List.zip_nil_left, fillC, Option.some.injEq] at h
    subst h
    exact ⟨us, rfl, hc⟩
  | (i, u) :: r, ps, vs, cs, out, us, hv, hl, hp, hc, h => by
    cases ps with
    | nil => simp at hl
    | cons p ps =>
      cases vs with
      | nil =>
        simp only [VRl] at hv
        cases hv
      | cons x vs =>
        simp only [List.map_cons, VRl] at hv
        obtain ⟨u', us', hu, h1, h2⟩ := hv
        cases hu
        obtain ⟨q, hq, hpl⟩ := hp 0 (i, u) rfl
        simp only [List.getElem?_cons_zero, Option.some.injEq] at hq
        subst hq
        obtain ⟨off, size⟩ := p
        simp only [List.zip_cons_cons, fillC] at h
        split at h
        · rename_i hcond
          obtain ⟨e1, e2, e3⟩ := hcond
          have hcells := h1.cells (by intro e; subst e; simp [CV.und?] at e3)
          have hlen := VRl.length hcells
          have hl2 := VRl.length hc
          simp only [Instr.fill, hpl]
          have hsz : u.cells.size = size := by simpa [e1] using hlen
          have hsz2 : us.size = cs.length := by simpa using hl2
          rw [if_neg (by simp [hsz, hsz2]; omega)]
          refine fill_ok r ps vs (setMany cs off x.cells) out _ h2 (by simpa using hl) (fun j p hp' => hp (j + 1) p (by simpa using hp')) ?_ h
          have := fold_set (c := x) (v := u) (off := off) x.cells u.cells.toList 0 cs us hcells hc
          have hz : (u.cells.zipIdx.foldl (fun cs (x : Value × Nat) => cs.setIfInBounds (off + x.2) x.1) us) = (u.cells.toList.zipIdx 0).foldl (fun cs x => cs.setIfInBounds (off + x.2) x.1) us := by
            rw [← Array.foldl_toList]; simp
          simp only [Nat.add_zero] at this
          rw [← hz] at this
          exact this
        · cases h

theorem run_zero {t : TypeId} {z : List CV} (h : zeroCs P t = some z) : ∃ v, (zeroValue t).run P w = .ok v w ∧ VRl w F ι z v.cells.toList := by
  simp only [zeroCs, Option.bind_eq_some_iff] at h
  obtain ⟨v, ⟨i, h1, h2⟩, h3⟩ := h
  exact ⟨v, by simp [zeroValue, typeInfo, h1, h2], cOfVs_ok h3⟩

theorem mapM_places {fs : Array Field} (h : allSized P fs = true) : ∃ l : Array (Nat × Nat), (fs.mapM (m := Sem) fun f => do pure (f.offset, ← sizeOf f.type)).run P w = .ok l w ∧
    ∀ (i : Nat) (f : Field), fs[i]? = some f → ∃ n, szOf P f.type = some n ∧ l[i]? = some (f.offset, n) := by
  rw [Array.mapM_eq_mapM_toList]
  have key : ∀ (l : List Field), (∀ f ∈ l, (szOf P f.type).isSome = true) → ∃ r : List (Nat × Nat), (l.mapM (m := Sem) fun f => do pure (f.offset, ← sizeOf f.type)).run P w = .ok r w ∧
      ∀ (i : Nat) (f : Field), l[i]? = some f → ∃ n, szOf P f.type = some n ∧ r[i]? = some (f.offset, n) := by
    intro l
    induction l with
    | nil => intro _; exact ⟨[], by simp, by simp⟩
    | cons f l ih =>
      intro hf
      obtain ⟨n, hn⟩ := Option.isSome_iff_exists.1 (hf f (by simp))
      obtain ⟨r, h1, h2⟩ := ih fun g hg => hf g (by simp [hg])
      refine ⟨(f.offset, n) :: r, ?_, ?_⟩
      · simp only [List.mapM_cons, Sem.run_bind, run_sizeOf' hn, Result.andThen_ok, Sem.run_pure, h1]
      · intro i g hg
        cases i with
        | zero => simp at hg; subst hg; exact ⟨n, hn, rfl⟩
        | succ i => simpa using h2 i g (by simpa using hg)
  obtain ⟨r, h1, h2⟩ := key fs.toList (List.all_eq_true.1 h)
  refine ⟨r.toArray, ?_, ?_⟩
  · simp only [Sem.run_map, h1, Result.andThen_ok]
  · intro i f hf
    simpa using h2 i f (by simpa using hf)

theorem build_ok (he : EnvR w F ι env a) {o : Oper} {t : TypeId} {parts : Array (Nat × Operand)} (ho : o.op = .build t parts) {an : Ann} {p : POp} {ys : List Opd} {v : CV}
    (hc : comp1 P an o.dst o.op = some (.p p, ys)) (h : pureOp p (evs env ys) = some v) : POk P w F ι a o v := by
  rw [ho] at hc
  simp only [comp1] at hc
  split at hc
  · rename_i z fs hz hu
    split at hc
    · rename_i hall
      simp only [Option.map_eq_some_iff, Prod.mk.injEq, COp.p.injEq] at hc
      obtain ⟨⟨ps, ys'⟩, hp, rfl, rfl⟩ := hc
      obtain ⟨h1, h2, h3, h4⟩ := places_ok he hp
      simp only [pureOp] at h
      split at h
      · simp only [Option.map_eq_some_iff] at h
        obtain ⟨out, h5, rfl⟩ := h
        obtain ⟨zv, hz1, hz2⟩ := run_zero (P := P) (w := w) (F := F) (ι := ι) hz
        obtain ⟨pl, hp1, hp2⟩ := mapM_places (P := P) (w := w) hall
        obtain ⟨us', h6, h7⟩ := fill_ok (w := w) (F := F) (ι := ι) (place := (pl[·]?)) (parts.toList.map fun x => (x.1, a.eval x.2)) ps (evs env ys') z out zv.cells
          (by simpa [Function.comp_def] using h3) (by simpa using h1) (fun j q hq => by
            simp only [List.getElem?_map, Option.map_eq_some_iff] at hq
            obtain ⟨q', hq', rfl⟩ := hq
            obtain ⟨f, n, e1, e2, e3⟩ := h4 j q' hq'
            obtain ⟨m, e4, e5⟩ := hp2 _ f e1
            rw [e2] at e4; cases e4
            exact ⟨_, e3, e5⟩) hz2 h5
        refine ⟨.agg us', ?_, by simp only [VR]; exact ⟨_, rfl, h7⟩⟩
        simp only [execOp, ho, Instr.build, Sem.run_bind, hz1, Result.andThen_ok, run_under hu, hp1]
        have : (parts.map fun (x : Nat × Operand) => (x.1, a.eval x.2)).toList = parts.toList.map fun x => (x.1, a.eval x.2) := by simp
        simp only [this, h6]
        simp
      · cases h
    · cases hc
  · rename_i z len e hz hu
    simp only [Option.bind_eq_some_iff, Option.map_eq_some_iff, Prod.mk.injEq, COp.p.injEq] at hc
    obtain ⟨n, hn, ⟨ps, ys'⟩, hp, rfl, rfl⟩ := hc
    obtain ⟨h1, h2, h3, h4⟩ := placesA_ok he hp
    simp only [pureOp] at h
    split at h
    · simp only [Option.map_eq_some_iff] at h
      obtain ⟨out, h5, rfl⟩ := h
      obtain ⟨zv, hz1, hz2⟩ := run_zero (P := P) (w := w) (F := F) (ι := ι) hz
      obtain ⟨us', h6, h7⟩ := fill_ok (w := w) (F := F) (ι := ι) (place := fun i => some (i * n, n)) (parts.toList.map fun x => (x.1, a.eval x.2)) ps (evs env ys') z out zv.cells
        (by simpa [Function.comp_def] using h3) (by simpa using h1) (fun j q hq => by
          simp only [List.getElem?_map, Option.map_eq_some_iff] at hq
          obtain ⟨q', hq', rfl⟩ := hq
          exact ⟨_, h4 j q' hq', rfl⟩) hz2 h5
      refine ⟨.agg us', ?_, by simp only [VR]; exact ⟨_, rfl, h7⟩⟩
      simp only [execOp, ho, Instr.build, Sem.run_bind, hz1, Result.andThen_ok, run_under hu, run_sizeOf' hn]
      have : (parts.map fun (x : Nat × Operand) => (x.1, a.eval x.2)).toList = parts.toList.map fun x => (x.1, a.eval x.2) := by simp
      simp only [this, h6]
      simp
    · cases h
  · cases hc
end
end Go.Zc

/- Each operation that looks at its operands alone, the others, and all at once. No condition. -/
namespace Go.Zc

section
variable {P : Program} {w : World} {F : Nat → Prop} {ι : IM} {env : Env} {a : Act}

theorem VR.not_iface {c : CV} {v : Value} (h : VR w F ι c v) (hc : c ≠ .nili) (hu : c ≠ .und) : v ≠ .nilIface := by
  intro e
  subst e
  cases c <;> simp_all [VR, BR]

theorem VR.not_agg {c : CV} {v : Value} (h : VR w F ι c v) (hc : ∀ l, c ≠ .agg l) (hu : c ≠ .und) : ∀ l, v ≠ .agg l := by
  intro l e
  subst e
  cases c <;> simp_all [VR, BR]

/-- '==' of what is no number and no string. -/
theorem eqBin_ok {o : Oper} {op : BinOp} {t yt : TypeId} {x y : Operand} (ho : o.op = .binOp op t x y yt) (hop : op = .eql ∨ op = .neq) {e : EqT} (he : eqT P 20 t = some e) {p q : CV} {b : Bool}
    (hb : eqC e p q = some b) (hp : VR w F ι p (a.eval x)) (hq : VR w F ι q (a.eval y))
    (hpq : binC op e p q = some (.bool (if op = .eql then b else !b))) : POk P w F ι a o (.bool (if op = .eql then b else !b)) := by
  have heq := eqC_ok 20 t e he Op.maxDepth (by unfold Op.maxDepth; omega) p q _ _ b hb hp hq
  refine ⟨.bool (if op = .eql then b else !b), ?_, vr_bool _⟩
  have hpu : p ≠ .und := by rintro rfl; cases e <;> simp [eqC] at hb
  have hqu : q ≠ .und := by rintro rfl; cases e <;> simp [eqC] at hb
  have hpi : p ≠ .nili := by rintro rfl; cases e <;> simp [eqC] at hb
  have hg : (eqGuard op t x y (a.eval x) (a.eval y)).run P w = .ok () w := by
    refine eqGuard_other (fun l m h1 h2 => ?_) (.inl (hp.not_iface hpi hpu))
    -- a struct type that asks no guard
    unfold eqT at he
    split at he <;> (try cases he)
    · simp only [eqC] at hb
      split at hb <;> (try cases hb)
      rw [hp.bool] at h1; cases h1
    · simp only [eqC] at hb
      split at hb <;> (try cases hb)
      rw [hp.int] at h1; cases h1
    · simp only [eqC] at hb
      split at hb <;> (try cases hb) <;> simp_all [VR, BR]
    · simp only [eqC] at hb
      split at hb <;> (try cases hb) <;> simp_all [VR, BR]
    · simp only [eqC] at hb
      split at hb <;> (try cases hb) <;> simp_all [VR, BR]
    · simp only [eqC] at hb
      split at hb <;> (try cases hb) <;> simp_all [VR, BR]
    · split at he
      · cases he
      · rename_i hno
        cases h : P.eqGuardType P.depth t <;> simp_all
  simp only [execOp, ho, Sem.run_bind, hg, Result.andThen_ok]
  have hbin : (binOp op t (a.eval x) (a.eval y)).run P w = .ok (.bool (if op = .eql then b else !b)) w := by
    have hi : ∀ k n, p ≠ .int k n ∨ (e = .int) := by
      intro k n
      cases e <;> simp [eqC] at hb ⊢ <;> (rintro rfl; simp at hb)
    by_cases hint : ∃ k n, p = .int k n
    · obtain ⟨k, n, rfl⟩ := hint
      have he' : e = .int := (hi k n).resolve_left (by simp)
      subst he'
      simp only [eqC] at hb
      split at hb
      · rename_i k1 a1 k2 b1 hh1
        cases hh1
        split at hb
        · rename_i hk
          subst hk
          cases hb
          rw [hp.int, hq.int]
          rcases hop with rfl | rfl <;> simp [binOp, Op.intCmp, bne]
        · cases hb
      · cases hb
    · have hne : ∀ k n, a.eval x ≠ .int k n := by
        intro k n h
        rw [h] at hp
        cases p <;> simp_all [VR, BR]
      have hnf : ∀ k n, a.eval x ≠ .float k n := by
        intro k n h
        rw [h] at hp
        cases p <;> simp_all [VR, BR]
        cases e <;> simp [eqC] at hb
      have hnc : ∀ k n m, a.eval x ≠ .complex k n m := by
        intro k n m h
        rw [h] at hp
        cases p <;> simp_all [VR, BR]
        cases e <;> simp [eqC] at hb
      have hns : ∀ s, a.eval x ≠ .string s := by
        intro s h
        rw [h] at hp
        cases p <;> simp_all [VR, BR]
        cases e <;> simp [eqC] at hb
      rcases hop with rfl | rfl
      · unfold binOp
        split <;> simp_all [Op.equal]
      · unfold binOp
        split <;> simp_all [Op.equal]
  rw [hbin]
  simp

theorem bin_ok {o : Oper} {op : BinOp} {t yt : TypeId} {x y : Operand} (ho : o.op = .binOp op t x y yt) {e : EqT} {p q c : CV}
    (he : (op = .eql ∨ op = .neq) → e = (eqT P 20 t).getD .ifc) (hp : VR w F ι p (a.eval x)) (hq : VR w F ι q (a.eval y)) (h : binC op e p q = some c) : POk P w F ι a o c := by
  have lift : ∀ {v : Value}, (binOp op t (a.eval x) (a.eval y)).run P w = .ok v w → VR w F ι c v → (∀ l, a.eval x ≠ .agg l) → a.eval x ≠ .nilIface → POk P w F ι a o c := by
    intro v h1 h2 h3 h4
    refine ⟨v, ?_, h2⟩
    have hg : (eqGuard op t x y (a.eval x) (a.eval y)).run P w = .ok () w := eqGuard_other (fun l m h1 _ => (h3 l h1).elim) (.inl h4)
    simp only [execOp, ho, Sem.run_bind, hg, Result.andThen_ok, h1, Sem.run_pure]
  by_cases hi : ∃ k n k' n', p = .int k n ∧ q = .int k' n'
  · obtain ⟨k, n, k', n', rfl, rfl⟩ := hi
    obtain ⟨v, h1, h2⟩ := intBin_ok (P := P) (w := w) (F := F) (ι := ι) (t := t) h
    rw [← hp.int, ← hq.int] at h1
    exact lift h1 h2 (by rw [hp.int]; simp) (by rw [hp.int]; simp)
  by_cases hf : ∃ k n k' n', p = .float k n ∧ q = .float k' n'
  · obtain ⟨k, n, k', n', rfl, rfl⟩ := hf
    obtain ⟨v, h1, h2⟩ := floatBin_ok (P := P) (w := w) (F := F) (ι := ι) (t := t) h
    rw [← hp.float, ← hq.float] at h1
    exact lift h1 h2 (by rw [hp.float]; simp) (by rw [hp.float]; simp)
  by_cases hc : ∃ k n m k' n' m', p = .cplx k n m ∧ q = .cplx k' n' m'
  · obtain ⟨k, n, m, k', n', m', rfl, rfl⟩ := hc
    obtain ⟨v, h1, h2⟩ := cplxBin_ok (P := P) (w := w) (F := F) (ι := ι) (t := t) h
    rw [← hp.cplx, ← hq.cplx] at h1
    exact lift h1 h2 (by rw [hp.cplx]; simp) (by rw [hp.cplx]; simp)
  by_cases hs : ∃ s s', p = .str s ∧ q = .str s'
  · obtain ⟨s, s', rfl, rfl⟩ := hs
    obtain ⟨v, h1, h2⟩ := strBin_ok (P := P) (w := w) (F := F) (ι := ι) (t := t) h
    rw [← hp.str, ← hq.str] at h1
    exact lift h1 h2 (by rw [hp.str]; simp) (by rw [hp.str]; simp)
  have hb : ∃ b, eqC e p q = some b ∧ c = .bool (if op = .eql then b else !b) ∧ (op = .eql ∨ op = .neq) := by
    unfold binC at h
    split at h
    · exact (hi ⟨_, _, _, _, rfl, rfl⟩).elim
    · exact (hf ⟨_, _, _, _, rfl, rfl⟩).elim
    · exact (hc ⟨_, _, _, _, _, _, rfl, rfl⟩).elim
    · exact (hs ⟨_, _, rfl, rfl⟩).elim
    · cases op <;> simp only [Option.map_eq_some_iff, reduceCtorEq] at h
      · obtain ⟨b, h1, rfl⟩ := h; exact ⟨b, h1, by simp, by simp⟩
      · obtain ⟨b, h1, rfl⟩ := h; exact ⟨b, h1, by simp, by simp⟩
  obtain ⟨b, h1, rfl, hop⟩ := hb
  cases het : eqT P 20 t with
  | none =>
    rw [he hop, het] at h1
    simp [eqC] at h1
  | some e' =>
    have : e = e' := by rw [he hop, het]; rfl
    subst this
    exact eqBin_ok ho hop het h1 hp hq h

theorem un_ok {o : Oper} {op : UnOp} {t : TypeId} {x : Operand} (ho : o.op = .unOp op t x) {p c : CV} (hp : VR w F ι p (a.eval x)) (h : unC op p = some c) : POk P w F ι a o c := by
  unfold unC at h
  split at h <;> (try cases h)
  · exact ⟨_, by simp [execOp, ho, hp.int, Op.unary, Op.intArith], vr_int _ _⟩
  · exact ⟨_, by simp [execOp, ho, hp.int, Op.unary, Op.intBits], vr_int _ _⟩
  · exact ⟨_, by simp [execOp, ho, hp.float, Op.unary], vr_float _ _⟩
  · exact ⟨_, by simp [execOp, ho, hp.cplx, Op.unary], vr_cplx _ _ _⟩
  · exact ⟨_, by simp [execOp, ho, hp.bool, Op.unary], vr_bool _⟩

theorem toInt_ok {o : Oper} {s t : TypeId} {x : Operand} {k : IntKind} {d : TypeDesc} (ho : o.op = .convert s t x) (hs : P.underlying s = some d) (ht : P.underlying t = some (.int k)) {p c : CV}
    (hp : VR w F ι p (a.eval x)) (h : toIntC k p = some c) : POk P w F ι a o c := by
  unfold toIntC at h
  split at h <;> (try cases h)
  · exact ⟨_, by simp [execOp, ho, convert, run_under hs, run_under ht, hp.int, Conv.intToInt], vr_int _ _⟩
  · split at h
    · rename_i n hn
      split at h
      · rename_i hb
        cases h
        exact ⟨_, by simp [execOp, ho, convert, run_under hs, run_under ht, hp.float, Conv.floatToInt, hn, hb], vr_int _ _⟩
      · cases h
    · cases h

theorem toFloat_ok {o : Oper} {s t : TypeId} {x : Operand} {k : FloatKind} {d : TypeDesc} (ho : o.op = .convert s t x) (hs : P.underlying s = some d) (ht : P.underlying t = some (.float k)) {p c : CV}
    (hp : VR w F ι p (a.eval x)) (h : toFloatC k p = some c) : POk P w F ι a o c := by
  unfold toFloatC at h
  split at h <;> (try cases h)
  exact ⟨_, by simp [execOp, ho, convert, run_under hs, run_under ht, hp.int, Conv.intToFloat], vr_float _ _⟩

theorem mkif_ok {o : Oper} {t : TypeId} {x : Operand} {d : TypeDesc} (ho : o.op = .makeInterface t x) (ht : P.underlying t = some d) (hd : ∀ m, d ≠ .interface m) {p : CV} (hp : VR w F ι p (a.eval x)) :
    POk P w F ι a o (.ifc t p) := by
  refine ⟨.iface t (a.eval x), ?_, by simp only [VR]; exact ⟨_, rfl, hp⟩⟩
  simp only [execOp, ho, Instr.makeInterface, Sem.run_bind, run_under ht, Result.andThen_ok]
  cases d <;> simp_all

theorem faddr_ok {o : Oper} {s : TypeId} {x : Operand} {f : Nat} {fs : Array Field} {fd : Field} {n : Nat} (ho : o.op = .fieldAddr s x f) (hs : P.underlying s = some (.struct fs)) (hf : fs[f]? = some fd)
    (hn : szOf P fd.type = some (n + 1)) {p c : CV} (hp : VR w F ι p (a.eval x)) (h : faddrC fd.offset p = some c) : POk P w F ι a o c := by
  unfold faddrC at h
  split at h <;> (try cases h)
  · rename_i i off
    simp only [VR] at hp
    obtain ⟨b, h1, h2⟩ := hp
    refine ⟨.pointer (some ⟨b, off + fd.offset, none⟩), ?_, by simp only [VR]; exact ⟨b, h1, rfl⟩⟩
    simp [execOp, ho, Instr.fieldAt, run_under hs, hf, h2, Instr.sureAddr, fieldPlace, run_sizeOf' hn, addr_add]
  · rename_i cs
    simp only [VR, BR] at hp
    obtain ⟨b, off, h2, h3, h4⟩ := hp
    refine ⟨.pointer (some ⟨b, off + fd.offset, none⟩), ?_, by simp only [VR, BR]; exact ⟨b, _, rfl, h3, h4.drop _⟩⟩
    simp [execOp, ho, Instr.fieldAt, run_under hs, hf, h2, Instr.sureAddr, fieldPlace, run_sizeOf' hn, addr_add]

theorem fld_ok {o : Oper} {s : TypeId} {x : Operand} {f : Nat} {fs : Array Field} {fd : Field} {sh : Bool × Nat} (ho : o.op = .field s x f) (hs : P.underlying s = some (.struct fs)) (hf : fs[f]? = some fd)
    (hn : shapeOf P fd.type = some sh) {p c : CV} (hp : VR w F ι p (a.eval x)) (h : fldC sh.1 sh.2 fd.offset p = some c) : POk P w F ι a o c := by
  unfold fldC at h
  split at h <;> (try cases h)
  obtain ⟨vs, h1, h2⟩ := hp.agg
  obtain ⟨v, h3, h4⟩ := run_part' (P := P) hn h2 h
  exact ⟨v, by simp [execOp, ho, Instr.field, run_under hs, hf, h1, asAgg, h3], h4⟩

theorem iaddr_ok {o : Oper} {t e : TypeId} {x i : Operand} {n : Nat} (ho : o.op = .indexAddr t x i) (ht : P.underlying t = some (.slice e)) (hn : szOf P e = some n) {p q c : CV}
    (hp : VR w F ι p (a.eval x)) (hq : VR w F ι q (a.eval i)) (h : iaddrC n p q = some c) : POk P w F ι a o c := by
  unfold iaddrC at h
  split at h <;> (try cases h)
  rename_i k m
  unfold iaddrN at h
  split at h <;> (try cases h)
  · rename_i s id off len
    split at h
    · rename_i hb
      obtain ⟨rfl, hb1, hb2⟩ := hb
      cases h
      simp only [VR] at hp
      obtain ⟨base, cap, h1, h2, h3⟩ := hp
      rcases h3 with h3 | ⟨b, sz, h3, rfl, _, _⟩
      · omega
      · refine ⟨.pointer (some ⟨b, off + m.toNat * s, none⟩), ?_, by simp only [VR]; exact ⟨b, h3, rfl⟩⟩
        simp [execOp, ho, Instr.indexAt, hq.int, asIntOf, run_under ht, h1, hb1, hb2, run_sizeOf' hn, addr_add]
    · cases h
  · rename_i cs len
    split at h
    · rename_i hb
      obtain ⟨hb1, hb2, hb3⟩ := hb
      cases h
      simp only [VR, BR] at hp
      obtain ⟨base, cap, h1, h2, h3⟩ := hp
      rcases h3 with h3 | ⟨b, off, rfl, h4, h5⟩
      · exact (hb3 h3).elim
      · refine ⟨.pointer (some ⟨b, off + m.toNat * n, none⟩), ?_, by simp only [VR, BR]; exact ⟨b, _, rfl, h4, h5.drop _⟩⟩
        simp [execOp, ho, Instr.indexAt, hq.int, asIntOf, run_under ht, h1, hb1, hb2, run_sizeOf' hn, addr_add]
    · cases h

theorem iaddrA_ok {o : Oper} {t e : TypeId} {x i : Operand} {n len : Nat} (ho : o.op = .indexAddr t x i) (ht : P.underlying t = some (.array len e)) (hn : szOf P e = some n) {p q c : CV}
    (hp : VR w F ι p (a.eval x)) (hq : VR w F ι q (a.eval i)) (h : iaddrAC len n p q = some c) : POk P w F ι a o c := by
  unfold iaddrAC at h
  split at h <;> (try cases h)
  rename_i k m
  split at h <;> (try cases h)
  rename_i hb
  obtain ⟨hb1, hb2⟩ := hb
  unfold faddrC at h
  split at h <;> (try cases h)
  · rename_i id off
    simp only [VR] at hp
    obtain ⟨b, h1, h2⟩ := hp
    refine ⟨.pointer (some ⟨b, off + m.toNat * n, none⟩), ?_, by simp only [VR]; exact ⟨b, h1, rfl⟩⟩
    simp [execOp, ho, Instr.indexAt, hq.int, asIntOf, run_under ht, h2, Instr.sureAddr, hb1, hb2, run_sizeOf' hn, addr_add]
  · rename_i cs
    simp only [VR, BR] at hp
    obtain ⟨b, off, h2, h3, h4⟩ := hp
    refine ⟨.pointer (some ⟨b, off + m.toNat * n, none⟩), ?_, by simp only [VR, BR]; exact ⟨b, _, rfl, h3, h4.drop _⟩⟩
    simp [execOp, ho, Instr.indexAt, hq.int, asIntOf, run_under ht, h2, Instr.sureAddr, hb1, hb2, run_sizeOf' hn, addr_add]

theorem idxA_ok {o : Oper} {t e : TypeId} {x i : Operand} {len : Nat} {sh : Bool × Nat} (ho : o.op = .index t x i) (ht : P.underlying t = some (.array len e)) (hn : shapeOf P e = some sh) {p q c : CV}
    (hp : VR w F ι p (a.eval x)) (hq : VR w F ι q (a.eval i)) (h : idxAC len sh.1 sh.2 p q = some c) : POk P w F ι a o c := by
  unfold idxAC at h
  split at h <;> (try cases h)
  rename_i k m
  split at h <;> (try cases h)
  rename_i hb
  obtain ⟨hb1, hb2⟩ := hb
  unfold fldC at h
  split at h <;> (try cases h)
  obtain ⟨vs, h1, h2⟩ := hp.agg
  obtain ⟨_, hsz, _⟩ := shapeOf_ok hn
  obtain ⟨v, h3, h4⟩ := run_part' (P := P) hn h2 h
  exact ⟨v, by simp [execOp, ho, Instr.index, hq.int, asIntOf, run_under ht, h1, hb1, hb2, run_sizeOf' hsz, h3], h4⟩

theorem idxS_ok {o : Oper} {t : TypeId} {x i : Operand} (ho : o.op = .index t x i) (ht : P.underlying t = some .string) {p q c : CV}
    (hp : VR w F ι p (a.eval x)) (hq : VR w F ι q (a.eval i)) (h : idxSC p q = some c) : POk P w F ι a o c := by
  unfold idxSC at h
  split at h <;> (try cases h)
  rename_i k m
  unfold idxSN at h
  split at h <;> (try cases h)
  split at h <;> (try cases h)
  rename_i hb
  simp only [Option.map_eq_some_iff] at h
  obtain ⟨b, h1, rfl⟩ := h
  exact ⟨_, by simp [execOp, ho, Instr.index, hq.int, asIntOf, run_under ht, hp.str, hb, h1], vr_int _ _⟩

theorem ext_ok {o : Oper} {x : Operand} {i : Nat} (ho : o.op = .extract x i) {p c : CV} (hp : VR w F ι p (a.eval x)) (h : extC i p = some c) : POk P w F ι a o c := by
  unfold extC at h
  split at h <;> (try cases h)
  obtain ⟨vs, h1, h2⟩ := hp.tup
  obtain ⟨v, h3, h4⟩ := h2.get _ _ h
  have h3' : vs[i]? = some v := by simpa using h3
  exact ⟨v, by simp [execOp, ho, Instr.extract, h1, h3'], h4⟩

end
end Go.Zc

/- The rest of them, and all at once. No condition. -/
namespace Go.Zc

section
variable {P : Program} {w : World} {F : Nat → Prop} {ι : IM} {env : Env} {a : Act}

theorem oopd_ok (he : EnvR w F ι env a) {x : Option Operand} {ys : List Opd} (h : oopd x = some ys) :
    (x = none ∧ ys = []) ∨ ∃ o y, x = some o ∧ ys = [y] ∧ VR w F ι (ev env y) (a.eval o) := by
  cases x with
  | none => simp only [oopd, Option.some.injEq] at h; exact .inl ⟨rfl, h.symm⟩
  | some o =>
    simp only [oopd, Option.map_eq_some_iff] at h
    obtain ⟨y, h1, rfl⟩ := h
    exact .inr ⟨o, y, rfl, rfl, opd_ok he h1⟩

/-- A bound of a slice expression: what it comes to in the model. -/
theorem sbound_ok {x : Option CV} {v : Option Value} {dflt most n : Nat} (h : sbound x dflt most = some n) (hv : (x = none ∧ v = none) ∨ ∃ c u, x = some c ∧ v = some u ∧ VR w F ι c u) :
    (v = none ∧ n = dflt) ∨ ∃ k, v = some (.int k n) ∧ n ≤ most := by
  rcases hv with ⟨rfl, rfl⟩ | ⟨c, u, rfl, rfl, hcu⟩
  · simp only [sbound, Option.some.injEq] at h
    exact .inl ⟨rfl, h.symm⟩
  · cases c <;> simp only [sbound, reduceCtorEq] at h
    rename_i k m
    split at h
    · rename_i hb
      cases h
      refine .inr ⟨k, ?_, by omega⟩
      rw [hcu.int]
      congr 2
      omega
    · cases h

theorem run_bound {k : IntKind} {n y : Nat} (h : n ≤ y) (c : BoundsCode) : (Instr.sliceBound (.int k n) y c).run P w = .ok n w := by
  have h1 : (0 : Int) ≤ (n : Int) ∧ (n : Int) ≤ (y : Int) := by omega
  simp [Instr.sliceBound, asIntOf, h1]

theorem run_bounds {len cap hn ln : Nat} {lo hi : Option Value} (hcap : len ≤ cap) (hh : (hi = none ∧ hn = len) ∨ ∃ k, hi = some (.int k hn) ∧ hn ≤ len)
    (hl : (lo = none ∧ ln = 0) ∨ ∃ k, lo = some (.int k ln) ∧ ln ≤ hn) : (Instr.sliceBounds true len cap lo hi none).run P w = .ok (ln, hn, cap) w := by
  rcases hh with ⟨rfl, rfl⟩ | ⟨k, rfl, hh⟩ <;> rcases hl with ⟨rfl, rfl⟩ | ⟨k', rfl, hl⟩
  · simp [Instr.sliceBounds]
  · simp [Instr.sliceBounds, run_bound hl]
  · simp [Instr.sliceBounds, run_bound (P := P) (w := w) (k := k) (n := hn) (y := cap) (by omega)]
  · simp [Instr.sliceBounds, run_bound (P := P) (w := w) (k := k) (n := hn) (y := cap) (by omega), run_bound hl]

theorem slc_ok {o : Oper} {t e : TypeId} {x : Operand} {lo hi : Option Operand} {n : Nat} (ho : o.op = .slice t x lo hi none) (ht : P.underlying t = some (.slice e)) (hn : szOf P e = some n)
    {p : CV} {l h : Option CV} {c : CV} (hp : VR w F ι p (a.eval x)) (hl : (l = none ∧ lo.map a.eval = none) ∨ ∃ c u, l = some c ∧ lo.map a.eval = some u ∧ VR w F ι c u)
    (hh : (h = none ∧ hi.map a.eval = none) ∨ ∃ c u, h = some c ∧ hi.map a.eval = some u ∧ VR w F ι c u) (hc : slcC n p l h = some c) : POk P w F ι a o c := by
  have step : ∀ {v : Value}, (Instr.slice t (a.eval x) (lo.map a.eval) (hi.map a.eval) none).run P w = .ok v w → VR w F ι c v → POk P w F ι a o c := by
    intro v h1 h2
    refine ⟨v, ?_, h2⟩
    simp only [execOp, ho, Sem.run_bind, Instr.sliceAt, run_under ht, Result.andThen_ok, Option.map_none]
    rw [h1]; rfl
  unfold slcC at hc
  split at hc
  · simp only [Option.bind_eq_some_iff, Option.map_eq_some_iff] at hc
    obtain ⟨hn', h1, ln, h2, rfl⟩ := hc
    have e1 := sbound_ok h1 hh
    have e2 := sbound_ok h2 hl
    have hz : hn' = 0 ∧ ln = 0 := by
      rcases e1 with ⟨_, e⟩ | ⟨_, _, e⟩ <;> rcases e2 with ⟨_, e'⟩ | ⟨_, _, e'⟩ <;> omega
    obtain ⟨rfl, rfl⟩ := hz
    simp only [VR, BR] at hp
    refine step (v := .slice none 0 0) ?_ (by simp [VR, BR])
    have := run_bounds (P := P) (w := w) (len := 0) (cap := 0) (hn := 0) (ln := 0) (Nat.le_refl _) (e1.imp (fun h => ⟨h.1, rfl⟩) fun ⟨k, h, _⟩ => ⟨k, h, by omega⟩) (e2.imp (fun h => ⟨h.1, rfl⟩) fun ⟨k, h, _⟩ => ⟨k, h, by omega⟩)
    simp only [Instr.slice, Sem.run_bind, run_under ht, Result.andThen_ok, hp, this, run_sizeOf' hn]
    simp
  · rename_i cs len
    simp only [Option.bind_eq_some_iff, Option.map_eq_some_iff] at hc
    obtain ⟨hn', h1, ln, h2, rfl⟩ := hc
    have e1 := sbound_ok h1 hh
    have e2 := sbound_ok h2 hl
    simp only [VR, BR] at hp
    obtain ⟨base, cap, hb, hcap, hcs⟩ := hp
    have hhn : hn' ≤ len := by rcases e1 with ⟨_, e⟩ | ⟨_, _, e⟩ <;> omega
    have hln : ln ≤ hn' := by rcases e2 with ⟨_, e⟩ | ⟨_, _, e⟩ <;> omega
    have := run_bounds (P := P) (w := w) (len := len) (cap := cap) (hn := hn') (ln := ln) hcap (e1.imp (fun h => h) fun ⟨k, h, _⟩ => ⟨k, h, by omega⟩) (e2.imp (fun h => ⟨h.1, h.2⟩) fun ⟨k, h, _⟩ => ⟨k, h, by omega⟩)
    refine step (v := .slice (if cap = ln then base else base.map (·.add (ln * n))) (hn' - ln) (cap - ln)) ?_ ?_
    · simp only [Instr.slice, Sem.run_bind, run_under ht, Result.andThen_ok, hb, this, run_sizeOf' hn]
      simp
    · simp only [VR, BR]
      refine ⟨_, _, rfl, by omega, ?_⟩
      rcases hcs with rfl | ⟨b, off, rfl, h4, h5⟩
      · exact .inl (by simp)
      · by_cases hcl : cap = ln
        · left
          have : hn' = ln := by omega
          subst this
          simp
        · right
          refine ⟨b, off + ln * n, by rw [if_neg hcl]; simp [addr_add], h4, (h5.take _).drop _⟩
  · rename_i s i off len
    split at hc
    · rename_i hs
      subst hs
      simp only [Option.bind_eq_some_iff, Option.map_eq_some_iff] at hc
      obtain ⟨hn', h1, ln, h2, rfl⟩ := hc
      have e1 := sbound_ok h1 hh
      have e2 := sbound_ok h2 hl
      simp only [VR] at hp
      obtain ⟨base, cap, hb, hcap, hcs⟩ := hp
      have hhn : hn' ≤ len := by rcases e1 with ⟨_, e⟩ | ⟨_, _, e⟩ <;> omega
      have hln : ln ≤ hn' := by rcases e2 with ⟨_, e⟩ | ⟨_, _, e⟩ <;> omega
      have := run_bounds (P := P) (w := w) (len := len) (cap := cap) (hn := hn') (ln := ln) hcap (e1.imp (fun h => h) fun ⟨k, h, _⟩ => ⟨k, h, by omega⟩) (e2.imp (fun h => ⟨h.1, h.2⟩) fun ⟨k, h, _⟩ => ⟨k, h, by omega⟩)
      refine step (v := .slice (if cap = ln then base else base.map (·.add (ln * s))) (hn' - ln) (cap - ln)) ?_ ?_
      · simp only [Instr.slice, Sem.run_bind, run_under ht, Result.andThen_ok, hb, this, run_sizeOf' hn]
        simp
      · simp only [VR]
        refine ⟨_, _, rfl, by omega, ?_⟩
        by_cases hcl : cap = ln
        · exact .inl (by omega)
        · rcases hcs with hcs | ⟨b, m, h4, rfl, h5, h6⟩
          · omega
          · right
            refine ⟨b, m, h4, by rw [if_neg hcl]; simp [addr_add], h5, ?_⟩
            have : ln * s + (cap - ln) * s = cap * s := by rw [← Nat.add_mul]; congr 1; omega
            omega
    · cases hc
  · cases hc

/-- A call of a builtin that hands back a value. -/
theorem builtin_ok {o : Oper} {b : Builtin} {args : Array Operand} {ats : Array TypeId} (ho : o.op = .call { callee := .builtin b, args := args, argTypes := ats }) {v : Value} {c : CV}
    (h : (builtin b ats o.type (args.map fun | .const _ => true | _ => false) (args.map a.eval)).run P w = .ok (.value v) w) (hv : VR w F ι c v) : POk P w F ι a o c := by
  refine ⟨v, ?_, hv⟩
  simp only [execOp, ho, resolve, Sem.run_bind, invoke, Sem.run_pure, Result.andThen_ok]
  exact h

theorem len_ok {o : Oper} {t e : TypeId} {x : Operand} (ho : o.op = .call { callee := .builtin .len, args := #[x], argTypes := #[t] })
    (ht : P.underlying t = some (.slice e)) {p c : CV} (hp : VR w F ι p (a.eval x)) (h : lenC p = some c) : POk P w F ι a o c := by
  have step : ∀ {v : Value}, (Builtin.len_ #[t] o.type #[a.eval x]).run P w = .ok v w → VR w F ι c v → POk P w F ι a o c := by
    intro v h1 h2
    refine builtin_ok ho ?_ h2
    simp only [builtin, Sem.run_bind, List.map_toArray, List.map_cons, List.map_nil, h1, Result.andThen_ok, Sem.run_pure]
  unfold lenC at h
  split at h <;> (try cases h)
  · simp only [VR, BR] at hp
    exact step (v := goInt 0) (by simp [Builtin.len_, run_under ht, hp]) (vr_int _ _)
  · simp only [VR] at hp
    obtain ⟨base, cap, hb, _⟩ := hp
    exact step (by simp [Builtin.len_, run_under ht, hb]; rfl) (vr_int _ _)
  · simp only [VR, BR] at hp
    obtain ⟨base, cap, hb, _⟩ := hp
    exact step (by simp [Builtin.len_, run_under ht, hb]; rfl) (vr_int _ _)

theorem cap_ok {o : Oper} {t e : TypeId} {x : Operand} (ho : o.op = .call { callee := .builtin .cap, args := #[x], argTypes := #[t] })
    (ht : P.underlying t = some (.slice e)) {p c : CV} (hp : VR w F ι p (a.eval x)) (h : capC p = some c) : POk P w F ι a o c := by
  unfold capC at h
  split at h <;> (try cases h)
  simp only [VR, BR] at hp
  refine builtin_ok ho (v := goInt 0) ?_ (vr_int _ _)
  simp [builtin, Builtin.cap_, run_under ht, hp]

theorem lenS_ok {o : Oper} {t : TypeId} {x : Operand} (ho : o.op = .call { callee := .builtin .len, args := #[x], argTypes := #[t] })
    (ht : P.underlying t = some .string) {p c : CV} (hp : VR w F ι p (a.eval x)) (h : lenSC p = some c) : POk P w F ι a o c := by
  unfold lenSC at h
  split at h <;> (try cases h)
  refine builtin_ok ho (v := goInt _) ?_ (vr_int _ _)
  simp [builtin, Builtin.len_, run_under ht, hp.str]

theorem lenK_ok {o : Oper} {t e : TypeId} {n : Nat} {x : Operand} (ho : o.op = .call { callee := .builtin .len, args := #[x], argTypes := #[t] })
    (ht : P.underlying t = some (.array n e)) : POk P w F ι a o (.int .i64 n) := by
  refine builtin_ok ho (v := goInt n) ?_ (vr_int _ _)
  simp [builtin, Builtin.len_, run_under ht]

theorem cplx_ok {o : Oper} {ats : Array TypeId} {x y : Operand} (ho : o.op = .call { callee := .builtin .complex, args := #[x, y], argTypes := ats }) {p q c : CV}
    (hp : VR w F ι p (a.eval x)) (hq : VR w F ι q (a.eval y)) (h : cplxC p q = some c) : POk P w F ι a o c := by
  unfold cplxC at h
  split at h <;> (try cases h)
  split at h <;> (try cases h)
  rename_i k x' k2 y' hk
  subst hk
  refine builtin_ok ho (v := .complex _ _ _) ?_ (vr_cplx _ _ _)
  have e : Builtin.complex_ ats o.type #[.float k x', .float k y'] = if k = k then pure (.complex k x' y') else stuck "complex: parts of different kinds" := rfl
  simp [builtin, hp.float, hq.float, e]

theorem re_ok {o : Oper} {ats : Array TypeId} {x : Operand} (ho : o.op = .call { callee := .builtin .real, args := #[x], argTypes := ats }) {p c : CV}
    (hp : VR w F ι p (a.eval x)) (h : reC p = some c) : POk P w F ι a o c := by
  unfold reC at h
  split at h <;> (try cases h)
  refine builtin_ok ho (v := .float _ _) ?_ (vr_float _ _)
  rename_i k x' y'
  have e : Builtin.real_ ats o.type #[.complex k x' y'] = pure (.float k x') := rfl
  simp [builtin, hp.cplx, e]

theorem im_ok {o : Oper} {ats : Array TypeId} {x : Operand} (ho : o.op = .call { callee := .builtin .imag, args := #[x], argTypes := ats }) {p c : CV}
    (hp : VR w F ι p (a.eval x)) (h : imC p = some c) : POk P w F ι a o c := by
  unfold imC at h
  split at h <;> (try cases h)
  refine builtin_ok ho (v := .float _ _) ?_ (vr_float _ _)
  rename_i k x' y'
  have e : Builtin.imag_ ats o.type #[.complex k x' y'] = pure (.float k y') := rfl
  simp [builtin, hp.cplx, e]

theorem foldMin_ok : ∀ (cs : List CV) (us : List Value) (x c : CV) (u : Value), VRl w F ι cs us → VR w F ι x u → foldC min2C x cs = some c → ∃ v, (us.foldlM (m := Sem) Builtin.min2 u).run P w = .ok v w ∧ VR w F ι c v
  | [], us, x, c, u, hc, hx, h => by
    simp only [VRl] at hc; subst hc
    simp only [foldC, Option.some.injEq] at h; subst h
    exact ⟨u, by simp, hx⟩
  | y :: cs, us, x, c, u, hc, hx, h => by
    simp only [VRl] at hc
    obtain ⟨v, vs, rfl, h1, h2⟩ := hc
    simp only [foldC, Option.bind_eq_some_iff] at h
    obtain ⟨z, h3, h4⟩ := h
    unfold min2C at h3
    split at h3 <;> (try cases h3)
    rename_i k m k' n
    obtain ⟨r, h5, h6⟩ := foldMin_ok cs vs _ c _ h2 (vr_int k (if n < m then n else m)) h4
    refine ⟨r, ?_, h6⟩
    simp only [List.foldlM_cons, Sem.run_bind, hx.int, h1.int, Builtin.min2, Sem.run_pure, Result.andThen_ok]
    exact h5

theorem foldMax_ok : ∀ (cs : List CV) (us : List Value) (x c : CV) (u : Value), VRl w F ι cs us → VR w F ι x u → foldC max2C x cs = some c → ∃ v, (us.foldlM (m := Sem) Builtin.max2 u).run P w = .ok v w ∧ VR w F ι c v
  | [], us, x, c, u, hc, hx, h => by
    simp only [VRl] at hc; subst hc
    simp only [foldC, Option.some.injEq] at h; subst h
    exact ⟨u, by simp, hx⟩
  | y :: cs, us, x, c, u, hc, hx, h => by
    simp only [VRl] at hc
    obtain ⟨v, vs, rfl, h1, h2⟩ := hc
    simp only [foldC, Option.bind_eq_some_iff] at h
    obtain ⟨z, h3, h4⟩ := h
    unfold max2C at h3
    split at h3 <;> (try cases h3)
    rename_i k m k' n
    obtain ⟨r, h5, h6⟩ := foldMax_ok cs vs _ c _ h2 (vr_int k (if n > m then n else m)) h4
    refine ⟨r, ?_, h6⟩
    simp only [List.foldlM_cons, Sem.run_bind, hx.int, h1.int, Builtin.max2, Sem.run_pure, Result.andThen_ok]
    exact h5

theorem minmax_ok {o : Oper} {ats : Array TypeId} {args : Array Operand} {b : Builtin} (ho : o.op = .call { callee := .builtin b, args := args, argTypes := ats }) {p : POp} (hb : b = .min ∧ p = .min ∨ b = .max ∧ p = .max)
    {cs : List CV} {c : CV} (hcs : VRl w F ι cs (args.toList.map a.eval)) (h : pureOp p cs = some c) : POk P w F ι a o c := by
  cases cs with
  | nil => rcases hb with ⟨_, rfl⟩ | ⟨_, rfl⟩ <;> simp [pureOp] at h
  | cons x cs =>
    have hl : (args.map a.eval).toList = args.toList.map a.eval := by simp
    have hcs' := hcs
    simp only [VRl] at hcs'
    obtain ⟨u, us, h1, h2, h3⟩ := hcs'
    rw [h1] at hl
    rcases hb with ⟨rfl, rfl⟩ | ⟨rfl, rfl⟩
    · obtain ⟨v, h4, h5⟩ := foldMin_ok (P := P) cs us x c u h3 h2 (by simpa [pureOp] using h)
      refine builtin_ok ho (v := v) ?_ h5
      simp only [builtin, Builtin.min_, hl, Sem.run_bind, h4, Result.andThen_ok, Sem.run_pure]
    · obtain ⟨v, h4, h5⟩ := foldMax_ok (P := P) cs us x c u h3 h2 (by simpa [pureOp] using h)
      refine builtin_ok ho (v := v) ?_ h5
      simp only [builtin, Builtin.max_, hl, Sem.run_bind, h4, Result.andThen_ok, Sem.run_pure]
end
end Go.Zc

/- Every operation that looks at its operands alone. No condition. -/
namespace Go.Zc

section
variable {P : Program} {w : World} {F : Nat → Prop} {ι : IM} {env : Env} {a : Act}

theorem evs_nil : evs env [] = [] := rfl
theorem evs_cons (y : Opd) (r : List Opd) : evs env (y :: r) = ev env y :: evs env r := rfl
theorem evs_append : ∀ (l r : List Opd), evs env (l ++ r) = evs env l ++ evs env r
  | [], _ => rfl
  | x :: l, r => by simp [evs, evs_append l r]
theorem evs_length : ∀ (l : List Opd), (evs env l).length = l.length
  | [] => rfl
  | x :: l => by simp [evs, evs_length l]

theorem pop_ok {an : Ann} (he : EnvR w F ι env a) {o : Oper} {p : POp} {ys : List Opd} {v : CV} (hc : comp1 P an o.dst o.op = some (.p p, ys)) (h : pureOp p (evs env ys) = some v) : POk P w F ι a o v := by
  cases ho : o.op with
  | move x =>
    simp only [ho, comp1, Option.map_eq_some_iff, Prod.mk.injEq, COp.p.injEq] at hc
    obtain ⟨y, hx, rfl, rfl⟩ := hc
    simp only [evs, pureOp, Option.some.injEq] at h
    subst h
    exact mov_ok he (.inl ho) hx
  | assign x =>
    simp only [ho, comp1, Option.map_eq_some_iff, Prod.mk.injEq, COp.p.injEq] at hc
    obtain ⟨y, hx, rfl, rfl⟩ := hc
    simp only [evs, pureOp, Option.some.injEq] at h
    subst h
    exact mov_ok he (.inr ho) hx
  | pick c x y =>
    simp only [ho, comp1, Option.map_eq_some_iff, Prod.mk.injEq, COp.p.injEq] at hc
    obtain ⟨l, hl, rfl, rfl⟩ := hc
    obtain ⟨c', x', y', h1, h2, h3, rfl⟩ := opds3 hl
    simp only [evs, pureOp] at h
    unfold pickC at h
    split at h <;> (try cases h)
    rename_i b p q heq
    have hb := opd_ok he h1
    rw [heq] at hb
    exact pick_ok ho hb (opd_ok he h2) (opd_ok he h3)
  | alloc e =>
    simp only [ho, comp1] at hc
    split at hc <;> (try cases hc)
    split at hc <;> (try cases hc)
  | box e x =>
    simp only [ho, comp1] at hc
    split at hc <;> (try cases hc)
  | build t parts => exact build_ok he ho hc h
  | buildSlice t len parts =>
    simp only [ho, comp1] at hc
    split at hc <;> (try cases hc)
    split at hc <;> (try cases hc)
    split at hc <;> (try cases hc)
    simp only [Option.map_eq_some_iff, Prod.mk.injEq, reduceCtorEq, false_and, and_false, exists_false] at hc
  | load t x =>
    simp only [ho, comp1, Option.map_eq_some_iff, Option.bind_eq_some_iff, Prod.mk.injEq, reduceCtorEq, false_and, and_false, exists_false] at hc
  | store t x y =>
    simp only [ho, comp1, Option.map_eq_some_iff, Option.bind_eq_some_iff, Prod.mk.injEq, reduceCtorEq, false_and, and_false, exists_false] at hc
  | nilCheck x =>
    simp only [ho, comp1, Option.map_eq_some_iff, Prod.mk.injEq, COp.p.injEq] at hc
    obtain ⟨y, hx, rfl, rfl⟩ := hc
    exact nchk_ok ho (opd_ok he hx) (by simpa [evs, pureOp] using h)
  | binOp op t x y yt =>
    have key : ∀ {e : EqT}, ((op = .eql ∨ op = .neq) → e = (eqT P 20 t).getD .ifc) → ((opds [x, y]).map fun l => (COp.p (.bin op e), l)) = some (.p p, ys) → POk P w F ι a o v := by
      intro e hee hc
      simp only [Option.map_eq_some_iff, Prod.mk.injEq, COp.p.injEq] at hc
      obtain ⟨l, hl, rfl, rfl⟩ := hc
      obtain ⟨x', y', h1, h2, rfl⟩ := opds2 hl
      exact bin_ok ho hee (opd_ok he h1) (opd_ok he h2) (by simpa [evs, pureOp] using h)
    rw [ho] at hc
    cases op <;> simp only [comp1] at hc <;> first
      | exact key (fun _ => rfl) hc
      | exact key (fun hh => by simp at hh) hc
  | unOp op t x =>
    simp only [ho, comp1, Option.map_eq_some_iff, Prod.mk.injEq, COp.p.injEq] at hc
    obtain ⟨y, hx, rfl, rfl⟩ := hc
    exact un_ok ho (opd_ok he hx) (by simpa [evs, pureOp] using h)
  | convert s t x =>
    simp only [ho, comp1] at hc
    split at hc <;> (try cases hc)
    · rename_i d k hs ht
      simp only [Option.map_eq_some_iff, Prod.mk.injEq, COp.p.injEq] at hc
      obtain ⟨y, hx, rfl, rfl⟩ := hc
      exact toInt_ok ho hs ht (opd_ok he hx) (by simpa [evs, pureOp] using h)
    · rename_i d k hs ht
      simp only [Option.map_eq_some_iff, Prod.mk.injEq, COp.p.injEq] at hc
      obtain ⟨y, hx, rfl, rfl⟩ := hc
      exact toFloat_ok ho hs ht (opd_ok he hx) (by simpa [evs, pureOp] using h)
  | makeInterface t x =>
    simp only [ho, comp1] at hc
    cases ht : P.underlying t with
    | none => simp [ht] at hc
    | some d =>
      by_cases hd : ∃ m, d = .interface m
      · obtain ⟨m, rfl⟩ := hd
        simp [ht] at hc
      · have hc' : ((opd x).map fun y => (COp.p (.mkif t), [y])) = some (.p p, ys) := by
          rw [ht] at hc
          cases d <;> first | exact hc | exact (hd ⟨_, rfl⟩).elim
        simp only [Option.map_eq_some_iff, Prod.mk.injEq, COp.p.injEq] at hc'
        obtain ⟨y, hx, rfl, rfl⟩ := hc'
        simp only [evs, pureOp] at h
        split at h
        · cases h
        · cases h
          exact mkif_ok ho ht (fun m e => hd ⟨m, e⟩) (opd_ok he hx)
  | makeFunc f xs ys' =>
    simp only [ho, comp1, Option.map_eq_some_iff, Option.bind_eq_some_iff, Prod.mk.injEq, COp.p.injEq] at hc
    obtain ⟨x, hx, y, hy, rfl, rfl⟩ := hc
    simp only [pureOp, Option.some.injEq] at h
    subst h
    rw [evs_append]
    have hl : (evs env x).length = x.length := evs_length x
    rw [List.take_append_of_le_length (by omega), List.drop_append_of_le_length (by omega), List.take_of_length_le (by omega), List.drop_of_length_le (by omega)]
    refine ⟨.func f (xs.map a.eval) (ys'.map a.eval), by simp [execOp, ho, Instr.makeFunc], ?_⟩
    simp only [VR]
    exact ⟨_, _, rfl, by simpa using opds_ok he hx, by simpa using opds_ok he hy⟩
  | makeMap t r =>
    cases r <;> simp [ho, comp1] at hc
  | makeChan t s => simp [ho, comp1] at hc
  | makeSlice t l c =>
    simp only [ho, comp1] at hc
    split at hc <;> (try cases hc)
    split at hc <;> (try cases hc)
    split at hc <;> (try cases hc)
    simp only [Option.map_eq_some_iff, Prod.mk.injEq, reduceCtorEq, false_and, and_false, exists_false] at hc
  | slice t x lo hi mx =>
    cases mx with
    | some m => simp [ho, comp1] at hc
    | none =>
      simp only [ho, comp1] at hc
      split at hc <;> (try cases hc)
      rename_i e ht
      simp only [Option.map_eq_some_iff, Option.bind_eq_some_iff, Prod.mk.injEq, COp.p.injEq] at hc
      obtain ⟨n, hn, y, hx, l, hl, h', hh, rfl, rfl⟩ := hc
      have hx' := opd_ok he hx
      rcases oopd_ok he hl with ⟨rfl, rfl⟩ | ⟨lo', yl, rfl, rfl, hlo⟩ <;> rcases oopd_ok he hh with ⟨rfl, rfl⟩ | ⟨hi', yh, rfl, rfl, hhi⟩ <;>
        simp only [List.nil_append, List.append_nil, List.cons_append, evs, Option.isSome_none, Option.isSome_some, pureOp] at h
      · exact slc_ok ho ht hn hx' (.inl ⟨rfl, rfl⟩) (.inl ⟨rfl, rfl⟩) h
      · exact slc_ok ho ht hn hx' (.inl ⟨rfl, rfl⟩) (.inr ⟨_, _, rfl, rfl, hhi⟩) h
      · exact slc_ok ho ht hn hx' (.inr ⟨_, _, rfl, rfl, hlo⟩) (.inl ⟨rfl, rfl⟩) h
      · exact slc_ok ho ht hn hx' (.inr ⟨_, _, rfl, rfl, hlo⟩) (.inr ⟨_, _, rfl, rfl, hhi⟩) h
  | fieldAddr s x f =>
    simp only [ho, comp1] at hc
    split at hc <;> (try cases hc)
    rename_i fs hs
    simp only [Option.bind_eq_some_iff] at hc
    obtain ⟨fd, hf, hc⟩ := hc
    split at hc <;> (try cases hc)
    rename_i n hn
    simp only [Option.map_eq_some_iff, Prod.mk.injEq, COp.p.injEq] at hc
    obtain ⟨y, hx, rfl, rfl⟩ := hc
    exact faddr_ok ho hs hf hn (opd_ok he hx) (by simpa [evs, pureOp] using h)
  | field t x f =>
    simp only [ho, comp1] at hc
    split at hc <;> (try cases hc)
    rename_i fs hs
    simp only [Option.bind_eq_some_iff, Option.map_eq_some_iff, Prod.mk.injEq, COp.p.injEq] at hc
    obtain ⟨fd, hf, s, hsh, y, hx, rfl, rfl⟩ := hc
    exact fld_ok ho hs hf hsh (opd_ok he hx) (by simpa [evs, pureOp] using h)
  | indexAddr t x i =>
    simp only [ho, comp1] at hc
    split at hc <;> (try cases hc)
    · rename_i e ht
      simp only [Option.bind_eq_some_iff, Option.map_eq_some_iff, Prod.mk.injEq, COp.p.injEq] at hc
      obtain ⟨n, hn, l, hl, rfl, rfl⟩ := hc
      obtain ⟨x', y', h1, h2, rfl⟩ := opds2 hl
      exact iaddr_ok ho ht hn (opd_ok he h1) (opd_ok he h2) (by simpa [evs, pureOp] using h)
    · rename_i len e ht
      simp only [Option.bind_eq_some_iff, Option.map_eq_some_iff, Prod.mk.injEq, COp.p.injEq] at hc
      obtain ⟨n, hn, l, hl, rfl, rfl⟩ := hc
      obtain ⟨x', y', h1, h2, rfl⟩ := opds2 hl
      exact iaddrA_ok ho ht hn (opd_ok he h1) (opd_ok he h2) (by simpa [evs, pureOp] using h)
  | index t x i =>
    simp only [ho, comp1] at hc
    split at hc <;> (try cases hc)
    · rename_i len e ht
      simp only [Option.bind_eq_some_iff, Option.map_eq_some_iff, Prod.mk.injEq, COp.p.injEq] at hc
      obtain ⟨n, hn, l, hl, rfl, rfl⟩ := hc
      obtain ⟨x', y', h1, h2, rfl⟩ := opds2 hl
      exact idxA_ok ho ht hn (opd_ok he h1) (opd_ok he h2) (by simpa [evs, pureOp] using h)
    · rename_i ht
      simp only [Option.map_eq_some_iff, Prod.mk.injEq, COp.p.injEq] at hc
      obtain ⟨l, hl, rfl, rfl⟩ := hc
      obtain ⟨x', y', h1, h2, rfl⟩ := opds2 hl
      exact idxS_ok ho ht (opd_ok he h1) (opd_ok he h2) (by simpa [evs, pureOp] using h)
  | lookup t m k ok =>
    simp only [ho, comp1] at hc
    split at hc <;> (try cases hc)
    simp only [Option.map_eq_some_iff, Option.bind_eq_some_iff, Prod.mk.injEq, reduceCtorEq, false_and, and_false, exists_false] at hc
  | mapUpdate t m k x =>
    simp only [ho, comp1] at hc
    split at hc <;> (try cases hc)
    simp only [Option.map_eq_some_iff, Option.bind_eq_some_iff, Prod.mk.injEq, reduceCtorEq, false_and, and_false, exists_false] at hc
  | extract x i =>
    simp only [ho, comp1, Option.map_eq_some_iff, Prod.mk.injEq, COp.p.injEq] at hc
    obtain ⟨y, hx, rfl, rfl⟩ := hc
    exact ext_ok ho (opd_ok he hx) (by simpa [evs, pureOp] using h)
  | call c =>
    obtain ⟨cal, args, ats⟩ := c
    cases cal with
    | value f => simp only [ho, comp1, Option.map_eq_some_iff, Option.bind_eq_some_iff, Prod.mk.injEq, reduceCtorEq, false_and, and_false, exists_false] at hc
    | invoke r m => simp [ho, comp1] at hc
    | builtin b =>
      simp only [ho, comp1] at hc
      split at hc <;> (try cases hc)
      · rename_i t x h1 h2
        obtain rfl : ats = #[t] := by apply Array.ext'; simpa using h1
        obtain rfl : args = #[x] := by apply Array.ext'; simpa using h2
        split at hc <;> (try cases hc)
        · rename_i ht
          simp only [Option.map_eq_some_iff, Prod.mk.injEq, COp.p.injEq] at hc
          obtain ⟨y, hx, rfl, rfl⟩ := hc
          exact lenS_ok ho ht (opd_ok he hx) (by simpa [evs, pureOp] using h)
        · rename_i e ht
          simp only [Option.map_eq_some_iff, Prod.mk.injEq, COp.p.injEq] at hc
          obtain ⟨y, hx, rfl, rfl⟩ := hc
          exact len_ok ho ht (opd_ok he hx) (by simpa [evs, pureOp] using h)
        · rename_i n e ht
          simp only [Option.map_eq_some_iff, Prod.mk.injEq, COp.p.injEq] at hc
          obtain ⟨y, hx, rfl, rfl⟩ := hc
          simp only [evs, pureOp, Option.some.injEq] at h
          subst h
          exact lenK_ok ho ht
        · simp only [Option.map_eq_some_iff, Prod.mk.injEq, reduceCtorEq, false_and, and_false, exists_false] at hc
      · split at hc <;> (try cases hc)
        all_goals
          split at hc <;> (try cases hc)
          simp only [Option.map_eq_some_iff, Prod.mk.injEq, reduceCtorEq, false_and, and_false, exists_false] at hc
      · split at hc <;> (try cases hc)
        simp only [Option.map_eq_some_iff, Option.bind_eq_some_iff, Prod.mk.injEq, reduceCtorEq, false_and, and_false, exists_false] at hc
      · split at hc <;> (try cases hc)
        split at hc <;> (try cases hc)
        simp only [Option.map_eq_some_iff, Prod.mk.injEq, reduceCtorEq, false_and, and_false, exists_false] at hc
      · split at hc <;> (try cases hc)
        simp only [Option.map_eq_some_iff, Option.bind_eq_some_iff, Prod.mk.injEq, reduceCtorEq, false_and, and_false, exists_false] at hc
      · rename_i x y h2
        obtain rfl : args = #[x, y] := by apply Array.ext'; simpa using h2
        simp only [Option.map_eq_some_iff, Prod.mk.injEq, COp.p.injEq] at hc
        obtain ⟨l, hl, rfl, rfl⟩ := hc
        obtain ⟨x', y', h1, h2, rfl⟩ := opds2 hl
        exact cplx_ok ho (opd_ok he h1) (opd_ok he h2) (by simpa [evs, pureOp] using h)
      · rename_i x h2
        obtain rfl : args = #[x] := by apply Array.ext'; simpa using h2
        simp only [Option.map_eq_some_iff, Prod.mk.injEq, COp.p.injEq] at hc
        obtain ⟨l, hl, rfl, rfl⟩ := hc
        obtain ⟨x', h1, rfl⟩ := opds1 hl
        exact re_ok ho (opd_ok he h1) (by simpa [evs, pureOp] using h)
      · rename_i x h2
        obtain rfl : args = #[x] := by apply Array.ext'; simpa using h2
        simp only [Option.map_eq_some_iff, Prod.mk.injEq, COp.p.injEq] at hc
        obtain ⟨l, hl, rfl, rfl⟩ := hc
        obtain ⟨x', h1, rfl⟩ := opds1 hl
        exact im_ok ho (opd_ok he h1) (by simpa [evs, pureOp] using h)
      · simp only [Option.map_eq_some_iff, Prod.mk.injEq, COp.p.injEq] at hc
        obtain ⟨l, hl, rfl, rfl⟩ := hc
        exact minmax_ok ho (.inl ⟨rfl, rfl⟩) (opds_ok he hl) h
      · simp only [Option.map_eq_some_iff, Prod.mk.injEq, COp.p.injEq] at hc
        obtain ⟨l, hl, rfl, rfl⟩ := hc
        exact minmax_ok ho (.inr ⟨rfl, rfl⟩) (opds_ok he hl) h
      · rename_i t x h1 h2
        obtain rfl : ats = #[t] := by apply Array.ext'; simpa using h1
        obtain rfl : args = #[x] := by apply Array.ext'; simpa using h2
        split at hc <;> (try cases hc)
        rename_i e ht
        simp only [Option.map_eq_some_iff, Prod.mk.injEq, COp.p.injEq] at hc
        obtain ⟨y, hx, rfl, rfl⟩ := hc
        exact cap_ok ho ht (opd_ok he hx) (by simpa [evs, pureOp] using h)
  | _ => simp [ho, comp1] at hc
end
end Go.Zc
