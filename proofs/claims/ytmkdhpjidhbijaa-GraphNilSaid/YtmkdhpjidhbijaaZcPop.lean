/- Each operation that looks at its operands alone: the model does what the interpreter does. No condition. -/
import Derived.Test.YtmkdhpjidhbijaaZcEq
set_option linter.all false
namespace Go.Zc

section
variable {P : Program} {w : World} {F : Nat → Prop} {ι : IM} {env : Env} {a : Act}

/-- The model hands back what the interpreter does, and nothing has turned. -/
def POk (P : Program) (w : World) (F : Nat → Prop) (ι : IM) (a : Act) (o : Oper) (v : CV) : Prop :=
  ∃ v', (execOp a.eval o).run P w = .ok (.value v') w ∧ VR w F ι v v'

theorem VR.tup {cs : List CV} {v : Value} (h : VR w F ι (.tup cs) v) : ∃ vs, v = .tuple vs ∧ VRl w F ι cs vs.toList := by simpa only [VR] using h

theorem mov_ok (he : EnvR w F ι env a) {o : Oper} {x : Operand} {y : Opd} (ho : o.op = .move x ∨ o.op = .assign x) (hx : opd x = some y) : POk P w F ι a o (ev env y) := by
  refine ⟨a.eval x, ?_, opd_ok he hx⟩
  rcases ho with ho | ho <;> simp [execOp, ho]

theorem pick_ok {o : Oper} {c x y : Operand} (ho : o.op = .pick c x y) {b : Bool} {p q : CV} (hc : VR w F ι (.bool b) (a.eval c)) (hx : VR w F ι p (a.eval x)) (hy : VR w F ι q (a.eval y)) :
    POk P w F ι a o (if b then p else q) := by
  refine ⟨if b then a.eval x else a.eval y, ?_, ?_⟩
  · cases b <;> simp [execOp, ho, hc.bool, asBool]
  · cases b <;> assumption

theorem nchk_ok {o : Oper} {x : Operand} (ho : o.op = .nilCheck x) {c v : CV} (hx : VR w F ι c (a.eval x)) (h : nchkC c = some v) : POk P w F ι a o v := by
  unfold nchkC at h
  split at h <;> (try cases h)
  · refine ⟨a.eval x, ?_, hx⟩
    simp only [VR] at hx
    obtain ⟨b, _, e⟩ := hx
    simp [execOp, ho, e]
  · refine ⟨a.eval x, ?_, hx⟩
    simp only [VR, BR] at hx
    obtain ⟨b, _, e, _⟩ := hx
    simp [execOp, ho, e]
  · refine ⟨a.eval x, ?_, hx⟩
    simp only [VR] at hx
    obtain ⟨b, _, e, _⟩ := hx
    simp [execOp, ho, e]

theorem places_ok (he : EnvR w F ι env a) {fs : Array Field} : ∀ {parts : List (Nat × Operand)} {ps : List (Nat × Nat)} {ys : List Opd}, places P fs parts = some (ps, ys) →
    ps.length = parts.length ∧ ys.length = parts.length ∧ VRl w F ι (evs env ys) (parts.map fun x => a.eval x.2) ∧
    ∀ (j : Nat) (p : Nat × Operand), parts[j]? = some p → ∃ f n, fs[p.1]? = some f ∧ szOf P f.type = some n ∧ ps[j]? = some (f.offset, n)
  | [], _, _, h => by
    simp only [places, Option.some.injEq, Prod.mk.injEq] at h
    obtain ⟨rfl, rfl⟩ := h
    simp [VRl, evs]
  | (i, x) :: r, _, _, h => by
    simp only [places] at h
    split at h
    · rename_i f y ps' ys' h1 h2 h3
      simp only [Option.map_eq_some_iff, Prod.mk.injEq] at h
      obtain ⟨n, h4, rfl, rfl⟩ := h
      obtain ⟨i1, i2, i3, i4⟩ := places_ok he h3
      refine ⟨by simp [i1], by simp [i2], ?_, ?_⟩
      · simp only [evs, List.map_cons, VRl]
        exact ⟨_, _, rfl, opd_ok he h2, i3⟩
      · intro j p hp
        cases j with
        | zero => simp at hp; subst hp; exact ⟨f, n, h1, h4, rfl⟩
        | succ j => simpa using i4 j p (by simpa using hp)
    · cases h

theorem placesA_ok (he : EnvR w F ι env a) {sz : Nat} : ∀ {parts : List (Nat × Operand)} {ps : List (Nat × Nat)} {ys : List Opd}, placesA sz parts = some (ps, ys) →
    ps.length = parts.length ∧ ys.length = parts.length ∧ VRl w F ι (evs env ys) (parts.map fun x => a.eval x.2) ∧
    ∀ (j : Nat) (p : Nat × Operand), parts[j]? = some p → ps[j]? = some (p.1 * sz, sz)
  | [], _, _, h => by
    simp only [placesA, Option.some.injEq, Prod.mk.injEq] at h
    obtain ⟨rfl, rfl⟩ := h
    simp [VRl, evs]
  | (i, x) :: r, _, _, h => by
    simp only [placesA] at h
    split at h
    · rename_i y ps' ys' h2 h3
      simp only [Option.some.injEq, Prod.mk.injEq] at h
      obtain ⟨rfl, rfl⟩ := h
      obtain ⟨i1, i2, i3, i4⟩ := placesA_ok he h3
      refine ⟨by simp [i1], by simp [i2], ?_, ?_⟩
      · simp only [evs, List.map_cons, VRl]
        exact ⟨_, _, rfl, opd_ok he h2, i3⟩
      · intro j p hp
        cases j with
        | zero => simp at hp; subst hp; rfl
        | succ j => simpa using i4 j p (by simpa using hp)
    · cases h

theorem setMany_length : ∀ (r cs : List CV) (o : Nat), (setMany cs o r).length = cs.length
  | [], _, _ => rfl
  | c :: r, cs, o => by simp [setMany, setMany_length r]

theorem fold_set {c : CV} {v : Value} {off : Nat} : ∀ (xs : List CV) (us : List Value) (k : Nat) (cs : List CV) (vs : Array Value), VRl w F ι xs us → VRl w F ι cs vs.toList →
    VRl w F ι (setMany cs (off + k) xs) (((us.zipIdx k).foldl (fun cs x => cs.setIfInBounds (off + x.2) x.1) vs).toList)
  | [], us, k, cs, vs, hx, h => by
    simp only [VRl] at hx; subst hx
    simpa [setMany] using h
  | x :: xs, us, k, cs, vs, hx, h => by
    simp only [VRl] at hx
    obtain ⟨u, us', rfl, h1, h2⟩ := hx
    simp only [List.zipIdx_cons, List.foldl_cons, setMany]
    have := fold_set (c := c) (v := v) (off := off) xs us' (k + 1) (cs.set (off + k) x) (vs.setIfInBounds (off + k) u) h2 (by simpa using h.set (off + k) h1)
    rwa [show off + (k + 1) = off + k + 1 by omega] at this

theorem fill_ok {place : Nat → Option (Nat × Nat)} : ∀ (parts : List (Nat × Value)) (ps : List (Nat × Nat)) (vs : List CV) (cs out : List CV) (us : Array Value),
    VRl w F ι vs (parts.map (·.2)) → ps.length = parts.length → (∀ (j : Nat) (p : Nat × Value), parts[j]? = some p → ∃ q, ps[j]? = some q ∧ place p.1 = some q) →
    VRl w F ι cs us.toList → fillC cs (ps.zip vs) = some out → ∃ us', Instr.fill place us parts = some us' ∧ VRl w F ι out us'.toList
  | [], ps, vs, cs, out, us, _, hl, _, hc, h => by
    have : ps = [] := List.length_eq_zero_iff.1 (by simpa using hl)
    subst this
    simp only [List.zip_nil_left, fillC, Option.some.injEq] at h
    subst h
    exact ⟨us, rfl, hc⟩
  | (i, u) :: r, ps, vs, cs, out, us, hv, hl, hp, hc, h => by
    cases ps with
    | nil => simp at hl
    | cons p ps =>
      cases vs with
      | nil =>
        simp only [VRl] at hv
        cases hv
      | cons x vs =>
        simp only [List.map_cons, VRl] at hv
        obtain ⟨u', us', hu, h1, h2⟩ := hv
        cases hu
        obtain ⟨q, hq, hpl⟩ := hp 0 (i, u) rfl
        simp only [List.getElem?_cons_zero, Option.some.injEq] at hq
        subst hq
        obtain ⟨off, size⟩ := p
        simp only [List.zip_cons_cons, fillC] at h
        split at h
        · rename_i hcond
          obtain ⟨e1, e2, e3⟩ := hcond
          have hcells := h1.cells (by intro e; subst e; simp [CV.und?] at e3)
          have hlen := VRl.length hcells
          have hl2 := VRl.length hc
          simp only [Instr.fill, hpl]
          have hsz : u.cells.size = size := by simpa [e1] using hlen
          have hsz2 : us.size = cs.length := by simpa using hl2
          rw [if_neg (by simp [hsz, hsz2]; omega)]
          refine fill_ok r ps vs (setMany cs off x.cells) out _ h2 (by simpa using hl) (fun j p hp' => hp (j + 1) p (by simpa using hp')) ?_ h
          have := fold_set (c := x) (v := u) (off := off) x.cells u.cells.toList 0 cs us hcells hc
          have hz : (u.cells.zipIdx.foldl (fun cs (x : Value × Nat) => cs.setIfInBounds (off + x.2) x.1) us) = (u.cells.toList.zipIdx 0).foldl (fun cs x => cs.setIfInBounds (off + x.2) x.1) us := by
            rw [← Array.foldl_toList]; simp
          simp only [Nat.add_zero] at this
          rw [← hz] at this
          exact this
        · cases h

theorem run_zero {t : TypeId} {z : List CV} (h : zeroCs P t = some z) : ∃ v, (zeroValue t).run P w = .ok v w ∧ VRl w F ι z v.cells.toList := by
  simp only [zeroCs, Option.bind_eq_some_iff] at h
  obtain ⟨v, ⟨i, h1, h2⟩, h3⟩ := h
  exact ⟨v, by simp [zeroValue, typeInfo, h1, h2], cOfVs_ok h3⟩

theorem mapM_places {fs : Array Field} (h : allSized P fs = true) : ∃ l : Array (Nat × Nat), (fs.mapM (m := Sem) fun f => do pure (f.offset, ← sizeOf f.type)).run P w = .ok l w ∧
    ∀ (i : Nat) (f : Field), fs[i]? = some f → ∃ n, szOf P f.type = some n ∧ l[i]? = some (f.offset, n) := by
  rw [Array.mapM_eq_mapM_toList]
  have key : ∀ (l : List Field), (∀ f ∈ l, (szOf P f.type).isSome = true) → ∃ r : List (Nat × Nat), (l.mapM (m := Sem) fun f => do pure (f.offset, ← sizeOf f.type)).run P w = .ok r w ∧
      ∀ (i : Nat) (f : Field), l[i]? = some f → ∃ n, szOf P f.type = some n ∧ r[i]? = some (f.offset, n) := by
    intro l
    induction l with
    | nil => intro _; exact ⟨[], by simp, by simp⟩
    | cons f l ih =>
      intro hf
      obtain ⟨n, hn⟩ := Option.isSome_iff_exists.1 (hf f (by simp))
      obtain ⟨r, h1, h2⟩ := ih fun g hg => hf g (by simp [hg])
      refine ⟨(f.offset, n) :: r, ?_, ?_⟩
      · simp only [List.mapM_cons, Sem.run_bind, run_sizeOf' hn, Result.andThen_ok, Sem.run_pure, h1]
      · intro i g hg
        cases i with
        | zero => simp at hg; subst hg; exact ⟨n, hn, rfl⟩
        | succ i => simpa using h2 i g (by simpa using hg)
  obtain ⟨r, h1, h2⟩ := key fs.toList (List.all_eq_true.1 h)
  refine ⟨r.toArray, ?_, ?_⟩
  · simp only [Sem.run_map, h1, Result.andThen_ok]
  · intro i f hf
    simpa using h2 i f (by simpa using hf)

theorem build_ok (he : EnvR w F ι env a) {o : Oper} {t : TypeId} {parts : Array (Nat × Operand)} (ho : o.op = .build t parts) {an : Ann} {p : POp} {ys : List Opd} {v : CV}
    (hc : comp1 P an o.dst o.op = some (.p p, ys)) (h : pureOp p (evs env ys) = some v) : POk P w F ι a o v := by
  rw [ho] at hc
  simp only [comp1] at hc
  split at hc
  · rename_i z fs hz hu
    split at hc
    · rename_i hall
      simp only [Option.map_eq_some_iff, Prod.mk.injEq, COp.p.injEq] at hc
      obtain ⟨⟨ps, ys'⟩, hp, rfl, rfl⟩ := hc
      obtain ⟨h1, h2, h3, h4⟩ := places_ok he hp
      simp only [pureOp] at h
      split at h
      · simp only [Option.map_eq_some_iff] at h
        obtain ⟨out, h5, rfl⟩ := h
        obtain ⟨zv, hz1, hz2⟩ := run_zero (P := P) (w := w) (F := F) (ι := ι) hz
        obtain ⟨pl, hp1, hp2⟩ := mapM_places (P := P) (w := w) hall
        obtain ⟨us', h6, h7⟩ := fill_ok (w := w) (F := F) (ι := ι) (place := (pl[·]?)) (parts.toList.map fun x => (x.1, a.eval x.2)) ps (evs env ys') z out zv.cells
          (by simpa [Function.comp_def] using h3) (by simpa using h1) (fun j q hq => by
            simp only [List.getElem?_map, Option.map_eq_some_iff] at hq
            obtain ⟨q', hq', rfl⟩ := hq
            obtain ⟨f, n, e1, e2, e3⟩ := h4 j q' hq'
            obtain ⟨m, e4, e5⟩ := hp2 _ f e1
            rw [e2] at e4; cases e4
            exact ⟨_, e3, e5⟩) hz2 h5
        refine ⟨.agg us', ?_, by simp only [VR]; exact ⟨_, rfl, h7⟩⟩
        simp only [execOp, ho, Instr.build, Sem.run_bind, hz1, Result.andThen_ok, run_under hu, hp1]
        have : (parts.map fun (x : Nat × Operand) => (x.1, a.eval x.2)).toList = parts.toList.map fun x => (x.1, a.eval x.2) := by simp
        simp only [this, h6]
        simp
      · cases h
    · cases hc
  · rename_i z len e hz hu
    simp only [Option.bind_eq_some_iff, Option.map_eq_some_iff, Prod.mk.injEq, COp.p.injEq] at hc
    obtain ⟨n, hn, ⟨ps, ys'⟩, hp, rfl, rfl⟩ := hc
    obtain ⟨h1, h2, h3, h4⟩ := placesA_ok he hp
    simp only [pureOp] at h
    split at h
    · simp only [Option.map_eq_some_iff] at h
      obtain ⟨out, h5, rfl⟩ := h
      obtain ⟨zv, hz1, hz2⟩ := run_zero (P := P) (w := w) (F := F) (ι := ι) hz
      obtain ⟨us', h6, h7⟩ := fill_ok (w := w) (F := F) (ι := ι) (place := fun i => some (i * n, n)) (parts.toList.map fun x => (x.1, a.eval x.2)) ps (evs env ys') z out zv.cells
        (by simpa [Function.comp_def] using h3) (by simpa using h1) (fun j q hq => by
          simp only [List.getElem?_map, Option.map_eq_some_iff] at hq
          obtain ⟨q', hq', rfl⟩ := hq
          exact ⟨_, h4 j q' hq', rfl⟩) hz2 h5
      refine ⟨.agg us', ?_, by simp only [VR]; exact ⟨_, rfl, h7⟩⟩
      simp only [execOp, ho, Instr.build, Sem.run_bind, hz1, Result.andThen_ok, run_under hu, run_sizeOf' hn]
      have : (parts.map fun (x : Nat × Operand) => (x.1, a.eval x.2)).toList = parts.toList.map fun x => (x.1, a.eval x.2) := by simp
      simp only [this, h6]
      simp
    · cases h
  · cases hc
end
end Go.Zc
