/- The rest of them, and all at once. No condition. -/
import Derived.Test.YtkpechngfcaiiaaGreatDoorZcVal
set_option linter.all false
section
namespace Go.Zc
variable [Globs]

section
variable {P : Program} {w : World} {F : Nat → Prop} {ι : IM} {env : Env} {a : Act}

theorem oopd_ok (he : EnvR w F ι env a) {x : Option Operand} {ys : List Opd} (h : oopd x = some ys) :
    (x = none ∧ ys = []) ∨ ∃ o y, x = some o ∧ ys = [y] ∧ VR w F ι (ev env y) (a.eval o) := by
  cases x with
  | none => simp only [oopd, Option.some.injEq] at h; exact .inl ⟨rfl, h.symm⟩
  | some o =>
    simp only [oopd, Option.map_eq_some_iff] at h
    obtain ⟨y, h1, rfl⟩ := h
    exact .inr ⟨o, y, rfl, rfl, opd_ok he h1⟩

/-- A bound of a slice expression: what it comes to in the model. -/
theorem sbound_ok {x : Option CV} {v : Option Value} {dflt most n : Nat} (h : sbound x dflt most = some n) (hv : (x = none ∧ v = none) ∨ ∃ c u, x = some c ∧ v = some u ∧ VR w F ι c u) :
    (v = none ∧ n = dflt) ∨ ∃ k, v = some (.int k n) ∧ n ≤ most := by
  rcases hv with ⟨rfl, rfl⟩ | ⟨c, u, rfl, rfl, hcu⟩
  · simp only [sbound, Option.some.injEq] at h
    exact .inl ⟨rfl, h.symm⟩
  · cases c <;> simp only [sbound, reduceCtorEq] at h
    rename_i k m
    split at h
    · rename_i hb
      cases h
      refine .inr ⟨k, ?_, by omega⟩
      rw [hcu.int]
      congr 2
      omega
    · cases h

theorem run_bound {k : IntKind} {n y : Nat} (h : n ≤ y) (c : BoundsCode) : (Instr.sliceBound (.int k n) y c).run P w = .ok n w := by
  have h1 : (0 : Int) ≤ (n : Int) ∧ (n : Int) ≤ (y : Int) := by omega
  simp [Instr.sliceBound, asIntOf, h1]

theorem run_bounds {len cap hn ln : Nat} {lo hi : Option Value} (hcap : len ≤ cap) (hh : (hi = none ∧ hn = len) ∨ ∃ k, hi = some (.int k hn) ∧ hn ≤ len)
    (hl : (lo = none ∧ ln = 0) ∨ ∃ k, lo = some (.int k ln) ∧ ln ≤ hn) : (Instr.sliceBounds true len cap lo hi none).run P w = .ok (ln, hn, cap) w := by
  rcases hh with ⟨rfl, rfl⟩ | ⟨k, rfl, hh⟩ <;> rcases hl with ⟨rfl, rfl⟩ | ⟨k', rfl, hl⟩
  · simp [Instr.sliceBounds]
  · simp [Instr.sliceBounds, run_bound hl]
  · simp [Instr.sliceBounds, run_bound (P := P) (w := w) (k := k) (n := hn) (y := cap) (by omega)]
  · simp [Instr.sliceBounds, run_bound (P := P) (w := w) (k := k) (n := hn) (y := cap) (by omega), run_bound hl]

theorem slc_ok {o : Oper} {t e : TypeId} {x : Operand} {lo hi : Option Operand} {n : Nat} (ho : o.op = .slice t x lo hi none) (ht : P.underlying t = some (.slice e)) (hn : szOf P e = some n)
    {p : CV} {l h : Option CV} {c : CV} (hp : VR w F ι p (a.eval x)) (hl : (l = none ∧ lo.map a.eval = none) ∨ ∃ c u, l = some c ∧ lo.map a.eval = some u ∧ VR w F ι c u)
    (hh : (h = none ∧ hi.map a.eval = none) ∨ ∃ c u, h = some c ∧ hi.map a.eval = some u ∧ VR w F ι c u) (hc : slcC n p l h = some c) : POk P w F ι a o c := by
  have step : ∀ {v : Value}, (Instr.slice t (a.eval x) (lo.map a.eval) (hi.map a.eval) none).run P w = .ok v w → VR w F ι c v → POk P w F ι a o c := by
    intro v h1 h2
    refine ⟨v, ?_, h2⟩
    simp only [execOp, ho, Sem.run_bind, Instr.sliceAt, run_under ht, Result.andThen_ok, Option.map_none]
    rw [h1]; rfl
  unfold slcC at hc
  split at hc
  · simp only [Option.bind_eq_some_iff, Option.map_eq_some_iff] at hc
    obtain ⟨hn', h1, ln, h2, rfl⟩ := hc
    have e1 := sbound_ok h1 hh
    have e2 := sbound_ok h2 hl
    have hz : hn' = 0 ∧ ln = 0 := by
      rcases e1 with ⟨_, e⟩ | ⟨_, _, e⟩ <;> rcases e2 with ⟨_, e'⟩ | ⟨_, _, e'⟩ <;> omega
    obtain ⟨rfl, rfl⟩ := hz
    simp only [VR, BR] at hp
    refine step (v := .slice none 0 0) ?_ (by simp [VR, BR])
    have := run_bounds (P := P) (w := w) (len := 0) (cap := 0) (hn := 0) (ln := 0) (Nat.le_refl _) (e1.imp (fun h => ⟨h.1, rfl⟩) fun ⟨k, h, _⟩ => ⟨k, h, by omega⟩) (e2.imp (fun h => ⟨h.1, rfl⟩) fun ⟨k, h, _⟩ => ⟨k, h, by omega⟩)
    simp only [Instr.slice, Sem.run_bind, run_under ht, Result.andThen_ok, hp, this, run_sizeOf' hn]
    simp
  · rename_i cs len
    simp only [Option.bind_eq_some_iff, Option.map_eq_some_iff] at hc
    obtain ⟨hn', h1, ln, h2, rfl⟩ := hc
    have e1 := sbound_ok h1 hh
    have e2 := sbound_ok h2 hl
    simp only [VR, BR] at hp
    obtain ⟨base, cap, hb, hcap, hcs⟩ := hp
    have hhn : hn' ≤ len := by rcases e1 with ⟨_, e⟩ | ⟨_, _, e⟩ <;> omega
    have hln : ln ≤ hn' := by rcases e2 with ⟨_, e⟩ | ⟨_, _, e⟩ <;> omega
    have := run_bounds (P := P) (w := w) (len := len) (cap := cap) (hn := hn') (ln := ln) hcap (e1.imp (fun h => h) fun ⟨k, h, _⟩ => ⟨k, h, by omega⟩) (e2.imp (fun h => ⟨h.1, h.2⟩) fun ⟨k, h, _⟩ => ⟨k, h, by omega⟩)
    refine step (v := .slice (if cap = ln then base else base.map (·.add (ln * n))) (hn' - ln) (cap - ln)) ?_ ?_
    · simp only [Instr.slice, Sem.run_bind, run_under ht, Result.andThen_ok, hb, this, run_sizeOf' hn]
      simp
    · simp only [VR, BR]
      refine ⟨_, _, rfl, by omega, ?_⟩
      rcases hcs with rfl | ⟨b, off, rfl, h4, h5⟩
      · exact .inl (by simp)
      · by_cases hcl : cap = ln
        · left
          have : hn' = ln := by omega
          subst this
          simp
        · right
          refine ⟨b, off + ln * n, by rw [if_neg hcl]; simp [addr_add], h4, (h5.take _).drop _⟩
  · rename_i s i off len
    split at hc
    · rename_i hs
      subst hs
      simp only [Option.bind_eq_some_iff, Option.map_eq_some_iff] at hc
      obtain ⟨hn', h1, ln, h2, rfl⟩ := hc
      have e1 := sbound_ok h1 hh
      have e2 := sbound_ok h2 hl
      simp only [VR] at hp
      obtain ⟨base, cap, hb, hcap, hcs⟩ := hp
      have hhn : hn' ≤ len := by rcases e1 with ⟨_, e⟩ | ⟨_, _, e⟩ <;> omega
      have hln : ln ≤ hn' := by rcases e2 with ⟨_, e⟩ | ⟨_, _, e⟩ <;> omega
      have := run_bounds (P := P) (w := w) (len := len) (cap := cap) (hn := hn') (ln := ln) hcap (e1.imp (fun h => h) fun ⟨k, h, _⟩ => ⟨k, h, by omega⟩) (e2.imp (fun h => ⟨h.1, h.2⟩) fun ⟨k, h, _⟩ => ⟨k, h, by omega⟩)
      refine step (v := .slice (if cap = ln then base else base.map (·.add (ln * s))) (hn' - ln) (cap - ln)) ?_ ?_
      · simp only [Instr.slice, Sem.run_bind, run_under ht, Result.andThen_ok, hb, this, run_sizeOf' hn]
        simp
      · simp only [VR]
        refine ⟨_, _, rfl, by omega, ?_⟩
        by_cases hcl : cap = ln
        · exact .inl (by omega)
        · rcases hcs with hcs | ⟨b, m, h4, rfl, h5, h6⟩
          · omega
          · right
            refine ⟨b, m, h4, by rw [if_neg hcl]; simp [addr_add], h5, ?_⟩
            have : ln * s + (cap - ln) * s = cap * s := by rw [← Nat.add_mul]; congr 1; omega
            omega
    · cases hc
  · cases hc

/-- A call of a builtin that hands back a value. -/
theorem builtin_ok {o : Oper} {b : Builtin} {args : Array Operand} {ats : Array TypeId} (ho : o.op = .call { callee := .builtin b, args := args, argTypes := ats }) {v : Value} {c : CV}
    (h : (builtin b ats o.type (args.map fun | .const _ => true | _ => false) (args.map a.eval)).run P w = .ok (.value v) w) (hv : VR w F ι c v) : POk P w F ι a o c := by
  refine ⟨v, ?_, hv⟩
  simp only [execOp, ho, resolve, Sem.run_bind, invoke, Sem.run_pure, Result.andThen_ok]
  exact h

theorem len_ok {o : Oper} {t e : TypeId} {x : Operand} (ho : o.op = .call { callee := .builtin .len, args := #[x], argTypes := #[t] })
    (ht : P.underlying t = some (.slice e)) {p c : CV} (hp : VR w F ι p (a.eval x)) (h : lenC p = some c) : POk P w F ι a o c := by
  have step : ∀ {v : Value}, (Builtin.len_ #[t] o.type #[a.eval x]).run P w = .ok v w → VR w F ι c v → POk P w F ι a o c := by
    intro v h1 h2
    refine builtin_ok ho ?_ h2
    simp only [builtin, Sem.run_bind, List.map_toArray, List.map_cons, List.map_nil, h1, Result.andThen_ok, Sem.run_pure]
  unfold lenC at h
  split at h <;> (try cases h)
  · simp only [VR, BR] at hp
    exact step (v := goInt 0) (by simp [Builtin.len_, run_under ht, hp]) (vr_int _ _)
  · simp only [VR] at hp
    obtain ⟨base, cap, hb, _⟩ := hp
    exact step (by simp [Builtin.len_, run_under ht, hb]; rfl) (vr_int _ _)
  · simp only [VR, BR] at hp
    obtain ⟨base, cap, hb, _⟩ := hp
    exact step (by simp [Builtin.len_, run_under ht, hb]; rfl) (vr_int _ _)

theorem cap_ok {o : Oper} {t e : TypeId} {x : Operand} (ho : o.op = .call { callee := .builtin .cap, args := #[x], argTypes := #[t] })
    (ht : P.underlying t = some (.slice e)) {p c : CV} (hp : VR w F ι p (a.eval x)) (h : capC p = some c) : POk P w F ι a o c := by
  unfold capC at h
  split at h <;> (try cases h)
  simp only [VR, BR] at hp
  refine builtin_ok ho (v := goInt 0) ?_ (vr_int _ _)
  simp [builtin, Builtin.cap_, run_under ht, hp]

theorem lenS_ok {o : Oper} {t : TypeId} {x : Operand} (ho : o.op = .call { callee := .builtin .len, args := #[x], argTypes := #[t] })
    (ht : P.underlying t = some .string) {p c : CV} (hp : VR w F ι p (a.eval x)) (h : lenSC p = some c) : POk P w F ι a o c := by
  unfold lenSC at h
  split at h <;> (try cases h)
  refine builtin_ok ho (v := goInt _) ?_ (vr_int _ _)
  simp [builtin, Builtin.len_, run_under ht, hp.str]

theorem lenK_ok {o : Oper} {t e : TypeId} {n : Nat} {x : Operand} (ho : o.op = .call { callee := .builtin .len, args := #[x], argTypes := #[t] })
    (ht : P.underlying t = some (.array n e)) : POk P w F ι a o (.int .i64 n) := by
  refine builtin_ok ho (v := goInt n) ?_ (vr_int _ _)
  simp [builtin, Builtin.len_, run_under ht]

theorem cplx_ok {o : Oper} {ats : Array TypeId} {x y : Operand} (ho : o.op = .call { callee := .builtin .complex, args := #[x, y], argTypes := ats }) {p q c : CV}
    (hp : VR w F ι p (a.eval x)) (hq : VR w F ι q (a.eval y)) (h : cplxC p q = some c) : POk P w F ι a o c := by
  unfold cplxC at h
  split at h <;> (try cases h)
  split at h <;> (try cases h)
  rename_i k x' k2 y' hk
  subst hk
  refine builtin_ok ho (v := .complex _ _ _) ?_ (vr_cplx _ _ _)
  have e : Builtin.complex_ ats o.type #[.float k x', .float k y'] = if k = k then pure (.complex k x' y') else stuck "complex: parts of different kinds" := rfl
  simp [builtin, hp.float, hq.float, e]

theorem re_ok {o : Oper} {ats : Array TypeId} {x : Operand} (ho : o.op = .call { callee := .builtin .real, args := #[x], argTypes := ats }) {p c : CV}
    (hp : VR w F ι p (a.eval x)) (h : reC p = some c) : POk P w F ι a o c := by
  unfold reC at h
  split at h <;> (try cases h)
  refine builtin_ok ho (v := .float _ _) ?_ (vr_float _ _)
  rename_i k x' y'
  have e : Builtin.real_ ats o.type #[.complex k x' y'] = pure (.float k x') := rfl
  simp [builtin, hp.cplx, e]

theorem im_ok {o : Oper} {ats : Array TypeId} {x : Operand} (ho : o.op = .call { callee := .builtin .imag, args := #[x], argTypes := ats }) {p c : CV}
    (hp : VR w F ι p (a.eval x)) (h : imC p = some c) : POk P w F ι a o c := by
  unfold imC at h
  split at h <;> (try cases h)
  refine builtin_ok ho (v := .float _ _) ?_ (vr_float _ _)
  rename_i k x' y'
  have e : Builtin.imag_ ats o.type #[.complex k x' y'] = pure (.float k y') := rfl
  simp [builtin, hp.cplx, e]

theorem foldMin_ok : ∀ (cs : List CV) (us : List Value) (x c : CV) (u : Value), VRl w F ι cs us → VR w F ι x u → foldC min2C x cs = some c → ∃ v, (us.foldlM (m := Sem) Builtin.min2 u).run P w = .ok v w ∧ VR w F ι c v
  | [], us, x, c, u, hc, hx, h => by
    simp only [VRl] at hc; subst hc
    simp only [foldC, Option.some.injEq] at h; subst h
    exact ⟨u, by simp, hx⟩
  | y :: cs, us, x, c, u, hc, hx, h => by
    simp only [VRl] at hc
    obtain ⟨v, vs, rfl, h1, h2⟩ := hc
    simp only [foldC, Option.bind_eq_some_iff] at h
    obtain ⟨z, h3, h4⟩ := h
    unfold min2C at h3
    split at h3 <;> (try cases h3)
    rename_i k m k' n
    obtain ⟨r, h5, h6⟩ := foldMin_ok cs vs _ c _ h2 (vr_int k (if n < m then n else m)) h4
    refine ⟨r, ?_, h6⟩
    simp only [List.foldlM_cons, Sem.run_bind, hx.int, h1.int, Builtin.min2, Sem.run_pure, Result.andThen_ok]
    exact h5

theorem foldMax_ok : ∀ (cs : List CV) (us : List Value) (x c : CV) (u : Value), VRl w F ι cs us → VR w F ι x u → foldC max2C x cs = some c → ∃ v, (us.foldlM (m := Sem) Builtin.max2 u).run P w = .ok v w ∧ VR w F ι c v
  | [], us, x, c, u, hc, hx, h => by
    simp only [VRl] at hc; subst hc
    simp only [foldC, Option.some.injEq] at h; subst h
    exact ⟨u, by simp, hx⟩
  | y :: cs, us, x, c, u, hc, hx, h => by
    simp only [VRl] at hc
    obtain ⟨v, vs, rfl, h1, h2⟩ := hc
    simp only [foldC, Option.bind_eq_some_iff] at h
    obtain ⟨z, h3, h4⟩ := h
    unfold max2C at h3
    split at h3 <;> (try cases h3)
    rename_i k m k' n
    obtain ⟨r, h5, h6⟩ := foldMax_ok cs vs _ c _ h2 (vr_int k (if n > m then n else m)) h4
    refine ⟨r, ?_, h6⟩
    simp only [List.foldlM_cons, Sem.run_bind, hx.int, h1.int, Builtin.max2, Sem.run_pure, Result.andThen_ok]
    exact h5

theorem minmax_ok {o : Oper} {ats : Array TypeId} {args : Array Operand} {b : Builtin} (ho : o.op = .call { callee := .builtin b, args := args, argTypes := ats }) {p : POp} (hb : b = .min ∧ p = .min ∨ b = .max ∧ p = .max)
    {cs : List CV} {c : CV} (hcs : VRl w F ι cs (args.toList.map a.eval)) (h : pureOp p cs = some c) : POk P w F ι a o c := by
  cases cs with
  | nil => rcases hb with ⟨_, rfl⟩ | ⟨_, rfl⟩ <;> simp [pureOp] at h
  | cons x cs =>
    have hl : (args.map a.eval).toList = args.toList.map a.eval := by simp
    have hcs' := hcs
    simp only [VRl] at hcs'
    obtain ⟨u, us, h1, h2, h3⟩ := hcs'
    rw [h1] at hl
    rcases hb with ⟨rfl, rfl⟩ | ⟨rfl, rfl⟩
    · obtain ⟨v, h4, h5⟩ := foldMin_ok (P := P) cs us x c u h3 h2 (by simpa [pureOp] using h)
      refine builtin_ok ho (v := v) ?_ h5
      simp only [builtin, Builtin.min_, hl, Sem.run_bind, h4, Result.andThen_ok, Sem.run_pure]
    · obtain ⟨v, h4, h5⟩ := foldMax_ok (P := P) cs us x c u h3 h2 (by simpa [pureOp] using h)
      refine builtin_ok ho (v := v) ?_ h5
      simp only [builtin, Builtin.max_, hl, Sem.run_bind, h4, Result.andThen_ok, Sem.run_pure]
end
end Go.Zc
end
section
namespace Go.Zc
variable [Globs]

section
variable {P : Program} {w : World} {F : Nat → Prop} {ι : IM} {env : Env} {a : Act}

theorem evs_nil : evs env [] = [] := rfl
theorem evs_cons (y : Opd) (r : List Opd) : evs env (y :: r) = ev env y :: evs env r := rfl
theorem evs_append : ∀ (l r : List Opd), evs env (l ++ r) = evs env l ++ evs env r
  | [], _ => rfl
  | x :: l, r => by simp [evs, evs_append l r]
theorem evs_length : ∀ (l : List Opd), (evs env l).length = l.length
  | [] => rfl
  | x :: l => by simp [evs, evs_length l]

theorem pop_ok {an : Ann} (he : EnvR w F ι env a) {o : Oper} {p : POp} {ys : List Opd} {v : CV} (hc : comp1 P an o.dst o.op = some (.p p, ys)) (h : pureOp p (evs env ys) = some v) : POk P w F ι a o v := by
  cases ho : o.op with
  | move x =>
    simp only [ho, comp1, Option.map_eq_some_iff, Prod.mk.injEq, COp.p.injEq] at hc
    obtain ⟨y, hx, rfl, rfl⟩ := hc
    simp only [evs, pureOp, Option.some.injEq] at h
    subst h
    exact mov_ok he (.inl ho) hx
  | assign x =>
    simp only [ho, comp1, Option.map_eq_some_iff, Prod.mk.injEq, COp.p.injEq] at hc
    obtain ⟨y, hx, rfl, rfl⟩ := hc
    simp only [evs, pureOp, Option.some.injEq] at h
    subst h
    exact mov_ok he (.inr ho) hx
  | pick c x y =>
    simp only [ho, comp1, Option.map_eq_some_iff, Prod.mk.injEq, COp.p.injEq] at hc
    obtain ⟨l, hl, rfl, rfl⟩ := hc
    obtain ⟨c', x', y', h1, h2, h3, rfl⟩ := opds3 hl
    simp only [evs, pureOp] at h
    unfold pickC at h
    split at h <;> (try cases h)
    rename_i b p q heq
    have hb := opd_ok he h1
    rw [heq] at hb
    exact pick_ok ho hb (opd_ok he h2) (opd_ok he h3)
  | alloc e =>
    simp only [ho, comp1] at hc
    split at hc <;> (try cases hc)
    split at hc <;> (try cases hc)
  | box e x =>
    simp only [ho, comp1] at hc
    split at hc <;> (try cases hc)
  | build t parts => exact build_ok he ho hc h
  | buildSlice t len parts =>
    simp only [ho, comp1] at hc
    split at hc <;> (try cases hc)
    split at hc <;> (try cases hc)
    split at hc <;> (try cases hc)
    simp only [Option.map_eq_some_iff, Prod.mk.injEq, reduceCtorEq, false_and, and_false, exists_false] at hc
  | load t x =>
    simp only [ho, comp1, Option.map_eq_some_iff, Option.bind_eq_some_iff, Prod.mk.injEq, reduceCtorEq, false_and, and_false, exists_false] at hc
  | store t x y =>
    simp only [ho, comp1, Option.map_eq_some_iff, Option.bind_eq_some_iff, Prod.mk.injEq, reduceCtorEq, false_and, and_false, exists_false] at hc
  | nilCheck x =>
    simp only [ho, comp1, Option.map_eq_some_iff, Prod.mk.injEq, COp.p.injEq] at hc
    obtain ⟨y, hx, rfl, rfl⟩ := hc
    exact nchk_ok ho (opd_ok he hx) (by simpa [evs, pureOp] using h)
  | binOp op t x y yt =>
    have key : ∀ {e : EqT}, ((op = .eql ∨ op = .neq) → e = (eqT P 20 t).getD .ifc) → ((opds [x, y]).map fun l => (COp.p (.bin op e), l)) = some (.p p, ys) → POk P w F ι a o v := by
      intro e hee hc
      simp only [Option.map_eq_some_iff, Prod.mk.injEq, COp.p.injEq] at hc
      obtain ⟨l, hl, rfl, rfl⟩ := hc
      obtain ⟨x', y', h1, h2, rfl⟩ := opds2 hl
      exact bin_ok ho hee (opd_ok he h1) (opd_ok he h2) (by simpa [evs, pureOp] using h)
    rw [ho] at hc
    cases op <;> simp only [comp1] at hc <;> first
      | exact key (fun _ => rfl) hc
      | exact key (fun hh => by simp at hh) hc
  | unOp op t x =>
    simp only [ho, comp1, Option.map_eq_some_iff, Prod.mk.injEq, COp.p.injEq] at hc
    obtain ⟨y, hx, rfl, rfl⟩ := hc
    exact un_ok ho (opd_ok he hx) (by simpa [evs, pureOp] using h)
  | convert s t x =>
    simp only [ho, comp1] at hc
    split at hc <;> (try cases hc)
    · rename_i d k hs ht
      simp only [Option.map_eq_some_iff, Prod.mk.injEq, COp.p.injEq] at hc
      obtain ⟨y, hx, rfl, rfl⟩ := hc
      exact toInt_ok ho hs ht (opd_ok he hx) (by simpa [evs, pureOp] using h)
    · rename_i d k hs ht
      simp only [Option.map_eq_some_iff, Prod.mk.injEq, COp.p.injEq] at hc
      obtain ⟨y, hx, rfl, rfl⟩ := hc
      exact toFloat_ok ho hs ht (opd_ok he hx) (by simpa [evs, pureOp] using h)
    · split at hc <;> (try cases hc)
      simp only [Option.map_eq_some_iff, Prod.mk.injEq, reduceCtorEq, false_and, and_false, exists_false] at hc
  | makeInterface t x =>
    simp only [ho, comp1] at hc
    cases ht : P.underlying t with
    | none => simp [ht] at hc
    | some d =>
      by_cases hd : ∃ m, d = .interface m
      · obtain ⟨m, rfl⟩ := hd
        simp [ht] at hc
      · have hc' : ((opd x).map fun y => (COp.p (.mkif t), [y])) = some (.p p, ys) := by
          rw [ht] at hc
          cases d <;> first | exact hc | exact (hd ⟨_, rfl⟩).elim
        simp only [Option.map_eq_some_iff, Prod.mk.injEq, COp.p.injEq] at hc'
        obtain ⟨y, hx, rfl, rfl⟩ := hc'
        simp only [evs, pureOp] at h
        split at h
        · cases h
        · cases h
          exact mkif_ok ho ht (fun m e => hd ⟨m, e⟩) (opd_ok he hx)
  | makeFunc f xs ys' =>
    simp only [ho, comp1, Option.map_eq_some_iff, Option.bind_eq_some_iff, Prod.mk.injEq, COp.p.injEq] at hc
    obtain ⟨x, hx, y, hy, rfl, rfl⟩ := hc
    simp only [pureOp, Option.some.injEq] at h
    subst h
    rw [evs_append]
    have hl : (evs env x).length = x.length := evs_length x
    rw [List.take_append_of_le_length (by omega), List.drop_append_of_le_length (by omega), List.take_of_length_le (by omega), List.drop_of_length_le (by omega)]
    refine ⟨.func f (xs.map a.eval) (ys'.map a.eval), by simp [execOp, ho, Instr.makeFunc], ?_⟩
    simp only [VR]
    exact ⟨_, _, rfl, by simpa using opds_ok he hx, by simpa using opds_ok he hy⟩
  | makeMap t r =>
    cases r <;> simp [ho, comp1] at hc
  | makeChan t s => simp [ho, comp1] at hc
  | makeSlice t l c =>
    simp only [ho, comp1] at hc
    split at hc <;> (try cases hc)
    split at hc <;> (try cases hc)
    split at hc <;> (try cases hc)
    simp only [Option.map_eq_some_iff, Prod.mk.injEq, reduceCtorEq, false_and, and_false, exists_false] at hc
  | slice t x lo hi mx =>
    cases mx with
    | some m => simp [ho, comp1] at hc
    | none =>
      simp only [ho, comp1] at hc
      split at hc <;> (try cases hc)
      rename_i e ht
      simp only [Option.map_eq_some_iff, Option.bind_eq_some_iff, Prod.mk.injEq, COp.p.injEq] at hc
      obtain ⟨n, hn, y, hx, l, hl, h', hh, rfl, rfl⟩ := hc
      have hx' := opd_ok he hx
      rcases oopd_ok he hl with ⟨rfl, rfl⟩ | ⟨lo', yl, rfl, rfl, hlo⟩ <;> rcases oopd_ok he hh with ⟨rfl, rfl⟩ | ⟨hi', yh, rfl, rfl, hhi⟩ <;>
        simp only [List.nil_append, List.append_nil, List.cons_append, evs, Option.isSome_none, Option.isSome_some, pureOp] at h
      · exact slc_ok ho ht hn hx' (.inl ⟨rfl, rfl⟩) (.inl ⟨rfl, rfl⟩) h
      · exact slc_ok ho ht hn hx' (.inl ⟨rfl, rfl⟩) (.inr ⟨_, _, rfl, rfl, hhi⟩) h
      · exact slc_ok ho ht hn hx' (.inr ⟨_, _, rfl, rfl, hlo⟩) (.inl ⟨rfl, rfl⟩) h
      · exact slc_ok ho ht hn hx' (.inr ⟨_, _, rfl, rfl, hlo⟩) (.inr ⟨_, _, rfl, rfl, hhi⟩) h
  | fieldAddr s x f =>
    simp only [ho, comp1] at hc
    split at hc <;> (try cases hc)
    rename_i fs hs
    simp only [Option.bind_eq_some_iff] at hc
    obtain ⟨fd, hf, hc⟩ := hc
    split at hc <;> (try cases hc)
    rename_i n hn
    simp only [Option.map_eq_some_iff, Prod.mk.injEq, COp.p.injEq] at hc
    obtain ⟨y, hx, rfl, rfl⟩ := hc
    exact faddr_ok ho hs hf hn (opd_ok he hx) (by simpa [evs, pureOp] using h)
  | field t x f =>
    simp only [ho, comp1] at hc
    split at hc <;> (try cases hc)
    rename_i fs hs
    simp only [Option.bind_eq_some_iff, Option.map_eq_some_iff, Prod.mk.injEq, COp.p.injEq] at hc
    obtain ⟨fd, hf, s, hsh, y, hx, rfl, rfl⟩ := hc
    exact fld_ok ho hs hf hsh (opd_ok he hx) (by simpa [evs, pureOp] using h)
  | indexAddr t x i =>
    simp only [ho, comp1] at hc
    split at hc <;> (try cases hc)
    · rename_i e ht
      simp only [Option.bind_eq_some_iff, Option.map_eq_some_iff, Prod.mk.injEq, COp.p.injEq] at hc
      obtain ⟨n, hn, l, hl, rfl, rfl⟩ := hc
      obtain ⟨x', y', h1, h2, rfl⟩ := opds2 hl
      exact iaddr_ok ho ht hn (opd_ok he h1) (opd_ok he h2) (by simpa [evs, pureOp] using h)
    · rename_i len e ht
      simp only [Option.bind_eq_some_iff, Option.map_eq_some_iff, Prod.mk.injEq, COp.p.injEq] at hc
      obtain ⟨n, hn, l, hl, rfl, rfl⟩ := hc
      obtain ⟨x', y', h1, h2, rfl⟩ := opds2 hl
      exact iaddrA_ok ho ht hn (opd_ok he h1) (opd_ok he h2) (by simpa [evs, pureOp] using h)
  | index t x i =>
    simp only [ho, comp1] at hc
    split at hc <;> (try cases hc)
    · rename_i len e ht
      simp only [Option.bind_eq_some_iff, Option.map_eq_some_iff, Prod.mk.injEq, COp.p.injEq] at hc
      obtain ⟨n, hn, l, hl, rfl, rfl⟩ := hc
      obtain ⟨x', y', h1, h2, rfl⟩ := opds2 hl
      exact idxA_ok ho ht hn (opd_ok he h1) (opd_ok he h2) (by simpa [evs, pureOp] using h)
    · rename_i ht
      simp only [Option.map_eq_some_iff, Prod.mk.injEq, COp.p.injEq] at hc
      obtain ⟨l, hl, rfl, rfl⟩ := hc
      obtain ⟨x', y', h1, h2, rfl⟩ := opds2 hl
      exact idxS_ok ho ht (opd_ok he h1) (opd_ok he h2) (by simpa [evs, pureOp] using h)
  | lookup t m k ok =>
    simp only [ho, comp1] at hc
    split at hc <;> (try cases hc)
    simp only [Option.map_eq_some_iff, Option.bind_eq_some_iff, Prod.mk.injEq, reduceCtorEq, false_and, and_false, exists_false] at hc
  | mapUpdate t m k x =>
    simp only [ho, comp1] at hc
    split at hc <;> (try cases hc)
    simp only [Option.map_eq_some_iff, Option.bind_eq_some_iff, Prod.mk.injEq, reduceCtorEq, false_and, and_false, exists_false] at hc
  | extract x i =>
    simp only [ho, comp1, Option.map_eq_some_iff, Prod.mk.injEq, COp.p.injEq] at hc
    obtain ⟨y, hx, rfl, rfl⟩ := hc
    exact ext_ok ho (opd_ok he hx) (by simpa [evs, pureOp] using h)
  | call c =>
    obtain ⟨cal, args, ats⟩ := c
    cases cal with
    | value f => simp only [ho, comp1, Option.map_eq_some_iff, Option.bind_eq_some_iff, Prod.mk.injEq, reduceCtorEq, false_and, and_false, exists_false] at hc
    | invoke r m => simp [ho, comp1] at hc
    | builtin b =>
      simp only [ho, comp1] at hc
      split at hc <;> (try cases hc)
      · rename_i t x h1 h2
        obtain rfl : ats = #[t] := by apply Array.ext'; simpa using h1
        obtain rfl : args = #[x] := by apply Array.ext'; simpa using h2
        split at hc <;> (try cases hc)
        · rename_i ht
          simp only [Option.map_eq_some_iff, Prod.mk.injEq, COp.p.injEq] at hc
          obtain ⟨y, hx, rfl, rfl⟩ := hc
          exact lenS_ok ho ht (opd_ok he hx) (by simpa [evs, pureOp] using h)
        · rename_i e ht
          simp only [Option.map_eq_some_iff, Prod.mk.injEq, COp.p.injEq] at hc
          obtain ⟨y, hx, rfl, rfl⟩ := hc
          exact len_ok ho ht (opd_ok he hx) (by simpa [evs, pureOp] using h)
        · rename_i n e ht
          simp only [Option.map_eq_some_iff, Prod.mk.injEq, COp.p.injEq] at hc
          obtain ⟨y, hx, rfl, rfl⟩ := hc
          simp only [evs, pureOp, Option.some.injEq] at h
          subst h
          exact lenK_ok ho ht
        · simp only [Option.map_eq_some_iff, Prod.mk.injEq, reduceCtorEq, false_and, and_false, exists_false] at hc
      · split at hc <;> (try cases hc)
        all_goals
          split at hc <;> (try cases hc)
          simp only [Option.map_eq_some_iff, Prod.mk.injEq, reduceCtorEq, false_and, and_false, exists_false] at hc
      · split at hc <;> (try cases hc)
        simp only [Option.map_eq_some_iff, Option.bind_eq_some_iff, Prod.mk.injEq, reduceCtorEq, false_and, and_false, exists_false] at hc
      · split at hc <;> (try cases hc)
        split at hc <;> (try cases hc)
        simp only [Option.map_eq_some_iff, Prod.mk.injEq, reduceCtorEq, false_and, and_false, exists_false] at hc
      · split at hc <;> (try cases hc)
        simp only [Option.map_eq_some_iff, Option.bind_eq_some_iff, Prod.mk.injEq, reduceCtorEq, false_and, and_false, exists_false] at hc
      · rename_i x y h2
        obtain rfl : args = #[x, y] := by apply Array.ext'; simpa using h2
        simp only [Option.map_eq_some_iff, Prod.mk.injEq, COp.p.injEq] at hc
        obtain ⟨l, hl, rfl, rfl⟩ := hc
        obtain ⟨x', y', h1, h2, rfl⟩ := opds2 hl
        exact cplx_ok ho (opd_ok he h1) (opd_ok he h2) (by simpa [evs, pureOp] using h)
      · rename_i x h2
        obtain rfl : args = #[x] := by apply Array.ext'; simpa using h2
        simp only [Option.map_eq_some_iff, Prod.mk.injEq, COp.p.injEq] at hc
        obtain ⟨l, hl, rfl, rfl⟩ := hc
        obtain ⟨x', h1, rfl⟩ := opds1 hl
        exact re_ok ho (opd_ok he h1) (by simpa [evs, pureOp] using h)
      · rename_i x h2
        obtain rfl : args = #[x] := by apply Array.ext'; simpa using h2
        simp only [Option.map_eq_some_iff, Prod.mk.injEq, COp.p.injEq] at hc
        obtain ⟨l, hl, rfl, rfl⟩ := hc
        obtain ⟨x', h1, rfl⟩ := opds1 hl
        exact im_ok ho (opd_ok he h1) (by simpa [evs, pureOp] using h)
      · simp only [Option.map_eq_some_iff, Prod.mk.injEq, COp.p.injEq] at hc
        obtain ⟨l, hl, rfl, rfl⟩ := hc
        exact minmax_ok ho (.inl ⟨rfl, rfl⟩) (opds_ok he hl) h
      · simp only [Option.map_eq_some_iff, Prod.mk.injEq, COp.p.injEq] at hc
        obtain ⟨l, hl, rfl, rfl⟩ := hc
        exact minmax_ok ho (.inr ⟨rfl, rfl⟩) (opds_ok he hl) h
      · rename_i t x h1 h2
        obtain rfl : ats = #[t] := by apply Array.ext'; simpa using h1
        obtain rfl : args = #[x] := by apply Array.ext'; simpa using h2
        split at hc <;> (try cases hc)
        rename_i e ht
        simp only [Option.map_eq_some_iff, Prod.mk.injEq, COp.p.injEq] at hc
        obtain ⟨y, hx, rfl, rfl⟩ := hc
        exact cap_ok ho ht (opd_ok he hx) (by simpa [evs, pureOp] using h)
  | range t x =>
    simp only [ho, comp1] at hc
    split at hc <;> (try cases hc) <;> simp only [Option.map_eq_some_iff, Prod.mk.injEq, reduceCtorEq, false_and, and_false, exists_false] at hc
  | _ => simp [ho, comp1] at hc
end
end Go.Zc
end
section
namespace Go.Zc
variable [Globs]

theorem beq_ne {i j : Nat} (h : i ≠ j) : Nat.beq i j = false := by
  cases hb : Nat.beq i j with
  | false => rfl
  | true => exact (h (Nat.eq_of_beq_eq_true hb)).elim

theorem beq_self (i : Nat) : Nat.beq i i = true := by
  have := Nat.beq_eq_true_eq i i
  simp

theorem look_setBx : ∀ (bx : List (Nat × List CV)) (s : Nat) (cs : List CV) (t : Nat), look (setBx bx s cs) t = if t = s then some cs else look bx t
  | [], s, cs, t => by
    simp only [setBx, look]
    by_cases h : t = s
    · subst h; simp
    · simp [beq_ne (fun e => h e.symm), h]
  | (i, x) :: r, s, cs, t => by
    simp only [setBx]
    by_cases hi : i = s
    · subst hi
      simp only [beq_self, cond_true, look]
      by_cases h : t = i
      · subst h; simp
      · simp [beq_ne (fun e => h e.symm), h]
    · simp only [beq_ne hi, cond_false, look, look_setBx r s cs t]
      by_cases h2 : i = t
      · subst h2; simp [hi]
      · simp [beq_ne h2]

theorem get_put {H : Heap} {i : Id} {cs : List CV} (hi : ∀ n, i = .blk n → n < H.bl.length) (j : Id) : (H.put i cs).get j = if j = i then some cs else H.get j := by
  cases i with
  | loc s =>
    cases j with
    | loc t =>
      simp only [Heap.put, Heap.get, look_setBx, Id.loc.injEq]
    | blk m => simp [Heap.put, Heap.get]
  | blk n =>
    have hn := hi n rfl
    cases j with
    | loc t => simp [Heap.put, Heap.get]
    | blk m =>
      simp only [Heap.put, Heap.get, Id.blk.injEq, List.getElem?_set]
      by_cases h : n = m
      · subst h; simp [hn]
      · have : ¬ m = n := fun e => h e.symm
        simp [h, this]

theorem live_iff {H : Heap} {i : Id} : H.live i ↔ (∃ cs, H.get i = some cs) ∨ ∃ n es, i = .blk n ∧ H.bl[n]? = some (.map es) := by
  cases i with
  | loc s => simp [Heap.live, Heap.get]
  | blk n =>
    simp only [Heap.live, Heap.get, Id.blk.injEq]
    constructor
    · rintro ⟨b, hb, hd⟩
      cases b with
      | dead => simp [Blk.dead?] at hd
      | cells cs => exact .inl ⟨cs, by simp [hb]⟩
      | map es => exact .inr ⟨n, es, ⟨rfl, hb⟩⟩
    · rintro (⟨cs, h⟩ | ⟨m, es, rfl, h⟩)
      · split at h
        · rename_i c hc; exact ⟨_, hc, rfl⟩
        · cases h
      · exact ⟨_, h, rfl⟩

theorem put_map {H : Heap} {i : Id} {cs : List CV} {n : Nat} {es : List (CV × CV)} (h : (H.put i cs).bl[n]? = some (.map es)) : H.bl[n]? = some (.map es) := by
  cases i with
  | loc s => exact h
  | blk m =>
    simp only [Heap.put, List.getElem?_set] at h
    split at h
    · split at h <;> cases h
    · exact h

theorem live_put {H : Heap} {i : Id} {cs : List CV} (hi : ∀ n, i = .blk n → n < H.bl.length) {j : Id} (h : (H.put i cs).live j) : j = i ∨ H.live j := by
  rcases live_iff.1 h with ⟨c, h'⟩ | ⟨n, es, hj, h'⟩
  · rw [get_put hi] at h'
    split at h'
    · exact .inl ‹_›
    · exact .inr (live_iff.2 (.inl ⟨c, h'⟩))
  · exact .inr (live_iff.2 (.inr ⟨n, es, hj, put_map h'⟩))

theorem get_push {H : Heap} {cs : List CV} (i : Id) : (H.push (.cells cs)).get i = if i = .blk H.bl.length then some cs else H.get i := by
  cases i with
  | loc s => simp [Heap.push, Heap.get]
  | blk n =>
    simp only [Heap.push, Heap.get, Id.blk.injEq]
    rcases Nat.lt_trichotomy n H.bl.length with h | h | h
    · rw [List.getElem?_append_left h, if_neg (by omega)]
    · subst h; simp
    · rw [List.getElem?_eq_none (by simp; omega), if_neg (by omega), List.getElem?_eq_none (by omega)]

theorem live_push {H : Heap} {b : Blk} {j : Id} (h : (H.push b).live j) : j = .blk H.bl.length ∨ H.live j := by
  cases j with
  | loc s => exact .inr h
  | blk n =>
    obtain ⟨c, hc, hd⟩ := h
    rcases Nat.lt_trichotomy n H.bl.length with h | h | h
    · simp only [Heap.push] at hc
      rw [List.getElem?_append_left h] at hc
      exact .inr ⟨c, hc, hd⟩
    · exact .inl (by rw [h])
    · simp only [Heap.push] at hc
      rw [List.getElem?_eq_none (by simp; omega)] at hc
      cases hc

theorem get_kill {H : Heap} {m : Nat} (i : Id) : (H.kill (.blk m)).get i = if i = .blk m then none else H.get i := by
  cases i with
  | loc s => simp [Heap.kill, Heap.get]
  | blk n =>
    simp only [Heap.kill, Heap.get, Id.blk.injEq, List.getElem?_set]
    by_cases h : m = n
    · subst h
      by_cases h2 : m < H.bl.length <;> simp [h2]
    · have : ¬ n = m := fun e => h e.symm
      simp [h, this]

theorem live_kill {H : Heap} {m : Nat} {j : Id} (h : (H.kill (.blk m)).live j) : j ≠ .blk m ∧ H.live j := by
  cases j with
  | loc s => exact ⟨by simp, h⟩
  | blk n =>
    obtain ⟨c, hc, hd⟩ := h
    simp only [Heap.kill, List.getElem?_set] at hc
    by_cases hn : m = n
    · subst hn
      by_cases h2 : m < H.bl.length
      · simp [h2] at hc; subst hc; simp [Blk.dead?] at hd
      · simp [h2] at hc
    · rw [if_neg hn] at hc
      exact ⟨by simpa using fun e => hn e.symm, c, hc, hd⟩

theorem MoV.of {w w' : World} {F F' : Nat → Prop} {ι ι' : IM} (m : MoV w w' F F' ι ι') (i : Id) : MoV w w' F F' (ι.of i) (ι'.of i) := by
  refine ⟨m.toMo, ?_, m.c⟩
  cases i with
  | loc s => exact m.i
  | blk n =>
    intro j b hj
    cases j with
    | loc s => simp [IM.of, IM.glob, IM.get] at hj
    | blk k => exact m.i (.blk k) b hj

theorem CR.mono {w w' : World} {F F' : Nat → Prop} {ι ι' : IM} (m : MoV w w' F F' ι ι') {cs : List CV} {c : Array Value} (h : CR w F ι cs c) : CR w' F' ι' cs c :=
  fun j x hx => let ⟨u, h1, h2⟩ := h j x hx; ⟨u, h1, VR.mono m _ _ h2⟩

theorem ER.mono {w w' : World} {F F' : Nat → Prop} {ι ι' : IM} (m : MoV w w' F F' ι ι') {e : CV × CV} {x : MapEntry} (h : ER w F ι e x) : ER w' F' ι' e x :=
  ⟨BR.mono m.toMo _ _ h.key, h.one, VR.mono m _ _ h.val, h.vund⟩

theorem MR.mono {w w' : World} {F F' : Nat → Prop} {ι ι' : IM} (m : MoV w w' F F' ι ι') {es : List (CV × CV)} {ms : List MapEntry} (h : MR w F ι es ms) : MR w' F' ι' es ms := by
  induction h with
  | nil => exact .nil
  | cons h1 _ ih => exact .cons (h1.mono m) ih

theorem ItOk.mono {ι ι' : IM} (m : ∀ (k x : Nat), ι.bl[k]? = some x → ι'.bl[k]? = some x) {es : List (CV × CV)} {o : Option Obj} (h : ItOk ι es o) : ItOk ι' es o := by
  rcases h with h | h | ⟨k, b, c, d, h1, h2, h3⟩
  · exact .inl h
  · exact .inr (.inl h)
  · exact .inr (.inr ⟨k, b, c, d, h1, m _ _ h2, h3⟩)
theorem ItOk.some {ι : IM} {es : List (CV × CV)} {o : Option Obj} (h : ItOk ι es o) : ∃ x, o = Option.some x := by
  rcases h with ⟨_, _, _, h⟩ | ⟨_, _, _, h⟩ | ⟨_, _, _, _, _, _, h⟩ <;> exact ⟨_, h⟩
theorem ItOk.itE {ι : IM} {es : List (CV × CV)} {o : Option Obj} (h : ItOk ι es o) : itE es = true := by
  rcases h with ⟨_, _, rfl, h⟩ | ⟨rfl, _, _, h⟩ | ⟨_, _, _, _, rfl, _, h⟩ <;> rfl
/-- A map's block holds a map. -/
theorem Inv.real {w : World} {F : Nat → Prop} {ι : IM} {H : Heap} (hi : Inv w F ι H) {n : Nat} {es : List (CV × CV)} (h : H.bl[n]? = some (.map es)) (hn : itE es = false) :
    ∃ b ms clock, ι.bl[n]? = some b ∧ w.heap[b]? = some (.map ms clock) ∧ MR w F ι.glob es ms.toList ∧ Go.MapKept.Stamped ms clock := by
  rcases hi.maps n es h with h | ⟨b, _, h⟩
  · exact h
  · rw [h.itE] at hn; cases hn
theorem Inv.obj {w : World} {F : Nat → Prop} {ι : IM} {H : Heap} (hi : Inv w F ι H) {n : Nat} {es : List (CV × CV)} (h : H.bl[n]? = some (.map es)) : ∃ b x, ι.bl[n]? = some b ∧ w.heap[b]? = some x := by
  rcases hi.maps n es h with ⟨b, _, _, h1, h2, _⟩ | ⟨b, h1, h2⟩
  · exact ⟨b, _, h1, h2⟩
  · obtain ⟨x, hx⟩ := h2.some
    exact ⟨b, x, h1, hx⟩

theorem Inv.build {w w' : World} {F F' : Nat → Prop} {ι ι' : IM} {H H' : Heap} (hi : Inv w F ι H) (m : MoV w w' F F' ι ι') (hlen : ι'.bl.length = H'.bl.length)
    (hcells : ∀ i cs, H'.get i = some cs → (H.get i = some cs ∧ ∀ b, ι.get i = some b → w'.heap[b]? = w.heap[b]?) ∨
      ∃ b c e, ι'.get i = some b ∧ w'.heap[b]? = some (.cells c e (0, 0)) ∧ CR w' F' (ι'.of i) cs c ∧ ∀ (j : Nat) (x : Value), c[j]? = some x → oneV x = true)
    (hmaps : ∀ (n : Nat) (es : List (CV × CV)), H'.bl[n]? = some (.map es) → (H.bl[n]? = some (.map es) ∧ ∀ b, ι.bl[n]? = some b → w'.heap[b]? = w.heap[b]?) ∨
      (∃ b ms clock, ι'.bl[n]? = some b ∧ w'.heap[b]? = some (.map ms clock) ∧ MR w' F' ι'.glob es ms.toList ∧ Go.MapKept.Stamped ms clock) ∨
      ∃ b, ι'.bl[n]? = some b ∧ ItOk ι' es w'.heap[b]?)
    (hinj : ∀ i j b, H'.live i → H'.live j → ι'.get i = some b → ι'.get j = some b → i = j) (hdis : ∀ b, F' b → ¬ Live ι' H' b) (hlt : ∀ b, F' b → b < w'.heap.size)
    (hlo : ∀ s, look H'.bx s = none → ι'.lo s = none) : Inv w' F' ι' H' where
  len := hlen
  cells := fun i cs h => by
    rcases hcells i cs h with ⟨h1, h2⟩ | h1
    · obtain ⟨b, c, e, h3, h4, h5, h6⟩ := hi.cells i cs h1
      exact ⟨b, c, e, m.i _ _ h3, (h2 b h3).trans h4, h5.mono (m.of i), h6⟩
    · exact h1
  maps := fun n es h => by
    rcases hmaps n es h with ⟨h1, h2⟩ | h1
    · rcases hi.maps n es h1 with ⟨b, ms, cl, h3, h4, h5, h6⟩ | ⟨b, h3, h4⟩
      · exact .inl ⟨b, ms, cl, m.i (.blk n) _ h3, (h2 b h3).trans h4, h5.mono (m.of (.blk n)), h6⟩
      · exact .inr ⟨b, m.i (.blk n) _ h3, by rw [h2 b h3]; exact h4.mono fun k x hx => m.i (.blk k) x hx⟩
    · exact h1
  inj := hinj
  dis := hdis
  lt := hlt
  lo := hlo
  gl := hi.gl.mono m.toMo

theorem Inv.live_lt {w : World} {F : Nat → Prop} {ι : IM} {H : Heap} (hi : Inv w F ι H) {b : Nat} (h : Live ι H b) : b < w.heap.size := by
  obtain ⟨i, h1, h2⟩ := h
  rcases live_iff.1 h1 with ⟨cs, h3⟩ | ⟨n, es, rfl, h3⟩
  · obtain ⟨b', c, e, h4, h5, _⟩ := hi.cells i cs h3
    rw [h2] at h4; cases h4
    exact (Array.getElem?_eq_some_iff.1 h5).1
  · obtain ⟨b', x, h4, h5⟩ := hi.obj h3
    have : ι.bl[n]? = some b := h2
    rw [this] at h4; cases h4
    exact (Array.getElem?_eq_some_iff.1 h5).1

theorem Inv.has {w : World} {F : Nat → Prop} {ι : IM} {H : Heap} (hi : Inv w F ι H) {i : Id} (h : H.live i) : ∃ b, ι.get i = some b := by
  rcases live_iff.1 h with ⟨cs, h3⟩ | ⟨n, es, rfl, h3⟩
  · obtain ⟨b, _, _, h4, _⟩ := hi.cells i cs h3; exact ⟨b, h4⟩
  · obtain ⟨b, _, h4, _⟩ := hi.obj h3; exact ⟨b, h4⟩

def IM.push (ι : IM) (b : Nat) : IM := ⟨ι.lo, ι.bl ++ [b]⟩
def IM.bind (ι : IM) (s b : Nat) : IM := ⟨fun t => if t = s then some b else ι.lo t, ι.bl⟩

theorem IM.get_push (ι : IM) (b : Nat) (i : Id) : (ι.push b).get i = if i = .blk ι.bl.length then some b else ι.get i := by
  cases i with
  | loc s => simp [IM.push, IM.get]
  | blk n =>
    simp only [IM.push, IM.get, Id.blk.injEq]
    rcases Nat.lt_trichotomy n ι.bl.length with h | h | h
    · rw [List.getElem?_append_left h, if_neg (by omega)]
    · subst h; simp
    · rw [List.getElem?_eq_none (by simp; omega), if_neg (by omega), List.getElem?_eq_none (by omega)]

theorem IM.push_le (ι : IM) (b : Nat) : ι.le (ι.push b) := by
  intro i x h
  rw [IM.get_push]
  split
  · rename_i e
    subst e
    simp [IM.get] at h
  · exact h

theorem IM.get_bind (ι : IM) (s b : Nat) (i : Id) : (ι.bind s b).get i = if i = .loc s then some b else ι.get i := by
  cases i <;> simp [IM.bind, IM.get]

theorem IM.bind_le {ι : IM} {s : Nat} (b : Nat) (h : ι.lo s = none) : ι.le (ι.bind s b) := by
  intro i x hx
  rw [IM.get_bind]
  split
  · rename_i e
    subst e
    simp [IM.get, h] at hx
  · exact hx

/-- Block b is (over)written; nothing else that was there turns. -/
structure WTo (w w' : World) (b : Nat) : Prop where
  os : w'.os = w.os
  tape : w'.tape = w.tape
  output : w'.output = w.output
  size : w.heap.size ≤ w'.heap.size
  lt : b < w'.heap.size
  other : ∀ k, k ≠ b → k < w.heap.size → w'.heap[k]? = w.heap[k]?
  csz : ∀ n, csize w b = some n → csize w' b = some n

theorem csize_of {w w' : World} {b : Nat} (h : w'.heap[b]? = w.heap[b]?) : csize w' b = csize w b := by simp only [csize, h]

theorem csize_lt {w : World} {b n : Nat} (h : csize w b = some n) : b < w.heap.size := by
  unfold csize at h
  split at h
  · rename_i h'; exact (Array.getElem?_eq_some_iff.1 h').1
  · cases h

theorem WTo.csize {w w' : World} {b : Nat} (h : WTo w w' b) (k n : Nat) (hk : csize w k = some n) : csize w' k = some n := by
  by_cases e : k = b
  · subst e; exact h.csz n hk
  · rw [csize_of (h.other k e (csize_lt hk))]; exact hk

/-- A block that was nobody's, or is new, is owned. -/
theorem Inv.add {w w' : World} {F : Nat → Prop} {ι : IM} {H : Heap} (hi : Inv w F ι H) {b : Nat} (hw : WTo w w' b) (hl : ¬ Live ι H b) (hf : ¬ F b) {c : Array Value} {e : TypeId} {cs : List CV}
    (hc : w'.heap[b]? = some (.cells c e (0, 0))) (hcr : CR w F ι.glob cs c) (h1 : ∀ (j : Nat) (x : Value), c[j]? = some x → oneV x = true) :
    Inv w' F (ι.push b) (H.push (.cells cs)) ∧ MoV w w' F F ι (ι.push b) := by
  have hm : MoV w w' F F ι (ι.push b) := ⟨⟨fun _ h => h, fun k hk => hw.other k (fun e => hf (e ▸ hk)) (hi.lt k hk)⟩, ι.push_le b, hw.csize⟩
  refine ⟨hi.build hm (by simp [IM.push, Heap.push, hi.len]) ?_ ?_ ?_ ?_ (fun k hk => Nat.lt_of_lt_of_le (hi.lt k hk) hw.size) hi.lo, hm⟩
  · intro i ds hd
    rw [Zc.get_push] at hd
    split at hd
    · rename_i hii
      cases hd
      right
      refine ⟨b, c, e, by rw [IM.get_push, hi.len, if_pos hii], hc, ?_, h1⟩
      rw [hii]
      exact hcr.mono (hm.of (.blk 0))
    · left
      refine ⟨hd, fun k hk => hw.other k (fun e => hl ⟨i, live_iff.2 (.inl ⟨ds, hd⟩), e ▸ hk⟩) (hi.live_lt ⟨i, live_iff.2 (.inl ⟨ds, hd⟩), hk⟩)⟩
  · intro n es hn
    left
    have hn' : H.bl[n]? = some (.map es) := by
      simp only [Heap.push] at hn
      rcases Nat.lt_trichotomy n H.bl.length with h | h | h
      · rwa [List.getElem?_append_left h] at hn
      · subst h; simp at hn
      · rw [List.getElem?_eq_none (by simp; omega)] at hn; cases hn
    refine ⟨hn', fun k hk => hw.other k (fun e => hl ⟨.blk n, live_iff.2 (.inr ⟨n, es, rfl, hn'⟩), e ▸ hk⟩) (hi.live_lt ⟨.blk n, live_iff.2 (.inr ⟨n, es, rfl, hn'⟩), hk⟩)⟩
  · intro i j k hi' hj' hik hjk
    rw [IM.get_push, hi.len] at hik hjk
    rcases live_push hi' with rfl | hi'
    · rcases live_push hj' with rfl | hj'
      · rfl
      · rw [if_pos rfl] at hik
        cases hik
        split at hjk
        · rename_i e; exact e.symm
        · exact (hl ⟨j, hj', hjk⟩).elim
    · rcases live_push hj' with rfl | hj'
      · rw [if_pos rfl] at hjk
        cases hjk
        split at hik
        · rename_i e; exact e
        · exact (hl ⟨i, hi', hik⟩).elim
      · split at hik
        · rename_i e
          subst e
          obtain ⟨x, hx⟩ := hi.has hi'
          simp [IM.get, ← hi.len] at hx
        · split at hjk
          · rename_i e
            subst e
            obtain ⟨x, hx⟩ := hi.has hj'
            simp [IM.get, ← hi.len] at hx
          · exact hi.inj i j k hi' hj' hik hjk
  · rintro k hk ⟨i, h1, h2⟩
    rw [IM.get_push, hi.len] at h2
    split at h2
    · cases h2; exact hf hk
    · rcases live_push h1 with rfl | h1
      · rename_i hne; exact hne rfl
      · exact hi.dis k hk ⟨i, h1, h2⟩

/-- A new box of the frame's own. -/
theorem Inv.bind {w w' : World} {F : Nat → Prop} {ι : IM} {H : Heap} (hi : Inv w F ι H) {b s : Nat} (hw : WTo w w' b) (hl : ¬ Live ι H b) (hf : ¬ F b) (hs : look H.bx s = none) {c : Array Value} {e : TypeId} {cs : List CV}
    (hc : w'.heap[b]? = some (.cells c e (0, 0))) (hcr : CR w F ι cs c) (h1 : ∀ (j : Nat) (x : Value), c[j]? = some x → oneV x = true) :
    Inv w' F (ι.bind s b) (H.put (.loc s) cs) ∧ MoV w w' F F ι (ι.bind s b) := by
  have hm : MoV w w' F F ι (ι.bind s b) := ⟨⟨fun _ h => h, fun k hk => hw.other k (fun e => hf (e ▸ hk)) (hi.lt k hk)⟩, IM.bind_le b (hi.lo s hs), hw.csize⟩
  have hblk : ∀ n, Id.loc s = .blk n → n < H.bl.length := by intro n h; cases h
  refine ⟨hi.build hm (by simp [IM.bind, Heap.put, hi.len]) ?_ ?_ ?_ ?_ (fun k hk => Nat.lt_of_lt_of_le (hi.lt k hk) hw.size) ?_, hm⟩
  · intro i ds hd
    rw [get_put hblk] at hd
    split at hd
    · rename_i hii
      cases hd
      right
      refine ⟨b, c, e, by rw [IM.get_bind, if_pos hii], hc, ?_, h1⟩
      rw [hii]
      exact hcr.mono hm
    · left
      refine ⟨hd, fun k hk => hw.other k (fun e => hl ⟨i, live_iff.2 (.inl ⟨ds, hd⟩), e ▸ hk⟩) (hi.live_lt ⟨i, live_iff.2 (.inl ⟨ds, hd⟩), hk⟩)⟩
  · intro n es hn
    left
    have hn' : H.bl[n]? = some (.map es) := hn
    refine ⟨hn', fun k hk => hw.other k (fun e => hl ⟨.blk n, live_iff.2 (.inr ⟨n, es, rfl, hn'⟩), e ▸ hk⟩) (hi.live_lt ⟨.blk n, live_iff.2 (.inr ⟨n, es, rfl, hn'⟩), hk⟩)⟩
  · intro i j k hi' hj' hik hjk
    rw [IM.get_bind] at hik hjk
    rcases live_put hblk hi' with rfl | hi'
    · rcases live_put hblk hj' with rfl | hj'
      · rfl
      · rw [if_pos rfl] at hik
        cases hik
        split at hjk
        · rename_i e; exact e.symm
        · exact (hl ⟨j, hj', hjk⟩).elim
    · rcases live_put hblk hj' with rfl | hj'
      · rw [if_pos rfl] at hjk
        cases hjk
        split at hik
        · rename_i e; exact e
        · exact (hl ⟨i, hi', hik⟩).elim
      · split at hik
        · rename_i e
          subst e
          obtain ⟨x, hx⟩ := hi'
          rw [hs] at hx; cases hx
        · split at hjk
          · rename_i e
            subst e
            obtain ⟨x, hx⟩ := hj'
            rw [hs] at hx; cases hx
          · exact hi.inj i j k hi' hj' hik hjk
  · rintro k hk ⟨i, h1, h2⟩
    rw [IM.get_bind] at h2
    split at h2
    · cases h2; exact hf hk
    · rcases live_put hblk h1 with rfl | h1
      · rename_i hne; exact hne rfl
      · exact hi.dis k hk ⟨i, h1, h2⟩
  · intro t ht
    simp only [Heap.put, look_setBx] at ht
    split at ht
    · cases ht
    · rename_i hne
      simp only [IM.bind, if_neg hne]
      exact hi.lo t ht

/-- What is owned is written. -/
theorem Inv.upd {w w' : World} {F : Nat → Prop} {ι : IM} {H : Heap} (hi : Inv w F ι H) {i : Id} {b : Nat} {old : List CV} (hg : H.get i = some old) (hb : ι.get i = some b) (hw : WTo w w' b) {c : Array Value} {e : TypeId} {cs : List CV}
    (hc : w'.heap[b]? = some (.cells c e (0, 0))) (hcr : CR w F (ι.of i) cs c) (h1 : ∀ (j : Nat) (x : Value), c[j]? = some x → oneV x = true) :
    Inv w' F ι (H.put i cs) ∧ MoV w w' F F ι ι := by
  have hli : H.live i := live_iff.2 (.inl ⟨old, hg⟩)
  have hlive : Live ι H b := ⟨i, hli, hb⟩
  have hm : MoV w w' F F ι ι := ⟨⟨fun _ h => h, fun k hk => hw.other k (fun e => hi.dis k hk (e ▸ hlive)) (hi.lt k hk)⟩, fun _ _ h => h, hw.csize⟩
  have hblk : ∀ n, i = .blk n → n < H.bl.length := by
    rintro n rfl
    simp only [Heap.get] at hg
    split at hg
    · rename_i h; exact (List.getElem?_eq_some_iff.1 h).1
    · cases hg
  have hlp : ∀ {j}, (H.put i cs).live j → H.live j := fun h => by
    rcases live_put hblk h with rfl | h
    · exact hli
    · exact h
  refine ⟨hi.build hm ?_ ?_ ?_ (fun j k x hj hk => hi.inj j k x (hlp hj) (hlp hk)) (fun k hk ⟨j, h1, h2⟩ => hi.dis k hk ⟨j, hlp h1, h2⟩) (fun k hk => Nat.lt_of_lt_of_le (hi.lt k hk) hw.size) ?_, hm⟩
  · cases i <;> simp [Heap.put, hi.len]
  · intro j ds hd
    rw [get_put hblk] at hd
    split at hd
    · rename_i hii
      cases hd
      right
      subst hii
      exact ⟨b, c, e, hb, hc, hcr.mono (hm.of j), h1⟩
    · rename_i hne
      left
      refine ⟨hd, fun k hk => hw.other k ?_ (hi.live_lt ⟨j, live_iff.2 (.inl ⟨ds, hd⟩), hk⟩)⟩
      rintro rfl
      exact hne (hi.inj j i k (live_iff.2 (.inl ⟨ds, hd⟩)) hli hk hb)
  · intro n es hn
    left
    have hn' := put_map hn
    refine ⟨hn', fun k hk => hw.other k ?_ (hi.live_lt ⟨.blk n, live_iff.2 (.inr ⟨n, es, rfl, hn'⟩), hk⟩)⟩
    rintro rfl
    have := hi.inj (.blk n) i k (live_iff.2 (.inr ⟨n, es, rfl, hn'⟩)) hli hk hb
    subst this
    simp [Heap.get, hn'] at hg
  · intro s hs
    refine hi.lo s ?_
    cases i with
    | loc t =>
      simp only [Heap.put, look_setBx] at hs
      split at hs
      · cases hs
      · exact hs
    | blk n => exact hs

/-- Who owns less keeps what he has. -/
theorem Inv.kill {w : World} {F : Nat → Prop} {ι : IM} {H : Heap} (hi : Inv w F ι H) (m : Nat) : Inv w F ι (H.kill (.blk m)) where
  len := by simp [Heap.kill, hi.len]
  cells := fun i cs h => by
    rw [get_kill] at h
    split at h
    · cases h
    · exact hi.cells i cs h
  maps := fun n es h => by
    have : H.bl[n]? = some (.map es) := by
      simp only [Heap.kill, List.getElem?_set] at h
      split at h
      · split at h <;> cases h
      · exact h
    exact hi.maps n es this
  inj := fun i j b h1 h2 => hi.inj i j b (live_kill h1).2 (live_kill h2).2
  dis := fun b hb ⟨i, h1, h2⟩ => hi.dis b hb ⟨i, (live_kill h1).2, h2⟩
  lt := hi.lt
  lo := hi.lo
  gl := hi.gl

/-- More is frozen that nobody owns. -/
theorem Inv.freeze {w : World} {F F' : Nat → Prop} {ι : IM} {H : Heap} (hi : Inv w F ι H) (hF : ∀ b, F b → F' b) (hd : ∀ b, F' b → ¬ Live ι H b) (hl : ∀ b, F' b → b < w.heap.size) : Inv w F' ι H := by
  have m : MoV w w F F' ι ι := ⟨⟨hF, fun _ _ => rfl⟩, fun _ _ h => h, fun _ _ h => h⟩
  exact hi.build m hi.len (fun i cs h => .inl ⟨h, fun _ _ => rfl⟩) (fun n es h => .inl ⟨h, fun _ _ => rfl⟩) hi.inj hd hl hi.lo

end Go.Zc
end
section
namespace Go.Zc
variable [Globs]

theorem VR.glob {w : World} {F : Nat → Prop} {ι : IM} {i : Id} {c : CV} {v : Value} (h : VR w F (ι.of i) c v) : VR w F ι c v :=
  VR.mono ⟨⟨fun _ h => h, fun _ _ => rfl⟩, ι.of_le i, fun _ _ h => h⟩ c v h

theorem BRc.of_map {w : World} {F G : Nat → Prop} {ι : IM} {f : CV → Option CV} {b : Nat} {c : Array Value} {e : TypeId} {fz : Nat × Nat} (hb : w.heap[b]? = some (.cells c e fz))
    (hf : ∀ x x' u, f x = some x' → VR w F ι x u → BR w G x' u) :
    ∀ (cs cs' : List CV) (o : Nat), mapC f cs = some cs' → (∀ (j : Nat) (x : CV), cs[j]? = some x → ∃ u, c[o + j]? = some u ∧ VR w F ι x u) → BRc w G cs' b o
  | [], cs', o, h, _ => by
    simp only [mapC, Option.some.injEq] at h
    subst h; simp [BRc]
  | x :: cs, cs', o, h, hc => by
    simp only [mapC, Option.bind_eq_some_iff, Option.map_eq_some_iff] at h
    obtain ⟨x', h1, r, h2, rfl⟩ := h
    obtain ⟨u, h3, h4⟩ := hc 0 x rfl
    simp only [BRc]
    refine ⟨⟨u, ?_, hf _ _ _ h1 h4⟩, BRc.of_map hb hf cs r (o + 1) h2 fun j y hy => ?_⟩
    · simp only [World.cell?, hb]
      simpa using h3
    · have := hc (j + 1) y (by simpa using hy)
      rwa [show o + (j + 1) = o + 1 + j by omega] at this

section
variable {w : World} {F G : Nat → Prop} {ι : IM} {H : Heap} {st kn : Bool} {f : CV → Option CV}

/-- What the lemmas ask. -/
structure SnapOk (w : World) (F G : Nat → Prop) (ι : IM) (H : Heap) (st : Bool) (f : CV → Option CV) : Prop where
  f : ∀ x x' u, f x = some x' → VR w F ι x u → BR w G x' u
  cells : ∀ i cs, H.get i = some cs → ∃ b c e, ι.get i = some b ∧ w.heap[b]? = some (.cells c e (0, 0)) ∧ CR w F (ι.of i) cs c
  g : ∀ i b cs, H.get i = some cs → ι.get i = some b → G b
  fg : st = true ∨ ∀ b, F b → G b

mutual
theorem snapV_ok (h : SnapOk w F G ι H st f) : ∀ (v v' : CV) (u : Value), snapV H st kn f v = some v' → VR w F ι v u → BR w G v' u
  | .op i off, v', u, hs, hv => by
    simp only [snapV, Option.bind_eq_some_iff] at hs
    obtain ⟨cs, h1, h2⟩ := hs
    split at h2
    · simp only [Option.map_eq_some_iff] at h2
      obtain ⟨r, h3, rfl⟩ := h2
      simp only [VR] at hv
      obtain ⟨b, h4, rfl⟩ := hv
      obtain ⟨b', c, e, h5, h6, h7⟩ := h.cells i cs h1
      rw [h4] at h5; cases h5
      simp only [BR]
      refine ⟨b, off, rfl, h.g i b cs h1 h4, BRc.of_map h6 h.f _ r off h3 fun j x hx => ?_⟩
      rw [List.getElem?_drop] at hx
      obtain ⟨y, hy1, hy2⟩ := h7 _ x hx
      exact ⟨y, hy1, hy2.glob⟩
    · cases h2
  | .os sz i off n, v', u, hs, hv => by
    simp only [snapV] at hs
    simp only [VR] at hv
    obtain ⟨base, cap, rfl, h2, h3⟩ := hv
    split at hs
    · rename_i hn
      simp only [Option.some.injEq] at hs
      subst hs
      simp only [BR]
      exact ⟨base, cap, by rw [hn], by omega, .inl trivial⟩
    · rename_i hn
      simp only [Option.bind_eq_some_iff] at hs
      obtain ⟨cs, h4, h5⟩ := hs
      split at h5
      · simp only [Option.map_eq_some_iff] at h5
        obtain ⟨r, h6, rfl⟩ := h5
        simp only [BR]
        rcases h3 with h3 | ⟨b, m, h7, h8, _, _⟩
        · omega
        · obtain ⟨b', c, e, h9, h10, h11⟩ := h.cells i cs h4
          rw [h7] at h9; cases h9
          refine ⟨base, cap, rfl, h2, .inr ⟨b, off, h8, h.g i b cs h4 h7, BRc.of_map h10 h.f _ r off h6 fun j x hx => ?_⟩⟩
          rw [List.getElem?_take] at hx
          split at hx
          · rw [List.getElem?_drop] at hx
            obtain ⟨y, hy1, hy2⟩ := h11 _ x hx
            exact ⟨y, hy1, hy2.glob⟩
          · cases hx
      · cases h5
  | .om n, v', u, hs, _ => by simp [snapV] at hs
  | .nils, v', u, hs, hv => by
    simp only [snapV, Option.some.injEq] at hs
    simp only [VR, BR] at hv
    subst hv
    subst hs
    cases kn <;> simp [BR]
  | .vp cs, v', u, hs, hv => by
    simp only [snapV] at hs
    split at hs
    · cases hs
    · simp only [Option.some.injEq] at hs
      subst hs
      simp only [VR] at hv
      exact BR.mono ⟨h.fg.resolve_left (by assumption), fun _ _ => rfl⟩ _ _ hv
  | .vs cs n, v', u, hs, hv => by
    simp only [snapV] at hs
    split at hs
    · cases hs
    · rename_i hc
      simp only [Option.some.injEq] at hs
      subst hs
      simp only [VR] at hv
      rcases h.fg with hst | hfg
      · subst hst
        have : cs = [] := by simpa using hc
        subst this
        simp only [BR] at hv ⊢
        obtain ⟨base, cap, h1, h2, _⟩ := hv
        exact ⟨base, cap, h1, h2, .inl trivial⟩
      · exact BR.mono ⟨hfg, fun _ _ => rfl⟩ _ _ hv
  | .fn g a c, v', u, hs, hv => by
    simp only [snapV, Option.bind_eq_some_iff, Option.map_eq_some_iff] at hs
    obtain ⟨a', h1, c', h2, rfl⟩ := hs
    simp only [VR] at hv
    obtain ⟨x, y, rfl, h3, h4⟩ := hv
    simp only [BR]
    exact ⟨x, y, rfl, snapVs_ok h a a' _ h1 h3, snapVs_ok h c c' _ h2 h4⟩
  | .ifc t x, v', u, hs, hv => by
    simp only [snapV, Option.map_eq_some_iff] at hs
    obtain ⟨x', h1, rfl⟩ := hs
    simp only [VR] at hv
    obtain ⟨y, rfl, h3⟩ := hv
    simp only [BR]
    exact ⟨y, rfl, snapV_ok h x x' y h1 h3⟩
  | .agg cs, v', u, hs, hv => by
    simp only [snapV, Option.map_eq_some_iff] at hs
    obtain ⟨x', h1, rfl⟩ := hs
    simp only [VR] at hv
    obtain ⟨y, rfl, h3⟩ := hv
    simp only [BR]
    exact ⟨y, rfl, snapVs_ok h cs x' _ h1 h3⟩
  | .tup cs, v', u, hs, hv => by
    simp only [snapV, Option.map_eq_some_iff] at hs
    obtain ⟨x', h1, rfl⟩ := hs
    simp only [VR] at hv
    obtain ⟨y, rfl, h3⟩ := hv
    simp only [BR]
    exact ⟨y, rfl, snapVs_ok h cs x' _ h1 h3⟩
  | .und, v', u, hs, hv => by simp only [snapV, Option.some.injEq] at hs; subst hs; simp [BR]
  | .bool b, v', u, hs, hv => by simp only [snapV, Option.some.injEq] at hs; subst hs; simpa [VR, BR] using hv
  | .int k n, v', u, hs, hv => by simp only [snapV, Option.some.injEq] at hs; subst hs; simpa [VR, BR] using hv
  | .float k n, v', u, hs, hv => by simp only [snapV, Option.some.injEq] at hs; subst hs; simpa [VR, BR] using hv
  | .cplx k a b, v', u, hs, hv => by simp only [snapV, Option.some.injEq] at hs; subst hs; simpa [VR, BR] using hv
  | .str s, v', u, hs, hv => by simp only [snapV, Option.some.injEq] at hs; subst hs; simpa [VR, BR] using hv
  | .nilp, v', u, hs, hv => by simp only [snapV, Option.some.injEq] at hs; subst hs; simpa [VR, BR] using hv
  | .nilm, v', u, hs, hv => by simp only [snapV, Option.some.injEq] at hs; subst hs; simpa [VR, BR] using hv
  | .nilf, v', u, hs, hv => by simp only [snapV, Option.some.injEq] at hs; subst hs; simpa [VR, BR] using hv
  | .nili, v', u, hs, hv => by simp only [snapV, Option.some.injEq] at hs; subst hs; simpa [VR, BR] using hv
theorem snapVs_ok (h : SnapOk w F G ι H st f) : ∀ (cs cs' : List CV) (us : List Value), snapVs H st kn f cs = some cs' → VRl w F ι cs us → BRl w G cs' us
  | [], cs', us, hs, hv => by
    simp only [snapVs, Option.some.injEq] at hs; subst hs
    simpa only [VRl, BRl] using hv
  | c :: cs, cs', us, hs, hv => by
    simp only [snapVs, Option.bind_eq_some_iff, Option.map_eq_some_iff] at hs
    obtain ⟨c', h1, r, h2, rfl⟩ := hs
    simp only [VRl] at hv
    obtain ⟨u, us', rfl, h3, h4⟩ := hv
    simp only [BRl]
    exact ⟨u, us', rfl, snapV_ok h c c' u h1 h3, snapVs_ok h cs r us' h2 h4⟩
end
end

section
variable {w : World} {F G : Nat → Prop} {ι : IM} {H : Heap} {st kn : Bool}

theorem snapN_ok (hc : ∀ i cs, H.get i = some cs → ∃ b c e, ι.get i = some b ∧ w.heap[b]? = some (.cells c e (0, 0)) ∧ CR w F (ι.of i) cs c)
    (hg : ∀ i b cs, H.get i = some cs → ι.get i = some b → G b) (hfg : st = true ∨ ∀ b, F b → G b) :
    ∀ (n : Nat) (v v' : CV) (u : Value), snapN H st kn n v = some v' → VR w F ι v u → BR w G v' u
  | 0, _, _, _, h, _ => by simp [snapN] at h
  | n + 1, v, v', u, h, hv => snapV_ok ⟨snapN_ok hc hg hfg n, hc, hg, hfg⟩ v v' u h hv

theorem mapC_ok {f : CV → Option CV} (hf : ∀ x x' u, f x = some x' → VR w F ι x u → BR w G x' u) :
    ∀ (l l' : List CV) (us : List Value), mapC f l = some l' → VRl w F ι l us → BRl w G l' us
  | [], l', us, h, hv => by
    simp only [mapC, Option.some.injEq] at h; subst h
    simpa only [VRl, BRl] using hv
  | c :: l, l', us, h, hv => by
    simp only [mapC, Option.bind_eq_some_iff, Option.map_eq_some_iff] at h
    obtain ⟨c', h1, r, h2, rfl⟩ := h
    simp only [VRl] at hv
    obtain ⟨u, us', rfl, h3, h4⟩ := hv
    simp only [BRl]
    exact ⟨u, us', rfl, hf _ _ _ h1 h3, mapC_ok hf l r us' h2 h4⟩

theorem mapC_length {f : CV → Option CV} : ∀ (l l' : List CV), mapC f l = some l' → l'.length = l.length
  | [], l', h => by simp only [mapC, Option.some.injEq] at h; subst h; rfl
  | c :: l, l', h => by
    simp only [mapC, Option.bind_eq_some_iff, Option.map_eq_some_iff] at h
    obtain ⟨c', h1, r, h2, rfl⟩ := h
    simp [mapC_length l r h2]

theorem mapC_get {f : CV → Option CV} : ∀ (l l' : List CV), mapC f l = some l' → ∀ (j : Nat) (x : CV), l'[j]? = some x → ∃ y, l[j]? = some y ∧ f y = some x
  | [], l', h, j, x, hx => by simp only [mapC, Option.some.injEq] at h; subst h; simp at hx
  | c :: l, l', h, j, x, hx => by
    simp only [mapC, Option.bind_eq_some_iff, Option.map_eq_some_iff] at h
    obtain ⟨c', h1, r, h2, rfl⟩ := h
    cases j with
    | zero => simp at hx; subst hx; exact ⟨c, rfl, h1⟩
    | succ j => simpa using mapC_get l r h2 j x (by simpa using hx)

theorem Inv.get_live {i : Id} {cs : List CV} (h : H.get i = some cs) : H.live i := by
  cases i with
  | loc s => exact ⟨cs, h⟩
  | blk n =>
    simp only [Heap.get] at h
    split at h
    · rename_i c hc; exact ⟨_, hc, rfl⟩
    · cases h

theorem Inv.snap (hi : Inv w F ι H) (hg : ∀ b, Live ι H b → G b) (hfg : st = true ∨ ∀ b, F b → G b) {v v' : CV} {u : Value}
    (h : snap H st kn v = some v') (hv : VR w F ι v u) : BR w G v' u :=
  snapN_ok (fun i cs h => let ⟨b, c, e, h1, h2, h3, _⟩ := hi.cells i cs h; ⟨b, c, e, h1, h2, h3⟩)
    (fun i b _ h1 h2 => hg b ⟨i, Inv.get_live h1, h2⟩) hfg _ _ _ _ h hv

theorem Inv.snapL (hi : Inv w F ι H) (hg : ∀ b, Live ι H b → G b) (hfg : st = true ∨ ∀ b, F b → G b) {l l' : List CV} {us : List Value}
    (h : snapL H st kn l = some l') (hv : VRl w F ι l us) : BRl w G l' us :=
  mapC_ok (fun _ _ _ h hv => hi.snap hg hfg h hv) l l' us h hv

end
end Go.Zc
end
section
namespace Go.Zc
variable [Globs]

section
variable {P : Program} {w : World} {F : Nat → Prop} {ι : IM} {H : Heap} {env : Env} {a : Act}

/-- The model does what the interpreter does to memory. -/
def HOk (P : Program) (w : World) (F : Nat → Prop) (ι : IM) (H : Heap) (a : Act) (o : Oper) (v : CV) (H' : Heap) : Prop :=
  ∃ v' w' F' ι', ((execOp a.eval o).run P w = .ok (.value v') w' ∨ ((execOp a.eval o).run P w = .ok .skip w' ∧ v' = undef)) ∧
    VR w' F' ι' v v' ∧ Inv w' F' ι' H' ∧ Ext w F ι H w' F' ι' H' ∧ MoV w w' F F' ι ι'

mutual
theorem VR.noloc : ∀ (c : CV) (v : Value), c.locv = false → VR w F ι c v → VR w F ι.glob c v
  | .op i off, v, hr, h => by
    cases i with
    | loc s => simp [CV.locv, Id.loc?] at hr
    | blk n => simpa [VR, IM.get, IM.glob] using h
  | .os sz i off len, v, hr, h => by
    cases i with
    | loc s => simp [CV.locv, Id.loc?] at hr
    | blk n => simpa [VR, IM.get, IM.glob] using h
  | .om n, v, _, h => by simpa [VR, IM.glob] using h
  | .fn f a c, v, hr, h => by
    simp only [CV.locv, Bool.or_eq_false_iff] at hr
    simp only [VR] at h ⊢
    obtain ⟨a', c', h1, h2, h3⟩ := h
    exact ⟨a', c', h1, VRl.noloc a _ hr.1 h2, VRl.noloc c _ hr.2 h3⟩
  | .ifc t x, v, hr, h => by
    simp only [CV.locv] at hr
    simp only [VR] at h ⊢
    obtain ⟨y, h1, h2⟩ := h
    exact ⟨y, h1, VR.noloc x y hr h2⟩
  | .agg cs, v, hr, h => by
    simp only [CV.locv] at hr
    simp only [VR] at h ⊢
    obtain ⟨vs, h1, h2⟩ := h
    exact ⟨vs, h1, VRl.noloc cs _ hr h2⟩
  | .tup cs, v, hr, h => by
    simp only [CV.locv] at hr
    simp only [VR] at h ⊢
    obtain ⟨vs, h1, h2⟩ := h
    exact ⟨vs, h1, VRl.noloc cs _ hr h2⟩
  | .und, v, _, h => by simpa only [VR] using h
  | .bool b, v, _, h => by simpa only [VR] using h
  | .int k n, v, _, h => by simpa only [VR] using h
  | .float k n, v, _, h => by simpa only [VR] using h
  | .cplx k a b, v, _, h => by simpa only [VR] using h
  | .str s, v, _, h => by simpa only [VR] using h
  | .nilp, v, _, h => by simpa only [VR] using h
  | .vp cs, v, _, h => by simpa only [VR] using h
  | .nils, v, _, h => by simpa only [VR] using h
  | .vs cs len, v, _, h => by simpa only [VR] using h
  | .nilm, v, _, h => by simpa only [VR] using h
  | .nilf, v, _, h => by simpa only [VR] using h
  | .nili, v, _, h => by simpa only [VR] using h
theorem VRl.noloc : ∀ (cs : List CV) (vs : List Value), CV.locs cs = false → VRl w F ι cs vs → VRl w F ι.glob cs vs
  | [], _, _, h => by simpa only [VRl] using h
  | c :: cs, vs, hr, h => by
    simp only [CV.locs, Bool.or_eq_false_iff] at hr
    simp only [VRl] at h ⊢
    obtain ⟨u, us, h1, h2, h3⟩ := h
    exact ⟨u, us, h1, VR.noloc c u hr.1 h2, VRl.noloc cs us hr.2 h3⟩
end

theorem VRl.cr {cs : List CV} {c : Array Value} (h : VRl w F ι cs c.toList) : CR w F ι cs c := fun j x hx => by
  obtain ⟨u, h1, h2⟩ := h.get j x hx
  exact ⟨u, by simpa using h1, h2⟩

theorem ones_oneV {cs : List CV} {vs : List Value} (h : VRl w F ι cs vs) (h1 : ones cs = true) : ∀ v ∈ vs, oneV v = true := by
  intro v hv
  obtain ⟨j, hj, rfl⟩ := List.mem_iff_getElem.1 hv
  have hl := VRl.length h
  have hc : cs[j]? = some cs[j] := List.getElem?_eq_getElem (by omega)
  obtain ⟨u, h2, h3⟩ := h.get j _ hc
  rw [List.getElem?_eq_getElem hj] at h2
  cases h2
  exact h3.one (List.all_eq_true.1 h1 _ (List.getElem_mem _))

theorem oneV_oneCell (v : Value) : v.oneCell' = oneV v := by cases v <;> rfl

theorem ones_und {x : CV} (h : ones x.cells = true) : x ≠ .und := by rintro rfl; simp [ones, CV.cells, CV.one] at h

/-- A new block in the world. -/
theorem WTo.new (w : World) (o : Obj) : WTo w { w with heap := w.heap.push o } w.heap.size where
  os := rfl
  tape := rfl
  output := rfl
  size := by simp
  lt := by simp
  other := fun k _ h => by simp only [Array.getElem?_push, if_neg (Nat.ne_of_lt h)]
  csz := fun n h => by have := csize_lt h; omega

theorem Inv.new_dead (hi : Inv w F ι H) : ¬ Live ι H w.heap.size ∧ ¬ F w.heap.size :=
  ⟨fun h => by have := hi.live_lt h; omega, fun h => by have := hi.lt _ h; omega⟩

/-- Behind a step to a block that was nobody's. -/
theorem Ext.to {w' : World} {ι' : IM} {H' : Heap} {b : Nat} (hw : WTo w w' b) (hpre : ∀ (n x : Nat), ι.bl[n]? = some x → ι'.bl[n]? = some x)
    (hb : Live ι H b ∨ w.heap.size ≤ b) (hl : ∀ x, Live ι' H' x → Live ι H x ∨ x = b) : Ext w F ι H w' F ι' H' where
  os := hw.os
  tape := hw.tape
  output := hw.output
  pre := hpre
  fmono := fun _ h => h
  fnew := fun _ h => .inl h
  size := hw.size
  csz := hw.csize
  frame := fun x hx hn => hw.other x (by
    rintro rfl
    rcases hb with hb | hb
    · exact hn hb
    · omega) hx
  live := fun x h => by
    rcases hl x h with h | rfl
    · exact .inl h
    · exact hb

theorem Ext.add {w' : World} {b : Nat} {c : Blk} (hi : Inv w F ι H) (hw : WTo w w' b) (hb : Live ι H b ∨ w.heap.size ≤ b) : Ext w F ι H w' F (ι.push b) (H.push c) :=
  Ext.to hw (fun n x h => by
    simp only [IM.push]
    rw [List.getElem?_append_left (List.getElem?_eq_some_iff.1 h).1]; exact h) hb (fun x ⟨i, h1, h2⟩ => by
      rw [IM.get_push, hi.len] at h2
      rcases live_push h1 with rfl | h1
      · rw [if_pos rfl] at h2; cases h2; exact .inr rfl
      · split at h2
        · cases h2; exact .inr rfl
        · exact .inl ⟨i, h1, h2⟩)

theorem Ext.bind {w' : World} {b s : Nat} {cs : List CV} (hw : WTo w w' b) (hb : Live ι H b ∨ w.heap.size ≤ b) : Ext w F ι H w' F (ι.bind s b) (H.put (.loc s) cs) :=
  Ext.to hw (fun n x h => h) hb (fun x ⟨i, h1, h2⟩ => by
      rw [IM.get_bind] at h2
      split at h2
      · cases h2; exact .inr rfl
      · rename_i hne
        rcases live_put (by intro n h; cases h) h1 with rfl | h1
        · exact (hne rfl).elim
        · exact .inl ⟨i, h1, h2⟩)

theorem Ext.upd {w' : World} {i : Id} {b : Nat} {old cs : List CV} (hg : H.get i = some old) (hb : ι.get i = some b) (hw : WTo w w' b) : Ext w F ι H w' F ι (H.put i cs) := by
  have hli : H.live i := live_iff.2 (.inl ⟨old, hg⟩)
  refine Ext.to hw (fun n x h => h) (.inl ⟨i, hli, hb⟩) (fun x ⟨j, h1, h2⟩ => ?_)
  have hblk : ∀ n, i = .blk n → n < H.bl.length := by
    rintro n rfl
    simp only [Heap.get] at hg
    split at hg
    · rename_i h; exact (List.getElem?_eq_some_iff.1 h).1
    · cases hg
  rcases live_put hblk h1 with rfl | h1
  · exact .inl ⟨j, hli, h2⟩
  · exact .inl ⟨j, h1, h2⟩

theorem hok_add (hi : Inv w F ι H) {o : Oper} {c : Array Value} {e : TypeId} {cs : List CV} {v : CV} {v' : Value} (hc : VRl w F ι.glob cs c.toList) (h1 : ∀ x ∈ c.toList, oneV x = true)
    (hrun : (execOp a.eval o).run P w = .ok (.value v') { w with heap := w.heap.push (.cells c e) })
    (hv : VR { w with heap := w.heap.push (.cells c e) } F (ι.push w.heap.size) v v') : HOk P w F ι H a o v (H.push (.cells cs)) := by
  have hw := WTo.new w (.cells c e)
  obtain ⟨hd, hf⟩ := hi.new_dead
  obtain ⟨h2, h3⟩ := hi.add hw hd hf (c := c) (e := e) (cs := cs) (by simp) hc.cr (fun j x hx => h1 x (by
    have : c.toList[j]? = some x := by simpa using hx
    exact List.mem_of_getElem? this))
  exact ⟨v', _, F, _, .inl hrun, hv, h2, Ext.add hi hw (.inr (Nat.le_refl _)), h3⟩

theorem hok_bind (hi : Inv w F ι H) {o : Oper} {c : Array Value} {e : TypeId} {cs : List CV} {s : Nat} (hs : look H.bx s = none) (hc : VRl w F ι cs c.toList) (h1 : ∀ x ∈ c.toList, oneV x = true)
    (hrun : (execOp a.eval o).run P w = .ok (.value (.pointer (some ⟨w.heap.size, 0, none⟩))) { w with heap := w.heap.push (.cells c e) }) : HOk P w F ι H a o (.op (.loc s) 0) (H.put (.loc s) cs) := by
  have hw := WTo.new w (.cells c e)
  obtain ⟨hd, hf⟩ := hi.new_dead
  obtain ⟨h2, h3⟩ := hi.bind hw hd hf hs (c := c) (e := e) (cs := cs) (by simp) hc.cr (fun j x hx => h1 x (by
    have : c.toList[j]? = some x := by simpa using hx
    exact List.mem_of_getElem? this))
  refine ⟨_, _, F, _, .inl hrun, ?_, h2, Ext.bind hw (.inr (Nat.le_refl _)), h3⟩
  simp only [VR]
  exact ⟨w.heap.size, by simp [IM.get_bind], rfl⟩

theorem vr_newp {n : Nat} {w' : World} (hn : n = ι.bl.length) : VR w' F (ι.push w.heap.size) (.op (.blk n) 0) (.pointer (some ⟨w.heap.size, 0, none⟩)) := by
  simp only [VR]
  exact ⟨w.heap.size, by rw [IM.get_push, hn, if_pos rfl], rfl⟩

theorem box_ok (hi : Inv w F ι H) {o : Oper} {e : TypeId} {x : Operand} (ho : o.op = .box e x) {c v : CV} {H' : Heap} (hx : VR w F ι c (a.eval x)) {h : HOp} (hh : h = .boxh ∨ ∃ s, h = .box s)
    (hc : heapOp h [c] H = some (v, H')) : HOk P w F ι H a o v H' := by
  have hrun : (execOp a.eval o).run P w = .ok (.value (.pointer (some ⟨w.heap.size, 0, none⟩))) { w with heap := w.heap.push (.cells (a.eval x).cells e) } := by
    simp [execOp, ho, Instr.box, newVar, newRow]
  rcases hh with rfl | ⟨s, rfl⟩ <;> simp only [heapOp] at hc <;> split at hc <;> (try cases hc) <;> rename_i hb <;> simp only [Bool.and_eq_true, Bool.not_eq_true'] at hb
  · have hcells := hx.cells (ones_und hb.1)
    exact hok_add hi (VRl.noloc _ _ hb.2 hcells) (ones_oneV hcells hb.1) hrun (vr_newp hi.len.symm)
  · have hcells := hx.cells (ones_und hb.1)
    exact hok_bind hi (by simpa using hb.2) hcells (ones_oneV hcells hb.1) hrun

theorem alloc_ok (hi : Inv w F ι H) {o : Oper} {e : TypeId} (ho : o.op = .alloc e) {z : List CV} (hz : zeroCs P e = some z) {v : CV} {H' : Heap} {h : HOp} (hh : h = .newh z ∨ ∃ s, h = .newl s z)
    (hc : heapOp h [] H = some (v, H')) : HOk P w F ι H a o v H' := by
  obtain ⟨zv, hz1, hz2⟩ := run_zero (P := P) (w := w) (F := F) (ι := ι) hz
  have hrun : (execOp a.eval o).run P w = .ok (.value (.pointer (some ⟨w.heap.size, 0, none⟩))) { w with heap := w.heap.push (.cells zv.cells e) } := by
    simp [execOp, ho, Instr.alloc, newVar, newRow, hz1]
  rcases hh with rfl | ⟨s, rfl⟩ <;> simp only [heapOp] at hc <;> split at hc <;> (try cases hc) <;> rename_i hb <;> simp only [Bool.and_eq_true, Bool.not_eq_true'] at hb
  · exact hok_add hi (VRl.noloc _ _ hb.2 hz2) (ones_oneV hz2 hb.1) hrun (vr_newp hi.len.symm)
  · exact hok_bind hi (by simpa using hb.1.1) hz2 (ones_oneV hz2 hb.1.2) hrun

/-! ### Loads -/

theorem BRc.vals : ∀ {cs : List CV} {b o : Nat}, BRc w F cs b o → ∃ us : List Value, us.length = cs.length ∧ BRl w F cs us ∧ ∀ (j : Nat) (v : Value), us[j]? = some v → w.cell? ⟨b, o + j, none⟩ = some v
  | [], _, _, _ => ⟨[], rfl, by simp [BRl], by simp⟩
  | c :: cs, b, o, h => by
    simp only [BRc] at h
    obtain ⟨⟨u, h1, h2⟩, h3⟩ := h
    obtain ⟨us, h4, h5, h6⟩ := BRc.vals h3
    refine ⟨u :: us, by simp [h4], by simp only [BRl]; exact ⟨u, us, rfl, h2, h5⟩, ?_⟩
    intro j v hj
    cases j with
    | zero => simp at hj; subst hj; simpa using h1
    | succ j =>
      have := h6 j v (by simpa using hj)
      rwa [show o + (j + 1) = o + 1 + j by omega]

theorem CR.vals {cs : List CV} {c : Array Value} (h : CR w F ι cs c) {b : Nat} {e : TypeId} {fz : Nat × Nat} (hb : w.heap[b]? = some (.cells c e fz)) (off n : Nat) (hn : off + n ≤ cs.length) :
    ∃ us : List Value, us.length = n ∧ VRl w F ι ((cs.drop off).take n) us ∧ ∀ (j : Nat) (v : Value), us[j]? = some v → w.cell? ⟨b, off + j, none⟩ = some v := by
  have hcl : cs.length ≤ c.size := by
    rcases Nat.eq_zero_or_pos cs.length with h0 | h0
    · omega
    · obtain ⟨u, hu, _⟩ := h (cs.length - 1) cs[cs.length - 1] (List.getElem?_eq_getElem _)
      have := (Array.getElem?_eq_some_iff.1 hu).1
      omega
  refine ⟨(c.toList.drop off).take n, by simp; omega, VRl.of_get (by simp; omega) ?_, ?_⟩
  · intro j x u h1 h2
    rw [List.getElem?_take] at h1 h2
    split at h1
    · rename_i hj
      rw [if_pos hj] at h2
      rw [List.getElem?_drop] at h1 h2
      obtain ⟨u', h3, h4⟩ := h _ x h1
      have : c[off + j]? = some u := by simpa using h2
      rw [this] at h3
      cases h3
      exact h4
    · cases h1
  · intro j v hj
    rw [List.getElem?_take] at hj
    split at hj
    · rw [List.getElem?_drop] at hj
      have : c[off + j]? = some v := by simpa using hj
      simp [World.cell?, hb, this]
    · cases hj

theorem run_loadVar' {t : TypeId} {s : Bool × Nat} (hs : shapeOf P t = some s) {b o : Nat} {us : List Value} (hl : us.length = s.2)
    (hc : ∀ (j : Nat) (v : Value), us[j]? = some v → w.cell? ⟨b, o + j, none⟩ = some v) {ds : List CV} (hd : VRl w F ι ds us) {v : CV} (hv : v = if s.1 then .agg ds else ds.getD 0 .und) :
    ∃ u, (loadVar t ⟨b, o, none⟩).run P w = .ok u w ∧ VR w F ι v u := by
  obtain ⟨h1, h2, h3⟩ := shapeOf_ok hs
  cases hb : s.1 with
  | true =>
    rw [hb] at h1 hv
    have := run_loadCells_list (P := P) w ⟨b, o, none⟩ us (fun j v hj => by rw [addr_add]; exact hc j v hj)
    rw [hl] at this
    refine ⟨.agg us.toArray, by simp [loadVar, run_isAgg' h1, run_sizeOf' h2, this], ?_⟩
    subst hv
    simp only [if_true, VR]
    exact ⟨_, rfl, by simpa using hd⟩
  | false =>
    rw [hb] at h1 hv
    have hn := h3 hb
    rw [hn] at hl
    obtain ⟨u, rfl⟩ := List.length_eq_one_iff.1 hl
    have hcell := hc 0 u rfl
    cases ds with
    | nil => simp only [VRl] at hd; cases hd
    | cons d ds =>
      simp only [VRl] at hd
      obtain ⟨u', us', he, h4, h5⟩ := hd
      cases he
      subst hv
      exact ⟨u, by simp [loadVar, run_isAgg' h1, show w.cell? ⟨b, o, none⟩ = some u by simpa using hcell], by simpa using h4⟩

theorem partC_eq {s : Bool × Nat} (h3 : s.1 = false → s.2 = 1) {off : Nat} {cs : List CV} {v : CV} (h : partC s.1 s.2 off cs = some v) : v = if s.1 then .agg ((cs.drop off).take s.2) else ((cs.drop off).take s.2).getD 0 .und := by
  unfold partC at h
  split at h
  · rename_i hb
    cases h
    simp [hb]
  · rename_i hb
    have hb' : s.1 = false := by simpa using hb
    rw [h3 hb']
    simp [List.getD, h, hb']

theorem loadC_ok (hi : Inv w F ι H) {t : TypeId} {s : Bool × Nat} (hs : shapeOf P t = some s) {c v : CV} {u : Value} (hx : VR w F ι c u) (hc : loadC s.1 s.2 H c = some v) :
    ∃ ad u', u = .pointer (some ad) ∧ (loadVar t ad).run P w = .ok u' w ∧ VR w F ι v u' := by
  obtain ⟨_, _, h3⟩ := shapeOf_ok hs
  unfold loadC at hc
  split at hc <;> (try cases hc)
  · rename_i i off
    simp only [Option.bind_eq_some_iff] at hc
    obtain ⟨cs, h1, h2⟩ := hc
    split at h2 <;> (try cases h2)
    rename_i hn
    obtain ⟨b, ca, e, h5, h6, h7, _⟩ := hi.cells i cs h1
    simp only [VR] at hx
    obtain ⟨b', h8, h9⟩ := hx
    rw [h8] at h5; cases h5
    obtain ⟨us, g1, g2, g3⟩ := h7.vals h6 off s.2 hn
    obtain ⟨u, g4, g5⟩ := run_loadVar' (P := P) hs g1 g3 g2 (partC_eq h3 h2)
    exact ⟨_, u, h9, g4, g5.glob⟩
  · rename_i cs
    split at hc <;> (try cases hc)
    rename_i hn
    simp only [VR, BR] at hx
    obtain ⟨b, off, h9, h5, h6⟩ := hx
    obtain ⟨us, g1, g2, g3⟩ := BRc.vals (BRc.take s.2 h6)
    obtain ⟨u, g4, g5⟩ := run_loadVar' (P := P) hs (by simpa [Nat.min_eq_left hn] using g1) g3 (BRl.vr (ι := ι) _ _ g2) (partC_eq h3 hc)
    exact ⟨_, u, h9, g4, g5⟩

theorem load_ok (hi : Inv w F ι H) {o : Oper} {t : TypeId} {x : Operand} (ho : o.op = .load t x) {s : Bool × Nat} (hs : shapeOf P t = some s) {c v : CV} {H' : Heap} (hx : VR w F ι c (a.eval x))
    (hc : heapOp (.load s.1 s.2) [c] H = some (v, H')) : HOk P w F ι H a o v H' := by
  simp only [heapOp, Option.map_eq_some_iff, Prod.mk.injEq] at hc
  obtain ⟨v', hc, rfl, rfl⟩ := hc
  obtain ⟨ad, u, h1, h2, h3⟩ := loadC_ok (P := P) hi hs hx hc
  refine ⟨u, w, F, ι, .inl ?_, h3, hi, Ext.refl _ _ _ _, ⟨⟨fun _ h => h, fun _ _ => rfl⟩, fun _ _ h => h, fun _ _ h => h⟩⟩
  simp [execOp, ho, Instr.loadAt, h1, Instr.sureAddr, h2]
end
end Go.Zc
end
section
namespace Go.Zc
variable [Globs]

section
variable {P : Program} {w : World} {F : Nat → Prop} {ι : IM} {H : Heap} {env : Env} {a : Act}

/-! ### Stores -/

def setAll (c : Array Value) : Nat → List Value → Array Value
  | _, [] => c
  | o, v :: r => setAll (c.setIfInBounds o v) (o + 1) r

theorem setAll_size : ∀ (vs : List Value) (c : Array Value) (o : Nat), (setAll c o vs).size = c.size
  | [], _, _ => rfl
  | v :: r, c, o => by simp [setAll, setAll_size r]

theorem setCells_heap (b : Nat) (e : TypeId) (fz : Nat × Nat) : ∀ (vs : List Value) (o : Nat) (c : Array Value) (w : World), w.heap[b]? = some (.cells c e fz) →
    (w.setCells b o vs).heap[b]? = some (.cells (setAll c o vs) e fz) ∧ (∀ k, k ≠ b → (w.setCells b o vs).heap[k]? = w.heap[k]?) ∧ (w.setCells b o vs).heap.size = w.heap.size ∧
    (w.setCells b o vs).os = w.os ∧ (w.setCells b o vs).tape = w.tape ∧ (w.setCells b o vs).output = w.output
  | [], o, c, w, h => ⟨h, fun _ _ => rfl, rfl, rfl, rfl, rfl⟩
  | v :: r, o, c, w, h => by
    have h1 : (w.setCell ⟨b, o, none⟩ v).heap[b]? = some (.cells (c.setIfInBounds o v) e fz) := by
      simp [World.setCell, Array.getElem?_modify, h]
    obtain ⟨i1, i2, i3, i4, i5, i6⟩ := setCells_heap b e fz r (o + 1) (c.setIfInBounds o v) (w.setCell ⟨b, o, none⟩ v) h1
    refine ⟨i1, fun k hk => ?_, ?_, i4, i5, i6⟩
    · rw [World.setCells, i2 k hk]
      simp only [World.setCell, Array.getElem?_modify]
      rw [if_neg (fun e => hk e.symm)]
    · rw [World.setCells, i3]
      simp [World.setCell]

theorem WTo.set {b o : Nat} {e : TypeId} {fz : Nat × Nat} {c : Array Value} (h : w.heap[b]? = some (.cells c e fz)) (vs : List Value) : WTo w (w.setCells b o vs) b := by
  obtain ⟨i1, i2, i3, i4, i5, i6⟩ := setCells_heap b e fz vs o c w h
  have hlt := (Array.getElem?_eq_some_iff.1 h).1
  exact ⟨i4, i5, i6, by omega, by omega, fun k hk _ => i2 k hk, fun n hn => by
    unfold Zc.csize at hn ⊢
    rw [h] at hn
    rw [i1]
    simpa [setAll_size] using hn⟩

theorem setAll_get : ∀ (vs : List Value) (c : Array Value) (o j : Nat), o + vs.length ≤ c.size → (setAll c o vs)[j]? = if o ≤ j ∧ j < o + vs.length then vs[j - o]? else c[j]?
  | [], c, o, j, _ => by simp [setAll]; intro h1 h2; omega
  | v :: r, c, o, j, h => by
    simp only [List.length_cons] at h ⊢
    rw [setAll, setAll_get r _ (o + 1) j (by simp; omega)]
    by_cases h1 : o + 1 ≤ j ∧ j < o + 1 + r.length
    · rw [if_pos h1, if_pos (by omega)]
      rw [show j - o = (j - (o + 1)) + 1 by omega]
      simp
    · rw [if_neg h1]
      by_cases h2 : j = o
      · subst h2
        rw [if_pos (by omega)]
        have : j < c.size := by omega
        simp [this]
      · rw [if_neg (by omega), Array.getElem?_setIfInBounds, if_neg (fun e => h2 e.symm)]

theorem setMany_get : ∀ (xs cs : List CV) (o j : Nat), o + xs.length ≤ cs.length → (setMany cs o xs)[j]? = if o ≤ j ∧ j < o + xs.length then xs[j - o]? else cs[j]?
  | [], cs, o, j, _ => by simp [setMany]; intro h1 h2; omega
  | x :: r, cs, o, j, h => by
    simp only [List.length_cons] at h ⊢
    rw [setMany, setMany_get r _ (o + 1) j (by simp; omega)]
    by_cases h1 : o + 1 ≤ j ∧ j < o + 1 + r.length
    · rw [if_pos h1, if_pos (by omega)]
      rw [show j - o = (j - (o + 1)) + 1 by omega]
      simp
    · rw [if_neg h1]
      by_cases h2 : j = o
      · subst h2
        rw [if_pos (by omega)]
        have : j < cs.length := by omega
        simp [this]
      · rw [if_neg (by omega), List.getElem?_set, if_neg (fun e => h2 e.symm)]

theorem CR.len {cs : List CV} {c : Array Value} (h : CR w F ι cs c) : cs.length ≤ c.size := by
  rcases Nat.eq_zero_or_pos cs.length with h0 | h0
  · omega
  · obtain ⟨u, hu, _⟩ := h (cs.length - 1) cs[cs.length - 1] (List.getElem?_eq_getElem _)
    have := (Array.getElem?_eq_some_iff.1 hu).1
    omega

theorem CR.set {cs xs : List CV} {c : Array Value} {vs : List Value} (h : CR w F ι cs c) (hx : VRl w F ι xs vs) {o : Nat} (ho : o + xs.length ≤ cs.length) : CR w F ι (setMany cs o xs) (setAll c o vs) := by
  intro j x hj
  have hl := VRl.length hx
  have hc := h.len
  rw [setMany_get xs cs o j ho] at hj
  rw [setAll_get vs c o j (by omega), hl]
  split at hj
  · rename_i hb
    rw [if_pos hb]
    exact hx.get _ x hj
  · rename_i hb
    rw [if_neg hb]
    exact h j x hj

theorem setAll_one {c : Array Value} {vs : List Value} {o : Nat} (hc : ∀ (j : Nat) (x : Value), c[j]? = some x → oneV x = true) (hv : ∀ v ∈ vs, oneV v = true) (ho : o + vs.length ≤ c.size) :
    ∀ (j : Nat) (x : Value), (setAll c o vs)[j]? = some x → oneV x = true := by
  intro j x hj
  rw [setAll_get vs c o j ho] at hj
  split at hj
  · exact hv _ (List.mem_of_getElem? hj)
  · exact hc j x hj

/-- Cells that somebody owns are written. -/
theorem run_store' {b o : Nat} {e : TypeId} {c : Array Value} {vs : List Value} (h : w.heap[b]? = some (.cells c e (0, 0))) (hv : ∀ v ∈ vs, oneV v = true) (ho : o + vs.length ≤ c.size) :
    (storeCells ⟨b, o, none⟩ vs).run P w = .ok () (w.setCells b o vs) := by
  have := run_storeCells_cells (P := P) b o vs 0 w (fun j hj => by
      have : o + j < c.size := by omega
      simp [World.cell?, h, this]) (fun j _ => by simp [World.frozen?, h]) (fun v hm => by rw [oneV_oneCell]; exact hv v hm)
  simpa using this

theorem upd_ok (hi : Inv w F ι H) {o : Oper} {i : Id} {b off : Nat} {old xs : List CV} {e : TypeId} {c : Array Value} {vs : List Value} {v : CV} {v' : Value} (hg : H.get i = some old) (hb : ι.get i = some b)
    (h : w.heap[b]? = some (.cells c e (0, 0))) (hcr : CR w F (ι.of i) old c) (h1 : ∀ (j : Nat) (x : Value), c[j]? = some x → oneV x = true) (hx : VRl w F (ι.of i) xs vs) (hone : ∀ v ∈ vs, oneV v = true) (ho : off + xs.length ≤ old.length)
    (hv : ∀ w', VR w' F ι v v') (hrun : (execOp a.eval o).run P w = .ok (.value v') (w.setCells b off vs) ∨ ((execOp a.eval o).run P w = .ok .skip (w.setCells b off vs) ∧ v' = undef)) :
    HOk P w F ι H a o v (H.put i (setMany old off xs)) := by
  have hw := WTo.set (o := off) h vs
  obtain ⟨i1, _⟩ := setCells_heap b e (0, 0) vs off c w h
  have hl := VRl.length hx
  have hcl := hcr.len
  obtain ⟨h2, h3⟩ := hi.upd hg hb hw i1 (hcr.set hx ho) (setAll_one h1 hone (by omega))
  exact ⟨v', _, F, ι, hrun, hv _, h2, Ext.upd hg hb hw, h3⟩

theorem noloc_of {i : Id} {xs : List CV} {vs : List Value} (h : VRl w F ι xs vs) (hl : i.loc? = true ∨ CV.locs xs = false) : VRl w F (ι.of i) xs vs := by
  cases i with
  | loc s => exact h
  | blk n =>
    rcases hl with hl | hl
    · cases hl
    · exact VRl.noloc _ _ hl h

theorem store_ok (hi : Inv w F ι H) {o : Oper} {t : TypeId} {x y : Operand} (ho : o.op = .store t x y) {n : Nat} (hn : szOf P t = some n) {p q v : CV} {H' : Heap} (hp : VR w F ι p (a.eval x)) (hq : VR w F ι q (a.eval y))
    (hc : heapOp (.store n) [p, q] H = some (v, H')) : HOk P w F ι H a o v H' := by
  simp only [heapOp, Option.map_eq_some_iff, Prod.mk.injEq] at hc
  obtain ⟨Hn, hc, rfl, rfl⟩ := hc
  unfold storeC at hc
  split at hc <;> (try cases hc)
  rename_i i off
  simp only [Option.bind_eq_some_iff] at hc
  obtain ⟨cs, h1, h2⟩ := hc
  split at h2 <;> (try cases h2)
  rename_i hb
  obtain ⟨e1, e2, e3, e4⟩ := hb
  obtain ⟨b, ca, e, h5, h6, h7, h8⟩ := hi.cells i cs h1
  simp only [VR] at hp
  obtain ⟨b', h9, h10⟩ := hp
  rw [h9] at h5; cases h5
  have hcells := hq.cells (ones_und e3)
  have hone := ones_oneV hcells e3
  refine upd_ok hi h1 h9 h6 h7 h8 (noloc_of hcells e4) hone (by omega) (v' := undef) (fun w' => by simp only [VR]; exact ⟨#[], rfl, by simp [VRl]⟩) (.inr ⟨?_, rfl⟩)
  have hl := VRl.length hcells
  have hcl := h7.len
  have hst := run_store' (P := P) (o := off) h6 hone (by omega)
  have hsz : (a.eval y).cells.size = n := by simpa [e1] using hl
  have hst' : (storeCells ⟨b, off, none⟩ (a.eval y).cells.toList).run P w = .ok () (w.setCells b off (a.eval y).cells.toList) := hst
  simp [execOp, ho, Instr.storeAt, h10, Instr.sureAddr, storeVar, run_sizeOf' hn, hsz, hst']

/-! ### Slices that are shown -/

theorem shown_ok (hi : Inv w F ι H) {sz : Nat} {x : CV} {new : List CV} (h : shown H sz x = some new) {u : Value} (hu : VR w F ι x u) :
    ∃ base cap us, u = .slice base (lenOf x) cap ∧ new.length = lenOf x * sz ∧ us.length = new.length ∧ VRl w F ι new us ∧
      (us = [] ∨ ∃ b o, base = some ⟨b, o, none⟩ ∧ ∀ (j : Nat) (v : Value), us[j]? = some v → w.cell? ⟨b, o + j, none⟩ = some v) := by
  unfold shown at h
  split at h <;> (try cases h)
  · simp only [VR, BR] at hu
    exact ⟨none, 0, [], by simpa [lenOf] using hu, by simp [lenOf], rfl, by simp [VRl], .inl rfl⟩
  · rename_i cs n
    split at h <;> (try cases h)
    rename_i hl
    simp only [VR, BR] at hu
    obtain ⟨base, cap, h1, h2, h3⟩ := hu
    rcases h3 with rfl | ⟨b, off, rfl, h4, h5⟩
    · exact ⟨base, cap, [], h1, by simpa [lenOf] using hl, rfl, by simp [VRl], .inl rfl⟩
    · obtain ⟨us, g1, g2, g3⟩ := BRc.vals h5
      exact ⟨_, cap, us, h1, hl, g1, BRl.vr _ _ g2, .inr ⟨b, off, rfl, g3⟩⟩
  · rename_i s i off n
    split at h <;> (try cases h)
    rename_i hs
    subst hs
    simp only [Option.bind_eq_some_iff] at h
    obtain ⟨cs, h1, h2⟩ := h
    split at h2 <;> (try cases h2)
    rename_i hn
    simp only [VR] at hu
    obtain ⟨base, cap, h3, h4, h5⟩ := hu
    rcases h5 with h5 | ⟨b, m, h5, h6, h7, h8⟩
    · have hz : n = 0 := by omega
      subst hz
      exact ⟨base, cap, [], h3, by simp [lenOf], by simp, by simp [VRl], .inl rfl⟩
    · obtain ⟨b', ca, e, g1, g2, g3, _⟩ := hi.cells i cs h1
      rw [h5] at g1; cases g1
      obtain ⟨us, k1, k2, k3⟩ := g3.vals g2 off (n * s) hn
      refine ⟨base, cap, us, h3, by simp [lenOf]; omega, by simp [k1]; omega, ?_, .inr ⟨b, off, h6, k3⟩⟩
      exact VRl.mono ⟨⟨fun _ h => h, fun _ _ => rfl⟩, ι.of_le i, fun _ _ h => h⟩ _ _ k2

theorem run_first {sz n cap : Nat} {base : Option Addr} {us : List Value} (hl : us.length = n * sz) (h : us = [] ∨ ∃ b o, base = some ⟨b, o, none⟩ ∧ ∀ (j : Nat) (v : Value), us[j]? = some v → w.cell? ⟨b, o + j, none⟩ = some v) :
    (Builtin.firstCells sz n (.slice base n cap)).run P w = .ok us.toArray w := by
  rcases h with rfl | ⟨b, o, rfl, h⟩
  · have : n * sz = 0 := by simpa using hl.symm
    cases base with
    | none => simp [Builtin.firstCells]
    | some a => simp [Builtin.firstCells, this, loadCells, loadCellsFrom]
  · have := run_loadCells_list (P := P) w ⟨b, o, none⟩ us (fun j v hj => by rw [addr_add]; exact h j v hj)
    rw [hl] at this
    simp [Builtin.firstCells, this]

theorem growBy_le (n : Nat) : ∀ (r c : Nat), 256 ≤ c → Builtin.growBy n r c ≤ max c (2 * n)
  | 0, c, _ => by simp only [Builtin.growBy]; omega
  | r + 1, c, h => by
    simp only [Builtin.growBy]
    split
    · omega
    · have := growBy_le n r (c + (c + 768) / 4) (by omega)
      omega

theorem nextcap_le {n c : Nat} (h : c < n) : Builtin.nextslicecap n c ≤ 2 * n := by
  unfold Builtin.nextslicecap
  split
  · omega
  · split
    · omega
    · have := growBy_le n 4 c (by omega)
      omega

theorem zeroCells_repC {z : List CV} {zv : Array Value} (h : VRl w F ι z zv.toList) : ∀ (n : Nat), VRl w F ι (repC z n) (Builtin.zeroCells zv n).toList := by
  have hl := VRl.length h
  have hsz : zv.size = z.length := by simpa using hl
  have key : ∀ n, (Builtin.zeroCells zv n).toList = (List.range (n * zv.size)).map fun i => zv[i % zv.size]! := by
    intro n; simp only [Builtin.zeroCells, Array.toList_map, Array.toList_range]
  intro n
  rw [key]
  induction n with
  | zero => simp [repC, VRl]
  | succ n ih =>
    have e : (List.range ((n + 1) * zv.size)).map (fun i => zv[i % zv.size]!) = zv.toList ++ (List.range (n * zv.size)).map fun i => zv[i % zv.size]! := by
      rw [show (n + 1) * zv.size = zv.size + n * zv.size by rw [Nat.add_mul]; omega, List.range_add, List.map_append, List.map_map]
      congr 1
      · apply List.ext_getElem?
        intro j
        by_cases hj : j < zv.size
        · simp [hj, Nat.mod_eq_of_lt hj]
        · simp [hj]
      · apply List.map_congr_left
        intro i _
        simp
    rw [e]
    exact VRl.append h ih

theorem repC_length (z : List CV) : ∀ n, (repC z n).length = n * z.length
  | 0 => by simp [repC]
  | n + 1 => by simp [repC, repC_length z n, Nat.add_mul]; omega

theorem repC_ones {z : List CV} (h : ones z = true) : ∀ n, ones (repC z n) = true
  | 0 => rfl
  | n + 1 => by simp only [ones, repC, List.all_append, Bool.and_eq_true]; exact ⟨h, repC_ones h n⟩

end
end Go.Zc
end
section
namespace Go.Zc
variable [Globs]

section
variable {P : Program} {w : World} {F : Nat → Prop} {ι : IM} {H : Heap} {env : Env} {a : Act}

theorem BRc.of_list : ∀ {cs : List CV} {us : List Value} {b o : Nat}, BRl w F cs us → (∀ (j : Nat) (v : Value), us[j]? = some v → w.cell? ⟨b, o + j, none⟩ = some v) → BRc w F cs b o
  | [], _, _, _, _, _ => by simp [BRc]
  | c :: cs, us, b, o, h, hc => by
    simp only [BRl] at h
    obtain ⟨u, us', rfl, h1, h2⟩ := h
    simp only [BRc]
    refine ⟨⟨u, by simpa using hc 0 u rfl, h1⟩, BRc.of_list h2 fun j v hj => ?_⟩
    have := hc (j + 1) v (by simpa using hj)
    rwa [show o + (j + 1) = o + 1 + j by omega] at this

/-- New memory that nobody writes. -/
theorem hok_frozen (hi : Inv w F ι H) {o : Oper} {c : Array Value} {e : TypeId} {cs : List CV} {n : Nat} (hc : VRl w F ι cs c.toList) (hr : CV.refs cs = false)
    (hrun : (execOp a.eval o).run P w = .ok (.value (.slice (some ⟨w.heap.size, 0, none⟩) n n)) { w with heap := w.heap.push (.cells c e) }) : HOk P w F ι H a o (.vs cs n) H := by
  have hw := WTo.new w (.cells c e)
  obtain ⟨hd, hf⟩ := hi.new_dead
  have hF : ∀ b, F b → (F b ∨ b = w.heap.size) := fun _ h => .inl h
  have hm : MoV w { w with heap := w.heap.push (.cells c e) } F (fun b => F b ∨ b = w.heap.size) ι ι :=
    ⟨⟨hF, fun k hk => hw.other k (by have := hi.lt k hk; omega) (hi.lt k hk)⟩, fun _ _ h => h, hw.csize⟩
  refine ⟨_, _, fun b => F b ∨ b = w.heap.size, ι, .inl hrun, ?_, ?_, ?_, hm⟩
  · simp only [VR, BR]
    refine ⟨_, _, rfl, Nat.le_refl _, .inr ⟨w.heap.size, 0, rfl, .inr rfl, ?_⟩⟩
    refine BRc.of_list (BRl.mono hm.toMo _ _ (VRl.bv _ _ hr hc)) fun j v hj => ?_
    have : c[j]? = some v := by simpa using hj
    simp [World.cell?, this]
  · refine hi.build hm hi.len (fun i cs h => .inl ⟨h, fun b hb => ?_⟩) (fun n es h => .inl ⟨h, fun b hb => ?_⟩) hi.inj ?_ ?_ hi.lo
    · have := hi.live_lt ⟨i, live_iff.2 (.inl ⟨cs, h⟩), hb⟩
      exact hw.other b (by omega) this
    · have := hi.live_lt ⟨.blk n, live_iff.2 (.inr ⟨n, es, rfl, h⟩), hb⟩
      exact hw.other b (by omega) this
    · rintro b (hb | rfl)
      · exact hi.dis b hb
      · exact hd
    · rintro b (hb | rfl)
      · have := hi.lt b hb; simp; omega
      · simp
  · exact ⟨rfl, rfl, rfl, fun _ _ h => h, hF, fun b hb => hb.imp id (fun h => by omega), by simp, hw.csize, fun b hb _ => hw.other b (by omega) hb, fun _ h => .inl h⟩

theorem bsl_ok (he : EnvR w F ι env a) (hi : Inv w F ι H) {o : Oper} {t e : TypeId} {len : Nat} {parts : Array (Nat × Operand)} (ho : o.op = .buildSlice t len parts) (ht : P.underlying t = some (.slice e)) {n : Nat} (hn : szOf P e = some n)
    {z : List CV} (hz : zeroCs P e = some z) (hzl : z.length = n) (hpos : 0 < n) (hcap : len * n ≤ 16777216) {ps : List (Nat × Nat)} {ys : List Opd} (hp : placesA n parts.toList = some (ps, ys)) {v : CV} {H' : Heap}
    {h : HOp} (hh : h = .bslF n len z ps ∨ h = .bslO n len z ps) (hc : heapOp h (evs env ys) H = some (v, H')) : HOk P w F ι H a o v H' := by
  obtain ⟨h1, h2, h3, h4⟩ := placesA_ok he hp
  obtain ⟨zv, hz1, hz2⟩ := run_zero (P := P) (w := w) (F := F) (ι := ι) hz
  have hzs : zv.cells.size = n := by have := VRl.length hz2; simpa [hzl] using this
  have run : ∀ {out : List CV}, fillC (repC z len) (ps.zip (evs env ys)) = some out → ∃ c : Array Value, VRl w F ι out c.toList ∧
      (execOp a.eval o).run P w = .ok (.value (.slice (some ⟨w.heap.size, 0, none⟩) len len)) { w with heap := w.heap.push (.cells c e) } := by
    intro out hf
    have hzero : VRl w F ι (repC z len) ((Array.range (len * n)).map ((if len * n = 0 then #[] else zv.cells)[· % (if len * n = 0 then #[] else zv.cells).size]!)).toList := by
      by_cases h0 : len * n = 0
      · have hl : (repC z len).length = 0 := by rw [repC_length, hzl]; exact h0
        rw [List.length_eq_zero_iff.1 hl]
        simp [h0, VRl]
      · rw [if_neg h0]
        have := zeroCells_repC hz2 len
        simpa [Builtin.zeroCells, hzs] using this
    obtain ⟨us', h6, h7⟩ := fill_ok (w := w) (F := F) (ι := ι) (place := fun i => some (i * n, n)) (parts.toList.map fun x => (x.1, a.eval x.2)) ps (evs env ys) _ out _
      (by simpa [Function.comp_def] using h3) (by simpa using h1) (fun j q hq => by
        simp only [List.getElem?_map, Option.map_eq_some_iff] at hq
        obtain ⟨q', hq', rfl⟩ := hq
        exact ⟨_, h4 j q' hq', rfl⟩) hzero hf
    refine ⟨us', h7, ?_⟩
    have hcap' : ¬ (len * n > 2 ^ 24) := by omega
    have hpl : (parts.map fun (x : Nat × Operand) => (x.1, a.eval x.2)).toList = parts.toList.map fun x => (x.1, a.eval x.2) := by simp
    simp only [execOp, ho, Instr.buildSlice, Sem.run_bind, run_under ht, Result.andThen_ok, run_sizeOf' hn, if_neg hcap']
    by_cases h0 : len * n = 0
    · have hl0 : len = 0 := by
        rcases Nat.mul_eq_zero.1 h0 with h | h
        · exact h
        · omega
      subst hl0
      have r0 : Array.range 0 = #[] := rfl
      simp only [Nat.zero_mul, if_true, r0, Array.map_empty] at h6
      simp [newRow, r0, h6]
    · simp only [if_neg h0] at h6 ⊢
      simp only [Sem.run_bind, hz1, Sem.run_pure, Result.andThen_ok, hpl, h6]
      simp [newRow]
  rcases hh with rfl | rfl <;> simp only [heapOp] at hc <;> split at hc <;> (try cases hc) <;> simp only [Option.bind_eq_some_iff] at hc <;> obtain ⟨out, hf, hc⟩ := hc <;> split at hc <;> (try cases hc) <;>
    rename_i hb <;> simp only [Bool.and_eq_true, Bool.not_eq_true', decide_eq_true_eq] at hb <;> obtain ⟨c, g1, g2⟩ := run hf
  · exact hok_frozen hi g1 hb.1.2 g2
  · refine hok_add hi (VRl.noloc _ _ hb.1.2 g1) (ones_oneV g1 hb.1.1) g2 ?_
    simp only [VR]
    refine ⟨_, _, rfl, Nat.le_refl _, .inr ⟨w.heap.size, c.size, by rw [IM.get_push, hi.len, if_pos rfl], rfl, by simp [csize], ?_⟩⟩
    have := VRl.length g1
    have hs : c.size = out.length := by simpa using this
    omega

theorem mk_run {o : Oper} {t e : TypeId} {l c : Operand} (ho : o.op = .makeSlice t l c) (ht : P.underlying t = some (.slice e)) {i : TypeInfo} (hin : P.info? e = some i) {z : List CV} (hz : zeroCs P e = some z) (hpos : 0 < i.size) (hzl : z.length = i.size)
    {k k' : IntKind} {x' m : Nat} (hp : VR w F ι (.int k x') (a.eval l)) (hq : VR w F ι (.int k' m) (a.eval c)) (e2 : (x' : Int) ≤ m) (e3 : (m : Int) * i.bytes ≤ 140737488355328) (e4 : (m : Int) ≤ 140737488355328) :
    ∃ zc : Array Value, VRl w F ι (repC z m) zc.toList ∧ zc.size = m * z.length ∧ (execOp a.eval o).run P w = .ok (.value (.slice (some ⟨w.heap.size, 0, none⟩) x' m)) { w with heap := w.heap.push (.cells zc e) } := by
  obtain ⟨zv, hz1, hz2⟩ := run_zero (P := P) (w := w) (F := F) (ι := ι) hz
  have hn : szOf P e = some i.size := by simp [szOf, hin]
  have hzs : zv.cells.size = i.size := by have := VRl.length hz2; simpa [hzl] using this
  have w1 : IntKind.i64.wrap (x' : Int) = x' := by simp only [IntKind.wrap, IntKind.bits, IntKind.signed]; simp only [Bool.true_and]; split <;> simp_all <;> omega
  have w2 : IntKind.i64.wrap (m : Int) = m := by simp only [IntKind.wrap, IntKind.bits, IntKind.signed]; simp only [Bool.true_and]; split <;> simp_all <;> omega
  have hrep := zeroCells_repC hz2 m
  have hmk : (Instr.makeSlice t (a.eval l) (a.eval c)).run P w = .ok (.slice (some ⟨w.heap.size, 0, none⟩) x' m) { w with heap := w.heap.push (.cells (Builtin.zeroCells zv.cells m) e) } := by
    have t1 : ¬ ((i.bytes : Int) * (m : Int) > 2 ^ 48) := by rw [Int.mul_comm]; omega
    have b1 : (decide ((m : Int) < 0) || decide ((i.bytes : Int) * (m : Int) > 2 ^ 48)) = false := by simp; omega
    simp only [Instr.makeSlice, Sem.run_bind, run_under ht, Result.andThen_ok, hp.int, hq.int, asInt, asIntOf, Sem.run_pure, typeInfo, run_program, hin, w1, w2, b1]
    have b2 : (false || decide ((x' : Int) < 0) || decide ((x' : Int) > (m : Int))) = false := by simp; omega
    simp only [b2, Bool.false_eq_true, if_false, Int.toNat_natCast]
    by_cases h0 : m * i.size = 0
    · have hm0 : m = 0 := by
        rcases Nat.mul_eq_zero.1 h0 with h | h
        · exact h
        · omega
      subst hm0
      have r0 : Array.range 0 = #[] := rfl
      simp [newRow, Builtin.zeroCells, run_sizeOf' hn, r0]
    · simp [newRow, Builtin.zeroCells, hzs, run_sizeOf' hn, hz1, h0]
  refine ⟨Builtin.zeroCells zv.cells m, hrep, ?_, by simp [execOp, ho, hmk]⟩
  have := VRl.length hrep
  rw [repC_length] at this
  simpa using this
theorem locs_app : ∀ (l r : List CV), CV.locs (l ++ r) = (CV.locs l || CV.locs r)
  | [], _ => by simp [CV.locs]
  | c :: l, r => by simp [CV.locs, locs_app l r, Bool.or_assoc]
theorem refs_app : ∀ (l r : List CV), CV.refs (l ++ r) = (CV.refs l || CV.refs r)
  | [], _ => by simp [CV.refs]
  | c :: l, r => by simp [CV.refs, refs_app l r, Bool.or_assoc]
theorem repC_locs {z : List CV} (h : CV.locs z = false) : ∀ n, CV.locs (repC z n) = false
  | 0 => rfl
  | n + 1 => by simp [repC, locs_app, h, repC_locs h n]
theorem repC_refs {z : List CV} (h : CV.refs z = false) : ∀ n, CV.refs (repC z n) = false
  | 0 => rfl
  | n + 1 => by simp [repC, refs_app, h, repC_refs h n]
theorem mksl_ok (hi : Inv w F ι H) {o : Oper} {t e : TypeId} {l c : Operand} (ho : o.op = .makeSlice t l c) (ht : P.underlying t = some (.slice e)) {i : TypeInfo} (hin : P.info? e = some i) {z : List CV} (hz : zeroCs P e = some z) (hpos : 0 < i.size)
    {p q v : CV} {H' : Heap} (hp : VR w F ι p (a.eval l)) (hq : VR w F ι q (a.eval c)) {h : HOp} (hh : h = .mksl i.size i.bytes z ∨ h = .mkslF i.size i.bytes z) (hc : heapOp h [p, q] H = some (v, H')) : HOk P w F ι H a o v H' := by
  rcases hh with rfl | rfl
  · simp only [heapOp] at hc
    split at hc <;> (try cases hc)
    rename_i hb
    simp only [Bool.and_eq_true, Bool.not_eq_true', decide_eq_true_eq] at hb
    obtain ⟨⟨hzl, hone⟩, hloc⟩ := hb
    unfold mkslC at hc
    split at hc <;> (try cases hc)
    rename_i k x k' y
    split at hc <;> (try cases hc)
    rename_i hcond
    obtain ⟨e1, e2, e3, e4⟩ := hcond
    obtain ⟨m, rfl⟩ : ∃ m : Nat, y = m := ⟨y.toNat, by omega⟩
    obtain ⟨x', rfl⟩ : ∃ m : Nat, x = m := ⟨x.toNat, by omega⟩
    obtain ⟨zc, hrep, hs, hrun⟩ := mk_run ho ht hin hz hpos hzl hp hq e2 e3 e4
    simp only [Int.toNat_natCast]
    refine hok_add hi (VRl.noloc _ _ (repC_locs hloc m) hrep) (ones_oneV hrep (repC_ones hone m)) hrun ?_
    simp only [VR]
    refine ⟨_, _, rfl, by omega, .inr ⟨w.heap.size, zc.size, by rw [IM.get_push, hi.len, if_pos rfl], rfl, by simp [csize], ?_⟩⟩
    rw [hs, hzl]
    omega
  · simp only [heapOp] at hc
    split at hc <;> (try cases hc)
    rename_i hb
    simp only [Bool.and_eq_true, Bool.not_eq_true', decide_eq_true_eq] at hb
    obtain ⟨hzl, href⟩ := hb
    unfold mkslFC at hc
    split at hc <;> (try cases hc)
    rename_i k x k' y
    split at hc <;> (try cases hc)
    rename_i hcond
    obtain ⟨e1, rfl, e3, e4⟩ := hcond
    obtain ⟨m, rfl⟩ : ∃ m : Nat, x = m := ⟨x.toNat, by omega⟩
    obtain ⟨zc, hrep, hs, hrun⟩ := mk_run ho ht hin hz hpos hzl hp hq (Int.le_refl _) e3 e4
    simp only [Int.toNat_natCast]
    exact hok_frozen hi hrep (repC_refs href m) hrun

end
end Go.Zc
end
section
namespace Go.Zc
variable [Globs]

section
variable {P : Program} {w : World} {F : Nat → Prop} {ι : IM} {H : Heap} {env : Env} {a : Act}

/-- What append's operands are, and what it asks of its type. -/
structure AppAt (P : Program) (w : World) (t u e : TypeId) (i : TypeInfo) (zv : Value) : Prop where
  ht : P.underlying t = some (.slice e)
  hu : ∃ e', P.underlying u = some (.slice e')
  hi : P.info? e = some i
  hz : ∀ w' : World, (zeroValue e).run P w' = .ok zv w'

theorem run_append_fit {t u ty e : TypeId} {i : TypeInfo} {zv : Value} (h : AppAt P w t u e i zv) {sbase xbase : Option Addr} {n cap k xcap : Nat} {us : List Value} (hus : us.length = k * i.size)
    (hread : us = [] ∨ ∃ b o, xbase = some ⟨b, o, none⟩ ∧ ∀ (j : Nat) (v : Value), us[j]? = some v → w.cell? ⟨b, o + j, none⟩ = some v) (hfit : n + k ≤ cap) {w' : World}
    (hst : ∀ ad, sbase = some ad → (storeCells (ad.add (n * i.size)) us).run P w = .ok () w') (hsome : sbase = none → w' = w) :
    (Builtin.append_ #[t, u] ty #[.slice sbase n cap, .slice xbase k xcap]).run P w = .ok (.slice sbase (n + k) cap) w' := by
  obtain ⟨e', hu⟩ := h.hu
  have hn : szOf P e = some i.size := by simp [szOf, h.hi]
  have hf := run_first (P := P) (w := w) (cap := xcap) hus hread
  have hst' : ∀ ad, sbase = some ad → (storeCells (ad.add (n * i.size)) us).run P w = .ok () w' := hst
  cases sbase with
  | none =>
    have := hsome rfl
    subst this
    simp [Builtin.append_, run_under h.ht, run_under hu, run_sizeOf' hn, Builtin.lenOf, hfit, hf]
  | some ad =>
    have h2 := hst ad rfl
    simp [Builtin.append_, run_under h.ht, run_under hu, run_sizeOf' hn, Builtin.lenOf, hfit, hf, h2]

theorem run_append_grow {t u ty e : TypeId} {i : TypeInfo} {zv : Value} (h : AppAt P w t u e i zv) {sbase xbase : Option Addr} {n cap k xcap : Nat} {olds us : List Value} (hos : olds.length = n * i.size) (hus : us.length = k * i.size)
    (hold : olds = [] ∨ ∃ b o, sbase = some ⟨b, o, none⟩ ∧ ∀ (j : Nat) (v : Value), olds[j]? = some v → w.cell? ⟨b, o + j, none⟩ = some v)
    (hread : us = [] ∨ ∃ b o, xbase = some ⟨b, o, none⟩ ∧ ∀ (j : Nat) (v : Value), us[j]? = some v → w.cell? ⟨b, o + j, none⟩ = some v) (_hcap : n ≤ cap) (hgrow : ¬ n + k ≤ cap) (hb : 0 < i.bytes) (hroom : (n + k) * i.bytes ≤ 140737488355328) :
    ∃ m, n + k ≤ m ∧ (Builtin.append_ #[t, u] ty #[.slice sbase n cap, .slice xbase k xcap]).run P w =
      .ok (.slice (some ⟨w.heap.size, 0, none⟩) (n + k) m) { w with drawn := w.drawn + 1, heap := w.heap.push (.cells ((olds ++ us).toArray ++ Builtin.zeroCells zv.cells (m - (n + k))) e) } := by
  obtain ⟨e', hu⟩ := h.hu
  have hn : szOf P e = some i.size := by simp [szOf, h.hi]
  let w1 : World := { w with drawn := w.drawn + 1 }
  have hfo := run_first (P := P) (w := w1) (cap := cap) hos hold
  have hfx := run_first (P := P) (w := w1) (cap := xcap) hus hread
  have hle : (n + k) ≤ 140737488355328 := Nat.le_trans (Nat.le_mul_of_pos_right _ hb) hroom
  have hnc := nextcap_le (n := n + k) (c := cap) (by omega)
  have hmul : Builtin.nextslicecap (n + k) cap * i.bytes ≤ 2 * ((n + k) * i.bytes) := by
    rw [← Nat.mul_assoc]; exact Nat.mul_le_mul_right _ hnc
  have hno : ¬ (Builtin.nextslicecap (n + k) cap * i.bytes > 2 ^ 48) := by omega
  refine ⟨(Question.appendCap (n + k) cap e).cut (w.tape w.drawn (.appendCap (n + k) cap e)), by simp only [Question.cut]; omega, ?_⟩
  have h63 : ¬ (((n + k : Nat) : Int) > IntKind.i64.max ∧ ((false = true) ∨ i.bytes = 0)) := by
    rintro ⟨_, h | h⟩
    · cases h
    · omega
  have hforced : (Question.appendCap (n + k) cap e).forced = false := rfl
  have hz := h.hz w1
  have hno' : ¬ (2 ^ 48 < Builtin.nextslicecap (n + k) cap * i.bytes) := hno
  have hb0 : ¬ i.bytes = 0 := by omega
  have hnot : ¬ cap ≥ n + k := by omega
  simp [Builtin.append_, run_under h.ht, run_under hu, run_sizeOf' hn, Builtin.lenOf, typeInfo, h.hi, hgrow, hno', hb0, hforced]
  have hd : w.drew = w1 := rfl
  rw [hd, hfo]
  simp only [Result.andThen_ok, hfx, hz]
  simp [newRow, w1]
  refine ⟨?_, rfl, rfl⟩
  show w.heap.push _ = w.heap.push _
  congr 2
  apply Array.ext'
  simp

theorem run_append_zeros {t u ty e : TypeId} {i : TypeInfo} {zv : Value} {k0 k1 : IntKind} (ht : P.underlying t = some (.slice e)) (hu : P.underlying u = some (.int k0)) (hin : P.info? e = some i) (hz : ∀ w' : World, (zeroValue e).run P w' = .ok zv w') (hs : 0 < i.size) {k : Nat} (hk : 0 < k) (hb : 0 < i.bytes) (hroom : k * i.bytes ≤ 140737488355328) :
    ∃ m, k ≤ m ∧ (Builtin.append_ #[t, u] ty #[.slice none 0 0, .int k1 k]).run P w =
      .ok (.slice (some ⟨w.heap.size, 0, none⟩) k m) { w with drawn := w.drawn + 1, heap := w.heap.push (.cells (Builtin.zeroCells zv.cells k ++ Builtin.zeroCells zv.cells (m - k)) e) } := by
  have hn : szOf P e = some i.size := by simp [szOf, hin]
  let w1 : World := { w with drawn := w.drawn + 1 }
  have hle : k ≤ 140737488355328 := Nat.le_trans (Nat.le_mul_of_pos_right _ hb) hroom
  have hw : IntKind.i64.wrap (k : Int) = k := by rw [IntKind.wrap_i64]; omega
  have hnc : Builtin.nextslicecap k 0 = k := by unfold Builtin.nextslicecap; rw [if_pos (by omega)]
  have hno' : ¬ (2 ^ 48 < Builtin.nextslicecap k 0 * i.bytes) := by rw [hnc]; omega
  have hno : ¬ ((2 : Int) ^ 48 < (k : Int) * (i.bytes : Int)) := by
    have : ((k * i.bytes : Nat) : Int) ≤ ((140737488355328 : Nat) : Int) := Int.ofNat_le.2 hroom
    rw [Int.natCast_mul] at this
    omega
  have hno2 : ¬ ((281474976710656 : Int) < (k : Int) * (i.bytes : Int)) := by omega
  have hno3 : ¬ (281474976710656 < k * i.bytes) := by omega
  have hmax2 : ¬ ((9223372036854775807 : Int) < (k : Int)) := by omega
  have h0 : ¬ ((k : Int) < 0) := by omega
  have hks : ¬ (k * i.size = 0) := by
    have := Nat.mul_pos hk hs; omega
  have hks' : ¬ (k = 0 ∨ i.size = 0) := by omega
  have hmax : ¬ (((k : Nat) : Int) > IntKind.i64.max ∧ (True ∨ i.bytes = 0)) := by
    have : IntKind.i64.max = 9223372036854775807 := rfl
    omega
  have hmax' : ¬ (IntKind.i64.max < (k : Int)) := by
    have : IntKind.i64.max = 9223372036854775807 := rfl
    omega
  refine ⟨(Question.appendCap k 0 e).cut (w.tape w.drawn (.appendCap k 0 e)), by simp only [Question.cut]; omega, ?_⟩
  have hforced : (Question.appendCap k 0 e).forced = false := rfl
  have hz1 := hz w1
  have hfo := run_first (P := P) (w := w1) (cap := 0) (n := 0) (base := none) (us := []) (sz := i.size) (by simp) (.inl rfl)
  have hk0 : ¬ k = 0 := by omega
  simp [Builtin.append_, run_under ht, run_under hu, run_sizeOf' hn, typeInfo, hin, asInt, asIntOf, hw, h0, hno, hno', hmax', hk0, hks', hforced, hno2, hno3, hnc, hmax2]
  have hd : w.drew = w1 := rfl
  rw [hd, hfo]
  simp only [Result.andThen_ok, hz1]
  simp [newRow, w1]
  rw [if_neg hks]
  rfl

theorem run_append_none {t u ty e : TypeId} {i : TypeInfo} {k0 k1 : IntKind} (ht : P.underlying t = some (.slice e)) (hu : P.underlying u = some (.int k0)) (hin : P.info? e = some i) {base : Option Addr} {n cap : Nat} (hle : n ≤ cap) :
    (Builtin.append_ #[t, u] ty #[.slice base n cap, .int k1 0]).run P w = .ok (.slice base n cap) w := by
  have hn : szOf P e = some i.size := by simp [szOf, hin]
  have hw : IntKind.i64.wrap (0 : Int) = 0 := rfl
  have h2 : ¬ ((2 : Int) ^ 48 < 0) := by omega
  cases base <;> simp [Builtin.append_, run_under ht, run_under hu, run_sizeOf' hn, typeInfo, hin, asInt, asIntOf, hw, hle, storeCells]

theorem isSl_ok {c : CV} {v : Value} (h : isSl c = true) (hv : VR w F ι c v) : ∃ base cap, v = .slice base (lenOf c) cap ∧ lenOf c ≤ cap := by
  cases c <;> simp only [isSl, Bool.false_eq_true] at h <;> simp only [VR, BR] at hv
  · exact ⟨none, 0, by simpa [lenOf] using hv, by simp [lenOf]⟩
  · obtain ⟨base, cap, h1, h2, _⟩ := hv; exact ⟨base, cap, h1, h2⟩
  · obtain ⟨base, cap, h1, h2, _⟩ := hv; exact ⟨base, cap, h1, h2⟩

theorem Ext.killadd {w' : World} {b m : Nat} {c : Blk} (hi : Inv w F ι H) (hw : WTo w w' b) (hb : Live ι H b ∨ w.heap.size ≤ b) : Ext w F ι H w' F (ι.push b) ((H.kill (.blk m)).push c) :=
  Ext.to hw (fun n x h => by
    simp only [IM.push]
    rw [List.getElem?_append_left (List.getElem?_eq_some_iff.1 h).1]; exact h) hb (fun x ⟨i, h1, h2⟩ => by
      have hl : (H.kill (.blk m)).bl.length = ι.bl.length := by simp [Heap.kill, hi.len]
      rw [IM.get_push, ← hl] at h2
      rcases live_push h1 with rfl | h1
      · rw [if_pos rfl] at h2; cases h2; exact .inr rfl
      · split at h2
        · cases h2; exact .inr rfl
        · exact .inl ⟨i, (live_kill h1).2, h2⟩)

theorem oneV_append {l r : List Value} (h1 : ∀ v ∈ l, oneV v = true) (h2 : ∀ v ∈ r, oneV v = true) : ∀ v ∈ l ++ r, oneV v = true := by
  intro v hv
  rcases List.mem_append.1 hv with h | h
  · exact h1 v h
  · exact h2 v h

theorem get_of_mem {c : Array Value} (h : ∀ v ∈ c.toList, oneV v = true) : ∀ (j : Nat) (x : Value), c[j]? = some x → oneV x = true := fun j x hx => h x (by
    have : c.toList[j]? = some x := by simpa using hx
    exact List.mem_of_getElem? this)

theorem CR.front {cs : List CV} {us rest : List Value} {c : Array Value} (h : VRl w F ι cs us) (hc : c.toList = us ++ rest) : CR w F ι cs c := by
  intro j x hx
  obtain ⟨u, h1, h2⟩ := h.get j x hx
  refine ⟨u, ?_, h2⟩
  have := (List.getElem?_eq_some_iff.1 h1).1
  have h3 : c.toList[j]? = some u := by rw [hc, List.getElem?_append_left this, h1]
  simpa using h3

theorem app_ok (hi : Inv w F ι H) {o : Oper} {t u e : TypeId} {s x : Operand} (ho : o.op = .call { callee := .builtin .append, args := #[s, x], argTypes := #[t, u] }) {i : TypeInfo} (ht : P.underlying t = some (.slice e))
    (hu : ∃ e', P.underlying u = some (.slice e')) (hin : P.info? e = some i) {z : List CV} (hz : zeroCs P e = some z) {p q v : CV} {H' : Heap} (hp : VR w F ι p (a.eval s)) (hq : VR w F ι q (a.eval x))
    (hc : heapOp (.app i.size i.bytes z) [p, q] H = some (v, H')) : HOk P w F ι H a o v H' := by
  have hrun : ∀ {v' : Value} {w' : World}, (Builtin.append_ #[t, u] o.type #[a.eval s, a.eval x]).run P w = .ok v' w' → (execOp a.eval o).run P w = .ok (.value v') w' := by
    intro v' w' h
    simp only [execOp, ho, resolve, Sem.run_bind, invoke, Sem.run_pure, Result.andThen_ok, builtin, List.map_toArray, List.map_cons, List.map_nil, h]
  obtain ⟨zv, hz1, _⟩ := run_zero (P := P) (w := w) (F := F) (ι := ι) hz
  have hz2 : VRl w F ι.glob z zv.cells.toList := by
    obtain ⟨zv', h1, h2⟩ := run_zero (P := P) (w := w) (F := F) (ι := ι.glob) hz
    rw [h1] at hz1; cases hz1; exact h2
  have hzw : ∀ w' : World, (zeroValue e).run P w' = .ok zv w' := by
    intro w'
    simp only [zeroCs, Option.bind_eq_some_iff] at hz
    obtain ⟨zz, ⟨j, g1, g2⟩, _⟩ := hz
    have : (zeroValue e).run P w = .ok zz w := by simp [zeroValue, typeInfo, g1, g2]
    rw [this] at hz1; cases hz1
    simp [zeroValue, typeInfo, g1, g2]
  have hat : AppAt P w t u e i zv := ⟨ht, hu, hin, hzw⟩
  simp only [heapOp] at hc
  split at hc
  · rename_i h0
    split at hc <;> (try cases hc)
    rename_i hb
    simp only [Bool.and_eq_true] at hb
    obtain ⟨b1, c1, e1, l1⟩ := isSl_ok hb.1 hp
    obtain ⟨b2, c2, e2, l2⟩ := isSl_ok hb.2 hq
    have := run_append_fit (P := P) (w := w) (ty := o.type) hat (sbase := b1) (xbase := b2) (n := lenOf p) (cap := c1) (k := 0) (xcap := c2) (us := []) (by simp) (.inl rfl) (by omega) (w' := w) (fun _ _ => rfl) (fun _ => rfl)
    rw [h0] at e2
    rw [← e1, ← e2] at this
    exact ⟨_, w, F, ι, .inl (hrun this), by rw [Nat.add_zero, ← e1]; exact hp, hi, Ext.refl _ _ _ _, ⟨⟨fun _ h => h, fun _ _ => rfl⟩, fun _ _ h => h, fun _ _ h => h⟩⟩
  · rename_i hk
    simp only [Option.bind_eq_some_iff] at hc
    obtain ⟨new, hnew, hc⟩ := hc
    split at hc <;> (try cases hc)
    rename_i hb
    simp only [Bool.and_eq_true, Bool.not_eq_true', decide_eq_true_eq] at hb
    obtain ⟨⟨⟨⟨⟨⟨hsz, hby⟩, hone⟩, hloc⟩, hroom⟩, hzl⟩, hzone⟩ := hb
    obtain ⟨xb, xc, us, hx1, hx2, hx3, hx4, hx5⟩ := shown_ok hi hnew hq
    have hus : us.length = lenOf q * i.size := by omega
    have hone' := ones_oneV hx4 hone
    have hx4g := VRl.noloc _ _ hloc hx4
    have hzs : zv.cells.size = i.size := by have := VRl.length hz2; simpa [hzl] using this
    have hzc : ∀ n, ∀ v ∈ (Builtin.zeroCells zv.cells n).toList, oneV v = true := fun n => ones_oneV (zeroCells_repC hz2 n) (repC_ones hzone n)
    have hzlen : ∀ n, (Builtin.zeroCells zv.cells n).size = n * i.size := by
      intro n
      have := VRl.length (zeroCells_repC hz2 n)
      rw [repC_length, hzl] at this
      simpa using this
    unfold appC at hc
    split at hc <;> (try cases hc)
    · -- nil
      simp only [VR, BR] at hp
      obtain ⟨m, hm, hr⟩ := run_append_grow (P := P) (w := w) (ty := o.type) hat (sbase := none) (n := 0) (cap := 0) (k := lenOf q) (xcap := xc) (olds := []) (by simp) hus (.inl rfl) hx5 (Nat.le_refl _) (by omega) hby (by simpa [lenOf] using hroom)
      rw [← hp, ← hx1] at hr
      simp only [List.nil_append, Nat.zero_add] at hr hm
      have hw := WTo.new w (.cells (us.toArray ++ Builtin.zeroCells zv.cells (m - lenOf q)) e)
      have hw' : WTo w { w with drawn := w.drawn + 1, heap := w.heap.push (.cells (us.toArray ++ Builtin.zeroCells zv.cells (m - lenOf q)) e) } w.heap.size := ⟨hw.os, hw.tape, hw.output, hw.size, hw.lt, hw.other, hw.csz⟩
      obtain ⟨hd, hf⟩ := hi.new_dead
      have hcr : CR w F ι.glob new (us.toArray ++ Builtin.zeroCells zv.cells (m - lenOf q)) :=
        CR.front (rest := (Builtin.zeroCells zv.cells (m - lenOf q)).toList) hx4g (by simp)
      obtain ⟨h2, h3⟩ := hi.add hw' hd hf (e := e) (cs := new) (by simp) hcr (get_of_mem (by simpa using oneV_append hone' (hzc _)))
      refine ⟨_, _, F, _, .inl (hrun hr), ?_, h2, Ext.add hi hw' (.inr (Nat.le_refl _)), h3⟩
      simp only [VR]
      refine ⟨_, m, rfl, hm, .inr ⟨w.heap.size, (us.toArray ++ Builtin.zeroCells zv.cells (m - lenOf q)).size, by rw [IM.get_push, hi.len, if_pos rfl], rfl, by simp [csize], ?_⟩⟩
      rw [Array.size_append, hzlen]
      simp only [List.size_toArray, hus, Nat.zero_add]
      rw [← Nat.add_mul]
      exact Nat.mul_le_mul_right _ (by omega)
    · -- owned
      rename_i s' m0 n
      split at hc <;> (try cases hc)
      rename_i hss
      subst hss
      simp only [Option.bind_eq_some_iff] at hc
      obtain ⟨cs, hcs, hc⟩ := hc
      split at hc <;> (try cases hc)
      rename_i hnl
      obtain ⟨b, ca, eo, hb1, hb2, hb3, hb4⟩ := hi.cells (.blk m0) cs hcs
      have hcl := hb3.len
      have hlive : Live ι H b := ⟨.blk m0, live_iff.2 (.inl ⟨cs, hcs⟩), hb1⟩
      simp only [VR] at hp
      obtain ⟨sb, cap, hp1, hp2, hp3⟩ := hp
      have hlen : (H.kill (.blk m0)).bl.length = H.bl.length := by simp [Heap.kill]
      by_cases hfit : n + lenOf q ≤ cap
      · -- in its place
        rcases hp3 with h0 | ⟨b', N, hg1, hg2, hg3, hg4⟩
        · omega
        · rw [hg1] at hb1; cases hb1
          have hN : N = ca.size := by unfold Zc.csize at hg3; rw [hb2] at hg3; simpa using hg3.symm
          have hoff : n * i.size + us.length ≤ ca.size := by
            have : (n + lenOf q) * i.size ≤ cap * i.size := Nat.mul_le_mul_right _ hfit
            rw [Nat.add_mul] at this
            omega
          have hst := run_store' (P := P) (o := n * i.size) hb2 hone' hoff
          have hr := run_append_fit (P := P) (w := w) (ty := o.type) hat (sbase := sb) (xbase := xb) (n := n) (cap := cap) (k := lenOf q) (xcap := xc) hus hx5 hfit (w' := w.setCells b (n * i.size) us)
            (fun ad had => by rw [hg2] at had; cases had; rw [addr_add, Nat.zero_add]; exact hst) (fun h => by rw [hg2] at h; cases h)
          rw [← hp1, ← hx1] at hr
          have hw := WTo.set (o := n * i.size) hb2 us
          obtain ⟨i1, _⟩ := setCells_heap b eo (0, 0) us (n * i.size) ca w hb2
          have hik := hi.kill m0
          have hnl' : ¬ Live ι (H.kill (.blk m0)) b := by
            rintro ⟨j, h1, h2⟩
            obtain ⟨h3, h4⟩ := live_kill h1
            exact h3 (hi.inj j (.blk m0) b h4 (live_iff.2 (.inl ⟨cs, hcs⟩)) h2 hg1)
          have hnf : ¬ F b := fun h => hi.dis b h hlive
          have hcr : CR w F ι.glob (cs.take (n * i.size) ++ new) (setAll ca (n * i.size) us) := by
            intro j y hy
            rw [setAll_get us ca _ j hoff]
            by_cases hj : j < n * i.size
            · rw [if_neg (by omega)]
              rw [List.getElem?_append_left (by simp; omega), List.getElem?_take, if_pos hj] at hy
              exact hb3 j y hy
            · rw [List.getElem?_append_right (by simp; omega)] at hy
              simp only [List.length_take, Nat.min_eq_left hnl] at hy
              have hlt := (List.getElem?_eq_some_iff.1 hy).1
              rw [if_pos (by omega)]
              exact hx4g.get _ y hy
          obtain ⟨h2, h3⟩ := hik.add hw hnl' hnf i1 hcr (setAll_one hb4 hone' hoff)
          refine ⟨_, _, F, _, .inl (hrun hr), ?_, h2, Ext.killadd hi hw (.inl hlive), h3⟩
          simp only [VR]
          refine ⟨sb, cap, rfl, hfit, .inr ⟨b, N, ?_, hg2, ?_, hg4⟩⟩
          · rw [IM.get_push, hi.len, if_pos rfl]
          · unfold Zc.csize
            rw [i1]
            simp [setAll_size, hN]
      · -- in new memory
        have holds : ∃ olds : List Value, olds.length = n * i.size ∧ VRl w F ι.glob (cs.take (n * i.size)) olds ∧ (∀ v ∈ olds, oneV v = true) ∧
            (olds = [] ∨ ∃ b o, sb = some ⟨b, o, none⟩ ∧ ∀ (j : Nat) (v : Value), olds[j]? = some v → w.cell? ⟨b, o + j, none⟩ = some v) := by
          rcases hp3 with h0 | ⟨b', N, hg1, hg2, hg3, hg4⟩
          · have : n = 0 := by omega
            subst this
            exact ⟨[], by simp, by simp [VRl], by simp, .inl rfl⟩
          · rw [hg1] at hb1; cases hb1
            obtain ⟨us', k1, k2, k3⟩ := hb3.vals hb2 0 (n * i.size) (by omega)
            refine ⟨us', k1, by simpa [IM.of] using k2, ?_, .inr ⟨b, 0, hg2, k3⟩⟩
            intro v hv
            obtain ⟨j, hj, rfl⟩ := List.mem_iff_getElem.1 hv
            have := k3 j _ (List.getElem?_eq_getElem hj)
            simp only [World.cell?, hb2] at this
            exact hb4 _ _ (by simpa using this)
        obtain ⟨olds, q1, q2, q3, q4⟩ := holds
        obtain ⟨m, hm, hr⟩ := run_append_grow (P := P) (w := w) (ty := o.type) hat (sbase := sb) (n := n) (cap := cap) (k := lenOf q) (xcap := xc) (olds := olds) q1 hus q4 hx5 hp2 hfit hby (by simpa [lenOf] using hroom)
        rw [← hp1, ← hx1] at hr
        have hw := WTo.new w (.cells ((olds ++ us).toArray ++ Builtin.zeroCells zv.cells (m - (n + lenOf q))) e)
        have hw' : WTo w { w with drawn := w.drawn + 1, heap := w.heap.push (.cells ((olds ++ us).toArray ++ Builtin.zeroCells zv.cells (m - (n + lenOf q))) e) } w.heap.size := ⟨hw.os, hw.tape, hw.output, hw.size, hw.lt, hw.other, hw.csz⟩
        have hik := hi.kill m0
        obtain ⟨hd, hf⟩ := hik.new_dead
        have hcr : CR w F ι.glob (cs.take (n * i.size) ++ new) ((olds ++ us).toArray ++ Builtin.zeroCells zv.cells (m - (n + lenOf q))) := by
          exact CR.front (rest := (Builtin.zeroCells zv.cells (m - (n + lenOf q))).toList) (VRl.append q2 hx4g) (by simp)
        obtain ⟨h2, h3⟩ := hik.add hw' hd hf (e := e) (cs := cs.take (n * i.size) ++ new) (by simp) hcr (get_of_mem (by
          have := oneV_append (oneV_append q3 hone') (hzc (m - (n + lenOf q)))
          simpa using this))
        refine ⟨_, _, F, _, .inl (hrun hr), ?_, h2, Ext.killadd hi hw' (.inr (Nat.le_refl _)), h3⟩
        simp only [VR]
        refine ⟨_, m, rfl, hm, .inr ⟨w.heap.size, ((olds ++ us).toArray ++ Builtin.zeroCells zv.cells (m - (n + lenOf q))).size, by rw [IM.get_push, hi.len, if_pos rfl], rfl, by simp [csize], ?_⟩⟩
        rw [Array.size_append, hzlen]
        simp only [List.size_toArray, List.length_append, q1, hus, Nat.zero_add]
        rw [← Nat.add_mul, ← Nat.add_mul]
        exact Nat.mul_le_mul_right _ (by omega)


theorem appz_ok (hi : Inv w F ι H) {o : Oper} {t u e : TypeId} {s x : Operand} (ho : o.op = .call { callee := .builtin .append, args := #[s, x], argTypes := #[t, u] }) {i : TypeInfo} {k0 : IntKind} (ht : P.underlying t = some (.slice e))
    (hu : P.underlying u = some (.int k0)) (hin : P.info? e = some i) {z : List CV} (hz : zeroCs P e = some z) {p q v : CV} {H' : Heap} (hp : VR w F ι p (a.eval s)) (hq : VR w F ι q (a.eval x))
    (hc : heapOp (.appz i.size i.bytes z) [p, q] H = some (v, H')) : HOk P w F ι H a o v H' := by
  have hrun : ∀ {v' : Value} {w' : World}, (Builtin.append_ #[t, u] o.type #[a.eval s, a.eval x]).run P w = .ok v' w' → (execOp a.eval o).run P w = .ok (.value v') w' := by
    intro v' w' h
    simp only [execOp, ho, resolve, Sem.run_bind, invoke, Sem.run_pure, Result.andThen_ok, builtin, List.map_toArray, List.map_cons, List.map_nil, h]
  obtain ⟨zv, hz1, _⟩ := run_zero (P := P) (w := w) (F := F) (ι := ι) hz
  have hz2 : VRl w F ι.glob z zv.cells.toList := by
    obtain ⟨zv', h1, h2⟩ := run_zero (P := P) (w := w) (F := F) (ι := ι.glob) hz
    rw [h1] at hz1; cases hz1; exact h2
  have hzw : ∀ w' : World, (zeroValue e).run P w' = .ok zv w' := by
    intro w'
    simp only [zeroCs, Option.bind_eq_some_iff] at hz
    obtain ⟨zz, ⟨j, g1, g2⟩, _⟩ := hz
    have : (zeroValue e).run P w = .ok zz w := by simp [zeroValue, typeInfo, g1, g2]
    rw [this] at hz1; cases hz1
    simp [zeroValue, typeInfo, g1, g2]
  cases q <;> (try (simp [heapOp] at hc; done))
  rename_i k1 l
  simp only [heapOp] at hc
  split at hc
  · -- nothing is appended
    rename_i hl0
    subst hl0
    split at hc <;> (try cases hc)
    rename_i hsl
    obtain ⟨b1, c1, e1, l1⟩ := isSl_ok hsl hp
    simp only [VR, BR] at hq
    refine ⟨a.eval s, w, F, ι, .inl (hrun ?_), hp, hi, Ext.refl _ _ _ _, ⟨⟨fun _ h => h, fun _ _ => rfl⟩, fun _ _ h => h, fun _ _ h => h⟩⟩
    rw [e1, hq]
    exact run_append_none ht hu hin l1
  split at hc <;> (try cases hc)
  rename_i hb
  simp only [Bool.and_eq_true, Bool.not_eq_true', decide_eq_true_eq] at hb
  obtain ⟨⟨⟨⟨⟨⟨⟨hnil, hsz⟩, hby⟩, hl0⟩, hroom⟩, hzl⟩, hzone⟩, hzloc⟩ := hb
  cases p <;> (try (simp [isNils] at hnil; done))
  obtain ⟨n, rfl⟩ := Int.eq_ofNat_of_zero_le (Int.le_of_lt hl0)
  have hn0 : 0 < n := by omega
  have hroom' : n * i.bytes ≤ 140737488355328 := by
    have : ((n * i.bytes : Nat) : Int) ≤ ((140737488355328 : Nat) : Int) := by rw [Int.natCast_mul]; exact hroom
    omega
  simp only [VR, BR] at hp hq
  have hzs : zv.cells.size = i.size := by have := VRl.length hz2; simpa [hzl] using this
  have hzc : ∀ n, ∀ v ∈ (Builtin.zeroCells zv.cells n).toList, oneV v = true := fun n => ones_oneV (zeroCells_repC hz2 n) (repC_ones hzone n)
  have hzlen : ∀ n, (Builtin.zeroCells zv.cells n).size = n * i.size := by
    intro n
    have := VRl.length (zeroCells_repC hz2 n)
    rw [repC_length, hzl] at this
    simpa using this
  obtain ⟨m, hm, hr⟩ := run_append_zeros (P := P) (w := w) (ty := o.type) (k1 := k1) ht hu hin hzw hsz hn0 hby hroom'
  rw [← hp, ← hq] at hr
  have hw := WTo.new w (.cells (Builtin.zeroCells zv.cells n ++ Builtin.zeroCells zv.cells (m - n)) e)
  have hw' : WTo w { w with drawn := w.drawn + 1, heap := w.heap.push (.cells (Builtin.zeroCells zv.cells n ++ Builtin.zeroCells zv.cells (m - n)) e) } w.heap.size := ⟨hw.os, hw.tape, hw.output, hw.size, hw.lt, hw.other, hw.csz⟩
  obtain ⟨hd, hf⟩ := hi.new_dead
  have hcr : CR w F ι.glob (repC z n) (Builtin.zeroCells zv.cells n ++ Builtin.zeroCells zv.cells (m - n)) :=
    CR.front (rest := (Builtin.zeroCells zv.cells (m - n)).toList) (zeroCells_repC hz2 n) (by simp)
  obtain ⟨h2, h3⟩ := hi.add hw' hd hf (e := e) (cs := repC z n) (by simp) hcr (get_of_mem (by simpa using oneV_append (hzc n) (hzc (m - n))))
  refine ⟨_, _, F, _, .inl (hrun hr), ?_, h2, Ext.add hi hw' (.inr (Nat.le_refl _)), h3⟩
  simp only [VR, Int.toNat_natCast]
  refine ⟨_, m, rfl, hm, .inr ⟨w.heap.size, (Builtin.zeroCells zv.cells n ++ Builtin.zeroCells zv.cells (m - n)).size, by rw [IM.get_push, hi.len, if_pos rfl], rfl, by simp [csize], ?_⟩⟩
  rw [Array.size_append, hzlen, hzlen, Nat.zero_add, ← Nat.add_mul]
  exact Nat.mul_le_mul_right _ (by omega)

theorem copy_ok (hi : Inv w F ι H) {o : Oper} {t u e : TypeId} {d x : Operand} (ho : o.op = .call { callee := .builtin .copy, args := #[d, x], argTypes := #[t, u] }) {n : Nat} (ht : P.underlying t = some (.slice e)) (hn : szOf P e = some n)
    {p q v : CV} {H' : Heap} (hp : VR w F ι p (a.eval d)) (hq : VR w F ι q (a.eval x)) (hc : heapOp (.copy n) [p, q] H = some (v, H')) : HOk P w F ι H a o v H' := by
  simp only [heapOp, Option.bind_eq_some_iff] at hc
  obtain ⟨new, hnew, hc⟩ := hc
  split at hc <;> (try cases hc)
  rename_i hb
  simp only [Bool.and_eq_true, Bool.not_eq_true'] at hb
  obtain ⟨xb, xc, us, hx1, hx2, hx3, hx4, hx5⟩ := shown_ok hi hnew hq
  unfold copyC at hc
  split at hc <;> (try cases hc)
  rename_i s id off len
  split at hc <;> (try cases hc)
  rename_i hs
  subst hs
  simp only [Option.bind_eq_some_iff] at hc
  obtain ⟨cs, hcs, hc⟩ := hc
  split at hc <;> (try cases hc)
  rename_i hcap
  obtain ⟨b, ca, eo, hb1, hb2, hb3, hb4⟩ := hi.cells id cs hcs
  have hcl := hb3.len
  simp only [VR] at hp
  obtain ⟨sb, cap, hp1, hp2, hp3⟩ := hp
  have hk : min (lenOf q) len * s ≤ len * s := Nat.mul_le_mul_right _ (Nat.min_le_right _ _)
  have hkq : min (lenOf q) len * s ≤ lenOf q * s := Nat.mul_le_mul_right _ (Nat.min_le_left _ _)
  have hone := ones_oneV hx4 hb.1
  have hx4n := noloc_of (i := id) hx4 (.inr hb.2)
  have hl : (new.take (min (lenOf q) len * s)).length = min (lenOf q) len * s := by simp; omega
  have hl' : (us.take (min (lenOf q) len * s)).length = min (lenOf q) len * s := by simp; omega
  have hread : us.take (min (lenOf q) len * s) = [] ∨ ∃ b o, xb = some ⟨b, o, none⟩ ∧ ∀ (j : Nat) (v : Value), (us.take (min (lenOf q) len * s))[j]? = some v → w.cell? ⟨b, o + j, none⟩ = some v := by
    rcases hx5 with rfl | ⟨b, o, h1, h2⟩
    · exact .inl (by simp)
    · refine .inr ⟨b, o, h1, fun j v hj => ?_⟩
      rw [List.getElem?_take] at hj
      split at hj
      · exact h2 j v hj
      · cases hj
  have hf := run_first (P := P) (w := w) (cap := xc) (n := min (lenOf q) len) (base := xb) hl' hread
  have hf' : (Builtin.firstCells s (min (lenOf q) len) (.slice xb (lenOf q) xc)).run P w = .ok (us.take (min (lenOf q) len * s)).toArray w := by
    cases xb <;> exact hf
  have hone2 : ∀ v ∈ us.take (min (lenOf q) len * s), oneV v = true := fun v hv => hone v (List.mem_of_mem_take hv)
  have hst : ∀ ad, sb = some ad → (storeCells ad (us.take (min (lenOf q) len * s))).run P w = .ok () (w.setCells b off (us.take (min (lenOf q) len * s))) := by
    intro ad had
    rcases hp3 with h0 | ⟨b', N, hg1, hg2, hg3, hg4⟩
    · have h0' : len = 0 := by omega
      have : min (lenOf q) len * s = 0 := by rw [h0']; simp
      rw [this]
      rfl
    · rw [hg1] at hb1; cases hb1
      rw [hg2] at had; cases had
      exact run_store' hb2 hone2 (by omega)
  have hsome : sb = none → w.setCells b off (us.take (min (lenOf q) len * s)) = w := by
    intro h
    rcases hp3 with h0 | ⟨b', N, hg1, hg2, hg3, hg4⟩
    · have h0' : len = 0 := by omega
      have : min (lenOf q) len * s = 0 := by rw [h0']; simp
      rw [this]
      rfl
    · rw [hg2] at h; cases h
  have hrun : (execOp a.eval o).run P w = .ok (.value (.int .i64 (min (lenOf q) len : Nat))) (w.setCells b off (us.take (min (lenOf q) len * s))) := by
    have : (Builtin.copy_ #[t, u] o.type #[a.eval d, a.eval x]).run P w = .ok (goInt (min (lenOf q) len : Nat)) (w.setCells b off (us.take (min (lenOf q) len * s))) := by
      rw [hp1, hx1]
      have hmin : Nat.min (lenOf q) len = min (lenOf q) len := rfl
      cases hsb : sb with
      | none =>
        rw [hsome hsb]
        simp [Builtin.copy_, run_under ht, run_sizeOf' hn, Builtin.lenOf, hf', hmin]
      | some ad =>
        have h2 := hst ad hsb
        simp [Builtin.copy_, run_under ht, run_sizeOf' hn, Builtin.lenOf, hf', h2, hmin]
    simp only [execOp, ho, resolve, Sem.run_bind, invoke, Sem.run_pure, Result.andThen_ok, builtin, List.map_toArray, List.map_cons, List.map_nil, this]
    rfl
  exact upd_ok hi hcs hb1 hb2 hb3 hb4 (hx4n.take _) hone2 (by omega) (fun w' => vr_int _ _) (.inl hrun)

theorem clear_ok (hi : Inv w F ι H) {o : Oper} {t e : TypeId} {x : Operand} (ho : o.op = .call { callee := .builtin .clear, args := #[x], argTypes := #[t] }) {n : Nat} (ht : P.underlying t = some (.slice e)) (hn : szOf P e = some n)
    {z : List CV} (hz : zeroCs P e = some z) {p v : CV} {H' : Heap} (hp : VR w F ι p (a.eval x)) (hc : heapOp (.clear n z) [p] H = some (v, H')) : HOk P w F ι H a o v H' := by
  simp only [heapOp] at hc
  split at hc <;> (try cases hc)
  rename_i hb
  simp only [Bool.and_eq_true, Bool.not_eq_true', decide_eq_true_eq] at hb
  obtain ⟨⟨hone, hloc⟩, hzl⟩ := hb
  simp only [Option.map_eq_some_iff, Prod.mk.injEq] at hc
  obtain ⟨Hn, hc, rfl, rfl⟩ := hc
  unfold clearC at hc
  split at hc <;> (try cases hc)
  rename_i s id off len
  split at hc <;> (try cases hc)
  rename_i hs
  subst hs
  simp only [Option.bind_eq_some_iff] at hc
  obtain ⟨cs, hcs, hc⟩ := hc
  split at hc <;> (try cases hc)
  rename_i hcap
  obtain ⟨zv, hz1, _⟩ := run_zero (P := P) (w := w) (F := F) (ι := ι) hz
  have hz2 : VRl w F (ι.of id) z zv.cells.toList := by
    obtain ⟨zv', h1, h2⟩ := run_zero (P := P) (w := w) (F := F) (ι := ι.of id) hz
    rw [h1] at hz1; cases hz1; exact h2
  have hrep := zeroCells_repC hz2 len
  have hro := ones_oneV hrep (repC_ones hone len)
  have hlen : (repC z len).length = len * s := by rw [repC_length, hzl]
  have hlen2 := VRl.length hrep
  obtain ⟨b, ca, eo, hb1, hb2, hb3, hb4⟩ := hi.cells id cs hcs
  have hcl := hb3.len
  simp only [VR] at hp
  obtain ⟨sb, cap, hp1, hp2, hp3⟩ := hp
  have hrun : (execOp a.eval o).run P w = .ok (.value (.tuple #[])) (w.setCells b off (Builtin.zeroCells zv.cells len).toList) := by
    have : (Builtin.clear_ #[t] o.type #[a.eval x]).run P w = .ok (.tuple #[]) (w.setCells b off (Builtin.zeroCells zv.cells len).toList) := by
      rw [hp1]
      rcases hp3 with h0 | ⟨b', N, hg1, hg2, hg3, hg4⟩
      · have h0' : len = 0 := by omega
        subst h0'
        have : (Builtin.zeroCells zv.cells 0).toList = [] := by
          apply List.length_eq_zero_iff.1
          rw [hlen2, hlen]; simp
        rw [this]
        cases sb <;> simp [Builtin.clear_, run_under ht, World.setCells]
      · rw [hg1] at hb1; cases hb1
        have hst := run_store' (P := P) (o := off) hb2 hro (by omega)
        rw [hg2]
        cases len with
        | zero =>
          have : (Builtin.zeroCells zv.cells 0).toList = [] := by
            apply List.length_eq_zero_iff.1
            rw [hlen2, hlen]; simp
          rw [this]
          simp [Builtin.clear_, run_under ht, World.setCells]
        | succ k => simp [Builtin.clear_, run_under ht, hz1, hst]
    simp only [execOp, ho, resolve, Sem.run_bind, invoke, Sem.run_pure, Result.andThen_ok, builtin, List.map_toArray, List.map_cons, List.map_nil, this]
  exact upd_ok hi hcs hb1 hb2 hb3 hb4 hrep hro (by omega) (fun w' => by simp only [VR]; exact ⟨#[], rfl, by simp [VRl]⟩) (.inl hrun)

end
end Go.Zc
end
