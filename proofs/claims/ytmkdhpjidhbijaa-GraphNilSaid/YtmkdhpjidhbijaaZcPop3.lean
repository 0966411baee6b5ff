/- The rest of them, and all at once. No condition. -/
import Derived.Test.YtmkdhpjidhbijaaZcPop2
set_option linter.all false
namespace Go.Zc

section
variable {P : Program} {w : World} {F : Nat → Prop} {ι : IM} {env : Env} {a : Act}

theorem oopd_ok (he : EnvR w F ι env a) {x : Option Operand} {ys : List Opd} (h : oopd x = some ys) :
    (x = none ∧ ys = []) ∨ ∃ o y, x = some o ∧ ys = [y] ∧ VR w F ι (ev env y) (a.eval o) := by
  cases x with
  | none => simp only [oopd, Option.some.injEq] at h; exact .inl ⟨rfl, h.symm⟩
  | some o =>
    simp only [oopd, Option.map_eq_some_iff] at h
    obtain ⟨y, h1, rfl⟩ := h
    exact .inr ⟨o, y, rfl, rfl, opd_ok he h1⟩

/-- A bound of a slice expression: what it comes to in the model. -/
theorem sbound_ok {x : Option CV} {v : Option Value} {dflt most n : Nat} (h : sbound x dflt most = some n) (hv : (x = none ∧ v = none) ∨ ∃ c u, x = some c ∧ v = some u ∧ VR w F ι c u) :
    (v = none ∧ n = dflt) ∨ ∃ k, v = some (.int k n) ∧ n ≤ most := by
  rcases hv with ⟨rfl, rfl⟩ | ⟨c, u, rfl, rfl, hcu⟩
  · simp only [sbound, Option.some.injEq] at h
    exact .inl ⟨rfl, h.symm⟩
  · cases c <;> simp only [sbound, reduceCtorEq] at h
    rename_i k m
    split at h
    · rename_i hb
      cases h
      refine .inr ⟨k, ?_, by omega⟩
      rw [hcu.int]
      congr 2
      omega
    · cases h

theorem run_bound {k : IntKind} {n y : Nat} (h : n ≤ y) (c : BoundsCode) : (Instr.sliceBound (.int k n) y c).run P w = .ok n w := by
  have h1 : (0 : Int) ≤ (n : Int) ∧ (n : Int) ≤ (y : Int) := by omega
  simp [Instr.sliceBound, asIntOf, h1]

theorem run_bounds {len cap hn ln : Nat} {lo hi : Option Value} (hcap : len ≤ cap) (hh : (hi = none ∧ hn = len) ∨ ∃ k, hi = some (.int k hn) ∧ hn ≤ len)
    (hl : (lo = none ∧ ln = 0) ∨ ∃ k, lo = some (.int k ln) ∧ ln ≤ hn) : (Instr.sliceBounds true len cap lo hi none).run P w = .ok (ln, hn, cap) w := by
  rcases hh with ⟨rfl, rfl⟩ | ⟨k, rfl, hh⟩ <;> rcases hl with ⟨rfl, rfl⟩ | ⟨k', rfl, hl⟩
  · simp [Instr.sliceBounds]
  · simp [Instr.sliceBounds, run_bound hl]
  · simp [Instr.sliceBounds, run_bound (P := P) (w := w) (k := k) (n := hn) (y := cap) (by omega)]
  · simp [Instr.sliceBounds, run_bound (P := P) (w := w) (k := k) (n := hn) (y := cap) (by omega), run_bound hl]

theorem slc_ok {o : Oper} {t e : TypeId} {x : Operand} {lo hi : Option Operand} {n : Nat} (ho : o.op = .slice t x lo hi none) (ht : P.underlying t = some (.slice e)) (hn : szOf P e = some n)
    {p : CV} {l h : Option CV} {c : CV} (hp : VR w F ι p (a.eval x)) (hl : (l = none ∧ lo.map a.eval = none) ∨ ∃ c u, l = some c ∧ lo.map a.eval = some u ∧ VR w F ι c u)
    (hh : (h = none ∧ hi.map a.eval = none) ∨ ∃ c u, h = some c ∧ hi.map a.eval = some u ∧ VR w F ι c u) (hc : slcC n p l h = some c) : POk P w F ι a o c := by
  have step : ∀ {v : Value}, (Instr.slice t (a.eval x) (lo.map a.eval) (hi.map a.eval) none).run P w = .ok v w → VR w F ι c v → POk P w F ι a o c := by
    intro v h1 h2
    refine ⟨v, ?_, h2⟩
    simp only [execOp, ho, Sem.run_bind, Instr.sliceAt, run_under ht, Result.andThen_ok, Option.map_none]
    rw [h1]; rfl
  unfold slcC at hc
  split at hc
  · simp only [Option.bind_eq_some_iff, Option.map_eq_some_iff] at hc
    obtain ⟨hn', h1, ln, h2, rfl⟩ := hc
    have e1 := sbound_ok h1 hh
    have e2 := sbound_ok h2 hl
    have hz : hn' = 0 ∧ ln = 0 := by
      rcases e1 with ⟨_, e⟩ | ⟨_, _, e⟩ <;> rcases e2 with ⟨_, e'⟩ | ⟨_, _, e'⟩ <;> omega
    obtain ⟨rfl, rfl⟩ := hz
    simp only [VR, BR] at hp
    refine step (v := .slice none 0 0) ?_ (by simp [VR, BR])
    have := run_bounds (P := P) (w := w) (len := 0) (cap := 0) (hn := 0) (ln := 0) (Nat.le_refl _) (e1.imp (fun h => ⟨h.1, rfl⟩) fun ⟨k, h, _⟩ => ⟨k, h, by omega⟩) (e2.imp (fun h => ⟨h.1, rfl⟩) fun ⟨k, h, _⟩ => ⟨k, h, by omega⟩)
    simp only [Instr.slice, Sem.run_bind, run_under ht, Result.andThen_ok, hp, this, run_sizeOf' hn]
    simp
  · rename_i cs len
    simp only [Option.bind_eq_some_iff, Option.map_eq_some_iff] at hc
    obtain ⟨hn', h1, ln, h2, rfl⟩ := hc
    have e1 := sbound_ok h1 hh
    have e2 := sbound_ok h2 hl
    simp only [VR, BR] at hp
    obtain ⟨base, cap, hb, hcap, hcs⟩ := hp
    have hhn : hn' ≤ len := by rcases e1 with ⟨_, e⟩ | ⟨_, _, e⟩ <;> omega
    have hln : ln ≤ hn' := by rcases e2 with ⟨_, e⟩ | ⟨_, _, e⟩ <;> omega
    have := run_bounds (P := P) (w := w) (len := len) (cap := cap) (hn := hn') (ln := ln) hcap (e1.imp (fun h => h) fun ⟨k, h, _⟩ => ⟨k, h, by omega⟩) (e2.imp (fun h => ⟨h.1, h.2⟩) fun ⟨k, h, _⟩ => ⟨k, h, by omega⟩)
    refine step (v := .slice (if cap = ln then base else base.map (·.add (ln * n))) (hn' - ln) (cap - ln)) ?_ ?_
    · simp only [Instr.slice, Sem.run_bind, run_under ht, Result.andThen_ok, hb, this, run_sizeOf' hn]
      simp
    · simp only [VR, BR]
      refine ⟨_, _, rfl, by omega, ?_⟩
      rcases hcs with rfl | ⟨b, off, rfl, h4, h5⟩
      · exact .inl (by simp)
      · by_cases hcl : cap = ln
        · left
          have : hn' = ln := by omega
          subst this
          simp
        · right
          refine ⟨b, off + ln * n, by rw [if_neg hcl]; simp [addr_add], h4, (h5.take _).drop _⟩
  · rename_i s i off len
    split at hc
    · rename_i hs
      subst hs
      simp only [Option.bind_eq_some_iff, Option.map_eq_some_iff] at hc
      obtain ⟨hn', h1, ln, h2, rfl⟩ := hc
      have e1 := sbound_ok h1 hh
      have e2 := sbound_ok h2 hl
      simp only [VR] at hp
      obtain ⟨base, cap, hb, hcap, hcs⟩ := hp
      have hhn : hn' ≤ len := by rcases e1 with ⟨_, e⟩ | ⟨_, _, e⟩ <;> omega
      have hln : ln ≤ hn' := by rcases e2 with ⟨_, e⟩ | ⟨_, _, e⟩ <;> omega
      have := run_bounds (P := P) (w := w) (len := len) (cap := cap) (hn := hn') (ln := ln) hcap (e1.imp (fun h => h) fun ⟨k, h, _⟩ => ⟨k, h, by omega⟩) (e2.imp (fun h => ⟨h.1, h.2⟩) fun ⟨k, h, _⟩ => ⟨k, h, by omega⟩)
      refine step (v := .slice (if cap = ln then base else base.map (·.add (ln * s))) (hn' - ln) (cap - ln)) ?_ ?_
      · simp only [Instr.slice, Sem.run_bind, run_under ht, Result.andThen_ok, hb, this, run_sizeOf' hn]
        simp
      · simp only [VR]
        refine ⟨_, _, rfl, by omega, ?_⟩
        by_cases hcl : cap = ln
        · exact .inl (by omega)
        · rcases hcs with hcs | ⟨b, m, h4, rfl, h5, h6⟩
          · omega
          · right
            refine ⟨b, m, h4, by rw [if_neg hcl]; simp [addr_add], h5, ?_⟩
            have : ln * s + (cap - ln) * s = cap * s := by rw [← Nat.add_mul]; congr 1; omega
            omega
    · cases hc
  · cases hc

/-- A call of a builtin that hands back a value. -/
theorem builtin_ok {o : Oper} {b : Builtin} {args : Array Operand} {ats : Array TypeId} (ho : o.op = .call { callee := .builtin b, args := args, argTypes := ats }) {v : Value} {c : CV}
    (h : (builtin b ats o.type (args.map fun | .const _ => true | _ => false) (args.map a.eval)).run P w = .ok (.value v) w) (hv : VR w F ι c v) : POk P w F ι a o c := by
  refine ⟨v, ?_, hv⟩
  simp only [execOp, ho, resolve, Sem.run_bind, invoke, Sem.run_pure, Result.andThen_ok]
  exact h

theorem len_ok {o : Oper} {t e : TypeId} {x : Operand} (ho : o.op = .call { callee := .builtin .len, args := #[x], argTypes := #[t] })
    (ht : P.underlying t = some (.slice e)) {p c : CV} (hp : VR w F ι p (a.eval x)) (h : lenC p = some c) : POk P w F ι a o c := by
  have step : ∀ {v : Value}, (Builtin.len_ #[t] o.type #[a.eval x]).run P w = .ok v w → VR w F ι c v → POk P w F ι a o c := by
    intro v h1 h2
    refine builtin_ok ho ?_ h2
    simp only [builtin, Sem.run_bind, List.map_toArray, List.map_cons, List.map_nil, h1, Result.andThen_ok, Sem.run_pure]
  unfold lenC at h
  split at h <;> (try cases h)
  · simp only [VR, BR] at hp
    exact step (v := goInt 0) (by simp [Builtin.len_, run_under ht, hp]) (vr_int _ _)
  · simp only [VR] at hp
    obtain ⟨base, cap, hb, _⟩ := hp
    exact step (by simp [Builtin.len_, run_under ht, hb]; rfl) (vr_int _ _)
  · simp only [VR, BR] at hp
    obtain ⟨base, cap, hb, _⟩ := hp
    exact step (by simp [Builtin.len_, run_under ht, hb]; rfl) (vr_int _ _)

theorem cap_ok {o : Oper} {t e : TypeId} {x : Operand} (ho : o.op = .call { callee := .builtin .cap, args := #[x], argTypes := #[t] })
    (ht : P.underlying t = some (.slice e)) {p c : CV} (hp : VR w F ι p (a.eval x)) (h : capC p = some c) : POk P w F ι a o c := by
  unfold capC at h
  split at h <;> (try cases h)
  simp only [VR, BR] at hp
  refine builtin_ok ho (v := goInt 0) ?_ (vr_int _ _)
  simp [builtin, Builtin.cap_, run_under ht, hp]

theorem lenS_ok {o : Oper} {t : TypeId} {x : Operand} (ho : o.op = .call { callee := .builtin .len, args := #[x], argTypes := #[t] })
    (ht : P.underlying t = some .string) {p c : CV} (hp : VR w F ι p (a.eval x)) (h : lenSC p = some c) : POk P w F ι a o c := by
  unfold lenSC at h
  split at h <;> (try cases h)
  refine builtin_ok ho (v := goInt _) ?_ (vr_int _ _)
  simp [builtin, Builtin.len_, run_under ht, hp.str]

theorem lenK_ok {o : Oper} {t e : TypeId} {n : Nat} {x : Operand} (ho : o.op = .call { callee := .builtin .len, args := #[x], argTypes := #[t] })
    (ht : P.underlying t = some (.array n e)) : POk P w F ι a o (.int .i64 n) := by
  refine builtin_ok ho (v := goInt n) ?_ (vr_int _ _)
  simp [builtin, Builtin.len_, run_under ht]

theorem cplx_ok {o : Oper} {ats : Array TypeId} {x y : Operand} (ho : o.op = .call { callee := .builtin .complex, args := #[x, y], argTypes := ats }) {p q c : CV}
    (hp : VR w F ι p (a.eval x)) (hq : VR w F ι q (a.eval y)) (h : cplxC p q = some c) : POk P w F ι a o c := by
  unfold cplxC at h
  split at h <;> (try cases h)
  split at h <;> (try cases h)
  rename_i k x' k2 y' hk
  subst hk
  refine builtin_ok ho (v := .complex _ _ _) ?_ (vr_cplx _ _ _)
  have e : Builtin.complex_ ats o.type #[.float k x', .float k y'] = if k = k then pure (.complex k x' y') else stuck "complex: parts of different kinds" := rfl
  simp [builtin, hp.float, hq.float, e]

theorem re_ok {o : Oper} {ats : Array TypeId} {x : Operand} (ho : o.op = .call { callee := .builtin .real, args := #[x], argTypes := ats }) {p c : CV}
    (hp : VR w F ι p (a.eval x)) (h : reC p = some c) : POk P w F ι a o c := by
  unfold reC at h
  split at h <;> (try cases h)
  refine builtin_ok ho (v := .float _ _) ?_ (vr_float _ _)
  rename_i k x' y'
  have e : Builtin.real_ ats o.type #[.complex k x' y'] = pure (.float k x') := rfl
  simp [builtin, hp.cplx, e]

theorem im_ok {o : Oper} {ats : Array TypeId} {x : Operand} (ho : o.op = .call { callee := .builtin .imag, args := #[x], argTypes := ats }) {p c : CV}
    (hp : VR w F ι p (a.eval x)) (h : imC p = some c) : POk P w F ι a o c := by
  unfold imC at h
  split at h <;> (try cases h)
  refine builtin_ok ho (v := .float _ _) ?_ (vr_float _ _)
  rename_i k x' y'
  have e : Builtin.imag_ ats o.type #[.complex k x' y'] = pure (.float k y') := rfl
  simp [builtin, hp.cplx, e]

theorem foldMin_ok : ∀ (cs : List CV) (us : List Value) (x c : CV) (u : Value), VRl w F ι cs us → VR w F ι x u → foldC min2C x cs = some c → ∃ v, (us.foldlM (m := Sem) Builtin.min2 u).run P w = .ok v w ∧ VR w F ι c v
  | [], us, x, c, u, hc, hx, h => by
    simp only [VRl] at hc; subst hc
    simp only [foldC, Option.some.injEq] at h; subst h
    exact ⟨u, by simp, hx⟩
  | y :: cs, us, x, c, u, hc, hx, h => by
    simp only [VRl] at hc
    obtain ⟨v, vs, rfl, h1, h2⟩ := hc
    simp only [foldC, Option.bind_eq_some_iff] at h
    obtain ⟨z, h3, h4⟩ := h
    unfold min2C at h3
    split at h3 <;> (try cases h3)
    rename_i k m k' n
    obtain ⟨r, h5, h6⟩ := foldMin_ok cs vs _ c _ h2 (vr_int k (if n < m then n else m)) h4
    refine ⟨r, ?_, h6⟩
    simp only [List.foldlM_cons, Sem.run_bind, hx.int, h1.int, Builtin.min2, Sem.run_pure, Result.andThen_ok]
    exact h5

theorem foldMax_ok : ∀ (cs : List CV) (us : List Value) (x c : CV) (u : Value), VRl w F ι cs us → VR w F ι x u → foldC max2C x cs = some c → ∃ v, (us.foldlM (m := Sem) Builtin.max2 u).run P w = .ok v w ∧ VR w F ι c v
  | [], us, x, c, u, hc, hx, h => by
    simp only [VRl] at hc; subst hc
    simp only [foldC, Option.some.injEq] at h; subst h
    exact ⟨u, by simp, hx⟩
  | y :: cs, us, x, c, u, hc, hx, h => by
    simp only [VRl] at hc
    obtain ⟨v, vs, rfl, h1, h2⟩ := hc
    simp only [foldC, Option.bind_eq_some_iff] at h
    obtain ⟨z, h3, h4⟩ := h
    unfold max2C at h3
    split at h3 <;> (try cases h3)
    rename_i k m k' n
    obtain ⟨r, h5, h6⟩ := foldMax_ok cs vs _ c _ h2 (vr_int k (if n > m then n else m)) h4
    refine ⟨r, ?_, h6⟩
    simp only [List.foldlM_cons, Sem.run_bind, hx.int, h1.int, Builtin.max2, Sem.run_pure, Result.andThen_ok]
    exact h5

theorem minmax_ok {o : Oper} {ats : Array TypeId} {args : Array Operand} {b : Builtin} (ho : o.op = .call { callee := .builtin b, args := args, argTypes := ats }) {p : POp} (hb : b = .min ∧ p = .min ∨ b = .max ∧ p = .max)
    {cs : List CV} {c : CV} (hcs : VRl w F ι cs (args.toList.map a.eval)) (h : pureOp p cs = some c) : POk P w F ι a o c := by
  cases cs with
  | nil => rcases hb with ⟨_, rfl⟩ | ⟨_, rfl⟩ <;> simp [pureOp] at h
  | cons x cs =>
    have hl : (args.map a.eval).toList = args.toList.map a.eval := by simp
    have hcs' := hcs
    simp only [VRl] at hcs'
    obtain ⟨u, us, h1, h2, h3⟩ := hcs'
    rw [h1] at hl
    rcases hb with ⟨rfl, rfl⟩ | ⟨rfl, rfl⟩
    · obtain ⟨v, h4, h5⟩ := foldMin_ok (P := P) cs us x c u h3 h2 (by simpa [pureOp] using h)
      refine builtin_ok ho (v := v) ?_ h5
      simp only [builtin, Builtin.min_, hl, Sem.run_bind, h4, Result.andThen_ok, Sem.run_pure]
    · obtain ⟨v, h4, h5⟩ := foldMax_ok (P := P) cs us x c u h3 h2 (by simpa [pureOp] using h)
      refine builtin_ok ho (v := v) ?_ h5
      simp only [builtin, Builtin.max_, hl, Sem.run_bind, h4, Result.andThen_ok, Sem.run_pure]
end
end Go.Zc
