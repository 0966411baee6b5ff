/- Statements, one behind the other. No condition. -/
import Derived.Test.YtfblegjbmhgepaaZcHeap5
import Derived.Orders
set_option linter.all false
namespace Go.Zc

section
variable {P : Program} {w : World} {F : Nat → Prop} {ι : IM} {H : Heap} {env : Env} {a : Act}

/-- How a frame stands to the interpreter's. -/
structure St (n : Nat) (w : World) (F : Nat → Prop) (ι : IM) (H : Heap) (env : Env) (a : Act) : Prop where
  e : EnvR w F ι env a
  i : Inv w F ι H
  d : a.defers = []
  s : n ≤ a.tmps.size

/-- What calls come to: who calls is told what is handed back, and what has turned. -/
def CallerOk (P : Program) (call : Caller) : Prop :=
  ∀ f args H v H', call f args H = some (v, H') → ∃ k first cap fn, f = .fn (.func k) first cap ∧ P.funcs[k]? = some fn ∧ fn.body.isSome = true ∧ (fn.name == "runtime.NumGoroutine") = false ∧
    ∀ (w : World) (F : Nat → Prop) (ι : IM) (as : List Value), Inv w F ι H → VRl w F ι (first ++ (args ++ cap)) as →
      Calls P k as.toArray w fun e w' => ∃ v' F' ι', e = .returned v' ∧ VR w' F' ι' v v' ∧ Inv w' F' ι' H' ∧ Ext w F ι H w' F' ι' H' ∧ MoV w w' F F' ι ι'

theorem EnvR.mono {w' : World} {F' : Nat → Prop} {ι' : IM} (h : EnvR w F ι env a) (m : MoV w w' F F' ι ι') : EnvR w' F' ι' env a := fun t => VR.mono m _ _ (h t)

theorem look_cons (env : Env) (d t : Nat) (c : CV) : Env.at ((d, c) :: env) t = if t = d then c else Env.at env t := by
  unfold Env.at
  simp only [look]
  by_cases h : t = d
  · subst h; simp
  · simp [beq_ne (fun e => h e.symm), h]

theorem EnvR.put {n : Nat} (h : EnvR w F ι env a) (hs : n ≤ a.tmps.size) {dst : Option Nat} (hd : dst.all (· < n) = true) {c : CV} {v : Value} (hv : VR w F ι c v) : EnvR w F ι (putD env dst c) (a.put dst v) := by
  cases dst with
  | none => exact h
  | some d =>
    intro t
    simp only [Option.all_some, decide_eq_true_eq] at hd
    simp only [putD, Act.put, look_cons]
    by_cases ht : t = d
    · subst ht
      rw [if_pos rfl]
      simp only [Array.getD_eq_getD_getElem?, Array.getElem?_setIfInBounds, if_true]
      rw [if_pos (by omega)]
      exact hv
    · rw [if_neg ht]
      simp only [Array.getD_eq_getD_getElem?, Array.getElem?_setIfInBounds, if_neg (fun e : d = t => ht e.symm)]
      simpa only [Array.getD_eq_getD_getElem?] using h t

theorem put_size (a : Act) (dst : Option Nat) (v : Value) : (a.put dst v).tmps.size = a.tmps.size := by cases dst <;> simp [Act.put]
theorem put_defers (a : Act) (dst : Option Nat) (v : Value) : (a.put dst v).defers = a.defers := by cases dst <;> rfl

theorem St.put {n : Nat} (h : St n w F ι H env a) {dst : Option Nat} (hd : dst.all (· < n) = true) {w' : World} {F' : Nat → Prop} {ι' : IM} {H' : Heap} {c : CV} {v : Value} (hv : VR w' F' ι' c v) (hi : Inv w' F' ι' H') (m : MoV w w' F F' ι ι') :
    St n w' F' ι' H' (putD env dst c) (a.put dst v) :=
  ⟨(h.e.mono m).put h.s hd hv, hi, by rw [put_defers]; exact h.d, by rw [put_size]; exact h.s⟩

/-- What the compiler makes is plain. -/
def plainC : COp → Bool
  | .hb _ | .hl _ _ | .callb | .callp | .callv => false
  | _ => true

theorem all_map' {α β : Type} {p : β → Bool} (o : Option α) {f : α → β} (h : ∀ x, p (f x) = true) : (o.map f).all p = true := by cases o <;> simp [h]
theorem all_bind' {α β : Type} {p : β → Bool} (o : Option α) {f : α → Option β} (h : ∀ x, (f x).all p = true) : (o.bind f).all p = true := by cases o <;> simp [h]

theorem comp1_plain (P : Program) (an : Ann) (d : Option Nat) (o : Op) : (comp1 P an d o).all (fun x => plainC x.1) = true := by
  unfold comp1
  repeat' (first | rfl | (apply all_map'; intro _) | (apply all_bind'; intro _) | split)

/-- One statement that is carried out. -/
theorem stm_ok {call : Caller} (hcall : CallerOk P call) {an : Ann} {o : Oper} {c : COp} {ys : List Opd} (hc : comp1 P an o.dst o.op = some (c, ys)) (he : EnvR w F ι env a) (hi : Inv w F ι H) {v : CV} {H' : Heap}
    (hr : runOp call c (evs env ys) H = some (v, H')) {K : Act → World → Prop} {Q : Exit → Act → World → Prop}
    (hK : ∀ v' w' F' ι', VR w' F' ι' v v' → Inv w' F' ι' H' → Ext w F ι H w' F' ι' H' → MoV w w' F F' ι ι' → K (a.put o.dst v') w') : o.wp P a w K Q := by
  cases c with
  | p p =>
    simp only [runOp, Option.map_eq_some_iff, Prod.mk.injEq] at hr
    obtain ⟨v', h1, rfl, rfl⟩ := hr
    obtain ⟨u, h2, h3⟩ := pop_ok he hc h1
    unfold Oper.wp
    rw [h2]
    exact hK u w F ι h3 hi (Ext.refl _ _ _ _) ⟨⟨fun _ h => h, fun _ _ => rfl⟩, fun _ _ h => h, fun _ _ h => h⟩
  | h h =>
    simp only [runOp] at hr
    obtain ⟨u, w', F', ι', h1, h2, h3, h4, h5⟩ := hop_ok he hi hc hr
    unfold Oper.wp
    rcases h1 with h1 | ⟨h1, rfl⟩
    · rw [h1]; exact hK u w' F' ι' h2 h3 h4 h5
    · rw [h1]; exact hK undef w' F' ι' h2 h3 h4 h5
  | hb h => have := comp1_plain P an o.dst o.op; simp [hc, plainC] at this
  | hl s h => have := comp1_plain P an o.dst o.op; simp [hc, plainC] at this
  | callb => have := comp1_plain P an o.dst o.op; simp [hc, plainC] at this
  | callp => have := comp1_plain P an o.dst o.op; simp [hc, plainC] at this
  | callv => have := comp1_plain P an o.dst o.op; simp [hc, plainC] at this
  | call =>
    have : ∃ f args ats, o.op = .call { callee := .value f, args := args, argTypes := ats } ∧ ∃ g l, opd f = some g ∧ opds args.toList = some l ∧ ys = g :: l := by
      cases ho : o.op with
      | call cc =>
        obtain ⟨cal, args, ats⟩ := cc
        cases cal with
        | value f =>
          simp only [ho, comp1, Option.map_eq_some_iff, Option.bind_eq_some_iff, Prod.mk.injEq, true_and] at hc
          obtain ⟨g, hg, l, hl, rfl⟩ := hc
          exact ⟨f, args, ats, rfl, g, l, hg, hl, rfl⟩
        | invoke r m => simp [ho, comp1] at hc
        | builtin b =>
          simp only [ho, comp1] at hc
          split at hc <;> (try cases hc)
          · split at hc <;> (try cases hc) <;> simp only [Option.map_eq_some_iff, Prod.mk.injEq, reduceCtorEq, false_and, and_false, exists_false] at hc
          · split at hc <;> (try cases hc)
            all_goals
              split at hc <;> (try cases hc)
              simp only [Option.map_eq_some_iff, Prod.mk.injEq, reduceCtorEq, false_and, and_false, exists_false] at hc
          · split at hc <;> (try cases hc)
            simp only [Option.map_eq_some_iff, Option.bind_eq_some_iff, Prod.mk.injEq, reduceCtorEq, false_and, and_false, exists_false] at hc
          · split at hc <;> (try cases hc)
            split at hc <;> (try cases hc)
            simp only [Option.map_eq_some_iff, Prod.mk.injEq, reduceCtorEq, false_and, and_false, exists_false] at hc
          · split at hc <;> (try cases hc)
            simp only [Option.map_eq_some_iff, Option.bind_eq_some_iff, Prod.mk.injEq, reduceCtorEq, false_and, and_false, exists_false] at hc
          all_goals first
            | simp only [Option.map_eq_some_iff, Prod.mk.injEq, reduceCtorEq, false_and, and_false, exists_false] at hc
            | (split at hc <;> (try cases hc); simp only [Option.map_eq_some_iff, Prod.mk.injEq, reduceCtorEq, false_and, and_false, exists_false] at hc)
      | alloc e =>
        simp only [ho, comp1] at hc
        split at hc <;> (try cases hc)
        split at hc <;> (try cases hc)
      | box e x =>
        simp only [ho, comp1] at hc
        split at hc <;> (try cases hc)
      | buildSlice t len parts =>
        simp only [ho, comp1] at hc
        split at hc <;> (try cases hc)
        split at hc <;> (try cases hc)
        split at hc <;> (try cases hc)
        simp only [Option.map_eq_some_iff, Prod.mk.injEq, reduceCtorEq, false_and, and_false, exists_false] at hc
      | build t parts =>
        simp only [ho, comp1] at hc
        split at hc <;> (try cases hc)
        · split at hc <;> (try cases hc)
          simp only [Option.map_eq_some_iff, Prod.mk.injEq, reduceCtorEq, false_and, and_false, exists_false] at hc
        · simp only [Option.map_eq_some_iff, Option.bind_eq_some_iff, Prod.mk.injEq, reduceCtorEq, false_and, and_false, exists_false] at hc
      | makeSlice t l c =>
        simp only [ho, comp1] at hc
        split at hc <;> (try cases hc)
        split at hc <;> (try cases hc)
        split at hc <;> (try cases hc)
        simp only [Option.map_eq_some_iff, Prod.mk.injEq, reduceCtorEq, false_and, and_false, exists_false] at hc
      | makeMap t r => cases r <;> simp [ho, comp1] at hc
      | binOp op t x y yt => cases op <;> simp only [ho, comp1, Option.map_eq_some_iff, Prod.mk.injEq, reduceCtorEq, false_and, and_false, exists_false] at hc
      | convert s t x =>
        simp only [ho, comp1] at hc
        split at hc <;> (try cases hc) <;> simp only [Option.map_eq_some_iff, Prod.mk.injEq, reduceCtorEq, false_and, and_false, exists_false] at hc
      | makeInterface t x =>
        simp only [ho, comp1] at hc
        split at hc <;> (try cases hc) <;> simp only [Option.map_eq_some_iff, Prod.mk.injEq, reduceCtorEq, false_and, and_false, exists_false] at hc
      | slice t x lo hi' mx =>
        cases mx with
        | some m => simp [ho, comp1] at hc
        | none =>
          simp only [ho, comp1] at hc
          split at hc <;> (try cases hc)
          simp only [Option.map_eq_some_iff, Option.bind_eq_some_iff, Prod.mk.injEq, reduceCtorEq, false_and, and_false, exists_false] at hc
      | fieldAddr s x f =>
        simp only [ho, comp1] at hc
        split at hc <;> (try cases hc)
        simp only [Option.bind_eq_some_iff] at hc
        obtain ⟨fd, hf, hc⟩ := hc
        split at hc <;> (try cases hc)
        simp only [Option.map_eq_some_iff, Prod.mk.injEq, reduceCtorEq, false_and, and_false, exists_false] at hc
      | field t x f =>
        simp only [ho, comp1] at hc
        split at hc <;> (try cases hc)
        simp only [Option.map_eq_some_iff, Option.bind_eq_some_iff, Prod.mk.injEq, reduceCtorEq, false_and, and_false, exists_false] at hc
      | indexAddr t x i =>
        simp only [ho, comp1] at hc
        split at hc <;> (try cases hc) <;> simp only [Option.map_eq_some_iff, Option.bind_eq_some_iff, Prod.mk.injEq, reduceCtorEq, false_and, and_false, exists_false] at hc
      | index t x i =>
        simp only [ho, comp1] at hc
        split at hc <;> (try cases hc) <;> simp only [Option.map_eq_some_iff, Option.bind_eq_some_iff, Prod.mk.injEq, reduceCtorEq, false_and, and_false, exists_false] at hc
      | lookup t m k ok =>
        simp only [ho, comp1] at hc
        split at hc <;> (try cases hc)
        simp only [Option.map_eq_some_iff, Option.bind_eq_some_iff, Prod.mk.injEq, reduceCtorEq, false_and, and_false, exists_false] at hc
      | mapUpdate t m k x =>
        simp only [ho, comp1] at hc
        split at hc <;> (try cases hc)
        simp only [Option.map_eq_some_iff, Option.bind_eq_some_iff, Prod.mk.injEq, reduceCtorEq, false_and, and_false, exists_false] at hc
      | makeFunc f xs ys' => simp only [ho, comp1, Option.map_eq_some_iff, Option.bind_eq_some_iff, Prod.mk.injEq, reduceCtorEq, false_and, and_false, exists_false] at hc
      | load t x => simp only [ho, comp1, Option.map_eq_some_iff, Option.bind_eq_some_iff, Prod.mk.injEq, reduceCtorEq, false_and, and_false, exists_false] at hc
      | store t x y => simp only [ho, comp1, Option.map_eq_some_iff, Option.bind_eq_some_iff, Prod.mk.injEq, reduceCtorEq, false_and, and_false, exists_false] at hc
      | _ => simp [ho, comp1] at hc
    obtain ⟨f, args, ats, ho, g, l, hg, hl, rfl⟩ := this
    simp only [evs, runOp] at hr
    obtain ⟨k, first, cap, fn, hf, hfn, hbody, hname, hcalls⟩ := hcall _ _ _ _ _ hr
    have hfv := opd_ok he hg
    rw [hf] at hfv
    simp only [VR] at hfv
    obtain ⟨first', cap', hfe, hv1, hv2⟩ := hfv
    have hargs := opds_ok he hl
    have hall : VRl w F ι (first ++ (evs env l ++ cap)) (first'.toList ++ (args.toList.map a.eval ++ cap'.toList)) := VRl.append hv1 (VRl.append hargs hv2)
    have hc2 := hcalls w F ι _ hi hall
    have harr : (first'.toList ++ (args.toList.map a.eval ++ cap'.toList)).toArray = first' ++ args.map a.eval ++ cap' := by
      apply Array.ext'; simp
    rw [harr] at hc2
    unfold Oper.wp
    have hrun : (execOp a.eval o).run P w = .ok (.enter k (first' ++ args.map a.eval ++ cap')) w := by
      have hb : fn.body.isNone = false := by cases h : fn.body <;> simp_all
      simp only [execOp, ho, resolve, hfe, Deferred.ofValue, Sem.run_bind, Sem.run_pure, Result.andThen_ok, invoke, callFunc, run_program, hfn, hname, hb, Bool.false_eq_true, if_false]
    rw [hrun]
    simp only [Oper.upon]
    refine hc2.mono ?_
    rintro e w' ⟨v', F', ι', rfl, h1, h2, h3, h4⟩
    exact hK v' w' F' ι' h1 h2 h3 h4

theorem yielded_of {ops : Array Oper} {j g : Nat} (hg : (ops[j]?).bind (·.dst) = some g) (he : EnvR w F ι env a) {c : Option Bool} (hb : gvC (Env.at env g) = some c) : yielded ops a.tmps j = c := by
  have := he g
  unfold yielded
  rw [hg]
  simp only [Option.bind_some]
  rw [Array.getD_eq_getD_getElem?] at this
  unfold gvC at hb
  split at hb <;> (try cases hb)
  · rename_i b heq
    rw [heq] at this
    have := this.bool
    cases h : a.tmps[g]? with
    | none => simp [h, undef] at this
    | some v => simp [h] at this; subst this; rfl
  · rename_i heq
    rw [heq] at this
    simp only [VR] at this
    obtain ⟨vs, hv, _⟩ := this
    cases h : a.tmps[g]? with
    | none => rfl
    | some v => simp [h] at hv; subst hv; rfl

theorem wanted_none {o : Oper} (h : o.guard = none) (y : Nat → Option Bool) : Region.wanted o y = true := by simp [Region.wanted, h]

/-- What a statement comes to, its guard asked. -/
def Stepped (call : Caller) (s : CStm) (env : Env) (H : Heap) (v : CV) (H1 : Heap) : Prop :=
  match s.guard with
  | none => runOp call s.op (evs env s.args) H = some (v, H1)
  | some (g, want) => ∃ c, gvC (Env.at env g) = some c ∧ if c = some want then runOp call s.op (evs env s.args) H = some (v, H1) else (v = .tup [] ∧ H1 = H)

/-- One statement of a region, with its guard. -/
theorem wpOp_ok {call : Caller} (hcall : CallerOk P call) {an : Ann} {n : Nat} {ops : Array Oper} {i : Nat} {o : Oper} (ho : ops[i]? = some o) {s : CStm} (hs : compStm P an n ops o = some s) (he : EnvR w F ι env a) (hi : Inv w F ι H) {H' : Heap} {v : CV}
    (hr : Stepped call s env H v H')
    {K : Act → World → Prop} {Q : Exit → Act → World → Prop}
    (hK : ∀ v' w' F' ι', VR w' F' ι' v v' → Inv w' F' ι' H' → Ext w F ι H w' F' ι' H' → MoV w w' F F' ι ι' → K (a.put o.dst v') w') : wpOp P ops Q i K a w ∧ s.dst = o.dst ∧ o.dst.all (· < n) = true := by
  unfold compStm at hs
  split at hs <;> (try cases hs)
  rename_i hdst
  split at hs <;> (try cases hs)
  rename_i c args g hc hg
  refine ⟨?_, rfl, hdst⟩
  unfold wpOp
  rw [ho]
  unfold Stepped at hr
  dsimp only at hr ⊢
  cases hgo : o.guard with
  | none =>
    rw [hgo] at hg
    simp only [gOf, Option.some.injEq] at hg
    subst hg
    rw [wanted_none hgo, if_pos rfl]
    exact .inl (stm_ok hcall hc he hi hr hK)
  | some jw =>
    obtain ⟨j, want⟩ := jw
    rw [hgo] at hg
    simp only [gOf, Option.map_eq_some_iff] at hg
    obtain ⟨t, ht, rfl⟩ := hg
    obtain ⟨b, hb, hr⟩ := hr
    have hy := yielded_of ht he hb
    have hw : Region.wanted o (yielded ops a.tmps) = (b == some want) := by
      simp only [Region.wanted, hgo, hy]
    rw [hw]
    by_cases hbw : b = some want
    · rw [if_pos hbw] at hr
      rw [if_pos (by simp [hbw])]
      exact .inl (stm_ok hcall hc he hi hr hK)
    · rw [if_neg hbw] at hr
      obtain ⟨rfl, rfl⟩ := hr
      rw [if_neg (by simp [hbw])]
      exact hK undef w F ι (by simp only [VR]; exact ⟨#[], rfl, by simp [VRl]⟩) hi (Ext.refl _ _ _ _) ⟨⟨fun _ h => h, fun _ _ => rfl⟩, fun _ _ h => h, fun _ _ h => h⟩

/-- One step of 'runOps'. -/
theorem runOps_cons {call : Caller} {s : CStm} {r : List CStm} {env' : Env} {H' : Heap} (h : runOps call (s :: r) env H = some (env', H')) : ∃ v H1, Stepped call s env H v H1 ∧
    runOps call r (putD env s.dst v) H1 = some (env', H') := by
  simp only [runOps] at h
  split at h
  · rename_i hg
    simp only [Option.bind_eq_some_iff] at h
    obtain ⟨⟨v, H1⟩, h1, h2⟩ := h
    exact ⟨v, H1, by unfold Stepped; rw [hg]; exact h1, h2⟩
  · rename_i g want hg
    split at h <;> (try cases h)
    rename_i b hb
    split at h
    · rename_i hbw
      simp only [Option.bind_eq_some_iff] at h
      obtain ⟨⟨v, H1⟩, h1, h2⟩ := h
      exact ⟨v, H1, by unfold Stepped; rw [hg]; exact ⟨b, hb, by rw [if_pos hbw]; exact h1⟩, h2⟩
    · rename_i hbw
      exact ⟨.tup [], H, by unfold Stepped; rw [hg]; exact ⟨b, hb, by rw [if_neg hbw]; exact ⟨rfl, rfl⟩⟩, h⟩

/-- In the text's order. -/
theorem ops_ok {call : Caller} (hcall : CallerOk P call) {an : Ann} {n : Nat} {ops : Array Oper} {Q : Exit → Act → World → Prop} {env' : Env} {H' : Heap} : ∀ (rest : List Oper) (l : List CStm) (i : Nat) (w : World) (F : Nat → Prop) (ι : IM) (H : Heap) (env : Env) (a : Act),
    ops.toList.drop i = rest → compStms P an n ops rest = some l → runOps call l env H = some (env', H') → St n w F ι H env a →
    (∀ a' w' F' ι', St n w' F' ι' H' env' a' → Ext w F ι H w' F' ι' H' → MoV w w' F F' ι ι' → Q .normal a' w') → wpOps P ops Q (List.range' i rest.length) a w
  | [], l, i, w, F, ι, H, env, a, _, hl, hr, hst, hQ => by
    simp only [compStms, Option.some.injEq] at hl
    subst hl
    simp only [runOps, Option.some.injEq, Prod.mk.injEq] at hr
    obtain ⟨rfl, rfl⟩ := hr
    simp only [List.length_nil, List.range'_zero, wpOps]
    exact hQ a w F ι hst (Ext.refl _ _ _ _) ⟨⟨fun _ h => h, fun _ _ => rfl⟩, fun _ _ h => h, fun _ _ h => h⟩
  | o :: rest, l, i, w, F, ι, H, env, a, hd, hl, hr, hst, hQ => by
    simp only [compStms, Option.bind_eq_some_iff, Option.map_eq_some_iff] at hl
    obtain ⟨s, hs, l', hl', rfl⟩ := hl
    obtain ⟨v, H1, h1, h2⟩ := runOps_cons hr
    have ho : ops[i]? = some o := by
      have : (ops.toList.drop i)[0]? = some o := by rw [hd]; rfl
      rw [List.getElem?_drop] at this
      simpa using this
    have hd' : ops.toList.drop (i + 1) = rest := by
      rw [← List.drop_drop, hd]; rfl
    simp only [List.length_cons, List.range'_succ]
    rw [wpOps_cons]
    have hdst : s.dst = o.dst ∧ o.dst.all (· < n) = true := by
      unfold compStm at hs
      split at hs <;> (try cases hs)
      rename_i hdst
      split at hs <;> (try cases hs)
      exact ⟨rfl, hdst⟩
    refine (wpOp_ok hcall ho hs hst.e hst.i h1 (fun v' w' F' ι' g1 g2 g3 g4 => ?_)).1
    refine ops_ok hcall rest l' (i + 1) w' F' ι' H1 (putD env s.dst v) (a.put o.dst v') hd' hl' h2 ?_ ?_
    · rw [hdst.1]
      exact hst.put hdst.2 g1 g2 g4
    · intro a' w'' F'' ι'' k1 k2 k3
      exact hQ a' w'' F'' ι'' k1 (g3.trans k2) ⟨⟨fun b hb => k3.f b (g4.f b hb), fun b hb => (k3.h b (g4.f b hb)).trans (g4.h b hb)⟩, fun i b hb => k3.i i b (g4.i i b hb), fun b n hb => k3.c b n (g4.c b n hb)⟩

end
end Go.Zc
