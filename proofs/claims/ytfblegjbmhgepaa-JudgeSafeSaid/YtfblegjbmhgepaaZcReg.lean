/- Statements, one behind the other. No condition. -/
import Derived.Test.YtfblegjbmhgepaaZcPopAll
import Derived.Orders
set_option linter.all false
section
namespace Go.Zc

section
variable {P : Program} {w : World} {F : Nat → Prop} {ι : IM} {H : Heap} {env : Env} {a : Act}

/-- How a frame stands to the interpreter's. -/
structure St (n : Nat) (w : World) (F : Nat → Prop) (ι : IM) (H : Heap) (env : Env) (a : Act) : Prop where
 e : EnvR w F ι env a
 i : Inv w F ι H
 d : a.defers = []
 s : n ≤ a.tmps.size

/-- What calls come to: who calls is told what is handed back, and what has turned. -/
def CallerOk (P : Program) (call : Caller) : Prop :=
 ∀ f args H v H', call f args H = some (v, H') → ∃ k first cap fn, f = .fn (.func k) first cap ∧ P.funcs[k]? = some fn ∧ fn.body.isSome = true ∧ (fn.name == "runtime.NumGoroutine") = false ∧
  ∀ (w : World) (F : Nat → Prop) (ι : IM) (as : List Value), Inv w F ι H → VRl w F ι (first ++ (args ++ cap)) as →
   Calls P k as.toArray w fun e w' => ∃ v' F' ι', e = .returned v' ∧ VR w' F' ι' v v' ∧ Inv w' F' ι' H' ∧ Ext w F ι H w' F' ι' H' ∧ MoV w w' F F' ι ι'

theorem EnvR.mono {w' : World} {F' : Nat → Prop} {ι' : IM} (h : EnvR w F ι env a) (m : MoV w w' F F' ι ι') : EnvR w' F' ι' env a := fun t => VR.mono m _ _ (h t)

theorem look_cons (env : Env) (d t : Nat) (c : CV) : Env.at ((d, c) :: env) t = if t = d then c else Env.at env t := by
 unfold Env.at
 simp only [look]
 by_cases h : t = d
 · subst h; simp
 · simp [beq_ne (fun e => h e.symm), h]

theorem EnvR.put {n : Nat} (h : EnvR w F ι env a) (hs : n ≤ a.tmps.size) {dst : Option Nat} (hd : dst.all (· < n) = true) {c : CV} {v : Value} (hv : VR w F ι c v) : EnvR w F ι (putD env dst c) (a.put dst v) := by
 cases dst with
 | none => exact h
 | some d =>
  intro t
  simp only [Option.all_some, decide_eq_true_eq] at hd
  simp only [putD, Act.put, look_cons]
  by_cases ht : t = d
  · subst ht
   rw [if_pos rfl]
   simp only [Array.getD_eq_getD_getElem?, Array.getElem?_setIfInBounds, if_true]
   rw [if_pos (by omega)]
   exact hv
  · rw [if_neg ht]
   simp only [Array.getD_eq_getD_getElem?, Array.getElem?_setIfInBounds, if_neg (fun e : d = t => ht e.symm)]
   simpa only [Array.getD_eq_getD_getElem?] using h t

theorem put_size (a : Act) (dst : Option Nat) (v : Value) : (a.put dst v).tmps.size = a.tmps.size := by cases dst <;> simp [Act.put]
theorem put_defers (a : Act) (dst : Option Nat) (v : Value) : (a.put dst v).defers = a.defers := by cases dst <;> rfl

theorem St.put {n : Nat} (h : St n w F ι H env a) {dst : Option Nat} (hd : dst.all (· < n) = true) {w' : World} {F' : Nat → Prop} {ι' : IM} {H' : Heap} {c : CV} {v : Value} (hv : VR w' F' ι' c v) (hi : Inv w' F' ι' H') (m : MoV w w' F F' ι ι') :
  St n w' F' ι' H' (putD env dst c) (a.put dst v) :=
 ⟨(h.e.mono m).put h.s hd hv, hi, by rw [put_defers]; exact h.d, by rw [put_size]; exact h.s⟩

/-- What the compiler makes is plain. -/
def plainC : COp → Bool
 | .hb _ | .hl _ _ | .callb | .callp | .callv => false
 | _ => true

theorem all_map' {α β : Type} {p : β → Bool} (o : Option α) {f : α → β} (h : ∀ x, p (f x) = true) : (o.map f).all p = true := by cases o <;> simp [h]
theorem all_bind' {α β : Type} {p : β → Bool} (o : Option α) {f : α → Option β} (h : ∀ x, (f x).all p = true) : (o.bind f).all p = true := by cases o <;> simp [h]

theorem comp1_plain (P : Program) (an : Ann) (d : Option Nat) (o : Op) : (comp1 P an d o).all (fun x => plainC x.1) = true := by
 unfold comp1
 repeat' (first | rfl | (apply all_map'; intro _) | (apply all_bind'; intro _) | split)

/-- One statement that is carried out. -/
theorem stm_ok {call : Caller} (hcall : CallerOk P call) {an : Ann} {o : Oper} {c : COp} {ys : List Opd} (hc : comp1 P an o.dst o.op = some (c, ys)) (he : EnvR w F ι env a) (hi : Inv w F ι H) {v : CV} {H' : Heap}
  (hr : runOp call c (evs env ys) H = some (v, H')) {K : Act → World → Prop} {Q : Exit → Act → World → Prop}
  (hK : ∀ v' w' F' ι', VR w' F' ι' v v' → Inv w' F' ι' H' → Ext w F ι H w' F' ι' H' → MoV w w' F F' ι ι' → K (a.put o.dst v') w') : o.wp P a w K Q := by
 cases c with
 | p p =>
  simp only [runOp, Option.map_eq_some_iff, Prod.mk.injEq] at hr
  obtain ⟨v', h1, rfl, rfl⟩ := hr
  obtain ⟨u, h2, h3⟩ := pop_ok he hc h1
  unfold Oper.wp
  rw [h2]
  exact hK u w F ι h3 hi (Ext.refl _ _ _ _) ⟨⟨fun _ h => h, fun _ _ => rfl⟩, fun _ _ h => h, fun _ _ h => h⟩
 | h h =>
  simp only [runOp] at hr
  obtain ⟨u, w', F', ι', h1, h2, h3, h4, h5⟩ := hop_ok he hi hc hr
  unfold Oper.wp
  rcases h1 with h1 | ⟨h1, rfl⟩
  · rw [h1]; exact hK u w' F' ι' h2 h3 h4 h5
  · rw [h1]; exact hK undef w' F' ι' h2 h3 h4 h5
 | hb h => have := comp1_plain P an o.dst o.op; simp [hc, plainC] at this
 | hl s h => have := comp1_plain P an o.dst o.op; simp [hc, plainC] at this
 | callb => have := comp1_plain P an o.dst o.op; simp [hc, plainC] at this
 | callp => have := comp1_plain P an o.dst o.op; simp [hc, plainC] at this
 | callv => have := comp1_plain P an o.dst o.op; simp [hc, plainC] at this
 | call =>
  have : ∃ f args ats, o.op = .call { callee := .value f, args := args, argTypes := ats } ∧ ∃ g l, opd f = some g ∧ opds args.toList = some l ∧ ys = g :: l := by
   cases ho : o.op with
   | call cc =>
    obtain ⟨cal, args, ats⟩ := cc
    cases cal with
    | value f =>
     simp only [ho, comp1, Option.map_eq_some_iff, Option.bind_eq_some_iff, Prod.mk.injEq, true_and] at hc
     obtain ⟨g, hg, l, hl, rfl⟩ := hc
     exact ⟨f, args, ats, rfl, g, l, hg, hl, rfl⟩
    | invoke r m => simp [ho, comp1] at hc
    | builtin b =>
     simp only [ho, comp1] at hc
     split at hc <;> (try cases hc)
     · split at hc <;> (try cases hc) <;> simp only [Option.map_eq_some_iff, Prod.mk.injEq, reduceCtorEq, false_and, and_false, exists_false] at hc
     · split at hc <;> (try cases hc)
      all_goals
       split at hc <;> (try cases hc)
       simp only [Option.map_eq_some_iff, Prod.mk.injEq, reduceCtorEq, false_and, and_false, exists_false] at hc
     · split at hc <;> (try cases hc)
      simp only [Option.map_eq_some_iff, Option.bind_eq_some_iff, Prod.mk.injEq, reduceCtorEq, false_and, and_false, exists_false] at hc
     · split at hc <;> (try cases hc)
      split at hc <;> (try cases hc)
      simp only [Option.map_eq_some_iff, Prod.mk.injEq, reduceCtorEq, false_and, and_false, exists_false] at hc
     · split at hc <;> (try cases hc)
      simp only [Option.map_eq_some_iff, Option.bind_eq_some_iff, Prod.mk.injEq, reduceCtorEq, false_and, and_false, exists_false] at hc
     all_goals first
      | simp only [Option.map_eq_some_iff, Prod.mk.injEq, reduceCtorEq, false_and, and_false, exists_false] at hc
      | (split at hc <;> (try cases hc); simp only [Option.map_eq_some_iff, Prod.mk.injEq, reduceCtorEq, false_and, and_false, exists_false] at hc)
   | alloc e =>
    simp only [ho, comp1] at hc
    split at hc <;> (try cases hc)
    split at hc <;> (try cases hc)
   | box e x =>
    simp only [ho, comp1] at hc
    split at hc <;> (try cases hc)
   | buildSlice t len parts =>
    simp only [ho, comp1] at hc
    split at hc <;> (try cases hc)
    split at hc <;> (try cases hc)
    split at hc <;> (try cases hc)
    simp only [Option.map_eq_some_iff, Prod.mk.injEq, reduceCtorEq, false_and, and_false, exists_false] at hc
   | build t parts =>
    simp only [ho, comp1] at hc
    split at hc <;> (try cases hc)
    · split at hc <;> (try cases hc)
     simp only [Option.map_eq_some_iff, Prod.mk.injEq, reduceCtorEq, false_and, and_false, exists_false] at hc
    · simp only [Option.map_eq_some_iff, Option.bind_eq_some_iff, Prod.mk.injEq, reduceCtorEq, false_and, and_false, exists_false] at hc
   | makeSlice t l c =>
    simp only [ho, comp1] at hc
    split at hc <;> (try cases hc)
    split at hc <;> (try cases hc)
    split at hc <;> (try cases hc)
    simp only [Option.map_eq_some_iff, Prod.mk.injEq, reduceCtorEq, false_and, and_false, exists_false] at hc
   | makeMap t r => cases r <;> simp [ho, comp1] at hc
   | binOp op t x y yt => cases op <;> simp only [ho, comp1, Option.map_eq_some_iff, Prod.mk.injEq, reduceCtorEq, false_and, and_false, exists_false] at hc
   | convert s t x =>
    simp only [ho, comp1] at hc
    split at hc <;> (try cases hc) <;> simp only [Option.map_eq_some_iff, Prod.mk.injEq, reduceCtorEq, false_and, and_false, exists_false] at hc
   | makeInterface t x =>
    simp only [ho, comp1] at hc
    split at hc <;> (try cases hc) <;> simp only [Option.map_eq_some_iff, Prod.mk.injEq, reduceCtorEq, false_and, and_false, exists_false] at hc
   | slice t x lo hi' mx =>
    cases mx with
    | some m => simp [ho, comp1] at hc
    | none =>
     simp only [ho, comp1] at hc
     split at hc <;> (try cases hc)
     simp only [Option.map_eq_some_iff, Option.bind_eq_some_iff, Prod.mk.injEq, reduceCtorEq, false_and, and_false, exists_false] at hc
   | fieldAddr s x f =>
    simp only [ho, comp1] at hc
    split at hc <;> (try cases hc)
    simp only [Option.bind_eq_some_iff] at hc
    obtain ⟨fd, hf, hc⟩ := hc
    split at hc <;> (try cases hc)
    simp only [Option.map_eq_some_iff, Prod.mk.injEq, reduceCtorEq, false_and, and_false, exists_false] at hc
   | field t x f =>
    simp only [ho, comp1] at hc
    split at hc <;> (try cases hc)
    simp only [Option.map_eq_some_iff, Option.bind_eq_some_iff, Prod.mk.injEq, reduceCtorEq, false_and, and_false, exists_false] at hc
   | indexAddr t x i =>
    simp only [ho, comp1] at hc
    split at hc <;> (try cases hc) <;> simp only [Option.map_eq_some_iff, Option.bind_eq_some_iff, Prod.mk.injEq, reduceCtorEq, false_and, and_false, exists_false] at hc
   | index t x i =>
    simp only [ho, comp1] at hc
    split at hc <;> (try cases hc) <;> simp only [Option.map_eq_some_iff, Option.bind_eq_some_iff, Prod.mk.injEq, reduceCtorEq, false_and, and_false, exists_false] at hc
   | lookup t m k ok =>
    simp only [ho, comp1] at hc
    split at hc <;> (try cases hc)
    simp only [Option.map_eq_some_iff, Option.bind_eq_some_iff, Prod.mk.injEq, reduceCtorEq, false_and, and_false, exists_false] at hc
   | mapUpdate t m k x =>
    simp only [ho, comp1] at hc
    split at hc <;> (try cases hc)
    simp only [Option.map_eq_some_iff, Option.bind_eq_some_iff, Prod.mk.injEq, reduceCtorEq, false_and, and_false, exists_false] at hc
   | makeFunc f xs ys' => simp only [ho, comp1, Option.map_eq_some_iff, Option.bind_eq_some_iff, Prod.mk.injEq, reduceCtorEq, false_and, and_false, exists_false] at hc
   | load t x => simp only [ho, comp1, Option.map_eq_some_iff, Option.bind_eq_some_iff, Prod.mk.injEq, reduceCtorEq, false_and, and_false, exists_false] at hc
   | store t x y => simp only [ho, comp1, Option.map_eq_some_iff, Option.bind_eq_some_iff, Prod.mk.injEq, reduceCtorEq, false_and, and_false, exists_false] at hc
   | _ => simp [ho, comp1] at hc
  obtain ⟨f, args, ats, ho, g, l, hg, hl, rfl⟩ := this
  simp only [evs, runOp] at hr
  obtain ⟨k, first, cap, fn, hf, hfn, hbody, hname, hcalls⟩ := hcall _ _ _ _ _ hr
  have hfv := opd_ok he hg
  rw [hf] at hfv
  simp only [VR] at hfv
  obtain ⟨first', cap', hfe, hv1, hv2⟩ := hfv
  have hargs := opds_ok he hl
  have hall : VRl w F ι (first ++ (evs env l ++ cap)) (first'.toList ++ (args.toList.map a.eval ++ cap'.toList)) := VRl.append hv1 (VRl.append hargs hv2)
  have hc2 := hcalls w F ι _ hi hall
  have harr : (first'.toList ++ (args.toList.map a.eval ++ cap'.toList)).toArray = first' ++ args.map a.eval ++ cap' := by
   apply Array.ext'; simp
  rw [harr] at hc2
  unfold Oper.wp
  have hrun : (execOp a.eval o).run P w = .ok (.enter k (first' ++ args.map a.eval ++ cap')) w := by
   have hb : fn.body.isNone = false := by cases h : fn.body <;> simp_all
   simp only [execOp, ho, resolve, hfe, Deferred.ofValue, Sem.run_bind, Sem.run_pure, Result.andThen_ok, invoke, callFunc, run_program, hfn, hname, hb, Bool.false_eq_true, if_false]
  rw [hrun]
  simp only [Oper.upon]
  refine hc2.mono ?_
  rintro e w' ⟨v', F', ι', rfl, h1, h2, h3, h4⟩
  exact hK v' w' F' ι' h1 h2 h3 h4

theorem yielded_of {ops : Array Oper} {j g : Nat} (hg : (ops[j]?).bind (·.dst) = some g) (he : EnvR w F ι env a) {c : Option Bool} (hb : gvC (Env.at env g) = some c) : yielded ops a.tmps j = c := by
 have := he g
 unfold yielded
 rw [hg]
 simp only [Option.bind_some]
 rw [Array.getD_eq_getD_getElem?] at this
 unfold gvC at hb
 split at hb <;> (try cases hb)
 · rename_i b heq
  rw [heq] at this
  have := this.bool
  cases h : a.tmps[g]? with
  | none => simp [h, undef] at this
  | some v => simp [h] at this; subst this; rfl
 · rename_i heq
  rw [heq] at this
  simp only [VR] at this
  obtain ⟨vs, hv, _⟩ := this
  cases h : a.tmps[g]? with
  | none => rfl
  | some v => simp [h] at hv; subst hv; rfl

theorem wanted_none {o : Oper} (h : o.guard = none) (y : Nat → Option Bool) : Region.wanted o y = true := by simp [Region.wanted, h]

/-- What a statement comes to, its guard asked. -/
def Stepped (call : Caller) (s : CStm) (env : Env) (H : Heap) (v : CV) (H1 : Heap) : Prop :=
 match s.guard with
 | none => runOp call s.op (evs env s.args) H = some (v, H1)
 | some (g, want) => ∃ c, gvC (Env.at env g) = some c ∧ if c = some want then runOp call s.op (evs env s.args) H = some (v, H1) else (v = .tup [] ∧ H1 = H)

/-- One statement of a region, with its guard. -/
theorem wpOp_ok {call : Caller} (hcall : CallerOk P call) {an : Ann} {n : Nat} {ops : Array Oper} {i : Nat} {o : Oper} (ho : ops[i]? = some o) {s : CStm} (hs : compStm P an n ops o = some s) (he : EnvR w F ι env a) (hi : Inv w F ι H) {H' : Heap} {v : CV}
  (hr : Stepped call s env H v H')
  {K : Act → World → Prop} {Q : Exit → Act → World → Prop}
  (hK : ∀ v' w' F' ι', VR w' F' ι' v v' → Inv w' F' ι' H' → Ext w F ι H w' F' ι' H' → MoV w w' F F' ι ι' → K (a.put o.dst v') w') : wpOp P ops Q i K a w ∧ s.dst = o.dst ∧ o.dst.all (· < n) = true := by
 unfold compStm at hs
 split at hs <;> (try cases hs)
 rename_i hdst
 split at hs <;> (try cases hs)
 rename_i c args g hc hg
 refine ⟨?_, rfl, hdst⟩
 unfold wpOp
 rw [ho]
 unfold Stepped at hr
 dsimp only at hr ⊢
 cases hgo : o.guard with
 | none =>
  rw [hgo] at hg
  simp only [gOf, Option.some.injEq] at hg
  subst hg
  rw [wanted_none hgo, if_pos rfl]
  exact .inl (stm_ok hcall hc he hi hr hK)
 | some jw =>
  obtain ⟨j, want⟩ := jw
  rw [hgo] at hg
  simp only [gOf, Option.map_eq_some_iff] at hg
  obtain ⟨t, ht, rfl⟩ := hg
  obtain ⟨b, hb, hr⟩ := hr
  have hy := yielded_of ht he hb
  have hw : Region.wanted o (yielded ops a.tmps) = (b == some want) := by
   simp only [Region.wanted, hgo, hy]
  rw [hw]
  by_cases hbw : b = some want
  · rw [if_pos hbw] at hr
   rw [if_pos (by simp [hbw])]
   exact .inl (stm_ok hcall hc he hi hr hK)
  · rw [if_neg hbw] at hr
   obtain ⟨rfl, rfl⟩ := hr
   rw [if_neg (by simp [hbw])]
   exact hK undef w F ι (by simp only [VR]; exact ⟨#[], rfl, by simp [VRl]⟩) hi (Ext.refl _ _ _ _) ⟨⟨fun _ h => h, fun _ _ => rfl⟩, fun _ _ h => h, fun _ _ h => h⟩

/-- One step of 'runOps'. -/
theorem runOps_cons {call : Caller} {s : CStm} {r : List CStm} {env' : Env} {H' : Heap} (h : runOps call (s :: r) env H = some (env', H')) : ∃ v H1, Stepped call s env H v H1 ∧
  runOps call r (putD env s.dst v) H1 = some (env', H') := by
 simp only [runOps] at h
 split at h
 · rename_i hg
  simp only [Option.bind_eq_some_iff] at h
  obtain ⟨⟨v, H1⟩, h1, h2⟩ := h
  exact ⟨v, H1, by unfold Stepped; rw [hg]; exact h1, h2⟩
 · rename_i g want hg
  split at h <;> (try cases h)
  rename_i b hb
  split at h
  · rename_i hbw
   simp only [Option.bind_eq_some_iff] at h
   obtain ⟨⟨v, H1⟩, h1, h2⟩ := h
   exact ⟨v, H1, by unfold Stepped; rw [hg]; exact ⟨b, hb, by rw [if_pos hbw]; exact h1⟩, h2⟩
  · rename_i hbw
   exact ⟨.tup [], H, by unfold Stepped; rw [hg]; exact ⟨b, hb, by rw [if_neg hbw]; exact ⟨rfl, rfl⟩⟩, h⟩

/-- In the text's order. -/
theorem ops_ok {call : Caller} (hcall : CallerOk P call) {an : Ann} {n : Nat} {ops : Array Oper} {Q : Exit → Act → World → Prop} {env' : Env} {H' : Heap} : ∀ (rest : List Oper) (l : List CStm) (i : Nat) (w : World) (F : Nat → Prop) (ι : IM) (H : Heap) (env : Env) (a : Act),
  ops.toList.drop i = rest → compStms P an n ops rest = some l → runOps call l env H = some (env', H') → St n w F ι H env a →
  (∀ a' w' F' ι', St n w' F' ι' H' env' a' → Ext w F ι H w' F' ι' H' → MoV w w' F F' ι ι' → Q .normal a' w') → wpOps P ops Q (List.range' i rest.length) a w
 | [], l, i, w, F, ι, H, env, a, _, hl, hr, hst, hQ => by
  simp only [compStms, Option.some.injEq] at hl
  subst hl
  simp only [runOps, Option.some.injEq, Prod.mk.injEq] at hr
  obtain ⟨rfl, rfl⟩ := hr
  simp only [List.length_nil, List.range'_zero, wpOps]
  exact hQ a w F ι hst (Ext.refl _ _ _ _) ⟨⟨fun _ h => h, fun _ _ => rfl⟩, fun _ _ h => h, fun _ _ h => h⟩
 | o :: rest, l, i, w, F, ι, H, env, a, hd, hl, hr, hst, hQ => by
  simp only [compStms, Option.bind_eq_some_iff, Option.map_eq_some_iff] at hl
  obtain ⟨s, hs, l', hl', rfl⟩ := hl
  obtain ⟨v, H1, h1, h2⟩ := runOps_cons hr
  have ho : ops[i]? = some o := by
   have : (ops.toList.drop i)[0]? = some o := by rw [hd]; rfl
   rw [List.getElem?_drop] at this
   simpa using this
  have hd' : ops.toList.drop (i + 1) = rest := by
   rw [← List.drop_drop, hd]; rfl
  simp only [List.length_cons, List.range'_succ]
  rw [wpOps_cons]
  have hdst : s.dst = o.dst ∧ o.dst.all (· < n) = true := by
   unfold compStm at hs
   split at hs <;> (try cases hs)
   rename_i hdst
   split at hs <;> (try cases hs)
   exact ⟨rfl, hdst⟩
  refine (wpOp_ok hcall ho hs hst.e hst.i h1 (fun v' w' F' ι' g1 g2 g3 g4 => ?_)).1
  refine ops_ok hcall rest l' (i + 1) w' F' ι' H1 (putD env s.dst v) (a.put o.dst v') hd' hl' h2 ?_ ?_
  · rw [hdst.1]
   exact hst.put hdst.2 g1 g2 g4
  · intro a' w'' F'' ι'' k1 k2 k3
   exact hQ a' w'' F'' ι'' k1 (g3.trans k2) ⟨⟨fun b hb => k3.f b (g4.f b hb), fun b hb => (k3.h b (g4.f b hb)).trans (g4.h b hb)⟩, fun i b hb => k3.i i b (g4.i i b hb), fun b n hb => k3.c b n (g4.c b n hb)⟩

end
end Go.Zc
end
section
namespace Go.Zc

def same : Rsc → Heap → Heap → Prop
 | .loc s, H, H' => look H.bx s = look H'.bx s
 | .bl, H, H' => H.bl = H'.bl

theorem same.refl (r : Rsc) (H : Heap) : same r H H := by cases r <;> exact rfl
theorem same.symm {r : Rsc} {H H' : Heap} (h : same r H H') : same r H' H := by cases r <;> exact Eq.symm h
theorem same.trans {r : Rsc} {H H' H'' : Heap} (h : same r H H') (h' : same r H' H'') : same r H H'' := by cases r <;> exact Eq.trans h h'

/-- Two heaps that agree on the blocks, and on some boxes. -/
structure Agr (D : Nat → Prop) (H H' : Heap) : Prop where
 bl : H.bl = H'.bl
 bx : ∀ s, D s → look H.bx s = look H'.bx s

def inD (D : Nat → Prop) : Id → Prop
 | .loc s => D s
 | .blk _ => True

variable {D : Nat → Prop} {H H' : Heap}

theorem Agr.get (h : Agr D H H') {i : Id} (hi : inD D i) : H.get i = H'.get i := by
 cases i with
 | loc s => exact h.bx s hi
 | blk n => simp only [Heap.get, h.bl]

/-- What an operation leaves alone. -/
def Rest (D : Nat → Prop) (H H1 : Heap) : Prop := ∀ s, ¬ D s → look H1.bx s = look H.bx s

theorem Agr.put (h : Agr D H H') (i : Id) (hi : inD D i) (cs : List CV) : Agr D (H.put i cs) (H'.put i cs) ∧ Rest D H (H.put i cs) := by
 cases i with
 | loc s =>
  refine ⟨⟨h.bl, fun t ht => ?_⟩, fun t ht => ?_⟩
  · simp only [Heap.put, look_setBx, h.bx t ht]
  · simp only [Heap.put, look_setBx]
   rw [if_neg (fun e => ht (by subst e; exact hi))]
 | blk n => exact ⟨⟨by simp only [Heap.put, h.bl], h.bx⟩, fun _ _ => rfl⟩

theorem Agr.push (h : Agr D H H') (b : Blk) : Agr D (H.push b) (H'.push b) ∧ Rest D H (H.push b) := ⟨⟨by simp only [Heap.push, h.bl], h.bx⟩, fun _ _ => rfl⟩
theorem Agr.kill (h : Agr D H H') (n : Nat) : Agr D (H.kill (.blk n)) (H'.kill (.blk n)) ∧ Rest D H (H.kill (.blk n)) := ⟨⟨by simp only [Heap.kill, h.bl], h.bx⟩, fun _ _ => rfl⟩
theorem Agr.setb (h : Agr D H H') (n : Nat) (b : Blk) : Agr D { H with bl := H.bl.set n b } { H' with bl := H'.bl.set n b } ∧ Rest D H { H with bl := H.bl.set n b } := ⟨⟨by simp only [h.bl], h.bx⟩, fun _ _ => rfl⟩

/-- The operands' own addresses. -/
def vIn (D : Nat → Prop) : CV → Prop
 | .op i _ => inD D i
 | .os _ i _ _ => inD D i
 | _ => True

theorem Agr.shown (h : Agr D H H') (sz : Nat) {x : CV} (hx : vIn D x) : Zc.shown H sz x = Zc.shown H' sz x := by
 cases x with
 | os s i off n => simp only [Zc.shown, h.get hx]
 | _ => rfl
theorem Agr.loadC (h : Agr D H H') (a : Bool) (n : Nat) {x : CV} (hx : vIn D x) : Zc.loadC a n H x = Zc.loadC a n H' x := by
 cases x with
 | op i off => simp only [Zc.loadC, h.get hx]
 | _ => rfl

/-- What both come to. -/
def Both (D : Nat → Prop) (H H' : Heap) (r r' : Option (CV × Heap)) : Prop := ∀ v H1, r = some (v, H1) → ∃ H1', r' = some (v, H1') ∧ Agr D H1 H1' ∧ Rest D H H1 ∧ Rest D H' H1'

theorem Agr.symm (h : Agr D H H') : Agr D H' H := ⟨h.bl.symm, fun s hs => (h.bx s hs).symm⟩

theorem both_look (h : Agr D H H') {f : Heap → Option CV} (hf : f H = f H') : Both D H H' ((f H).map fun v => (v, H)) ((f H').map fun v => (v, H')) := by
 intro v H1 hr
 rw [hf] at hr
 simp only [Option.map_eq_some_iff, Prod.mk.injEq] at hr
 obtain ⟨u, hu, rfl, rfl⟩ := hr
 exact ⟨H', by simp [hu], h, fun _ _ => rfl, fun _ _ => rfl⟩

theorem both_none {r' : Option (CV × Heap)} : Both D H H' none r' := fun _ _ h => by cases h

theorem both_some (_h : Agr D H H') {v : CV} {H1 H1' : Heap} (g : Agr D H1 H1') (h1 : Rest D H H1) (h2 : Rest D H' H1') : Both D H H' (some (v, H1)) (some (v, H1')) := by
 intro v' H2 hr
 cases hr
 exact ⟨H1', rfl, g, h1, h2⟩

theorem both_ite {c : Prop} [Decidable c] {a a' b b' : Option (CV × Heap)} (h1 : Both D H H' a a') (h2 : Both D H H' b b') : Both D H H' (if c then a else b) (if c then a' else b') := by
 split
 · exact h1
 · exact h2

theorem both_bind {α : Type} {o : Option α} {f f' : α → Option (CV × Heap)} (h : ∀ x, o = some x → Both D H H' (f x) (f' x)) : Both D H H' (o.bind f) (o.bind f') := by
 cases o with
 | none => exact both_none
 | some x => exact h x rfl

theorem both_map {o o' : Option Heap} {v : CV} (h : ∀ H1, o = some H1 → ∃ H1', o' = some H1' ∧ Agr D H1 H1' ∧ Rest D H H1 ∧ Rest D H' H1') : Both D H H' (o.map fun x => (v, x)) (o'.map fun x => (v, x)) := by
 intro v' H1 hr
 simp only [Option.map_eq_some_iff, Prod.mk.injEq] at hr
 obtain ⟨H2, h2, rfl, rfl⟩ := hr
 obtain ⟨H3, h3, g⟩ := h H2 h2
 exact ⟨H3, by simp [h3], g⟩

theorem Rest.trans {H1 H2 : Heap} (h : Rest D H H1) (h' : Rest D H1 H2) : Rest D H H2 := fun s hs => (h' s hs).trans (h s hs)

theorem Agr.len (h : Agr D H H') : H.bl.length = H'.bl.length := by rw [h.bl]

/-- Of an operation that makes no box. -/
theorem heapOp_agr (h : Agr D H H') (o : HOp) (hb : ∀ s, o ≠ .box s) (hn : ∀ s z, o ≠ .newl s z) (vs : List CV) (hv : ∀ x ∈ vs, vIn D x) : Both D H H' (heapOp o vs H) (heapOp o vs H') := by
 have hs := h.symm
 unfold heapOp
 split
 · exact (hb _ rfl).elim
 · refine both_ite ?_ both_none
  rw [h.len]; exact both_some h (h.push _).1 (h.push _).2 (hs.push _).2
 · exact (hn _ _ rfl).elim
 · refine both_ite ?_ both_none
  rw [h.len]; exact both_some h (h.push _).1 (h.push _).2 (hs.push _).2
 · refine both_ite (both_bind fun cs _ => both_ite ?_ both_none) both_none
  exact both_some h h (fun _ _ => rfl) (fun _ _ => rfl)
 · refine both_ite (both_bind fun cs _ => both_ite ?_ both_none) both_none
  rw [h.len]; exact both_some h (h.push _).1 (h.push _).2 (hs.push _).2
 · exact both_look h (f := fun H => loadC _ _ H _) (h.loadC _ _ (hv _ (by simp)))
 · rename_i n p x
  refine both_map fun H1 h1 => ?_
  cases p with
  | op i off =>
   have hi : inD D i := hv (.op i off) (by simp)
   simp only [storeC] at h1 ⊢
   rw [h.get hi] at h1
   obtain ⟨cs, hc, h1⟩ := Option.bind_eq_some_iff.1 h1
   split at h1 <;> (try cases h1)
   rename_i hcond
   exact ⟨_, by rw [hc, Option.bind_some, if_pos hcond], (h.put i hi _).1, (h.put i hi _).2, (hs.put i hi _).2⟩
  | _ => simp [storeC] at h1
 · rename_i sz bytes zero s x
  have hx := hv x (by simp)
  have hs1 := hv s (by simp)
  refine both_ite (both_ite (both_some h h (fun _ _ => rfl) (fun _ _ => rfl)) both_none) ?_
  rw [h.shown sz hx]
  refine both_bind fun new _ => both_ite ?_ both_none
  cases s with
  | nils =>
   simp only [appC]
   rw [h.len]; exact both_some h (h.push _).1 (h.push _).2 (hs.push _).2
  | os s i off n =>
   unfold appC
   split
   · rename_i heq; cases heq
   · rename_i s' m n' heq
    cases heq
    refine both_ite ?_ both_none
    rw [h.get (i := .blk m) trivial]
    refine both_bind fun cs _ => both_ite ?_ both_none
    rw [h.len]
    exact both_some h ((h.kill m).1.push _).1 ((h.kill m).2.trans ((h.kill m).1.push _).2) ((hs.kill m).2.trans ((hs.kill m).1.push _).2)
   · exact both_none
  | _ => simp only [appC]; exact both_none
 · refine both_ite ?_ both_none
  rw [h.len]; exact both_some h (h.push _).1 (h.push _).2 (hs.push _).2
 · rename_i sz d x
  have hx := hv x (by simp)
  have hd := hv d (by simp)
  rw [h.shown sz hx]
  refine both_bind fun new _ => both_ite ?_ both_none
  cases d with
  | os s i off n =>
   simp only [copyC]
   refine both_ite ?_ both_none
   rw [h.get (i := i) hd]
   refine both_bind fun cs _ => both_ite ?_ both_none
   exact both_some h (h.put i hd _).1 (h.put i hd _).2 (hs.put i hd _).2
  | _ => simp only [copyC]; exact both_none
 · rename_i sz zero s
  have hd := hv s (by simp)
  refine both_ite (both_map fun H1 h1 => ?_) both_none
  cases s with
  | os s i off n =>
   simp only [clearC] at h1 ⊢
   split at h1 <;> (try cases h1)
   rename_i hsz
   rw [h.get (i := i) hd] at h1
   obtain ⟨cs, hc, h1⟩ := Option.bind_eq_some_iff.1 h1
   split at h1 <;> (try cases h1)
   rename_i hcond
   exact ⟨_, by rw [if_pos hsz, hc, Option.bind_some, if_pos hcond], (h.put i hd _).1, (h.put i hd _).2, (hs.put i hd _).2⟩
  | _ => simp [clearC] at h1
 · refine both_ite ?_ both_none
  unfold mkslC
  split
  · refine both_ite ?_ both_none
   rw [h.len]; exact both_some h (h.push _).1 (h.push _).2 (hs.push _).2
  · exact both_none
 · refine both_ite ?_ both_none
  unfold mkslFC
  split
  · exact both_ite (both_some h h (fun _ _ => rfl) (fun _ _ => rfl)) both_none
  · exact both_none
 · rw [h.len]; exact both_some h (h.push _).1 (h.push _).2 (hs.push _).2
 · refine both_look h (f := fun H => lookC _ _ _ _ H _) ?_
  unfold lookC
  rw [h.bl]
 · rename_i kk m k v
  refine both_ite both_none (both_map fun H1 h1 => ?_)
  unfold mputC at h1 ⊢
  split at h1 <;> (try cases h1)
  rename_i n
  split at h1 <;> (try cases h1)
  rename_i hkk
  rw [if_neg hkk]
  rw [h.bl] at h1
  split at h1 <;> (try cases h1)
  rename_i es _
  obtain ⟨y, hy, h1⟩ := Option.bind_eq_some_iff.1 h1
  rw [hy, Option.bind_some]
  cases y with
  | some y =>
   obtain ⟨i, u⟩ := y
   simp only [Option.some.injEq] at h1
   subst h1
   refine ⟨_, rfl, ?_, ?_, ?_⟩
   · exact ⟨rfl, h.bx⟩
   · exact fun _ _ => rfl
   · exact fun _ _ => rfl
  | none =>
   simp only [Option.map_eq_some_iff] at h1
   obtain ⟨z, hz, rfl⟩ := h1
   exact ⟨{ bx := H'.bx, bl := H'.bl.set n (.map (es ++ [(k, v)])) }, by simp only [hz, Option.map_some], ⟨rfl, h.bx⟩, fun _ _ => rfl, fun _ _ => rfl⟩
 · rename_i kk m k
  refine both_map fun H1 h1 => ?_
  unfold mdelC at h1 ⊢
  split at h1 <;> (try cases h1)
  rename_i n
  rw [h.bl] at h1
  split at h1 <;> (try cases h1)
  rename_i es _
  obtain ⟨y, hy, h1⟩ := Option.bind_eq_some_iff.1 h1
  rw [hy, Option.bind_some]
  cases y with
  | some y =>
   obtain ⟨i, u⟩ := y
   simp only [Option.some.injEq] at h1
   subst h1
   exact ⟨_, rfl, ⟨rfl, h.bx⟩, fun _ _ => rfl, fun _ _ => rfl⟩
  | none =>
   simp only [Option.map_eq_some_iff] at h1
   obtain ⟨z, hz, rfl⟩ := h1
   exact ⟨_, by simp only [hz, Option.map_some], h, fun _ _ => rfl, fun _ _ => rfl⟩
 · refine both_look h (f := fun H => lenMC H _) ?_
  unfold lenMC
  rw [h.bl]
 · exact both_none

/-! ### Footprints -/

def Foot.rd (f : Foot) (r : Rsc) : Prop := f.ra = true ∨ r ∈ f.r
def Foot.wr (f : Foot) (r : Rsc) : Prop := f.wa = true ∨ r ∈ f.w

theorem hit_false {a b : Bool} {l m : List Rsc} (h : hit a l b m = false) (r : Rsc) (h1 : a = true ∨ r ∈ l) (h2 : b = true ∨ r ∈ m) : False := by
 simp only [hit, Bool.or_eq_false_iff, Bool.and_eq_false_iff, List.any_eq_false] at h
 obtain ⟨⟨g1, g2⟩, g3⟩ := h
 rcases h1 with rfl | h1
 · rcases g1 with g1 | g1
  · cases g1
  · rcases h2 with rfl | h2
   · simp at g1
   · cases m with
    | nil => simp at h2
    | cons x m => simp at g1
 · rcases h2 with rfl | h2
  · rcases g2 with g2 | g2
   · cases g2
   · cases l with
    | nil => simp at h1
    | cons x l => simp at g2
  · exact g3 r h1 (by simpa using h2)

theorem clash_false {x y : Foot} (h : x.clash y = false) (r : Rsc) : (x.wr r → ¬ y.rd r ∧ ¬ y.wr r) ∧ (y.wr r → ¬ x.rd r) := by
 simp only [Foot.clash, Bool.or_eq_false_iff] at h
 exact ⟨fun hw => ⟨fun hr => hit_false h.1.1 r hw hr, fun hr => hit_false h.1.2 r hw hr⟩, fun hw hr => hit_false h.2 r hw hr⟩

/-- A call leaves what is owned alone where it is quiet, and goes by what the boxes hold, not by how they stand. -/
structure QuietOk (call : Caller) (quiet : FuncId → Bool) : Prop where
 free : ∀ k first cap args H v H1, quiet k = true → CV.refs (.fn (.func k) first cap :: args) = false → call (.fn (.func k) first cap) args ⟨[], []⟩ = some (v, H1) → call (.fn (.func k) first cap) args H = some (v, H)
 quiet : ∀ k first cap args H v H', quiet k = true → call (.fn (.func k) first cap) args H = some (v, H') → H' = H
 lone : ∀ f args H v H1, call f args ⟨[], H.bl⟩ = some (v, H1) → call f args H = some (v, ⟨H.bx, H1.bl⟩)
 agr : ∀ f args H H' v H1, Agr (fun _ => True) H H' → call f args H = some (v, H1) → ∃ H1', call f args H' = some (v, H1') ∧ Agr (fun _ => True) H1 H1'

theorem agr_all {H H' : Heap} : Agr (fun _ => True) H H' ↔ ∀ r, same r H H' :=
 ⟨fun h r => by cases r with | loc s => exact h.bx s trivial | bl => exact h.bl, fun h => ⟨h .bl, fun s _ => h (.loc s)⟩⟩

theorem locs_in {vs : List CV} (h : CV.locs vs = false) : ∀ x ∈ vs, vIn (fun _ => False) x := by
 induction vs with
 | nil => intro x hx; simp at hx
 | cons c cs ih =>
  simp only [CV.locs, Bool.or_eq_false_iff] at h
  intro x hx
  rcases List.mem_cons.1 hx with rfl | hx
  · cases x with
   | op i off => cases i with
    | loc s => simp [CV.locv, Id.loc?] at h
    | blk n => trivial
   | os s i off n => cases i with
    | loc s => simp [CV.locv, Id.loc?] at h
    | blk n => trivial
   | _ => trivial
  · exact ih h.2 x hx

/-- What a step comes to elsewhere. -/
def Moves (f : Foot) (H H' : Heap) (r r' : Option (CV × Heap)) : Prop :=
 ∀ v H1, r = some (v, H1) → ∃ H1', r' = some (v, H1') ∧ (∀ x, f.wr x → same x H1' H1) ∧ (∀ x, ¬ f.wr x → same x H1' H') ∧ (∀ x, ¬ f.wr x → same x H1 H)

theorem moves_looks {f : Foot} {H H' : Heap} {r r' : Option (CV × Heap)} (hw : ∀ x, ¬ f.wr x) (h : ∀ v H1, r = some (v, H1) → H1 = H ∧ r' = some (v, H')) : Moves f H H' r r' := by
 intro v H1 hr
 obtain ⟨rfl, h2⟩ := h v H1 hr
 exact ⟨H', h2, fun x hx => (hw x hx).elim, fun x _ => same.refl x _, fun x _ => same.refl x _⟩

theorem heapOp_looks {o : HOp} (ho : (∃ a n, o = .load a n) ∨ (∃ k z b, o = .look k z b) ∨ o = .lenM) {vs : List CV} {H : Heap} {v : CV} {H1 : Heap} (h : heapOp o vs H = some (v, H1)) : H1 = H := by
 rcases ho with ⟨a, n, rfl⟩ | ⟨k, z, b, rfl⟩ | rfl
 all_goals
  unfold heapOp at h
  split at h <;> (try cases h) <;> rename_i heq <;> cases heq
  simp only [Option.map_eq_some_iff, Prod.mk.injEq] at h
  obtain ⟨_, _, _, rfl⟩ := h
  rfl

theorem box_moves {d : Nat} {H H' : Heap} (hs : same (.loc d) H H') {cs : List CV} {c : Bool} {v : CV} : Moves ⟨false, [.loc d], false, [.loc d]⟩ H H' (if ((look H.bx d).isNone && c) = true then some (v, H.put (.loc d) cs) else none) (if ((look H'.bx d).isNone && c) = true then some (v, H'.put (.loc d) cs) else none) := by
 intro v' H1 hr
 have hs' : look H.bx d = look H'.bx d := hs
 split at hr <;> cases hr
 rename_i hc
 refine ⟨H'.put (.loc d) cs, by rw [if_pos (by rw [← hs']; exact hc)], ?_, ?_, ?_⟩
 · intro x hx
  simp only [Foot.wr, Bool.false_eq_true, false_or, List.mem_singleton] at hx
  subst hx
  simp [same, Heap.put, look_setBx]
 all_goals
  intro x hx
  simp only [Foot.wr, Bool.false_eq_true, false_or, List.mem_singleton] at hx
  cases x with
  | loc s =>
   have : ¬ s = d := fun e => hx (by rw [e])
   simp [same, Heap.put, look_setBx, this]
  | bl => rfl

/-- An operation that works in the blocks alone. -/
theorem blk_moves {o : HOp} (hb : ∀ s, o ≠ .box s) (hn : ∀ s z, o ≠ .newl s z) {H H' : Heap} (h : H.bl = H'.bl) {vs : List CV} (hv : ∀ x ∈ vs, vIn (fun _ => False) x) (ra : Bool) (rl : List Rsc) : Moves ⟨ra, rl, false, [.bl]⟩ H H' (heapOp o vs H) (heapOp o vs H') := by
 intro v H1 hr
 obtain ⟨H1', h1, h2, h3, h4⟩ := heapOp_agr (D := fun _ => False) ⟨h, fun _ hf => hf.elim⟩ o hb hn vs hv v H1 hr
 refine ⟨H1', h1, fun x hx => ?_, fun x hx => ?_, fun x hx => ?_⟩
 · simp only [Foot.wr, Bool.false_eq_true, false_or, List.mem_singleton] at hx
  subst hx
  exact h2.bl.symm
 · cases x with
  | loc s => exact h4 s id
  | bl => exact (hx (.inr (by simp))).elim
 · cases x with
  | loc s => exact h3 s id
  | bl => exact (hx (.inr (by simp))).elim

/-- An operation at one box. -/
theorem at_moves {s : Nat} {H H' : Heap} (hs : look H.bx s = look H'.bx s) {off : Nat} {r : List CV} :
  (∀ a n, Moves ⟨false, [.loc s], false, []⟩ H H' (heapOp (.load a n) (.op (.loc s) off :: r) H) (heapOp (.load a n) (.op (.loc s) off :: r) H')) ∧
  (∀ n, Moves ⟨false, [.loc s], false, [.loc s]⟩ H H' (heapOp (.store n) (.op (.loc s) off :: r) H) (heapOp (.store n) (.op (.loc s) off :: r) H')) := by
 refine ⟨fun a n => ?_, fun n => ?_⟩
 · refine moves_looks (fun x hx => by simp [Foot.wr] at hx) fun v H1 hr => ?_
  refine ⟨heapOp_looks (.inl ⟨a, n, rfl⟩) hr, ?_⟩
  cases r with
  | cons _ _ => simp [heapOp] at hr
  | nil =>
   simp only [heapOp, loadC, Heap.get] at hr ⊢
   rw [← hs]
   simp only [Option.map_eq_some_iff, Prod.mk.injEq] at hr ⊢
   obtain ⟨u, hu, rfl, _⟩ := hr
   exact ⟨u, hu, rfl, trivial⟩
 · intro v H1 hr
  match r, hr with
  | [x], hr =>
   simp only [heapOp, storeC, Heap.get] at hr ⊢
   rw [← hs]
   simp only [Option.map_eq_some_iff, Prod.mk.injEq] at hr
   obtain ⟨H2, h2, rfl, rfl⟩ := hr
   obtain ⟨cs, hc, h2⟩ := Option.bind_eq_some_iff.1 h2
   split at h2 <;> (try cases h2)
   rename_i hcond
   refine ⟨H'.put (.loc s) (setMany cs off x.cells), by rw [hc, Option.bind_some, if_pos hcond]; rfl, ?_, ?_, ?_⟩
   · intro y hy
    simp only [Foot.wr, Bool.false_eq_true, false_or, List.mem_singleton] at hy
    subst hy
    simp [same, Heap.put, look_setBx]
   all_goals
    intro y hy
    simp only [Foot.wr, Bool.false_eq_true, false_or, List.mem_singleton] at hy
    cases y with
    | loc t =>
     have : ¬ t = s := fun e => hy (by rw [e])
     simp [same, Heap.put, look_setBx, this]
    | bl => rfl
  | [], hr => simp [heapOp] at hr
  | _ :: _ :: _, hr => simp [heapOp] at hr

/-- An operation that may look at all, and turn all. -/
theorem all_moves {o : HOp} (hb : ∀ s, o ≠ .box s) (hn : ∀ s z, o ≠ .newl s z) {H H' : Heap} (h : Agr (fun _ => True) H H') {vs : List CV} : Moves ⟨true, [], true, []⟩ H H' (heapOp o vs H) (heapOp o vs H') := by
 intro v H1 hr
 have hv : ∀ x ∈ vs, vIn (fun _ => True) x := by
  intro x _
  cases x with
  | op i _ => cases i <;> trivial
  | os _ i _ _ => cases i <;> trivial
  | _ => trivial
 obtain ⟨H1', h1, h2, _⟩ := heapOp_agr h o hb hn vs hv v H1 hr
 exact ⟨H1', h1, fun x _ => (agr_all.1 h2 x).symm, fun x hx => (hx (.inl rfl)).elim, fun x hx => (hx (.inl rfl)).elim⟩

theorem widen {f : Foot} {H H' : Heap} {r r' : Option (CV × Heap)} (ha : Agr (fun _ => True) H H') (h : Moves f H H' r r') : Moves ⟨true, [], true, []⟩ H H' r r' := by
 intro v H1 hr
 obtain ⟨H2, h2, g1, g2, g3⟩ := h v H1 hr
 refine ⟨H2, h2, fun y _ => ?_, fun y hy => (hy (.inl rfl)).elim, fun y hy => (hy (.inl rfl)).elim⟩
 by_cases hy : f.wr y
 · exact g1 y hy
 · exact (g2 y hy).trans ((agr_all.1 ha y).symm.trans (g3 y hy).symm)

theorem newl_moves {d : Nat} {z vs : List CV} {H H' : Heap} (hs : same (.loc d) H H') : Moves ⟨false, [.loc d], false, [.loc d]⟩ H H' (heapOp (.newl d z) vs H) (heapOp (.newl d z) vs H') := by
 cases vs with
 | nil =>
  have := box_moves hs (cs := z) (c := ones z && !CV.locs z) (v := .op (.loc d) 0)
  simpa only [heapOp, Bool.and_assoc] using this
 | cons x r => intro v H1 hr; simp [heapOp] at hr

theorem boxl_moves {d : Nat} {vs : List CV} {H H' : Heap} (hs : same (.loc d) H H') : Moves ⟨false, [.loc d], false, [.loc d]⟩ H H' (heapOp (.box d) vs H) (heapOp (.box d) vs H') := by
 match vs with
 | [] => intro v H1 hr; simp [heapOp] at hr
 | [x] =>
  have := box_moves hs (cs := x.cells) (c := ones x.cells) (v := .op (.loc d) 0)
  simpa only [heapOp, Bool.and_comm] using this
 | _ :: _ :: _ => intro v H1 hr; simp [heapOp] at hr

theorem any_moves (o : HOp) {H H' : Heap} (h : Agr (fun _ => True) H H') {vs : List CV} : Moves ⟨true, [], true, []⟩ H H' (heapOp o vs H) (heapOp o vs H') := by
 cases o with
 | box d => exact widen h (boxl_moves (h.bx d trivial))
 | newl d z => exact widen h (newl_moves (h.bx d trivial))
 | _ => exact all_moves (by simp) (by simp) h

theorem ite_none {c : Prop} [Decidable c] {a : Option (CV × Heap)} {v : CV} {H : Heap} (h : (if c then none else a) = some (v, H)) : ¬ c ∧ a = some (v, H) := by
 split at h
 · cases h
 · exact ⟨‹_›, h⟩

theorem run_foot {call : Caller} {quiet : FuncId → Bool} (hq : QuietOk call quiet) {s : CStm} {env : Env} {H H' : Heap} (h : ∀ r, (footOf quiet s).rd r → same r H H') :
  Moves (footOf quiet s) H H' (runOp call s.op (evs env s.args) H) (runOp call s.op (evs env s.args) H') := by
 obtain ⟨dst, op, args, guard⟩ := s
 have hall : ∀ {f : Foot}, f.ra = true → footOf quiet ⟨dst, op, args, guard⟩ = f → Agr (fun _ => True) H H' := fun hra hf => agr_all.2 fun r => h r (by rw [hf]; exact .inl hra)
 cases op with
 | p o =>
  refine moves_looks (fun x hx => by simp [Foot.wr, footOf] at hx) fun v H1 hr => ?_
  simp only [runOp, Option.map_eq_some_iff, Prod.mk.injEq] at hr ⊢
  obtain ⟨u, hu, rfl, rfl⟩ := hr
  exact ⟨rfl, u, hu, rfl, trivial⟩
 | h o =>
  have plain : footOf quiet ⟨dst, .h o, args, guard⟩ = ⟨true, [], true, []⟩ → (∀ s, o ≠ .box s) → (∀ s z, o ≠ .newl s z) → Moves (footOf quiet ⟨dst, .h o, args, guard⟩) H H' (runOp call (.h o) (evs env args) H) (runOp call (.h o) (evs env args) H') := by
   intro hf hb hn
   have := hall (by rw [hf]) rfl
   rw [hf]
   exact all_moves hb hn this
  have looks : footOf quiet ⟨dst, .h o, args, guard⟩ = ⟨true, [], false, []⟩ → ((∃ a n, o = .load a n) ∨ (∃ k z b, o = .look k z b) ∨ o = .lenM) → Moves (footOf quiet ⟨dst, .h o, args, guard⟩) H H' (runOp call (.h o) (evs env args) H) (runOp call (.h o) (evs env args) H') := by
   intro hf ho
   have ha := hall (by rw [hf]) rfl
   intro v H1 hr
   have e1 := heapOp_looks ho hr
   subst e1
   have hb : ∀ s, o ≠ .box s := by rcases ho with ⟨_, _, rfl⟩ | ⟨_, _, _, rfl⟩ | rfl <;> simp
   have hn : ∀ s z, o ≠ .newl s z := by rcases ho with ⟨_, _, rfl⟩ | ⟨_, _, _, rfl⟩ | rfl <;> simp
   obtain ⟨H2, h2, _⟩ := all_moves hb hn ha v _ hr
   have e2 := heapOp_looks ho h2
   subst e2
   refine ⟨_, h2, fun x hx => ?_, fun x _ => same.refl x _, fun x _ => same.refl x _⟩
   rw [hf] at hx
   simp [Foot.wr] at hx
  cases o with
  | bslF sz len z ps =>
   refine moves_looks (fun x hx => by simp [Foot.wr, footOf] at hx) fun v H1 hr => ?_
   simp only [runOp, heapOp] at hr ⊢
   split at hr <;> (try cases hr)
   rename_i hl
   obtain ⟨cs, h1, h2⟩ := Option.bind_eq_some_iff.1 hr
   split at h2 <;> cases h2
   rename_i hb
   exact ⟨rfl, by rw [if_pos hl, h1, Option.bind_some, if_pos hb]⟩
  | newl d z => exact newl_moves (h (.loc d) (.inr (by simp [footOf])))
  | box d => exact boxl_moves (h (.loc d) (.inr (by simp [footOf])))
  | load a n => exact looks rfl (.inl ⟨a, n, rfl⟩)
  | look k z b => exact looks rfl (.inr (.inl ⟨k, z, b, rfl⟩))
  | lenM => exact looks rfl (.inr (.inr rfl))
  | _ => exact plain rfl (by simp) (by simp)
 | hb o =>
  have blk : ∀ (rl wl : List Rsc), footOf quiet ⟨dst, .hb o, args, guard⟩ = ⟨false, rl, false, wl⟩ → .bl ∈ rl → (wl = [.bl] ∨ (wl = [] ∧ ((∃ a n, o = .load a n) ∨ (∃ k z b, o = .look k z b) ∨ o = .lenM))) → (∀ s, o ≠ .box s) → (∀ s z, o ≠ .newl s z) → Moves (footOf quiet ⟨dst, .hb o, args, guard⟩) H H' (runOp call (.hb o) (evs env args) H) (runOp call (.hb o) (evs env args) H') := by
   intro rl wl hf hrl hwl hb hn v H1 hr
   have hbl : H.bl = H'.bl := h .bl (by rw [hf]; exact .inr hrl)
   simp only [runOp] at hr ⊢
   obtain ⟨hlc, hr⟩ := ite_none hr
   rw [if_neg hlc]
   obtain ⟨H2, h2, g1, g2, g3⟩ := blk_moves hb hn hbl (locs_in (by simpa using hlc)) false [] v H1 hr
   rw [hf]
   rcases hwl with rfl | ⟨rfl, ho⟩
   · exact ⟨H2, h2, g1, g2, g3⟩
   · have e1 := heapOp_looks ho hr
    have e2 := heapOp_looks ho h2
    subst e1
    subst e2
    exact ⟨_, h2, fun x hx => by simp [Foot.wr] at hx, fun x _ => same.refl x _, fun x _ => same.refl x _⟩
  cases o with
  | box d =>
   intro v H1 hr
   have ha := agr_all.2 fun r => h r (.inl rfl)
   simp only [runOp] at hr ⊢
   obtain ⟨hlc, hr⟩ := ite_none hr
   rw [if_neg hlc]
   exact any_moves _ ha v H1 hr
  | newl d z =>
   intro v H1 hr
   have ha := agr_all.2 fun r => h r (.inl rfl)
   simp only [runOp] at hr ⊢
   obtain ⟨hlc, hr⟩ := ite_none hr
   rw [if_neg hlc]
   exact any_moves _ ha v H1 hr
  | load a n => exact blk [.bl] [] rfl (by simp) (.inr ⟨rfl, .inl ⟨a, n, rfl⟩⟩) (by simp) (by simp)
  | look k z b => exact blk [.bl] [] rfl (by simp) (.inr ⟨rfl, .inr (.inl ⟨k, z, b, rfl⟩)⟩) (by simp) (by simp)
  | lenM => exact blk [.bl] [] rfl (by simp) (.inr ⟨rfl, .inr (.inr rfl)⟩) (by simp) (by simp)
  | _ => exact blk [.bl] [.bl] rfl (by simp) (.inl rfl) (by simp) (by simp)
 | hl d o =>
  cases hv : evs env args with
  | nil => intro v H1 hr; simp [runOp] at hr
  | cons x r =>
   by_cases hx : ∃ off, x = .op (.loc d) off ∧ CV.locs r = false
   · obtain ⟨off, rfl, hr⟩ := hx
    have e : ∀ H, runOp call (.hl d o) (.op (.loc d) off :: r) H = heapOp o (.op (.loc d) off :: r) H := fun H => by simp only [runOp, hr, and_self, if_true]
    simp only [e]
    cases o with
    | load a n => exact (at_moves (h (.loc d) (.inr (by simp [footOf])))).1 a n
    | store n => exact (at_moves (h (.loc d) (.inr (by simp [footOf])))).2 n
    | _ => exact any_moves _ (agr_all.2 fun r => h r (.inl rfl))
   · intro v H1 hr
    exfalso
    simp only [runOp] at hr
    split at hr <;> (try cases hr)
    rename_i t off r' heq
    cases heq
    split at hr <;> (try cases hr)
    rename_i hc
    exact hx ⟨off, by rw [hc.1], hc.2⟩
 | callb =>
  have hbl : H.bl = H'.bl := h .bl (by
   unfold footOf Foot.rd
   dsimp only
   split
   · split <;> simp
   · simp)
  intro v H1 hr
  cases hv : evs env args with
  | nil => rw [hv] at hr; simp [runOp] at hr
  | cons f as =>
   rw [hv] at hr
   simp only [runOp, Option.map_eq_some_iff, Prod.mk.injEq] at hr ⊢
   obtain ⟨⟨u, H2⟩, h2, rfl, rfl⟩ := hr
   rw [← hbl]
   refine ⟨⟨H'.bx, H2.bl⟩, ⟨(u, H2), h2, rfl, rfl⟩, ?_⟩
   by_cases hqk : ∃ k a c r, args = .c (.fn (.func k) a c) :: r ∧ quiet k = true
   · obtain ⟨k, a, c, r, rfl, hqk⟩ := hqk
    have hf : f = .fn (.func k) a c := by simp only [evs, ev, List.cons.injEq] at hv; exact hv.1.symm
    subst hf
    have e1 := hq.quiet _ _ _ _ _ _ _ hqk h2
    subst e1
    refine ⟨fun x hx => by simp [Foot.wr, footOf, hqk] at hx, fun x _ => ?_, fun x _ => ?_⟩
    · cases x with
     | loc s => rfl
     | bl => exact hbl
    · cases x with
     | loc s => rfl
     | bl => rfl
   · have hf : footOf quiet ⟨dst, .callb, args, guard⟩ = ⟨false, [.bl], false, [.bl]⟩ := by
     unfold footOf
     dsimp only
     split
     · split
      · exact (hqk ⟨_, _, _, _, rfl, by assumption⟩).elim
      · rfl
     · rfl
    rw [hf]
    refine ⟨fun x hx => ?_, fun x hx => ?_, fun x hx => ?_⟩
    · simp only [Foot.wr, Bool.false_eq_true, false_or, List.mem_singleton] at hx
     subst hx
     rfl
    · cases x with
     | loc s => rfl
     | bl => exact (hx (.inr (by simp))).elim
    · cases x with
     | loc s => rfl
     | bl => exact (hx (.inr (by simp))).elim
 | callp =>
  have hbl : H.bl = H'.bl := h .bl (.inr (by simp [footOf]))
  intro v H1 hr
  cases hv : evs env args with
  | nil => rw [hv] at hr; simp [runOp] at hr
  | cons f as =>
   rw [hv] at hr
   simp only [runOp] at hr ⊢
   rw [← hbl]
   obtain ⟨⟨u, H2⟩, h2, h3⟩ := Option.bind_eq_some_iff.1 hr
   split at h3 <;> cases h3
   rename_i hp
   refine ⟨⟨H'.bx, H2.bl⟩, by rw [h2, Option.bind_some, if_pos hp], ?_⟩
   refine ⟨fun x hx => ?_, fun x hx => ?_, fun x hx => ?_⟩
   · simp only [Foot.wr, footOf, Bool.false_eq_true, false_or, List.mem_singleton] at hx
    subst hx
    rfl
   · cases x with
    | loc s => rfl
    | bl => exact (hx (.inr (by simp [footOf]))).elim
   · cases x with
    | loc s => rfl
    | bl => exact (hx (.inr (by simp [footOf]))).elim
 | callv =>
  intro v H1 hr
  cases hv : evs env args with
  | nil => rw [hv] at hr; simp [runOp] at hr
  | cons f as =>
   rw [hv] at hr
   simp only [runOp] at hr ⊢
   obtain ⟨hrf, hr⟩ := ite_none hr
   rw [if_neg hrf]
   simp only [Option.map_eq_some_iff, Prod.mk.injEq] at hr ⊢
   obtain ⟨y, hy, rfl, rfl⟩ := hr
   refine ⟨H', ⟨y, hy, rfl, rfl⟩, fun x hx => ?_, fun x _ => same.refl x _, fun x _ => same.refl x _⟩
   by_cases hqk : ∃ k a c r, args = .c (.fn (.func k) a c) :: r ∧ quiet k = true
   · obtain ⟨k, a, c, r, rfl, hqk⟩ := hqk
    simp [Foot.wr, footOf, hqk] at hx
   · have hf : footOf quiet ⟨dst, .callv, args, guard⟩ = ⟨true, [], true, []⟩ := by
     unfold footOf
     dsimp only
     split
     · split
      · exact (hqk ⟨_, _, _, _, rfl, by assumption⟩).elim
      · rfl
     · rfl
    exact (h x (by rw [hf]; exact .inl rfl)).symm
 | call =>
  have ha : Agr (fun _ => True) H H' := agr_all.2 fun r => h r (.inl (by
   unfold footOf
   dsimp only
   split
   · split <;> rfl
   · rfl))
  intro v H1 hr
  cases hv : evs env args with
  | nil => rw [hv] at hr; simp [runOp] at hr
  | cons f as =>
   rw [hv] at hr
   simp only [runOp] at hr ⊢
   obtain ⟨H2, h2, h3⟩ := hq.agr f as H H' v H1 ha hr
   have full : ∀ g : Foot, g.wa = true → (∃ H1', call f as H' = some (v, H1') ∧ (∀ x, g.wr x → same x H1' H1) ∧ (∀ x, ¬ g.wr x → same x H1' H') ∧ (∀ x, ¬ g.wr x → same x H1 H)) := fun g hg =>
    ⟨H2, h2, fun x _ => (agr_all.1 h3 x).symm, fun x hx => (hx (.inl hg)).elim, fun x hx => (hx (.inl hg)).elim⟩
   by_cases hqk : ∃ k a c r, args = .c (.fn (.func k) a c) :: r ∧ quiet k = true
   · obtain ⟨k, a, c, r, rfl, hqk⟩ := hqk
    have hf : f = .fn (.func k) a c := by simp only [evs, ev, List.cons.injEq] at hv; exact hv.1.symm
    subst hf
    have e1 := hq.quiet _ _ _ _ _ _ _ hqk hr
    have e2 := hq.quiet _ _ _ _ _ _ _ hqk h2
    subst e1
    subst e2
    exact ⟨_, h2, fun x hx => by simp [Foot.wr, footOf, hqk] at hx, fun x _ => same.refl x _, fun x _ => same.refl x _⟩
   · refine full _ ?_
    unfold footOf
    dsimp only
    split
    · split
     · exact (hqk ⟨_, _, _, _, rfl, by assumption⟩).elim
     · rfl
    · rfl

end Go.Zc
end
section
namespace Go.Zc

section
variable {P : Program} {w : World} {F : Nat → Prop} {ι : IM} {H : Heap} {env : Env} {a : Act}


theorem trace {call : Caller} : ∀ {l : List CStm} {env env' : Env} {H H' : Heap}, runOps call l env H = some (env', H') →
  ∃ (E : Nat → Env) (Hs : Nat → Heap) (C : Nat → CV), E 0 = env ∧ Hs 0 = H ∧ E l.length = env' ∧ Hs l.length = H' ∧ ∀ (k : Nat) (s : CStm), l[k]? = some s → Stepped call s (E k) (Hs k) (C k) (Hs (k + 1)) ∧ E (k + 1) = putD (E k) s.dst (C k)
 | [], env, env', H, H', h => by
  simp only [runOps, Option.some.injEq, Prod.mk.injEq] at h
  obtain ⟨rfl, rfl⟩ := h
  exact ⟨fun _ => env, fun _ => H, fun _ => .und, rfl, rfl, rfl, rfl, by simp⟩
 | s :: l, env, env', H, H', h => by
  obtain ⟨v, H1, h1, h2⟩ := runOps_cons h
  obtain ⟨E, Hs, C, e1, e2, e3, e4, e5⟩ := trace h2
  refine ⟨fun k => match k with | 0 => env | k + 1 => E k, fun k => match k with | 0 => H | k + 1 => Hs k, fun k => match k with | 0 => v | k + 1 => C k, rfl, rfl, e3, e4, ?_⟩
  intro k t hk
  cases k with
  | zero =>
   simp only [List.getElem?_cons_zero, Option.some.injEq] at hk
   subst hk
   exact ⟨by simpa [e2] using h1, e1⟩
  | succ k => exact e5 k t (by simpa using hk)

theorem evs_congr {e e' : Env} : ∀ {l : List Opd}, (∀ t ∈ temps l, Env.at e t = Env.at e' t) → evs e l = evs e' l
 | [], _ => rfl
 | .t n :: r, h => by
  simp only [temps, List.mem_cons, forall_eq_or_imp] at h
  simp only [evs, ev, h.1, evs_congr h.2]
 | .c v :: r, h => by
  simp only [temps] at h
  simp only [evs, ev, evs_congr h]

theorem wr_rd {quiet : FuncId → Bool} {s : CStm} {r : Rsc} (h : (footOf quiet s).wr r) : (footOf quiet s).rd r := by
 obtain ⟨dst, op, args, guard⟩ := s
 cases op with
 | p o => simp [Foot.wr, footOf] at h
 | h o => cases o <;> simp_all [Foot.wr, Foot.rd, footOf]
 | hb o => cases o <;> simp_all [Foot.wr, Foot.rd, footOf]
 | hl d o => cases o <;> simp_all [Foot.wr, Foot.rd, footOf]
 | callb =>
  revert h
  unfold footOf
  dsimp only
  split
  · split <;> simp [Foot.wr, Foot.rd]
  · simp [Foot.wr, Foot.rd]
 | callp => simpa [Foot.wr, Foot.rd, footOf] using h
 | callv =>
  revert h
  unfold footOf
  dsimp only
  split
  · split <;> simp [Foot.wr, Foot.rd]
  · simp [Foot.wr, Foot.rd]
 | call =>
  unfold footOf at h ⊢
  dsimp only at h ⊢
  split
  · split
   · exact .inl rfl
   · exact .inl rfl
  · exact .inl rfl

theorem stepped_foot {call : Caller} {quiet : FuncId → Bool} (hq : QuietOk call quiet) {s : CStm} {e e' : Env} {H H1 H' : Heap} {v : CV} (h : Stepped call s e H v H1) (he : ∀ t ∈ reads s, Env.at e t = Env.at e' t) (hh : ∀ r, (footOf quiet s).rd r → same r H H') :
  ∃ H1', Stepped call s e' H' v H1' ∧ (∀ x, (footOf quiet s).wr x → same x H1' H1) ∧ (∀ x, ¬ (footOf quiet s).wr x → same x H1' H') ∧ (∀ x, ¬ (footOf quiet s).wr x → same x H1 H) := by
 unfold Stepped at h ⊢
 have hr : evs e s.args = evs e' s.args := evs_congr fun t ht => he t (by unfold reads; split <;> simp [ht])
 cases hg : s.guard with
 | none =>
  simp only [hg] at h ⊢
  rw [← hr]
  exact run_foot hq hh v H1 h
 | some gw =>
  obtain ⟨g, want⟩ := gw
  simp only [hg] at h ⊢
  have hgt := he g (by simp [reads, hg])
  obtain ⟨b, hb, h⟩ := h
  rw [hgt] at hb
  by_cases hbw : b = some want
  · rw [if_pos hbw] at h
   obtain ⟨H1', h1, h2⟩ := run_foot hq hh v H1 h
   exact ⟨H1', ⟨b, hb, by rw [if_pos hbw, ← hr]; exact h1⟩, h2⟩
  · rw [if_neg hbw] at h
   obtain ⟨rfl, rfl⟩ := h
   exact ⟨H', ⟨b, hb, by rw [if_neg hbw]; exact ⟨rfl, rfl⟩⟩, fun x hx => (hh x (wr_rd hx)).symm, fun x _ => same.refl x _, fun x _ => same.refl x _⟩

/-- A statement with where it works says what the plain one says. -/
def Sharp (quiet : FuncId → Bool) (s s' : CStm) : Prop := s'.dst = s.dst ∧ ∀ (call : Caller), QuietOk call quiet → ∀ (e : Env) (H : Heap) (v : CV) (H1 : Heap), Stepped call s' e H v H1 → Stepped call s e H v H1

theorem Sharp.refl (quiet : FuncId → Bool) (s : CStm) : Sharp quiet s s := ⟨rfl, fun _ _ _ _ _ _ h => h⟩
theorem Sharp.trans {quiet : FuncId → Bool} {a b c : CStm} (h : Sharp quiet a b) (h' : Sharp quiet b c) : Sharp quiet a c := ⟨h'.1.trans h.1, fun call hq e H v H1 g => h.2 call hq e H v H1 (h'.2 call hq e H v H1 g)⟩

theorem sharp_of {quiet : FuncId → Bool} {s : CStm} {o o' : COp} (ho : s.op = o) (h : ∀ (call : Caller), QuietOk call quiet → ∀ (vs : List CV) (H : Heap) (v : CV) (H1 : Heap), runOp call o' vs H = some (v, H1) → runOp call o vs H = some (v, H1)) : Sharp quiet s { s with op := o' } := by
 refine ⟨rfl, fun call hq e H v H1 hs => ?_⟩
 unfold Stepped at hs ⊢
 simp only [ho]
 cases hg : s.guard with
 | none => simp only [hg] at hs ⊢; exact h _ hq _ _ _ _ hs
 | some gw =>
  simp only [hg] at hs ⊢
  obtain ⟨b, hb, hs⟩ := hs
  refine ⟨b, hb, ?_⟩
  split
  · rename_i hc; rw [if_pos hc] at hs; exact h _ hq _ _ _ _ hs
  · rename_i hc; rw [if_neg hc] at hs; exact hs

theorem run_hb {call : Caller} {o : HOp} {vs : List CV} {H : Heap} {v : CV} {H1 : Heap} (h : runOp call (.hb o) vs H = some (v, H1)) : runOp call (.h o) vs H = some (v, H1) := by
 simp only [runOp] at h ⊢
 exact (ite_none h).2

theorem run_hl {call : Caller} {d : Nat} {o : HOp} {vs : List CV} {H : Heap} {v : CV} {H1 : Heap} (h : runOp call (.hl d o) vs H = some (v, H1)) : runOp call (.h o) vs H = some (v, H1) := by
 simp only [runOp] at h ⊢
 split at h <;> (try cases h)
 split at h <;> (try cases h)
 exact h

theorem focus_sharp (quiet : FuncId → Bool) (boxes : List Nat) (l : List CStm) (s : CStm) : Sharp quiet s (focus boxes l s) := by
 unfold focus
 split
 · rename_i h _
  split
  · exact sharp_of h fun _ _ _ _ _ _ => run_hl
  · exact sharp_of h fun _ _ _ _ _ _ => run_hb
 · rename_i h _
  split
  · exact sharp_of h fun _ _ _ _ _ _ => run_hl
  · exact sharp_of h fun _ _ _ _ _ _ => run_hb
 · exact Sharp.refl _ s
 · exact Sharp.refl _ s
 · exact Sharp.refl _ s
 · exact sharp_of (by assumption) fun _ _ _ _ _ _ => run_hb
 · refine sharp_of (by assumption) fun call hq vs H v H1 h => ?_
  cases vs with
  | nil => simp [runOp] at h
  | cons f as =>
   simp only [runOp, Option.map_eq_some_iff, Prod.mk.injEq] at h ⊢
   obtain ⟨⟨u, H2⟩, h2, rfl, rfl⟩ := h
   exact hq.lone _ _ _ _ _ h2
 · exact Sharp.refl _ s

theorem focusC_sharp (quiet : FuncId → Bool) (b : Bool) (s : CStm) : Sharp quiet s (focusC quiet b s) := by
 unfold focusC
 split
 · rename_i k a c r ho ha
  split
  · rename_i hqk
   split
   · refine ⟨rfl, fun call hq e H v H1 hs => ?_⟩
    have key : runOp call .callv (evs e s.args) H = some (v, H1) → runOp call s.op (evs e s.args) H = some (v, H1) := by
     rw [ho, ha]
     simp only [evs, ev, runOp]
     intro h
     obtain ⟨hrf, h⟩ := ite_none h
     simp only [Option.map_eq_some_iff, Prod.mk.injEq] at h
     obtain ⟨⟨u, H2⟩, h2, rfl, rfl⟩ := h
     have := hq.free k a c (evs e r) ⟨[], H.bl⟩ u H2 hqk (by simpa using hrf) h2
     rw [this]
     rfl
    unfold Stepped at hs ⊢
    dsimp only at hs
    cases hg : s.guard with
    | none => simp only [hg] at hs ⊢; exact key hs
    | some gw =>
     simp only [hg] at hs ⊢
     obtain ⟨b, hb, hs⟩ := hs
     refine ⟨b, hb, ?_⟩
     split
     · rename_i hc; rw [if_pos hc] at hs; exact key hs
     · rename_i hc; rw [if_neg hc] at hs; exact hs
   · exact Sharp.refl _ s
  · refine sharp_of ho fun call hq vs H v H1 h => ?_
   cases vs with
   | nil => simp [runOp] at h
   | cons f as =>
    simp only [runOp, Option.map_eq_some_iff, Option.bind_eq_some_iff, Prod.mk.injEq] at h ⊢
    obtain ⟨⟨u, H2⟩, h2, h3⟩ := h
    split at h3 <;> cases h3
    exact ⟨(u, H2), h2, rfl, rfl⟩
 · exact Sharp.refl _ s

/-! ### What looks, and what but grows -/

theorem steady_nowr {quiet : FuncId → Bool} {s : CStm} (h : steady s = true) (r : Rsc) : ¬ (footOf quiet s).wr r := by
 obtain ⟨dst, op, args, guard⟩ := s
 unfold steady at h
 split at h
 · rename_i h1 _; dsimp only at h1; subst h1; simp [Foot.wr, footOf]
 · rename_i h1 _; dsimp only at h1; subst h1; simp [Foot.wr, footOf]
 · rename_i h1 _; dsimp only at h1; subst h1; simp [Foot.wr, footOf]
 · cases h

theorem alloc_grows {o : HOp} (ho : o = .boxh ∨ (∃ z, o = .newh z) ∨ o = .mkmap) {vs : List CV} {H H1 : Heap} {v : CV} (h : heapOp o vs H = some (v, H1)) : ∃ X, H1.bl = H.bl ++ X := by
 rcases ho with rfl | ⟨z, rfl⟩ | rfl
 · match vs, h with
  | [], h => simp [heapOp] at h
  | [x], h =>
   simp only [heapOp] at h
   split at h <;> cases h
   exact ⟨_, rfl⟩
  | _ :: _ :: _, h => simp [heapOp] at h
 · match vs, h with
  | [], h =>
   simp only [heapOp] at h
   split at h <;> cases h
   exact ⟨_, rfl⟩
  | _ :: _, h => simp [heapOp] at h
 · match vs, h with
  | [], h =>
   simp only [heapOp] at h
   cases h
   exact ⟨_, rfl⟩
  | _ :: _, h => simp [heapOp] at h

theorem grows_step {call : Caller} {s : CStm} (h : grows s = true) {e : Env} {H H1 : Heap} {v : CV} (hs : Stepped call s e H v H1) : ∃ X, H1.bl = H.bl ++ X := by
 have ho : s.op = .callp ∨ ∃ o, s.op = .hb o ∧ (o = .boxh ∨ (∃ z, o = .newh z) ∨ o = .mkmap) := by
  unfold grows at h
  split at h
  · exact .inl (by assumption)
  · exact .inr ⟨_, by assumption, .inl rfl⟩
  · exact .inr ⟨_, by assumption, .inr (.inl ⟨_, rfl⟩)⟩
  · exact .inr ⟨_, by assumption, .inr (.inr rfl)⟩
  · cases h
 have key : runOp call s.op (evs e s.args) H = some (v, H1) → ∃ X, H1.bl = H.bl ++ X := by
  rcases ho with ho | ⟨o, ho, ho2⟩
  · rw [ho]
   intro h
   cases hv : evs e s.args with
   | nil => rw [hv] at h; simp [runOp] at h
   | cons f as =>
    rw [hv] at h
    simp only [runOp, Option.bind_eq_some_iff] at h
    obtain ⟨x, h2, h3⟩ := h
    split at h3 <;> cases h3
    rename_i hp
    exact isPre_ex hp
  · rw [ho]
   intro h
   simp only [runOp] at h
   exact alloc_grows ho2 (ite_none h).2
 unfold Stepped at hs
 split at hs
 · exact key hs
 · obtain ⟨c, _, hs⟩ := hs
  split at hs
  · exact key hs
  · exact ⟨[], by rw [hs.2]; simp⟩

/-- Which block a look goes to. -/
def idOf : CV → Option Nat
 | .op (.blk k) _ => some k
 | .om k => some k
 | _ => none

theorem look_move {o : HOp} (ho : (∃ a n, o = .load a n) ∨ (∃ k z b, o = .look k z b) ∨ o = .lenM) {x : CV} {r : List CV} (hl : CV.locs (x :: r) = false) {H H' : Heap} {v : CV} {H1 : Heap} (h : heapOp o (x :: r) H = some (v, H1))
  (hk : ∀ k b, idOf x = some k → H.bl[k]? = some b → H'.bl[k]? = some b) : heapOp o (x :: r) H' = some (v, H') := by
 rcases ho with ⟨a, n, rfl⟩ | ⟨kk, z, b, rfl⟩ | rfl
 · cases r with
  | cons _ _ => simp [heapOp] at h
  | nil =>
   simp only [heapOp, Option.map_eq_some_iff, Prod.mk.injEq] at h ⊢
   obtain ⟨u, hu, rfl, _⟩ := h
   refine ⟨u, ?_, rfl, trivial⟩
   cases x with
   | op i off =>
    cases i with
    | loc s => simp [CV.locs, CV.locv, Id.loc?] at hl
    | blk k =>
     simp only [loadC, Heap.get] at hu ⊢
     cases hb : H.bl[k]? with
     | none => rw [hb] at hu; simp at hu
     | some b => rw [hb] at hu; rw [hk k b rfl hb]; exact hu
   | _ => exact hu
 · match r, h with
  | [], h => simp [heapOp] at h
  | [k], h =>
   simp only [heapOp, Option.map_eq_some_iff, Prod.mk.injEq] at h ⊢
   obtain ⟨u, hu, rfl, _⟩ := h
   refine ⟨u, ?_, rfl, trivial⟩
   cases x with
   | om m =>
    simp only [lookC] at hu ⊢
    cases hb : H.bl[m]? with
    | none => rw [hb] at hu; simp at hu
    | some b => rw [hb] at hu; rw [hk m b rfl hb]; exact hu
   | _ => exact hu
  | _ :: _ :: _, h => simp [heapOp] at h
 · cases r with
  | cons _ _ => simp [heapOp] at h
  | nil =>
   simp only [heapOp, Option.map_eq_some_iff, Prod.mk.injEq] at h ⊢
   obtain ⟨u, hu, rfl, _⟩ := h
   refine ⟨u, ?_, rfl, trivial⟩
   cases x with
   | om m =>
    simp only [lenMC] at hu ⊢
    cases hb : H.bl[m]? with
    | none => rw [hb] at hu; simp at hu
    | some b => rw [hb] at hu; rw [hk m b rfl hb]; exact hu
   | _ => exact hu

theorem steady_step {call : Caller} {s : CStm} (hst : steady s = true) {e e' : Env} {H H1 H' : Heap} {v : CV} (h : Stepped call s e H v H1) (he : ∀ t ∈ reads s, Env.at e t = Env.at e' t)
  (hk : ∀ t k b, idOf (Env.at e' t) = some k → H.bl[k]? = some b → H'.bl[k]? = some b) : Stepped call s e' H' v H' ∧ H1 = H := by
 have hr : evs e s.args = evs e' s.args := evs_congr fun t ht => he t (by unfold reads; split <;> simp [ht])
 have ho : ∃ o t r, s.op = .hb o ∧ s.args = .t t :: r ∧ ((∃ a n, o = .load a n) ∨ (∃ k z b, o = .look k z b) ∨ o = .lenM) := by
  unfold steady at hst
  split at hst
  · exact ⟨_, _, _, by assumption, by assumption, .inl ⟨_, _, rfl⟩⟩
  · exact ⟨_, _, _, by assumption, by assumption, .inr (.inl ⟨_, _, _, rfl⟩)⟩
  · exact ⟨_, _, _, by assumption, by assumption, .inr (.inr rfl)⟩
  · cases hst
 obtain ⟨o, t, r, h1, h2, h3⟩ := ho
 have key : runOp call s.op (evs e s.args) H = some (v, H1) → runOp call s.op (evs e' s.args) H' = some (v, H') ∧ H1 = H := by
  have hev : evs e' (.t t :: r) = Env.at e' t :: evs e' r := rfl
  rw [hr, h1, h2, hev]
  simp only [runOp]
  intro h
  obtain ⟨hlc, h⟩ := ite_none h
  refine ⟨?_, heapOp_looks h3 h⟩
  rw [if_neg hlc]
  exact look_move h3 (by simpa using hlc) h fun k b hi hb => hk t k b hi hb
 unfold Stepped at h ⊢
 cases hg : s.guard with
 | none => simp only [hg] at h ⊢; exact key h
 | some gw =>
  obtain ⟨g, want⟩ := gw
  simp only [hg] at h ⊢
  have hgt := he g (by simp [reads, hg])
  obtain ⟨b, hb, h⟩ := h
  rw [hgt] at hb
  by_cases hbw : b = some want
  · rw [if_pos hbw] at h
   obtain ⟨k1, k2⟩ := key h
   exact ⟨⟨b, hb, by rw [if_pos hbw]; exact k1⟩, k2⟩
  · rw [if_neg hbw] at h
   obtain ⟨rfl, rfl⟩ := h
   exact ⟨⟨b, hb, by rw [if_neg hbw]; exact ⟨rfl, trivial⟩⟩, rfl⟩

/-- Heaps that agree are one. -/
theorem alike_get {H H' : Heap} (h : Agr (fun _ => True) H H') (i : Id) : H.get i = H'.get i := h.get (by cases i <;> trivial)

theorem alike_live {H H' : Heap} (h : Agr (fun _ => True) H H') (i : Id) : H.live i ↔ H'.live i := by
 cases i with
 | loc s => simp only [Heap.live, h.bx s trivial]
 | blk n => simp only [Heap.live, h.bl]

theorem alike_Live {H H' : Heap} (h : Agr (fun _ => True) H H') {b : Nat} : Live ι H b ↔ Live ι H' b := by
 unfold Live
 simp only [alike_live h]

theorem alike_inv {H H' : Heap} (h : Agr (fun _ => True) H H') (hi : Inv w F ι H) : Inv w F ι H' where
 len := by rw [← h.bl]; exact hi.len
 cells := fun i cs hc => hi.cells i cs (by rw [alike_get h]; exact hc)
 maps := fun n es hc => hi.maps n es (by rw [h.bl]; exact hc)
 inj := fun i j b h1 h2 => hi.inj i j b ((alike_live h i).2 h1) ((alike_live h j).2 h2)
 dis := fun b hb hl => hi.dis b hb ((alike_Live h).2 hl)
 lt := hi.lt
 lo := fun s hs => hi.lo s (by
  first
   | exact hs
   | (rw [h.bx s trivial]; exact hs))

/-! ### The edges -/

theorem mask_fold (S : Nat → Prop) (acc : List Nat) (hacc : ∀ i, S i → ∀ j, (acc.getD i 0).testBit j = true → S j) : ∀ (es : List Edge) (s : Nat), (∀ e ∈ es, Region.binds .any e = true → S e.on) → (∀ j, s.testBit j = true → S j) →
  ∀ j, (es.foldl (fun s e => if Region.binds .any e then s ||| 2 ^ e.on ||| acc.getD e.on 0 else s) s).testBit j = true → S j
 | [], s, _, hs, j, h => hs j h
 | e :: es, s, he, hs, j, h => by
  simp only [List.foldl_cons] at h
  refine mask_fold S acc hacc es _ (fun e' h' => he e' (List.mem_cons_of_mem _ h')) ?_ j h
  intro j hj
  split at hj
  · rename_i hb
   have hon := he e (by simp) hb
   simp only [Nat.testBit_or, Bool.or_eq_true, Nat.testBit_two_pow, decide_eq_true_eq] at hj
   rcases hj with (hj | hj) | hj
   · exact hs j hj
   · exact hj ▸ hon
   · exact hacc _ hon j hj
  · exact hs j hj

theorem masks_ok (S : Nat → Prop) : ∀ (rest : List Oper) (acc : List Nat), (∀ i, S i → ∀ j, (acc.getD i 0).testBit j = true → S j) →
  (∀ i o, rest[i]? = some o → S (acc.length + i) → ∀ e ∈ o.after.toList, Region.binds .any e = true → S e.on) → ∀ i, S i → ∀ j, ((masks acc rest).getD i 0).testBit j = true → S j
 | [], acc, hacc, _ => hacc
 | o :: rest, acc, hacc, hc => by
  refine masks_ok S rest (acc ++ [maskOf acc o]) ?_ ?_
  · intro i hi j hj
   rcases Nat.lt_trichotomy i acc.length with h | h | h
   · refine hacc i hi j ?_
    simpa [List.getD, List.getElem?_append_left h] using hj
   · subst h
    have hj' : (maskOf acc o).testBit j = true := by simpa [List.getD] using hj
    exact mask_fold S acc hacc _ 0 (hc 0 o rfl (by simpa using hi)) (fun j h => by simp at h) j hj'
   · have : (acc ++ [maskOf acc o]).getD i 0 = 0 := by simp [List.getD, List.getElem?_eq_none (show (acc ++ [maskOf acc o]).length ≤ i by simp; omega)]
    rw [this] at hj
    simp at hj
  · intro i o' ho hi
   refine hc (i + 1) o' (by simpa using ho) ?_
   simpa [Nat.add_assoc, Nat.add_comm 1 i] using hi

theorem filt {p q : Nat → Bool} {i : Nat} (hp : p i = true) (hq : ∀ x, q x = (p x && !(x == i))) : ∀ (l : List Nat), l.Nodup → i ∈ l → (l.filter q).length + 1 = (l.filter p).length
 | [], _, h => by simp at h
 | x :: l, hn, h => by
  have hn' := List.nodup_cons.1 hn
  by_cases hx : x = i
  · subst hx
   have : l.filter q = l.filter p := List.filter_congr fun y hy => by
    have : y ≠ x := fun e => hn'.1 (e ▸ hy)
    simp [hq, this]
   simp [hq, hp, this]
  · have hm : i ∈ l := by
    rcases List.mem_cons.1 h with h | h
    · exact (hx h.symm).elim
    · exact h
   have := filt hp hq l hn'.2 hm
   have hqx : q x = p x := by simp [hq, hx]
   cases hpx : p x with
   | true =>
    rw [List.filter_cons_of_pos (by rw [hqx]; exact hpx), List.filter_cons_of_pos hpx]
    simp only [List.length_cons]; omega
   | false =>
    rw [List.filter_cons_of_neg (by rw [hqx, hpx]; simp), List.filter_cons_of_neg (by rw [hpx]; simp)]
    exact this

theorem compStms_get {an : Ann} {n : Nat} {ops : Array Oper} : ∀ {rest : List Oper} {l : List CStm}, compStms P an n ops rest = some l → l.length = rest.length ∧ ∀ (k : Nat) (o : Oper), rest[k]? = some o → ∃ s, l[k]? = some s ∧ compStm P an n ops o = some s
 | [], l, h => by
  simp only [compStms, Option.some.injEq] at h; subst h
  simp
 | o :: rest, l, h => by
  simp only [compStms, Option.bind_eq_some_iff, Option.map_eq_some_iff] at h
  obtain ⟨s, hs, l', hl', rfl⟩ := h
  obtain ⟨h1, h2⟩ := compStms_get hl'
  refine ⟨by simp [h1], fun k o' hk => ?_⟩
  cases k with
  | zero => simp at hk; subst hk; exact ⟨s, rfl, hs⟩
  | succ k => simpa using h2 k o' (by simpa using hk)

theorem meet_spec {quiet : FuncId → Bool} {x y : CStm} (h : meet quiet x y = false) : ((footOf quiet x).clash (footOf quiet y) = false ∨ swaps x y = true) ∧ (∀ d, x.dst = some d → d ∉ reads y ∧ y.dst ≠ some d) ∧ (∀ d, y.dst = some d → d ∉ reads x) := by
 simp only [meet, Bool.or_eq_false_iff] at h
 obtain ⟨⟨h1, h2⟩, h3⟩ := h
 have h1' : (footOf quiet x).clash (footOf quiet y) = false ∨ swaps x y = true := by
  simp only [Bool.and_eq_false_iff, Bool.not_eq_false'] at h1
  exact h1
 refine ⟨h1', fun d hd => ?_, fun d hd => ?_⟩
 · rw [hd] at h2
  simp only [Bool.or_eq_false_iff] at h2
  exact ⟨by simpa using h2.1, by simpa using h2.2⟩
 · rw [hd] at h3
  simpa using h3

/-- What a region whose order is drawn has come to, some of it carried out. -/
structure DI (n : Nat) (quiet : FuncId → Bool) (ops : Array Oper) (l : List CStm) (E : Nat → Env) (Hs : Nat → Heap) (S : Nat → Prop) (envS : Env) (HS : Heap) : Prop where
 closed : ∀ i o, ops[i]? = some o → S i → ∀ e ∈ o.after.toList, Region.binds .any e = true → S e.on
 env : ∀ t i, i ≤ l.length → (∀ (j : Nat) (s : CStm), l[j]? = some s → s.dst = some t → (S j ↔ j < i)) → Env.at envS t = Env.at (E i) t
 heap : ∀ r i, i ≤ l.length → (∀ (j : Nat) (s : CStm), l[j]? = some s → (footOf quiet s).wr r → (S j ↔ j < i)) → same r HS (Hs i)

theorem at_put (env : Env) (dst : Option Nat) (c : CV) (t : Nat) : Env.at (putD env dst c) t = if dst = some t then c else Env.at env t := by
 cases dst with
 | none => simp [putD]
 | some d =>
  simp only [putD, look_cons, Option.some.injEq]
  by_cases h : t = d
  · subst h; simp
  · have : ¬ d = t := fun e => h e.symm
   simp [h, this]

/-- Nothing is written between: the slot is as it was. -/
theorem between {call : Caller} {l : List CStm} {E : Nat → Env} {Hs : Nat → Heap} {C : Nat → CV} (ht : ∀ (k : Nat) (s : CStm), l[k]? = some s → Stepped call s (E k) (Hs k) (C k) (Hs (k + 1)) ∧ E (k + 1) = putD (E k) s.dst (C k)) {t m : Nat} :
  ∀ i, m ≤ i → i ≤ l.length → (∀ (j : Nat) (s : CStm), l[j]? = some s → m ≤ j → j < i → s.dst ≠ some t) → Env.at (E i) t = Env.at (E m) t
 | 0, h, _, _ => by
  obtain rfl : m = 0 := by omega
  rfl
 | i + 1, h, hl, hn => by
  by_cases hm : m = i + 1
  · subst hm; rfl
  · have hs : ∃ s, l[i]? = some s := ⟨l[i], List.getElem?_eq_getElem (by omega)⟩
   obtain ⟨s, hs⟩ := hs
   rw [(ht i s hs).2, at_put, if_neg (hn i s hs (by omega) (by omega))]
   exact between ht i (by omega) (by omega) fun j s hj h1 h2 => hn j s hj h1 (by omega)

theorem betweenH {call : Caller} {quiet : FuncId → Bool} (hq : QuietOk call quiet) {l : List CStm} {E : Nat → Env} {Hs : Nat → Heap} {C : Nat → CV} (ht : ∀ (k : Nat) (s : CStm), l[k]? = some s → Stepped call s (E k) (Hs k) (C k) (Hs (k + 1)) ∧ E (k + 1) = putD (E k) s.dst (C k)) {r : Rsc} {m : Nat} :
  ∀ i, m ≤ i → i ≤ l.length → (∀ (j : Nat) (s : CStm), l[j]? = some s → m ≤ j → j < i → ¬ (footOf quiet s).wr r) → same r (Hs i) (Hs m)
 | 0, h, _, _ => by
  obtain rfl : m = 0 := by omega
  exact same.refl r _
 | i + 1, h, hl, hn => by
  by_cases hm : m = i + 1
  · subst hm; exact same.refl r _
  · obtain ⟨s, hs⟩ : ∃ s, l[i]? = some s := ⟨l[i], List.getElem?_eq_getElem (by omega)⟩
   obtain ⟨_, _, _, _, h4⟩ := stepped_foot hq (ht i s hs).1 (e' := E i) (H' := Hs i) (fun _ _ => rfl) (fun r _ => same.refl r _)
   exact (h4 r (hn i s hs (by omega) (by omega))).trans (betweenH hq ht i (by omega) (by omega) fun j s hj h1 h2 => hn j s hj h1 (by omega))

theorem prefix_of {W S : Nat → Prop} (hc : ∀ j k, j < k → W j → W k → S k → S j) : ∀ n, ∃ m, m ≤ n ∧ ∀ j, j < n → W j → (S j ↔ j < m)
 | 0 => ⟨0, Nat.le_refl _, fun j h => by omega⟩
 | n + 1 => by
  obtain ⟨m, hm, h⟩ := prefix_of hc n
  by_cases hW : W n
  · by_cases hS : S n
   · refine ⟨n + 1, Nat.le_refl _, fun j hj hWj => ⟨fun _ => hj, fun _ => ?_⟩⟩
    rcases Nat.lt_or_ge j n with h1 | h1
    · exact hc j n h1 hWj hW hS
    · obtain rfl : j = n := by omega
     exact hS
   · refine ⟨m, by omega, fun j hj hWj => ?_⟩
    rcases Nat.lt_or_ge j n with h1 | h1
    · exact h j h1 hWj
    · obtain rfl : j = n := by omega
     exact ⟨fun h => (hS h).elim, fun h => by omega⟩
  · refine ⟨m, by omega, fun j hj hWj => ?_⟩
   rcases Nat.lt_or_ge j n with h1 | h1
   · exact h j h1 hWj
   · obtain rfl : j = n := by omega
    exact (hW hWj).elim

theorem grown_to {call : Caller} {quiet : FuncId → Bool} (hq : QuietOk call quiet) {l : List CStm} {E : Nat → Env} {Hs : Nat → Heap} {C : Nat → CV} (ht : ∀ (k : Nat) (s : CStm), l[k]? = some s → Stepped call s (E k) (Hs k) (C k) (Hs (k + 1)) ∧ E (k + 1) = putD (E k) s.dst (C k)) {m : Nat} :
  ∀ i, m ≤ i → i ≤ l.length → (∀ (j : Nat) (s : CStm), l[j]? = some s → m ≤ j → j < i → (footOf quiet s).wr .bl → grows s = true) → ∃ X, (Hs i).bl = (Hs m).bl ++ X
 | 0, h, _, _ => by
  obtain rfl : m = 0 := by omega
  exact ⟨[], by simp⟩
 | i + 1, h, hl, hn => by
  by_cases hm : m = i + 1
  · subst hm; exact ⟨[], by simp⟩
  · obtain ⟨s, hs⟩ : ∃ s, l[i]? = some s := ⟨l[i], List.getElem?_eq_getElem (by omega)⟩
   obtain ⟨X, hX⟩ := grown_to hq ht i (by omega) (by omega) fun j s hj h1 h2 hw => hn j s hj h1 (by omega) hw
   by_cases hw : (footOf quiet s).wr .bl
   · obtain ⟨Y, hY⟩ := grows_step (hn i s hs (by omega) (by omega) hw) (ht i s hs).1
    exact ⟨X ++ Y, by rw [hY, hX, List.append_assoc]⟩
   · obtain ⟨_, _, _, _, h4⟩ := stepped_foot hq (ht i s hs).1 (e' := E i) (H' := Hs i) (fun _ _ => rfl) (fun r _ => same.refl r _)
    have h5 : (Hs (i + 1)).bl = (Hs i).bl := h4 .bl hw
    exact ⟨X, by rw [h5, hX]⟩

theorem steady_rd {quiet : FuncId → Bool} {s : CStm} (h : steady s = true) : (footOf quiet s).rd .bl := by
 obtain ⟨dst, op, args, guard⟩ := s
 unfold steady at h
 split at h
 · rename_i h1 _; dsimp only at h1; subst h1; simp [Foot.rd, footOf]
 · rename_i h1 _; dsimp only at h1; subst h1; simp [Foot.rd, footOf]
 · rename_i h1 _; dsimp only at h1; subst h1; simp [Foot.rd, footOf]
 · cases h

theorem draw_ok {call : Caller} (hcall : CallerOk P call) {quiet : FuncId → Bool} (hq : QuietOk call quiet) {an : Ann} {n : Nat} {ops : Array Oper} {l l0 : List CStm} (hl0 : compStms P an n ops ops.toList = some l0) (hsh : l.length = l0.length ∧ ∀ (k : Nat) (s : CStm), l0[k]? = some s → ∃ s', l[k]? = some s' ∧ Sharp quiet s s') (hd : drawOk quiet ops l = true)
  {w0 : World} {F0 : Nat → Prop} {ι0 : IM} {H0 : Heap} {E : Nat → Env} {Hs : Nat → Heap} {C : Nat → CV} (ht : ∀ (k : Nat) (s : CStm), l[k]? = some s → Stepped call s (E k) (Hs k) (C k) (Hs (k + 1)) ∧ E (k + 1) = putD (E k) s.dst (C k))
  {Q : Exit → Act → World → Prop} (hQ : ∀ a' w' F' ι', St n w' F' ι' (Hs l.length) (E l.length) a' → Ext w0 F0 ι0 H0 w' F' ι' (Hs l.length) → MoV w0 w' F0 F' ι0 ι' → Q .normal a' w') :
  ∀ (fuel : Nat) (listed : Array Bool) (a : Act) (w : World) (F : Nat → Prop) (ι : IM) (envS : Env) (HS : Heap), listed.size = ops.size → ((List.range ops.size).filter fun i => !listed.getD i true).length = fuel →
   DI n quiet ops l E Hs (fun i => listed[i]? = some true) envS HS → St n w F ι HS envS a → Ext w0 F0 ι0 H0 w F ι HS → MoV w0 w F0 F ι0 ι → wpAny P .any ops Q fuel listed a w := by
 obtain ⟨hlen, hget⟩ := compStms_get hl0
 have hsz : l.length = ops.size := by rw [hsh.1]; simpa using hlen
 simp only [drawOk, Bool.and_eq_true] at hd
 obtain ⟨hearly, hmeets⟩ := hd
 have hearly' : ∀ i o, ops[i]? = some o → ∀ e ∈ o.after.toList, Region.binds .any e = true → e.on < i := by
  intro i o ho e he hb
  have h1 := List.all_eq_true.1 hearly (o, i) (by
   rw [List.mem_iff_getElem?]
   exact ⟨i, by simp [List.getElem?_zipIdx, ho]⟩)
  have h2 := List.all_eq_true.1 h1 e he
  simpa [hb] using h2
 have hmeet : ∀ i j x y, i < j → l[i]? = some x → l[j]? = some y → meet quiet x y = false ∨ ((masks [] ops.toList).getD j 0).testBit i = true := by
  intro i j x y hij hx hy
  have h1 := List.all_eq_true.1 hmeets (y, j) (by
   rw [List.mem_iff_getElem?]
   exact ⟨j, by simp [List.getElem?_zipIdx, hy]⟩)
  have h2 := List.all_eq_true.1 h1 (x, i) (by
   rw [List.mem_iff_getElem?]
   refine ⟨i, ?_⟩
   simp [List.getElem?_zipIdx, hij, hx])
  simpa using h2
 -- when all is listed
 have hfin : ∀ (listed : Array Bool) (a : Act) (w : World) (F : Nat → Prop) (ι : IM) (envS : Env) (HS : Heap), (∀ i, i < ops.size → listed[i]? = some true) → DI n quiet ops l E Hs (fun i => listed[i]? = some true) envS HS → St n w F ι HS envS a → Ext w0 F0 ι0 H0 w F ι HS → MoV w0 w F0 F ι0 ι → Q .normal a w := by
  intro listed a w F ι envS HS hall hdi hst hext hmo
  have hH : Agr (fun _ => True) HS (Hs l.length) := agr_all.2 fun r => hdi.heap r l.length (Nat.le_refl _) fun j s hj _ => by
   have := (List.getElem?_eq_some_iff.1 hj).1
   exact ⟨fun _ => this, fun _ => hall j (by omega)⟩
  have hE : ∀ t, Env.at envS t = Env.at (E l.length) t := fun t => hdi.env t l.length (Nat.le_refl _) fun j s hj _ => by
   have := (List.getElem?_eq_some_iff.1 hj).1
   exact ⟨fun _ => this, fun _ => hall j (by omega)⟩
  refine hQ a w F ι ⟨fun t => by rw [← hE t]; exact hst.e t, alike_inv hH hst.i, hst.d, hst.s⟩ ?_ hmo
  exact { hext with live := fun b hb => hext.live b ((alike_Live hH).2 hb) }
 -- what is ready
 have hready : ∀ (listed : Array Bool), listed.size = ops.size → Region.ready .any ops listed = [] → ∀ i, i < ops.size → listed[i]? = some true := by
  intro listed hs hr i
  induction i using Nat.strongRecOn with
  | _ i ih =>
   intro hi
   cases hli : listed.getD i true with
   | true =>
    simp only [Array.getD_eq_getD_getElem?] at hli
    have : i < listed.size := by omega
    rw [Array.getElem?_eq_getElem this] at hli ⊢
    simpa using hli
   | false =>
    have hmem : i ∈ Region.ready .any ops listed := by
     obtain ⟨o, ho⟩ : ∃ o, ops[i]? = some o := ⟨ops[i], Array.getElem?_eq_getElem hi⟩
     simp only [Region.ready, List.mem_filter, List.mem_range, hli, Bool.not_false, Bool.true_and, ho, Option.map_some, Option.getD_some]
     refine ⟨hi, ?_⟩
     rw [← Array.all_toList]
     refine List.all_eq_true.2 fun e he => ?_
     cases hb : Region.binds .any e with
     | false => simp
     | true =>
      have hlt := hearly' i o ho e he hb
      have := ih e.on hlt (by omega)
      simp [Array.getD_eq_getD_getElem?, this]
    rw [hr] at hmem
    simp at hmem
 intro fuel
 induction fuel with
 | zero =>
  intro listed a w F ι envS HS hs hcnt hdi hst hext hmo
  have hall : ∀ i, i < ops.size → listed[i]? = some true := by
   intro i hi
   have hemp := List.length_eq_zero_iff.1 hcnt
   cases hli : listed.getD i true with
   | true =>
    simp only [Array.getD_eq_getD_getElem?] at hli
    have : i < listed.size := by omega
    rw [Array.getElem?_eq_getElem this] at hli ⊢
    simpa using hli
   | false =>
    have : i ∈ ((List.range ops.size).filter fun i => !listed.getD i true) := by simp only [List.mem_filter, List.mem_range, hli, Bool.not_false, and_true]; exact hi
    rw [hemp] at this
    simp at this
  refine ⟨?_, hfin listed a w F ι envS HS hall hdi hst hext hmo⟩
  unfold Region.ready
  rw [List.filter_eq_nil_iff]
  intro i hi
  have := hall i (by simpa using hi)
  simp [Array.getD_eq_getD_getElem?, this]
 | succ fuel ih =>
  intro listed a w F ι envS HS hs hcnt hdi hst hext hmo
  refine ⟨fun hr => hfin listed a w F ι envS HS (hready listed hs hr) hdi hst hext hmo, fun i hi => ?_⟩
  simp only [Region.ready, List.mem_filter, List.mem_range, Bool.and_eq_true, Bool.not_eq_true'] at hi
  obtain ⟨hin, hli, hafter⟩ := hi
  obtain ⟨o, ho⟩ : ∃ o, ops[i]? = some o := ⟨ops[i], Array.getElem?_eq_getElem hin⟩
  simp only [ho, Option.map_some, Option.getD_some] at hafter
  rw [← Array.all_toList] at hafter
  have hafter' : ∀ e ∈ o.after.toList, Region.binds .any e = true → listed[e.on]? = some true := by
   intro e he hb
   have := List.all_eq_true.1 hafter e he
   simp only [hb, Bool.not_true, Bool.false_or, Array.getD_eq_getD_getElem?] at this
   cases hx : listed[e.on]? with
   | none => simp [hx] at this
   | some b => simp [hx] at this; rw [this]
  have hnot : ¬ listed[i]? = some true := by
   intro h
   simp [Array.getD_eq_getD_getElem?, h] at hli
  -- who must stand ahead does
  let S : Nat → Prop := fun j => listed[j]? = some true
  have hS' : ∀ j, (listed.setIfInBounds i true)[j]? = some true ↔ (j = i ∨ S j) := by
   intro j
   rw [Array.getElem?_setIfInBounds]
   by_cases hj : i = j
   · subst hj; simp; omega
   · rw [if_neg hj]
    constructor
    · exact fun h => .inr h
    · rintro (h | h)
     · exact (hj h.symm).elim
     · exact h
  have hmask : ∀ j, ((masks [] ops.toList).getD i 0).testBit j = true → S j := by
   have := masks_ok (fun j => j = i ∨ S j) ops.toList [] (by simp [List.getD]) (by
    intro k o' ho' hk e he hb
    have ho'' : ops[k]? = some o' := by simpa using ho'
    simp only [List.length_nil, Nat.zero_add] at hk
    rcases hk with rfl | hk
    · rw [ho] at ho''; cases ho''
     exact .inr (hafter' e he hb)
    · exact .inr (hdi.closed k o' ho'' hk e he hb)) i (.inl rfl)
   intro j hj
   rcases this j hj with rfl | h
   · exfalso
    -- an operation does not wait for itself
    have hself : ∀ (rest : List Oper) (acc : List Nat), (∀ k, ∀ b, (acc.getD k 0).testBit b = true → b < k) → (∀ k o', rest[k]? = some o' → ∀ e ∈ o'.after.toList, Region.binds .any e = true → e.on < acc.length + k) →
      ∀ k, ∀ b, ((masks acc rest).getD k 0).testBit b = true → b < k := by
     intro rest
     induction rest with
     | nil => intro acc h _; exact h
     | cons o' rest ih =>
      intro acc hacc hrest
      refine ih (acc ++ [maskOf acc o']) ?_ ?_
      · intro k b hb
       rcases Nat.lt_trichotomy k acc.length with h | h | h
       · exact hacc k b (by simpa [List.getD, List.getElem?_append_left h] using hb)
       · subst h
        have hb' : (maskOf acc o').testBit b = true := by simpa [List.getD] using hb
        refine mask_fold (fun b => b < acc.length) acc ?_ _ 0 (fun e he hbi => by simpa using hrest 0 o' rfl e he hbi) (fun j h => by simp at h) b hb'
        intro i' hi' j' hj'
        have := hacc i' j' hj'
        omega
       · have : (acc ++ [maskOf acc o']).getD k 0 = 0 := by simp [List.getD, List.getElem?_eq_none (show (acc ++ [maskOf acc o']).length ≤ k by simp; omega)]
        rw [this] at hb
        simp at hb
      · intro k o'' ho'' e he hbi
       have := hrest (k + 1) o'' (by simpa using ho'') e he hbi
       simp only [List.length_append, List.length_cons, List.length_nil]
       omega
    have := hself ops.toList [] (by simp [List.getD]) (fun k o' ho' e he hb => by
     have := hearly' k o' (by simpa using ho') e he hb
     simpa using this) j j hj
    omega
   · exact h
  have hmaskS : ∀ k, S k → ∀ j, ((masks [] ops.toList).getD k 0).testBit j = true → S j := masks_ok S ops.toList [] (by simp [List.getD]) (by
   intro k o' ho' hk e he hb
   exact hdi.closed k o' (by simpa using ho') (by simpa using hk) e he hb)
  obtain ⟨s0, hls0, hcs⟩ := hget i o (by simpa using ho)
  obtain ⟨s, hls, hsd, hsharp⟩ := hsh.2 i s0 hls0
  obtain ⟨hstep, hnext⟩ := ht i s hls
  -- what it reads is what it read in the text's order
  have hreads : ∀ t ∈ reads s, Env.at (E i) t = Env.at envS t := by
   intro t htr
   refine (hdi.env t i (by omega) fun j x hj hx => ?_).symm
   constructor
   · intro hSj
    rcases Nat.lt_trichotomy j i with h | h | h
    · exact h
    · subst h; exact (hnot hSj).elim
    · rcases hmeet i j s x h hls hj with hm | hm
     · exact ((meet_spec hm).2.2 t hx htr).elim
     · exact (hnot (hmaskS j hSj i hm)).elim
   · intro hji
    rcases hmeet j i x s hji hj hls with hm | hm
    · exact (((meet_spec hm).2.1 t hx).1 htr).elim
    · exact hmask j hm
  have hstep2 : ∃ H1', Stepped call s envS HS (C i) H1' ∧ (∀ x, (footOf quiet s).wr x → same x H1' (Hs (i + 1))) ∧ (∀ x, ¬ (footOf quiet s).wr x → same x H1' HS) := by
   cases hsteady : steady s with
   | false =>
    have hheap : ∀ r, (footOf quiet s).rd r → same r (Hs i) HS := by
     intro r hp
     have no : ∀ x, (footOf quiet x).wr r → (swaps s x = true ∨ swaps x s = true) → False := by
      intro x hx ha
      have hxs : steady x = false := by
       cases hxs : steady x with
       | false => rfl
       | true => exact (steady_nowr hxs r hx).elim
      rcases ha with ha | ha <;> simp [swaps, hsteady, hxs] at ha
     refine (hdi.heap r i (by omega) fun j x hj hx => ?_).symm
     constructor
     · intro hSj
      rcases Nat.lt_trichotomy j i with h | h | h
      · exact h
      · subst h; exact (hnot hSj).elim
      · rcases hmeet i j s x h hls hj with hm | hm
       · rcases (meet_spec hm).1 with hc | hc
        · exact ((clash_false hc r).2 hx hp).elim
        · exact (no x hx (.inl hc)).elim
       · exact (hnot (hmaskS j hSj i hm)).elim
     · intro hji
      rcases hmeet j i x s hji hj hls with hm | hm
      · rcases (meet_spec hm).1 with hc | hc
       · exact (((clash_false hc r).1 hx).1 hp).elim
       · exact (no x hx (.inr hc)).elim
      · exact hmask j hm
    obtain ⟨H1', g1, g2, g3, _⟩ := stepped_foot hq hstep hreads hheap
    exact ⟨H1', g1, g2, g3⟩
   | true =>
    -- who has grown the blocks, and who hasn't
    obtain ⟨m, hml, hm⟩ := prefix_of (W := fun j => ∃ x, l[j]? = some x ∧ (footOf quiet x).wr .bl) (S := S) (fun j k hjk hWj hWk hSk => by
     obtain ⟨x, hx, hxw⟩ := hWj
     obtain ⟨y, hy, hyw⟩ := hWk
     rcases hmeet j k x y hjk hx hy with h | h
     · rcases (meet_spec h).1 with hc | hc
      · exact (((clash_false hc .bl).1 hxw).2 hyw).elim
      · exfalso
       have h1 : steady x = false := by
        cases h : steady x with
        | false => rfl
        | true => exact (steady_nowr h .bl hxw).elim
       have h2 : steady y = false := by
        cases h : steady y with
        | false => rfl
        | true => exact (steady_nowr h .bl hyw).elim
       simp [swaps, h1, h2] at hc
     · exact hmaskS k hSk j h) l.length
    have hbl : HS.bl = (Hs m).bl := hdi.heap .bl m hml fun j x hj hx => hm j (List.getElem?_eq_some_iff.1 hj).1 ⟨x, hj, hx⟩
    have grown : ∀ j x, l[j]? = some x → (footOf quiet x).wr .bl → (i ≤ j ∧ S j ∨ j < i ∧ ¬ S j) → grows x = true := by
     intro j x hj hx hcase
     have fin : (swaps s x = true ∨ swaps x s = true) → grows x = true := by
      intro ha
      have hxs : steady x = false := by
       cases h : steady x with
       | false => rfl
       | true => exact (steady_nowr h .bl hx).elim
      rcases ha with ha | ha
      · simpa [swaps, hsteady, hxs] using ha
      · simpa [swaps, hsteady, hxs] using ha
     have hrd : (footOf quiet s).rd .bl := steady_rd hsteady
     rcases hcase with ⟨hij, hSj⟩ | ⟨hji, hSj⟩
     · have hne : i ≠ j := fun e => hnot (e ▸ hSj)
      rcases hmeet i j s x (by omega) hls hj with h | h
      · rcases (meet_spec h).1 with hc | hc
       · exact ((clash_false hc .bl).2 hx hrd).elim
       · exact fin (.inl hc)
      · exact (hnot (hmaskS j hSj i h)).elim
     · rcases hmeet j i x s hji hj hls with h | h
      · rcases (meet_spec h).1 with hc | hc
       · exact (((clash_false hc .bl).1 hx).1 hrd).elim
       · exact fin (.inr hc)
      · exact (hSj (hmask j h)).elim
    have hlive : ∀ t k, idOf (Env.at envS t) = some k → k < HS.bl.length := by
     intro t k hk
     have hv := hst.e t
     rw [← hst.i.len]
     cases hx : Env.at envS t with
     | op id off =>
      rw [hx] at hk hv
      cases id with
      | loc s => simp [idOf] at hk
      | blk n =>
       simp only [idOf, Option.some.injEq] at hk
       subst hk
       simp only [VR, IM.get] at hv
       obtain ⟨b, hb, _⟩ := hv
       exact (List.getElem?_eq_some_iff.1 hb).1
     | om n =>
      rw [hx] at hk hv
      simp only [idOf, Option.some.injEq] at hk
      subst hk
      simp only [VR] at hv
      obtain ⟨b, hb, _⟩ := hv
      exact (List.getElem?_eq_some_iff.1 hb).1
     | _ => rw [hx] at hk; simp [idOf] at hk
    obtain ⟨g1, g2⟩ := steady_step hsteady hstep hreads (H' := HS) (fun t k b hk hb => by
     rcases Nat.lt_or_ge m i with hmi | hmi
     · obtain ⟨X, hX⟩ := grown_to hq ht (m := m) i (by omega) (by omega) fun j x hj h1 h2 hx => grown j x hj hx (.inr ⟨h2, fun hS => by
       have := (hm j (List.getElem?_eq_some_iff.1 hj).1 ⟨x, hj, hx⟩).1 hS
       omega⟩)
      rw [hX, ← hbl, List.getElem?_append_left (hlive t k hk)] at hb
      exact hb
     · obtain ⟨X, hX⟩ := grown_to hq ht (m := i) m hmi hml fun j x hj h1 h2 hx => grown j x hj hx (.inl ⟨h1, (hm j (List.getElem?_eq_some_iff.1 hj).1 ⟨x, hj, hx⟩).2 h2⟩)
      rw [hbl, hX, List.getElem?_append_left (List.getElem?_eq_some_iff.1 hb).1]
      exact hb)
    exact ⟨HS, g1, fun x hx => (steady_nowr hsteady x hx).elim, fun x _ => same.refl x _⟩
  obtain ⟨H1', hstep', hwr, hkeep⟩ := hstep2
  have hdst : s.dst = o.dst ∧ o.dst.all (· < n) = true := by
   rw [hsd]
   unfold compStm at hcs
   split at hcs <;> (try cases hcs)
   rename_i hdst
   split at hcs <;> (try cases hcs)
   exact ⟨rfl, hdst⟩
  refine (wpOp_ok hcall ho hcs hst.e hst.i (hsharp _ hq _ _ _ _ hstep') (fun v' w' F' ι' g1 g2 g3 g4 => ?_)).1
  refine ih (listed.setIfInBounds i true) (a.put o.dst v') w' F' ι' (putD envS s.dst (C i)) _ (by simpa using hs) ?_ ?_ ?_ (hext.trans g3) ⟨⟨fun b hb => g4.f b (hmo.f b hb), fun b hb => (g4.h b (hmo.f b hb)).trans (hmo.h b hb)⟩, fun i b hb => g4.i i b (hmo.i i b hb), fun b n hb => g4.c b n (hmo.c b n hb)⟩
  · have := filt (p := fun j => !listed.getD j true) (q := fun j => !(listed.setIfInBounds i true).getD j true) (i := i) (by simp [hli]) (by
    intro x
    simp only [Array.getD_eq_getD_getElem?, Array.getElem?_setIfInBounds]
    by_cases hx : i = x
    · subst hx
     rw [if_pos rfl, if_pos (by omega)]
     simp
    · have hx' : ¬ x = i := fun e => hx e.symm
     simp [hx, hx']) (List.range ops.size) List.nodup_range (by simpa using hin)
   omega
  · refine ⟨?_, ?_, ?_⟩
   · intro k o' ho' hk e he hb
    rcases (hS' k).1 hk with rfl | hk
    · rw [ho] at ho'; cases ho'
     exact (hS' _).2 (.inr (hafter' e he hb))
    · exact (hS' _).2 (.inr (hdi.closed k o' ho' hk e he hb))
   · intro t k hk hiff
    rw [at_put]
    split
    · rename_i hst'
     have hik : i < k := (hiff i s hls hst').1 ((hS' i).2 (.inl rfl))
     have hother : ∀ j x, l[j]? = some x → x.dst = some t → i < j → ¬ S j := by
      intro j x hj hx hij hSj
      rcases hmeet i j s x hij hls hj with hm | hm
      · exact ((meet_spec hm).2.1 t hst').2 hx
      · exact hnot (hmaskS j hSj i hm)
     have := between ht (t := t) (m := i + 1) k (by omega) hk fun j x hj h1 h2 hx => by
      have := (hiff j x hj hx).2 h2
      rcases (hS' j).1 this with h | h
      · omega
      · exact hother j x hj hx (by omega) h
     rw [this, hnext, at_put, if_pos hst']
    · rename_i hst'
     refine hdi.env t k hk fun j x hj hx => ?_
     rw [← hiff j x hj hx, hS' j]
     constructor
     · exact fun h => .inr h
     · rintro (rfl | h)
      · rw [hls] at hj; cases hj
       exact (hst' hx).elim
      · exact h
   · intro r k hk hiff
    by_cases hturn : (footOf quiet s).wr r
    · have hik : i < k := (hiff i s hls hturn).1 ((hS' i).2 (.inl rfl))
     refine (hwr r hturn).trans (betweenH hq ht (r := r) (m := i + 1) k (by omega) hk fun j x hj h1 h2 hx => ?_).symm
     have := (hiff j x hj hx).2 h2
     rcases (hS' j).1 this with h | h
     · omega
     · rcases hmeet i j s x (by omega) hls hj with hm | hm
      · rcases (meet_spec hm).1 with hc | hc
       · exact ((clash_false hc r).1 hturn).2 hx
       · have h1 : steady s = false := by
         cases h : steady s with
         | false => rfl
         | true => exact (steady_nowr h r hturn).elim
        have h2 : steady x = false := by
         cases h : steady x with
         | false => rfl
         | true => exact (steady_nowr h r hx).elim
        simp [swaps, h1, h2] at hc
      · exact hnot (hmaskS j h i hm)
    · refine (hkeep r hturn).trans (hdi.heap r k hk fun j x hj hx => ?_)
     rw [← hiff j x hj hx, hS' j]
     constructor
     · exact fun h => .inr h
     · rintro (rfl | h)
      · rw [hls] at hj; cases hj
       exact (hturn hx).elim
      · exact h
  · rw [hdst.1]
   exact hst.put hdst.2 g1 g2 g4

/-- A region, its order drawn or not. -/
theorem region_ok {call : Caller} (hcall : CallerOk P call) {quiet : FuncId → Bool} (hq : QuietOk call quiet) (hmix : P.follows .mixedOrders = true) {an : Ann} {n id : Nat} {ops : Array Oper} {draw : Bool} {l l0 : List CStm} (hl : compStms P an n ops ops.toList = some l0)
  (hsh : l.length = l0.length ∧ ∀ (k : Nat) (s : CStm), l0[k]? = some s → ∃ s', l[k]? = some s' ∧ Sharp quiet s s') (hd : (draw = false ∧ l = l0) ∨ (draw = true ∧ drawOk quiet ops l = true)) {env' : Env} {H' : Heap} (hr : runOps call l env H = some (env', H')) (hst : St n w F ι H env a) {Q : Exit → Act → World → Prop}
  (hQ : ∀ a' w' F' ι', St n w' F' ι' H' env' a' → Ext w F ι H w' F' ι' H' → MoV w w' F F' ι ι' → Q .normal a' w') : (Code.region id ops draw).wp P Q a w := by
 cases draw with
 | false =>
  refine wp_region ?_
  rw [List.range_eq_range', show ops.size = ops.toList.length by simp]
  rcases hd with ⟨_, rfl⟩ | ⟨hd, _⟩
  · exact ops_ok hcall ops.toList l 0 w F ι H env a rfl hl hr hst hQ
  · cases hd
 | true =>
  obtain ⟨E, Hs, C, e1, e2, e3, e4, e5⟩ := trace hr
  subst e1 e2 e3 e4
  have hw : ∀ b : Nat, ({ w with drawn := w.drawn + 1 } : World).heap[b]? = w.heap[b]? := fun _ => rfl
  have hm : MoV w { w with drawn := w.drawn + 1 } F F ι ι := ⟨⟨fun _ h => h, fun _ _ => rfl⟩, fun _ _ h => h, fun _ _ h => h⟩
  have hst' : St n { w with drawn := w.drawn + 1 } F ι (Hs 0) (E 0) a := ⟨hst.e.mono hm, hst.i.build hm hst.i.len (fun i cs h => .inl ⟨h, fun _ _ => rfl⟩) (fun n es h => .inl ⟨h, fun _ _ => rfl⟩) hst.i.inj hst.i.dis hst.i.lt hst.i.lo, hst.d, hst.s⟩
  have hx : Ext w F ι (Hs 0) { w with drawn := w.drawn + 1 } F ι (Hs 0) := ⟨rfl, rfl, rfl, fun _ _ h => h, fun _ h => h, fun _ h => .inl h, Nat.le_refl _, fun _ _ h => h, fun _ _ _ => rfl, fun _ h => .inl h⟩
  refine wp_region_any hmix (draw_ok hcall hq hl hsh (by simpa using hd) e5 hQ ops.size _ a _ F ι (E 0) (Hs 0) (by simp) ?_ ?_ hst' hx hm)
  · have : (List.range ops.size).filter (fun i => !(Array.replicate ops.size false).getD i true) = List.range ops.size := by
    rw [List.filter_eq_self]
    intro i hi
    have : i < ops.size := by simpa using hi
    simp [Array.getD_eq_getD_getElem?, this]
   rw [this]; simp
  · have hno : ∀ i : Nat, ¬ (Array.replicate ops.size false)[i]? = some true := by
    intro i h
    rw [Array.getElem?_replicate] at h
    split at h <;> cases h
   refine ⟨fun i o _ h => (hno i h).elim, fun t i hi hiff => ?_, fun r i hi hiff => ?_⟩
   · exact (between e5 (t := t) (m := 0) i (by omega) hi fun j s hj _ h2 hs => hno j ((hiff j s hj hs).2 h2)).symm
   · exact (betweenH hq e5 (r := r) (m := 0) i (by omega) hi fun j s hj _ h2 hs => hno j ((hiff j s hj hs).2 h2)).symm

end
end Go.Zc
end
section
namespace Go.Zc

def exOf : Ex → Exit
 | .norm => .normal
 | .exit k => .exit k
 | .ret => .ret

section
variable {P : Program} {w : World} {F : Nat → Prop} {ι : IM} {H : Heap} {env : Env} {a : Act}

theorem at_keep (env : Env) : ∀ (l : List Nat) (t : Nat), Env.at (keep env l) t = if t ∈ l then Env.at env t else .und
 | [], t => by simp [keep, Env.at, look]
 | x :: l, t => by
  simp only [keep, look_cons, at_keep env l t, List.mem_cons]
  by_cases h : t = x
  · subst h; simp
  · simp [h]

theorem look_keepB (bx : List (Nat × List CV)) : ∀ (l : List Nat) (t : Nat), look (keepB bx l) t = if t ∈ l then look bx t else none
 | [], t => by simp [keepB, look]
 | x :: l, t => by
  simp only [keepB, List.mem_cons]
  split
  · rename_i cs hcs
   simp only [look, look_keepB bx l t]
   by_cases h : t = x
   · subst h; simp [hcs]
   · simp [beq_ne (fun e => h e.symm), h]
  · rename_i hn
   rw [look_keepB bx l t]
   by_cases h : t = x
   · subst h; simp [hn]
   · simp [h]

theorem mem_look {α : Type} : ∀ {l : List (Nat × α)} {s : Nat} {x : α}, look l s = some x → (s, x) ∈ l
 | [], _, _, h => by simp [look] at h
 | (i, y) :: l, s, x, h => by
  simp only [look] at h
  by_cases e : i = s
  · subst e; simp at h; subst h; simp
  · simp only [beq_ne e, cond_false] at h
   exact List.mem_cons_of_mem _ (mem_look h)

theorem mem_keep : ∀ (l : List Nat) {t : Nat}, t ∈ l → (t, Env.at env t) ∈ keep env l
 | x :: l, t, h => by
  simp only [keep]
  rcases List.mem_cons.1 h with rfl | h
  · simp
  · exact List.mem_cons_of_mem _ (mem_keep l h)

/-- Slots that are let go. -/
theorem keep_ok {n : Nat} {l : List Nat} {env' : Env} {H' : Heap} (h : keepE l env H = some (env', H')) (hst : St n w F ι H env a) : ∃ ι', St n w F ι' H' env' a ∧ Ext w F ι H w F ι' H' := by
 unfold keepE at h
 split at h <;> (try cases h)
 rename_i hchk
 simp only [chk, Bool.and_eq_true] at hchk
 obtain ⟨hc1, hc2⟩ := hchk
 let ι' : IM := ⟨fun s => if s ∈ l then ι.lo s else none, ι.bl⟩
 have hglob : ι'.glob = ι.glob := rfl
 have hle : ι.glob.le ι' := fun i b hb => by cases i <;> simp_all [IM.glob, IM.get, ι']
 have hmono : ∀ {c : CV} {v : Value}, VR w F ι.glob c v → VR w F ι' c v := fun h => VR.mono ⟨⟨fun _ h => h, fun _ _ => rfl⟩, hle, fun _ _ h => h⟩ _ _ h
 have hget : ∀ i cs, (⟨keepB H.bx l, H.bl⟩ : Heap).get i = some cs → H.get i = some cs ∧ ι'.get i = ι.get i := by
  intro i cs hg
  cases i with
  | loc s =>
   simp only [Heap.get, look_keepB] at hg ⊢
   split at hg
   · rename_i hs
    exact ⟨hg, by simp [IM.get, ι', hs]⟩
   · cases hg
  | blk m => exact ⟨hg, rfl⟩
 have hlive : ∀ i, (⟨keepB H.bx l, H.bl⟩ : Heap).live i → H.live i ∧ ι'.get i = ι.get i := by
  intro i hi
  rcases live_iff.1 hi with ⟨cs, h'⟩ | ⟨m, es, rfl, h'⟩
  · exact ⟨live_iff.2 (.inl ⟨cs, (hget i cs h').1⟩), (hget i cs h').2⟩
  · exact ⟨live_iff.2 (.inr ⟨m, es, rfl, h'⟩), rfl⟩
 have hi := hst.i
 refine ⟨ι', ⟨?_, ?_, hst.d, hst.s⟩, ?_⟩
 · intro t
  rw [at_keep]
  split
  · rename_i htl
   have hv := hst.e t
   have hck := List.all_eq_true.1 hc1 _ (mem_keep (env := env) l htl)
   cases hcv : Env.at env t with
   | op i off =>
    rw [hcv] at hv hck
    cases i with
    | loc s =>
     simp only [chkV, List.contains_eq_mem, decide_eq_true_eq] at hck
     simp only [VR] at hv ⊢
     obtain ⟨b, h1, h2⟩ := hv
     exact ⟨b, by simpa [IM.get, ι', hck] using h1, h2⟩
    | blk m => simpa [VR, IM.get, ι'] using hv
   | _ =>
    rw [hcv] at hv hck
    exact hmono (VR.noloc _ _ (by simpa [chkV] using hck) hv)
  · simp [VR, BR]
 · refine ⟨hi.len, ?_, ?_, ?_, ?_, hi.lt, ?_⟩
  · intro i cs hg
   obtain ⟨h1, h2⟩ := hget i cs hg
   obtain ⟨b, c, e, h3, h4, h5, h6⟩ := hi.cells i cs h1
   refine ⟨b, c, e, by rw [h2]; exact h3, h4, ?_, h6⟩
   cases i with
   | blk m => exact h5
   | loc s =>
    have hno : CV.locs cs = false := by
     have := List.all_eq_true.1 hc2 _ (mem_look hg)
     simpa using this
    intro j x hx
    obtain ⟨u, g1, g2⟩ := h5 j x hx
    refine ⟨u, g1, hmono (VR.noloc x u ?_ g2)⟩
    have : ∀ (cs : List CV), CV.locs cs = false → ∀ (j : Nat) (x : CV), cs[j]? = some x → x.locv = false := by
     intro cs
     induction cs with
     | nil => intro _ j x hx; simp at hx
     | cons c cs ih =>
      intro hl j x hx
      simp only [CV.locs, Bool.or_eq_false_iff] at hl
      cases j with
      | zero => simp at hx; subst hx; exact hl.1
      | succ j => exact ih hl.2 j x (by simpa using hx)
    exact this cs hno j x hx
  · intro m es hm
   exact hi.maps m es hm
  · intro i j b h1 h2 h3 h4
   rw [(hlive i h1).2] at h3
   rw [(hlive j h2).2] at h4
   exact hi.inj i j b (hlive i h1).1 (hlive j h2).1 h3 h4
  · rintro b hb ⟨i, h1, h2⟩
   rw [(hlive i h1).2] at h2
   exact hi.dis b hb ⟨i, (hlive i h1).1, h2⟩
  · intro s hs
   show (if s ∈ l then ι.lo s else none) = none
   split
   · rename_i hsl
    refine hi.lo s ?_
    rw [look_keepB, if_pos hsl] at hs
    exact hs
   · rfl
 · refine ⟨rfl, rfl, rfl, fun _ _ h => h, fun _ h => h, fun _ h => .inl h, Nat.le_refl _, fun _ _ h => h, fun _ _ _ => rfl, ?_⟩
  rintro b ⟨i, h1, h2⟩
  rw [(hlive i h1).2] at h2
  exact .inl ⟨i, (hlive i h1).1, h2⟩

/-- Where code leads that comes to 'x', 'env'', 'H''. -/
def Post (n : Nat) (w : World) (F : Nat → Prop) (ι : IM) (H : Heap) (x : Ex) (env' : Env) (H' : Heap) (e : Exit) (a' : Act) (w' : World) : Prop :=
 e = exOf x ∧ ∃ F' ι', St n w' F' ι' H' env' a' ∧ Ext w F ι H w' F' ι' H'

theorem EnvR.keep {rs : List Nat} (h : EnvR w F ι env a) : EnvR w F ι (Zc.keep env rs) a := fun t => by
 rw [at_keep]
 split
 · exact h t
 · simp [VR, BR]

theorem join_ok {n : Nat} {lo : Option (List Nat)} {x : Ex} {env' : Env} {H' : Heap} (h : joinE lo env H = some (x, env', H')) (hst : St n w F ι H env a) : x = .norm ∧ ∃ ι', St n w F ι' H' env' a ∧ Ext w F ι H w F ι' H' := by
 cases lo with
 | none =>
  simp only [joinE, Option.some.injEq, Prod.mk.injEq] at h
  obtain ⟨rfl, rfl, rfl⟩ := h
  exact ⟨rfl, ι, hst, Ext.refl _ _ _ _⟩
 | some l =>
  simp only [joinE, Option.map_eq_some_iff, Prod.mk.injEq] at h
  obtain ⟨⟨e1, H1⟩, h1, rfl, rfl, rfl⟩ := h
  exact ⟨rfl, keep_ok h1 hst⟩

theorem loop_ok {n id : Nat} {li lo : List Nat} {c : Code} {f : Env → Heap → Out}
  (hf : ∀ (w : World) (F : Nat → Prop) (ι : IM) (H : Heap) (env : Env) (a : Act) (x : Ex) (env' : Env) (H' : Heap), f env H = some (x, env', H') → St n w F ι H env a → c.wp P (Post n w F ι H x env' H') a w) :
  ∀ (m : Nat) (w : World) (F : Nat → Prop) (ι : IM) (H : Heap) (env : Env) (a : Act) (x : Ex) (env' : Env) (H' : Heap), iter id li lo f m env H = some (x, env', H') → St n w F ι H env a →
   ∀ (b : Frame) (k : List Item) (cs : List Frame), ∃ e a' w', Exit.inBlock id (Post n w F ι H x env' H') e a' w' ∧ Arrives P (lone (b.at a (.code c :: .inLoop c :: k)) cs w) b k cs e a' w'
 | 0, _, _, _, _, _, _, _, _, _, h, _, _, _, _ => by simp [iter] at h
 | m + 1, w, F, ι, H, env, a, x, env', H', h, hst, b, k, cs => by
  simp only [iter, Option.bind_eq_some_iff] at h
  obtain ⟨⟨env1, H1⟩, h1, ⟨x1, env2, H2⟩, h2, h3⟩ := h
  obtain ⟨ι1, hst1, hext1⟩ := keep_ok h1 hst
  obtain ⟨e, a1, w1, ⟨rfl, F2, ι2, hst2, hext2⟩, harr⟩ := hf w F ι1 H1 env1 a x1 env2 H2 h2 hst1 b (.inLoop c :: k) cs
  have hext := hext1.trans hext2
  cases x1 with
  | norm =>
   simp only at h3
   obtain ⟨e, a', w', hq, harr2⟩ := loop_ok hf m w1 F2 ι2 H2 env2 a1 x env' H' h3 hst2 b k cs
   refine ⟨e, a', w', ?_, .of_steps (Steps.trans harr (.one step_inLoop)) harr2⟩
   revert hq
   cases e <;> simp only [Exit.inBlock] <;> (try split) <;> rintro ⟨q1, F', ι', q2, q3⟩ <;> exact ⟨q1, F', ι', q2, hext.trans q3⟩
  | exit j =>
   simp only at h3
   refine ⟨.exit j, a1, w1, ?_, .pass (x := .inLoop c) rfl (fun _ _ => .inl (by simp)) harr⟩
   by_cases hj : j = id
   · rw [if_pos hj] at h3
    simp only [Option.map_eq_some_iff, Prod.mk.injEq] at h3
    obtain ⟨⟨env3, H3⟩, h4, rfl, rfl, rfl⟩ := h3
    obtain ⟨ι3, hst3, hext3⟩ := keep_ok h4 hst2
    simp only [Exit.inBlock, if_pos hj]
    exact ⟨rfl, F2, ι3, hst3, hext.trans hext3⟩
   · rw [if_neg hj] at h3
    simp only [Option.some.injEq, Prod.mk.injEq] at h3
    obtain ⟨rfl, rfl, rfl⟩ := h3
    simp only [Exit.inBlock, if_neg hj]
    exact ⟨rfl, F2, ι2, hst2, hext⟩
  | ret =>
   simp only [Option.some.injEq, Prod.mk.injEq] at h3
   obtain ⟨rfl, rfl, rfl⟩ := h3
   refine ⟨.ret, a1, w1, ?_, .pass (x := .inLoop c) rfl (fun _ _ => .inl (by simp)) harr⟩
   simp only [Exit.inBlock]
   exact ⟨rfl, F2, ι2, hst2, hext⟩

theorem code_ok {call : Caller} (hcall : CallerOk P call) {quiet : FuncId → Bool} (hq : QuietOk call quiet) (hmix : P.follows .mixedOrders = true) {an : Ann} {n lf : Nat} {rs : List Nat} (code : Code) :
  ∀ (c : CCode) (w : World) (F : Nat → Prop) (ι : IM) (H : Heap) (env : Env) (a : Act) (x : Ex) (env' : Env) (H' : Heap), compC P quiet an n rs code = some c → runC call lf c env H = some (x, env', H') → St n w F ι H env a →
   code.wp P (Post n w F ι H x env' H') a w := by
 intro c w F ι H env a x env' H' hc hr hst
 match code with
 | .skip =>
  simp only [compC, Option.some.injEq] at hc
  subst hc
  simp only [runC, Option.some.injEq, Prod.mk.injEq] at hr
  obtain ⟨rfl, rfl, rfl⟩ := hr
  exact wp_skip ⟨rfl, F, ι, hst, Ext.refl _ _ _ _⟩
 | .region id ops draw =>
  simp only [compC] at hc
  have hne : c ≠ bad := by rintro rfl; simp [runC, bad, ev] at hr
  cases hl : compStms P an n ops ops.toList with
  | none => simp only [hl, Option.some.injEq] at hc; exact (hne hc.symm).elim
  | some l =>
  simp only [hl] at hc
  have fin : ∀ l', c = .ops l' → (l'.length = l.length ∧ ∀ (k : Nat) (s : CStm), l[k]? = some s → ∃ s', l'[k]? = some s' ∧ Sharp quiet s s') → ((draw = false ∧ l' = l) ∨ (draw = true ∧ drawOk quiet ops l' = true)) → (Code.region id ops draw).wp P (Post n w F ι H x env' H') a w := by
   rintro l' rfl hsh hd
   simp only [runC, Option.map_eq_some_iff, Prod.mk.injEq] at hr
   obtain ⟨⟨e1, H1⟩, h1, rfl, rfl, rfl⟩ := hr
   exact region_ok hcall hq hmix hl hsh hd h1 hst fun a' w' F' ι' g1 g2 _ => ⟨rfl, F', ι', g1, g2⟩
  split at hc
  · rename_i hd
   simp only [Option.some.injEq] at hc
   refine fin l hc.symm ⟨rfl, fun k s hk => ⟨s, hk, Sharp.refl _ s⟩⟩ ?_
   cases draw with
   | false => exact .inl ⟨rfl, rfl⟩
   | true => exact .inr ⟨rfl, by simpa using hd⟩
  · split at hc
   · rename_i hnd hd
    simp only [Option.some.injEq] at hc
    refine fin _ hc.symm ⟨by simp, fun k s hk => ⟨_, by rw [List.getElem?_map, hk]; rfl, focus_sharp _ _ _ _⟩⟩ ?_
    cases draw with
    | false => simp at hnd
    | true => exact .inr ⟨rfl, hd⟩
   · have fin2 : ∀ b, some (CCode.ops ((l.map (focus an.boxes l)).map (focusC quiet b))) = some c → drawOk quiet ops ((l.map (focus an.boxes l)).map (focusC quiet b)) = true → (Code.region id ops draw).wp P (Post n w F ι H x env' H') a w := by
     intro b hc hd
     simp only [Option.some.injEq] at hc
     refine fin _ hc.symm ⟨by simp, fun k s hk => ⟨_, by rw [List.getElem?_map, List.getElem?_map, hk]; rfl, (focus_sharp _ _ _ _).trans (focusC_sharp _ _ _)⟩⟩ ?_
     cases draw with
     | false => simp_all
     | true => exact .inr ⟨rfl, hd⟩
    split at hc
    · rename_i hd; exact fin2 false hc hd
    · split at hc
     · rename_i hd; exact fin2 true hc hd
     · exact (hne (Option.some.inj hc).symm).elim
 | .seq p q =>
  simp only [compC, Option.bind_eq_some_iff, Option.map_eq_some_iff] at hc
  obtain ⟨cp, hp, cq, hqc, rfl⟩ := hc
  simp only [runC, Option.bind_eq_some_iff] at hr
  obtain ⟨⟨x1, env1, H1⟩, h1, h2⟩ := hr
  have hp' := code_ok hcall hq hmix p cp w F ι H env a x1 env1 H1 hp h1 hst
  refine wp_seq (wp_mono hp' ?_)
  rintro e a1 w1 ⟨rfl, F1, ι1, hst1, hext1⟩
  cases x1 with
  | norm =>
   refine wp_mono (code_ok hcall hq hmix q cq w1 F1 ι1 H1 env1 a1 x env' H' hqc h2 hst1) ?_
   rintro e a2 w2 ⟨rfl, F2, ι2, hst2, hext2⟩
   exact ⟨rfl, F2, ι2, hst2, hext1.trans hext2⟩
  | exit k =>
   simp only [Option.some.injEq, Prod.mk.injEq] at h2
   obtain ⟨rfl, rfl, rfl⟩ := h2
   exact ⟨rfl, F1, ι1, hst1, hext1⟩
  | ret =>
   simp only [Option.some.injEq, Prod.mk.injEq] at h2
   obtain ⟨rfl, rfl, rfl⟩ := h2
   exact ⟨rfl, F1, ι1, hst1, hext1⟩
 | .cond o p q =>
  simp only [compC, Option.bind_eq_some_iff, Option.map_eq_some_iff] at hc
  obtain ⟨co, ho, cp, hp, cq, hqc, rfl⟩ := hc
  simp only [runC] at hr
  split at hr <;> (try cases hr)
  rename_i t ht
  have hv := opd_ok hst.e ho
  rw [ht] at hv
  cases t with
  | true =>
   simp only [if_true] at hr
   exact wp_cond_true hv.bool (code_ok hcall hq hmix p cp w F ι H env a x env' H' hp hr hst)
  | false =>
   simp only [Bool.false_eq_true, if_false] at hr
   exact wp_cond_false hv.bool (code_ok hcall hq hmix q cq w F ι H env a x env' H' hqc hr hst)
 | .exit id =>
  simp only [compC, Option.some.injEq] at hc
  subst hc
  simp only [runC, Option.some.injEq, Prod.mk.injEq] at hr
  obtain ⟨rfl, rfl, rfl⟩ := hr
  exact wp_exit ⟨rfl, F, ι, hst, Ext.refl _ _ _ _⟩
 | .ret =>
  simp only [compC, Option.some.injEq] at hc
  subst hc
  simp only [runC, Option.some.injEq, Prod.mk.injEq] at hr
  obtain ⟨rfl, rfl, rfl⟩ := hr
  exact wp_ret ⟨rfl, F, ι, ⟨hst.e.keep, hst.i, hst.d, hst.s⟩, Ext.refl _ _ _ _⟩
 | .block id body =>
  by_cases hb : ∃ c', body = .loop c'
  · obtain ⟨c', hbc⟩ := hb
   have hlt : SizeOf.sizeOf c' < SizeOf.sizeOf body := by rw [hbc]; simp
   rw [hbc] at hc ⊢
   simp only [compC, Option.bind_eq_some_iff, Option.map_eq_some_iff] at hc
   obtain ⟨cc, hcc, l, hl, rfl⟩ := hc
   simp only [runC] at hr
   refine wp_block ?_
   intro b k cs
   obtain ⟨e, a', w', hq', harr⟩ := loop_ok (P := P) (n := n) (id := id) (c := c') (f := fun e h => runC call lf cc e h)
    (fun w F ι H env a x env' H' h hst => code_ok hcall hq hmix c' cc w F ι H env a x env' H' hcc h hst) lf w F ι H env a x env' H' hr hst b k cs
   exact ⟨e, a', w', hq', .of_steps (.one step_loop) harr⟩
  · have hc' : ((compC P quiet an n rs body).bind fun y => some (CCode.block id (look an.blocks id) y)) = some c := by
    rw [← hc]
    cases body <;> first | rfl | exact (hb ⟨_, rfl⟩).elim
   simp only [Option.bind_eq_some_iff, Option.some.injEq] at hc'
   obtain ⟨cb, hcb, rfl⟩ := hc'
   simp only [runC, Option.bind_eq_some_iff] at hr
   obtain ⟨⟨x1, env1, H1⟩, h1, h2⟩ := hr
   have hb' := code_ok hcall hq hmix body cb w F ι H env a x1 env1 H1 hcb h1 hst
   refine wp_block (wp_mono hb' ?_)
   rintro e a1 w1 ⟨rfl, F1, ι1, hst1, hext1⟩
   cases x1 with
   | norm =>
    simp only at h2
    obtain ⟨rfl, ι2, hst2, hext2⟩ := join_ok h2 hst1
    exact ⟨rfl, F1, ι2, hst2, hext1.trans hext2⟩
   | exit k =>
    simp only at h2
    simp only [exOf, Exit.inBlock]
    split
    · rename_i hk
     rw [if_pos hk] at h2
     obtain ⟨rfl, ι2, hst2, hext2⟩ := join_ok h2 hst1
     exact ⟨rfl, F1, ι2, hst2, hext1.trans hext2⟩
    · rename_i hk
     rw [if_neg hk] at h2
     simp only [Option.some.injEq, Prod.mk.injEq] at h2
     obtain ⟨rfl, rfl, rfl⟩ := h2
     exact ⟨rfl, F1, ι1, hst1, hext1⟩
   | ret =>
    simp only [Option.some.injEq, Prod.mk.injEq] at h2
    obtain ⟨rfl, rfl, rfl⟩ := h2
    exact ⟨rfl, F1, ι1, hst1, hext1⟩
 | .loop _ | .rangeFunc _ _ _ _ | .scope _ | .label _ | .goto _ | .refuse _ =>
  simp only [compC, Option.some.injEq] at hc
  subst hc
  simp [runC, bad, ev] at hr
termination_by SizeOf.sizeOf code
decreasing_by all_goals simp_wf; omega

end
end Go.Zc
end
section
namespace Go.Zc

section
variable {P : Program} {w : World} {F : Nat → Prop} {ι : IM} {H : Heap} {env : Env} {a : Act}

/-- A function whose contract is proved by itself. -/
def PrimOk (P : Program) (k : FuncId) (s : List CV → List Blk → Option (CV × List Blk)) : Prop :=
 ∃ fn, P.funcs[k]? = some fn ∧ fn.body.isSome = true ∧ (fn.name == "runtime.NumGoroutine") = false ∧
  ∀ args bl v bl', s args bl = some (v, bl') → ∀ (w : World) (F : Nat → Prop) (ι : IM) (as : List Value), (∀ s, ι.lo s = none) → Inv w F ι ⟨[], bl⟩ → VRl w F ι args as →
   Calls P k as.toArray w fun e w' => ∃ v' F' ι' bx, e = .returned v' ∧ VR w' F' ι' v v' ∧ Inv w' F' ι' ⟨bx, bl'⟩ ∧ Ext w F ι ⟨[], bl⟩ w' F' ι' ⟨bx, bl'⟩

def quietOf (C : Ctx) (k : FuncId) : Bool :=
 (C.prim k).isNone && match C.info k with
  | some I => match I.mode with | .fz _ => true | _ => false
  | none => false

structure CtxOk (P : Program) (C : Ctx) : Prop where
 mix : P.follows .mixedOrders = true
 info : ∀ k I, C.prim k = none → C.info k = some I → ∃ fn an, P.funcs[k]? = some fn ∧ compF P (quietOf C) an I.mode fn = some I
 prim : ∀ k s, C.prim k = some s → PrimOk P k s

theorem at_enter : ∀ (as : List CV) (i t : Nat), Env.at (enterC i as) t = if i ≤ t then (as[t - i]?).getD .und else .und
 | [], i, t => by simp [enterC, Env.at, look]
 | v :: r, i, t => by
  simp only [enterC, look_cons, at_enter r (i + 1) t]
  by_cases h : t = i
  · subst h; simp
  · rw [if_neg h]
   by_cases h2 : i ≤ t
   · rw [if_pos h2, if_pos (by omega), show t - i = (t - (i + 1)) + 1 by omega]; simp
   · rw [if_neg h2, if_neg (by omega)]

def resSem (tmps : Array Value) : ResultVar → Sem Value
 | .tmp t => pure (tmps.getD t undef)
 | .cell ad t => do loadVar t (← asAddr (tmps.getD ad undef))

theorem results_eq (fn : Func) (tmps : Array Value) : results fn tmps = (do let vs ← fn.results.mapM (resSem tmps); pure (if h : vs.size = 1 then vs[0] else .tuple vs)) := by
 unfold results
 congr

theorem resOne_ok (hi : Inv w F ι H) (he : EnvR w F ι env a) {r : ResultVar} {rs : Res} (hc : compRes P [r] = some [rs]) {v : CV} (h : resOne env H rs = some v) :
  ∃ u, (resSem a.tmps r).run P w = .ok u w ∧ VR w F ι v u := by
 cases r with
 | tmp t =>
  simp only [compRes, Option.map_some, Option.some.injEq, List.cons.injEq, and_true] at hc
  subst hc
  simp only [resOne, Option.some.injEq] at h
  subst h
  exact ⟨_, rfl, he t⟩
 | cell ad t =>
  simp only [compRes, Option.map_some, Option.bind_eq_some_iff, Option.some.injEq, List.cons.injEq, and_true] at hc
  obtain ⟨s, hs, rfl⟩ := hc
  simp only [resOne, heapOp, Option.map_eq_some_iff] at h
  obtain ⟨⟨x, H1⟩, ⟨y, hy, hyx⟩, rfl⟩ := h
  cases hyx
  obtain ⟨ad', u, h1, h2, h3⟩ := loadC_ok (P := P) hi hs (he ad) hy
  refine ⟨u, ?_, h3⟩
  simp only [resSem, Sem.run_bind, h1, asAddr, Sem.run_pure, Result.andThen_ok]
  exact h2

theorem resAll_ok (hi : Inv w F ι H) (he : EnvR w F ι env a) : ∀ (rv : List ResultVar) (rs : List Res) (vs : List CV), compRes P rv = some rs → resAll env H rs = some vs →
  ∃ us : List Value, (rv.mapM (m := Sem) (resSem a.tmps)).run P w = .ok us w ∧ VRl w F ι vs us
 | [], rs, vs, hc, h => by
  simp only [compRes, Option.some.injEq] at hc
  subst hc
  simp only [resAll, Option.some.injEq] at h
  subst h
  exact ⟨[], by simp, by simp [VRl]⟩
 | r :: rv, rs, vs, hc, h => by
  have hsplit : ∃ r1 rs1, compRes P [r] = some [r1] ∧ compRes P rv = some rs1 ∧ rs = r1 :: rs1 := by
   cases r with
   | tmp t =>
    simp only [compRes, Option.map_eq_some_iff] at hc
    obtain ⟨l, h1, rfl⟩ := hc
    exact ⟨_, l, by simp [compRes], h1, rfl⟩
   | cell ad t =>
    simp only [compRes, Option.bind_eq_some_iff, Option.map_eq_some_iff] at hc
    obtain ⟨s, hs, l, h1, rfl⟩ := hc
    exact ⟨_, l, by simp [compRes, hs], h1, rfl⟩
  obtain ⟨r1, rs1, h1, h2, rfl⟩ := hsplit
  simp only [resAll, Option.bind_eq_some_iff, Option.map_eq_some_iff] at h
  obtain ⟨v, h3, l, h4, rfl⟩ := h
  obtain ⟨u, h5, h6⟩ := resOne_ok (P := P) hi he h1 h3
  obtain ⟨us, h7, h8⟩ := resAll_ok hi he rv rs1 l h2 h4
  refine ⟨u :: us, ?_, by simp only [VRl]; exact ⟨u, us, rfl, h6, h8⟩⟩
  rw [List.mapM_cons]
  simp only [Sem.run_bind]
  rw [h5]
  simp only [Result.andThen_ok, h7, Sem.run_pure]

/-- A body, run by the model. -/
theorem body_ok {call : Caller} (hcall : CallerOk P call) {quiet : FuncId → Bool} (hq : QuietOk call quiet) (hmix : P.follows .mixedOrders = true) {k : FuncId} {fn : Func} (hfn : P.funcs[k]? = some fn) {an : Ann} {mode : Mode} {I : FInfo} (hI : compF P quiet an mode fn = some I)
  {lf : Nat} {as : List CV} {bl : List Blk} {v : CV} {Hf : Heap} (h : bodyC (runC call lf) I as bl = some (v, Hf)) (hi : Inv w F ι ⟨[], bl⟩) {avs : List Value} (hargs : VRl w F ι as avs) :
  Calls P k avs.toArray w fun e w' => ∃ v' F' ι', e = .returned v' ∧ VR w' F' ι' v v' ∧ Inv w' F' ι' Hf ∧ Ext w F ι ⟨[], bl⟩ w' F' ι' Hf := by
 unfold compF at hI
 split at hI
 · cases hI
 · rename_i code hbody
  split at hI
  · cases hI
  · simp only [Option.bind_eq_some_iff, Option.map_eq_some_iff] at hI
   obtain ⟨cc, hcc, rs, hrs, rfl⟩ := hI
   unfold bodyC at h
   split at h <;> (try cases h)
   simp only [Option.bind_eq_some_iff] at h
   obtain ⟨⟨x, env', H1⟩, hrun, hres⟩ := h
   have hlen := VRl.length hargs
   let a0 : Act := { tmps := avs.toArray ++ Array.replicate (fn.ntmps - avs.toArray.size) undef, defers := [] }
   have hst : St fn.ntmps w F ι ⟨[], bl⟩ (enterC 0 as) a0 := by
    refine ⟨fun t => ?_, hi, rfl, by simp [a0]; omega⟩
    rw [at_enter, if_pos (Nat.zero_le _), Nat.sub_zero]
    cases hat : as[t]? with
    | none => simp [VR, BR]
    | some c =>
     obtain ⟨u, hu, huv⟩ := hargs.get t c hat
     have hlt := (List.getElem?_eq_some_iff.1 hu).1
     have : a0.tmps.getD t undef = u := by
      simp [a0, Array.getD_eq_getD_getElem?, Array.getElem?_append, hlt, (List.getElem?_eq_some_iff.1 hu).2]
     rw [this]
     exact huv
   have hwp := code_ok hcall hq hmix code cc w F ι ⟨[], bl⟩ (enterC 0 as) a0 x env' H1 hcc hrun hst
   refine calls_of_wp hfn hbody (wp_mono hwp ?_)
   rintro e a' w' ⟨rfl, F', ι', hst', hext⟩
   have fin : (resAll env' H1 rs).map (fun vs => (resV vs, H1)) = some (v, Hf) → a'.defers = [] ∧ ∃ u, (results fn a'.tmps).run P w' = .ok u w' ∧ ∃ v' F'' ι'', Ending.returned u = .returned v' ∧ VR w' F'' ι'' v v' ∧ Inv w' F'' ι'' Hf ∧ Ext w F ι ⟨[], bl⟩ w' F'' ι'' Hf := by
    intro hr
    simp only [Option.map_eq_some_iff, Prod.mk.injEq] at hr
    obtain ⟨vs, hvs, rfl, rfl⟩ := hr
    obtain ⟨us, h1, h2⟩ := resAll_ok (P := P) hst'.i hst'.e fn.results.toList rs vs hrs hvs
    refine ⟨hst'.d, if h : us.length = 1 then us[0] else .tuple us.toArray, ?_, _, F', ι', rfl, ?_, hst'.i, hext⟩
    · rw [results_eq, Array.mapM_eq_mapM_toList]
     simp only [Sem.run_bind, Sem.run_map, h1]
     simp
    · have hl := VRl.length h2
     cases vs with
     | nil =>
      simp only [VRl] at h2
      subst h2
      simp only [List.length_nil, resV, VR]
      exact ⟨_, rfl, by simp [VRl]⟩
     | cons c vs =>
      cases vs with
      | nil =>
       simp only [VRl] at h2
       obtain ⟨u, us', rfl, h3, rfl⟩ := h2
       simpa [resV] using h3
      | cons d vs =>
       have hne : ¬ us.length = 1 := by simp at hl; omega
       rw [dif_neg hne]
       simp only [resV, VR]
       exact ⟨_, rfl, by simpa using h2⟩
   cases x with
   | norm => exact fin hres
   | ret => exact fin hres
   | exit j => simp at hres

/-! ### What a caller keeps -/

theorem Inv.glob (hi : Inv w F ι H) : Inv w F ι.glob ⟨[], H.bl⟩ where
 len := hi.len
 cells := fun i cs h => by
  cases i with
  | loc s => simp [Heap.get, look] at h
  | blk n => exact hi.cells (.blk n) cs h
 maps := hi.maps
 inj := fun i j b h1 h2 h3 h4 => by
  cases i with
  | loc s => simp [Heap.live, look] at h1
  | blk n =>
   cases j with
   | loc s => simp [Heap.live, look] at h2
   | blk m => exact hi.inj (.blk n) (.blk m) b h1 h2 h3 h4
 dis := fun b hb ⟨i, h1, h2⟩ => by
  cases i with
  | loc s => simp [Heap.live, look] at h1
  | blk n => exact hi.dis b hb ⟨.blk n, h1, h2⟩
 lt := hi.lt
 lo := fun _ _ => rfl

/-- Behind a call that works on the caller's own memory. -/
theorem restore (hi : Inv w F ι H) {w' : World} {F' : Nat → Prop} {ι' : IM} {bx : List (Nat × List CV)} {bl : List Blk} (hi' : Inv w' F' ι' ⟨bx, bl⟩) (hx : Ext w F ι.glob ⟨[], H.bl⟩ w' F' ι' ⟨bx, bl⟩) :
  Inv w' F' ⟨ι.lo, ι'.bl⟩ ⟨H.bx, bl⟩ ∧ Ext w F ι H w' F' ⟨ι.lo, ι'.bl⟩ ⟨H.bx, bl⟩ ∧ MoV w w' F F' ι ⟨ι.lo, ι'.bl⟩ := by
 have hgl : ∀ b, Live ι.glob ⟨[], H.bl⟩ b → Live ι H b := by
  rintro b ⟨i, h1, h2⟩
  cases i with
  | loc s => simp [Heap.live, look] at h1
  | blk n => exact ⟨.blk n, h1, h2⟩
 have hF : ∀ b, F b → w'.heap[b]? = w.heap[b]? := fun b hb => hx.frame b (hi.lt b hb) fun h => hi.dis b hb (hgl b h)
 have hm : MoV w w' F F' ι ⟨ι.lo, ι'.bl⟩ := by
  refine ⟨⟨hx.fmono, hF⟩, fun i b hb => ?_, hx.csz⟩
  cases i with
  | loc s => exact hb
  | blk n => exact hx.pre n b hb
 have hbox : ∀ s b, H.live (.loc s) → ι.get (.loc s) = some b → b < w.heap.size ∧ ¬ Live ι.glob ⟨[], H.bl⟩ b := by
  intro s b h1 h2
  refine ⟨hi.live_lt ⟨.loc s, h1, h2⟩, ?_⟩
  rintro ⟨i, h3, h4⟩
  cases i with
  | loc t => simp [Heap.live, look] at h3
  | blk n =>
   have := hi.inj (.loc s) (.blk n) b h1 h3 h2 h4
   cases this
 have hblk : ∀ n b, (⟨H.bx, bl⟩ : Heap).live (.blk n) → ι'.bl[n]? = some b → Live ι.glob ⟨[], H.bl⟩ b ∨ w.heap.size ≤ b := fun n b h1 h2 => hx.live b ⟨.blk n, h1, h2⟩
 refine ⟨⟨hi'.len, ?_, ?_, ?_, ?_, hi'.lt, hi.lo⟩, ⟨hx.os, hx.tape, hx.output, hx.pre, hx.fmono, hx.fnew, hx.size, hx.csz, fun b hb hn => hx.frame b hb fun h => hn (hgl b h), ?_⟩, hm⟩
 · intro i cs h
  cases i with
  | loc s =>
   obtain ⟨b, c, e, h1, h2, h3, h4⟩ := hi.cells (.loc s) cs h
   obtain ⟨g1, g2⟩ := hbox s b ⟨cs, h⟩ h1
   exact ⟨b, c, e, h1, (hx.frame b g1 g2).trans h2, h3.mono hm, h4⟩
  | blk n => exact hi'.cells (.blk n) cs h
 · exact hi'.maps
 · intro i j b h1 h2 h3 h4
  cases i with
  | loc s =>
   cases j with
   | loc t => exact hi.inj (.loc s) (.loc t) b h1 h2 h3 h4
   | blk n =>
    obtain ⟨g1, g2⟩ := hbox s b h1 h3
    rcases hblk n b h2 h4 with h | h
    · exact (g2 h).elim
    · omega
  | blk n =>
   cases j with
   | loc t =>
    obtain ⟨g1, g2⟩ := hbox t b h2 h4
    rcases hblk n b h1 h3 with h | h
    · exact (g2 h).elim
    · omega
   | blk m => exact hi'.inj (.blk n) (.blk m) b h1 h2 h3 h4
 · rintro b hb ⟨i, h1, h2⟩
  cases i with
  | loc s =>
   obtain ⟨g1, g2⟩ := hbox s b h1 h2
   rcases hx.fnew b hb with h | h
   · exact hi.dis b h ⟨.loc s, h1, h2⟩
   · omega
  | blk n => exact hi'.dis b hb ⟨.blk n, h1, h2⟩
 · rintro b ⟨i, h1, h2⟩
  cases i with
  | loc s => exact .inl ⟨.loc s, h1, h2⟩
  | blk n => exact (hblk n b h1 h2).imp (hgl b) id

mutual
theorem snapV_noref {H' : Heap} {st kn : Bool} {f g : CV → Option CV} : ∀ (c : CV), c.ref = false → snapV H st kn f c = snapV H' st kn g c
 | .op _ _, h => by simp [CV.ref] at h
 | .os _ _ _ _, h => by simp [CV.ref] at h
 | .om _, h => by simp [CV.ref] at h
 | .fn _ a c, h => by
  simp only [CV.ref, Bool.or_eq_false_iff] at h
  simp only [snapV, snapVs_noref (H' := H') (g := g) a h.1, snapVs_noref (H' := H') (g := g) c h.2]
 | .ifc _ x, h => by
  simp only [CV.ref] at h
  simp only [snapV, snapV_noref (H' := H') (g := g) x h]
 | .agg cs, h => by
  simp only [CV.ref] at h
  simp only [snapV, snapVs_noref (H' := H') (g := g) cs h]
 | .tup cs, h => by
  simp only [CV.ref] at h
  simp only [snapV, snapVs_noref (H' := H') (g := g) cs h]
 | .und, _ | .bool _, _ | .int _ _, _ | .float _ _, _ | .cplx _ _ _, _ | .str _, _ | .nilp, _ | .vp _, _ | .nils, _ | .vs _ _, _ | .nilm, _ | .nilf, _ | .nili, _ => by simp only [snapV]
theorem snapVs_noref {H' : Heap} {st kn : Bool} {f g : CV → Option CV} : ∀ (cs : List CV), CV.refs cs = false → snapVs H st kn f cs = snapVs H' st kn g cs
 | [], _ => rfl
 | c :: cs, h => by
  simp only [CV.refs, Bool.or_eq_false_iff] at h
  simp only [snapVs, snapV_noref (H' := H') (g := g) c h.1, snapVs_noref (H' := H') (g := g) cs h.2]
end

theorem snap_noref {H' : Heap} {st kn : Bool} {c : CV} (h : c.ref = false) : snap H st kn c = snap H' st kn c := snapV_noref c h

theorem mapC_noref {f g : CV → Option CV} (hfg : ∀ c, c.ref = false → f c = g c) (cs : List CV) : CV.refs cs = false → mapC f cs = mapC g cs := by
 induction cs with
 | nil => intro _; rfl
 | cons c cs ih =>
  intro h
  simp only [CV.refs, Bool.or_eq_false_iff] at h
  simp only [mapC, hfg c h.1, ih h.2]

theorem snapL_noref {H' : Heap} {st kn : Bool} (cs : List CV) (h : CV.refs cs = false) : snapL H st kn cs = snapL H' st kn cs :=
 mapC_noref (f := snap H st kn) (g := snap H' st kn) (fun _ hc => snap_noref hc) cs h

theorem Inv.empty (w : World) (F : Nat → Prop) (h : ∀ b, F b → b < w.heap.size) : Inv w F IM.nil ⟨[], []⟩ where
 len := rfl
 cells := fun i cs hg => by cases i <;> simp [Heap.get, look] at hg
 maps := fun n es hg => by simp at hg
 inj := fun i j b h1 => by cases i <;> simp [Heap.live, look] at h1
 dis := fun b _ ⟨i, h1, _⟩ => by cases i <;> simp [Heap.live, look] at h1
 lt := h
 lo := fun _ _ => rfl

theorem no_live {b : Nat} : ¬ Live IM.nil ⟨[], []⟩ b := fun ⟨i, h1, _⟩ => by cases i <;> simp [Heap.live, look] at h1

/-- The arguments of a call by value. -/
theorem args_ok (hi : Inv w F ι H) {as as' : List CV} (hs : snapL H false false as = some as') {avs : List Value} (hv : VRl w F ι as avs) :
  BRl w (fun b => F b ∨ (CV.refs as = true ∧ Live ι H b)) as' avs := by
 cases hr : CV.refs as with
 | true => exact hi.snapL (G := fun b => F b ∨ (true = true ∧ Live ι H b)) (fun b hb => .inr ⟨rfl, hb⟩) (.inr fun b hb => .inl hb) hs hv
 | false =>
  rw [snapL_noref (H' := ⟨[], []⟩) as hr] at hs
  have hv' : VRl w F IM.nil as avs := BRl.vr _ _ (VRl.bv _ _ hr hv)
  have := (Inv.empty w F hi.lt).snapL (G := F) (fun b hb => (no_live hb).elim) (.inr fun b hb => hb) hs hv'
  exact BRl.mono ⟨fun b hb => .inl hb, fun _ _ => rfl⟩ _ _ this

/-- Behind a call by value: nothing that was there has turned. -/
theorem behind (hi : Inv w F ι H) {w' : World} {F1 : Nat → Prop} {ι1 : IM} {Hf : Heap} {Fc G : Nat → Prop} (hx : Ext w Fc IM.nil ⟨[], []⟩ w' F1 ι1 Hf) (hG : ∀ b, F b → G b) (hG2 : ∀ b, G b → F b ∨ w.heap.size ≤ b) (hG3 : ∀ b, G b → b < w'.heap.size) :
  Inv w' G ι H ∧ Ext w F ι H w' G ι H ∧ MoV w w' F G ι ι := by
 have hsame : ∀ b, b < w.heap.size → w'.heap[b]? = w.heap[b]? := fun b hb => hx.frame b hb no_live
 have hm : MoV w w' F G ι ι := ⟨⟨hG, fun b hb => hsame b (hi.lt b hb)⟩, fun _ _ h => h, hx.csz⟩
 refine ⟨hi.build hm hi.len (fun i cs h => .inl ⟨h, fun b hb => hsame b (hi.live_lt ⟨i, live_iff.2 (.inl ⟨cs, h⟩), hb⟩)⟩) (fun n es h => .inl ⟨h, fun b hb => hsame b (hi.live_lt ⟨.blk n, live_iff.2 (.inr ⟨n, es, rfl, h⟩), hb⟩)⟩) hi.inj ?_ hG3 hi.lo,
  ⟨hx.os, hx.tape, hx.output, fun _ _ h => h, hG, hG2, hx.size, hx.csz, fun b hb _ => hsame b hb, fun _ h => .inl h⟩, hm⟩
 intro b hb hl
 rcases hG2 b hb with h | h
 · exact hi.dis b h hl
 · have := hi.live_lt hl; omega

mutual
theorem snapV_agr {H H' : Heap} (h : Agr (fun _ => True) H H') {st kn : Bool} {f g : CV → Option CV} (hfg : ∀ c, f c = g c) : ∀ (c : CV), snapV H st kn f c = snapV H' st kn g c
 | .op i off => by
  have hm : ∀ l, mapC f l = mapC g l := fun l => by rw [show f = g from funext hfg]
  simp only [snapV, alike_get h, hm]
 | .os sz i off n => by
  have hm : ∀ l, mapC f l = mapC g l := fun l => by rw [show f = g from funext hfg]
  simp only [snapV, alike_get h, hm]
 | .fn _ a c => by simp only [snapV, snapVs_agr h hfg a, snapVs_agr h hfg c]
 | .ifc _ x => by simp only [snapV, snapV_agr h hfg x]
 | .agg cs => by simp only [snapV, snapVs_agr h hfg cs]
 | .tup cs => by simp only [snapV, snapVs_agr h hfg cs]
 | .om _ | .nils | .vp _ | .vs _ _ | .und | .bool _ | .int _ _ | .float _ _ | .cplx _ _ _ | .str _ | .nilp | .nilm | .nilf | .nili => by simp only [snapV]
theorem snapVs_agr {H H' : Heap} (h : Agr (fun _ => True) H H') {st kn : Bool} {f g : CV → Option CV} (hfg : ∀ c, f c = g c) : ∀ (cs : List CV), snapVs H st kn f cs = snapVs H' st kn g cs
 | [] => by simp only [snapVs]
 | c :: cs => by simp only [snapVs, snapV_agr h hfg c, snapVs_agr h hfg cs]
end

theorem snapN_agr {H H' : Heap} (h : Agr (fun _ => True) H H') {st kn : Bool} : ∀ (n : Nat) (c : CV), snapN H st kn n c = snapN H' st kn n c
 | 0, _ => rfl
 | n + 1, c => snapV_agr h (snapN_agr h n) c

theorem snapL_agr {H H' : Heap} (h : Agr (fun _ => True) H H') {st kn : Bool} (l : List CV) : snapL H st kn l = snapL H' st kn l := by
 unfold snapL
 rw [show snap H st kn = snap H' st kn from funext fun c => snapN_agr h deep c]

theorem callC_agr {C : Ctx} {r : CCode → Env → Heap → Out} {f : CV} {args : List CV} {H H' : Heap} {v : CV} {H1 : Heap} (ha : Agr (fun _ => True) H H') (h : callC C r f args H = some (v, H1)) : ∃ H1', callC C r f args H' = some (v, H1') ∧ Agr (fun _ => True) H1 H1' := by
 unfold callC at h ⊢
 split at h <;> (try cases h)
 rename_i k first cap
 dsimp only at h ⊢
 rw [← ha.bl]
 simp only [← snapL_agr ha]
 cases hp : C.prim k with
 | some s =>
  simp only [hp] at h ⊢
  split at h <;> (try cases h)
  rename_i hl
  rw [if_neg hl]
  obtain ⟨x, h1, h2⟩ := Option.bind_eq_some_iff.1 h
  split at h2 <;> cases h2
  rename_i hv
  exact ⟨⟨H'.bx, x.2⟩, by rw [h1, Option.bind_some, if_neg hv], rfl, ha.bx⟩
 | none =>
  simp only [hp] at h ⊢
  cases hI : C.info k with
  | none => simp [hI] at h
  | some I =>
   simp only [hI] at h ⊢
   cases hm : I.mode with
   | ref =>
    simp only [hm] at h ⊢
    split at h <;> (try cases h)
    rename_i hl
    rw [if_neg hl]
    obtain ⟨x, h1, h2⟩ := Option.bind_eq_some_iff.1 h
    split at h2 <;> cases h2
    rename_i hv
    exact ⟨⟨H'.bx, x.2.bl⟩, by rw [h1, Option.bind_some, if_neg hv], rfl, ha.bx⟩
   | fz kn =>
    simp only [hm] at h ⊢
    obtain ⟨as', h0, h⟩ := Option.bind_eq_some_iff.1 h
    obtain ⟨x, h1, h2⟩ := Option.bind_eq_some_iff.1 h
    obtain ⟨u, h3, h4⟩ := Option.map_eq_some_iff.1 h2
    cases h4
    exact ⟨H', by rw [h0, Option.bind_some, h1, Option.bind_some, h3]; rfl, ha⟩
   | own =>
    simp only [hm] at h ⊢
    obtain ⟨as', h0, h⟩ := Option.bind_eq_some_iff.1 h
    obtain ⟨x, h1, h2⟩ := Option.bind_eq_some_iff.1 h
    obtain ⟨u, h3, h4⟩ := Option.map_eq_some_iff.1 h2
    rw [h0, Option.bind_some, h1, Option.bind_some, h3]
    cases u with
    | none =>
     simp only [Prod.mk.injEq] at h4
     obtain ⟨rfl, rfl⟩ := h4
     exact ⟨H', rfl, ha⟩
    | some y =>
     obtain ⟨sz, n, cs⟩ := y
     simp only [Prod.mk.injEq] at h4
     obtain ⟨rfl, rfl⟩ := h4
     exact ⟨H'.push (.cells cs), by simp, (ha.push _).1⟩

theorem mapC_up {f g : CV → Option CV} (h : ∀ c v, f c = some v → g c = some v) : ∀ (l r : List CV), mapC f l = some r → mapC g l = some r
 | [], r, hr => by simpa only [mapC] using hr
 | c :: cs, r, hr => by
  simp only [mapC, Option.bind_eq_some_iff, Option.map_eq_some_iff] at hr ⊢
  obtain ⟨u, h1, us, h2, rfl⟩ := hr
  exact ⟨u, h _ _ h1, us, mapC_up h cs us h2, rfl⟩

theorem get_lone {H : Heap} {i : Id} {cs : List CV} (h : Heap.get ⟨[], H.bl⟩ i = some cs) : H.get i = some cs := by
 cases i with
 | loc s => simp [Heap.get, look] at h
 | blk n => exact h

mutual
theorem snapV_lone {H : Heap} {st kn : Bool} {f g : CV → Option CV} (hfg : ∀ c v, f c = some v → g c = some v) : ∀ (c v : CV), snapV ⟨[], H.bl⟩ st kn f c = some v → snapV H st kn g c = some v
 | .op i off, v, h => by
  simp only [snapV, Option.bind_eq_some_iff] at h ⊢
  obtain ⟨cs, h1, h2⟩ := h
  refine ⟨cs, get_lone h1, ?_⟩
  split at h2 <;> (try cases h2)
  rename_i hc
  obtain ⟨u, h3, h4⟩ := Option.map_eq_some_iff.1 h2
  rw [if_pos hc, mapC_up hfg _ _ h3]
  exact congrArg some h4
 | .os sz i off n, v, h => by
  simp only [snapV] at h ⊢
  split at h
  · rename_i h0; rw [if_pos h0]; exact h
  · rename_i h0
   rw [if_neg h0]
   obtain ⟨cs, h1, h2⟩ := Option.bind_eq_some_iff.1 h
   rw [get_lone h1, Option.bind_some]
   split at h2 <;> (try cases h2)
   rename_i hc
   obtain ⟨u, h3, h4⟩ := Option.map_eq_some_iff.1 h2
   rw [if_pos hc, mapC_up hfg _ _ h3]
   exact congrArg some h4
 | .fn _ a c, v, h => by
  simp only [snapV, Option.bind_eq_some_iff, Option.map_eq_some_iff] at h ⊢
  obtain ⟨x, h1, y, h2, h3⟩ := h
  exact ⟨x, snapVs_lone hfg _ _ h1, y, snapVs_lone hfg _ _ h2, h3⟩
 | .ifc _ x, v, h => by
  simp only [snapV, Option.map_eq_some_iff] at h ⊢
  obtain ⟨y, h1, h2⟩ := h
  exact ⟨y, snapV_lone hfg _ _ h1, h2⟩
 | .agg cs, v, h => by
  simp only [snapV, Option.map_eq_some_iff] at h ⊢
  obtain ⟨y, h1, h2⟩ := h
  exact ⟨y, snapVs_lone hfg _ _ h1, h2⟩
 | .tup cs, v, h => by
  simp only [snapV, Option.map_eq_some_iff] at h ⊢
  obtain ⟨y, h1, h2⟩ := h
  exact ⟨y, snapVs_lone hfg _ _ h1, h2⟩
 | .om _, v, h | .nils, v, h | .vp _, v, h | .vs _ _, v, h | .und, v, h | .bool _, v, h | .int _ _, v, h | .float _ _, v, h | .cplx _ _ _, v, h | .str _, v, h | .nilp, v, h | .nilm, v, h | .nilf, v, h | .nili, v, h => by simpa only [snapV] using h
theorem snapVs_lone {H : Heap} {st kn : Bool} {f g : CV → Option CV} (hfg : ∀ c v, f c = some v → g c = some v) : ∀ (cs vs : List CV), snapVs ⟨[], H.bl⟩ st kn f cs = some vs → snapVs H st kn g cs = some vs
 | [], v, h => by simpa only [snapVs] using h
 | c :: cs, v, h => by
  simp only [snapVs, Option.bind_eq_some_iff, Option.map_eq_some_iff] at h ⊢
  obtain ⟨x, h1, y, h2, h3⟩ := h
  exact ⟨x, snapV_lone hfg _ _ h1, y, snapVs_lone hfg _ _ h2, h3⟩
end

theorem snapN_lone {H : Heap} {st kn : Bool} : ∀ (n : Nat) (c v : CV), snapN ⟨[], H.bl⟩ st kn n c = some v → snapN H st kn n c = some v
 | 0, _, _, h => by simp [snapN] at h
 | n + 1, c, v, h => snapV_lone (snapN_lone n) c v h

theorem snapL_lone {H : Heap} {st kn : Bool} {l r : List CV} (h : snapL ⟨[], H.bl⟩ st kn l = some r) : snapL H st kn l = some r := mapC_up (fun c v hv => snapN_lone deep c v hv) l r h

theorem callC_lone {C : Ctx} {r : CCode → Env → Heap → Out} {f : CV} {args : List CV} {H : Heap} {v : CV} {H1 : Heap} (h : callC C r f args ⟨[], H.bl⟩ = some (v, H1)) : callC C r f args H = some (v, ⟨H.bx, H1.bl⟩) := by
 unfold callC at h ⊢
 split at h <;> (try cases h)
 rename_i k first cap
 dsimp only at h ⊢
 cases hp : C.prim k with
 | some s =>
  simp only [hp] at h ⊢
  split at h <;> (try cases h)
  rename_i hl
  rw [if_neg hl]
  obtain ⟨x, h1, h2⟩ := Option.bind_eq_some_iff.1 h
  rw [h1, Option.bind_some]
  split at h2 <;> (try cases h2)
  rename_i hx
  rw [if_neg hx]
 | none =>
  simp only [hp] at h ⊢
  cases hI : C.info k with
  | none => simp [hI] at h
  | some I =>
   simp only [hI] at h ⊢
   cases hm : I.mode with
   | ref =>
    simp only [hm] at h ⊢
    split at h <;> (try cases h)
    rename_i hl
    rw [if_neg hl]
    obtain ⟨x, h1, h2⟩ := Option.bind_eq_some_iff.1 h
    rw [h1, Option.bind_some]
    split at h2 <;> (try cases h2)
    rename_i hx
    rw [if_neg hx]
   | fz kn =>
    simp only [hm] at h ⊢
    obtain ⟨as', h1, h2⟩ := Option.bind_eq_some_iff.1 h
    rw [snapL_lone h1, Option.bind_some]
    obtain ⟨x, h3, h4⟩ := Option.bind_eq_some_iff.1 h2
    rw [h3, Option.bind_some]
    obtain ⟨y, h5, h6⟩ := Option.map_eq_some_iff.1 h4
    rw [h5, Option.map_some]
    cases h6
    rfl
   | own =>
    simp only [hm] at h ⊢
    obtain ⟨as', h1, h2⟩ := Option.bind_eq_some_iff.1 h
    rw [snapL_lone h1, Option.bind_some]
    obtain ⟨x, h3, h4⟩ := Option.bind_eq_some_iff.1 h2
    rw [h3, Option.bind_some]
    obtain ⟨y, h5, h6⟩ := Option.map_eq_some_iff.1 h4
    rw [h5, Option.map_some]
    cases y with
    | none => simp only [Prod.mk.injEq] at h6; obtain ⟨rfl, rfl⟩ := h6; rfl
    | some y =>
     obtain ⟨sz, n, cs⟩ := y
     simp only [Prod.mk.injEq] at h6
     obtain ⟨rfl, rfl⟩ := h6
     rfl

theorem caller_ok {C : Ctx} (hC : CtxOk P C) : ∀ n, CallerOk P (callC C (run C n)) ∧ QuietOk (callC C (run C n)) (quietOf C) := by
 intro n
 have hquiet : ∀ n, QuietOk (callC C (run C n)) (quietOf C) := by
  intro n
  refine ⟨?_, ?_, fun f args H v H1 h => callC_lone h, fun f args H H' v H1 ha h => callC_agr ha h⟩
  · intro k first cap args H v H1 hq hrf h
   simp only [quietOf, Bool.and_eq_true, Option.isNone_iff_eq_none] at hq
   obtain ⟨h1, h2⟩ := hq
   simp only [callC, h1] at h ⊢
   cases hI : C.info k with
   | none => simp [hI] at h
   | some I =>
    simp only [hI] at h h2 ⊢
    cases hm : I.mode with
    | ref => simp [hm] at h2
    | own => simp [hm] at h2
    | fz kn =>
     have hrf' : CV.refs (first ++ (args ++ cap)) = false := by
      have app : ∀ (a b : List CV), CV.refs (a ++ b) = (CV.refs a || CV.refs b) := by
       intro a b
       induction a with
       | nil => simp [CV.refs]
       | cons c a ih => simp [CV.refs, ih, Bool.or_assoc]
      simp only [CV.refs, CV.ref, Bool.or_eq_false_iff] at hrf
      simp [app, hrf]
     simp only [hm, Option.bind_eq_some_iff, Option.map_eq_some_iff, Prod.mk.injEq] at h ⊢
     obtain ⟨as', g1, x, g2, y, g3, rfl, rfl⟩ := h
     exact ⟨as', by rw [← g1]; exact snapL_noref _ hrf', x, g2, y, g3, rfl, trivial⟩
  intro k first cap args H v H' hq h
  simp only [quietOf, Bool.and_eq_true, Option.isNone_iff_eq_none] at hq
  obtain ⟨h1, h2⟩ := hq
  simp only [callC, h1] at h
  cases hI : C.info k with
  | none => simp [hI] at h
  | some I =>
   simp only [hI] at h h2
   cases hm : I.mode with
   | ref => simp [hm] at h2
   | own => simp [hm] at h2
   | fz kn =>
    simp only [hm, Option.bind_eq_some_iff, Option.map_eq_some_iff, Prod.mk.injEq] at h
    obtain ⟨_, _, _, _, _, _, _, rfl⟩ := h
    rfl
 refine ⟨?_, hquiet n⟩
 induction n with
 | zero =>
  intro f args H v H' h
  have hrun : ∀ I as bl, bodyC (run C 0) I as bl = none := by intro I as bl; unfold bodyC run; split <;> rfl
  unfold callC at h
  split at h <;> (try cases h)
  rename_i k first cap
  dsimp only at h
  cases hp : C.prim k with
  | none =>
   simp only [hp] at h
   cases hI : C.info k with
   | none => simp [hI] at h
   | some I =>
    simp only [hI] at h
    cases hm : I.mode with
    | ref => simp only [hm, hrun] at h; split at h <;> simp at h
    | own =>
     simp only [hm, hrun, Option.bind_eq_some_iff] at h
     obtain ⟨_, _, _, h, _⟩ := h
     cases h
    | fz kn =>
     simp only [hm, hrun, Option.bind_eq_some_iff] at h
     obtain ⟨_, _, _, h, _⟩ := h
     cases h
  | some s =>
   simp only [hp] at h
   split at h <;> (try cases h)
   rename_i hl
   simp only [Option.bind_eq_some_iff] at h
   obtain ⟨⟨v1, bl1⟩, h1, h2⟩ := h
   split at h2 <;> (try cases h2)
   rename_i hv
   obtain ⟨fn, g1, g2, g3, g4⟩ := hC.prim k s hp
   refine ⟨k, first, cap, fn, rfl, g1, g2, g3, ?_⟩
   intro w F ι as hi hvs
   refine (g4 _ _ _ _ h1 w F ι.glob as (fun _ => rfl) hi.glob (VRl.noloc _ _ (by simpa using hl) hvs)).mono ?_
   rintro e w' ⟨v', F', ι', bx, rfl, k1, k2, k3⟩
   obtain ⟨r1, r2, r3⟩ := restore hi k2 k3
   refine ⟨v', F', _, rfl, ?_, r1, r2, r3⟩
   exact VR.mono ⟨⟨fun _ h => h, fun _ _ => rfl⟩, fun i b hb => by cases i <;> simp_all [IM.glob, IM.get], fun _ _ h => h⟩ _ _ (VR.noloc _ _ (by simpa using hv) k1)
 | succ n ih =>
  intro f args H v H' h
  unfold callC at h
  split at h <;> (try cases h)
  rename_i k first cap
  dsimp only at h
  cases hp : C.prim k with
  | some s =>
   simp only [hp] at h
   split at h <;> (try cases h)
   rename_i hl
   simp only [Option.bind_eq_some_iff] at h
   obtain ⟨⟨v1, bl1⟩, h1, h2⟩ := h
   split at h2 <;> (try cases h2)
   rename_i hv
   obtain ⟨fn, g1, g2, g3, g4⟩ := hC.prim k s hp
   refine ⟨k, first, cap, fn, rfl, g1, g2, g3, ?_⟩
   intro w F ι as hi hvs
   refine (g4 _ _ _ _ h1 w F ι.glob as (fun _ => rfl) hi.glob (VRl.noloc _ _ (by simpa using hl) hvs)).mono ?_
   rintro e w' ⟨v', F', ι', bx, rfl, k1, k2, k3⟩
   obtain ⟨r1, r2, r3⟩ := restore hi k2 k3
   refine ⟨v', F', _, rfl, ?_, r1, r2, r3⟩
   exact VR.mono ⟨⟨fun _ h => h, fun _ _ => rfl⟩, fun i b hb => by cases i <;> simp_all [IM.glob, IM.get], fun _ _ h => h⟩ _ _ (VR.noloc _ _ (by simpa using hv) k1)
  | none =>
   simp only [hp] at h
   cases hI : C.info k with
   | none => simp [hI] at h
   | some I =>
    simp only [hI] at h
    obtain ⟨fn, an, hfn, hcomp⟩ := hC.info k I hp hI
    have hbody : fn.body.isSome = true ∧ (fn.name == "runtime.NumGoroutine") = false := by
     unfold compF at hcomp
     split at hcomp
     · cases hcomp
     · rename_i c hc
      split at hcomp
      · cases hcomp
      · rename_i hnm
       exact ⟨by simp [hc], by simpa using hnm⟩
    have body := fun (as : List CV) (bl : List Blk) (v : CV) (Hf : Heap) (h : bodyC (run C (n + 1)) I as bl = some (v, Hf)) (w : World) (F : Nat → Prop) (ι : IM) (hi : Inv w F ι ⟨[], bl⟩) (avs : List Value) (hargs : VRl w F ι as avs) =>
     body_ok (P := P) ih (hquiet n) hC.mix hfn hcomp (lf := n) (as := as) (bl := bl) (v := v) (Hf := Hf) h hi hargs
    refine ⟨k, first, cap, fn, rfl, hfn, hbody.1, hbody.2, ?_⟩
    intro w F ι as hi hvs
    cases hm : I.mode with
    | ref =>
     simp only [hm] at h
     split at h <;> (try cases h)
     rename_i hl
     simp only [Option.bind_eq_some_iff] at h
     obtain ⟨⟨v1, H1⟩, h1, h2⟩ := h
     split at h2 <;> (try cases h2)
     rename_i hv
     refine (body _ _ _ _ h1 w F ι.glob hi.glob as (VRl.noloc _ _ (by simpa using hl) hvs)).mono ?_
     rintro e w' ⟨v', F', ι', rfl, k1, k2, k3⟩
     obtain ⟨r1, r2, r3⟩ := restore hi (bx := H1.bx) (bl := H1.bl) k2 k3
     refine ⟨v', F', _, rfl, ?_, r1, r2, r3⟩
     exact VR.mono ⟨⟨fun _ h => h, fun _ _ => rfl⟩, fun i b hb => by cases i <;> simp_all [IM.glob, IM.get], fun _ _ h => h⟩ _ _ (VR.noloc _ _ (by simpa using hv) k1)
    | fz kn =>
     simp only [hm, Option.bind_eq_some_iff, Option.map_eq_some_iff, Prod.mk.injEq] at h
     obtain ⟨as', hs, ⟨v1, Hf⟩, hb, v2, hsn, rfl, rfl⟩ := h
     have hargs := args_ok hi hs hvs
     have hlt : ∀ b, (F b ∨ (CV.refs (first ++ (args ++ cap)) = true ∧ Live ι H b)) → b < w.heap.size := fun b hb => hb.elim (hi.lt b) fun h => hi.live_lt h.2
     refine (body _ _ _ _ hb w _ IM.nil (Inv.empty w _ hlt) as (BRl.vr _ _ hargs)).mono ?_
     rintro e w' ⟨v', F1, ι1, rfl, k1, k2, k3⟩
     have hbr : BR w' (fun b => F b ∨ (w.heap.size ≤ b ∧ b < w'.heap.size)) v2 v' := by
      refine k2.snap (fun b hb => ?_) ?_ hsn k1
      · rcases k3.live b hb with h | h
       · exact (no_live h).elim
       · exact .inr ⟨h, k2.live_lt hb⟩
      · cases hr : CV.refs (first ++ (args ++ cap)) with
       | true => exact .inl rfl
       | false =>
        right
        intro b hb
        rcases k3.fnew b hb with h | h
        · rcases h with h | ⟨h, _⟩
         · exact .inl h
         · rw [hr] at h; cases h
        · exact .inr ⟨h, k2.lt b hb⟩
     obtain ⟨r1, r2, r3⟩ := behind hi k3 (G := fun b => F b ∨ (w.heap.size ≤ b ∧ b < w'.heap.size)) (fun b hb => .inl hb) (fun b hb => hb.imp id fun h => h.1) (fun b hb => hb.elim (fun h => Nat.lt_of_lt_of_le (hi.lt b h) k3.size) fun h => h.2)
     exact ⟨v', _, ι, rfl, BR.vr _ _ hbr, r1, r2, r3⟩
    | own =>
     simp only [hm, Option.bind_eq_some_iff, Option.map_eq_some_iff] at h
     obtain ⟨as', hs, ⟨v1, Hf⟩, hb, r, hown, hres⟩ := h
     have hargs := args_ok hi hs hvs
     have hlt : ∀ b, (F b ∨ (CV.refs (first ++ (args ++ cap)) = true ∧ Live ι H b)) → b < w.heap.size := fun b hb => hb.elim (hi.lt b) fun h => hi.live_lt h.2
     refine (body _ _ _ _ hb w _ IM.nil (Inv.empty w _ hlt) as (BRl.vr _ _ hargs)).mono ?_
     rintro e w' ⟨v', F1, ι1, rfl, k1, k2, k3⟩
     dsimp only at hown
     unfold ownOf at hown
     split at hown <;> (try cases hown)
     · simp only [Prod.mk.injEq] at hres
      obtain ⟨rfl, rfl⟩ := hres
      obtain ⟨r1, r2, r3⟩ := behind hi k3 (G := F) (fun b hb => hb) (fun b hb => .inl hb) (fun b hb => Nat.lt_of_lt_of_le (hi.lt b hb) k3.size)
      exact ⟨v', _, ι, rfl, by simpa [VR, BR] using k1, r1, r2, r3⟩
     · rename_i sz m len
      simp only [Option.bind_eq_some_iff] at hown
      obtain ⟨cs, hcs, hown⟩ := hown
      split at hown <;> (try cases hown)
      simp only [Option.map_eq_some_iff] at hown
      obtain ⟨cs', hmap, rfl⟩ := hown
      simp only [Prod.mk.injEq] at hres
      obtain ⟨rfl, rfl⟩ := hres
      obtain ⟨b0, c, ec, q1, q2, q3, q4⟩ := k2.cells (.blk m) cs hcs
      have hlive0 : Live ι1 Hf b0 := ⟨.blk m, live_iff.2 (.inl ⟨cs, hcs⟩), q1⟩
      have hge : w.heap.size ≤ b0 := by
       rcases k3.live b0 hlive0 with h | h
       · exact (no_live h).elim
       · exact h
      have hlt0 := k2.live_lt hlive0
      let G : Nat → Prop := fun b => F b ∨ (w.heap.size ≤ b ∧ b < w'.heap.size ∧ b ≠ b0)
      obtain ⟨r1, r2, r3⟩ := behind hi k3 (G := G) (fun b hb => .inl hb) (fun b hb => hb.imp id fun h => h.1) (fun b hb => hb.elim (fun h => Nat.lt_of_lt_of_le (hi.lt b h) k3.size) fun h => h.2.1)
      have hnl : ¬ Live ι H b0 := fun h => by have := hi.live_lt h; omega
      have hng : ¬ G b0 := by
       rintro (h | h)
       · have := hi.lt b0 h; omega
       · exact h.2.2 rfl
      have hw : WTo w' w' b0 := ⟨rfl, rfl, rfl, Nat.le_refl _, hlt0, fun _ _ _ => rfl, fun _ h => h⟩
      have hst : ∀ (j : Nat) (x : CV), cs'[j]? = some x → ∃ u, c[j]? = some u ∧ VR w' G ι.glob x u := by
       intro j x hx
       obtain ⟨y, hy, hsy⟩ := mapC_get _ _ hmap j x hx
       obtain ⟨u, hu, huv⟩ := q3 j y hy
       refine ⟨u, hu, BR.vr _ _ ?_⟩
       refine (k2.kill m).snap (fun b hb => ?_) ?_ hsy huv.glob
       · obtain ⟨i, h1, h2⟩ := hb
        obtain ⟨h3, h4⟩ := live_kill h1
        have hb' : Live ι1 Hf b := ⟨i, h4, h2⟩
        rcases k3.live b hb' with h | h
        · exact (no_live h).elim
        · refine .inr ⟨h, k2.live_lt hb', ?_⟩
         rintro rfl
         exact h3 (k2.inj i (.blk m) b h4 (live_iff.2 (.inl ⟨cs, hcs⟩)) h2 q1)
       · cases hr : CV.refs (first ++ (args ++ cap)) with
        | true => exact .inl rfl
        | false =>
         right
         intro b hb
         rcases k3.fnew b hb with h | h
         · rcases h with h | ⟨h, _⟩
          · exact .inl h
          · rw [hr] at h; cases h
         · refine .inr ⟨h, k2.lt b hb, ?_⟩
          rintro rfl
          exact k2.dis b hb hlive0
      obtain ⟨t1, t2⟩ := r1.add hw hnl hng q2 hst q4
      refine ⟨v', G, ι.push b0, rfl, ?_, t1, ?_, ⟨⟨fun b hb => .inl hb, r3.h⟩, ι.push_le b0, r3.c⟩⟩
      · simp only [VR] at k1 ⊢
       obtain ⟨base, cap, g1, g2, g3⟩ := k1
       refine ⟨base, cap, g1, g2, ?_⟩
       rcases g3 with g3 | ⟨b, N, g3, g4, g5, g6⟩
       · exact .inl g3
       · rw [q1] at g3; cases g3
        exact .inr ⟨b0, N, by rw [IM.get_push, hi.len, if_pos rfl], g4, g5, g6⟩
      · refine ⟨r2.os, r2.tape, r2.output, fun n x h => ?_, fun b hb => .inl hb, r2.fnew, r2.size, r2.csz, r2.frame, ?_⟩
       · simp only [IM.push]
        rw [List.getElem?_append_left (List.getElem?_eq_some_iff.1 h).1]; exact h
       · rintro b ⟨i, h1, h2⟩
        rw [IM.get_push, hi.len] at h2
        rcases live_push h1 with rfl | h1
        · rw [if_pos rfl] at h2; cases h2; exact .inr hge
        · split at h2
         · cases h2; exact .inr hge
         · exact .inl ⟨i, h1, h2⟩

end
end Go.Zc
end
