/- The operations that look at their operands alone: the model does what the interpreter does. No condition. -/
import Derived.Test.YtfblegjbmhgepaaZcComp
import Derived.Laws.Cells
import Derived.Laws.IdiomCopy
set_option linter.all false
namespace Go.Zc

section
variable {P : Program} {w : World} {F : Nat → Prop} {ι : IM} {env : Env} {a : Act}

def EnvR (w : World) (F : Nat → Prop) (ι : IM) (env : Env) (a : Act) : Prop := ∀ t, VR w F ι (Env.at env t) (a.tmps.getD t undef)

theorem cOfV_ok : ∀ {v : Value} {c : CV}, cOfV v = some c → VR w F ι c v
  | .bool _, _, h | .int _ _, _, h | .float _ _, _, h | .complex _ _ _, _, h | .string _, _, h | .nilFunc, _, h | .nilIface, _, h => by
    simp only [cOfV, Option.some.injEq] at h; subst h; simp [VR, BR]
  | .pointer none, _, h | .map none, _, h => by simp only [cOfV, Option.some.injEq] at h; subst h; simp [VR, BR]
  | .slice none 0 0, _, h => by simp only [cOfV, Option.some.injEq] at h; subst h; simp [VR, BR]
  | .slice none (_ + 1) _, _, h | .slice none 0 (_ + 1), _, h | .slice (some _) _ _, _, h => by simp [cOfV] at h
  | .pointer (some _), _, h | .map (some _), _, h | .chan _, _, h | .func _ _ _, _, h | .iface _ _, _, h | .agg _, _, h | .tuple _, _, h => by simp [cOfV] at h

theorem cOfVs_ok : ∀ {vs : List Value} {cs : List CV}, cOfVs vs = some cs → VRl w F ι cs vs
  | [], _, h => by simp only [cOfVs, Option.some.injEq] at h; subst h; simp [VRl]
  | v :: vs, _, h => by
    simp only [cOfVs, Option.bind_eq_some_iff, Option.map_eq_some_iff] at h
    obtain ⟨c, h1, l, h2, rfl⟩ := h
    simp only [VRl]
    exact ⟨v, vs, rfl, cOfV_ok h1, cOfVs_ok h2⟩

theorem cOfA_ok {v : Value} {c : CV} (h : cOfA v = some c) : VR w F ι c v := by
  unfold cOfA at h
  split at h
  · simp only [Option.map_eq_some_iff] at h
    obtain ⟨l, h1, rfl⟩ := h
    simp only [VR]
    exact ⟨_, rfl, cOfVs_ok h1⟩
  · exact cOfV_ok h

theorem opd_ok (he : EnvR w F ι env a) {x : Operand} {y : Opd} (h : opd x = some y) : VR w F ι (ev env y) (a.eval x) := by
  cases x with
  | tmp t => simp only [opd, Option.some.injEq] at h; subst h; exact he t
  | const v =>
    simp only [opd, Option.map_eq_some_iff] at h
    obtain ⟨c, h1, rfl⟩ := h
    exact cOfA_ok h1
  | func f =>
    simp only [opd, Option.some.injEq] at h; subst h
    simp only [ev, Act.eval, VR]
    exact ⟨#[], #[], rfl, rfl, rfl⟩
  | global g => simp [opd] at h

theorem opds_ok (he : EnvR w F ι env a) : ∀ {xs : List Operand} {ys : List Opd}, opds xs = some ys → VRl w F ι (evs env ys) (xs.map a.eval)
  | [], _, h => by simp only [opds, Option.some.injEq] at h; subst h; simp [VRl, evs]
  | x :: xs, _, h => by
    simp only [opds, Option.bind_eq_some_iff, Option.map_eq_some_iff] at h
    obtain ⟨y, h1, l, h2, rfl⟩ := h
    simp only [VRl, evs, List.map_cons]
    exact ⟨_, _, rfl, opd_ok he h1, opds_ok he h2⟩

theorem opds1 {x : Operand} {ys : List Opd} (h : opds [x] = some ys) : ∃ y, opd x = some y ∧ ys = [y] := by
  simp only [opds, Option.bind_eq_some_iff, Option.map_eq_some_iff, Option.some.injEq] at h
  obtain ⟨y, h1, l, rfl, rfl⟩ := h
  exact ⟨y, h1, rfl⟩

theorem opds2 {x z : Operand} {ys : List Opd} (h : opds [x, z] = some ys) : ∃ y u, opd x = some y ∧ opd z = some u ∧ ys = [y, u] := by
  simp only [opds, Option.bind_eq_some_iff, Option.map_eq_some_iff, Option.some.injEq] at h
  obtain ⟨y, h1, l, ⟨u, h2, m, rfl, rfl⟩, rfl⟩ := h
  exact ⟨y, u, h1, h2, rfl⟩

theorem opds3 {x z q : Operand} {ys : List Opd} (h : opds [x, z, q] = some ys) : ∃ y u v, opd x = some y ∧ opd z = some u ∧ opd q = some v ∧ ys = [y, u, v] := by
  simp only [opds, Option.bind_eq_some_iff, Option.map_eq_some_iff, Option.some.injEq] at h
  obtain ⟨y, h1, l, ⟨u, h2, m, ⟨v, h3, n, rfl, rfl⟩, rfl⟩, rfl⟩ := h
  exact ⟨y, u, v, h1, h2, h3, rfl⟩

/-! ### Shapes of values -/

theorem VR.int {k : IntKind} {n : Int} {v : Value} (h : VR w F ι (.int k n) v) : v = .int k n := by simpa [VR, BR] using h
theorem VR.bool {b : Bool} {v : Value} (h : VR w F ι (.bool b) v) : v = .bool b := by simpa [VR, BR] using h
theorem VR.float {k : FloatKind} {n : Nat} {v : Value} (h : VR w F ι (.float k n) v) : v = .float k n := by simpa [VR, BR] using h
theorem VR.cplx {k : FloatKind} {n m : Nat} {v : Value} (h : VR w F ι (.cplx k n m) v) : v = .complex k n m := by simpa [VR, BR] using h
theorem VR.str {s : ByteArray} {v : Value} (h : VR w F ι (.str s) v) : v = .string s := by simpa [VR, BR] using h

theorem vr_int (k : IntKind) (n : Int) : VR w F ι (.int k n) (.int k n) := by simp [VR, BR]
theorem vr_bool (b : Bool) : VR w F ι (.bool b) (.bool b) := by simp [VR, BR]
theorem vr_float (k : FloatKind) (n : Nat) : VR w F ι (.float k n) (.float k n) := by simp [VR, BR]
theorem vr_cplx (k : FloatKind) (n m : Nat) : VR w F ι (.cplx k n m) (.complex k n m) := by simp [VR, BR]
theorem vr_str (s : ByteArray) : VR w F ι (.str s) (.string s) := by simp [VR, BR]

theorem addr_add (b o n : Nat) : (⟨b, o, none⟩ : Addr).add n = ⟨b, o + n, none⟩ := by unfold Addr.add; split <;> simp_all

theorem BRc.drop {w : World} {F : Nat → Prop} : ∀ (n : Nat) {cs : List CV} {b o : Nat}, BRc w F cs b o → BRc w F (cs.drop n) b (o + n)
  | 0, _, _, _, h => by simpa using h
  | n + 1, [], _, _, _ => by simp [BRc]
  | n + 1, c :: cs, b, o, h => by
    simp only [BRc] at h
    have := BRc.drop n h.2
    simpa [show o + 1 + n = o + (n + 1) by omega] using this

theorem BRc.take {w : World} {F : Nat → Prop} : ∀ (n : Nat) {cs : List CV} {b o : Nat}, BRc w F cs b o → BRc w F (cs.take n) b o
  | 0, _, _, _, _ => by simp [BRc]
  | n + 1, [], _, _, _ => by simp [BRc]
  | n + 1, c :: cs, b, o, h => by
    simp only [BRc, List.take_succ_cons] at h ⊢
    exact ⟨h.1, BRc.take n h.2⟩

theorem BRc.get {w : World} {F : Nat → Prop} : ∀ {cs : List CV} {b o : Nat}, BRc w F cs b o → ∀ (j : Nat) (c : CV), cs[j]? = some c → ∃ u, w.cell? ⟨b, o + j, none⟩ = some u ∧ BR w F c u
  | [], _, _, _, j, c, e => by simp at e
  | c :: cs, b, o, h, j, x, e => by
    simp only [BRc] at h
    cases j with
    | zero => simp at e; subst e; simpa using h.1
    | succ j =>
      have := BRc.get h.2 j x (by simpa using e)
      simpa [show o + 1 + j = o + (j + 1) by omega] using this

/-! ### Running in the model -/

theorem run_under {t : TypeId} {d : TypeDesc} (h : P.underlying t = some d) : (underlying t).run P w = .ok d w := by simp [underlying, h]

theorem run_sizeOf' {t : TypeId} {n : Nat} (h : szOf P t = some n) : (sizeOf t).run P w = .ok n w := by
  simp only [szOf, Option.map_eq_some_iff] at h
  obtain ⟨i, h1, h2⟩ := h
  simp [sizeOf, typeInfo, h1, h2]

theorem run_isAgg' {t : TypeId} {b : Bool} (h : isAggT P t = some b) : (isAgg t).run P w = .ok b w := by
  unfold isAggT at h
  split at h <;> (try cases h) <;> simp_all [isAgg, underlying]
  all_goals (split <;> simp_all)

theorem shapeOf_ok {t : TypeId} {s : Bool × Nat} (h : shapeOf P t = some s) : isAggT P t = some s.1 ∧ szOf P t = some s.2 ∧ (s.1 = false → s.2 = 1) := by
  unfold shapeOf at h
  split at h <;> (try cases h) <;> simp_all

theorem run_part' {t : TypeId} {s : Bool × Nat} (hs : shapeOf P t = some s) {cs : List CV} {vs : Array Value} (h : VRl w F ι cs vs.toList) {off : Nat} {c : CV}
    (hp : partC s.1 s.2 off cs = some c) : ∃ v, (part t vs off).run P w = .ok v w ∧ VR w F ι c v := by
  obtain ⟨h1, h2, h3⟩ := shapeOf_ok hs
  cases hb : s.1 with
  | true =>
    rw [hb] at h1
    simp only [partC, hb, if_true, Option.some.injEq] at hp
    subst hp
    refine ⟨.agg (vs.extract off (off + s.2)), by simp [part, run_isAgg' h1, run_sizeOf' h2], ?_⟩
    simp only [VR]
    refine ⟨_, rfl, ?_⟩
    have := (h.drop off).take s.2
    simpa [List.extract_eq_take_drop] using this
  | false =>
    rw [hb] at h1
    simp only [partC, hb, Bool.false_eq_true, if_false] at hp
    obtain ⟨u, h4, h5⟩ := h.get _ _ hp
    have h4' : vs[off]? = some u := by simpa using h4
    exact ⟨u, by simp [part, run_isAgg' h1, h4'], h5⟩

end
end Go.Zc
