/- '==' and '!=', arithmetic: the model does what the interpreter does. No condition. -/
import Derived.Test.YtfblegjbmhgepaaZcPure
set_option linter.all false
namespace Go.Zc

section
variable {P : Program} {w : World} {F : Nat → Prop} {ι : IM}

theorem VR.agg {cs : List CV} {v : Value} (h : VR w F ι (.agg cs) v) : ∃ vs, v = .agg vs ∧ VRl w F ι cs vs.toList := by simpa only [VR] using h

theorem eqFs_ok {n : Nat} {f : TypeId → Option EqT} (ih : ∀ (t : TypeId) (e : EqT), f t = some e → ∀ (x y : CV) (u v : Value) (b : Bool), eqC e x y = some b → VR w F ι x u → VR w F ι y v → (Op.equalIn n t u v).run P w = .ok b w)
    {cs ds : List CV} {xs ys : Array Value} (hx : VRl w F ι cs xs.toList) (hy : VRl w F ι ds ys.toList) :
    ∀ (fs : List Field) (l : List (Nat × Bool × Nat × EqT)), eqFs P f fs = some l → ∀ b, eqCs l cs ds = some b →
      Sem.run P (forIn (m := Sem) fs ((none : Option Bool), ()) fun f __s =>
            if f.name = "_" then pure (ForInStep.yield (none, ()))
            else do
              let __do_lift ← part f.type xs f.offset
              let __do_lift_1 ← part f.type ys f.offset
              let __do_lift ← Op.equalIn n f.type __do_lift __do_lift_1
              if __do_lift = false then pure (ForInStep.done (some false, ())) else pure (ForInStep.yield (none, ()))) w = .ok (if b then none else some false, ()) w
  | [], l, hl, b, hb => by
    simp only [eqFs, Option.some.injEq] at hl; subst hl
    simp only [eqCs, Option.some.injEq] at hb; subst hb
    simp
  | fd :: r, l, hl, b, hb => by
    simp only [eqFs] at hl
    split at hl
    · cases hl
    · rename_i hname
      split at hl
      · rename_i s e hs he
        simp only [Option.map_eq_some_iff] at hl
        obtain ⟨l', hl', rfl⟩ := hl
        simp only [eqCs] at hb
        split at hb
        · rename_i p q hp hq
          obtain ⟨u, hu, hpu⟩ := run_part' (P := P) hs hx hp
          obtain ⟨v, hv, hqv⟩ := run_part' (P := P) hs hy hq
          cases hc : eqC e p q with
          | none => simp [hc] at hb
          | some c =>
            have h1 := ih _ _ he _ _ _ _ _ hc hpu hqv
            cases c with
            | true =>
              simp only [hc] at hb
              have h2 := eqFs_ok ih hx hy r l' hl' b hb
              simp only [List.forIn_cons, if_neg hname, Sem.run_bind, hu, hv, h1, Result.andThen_ok, Bool.true_eq_false, if_false, Sem.run_pure]
              exact h2
            | false =>
              simp only [hc, Option.some.injEq] at hb
              subst hb
              simp only [List.forIn_cons, if_neg hname, Sem.run_bind, hu, hv, h1, Result.andThen_ok, if_true, Sem.run_pure, Bool.false_eq_true, if_false]
        · cases hb
      · cases hl

theorem eqC_ok : ∀ (d : Nat) (t : TypeId) (e : EqT), eqT P d t = some e → ∀ (n : Nat), d ≤ n → ∀ (x y : CV) (u v : Value) (b : Bool), eqC e x y = some b → VR w F ι x u → VR w F ι y v →
    (Op.equalIn n t u v).run P w = .ok b w
  | 0, t, e, he, _, _, _, _, _, _, _, _, _, _ => by simp [eqT] at he
  | d + 1, t, e, he, n, hn, x, y, u, v, b, hb, hu, hv => by
    obtain ⟨n, rfl⟩ : ∃ m, n = m + 1 := ⟨n - 1, by omega⟩
    unfold eqT at he
    split at he
    · rename_i ht
      cases he
      simp only [eqC] at hb
      split at hb
      · cases hb; rw [hu.bool, hv.bool]; simp [Op.equalIn, run_under ht]
      · cases hb
    · rename_i k ht
      cases he
      simp only [eqC] at hb
      split at hb
      · split at hb
        · rename_i hk'
          cases hb
          rw [hu.int, hv.int]
          simp [Op.equalIn, run_under ht, hk']
        · cases hb
      · cases hb
    · rename_i e' ht
      cases he
      simp only [eqC] at hb
      split at hb <;> (try cases hb) <;> simp only [VR, BR] at hu hv
      · subst hu; subst hv; simp [Op.equalIn, run_under ht]
      · subst hu; obtain ⟨_, _, rfl⟩ := hv; simp [Op.equalIn, run_under ht]
      · subst hu; obtain ⟨_, _, rfl, _⟩ := hv; simp [Op.equalIn, run_under ht]
      · subst hv; obtain ⟨_, _, rfl⟩ := hu; simp [Op.equalIn, run_under ht]
      · subst hv; obtain ⟨_, _, rfl, _⟩ := hu; simp [Op.equalIn, run_under ht]
    · rename_i e' ht
      cases he
      simp only [eqC] at hb
      split at hb <;> (try cases hb) <;> simp only [VR, BR] at hu hv
      · subst hu; subst hv; simp [Op.equalIn, run_under ht]
      · subst hu; obtain ⟨_, _, rfl, _, h3⟩ := hv
        rcases h3 with h3 | ⟨_, _, rfl, _⟩
        · cases h3
        · simp [Op.equalIn, run_under ht]
      · subst hv; obtain ⟨_, _, rfl, _, h3⟩ := hu
        rcases h3 with h3 | ⟨_, _, rfl, _⟩
        · cases h3
        · simp [Op.equalIn, run_under ht]
    · rename_i k' e' ht
      cases he
      simp only [eqC] at hb
      split at hb <;> (try cases hb) <;> simp only [VR, BR] at hu hv
      · subst hu; subst hv; simp [Op.equalIn, run_under ht]
      · subst hu; obtain ⟨_, _, rfl⟩ := hv; simp [Op.equalIn, run_under ht]
      · subst hv; obtain ⟨_, _, rfl⟩ := hu; simp [Op.equalIn, run_under ht]
    · rename_i ht
      cases he
      simp only [eqC] at hb
      split at hb <;> (try cases hb) <;> simp only [VR, BR] at hu hv
      · subst hu; subst hv; simp [Op.equalIn, run_under ht]
      · subst hu; obtain ⟨_, _, rfl, _⟩ := hv; simp [Op.equalIn, run_under ht]
      · subst hv; obtain ⟨_, _, rfl, _⟩ := hu; simp [Op.equalIn, run_under ht]
    · rename_i fs ht
      split at he
      · cases he
      · rename_i hno
        simp only [Option.map_eq_some_iff] at he
        obtain ⟨l, hl, rfl⟩ := he
        simp only [eqC] at hb
        split at hb <;> (try cases hb)
        obtain ⟨us, rfl, hus⟩ := hu.agg
        obtain ⟨vs, rfl, hvs⟩ := hv.agg
        have hst : P.stoodInHeld t = false := by
          cases h : P.stoodInHeld t <;> simp_all
        have := eqFs_ok (P := P) (n := n) (f := eqT P d) (fun t e he x y u v b hb hu hv => eqC_ok d t e he n (by omega) x y u v b hb hu hv) hus hvs fs.toList l hl b hb
        simp only [Op.equalIn, Sem.run_bind, run_under ht, Result.andThen_ok, run_program, hst]
        simp only [Bool.false_eq_true, if_false]
        rw [← Array.forIn_toList]
        simp only [ne_eq, ite_not, Bool.not_eq_eq_eq_not, Bool.not_true]
        rw [Sem.run_bind, this]
        cases b <;> simp
    · cases he

theorem eqGuard_other {op : BinOp} {t : TypeId} {x y : Operand} {a b : Value} (h : ∀ p q, a = .agg p → b = .agg q → P.eqGuardType P.depth t = false)
    (h2 : a ≠ .nilIface ∨ b ≠ .nilIface) : (eqGuard op t x y a b).run P w = .ok () w := by
  unfold eqGuard
  cases op <;> simp only [Bool.not_true, Bool.not_false, Bool.false_eq_true, if_true, if_false, Sem.run_pure] <;> 
  · split
    · simp at h2
    · rename_i p q
      simp [h p q rfl rfl]
    · rfl

theorem intBin_ok {op : BinOp} {e : EqT} {t : TypeId} {k k' : IntKind} {a b : Int} {c : CV}
    (h : binC op e (.int k a) (.int k' b) = some c) : ∃ v, (binOp op t (.int k a) (.int k' b)).run P w = .ok v w ∧ VR w F ι c v := by
  unfold binC at h
  cases op <;> simp only [shiftBin, intBin] at h
  case shl | shr =>
    split at h
    · cases h
    · rename_i hb
      cases h
      exact ⟨_, by simp [binOp, Op.shift, hb], vr_int _ _⟩
  case quo | rem =>
    split at h
    · rename_i hk
      split at h
      · cases h
      · rename_i hb
        cases h
        exact ⟨_, by simp [binOp, Op.intDiv, hk, hb], vr_int _ _⟩
    · cases h
  case add | sub | mul =>
    split at h
    · rename_i hk
      subst hk
      cases h
      refine ⟨_, ?_, vr_int _ _⟩
      simp [binOp, Op.intArith]
    · cases h
  case and | or | xor | andNot =>
    split at h
    · rename_i hk
      subst hk
      cases h
      refine ⟨_, ?_, vr_int _ _⟩
      simp [binOp, Op.intBits]
    · cases h
  all_goals
    split at h
    · rename_i hk
      subst hk
      cases h
      refine ⟨_, ?_, vr_bool _⟩
      simp [binOp, Op.intCmp]
    · cases h

theorem fArith_ok {op : BinOp} {k : FloatKind} {x y z : Nat} (h : fArith op k x y = some z) : (Op.floatArith op k x y).run P w = .ok (.float k z) w := by
  cases op <;> simp only [fArith] at h <;> (try cases h) <;> simp [Op.floatArith, h]

theorem fCmp_ok {op : BinOp} {k : FloatKind} {x y : Nat} {z : Bool} (h : fCmp op k x y = some z) : (Op.floatCmp op k x y).run P w = .ok (.bool z) w := by
  cases op <;> simp only [fCmp] at h <;> (try cases h) <;> simp [Op.floatCmp]

theorem floatBin_ok {op : BinOp} {e : EqT} {t : TypeId} {k k' : FloatKind} {a b : Nat} {c : CV}
    (h : binC op e (.float k a) (.float k' b) = some c) : ∃ v, (binOp op t (.float k a) (.float k' b)).run P w = .ok v w ∧ VR w F ι c v := by
  unfold binC at h
  simp only at h
  split at h
  · rename_i hk
    subst hk
    cases op <;> simp only [floatBin, Option.map_eq_some_iff] at h <;> obtain ⟨z, hz, rfl⟩ := h
    case add | sub | mul | quo => exact ⟨_, by simp [binOp, fArith_ok hz], vr_float _ _⟩
    case rem | and | or | xor | shl | shr | andNot => simp [fCmp] at hz
    all_goals
      refine ⟨_, ?_, vr_bool _⟩
      simp only [binOp, ne_eq, not_true_eq_false, if_false]
      exact fCmp_ok hz
  · cases h

theorem cplx_arith {op : BinOp} {k : FloatKind} {x y z : Nat} (h : fArith op k x y = some z) : (Op.Complex.arith op k x y).run P w = .ok z w := by
  simp [Op.Complex.arith, fArith_ok h]

theorem cplx_cmp {op : BinOp} {k : FloatKind} {x y : Nat} {z : Bool} (h : fCmp op k x y = some z) : (Op.Complex.cmp op k x y).run P w = .ok z w := by
  simp [Op.Complex.cmp, fCmp_ok h, asBool]

theorem quoC_ok {a b c d : Nat} {x : Nat × Nat} (h : quoC a b c d = some x) : (Op.Complex.quotient a b c d).run P w = .ok x w := by
  unfold quoC at h
  unfold Op.Complex.quotient
  generalize Op.Complex.isNaN = N at *
  generalize Op.Complex.isInf = I at *
  generalize Op.Complex.isFinite = U at *
  generalize Op.Complex.copysign = S at *
  generalize Op.Complex.inf2one = O at *
  generalize Op.Complex.abs = B at *
  generalize Op.Complex.inf = J at *
  generalize Op.Complex.corrected = K at *
  obtain ⟨g, hg, h⟩ := Option.bind_eq_some_iff.1 h
  obtain ⟨⟨e, f⟩, hy, h⟩ := Option.bind_eq_some_iff.1 h
  have he : ∀ x y : Nat, (Op.Complex.cmp .eql .f64 x y).run P w = .ok (FloatKind.f64.format.order x y == some .eq) w := fun x y => cplx_cmp rfl
  cases hq : (N e && N f) with
  | true => simp only [hq, cond_true] at h; cases h
  | false =>
    simp only [hq, cond_false, Option.some.injEq] at h
    subst h
    have hn : (!(N e && N f)) = true := by rw [hq]; rfl
    simp only [Op.Complex.mul, Op.Complex.sub, Op.Complex.add, Op.Complex.quo]
    cases g with
    | true =>
      simp only [cond_true, Option.bind_eq_some_iff, Option.map_eq_some_iff, Prod.mk.injEq] at hy
      obtain ⟨r, h1, rd, h2, dn, h3, br, h4, n1, h5, e', h6, ar, h7, n2, h8, f', h9, rfl, rfl⟩ := hy
      rw [Sem.run_bind, cplx_cmp hg]
      simp only [Result.andThen_ok, if_true, Sem.run_bind, cplx_arith h1, cplx_arith h2, cplx_arith h3, cplx_arith h4, cplx_arith h5, cplx_arith h6, cplx_arith h7, cplx_arith h8, cplx_arith h9, Sem.run_pure, he]
      rw [if_pos hn, Sem.run_pure]
    | false =>
      simp only [cond_false, Option.bind_eq_some_iff, Option.map_eq_some_iff, Prod.mk.injEq] at hy
      obtain ⟨r, h1, rd, h2, dn, h3, br, h4, n1, h5, e', h6, ar, h7, n2, h8, f', h9, rfl, rfl⟩ := hy
      rw [Sem.run_bind, cplx_cmp hg]
      simp only [Result.andThen_ok, Bool.false_eq_true, if_false, Sem.run_bind, cplx_arith h1, cplx_arith h2, cplx_arith h3, cplx_arith h4, cplx_arith h5, cplx_arith h6, cplx_arith h7, cplx_arith h8, cplx_arith h9, Sem.run_pure, he]
      rw [if_pos hn, Sem.run_pure]

theorem cplxBin_ok {op : BinOp} {e : EqT} {t : TypeId} {k k' : FloatKind} {a b c d : Nat} {x : CV}
    (h : binC op e (.cplx k a b) (.cplx k' c d) = some x) : ∃ v, (binOp op t (.complex k a b) (.complex k' c d)).run P w = .ok v w ∧ VR w F ι x v := by
  unfold binC at h
  simp only at h
  split at h
  · rename_i hk
    subst hk
    unfold cplxBin at h
    split at h
    · simp only [Option.bind_eq_some_iff, Option.map_eq_some_iff] at h
      obtain ⟨p, hp, q, hq, rfl⟩ := h
      exact ⟨_, by simp [binOp, Op.complexOp, cplx_arith hp, cplx_arith hq], vr_cplx _ _ _⟩
    · simp only [Option.bind_eq_some_iff, Option.map_eq_some_iff] at h
      obtain ⟨p, hp, q, hq, rfl⟩ := h
      exact ⟨_, by simp [binOp, Op.complexOp, cplx_arith hp, cplx_arith hq], vr_cplx _ _ _⟩
    · simp only [Option.bind_eq_some_iff, Option.map_eq_some_iff] at h
      obtain ⟨ac, h1, bd, h2, p, h3, ad, h4, bc, h5, q, h6, rfl⟩ := h
      refine ⟨_, ?_, vr_cplx _ _ _⟩
      simp [binOp, Op.complexOp, Op.Complex.conv, Op.Complex.product, Op.Complex.mul, Op.Complex.sub, Op.Complex.add, cplx_arith h1, cplx_arith h2, cplx_arith h3, cplx_arith h4, cplx_arith h5, cplx_arith h6]
    · simp only [Option.map_eq_some_iff] at h
      obtain ⟨⟨p, q⟩, h1, rfl⟩ := h
      refine ⟨_, ?_, vr_cplx _ _ _⟩
      simp [binOp, Op.complexOp, Op.Complex.conv, quoC_ok h1]
    · cases h
      refine ⟨_, ?_, vr_bool _⟩
      simp [binOp, Op.complexOp, Op.Complex.cmp, Op.floatCmp, asBool]
    · cases h
      refine ⟨_, ?_, vr_bool _⟩
      simp [binOp, Op.complexOp, Op.Complex.cmp, Op.floatCmp, asBool]
    · cases h
  · cases h

theorem strBin_ok {op : BinOp} {e : EqT} {t : TypeId} {a b : ByteArray} {x : CV}
    (h : binC op e (.str a) (.str b) = some x) : ∃ v, (binOp op t (.string a) (.string b)).run P w = .ok v w ∧ VR w F ι x v := by
  unfold binC at h
  simp only at h
  cases op <;> simp only [strBin] at h <;> (try cases h)
  · split at h
    · cases h
    · rename_i hb
      cases h
      exact ⟨_, by simp only [binOp, Op.stringOp]; rw [if_neg hb]; rfl, vr_str _⟩
  · exact ⟨_, by simp [binOp, Op.stringOp], vr_bool _⟩
  · exact ⟨_, by simp [binOp, Op.stringOp], vr_bool _⟩
end
end Go.Zc
