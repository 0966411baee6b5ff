/- Each operation that looks at its operands alone, the others, and all at once. No condition. -/
import Derived.Test.YtmkdhpjidhbijaaZcPop
set_option linter.all false
namespace Go.Zc

section
variable {P : Program} {w : World} {F : Nat → Prop} {ι : IM} {env : Env} {a : Act}

theorem VR.not_iface {c : CV} {v : Value} (h : VR w F ι c v) (hc : c ≠ .nili) (hu : c ≠ .und) : v ≠ .nilIface := by
  intro e
  subst e
  cases c <;> simp_all [VR, BR]

theorem VR.not_agg {c : CV} {v : Value} (h : VR w F ι c v) (hc : ∀ l, c ≠ .agg l) (hu : c ≠ .und) : ∀ l, v ≠ .agg l := by
  intro l e
  subst e
  cases c <;> simp_all [VR, BR]

/-- '==' of what is no number and no string. -/
theorem eqBin_ok {o : Oper} {op : BinOp} {t yt : TypeId} {x y : Operand} (ho : o.op = .binOp op t x y yt) (hop : op = .eql ∨ op = .neq) {e : EqT} (he : eqT P 20 t = some e) {p q : CV} {b : Bool}
    (hb : eqC e p q = some b) (hp : VR w F ι p (a.eval x)) (hq : VR w F ι q (a.eval y))
    (hpq : binC op e p q = some (.bool (if op = .eql then b else !b))) : POk P w F ι a o (.bool (if op = .eql then b else !b)) := by
  have heq := eqC_ok 20 t e he Op.maxDepth (by unfold Op.maxDepth; omega) p q _ _ b hb hp hq
  refine ⟨.bool (if op = .eql then b else !b), ?_, vr_bool _⟩
  have hpu : p ≠ .und := by rintro rfl; cases e <;> simp [eqC] at hb
  have hqu : q ≠ .und := by rintro rfl; cases e <;> simp [eqC] at hb
  have hpi : p ≠ .nili := by rintro rfl; cases e <;> simp [eqC] at hb
  have hg : (eqGuard op t x y (a.eval x) (a.eval y)).run P w = .ok () w := by
    refine eqGuard_other (fun l m h1 h2 => ?_) (.inl (hp.not_iface hpi hpu))
    -- a struct type that asks no guard
    unfold eqT at he
    split at he <;> (try cases he)
    · simp only [eqC] at hb
      split at hb <;> (try cases hb)
      rw [hp.bool] at h1; cases h1
    · simp only [eqC] at hb
      split at hb <;> (try cases hb)
      rw [hp.int] at h1; cases h1
    · simp only [eqC] at hb
      split at hb <;> (try cases hb) <;> simp_all [VR, BR]
    · simp only [eqC] at hb
      split at hb <;> (try cases hb) <;> simp_all [VR, BR]
    · simp only [eqC] at hb
      split at hb <;> (try cases hb) <;> simp_all [VR, BR]
    · simp only [eqC] at hb
      split at hb <;> (try cases hb) <;> simp_all [VR, BR]
    · split at he
      · cases he
      · rename_i hno
        cases h : P.eqGuardType P.depth t <;> simp_all
  simp only [execOp, ho, Sem.run_bind, hg, Result.andThen_ok]
  have hbin : (binOp op t (a.eval x) (a.eval y)).run P w = .ok (.bool (if op = .eql then b else !b)) w := by
    have hi : ∀ k n, p ≠ .int k n ∨ (e = .int) := by
      intro k n
      cases e <;> simp [eqC] at hb ⊢ <;> (rintro rfl; simp at hb)
    by_cases hint : ∃ k n, p = .int k n
    · obtain ⟨k, n, rfl⟩ := hint
      have he' : e = .int := (hi k n).resolve_left (by simp)
      subst he'
      simp only [eqC] at hb
      split at hb
      · rename_i k1 a1 k2 b1 hh1
        cases hh1
        split at hb
        · rename_i hk
          subst hk
          cases hb
          rw [hp.int, hq.int]
          rcases hop with rfl | rfl <;> simp [binOp, Op.intCmp, bne]
        · cases hb
      · cases hb
    · have hne : ∀ k n, a.eval x ≠ .int k n := by
        intro k n h
        rw [h] at hp
        cases p <;> simp_all [VR, BR]
      have hnf : ∀ k n, a.eval x ≠ .float k n := by
        intro k n h
        rw [h] at hp
        cases p <;> simp_all [VR, BR]
        cases e <;> simp [eqC] at hb
      have hnc : ∀ k n m, a.eval x ≠ .complex k n m := by
        intro k n m h
        rw [h] at hp
        cases p <;> simp_all [VR, BR]
        cases e <;> simp [eqC] at hb
      have hns : ∀ s, a.eval x ≠ .string s := by
        intro s h
        rw [h] at hp
        cases p <;> simp_all [VR, BR]
        cases e <;> simp [eqC] at hb
      rcases hop with rfl | rfl
      · unfold binOp
        split <;> simp_all [Op.equal]
      · unfold binOp
        split <;> simp_all [Op.equal]
  rw [hbin]
  simp

theorem bin_ok {o : Oper} {op : BinOp} {t yt : TypeId} {x y : Operand} (ho : o.op = .binOp op t x y yt) {e : EqT} {p q c : CV}
    (he : (op = .eql ∨ op = .neq) → e = (eqT P 20 t).getD .ifc) (hp : VR w F ι p (a.eval x)) (hq : VR w F ι q (a.eval y)) (h : binC op e p q = some c) : POk P w F ι a o c := by
  have lift : ∀ {v : Value}, (binOp op t (a.eval x) (a.eval y)).run P w = .ok v w → VR w F ι c v → (∀ l, a.eval x ≠ .agg l) → a.eval x ≠ .nilIface → POk P w F ι a o c := by
    intro v h1 h2 h3 h4
    refine ⟨v, ?_, h2⟩
    have hg : (eqGuard op t x y (a.eval x) (a.eval y)).run P w = .ok () w := eqGuard_other (fun l m h1 _ => (h3 l h1).elim) (.inl h4)
    simp only [execOp, ho, Sem.run_bind, hg, Result.andThen_ok, h1, Sem.run_pure]
  by_cases hi : ∃ k n k' n', p = .int k n ∧ q = .int k' n'
  · obtain ⟨k, n, k', n', rfl, rfl⟩ := hi
    obtain ⟨v, h1, h2⟩ := intBin_ok (P := P) (w := w) (F := F) (ι := ι) (t := t) h
    rw [← hp.int, ← hq.int] at h1
    exact lift h1 h2 (by rw [hp.int]; simp) (by rw [hp.int]; simp)
  by_cases hf : ∃ k n k' n', p = .float k n ∧ q = .float k' n'
  · obtain ⟨k, n, k', n', rfl, rfl⟩ := hf
    obtain ⟨v, h1, h2⟩ := floatBin_ok (P := P) (w := w) (F := F) (ι := ι) (t := t) h
    rw [← hp.float, ← hq.float] at h1
    exact lift h1 h2 (by rw [hp.float]; simp) (by rw [hp.float]; simp)
  by_cases hc : ∃ k n m k' n' m', p = .cplx k n m ∧ q = .cplx k' n' m'
  · obtain ⟨k, n, m, k', n', m', rfl, rfl⟩ := hc
    obtain ⟨v, h1, h2⟩ := cplxBin_ok (P := P) (w := w) (F := F) (ι := ι) (t := t) h
    rw [← hp.cplx, ← hq.cplx] at h1
    exact lift h1 h2 (by rw [hp.cplx]; simp) (by rw [hp.cplx]; simp)
  by_cases hs : ∃ s s', p = .str s ∧ q = .str s'
  · obtain ⟨s, s', rfl, rfl⟩ := hs
    obtain ⟨v, h1, h2⟩ := strBin_ok (P := P) (w := w) (F := F) (ι := ι) (t := t) h
    rw [← hp.str, ← hq.str] at h1
    exact lift h1 h2 (by rw [hp.str]; simp) (by rw [hp.str]; simp)
  have hb : ∃ b, eqC e p q = some b ∧ c = .bool (if op = .eql then b else !b) ∧ (op = .eql ∨ op = .neq) := by
    unfold binC at h
    split at h
    · exact (hi ⟨_, _, _, _, rfl, rfl⟩).elim
    · exact (hf ⟨_, _, _, _, rfl, rfl⟩).elim
    · exact (hc ⟨_, _, _, _, _, _, rfl, rfl⟩).elim
    · exact (hs ⟨_, _, rfl, rfl⟩).elim
    · cases op <;> simp only [Option.map_eq_some_iff, reduceCtorEq] at h
      · obtain ⟨b, h1, rfl⟩ := h; exact ⟨b, h1, by simp, by simp⟩
      · obtain ⟨b, h1, rfl⟩ := h; exact ⟨b, h1, by simp, by simp⟩
  obtain ⟨b, h1, rfl, hop⟩ := hb
  cases het : eqT P 20 t with
  | none =>
    rw [he hop, het] at h1
    simp [eqC] at h1
  | some e' =>
    have : e = e' := by rw [he hop, het]; rfl
    subst this
    exact eqBin_ok ho hop het h1 hp hq h

theorem un_ok {o : Oper} {op : UnOp} {t : TypeId} {x : Operand} (ho : o.op = .unOp op t x) {p c : CV} (hp : VR w F ι p (a.eval x)) (h : unC op p = some c) : POk P w F ι a o c := by
  unfold unC at h
  split at h <;> (try cases h)
  · exact ⟨_, by simp [execOp, ho, hp.int, Op.unary, Op.intArith], vr_int _ _⟩
  · exact ⟨_, by simp [execOp, ho, hp.int, Op.unary, Op.intBits], vr_int _ _⟩
  · exact ⟨_, by simp [execOp, ho, hp.float, Op.unary], vr_float _ _⟩
  · exact ⟨_, by simp [execOp, ho, hp.cplx, Op.unary], vr_cplx _ _ _⟩
  · exact ⟨_, by simp [execOp, ho, hp.bool, Op.unary], vr_bool _⟩

theorem toInt_ok {o : Oper} {s t : TypeId} {x : Operand} {k : IntKind} {d : TypeDesc} (ho : o.op = .convert s t x) (hs : P.underlying s = some d) (ht : P.underlying t = some (.int k)) {p c : CV}
    (hp : VR w F ι p (a.eval x)) (h : toIntC k p = some c) : POk P w F ι a o c := by
  unfold toIntC at h
  split at h <;> (try cases h)
  · exact ⟨_, by simp [execOp, ho, convert, run_under hs, run_under ht, hp.int, Conv.intToInt], vr_int _ _⟩
  · split at h
    · rename_i n hn
      split at h
      · rename_i hb
        cases h
        exact ⟨_, by simp [execOp, ho, convert, run_under hs, run_under ht, hp.float, Conv.floatToInt, hn, hb], vr_int _ _⟩
      · cases h
    · cases h

theorem toFloat_ok {o : Oper} {s t : TypeId} {x : Operand} {k : FloatKind} {d : TypeDesc} (ho : o.op = .convert s t x) (hs : P.underlying s = some d) (ht : P.underlying t = some (.float k)) {p c : CV}
    (hp : VR w F ι p (a.eval x)) (h : toFloatC k p = some c) : POk P w F ι a o c := by
  unfold toFloatC at h
  split at h <;> (try cases h)
  exact ⟨_, by simp [execOp, ho, convert, run_under hs, run_under ht, hp.int, Conv.intToFloat], vr_float _ _⟩

theorem mkif_ok {o : Oper} {t : TypeId} {x : Operand} {d : TypeDesc} (ho : o.op = .makeInterface t x) (ht : P.underlying t = some d) (hd : ∀ m, d ≠ .interface m) {p : CV} (hp : VR w F ι p (a.eval x)) :
    POk P w F ι a o (.ifc t p) := by
  refine ⟨.iface t (a.eval x), ?_, by simp only [VR]; exact ⟨_, rfl, hp⟩⟩
  simp only [execOp, ho, Instr.makeInterface, Sem.run_bind, run_under ht, Result.andThen_ok]
  cases d <;> simp_all

theorem faddr_ok {o : Oper} {s : TypeId} {x : Operand} {f : Nat} {fs : Array Field} {fd : Field} {n : Nat} (ho : o.op = .fieldAddr s x f) (hs : P.underlying s = some (.struct fs)) (hf : fs[f]? = some fd)
    (hn : szOf P fd.type = some (n + 1)) {p c : CV} (hp : VR w F ι p (a.eval x)) (h : faddrC fd.offset p = some c) : POk P w F ι a o c := by
  unfold faddrC at h
  split at h <;> (try cases h)
  · rename_i i off
    simp only [VR] at hp
    obtain ⟨b, h1, h2⟩ := hp
    refine ⟨.pointer (some ⟨b, off + fd.offset, none⟩), ?_, by simp only [VR]; exact ⟨b, h1, rfl⟩⟩
    simp [execOp, ho, Instr.fieldAt, run_under hs, hf, h2, Instr.sureAddr, fieldPlace, run_sizeOf' hn, addr_add]
  · rename_i cs
    simp only [VR, BR] at hp
    obtain ⟨b, off, h2, h3, h4⟩ := hp
    refine ⟨.pointer (some ⟨b, off + fd.offset, none⟩), ?_, by simp only [VR, BR]; exact ⟨b, _, rfl, h3, h4.drop _⟩⟩
    simp [execOp, ho, Instr.fieldAt, run_under hs, hf, h2, Instr.sureAddr, fieldPlace, run_sizeOf' hn, addr_add]

theorem fld_ok {o : Oper} {s : TypeId} {x : Operand} {f : Nat} {fs : Array Field} {fd : Field} {sh : Bool × Nat} (ho : o.op = .field s x f) (hs : P.underlying s = some (.struct fs)) (hf : fs[f]? = some fd)
    (hn : shapeOf P fd.type = some sh) {p c : CV} (hp : VR w F ι p (a.eval x)) (h : fldC sh.1 sh.2 fd.offset p = some c) : POk P w F ι a o c := by
  unfold fldC at h
  split at h <;> (try cases h)
  obtain ⟨vs, h1, h2⟩ := hp.agg
  obtain ⟨v, h3, h4⟩ := run_part' (P := P) hn h2 h
  exact ⟨v, by simp [execOp, ho, Instr.field, run_under hs, hf, h1, asAgg, h3], h4⟩

theorem iaddr_ok {o : Oper} {t e : TypeId} {x i : Operand} {n : Nat} (ho : o.op = .indexAddr t x i) (ht : P.underlying t = some (.slice e)) (hn : szOf P e = some n) {p q c : CV}
    (hp : VR w F ι p (a.eval x)) (hq : VR w F ι q (a.eval i)) (h : iaddrC n p q = some c) : POk P w F ι a o c := by
  unfold iaddrC at h
  split at h <;> (try cases h)
  rename_i k m
  unfold iaddrN at h
  split at h <;> (try cases h)
  · rename_i s id off len
    split at h
    · rename_i hb
      obtain ⟨rfl, hb1, hb2⟩ := hb
      cases h
      simp only [VR] at hp
      obtain ⟨base, cap, h1, h2, h3⟩ := hp
      rcases h3 with h3 | ⟨b, sz, h3, rfl, _, _⟩
      · omega
      · refine ⟨.pointer (some ⟨b, off + m.toNat * s, none⟩), ?_, by simp only [VR]; exact ⟨b, h3, rfl⟩⟩
        simp [execOp, ho, Instr.indexAt, hq.int, asIntOf, run_under ht, h1, hb1, hb2, run_sizeOf' hn, addr_add]
    · cases h
  · rename_i cs len
    split at h
    · rename_i hb
      obtain ⟨hb1, hb2, hb3⟩ := hb
      cases h
      simp only [VR, BR] at hp
      obtain ⟨base, cap, h1, h2, h3⟩ := hp
      rcases h3 with h3 | ⟨b, off, rfl, h4, h5⟩
      · exact (hb3 h3).elim
      · refine ⟨.pointer (some ⟨b, off + m.toNat * n, none⟩), ?_, by simp only [VR, BR]; exact ⟨b, _, rfl, h4, h5.drop _⟩⟩
        simp [execOp, ho, Instr.indexAt, hq.int, asIntOf, run_under ht, h1, hb1, hb2, run_sizeOf' hn, addr_add]
    · cases h

theorem iaddrA_ok {o : Oper} {t e : TypeId} {x i : Operand} {n len : Nat} (ho : o.op = .indexAddr t x i) (ht : P.underlying t = some (.array len e)) (hn : szOf P e = some n) {p q c : CV}
    (hp : VR w F ι p (a.eval x)) (hq : VR w F ι q (a.eval i)) (h : iaddrAC len n p q = some c) : POk P w F ι a o c := by
  unfold iaddrAC at h
  split at h <;> (try cases h)
  rename_i k m
  split at h <;> (try cases h)
  rename_i hb
  obtain ⟨hb1, hb2⟩ := hb
  unfold faddrC at h
  split at h <;> (try cases h)
  · rename_i id off
    simp only [VR] at hp
    obtain ⟨b, h1, h2⟩ := hp
    refine ⟨.pointer (some ⟨b, off + m.toNat * n, none⟩), ?_, by simp only [VR]; exact ⟨b, h1, rfl⟩⟩
    simp [execOp, ho, Instr.indexAt, hq.int, asIntOf, run_under ht, h2, Instr.sureAddr, hb1, hb2, run_sizeOf' hn, addr_add]
  · rename_i cs
    simp only [VR, BR] at hp
    obtain ⟨b, off, h2, h3, h4⟩ := hp
    refine ⟨.pointer (some ⟨b, off + m.toNat * n, none⟩), ?_, by simp only [VR, BR]; exact ⟨b, _, rfl, h3, h4.drop _⟩⟩
    simp [execOp, ho, Instr.indexAt, hq.int, asIntOf, run_under ht, h2, Instr.sureAddr, hb1, hb2, run_sizeOf' hn, addr_add]

theorem idxA_ok {o : Oper} {t e : TypeId} {x i : Operand} {len : Nat} {sh : Bool × Nat} (ho : o.op = .index t x i) (ht : P.underlying t = some (.array len e)) (hn : shapeOf P e = some sh) {p q c : CV}
    (hp : VR w F ι p (a.eval x)) (hq : VR w F ι q (a.eval i)) (h : idxAC len sh.1 sh.2 p q = some c) : POk P w F ι a o c := by
  unfold idxAC at h
  split at h <;> (try cases h)
  rename_i k m
  split at h <;> (try cases h)
  rename_i hb
  obtain ⟨hb1, hb2⟩ := hb
  unfold fldC at h
  split at h <;> (try cases h)
  obtain ⟨vs, h1, h2⟩ := hp.agg
  obtain ⟨_, hsz, _⟩ := shapeOf_ok hn
  obtain ⟨v, h3, h4⟩ := run_part' (P := P) hn h2 h
  exact ⟨v, by simp [execOp, ho, Instr.index, hq.int, asIntOf, run_under ht, h1, hb1, hb2, run_sizeOf' hsz, h3], h4⟩

theorem idxS_ok {o : Oper} {t : TypeId} {x i : Operand} (ho : o.op = .index t x i) (ht : P.underlying t = some .string) {p q c : CV}
    (hp : VR w F ι p (a.eval x)) (hq : VR w F ι q (a.eval i)) (h : idxSC p q = some c) : POk P w F ι a o c := by
  unfold idxSC at h
  split at h <;> (try cases h)
  rename_i k m
  unfold idxSN at h
  split at h <;> (try cases h)
  split at h <;> (try cases h)
  rename_i hb
  simp only [Option.map_eq_some_iff] at h
  obtain ⟨b, h1, rfl⟩ := h
  exact ⟨_, by simp [execOp, ho, Instr.index, hq.int, asIntOf, run_under ht, hp.str, hb, h1], vr_int _ _⟩

theorem ext_ok {o : Oper} {x : Operand} {i : Nat} (ho : o.op = .extract x i) {p c : CV} (hp : VR w F ι p (a.eval x)) (h : extC i p = some c) : POk P w F ι a o c := by
  unfold extC at h
  split at h <;> (try cases h)
  obtain ⟨vs, h1, h2⟩ := hp.tup
  obtain ⟨v, h3, h4⟩ := h2.get _ _ h
  have h3' : vs[i]? = some v := by simpa using h3
  exact ⟨v, by simp [execOp, ho, Instr.extract, h1, h3'], h4⟩

end
end Go.Zc
