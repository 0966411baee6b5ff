/- Running code whose text is known, by rewriting: one step a statement. No condition. -/
import Derived.Test.YtfblegjbmhgepaaZcTab
set_option linter.all false
namespace Go.Zc

/-! ### What stands where -/

theorem at_hit (r : Env) (t : Nat) (v : CV) : Env.at ((t, v) :: r) t = v := by
  simp [Env.at, look]
theorem at_miss (r : Env) {s t : Nat} (v : CV) (h : s ≠ t) : Env.at ((s, v) :: r) t = Env.at r t := by
  have : Nat.beq s t = false := by
    rw [← Bool.not_eq_true, Nat.beq_eq]; exact h
  simp [Env.at, look, this]

theorem ev_t (env : Env) (n : Nat) : ev env (.t n) = Env.at env n := (rfl)
theorem ev_c (env : Env) (v : CV) : ev env (.c v) = v := (rfl)
theorem putD_some (env : Env) (d : Nat) (v : CV) : putD env (some d) v = (d, v) :: env := (rfl)
theorem putD_none (env : Env) (v : CV) : putD env none v = env := (rfl)
theorem keep_nil (env : Env) : keep env [] = [] := (rfl)
theorem keep_cons (env : Env) (t : Nat) (r : List Nat) : keep env (t :: r) = (t, Env.at env t) :: keep env r := (rfl)

/-! ### Statements -/

/-- The rest, behind a statement. -/
noncomputable def restE (C : Ctx) (d : Option Nat) (r : List CStm) (env : Env) (x : CV × Heap) : Option (Env × Heap) := runOps (call C) r (putD env d x.1) x.2
/-- Where a guard stands. -/
noncomputable def guardE (C : Ctx) (want : Bool) (s : CStm) (r : List CStm) (env : Env) (H : Heap) (g : CV) : Option (Env × Heap) :=
  match gvC g with
  | some c => if c = some want then runOps (call C) ({ s with guard := none } :: r) env H else runOps (call C) r (putD env s.dst (.tup [])) H
  | none => none

section
variable (C : Ctx) (env : Env) (H : Heap)
theorem restE_mk (d : Option Nat) (r : List CStm) (v : CV) : restE C d r env (v, H) = runOps (call C) r (putD env d v) H := (rfl)
theorem runOps_nil : runOps (call C) [] env H = some (env, H) := (rfl)
theorem runOps_p (d : Option Nat) (o : POp) (as : List Opd) (r : List CStm) : runOps (call C) (⟨d, .p o, as, none⟩ :: r) env H = ((pureOp o (evs env as)).map fun v => (v, H)).bind (restE C d r env) := (rfl)
theorem runOps_mov (d : Nat) (a : Opd) (r : List CStm) : runOps (call C) (⟨some d, .p .mov, [a], none⟩ :: r) env H = runOps (call C) r ((d, ev env a) :: env) H := (rfl)
theorem runOps_h (d : Option Nat) (o : HOp) (as : List Opd) (r : List CStm) : runOps (call C) (⟨d, .h o, as, none⟩ :: r) env H = (heapOp o (evs env as) H).bind (restE C d r env) := (rfl)
theorem runOps_hb (d : Option Nat) (o : HOp) (as : List Opd) (r : List CStm) : runOps (call C) (⟨d, .hb o, as, none⟩ :: r) env H = (runOp (call C) (.hb o) (evs env as) H).bind (restE C d r env) := (rfl)
theorem runOps_hl (d : Option Nat) (s : Nat) (o : HOp) (as : List Opd) (r : List CStm) : runOps (call C) (⟨d, .hl s o, as, none⟩ :: r) env H = (runOp (call C) (.hl s o) (evs env as) H).bind (restE C d r env) := (rfl)
theorem runOps_call (d : Option Nat) (f : Opd) (as : List Opd) (r : List CStm) : runOps (call C) (⟨d, .call, f :: as, none⟩ :: r) env H = (call C (ev env f) (evs env as) H).bind (restE C d r env) := (rfl)
theorem runOps_callb (d : Option Nat) (f : Opd) (as : List Opd) (r : List CStm) : runOps (call C) (⟨d, .callb, f :: as, none⟩ :: r) env H = ((call C (ev env f) (evs env as) ⟨[], H.bl⟩).map fun x => (x.1, (⟨H.bx, x.2.bl⟩ : Heap))).bind (restE C d r env) := (rfl)
theorem runOps_callp (d : Option Nat) (f : Opd) (as : List Opd) (r : List CStm) : runOps (call C) (⟨d, .callp, f :: as, none⟩ :: r) env H = ((call C (ev env f) (evs env as) ⟨[], H.bl⟩).bind fun x => if isPre H.bl x.2.bl then some (x.1, (⟨H.bx, x.2.bl⟩ : Heap)) else none).bind (restE C d r env) := (rfl)
theorem runOps_callv (d : Option Nat) (f : Opd) (as : List Opd) (r : List CStm) : runOps (call C) (⟨d, .callv, f :: as, none⟩ :: r) env H = (if CV.refs (ev env f :: evs env as) then none else (call C (ev env f) (evs env as) ⟨[], []⟩).map fun x => (x.1, H)).bind (restE C d r env) := (rfl)
theorem runOps_guard (d : Option Nat) (o : COp) (as : List Opd) (g : Nat) (want : Bool) (r : List CStm) : runOps (call C) (⟨d, o, as, some (g, want)⟩ :: r) env H = guardE C want ⟨d, o, as, none⟩ r env H (Env.at env g) := (rfl)
theorem guardE_bool (want : Bool) (s : CStm) (r : List CStm) (b : Bool) : guardE C want s r env H (.bool b) = if b = want then runOps (call C) ({ s with guard := none } :: r) env H else runOps (call C) r (putD env s.dst (.tup [])) H := by
  simp only [guardE, gvC, Option.some.injEq]
theorem guardE_skip (want : Bool) (s : CStm) (r : List CStm) : guardE C want s r env H (.tup []) = runOps (call C) r (putD env s.dst (.tup [])) H := by
  simp [guardE, gvC]

theorem map_bind_some {α β γ : Type} (v : α) (f : α → β) (g : β → Option γ) : ((some v).map f).bind g = g (f v) := (rfl)
theorem bind_some' {α β : Type} (v : α) (g : α → Option β) : (some v).bind g = g v := (rfl)
theorem bind_none' {α β : Type} (g : α → Option β) : (none : Option α).bind g = none := (rfl)
theorem map_some' {α β : Type} (v : α) (g : α → β) : (some v).map g = some (g v) := (rfl)
theorem map_none' {α β : Type} (g : α → β) : (none : Option α).map g = none := (rfl)

/-- Behind statements. -/
def normE (x : Env × Heap) : Ex × Env × Heap := (.norm, x.1, x.2)
theorem eval_ops' (l : List CStm) : eval C (.ops l) env H = (runOps (call C) l env H).map normE := eval_ops C env H l
theorem normE_mk : normE (env, H) = (.norm, env, H) := (rfl)
theorem thenE_norm (b : CCode) : thenE C b (.norm, env, H) = eval C b env H := (rfl)
theorem thenE_exit (b : CCode) (k : Nat) : thenE C b (.exit k, env, H) = some (.exit k, env, H) := (rfl)
theorem thenE_ret (b : CCode) : thenE C b (.ret, env, H) = some (.ret, env, H) := (rfl)
theorem outE_norm (id : Nat) (lo : Option (List Nat)) : outE id lo (.norm, env, H) = joinE lo env H := (rfl)
theorem outE_ret (id : Nat) (lo : Option (List Nat)) : outE id lo (.ret, env, H) = some (.ret, env, H) := (rfl)
theorem outE_exit (id k : Nat) (lo : Option (List Nat)) : outE id lo (.exit k, env, H) = if k = id then joinE lo env H else some (.exit k, env, H) := (rfl)
theorem condE_bool (b : Bool) (x y : Out) : condE (.bool b) x y = if b then x else y := (rfl)

/-- Behind a keep. -/
def exitE (x : Env × Heap) : Ex × Env × Heap := (.norm, x.1, x.2)
theorem joinE_none : joinE none env H = some (.norm, env, H) := (rfl)
theorem joinE_some (l : List Nat) : joinE (some l) env H = (keepE l env H).map normE := (rfl)
/-- Into a round. -/
noncomputable def intoE (C : Ctx) (id : Nat) (li lo : List Nat) (c : CCode) (x : Env × Heap) : Out := (eval C c x.1 x.2).bind (roundE C id li lo c)
theorem eval_bloop' (id : Nat) (li lo : List Nat) (c : CCode) : eval C (.bloop id li lo c) env H = (keepE li env H).bind (intoE C id li lo c) := eval_bloop C env H id li lo c
theorem intoE_mk (id : Nat) (li lo : List Nat) (c : CCode) : intoE C id li lo c (env, H) = (eval C c env H).bind (roundE C id li lo c) := (rfl)
theorem roundE_norm (id : Nat) (li lo : List Nat) (c : CCode) : roundE C id li lo c (.norm, env, H) = eval C (.bloop id li lo c) env H := (rfl)
theorem roundE_ret (id : Nat) (li lo : List Nat) (c : CCode) : roundE C id li lo c (.ret, env, H) = some (.ret, env, H) := (rfl)
theorem roundE_exit (id k : Nat) (li lo : List Nat) (c : CCode) : roundE C id li lo c (.exit k, env, H) = if k = id then (keepE lo env H).map normE else some (.exit k, env, H) := (rfl)
end

theorem bind_ite {α β : Type} (c : Prop) [Decidable c] (a b : Option α) (f : α → Option β) : (if c then a else b).bind f = if c then a.bind f else b.bind f := by split <;> rfl
theorem map_ite {α β : Type} (c : Prop) [Decidable c] (a b : Option α) (f : α → β) : (if c then a else b).map f = if c then a.map f else b.map f := by split <;> rfl

/-! ### Slices by value -/

/-- A frozen slice, row by row. -/
def sl {α : Type} (f : α → List CV) (l : List α) : CV := .vs (l.flatMap f) l.length

section
variable {α : Type} (f : α → List CV) (l : List α)
theorem lenC_sl : lenC (sl f l) = some (.int .i64 l.length) := (rfl)
theorem locv_sl : (sl f l).locv = false := (rfl)
theorem ref_sl : (sl f l).ref = false := (rfl)
theorem und_sl : (sl f l).und? = false := (rfl)
theorem one_sl : (sl f l).one = true := (rfl)
theorem cells_sl : (sl f l).cells = [sl f l] := (rfl)
theorem isSl_sl : isSl (sl f l) = true := (rfl)
theorem lenOf_sl : lenOf (sl f l) = l.length := (rfl)
theorem snapV_sl (H : Heap) (kn : Bool) (g : CV → Option CV) : snapV H false kn g (sl f l) = some (sl f l) := (rfl)
end

theorem flatMap_len {α : Type} {f : α → List CV} {sz : Nat} (hf : ∀ x, (f x).length = sz) : ∀ l : List α, (l.flatMap f).length = l.length * sz
  | [] => by simp
  | a :: l => by simp only [List.flatMap_cons, List.length_append, hf, flatMap_len hf l, List.length_cons, Nat.add_mul]; omega

theorem flatMap_drop {α : Type} {f : α → List CV} {sz : Nat} (hf : ∀ x, (f x).length = sz) : ∀ (l : List α) (i : Nat), (l.flatMap f).drop (i * sz) = (l.drop i).flatMap f
  | l, 0 => by simp
  | [], i + 1 => by simp
  | a :: l, i + 1 => by
    simp only [List.flatMap_cons, List.drop_succ_cons]
    rw [show (i + 1) * sz = (f a).length + i * sz by rw [hf, Nat.add_mul]; omega, List.drop_append]
    rw [List.drop_eq_nil_of_le (by omega), List.nil_append, show (f a).length + i * sz - (f a).length = i * sz by omega]
    exact flatMap_drop hf l i

theorem flatMap_take {α : Type} {f : α → List CV} {sz : Nat} (hf : ∀ x, (f x).length = sz) : ∀ (l : List α) (i : Nat), (l.flatMap f).take (i * sz) = (l.take i).flatMap f
  | l, 0 => by simp
  | [], i + 1 => by simp
  | a :: l, i + 1 => by
    simp only [List.flatMap_cons, List.take_succ_cons]
    rw [show (i + 1) * sz = (f a).length + i * sz by rw [hf, Nat.add_mul]; omega, List.take_append]
    rw [List.take_of_length_le (by omega), show (f a).length + i * sz - (f a).length = i * sz by omega, flatMap_take hf l i]

theorem iaddr_sl {α : Type} {f : α → List CV} {sz : Nat} (hf : ∀ x, (f x).length = sz) (hp : 0 < sz) {l : List α} {k : IntKind} {i : Nat} (h : i < l.length) :
    iaddrC sz (sl f l) (.int k i) = some (.vp (f l[i] ++ (l.drop (i + 1)).flatMap f)) := by
  have h1 : (l.flatMap f) ≠ [] := by
    intro h0
    have := flatMap_len hf l
    rw [h0, List.length_nil] at this
    have : 0 < l.length * sz := Nat.mul_pos (by omega) hp
    omega
  unfold iaddrC iaddrN sl
  simp only [Int.toNat_natCast]
  rw [if_pos ⟨by omega, by omega, h1⟩, flatMap_drop hf, List.drop_eq_getElem_cons h, List.flatMap_cons]

theorem iaddr_sl' {α : Type} {f : α → List CV} {sz : Nat} (hf : ∀ x, (f x).length = sz) (hp : 0 < sz) {l : List α} {k : IntKind} {i : Int} (h0 : 0 ≤ i) (h : i < l.length) :
    iaddrC sz (sl f l) (.int k i) = some (.vp (f (l[i.toNat]'(by omega)) ++ (l.drop (i.toNat + 1)).flatMap f)) := by
  obtain ⟨n, rfl⟩ := Int.eq_ofNat_of_zero_le h0
  exact iaddr_sl hf hp (by omega)

theorem shown_sl {α : Type} {f : α → List CV} {sz : Nat} (hf : ∀ x, (f x).length = sz) (H : Heap) (l : List α) : shown H sz (sl f l) = some (l.flatMap f) := by
  exact if_pos (flatMap_len hf l)

/-! ### Cells one by one -/

def takeN : Nat → List CV → Option (List CV)
  | 0, _ => some []
  | _ + 1, [] => none
  | n + 1, c :: cs => (takeN n cs).map (c :: ·)

theorem takeN_eq : ∀ (n : Nat) (cs : List CV), takeN n cs = if n ≤ cs.length then some (cs.take n) else none
  | 0, cs => by simp [takeN]
  | n + 1, [] => by simp [takeN]
  | n + 1, c :: cs => by
    simp only [takeN, takeN_eq n cs, List.length_cons, Nat.add_le_add_iff_right, List.take_succ_cons]
    split <;> rfl

theorem load_vp_t (n : Nat) (H : Heap) (cs : List CV) : loadC true n H (.vp cs) = (takeN n cs).map .agg := by
  simp only [loadC, partC, takeN_eq, List.drop_zero, if_true]
  split <;> rfl
theorem load_vp_f (H : Heap) (c : CV) (r : List CV) : loadC false 1 H (.vp (c :: r)) = some c := by simp [loadC, partC]

/-- Out of a block's cells. -/
def ldE (agg : Bool) (n off : Nat) (cs : List CV) : Option CV := if off + n ≤ cs.length then partC agg n off cs else none
theorem load_op (agg : Bool) (n : Nat) (H : Heap) (i : Id) (off : Nat) : loadC agg n H (.op i off) = (H.get i).bind (ldE agg n off) := (rfl)
theorem ldE_t {n : Nat} (off : Nat) (cs : List CV) (h0 : 0 < n) : ldE true n off cs = (takeN n (cs.drop off)).map .agg := by
  simp only [ldE, partC, takeN_eq, List.length_drop, if_true]
  split
  · rename_i h
    split
    · rfl
    · omega
  · rename_i h
    split
    · omega
    · rfl
def headO : List CV → Option CV
  | [] => none
  | c :: _ => some c
theorem ldE_f (off : Nat) (cs : List CV) : ldE false 1 off cs = headO (cs.drop off) := by
  simp only [ldE, partC, Bool.false_eq_true, if_false]
  split
  · rename_i h
    rw [List.drop_eq_getElem_cons (by omega), List.getElem?_eq_getElem (by omega)]
    rfl
  · rename_i h
    rw [List.drop_eq_nil_of_le (by omega)]
    rfl
theorem headO_cons (c : CV) (r : List CV) : headO (c :: r) = some c := (rfl)

theorem faddr_vp (off : Nat) (cs : List CV) : faddrC off (.vp cs) = some (.vp (cs.drop off)) := (rfl)
theorem faddr_op (off : Nat) (i : Id) (o : Nat) : faddrC off (.op i o) = some (.op i (o + off)) := (rfl)

theorem get_loc (bx : List (Nat × List CV)) (bl : List Blk) (s : Nat) : Heap.get ⟨bx, bl⟩ (.loc s) = look bx s := (rfl)
theorem get_blk (bx : List (Nat × List CV)) (bl : List Blk) (n : Nat) (cs : List CV) (h : bl[n]? = some (.cells cs)) : Heap.get ⟨bx, bl⟩ (.blk n) = some cs := by simp [Heap.get, h]
theorem get_b0 (bx : List (Nat × List CV)) (bl : List Blk) (cs : List CV) : Heap.get ⟨bx, .cells cs :: bl⟩ (.blk 0) = some cs := (rfl)
theorem get_b1 (bx : List (Nat × List CV)) (bl : List Blk) (b : Blk) (cs : List CV) : Heap.get ⟨bx, b :: .cells cs :: bl⟩ (.blk 1) = some cs := (rfl)
theorem get_b2 (bx : List (Nat × List CV)) (bl : List Blk) (b b' : Blk) (cs : List CV) : Heap.get ⟨bx, b :: b' :: .cells cs :: bl⟩ (.blk 2) = some cs := (rfl)
theorem look_hit {α : Type} (r : List (Nat × α)) (t : Nat) (v : α) : look ((t, v) :: r) t = some v := by simp [look]
theorem look_miss {α : Type} (r : List (Nat × α)) {s t : Nat} (v : α) (h : s ≠ t) : look ((s, v) :: r) t = look r t := by
  have : Nat.beq s t = false := by
    rw [← Bool.not_eq_true, Nat.beq_eq]; exact h
  simp [look, this]
theorem look_nil {α : Type} (t : Nat) : look ([] : List (Nat × α)) t = none := (rfl)

theorem setBx_hit (r : List (Nat × List CV)) (t : Nat) (v cs : List CV) : setBx ((t, v) :: r) t cs = (t, cs) :: r := by simp [setBx]
theorem setBx_miss (r : List (Nat × List CV)) {s t : Nat} (v cs : List CV) (h : s ≠ t) : setBx ((s, v) :: r) t cs = (s, v) :: setBx r t cs := by
  have : Nat.beq s t = false := by
    rw [← Bool.not_eq_true, Nat.beq_eq]; exact h
  simp [setBx, this]
theorem setBx_nil (t : Nat) (cs : List CV) : setBx [] t cs = [(t, cs)] := (rfl)

/-! ### Each kind of value -/
theorem one_int (k : IntKind) (n : Int) : CV.one (.int k n) = true := (rfl)
theorem und_int (k : IntKind) (n : Int) : CV.und? (.int k n) = false := (rfl)
theorem cells_int (k : IntKind) (n : Int) : CV.cells (.int k n) = [.int k n] := (rfl)
theorem one_bool (b : Bool) : CV.one (.bool b) = true := (rfl)
theorem und_bool (b : Bool) : CV.und? (.bool b) = false := (rfl)
theorem cells_bool (b : Bool) : CV.cells (.bool b) = [.bool b] := (rfl)
theorem one_op (i : Id) (o : Nat) : CV.one (.op i o) = true := (rfl)
theorem und_op (i : Id) (o : Nat) : CV.und? (.op i o) = false := (rfl)
theorem cells_op (i : Id) (o : Nat) : CV.cells (.op i o) = [.op i o] := (rfl)
theorem one_vp (cs : List CV) : CV.one (.vp cs) = true := (rfl)
theorem und_vp (cs : List CV) : CV.und? (.vp cs) = false := (rfl)
theorem cells_vp (cs : List CV) : CV.cells (.vp cs) = [.vp cs] := (rfl)
theorem one_vs (cs : List CV) (n : Nat) : CV.one (.vs cs n) = true := (rfl)
theorem und_vs (cs : List CV) (n : Nat) : CV.und? (.vs cs n) = false := (rfl)
theorem cells_vs (cs : List CV) (n : Nat) : CV.cells (.vs cs n) = [.vs cs n] := (rfl)
theorem one_os (z : Nat) (i : Id) (o n : Nat) : CV.one (.os z i o n) = true := (rfl)
theorem und_os (z : Nat) (i : Id) (o n : Nat) : CV.und? (.os z i o n) = false := (rfl)
theorem cells_os (z : Nat) (i : Id) (o n : Nat) : CV.cells (.os z i o n) = [.os z i o n] := (rfl)
theorem one_om (n : Nat) : CV.one (.om n) = true := (rfl)
theorem und_om (n : Nat) : CV.und? (.om n) = false := (rfl)
theorem cells_om (n : Nat) : CV.cells (.om n) = [.om n] := (rfl)
theorem one_nils : CV.one (.nils) = true := (rfl)
theorem und_nils : CV.und? (.nils) = false := (rfl)
theorem cells_nils : CV.cells (.nils) = [.nils] := (rfl)
theorem one_nilp : CV.one (.nilp) = true := (rfl)
theorem und_nilp : CV.und? (.nilp) = false := (rfl)
theorem cells_nilp : CV.cells (.nilp) = [.nilp] := (rfl)
theorem one_nilm : CV.one (.nilm) = true := (rfl)
theorem und_nilm : CV.und? (.nilm) = false := (rfl)
theorem cells_nilm : CV.cells (.nilm) = [.nilm] := (rfl)
theorem one_nilf : CV.one (.nilf) = true := (rfl)
theorem und_nilf : CV.und? (.nilf) = false := (rfl)
theorem cells_nilf : CV.cells (.nilf) = [.nilf] := (rfl)
theorem one_nili : CV.one (.nili) = true := (rfl)
theorem und_nili : CV.und? (.nili) = false := (rfl)
theorem cells_nili : CV.cells (.nili) = [.nili] := (rfl)
theorem one_float (k : FloatKind) (n : Nat) : CV.one (.float k n) = true := (rfl)
theorem und_float (k : FloatKind) (n : Nat) : CV.und? (.float k n) = false := (rfl)
theorem cells_float (k : FloatKind) (n : Nat) : CV.cells (.float k n) = [.float k n] := (rfl)
theorem one_cplx (k : FloatKind) (n m : Nat) : CV.one (.cplx k n m) = true := (rfl)
theorem und_cplx (k : FloatKind) (n m : Nat) : CV.und? (.cplx k n m) = false := (rfl)
theorem cells_cplx (k : FloatKind) (n m : Nat) : CV.cells (.cplx k n m) = [.cplx k n m] := (rfl)
theorem one_str (s : ByteArray) : CV.one (.str s) = true := (rfl)
theorem und_str (s : ByteArray) : CV.und? (.str s) = false := (rfl)
theorem cells_str (s : ByteArray) : CV.cells (.str s) = [.str s] := (rfl)
theorem one_fn (f : Fn) (a b : List CV) : CV.one (.fn f a b) = true := (rfl)
theorem und_fn (f : Fn) (a b : List CV) : CV.und? (.fn f a b) = false := (rfl)
theorem cells_fn (f : Fn) (a b : List CV) : CV.cells (.fn f a b) = [.fn f a b] := (rfl)
theorem one_ifc (t : TypeId) (v : CV) : CV.one (.ifc t v) = true := (rfl)
theorem und_ifc (t : TypeId) (v : CV) : CV.und? (.ifc t v) = false := (rfl)
theorem cells_ifc (t : TypeId) (v : CV) : CV.cells (.ifc t v) = [.ifc t v] := (rfl)
theorem cells_agg (cs : List CV) : CV.cells (.agg cs) = cs := (rfl)
theorem und_agg (cs : List CV) : CV.und? (.agg cs) = false := (rfl)
theorem loc_loc (s : Nat) : Id.loc? (.loc s) = true := (rfl)
theorem loc_blk (s : Nat) : Id.loc? (.blk s) = false := (rfl)
theorem lenOf_vs (cs : List CV) (n : Nat) : lenOf (.vs cs n) = n := (rfl)
theorem lenOf_os (z : Nat) (i : Id) (o n : Nat) : lenOf (.os z i o n) = n := (rfl)
theorem lenOf_nils : lenOf .nils = 0 := (rfl)
theorem isSl_vs (cs : List CV) (n : Nat) : isSl (.vs cs n) = true := (rfl)
theorem isSl_os (z : Nat) (i : Id) (o n : Nat) : isSl (.os z i o n) = true := (rfl)
theorem isSl_nils : isSl .nils = true := (rfl)

/-! ### What is asked of values -/

theorem chkV_sl {α : Type} (l : List Nat) (f : α → List CV) (x : List α) : chkV l (sl f x) = true := (rfl)
theorem chkV_int (l : List Nat) (k : IntKind) (n : Int) : chkV l (.int k n) = true := (rfl)
theorem chkV_bool (l : List Nat) (b : Bool) : chkV l (.bool b) = true := (rfl)
theorem chkV_loc (l : List Nat) (s o : Nat) : chkV l (.op (.loc s) o) = l.contains s := (rfl)
theorem chkV_blk (l : List Nat) (s o : Nat) : chkV l (.op (.blk s) o) = true := (rfl)
theorem chkV_agg (l : List Nat) (cs : List CV) : chkV l (.agg cs) = !CV.locs cs := (rfl)
theorem chkV_tup (l : List Nat) (cs : List CV) : chkV l (.tup cs) = !CV.locs cs := (rfl)
theorem chkV_vp (l : List Nat) (cs : List CV) : chkV l (.vp cs) = true := (rfl)
theorem chkV_vs (l : List Nat) (cs : List CV) (n : Nat) : chkV l (.vs cs n) = true := (rfl)
theorem chkV_os (l : List Nat) (z : Nat) (i : Id) (o n : Nat) : chkV l (.os z i o n) = !i.loc? := (rfl)
theorem chkV_om (l : List Nat) (n : Nat) : chkV l (.om n) = true := (rfl)
theorem chkV_und (l : List Nat) : chkV l .und = true := (rfl)
theorem chkV_nils (l : List Nat) : chkV l .nils = true := (rfl)
theorem chkV_nilp (l : List Nat) : chkV l .nilp = true := (rfl)
theorem chkV_nilm (l : List Nat) : chkV l .nilm = true := (rfl)
theorem chkV_nilf (l : List Nat) : chkV l .nilf = true := (rfl)
theorem chkV_nili (l : List Nat) : chkV l .nili = true := (rfl)
theorem chkV_float (l : List Nat) (k : FloatKind) (n : Nat) : chkV l (.float k n) = true := (rfl)
theorem chkV_cplx (l : List Nat) (k : FloatKind) (n m : Nat) : chkV l (.cplx k n m) = true := (rfl)
theorem chkV_str (l : List Nat) (s : ByteArray) : chkV l (.str s) = true := (rfl)
theorem chkV_fn (l : List Nat) (f : Fn) (a b : List CV) : chkV l (.fn f a b) = !(CV.locs a || CV.locs b) := (rfl)

theorem snap_eq (H : Heap) (st kn : Bool) (v : CV) : snap H st kn v = snapV H st kn (snapN H st kn 7) v := (rfl)
theorem snapN_succ (H : Heap) (st kn : Bool) (n : Nat) (v : CV) : snapN H st kn (n + 1) v = snapV H st kn (snapN H st kn n) v := (rfl)
theorem mapC_nil (f : CV → Option CV) : mapC f [] = some [] := (rfl)
theorem snapL_nil (H : Heap) (st kn : Bool) : snapL H st kn [] = some [] := (rfl)

/-- Behind the first of some. -/
def consO (o : Option (List CV)) (c : CV) : Option (List CV) := o.map (c :: ·)
theorem consO_some (l : List CV) (c : CV) : consO (some l) c = some (c :: l) := (rfl)
theorem mapC_cons (f : CV → Option CV) (c : CV) (cs : List CV) : mapC f (c :: cs) = (f c).bind (consO (mapC f cs)) := (rfl)
theorem snapL_cons (H : Heap) (st kn : Bool) (c : CV) (cs : List CV) : snapL H st kn (c :: cs) = (snap H st kn c).bind (consO (snapL H st kn cs)) := (rfl)
section
variable (H : Heap) (st kn : Bool) (f : CV → Option CV)
theorem snapV_int (k : IntKind) (n : Int) : snapV H st kn f (.int k n) = some (.int k n) := (rfl)
theorem snapV_bool (b : Bool) : snapV H st kn f (.bool b) = some (.bool b) := (rfl)
theorem snapV_str (b : ByteArray) : snapV H st kn f (.str b) = some (.str b) := (rfl)
theorem snapV_cplx (k : FloatKind) (a b : Nat) : snapV H st kn f (.cplx k a b) = some (.cplx k a b) := (rfl)
theorem snapV_float (k : FloatKind) (a : Nat) : snapV H st kn f (.float k a) = some (.float k a) := (rfl)
theorem snapV_nilp : snapV H st kn f .nilp = some .nilp := (rfl)
theorem snapV_nils : snapV H st false f .nils = some (.vs [] 0) := (rfl)
theorem snapV_nilsk : snapV H st true f .nils = some .nils := (rfl)
theorem snapV_vp (cs : List CV) : snapV H false kn f (.vp cs) = some (.vp cs) := (rfl)
theorem snapV_vs (cs : List CV) (n : Nat) : snapV H false kn f (.vs cs n) = some (.vs cs n) := (rfl)
theorem snapVs_nil : snapVs H st kn f [] = some [] := (rfl)
theorem snapVs_cons (c : CV) (cs : List CV) : snapVs H st kn f (c :: cs) = (snapV H st kn f c).bind (consO (snapVs H st kn f cs)) := (rfl)
theorem snapV_agg (cs : List CV) : snapV H st kn f (.agg cs) = (snapVs H st kn f cs).map .agg := (rfl)
theorem snapV_tup (cs : List CV) : snapV H st kn f (.tup cs) = (snapVs H st kn f cs).map .tup := (rfl)
/-- A pointer's cells. -/
def snapP (f : CV → Option CV) (off : Nat) (cs : List CV) : Option CV := if off ≤ cs.length then (mapC f (cs.drop off)).map .vp else none
theorem snapV_op (i : Id) (off : Nat) : snapV H st kn f (.op i off) = (H.get i).bind (snapP f off) := (rfl)
theorem snapP_eq (off : Nat) (cs : List CV) : snapP f off cs = if off ≤ cs.length then (mapC f (cs.drop off)).map .vp else none := (rfl)
/-- Behind the bound ones. -/
def fnO (g : Fn) (a : List CV) (o : Option (List CV)) : Option CV := o.map fun c => .fn g a c
theorem snapV_fn (g : Fn) (c : List CV) : snapV H st kn f (.fn g [] c) = fnO g [] (snapVs H st kn f c) := (rfl)
theorem fnO_some (g : Fn) (a c : List CV) : fnO g a (some c) = some (.fn g a c) := (rfl)
end
theorem sl_nil {α : Type} (f : α → List CV) : CV.vs [] 0 = sl f [] := (rfl)

/-! ### Results -/
/-- Behind the first result. -/
theorem resAll_nil (env : Env) (H : Heap) : resAll env H [] = some [] := (rfl)
theorem resAll_cons (env : Env) (H : Heap) (r : Res) (rs : List Res) : resAll env H (r :: rs) = (resOne env H r).bind (consO (resAll env H rs)) := (rfl)
theorem resOne_tmp (env : Env) (H : Heap) (t : Nat) : resOne env H (.tmp t) = some (Env.at env t) := (rfl)
theorem resOne_cell (env : Env) (H : Heap) (t n : Nat) (agg : Bool) : resOne env H (.cell t agg n) = loadC agg n H (Env.at env t) := by
  show ((loadC agg n H (Env.at env t)).map fun v => (v, H)).map (·.1) = _
  cases loadC agg n H (Env.at env t) <;> rfl

/-! ### Writing -/
/-- Into a block's cells. -/
def stE (n : Nat) (off : Nat) (x : CV) (H : Heap) (i : Id) (cs : List CV) : Option Heap :=
  if x.cells.length = n ∧ off + n ≤ cs.length ∧ ones x.cells = true ∧ (i.loc? = true ∨ CV.locs x.cells = false) then some (H.put i (setMany cs off x.cells)) else none
theorem storeC_op (n : Nat) (x : CV) (H : Heap) (i : Id) (off : Nat) : storeC n x H (.op i off) = (H.get i).bind (stE n off x H i) := (rfl)
theorem stE_loc (n off : Nat) (x : CV) (H : Heap) (s : Nat) (cs : List CV) : stE n off x H (.loc s) cs = if x.cells.length = n ∧ off + n ≤ cs.length ∧ ones x.cells = true then some (H.put (.loc s) (setMany cs off x.cells)) else none := by
  simp [stE, Id.loc?]
theorem put_loc (bx : List (Nat × List CV)) (bl : List Blk) (s : Nat) (cs : List CV) : Heap.put ⟨bx, bl⟩ (.loc s) cs = ⟨setBx bx s cs, bl⟩ := (rfl)
theorem put_blk (bx : List (Nat × List CV)) (bl : List Blk) (s : Nat) (cs : List CV) : Heap.put ⟨bx, bl⟩ (.blk s) cs = ⟨bx, bl.set s (.cells cs)⟩ := (rfl)
/-- A heap behind a store. -/
def unitH (H : Heap) : CV × Heap := (.tup [], H)
theorem hop_load (agg : Bool) (n : Nat) (x : CV) (H : Heap) : heapOp (.load agg n) [x] H = (loadC agg n H x).map fun v => (v, H) := (rfl)
theorem hop_store (n : Nat) (p x : CV) (H : Heap) : heapOp (.store n) [p, x] H = (storeC n x H p).map unitH := (rfl)
theorem unitH_mk (H : Heap) : unitH H = (.tup [], H) := (rfl)
theorem hop_box (s : Nat) (x : CV) (bx : List (Nat × List CV)) (bl : List Blk) : heapOp (.box s) [x] ⟨bx, bl⟩ = if (ones x.cells && (look bx s).isNone) = true then some (.op (.loc s) 0, ⟨setBx bx s x.cells, bl⟩) else none := (rfl)
theorem hop_newl (s : Nat) (zero : List CV) (bx : List (Nat × List CV)) (bl : List Blk) : heapOp (.newl s zero) [] ⟨bx, bl⟩ = if ((look bx s).isNone && ones zero && !CV.locs zero) = true then some (.op (.loc s) 0, ⟨setBx bx s zero, bl⟩) else none := (rfl)
theorem hop_boxh (x : CV) (bx : List (Nat × List CV)) (bl : List Blk) : heapOp .boxh [x] ⟨bx, bl⟩ = if (ones x.cells && !CV.locs x.cells) = true then some (.op (.blk bl.length) 0, ⟨bx, bl ++ [.cells x.cells]⟩) else none := (rfl)
theorem hop_newh (zero : List CV) (bx : List (Nat × List CV)) (bl : List Blk) : heapOp (.newh zero) [] ⟨bx, bl⟩ = if (ones zero && !CV.locs zero) = true then some (.op (.blk bl.length) 0, ⟨bx, bl ++ [.cells zero]⟩) else none := (rfl)
theorem ones_nil : ones [] = true := (rfl)
theorem ones_cons (c : CV) (cs : List CV) : ones (c :: cs) = (c.one && ones cs) := (rfl)

/-- A literal's cells, frozen. -/
def frzE (sz len : Nat) (H : Heap) (cs : List CV) : Option (CV × Heap) := if (ones cs && !CV.refs cs && decide (cs.length = len * sz)) = true then some (.vs cs len, H) else none
theorem hop_bslF (sz len : Nat) (zero : List CV) (parts : List (Nat × Nat)) (vs : List CV) (H : Heap) : heapOp (.bslF sz len zero parts) vs H = if vs.length = parts.length then (fillC (repC zero len) (parts.zip vs)).bind (frzE sz len H) else none := (rfl)
theorem frzE_eq (sz len : Nat) (H : Heap) (cs : List CV) : frzE sz len H cs = if (ones cs && !CV.refs cs && decide (cs.length = len * sz)) = true then some (.vs cs len, H) else none := (rfl)
def ownE (sz len : Nat) (H : Heap) (cs : List CV) : Option (CV × Heap) := if (ones cs && !CV.locs cs && decide (cs.length = len * sz)) = true then some (.os sz (.blk H.bl.length) 0 len, H.push (.cells cs)) else none
theorem hop_bslO (sz len : Nat) (zero : List CV) (parts : List (Nat × Nat)) (vs : List CV) (H : Heap) : heapOp (.bslO sz len zero parts) vs H = if vs.length = parts.length then (fillC (repC zero len) (parts.zip vs)).bind (ownE sz len H) else none := (rfl)
theorem ownE_eq (sz len : Nat) (H : Heap) (cs : List CV) : ownE sz len H cs = if (ones cs && !CV.locs cs && decide (cs.length = len * sz)) = true then some (.os sz (.blk H.bl.length) 0 len, H.push (.cells cs)) else none := (rfl)
theorem push_eq (bx : List (Nat × List CV)) (bl : List Blk) (b : Blk) : Heap.push ⟨bx, bl⟩ b = ⟨bx, bl ++ [b]⟩ := (rfl)
theorem fillC_nil (cs : List CV) : fillC cs [] = some cs := (rfl)
theorem fillC_cons (cs : List CV) (off size : Nat) (v : CV) (r : List ((Nat × Nat) × CV)) : fillC cs (((off, size), v) :: r) = if v.cells.length = size ∧ off + size ≤ cs.length ∧ v.und? = false then fillC (setMany cs off v.cells) r else none := (rfl)
theorem pure_bld (zero : List CV) (parts : List (Nat × Nat)) (vs : List CV) : pureOp (.bld zero parts) vs = if vs.length = parts.length then (fillC zero (parts.zip vs)).map .agg else none := (rfl)
theorem setMany_nil (cs : List CV) (o : Nat) : setMany cs o [] = cs := (rfl)
theorem setMany_cons (cs : List CV) (o : Nat) (c : CV) (r : List CV) : setMany cs o (c :: r) = setMany (cs.set o c) (o + 1) r := (rfl)

/-- Zeros, appended to nil. -/
theorem hop_appz (sz bytes : Nat) (zero : List CV) (k : IntKind) (l : Int) (bx : List (Nat × List CV)) (bl : List Blk) : heapOp (.appz sz bytes zero) [.nils, .int k l] ⟨bx, bl⟩ =
    if (decide (0 < sz) && decide (0 < bytes) && decide (0 < l) && decide (l * bytes ≤ 140737488355328) && decide (zero.length = sz) && ones zero && !CV.locs zero) = true then some (.os sz (.blk bl.length) 0 l.toNat, ⟨bx, bl ++ [.cells (repC zero l.toNat)]⟩) else none := (rfl)
/-- A slice made of zeros. -/
theorem hop_mksl (sz bytes : Nat) (zero : List CV) (k k' : IntKind) (l c : Int) (bx : List (Nat × List CV)) (bl : List Blk) : heapOp (.mksl sz bytes zero) [.int k l, .int k' c] ⟨bx, bl⟩ =
    if (decide (zero.length = sz) && ones zero && !CV.locs zero) = true then (if 0 ≤ l ∧ l ≤ c ∧ c * bytes ≤ 140737488355328 ∧ c ≤ 140737488355328 then some (.os sz (.blk bl.length) 0 l.toNat, ⟨bx, bl ++ [.cells (repC zero c.toNat)]⟩) else none) else none := (rfl)
theorem hop_mkslF (sz bytes : Nat) (zero : List CV) (k k' : IntKind) (l c : Int) (H : Heap) : heapOp (.mkslF sz bytes zero) [.int k l, .int k' c] H =
    if (decide (zero.length = sz) && !CV.refs zero) = true then (if 0 ≤ l ∧ l = c ∧ c * bytes ≤ 140737488355328 ∧ c ≤ 140737488355328 then some (.vs (repC zero l.toNat) l.toNat, H) else none) else none := (rfl)
theorem hop_clear (sz : Nat) (zero : List CV) (x : CV) (H : Heap) : heapOp (.clear sz zero) [x] H = if (ones zero && !CV.locs zero && decide (zero.length = sz)) = true then (clearC sz zero H x).map unitH else none := (rfl)
theorem hl_one (call : Caller) (s off : Nat) (o : HOp) (H : Heap) : runOp call (.hl s o) [.op (.loc s) off] H = heapOp o [.op (.loc s) off] H := by simp [runOp, CV.locs]
theorem hl_two (call : Caller) (s off : Nat) (o : HOp) (x : CV) (H : Heap) : runOp call (.hl s o) [.op (.loc s) off, x] H = if x.locv = false then heapOp o [.op (.loc s) off, x] H else none := by
  simp only [runOp, CV.locs, Bool.or_false, true_and]
theorem hb_eq (call : Caller) (o : HOp) (vs : List CV) (H : Heap) : runOp call (.hb o) vs H = if CV.locs vs = true then none else heapOp o vs H := (rfl)
theorem iaddrA_int (len sz : Nat) (x : CV) (k : IntKind) (n : Int) : iaddrAC len sz x (.int k n) = if 0 ≤ n ∧ n < len then faddrC (n.toNat * sz) x else none := (rfl)

/-! ### Reckoning -/
section
variable (e : EqT) (k : IntKind) (a b : Int)
theorem bin_add : binC .add e (.int k a) (.int k b) = some (.int k (k.wrap (a + b))) := by simp [binC, intBin]
theorem bin_sub : binC .sub e (.int k a) (.int k b) = some (.int k (k.wrap (a - b))) := by simp [binC, intBin]
theorem bin_mul : binC .mul e (.int k a) (.int k b) = some (.int k (k.wrap (a * b))) := by simp [binC, intBin]
theorem bin_quo : binC .quo e (.int k a) (.int k b) = if b = 0 then none else some (.int k (k.wrap (a.tdiv b))) := by simp [binC, intBin]
theorem bin_rem : binC .rem e (.int k a) (.int k b) = if b = 0 then none else some (.int k (a.tmod b)) := by simp [binC, intBin]
theorem bin_eql : binC .eql e (.int k a) (.int k b) = some (.bool (decide (a = b))) := by
  have : (a == b) = decide (a = b) := by by_cases h : a = b <;> simp [h]
  simp [binC, intBin, this]
theorem bin_neq : binC .neq e (.int k a) (.int k b) = some (.bool (!decide (a = b))) := by
  have : (a == b) = decide (a = b) := by by_cases h : a = b <;> simp [h]
  simp [binC, intBin, bne, this]
theorem bin_lss : binC .lss e (.int k a) (.int k b) = some (.bool (decide (a < b))) := by simp [binC, intBin]
theorem bin_leq : binC .leq e (.int k a) (.int k b) = some (.bool (decide (a ≤ b))) := by simp [binC, intBin]
theorem bin_gtr : binC .gtr e (.int k a) (.int k b) = some (.bool (decide (b < a))) := by simp [binC, intBin]
theorem bin_geq : binC .geq e (.int k a) (.int k b) = some (.bool (decide (b ≤ a))) := by simp [binC, intBin]
theorem bin_eqlb (a b : Bool) : binC .eql .bool (.bool a) (.bool b) = some (.bool (a == b)) := (rfl)
theorem bin_neqb (a b : Bool) : binC .neq .bool (.bool a) (.bool b) = some (.bool (!(a == b))) := (rfl)
theorem bin_eqla (l : List (Nat × Bool × Nat × EqT)) (a b : List CV) : binC .eql (.parts l) (.agg a) (.agg b) = (eqCs l a b).map .bool := (rfl)
theorem bin_neqa (l : List (Nat × Bool × Nat × EqT)) (a b : List CV) : binC .neq (.parts l) (.agg a) (.agg b) = (eqCs l a b).map fun b => .bool (!b) := (rfl)
theorem bin_shr (k' : IntKind) (hb : 0 ≤ b) : binC .shr e (.int k a) (.int k' b) = some (.int k (a.fdiv (2 ^ (min b.toNat k.bits)))) := by simp [binC, shiftBin, Int.not_lt.2 hb]
theorem toFloat_int (k' : FloatKind) : toFloatC k' (.int k a) = some (.float k' (k'.nearest a)) := (rfl)
theorem cplx_float (k' : FloatKind) (x y : Nat) : cplxC (.float k' x) (.float k' y) = some (.cplx k' x y) := by simp [cplxC]
theorem toInt_int (k' : IntKind) : toIntC k (.int k' a) = some (.int k (k.wrap a)) := (rfl)
theorem cap_nils : capC .nils = some (.int .i64 0) := (rfl)
theorem lenC_nils : lenC .nils = some (.int .i64 0) := (rfl)
theorem lenC_os (z : Nat) (i : Id) (o n : Nat) : lenC (.os z i o n) = some (.int .i64 n) := (rfl)
theorem lenC_vs (cs : List CV) (n : Nat) : lenC (.vs cs n) = some (.int .i64 n) := (rfl)
theorem pick_bool (c : Bool) (x y : CV) : pickC (.bool c) x y = some (if c then x else y) := (rfl)
theorem nchk_op (i : Id) (o : Nat) : nchkC (.op i o) = some (.op i o) := (rfl)
theorem nchk_vp (cs : List CV) : nchkC (.vp cs) = some (.vp cs) := (rfl)
theorem nchk_fn (f : FuncId) (x y : List CV) : nchkC (.fn (.func f) x y) = some (.fn (.func f) x y) := (rfl)
theorem fld_agg (agg : Bool) (n off : Nat) (cs : List CV) : fldC agg n off (.agg cs) = partC agg n off cs := (rfl)
theorem part_t (n off : Nat) (cs : List CV) : partC true n off cs = some (.agg ((cs.drop off).take n)) := (rfl)
theorem part_f (n off : Nat) (cs : List CV) : partC false n off cs = cs[off]? := (rfl)
theorem ext_tup (i : Nat) (cs : List CV) : extC i (.tup cs) = cs[i]? := (rfl)
theorem un_not (b : Bool) : unC .not (.bool b) = some (.bool (!b)) := (rfl)
end
theorem decide_not' {p : Prop} [Decidable p] : (decide p = false) = ¬p := by simp
theorem decide_true' {p : Prop} [Decidable p] : (decide p = true) = p := by simp

/-! ### A call by value -/

/-- What is handed out of a body that runs by value. -/
def fzSnap (st kn : Bool) (H H' : Heap) (vs : List CV) : Option (CV × Heap) := (snap H' st kn (resV vs)).map fun w => (w, H)
theorem fzSnap_eq (st kn : Bool) (H H' : Heap) (vs : List CV) : fzSnap st kn H H' vs = (snap H' st kn (resV vs)).map fun w => (w, H) := (rfl)
def fzOut (res : List Res) (st kn : Bool) (H : Heap) : Ex × Env × Heap → Option (CV × Heap)
  | (.exit _, _, _) => none
  | (_, env, H') => (resAll env H' res).bind (fzSnap st kn H H')
theorem fzOut_norm (res : List Res) (st kn : Bool) (H H' : Heap) (env : Env) : fzOut res st kn H (.norm, env, H') = (resAll env H' res).bind (fzSnap st kn H H') := (rfl)
theorem fzOut_ret (res : List Res) (st kn : Bool) (H H' : Heap) (env : Env) : fzOut res st kn H (.ret, env, H') = (resAll env H' res).bind (fzSnap st kn H H') := (rfl)
noncomputable def fzE (C : Ctx) (kn : Bool) (np : Nat) (code : CCode) (res : List Res) (st : Bool) (H : Heap) (as : List CV) : Option (CV × Heap) :=
  if as.length = np then (eval C code (enterC 0 as) ⟨[], []⟩).bind (fzOut res st kn H) else none
theorem fzE_eq (C : Ctx) (kn : Bool) (np : Nat) (code : CCode) (res : List Res) (st : Bool) (H : Heap) (as : List CV) : fzE C kn np code res st H as = if as.length = np then (eval C code (enterC 0 as) ⟨[], []⟩).bind (fzOut res st kn H) else none := (rfl)

theorem fz_call {C : Ctx} {k : FuncId} {kn : Bool} {np : Nat} {code : CCode} {res : List Res} (hp : C.prim k = none) (hi : C.info k = some ⟨.fz kn, np, code, res⟩) (cap args : List CV) (H : Heap) :
    call C (.fn (.func k) [] cap) args H = (snapL H false false (args ++ cap)).bind (fzE C kn np code res (CV.refs (args ++ cap)) H) := by
  unfold call callC
  simp only [List.nil_append, hp, hi]
  congr 1
  funext as
  unfold fzE bodyC
  by_cases hn : as.length = np
  · simp only [hn, if_true]
    cases eval C code (enterC 0 as) ⟨[], []⟩ with
    | none => rfl
    | some x =>
      obtain ⟨x, env, H'⟩ := x
      cases x with
      | exit i => rfl
      | norm =>
        simp only [Option.bind_some, fzOut]
        cases resAll env H' res <;> rfl
      | ret =>
        simp only [Option.bind_some, fzOut]
        cases resAll env H' res <;> rfl
  · simp only [if_neg hn, Option.bind_none]

/-- What is handed out of a body that makes a slice. -/
def ownSnap (st : Bool) (H H' : Heap) (vs : List CV) : Option (CV × Heap) := (ownOf st H' (resV vs)).map fun
  | none => (.nils, H)
  | some (sz, n, cs) => (.os sz (.blk H.bl.length) 0 n, H.push (.cells cs))
def ownOut (res : List Res) (st : Bool) (H : Heap) : Ex × Env × Heap → Option (CV × Heap)
  | (.exit _, _, _) => none
  | (_, env, H') => (resAll env H' res).bind (ownSnap st H H')
theorem ownOut_norm (res : List Res) (st : Bool) (H H' : Heap) (env : Env) : ownOut res st H (.norm, env, H') = (resAll env H' res).bind (ownSnap st H H') := (rfl)
theorem ownOut_ret (res : List Res) (st : Bool) (H H' : Heap) (env : Env) : ownOut res st H (.ret, env, H') = (resAll env H' res).bind (ownSnap st H H') := (rfl)
noncomputable def oE (C : Ctx) (np : Nat) (code : CCode) (res : List Res) (st : Bool) (H : Heap) (as : List CV) : Option (CV × Heap) :=
  if as.length = np then (eval C code (enterC 0 as) ⟨[], []⟩).bind (ownOut res st H) else none
theorem oE_eq (C : Ctx) (np : Nat) (code : CCode) (res : List Res) (st : Bool) (H : Heap) (as : List CV) : oE C np code res st H as = if as.length = np then (eval C code (enterC 0 as) ⟨[], []⟩).bind (ownOut res st H) else none := (rfl)

theorem own_call {C : Ctx} {k : FuncId} {np : Nat} {code : CCode} {res : List Res} (hp : C.prim k = none) (hi : C.info k = some ⟨.own, np, code, res⟩) (cap args : List CV) (H : Heap) :
    call C (.fn (.func k) [] cap) args H = (snapL H false false (args ++ cap)).bind (oE C np code res (CV.refs (args ++ cap)) H) := by
  unfold call callC
  simp only [List.nil_append, hp, hi]
  congr 1
  funext as
  unfold oE bodyC
  by_cases hn : as.length = np
  · simp only [hn, if_true]
    cases eval C code (enterC 0 as) ⟨[], []⟩ with
    | none => rfl
    | some x =>
      obtain ⟨x, env, H'⟩ := x
      cases x with
      | exit i => rfl
      | norm =>
        simp only [Option.bind_some, ownOut]
        cases resAll env H' res <;> rfl
      | ret =>
        simp only [Option.bind_some, ownOut]
        cases resAll env H' res <;> rfl
  · simp only [if_neg hn, Option.bind_none]

/-- What is handed out of a body that works on the caller's memory. -/
def refSnap (bx : List (Nat × List CV)) (H' : Heap) (vs : List CV) : Option (CV × Heap) := if (resV vs).locv then none else some (resV vs, ⟨bx, H'.bl⟩)
theorem refSnap_eq (bx : List (Nat × List CV)) (H' : Heap) (vs : List CV) : refSnap bx H' vs = if (resV vs).locv then none else some (resV vs, ⟨bx, H'.bl⟩) := (rfl)
def refOut (res : List Res) (bx : List (Nat × List CV)) : Ex × Env × Heap → Option (CV × Heap)
  | (.exit _, _, _) => none
  | (_, env, H') => (resAll env H' res).bind (refSnap bx H')
theorem refOut_norm (res : List Res) (bx : List (Nat × List CV)) (H' : Heap) (env : Env) : refOut res bx (.norm, env, H') = (resAll env H' res).bind (refSnap bx H') := (rfl)
theorem refOut_ret (res : List Res) (bx : List (Nat × List CV)) (H' : Heap) (env : Env) : refOut res bx (.ret, env, H') = (resAll env H' res).bind (refSnap bx H') := (rfl)

theorem ref_call {C : Ctx} {k : FuncId} {np : Nat} {code : CCode} {res : List Res} (hp : C.prim k = none) (hi : C.info k = some ⟨.ref, np, code, res⟩) (cap args : List CV) (bx : List (Nat × List CV)) (bl : List Blk) :
    call C (.fn (.func k) [] cap) args ⟨bx, bl⟩ = if CV.locs (args ++ cap) then none else if (args ++ cap).length = np then (eval C code (enterC 0 (args ++ cap)) ⟨[], bl⟩).bind (refOut res bx) else none := by
  unfold call callC
  simp only [List.nil_append, hp, hi]
  split
  · rfl
  · unfold bodyC
    by_cases hn : (args ++ cap).length = np
    · simp only [if_pos hn]
      cases eval C code (enterC 0 (args ++ cap)) ⟨[], bl⟩ with
      | none => rfl
      | some x =>
        obtain ⟨x, env, H'⟩ := x
        cases x with
        | exit i => rfl
        | norm =>
          simp only [Option.bind_some, refOut]
          cases resAll env H' res <;> rfl
        | ret =>
          simp only [Option.bind_some, refOut]
          cases resAll env H' res <;> rfl
    · simp only [if_neg hn, Option.bind_none]
end Go.Zc
