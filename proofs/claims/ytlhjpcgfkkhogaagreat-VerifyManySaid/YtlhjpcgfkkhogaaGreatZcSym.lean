/- Running code whose text is known, by rewriting: one step a statement. No condition. -/
import Derived.Test.YtlhjpcgfkkhogaaGreatZcSound
import Derived.IntWalk
import Derived.KernelRfl
set_option linter.all false
section
namespace Go.Zc

/-! ### What stands where -/

theorem at_hit (r : Env) (t : Nat) (v : CV) : Env.at ((t, v) :: r) t = v := by
  simp [Env.at, look]
theorem at_miss (r : Env) {s t : Nat} (v : CV) (h : s ≠ t) : Env.at ((s, v) :: r) t = Env.at r t := by
  have : Nat.beq s t = false := by
    rw [← Bool.not_eq_true, Nat.beq_eq]; exact h
  simp [Env.at, look, this]

theorem ev_t (env : Env) (n : Nat) : ev env (.t n) = Env.at env n := (rfl)
theorem ev_c (env : Env) (v : CV) : ev env (.c v) = v := (rfl)
theorem putD_some (env : Env) (d : Nat) (v : CV) : putD env (some d) v = (d, v) :: env := (rfl)
theorem putD_none (env : Env) (v : CV) : putD env none v = env := (rfl)
theorem keep_nil (env : Env) : keep env [] = [] := (rfl)
theorem keep_cons (env : Env) (t : Nat) (r : List Nat) : keep env (t :: r) = (t, Env.at env t) :: keep env r := (rfl)

/-! ### Statements -/

/-- The rest, behind a statement. -/
noncomputable def restE (C : Ctx) (d : Option Nat) (r : List CStm) (env : Env) (x : CV × Heap) : Option (Env × Heap) := runOps (call C) r (putD env d x.1) x.2
/-- Where a guard stands. -/
noncomputable def guardE (C : Ctx) (want : Bool) (s : CStm) (r : List CStm) (env : Env) (H : Heap) (g : CV) : Option (Env × Heap) :=
  match gvC g with
  | some c => if c = some want then runOps (call C) ({ s with guard := none } :: r) env H else runOps (call C) r (putD env s.dst (.tup [])) H
  | none => none

section
variable (C : Ctx) (env : Env) (H : Heap)
theorem restE_mk (d : Option Nat) (r : List CStm) (v : CV) : restE C d r env (v, H) = runOps (call C) r (putD env d v) H := (rfl)
theorem runOps_nil : runOps (call C) [] env H = some (env, H) := (rfl)
theorem runOps_p (d : Option Nat) (o : POp) (as : List Opd) (r : List CStm) : runOps (call C) (⟨d, .p o, as, none⟩ :: r) env H = ((pureOp o (evs env as)).map fun v => (v, H)).bind (restE C d r env) := (rfl)
theorem runOps_mov (d : Nat) (a : Opd) (r : List CStm) : runOps (call C) (⟨some d, .p .mov, [a], none⟩ :: r) env H = runOps (call C) r ((d, ev env a) :: env) H := (rfl)
theorem runOps_h (d : Option Nat) (o : HOp) (as : List Opd) (r : List CStm) : runOps (call C) (⟨d, .h o, as, none⟩ :: r) env H = (heapOp o (evs env as) H).bind (restE C d r env) := (rfl)
theorem runOps_hb (d : Option Nat) (o : HOp) (as : List Opd) (r : List CStm) : runOps (call C) (⟨d, .hb o, as, none⟩ :: r) env H = (runOp (call C) (.hb o) (evs env as) H).bind (restE C d r env) := (rfl)
theorem runOps_hl (d : Option Nat) (s : Nat) (o : HOp) (as : List Opd) (r : List CStm) : runOps (call C) (⟨d, .hl s o, as, none⟩ :: r) env H = (runOp (call C) (.hl s o) (evs env as) H).bind (restE C d r env) := (rfl)
theorem runOps_call (d : Option Nat) (f : Opd) (as : List Opd) (r : List CStm) : runOps (call C) (⟨d, .call, f :: as, none⟩ :: r) env H = (call C (ev env f) (evs env as) H).bind (restE C d r env) := (rfl)
theorem runOps_callb (d : Option Nat) (f : Opd) (as : List Opd) (r : List CStm) : runOps (call C) (⟨d, .callb, f :: as, none⟩ :: r) env H = ((call C (ev env f) (evs env as) ⟨[], H.bl⟩).map fun x => (x.1, (⟨H.bx, x.2.bl⟩ : Heap))).bind (restE C d r env) := (rfl)
theorem runOps_callp (d : Option Nat) (f : Opd) (as : List Opd) (r : List CStm) : runOps (call C) (⟨d, .callp, f :: as, none⟩ :: r) env H = ((call C (ev env f) (evs env as) ⟨[], H.bl⟩).bind fun x => if isPre H.bl x.2.bl then some (x.1, (⟨H.bx, x.2.bl⟩ : Heap)) else none).bind (restE C d r env) := (rfl)
theorem runOps_callv (d : Option Nat) (f : Opd) (as : List Opd) (r : List CStm) : runOps (call C) (⟨d, .callv, f :: as, none⟩ :: r) env H = (if CV.refs (ev env f :: evs env as) then none else (call C (ev env f) (evs env as) ⟨[], []⟩).map fun x => (x.1, H)).bind (restE C d r env) := (rfl)
theorem runOps_guard (d : Option Nat) (o : COp) (as : List Opd) (g : Nat) (want : Bool) (r : List CStm) : runOps (call C) (⟨d, o, as, some (g, want)⟩ :: r) env H = guardE C want ⟨d, o, as, none⟩ r env H (Env.at env g) := (rfl)
theorem guardE_bool (want : Bool) (s : CStm) (r : List CStm) (b : Bool) : guardE C want s r env H (.bool b) = if b = want then runOps (call C) ({ s with guard := none } :: r) env H else runOps (call C) r (putD env s.dst (.tup [])) H := by
  simp only [guardE, gvC, Option.some.injEq]
theorem guardE_skip (want : Bool) (s : CStm) (r : List CStm) : guardE C want s r env H (.tup []) = runOps (call C) r (putD env s.dst (.tup [])) H := by
  simp [guardE, gvC]

theorem map_bind_some {α β γ : Type} (v : α) (f : α → β) (g : β → Option γ) : ((some v).map f).bind g = g (f v) := (rfl)
theorem bind_some' {α β : Type} (v : α) (g : α → Option β) : (some v).bind g = g v := (rfl)
theorem bind_none' {α β : Type} (g : α → Option β) : (none : Option α).bind g = none := (rfl)
theorem map_some' {α β : Type} (v : α) (g : α → β) : (some v).map g = some (g v) := (rfl)
theorem map_none' {α β : Type} (g : α → β) : (none : Option α).map g = none := (rfl)

/-- Behind statements. -/
def normE (x : Env × Heap) : Ex × Env × Heap := (.norm, x.1, x.2)
theorem eval_ops' (l : List CStm) : eval C (.ops l) env H = (runOps (call C) l env H).map normE := eval_ops C env H l
/-- A box that nobody writes any more. -/
def frzG (t : Nat) (env : Env) (H : Heap) (k : Nat) : Option (List CV) → Out
  | some cs => if CV.refs cs then none else some (.norm, (t, .vp cs) :: env, H.kill (.blk k))
  | none => none
def frzV (t : Nat) (env : Env) (H : Heap) : CV → Out
  | .op (.blk k) 0 => frzG t env H k (H.get (.blk k))
  | _ => none
theorem frzG_some (t k : Nat) (cs : List CV) : frzG t env H k (some cs) = if CV.refs cs then none else some (.norm, (t, .vp cs) :: env, H.kill (.blk k)) := (rfl)
theorem frzV_op (t k : Nat) : frzV t env H (.op (.blk k) 0) = frzG t env H k (H.get (.blk k)) := (rfl)
theorem eval_frz' (t : Nat) : eval C (.frz t) env H = frzV t env H (Env.at env t) := by
  rw [eval_frz]
  unfold frzC frzV
  generalize Env.at env t = v
  split
  · rename_i k
    simp only [frzG]
    cases H.get (.blk k) with
    | none => rfl
    | some cs =>
      simp only []
      split <;> rfl
  · rename_i h
    split
    · exact (h _ rfl).elim
    · rfl
theorem kill_blk (bx : List (Nat × List CV)) (bl : List Blk) (k : Nat) : Heap.kill ⟨bx, bl⟩ (.blk k) = ⟨bx, bl.set k .dead⟩ := (rfl)
theorem normE_mk : normE (env, H) = (.norm, env, H) := (rfl)
theorem thenE_norm (b : CCode) : thenE C b (.norm, env, H) = eval C b env H := (rfl)
theorem thenE_exit (b : CCode) (k : Nat) : thenE C b (.exit k, env, H) = some (.exit k, env, H) := (rfl)
theorem thenE_ret (b : CCode) : thenE C b (.ret, env, H) = some (.ret, env, H) := (rfl)
theorem outE_norm (id : Nat) (lo : Option (List Nat)) : outE id lo (.norm, env, H) = joinE lo env H := (rfl)
theorem outE_ret (id : Nat) (lo : Option (List Nat)) : outE id lo (.ret, env, H) = some (.ret, env, H) := (rfl)
theorem outE_exit (id k : Nat) (lo : Option (List Nat)) : outE id lo (.exit k, env, H) = if k = id then joinE lo env H else some (.exit k, env, H) := (rfl)
theorem condE_bool (b : Bool) (x y : Out) : condE (.bool b) x y = if b then x else y := (rfl)

/-- Behind a keep. -/
def exitE (x : Env × Heap) : Ex × Env × Heap := (.norm, x.1, x.2)
theorem joinE_none : joinE none env H = some (.norm, env, H) := (rfl)
theorem joinE_some (l : List Nat) : joinE (some l) env H = (keepE l env H).map normE := (rfl)
/-- Into a round. -/
noncomputable def intoE (C : Ctx) (id : Nat) (li lo : List Nat) (c : CCode) (x : Env × Heap) : Out := (eval C c x.1 x.2).bind (roundE C id li lo c)
theorem eval_bloop' (id : Nat) (li lo : List Nat) (c : CCode) : eval C (.bloop id li lo c) env H = (keepE li env H).bind (intoE C id li lo c) := eval_bloop C env H id li lo c
theorem intoE_mk (id : Nat) (li lo : List Nat) (c : CCode) : intoE C id li lo c (env, H) = (eval C c env H).bind (roundE C id li lo c) := (rfl)
theorem roundE_norm (id : Nat) (li lo : List Nat) (c : CCode) : roundE C id li lo c (.norm, env, H) = eval C (.bloop id li lo c) env H := (rfl)
theorem roundE_ret (id : Nat) (li lo : List Nat) (c : CCode) : roundE C id li lo c (.ret, env, H) = some (.ret, env, H) := (rfl)
theorem roundE_exit (id k : Nat) (li lo : List Nat) (c : CCode) : roundE C id li lo c (.exit k, env, H) = if k = id then (keepE lo env H).map normE else some (.exit k, env, H) := (rfl)
end

theorem bind_ite {α β : Type} (c : Prop) [Decidable c] (a b : Option α) (f : α → Option β) : (if c then a else b).bind f = if c then a.bind f else b.bind f := by split <;> rfl
theorem map_ite {α β : Type} (c : Prop) [Decidable c] (a b : Option α) (f : α → β) : (if c then a else b).map f = if c then a.map f else b.map f := by split <;> rfl

/-! ### Slices by value -/

/-- A frozen slice, row by row. -/
def sl {α : Type} (f : α → List CV) (l : List α) : CV := .vs (l.flatMap f) l.length

section
variable {α : Type} (f : α → List CV) (l : List α)
theorem lenC_sl : lenC (sl f l) = some (.int .i64 l.length) := (rfl)
theorem locv_sl : (sl f l).locv = false := (rfl)
theorem ref_sl : (sl f l).ref = false := (rfl)
theorem und_sl : (sl f l).und? = false := (rfl)
theorem one_sl : (sl f l).one = true := (rfl)
theorem cells_sl : (sl f l).cells = [sl f l] := (rfl)
theorem isSl_sl : isSl (sl f l) = true := (rfl)
theorem lenOf_sl : lenOf (sl f l) = l.length := (rfl)
theorem snapV_sl (H : Heap) (kn : Bool) (g : CV → Option CV) : snapV H false kn g (sl f l) = some (sl f l) := (rfl)
end

theorem flatMap_len {α : Type} {f : α → List CV} {sz : Nat} (hf : ∀ x, (f x).length = sz) : ∀ l : List α, (l.flatMap f).length = l.length * sz
  | [] => by simp
  | a :: l => by simp only [List.flatMap_cons, List.length_append, hf, flatMap_len hf l, List.length_cons, Nat.add_mul]; omega

theorem flatMap_drop {α : Type} {f : α → List CV} {sz : Nat} (hf : ∀ x, (f x).length = sz) : ∀ (l : List α) (i : Nat), (l.flatMap f).drop (i * sz) = (l.drop i).flatMap f
  | l, 0 => by simp
  | [], i + 1 => by simp
  | a :: l, i + 1 => by
    simp only [List.flatMap_cons, List.drop_succ_cons]
    rw [show (i + 1) * sz = (f a).length + i * sz by rw [hf, Nat.add_mul]; omega, List.drop_append]
    rw [List.drop_eq_nil_of_le (by omega), List.nil_append, show (f a).length + i * sz - (f a).length = i * sz by omega]
    exact flatMap_drop hf l i

theorem flatMap_take {α : Type} {f : α → List CV} {sz : Nat} (hf : ∀ x, (f x).length = sz) : ∀ (l : List α) (i : Nat), (l.flatMap f).take (i * sz) = (l.take i).flatMap f
  | l, 0 => by simp
  | [], i + 1 => by simp
  | a :: l, i + 1 => by
    simp only [List.flatMap_cons, List.take_succ_cons]
    rw [show (i + 1) * sz = (f a).length + i * sz by rw [hf, Nat.add_mul]; omega, List.take_append]
    rw [List.take_of_length_le (by omega), show (f a).length + i * sz - (f a).length = i * sz by omega, flatMap_take hf l i]

theorem iaddr_sl {α : Type} {f : α → List CV} {sz : Nat} (hf : ∀ x, (f x).length = sz) (hp : 0 < sz) {l : List α} {k : IntKind} {i : Nat} (h : i < l.length) :
    iaddrC sz (sl f l) (.int k i) = some (.vp (f l[i] ++ (l.drop (i + 1)).flatMap f)) := by
  have h1 : (l.flatMap f) ≠ [] := by
    intro h0
    have := flatMap_len hf l
    rw [h0, List.length_nil] at this
    have : 0 < l.length * sz := Nat.mul_pos (by omega) hp
    omega
  unfold iaddrC iaddrN sl
  simp only [Int.toNat_natCast]
  rw [if_pos ⟨by omega, by omega, h1⟩, flatMap_drop hf, List.drop_eq_getElem_cons h, List.flatMap_cons]

theorem iaddr_sl' {α : Type} {f : α → List CV} {sz : Nat} (hf : ∀ x, (f x).length = sz) (hp : 0 < sz) {l : List α} {k : IntKind} {i : Int} (h0 : 0 ≤ i) (h : i < l.length) :
    iaddrC sz (sl f l) (.int k i) = some (.vp (f (l[i.toNat]'(by omega)) ++ (l.drop (i.toNat + 1)).flatMap f)) := by
  obtain ⟨n, rfl⟩ := Int.eq_ofNat_of_zero_le h0
  exact iaddr_sl hf hp (by omega)

theorem shown_sl {α : Type} {f : α → List CV} {sz : Nat} (hf : ∀ x, (f x).length = sz) (H : Heap) (l : List α) : shown H sz (sl f l) = some (l.flatMap f) := by
  exact if_pos (flatMap_len hf l)

/-! ### Cells one by one -/

def takeN : Nat → List CV → Option (List CV)
  | 0, _ => some []
  | _ + 1, [] => none
  | n + 1, c :: cs => (takeN n cs).map (c :: ·)

theorem takeN_eq : ∀ (n : Nat) (cs : List CV), takeN n cs = if n ≤ cs.length then some (cs.take n) else none
  | 0, cs => by simp [takeN]
  | n + 1, [] => by simp [takeN]
  | n + 1, c :: cs => by
    simp only [takeN, takeN_eq n cs, List.length_cons, Nat.add_le_add_iff_right, List.take_succ_cons]
    split <;> rfl

theorem load_vp_t (n : Nat) (H : Heap) (cs : List CV) : loadC true n H (.vp cs) = (takeN n cs).map .agg := by
  simp only [loadC, partC, takeN_eq, List.drop_zero, if_true]
  split <;> rfl
theorem load_vp_f (H : Heap) (c : CV) (r : List CV) : loadC false 1 H (.vp (c :: r)) = some c := by simp [loadC, partC]

/-- Out of a block's cells. -/
def ldE (agg : Bool) (n off : Nat) (cs : List CV) : Option CV := if off + n ≤ cs.length then partC agg n off cs else none
theorem load_op (agg : Bool) (n : Nat) (H : Heap) (i : Id) (off : Nat) : loadC agg n H (.op i off) = (H.get i).bind (ldE agg n off) := (rfl)
theorem ldE_t {n : Nat} (off : Nat) (cs : List CV) (h0 : 0 < n) : ldE true n off cs = (takeN n (cs.drop off)).map .agg := by
  simp only [ldE, partC, takeN_eq, List.length_drop, if_true]
  split
  · rename_i h
    split
    · rfl
    · omega
  · rename_i h
    split
    · omega
    · rfl
def headO : List CV → Option CV
  | [] => none
  | c :: _ => some c
theorem ldE_f (off : Nat) (cs : List CV) : ldE false 1 off cs = headO (cs.drop off) := by
  simp only [ldE, partC, Bool.false_eq_true, if_false]
  split
  · rename_i h
    rw [List.drop_eq_getElem_cons (by omega), List.getElem?_eq_getElem (by omega)]
    rfl
  · rename_i h
    rw [List.drop_eq_nil_of_le (by omega)]
    rfl
theorem headO_cons (c : CV) (r : List CV) : headO (c :: r) = some c := (rfl)

theorem faddr_vp (off : Nat) (cs : List CV) : faddrC off (.vp cs) = some (.vp (cs.drop off)) := (rfl)
theorem faddr_op (off : Nat) (i : Id) (o : Nat) : faddrC off (.op i o) = some (.op i (o + off)) := (rfl)

theorem get_loc (bx : List (Nat × List CV)) (bl : List Blk) (s : Nat) : Heap.get ⟨bx, bl⟩ (.loc s) = look bx s := (rfl)
theorem get_blk (bx : List (Nat × List CV)) (bl : List Blk) (n : Nat) (cs : List CV) (h : bl[n]? = some (.cells cs)) : Heap.get ⟨bx, bl⟩ (.blk n) = some cs := by simp [Heap.get, h]
theorem get_b0 (bx : List (Nat × List CV)) (bl : List Blk) (cs : List CV) : Heap.get ⟨bx, .cells cs :: bl⟩ (.blk 0) = some cs := (rfl)
theorem get_b1 (bx : List (Nat × List CV)) (bl : List Blk) (b : Blk) (cs : List CV) : Heap.get ⟨bx, b :: .cells cs :: bl⟩ (.blk 1) = some cs := (rfl)
theorem get_b2 (bx : List (Nat × List CV)) (bl : List Blk) (b b' : Blk) (cs : List CV) : Heap.get ⟨bx, b :: b' :: .cells cs :: bl⟩ (.blk 2) = some cs := (rfl)
theorem look_hit {α : Type} (r : List (Nat × α)) (t : Nat) (v : α) : look ((t, v) :: r) t = some v := by simp [look]
theorem look_miss {α : Type} (r : List (Nat × α)) {s t : Nat} (v : α) (h : s ≠ t) : look ((s, v) :: r) t = look r t := by
  have : Nat.beq s t = false := by
    rw [← Bool.not_eq_true, Nat.beq_eq]; exact h
  simp [look, this]
theorem look_nil {α : Type} (t : Nat) : look ([] : List (Nat × α)) t = none := (rfl)

theorem setBx_hit (r : List (Nat × List CV)) (t : Nat) (v cs : List CV) : setBx ((t, v) :: r) t cs = (t, cs) :: r := by simp [setBx]
theorem setBx_miss (r : List (Nat × List CV)) {s t : Nat} (v cs : List CV) (h : s ≠ t) : setBx ((s, v) :: r) t cs = (s, v) :: setBx r t cs := by
  have : Nat.beq s t = false := by
    rw [← Bool.not_eq_true, Nat.beq_eq]; exact h
  simp [setBx, this]
theorem setBx_nil (t : Nat) (cs : List CV) : setBx [] t cs = [(t, cs)] := (rfl)

/-! ### Each kind of value -/
theorem one_int (k : IntKind) (n : Int) : CV.one (.int k n) = true := (rfl)
theorem und_int (k : IntKind) (n : Int) : CV.und? (.int k n) = false := (rfl)
theorem cells_int (k : IntKind) (n : Int) : CV.cells (.int k n) = [.int k n] := (rfl)
theorem one_bool (b : Bool) : CV.one (.bool b) = true := (rfl)
theorem und_bool (b : Bool) : CV.und? (.bool b) = false := (rfl)
theorem cells_bool (b : Bool) : CV.cells (.bool b) = [.bool b] := (rfl)
theorem one_op (i : Id) (o : Nat) : CV.one (.op i o) = true := (rfl)
theorem und_op (i : Id) (o : Nat) : CV.und? (.op i o) = false := (rfl)
theorem cells_op (i : Id) (o : Nat) : CV.cells (.op i o) = [.op i o] := (rfl)
theorem one_vp (cs : List CV) : CV.one (.vp cs) = true := (rfl)
theorem und_vp (cs : List CV) : CV.und? (.vp cs) = false := (rfl)
theorem cells_vp (cs : List CV) : CV.cells (.vp cs) = [.vp cs] := (rfl)
theorem one_vs (cs : List CV) (n : Nat) : CV.one (.vs cs n) = true := (rfl)
theorem und_vs (cs : List CV) (n : Nat) : CV.und? (.vs cs n) = false := (rfl)
theorem cells_vs (cs : List CV) (n : Nat) : CV.cells (.vs cs n) = [.vs cs n] := (rfl)
theorem one_os (z : Nat) (i : Id) (o n : Nat) : CV.one (.os z i o n) = true := (rfl)
theorem und_os (z : Nat) (i : Id) (o n : Nat) : CV.und? (.os z i o n) = false := (rfl)
theorem cells_os (z : Nat) (i : Id) (o n : Nat) : CV.cells (.os z i o n) = [.os z i o n] := (rfl)
theorem one_om (n : Nat) : CV.one (.om n) = true := (rfl)
theorem und_om (n : Nat) : CV.und? (.om n) = false := (rfl)
theorem cells_om (n : Nat) : CV.cells (.om n) = [.om n] := (rfl)
theorem one_nils : CV.one (.nils) = true := (rfl)
theorem und_nils : CV.und? (.nils) = false := (rfl)
theorem cells_nils : CV.cells (.nils) = [.nils] := (rfl)
theorem one_nilp : CV.one (.nilp) = true := (rfl)
theorem und_nilp : CV.und? (.nilp) = false := (rfl)
theorem cells_nilp : CV.cells (.nilp) = [.nilp] := (rfl)
theorem one_nilm : CV.one (.nilm) = true := (rfl)
theorem und_nilm : CV.und? (.nilm) = false := (rfl)
theorem cells_nilm : CV.cells (.nilm) = [.nilm] := (rfl)
theorem one_nilf : CV.one (.nilf) = true := (rfl)
theorem und_nilf : CV.und? (.nilf) = false := (rfl)
theorem cells_nilf : CV.cells (.nilf) = [.nilf] := (rfl)
theorem one_nili : CV.one (.nili) = true := (rfl)
theorem und_nili : CV.und? (.nili) = false := (rfl)
theorem cells_nili : CV.cells (.nili) = [.nili] := (rfl)
theorem one_float (k : FloatKind) (n : Nat) : CV.one (.float k n) = true := (rfl)
theorem und_float (k : FloatKind) (n : Nat) : CV.und? (.float k n) = false := (rfl)
theorem cells_float (k : FloatKind) (n : Nat) : CV.cells (.float k n) = [.float k n] := (rfl)
theorem one_cplx (k : FloatKind) (n m : Nat) : CV.one (.cplx k n m) = true := (rfl)
theorem und_cplx (k : FloatKind) (n m : Nat) : CV.und? (.cplx k n m) = false := (rfl)
theorem cells_cplx (k : FloatKind) (n m : Nat) : CV.cells (.cplx k n m) = [.cplx k n m] := (rfl)
theorem one_str (s : ByteArray) : CV.one (.str s) = true := (rfl)
theorem und_str (s : ByteArray) : CV.und? (.str s) = false := (rfl)
theorem cells_str (s : ByteArray) : CV.cells (.str s) = [.str s] := (rfl)
theorem one_fn (f : Fn) (a b : List CV) : CV.one (.fn f a b) = true := (rfl)
theorem und_fn (f : Fn) (a b : List CV) : CV.und? (.fn f a b) = false := (rfl)
theorem cells_fn (f : Fn) (a b : List CV) : CV.cells (.fn f a b) = [.fn f a b] := (rfl)
theorem one_ifc (t : TypeId) (v : CV) : CV.one (.ifc t v) = true := (rfl)
theorem und_ifc (t : TypeId) (v : CV) : CV.und? (.ifc t v) = false := (rfl)
theorem cells_ifc (t : TypeId) (v : CV) : CV.cells (.ifc t v) = [.ifc t v] := (rfl)
theorem cells_agg (cs : List CV) : CV.cells (.agg cs) = cs := (rfl)
theorem und_agg (cs : List CV) : CV.und? (.agg cs) = false := (rfl)
theorem loc_loc (s : Nat) : Id.loc? (.loc s) = true := (rfl)
theorem loc_blk (s : Nat) : Id.loc? (.blk s) = false := (rfl)
theorem lenOf_vs (cs : List CV) (n : Nat) : lenOf (.vs cs n) = n := (rfl)
theorem lenOf_os (z : Nat) (i : Id) (o n : Nat) : lenOf (.os z i o n) = n := (rfl)
theorem lenOf_nils : lenOf .nils = 0 := (rfl)
theorem isSl_vs (cs : List CV) (n : Nat) : isSl (.vs cs n) = true := (rfl)
theorem isSl_os (z : Nat) (i : Id) (o n : Nat) : isSl (.os z i o n) = true := (rfl)
theorem isSl_nils : isSl .nils = true := (rfl)

/-! ### What is asked of values -/

theorem chkV_sl {α : Type} (l : List Nat) (f : α → List CV) (x : List α) : chkV l (sl f x) = true := (rfl)
theorem chkV_int (l : List Nat) (k : IntKind) (n : Int) : chkV l (.int k n) = true := (rfl)
theorem chkV_bool (l : List Nat) (b : Bool) : chkV l (.bool b) = true := (rfl)
theorem chkV_loc (l : List Nat) (s o : Nat) : chkV l (.op (.loc s) o) = l.contains s := (rfl)
theorem chkV_blk (l : List Nat) (s o : Nat) : chkV l (.op (.blk s) o) = true := (rfl)
theorem chkV_agg (l : List Nat) (cs : List CV) : chkV l (.agg cs) = !CV.locs cs := (rfl)
theorem chkV_tup (l : List Nat) (cs : List CV) : chkV l (.tup cs) = !CV.locs cs := (rfl)
theorem chkV_vp (l : List Nat) (cs : List CV) : chkV l (.vp cs) = true := (rfl)
theorem chkV_vs (l : List Nat) (cs : List CV) (n : Nat) : chkV l (.vs cs n) = true := (rfl)
theorem chkV_os (l : List Nat) (z : Nat) (i : Id) (o n : Nat) : chkV l (.os z i o n) = !i.loc? := (rfl)
theorem chkV_om (l : List Nat) (n : Nat) : chkV l (.om n) = true := (rfl)
theorem chkV_und (l : List Nat) : chkV l .und = true := (rfl)
theorem chkV_nils (l : List Nat) : chkV l .nils = true := (rfl)
theorem chkV_nilp (l : List Nat) : chkV l .nilp = true := (rfl)
theorem chkV_nilm (l : List Nat) : chkV l .nilm = true := (rfl)
theorem chkV_nilf (l : List Nat) : chkV l .nilf = true := (rfl)
theorem chkV_nili (l : List Nat) : chkV l .nili = true := (rfl)
theorem chkV_float (l : List Nat) (k : FloatKind) (n : Nat) : chkV l (.float k n) = true := (rfl)
theorem chkV_cplx (l : List Nat) (k : FloatKind) (n m : Nat) : chkV l (.cplx k n m) = true := (rfl)
theorem chkV_str (l : List Nat) (s : ByteArray) : chkV l (.str s) = true := (rfl)
theorem chkV_fn (l : List Nat) (f : Fn) (a b : List CV) : chkV l (.fn f a b) = !(CV.locs a || CV.locs b) := (rfl)

theorem snap_eq (H : Heap) (st kn : Bool) (v : CV) : snap H st kn v = snapV H st kn (snapN H st kn 7) v := (rfl)
theorem snapN_succ (H : Heap) (st kn : Bool) (n : Nat) (v : CV) : snapN H st kn (n + 1) v = snapV H st kn (snapN H st kn n) v := (rfl)
theorem mapC_nil (f : CV → Option CV) : mapC f [] = some [] := (rfl)
theorem snapL_nil (H : Heap) (st kn : Bool) : snapL H st kn [] = some [] := (rfl)

/-- Behind the first of some. -/
def consO (o : Option (List CV)) (c : CV) : Option (List CV) := o.map (c :: ·)
theorem consO_some (l : List CV) (c : CV) : consO (some l) c = some (c :: l) := (rfl)
theorem mapC_cons (f : CV → Option CV) (c : CV) (cs : List CV) : mapC f (c :: cs) = (f c).bind (consO (mapC f cs)) := (rfl)
theorem snapL_cons (H : Heap) (st kn : Bool) (c : CV) (cs : List CV) : snapL H st kn (c :: cs) = (snap H st kn c).bind (consO (snapL H st kn cs)) := (rfl)
section
variable (H : Heap) (st kn : Bool) (f : CV → Option CV)
theorem snapV_int (k : IntKind) (n : Int) : snapV H st kn f (.int k n) = some (.int k n) := (rfl)
theorem snapV_bool (b : Bool) : snapV H st kn f (.bool b) = some (.bool b) := (rfl)
theorem snapV_str (b : ByteArray) : snapV H st kn f (.str b) = some (.str b) := (rfl)
theorem snapV_cplx (k : FloatKind) (a b : Nat) : snapV H st kn f (.cplx k a b) = some (.cplx k a b) := (rfl)
theorem snapV_float (k : FloatKind) (a : Nat) : snapV H st kn f (.float k a) = some (.float k a) := (rfl)
theorem snapV_nilp : snapV H st kn f .nilp = some .nilp := (rfl)
theorem snapV_nils : snapV H st false f .nils = some (.vs [] 0) := (rfl)
theorem snapV_nilsk : snapV H st true f .nils = some .nils := (rfl)
theorem snapV_vp (cs : List CV) : snapV H false kn f (.vp cs) = some (.vp cs) := (rfl)
theorem snapV_vs (cs : List CV) (n : Nat) : snapV H false kn f (.vs cs n) = some (.vs cs n) := (rfl)
theorem snapVs_nil : snapVs H st kn f [] = some [] := (rfl)
theorem snapVs_cons (c : CV) (cs : List CV) : snapVs H st kn f (c :: cs) = (snapV H st kn f c).bind (consO (snapVs H st kn f cs)) := (rfl)
theorem snapV_agg (cs : List CV) : snapV H st kn f (.agg cs) = (snapVs H st kn f cs).map .agg := (rfl)
theorem snapV_tup (cs : List CV) : snapV H st kn f (.tup cs) = (snapVs H st kn f cs).map .tup := (rfl)
/-- A pointer's cells. -/
def snapP (f : CV → Option CV) (off : Nat) (cs : List CV) : Option CV := if off ≤ cs.length then (mapC f (cs.drop off)).map .vp else none
theorem snapV_op (i : Id) (off : Nat) : snapV H st kn f (.op i off) = (H.get i).bind (snapP f off) := (rfl)
theorem snapP_eq (off : Nat) (cs : List CV) : snapP f off cs = if off ≤ cs.length then (mapC f (cs.drop off)).map .vp else none := (rfl)
/-- Behind the bound ones. -/
def fnO (g : Fn) (a : List CV) (o : Option (List CV)) : Option CV := o.map fun c => .fn g a c
theorem snapV_fn (g : Fn) (c : List CV) : snapV H st kn f (.fn g [] c) = fnO g [] (snapVs H st kn f c) := (rfl)
theorem fnO_some (g : Fn) (a c : List CV) : fnO g a (some c) = some (.fn g a c) := (rfl)
end
theorem sl_nil {α : Type} (f : α → List CV) : CV.vs [] 0 = sl f [] := (rfl)

/-! ### Results -/
/-- Behind the first result. -/
theorem resAll_nil (env : Env) (H : Heap) : resAll env H [] = some [] := (rfl)
theorem resAll_cons (env : Env) (H : Heap) (r : Res) (rs : List Res) : resAll env H (r :: rs) = (resOne env H r).bind (consO (resAll env H rs)) := (rfl)
theorem resOne_tmp (env : Env) (H : Heap) (t : Nat) : resOne env H (.tmp t) = some (Env.at env t) := (rfl)
theorem resOne_cell (env : Env) (H : Heap) (t n : Nat) (agg : Bool) : resOne env H (.cell t agg n) = loadC agg n H (Env.at env t) := by
  show ((loadC agg n H (Env.at env t)).map fun v => (v, H)).map (·.1) = _
  cases loadC agg n H (Env.at env t) <;> rfl

/-! ### Writing -/
/-- Into a block's cells. -/
def stE (n : Nat) (off : Nat) (x : CV) (H : Heap) (i : Id) (cs : List CV) : Option Heap :=
  if x.cells.length = n ∧ off + n ≤ cs.length ∧ ones x.cells = true ∧ (i.loc? = true ∨ CV.locs x.cells = false) then some (H.put i (setMany cs off x.cells)) else none
theorem storeC_op (n : Nat) (x : CV) (H : Heap) (i : Id) (off : Nat) : storeC n x H (.op i off) = (H.get i).bind (stE n off x H i) := (rfl)
theorem stE_loc (n off : Nat) (x : CV) (H : Heap) (s : Nat) (cs : List CV) : stE n off x H (.loc s) cs = if x.cells.length = n ∧ off + n ≤ cs.length ∧ ones x.cells = true then some (H.put (.loc s) (setMany cs off x.cells)) else none := by
  simp [stE, Id.loc?]
theorem put_loc (bx : List (Nat × List CV)) (bl : List Blk) (s : Nat) (cs : List CV) : Heap.put ⟨bx, bl⟩ (.loc s) cs = ⟨setBx bx s cs, bl⟩ := (rfl)
theorem put_blk (bx : List (Nat × List CV)) (bl : List Blk) (s : Nat) (cs : List CV) : Heap.put ⟨bx, bl⟩ (.blk s) cs = ⟨bx, bl.set s (.cells cs)⟩ := (rfl)
/-- A heap behind a store. -/
def unitH (H : Heap) : CV × Heap := (.tup [], H)
theorem hop_load (agg : Bool) (n : Nat) (x : CV) (H : Heap) : heapOp (.load agg n) [x] H = (loadC agg n H x).map fun v => (v, H) := (rfl)
theorem hop_store (n : Nat) (p x : CV) (H : Heap) : heapOp (.store n) [p, x] H = (storeC n x H p).map unitH := (rfl)
theorem unitH_mk (H : Heap) : unitH H = (.tup [], H) := (rfl)
theorem hop_box (s : Nat) (x : CV) (bx : List (Nat × List CV)) (bl : List Blk) : heapOp (.box s) [x] ⟨bx, bl⟩ = if (ones x.cells && (look bx s).isNone) = true then some (.op (.loc s) 0, ⟨setBx bx s x.cells, bl⟩) else none := (rfl)
theorem hop_newl (s : Nat) (zero : List CV) (bx : List (Nat × List CV)) (bl : List Blk) : heapOp (.newl s zero) [] ⟨bx, bl⟩ = if ((look bx s).isNone && ones zero && !CV.locs zero) = true then some (.op (.loc s) 0, ⟨setBx bx s zero, bl⟩) else none := (rfl)
theorem hop_boxh (x : CV) (bx : List (Nat × List CV)) (bl : List Blk) : heapOp .boxh [x] ⟨bx, bl⟩ = if (ones x.cells && !CV.locs x.cells) = true then some (.op (.blk bl.length) 0, ⟨bx, bl ++ [.cells x.cells]⟩) else none := (rfl)
theorem hop_newh (zero : List CV) (bx : List (Nat × List CV)) (bl : List Blk) : heapOp (.newh zero) [] ⟨bx, bl⟩ = if (ones zero && !CV.locs zero) = true then some (.op (.blk bl.length) 0, ⟨bx, bl ++ [.cells zero]⟩) else none := (rfl)
theorem ones_nil : ones [] = true := (rfl)
theorem ones_cons (c : CV) (cs : List CV) : ones (c :: cs) = (c.one && ones cs) := (rfl)

/-- A literal's cells, frozen. -/
def frzE (sz len : Nat) (H : Heap) (cs : List CV) : Option (CV × Heap) := if (ones cs && !CV.refs cs && decide (cs.length = len * sz)) = true then some (.vs cs len, H) else none
theorem hop_bslF (sz len : Nat) (zero : List CV) (parts : List (Nat × Nat)) (vs : List CV) (H : Heap) : heapOp (.bslF sz len zero parts) vs H = if vs.length = parts.length then (fillC (repC zero len) (parts.zip vs)).bind (frzE sz len H) else none := (rfl)
theorem frzE_eq (sz len : Nat) (H : Heap) (cs : List CV) : frzE sz len H cs = if (ones cs && !CV.refs cs && decide (cs.length = len * sz)) = true then some (.vs cs len, H) else none := (rfl)
def ownE (sz len : Nat) (H : Heap) (cs : List CV) : Option (CV × Heap) := if (ones cs && !CV.locs cs && decide (cs.length = len * sz)) = true then some (.os sz (.blk H.bl.length) 0 len, H.push (.cells cs)) else none
theorem hop_bslO (sz len : Nat) (zero : List CV) (parts : List (Nat × Nat)) (vs : List CV) (H : Heap) : heapOp (.bslO sz len zero parts) vs H = if vs.length = parts.length then (fillC (repC zero len) (parts.zip vs)).bind (ownE sz len H) else none := (rfl)
theorem ownE_eq (sz len : Nat) (H : Heap) (cs : List CV) : ownE sz len H cs = if (ones cs && !CV.locs cs && decide (cs.length = len * sz)) = true then some (.os sz (.blk H.bl.length) 0 len, H.push (.cells cs)) else none := (rfl)
theorem push_eq (bx : List (Nat × List CV)) (bl : List Blk) (b : Blk) : Heap.push ⟨bx, bl⟩ b = ⟨bx, bl ++ [b]⟩ := (rfl)
theorem fillC_nil (cs : List CV) : fillC cs [] = some cs := (rfl)
theorem fillC_cons (cs : List CV) (off size : Nat) (v : CV) (r : List ((Nat × Nat) × CV)) : fillC cs (((off, size), v) :: r) = if v.cells.length = size ∧ off + size ≤ cs.length ∧ v.und? = false then fillC (setMany cs off v.cells) r else none := (rfl)
theorem pure_bld (zero : List CV) (parts : List (Nat × Nat)) (vs : List CV) : pureOp (.bld zero parts) vs = if vs.length = parts.length then (fillC zero (parts.zip vs)).map .agg else none := (rfl)
theorem setMany_nil (cs : List CV) (o : Nat) : setMany cs o [] = cs := (rfl)
theorem setMany_cons (cs : List CV) (o : Nat) (c : CV) (r : List CV) : setMany cs o (c :: r) = setMany (cs.set o c) (o + 1) r := (rfl)

/-- Zeros, appended to nil. -/
theorem hop_appz (sz bytes : Nat) (zero : List CV) (k : IntKind) (l : Int) (bx : List (Nat × List CV)) (bl : List Blk) : heapOp (.appz sz bytes zero) [.nils, .int k l] ⟨bx, bl⟩ =
    if (decide (0 < sz) && decide (0 < bytes) && decide (0 < l) && decide (l * bytes ≤ 140737488355328) && decide (zero.length = sz) && ones zero && !CV.locs zero) = true then some (.os sz (.blk bl.length) 0 l.toNat, ⟨bx, bl ++ [.cells (repC zero l.toNat)]⟩) else none := (rfl)
/-- A slice made of zeros. -/
theorem hop_mksl (sz bytes : Nat) (zero : List CV) (k k' : IntKind) (l c : Int) (bx : List (Nat × List CV)) (bl : List Blk) : heapOp (.mksl sz bytes zero) [.int k l, .int k' c] ⟨bx, bl⟩ =
    if (decide (zero.length = sz) && ones zero && !CV.locs zero) = true then (if 0 ≤ l ∧ l ≤ c ∧ c * bytes ≤ 140737488355328 ∧ c ≤ 140737488355328 then some (.os sz (.blk bl.length) 0 l.toNat, ⟨bx, bl ++ [.cells (repC zero c.toNat)]⟩) else none) else none := (rfl)
theorem hop_mkslF (sz bytes : Nat) (zero : List CV) (k k' : IntKind) (l c : Int) (H : Heap) : heapOp (.mkslF sz bytes zero) [.int k l, .int k' c] H =
    if (decide (zero.length = sz) && !CV.refs zero) = true then (if 0 ≤ l ∧ l = c ∧ c * bytes ≤ 140737488355328 ∧ c ≤ 140737488355328 then some (.vs (repC zero l.toNat) l.toNat, H) else none) else none := (rfl)
theorem hop_clear (sz : Nat) (zero : List CV) (x : CV) (H : Heap) : heapOp (.clear sz zero) [x] H = if (ones zero && !CV.locs zero && decide (zero.length = sz)) = true then (clearC sz zero H x).map unitH else none := (rfl)
theorem hl_one (call : Caller) (s off : Nat) (o : HOp) (H : Heap) : runOp call (.hl s o) [.op (.loc s) off] H = heapOp o [.op (.loc s) off] H := by simp [runOp, CV.locs]
theorem hl_two (call : Caller) (s off : Nat) (o : HOp) (x : CV) (H : Heap) : runOp call (.hl s o) [.op (.loc s) off, x] H = if x.locv = false then heapOp o [.op (.loc s) off, x] H else none := by
  simp only [runOp, CV.locs, Bool.or_false, true_and]
theorem hb_eq (call : Caller) (o : HOp) (vs : List CV) (H : Heap) : runOp call (.hb o) vs H = if CV.locs vs = true then none else heapOp o vs H := (rfl)
theorem iaddrA_int (len sz : Nat) (x : CV) (k : IntKind) (n : Int) : iaddrAC len sz x (.int k n) = if 0 ≤ n ∧ n < len then faddrC (n.toNat * sz) x else none := (rfl)

/-! ### Reckoning -/
section
variable (e : EqT) (k : IntKind) (a b : Int)
theorem bin_add : binC .add e (.int k a) (.int k b) = some (.int k (k.wrap (a + b))) := by simp [binC, intBin]
theorem bin_sub : binC .sub e (.int k a) (.int k b) = some (.int k (k.wrap (a - b))) := by simp [binC, intBin]
theorem bin_mul : binC .mul e (.int k a) (.int k b) = some (.int k (k.wrap (a * b))) := by simp [binC, intBin]
theorem bin_quo : binC .quo e (.int k a) (.int k b) = if b = 0 then none else some (.int k (k.wrap (a.tdiv b))) := by simp [binC, intBin]
theorem bin_rem : binC .rem e (.int k a) (.int k b) = if b = 0 then none else some (.int k (a.tmod b)) := by simp [binC, intBin]
theorem bin_eql : binC .eql e (.int k a) (.int k b) = some (.bool (decide (a = b))) := by
  have : (a == b) = decide (a = b) := by by_cases h : a = b <;> simp [h]
  simp [binC, intBin, this]
theorem bin_neq : binC .neq e (.int k a) (.int k b) = some (.bool (!decide (a = b))) := by
  have : (a == b) = decide (a = b) := by by_cases h : a = b <;> simp [h]
  simp [binC, intBin, bne, this]
theorem bin_lss : binC .lss e (.int k a) (.int k b) = some (.bool (decide (a < b))) := by simp [binC, intBin]
theorem bin_leq : binC .leq e (.int k a) (.int k b) = some (.bool (decide (a ≤ b))) := by simp [binC, intBin]
theorem bin_gtr : binC .gtr e (.int k a) (.int k b) = some (.bool (decide (b < a))) := by simp [binC, intBin]
theorem bin_geq : binC .geq e (.int k a) (.int k b) = some (.bool (decide (b ≤ a))) := by simp [binC, intBin]
theorem bin_eqlb (a b : Bool) : binC .eql .bool (.bool a) (.bool b) = some (.bool (a == b)) := (rfl)
theorem bin_neqb (a b : Bool) : binC .neq .bool (.bool a) (.bool b) = some (.bool (!(a == b))) := (rfl)
theorem bin_eqla (l : List (Nat × Bool × Nat × EqT)) (a b : List CV) : binC .eql (.parts l) (.agg a) (.agg b) = (eqCs l a b).map .bool := (rfl)
theorem bin_neqa (l : List (Nat × Bool × Nat × EqT)) (a b : List CV) : binC .neq (.parts l) (.agg a) (.agg b) = (eqCs l a b).map fun b => .bool (!b) := (rfl)
theorem bin_shr (k' : IntKind) (hb : 0 ≤ b) : binC .shr e (.int k a) (.int k' b) = some (.int k (a.fdiv (2 ^ (min b.toNat k.bits)))) := by simp [binC, shiftBin, Int.not_lt.2 hb]
theorem toFloat_int (k' : FloatKind) : toFloatC k' (.int k a) = some (.float k' (k'.nearest a)) := (rfl)
theorem cplx_float (k' : FloatKind) (x y : Nat) : cplxC (.float k' x) (.float k' y) = some (.cplx k' x y) := by simp [cplxC]
theorem toInt_int (k' : IntKind) : toIntC k (.int k' a) = some (.int k (k.wrap a)) := (rfl)
theorem cap_nils : capC .nils = some (.int .i64 0) := (rfl)
theorem lenC_nils : lenC .nils = some (.int .i64 0) := (rfl)
theorem lenC_os (z : Nat) (i : Id) (o n : Nat) : lenC (.os z i o n) = some (.int .i64 n) := (rfl)
theorem lenC_vs (cs : List CV) (n : Nat) : lenC (.vs cs n) = some (.int .i64 n) := (rfl)
theorem pick_bool (c : Bool) (x y : CV) : pickC (.bool c) x y = some (if c then x else y) := (rfl)
theorem nchk_op (i : Id) (o : Nat) : nchkC (.op i o) = some (.op i o) := (rfl)
theorem nchk_vp (cs : List CV) : nchkC (.vp cs) = some (.vp cs) := (rfl)
theorem nchk_fn (f : FuncId) (x y : List CV) : nchkC (.fn (.func f) x y) = some (.fn (.func f) x y) := (rfl)
theorem fld_agg (agg : Bool) (n off : Nat) (cs : List CV) : fldC agg n off (.agg cs) = partC agg n off cs := (rfl)
theorem part_t (n off : Nat) (cs : List CV) : partC true n off cs = some (.agg ((cs.drop off).take n)) := (rfl)
theorem part_f (n off : Nat) (cs : List CV) : partC false n off cs = cs[off]? := (rfl)
theorem ext_tup (i : Nat) (cs : List CV) : extC i (.tup cs) = cs[i]? := (rfl)
theorem un_not (b : Bool) : unC .not (.bool b) = some (.bool (!b)) := (rfl)
end
theorem decide_not' {p : Prop} [Decidable p] : (decide p = false) = ¬p := by simp
theorem decide_true' {p : Prop} [Decidable p] : (decide p = true) = p := by simp

/-! ### A call by value -/

/-- What is handed out of a body that runs by value. -/
def fzSnap (st kn : Bool) (H H' : Heap) (vs : List CV) : Option (CV × Heap) := (snap H' st kn (resV vs)).map fun w => (w, H)
theorem fzSnap_eq (st kn : Bool) (H H' : Heap) (vs : List CV) : fzSnap st kn H H' vs = (snap H' st kn (resV vs)).map fun w => (w, H) := (rfl)
def fzOut (res : List Res) (st kn : Bool) (H : Heap) : Ex × Env × Heap → Option (CV × Heap)
  | (.exit _, _, _) => none
  | (_, env, H') => (resAll env H' res).bind (fzSnap st kn H H')
theorem fzOut_norm (res : List Res) (st kn : Bool) (H H' : Heap) (env : Env) : fzOut res st kn H (.norm, env, H') = (resAll env H' res).bind (fzSnap st kn H H') := (rfl)
theorem fzOut_ret (res : List Res) (st kn : Bool) (H H' : Heap) (env : Env) : fzOut res st kn H (.ret, env, H') = (resAll env H' res).bind (fzSnap st kn H H') := (rfl)
noncomputable def fzE (C : Ctx) (kn : Bool) (np : Nat) (code : CCode) (res : List Res) (st : Bool) (H : Heap) (as : List CV) : Option (CV × Heap) :=
  if as.length = np then (eval C code (enterC 0 as) ⟨[], []⟩).bind (fzOut res st kn H) else none
theorem fzE_eq (C : Ctx) (kn : Bool) (np : Nat) (code : CCode) (res : List Res) (st : Bool) (H : Heap) (as : List CV) : fzE C kn np code res st H as = if as.length = np then (eval C code (enterC 0 as) ⟨[], []⟩).bind (fzOut res st kn H) else none := (rfl)

theorem fz_call {C : Ctx} {k : FuncId} {kn : Bool} {np : Nat} {code : CCode} {res : List Res} (hp : C.prim k = none) (hi : C.info k = some ⟨.fz kn, np, code, res⟩) (cap args : List CV) (H : Heap) :
    call C (.fn (.func k) [] cap) args H = (snapL H false false (args ++ cap)).bind (fzE C kn np code res (CV.refs (args ++ cap)) H) := by
  unfold call callC
  simp only [List.nil_append, hp, hi]
  congr 1
  funext as
  unfold fzE bodyC
  by_cases hn : as.length = np
  · simp only [hn, if_true]
    cases eval C code (enterC 0 as) ⟨[], []⟩ with
    | none => rfl
    | some x =>
      obtain ⟨x, env, H'⟩ := x
      cases x with
      | exit i => rfl
      | norm =>
        simp only [Option.bind_some, fzOut]
        cases resAll env H' res <;> rfl
      | ret =>
        simp only [Option.bind_some, fzOut]
        cases resAll env H' res <;> rfl
  · simp only [if_neg hn, Option.bind_none]

/-- What is handed out of a body that makes a slice. -/
def ownSnap (st : Bool) (H H' : Heap) (vs : List CV) : Option (CV × Heap) := (ownOf st H' (resV vs)).map fun
  | none => (.nils, H)
  | some (sz, n, cs) => (.os sz (.blk H.bl.length) 0 n, H.push (.cells cs))
def ownOut (res : List Res) (st : Bool) (H : Heap) : Ex × Env × Heap → Option (CV × Heap)
  | (.exit _, _, _) => none
  | (_, env, H') => (resAll env H' res).bind (ownSnap st H H')
theorem ownOut_norm (res : List Res) (st : Bool) (H H' : Heap) (env : Env) : ownOut res st H (.norm, env, H') = (resAll env H' res).bind (ownSnap st H H') := (rfl)
theorem ownOut_ret (res : List Res) (st : Bool) (H H' : Heap) (env : Env) : ownOut res st H (.ret, env, H') = (resAll env H' res).bind (ownSnap st H H') := (rfl)
noncomputable def oE (C : Ctx) (np : Nat) (code : CCode) (res : List Res) (st : Bool) (H : Heap) (as : List CV) : Option (CV × Heap) :=
  if as.length = np then (eval C code (enterC 0 as) ⟨[], []⟩).bind (ownOut res st H) else none
theorem oE_eq (C : Ctx) (np : Nat) (code : CCode) (res : List Res) (st : Bool) (H : Heap) (as : List CV) : oE C np code res st H as = if as.length = np then (eval C code (enterC 0 as) ⟨[], []⟩).bind (ownOut res st H) else none := (rfl)

theorem own_call {C : Ctx} {k : FuncId} {np : Nat} {code : CCode} {res : List Res} (hp : C.prim k = none) (hi : C.info k = some ⟨.own, np, code, res⟩) (cap args : List CV) (H : Heap) :
    call C (.fn (.func k) [] cap) args H = (snapL H false false (args ++ cap)).bind (oE C np code res (CV.refs (args ++ cap)) H) := by
  unfold call callC
  simp only [List.nil_append, hp, hi]
  congr 1
  funext as
  unfold oE bodyC
  by_cases hn : as.length = np
  · simp only [hn, if_true]
    cases eval C code (enterC 0 as) ⟨[], []⟩ with
    | none => rfl
    | some x =>
      obtain ⟨x, env, H'⟩ := x
      cases x with
      | exit i => rfl
      | norm =>
        simp only [Option.bind_some, ownOut]
        cases resAll env H' res <;> rfl
      | ret =>
        simp only [Option.bind_some, ownOut]
        cases resAll env H' res <;> rfl
  · simp only [if_neg hn, Option.bind_none]

/-- What is handed out of a body that works on the caller's memory. -/
def refSnap (bx : List (Nat × List CV)) (H' : Heap) (vs : List CV) : Option (CV × Heap) := if (resV vs).locv then none else some (resV vs, ⟨bx, H'.bl⟩)
theorem refSnap_eq (bx : List (Nat × List CV)) (H' : Heap) (vs : List CV) : refSnap bx H' vs = if (resV vs).locv then none else some (resV vs, ⟨bx, H'.bl⟩) := (rfl)
def refOut (res : List Res) (bx : List (Nat × List CV)) : Ex × Env × Heap → Option (CV × Heap)
  | (.exit _, _, _) => none
  | (_, env, H') => (resAll env H' res).bind (refSnap bx H')
theorem refOut_norm (res : List Res) (bx : List (Nat × List CV)) (H' : Heap) (env : Env) : refOut res bx (.norm, env, H') = (resAll env H' res).bind (refSnap bx H') := (rfl)
theorem refOut_ret (res : List Res) (bx : List (Nat × List CV)) (H' : Heap) (env : Env) : refOut res bx (.ret, env, H') = (resAll env H' res).bind (refSnap bx H') := (rfl)

theorem ref_call {C : Ctx} {k : FuncId} {np : Nat} {code : CCode} {res : List Res} (hp : C.prim k = none) (hi : C.info k = some ⟨.ref, np, code, res⟩) (cap args : List CV) (bx : List (Nat × List CV)) (bl : List Blk) :
    call C (.fn (.func k) [] cap) args ⟨bx, bl⟩ = if CV.locs (args ++ cap) then none else if (args ++ cap).length = np then (eval C code (enterC 0 (args ++ cap)) ⟨[], bl⟩).bind (refOut res bx) else none := by
  unfold call callC
  simp only [List.nil_append, hp, hi]
  split
  · rfl
  · unfold bodyC
    by_cases hn : (args ++ cap).length = np
    · simp only [if_pos hn]
      cases eval C code (enterC 0 (args ++ cap)) ⟨[], bl⟩ with
      | none => rfl
      | some x =>
        obtain ⟨x, env, H'⟩ := x
        cases x with
        | exit i => rfl
        | norm =>
          simp only [Option.bind_some, refOut]
          cases resAll env H' res <;> rfl
        | ret =>
          simp only [Option.bind_some, refOut]
          cases resAll env H' res <;> rfl
    · simp only [if_neg hn, Option.bind_none]

/-! ### Short forms -/
def sM (d s : Nat) : CStm := ⟨some d, .p .mov, [.t s], none⟩
def sP (d : Nat) (o : POp) (as : List Opd) : CStm := ⟨some d, .p o, as, none⟩
def sH (d : Nat) (o : HOp) (as : List Opd) : CStm := ⟨some d, .h o, as, none⟩
def sHn (o : HOp) (as : List Opd) : CStm := ⟨none, .h o, as, none⟩
def sB (d : Nat) (o : HOp) (as : List Opd) : CStm := ⟨some d, .hb o, as, none⟩
def sBn (o : HOp) (as : List Opd) : CStm := ⟨none, .hb o, as, none⟩
def sL (d s : Nat) (o : HOp) (as : List Opd) : CStm := ⟨some d, .hl s o, as, none⟩
def sLn (s : Nat) (o : HOp) (as : List Opd) : CStm := ⟨none, .hl s o, as, none⟩
def sC (d : Nat) (k : FuncId) (as : List Opd) : CStm := ⟨some d, .call, .c (.fn (.func k) [] []) :: as, none⟩
def sCb (d : Nat) (k : FuncId) (as : List Opd) : CStm := ⟨some d, .callb, .c (.fn (.func k) [] []) :: as, none⟩
def sCp (d : Nat) (k : FuncId) (as : List Opd) : CStm := ⟨some d, .callp, .c (.fn (.func k) [] []) :: as, none⟩
def sCv (d : Nat) (k : FuncId) (as : List Opd) : CStm := ⟨some d, .callv, .c (.fn (.func k) [] []) :: as, none⟩
def sG (s : CStm) (g : Nat) (b : Bool) : CStm := { s with guard := some (g, b) }
/-- Where a guard stands. -/
noncomputable def guardS (C : Ctx) (want : Bool) (s : CStm) (r : List CStm) (env : Env) (H : Heap) (g : CV) : Option (Env × Heap) :=
  match gvC g with
  | some c => if c = some want then runOps (call C) (s :: r) env H else runOps (call C) r (putD env s.dst (.tup [])) H
  | none => none
section
variable (C : Ctx) (env : Env) (H : Heap) (d s : Nat) (as : List Opd) (r : List CStm)
theorem runOps_sM : runOps (call C) (sM d s :: r) env H = runOps (call C) r ((d, Env.at env s) :: env) H := (rfl)
theorem runOps_sP (o : POp) : runOps (call C) (sP d o as :: r) env H = ((pureOp o (evs env as)).map fun v => (v, H)).bind (restE C (some d) r env) := (rfl)
theorem runOps_sH (o : HOp) : runOps (call C) (sH d o as :: r) env H = (heapOp o (evs env as) H).bind (restE C (some d) r env) := (rfl)
theorem runOps_sHn (o : HOp) : runOps (call C) (sHn o as :: r) env H = (heapOp o (evs env as) H).bind (restE C none r env) := (rfl)
theorem runOps_sB (o : HOp) : runOps (call C) (sB d o as :: r) env H = (runOp (call C) (.hb o) (evs env as) H).bind (restE C (some d) r env) := (rfl)
theorem runOps_sBn (o : HOp) : runOps (call C) (sBn o as :: r) env H = (runOp (call C) (.hb o) (evs env as) H).bind (restE C none r env) := (rfl)
theorem runOps_sL (o : HOp) : runOps (call C) (sL d s o as :: r) env H = (runOp (call C) (.hl s o) (evs env as) H).bind (restE C (some d) r env) := (rfl)
theorem runOps_sLn (o : HOp) : runOps (call C) (sLn s o as :: r) env H = (runOp (call C) (.hl s o) (evs env as) H).bind (restE C none r env) := (rfl)
theorem runOps_sC (k : FuncId) : runOps (call C) (sC d k as :: r) env H = (call C (.fn (.func k) [] []) (evs env as) H).bind (restE C (some d) r env) := (rfl)
theorem runOps_sCb (k : FuncId) : runOps (call C) (sCb d k as :: r) env H = ((call C (.fn (.func k) [] []) (evs env as) ⟨[], H.bl⟩).map fun x => (x.1, (⟨H.bx, x.2.bl⟩ : Heap))).bind (restE C (some d) r env) := (rfl)
theorem runOps_sCp (k : FuncId) : runOps (call C) (sCp d k as :: r) env H = ((call C (.fn (.func k) [] []) (evs env as) ⟨[], H.bl⟩).bind fun x => if isPre H.bl x.2.bl then some (x.1, (⟨H.bx, x.2.bl⟩ : Heap)) else none).bind (restE C (some d) r env) := (rfl)
theorem runOps_sCv (k : FuncId) : runOps (call C) (sCv d k as :: r) env H = (if CV.refs (.fn (.func k) [] [] :: evs env as) then none else (call C (.fn (.func k) [] []) (evs env as) ⟨[], []⟩).map fun x => (x.1, H)).bind (restE C (some d) r env) := (rfl)
theorem runOps_sG {s : CStm} (hs : s.guard = none) (g : Nat) (want : Bool) : runOps (call C) (sG s g want :: r) env H = guardS C want s r env H (Env.at env g) := by
  obtain ⟨d, o, as, gu⟩ := s
  simp only at hs
  subst hs
  rfl
theorem guardS_bool (want : Bool) (s : CStm) (b : Bool) : guardS C want s r env H (.bool b) = if b = want then runOps (call C) (s :: r) env H else runOps (call C) r (putD env s.dst (.tup [])) H := by
  simp only [guardS, gvC, Option.some.injEq]
theorem guardS_skip (want : Bool) (s : CStm) : guardS C want s r env H (.tup []) = runOps (call C) r (putD env s.dst (.tup [])) H := by
  simp [guardS, gvC]
theorem sM_g : (sM d s).guard = none := (rfl)
theorem sP_g (o : POp) : (sP d o as).guard = none := (rfl)
theorem sH_g (o : HOp) : (sH d o as).guard = none := (rfl)
theorem sHn_g (o : HOp) : (sHn o as).guard = none := (rfl)
theorem sB_g (o : HOp) : (sB d o as).guard = none := (rfl)
theorem sBn_g (o : HOp) : (sBn o as).guard = none := (rfl)
theorem sL_g (o : HOp) : (sL d s o as).guard = none := (rfl)
theorem sLn_g (o : HOp) : (sLn s o as).guard = none := (rfl)
theorem sC_g (k : FuncId) : (sC d k as).guard = none := (rfl)
theorem sCb_g (k : FuncId) : (sCb d k as).guard = none := (rfl)
theorem sCp_g (k : FuncId) : (sCp d k as).guard = none := (rfl)
theorem sCv_g (k : FuncId) : (sCv d k as).guard = none := (rfl)
theorem sM_d : (sM d s).dst = some d := (rfl)
theorem sP_d (o : POp) : (sP d o as).dst = some d := (rfl)
theorem sH_d (o : HOp) : (sH d o as).dst = some d := (rfl)
theorem sHn_d (o : HOp) : (sHn o as).dst = none := (rfl)
theorem sB_d (o : HOp) : (sB d o as).dst = some d := (rfl)
theorem sBn_d (o : HOp) : (sBn o as).dst = none := (rfl)
theorem sL_d (o : HOp) : (sL d s o as).dst = some d := (rfl)
theorem sLn_d (o : HOp) : (sLn s o as).dst = none := (rfl)
theorem sC_d (k : FuncId) : (sC d k as).dst = some d := (rfl)
theorem sCb_d (k : FuncId) : (sCb d k as).dst = some d := (rfl)
theorem sCp_d (k : FuncId) : (sCp d k as).dst = some d := (rfl)
theorem sCv_d (k : FuncId) : (sCv d k as).dst = some d := (rfl)
theorem stm_d (d : Option Nat) (o : COp) (as : List Opd) (g : Option (Nat × Bool)) : CStm.dst ⟨d, o, as, g⟩ = d := (rfl)
theorem stm_g (d : Option Nat) (o : COp) (as : List Opd) (g : Option (Nat × Bool)) : CStm.guard ⟨d, o, as, g⟩ = g := (rfl)
end
theorem locv_und : CV.locv .und = false := (rfl)
theorem locv_bool (b : Bool) : CV.locv (.bool b) = false := (rfl)
theorem locv_int (k : IntKind) (n : Int) : CV.locv (.int k n) = false := (rfl)
theorem locv_float (k : FloatKind) (n : Nat) : CV.locv (.float k n) = false := (rfl)
theorem locv_cplx (k : FloatKind) (a b : Nat) : CV.locv (.cplx k a b) = false := (rfl)
theorem locv_str (s : ByteArray) : CV.locv (.str s) = false := (rfl)
theorem locv_nilp : CV.locv .nilp = false := (rfl)
theorem locv_vp (cs : List CV) : CV.locv (.vp cs) = false := (rfl)
theorem locv_nils : CV.locv .nils = false := (rfl)
theorem locv_vs (cs : List CV) (n : Nat) : CV.locv (.vs cs n) = false := (rfl)
theorem locv_nilm : CV.locv .nilm = false := (rfl)
theorem locv_om (n : Nat) : CV.locv (.om n) = false := (rfl)
theorem locv_nilf : CV.locv .nilf = false := (rfl)
theorem locv_nili : CV.locv .nili = false := (rfl)
theorem ref_und : CV.ref .und = false := (rfl)
theorem ref_bool (b : Bool) : CV.ref (.bool b) = false := (rfl)
theorem ref_int (k : IntKind) (n : Int) : CV.ref (.int k n) = false := (rfl)
theorem ref_float (k : FloatKind) (n : Nat) : CV.ref (.float k n) = false := (rfl)
theorem ref_cplx (k : FloatKind) (a b : Nat) : CV.ref (.cplx k a b) = false := (rfl)
theorem ref_str (s : ByteArray) : CV.ref (.str s) = false := (rfl)
theorem ref_nilp : CV.ref .nilp = false := (rfl)
theorem ref_vp (cs : List CV) : CV.ref (.vp cs) = false := (rfl)
theorem ref_nils : CV.ref .nils = false := (rfl)
theorem ref_vs (cs : List CV) (n : Nat) : CV.ref (.vs cs n) = false := (rfl)
theorem ref_nilm : CV.ref .nilm = false := (rfl)
theorem ref_nilf : CV.ref .nilf = false := (rfl)
theorem ref_nili : CV.ref .nili = false := (rfl)
theorem keepE_def (l : List Nat) (env : Env) (H : Heap) : keepE l env H = if chk l (keep env l) (keepB H.bx l) then some (keep env l, ⟨keepB H.bx l, H.bl⟩) else none := (rfl)
theorem resV_nil : resV [] = .tup [] := (rfl)
theorem resV_two (a b : CV) (r : List CV) : resV (a :: b :: r) = .tup (a :: b :: r) := (rfl)

/-! ### What is told of each function, in short -/
abbrev FzCall (C : Ctx) (k : FuncId) (F : Bool → Heap → List CV → Option (CV × Heap)) : Prop := ∀ (cap args : List CV) (H : Heap), call C (.fn (.func k) [] cap) args H = (snapL H false false (args ++ cap)).bind (F (CV.refs (args ++ cap)) H)
abbrev FzEq (C : Ctx) (kn : Bool) (np : Nat) (code : CCode) (res : List Res) (F : Bool → Heap → List CV → Option (CV × Heap)) : Prop := ∀ (st : Bool) (H : Heap) (xs : List CV), F st H xs = if xs.length = np then (eval C code (enterC 0 xs) ⟨[], []⟩).bind (fzOut res st kn H) else none
abbrev OwnEq (C : Ctx) (np : Nat) (code : CCode) (res : List Res) (F : Bool → Heap → List CV → Option (CV × Heap)) : Prop := ∀ (st : Bool) (H : Heap) (xs : List CV), F st H xs = if xs.length = np then (eval C code (enterC 0 xs) ⟨[], []⟩).bind (ownOut res st H) else none
abbrev RefEq (C : Ctx) (np : Nat) (code : CCode) (res : List Res) (F : List (Nat × List CV) → List Blk → List CV → Option (CV × Heap)) : Prop := ∀ (bx : List (Nat × List CV)) (bl : List Blk) (xs : List CV), F bx bl xs = if xs.length = np then (eval C code (enterC 0 xs) ⟨[], bl⟩).bind (refOut res bx) else none
abbrev RefCall (C : Ctx) (k : FuncId) (F : List (Nat × List CV) → List Blk → List CV → Option (CV × Heap)) : Prop := ∀ (cap args : List CV) (bx : List (Nat × List CV)) (bl : List Blk), call C (.fn (.func k) [] cap) args ⟨bx, bl⟩ = if CV.locs (args ++ cap) then none else F bx bl (args ++ cap)
noncomputable def refE (C : Ctx) (np : Nat) (code : CCode) (res : List Res) (bx : List (Nat × List CV)) (bl : List Blk) (xs : List CV) : Option (CV × Heap) := if xs.length = np then (eval C code (enterC 0 xs) ⟨[], bl⟩).bind (refOut res bx) else none
theorem fz_eq (C : Ctx) (kn : Bool) (np : Nat) (code : CCode) (res : List Res) : FzEq C kn np code res (fzE C kn np code res) := fun _ _ _ => fzE_eq ..
theorem own_eq (C : Ctx) (np : Nat) (code : CCode) (res : List Res) : OwnEq C np code res (oE C np code res) := fun _ _ _ => oE_eq ..
theorem ref_eq (C : Ctx) (np : Nat) (code : CCode) (res : List Res) : RefEq C np code res (refE C np code res) := fun _ _ _ => (by rfl)
theorem fz_called {C : Ctx} {k : FuncId} {kn : Bool} {np : Nat} {code : CCode} {res : List Res} (hp : C.prim k = none) (hi : C.info k = some ⟨.fz kn, np, code, res⟩) : FzCall C k (fzE C kn np code res) := fun cap args H => fz_call hp hi cap args H
theorem own_called {C : Ctx} {k : FuncId} {np : Nat} {code : CCode} {res : List Res} (hp : C.prim k = none) (hi : C.info k = some ⟨.own, np, code, res⟩) : FzCall C k (oE C np code res) := fun cap args H => own_call hp hi cap args H
theorem ref_called {C : Ctx} {k : FuncId} {np : Nat} {code : CCode} {res : List Res} (hp : C.prim k = none) (hi : C.info k = some ⟨.ref, np, code, res⟩) : RefCall C k (refE C np code res) := fun cap args bx bl => ref_call hp hi cap args bx bl
/-- A loop: where it is entered. -/
abbrev LEq (C : Ctx) (li : List Nat) (L : CCode) (R : Env × Heap → Out) : Prop := ∀ (env : Env) (H : Heap), eval C L env H = (keepE li env H).bind R
/-- Its round. -/
abbrev REq (C : Ctx) (B : CCode) (R : Env × Heap → Out) (K : Ex × Env × Heap → Out) : Prop := ∀ (env : Env) (H : Heap), R (env, H) = (eval C B env H).bind K
/-- Behind its round. -/
abbrev KEq (id : Nat) (li lo : List Nat) (R : Env × Heap → Out) (K : Ex × Env × Heap → Out) : Prop := (∀ (env : Env) (H : Heap), K (.norm, env, H) = (keepE li env H).bind R) ∧ (∀ (env : Env) (H : Heap), K (.ret, env, H) = some (.ret, env, H)) ∧ ∀ (k : Nat) (env : Env) (H : Heap), K (.exit k, env, H) = if k = id then (keepE lo env H).map normE else some (.exit k, env, H)
theorem l_eq (C : Ctx) (id : Nat) (li lo : List Nat) (B : CCode) : LEq C li (.bloop id li lo B) (intoE C id li lo B) := fun env H => eval_bloop' C env H id li lo B
theorem r_eq (C : Ctx) (id : Nat) (li lo : List Nat) (B : CCode) : REq C B (intoE C id li lo B) (roundE C id li lo B) := fun _ _ => (by rfl)
theorem k_eq (C : Ctx) (id : Nat) (li lo : List Nat) (B : CCode) : KEq id li lo (intoE C id li lo B) (roundE C id li lo B) := ⟨fun env H => eval_bloop' C env H id li lo B, fun _ _ => rfl, fun _ _ _ => rfl⟩
end Go.Zc
end
section
namespace Go.Zc

theorem chkV_of {v : CV} (h : v.locv = false) (l : List Nat) : chkV l v = true := by
  unfold chkV
  split
  · simp [CV.locv, Id.loc?] at h
  · rw [h]; rfl

/-- A slice that is being made: none yet, or all of its block. -/
def Own {α : Type} (f : α → List CV) (sz : Nat) (bl : List Blk) (v : CV) (l : List α) : Prop :=
  (v = .nils ∧ l = []) ∨ ∃ m, v = .os sz (.blk m) 0 l.length ∧ bl[m]? = some (.cells (l.flatMap f))

/-- A kind of cells: how many, all of them scalar. -/
structure Flat {α : Type} (f : α → List CV) (sz : Nat) : Prop where
  len : ∀ x, (f x).length = sz
  pos : 0 < sz
  one : ∀ x, ones (f x) = true
  loc : ∀ x, CV.locs (f x) = false
  ref : ∀ x, CV.refs (f x) = false

section
variable {α : Type} {f : α → List CV} {sz : Nat} {bl : List Blk} {v : CV} {l : List α}

theorem ones_append (a b : List CV) : ones (a ++ b) = (ones a && ones b) := by simp [ones, List.all_append]
theorem locs_append : ∀ (a b : List CV), CV.locs (a ++ b) = (CV.locs a || CV.locs b)
  | [], b => by simp [CV.locs]
  | c :: a, b => by simp [CV.locs, locs_append a b, Bool.or_assoc]
theorem refs_append : ∀ (a b : List CV), CV.refs (a ++ b) = (CV.refs a || CV.refs b)
  | [], b => by simp [CV.refs]
  | c :: a, b => by simp [CV.refs, refs_append a b, Bool.or_assoc]

theorem Flat.ones (h : Flat f sz) : ∀ l : List α, Zc.ones (l.flatMap f) = true
  | [] => rfl
  | a :: l => by simp only [List.flatMap_cons, ones_append, h.one, h.ones l, Bool.and_true]
theorem Flat.locs (h : Flat f sz) : ∀ l : List α, CV.locs (l.flatMap f) = false
  | [] => rfl
  | a :: l => by simp only [List.flatMap_cons, locs_append, h.loc, h.locs l, Bool.or_false]
theorem Flat.refs (h : Flat f sz) : ∀ l : List α, CV.refs (l.flatMap f) = false
  | [] => rfl
  | a :: l => by simp only [List.flatMap_cons, refs_append, h.ref, h.refs l, Bool.or_false]
theorem Flat.length (h : Flat f sz) (l : List α) : (l.flatMap f).length = l.length * sz := flatMap_len h.len l

theorem Own.nil (f : α → List CV) (sz : Nat) (bl : List Blk) : Own f sz bl .nils [] := .inl ⟨rfl, rfl⟩

theorem Own.len (h : Own f sz bl v l) : lenC v = some (.int .i64 l.length) := by
  rcases h with ⟨rfl, rfl⟩ | ⟨m, rfl, _⟩ <;> rfl
theorem Own.lenOf (h : Own f sz bl v l) : lenOf v = l.length := by
  rcases h with ⟨rfl, rfl⟩ | ⟨m, rfl, _⟩ <;> rfl
theorem Own.isSl (h : Own f sz bl v l) : isSl v = true := by
  rcases h with ⟨rfl, rfl⟩ | ⟨m, rfl, _⟩ <;> rfl
theorem Own.chkV (h : Own f sz bl v l) (s : List Nat) : chkV s v = true := by
  rcases h with ⟨rfl, rfl⟩ | ⟨m, rfl, _⟩ <;> rfl
theorem Own.locv (h : Own f sz bl v l) : v.locv = false := by
  rcases h with ⟨rfl, rfl⟩ | ⟨m, rfl, _⟩ <;> rfl
theorem Own.und (h : Own f sz bl v l) : v.und? = false := by
  rcases h with ⟨rfl, rfl⟩ | ⟨m, rfl, _⟩ <;> rfl
theorem Own.one (h : Own f sz bl v l) : v.one = true := by
  rcases h with ⟨rfl, rfl⟩ | ⟨m, rfl, _⟩ <;> rfl
theorem Own.cells (h : Own f sz bl v l) : v.cells = [v] := by
  rcases h with ⟨rfl, rfl⟩ | ⟨m, rfl, _⟩ <;> rfl

/-- Which block a slice lies in. -/
def blkOf : CV → Option Nat
  | .os _ (.blk m) _ _ => some m
  | _ => none
theorem blkOf_os (z m o n : Nat) : blkOf (.os z (.blk m) o n) = some m := rfl
theorem blkOf_nils : blkOf .nils = none := rfl
theorem Own.lt (h : Own f sz bl v l) {k : Nat} (hk : blkOf v = some k) : k < bl.length := by
  rcases h with ⟨rfl, rfl⟩ | ⟨m, rfl, h2⟩
  · cases hk
  · cases hk; exact (List.getElem?_eq_some_iff.1 h2).1

/-- Two slices that lie apart. -/
def Dj (v w : CV) : Prop := ∀ k, blkOf v = some k → blkOf w ≠ some k
theorem Dj.symm {v w : CV} (h : Dj v w) : Dj w v := fun k h1 h2 => h k h2 h1
theorem Dj.nils (w : CV) : Dj .nils w := fun k h => by cases h

/-- What an append leaves of other blocks. -/
def Fr (bl bl' : List Blk) (v : CV) : Prop := ∀ (k : Nat) (b : Blk), bl[k]? = some b → blkOf v ≠ some k → bl'[k]? = some b
theorem Own.fr {β : Type} {g : β → List CV} {sz' : Nat} {w : CV} {r : List β} {bl' : List Blk} (h : Own g sz' bl w r) (hf : Fr bl bl' v) (hd : Dj v w) : Own g sz' bl' w r := by
  rcases h with h | ⟨m, rfl, h2⟩
  · exact .inl h
  · exact .inr ⟨m, rfl, hf m _ h2 (fun hk => hd m hk rfl)⟩
theorem Dj.grow {v' w : CV} (hd : Dj v w) (hb : blkOf v' = blkOf v ∨ blkOf v' = some bl.length) (hl : ∀ k, blkOf w = some k → k < bl.length) : Dj v' w := by
  intro k h1 h2
  rcases hb with hb | hb
  · exact hd k (hb ▸ h1) h2
  · rw [hb] at h1; cases h1; exact Nat.lt_irrefl _ (hl _ h2)

/-- Blocks that were there are there still, but for one. -/
theorem Own.keep {bl' : List Blk} (h : Own f sz bl v l) (hk : ∀ (m : Nat) (b : Blk), bl[m]? = some b → bl'[m]? = some b) : Own f sz bl' v l := by
  rcases h with h | ⟨m, h1, h2⟩
  · exact .inl h
  · exact .inr ⟨m, h1, hk _ _ h2⟩

theorem Own.shown (hf : Flat f sz) (h : Own f sz bl v l) (bx : List (Nat × List CV)) : shown ⟨bx, bl⟩ sz v = some (l.flatMap f) := by
  rcases h with ⟨rfl, rfl⟩ | ⟨m, rfl, h2⟩
  · rfl
  · unfold Zc.shown
    simp only [if_true]
    rw [get_blk bx bl m _ h2]
    simp only [Option.bind_some, Nat.zero_add, hf.length, Nat.le_refl, if_true, List.drop_zero]
    rw [List.take_of_length_le (by rw [hf.length]; exact Nat.le_refl _)]

/-- An append: what it makes lies in a new block. -/
theorem Own.app (hf : Flat f sz) (h : Own f sz bl v l) {bytes : Nat} {zero : List CV} (hb : 0 < bytes) (hz : zero.length = sz) (hz1 : Zc.ones zero = true) {x : CV} {new : List α}
    (hx : ∀ bx, Zc.shown ⟨bx, bl⟩ sz x = some (new.flatMap f)) (hx1 : Zc.lenOf x = new.length) (hx2 : Zc.isSl x = true) (hm : (l.length + new.length) * bytes ≤ 140737488355328) :
    ∃ v' bl', (∀ bx, heapOp (.app sz bytes zero) [v, x] ⟨bx, bl⟩ = some (v', ⟨bx, bl'⟩)) ∧ Own f sz bl' v' (l ++ new) ∧ bl.length ≤ bl'.length ∧
      Fr bl bl' v ∧ (blkOf v' = blkOf v ∨ blkOf v' = some bl.length) := by
  by_cases h0 : new.length = 0
  · have : new = [] := List.eq_nil_of_length_eq_zero h0
    subst this
    refine ⟨v, bl, fun bx => ?_, by simpa using h, Nat.le_refl _, fun _ _ h _ => h, .inl rfl⟩
    simp only [heapOp, hx1, List.length_nil, if_true, h.isSl, hx2, Bool.and_self]
  · rcases h with ⟨rfl, rfl⟩ | ⟨m, rfl, h2⟩
    · refine ⟨.os sz (.blk bl.length) 0 new.length, bl ++ [.cells (new.flatMap f)], fun bx => ?_, ?_, by simp, fun k b hk _ => ?_, .inr rfl⟩
      · simp only [heapOp, hx1, if_neg h0, hx, Option.bind_some, hf.ones, hf.locs, hz, hz1, decide_true, hf.pos, hb, Bool.true_and, Bool.not_false, Bool.and_true, appC, push_eq]
        rw [if_pos (by simpa [Zc.lenOf] using hm)]
      · refine .inr ⟨bl.length, by simp, by simp⟩
      · rw [List.getElem?_append_left (by exact (List.getElem?_eq_some_iff.1 hk).1)]; exact hk
    · have hml : m < bl.length := (List.getElem?_eq_some_iff.1 h2).1
      refine ⟨.os sz (.blk bl.length) 0 (l.length + new.length), (bl.set m .dead) ++ [.cells (l.flatMap f ++ new.flatMap f)], fun bx => ?_, ?_, by simp, fun k b hk hne => ?_, .inr rfl⟩
      · simp only [heapOp, hx1, if_neg h0, hx, Option.bind_some, hf.ones, hf.locs, hz, hz1, decide_true, hf.pos, hb, Bool.true_and, Bool.not_false, Bool.and_true]
        rw [if_pos (decide_eq_true (show (Zc.lenOf (.os sz (.blk m) 0 l.length) + new.length) * bytes ≤ _ from hm))]
        simp only [appC, if_true, get_blk bx bl m _ h2, Option.bind_some, hf.length, Nat.le_refl, Heap.kill, Heap.push]
        rw [List.take_of_length_le (by rw [hf.length]; exact Nat.le_refl _)]
      · refine .inr ⟨bl.length, by simp, by simp⟩
      · have hkl := (List.getElem?_eq_some_iff.1 hk).1
        rw [List.getElem?_append_left (by simpa using hkl), List.getElem?_set_ne (fun h => hne (by rw [h]; rfl))]
        exact hk

/-- An append of one, as a literal tells it. -/
theorem Own.app1 (hf : Flat f sz) (h : Own f sz bl v l) {bytes : Nat} {zero : List CV} (hb : 0 < bytes) (hz : zero.length = sz) (hz1 : Zc.ones zero = true) (x : α) (hm : (l.length + 1) * bytes ≤ 140737488355328) :
    ∃ v' bl', (∀ bx, heapOp (.app sz bytes zero) [v, .vs (f x) 1] ⟨bx, bl⟩ = some (v', ⟨bx, bl'⟩)) ∧ Own f sz bl' v' (l ++ [x]) ∧ bl.length ≤ bl'.length ∧
      Fr bl bl' v ∧ (blkOf v' = blkOf v ∨ blkOf v' = some bl.length) := by
  refine h.app hf hb hz hz1 (x := .vs (f x) 1) (new := [x]) (fun bx => ?_) rfl rfl hm
  simp [Zc.shown, hf.len]

/-- An append of a frozen slice. -/
theorem Own.appSl (hf : Flat f sz) (h : Own f sz bl v l) {bytes : Nat} {zero : List CV} (hb : 0 < bytes) (hz : zero.length = sz) (hz1 : Zc.ones zero = true) (new : List α) (hm : (l.length + new.length) * bytes ≤ 140737488355328) :
    ∃ v' bl', (∀ bx, heapOp (.app sz bytes zero) [v, sl f new] ⟨bx, bl⟩ = some (v', ⟨bx, bl'⟩)) ∧ Own f sz bl' v' (l ++ new) ∧ bl.length ≤ bl'.length ∧
      Fr bl bl' v ∧ (blkOf v' = blkOf v ∨ blkOf v' = some bl.length) :=
  h.app hf hb hz hz1 (fun _ => shown_sl hf.len _ _) rfl rfl hm

/-- A slice that is made, or was made whole. -/
def OwnF {α : Type} (f : α → List CV) (sz : Nat) (bl : List Blk) (v : CV) (l : List α) : Prop := v = sl f l ∨ Own f sz bl v l
theorem OwnF.fr {β : Type} {g : β → List CV} {sz' : Nat} {w : CV} {r : List β} {bl' : List Blk} (h : OwnF g sz' bl w r) (hf : Fr bl bl' v) (hd : Dj v w) : OwnF g sz' bl' w r := by
  rcases h with h | h
  · exact .inl h
  · exact .inr (h.fr hf hd)
theorem OwnF.lt (h : OwnF f sz bl v l) {k : Nat} (hk : blkOf v = some k) : k < bl.length := by
  rcases h with rfl | h
  · cases hk
  · exact h.lt hk
theorem OwnF.locv (h : OwnF f sz bl v l) : v.locv = false := by
  rcases h with rfl | h
  · rfl
  · exact h.locv
theorem OwnF.und (h : OwnF f sz bl v l) : v.und? = false := by
  rcases h with rfl | h
  · rfl
  · exact h.und
theorem OwnF.one (h : OwnF f sz bl v l) : v.one = true := by
  rcases h with rfl | h
  · rfl
  · exact h.one

theorem mapC_id {g : CV → Option CV} : ∀ {cs : List CV}, (∀ c ∈ cs, g c = some c) → mapC g cs = some cs
  | [], _ => rfl
  | c :: cs, h => by
    rw [mapC_cons, h c (by simp), bind_some', mapC_id (fun x hx => h x (by simp [hx]))]
    rfl

/-- How it is handed out by value. -/
theorem Own.snapV (hf : Flat f sz) (h : Own f sz bl v l) (bx : List (Nat × List CV)) (st : Bool) (g : CV → Option CV) (hg : ∀ x, ∀ c ∈ f x, g c = some c) : snapV ⟨bx, bl⟩ st false g v = some (sl f l) := by
  rcases h with ⟨rfl, rfl⟩ | ⟨m, rfl, h2⟩
  · rfl
  · unfold Zc.snapV
    split
    · rename_i h0
      have : l = [] := List.eq_nil_of_length_eq_zero h0
      subst this
      rfl
    · rw [get_blk bx bl m _ h2]
      simp only [Option.bind_some, Nat.zero_add, hf.length, Nat.le_refl, if_true, List.drop_zero]
      rw [List.take_of_length_le (by rw [hf.length]; exact Nat.le_refl _), mapC_id]
      · rfl
      · intro c hc
        obtain ⟨x, _, hx⟩ := List.mem_flatMap.1 hc
        exact hg x c hx

/-- The same, of one that isn't empty; nil slices may be kept. -/
theorem Own.snapK (hf : Flat f sz) (h : Own f sz bl v l) (h0 : l ≠ []) (bx : List (Nat × List CV)) (st kn : Bool) (g : CV → Option CV) (hg : ∀ x, ∀ c ∈ f x, g c = some c) : Zc.snapV ⟨bx, bl⟩ st kn g v = some (sl f l) := by
  rcases h with ⟨rfl, rfl⟩ | ⟨m, rfl, h2⟩
  · exact (h0 rfl).elim
  · unfold Zc.snapV
    split
    · rename_i h1
      exact (h0 (List.eq_nil_of_length_eq_zero h1)).elim
    · rw [get_blk bx bl m _ h2]
      simp only [Option.bind_some, Nat.zero_add, hf.length, Nat.le_refl, if_true, List.drop_zero]
      rw [List.take_of_length_le (by rw [hf.length]; exact Nat.le_refl _), mapC_id]
      · rfl
      · intro c hc
        obtain ⟨x, _, hx⟩ := List.mem_flatMap.1 hc
        exact hg x c hx

theorem refs_mem : ∀ {cs : List CV} {c : CV}, CV.refs cs = false → c ∈ cs → c.ref = false
  | [], _, _, h => by simp at h
  | d :: cs, c, hr, h => by
    simp only [CV.refs, Bool.or_eq_false_iff] at hr
    rcases List.mem_cons.1 h with rfl | h
    · exact hr.1
    · exact refs_mem hr.2 h

theorem Own.refs_or (h : Own f sz bl v l) : v.ref = false ∧ v = .nils ∨ v.ref = true := by
  rcases h with ⟨rfl, rfl⟩ | ⟨m, rfl, _⟩
  · exact .inl ⟨rfl, rfl⟩
  · exact .inr rfl

/-- Its elements, read. -/
theorem Own.iaddr (hf : Flat f sz) (h : Own f sz bl v l) {k : IntKind} {i : Nat} (hi : i < l.length) :
    ∃ m, iaddrC sz v (.int k i) = some (.op (.blk m) (i * sz)) ∧ bl[m]? = some (.cells (l.flatMap f)) ∧ v = .os sz (.blk m) 0 l.length := by
  rcases h with ⟨rfl, rfl⟩ | ⟨m, rfl, h2⟩
  · simp at hi
  · refine ⟨m, ?_, h2, rfl⟩
    unfold iaddrC iaddrN
    simp only [Int.toNat_natCast, Nat.zero_add]
    rw [if_pos ⟨trivial, by omega, by omega⟩]
end

/-! ### Of which the block may hold more -/
def OwnS {α : Type} (f : α → List CV) (sz : Nat) (bl : List Blk) (v : CV) (l : List α) : Prop :=
  (v = .nils ∧ l = []) ∨ ∃ m rest, v = .os sz (.blk m) 0 l.length ∧ bl[m]? = some (.cells (l.flatMap f ++ rest))

section
variable {α : Type} {f : α → List CV} {sz : Nat} {bl : List Blk} {v : CV} {l : List α}
theorem Own.s (h : Own f sz bl v l) : OwnS f sz bl v l := by
  rcases h with h | ⟨m, h1, h2⟩
  · exact .inl h
  · exact .inr ⟨m, [], h1, by simpa using h2⟩
theorem OwnS.len (h : OwnS f sz bl v l) : lenC v = some (.int .i64 l.length) := by
  rcases h with ⟨rfl, rfl⟩ | ⟨m, r, rfl, _⟩ <;> rfl
theorem OwnS.chkV (h : OwnS f sz bl v l) (s : List Nat) : chkV s v = true := by
  rcases h with ⟨rfl, rfl⟩ | ⟨m, r, rfl, _⟩ <;> rfl
theorem OwnS.locv (h : OwnS f sz bl v l) : v.locv = false := by
  rcases h with ⟨rfl, rfl⟩ | ⟨m, r, rfl, _⟩ <;> rfl
theorem OwnS.snapV (hf : Flat f sz) (h : OwnS f sz bl v l) (bx : List (Nat × List CV)) (st : Bool) (g : CV → Option CV) (hg : ∀ x, ∀ c ∈ f x, g c = some c) : snapV ⟨bx, bl⟩ st false g v = some (sl f l) := by
  rcases h with ⟨rfl, rfl⟩ | ⟨m, r, rfl, h2⟩
  · rfl
  · unfold Zc.snapV
    split
    · rename_i h0
      have : l = [] := List.eq_nil_of_length_eq_zero h0
      subst this
      rfl
    · rw [get_blk bx bl m _ h2]
      have hl := hf.length l
      simp only [Option.bind_some, Nat.zero_add, List.length_append, hl, List.drop_zero]
      rw [if_pos (by omega), ← hl, List.take_left, mapC_id]
      · rfl
      · intro c hc
        obtain ⟨x, _, hx⟩ := List.mem_flatMap.1 hc
        exact hg x c hx

/-- An append to it. -/
theorem OwnS.app (hf : Flat f sz) (h : OwnS f sz bl v l) {bytes : Nat} {zero : List CV} (hb : 0 < bytes) (hz : zero.length = sz) (hz1 : Zc.ones zero = true) {x : CV} {new : List α}
    (hx : ∀ bx, Zc.shown ⟨bx, bl⟩ sz x = some (new.flatMap f)) (hx1 : Zc.lenOf x = new.length) (hx2 : Zc.isSl x = true) (hm : (l.length + new.length) * bytes ≤ 140737488355328) :
    ∃ v' bl', (∀ bx, heapOp (.app sz bytes zero) [v, x] ⟨bx, bl⟩ = some (v', ⟨bx, bl'⟩)) ∧ OwnS f sz bl' v' (l ++ new) ∧ bl.length ≤ bl'.length ∧ Fr bl bl' v ∧ (blkOf v' = blkOf v ∨ blkOf v' = some bl.length) := by
  by_cases h0 : new.length = 0
  · have : new = [] := List.eq_nil_of_length_eq_zero h0
    subst this
    refine ⟨v, bl, fun bx => ?_, by simpa using h, Nat.le_refl _, fun _ _ h _ => h, .inl rfl⟩
    have : Zc.isSl v = true := by rcases h with ⟨rfl, rfl⟩ | ⟨m, r, rfl, _⟩ <;> rfl
    simp only [heapOp, hx1, List.length_nil, if_true, this, hx2, Bool.and_self]
  · rcases h with ⟨rfl, rfl⟩ | ⟨m, r, rfl, h2⟩
    · obtain ⟨v', bl', h1, h2, h3⟩ := (Own.nil f sz bl).app hf hb hz hz1 hx hx1 hx2 hm
      exact ⟨v', bl', h1, h2.s, h3⟩
    · have hml : m < bl.length := (List.getElem?_eq_some_iff.1 h2).1
      have hl := hf.length l
      refine ⟨.os sz (.blk bl.length) 0 (l.length + new.length), (bl.set m .dead) ++ [.cells (l.flatMap f ++ new.flatMap f)], fun bx => ?_, ?_, by simp, fun k b hk hne => ?_, .inr rfl⟩
      · simp only [heapOp, hx1, if_neg h0, hx, Option.bind_some, hf.ones, hf.locs, hz, hz1, decide_true, hf.pos, hb, Bool.true_and, Bool.not_false, Bool.and_true]
        rw [if_pos (decide_eq_true (show (Zc.lenOf (.os sz (.blk m) 0 l.length) + new.length) * bytes ≤ _ from hm))]
        simp only [appC, if_true, get_blk bx bl m _ h2, Option.bind_some, List.length_append, hl, Heap.kill, Heap.push]
        rw [if_pos (by omega), ← hl, List.take_left]
      · refine .inr ⟨bl.length, [], by simp, by simp⟩
      · have hkl := (List.getElem?_eq_some_iff.1 hk).1
        rw [List.getElem?_append_left (by simpa using hkl), List.getElem?_set_ne (fun h => hne (by rw [h]; rfl))]
        exact hk
theorem OwnS.appSl (hf : Flat f sz) (h : OwnS f sz bl v l) {bytes : Nat} {zero : List CV} (hb : 0 < bytes) (hz : zero.length = sz) (hz1 : Zc.ones zero = true) (new : List α) (hm : (l.length + new.length) * bytes ≤ 140737488355328) :
    ∃ v' bl', (∀ bx, heapOp (.app sz bytes zero) [v, sl f new] ⟨bx, bl⟩ = some (v', ⟨bx, bl'⟩)) ∧ OwnS f sz bl' v' (l ++ new) ∧ bl.length ≤ bl'.length ∧ Fr bl bl' v ∧ (blkOf v' = blkOf v ∨ blkOf v' = some bl.length) :=
  h.app hf hb hz hz1 (fun _ => shown_sl hf.len _ _) rfl rfl hm

/-- Handed out of a body that makes it. -/
theorem Own.handed (hf : Flat f sz) (h : Own f sz bl v l) (st : Bool) (bx bx' : List (Nat × List CV)) (bl' : List Blk) (hg : ∀ (H : Heap) (x : α), ∀ c ∈ f x, snap H st false c = some c) :
    ∃ v' bl'', ownSnap st ⟨bx', bl'⟩ ⟨bx, bl⟩ [v] = some (v', ⟨bx', bl''⟩) ∧ Own f sz bl'' v' l ∧ (∀ (k : Nat) (b : Blk), bl'[k]? = some b → bl''[k]? = some b) ∧ (∀ k, blkOf v' = some k → bl'.length ≤ k) := by
  rcases h with ⟨rfl, rfl⟩ | ⟨m, rfl, h2⟩
  · exact ⟨.nils, bl', rfl, .inl ⟨rfl, rfl⟩, fun _ _ h => h, fun k h => by cases h⟩
  · refine ⟨.os sz (.blk bl'.length) 0 l.length, bl' ++ [.cells (l.flatMap f)], ?_, .inr ⟨bl'.length, rfl, by simp⟩, fun k b hk => ?_, fun k h => by cases h; exact Nat.le_refl _⟩
    · unfold ownSnap ownOf resV
      simp only [get_blk bx bl m _ h2, Option.bind_some, hf.length, Nat.le_refl, if_true]
      rw [mapC_id]
      · rfl
      · intro c hc
        obtain ⟨x, _, hx⟩ := List.mem_flatMap.1 hc
        exact hg _ x c hx
    · rw [List.getElem?_append_left (List.getElem?_eq_some_iff.1 hk).1]; exact hk
end

theorem setMany_app : ∀ (B' B A C : List CV), B.length = B'.length → setMany (A ++ B ++ C) A.length B' = A ++ B' ++ C
  | [], [], A, C, _ => by simp [setMany]
  | c :: B', b :: B, A, C, h => by
    have := setMany_app B' B (A ++ [c]) C (by simpa using h)
    simp only [setMany, List.append_assoc, List.cons_append, List.nil_append, List.length_append, List.length_cons, List.length_nil, Nat.zero_add] at this ⊢
    rw [← this]
    congr 1
    simp
  | [], _ :: _, _, _, h => by simp at h
  | _ :: _, [], _, _, h => by simp at h
theorem setMany_mid {α : Type} {f : α → List CV} {sz : Nat} (hf : Flat f sz) (p s : List α) (x y : α) : setMany ((p ++ y :: s).flatMap f) (p.length * sz) (f x) = (p ++ x :: s).flatMap f := by
  have := setMany_app (f x) (f y) (p.flatMap f) (s.flatMap f) (by rw [hf.len, hf.len])
  rw [hf.length] at this
  simpa using this

theorem drop_mid {α : Type} {f : α → List CV} {sz : Nat} (hf : Flat f sz) (p s : List α) (x : α) : ((p ++ x :: s).flatMap f).drop (p.length * sz) = f x ++ s.flatMap f := by
  rw [flatMap_drop hf.len]; simp
end Go.Zc
end
section
namespace Go.Zc

def small : Nat := 1000000000

theorem wrapN {n : Nat} (h : n ≤ 4 * small) : IntKind.i64.wrap ((n : Int) + 1) = ((n + 1 : Nat) : Int) := by
  unfold small at h
  rw [IntKind.wrap_i64]; omega
theorem wrapM {n : Nat} (h : n < 9223372036854775807) : IntKind.i64.wrap ((n : Int) + 1) = ((n + 1 : Nat) : Int) := by
  rw [IntKind.wrap_i64]; omega
theorem wrap64 {n : Int} (h : -9223372036854775808 ≤ n) (h' : n ≤ 9223372036854775807) : IntKind.i64.wrap n = n := by
  rw [IntKind.wrap_i64]; omega

def fI (n : Int) : List CV := [.int .i64 n]
def fU (n : Int) : List CV := [.int .u8 n]
def fB (b : Bool) : List CV := [.bool b]
def fL (l : List Int) : List CV := [sl fI l]
def fZ (z : Nat × Nat) : List CV := [.cplx .f64 z.1 z.2]

structure Ed where
  s : Int
  e : Int
  deriving DecidableEq
def fE (x : Ed) : List CV := [.int .i64 x.s, .int .i64 x.e]
structure Sec where
  len : Int
  a : Int
  b : Int
  deriving DecidableEq
def fS (x : Sec) : List CV := [.int .i64 x.len, .int .i64 x.a, .int .i64 x.b]
structure Pt where
  node : Int
  stem : Int
  left : Int
  right : Int
  deriving DecidableEq
def fP (x : Pt) : List CV := [.int .i64 x.node, .int .i64 x.stem, .int .i64 x.left, .int .i64 x.right]

theorem flatI : Flat fI 1 := ⟨fun _ => rfl, by decide, fun _ => rfl, fun _ => rfl, fun _ => rfl⟩
theorem flatU : Flat fU 1 := ⟨fun _ => rfl, by decide, fun _ => rfl, fun _ => rfl, fun _ => rfl⟩
theorem flatB : Flat fB 1 := ⟨fun _ => rfl, by decide, fun _ => rfl, fun _ => rfl, fun _ => rfl⟩
theorem flatL : Flat fL 1 := ⟨fun _ => rfl, by decide, fun _ => rfl, fun _ => rfl, fun _ => rfl⟩
theorem flatZ : Flat fZ 1 := ⟨fun _ => rfl, by decide, fun _ => rfl, fun _ => rfl, fun _ => rfl⟩
theorem flatE : Flat fE 2 := ⟨fun _ => rfl, by decide, fun _ => rfl, fun _ => rfl, fun _ => rfl⟩
theorem flatS : Flat fS 3 := ⟨fun _ => rfl, by decide, fun _ => rfl, fun _ => rfl, fun _ => rfl⟩
theorem flatP : Flat fP 4 := ⟨fun _ => rfl, by decide, fun _ => rfl, fun _ => rfl, fun _ => rfl⟩

theorem iaddr_mid {α : Type} {f : α → List CV} {sz : Nat} (hf : Flat f sz) (k : IntKind) (pre suf : List α) (x : α) : iaddrC sz (sl f (pre ++ x :: suf)) (.int k pre.length) = some (.vp (f x ++ suf.flatMap f)) := by
  have := iaddr_sl hf.len hf.pos (l := pre ++ x :: suf) (k := k) (i := pre.length) (by simp)
  rw [this]
  simp

theorem iaddr_midI (k : IntKind) (pre suf : List Int) (x : Int) : iaddrC 1 (sl fI (pre ++ x :: suf)) (.int k pre.length) = some (.vp (.int .i64 x :: suf.flatMap fI)) := iaddr_mid flatI k pre suf x
theorem iaddr_midE (k : IntKind) (pre suf : List Ed) (x : Ed) : iaddrC 2 (sl fE (pre ++ x :: suf)) (.int k pre.length) = some (.vp (.int .i64 x.s :: .int .i64 x.e :: suf.flatMap fE)) := iaddr_mid flatE k pre suf x
theorem iaddr_midS (k : IntKind) (pre suf : List Sec) (x : Sec) : iaddrC 3 (sl fS (pre ++ x :: suf)) (.int k pre.length) = some (.vp (.int .i64 x.len :: .int .i64 x.a :: .int .i64 x.b :: suf.flatMap fS)) := iaddr_mid flatS k pre suf x
theorem iaddr_midP (k : IntKind) (pre suf : List Pt) (x : Pt) : iaddrC 4 (sl fP (pre ++ x :: suf)) (.int k pre.length) = some (.vp (.int .i64 x.node :: .int .i64 x.stem :: .int .i64 x.left :: .int .i64 x.right :: suf.flatMap fP)) := iaddr_mid flatP k pre suf x
theorem iaddr_midL (k : IntKind) (pre suf : List (List Int)) (x : List Int) : iaddrC 1 (sl fL (pre ++ x :: suf)) (.int k pre.length) = some (.vp (sl fI x :: suf.flatMap fL)) := iaddr_mid flatL k pre suf x
theorem iaddr_midB (k : IntKind) (pre suf : List Bool) (x : Bool) : iaddrC 1 (sl fB (pre ++ x :: suf)) (.int k pre.length) = some (.vp (.bool x :: suf.flatMap fB)) := iaddr_mid flatB k pre suf x

theorem iaddr_atI {k : IntKind} {l : List Int} {i : Nat} (h : i < l.length) : iaddrC 1 (sl fI l) (.int k i) = some (.vp (.int .i64 l[i] :: (l.drop (i + 1)).flatMap fI)) := iaddr_sl flatI.len flatI.pos h
theorem iaddr_atE {k : IntKind} {l : List Ed} {i : Nat} (h : i < l.length) : iaddrC 2 (sl fE l) (.int k i) = some (.vp (.int .i64 l[i].s :: .int .i64 l[i].e :: (l.drop (i + 1)).flatMap fE)) := iaddr_sl flatE.len flatE.pos h
theorem iaddr_atS {k : IntKind} {l : List Sec} {i : Nat} (h : i < l.length) : iaddrC 3 (sl fS l) (.int k i) = some (.vp (.int .i64 l[i].len :: .int .i64 l[i].a :: .int .i64 l[i].b :: (l.drop (i + 1)).flatMap fS)) := iaddr_sl flatS.len flatS.pos h
theorem iaddr_atP {k : IntKind} {l : List Pt} {i : Nat} (h : i < l.length) : iaddrC 4 (sl fP l) (.int k i) = some (.vp (.int .i64 l[i].node :: .int .i64 l[i].stem :: .int .i64 l[i].left :: .int .i64 l[i].right :: (l.drop (i + 1)).flatMap fP)) := iaddr_sl flatP.len flatP.pos h
theorem iaddr_atL {k : IntKind} {l : List (List Int)} {i : Nat} (h : i < l.length) : iaddrC 1 (sl fL l) (.int k i) = some (.vp (sl fI l[i] :: (l.drop (i + 1)).flatMap fL)) := iaddr_sl flatL.len flatL.pos h

theorem slc_sl {α : Type} {f : α → List CV} {sz : Nat} (hf : Flat f sz) (l : List α) (a b : Nat) (h : a ≤ b) (h' : b ≤ l.length) (k k' : IntKind) : slcC sz (sl f l) (some (.int k a)) (some (.int k' b)) = some (sl f ((l.take b).drop a)) := by
  unfold slcC sl
  simp only [sbound]
  rw [if_pos ⟨by omega, by omega⟩]
  simp only [Option.bind_some, Int.toNat_natCast]
  rw [if_pos ⟨by omega, by omega⟩]
  simp only [Option.map_some, Int.toNat_natCast, flatMap_take hf.len, flatMap_drop hf.len]
  congr 1
  simp
  omega
theorem slc_lo {α : Type} {f : α → List CV} {sz : Nat} (hf : Flat f sz) (l : List α) (a : Nat) (h : a ≤ l.length) (k : IntKind) : slcC sz (sl f l) (some (.int k a)) none = some (sl f (l.drop a)) := by
  unfold slcC sl
  simp only [sbound]
  simp only [Option.bind_some]
  rw [if_pos ⟨by omega, by omega⟩]
  simp only [Option.map_some, Int.toNat_natCast, flatMap_take hf.len, flatMap_drop hf.len]
  congr 1
  simp
theorem slc_hi {α : Type} {f : α → List CV} {sz : Nat} (hf : Flat f sz) (l : List α) (b : Nat) (h' : b ≤ l.length) (k' : IntKind) : slcC sz (sl f l) none (some (.int k' b)) = some (sl f (l.take b)) := by
  unfold slcC sl
  simp only [sbound]
  rw [if_pos ⟨by omega, by omega⟩]
  simp only [Option.bind_some, Int.toNat_natCast, Option.map_some, Nat.zero_mul, List.drop_zero, flatMap_take hf.len, Nat.sub_zero]
  congr 1
  simp
  omega

/-- A layout. -/
structure Lay where
  nodes : List (Nat × Nat)
  secs : List Sec
  parts : List (List Int)
  pts : List Pt
  routes : List (List Int)
  speed : Int
  mute : Int
  wait : Int
  cancel : Int
  stay : Int
abbrev layC (l : Lay) : List CV := [sl fZ l.nodes, sl fS l.secs, sl fL l.parts, sl fP l.pts, sl fL l.routes, .int .i64 l.speed, .int .i64 l.mute, .int .i64 l.wait, .int .i64 l.cancel, .int .i64 l.stay]
structure Lay.ok (l : Lay) : Prop where
  nodes : l.nodes.length ≤ small
  secs : l.secs.length ≤ small
  parts : l.parts.length ≤ small
  pts : l.pts.length ≤ small
  routes : l.routes.length ≤ small
  part : ∀ p ∈ l.parts, p.length ≤ small
  route : ∀ p ∈ l.routes, p.length ≤ small

def secAt (l : Lay) (n : Int) : Option Sec := if 0 ≤ n then l.secs[n.toNat]? else none
def secC : Option Sec → List CV
  | some x => fS x
  | none => [.int .i64 0, .int .i64 0, .int .i64 0]

/-! ### What a track tells -/
def endsFrom (at' : Int) : Nat → List Sec → List Ed
  | _, [] => []
  | i, s :: r => (if s.a = at' then [⟨i, 0⟩] else []) ++ (if s.b = at' then [⟨i, 1⟩] else []) ++ endsFrom at' (i + 1) r
def ends (l : Lay) (at' : Int) : List Ed := endsFrom at' 0 l.secs
def nodeOf (l : Lay) (x : Ed) : Option Int := (if 0 ≤ x.s then l.secs[x.s.toNat]? else none).bind fun s => if x.e = 0 then some s.a else if x.e = 1 then some s.b else none
def ptOf (l : Lay) (at' : Int) : Option Nat := l.pts.findIdx? fun p => p.node == at'
def oneOf (l : Lay) (sec at' : Int) : List Ed := match (ends l at').find? fun x => x.s == sec with
  | some x => [x]
  | none => []
def around (l : Lay) (x : Ed) : List Ed :=
  match nodeOf l x with
  | none => []
  | some n =>
    match l.pts.find? fun p => p.node == n with
    | some p => if x.s = p.stem then oneOf l p.left n ++ oneOf l p.right n else if x.s = p.left ∨ x.s = p.right then oneOf l p.stem n else []
    | none => if ((ends l n).filter fun y => y ≠ x).length = 1 then (ends l n).filter fun y => y ≠ x else []

def lenAt (l : Lay) (s : Int) : Int := ((if 0 ≤ s then l.secs[s.toNat]? else none).map Sec.len).getD 0

/-- Which of some ends a number turns to. -/
def turn (turns : List Int) (i n : Nat) : Nat := match turns[i]? with
  | some t => t.toNat % n
  | none => 0
def walkFrom (l : Lay) (turns : List Int) : Nat → Nat → List Int → Ed → List Int
  | 0, _, out, _ => out
  | n + 1, i, out, x =>
    match (around l x)[turn turns i (around l x).length]? with
    | none => out
    | some y => if y.s ∈ out then out else walkFrom l turns n (i + 1) (out ++ [y.s]) ⟨y.s, 1 - y.e⟩
def walk (l : Lay) (s e : Int) (turns : List Int) (most : Int) : List Int := walkFrom l turns (most - 1).toNat 0 [s] ⟨s, e⟩

theorem eqE (x y : Ed) : eqCs [(0, false, 1, .int), (1, false, 1, .int)] (fE x) (fE y) = some (decide (x = y)) := by
  obtain ⟨a, b⟩ := x
  obtain ⟨c, d⟩ := y
  simp only [fE, eqCs, partC, Bool.false_eq_true, if_false, List.getElem?_cons_zero, List.getElem?_cons_succ, eqC, if_true]
  by_cases h1 : a = c
  · subst h1
    by_cases h2 : b = d
    · subst h2; simp
    · have : (b == d) = false := by simpa using h2
      simp [this, h2]
  · have : (a == c) = false := by simpa using h1
    simp [this, h1]

/-! ### Lists of lists that are being made -/
/-- The outer block's cells. -/
def nest : List Nat → List (List Int) → List CV
  | k :: ks, p :: ps => .os 1 (.blk k) 0 p.length :: nest ks ps
  | _, _ => []
/-- Each inner one lies in its block. -/
def Inner (bl : List Blk) : List Nat → List (List Int) → Prop
  | k :: ks, p :: ps => bl[k]? = some (.cells (p.flatMap fI)) ∧ Inner bl ks ps
  | [], [] => True
  | _, _ => False
/-- A slice of slices of numbers, all of it being made; 'ids': the blocks. -/
def OwnL (bl : List Blk) (v : CV) (ids : List Nat) (ps : List (List Int)) : Prop :=
  (v = .nils ∧ ps = [] ∧ ids = []) ∨ ∃ m ks, ids = m :: ks ∧ v = .os 1 (.blk m) 0 ps.length ∧ bl[m]? = some (.cells (nest ks ps)) ∧ Inner bl ks ps ∧ (m :: ks).Nodup

theorem Inner.length {bl : List Blk} : ∀ {ks : List Nat} {ps : List (List Int)}, Inner bl ks ps → ks.length = ps.length
  | [], [], _ => rfl
  | _ :: _, _ :: _, h => by simp [Inner.length h.2]
  | [], _ :: _, h => h.elim
  | _ :: _, [], h => h.elim
theorem Inner.mono {bl bl' : List Blk} : ∀ {ks : List Nat} {ps : List (List Int)}, Inner bl ks ps → (∀ k ∈ ks, ∀ b, bl[k]? = some b → bl'[k]? = some b) → Inner bl' ks ps
  | [], [], _, _ => trivial
  | k :: ks, p :: ps, h, hk => ⟨hk k (by simp) _ h.1, Inner.mono h.2 fun k' h' => hk k' (by simp [h'])⟩
  | [], _ :: _, h, _ => h.elim
  | _ :: _, [], h, _ => h.elim
theorem Inner.lt {bl : List Blk} : ∀ {ks : List Nat} {ps : List (List Int)}, Inner bl ks ps → ∀ k ∈ ks, k < bl.length
  | [], [], _, k, hk => by simp at hk
  | k :: ks, p :: ps, h, k', hk => by
    rcases List.mem_cons.1 hk with rfl | hk
    · exact (List.getElem?_eq_some_iff.1 h.1).1
    · exact Inner.lt h.2 _ hk
  | [], _ :: _, h, _, _ => h.elim
  | _ :: _, [], h, _, _ => h.elim
theorem Inner.app {bl : List Blk} : ∀ {ks : List Nat} {ps : List (List Int)} {k : Nat} {p : List Int}, Inner bl ks ps → bl[k]? = some (.cells (p.flatMap fI)) → Inner bl (ks ++ [k]) (ps ++ [p])
  | [], [], _, _, _, h => ⟨h, trivial⟩
  | _ :: _, _ :: _, _, _, h, h' => ⟨h.1, Inner.app h.2 h'⟩
  | [], _ :: _, _, _, h, _ => h.elim
  | _ :: _, [], _, _, h, _ => h.elim
theorem Inner.split {bl : List Blk} : ∀ {ks : List Nat} {ps : List (List Int)} {p : List Int}, Inner bl ks (ps ++ [p]) → ∃ ks' k, ks = ks' ++ [k] ∧ Inner bl ks' ps ∧ bl[k]? = some (.cells (p.flatMap fI))
  | [k], [], _, h => ⟨[], k, rfl, trivial, h.1⟩
  | k :: ks, q :: ps, p, h => by
    obtain ⟨ks', k', rfl, h1, h2⟩ := Inner.split (ps := ps) h.2
    exact ⟨k :: ks', k', rfl, ⟨h.1, h1⟩, h2⟩
  | [], [], _, h => h.elim
  | [], _ :: _, _, h => h.elim
  | _ :: _ :: _, [], _, h => h.2.elim
theorem nest_app : ∀ {ks : List Nat} {ps : List (List Int)} (k : Nat) (p : List Int), ks.length = ps.length → nest (ks ++ [k]) (ps ++ [p]) = nest ks ps ++ [.os 1 (.blk k) 0 p.length]
  | [], [], _, _, _ => rfl
  | _ :: ks, _ :: ps, k, p, h => by simp only [List.cons_append, nest, nest_app k p (by simpa using h)]
  | [], _ :: _, _, _, h => by simp at h
  | _ :: _, [], _, _, h => by simp at h
theorem nest_length : ∀ {ks : List Nat} {ps : List (List Int)}, ks.length = ps.length → (nest ks ps).length = ps.length
  | [], [], _ => rfl
  | _ :: ks, _ :: ps, h => by simp only [nest, List.length_cons, nest_length (by simpa using h)]
  | [], _ :: _, h => by simp at h
  | _ :: _, [], h => by simp at h

theorem OwnL.len {bl : List Blk} {v : CV} {ids : List Nat} {ps : List (List Int)} (h : OwnL bl v ids ps) : lenC v = some (.int .i64 ps.length) := by
  rcases h with ⟨rfl, rfl, _⟩ | ⟨m, ks, _, rfl, _⟩ <;> rfl
theorem OwnL.locv {bl : List Blk} {v : CV} {ids : List Nat} {ps : List (List Int)} (h : OwnL bl v ids ps) : v.locv = false := by
  rcases h with ⟨rfl, rfl, _⟩ | ⟨m, ks, _, rfl, _⟩ <;> rfl
theorem OwnL.one {bl : List Blk} {v : CV} {ids : List Nat} {ps : List (List Int)} (h : OwnL bl v ids ps) : v.one = true := by
  rcases h with ⟨rfl, rfl, _⟩ | ⟨m, ks, _, rfl, _⟩ <;> rfl
theorem OwnL.cells {bl : List Blk} {v : CV} {ids : List Nat} {ps : List (List Int)} (h : OwnL bl v ids ps) : v.cells = [v] := by
  rcases h with ⟨rfl, rfl, _⟩ | ⟨m, ks, _, rfl, _⟩ <;> rfl
theorem OwnL.und {bl : List Blk} {v : CV} {ids : List Nat} {ps : List (List Int)} (h : OwnL bl v ids ps) : v.und? = false := by
  rcases h with ⟨rfl, rfl, _⟩ | ⟨m, ks, _, rfl, _⟩ <;> rfl

/-- Blocks beside some are as they were. -/
def FrL (bl bl' : List Blk) (ids : List Nat) : Prop := ∀ (k : Nat) (b : Blk), bl[k]? = some b → k ∉ ids → bl'[k]? = some b
def DjL (ids : List Nat) (w : CV) : Prop := ∀ k, blkOf w = some k → k ∉ ids
theorem Own.frL {α : Type} {g : α → List CV} {sz : Nat} {w : CV} {r : List α} {bl bl' : List Blk} {ids : List Nat} (h : Own g sz bl w r) (hf : FrL bl bl' ids) (hd : DjL ids w) : Own g sz bl' w r := by
  rcases h with h | ⟨m, rfl, h2⟩
  · exact .inl h
  · exact .inr ⟨m, rfl, hf m _ h2 (hd m rfl)⟩
theorem OwnF.frL {α : Type} {g : α → List CV} {sz : Nat} {w : CV} {r : List α} {bl bl' : List Blk} {ids : List Nat} (h : OwnF g sz bl w r) (hf : FrL bl bl' ids) (hd : DjL ids w) : OwnF g sz bl' w r := by
  rcases h with h | h
  · exact .inl h
  · exact .inr (h.frL hf hd)

/-- A new list at the end: the inner block, the literal's, the outer one's are new. -/
theorem OwnL.appNew {bl : List Blk} {v : CV} {ids : List Nat} {ps : List (List Int)} (h : OwnL bl v ids ps) (x : Int) (hm : (ps.length + 1) * 24 ≤ 140737488355328) :
    ∃ v' bl' ids', (∀ bx, heapOp (.app 1 24 [.nils]) [v, .os 1 (.blk (bl ++ [Blk.cells [.int .i64 x]]).length) 0 1] ⟨bx, bl ++ [Blk.cells [.int .i64 x]] ++ [Blk.cells [.os 1 (.blk bl.length) 0 1]]⟩ = some (v', ⟨bx, bl'⟩)) ∧
      OwnL bl' v' ids' (ps ++ [[x]]) ∧ FrL bl bl' ids ∧ (∀ k ∈ ids', k ∈ ids ∨ bl.length ≤ k) := by
  have hsh : ∀ bx : List (Nat × List CV), shown ⟨bx, bl ++ [Blk.cells [.int .i64 x]] ++ [Blk.cells [.os 1 (.blk bl.length) 0 1]]⟩ 1 (.os 1 (.blk (bl ++ [Blk.cells [.int .i64 x]]).length) 0 1) = some [.os 1 (.blk bl.length) 0 1] := by
    intro bx
    simp [shown, Heap.get]
  rcases h with ⟨rfl, rfl, rfl⟩ | ⟨m, ks, rfl, rfl, h1, h2, h3⟩
  · refine ⟨.os 1 (.blk (bl.length + 2)) 0 1, bl ++ [Blk.cells [.int .i64 x]] ++ [Blk.cells [.os 1 (.blk bl.length) 0 1]] ++ [Blk.cells [.os 1 (.blk bl.length) 0 1]], [bl.length + 2, bl.length], fun bx => ?_, .inr ⟨_, _, rfl, rfl, ?_, ?_, ?_⟩, fun k b hk _ => ?_, fun k hk => ?_⟩
    · simp only [heapOp, hsh, Option.bind_some, lenOf]
      simp [ones, CV.one, CV.locs, CV.locv, Id.loc?, appC, Heap.push]
    · simp [nest]
    · simp [Inner, fI]
    · simp
    · have := (List.getElem?_eq_some_iff.1 hk).1
      rw [List.getElem?_append_left (by simp; omega), List.getElem?_append_left (by simp; omega), List.getElem?_append_left (by omega)]
      exact hk
    · simp at hk; omega
  · have hml : m < bl.length := (List.getElem?_eq_some_iff.1 h1).1
    have hlen := h2.length
    have hg : (bl ++ [Blk.cells [.int .i64 x]] ++ [Blk.cells [.os 1 (.blk bl.length) 0 1]])[m]? = some (.cells (nest ks ps)) := by
      rw [List.getElem?_append_left (by simp; omega), List.getElem?_append_left (by omega)]; exact h1
    refine ⟨.os 1 (.blk (bl.length + 2)) 0 (ps.length + 1), ((bl ++ [Blk.cells [.int .i64 x]] ++ [Blk.cells [.os 1 (.blk bl.length) 0 1]]).set m .dead) ++ [Blk.cells (nest ks ps ++ [.os 1 (.blk bl.length) 0 1])], (bl.length + 2) :: (ks ++ [bl.length]), fun bx => ?_, .inr ⟨_, _, rfl, by simp, ?_, ?_, ?_⟩, fun k b hk hne => ?_, fun k hk => ?_⟩
    · have hc := decide_eq_true hm
      simp only [heapOp, hsh, Option.bind_some, lenOf, Nat.one_ne_zero, Nat.succ_ne_self, Nat.reduceEqDiff, if_false, hc, decide_true, Bool.and_true, Bool.true_and, ones_cons, ones_nil, one_os, one_int, one_nils, CV.locs, CV.locv, loc_blk, Bool.or_false, Bool.not_false, List.length_cons, List.length_nil, Nat.zero_add, Nat.reduceLT, Nat.lt_add_one, if_true, appC, get_blk _ _ _ _ hg, Option.bind_some, nest_length hlen, Nat.mul_one, Nat.le_refl, Heap.kill, Heap.push]
      rw [if_pos (by exact decide_eq_true hm), List.take_of_length_le (by rw [nest_length hlen]; exact Nat.le_refl _)]
      simp
    · have := nest_app (ks := ks) (ps := ps) bl.length [x] hlen
      simp only [List.length_cons, List.length_nil, Nat.zero_add] at this
      rw [this]
      simp
    · refine Inner.app (h2.mono fun k hk b hb => ?_) ?_
      · have := h2.lt k hk
        have hkm : m ≠ k := fun h => by subst h; simp [hk] at h3
        rw [List.getElem?_append_left (by simp; omega), List.getElem?_set_ne hkm, List.getElem?_append_left (by simp; omega), List.getElem?_append_left (by omega)]
        exact hb
      · rw [List.getElem?_append_left (by simp), List.getElem?_set_ne (by omega), List.getElem?_append_left (by simp), List.getElem?_append_right (Nat.le_refl _)]
        simp [fI]
    · have hks := h2.lt
      simp only [List.nodup_cons] at h3 ⊢
      refine ⟨?_, ?_⟩
      · simp only [List.mem_append, List.mem_singleton]
        rintro (h | h)
        · have := hks _ h; omega
        · omega
      · rw [List.nodup_append]
        refine ⟨h3.2, by simp, fun a ha b hb => ?_⟩
        simp only [List.mem_singleton] at hb
        subst hb
        have := hks _ ha
        omega
    · have hkl := (List.getElem?_eq_some_iff.1 hk).1
      have hkm : m ≠ k := fun h => by subst h; simp at hne
      rw [List.getElem?_append_left (by simp; omega), List.getElem?_set_ne hkm, List.getElem?_append_left (by simp; omega), List.getElem?_append_left (by omega)]
      exact hk
    · simp only [List.mem_cons, List.mem_append, List.mem_singleton, List.not_mem_nil, or_false] at hk ⊢
      rcases hk with rfl | hk | rfl
      · right; omega
      · left; right; exact hk
      · right; exact Nat.le_refl _

/-- A number more in the last list. -/
theorem OwnL.appLast {bl : List Blk} {v : CV} {ids : List Nat} {ps : List (List Int)} {p : List Int} (h : OwnL bl v ids (ps ++ [p])) (x : Int) (hm : (p.length + 1) * 8 ≤ 140737488355328) :
    ∃ m k w bl1 bl' ids', iaddrC 1 v (.int .i64 ps.length) = some (.op (.blk m) ps.length) ∧ (∃ cs, (∀ bx, Heap.get ⟨bx, bl⟩ (.blk m) = some cs) ∧ headO (cs.drop ps.length) = some (.os 1 (.blk k) 0 p.length)) ∧
      (∀ bx, heapOp (.app 1 8 [.int .i64 0]) [.os 1 (.blk k) 0 p.length, .vs [.int .i64 x] 1] ⟨bx, bl⟩ = some (w, ⟨bx, bl1⟩)) ∧ w.locv = false ∧ w.one = true ∧
      (∃ cs, (∀ bx, Heap.get ⟨bx, bl1⟩ (.blk m) = some cs) ∧ ∀ bx, stE 1 ps.length w ⟨bx, bl1⟩ (.blk m) cs = some ⟨bx, bl'⟩) ∧ OwnL bl' v ids' (ps ++ [p ++ [x]]) ∧ FrL bl bl' ids ∧ (∀ k ∈ ids', k ∈ ids ∨ bl.length ≤ k) := by
  rcases h with ⟨_, h, _⟩ | ⟨m, ks, rfl, rfl, h1, h2, h3⟩
  · simp at h
  · obtain ⟨ks', k, rfl, h4, h5⟩ := h2.split
    have hlen := h4.length
    have hks := h2.lt
    have hml : m < bl.length := (List.getElem?_eq_some_iff.1 h1).1
    have hkl : k < bl.length := (List.getElem?_eq_some_iff.1 h5).1
    rw [nest_app k p hlen] at h1
    have hnl := nest_length hlen
    have hmk : m ≠ k := fun h => by subst h; simp at h3
    have hg : ∀ bx : List (Nat × List CV), Heap.get ⟨bx, bl⟩ (.blk m) = some (nest ks' ps ++ [.os 1 (.blk k) 0 p.length]) := fun bx => get_blk bx bl m _ h1
    have hgk : ∀ bx : List (Nat × List CV), Heap.get ⟨bx, bl⟩ (.blk k) = some (p.flatMap fI) := fun bx => get_blk bx bl k _ h5
    have hg1 : ((bl.set k .dead) ++ [Blk.cells (p.flatMap fI ++ [.int .i64 x])])[m]? = some (.cells (nest ks' ps ++ [.os 1 (.blk k) 0 p.length])) := by
      rw [List.getElem?_append_left (by simpa using hml), List.getElem?_set_ne (Ne.symm hmk)]; exact h1
    refine ⟨m, k, .os 1 (.blk bl.length) 0 (p.length + 1), (bl.set k .dead) ++ [Blk.cells (p.flatMap fI ++ [.int .i64 x])], ((bl.set k .dead) ++ [Blk.cells (p.flatMap fI ++ [.int .i64 x])]).set m (.cells (nest ks' ps ++ [.os 1 (.blk bl.length) 0 (p.length + 1)])), m :: (ks' ++ [bl.length]), ?_, ⟨_, hg, ?_⟩, fun bx => ?_, rfl, rfl, ⟨_, fun bx => get_blk _ _ _ _ hg1, fun bx => ?_⟩, .inr ⟨m, _, rfl, by simp, ?_, ?_, ?_⟩, fun j b hj hne => ?_, fun j hj => ?_⟩
    · unfold iaddrC iaddrN
      simp only [Int.toNat_natCast, Nat.zero_add, Nat.mul_one]
      rw [if_pos ⟨trivial, by omega, by simp; omega⟩]
    · rw [← hnl, List.drop_left]; rfl
    · have hc := decide_eq_true hm
      simp only [heapOp, lenOf, shown, Nat.mul_one, Option.bind_some, Nat.one_ne_zero, Nat.succ_ne_self, Nat.reduceEqDiff, if_false, hc, decide_true, Bool.and_true, Bool.true_and, ones_cons, ones_nil, one_os, one_int, one_nils, CV.locs, CV.locv, loc_blk, Bool.or_false, Bool.not_false, List.length_cons, List.length_nil, Nat.zero_add, Nat.reduceLT, Nat.lt_add_one, if_true, appC, hgk, Option.bind_some, flatI.length, Nat.mul_one, Nat.le_refl, Heap.kill, Heap.push]
      rw [if_pos (by exact decide_eq_true hm), List.take_of_length_le (by rw [flatI.length]; omega)]
    · unfold stE
      rw [if_pos (by simp [CV.cells, ones, CV.one, CV.locs, CV.locv, Id.loc?]; omega)]
      simp only [CV.cells, setMany, Heap.put]
      congr 3
      simp [hnl]
    · rw [List.getElem?_set_self (by simp; omega)]
      have := nest_app (ks := ks') (ps := ps) bl.length (p ++ [x]) hlen
      simp only [List.length_append, List.length_cons, List.length_nil, Nat.zero_add] at this
      rw [this]
    · refine Inner.app (h4.mono fun j hj b hb => ?_) ?_
      · have hjl := h4.lt j hj
        have hjm : m ≠ j := fun h => by subst h; simp [hj] at h3
        have hjk : k ≠ j := fun h => by
          subst h
          simp only [List.nodup_cons] at h3
          have := (List.nodup_append.1 h3.2).2.2 _ hj k (by simp)
          exact this rfl
        rw [List.getElem?_set_ne hjm, List.getElem?_append_left (by simp; omega), List.getElem?_set_ne hjk]
        exact hb
      · rw [List.getElem?_set_ne (by omega), List.getElem?_append_right (by simp)]
        simp [fI]
    · simp only [List.nodup_cons, List.mem_append, List.mem_singleton, not_or] at h3 ⊢
      refine ⟨⟨h3.1.1, by omega⟩, ?_⟩
      rw [List.nodup_append] at h3 ⊢
      refine ⟨h3.2.1, by simp, fun a ha b hb => ?_⟩
      simp only [List.mem_singleton] at hb
      subst hb
      have := h4.lt _ ha
      omega
    · have hjl := (List.getElem?_eq_some_iff.1 hj).1
      simp only [List.mem_cons, List.mem_append, not_or, List.not_mem_nil, not_false_eq_true, and_true] at hne
      rw [List.getElem?_set_ne (Ne.symm hne.1), List.getElem?_append_left (by simpa using hjl), List.getElem?_set_ne (Ne.symm hne.2.2)]
      exact hj
    · simp only [List.mem_cons, List.mem_append, List.not_mem_nil, or_false] at hj ⊢
      rcases hj with rfl | hj | rfl
      · exact .inl (.inl rfl)
      · exact .inl (.inr (.inl hj))
      · exact .inr (Nat.le_refl _)

theorem inner_snap {bl : List Blk} (bx : List (Nat × List CV)) (st kn : Bool) (n : Nat) : ∀ {ks : List Nat} {ps : List (List Int)}, Inner bl ks ps → mapC (snapN ⟨bx, bl⟩ st kn (n + 2)) (nest ks ps) = some (ps.flatMap fL)
  | [], [], _ => rfl
  | k :: ks, p :: ps, h => by
    have h1 : snapN ⟨bx, bl⟩ st kn (n + 2) (.os 1 (.blk k) 0 p.length) = some (sl fI p) := by
      show snapV ⟨bx, bl⟩ st kn (snapN ⟨bx, bl⟩ st kn (n + 1)) (.os 1 (.blk k) 0 p.length) = _
      by_cases hp : p = []
      · subst hp; rfl
      · exact Own.snapK flatI (.inr ⟨k, rfl, h.1⟩) hp bx st kn _ (by
          intro x c hc
          simp only [fI, List.mem_singleton] at hc
          subst hc
          rfl)
    simp only [nest, mapC_cons, h1, bind_some', inner_snap bx st kn n h.2, consO_some, List.flatMap_cons, fL, List.cons_append, List.nil_append]
  | [], _ :: _, h => h.elim
  | _ :: _, [], h => h.elim
theorem OwnL.snapK {bl : List Blk} {v : CV} {ids : List Nat} {ps : List (List Int)} (h : OwnL bl v ids ps) (h0 : ps ≠ []) (bx : List (Nat × List CV)) (st kn : Bool) (n : Nat) : snapV ⟨bx, bl⟩ st kn (snapN ⟨bx, bl⟩ st kn (n + 2)) v = some (sl fL ps) := by
  rcases h with ⟨_, h, _⟩ | ⟨m, ks, rfl, rfl, h1, h2, h3⟩
  · exact (h0 h).elim
  · unfold snapV
    have hl := nest_length h2.length
    split
    · rename_i h1
      exact (h0 (List.eq_nil_of_length_eq_zero h1)).elim
    · rw [get_blk bx bl m _ h1]
      simp only [Option.bind_some, Nat.zero_add, Nat.mul_one, hl, Nat.le_refl, if_true, List.drop_zero]
      rw [List.take_of_length_le (by omega), inner_snap bx st kn n h2]
      rfl

/-! ### Drafts -/
def fUL (l : List Int) : List CV := [sl fU l]
theorem flatUL : Flat fUL 1 := ⟨fun _ => rfl, by decide, fun _ => rfl, fun _ => rfl, fun _ => rfl⟩
theorem iaddr_midU (k : IntKind) (pre suf : List Int) (x : Int) : iaddrC 1 (sl fU (pre ++ x :: suf)) (.int k pre.length) = some (.vp (.int .u8 x :: suf.flatMap fU)) := iaddr_mid flatU k pre suf x
theorem iaddr_atU {k : IntKind} {l : List Int} {i : Nat} (h : i < l.length) : iaddrC 1 (sl fU l) (.int k i) = some (.vp (.int .u8 l[i] :: (l.drop (i + 1)).flatMap fU)) := iaddr_sl flatU.len flatU.pos h
theorem iaddr_midUL (k : IntKind) (pre suf : List (List Int)) (x : List Int) : iaddrC 1 (sl fUL (pre ++ x :: suf)) (.int k pre.length) = some (.vp (sl fU x :: suf.flatMap fUL)) := iaddr_mid flatUL k pre suf x
structure Draft where
  form : Int
  len : Int
  speed : Int
  mute : Int
  wait : Int
  cancel : Int
  stay : Int
  join : Int
  routes : List (List Int)
abbrev draftC (d : Draft) : List CV := [.int .u8 d.form, .int .u8 d.len, .int .u8 d.speed, .int .u16 d.mute, .int .u16 d.wait, .int .u8 d.cancel, .int .u8 d.stay, .int .u8 d.join, sl fUL d.routes]
structure Draft.ok (d : Draft) : Prop where
  form : 0 ≤ d.form ∧ d.form ≤ 255
  len : 0 ≤ d.len ∧ d.len ≤ 255
  speed : 0 ≤ d.speed ∧ d.speed ≤ 255
  mute : 0 ≤ d.mute ∧ d.mute ≤ 65535
  wait : 0 ≤ d.wait ∧ d.wait ≤ 65535
  cancel : 0 ≤ d.cancel ∧ d.cancel ≤ 255
  stay : 0 ≤ d.stay ∧ d.stay ≤ 255
  join : 0 ≤ d.join ∧ d.join ≤ 255
  routes : d.routes.length ≤ maxLen
  route : ∀ r ∈ d.routes, r.length ≤ maxLen ∧ ∀ t ∈ r, 0 ≤ t ∧ t ≤ 255
/-! ### The layout that a draft makes -/
def fl (n : Int) : Nat := FloatKind.nearest .f64 n
def fl2 (z : Int × Int) : Nat × Nat := (fl z.1, fl z.2)
def mkN (form : Int) : Nat := 3 + (form / 4 % 6).toNat
def mkEnds (form : Int) : List Ed :=
  if form % 4 = 0 then (List.range (mkN form)).map fun (i : Nat) => (⟨(i : Int), ((i + 1 : Nat) : Int)⟩ : Ed)
  else if form % 4 = 1 then [⟨0, 1⟩, ⟨1, 2⟩, ⟨3, 1⟩]
  else if form % 4 = 2 then [⟨0, 1⟩, ⟨1, 2⟩, ⟨2, 3⟩, ⟨2, 4⟩, ⟨5, 3⟩, ⟨4, 5⟩, ⟨5, 6⟩, ⟨6, 7⟩]
  else [⟨0, 1⟩, ⟨2, 1⟩, ⟨2, 3⟩, ⟨2, 4⟩, ⟨3, 5⟩, ⟨4, 6⟩]
def mkPts (form : Int) : List Pt :=
  if form % 4 = 0 then []
  else if form % 4 = 1 then [⟨1, 0, 1, 2⟩]
  else if form % 4 = 2 then [⟨2, 1, 2, 3⟩, ⟨5, 6, 4, 5⟩]
  else [⟨2, 1, 3, 2⟩]
def mkXY (form u : Int) : List (Int × Int) :=
  if form % 4 = 0 then (List.range (mkN form + 1)).map fun (i : Nat) => (u * (i : Int), (0 : Int))
  else if form % 4 = 1 then [(0, 0), (u, 0), (2 * u, u), (2 * u, -u)]
  else if form % 4 = 2 then [(0, 0), (u, 0), (2 * u, 0), (3 * u, u / 2), (3 * u, -(u / 2)), (4 * u, 0), (5 * u, 0), (6 * u, 0)]
  else [(0, 0), (u, 0), (2 * u, 0), (3 * u, u), (3 * u, -u), (4 * u, u), (4 * u, -u)]
def mkSecs (u : Int) : Nat → List Ed → List Sec
  | _, [] => []
  | i, x :: r => ⟨2 * u + (i % 3 : Nat), x.s, x.e⟩ :: mkSecs u (i + 1) r
/-- A number more in the last list. -/
def addLast (i : Int) : List (List Int) → List (List Int)
  | [] => []
  | [l] => [l ++ [i]]
  | l :: r => l :: addLast i r
def joinAt (join : Int) (i : Nat) : Bool := decide (0 < i) && decide (join / 2 ^ (i % 8) % 2 = 1)
def mkParts (join : Int) : Nat → Nat → List (List Int) → List (List Int)
  | _, 0, acc => acc
  | i, n + 1, acc => mkParts join (i + 1) n (if joinAt join i then addLast i acc else acc ++ [[(i : Int)]])
def unitOf (len : Int) : Int := 10 * (1 + len % 20)
def make (d : Draft) : Lay where
  nodes := (mkXY d.form (unitOf d.len)).map fl2
  secs := mkSecs (unitOf d.len) 0 (mkEnds d.form)
  parts := mkParts d.join 0 (mkEnds d.form).length []
  pts := mkPts d.form
  routes := []
  speed := 1 + d.speed % (2 * unitOf d.len)
  mute := 1 + d.mute % 1000
  wait := 1 + d.wait % 1000
  cancel := 1 + d.cancel
  stay := d.stay % 4

/-! ### Its places, as they are reckoned -/
def isC (o : Option CV) (x y : Nat) : Bool := match o with
  | some (.cplx .f64 a b) => Nat.beq a x && Nat.beq b y
  | _ => false
theorem isC_eq {o : Option CV} {x y : Nat} (h : isC o x y = true) : o = some (.cplx .f64 x y) := by
  unfold isC at h
  split at h
  · simp only [Bool.and_eq_true, Nat.beq_eq] at h
    rw [h.1, h.2]
  · cases h
def okMul (u : Int) (C : Nat) (c : Int) : Bool := isC (binC .mul .ifc (.cplx .f64 C 0) (.cplx .f64 (fl u) 0)) (fl (c * u)) 0
def okAdd (a b : Int) : Bool := isC (binC .add .ifc (.cplx .f64 (fl a) 0) (.cplx .f64 0 (fl b))) (fl a) (fl b) && isC (binC .sub .ifc (.cplx .f64 (fl a) 0) (.cplx .f64 0 (fl b))) (fl a) (fl (-b))
def okU (u : Int) : Bool :=
  okMul u 4611686018427387904 2 && okMul u 4613937818241073152 3 && okMul u 4616189618054758400 4 && okMul u 4617315517961601024 5 && okMul u 4618441417868443648 6 &&
  okAdd (2 * u) u && okAdd (3 * u) u && okAdd (4 * u) u && okAdd (3 * u) (u / 2) &&
  isC (binC .quo .ifc (.cplx .f64 0 (fl u)) (.cplx .f64 4611686018427387904 0)) 0 (fl (u / 2))
theorem okUs : ((List.range 20).all fun k => okU (10 * (1 + (k : Int)))) = true := by kernel_rfl
theorem fl_zero : fl 0 = 0 := by kernel_rfl

/-- A slice that may be nil. -/
def nz {α : Type} (f : α → List CV) (l : List α) : CV := match l with
  | [] => .nils
  | l => sl f l
theorem snapV_nz {α : Type} (f : α → List CV) (l : List α) (H : Heap) (g : CV → Option CV) : snapV H false false g (nz f l) = some (sl f l) := by
  cases l <;> rfl
theorem locv_nz {α : Type} (f : α → List CV) (l : List α) : (nz f l).locv = false := by cases l <;> rfl
theorem one_nz {α : Type} (f : α → List CV) (l : List α) : (nz f l).one = true := by cases l <;> rfl
theorem und_nz {α : Type} (f : α → List CV) (l : List α) : (nz f l).und? = false := by cases l <;> rfl
theorem cells_nz {α : Type} (f : α → List CV) (l : List α) : (nz f l).cells = [nz f l] := by cases l <;> rfl
theorem ref_nz {α : Type} (f : α → List CV) (l : List α) : (nz f l).ref = false := by cases l <;> rfl
theorem lenC_nz {α : Type} (f : α → List CV) (l : List α) : lenC (nz f l) = some (.int .i64 l.length) := by cases l <;> rfl

/-- The ways that a draft tells. -/
def wayOf (l : Lay) (x : List Int) : List Int := walk l (x.headD 0 % l.secs.length) (x.headD 0 / 128) (x.drop 2) ((2 + (x.drop 1).headD 0 % 5).toNat : Nat)
def fullFrom (l : Lay) : List (List Int) → List (List Int) → List (List Int)
  | [], acc => acc
  | x :: r, acc => if 16 ≤ acc.length then acc else fullFrom l r (if 2 ≤ x.length ∧ 2 ≤ (wayOf l x).length then acc ++ [wayOf l x] else acc)
def full (d : Draft) : Lay := { make d with routes := fullFrom (make d) d.routes [] }
theorem around_routes (l : Lay) (r : List (List Int)) (x : Ed) : around { l with routes := r } x = around l x := rfl
theorem walkFrom_routes (l : Lay) (r : List (List Int)) (turns : List Int) : ∀ (n i : Nat) (out : List Int) (x : Ed), walkFrom { l with routes := r } turns n i out x = walkFrom l turns n i out x
  | 0, _, _, _ => rfl
  | n + 1, i, out, x => by
    simp only [walkFrom, around_routes, walkFrom_routes l r turns n]
theorem walk_routes (l : Lay) (r : List (List Int)) (s e : Int) (turns : List Int) (m : Int) : walk { l with routes := r } s e turns m = walk l s e turns m := walkFrom_routes l r turns _ _ _ _
theorem walkFrom_len (l : Lay) (turns : List Int) : ∀ (n i : Nat) (out : List Int) (x : Ed), (walkFrom l turns n i out x).length ≤ out.length + n
  | 0, _, _, _ => by simp [walkFrom]
  | n + 1, i, out, x => by
    simp only [walkFrom]
    split
    · omega
    · rename_i y _
      split
      · omega
      · have := walkFrom_len l turns n (i + 1) (out ++ [y.s]) ⟨y.s, 1 - y.e⟩
        simp only [List.length_append, List.length_cons, List.length_nil] at this
        omega
theorem walk_len (l : Lay) (s e : Int) (turns : List Int) (m : Nat) : (walk l s e turns m).length ≤ 1 + m := by
  have := walkFrom_len l turns ((m : Int) - 1).toNat 0 [s] ⟨s, e⟩
  simp only [List.length_cons, List.length_nil] at this
  unfold walk; omega
theorem fullFrom_ok (l : Lay) : ∀ (r acc : List (List Int)), acc.length ≤ 16 → (∀ p ∈ acc, p.length ≤ 7) → (fullFrom l r acc).length ≤ 16 ∧ ∀ p ∈ fullFrom l r acc, p.length ≤ 7
  | [], acc, h, h' => ⟨h, h'⟩
  | x :: r, acc, h, h' => by
    simp only [fullFrom]
    split
    · exact ⟨h, h'⟩
    · refine fullFrom_ok l r _ ?_ ?_
      · split
        · simp; omega
        · exact h
      · split
        · intro p hp
          rcases List.mem_append.1 hp with hp | hp
          · exact h' p hp
          · simp only [List.mem_singleton] at hp
            subst hp
            have := walk_len l (x.headD 0 % l.secs.length) (x.headD 0 / 128) (x.drop 2) (2 + (x.drop 1).headD 0 % 5).toNat
            unfold wayOf
            omega
        · exact h'
def Draft.small (d : Draft) : Bool := (d.routes.all fun r => decide (r.length ≤ 10)) && decide (d.routes.length ≤ 20)

/-! ### Numbers, rising -/
def gtO : Option Int → Int → Bool
  | none, _ => true
  | some y, x => decide (y < x)
def minO : List Int → Option Int
  | [] => none
  | x :: r => match minO r with
    | none => some x
    | some y => some (if x ≤ y then x else y)
theorem minO_some {l : List Int} {m : Int} : minO l = some m ↔ m ∈ l ∧ ∀ y ∈ l, m ≤ y := by
  induction l generalizing m with
  | nil => simp [minO]
  | cons x r ih =>
    simp only [minO]
    cases h : minO r with
    | none =>
      have hr : r = [] := by
        cases r with
        | nil => rfl
        | cons a r => simp only [minO] at h; split at h <;> cases h
      subst hr
      simp only [Option.some.injEq, List.mem_singleton, forall_eq]
      constructor
      · rintro rfl; exact ⟨rfl, Int.le_refl _⟩
      · rintro ⟨h, _⟩; exact h.symm
    | some y =>
      obtain ⟨h1, h2⟩ := ih.1 h
      simp only [Option.some.injEq, List.mem_cons, forall_eq_or_imp]
      constructor
      · rintro rfl
        split
        · exact ⟨.inl rfl, Int.le_refl _, fun z hz => by have := h2 z hz; omega⟩
        · exact ⟨.inr h1, by omega, h2⟩
      · rintro ⟨h3, h4, h5⟩
        have := h5 y h1
        rcases h3 with rfl | h3
        · rw [if_pos this]
        · have := h2 m h3
          split <;> omega
theorem minO_none {l : List Int} : minO l = none ↔ l = [] := by
  cases l with
  | nil => simp [minO]
  | cons x r => simp only [minO]; split <;> simp
def riseN (l : List Int) : Nat → Option Int → List Int
  | 0, _ => []
  | n + 1, last => match minO (l.filter (gtO last)) with
    | none => []
    | some x => x :: riseN l n (some x)
def rise (l : List Int) : List Int := riseN l l.length none

theorem filter_gt {l : List Int} {last : Option Int} {x : Int} (hx : minO (l.filter (gtO last)) = some x) : (l.filter (gtO (some x))).length < (l.filter (gtO last)).length := by
  obtain ⟨h1, h2⟩ := minO_some.1 hx
  obtain ⟨h3, h4⟩ := List.mem_filter.1 h1
  have hsub : ∀ y, gtO (some x) y = true → gtO last y = true := by
    intro y hy
    cases last with
    | none => rfl
    | some z => simp only [gtO, decide_eq_true_eq] at hy h4 ⊢; omega
  have : l.filter (gtO (some x)) = (l.filter (gtO last)).filter (gtO (some x)) := by
    rw [List.filter_filter]
    congr 1
    funext y
    by_cases hy : gtO (some x) y = true
    · simp [hy, hsub y hy]
    · simp [hy]
  rw [this]
  refine List.length_filter_lt_length_iff_exists.2 ⟨x, h1, ?_⟩
  simp [gtO]

theorem riseN_spec (l : List Int) : ∀ (n : Nat) (last : Option Int), (l.filter (gtO last)).length ≤ n → (∀ y, y ∈ riseN l n last ↔ y ∈ l ∧ gtO last y = true) ∧ (riseN l n last).Pairwise (· < ·)
  | 0, last, h => by
    have : l.filter (gtO last) = [] := List.eq_nil_of_length_eq_zero (by omega)
    refine ⟨fun y => ?_, by simp [riseN]⟩
    simp only [riseN, List.not_mem_nil, false_iff]
    intro hy
    have := this ▸ List.mem_filter.2 hy
    simp at this
  | n + 1, last, h => by
    simp only [riseN]
    cases hm : minO (l.filter (gtO last)) with
    | none =>
      have := minO_none.1 hm
      refine ⟨fun y => ?_, by simp⟩
      simp only [List.not_mem_nil, false_iff]
      intro hy
      have := this ▸ List.mem_filter.2 hy
      simp at this
    | some x =>
      have hlt := filter_gt hm
      obtain ⟨h1, h2⟩ := minO_some.1 hm
      obtain ⟨h3, h4⟩ := List.mem_filter.1 h1
      obtain ⟨i1, i2⟩ := riseN_spec l n (some x) (by omega)
      refine ⟨fun y => ?_, ?_⟩
      · simp only [List.mem_cons, i1]
        constructor
        · rintro (rfl | ⟨h5, h6⟩)
          · exact ⟨h3, h4⟩
          · refine ⟨h5, ?_⟩
            cases last with
            | none => rfl
            | some z => simp only [gtO, decide_eq_true_eq] at h6 h4 ⊢; omega
        · rintro ⟨h5, h6⟩
          have := h2 y (List.mem_filter.2 ⟨h5, h6⟩)
          by_cases hxy : y = x
          · exact .inl hxy
          · right; exact ⟨h5, by simp only [gtO, decide_eq_true_eq]; omega⟩
      · rw [List.pairwise_cons]
        refine ⟨fun y hy => ?_, i2⟩
        have := (i1 y).1 hy
        simpa [gtO] using this.2
theorem rise_mem (l : List Int) (y : Int) : y ∈ rise l ↔ y ∈ l := by
  have := (riseN_spec l l.length none (List.length_filter_le _ _)).1 y
  simpa [rise, gtO] using this
theorem rise_sorted (l : List Int) : (rise l).Pairwise (· < ·) := (riseN_spec l l.length none (List.length_filter_le _ _)).2
theorem rise_nodup (l : List Int) : (rise l).Nodup := (rise_sorted l).imp fun h => by omega
theorem nodup_le {α : Type} : ∀ {a b : List α}, a.Nodup → (∀ x ∈ a, x ∈ b) → a.length ≤ b.length
  | [], _, _, _ => Nat.zero_le _
  | x :: a, b, hn, hs => by
    obtain ⟨b1, b2, rfl⟩ := List.append_of_mem (hs x (by simp))
    have h1 := List.nodup_cons.1 hn
    have := nodup_le (b := b1 ++ b2) h1.2 (fun y hy => by
      have := hs y (by simp [hy])
      simp only [List.mem_append, List.mem_cons] at this ⊢
      rcases this with h | rfl | h
      · exact .inl h
      · exact (h1.1 hy).elim
      · exact .inr h)
    simp only [List.length_append, List.length_cons] at this ⊢
    omega
theorem rise_len (l : List Int) : (rise l).length = l.length ↔ l.Nodup := by
  constructor
  · intro h
    induction l with
    | nil => simp
    | cons x r ih =>
      by_cases hx : x ∈ r
      · have := nodup_le (rise_nodup (x :: r)) (b := r) (fun y hy => by
          rcases List.mem_cons.1 ((rise_mem _ y).1 hy) with rfl | h
          · exact hx
          · exact h)
        simp at h; omega
      · refine List.nodup_cons.2 ⟨hx, ih ?_⟩
        have h1 := nodup_le (rise_nodup r) (b := r) fun y hy => (rise_mem _ y).1 hy
        have h2 := nodup_le (rise_nodup (x :: r)) (b := x :: rise r) (fun y hy => by
          rcases List.mem_cons.1 ((rise_mem _ y).1 hy) with rfl | h
          · simp
          · simp [(rise_mem r y).2 h])
        simp only [List.length_cons] at h h2
        omega
  · intro h
    have h1 := nodup_le (rise_nodup l) (b := l) fun y hy => (rise_mem _ y).1 hy
    have h2 := nodup_le h (b := rise l) fun y hy => (rise_mem _ y).2 hy
    omega

/-! ### Acts -/
structure Deed where
  act : Int
  train : Int
  ticks : Int
  from' : Int
  turns : List Int
  ahead : Int
  whole : Bool
  most : Int
abbrev actC (a : Deed) : List CV := [.int .u8 a.act, .int .u8 a.train, .int .u8 a.ticks, .int .u8 a.from', sl fU a.turns, .int .u16 a.ahead, .bool a.whole, .int .u8 a.most]
structure Deed.ok (a : Deed) : Prop where
  train : 0 ≤ a.train ∧ a.train ≤ 255
  from' : 0 ≤ a.from' ∧ a.from' ≤ 255
  turns : a.turns.length ≤ maxLen
  turn : ∀ t ∈ a.turns, 0 ≤ t ∧ t ≤ 255
  ahead : 0 ≤ a.ahead ∧ a.ahead ≤ 65535
  most : 0 ≤ a.most ∧ a.most ≤ 255
/-- A track with sections of some length. -/
structure Lay.good (l : Lay) : Prop where
  ok : l.ok
  pos : 0 < l.secs.length
  len : ∀ s ∈ l.secs, 1 ≤ s.len ∧ s.len ≤ 1000
theorem Lay.good.lenAt {l : Lay} (h : l.good) {s : Int} (h0 : 0 ≤ s) (h1 : s < l.secs.length) : 1 ≤ Zc.lenAt l s ∧ Zc.lenAt l s ≤ 1000 := by
  obtain ⟨n, rfl⟩ := Int.eq_ofNat_of_zero_le h0
  have hn : n < l.secs.length := by omega
  have : Zc.lenAt l n = l.secs[n].len := by simp [Zc.lenAt, List.getElem?_eq_getElem hn]
  rw [this]
  exact h.len _ (List.getElem_mem hn)
theorem walkFrom_head (l : Lay) (turns : List Int) : ∀ (n i : Nat) (s : Int) (out : List Int) (x : Ed), ∃ t, walkFrom l turns n i (s :: out) x = s :: t
  | 0, _, s, out, _ => ⟨out, rfl⟩
  | n + 1, i, s, out, x => by
    simp only [walkFrom]
    split
    · exact ⟨out, rfl⟩
    · split
      · exact ⟨out, rfl⟩
      · exact walkFrom_head l turns n (i + 1) s _ _
theorem walk_head (l : Lay) (s e : Int) (turns : List Int) (m : Int) : ∃ t, walk l s e turns m = s :: t := walkFrom_head l turns _ 0 s [] _

/-! ### What is around is there -/
theorem endsFrom_len (at' : Int) : ∀ (i : Nat) (s : List Sec), (endsFrom at' i s).length ≤ 2 * s.length
  | _, [] => by simp [endsFrom]
  | i, x :: s => by
    have := endsFrom_len at' (i + 1) s
    simp only [endsFrom, List.length_append, List.length_cons]
    split <;> split <;> simp <;> omega
theorem ends_len {l : Lay} (hl : l.ok) (at' : Int) : (ends l at').length ≤ 2 * small := by
  have := endsFrom_len at' 0 l.secs
  have := hl.secs
  unfold ends; omega
theorem oneOf_len (l : Lay) (s at' : Int) : (oneOf l s at').length ≤ 1 := by
  unfold oneOf; split <;> simp
theorem around_len (l : Lay) (x : Ed) : (around l x).length ≤ 2 := by
  unfold around
  cases nodeOf l x with
  | none => simp
  | some n =>
    cases hf : l.pts.find? fun p => p.node == n with
    | some p =>
      have h1 := oneOf_len l p.left n
      have h2 := oneOf_len l p.right n
      have h3 := oneOf_len l p.stem n
      simp only [hf]
      split
      · simp; omega
      · split
        · omega
        · simp
    | none =>
      simp only [hf]
      split
      · rename_i h; rw [h]; omega
      · simp

theorem endsFrom_mem {at' : Int} {y : Ed} : ∀ {i : Nat} {s : List Sec}, y ∈ endsFrom at' i s → (i ≤ y.s ∧ y.s < i + s.length) ∧ (y.e = 0 ∨ y.e = 1)
  | _, [], h => by simp [endsFrom] at h
  | i, x :: s, h => by
    simp only [endsFrom, List.mem_append] at h
    rcases h with (h | h) | h
    · split at h
      · simp only [List.mem_singleton] at h; subst h; simp; omega
      · simp at h
    · split at h
      · simp only [List.mem_singleton] at h; subst h; simp; omega
      · simp at h
    · have := endsFrom_mem h
      simp only [List.length_cons]
      omega
theorem ends_mem {l : Lay} {at' : Int} {y : Ed} (h : y ∈ ends l at') : (0 ≤ y.s ∧ y.s < l.secs.length) ∧ (y.e = 0 ∨ y.e = 1) := by
  have := endsFrom_mem h
  omega
theorem oneOf_mem {l : Lay} {s at' : Int} {y : Ed} (h : y ∈ oneOf l s at') : y ∈ ends l at' ∧ y.s = s := by
  unfold oneOf at h
  cases hf : (ends l at').find? fun x => x.s == s with
  | none => simp [hf] at h
  | some x =>
    simp only [hf, List.mem_singleton] at h
    subst h
    exact ⟨List.mem_of_find?_eq_some hf, by simpa using List.find?_some hf⟩
theorem around_mem {l : Lay} {x y : Ed} (h : y ∈ around l x) : ∃ n, y ∈ ends l n := by
  unfold around at h
  cases hn : nodeOf l x with
  | none => simp [hn] at h
  | some n =>
    refine ⟨n, ?_⟩
    simp only [hn] at h
    cases hf : l.pts.find? fun p => p.node == n with
    | some p =>
      simp only [hf] at h
      split at h
      · rcases List.mem_append.1 h with h | h <;> exact (oneOf_mem h).1
      · split at h
        · exact (oneOf_mem h).1
        · simp at h
    | none =>
      simp only [hf] at h
      split at h
      · exact (List.mem_filter.1 h).1
      · simp at h
theorem around_in {l : Lay} {x y : Ed} (h : y ∈ around l x) : (0 ≤ y.s ∧ y.s < l.secs.length) ∧ (y.e = 0 ∨ y.e = 1) := by
  obtain ⟨n, h⟩ := around_mem h
  exact ends_mem h

end Go.Zc
end
section
namespace Go.Zc

/-- One more, let down into what stands before it (turned about). -/
def sinkR : List Int → Int → List Int
  | [], x => [x]
  | y :: rp, x => if x < y then sinkR rp x ++ [y] else (y :: rp).reverse ++ [x]
def insAll : List Int → List Int → List Int
  | s, [] => s
  | s, x :: r => insAll (sinkR s.reverse x) r
def isort : List Int → List Int
  | [] => []
  | x :: r => insAll [x] r

theorem sinkR_perm (x : Int) : ∀ rp : List Int, (sinkR rp x).Perm (x :: rp)
  | [] => .refl _
  | y :: rp => by
    simp only [sinkR]
    split
    · exact (List.perm_append_singleton y _).trans (((sinkR_perm x rp).cons y).trans (.swap x y rp))
    · exact (List.perm_append_singleton x _).trans ((List.reverse_perm _).cons x)
theorem sinkR_len (x : Int) (rp : List Int) : (sinkR rp x).length = rp.length + 1 := by
  have := (sinkR_perm x rp).length_eq
  simpa using this
theorem sinkR_sorted (x : Int) : ∀ rp : List Int, rp.reverse.Pairwise (· ≤ ·) → (sinkR rp x).Pairwise (· ≤ ·)
  | [], _ => by simp [sinkR]
  | y :: rp, h => by
    simp only [List.reverse_cons, List.pairwise_append, List.mem_singleton, forall_eq, List.mem_reverse] at h
    simp only [sinkR]
    split
    · rename_i hlt
      rw [List.pairwise_append]
      refine ⟨sinkR_sorted x rp h.1, by simp, fun a ha b hb => ?_⟩
      simp only [List.mem_singleton] at hb
      subst hb
      rcases List.mem_cons.1 ((sinkR_perm x rp).mem_iff.1 ha) with rfl | ha
      · omega
      · exact h.2.2 a ha
    · rename_i hge
      simp only [List.reverse_cons, List.pairwise_append, List.mem_singleton, forall_eq, List.mem_append, List.mem_reverse]
      refine ⟨⟨h.1, by simp, h.2.2⟩, by simp, fun a ha => ?_⟩
      rcases ha with ha | rfl
      · have := h.2.2 a ha; omega
      · omega
theorem insAll_perm : ∀ (r s : List Int), (insAll s r).Perm (s ++ r)
  | [], s => by simp [insAll]
  | x :: r, s => by
    simp only [insAll]
    refine (insAll_perm r _).trans ?_
    have h1 : (sinkR s.reverse x).Perm (s ++ [x]) := (sinkR_perm x s.reverse).trans (((List.reverse_perm s).cons x).trans (List.perm_append_singleton x s).symm)
    have := h1.append_right r
    simpa using this
theorem insAll_sorted : ∀ (r s : List Int), s.Pairwise (· ≤ ·) → (insAll s r).Pairwise (· ≤ ·)
  | [], _, h => h
  | x :: r, s, h => insAll_sorted r _ (sinkR_sorted x s.reverse (by simpa using h))
theorem isort_perm (l : List Int) : (isort l).Perm l := by
  cases l with
  | nil => exact .refl _
  | cons x r => exact insAll_perm r [x]
theorem isort_sorted (l : List Int) : (isort l).Pairwise (· ≤ ·) := by
  cases l with
  | nil => exact .nil
  | cons x r => exact insAll_sorted r [x] (by simp)

/-- Numbers that are alike once, where they stand beside each other. -/
def compact : List Int → List Int
  | [] => []
  | [x] => [x]
  | x :: y :: r => if x = y then compact (y :: r) else x :: compact (y :: r)
theorem compact_head : ∀ (x : Int) (r : List Int), ∃ t, compact (x :: r) = x :: t
  | x, [] => ⟨[], rfl⟩
  | x, y :: r => by
    simp only [compact]
    split
    · rename_i h
      obtain ⟨t, ht⟩ := compact_head y r
      exact ⟨t, by rw [ht, h]⟩
    · exact ⟨_, rfl⟩
theorem compact_mem : ∀ (l : List Int) (z : Int), z ∈ compact l ↔ z ∈ l
  | [], z => by simp [compact]
  | [x], z => by simp [compact]
  | x :: y :: r, z => by
    have ih := compact_mem (y :: r) z
    simp only [compact]
    split
    · rename_i h
      subst h
      rw [ih]; simp
    · rw [List.mem_cons, ih]; simp
theorem compact_sorted : ∀ (l : List Int), l.Pairwise (· ≤ ·) → (compact l).Pairwise (· < ·)
  | [], _ => by simp [compact]
  | [x], _ => by simp [compact]
  | x :: y :: r, h => by
    rw [List.pairwise_cons] at h
    have ih := compact_sorted (y :: r) h.2
    simp only [compact]
    split
    · exact ih
    · rename_i hne
      rw [List.pairwise_cons]
      refine ⟨fun z hz => ?_, ih⟩
      have hz' := (compact_mem (y :: r) z).1 hz
      have h1 := h.1 z hz'
      have h2 := h.1 y (by simp)
      have h3 : y ≤ z := by
        rcases List.mem_cons.1 hz' with rfl | hz'
        · exact Int.le_refl _
        · exact (List.pairwise_cons.1 h.2).1 z hz'
      omega

/-- Rising lists of the same numbers are one. -/
theorem rising_eq : ∀ {a b : List Int}, a.Pairwise (· < ·) → b.Pairwise (· < ·) → (∀ z, z ∈ a ↔ z ∈ b) → a = b
  | [], [], _, _, _ => rfl
  | [], y :: b, _, _, h => by have := (h y).2 (by simp); simp at this
  | x :: a, [], _, _, h => by have := (h x).1 (by simp); simp at this
  | x :: a, y :: b, ha, hb, h => by
    rw [List.pairwise_cons] at ha hb
    have hxy : x = y := by
      rcases List.mem_cons.1 ((h x).1 (by simp)) with h1 | h1
      · exact h1
      · rcases List.mem_cons.1 ((h y).2 (by simp)) with h2 | h2
        · exact h2.symm
        · have := ha.1 y h2; have := hb.1 x h1; omega
    subst hxy
    congr 1
    refine rising_eq ha.2 hb.2 fun z => ?_
    have := h z
    simp only [List.mem_cons] at this
    constructor
    · intro hz
      rcases this.1 (.inr hz) with rfl | h1
      · have := ha.1 z hz; omega
      · exact h1
    · intro hz
      rcases this.2 (.inr hz) with rfl | h1
      · have := hb.1 z hz; omega
      · exact h1
theorem compact_isort (l : List Int) : compact (isort l) = rise l :=
  rising_eq (compact_sorted _ (isort_sorted l)) (rise_sorted l) fun z => by rw [compact_mem, (isort_perm l).mem_iff, rise_mem]
end Go.Zc
end
