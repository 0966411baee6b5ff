/- Running without a bound: what the interpreter hands back when it may run as long as it likes. No condition. -/
import Derived.Test.YtkpechngfcaiiaaGreatDoorZcDraw
import Derived.ProofKit
import Derived.Carry
import Derived.Below
import Derived.ChangeOld
import Derived.WalkKit
import Derived.JoinedOf
import Derived.ShutString
set_option linter.all false
section
namespace Go.Zc

/-- Whatever the one hands back, so does the other. -/
def LeO {α : Type} (a b : Option α) : Prop := ∀ r, a = some r → b = some r

theorem LeO.bind {α β : Type} {a a' : Option α} {f f' : α → Option β} (h : LeO a a') (h' : ∀ x, LeO (f x) (f' x)) : LeO (a.bind f) (a'.bind f') := by
  intro r hr
  obtain ⟨x, hx, hr⟩ := Option.bind_eq_some_iff.1 hr
  rw [h x hx]
  exact h' x r hr
theorem LeO.map {α β : Type} {a a' : Option α} {f : α → β} (h : LeO a a') : LeO (a.map f) (a'.map f) := by
  intro r hr
  obtain ⟨x, hx, hr⟩ := Option.map_eq_some_iff.1 hr
  rw [h x hx]
  exact congrArg some hr
theorem LeO.rfl {α : Type} {a : Option α} : LeO a a := fun _ h => h

theorem LeO.eq {α : Type} {a b : Option α} (h : LeO a b) (h' : LeO b a) : a = b := by
  cases ha : a with
  | some x => exact (h x ha).symm
  | none =>
    cases hb : b with
    | none => rfl
    | some x => rw [h' x hb] at ha; cases ha

abbrev LeCall (c c' : Caller) : Prop := ∀ f args H, LeO (c f args H) (c' f args H)
abbrev LeRun (c c' : CCode → Env → Heap → Out) : Prop := ∀ x env H, LeO (c x env H) (c' x env H)

theorem runOps_mono {c c' : Caller} (h : LeCall c c') : ∀ l env H, LeO (runOps c l env H) (runOps c' l env H)
  | [], _, _ => LeO.rfl
  | s :: r, env, H => by
    have ho : ∀ vs, LeO (runOp c s.op vs H) (runOp c' s.op vs H) := by
      intro vs
      cases s.op with
      | call =>
        cases vs with
        | nil => exact LeO.rfl
        | cons f as => exact h _ _ _
      | callb =>
        cases vs with
        | nil => exact LeO.rfl
        | cons f as => exact (h _ _ _).map
      | callp =>
        cases vs with
        | nil => exact LeO.rfl
        | cons f as => exact (h _ _ _).bind fun _ => LeO.rfl
      | callk n =>
        cases vs with
        | nil => exact LeO.rfl
        | cons f as => exact (h _ _ _).bind fun _ => LeO.rfl
      | callv =>
        cases vs with
        | nil => exact LeO.rfl
        | cons f as =>
          simp only [runOp]
          split
          · exact LeO.rfl
          · exact (h _ _ _).map
      | _ => exact LeO.rfl
    unfold runOps
    split
    · exact (ho _).bind fun x => runOps_mono h r _ _
    · split
      · split
        · exact (ho _).bind fun x => runOps_mono h r _ _
        · exact runOps_mono h r _ _
      · exact LeO.rfl

theorem iter_mono {id : Nat} {li lo : List Nat} {f f' : Env → Heap → Out} (h : ∀ e H, LeO (f e H) (f' e H)) : ∀ n m, n ≤ m → ∀ env H, LeO (iter id li lo f n env H) (iter id li lo f' m env H)
  | 0, _, _, _, _ => fun _ h => by simp [iter] at h
  | n + 1, 0, hnm, _, _ => by omega
  | n + 1, m + 1, hnm, env, H => by
    unfold iter
    refine LeO.rfl.bind fun x => (h _ _).bind fun y => ?_
    split
    · exact iter_mono h n m (by omega) _ _
    · exact LeO.rfl
    · exact LeO.rfl

theorem runC_mono {c c' : Caller} (h : LeCall c c') {n m : Nat} (hnm : n ≤ m) : ∀ code env H, LeO (runC c n code env H) (runC c' m code env H)
  | .skip, _, _ => LeO.rfl
  | .ops l, env, H => (runOps_mono h l env H).map
  | .seq a b, env, H => by
    simp only [runC]
    refine (runC_mono h hnm a env H).bind fun x => ?_
    split
    · exact runC_mono h hnm b _ _
    · exact LeO.rfl
  | .cond c a b, env, H => by
    simp only [runC]
    split
    · split
      · exact runC_mono h hnm a _ _
      · exact runC_mono h hnm b _ _
    · exact LeO.rfl
  | .block id lo c, env, H => by
    simp only [runC]
    exact (runC_mono h hnm c env H).bind fun x => LeO.rfl
  | .bloop id li lo c, env, H => by
    simp only [runC]
    exact iter_mono (fun e H => runC_mono h hnm c e H) n m hnm env H
  | .exit _, _, _ => LeO.rfl
  | .ret _, _, _ => LeO.rfl
  | .frz _, _, _ => LeO.rfl

theorem bodyC_mono {r r' : CCode → Env → Heap → Out} (h : LeRun r r') (I : FInfo) (as : List CV) (bl : List Blk) : LeO (bodyC r I as bl) (bodyC r' I as bl) := by
  unfold bodyC
  split
  · exact (h _ _ _).bind fun _ => LeO.rfl
  · exact LeO.rfl

theorem callC_mono (C : Ctx) {r r' : CCode → Env → Heap → Out} (h : LeRun r r') : LeCall (callC C r) (callC C r') := by
  intro f args H
  unfold callC
  split
  · dsimp only
    split
    · exact LeO.rfl
    · split
      · exact LeO.rfl
      · split
        · split
          · exact LeO.rfl
          · exact (bodyC_mono h _ _ _).bind fun _ => LeO.rfl
        · exact LeO.rfl.bind fun _ => (bodyC_mono h _ _ _).bind fun _ => LeO.rfl
        · exact LeO.rfl.bind fun _ => (bodyC_mono h _ _ _).bind fun _ => LeO.rfl
  · exact LeO.rfl

theorem run_mono (C : Ctx) : ∀ n m, n ≤ m → LeRun (run C n) (run C m)
  | 0, _, _ => fun _ _ _ _ h => by simp [run] at h
  | n + 1, 0, h => by omega
  | n + 1, m + 1, h => fun c env H => runC_mono (callC_mono C (run_mono C n m (by omega))) (by omega) c env H

open Classical in
/-- What a code comes to. -/
noncomputable def eval (C : Ctx) (c : CCode) (env : Env) (H : Heap) : Out :=
  if h : ∃ r n, run C n c env H = some r then some (Classical.choose h) else none

theorem eval_iff {C : Ctx} {c : CCode} {env : Env} {H : Heap} {r : Ex × Env × Heap} : eval C c env H = some r ↔ ∃ n, run C n c env H = some r := by
  unfold eval
  constructor
  · intro h
    split at h
    · rename_i hx
      cases h
      exact Classical.choose_spec hx
    · cases h
  · rintro ⟨n, hn⟩
    have hx : ∃ r n, run C n c env H = some r := ⟨r, n, hn⟩
    rw [dif_pos hx]
    obtain ⟨m, hm⟩ := Classical.choose_spec hx
    have h1 := run_mono C n (max n m) (by omega) _ _ _ _ hn
    have h2 := run_mono C m (max n m) (by omega) _ _ _ _ hm
    rw [h2] at h1
    exact h1

theorem run_eval (C : Ctx) (n : Nat) : LeRun (run C n) (eval C) := fun _ _ _ _ h => eval_iff.2 ⟨n, h⟩

/-- What a call comes to. -/
noncomputable def call (C : Ctx) : Caller := callC C (eval C)

/-- A bind reached by climbing. -/
theorem climb_body {C : Ctx} {I : FInfo} {as : List CV} {bl : List Blk} {x : CV × Heap} (h : bodyC (eval C) I as bl = some x) : ∃ n, bodyC (run C n) I as bl = some x := by
  unfold bodyC at h ⊢
  split at h
  · rename_i hl
    simp only [if_pos hl]
    obtain ⟨y, hy, hr⟩ := Option.bind_eq_some_iff.1 h
    obtain ⟨n, hn⟩ := eval_iff.1 hy
    exact ⟨n, by rw [hn]; exact hr⟩
  · cases h

theorem call_iff {C : Ctx} {f : CV} {args : List CV} {H : Heap} {r : CV × Heap} : call C f args H = some r ↔ ∃ n, callC C (run C n) f args H = some r := by
  constructor
  · intro h
    unfold call callC at h
    split at h
    · rename_i k first cap
      dsimp only at h
      unfold callC
      dsimp only
      split at h
      · exact ⟨0, h⟩
      · cases hI : C.info k with
        | none => simp [hI] at h
        | some I =>
          simp only [hI] at h ⊢
          cases hm : I.mode with
          | ref =>
            simp only [hm] at h ⊢
            split at h
            · cases h
            · rename_i hl
              simp only [if_neg hl]
              obtain ⟨x, hx, hr⟩ := Option.bind_eq_some_iff.1 h
              obtain ⟨n, hn⟩ := climb_body hx
              exact ⟨n, by rw [hn]; exact hr⟩
          | fz kn =>
            simp only [hm] at h ⊢
            obtain ⟨as', h1, h2⟩ := Option.bind_eq_some_iff.1 h
            obtain ⟨x, hx, hr⟩ := Option.bind_eq_some_iff.1 h2
            obtain ⟨n, hn⟩ := climb_body hx
            exact ⟨n, by rw [h1, Option.bind_some, hn]; exact hr⟩
          | own =>
            simp only [hm] at h ⊢
            obtain ⟨as', h1, h2⟩ := Option.bind_eq_some_iff.1 h
            obtain ⟨x, hx, hr⟩ := Option.bind_eq_some_iff.1 h2
            obtain ⟨n, hn⟩ := climb_body hx
            exact ⟨n, by rw [h1, Option.bind_some, hn]; exact hr⟩
    · cases h
  · rintro ⟨n, h⟩
    exact callC_mono C (run_eval C n) _ _ _ _ h

/-- A bound that does for both. -/
theorem climbOps {C : Ctx} : ∀ {l : List CStm} {env : Env} {H : Heap} {r : Env × Heap}, runOps (call C) l env H = some r → ∃ n, runOps (callC C (run C n)) l env H = some r
  | [], env, H, r, h => ⟨0, by simpa [runOps] using h⟩
  | s :: l, env, H, r, h => by
    have up : ∀ n m, n ≤ m → LeCall (callC C (run C n)) (callC C (run C m)) := fun n m h => callC_mono C (run_mono C n m h)
    have hop : ∀ {vs x}, runOp (call C) s.op vs H = some x → ∃ n, runOp (callC C (run C n)) s.op vs H = some x := by
      intro vs x hx
      cases hop : s.op with
      | call =>
        rw [hop] at hx
        cases vs with
        | nil => cases hx
        | cons f as => exact call_iff.1 hx
      | callb =>
        rw [hop] at hx
        cases vs with
        | nil => cases hx
        | cons f as =>
          simp only [runOp, Option.map_eq_some_iff] at hx ⊢
          obtain ⟨y, hy, rfl⟩ := hx
          obtain ⟨n, hn⟩ := call_iff.1 hy
          exact ⟨n, y, hn, rfl⟩
      | callp =>
        rw [hop] at hx
        cases vs with
        | nil => cases hx
        | cons f as =>
          simp only [runOp, Option.bind_eq_some_iff] at hx ⊢
          obtain ⟨y, hy, h2⟩ := hx
          obtain ⟨n, hn⟩ := call_iff.1 hy
          exact ⟨n, y, hn, h2⟩
      | callk m =>
        rw [hop] at hx
        cases vs with
        | nil => cases hx
        | cons f as =>
          simp only [runOp, Option.bind_eq_some_iff] at hx ⊢
          obtain ⟨y, hy, h2⟩ := hx
          obtain ⟨n, hn⟩ := call_iff.1 hy
          exact ⟨n, y, hn, h2⟩
      | callv =>
        rw [hop] at hx
        cases vs with
        | nil => cases hx
        | cons f as =>
          simp only [runOp] at hx ⊢
          split at hx <;> (try cases hx)
          rename_i hr
          simp only [if_neg hr, Option.map_eq_some_iff] at hx ⊢
          obtain ⟨y, hy, rfl⟩ := hx
          obtain ⟨n, hn⟩ := call_iff.1 hy
          exact ⟨n, y, hn, rfl⟩
      | _ => rw [hop] at hx; exact ⟨0, hx⟩
    have two : (runOp (call C) s.op (evs env s.args) H).bind (fun x => runOps (call C) l (putD env s.dst x.1) x.2) = some r → ∃ n, (runOp (callC C (run C n)) s.op (evs env s.args) H).bind (fun x => runOps (callC C (run C n)) l (putD env s.dst x.1) x.2) = some r := by
      intro h
      obtain ⟨x, h1, h2⟩ := Option.bind_eq_some_iff.1 h
      obtain ⟨n, hn⟩ := hop h1
      obtain ⟨m, hm⟩ := climbOps h2
      refine ⟨max n m, ?_⟩
      have g1 : runOp (callC C (run C (max n m))) s.op (evs env s.args) H = some x := by
        revert hn
        cases s.op with
        | call =>
          cases evs env s.args with
          | nil => intro hn; cases hn
          | cons f as => intro hn; exact up n _ (by omega) _ _ _ _ hn
        | callb =>
          cases evs env s.args with
          | nil => intro hn; cases hn
          | cons f as => intro hn; exact (LeO.map (up n _ (by omega) _ _ _)) _ hn
        | callp =>
          cases evs env s.args with
          | nil => intro hn; cases hn
          | cons f as => intro hn; exact (LeO.bind (up n _ (by omega) _ _ _) fun _ => LeO.rfl) _ hn
        | callk m =>
          cases evs env s.args with
          | nil => intro hn; cases hn
          | cons f as => intro hn; exact (LeO.bind (up n _ (by omega) _ _ _) fun _ => LeO.rfl) _ hn
        | callv =>
          cases evs env s.args with
          | nil => intro hn; cases hn
          | cons f as =>
            simp only [runOp]
            split
            · intro hn; cases hn
            · intro hn; exact (LeO.map (up n _ (by omega) _ _ _)) _ hn
        | _ => intro hn; exact hn
      rw [g1]
      exact runOps_mono (up m _ (by omega)) _ _ _ _ hm
    unfold runOps at h ⊢
    split at h
    · exact two h
    · split at h
      · split at h
        · rename_i hb
          simp only [if_pos hb]
          exact two h
        · rename_i hb
          simp only [if_neg hb]
          exact climbOps h
      · cases h

theorem climb {C : Ctx} {code : CCode} {env : Env} {H : Heap} {r : Ex × Env × Heap} {n : Nat} (h : runC (callC C (run C n)) n code env H = some r) : eval C code env H = some r := eval_iff.2 ⟨n + 1, h⟩

theorem descend {C : Ctx} {code : CCode} {env : Env} {H : Heap} {r : Ex × Env × Heap} (h : eval C code env H = some r) : ∃ n, ∀ m, n ≤ m → runC (callC C (run C m)) m code env H = some r := by
  obtain ⟨n, hn⟩ := eval_iff.1 h
  cases n with
  | zero => simp [run] at hn
  | succ n => exact ⟨n, fun m hm => runC_mono (callC_mono C (run_mono C n m hm)) hm _ _ _ _ hn⟩

section
variable (C : Ctx) (env : Env) (H : Heap)

theorem eval_skip : eval C .skip env H = some (.norm, env, H) := climb (n := 0) rfl
theorem eval_exit (k : Nat) : eval C (.exit k) env H = some (.exit k, env, H) := climb (n := 0) rfl
theorem eval_ret (rs : List Nat) : eval C (.ret rs) env H = some (.ret, Zc.keep env rs, H) := climb (n := 0) rfl

theorem eval_frz (t : Nat) : eval C (.frz t) env H = (frzC t env H).map fun x => (.norm, x.1, x.2) := by
  cases h : frzC t env H with
  | none =>
    refine LeO.eq (fun r hr => ?_) (fun r hr => ?_)
    · obtain ⟨n, hn⟩ := descend hr
      have := hn n (by omega)
      simp [runC, h] at this
    · simp at hr
  | some x => exact climb (n := 0) (by simp [runC, h])
theorem eval_ops (l : List CStm) : eval C (.ops l) env H = (runOps (call C) l env H).map fun x => (.norm, x.1, x.2) := by
  refine LeO.eq ?_ ?_
  · intro r h
    obtain ⟨n, hn⟩ := descend h
    have := hn n (by omega)
    simp only [runC] at this
    obtain ⟨x, hx, rfl⟩ := Option.map_eq_some_iff.1 this
    have := runOps_mono (callC_mono C (run_eval C n)) _ _ _ _ hx
    unfold call
    rw [this]
    rfl
  · intro r h
    obtain ⟨x, hx, rfl⟩ := Option.map_eq_some_iff.1 h
    obtain ⟨n, hn⟩ := climbOps hx
    refine climb (n := n) ?_
    simp only [runC, hn, Option.map_some]

/-- Then, where it went on. -/
noncomputable def thenE (C : Ctx) (b : CCode) : Ex × Env × Heap → Out
  | (.norm, env, H) => eval C b env H
  | r => some r

theorem eval_seq (a b : CCode) : eval C (.seq a b) env H = (eval C a env H).bind (thenE C b) := by
  refine LeO.eq ?_ ?_
  · intro r h
    obtain ⟨n, hn⟩ := descend h
    have := hn n (by omega)
    simp only [runC] at this
    obtain ⟨⟨x, e, H1⟩, hx, hr⟩ := Option.bind_eq_some_iff.1 this
    rw [climb hx]
    cases x with
    | norm => exact climb hr
    | exit k => exact hr
    | ret => exact hr
  · intro r h
    obtain ⟨⟨x, e, H1⟩, hx, hr⟩ := Option.bind_eq_some_iff.1 h
    obtain ⟨n, hn⟩ := descend hx
    cases x with
    | norm =>
      obtain ⟨m, hm⟩ := descend (show eval C b e H1 = some r from hr)
      refine climb (n := max n m) ?_
      simp only [runC, hn (max n m) (by omega), Option.bind_some]
      exact hm _ (by omega)
    | exit k =>
      refine climb (n := n) ?_
      simp only [runC, hn n (by omega), Option.bind_some]
      exact hr
    | ret =>
      refine climb (n := n) ?_
      simp only [runC, hn n (by omega), Option.bind_some]
      exact hr

theorem eval_cond_true (c : Opd) (a b : CCode) (h : ev env c = .bool true) : eval C (.cond c a b) env H = eval C a env H := by
  refine LeO.eq ?_ ?_ <;> intro r hr <;> obtain ⟨n, hn⟩ := descend hr <;> refine climb (n := n) ?_ <;> have := hn n (by omega) <;> simpa only [runC, h, if_true] using this
theorem eval_cond_false (c : Opd) (a b : CCode) (h : ev env c = .bool false) : eval C (.cond c a b) env H = eval C b env H := by
  refine LeO.eq ?_ ?_ <;> intro r hr <;> obtain ⟨n, hn⟩ := descend hr <;> refine climb (n := n) ?_ <;> have := hn n (by omega) <;> simpa [runC, h] using this

/-- A choice. -/
noncomputable def condE (x : CV) (a b : Out) : Out :=
  match x with
  | .bool t => if t then a else b
  | _ => none

theorem eval_cond (c : Opd) (a b : CCode) : eval C (.cond c a b) env H = condE (ev env c) (eval C a env H) (eval C b env H) := by
  unfold condE
  split
  · rename_i t ht
    cases t
    · exact eval_cond_false C env H c a b ht
    · exact eval_cond_true C env H c a b ht
  · rename_i hne
    refine LeO.eq ?_ (fun _ h => by cases h)
    intro r hr
    obtain ⟨n, hn⟩ := descend hr
    have := hn n (by omega)
    simp only [runC] at this
    cases this

/-- Out of a block. -/
def outE (id : Nat) (lo : Option (List Nat)) : Ex × Env × Heap → Out
  | (.exit k, env', H') => if k = id then joinE lo env' H' else some (.exit k, env', H')
  | (.norm, env', H') => joinE lo env' H'
  | r => some r

theorem eval_block (id : Nat) (lo : Option (List Nat)) (c : CCode) : eval C (.block id lo c) env H = (eval C c env H).bind (outE id lo) := by
  refine LeO.eq ?_ ?_
  · intro r h
    obtain ⟨n, hn⟩ := descend h
    have := hn n (by omega)
    simp only [runC] at this
    obtain ⟨x, hx, hr⟩ := Option.bind_eq_some_iff.1 this
    rw [climb hx]
    exact hr
  · intro r h
    obtain ⟨x, hx, hr⟩ := Option.bind_eq_some_iff.1 h
    obtain ⟨n, hn⟩ := descend hx
    refine climb (n := n) ?_
    simp only [runC, hn n (by omega), Option.bind_some]
    exact hr

/-- Around a loop once more. -/
noncomputable def roundE (C : Ctx) (id : Nat) (li lo : List Nat) (c : CCode) : Ex × Env × Heap → Out
  | (.norm, env', H') => eval C (.bloop id li lo c) env' H'
  | (.exit k, env', H') => if k = id then (keepE lo env' H').map fun x => (.norm, x.1, x.2) else some (.exit k, env', H')
  | (.ret, env', H') => some (.ret, env', H')

theorem eval_bloop (id : Nat) (li lo : List Nat) (c : CCode) : eval C (.bloop id li lo c) env H = (keepE li env H).bind fun x => (eval C c x.1 x.2).bind (roundE C id li lo c) := by
  refine LeO.eq ?_ ?_
  · intro r h
    obtain ⟨n, hn⟩ := descend h
    have := hn n (by omega)
    simp only [runC] at this
    cases n with
    | zero => simp [iter] at this
    | succ n =>
      unfold iter at this
      obtain ⟨x, hx, h2⟩ := Option.bind_eq_some_iff.1 this
      obtain ⟨⟨e, env', H'⟩, hy, h3⟩ := Option.bind_eq_some_iff.1 h2
      rw [hx, Option.bind_some, climb hy, Option.bind_some]
      cases e with
      | norm =>
        refine climb (n := n + 1) ?_
        simp only [runC]
        exact iter_mono (fun _ _ => LeO.rfl) n (n + 1) (by omega) _ _ _ h3
      | exit k => exact h3
      | ret => exact h3
  · intro r h
    obtain ⟨x, hx, h2⟩ := Option.bind_eq_some_iff.1 h
    obtain ⟨⟨e, env', H'⟩, hy, h3⟩ := Option.bind_eq_some_iff.1 h2
    obtain ⟨n, hn⟩ := descend hy
    cases e with
    | norm =>
      obtain ⟨m, hm⟩ := descend (show eval C (.bloop id li lo c) env' H' = some r from h3)
      refine climb (n := max n m + 1) ?_
      simp only [runC]
      unfold iter
      rw [hx, Option.bind_some, hn (max n m + 1) (by omega), Option.bind_some]
      have := hm (max n m) (by omega)
      simp only [runC] at this
      exact iter_mono (fun e H => runC_mono (callC_mono C (run_mono C (max n m) (max n m + 1) (by omega))) (by omega) c e H) (max n m) (max n m) (by omega) _ _ _ this
    | exit k =>
      refine climb (n := n + 1) ?_
      simp only [runC]
      unfold iter
      rw [hx, Option.bind_some, hn (n + 1) (by omega), Option.bind_some]
      exact h3
    | ret =>
      refine climb (n := n + 1) ?_
      simp only [runC]
      unfold iter
      rw [hx, Option.bind_some, hn (n + 1) (by omega), Option.bind_some]
      exact h3
end

theorem call_runs {C : Ctx} {f : CV} {args : List CV} {H : Heap} {v : CV} {H' : Heap} (h : call C f args H = some (v, H')) : ∃ n, callC C (run C n) f args H = some (v, H') := call_iff.1 h

end Go.Zc
end
section
namespace Go.Zc
variable [Globs]
open Go.ChangeShapes Go.WideShapes Go.ChangeAt Go.RowKit

/-- The types that come in. -/
inductive Ty where
  | bool
  | int (k : IntKind)
  | str
  | slice (e : Ty)
  | struct (fs : List Ty)
  deriving Inhabited

mutual
def Ty.size : Ty → Nat
  | .struct fs => Ty.sizes fs
  | _ => 1
def Ty.sizes : List Ty → Nat
  | [] => 0
  | f :: fs => f.size + Ty.sizes fs
end

mutual
/-- What a value of a type looks like, cell by cell. -/
def HasTy : Ty → List CV → Prop
  | .bool, cs => ∃ b, cs = [.bool b]
  | .int k, cs => ∃ n, cs = [.int k n] ∧ (Lit.int k n).wf = true
  | .str, cs => ∃ s : ByteArray, cs = [.str s] ∧ s.size ≤ maxLen
  | .slice e, cs => ∃ rows : List (List CV), cs = [.vs rows.flatten rows.length] ∧ rows.length ≤ maxLen ∧ ∀ r ∈ rows, HasTy e r
  | .struct fs, cs => HasTys fs cs
def HasTys : List Ty → List CV → Prop
  | [], cs => cs = []
  | f :: fs, cs => ∃ a b, cs = a ++ b ∧ HasTy f a ∧ HasTys fs b
end

/-- The fields, one behind the other. -/
def fieldsTy (P : Program) (go : TypeId → Option Ty) : Nat → List Field → Option (List Ty)
  | _, [] => some []
  | off, f :: fs =>
    if f.offset = off then (go f.type).bind fun T => if P.cellsOf f.type = T.size then (fieldsTy P go (off + T.size) fs).map (T :: ·) else none else none

def tyOf (P : Program) : Nat → TypeId → Option Ty
  | 0, _ => none
  | n + 1, t =>
    match P.underlying t with
    | some .bool => some .bool
    | some (.int k) => some (.int k)
    | some .string => some .str
    | some (.slice e) => (tyOf P n e).bind fun T => if P.cellsOf e = T.size ∧ 0 < T.size then some (.slice T) else none
    | some (.struct fs) => (fieldsTy P (tyOf P n) 0 fs.toList).bind fun l => if P.cellsOf t = Ty.sizes l then some (.struct l) else none
    | _ => none

/-- Every block that is there. -/
def Old (w : World) (b : Nat) : Prop := b < w.heap.size

theorem mapM_all {α β : Type} {f : α → Option β} : ∀ {l : List α} {r : List β}, l.mapM f = some r → ∀ x ∈ l, ∃ y, f x = some y
  | [], _, _, x, hx => by simp at hx
  | a :: l, r, h, x, hx => by
    simp only [List.mapM_cons, Option.bind_eq_bind, Option.bind_eq_some_iff] at h
    obtain ⟨y, hy, ys, hys, _⟩ := h
    rcases List.mem_cons.1 hx with rfl | hx
    · exact ⟨y, hy⟩
    · exact mapM_all hys x hx

theorem BRc_of {w : World} {F : Nat → Prop} : ∀ {ccs : List CV} {cs : List Value} {b o : Nat}, BRl w F ccs cs → (∀ i c, cs[i]? = some c → w.cell? ⟨b, o + i, none⟩ = some c) → BRc w F ccs b o
  | [], _, _, _, _, _ => trivial
  | c :: ccs, cs, b, o, h, hc => by
    obtain ⟨u, us, rfl, h1, h2⟩ := h
    refine ⟨⟨u, by simpa using hc 0 u rfl, h1⟩, BRc_of h2 fun i x hx => ?_⟩
    have := hc (i + 1) x (by simpa using hx)
    rw [show o + 1 + i = o + (i + 1) by omega]
    exact this

theorem BRc_append {w : World} {F : Nat → Prop} : ∀ {a : List CV} {c : List CV} {b o : Nat}, BRc w F a b o → BRc w F c b (o + a.length) → BRc w F (a ++ c) b o
  | [], _, _, _, _, h => by simpa using h
  | x :: a, c, b, o, h, h2 => by
    obtain ⟨h3, h4⟩ := h
    refine ⟨h3, BRc_append h4 ?_⟩
    rw [show o + 1 + a.length = o + (x :: a).length by simp; omega]
    exact h2

theorem BRl_append {w : World} {F : Nat → Prop} : ∀ {a : List CV} {c : List CV} {x y : List Value}, BRl w F a x → BRl w F c y → BRl w F (a ++ c) (x ++ y)
  | [], _, x, y, h, h2 => by simp only [BRl] at h; subst h; simpa using h2
  | q :: a, c, x, y, h, h2 => by
    obtain ⟨u, us, rfl, h3, h4⟩ := h
    exact ⟨u, us ++ y, by simp, h3, BRl_append h4 h2⟩

/-- Rows of cells behind each other. -/
theorem rows_ok {w : World} {F : Nat → Prop} {T : Ty} {sz b : Nat} : ∀ (n o : Nat), (∀ i, i < n → ∃ cs ccs, (∀ j c, cs[j]? = some c → w.cell? ⟨b, o + i * sz + j, none⟩ = some c) ∧ BRl w F ccs cs ∧ ccs.length = sz ∧ HasTy T ccs) →
    ∃ rows : List (List CV), rows.length = n ∧ BRc w F rows.flatten b o ∧ ∀ r ∈ rows, HasTy T r
  | 0, _, _ => ⟨[], rfl, trivial, by simp⟩
  | n + 1, o, h => by
    obtain ⟨cs, ccs, h1, h2, h3, h4⟩ := h 0 (by omega)
    obtain ⟨rows, g1, g2, g3⟩ := rows_ok (T := T) (w := w) (F := F) (sz := sz) (b := b) n (o + sz) (fun i hi => by
      obtain ⟨cs, ccs, q1, q2, q3, q4⟩ := h (i + 1) (by omega)
      refine ⟨cs, ccs, fun j c hc => ?_, q2, q3, q4⟩
      have := q1 j c hc
      rw [show o + sz + i * sz + j = o + (i + 1) * sz + j by rw [Nat.add_mul]; omega]
      exact this)
    refine ⟨ccs :: rows, by simp [g1], ?_, ?_⟩
    · simp only [List.flatten_cons]
      refine BRc_append (BRc_of h2 fun i c hc => ?_) ?_
      · simpa using h1 i c hc
      · rw [h3]; exact g2
    · intro r hr
      rcases List.mem_cons.1 hr with rfl | hr
      · exact h4
      · exact g3 r hr

theorem fields_ok {H : Type} {enc : TypeId × Value → H} {P : Program} {w : World} {fuel : Nat} {sp : Nat → Bool} {hd : Bool} {go : TypeId → Option Ty} {all : List Value}
    (hrec : ∀ t T cs x, go t = some T → cs.length = P.cellsOf t → DataW.trod enc P w 0 sp hd fuel t cs = some x → ∃ ccs, BRl w (Old w) ccs cs ∧ ccs.length = T.size ∧ HasTy T ccs) :
    ∀ (fs : List Field) (off : Nat) (l : List Ty), fieldsTy P go off fs = some l → all.length = off + Ty.sizes l →
      (∀ f ∈ fs, ∃ y, DataW.trod enc P w 0 sp hd fuel f.type ((all.drop f.offset).take (P.cellsOf f.type)) = some y) →
      ∃ ccs, BRl w (Old w) ccs (all.drop off) ∧ ccs.length = Ty.sizes l ∧ HasTys l ccs
  | [], off, l, h, hl, _ => by
    simp only [fieldsTy, Option.some.injEq] at h
    subst h
    refine ⟨[], ?_, rfl, rfl⟩
    simp only [Ty.sizes] at hl
    simp only [BRl]
    exact List.drop_eq_nil_of_le (by omega)
  | f :: fs, off, l, h, hl, hf => by
    unfold fieldsTy at h
    split at h
    · rename_i ho
      simp only [Option.bind_eq_some_iff] at h
      obtain ⟨T, hT, h⟩ := h
      split at h
      · rename_i hsz
        simp only [Option.map_eq_some_iff] at h
        obtain ⟨l', hl', rfl⟩ := h
        simp only [Ty.sizes] at hl
        obtain ⟨y, hy⟩ := hf f (by simp)
        subst ho
        have hlen : ((all.drop f.offset).take (P.cellsOf f.type)).length = P.cellsOf f.type := by
          simp; omega
        obtain ⟨c1, g1, g2, g3⟩ := hrec _ T _ y hT hlen hy
        obtain ⟨c2, k1, k2, k3⟩ := fields_ok hrec fs (f.offset + T.size) l' hl' (by omega) (fun f hf' => hf f (by simp [hf']))
        refine ⟨c1 ++ c2, ?_, by simp [g2, k2, Ty.sizes], ⟨c1, c2, rfl, g3, k3⟩⟩
        have := BRl_append g1 k1
        rwa [hsz, ← List.drop_drop, List.take_append_drop] at this
      · cases h
    · cases h

theorem Addr.add_zero' (a : Addr) : a.add 0 = a := by simp [Addr.add]
theorem Addr.add_at {a : Addr} (h : a.spot = none) (n : Nat) : a.add n = ⟨a.block, a.off + n, none⟩ := by
  unfold Addr.add
  split
  · rename_i h0
    subst h0
    obtain ⟨b, o, s⟩ := a
    simp at h
    simp [h]
  · rfl

theorem open_ty {H : Type} {enc : TypeId × Value → H} {P : Program} {w : World} {sp : Nat → Bool} {hd : Bool} : ∀ (fuel n : Nat) (t : TypeId) (T : Ty) (cs : List Value) (x : DataW H × List MemPlace), tyOf P n t = some T → cs.length = P.cellsOf t →
    DataW.trod enc P w 0 sp hd fuel t cs = some x → ∃ ccs, BRl w (Old w) ccs cs ∧ ccs.length = T.size ∧ HasTy T ccs
  | 0, _, _, _, _, _, _, _, h => by simp [DataW.trod] at h
  | fuel + 1, 0, _, _, _, _, ht, _, _ => by simp [tyOf] at ht
  | fuel + 1, n + 1, t, T, cs, x, ht, hlen, h => by
    have hrec := open_ty (enc := enc) (P := P) (w := w) (sp := sp) (hd := hd) fuel n
    unfold tyOf at ht
    unfold DataW.trod at h
    cases hu : P.underlying t with
    | none => simp [hu] at ht
    | some u =>
      simp only [hu] at ht h
      cases u with
      | bool =>
        simp only [Option.some.injEq] at ht
        subst ht
        split at h <;> simp_all
        exact ⟨[.bool _], ⟨_, _, rfl, rfl, rfl⟩, rfl, _, rfl⟩
      | int k =>
        simp only [Option.some.injEq] at ht
        subst ht
        split at h <;> simp_all
        obtain ⟨⟨rfl, h2⟩, _⟩ := h
        exact ⟨[.int _ _], ⟨_, _, rfl, rfl, rfl⟩, rfl, _, rfl, h2⟩
      | string =>
        simp only [Option.some.injEq] at ht
        subst ht
        split at h <;> simp_all
        exact ⟨[.str _], ⟨_, _, rfl, rfl, rfl⟩, rfl, _, rfl, h.1⟩
      | slice e =>
        simp only [Option.bind_eq_some_iff] at ht
        obtain ⟨E, hE, ht⟩ := ht
        split at ht <;> (try cases ht)
        rename_i hsz
        split at h
        all_goals try (exfalso; simp_all; done)
        · refine ⟨[.vs [] 0], ⟨_, _, rfl, ⟨none, 0, rfl, Nat.le_refl _, .inl rfl⟩, rfl⟩, rfl, [], rfl, Nat.zero_le _, by simp⟩
        · rename_i e' a len cap heq
          obtain rfl : e = e' := by simpa using heq
          split at h
          · rename_i hb
            simp only [Option.bind_eq_some_iff] at h
            obtain ⟨elems, hel, _⟩ := h
            by_cases h0 : len = 0
            · subst h0
              exact ⟨[.vs [] 0], ⟨_, _, rfl, ⟨some a, cap, rfl, Nat.zero_le _, .inl rfl⟩, rfl⟩, rfl, [], rfl, Nat.zero_le _, by simp⟩
            · have cell0 : a.spot = none ∧ a.block < w.heap.size := by
                obtain ⟨y, hy⟩ := mapM_all hel 0 (by simp; omega)
                simp only [Option.bind_eq_some_iff] at hy
                obtain ⟨cs, hcs, hy⟩ := hy
                obtain ⟨_, k1, k2⟩ := World.cells?_some hcs
                have hpos : 0 < P.cellsOf e := by omega
                have hlt := World.cells?_block hcs hpos
                have := k2 0 hpos
                have h3 : ∃ c, cs[0]? = some c := by
                  cases cs with
                  | nil => simp at k1; omega
                  | cons c _ => exact ⟨c, rfl⟩
                obtain ⟨c, hc⟩ := h3
                rw [hc] at this
                have hs := World.cell?_spot this
                rw [Nat.zero_mul, Addr.add_zero', Addr.add_zero'] at hs
                rw [Nat.zero_mul, Addr.add_zero'] at hlt
                exact ⟨hs, hlt⟩
              obtain ⟨hspot, hblk⟩ := cell0
              have each : ∀ i, i < len → ∃ cs ccs, (∀ (j : Nat) (c : Value), cs[j]? = some c → w.cell? ⟨a.block, a.off + i * E.size + j, none⟩ = some c) ∧ BRl w (Old w) ccs cs ∧ ccs.length = E.size ∧ HasTy E ccs := by
                intro i hi
                obtain ⟨y, hy⟩ := mapM_all hel i (by simpa using hi)
                simp only [Option.bind_eq_some_iff] at hy
                obtain ⟨cs, hcs, hy⟩ := hy
                obtain ⟨ccs, g1, g2, g3⟩ := hrec _ E cs y hE (World.cells?_some hcs).2.1 hy
                obtain ⟨_, k1, k2⟩ := World.cells?_some hcs
                refine ⟨cs, ccs, fun j c hc => ?_, g1, g2, g3⟩
                have hj : j < P.cellsOf e := by
                  have := (List.getElem?_eq_some_iff.1 hc).1
                  rw [k1] at this; exact this
                have := k2 j hj
                rw [hc, Addr.add_at hspot, Addr.add_at rfl] at this
                rw [← hsz.1]
                exact this
              obtain ⟨rows, g1, g2, g3⟩ := rows_ok (w := w) (F := Old w) (T := E) (sz := E.size) (b := a.block) len a.off each
              refine ⟨[.vs rows.flatten rows.length], ⟨_, _, rfl, ⟨some a, cap, by rw [g1], by rw [g1]; exact hb.2.1, .inr ⟨a.block, a.off, ?_, hblk, g2⟩⟩, rfl⟩, rfl, rows, rfl, by rw [g1]; omega, g3⟩
              rw [← hspot]
          · cases h
      | struct fs =>
        simp only [Option.bind_eq_some_iff] at ht
        obtain ⟨l, hl, ht⟩ := ht
        split at ht <;> (try cases ht)
        rename_i hsz
        split at h
        all_goals try (exfalso; simp_all; done)
        rename_i fs' heq
        obtain rfl : fs = fs' := by simpa using heq
        split at h
        · simp only [Option.map_eq_some_iff] at h
          obtain ⟨xs, hxs, _⟩ := h
          obtain ⟨ccs, g1, g2, g3⟩ := fields_ok (fun t T cs x a b c => hrec t T cs x a b c) fs.toList 0 l hl (hlen.trans (hsz.trans (Nat.zero_add _).symm)) (fun f hf => mapM_all hxs f hf)
          exact ⟨ccs, by simpa using g1, by simpa [Ty.size] using g2, by simpa [HasTy] using g3⟩
        · exact absurd hlen (by assumption)
      | _ => simp at ht

/-! ### A law's row -/

/-- An argument of a type. -/
def HasArg : Ty → CV → Prop
  | .struct fs, c => ∃ cs, c = .agg cs ∧ HasTys fs cs
  | T, c => HasTy T [c]

def HasArgs : List Ty → List CV → Prop
  | [], cs => cs = []
  | T :: Ts, cs => ∃ c r, cs = c :: r ∧ HasArg T c ∧ HasArgs Ts r

def argTy (P : Program) (n : Nat) (t : TypeId) : Option Ty := (tyOf P n t).bind fun T => if P.cellsOf t = T.size ∧ P.readableRec t = true ∧ t < P.types.size then some T else none

def argsTy (P : Program) (n : Nat) : List TypeId → Option (List Ty)
  | [] => some []
  | t :: ts => (argTy P n t).bind fun T => (argsTy P n ts).map (T :: ·)

theorem open_arg {H : Type} {enc : TypeId × Value → H} {P : Program} {w : World} {sp : Nat → Bool} {hd : Bool} {r : Reach} {b0 n : Nat} {t : TypeId} {T : Ty} {v : Value} {d : DataW H} {p : List MemPlace}
    (ht : argTy P n t = some T) (hv : Value.okWide P w r b0 t v) (h : DataW.Trod enc P w 0 sp hd t v d p) : ∃ c, BR w (Old w) c v ∧ HasArg T c := by
  obtain ⟨fuel, hf⟩ := h
  simp only [argTy, Option.bind_eq_some_iff] at ht
  obtain ⟨T', ht, hc⟩ := ht
  split at hc <;> (try cases hc)
  rename_i hsz
  have hsz := hsz.1
  have one : v.cells.toList = [v] → (∀ fs, T ≠ .struct fs) → ∃ c, BR w (Old w) c v ∧ HasArg T c := by
    intro hu hns
    rw [hu] at hf
    obtain ⟨ccs, h1, h2, h3⟩ := open_ty fuel n t T [v] (d, p) ht (by
      rw [hsz]
      cases T with
      | struct fs => exact (hns fs rfl).elim
      | _ => rfl) hf
    cases ccs with
    | nil => simp [BRl] at h1
    | cons c ccs =>
      simp only [BRl, List.cons.injEq] at h1
      obtain ⟨_, us, ⟨rfl, rfl⟩, h4, h5⟩ := h1
      have hnil : ccs = [] := by
        cases ccs with
        | nil => rfl
        | cons _ _ => simp [BRl] at h5
      subst hnil
      refine ⟨c, h4, ?_⟩
      cases T with
      | struct fs => exact (hns fs rfl).elim
      | _ => exact h3
  cases n with
  | zero => simp [tyOf] at ht
  | succ n =>
    have ht0 := ht
    unfold tyOf at ht0
    cases hu : P.underlying t with
    | none => simp [hu] at ht0
    | some u =>
      simp only [hu] at ht0
      cases u with
      | bool =>
        obtain ⟨b, rfl⟩ := okWide_bool hu hv
        simp only [Option.some.injEq] at ht0
        exact one rfl (by rw [← ht0]; intro fs h; cases h)
      | int k =>
        obtain ⟨b, rfl⟩ := okWide_int hu hv
        simp only [Option.some.injEq] at ht0
        exact one rfl (by rw [← ht0]; intro fs h; cases h)
      | string =>
        obtain ⟨b, rfl⟩ := okWide_string hu hv
        simp only [Option.some.injEq] at ht0
        exact one rfl (by rw [← ht0]; intro fs h; cases h)
      | slice e =>
        obtain ⟨a, l, c, rfl⟩ := okWide_slice hu hv
        simp only [Option.bind_eq_some_iff] at ht0
        obtain ⟨E, _, ht0⟩ := ht0
        split at ht0 <;> (try cases ht0)
        exact one rfl (by intro fs h; cases h)
      | struct fs =>
        obtain ⟨cs, rfl, hs⟩ := okWide_struct hu hv
        obtain ⟨ccs, h1, h2, h3⟩ := open_ty fuel (n + 1) t T cs.toList (d, p) ht (by simpa using hs) hf
        refine ⟨.agg ccs, ⟨cs, rfl, h1⟩, ?_⟩
        simp only [Option.bind_eq_some_iff] at ht0
        obtain ⟨l, _, ht0⟩ := ht0
        split at ht0 <;> (try cases ht0)
        exact ⟨ccs, rfl, h3⟩
      | _ => simp at ht0

theorem open_args {H : Type} {enc : TypeId × Value → H} {P : Program} {w : World} {sp : Nat → Bool} {hd : Bool} {r : Reach} {b0 n : Nat} : ∀ {ts : List TypeId} {Ts : List Ty} {vs : List Value} {ds : List (DataW H)} {p : List MemPlace},
    argsTy P n ts = some Ts → (∀ (j : Nat) t v, ts[j]? = some t → vs[j]? = some v → Value.okWide P w r b0 t v) → DataW.TrodAll enc P w 0 sp hd ts vs ds p → ∃ cs, BRl w (Old w) cs vs ∧ HasArgs Ts cs
  | [], Ts, vs, ds, p, ht, _, h => by
    obtain ⟨rfl, _, _⟩ := trodAll_nil h
    simp only [argsTy, Option.some.injEq] at ht
    subst ht
    exact ⟨[], rfl, rfl⟩
  | t :: ts, Ts, vs, ds, p, ht, hv, h => by
    obtain ⟨v, vs', d, ds', p1, q, rfl, rfl, rfl, h0, hr⟩ := trodAll_cons h
    simp only [argsTy, Option.bind_eq_some_iff, Option.map_eq_some_iff] at ht
    obtain ⟨T, hT, Ts', hTs, rfl⟩ := ht
    obtain ⟨c, h1, h2⟩ := open_arg hT (hv 0 t v rfl rfl) h0
    obtain ⟨cs, h3, h4⟩ := open_args hTs (fun j t v a b => hv (j + 1) t v (by simpa using a) (by simpa using b)) hr
    exact ⟨c :: cs, ⟨_, _, rfl, h1, h3⟩, c, cs, rfl, h2, h4⟩

theorem again_args {H : Type} {enc : TypeId × Value → H} {P : Program} {w w' : World} {n : Nat} (hl : laidOutB P = true) (hb : Below w.heap.size w w') : ∀ {ts : List TypeId} {Ts : List Ty} {vs : List Value} {ds : List (DataW H)} {p : List MemPlace},
    argsTy P n ts = some Ts → DataW.TrodAll enc P w 0 (fun _ => true) true ts vs ds p → DataW.TrodAll enc P w' 0 (fun b => decide (b < w.heap.size)) true ts vs ds p
  | [], Ts, vs, ds, p, _, h => by
    obtain ⟨rfl, rfl, rfl⟩ := trodAll_nil h
    exact trodAll_mk0
  | t :: ts, Ts, vs, ds, p, ht, h => by
    obtain ⟨v, vs', d, ds', p1, q, rfl, rfl, rfl, h0, hr⟩ := trodAll_cons h
    simp only [argsTy, Option.bind_eq_some_iff, Option.map_eq_some_iff] at ht
    obtain ⟨T, hT, Ts', hTs, rfl⟩ := ht
    simp only [argTy, Option.bind_eq_some_iff] at hT
    obtain ⟨_, _, hc⟩ := hT
    split at hc <;> (try cases hc)
    rename_i hsz
    refine ⟨p1, q, Below.trod hl hsz.2.1 hsz.2.2 h0 hb ?_, again_args hl hb hTs hr, rfl⟩
    obtain ⟨m, hm⟩ := h0
    exact DataW.trod_lt m _ _ _ hm

/-- What an empty memory's call comes to, the model hands back, and nothing that was there has turned. -/
theorem calls_of_call {P : Program} {K : Ctx} (hK : CtxOk P K) {f : FuncId} {cs : List CV} {v : CV} {H' : Heap} (h : call K (.fn (.func f) [] []) cs ⟨[], []⟩ = some (v, H')) {w : World} (hg : GlobOk w (Old w)) {vs : Array Value} (hr : BRl w (Old w) cs vs.toList) :
    Calls P f vs w fun e w' => ∃ F' ι' v', e = .returned v' ∧ VR w' F' ι' v v' ∧ Below w.heap.size w w' := by
  obtain ⟨n, hn⟩ := call_iff.1 h
  obtain ⟨k, first, cap, fn, he, _, _, _, hc⟩ := (caller_ok hK n).1 _ _ _ _ _ hn
  simp only [CV.fn.injEq, Fn.func.injEq] at he
  obtain ⟨rfl, rfl, rfl⟩ := he
  have := hc w (Old w) IM.nil vs.toList (Inv.empty w (Old w) hg fun _ h => h) (by simpa using BRl.vr _ _ hr)
  rw [Array.toArray_toList] at this
  refine this.mono ?_
  rintro e w' ⟨v', F', ι', rfl, h1, _, h3, _⟩
  exact ⟨F', ι', v', rfl, h1, h3.os, h3.tape, h3.output, h3.size, fun k hk => h3.frame k hk no_live⟩

theorem law_lifted {C : Checked} {K : Ctx} (hK : CtxOk C.prog K) {f : FuncId} {fn : Func} {s : ChangeSpec} {n : Nat} {Ts : List Ty} {tb : TypeId} {conds : List PathCond}
    (own : ownKnob C.prog.godebug = none) (laid : laidOutB C.prog = true) (noInit : C.prog.inits.idxOf? f = none) (hfn : C.prog.funcs[f]? = some fn)
    (hres : fn.resultTypes = #[tb]) (hb : C.prog.underlying tb = some .bool) (hvars : s.vars = []) (hty : argsTy C.prog n fn.params.toList = some Ts)
    (hspec : ∀ (H : Type) (ds : List (DataW H)), ds.length = Ts.length → s.fn H ds = { results := [.lit (.bool true)], args := ds })
    (hgl : ∀ W : World, GlobOk W (Old W))
    (law : ∀ cs, HasArgs Ts cs → ∃ H', call K (.fn (.func f) [] []) cs ⟨[], []⟩ = some (.bool true, H'))
    (os : Os) (started : os.Started) (H : Type) (enc : TypeId × Value → H)
    (witness : ∃ (w : World) (tape : Tape) (i : Input), w.os = os ∧ (w.forCall tape i).Shaped C.prog ∧ i.vars = [] ∧ Input.okWide C.prog (w.forCall tape i) .any w.heap.size f i ∧
      s.pre6 enc C.prog fn conds false (w.forCall tape i).memory i.args ∧ ({} : Assume).holds C.prog (lone (Frame.enter C.prog f i.args .normal) [] (w.forCall tape i))) :
    ReturnsInHanded {} C os f .any (s.pre6 enc C.prog fn conds false) (s.post enc C.prog fn false true false false) := by
  refine returnsInHanded_of_change own started noInit hfn witness ?_
  intro W base args ds gs before hval hW hcnd _
  have hW' := hW
  obtain ⟨p, q, hA, hV, rfl, hfz, hnd⟩ := hW
  rw [hvars] at hV
  obtain ⟨rfl, rfl⟩ := trodVars_none hV
  have hlen : ds.length = Ts.length := by
    have l1 : ∀ {ts : List TypeId} {vs : List Value} {ds : List (DataW H)} {p : List MemPlace}, DataW.TrodAll enc C.prog W 0 (fun _ => true) true ts vs ds p → ds.length = ts.length := by
      intro ts
      induction ts with
      | nil => intro vs ds p h; obtain ⟨_, rfl, _⟩ := trodAll_nil h; rfl
      | cons t ts ih => intro vs ds p h; obtain ⟨_, _, _, _, _, _, rfl, rfl, rfl, _, hr⟩ := trodAll_cons h; simp [ih hr]
    have l2 : ∀ {ts : List TypeId} {Ts : List Ty}, argsTy C.prog n ts = some Ts → Ts.length = ts.length := by
      intro ts
      induction ts with
      | nil => intro Ts h; simp only [argsTy, Option.some.injEq] at h; subst h; rfl
      | cons t ts ih =>
        intro Ts h
        simp only [argsTy, Option.bind_eq_some_iff, Option.map_eq_some_iff] at h
        obtain ⟨T, _, Ts', hTs, rfl⟩ := h
        simp [ih hTs]
    rw [l1 hA, l2 hty]
  obtain ⟨cs, hcs, hargs⟩ := open_args hty (fun j t v a b => hval j t v (by simpa using a) (by simpa using b)) hA
  obtain ⟨H', hcall⟩ := law cs hargs
  refine (calls_of_call hK hcall (hgl W) hcs).mono ?_
  rintro e W' ⟨F', ι', v', rfl, hv, bel⟩
  simp only [VR, BR] at hv
  subst hv
  refine ⟨_, rfl, ds, [], _, [], p, [], hW', ?_, ?_, ?_, bel.frame _, fun h => by cases h⟩
  · rw [List.append_nil, hspec H ds hlen, hres]
    exact trodAll_mk1 (shut_bool hb _)
  · rw [List.append_nil, hspec H ds hlen]
    exact again_args laid bel hty hA
  · rw [hvars, List.append_nil, hspec H ds hlen]
    rfl

end Go.Zc
end
section
namespace Go.Zc
variable [Globs]

inductive TabOk (P : Program) (C : Ctx) : List (Nat × FInfo) → Prop where
  | nil : TabOk P C []
  | cons {k : Nat} {I : FInfo} {r : List (Nat × FInfo)} : (∃ fn an, P.funcs[k]? = some fn ∧ compF P (quietOf C) an I.mode fn = some I) → TabOk P C r → TabOk P C ((k, I) :: r)

theorem TabOk.get {P : Program} {C : Ctx} : ∀ {t : List (Nat × FInfo)}, TabOk P C t → ∀ k I, look t k = some I → ∃ fn an, P.funcs[k]? = some fn ∧ compF P (quietOf C) an I.mode fn = some I
  | _, .nil, _, _, h => by simp [look] at h
  | _, .cons (k := i) h r, k, I, hl => by
    unfold look at hl
    cases hb : Nat.beq i k with
    | true =>
      simp only [hb, cond_true, Option.some.injEq] at hl
      subst hl
      have : i = k := Nat.eq_of_beq_eq_true hb
      subst this
      exact h
    | false =>
      simp only [hb, cond_false] at hl
      exact r.get k I hl

theorem ctxOk_of {P : Program} {tab : List (Nat × FInfo)} (mix : P.follows .mixedOrders = true) (h : TabOk P ⟨look tab, fun _ => none⟩ tab) : CtxOk P ⟨look tab, fun _ => none⟩ where
  mix := mix
  info := fun k I _ hi => h.get k I hi
  prim := fun k s hs => by cases hs

end Go.Zc
end
section
namespace Go.Zc

/-! ### What stands where -/

theorem at_hit (r : Env) (t : Nat) (v : CV) : Env.at ((t, v) :: r) t = v := by
  simp [Env.at, look]
theorem at_miss (r : Env) {s t : Nat} (v : CV) (h : s ≠ t) : Env.at ((s, v) :: r) t = Env.at r t := by
  have : Nat.beq s t = false := by
    rw [← Bool.not_eq_true, Nat.beq_eq]; exact h
  simp [Env.at, look, this]

theorem ev_t (env : Env) (n : Nat) : ev env (.t n) = Env.at env n := (rfl)
theorem ev_c (env : Env) (v : CV) : ev env (.c v) = v := (rfl)
theorem putD_some (env : Env) (d : Nat) (v : CV) : putD env (some d) v = (d, v) :: env := (rfl)
theorem putD_none (env : Env) (v : CV) : putD env none v = env := (rfl)
theorem keep_nil (env : Env) : keep env [] = [] := (rfl)
theorem keep_cons (env : Env) (t : Nat) (r : List Nat) : keep env (t :: r) = (t, Env.at env t) :: keep env r := (rfl)

/-! ### Statements -/

/-- The rest, behind a statement. -/
noncomputable def restE (C : Ctx) (d : Option Nat) (r : List CStm) (env : Env) (x : CV × Heap) : Option (Env × Heap) := runOps (call C) r (putD env d x.1) x.2
/-- Where a guard stands. -/
noncomputable def guardE (C : Ctx) (want : Bool) (s : CStm) (r : List CStm) (env : Env) (H : Heap) (g : CV) : Option (Env × Heap) :=
  match gvC g with
  | some c => if c = some want then runOps (call C) ({ s with guard := none } :: r) env H else runOps (call C) r (putD env s.dst (.tup [])) H
  | none => none

section
variable (C : Ctx) (env : Env) (H : Heap)
theorem restE_mk (d : Option Nat) (r : List CStm) (v : CV) : restE C d r env (v, H) = runOps (call C) r (putD env d v) H := (rfl)
theorem runOps_nil : runOps (call C) [] env H = some (env, H) := (rfl)
theorem runOps_p (d : Option Nat) (o : POp) (as : List Opd) (r : List CStm) : runOps (call C) (⟨d, .p o, as, none⟩ :: r) env H = ((pureOp o (evs env as)).map fun v => (v, H)).bind (restE C d r env) := (rfl)
theorem runOps_mov (d : Nat) (a : Opd) (r : List CStm) : runOps (call C) (⟨some d, .p .mov, [a], none⟩ :: r) env H = runOps (call C) r ((d, ev env a) :: env) H := (rfl)
theorem runOps_h (d : Option Nat) (o : HOp) (as : List Opd) (r : List CStm) : runOps (call C) (⟨d, .h o, as, none⟩ :: r) env H = (heapOp o (evs env as) H).bind (restE C d r env) := (rfl)
theorem runOps_hb (d : Option Nat) (o : HOp) (as : List Opd) (r : List CStm) : runOps (call C) (⟨d, .hb o, as, none⟩ :: r) env H = (runOp (call C) (.hb o) (evs env as) H).bind (restE C d r env) := (rfl)
theorem runOps_hl (d : Option Nat) (s : Nat) (o : HOp) (as : List Opd) (r : List CStm) : runOps (call C) (⟨d, .hl s o, as, none⟩ :: r) env H = (runOp (call C) (.hl s o) (evs env as) H).bind (restE C d r env) := (rfl)
theorem runOps_call (d : Option Nat) (f : Opd) (as : List Opd) (r : List CStm) : runOps (call C) (⟨d, .call, f :: as, none⟩ :: r) env H = (call C (ev env f) (evs env as) H).bind (restE C d r env) := (rfl)
theorem runOps_callb (d : Option Nat) (f : Opd) (as : List Opd) (r : List CStm) : runOps (call C) (⟨d, .callb, f :: as, none⟩ :: r) env H = ((call C (ev env f) (evs env as) ⟨[], H.bl⟩).map fun x => (x.1, (⟨H.bx, x.2.bl⟩ : Heap))).bind (restE C d r env) := (rfl)
theorem runOps_callp (d : Option Nat) (f : Opd) (as : List Opd) (r : List CStm) : runOps (call C) (⟨d, .callp, f :: as, none⟩ :: r) env H = ((call C (ev env f) (evs env as) ⟨[], H.bl⟩).bind fun x => if isPre H.bl x.2.bl then some (x.1, (⟨H.bx, x.2.bl⟩ : Heap)) else none).bind (restE C d r env) := (rfl)
theorem runOps_callk (n : Nat) (d : Option Nat) (f : Opd) (as : List Opd) (r : List CStm) : runOps (call C) (⟨d, .callk n, f :: as, none⟩ :: r) env H = ((call C (ev env f) ((evs env as).take ((evs env as).length - n)) ⟨[], H.bl⟩).bind fun x => if sparesC ((evs env as).drop ((evs env as).length - n)) H.bl x.2.bl then some (x.1, (⟨H.bx, x.2.bl⟩ : Heap)) else none).bind (restE C d r env) := (rfl)
theorem isund_und : pureOp .isund [.und] = some (.tup []) := (rfl)
theorem runOps_callv (d : Option Nat) (f : Opd) (as : List Opd) (r : List CStm) : runOps (call C) (⟨d, .callv, f :: as, none⟩ :: r) env H = (if CV.refs (ev env f :: evs env as) then none else (call C (ev env f) (evs env as) ⟨[], []⟩).map fun x => (x.1, H)).bind (restE C d r env) := (rfl)
theorem runOps_guard (d : Option Nat) (o : COp) (as : List Opd) (g : Nat) (want : Bool) (r : List CStm) : runOps (call C) (⟨d, o, as, some (g, want)⟩ :: r) env H = guardE C want ⟨d, o, as, none⟩ r env H (Env.at env g) := (rfl)
theorem guardE_bool (want : Bool) (s : CStm) (r : List CStm) (b : Bool) : guardE C want s r env H (.bool b) = if b = want then runOps (call C) ({ s with guard := none } :: r) env H else runOps (call C) r (putD env s.dst (.tup [])) H := by
  simp only [guardE, gvC, Option.some.injEq]
theorem guardE_skip (want : Bool) (s : CStm) (r : List CStm) : guardE C want s r env H (.tup []) = runOps (call C) r (putD env s.dst (.tup [])) H := by
  simp [guardE, gvC]

theorem map_bind_some {α β γ : Type} (v : α) (f : α → β) (g : β → Option γ) : ((some v).map f).bind g = g (f v) := (rfl)
theorem bind_some' {α β : Type} (v : α) (g : α → Option β) : (some v).bind g = g v := (rfl)
theorem bind_none' {α β : Type} (g : α → Option β) : (none : Option α).bind g = none := (rfl)
theorem map_some' {α β : Type} (v : α) (g : α → β) : (some v).map g = some (g v) := (rfl)
theorem map_none' {α β : Type} (g : α → β) : (none : Option α).map g = none := (rfl)

/-- Behind statements. -/
def normE (x : Env × Heap) : Ex × Env × Heap := (.norm, x.1, x.2)
theorem eval_ops' (l : List CStm) : eval C (.ops l) env H = (runOps (call C) l env H).map normE := eval_ops C env H l
/-- A box that nobody writes any more. -/
def frzG (t : Nat) (env : Env) (H : Heap) (k : Nat) : Option (List CV) → Out
  | some cs => if CV.refs cs then none else some (.norm, (t, .vp cs) :: env, H.kill (.blk k))
  | none => none
def frzV (t : Nat) (env : Env) (H : Heap) : CV → Out
  | .op (.blk k) 0 => frzG t env H k (H.get (.blk k))
  | _ => none
theorem frzG_some (t k : Nat) (cs : List CV) : frzG t env H k (some cs) = if CV.refs cs then none else some (.norm, (t, .vp cs) :: env, H.kill (.blk k)) := (rfl)
theorem frzV_op (t k : Nat) : frzV t env H (.op (.blk k) 0) = frzG t env H k (H.get (.blk k)) := (rfl)
theorem eval_frz' (t : Nat) : eval C (.frz t) env H = frzV t env H (Env.at env t) := by
  rw [eval_frz]
  unfold frzC frzV
  generalize Env.at env t = v
  split
  · rename_i k
    simp only [frzG]
    cases H.get (.blk k) with
    | none => rfl
    | some cs =>
      simp only []
      split <;> rfl
  · rename_i h
    split
    · exact (h _ rfl).elim
    · rfl
theorem kill_blk (bx : List (Nat × List CV)) (bl : List Blk) (k : Nat) : Heap.kill ⟨bx, bl⟩ (.blk k) = ⟨bx, bl.set k .dead⟩ := (rfl)
theorem normE_mk : normE (env, H) = (.norm, env, H) := (rfl)
theorem thenE_norm (b : CCode) : thenE C b (.norm, env, H) = eval C b env H := (rfl)
theorem thenE_exit (b : CCode) (k : Nat) : thenE C b (.exit k, env, H) = some (.exit k, env, H) := (rfl)
theorem thenE_ret (b : CCode) : thenE C b (.ret, env, H) = some (.ret, env, H) := (rfl)
theorem outE_norm (id : Nat) (lo : Option (List Nat)) : outE id lo (.norm, env, H) = joinE lo env H := (rfl)
theorem outE_ret (id : Nat) (lo : Option (List Nat)) : outE id lo (.ret, env, H) = some (.ret, env, H) := (rfl)
theorem outE_exit (id k : Nat) (lo : Option (List Nat)) : outE id lo (.exit k, env, H) = if k = id then joinE lo env H else some (.exit k, env, H) := (rfl)
theorem condE_bool (b : Bool) (x y : Out) : condE (.bool b) x y = if b then x else y := (rfl)

/-- Behind a keep. -/
def exitE (x : Env × Heap) : Ex × Env × Heap := (.norm, x.1, x.2)
theorem joinE_none : joinE none env H = some (.norm, env, H) := (rfl)
theorem joinE_some (l : List Nat) : joinE (some l) env H = (keepE l env H).map normE := (rfl)
/-- Into a round. -/
noncomputable def intoE (C : Ctx) (id : Nat) (li lo : List Nat) (c : CCode) (x : Env × Heap) : Out := (eval C c x.1 x.2).bind (roundE C id li lo c)
theorem eval_bloop' (id : Nat) (li lo : List Nat) (c : CCode) : eval C (.bloop id li lo c) env H = (keepE li env H).bind (intoE C id li lo c) := eval_bloop C env H id li lo c
theorem intoE_mk (id : Nat) (li lo : List Nat) (c : CCode) : intoE C id li lo c (env, H) = (eval C c env H).bind (roundE C id li lo c) := (rfl)
theorem roundE_norm (id : Nat) (li lo : List Nat) (c : CCode) : roundE C id li lo c (.norm, env, H) = eval C (.bloop id li lo c) env H := (rfl)
theorem roundE_ret (id : Nat) (li lo : List Nat) (c : CCode) : roundE C id li lo c (.ret, env, H) = some (.ret, env, H) := (rfl)
theorem roundE_exit (id k : Nat) (li lo : List Nat) (c : CCode) : roundE C id li lo c (.exit k, env, H) = if k = id then (keepE lo env H).map normE else some (.exit k, env, H) := (rfl)
end

theorem bind_ite {α β : Type} (c : Prop) [Decidable c] (a b : Option α) (f : α → Option β) : (if c then a else b).bind f = if c then a.bind f else b.bind f := by split <;> rfl
theorem map_ite {α β : Type} (c : Prop) [Decidable c] (a b : Option α) (f : α → β) : (if c then a else b).map f = if c then a.map f else b.map f := by split <;> rfl

/-! ### Slices by value -/

/-- A frozen slice, row by row. -/
def sl {α : Type} (f : α → List CV) (l : List α) : CV := .vs (l.flatMap f) l.length

section
variable {α : Type} (f : α → List CV) (l : List α)
theorem lenC_sl : lenC (sl f l) = some (.int .i64 l.length) := (rfl)
theorem locv_sl : (sl f l).locv = false := (rfl)
theorem ref_sl : (sl f l).ref = false := (rfl)
theorem und_sl : (sl f l).und? = false := (rfl)
theorem one_sl : (sl f l).one = true := (rfl)
theorem cells_sl : (sl f l).cells = [sl f l] := (rfl)
theorem isSl_sl : isSl (sl f l) = true := (rfl)
theorem lenOf_sl : lenOf (sl f l) = l.length := (rfl)
theorem snapV_sl (H : Heap) (kn : Bool) (g : CV → Option CV) : snapV H false kn g (sl f l) = some (sl f l) := (rfl)
end

theorem flatMap_len {α : Type} {f : α → List CV} {sz : Nat} (hf : ∀ x, (f x).length = sz) : ∀ l : List α, (l.flatMap f).length = l.length * sz
  | [] => by simp
  | a :: l => by simp only [List.flatMap_cons, List.length_append, hf, flatMap_len hf l, List.length_cons, Nat.add_mul]; omega

theorem flatMap_drop {α : Type} {f : α → List CV} {sz : Nat} (hf : ∀ x, (f x).length = sz) : ∀ (l : List α) (i : Nat), (l.flatMap f).drop (i * sz) = (l.drop i).flatMap f
  | l, 0 => by simp
  | [], i + 1 => by simp
  | a :: l, i + 1 => by
    simp only [List.flatMap_cons, List.drop_succ_cons]
    rw [show (i + 1) * sz = (f a).length + i * sz by rw [hf, Nat.add_mul]; omega, List.drop_append]
    rw [List.drop_eq_nil_of_le (by omega), List.nil_append, show (f a).length + i * sz - (f a).length = i * sz by omega]
    exact flatMap_drop hf l i

theorem flatMap_take {α : Type} {f : α → List CV} {sz : Nat} (hf : ∀ x, (f x).length = sz) : ∀ (l : List α) (i : Nat), (l.flatMap f).take (i * sz) = (l.take i).flatMap f
  | l, 0 => by simp
  | [], i + 1 => by simp
  | a :: l, i + 1 => by
    simp only [List.flatMap_cons, List.take_succ_cons]
    rw [show (i + 1) * sz = (f a).length + i * sz by rw [hf, Nat.add_mul]; omega, List.take_append]
    rw [List.take_of_length_le (by omega), show (f a).length + i * sz - (f a).length = i * sz by omega, flatMap_take hf l i]

theorem iaddr_sl {α : Type} {f : α → List CV} {sz : Nat} (hf : ∀ x, (f x).length = sz) (hp : 0 < sz) {l : List α} {k : IntKind} {i : Nat} (h : i < l.length) :
    iaddrC sz (sl f l) (.int k i) = some (.vp (f l[i] ++ (l.drop (i + 1)).flatMap f)) := by
  have h1 : (l.flatMap f) ≠ [] := by
    intro h0
    have := flatMap_len hf l
    rw [h0, List.length_nil] at this
    have : 0 < l.length * sz := Nat.mul_pos (by omega) hp
    omega
  unfold iaddrC iaddrN sl
  simp only [Int.toNat_natCast]
  rw [if_pos ⟨by omega, by omega, h1⟩, flatMap_drop hf, List.drop_eq_getElem_cons h, List.flatMap_cons]

theorem iaddr_sl' {α : Type} {f : α → List CV} {sz : Nat} (hf : ∀ x, (f x).length = sz) (hp : 0 < sz) {l : List α} {k : IntKind} {i : Int} (h0 : 0 ≤ i) (h : i < l.length) :
    iaddrC sz (sl f l) (.int k i) = some (.vp (f (l[i.toNat]'(by omega)) ++ (l.drop (i.toNat + 1)).flatMap f)) := by
  obtain ⟨n, rfl⟩ := Int.eq_ofNat_of_zero_le h0
  exact iaddr_sl hf hp (by omega)

theorem shown_sl {α : Type} {f : α → List CV} {sz : Nat} (hf : ∀ x, (f x).length = sz) (H : Heap) (l : List α) : shown H sz (sl f l) = some (l.flatMap f) := by
  exact if_pos (flatMap_len hf l)

/-! ### Cells one by one -/

def takeN : Nat → List CV → Option (List CV)
  | 0, _ => some []
  | _ + 1, [] => none
  | n + 1, c :: cs => (takeN n cs).map (c :: ·)

theorem takeN_eq : ∀ (n : Nat) (cs : List CV), takeN n cs = if n ≤ cs.length then some (cs.take n) else none
  | 0, cs => by simp [takeN]
  | n + 1, [] => by simp [takeN]
  | n + 1, c :: cs => by
    simp only [takeN, takeN_eq n cs, List.length_cons, Nat.add_le_add_iff_right, List.take_succ_cons]
    split <;> rfl

theorem load_vp_t (n : Nat) (H : Heap) (cs : List CV) : loadC true n H (.vp cs) = (takeN n cs).map .agg := by
  simp only [loadC, partC, takeN_eq, List.drop_zero, if_true]
  split <;> rfl
theorem load_vp_f (H : Heap) (c : CV) (r : List CV) : loadC false 1 H (.vp (c :: r)) = some c := by simp [loadC, partC]

/-- Out of a block's cells. -/
def ldE (agg : Bool) (n off : Nat) (cs : List CV) : Option CV := if off + n ≤ cs.length then partC agg n off cs else none
theorem load_op (agg : Bool) (n : Nat) (H : Heap) (i : Id) (off : Nat) : loadC agg n H (.op i off) = (H.get i).bind (ldE agg n off) := (rfl)
theorem ldE_t {n : Nat} (off : Nat) (cs : List CV) (h0 : 0 < n) : ldE true n off cs = (takeN n (cs.drop off)).map .agg := by
  simp only [ldE, partC, takeN_eq, List.length_drop, if_true]
  split
  · rename_i h
    split
    · rfl
    · omega
  · rename_i h
    split
    · omega
    · rfl
def headO : List CV → Option CV
  | [] => none
  | c :: _ => some c
theorem ldE_f (off : Nat) (cs : List CV) : ldE false 1 off cs = headO (cs.drop off) := by
  simp only [ldE, partC, Bool.false_eq_true, if_false]
  split
  · rename_i h
    rw [List.drop_eq_getElem_cons (by omega), List.getElem?_eq_getElem (by omega)]
    rfl
  · rename_i h
    rw [List.drop_eq_nil_of_le (by omega)]
    rfl
theorem headO_cons (c : CV) (r : List CV) : headO (c :: r) = some c := (rfl)

theorem faddr_vp (off : Nat) (cs : List CV) : faddrC off (.vp cs) = some (.vp (cs.drop off)) := (rfl)
theorem faddr_op (off : Nat) (i : Id) (o : Nat) : faddrC off (.op i o) = some (.op i (o + off)) := (rfl)

theorem get_loc (bx : List (Nat × List CV)) (bl : List Blk) (s : Nat) : Heap.get ⟨bx, bl⟩ (.loc s) = look bx s := (rfl)
theorem get_blk (bx : List (Nat × List CV)) (bl : List Blk) (n : Nat) (cs : List CV) (h : bl[n]? = some (.cells cs)) : Heap.get ⟨bx, bl⟩ (.blk n) = some cs := by simp [Heap.get, h]
theorem get_b0 (bx : List (Nat × List CV)) (bl : List Blk) (cs : List CV) : Heap.get ⟨bx, .cells cs :: bl⟩ (.blk 0) = some cs := (rfl)
theorem get_b1 (bx : List (Nat × List CV)) (bl : List Blk) (b : Blk) (cs : List CV) : Heap.get ⟨bx, b :: .cells cs :: bl⟩ (.blk 1) = some cs := (rfl)
theorem get_b2 (bx : List (Nat × List CV)) (bl : List Blk) (b b' : Blk) (cs : List CV) : Heap.get ⟨bx, b :: b' :: .cells cs :: bl⟩ (.blk 2) = some cs := (rfl)
theorem look_hit {α : Type} (r : List (Nat × α)) (t : Nat) (v : α) : look ((t, v) :: r) t = some v := by simp [look]
theorem look_miss {α : Type} (r : List (Nat × α)) {s t : Nat} (v : α) (h : s ≠ t) : look ((s, v) :: r) t = look r t := by
  have : Nat.beq s t = false := by
    rw [← Bool.not_eq_true, Nat.beq_eq]; exact h
  simp [look, this]
theorem look_nil {α : Type} (t : Nat) : look ([] : List (Nat × α)) t = none := (rfl)

theorem setBx_hit (r : List (Nat × List CV)) (t : Nat) (v cs : List CV) : setBx ((t, v) :: r) t cs = (t, cs) :: r := by simp [setBx]
theorem setBx_miss (r : List (Nat × List CV)) {s t : Nat} (v cs : List CV) (h : s ≠ t) : setBx ((s, v) :: r) t cs = (s, v) :: setBx r t cs := by
  have : Nat.beq s t = false := by
    rw [← Bool.not_eq_true, Nat.beq_eq]; exact h
  simp [setBx, this]
theorem setBx_nil (t : Nat) (cs : List CV) : setBx [] t cs = [(t, cs)] := (rfl)

/-! ### Each kind of value -/
theorem one_int (k : IntKind) (n : Int) : CV.one (.int k n) = true := (rfl)
theorem und_int (k : IntKind) (n : Int) : CV.und? (.int k n) = false := (rfl)
theorem cells_int (k : IntKind) (n : Int) : CV.cells (.int k n) = [.int k n] := (rfl)
theorem one_bool (b : Bool) : CV.one (.bool b) = true := (rfl)
theorem und_bool (b : Bool) : CV.und? (.bool b) = false := (rfl)
theorem cells_bool (b : Bool) : CV.cells (.bool b) = [.bool b] := (rfl)
theorem one_op (i : Id) (o : Nat) : CV.one (.op i o) = true := (rfl)
theorem und_op (i : Id) (o : Nat) : CV.und? (.op i o) = false := (rfl)
theorem cells_op (i : Id) (o : Nat) : CV.cells (.op i o) = [.op i o] := (rfl)
theorem one_vp (cs : List CV) : CV.one (.vp cs) = true := (rfl)
theorem und_vp (cs : List CV) : CV.und? (.vp cs) = false := (rfl)
theorem cells_vp (cs : List CV) : CV.cells (.vp cs) = [.vp cs] := (rfl)
theorem one_vs (cs : List CV) (n : Nat) : CV.one (.vs cs n) = true := (rfl)
theorem und_vs (cs : List CV) (n : Nat) : CV.und? (.vs cs n) = false := (rfl)
theorem cells_vs (cs : List CV) (n : Nat) : CV.cells (.vs cs n) = [.vs cs n] := (rfl)
theorem one_os (z : Nat) (i : Id) (o n : Nat) : CV.one (.os z i o n) = true := (rfl)
theorem und_os (z : Nat) (i : Id) (o n : Nat) : CV.und? (.os z i o n) = false := (rfl)
theorem cells_os (z : Nat) (i : Id) (o n : Nat) : CV.cells (.os z i o n) = [.os z i o n] := (rfl)
theorem one_om (n : Nat) : CV.one (.om n) = true := (rfl)
theorem und_om (n : Nat) : CV.und? (.om n) = false := (rfl)
theorem cells_om (n : Nat) : CV.cells (.om n) = [.om n] := (rfl)
theorem one_nils : CV.one (.nils) = true := (rfl)
theorem und_nils : CV.und? (.nils) = false := (rfl)
theorem cells_nils : CV.cells (.nils) = [.nils] := (rfl)
theorem one_nilp : CV.one (.nilp) = true := (rfl)
theorem und_nilp : CV.und? (.nilp) = false := (rfl)
theorem cells_nilp : CV.cells (.nilp) = [.nilp] := (rfl)
theorem one_nilm : CV.one (.nilm) = true := (rfl)
theorem und_nilm : CV.und? (.nilm) = false := (rfl)
theorem cells_nilm : CV.cells (.nilm) = [.nilm] := (rfl)
theorem one_nilf : CV.one (.nilf) = true := (rfl)
theorem und_nilf : CV.und? (.nilf) = false := (rfl)
theorem cells_nilf : CV.cells (.nilf) = [.nilf] := (rfl)
theorem one_nili : CV.one (.nili) = true := (rfl)
theorem und_nili : CV.und? (.nili) = false := (rfl)
theorem cells_nili : CV.cells (.nili) = [.nili] := (rfl)
theorem one_float (k : FloatKind) (n : Nat) : CV.one (.float k n) = true := (rfl)
theorem und_float (k : FloatKind) (n : Nat) : CV.und? (.float k n) = false := (rfl)
theorem cells_float (k : FloatKind) (n : Nat) : CV.cells (.float k n) = [.float k n] := (rfl)
theorem one_cplx (k : FloatKind) (n m : Nat) : CV.one (.cplx k n m) = true := (rfl)
theorem und_cplx (k : FloatKind) (n m : Nat) : CV.und? (.cplx k n m) = false := (rfl)
theorem cells_cplx (k : FloatKind) (n m : Nat) : CV.cells (.cplx k n m) = [.cplx k n m] := (rfl)
theorem one_str (s : ByteArray) : CV.one (.str s) = true := (rfl)
theorem und_str (s : ByteArray) : CV.und? (.str s) = false := (rfl)
theorem cells_str (s : ByteArray) : CV.cells (.str s) = [.str s] := (rfl)
theorem one_fn (f : Fn) (a b : List CV) : CV.one (.fn f a b) = true := (rfl)
theorem und_fn (f : Fn) (a b : List CV) : CV.und? (.fn f a b) = false := (rfl)
theorem cells_fn (f : Fn) (a b : List CV) : CV.cells (.fn f a b) = [.fn f a b] := (rfl)
theorem one_ifc (t : TypeId) (v : CV) : CV.one (.ifc t v) = true := (rfl)
theorem und_ifc (t : TypeId) (v : CV) : CV.und? (.ifc t v) = false := (rfl)
theorem cells_ifc (t : TypeId) (v : CV) : CV.cells (.ifc t v) = [.ifc t v] := (rfl)
theorem cells_agg (cs : List CV) : CV.cells (.agg cs) = cs := (rfl)
theorem und_agg (cs : List CV) : CV.und? (.agg cs) = false := (rfl)
theorem loc_loc (s : Nat) : Id.loc? (.loc s) = true := (rfl)
theorem loc_blk (s : Nat) : Id.loc? (.blk s) = false := (rfl)
theorem lenOf_vs (cs : List CV) (n : Nat) : lenOf (.vs cs n) = n := (rfl)
theorem lenOf_os (z : Nat) (i : Id) (o n : Nat) : lenOf (.os z i o n) = n := (rfl)
theorem lenOf_nils : lenOf .nils = 0 := (rfl)
theorem isSl_vs (cs : List CV) (n : Nat) : isSl (.vs cs n) = true := (rfl)
theorem isSl_os (z : Nat) (i : Id) (o n : Nat) : isSl (.os z i o n) = true := (rfl)
theorem isSl_nils : isSl .nils = true := (rfl)

/-! ### What is asked of values -/

theorem chkV_sl {α : Type} (l : List Nat) (f : α → List CV) (x : List α) : chkV l (sl f x) = true := (rfl)
theorem chkV_int (l : List Nat) (k : IntKind) (n : Int) : chkV l (.int k n) = true := (rfl)
theorem chkV_bool (l : List Nat) (b : Bool) : chkV l (.bool b) = true := (rfl)
theorem chkV_loc (l : List Nat) (s o : Nat) : chkV l (.op (.loc s) o) = l.contains s := (rfl)
theorem chkV_blk (l : List Nat) (s o : Nat) : chkV l (.op (.blk s) o) = true := (rfl)
theorem chkV_agg (l : List Nat) (cs : List CV) : chkV l (.agg cs) = !CV.locs cs := (rfl)
theorem chkV_tup (l : List Nat) (cs : List CV) : chkV l (.tup cs) = !CV.locs cs := (rfl)
theorem chkV_vp (l : List Nat) (cs : List CV) : chkV l (.vp cs) = true := (rfl)
theorem chkV_vs (l : List Nat) (cs : List CV) (n : Nat) : chkV l (.vs cs n) = true := (rfl)
theorem chkV_os (l : List Nat) (z : Nat) (i : Id) (o n : Nat) : chkV l (.os z i o n) = !i.loc? := (rfl)
theorem chkV_om (l : List Nat) (n : Nat) : chkV l (.om n) = true := (rfl)
theorem chkV_und (l : List Nat) : chkV l .und = true := (rfl)
theorem chkV_nils (l : List Nat) : chkV l .nils = true := (rfl)
theorem chkV_nilp (l : List Nat) : chkV l .nilp = true := (rfl)
theorem chkV_nilm (l : List Nat) : chkV l .nilm = true := (rfl)
theorem chkV_nilf (l : List Nat) : chkV l .nilf = true := (rfl)
theorem chkV_nili (l : List Nat) : chkV l .nili = true := (rfl)
theorem chkV_float (l : List Nat) (k : FloatKind) (n : Nat) : chkV l (.float k n) = true := (rfl)
theorem chkV_cplx (l : List Nat) (k : FloatKind) (n m : Nat) : chkV l (.cplx k n m) = true := (rfl)
theorem chkV_str (l : List Nat) (s : ByteArray) : chkV l (.str s) = true := (rfl)
theorem chkV_fn (l : List Nat) (f : Fn) (a b : List CV) : chkV l (.fn f a b) = !(CV.locs a || CV.locs b) := (rfl)

theorem snap_eq (H : Heap) (st kn : Bool) (v : CV) : snap H st kn v = snapV H st kn (snapN H st kn 7) v := (rfl)
theorem snapN_succ (H : Heap) (st kn : Bool) (n : Nat) (v : CV) : snapN H st kn (n + 1) v = snapV H st kn (snapN H st kn n) v := (rfl)
theorem mapC_nil (f : CV → Option CV) : mapC f [] = some [] := (rfl)
theorem snapL_nil (H : Heap) (st kn : Bool) : snapL H st kn [] = some [] := (rfl)

/-- Behind the first of some. -/
def consO (o : Option (List CV)) (c : CV) : Option (List CV) := o.map (c :: ·)
theorem consO_some (l : List CV) (c : CV) : consO (some l) c = some (c :: l) := (rfl)
theorem mapC_cons (f : CV → Option CV) (c : CV) (cs : List CV) : mapC f (c :: cs) = (f c).bind (consO (mapC f cs)) := (rfl)
theorem snapL_cons (H : Heap) (st kn : Bool) (c : CV) (cs : List CV) : snapL H st kn (c :: cs) = (snap H st kn c).bind (consO (snapL H st kn cs)) := (rfl)
section
variable (H : Heap) (st kn : Bool) (f : CV → Option CV)
theorem snapV_int (k : IntKind) (n : Int) : snapV H st kn f (.int k n) = some (.int k n) := (rfl)
theorem snapV_bool (b : Bool) : snapV H st kn f (.bool b) = some (.bool b) := (rfl)
theorem snapV_str (b : ByteArray) : snapV H st kn f (.str b) = some (.str b) := (rfl)
theorem snapV_cplx (k : FloatKind) (a b : Nat) : snapV H st kn f (.cplx k a b) = some (.cplx k a b) := (rfl)
theorem snapV_float (k : FloatKind) (a : Nat) : snapV H st kn f (.float k a) = some (.float k a) := (rfl)
theorem snapV_nilp : snapV H st kn f .nilp = some .nilp := (rfl)
theorem snapV_nils : snapV H st false f .nils = some (.vs [] 0) := (rfl)
theorem snapV_nilsk : snapV H st true f .nils = some .nils := (rfl)
theorem snapV_vp (cs : List CV) : snapV H false kn f (.vp cs) = some (.vp cs) := (rfl)
theorem snapV_vs (cs : List CV) (n : Nat) : snapV H false kn f (.vs cs n) = some (.vs cs n) := (rfl)
theorem snapVs_nil : snapVs H st kn f [] = some [] := (rfl)
theorem snapVs_cons (c : CV) (cs : List CV) : snapVs H st kn f (c :: cs) = (snapV H st kn f c).bind (consO (snapVs H st kn f cs)) := (rfl)
theorem snapV_agg (cs : List CV) : snapV H st kn f (.agg cs) = (snapVs H st kn f cs).map .agg := (rfl)
theorem snapV_tup (cs : List CV) : snapV H st kn f (.tup cs) = (snapVs H st kn f cs).map .tup := (rfl)
/-- A pointer's cells. -/
def snapP (f : CV → Option CV) (off : Nat) (cs : List CV) : Option CV := if off ≤ cs.length then (mapC f (cs.drop off)).map .vp else none
theorem snapV_op (i : Id) (off : Nat) : snapV H st kn f (.op i off) = (H.get i).bind (snapP f off) := (rfl)
theorem snapP_eq (off : Nat) (cs : List CV) : snapP f off cs = if off ≤ cs.length then (mapC f (cs.drop off)).map .vp else none := (rfl)
/-- Behind the bound ones. -/
def fnO (g : Fn) (a : List CV) (o : Option (List CV)) : Option CV := o.map fun c => .fn g a c
theorem snapV_fn (g : Fn) (c : List CV) : snapV H st kn f (.fn g [] c) = fnO g [] (snapVs H st kn f c) := (rfl)
theorem fnO_some (g : Fn) (a c : List CV) : fnO g a (some c) = some (.fn g a c) := (rfl)
end
theorem sl_nil {α : Type} (f : α → List CV) : CV.vs [] 0 = sl f [] := (rfl)

/-! ### Results -/
/-- Behind the first result. -/
theorem resAll_nil (env : Env) (H : Heap) : resAll env H [] = some [] := (rfl)
theorem resAll_cons (env : Env) (H : Heap) (r : Res) (rs : List Res) : resAll env H (r :: rs) = (resOne env H r).bind (consO (resAll env H rs)) := (rfl)
theorem resOne_tmp (env : Env) (H : Heap) (t : Nat) : resOne env H (.tmp t) = some (Env.at env t) := (rfl)
theorem resOne_cell (env : Env) (H : Heap) (t n : Nat) (agg : Bool) : resOne env H (.cell t agg n) = loadC agg n H (Env.at env t) := by
  show ((loadC agg n H (Env.at env t)).map fun v => (v, H)).map (·.1) = _
  cases loadC agg n H (Env.at env t) <;> rfl

/-! ### Writing -/
/-- Into a block's cells. -/
def stE (n : Nat) (off : Nat) (x : CV) (H : Heap) (i : Id) (cs : List CV) : Option Heap :=
  if x.cells.length = n ∧ off + n ≤ cs.length ∧ ones x.cells = true ∧ (i.loc? = true ∨ CV.locs x.cells = false) then some (H.put i (setMany cs off x.cells)) else none
theorem storeC_op (n : Nat) (x : CV) (H : Heap) (i : Id) (off : Nat) : storeC n x H (.op i off) = (H.get i).bind (stE n off x H i) := (rfl)
theorem stE_loc (n off : Nat) (x : CV) (H : Heap) (s : Nat) (cs : List CV) : stE n off x H (.loc s) cs = if x.cells.length = n ∧ off + n ≤ cs.length ∧ ones x.cells = true then some (H.put (.loc s) (setMany cs off x.cells)) else none := by
  simp [stE, Id.loc?]
theorem put_loc (bx : List (Nat × List CV)) (bl : List Blk) (s : Nat) (cs : List CV) : Heap.put ⟨bx, bl⟩ (.loc s) cs = ⟨setBx bx s cs, bl⟩ := (rfl)
theorem put_blk (bx : List (Nat × List CV)) (bl : List Blk) (s : Nat) (cs : List CV) : Heap.put ⟨bx, bl⟩ (.blk s) cs = ⟨bx, bl.set s (.cells cs)⟩ := (rfl)
/-- A heap behind a store. -/
def unitH (H : Heap) : CV × Heap := (.tup [], H)
theorem hop_load (agg : Bool) (n : Nat) (x : CV) (H : Heap) : heapOp (.load agg n) [x] H = (loadC agg n H x).map fun v => (v, H) := (rfl)
theorem hop_store (n : Nat) (p x : CV) (H : Heap) : heapOp (.store n) [p, x] H = (storeC n x H p).map unitH := (rfl)
theorem unitH_mk (H : Heap) : unitH H = (.tup [], H) := (rfl)
theorem hop_box (s : Nat) (x : CV) (bx : List (Nat × List CV)) (bl : List Blk) : heapOp (.box s) [x] ⟨bx, bl⟩ = if (ones x.cells && (look bx s).isNone) = true then some (.op (.loc s) 0, ⟨setBx bx s x.cells, bl⟩) else none := (rfl)
theorem hop_newl (s : Nat) (zero : List CV) (bx : List (Nat × List CV)) (bl : List Blk) : heapOp (.newl s zero) [] ⟨bx, bl⟩ = if ((look bx s).isNone && ones zero && !CV.locs zero) = true then some (.op (.loc s) 0, ⟨setBx bx s zero, bl⟩) else none := (rfl)
theorem hop_boxh (x : CV) (bx : List (Nat × List CV)) (bl : List Blk) : heapOp .boxh [x] ⟨bx, bl⟩ = if (ones x.cells && !CV.locs x.cells) = true then some (.op (.blk bl.length) 0, ⟨bx, bl ++ [.cells x.cells]⟩) else none := (rfl)
theorem hop_newh (zero : List CV) (bx : List (Nat × List CV)) (bl : List Blk) : heapOp (.newh zero) [] ⟨bx, bl⟩ = if (ones zero && !CV.locs zero) = true then some (.op (.blk bl.length) 0, ⟨bx, bl ++ [.cells zero]⟩) else none := (rfl)
theorem ones_nil : ones [] = true := (rfl)
theorem ones_cons (c : CV) (cs : List CV) : ones (c :: cs) = (c.one && ones cs) := (rfl)

/-- A literal's cells, frozen. -/
def frzE (sz len : Nat) (H : Heap) (cs : List CV) : Option (CV × Heap) := if (ones cs && !CV.refs cs && decide (cs.length = len * sz)) = true then some (.vs cs len, H) else none
theorem hop_bslF (sz len : Nat) (zero : List CV) (parts : List (Nat × Nat)) (vs : List CV) (H : Heap) : heapOp (.bslF sz len zero parts) vs H = if vs.length = parts.length then (fillC (repC zero len) (parts.zip vs)).bind (frzE sz len H) else none := (rfl)
theorem frzE_eq (sz len : Nat) (H : Heap) (cs : List CV) : frzE sz len H cs = if (ones cs && !CV.refs cs && decide (cs.length = len * sz)) = true then some (.vs cs len, H) else none := (rfl)
def ownE (sz len : Nat) (H : Heap) (cs : List CV) : Option (CV × Heap) := if (ones cs && !CV.locs cs && decide (cs.length = len * sz)) = true then some (.os sz (.blk H.bl.length) 0 len, H.push (.cells cs)) else none
theorem hop_bslO (sz len : Nat) (zero : List CV) (parts : List (Nat × Nat)) (vs : List CV) (H : Heap) : heapOp (.bslO sz len zero parts) vs H = if vs.length = parts.length then (fillC (repC zero len) (parts.zip vs)).bind (ownE sz len H) else none := (rfl)
theorem ownE_eq (sz len : Nat) (H : Heap) (cs : List CV) : ownE sz len H cs = if (ones cs && !CV.locs cs && decide (cs.length = len * sz)) = true then some (.os sz (.blk H.bl.length) 0 len, H.push (.cells cs)) else none := (rfl)
theorem push_eq (bx : List (Nat × List CV)) (bl : List Blk) (b : Blk) : Heap.push ⟨bx, bl⟩ b = ⟨bx, bl ++ [b]⟩ := (rfl)
theorem fillC_nil (cs : List CV) : fillC cs [] = some cs := (rfl)
theorem fillC_cons (cs : List CV) (off size : Nat) (v : CV) (r : List ((Nat × Nat) × CV)) : fillC cs (((off, size), v) :: r) = if v.cells.length = size ∧ off + size ≤ cs.length ∧ v.und? = false then fillC (setMany cs off v.cells) r else none := (rfl)
theorem pure_bld (zero : List CV) (parts : List (Nat × Nat)) (vs : List CV) : pureOp (.bld zero parts) vs = if vs.length = parts.length then (fillC zero (parts.zip vs)).map .agg else none := (rfl)
theorem setMany_nil (cs : List CV) (o : Nat) : setMany cs o [] = cs := (rfl)
theorem setMany_cons (cs : List CV) (o : Nat) (c : CV) (r : List CV) : setMany cs o (c :: r) = setMany (cs.set o c) (o + 1) r := (rfl)

/-- Zeros, appended to nil. -/
theorem hop_appz (sz bytes : Nat) (zero : List CV) (k : IntKind) (l : Int) (bx : List (Nat × List CV)) (bl : List Blk) : heapOp (.appz sz bytes zero) [.nils, .int k l] ⟨bx, bl⟩ =
    if l = 0 then some (.nils, ⟨bx, bl⟩) else if (decide (0 < sz) && decide (0 < bytes) && decide (0 < l) && decide (l * bytes ≤ 140737488355328) && decide (zero.length = sz) && ones zero && !CV.locs zero) = true then some (.os sz (.blk bl.length) 0 l.toNat, ⟨bx, bl ++ [.cells (repC zero l.toNat)]⟩) else none := (rfl)
/-- A slice made of zeros. -/
theorem hop_mksl (sz bytes : Nat) (zero : List CV) (k k' : IntKind) (l c : Int) (bx : List (Nat × List CV)) (bl : List Blk) : heapOp (.mksl sz bytes zero) [.int k l, .int k' c] ⟨bx, bl⟩ =
    if (decide (zero.length = sz) && ones zero && !CV.locs zero) = true then (if 0 ≤ l ∧ l ≤ c ∧ c * bytes ≤ 140737488355328 ∧ c ≤ 140737488355328 then some (.os sz (.blk bl.length) 0 l.toNat, ⟨bx, bl ++ [.cells (repC zero c.toNat)]⟩) else none) else none := (rfl)
theorem hop_mkslF (sz bytes : Nat) (zero : List CV) (k k' : IntKind) (l c : Int) (H : Heap) : heapOp (.mkslF sz bytes zero) [.int k l, .int k' c] H =
    if (decide (zero.length = sz) && !CV.refs zero) = true then (if 0 ≤ l ∧ l = c ∧ c * bytes ≤ 140737488355328 ∧ c ≤ 140737488355328 then some (.vs (repC zero l.toNat) l.toNat, H) else none) else none := (rfl)
theorem hop_clear (sz : Nat) (zero : List CV) (x : CV) (H : Heap) : heapOp (.clear sz zero) [x] H = if (ones zero && !CV.locs zero && decide (zero.length = sz)) = true then (clearC sz zero H x).map unitH else none := (rfl)
theorem hl_one (call : Caller) (s off : Nat) (o : HOp) (H : Heap) : runOp call (.hl s o) [.op (.loc s) off] H = heapOp o [.op (.loc s) off] H := by simp [runOp, CV.locs]
theorem hl_two (call : Caller) (s off : Nat) (o : HOp) (x : CV) (H : Heap) : runOp call (.hl s o) [.op (.loc s) off, x] H = if x.locv = false then heapOp o [.op (.loc s) off, x] H else none := by
  simp only [runOp, CV.locs, Bool.or_false, true_and]
theorem hb_eq (call : Caller) (o : HOp) (vs : List CV) (H : Heap) : runOp call (.hb o) vs H = if CV.locs vs = true then none else heapOp o vs H := (rfl)
theorem iaddrA_int (len sz : Nat) (x : CV) (k : IntKind) (n : Int) : iaddrAC len sz x (.int k n) = if 0 ≤ n ∧ n < len then faddrC (n.toNat * sz) x else none := (rfl)

/-! ### Reckoning -/
section
variable (e : EqT) (k : IntKind) (a b : Int)
theorem bin_add : binC .add e (.int k a) (.int k b) = some (.int k (k.wrap (a + b))) := by simp [binC, intBin]
theorem bin_sub : binC .sub e (.int k a) (.int k b) = some (.int k (k.wrap (a - b))) := by simp [binC, intBin]
theorem bin_mul : binC .mul e (.int k a) (.int k b) = some (.int k (k.wrap (a * b))) := by simp [binC, intBin]
theorem bin_quo : binC .quo e (.int k a) (.int k b) = if b = 0 then none else some (.int k (k.wrap (a.tdiv b))) := by simp [binC, intBin]
theorem bin_rem : binC .rem e (.int k a) (.int k b) = if b = 0 then none else some (.int k (a.tmod b)) := by simp [binC, intBin]
theorem bin_eql : binC .eql e (.int k a) (.int k b) = some (.bool (decide (a = b))) := by
  have : (a == b) = decide (a = b) := by by_cases h : a = b <;> simp [h]
  simp [binC, intBin, this]
theorem bin_neq : binC .neq e (.int k a) (.int k b) = some (.bool (!decide (a = b))) := by
  have : (a == b) = decide (a = b) := by by_cases h : a = b <;> simp [h]
  simp [binC, intBin, bne, this]
theorem bin_lss : binC .lss e (.int k a) (.int k b) = some (.bool (decide (a < b))) := by simp [binC, intBin]
theorem bin_leq : binC .leq e (.int k a) (.int k b) = some (.bool (decide (a ≤ b))) := by simp [binC, intBin]
theorem bin_gtr : binC .gtr e (.int k a) (.int k b) = some (.bool (decide (b < a))) := by simp [binC, intBin]
theorem bin_geq : binC .geq e (.int k a) (.int k b) = some (.bool (decide (b ≤ a))) := by simp [binC, intBin]
theorem bin_eqlb (a b : Bool) : binC .eql .bool (.bool a) (.bool b) = some (.bool (a == b)) := (rfl)
theorem bin_neqb (a b : Bool) : binC .neq .bool (.bool a) (.bool b) = some (.bool (!(a == b))) := (rfl)
theorem bin_eqla (l : List (Nat × Bool × Nat × EqT)) (a b : List CV) : binC .eql (.parts l) (.agg a) (.agg b) = (eqCs l a b).map .bool := (rfl)
theorem bin_neqa (l : List (Nat × Bool × Nat × EqT)) (a b : List CV) : binC .neq (.parts l) (.agg a) (.agg b) = (eqCs l a b).map fun b => .bool (!b) := (rfl)
theorem bin_shr (k' : IntKind) (hb : 0 ≤ b) : binC .shr e (.int k a) (.int k' b) = some (.int k (a.fdiv (2 ^ (min b.toNat k.bits)))) := by simp [binC, shiftBin, Int.not_lt.2 hb]
theorem toFloat_int (k' : FloatKind) : toFloatC k' (.int k a) = some (.float k' (k'.nearest a)) := (rfl)
theorem cplx_float (k' : FloatKind) (x y : Nat) : cplxC (.float k' x) (.float k' y) = some (.cplx k' x y) := by simp [cplxC]
theorem toInt_int (k' : IntKind) : toIntC k (.int k' a) = some (.int k (k.wrap a)) := (rfl)
theorem cap_nils : capC .nils = some (.int .i64 0) := (rfl)
theorem lenC_nils : lenC .nils = some (.int .i64 0) := (rfl)
theorem lenC_os (z : Nat) (i : Id) (o n : Nat) : lenC (.os z i o n) = some (.int .i64 n) := (rfl)
theorem lenC_vs (cs : List CV) (n : Nat) : lenC (.vs cs n) = some (.int .i64 n) := (rfl)
theorem pick_bool (c : Bool) (x y : CV) : pickC (.bool c) x y = some (if c then x else y) := (rfl)
theorem nchk_op (i : Id) (o : Nat) : nchkC (.op i o) = some (.op i o) := (rfl)
theorem nchk_vp (cs : List CV) : nchkC (.vp cs) = some (.vp cs) := (rfl)
theorem nchk_fn (f : FuncId) (x y : List CV) : nchkC (.fn (.func f) x y) = some (.fn (.func f) x y) := (rfl)
theorem fld_agg (agg : Bool) (n off : Nat) (cs : List CV) : fldC agg n off (.agg cs) = partC agg n off cs := (rfl)
theorem part_t (n off : Nat) (cs : List CV) : partC true n off cs = some (.agg ((cs.drop off).take n)) := (rfl)
theorem part_f (n off : Nat) (cs : List CV) : partC false n off cs = cs[off]? := (rfl)
theorem ext_tup (i : Nat) (cs : List CV) : extC i (.tup cs) = cs[i]? := (rfl)
theorem un_not (b : Bool) : unC .not (.bool b) = some (.bool (!b)) := (rfl)
end
theorem decide_not' {p : Prop} [Decidable p] : (decide p = false) = ¬p := by simp
theorem decide_true' {p : Prop} [Decidable p] : (decide p = true) = p := by simp

/-! ### A call by value -/

/-- What is handed out of a body that runs by value. -/
def fzSnap (st kn : Bool) (H H' : Heap) (vs : List CV) : Option (CV × Heap) := (snap H' st kn (resV vs)).map fun w => (w, H)
theorem fzSnap_eq (st kn : Bool) (H H' : Heap) (vs : List CV) : fzSnap st kn H H' vs = (snap H' st kn (resV vs)).map fun w => (w, H) := (rfl)
def fzOut (res : List Res) (st kn : Bool) (H : Heap) : Ex × Env × Heap → Option (CV × Heap)
  | (.exit _, _, _) => none
  | (_, env, H') => (resAll env H' res).bind (fzSnap st kn H H')
theorem fzOut_norm (res : List Res) (st kn : Bool) (H H' : Heap) (env : Env) : fzOut res st kn H (.norm, env, H') = (resAll env H' res).bind (fzSnap st kn H H') := (rfl)
theorem fzOut_ret (res : List Res) (st kn : Bool) (H H' : Heap) (env : Env) : fzOut res st kn H (.ret, env, H') = (resAll env H' res).bind (fzSnap st kn H H') := (rfl)
noncomputable def fzE (C : Ctx) (kn : Bool) (np : Nat) (code : CCode) (res : List Res) (st : Bool) (H : Heap) (as : List CV) : Option (CV × Heap) :=
  if as.length = np then (eval C code (enterC 0 as) ⟨[], []⟩).bind (fzOut res st kn H) else none
theorem fzE_eq (C : Ctx) (kn : Bool) (np : Nat) (code : CCode) (res : List Res) (st : Bool) (H : Heap) (as : List CV) : fzE C kn np code res st H as = if as.length = np then (eval C code (enterC 0 as) ⟨[], []⟩).bind (fzOut res st kn H) else none := (rfl)

theorem fz_call {C : Ctx} {k : FuncId} {kn : Bool} {np : Nat} {code : CCode} {res : List Res} (hp : C.prim k = none) (hi : C.info k = some ⟨.fz kn, np, code, res⟩) (cap args : List CV) (H : Heap) :
    call C (.fn (.func k) [] cap) args H = (snapL H false false (args ++ cap)).bind (fzE C kn np code res (CV.refs (args ++ cap)) H) := by
  unfold call callC
  simp only [List.nil_append, hp, hi]
  congr 1
  funext as
  unfold fzE bodyC
  by_cases hn : as.length = np
  · simp only [hn, if_true]
    cases eval C code (enterC 0 as) ⟨[], []⟩ with
    | none => rfl
    | some x =>
      obtain ⟨x, env, H'⟩ := x
      cases x with
      | exit i => rfl
      | norm =>
        simp only [Option.bind_some, fzOut]
        cases resAll env H' res <;> rfl
      | ret =>
        simp only [Option.bind_some, fzOut]
        cases resAll env H' res <;> rfl
  · simp only [if_neg hn, Option.bind_none]

/-- What is handed out of a body that makes a slice. -/
def ownSnap (st : Bool) (H H' : Heap) (vs : List CV) : Option (CV × Heap) := (ownOf st H' (resV vs)).map fun
  | none => (.nils, H)
  | some (sz, n, cs) => (.os sz (.blk H.bl.length) 0 n, H.push (.cells cs))
def ownOut (res : List Res) (st : Bool) (H : Heap) : Ex × Env × Heap → Option (CV × Heap)
  | (.exit _, _, _) => none
  | (_, env, H') => (resAll env H' res).bind (ownSnap st H H')
theorem ownOut_norm (res : List Res) (st : Bool) (H H' : Heap) (env : Env) : ownOut res st H (.norm, env, H') = (resAll env H' res).bind (ownSnap st H H') := (rfl)
theorem ownOut_ret (res : List Res) (st : Bool) (H H' : Heap) (env : Env) : ownOut res st H (.ret, env, H') = (resAll env H' res).bind (ownSnap st H H') := (rfl)
noncomputable def oE (C : Ctx) (np : Nat) (code : CCode) (res : List Res) (st : Bool) (H : Heap) (as : List CV) : Option (CV × Heap) :=
  if as.length = np then (eval C code (enterC 0 as) ⟨[], []⟩).bind (ownOut res st H) else none
theorem oE_eq (C : Ctx) (np : Nat) (code : CCode) (res : List Res) (st : Bool) (H : Heap) (as : List CV) : oE C np code res st H as = if as.length = np then (eval C code (enterC 0 as) ⟨[], []⟩).bind (ownOut res st H) else none := (rfl)

theorem own_call {C : Ctx} {k : FuncId} {np : Nat} {code : CCode} {res : List Res} (hp : C.prim k = none) (hi : C.info k = some ⟨.own, np, code, res⟩) (cap args : List CV) (H : Heap) :
    call C (.fn (.func k) [] cap) args H = (snapL H false false (args ++ cap)).bind (oE C np code res (CV.refs (args ++ cap)) H) := by
  unfold call callC
  simp only [List.nil_append, hp, hi]
  congr 1
  funext as
  unfold oE bodyC
  by_cases hn : as.length = np
  · simp only [hn, if_true]
    cases eval C code (enterC 0 as) ⟨[], []⟩ with
    | none => rfl
    | some x =>
      obtain ⟨x, env, H'⟩ := x
      cases x with
      | exit i => rfl
      | norm =>
        simp only [Option.bind_some, ownOut]
        cases resAll env H' res <;> rfl
      | ret =>
        simp only [Option.bind_some, ownOut]
        cases resAll env H' res <;> rfl
  · simp only [if_neg hn, Option.bind_none]

/-- What is handed out of a body that works on the caller's memory. -/
def refSnap (bx : List (Nat × List CV)) (H' : Heap) (vs : List CV) : Option (CV × Heap) := if (resV vs).locv then none else some (resV vs, ⟨bx, H'.bl⟩)
theorem refSnap_eq (bx : List (Nat × List CV)) (H' : Heap) (vs : List CV) : refSnap bx H' vs = if (resV vs).locv then none else some (resV vs, ⟨bx, H'.bl⟩) := (rfl)
def refOut (res : List Res) (bx : List (Nat × List CV)) : Ex × Env × Heap → Option (CV × Heap)
  | (.exit _, _, _) => none
  | (_, env, H') => (resAll env H' res).bind (refSnap bx H')
theorem refOut_norm (res : List Res) (bx : List (Nat × List CV)) (H' : Heap) (env : Env) : refOut res bx (.norm, env, H') = (resAll env H' res).bind (refSnap bx H') := (rfl)
theorem refOut_ret (res : List Res) (bx : List (Nat × List CV)) (H' : Heap) (env : Env) : refOut res bx (.ret, env, H') = (resAll env H' res).bind (refSnap bx H') := (rfl)

theorem ref_call {C : Ctx} {k : FuncId} {np : Nat} {code : CCode} {res : List Res} (hp : C.prim k = none) (hi : C.info k = some ⟨.ref, np, code, res⟩) (cap args : List CV) (bx : List (Nat × List CV)) (bl : List Blk) :
    call C (.fn (.func k) [] cap) args ⟨bx, bl⟩ = if CV.locs (args ++ cap) then none else if (args ++ cap).length = np then (eval C code (enterC 0 (args ++ cap)) ⟨[], bl⟩).bind (refOut res bx) else none := by
  unfold call callC
  simp only [List.nil_append, hp, hi]
  split
  · rfl
  · unfold bodyC
    by_cases hn : (args ++ cap).length = np
    · simp only [if_pos hn]
      cases eval C code (enterC 0 (args ++ cap)) ⟨[], bl⟩ with
      | none => rfl
      | some x =>
        obtain ⟨x, env, H'⟩ := x
        cases x with
        | exit i => rfl
        | norm =>
          simp only [Option.bind_some, refOut]
          cases resAll env H' res <;> rfl
        | ret =>
          simp only [Option.bind_some, refOut]
          cases resAll env H' res <;> rfl
    · simp only [if_neg hn, Option.bind_none]

/-! ### Short forms -/
def sM (d s : Nat) : CStm := ⟨some d, .p .mov, [.t s], none⟩
def sP (d : Nat) (o : POp) (as : List Opd) : CStm := ⟨some d, .p o, as, none⟩
def sH (d : Nat) (o : HOp) (as : List Opd) : CStm := ⟨some d, .h o, as, none⟩
def sHn (o : HOp) (as : List Opd) : CStm := ⟨none, .h o, as, none⟩
def sB (d : Nat) (o : HOp) (as : List Opd) : CStm := ⟨some d, .hb o, as, none⟩
def sBn (o : HOp) (as : List Opd) : CStm := ⟨none, .hb o, as, none⟩
def sL (d s : Nat) (o : HOp) (as : List Opd) : CStm := ⟨some d, .hl s o, as, none⟩
def sLn (s : Nat) (o : HOp) (as : List Opd) : CStm := ⟨none, .hl s o, as, none⟩
def sC (d : Nat) (k : FuncId) (as : List Opd) : CStm := ⟨some d, .call, .c (.fn (.func k) [] []) :: as, none⟩
def sCb (d : Nat) (k : FuncId) (as : List Opd) : CStm := ⟨some d, .callb, .c (.fn (.func k) [] []) :: as, none⟩
def sCp (d : Nat) (k : FuncId) (as : List Opd) : CStm := ⟨some d, .callp, .c (.fn (.func k) [] []) :: as, none⟩
def sCk (n d : Nat) (k : FuncId) (as : List Opd) : CStm := ⟨some d, .callk n, .c (.fn (.func k) [] []) :: as, none⟩
def sCv (d : Nat) (k : FuncId) (as : List Opd) : CStm := ⟨some d, .callv, .c (.fn (.func k) [] []) :: as, none⟩
def sG (s : CStm) (g : Nat) (b : Bool) : CStm := { s with guard := some (g, b) }
/-- Where a guard stands. -/
noncomputable def guardS (C : Ctx) (want : Bool) (s : CStm) (r : List CStm) (env : Env) (H : Heap) (g : CV) : Option (Env × Heap) :=
  match gvC g with
  | some c => if c = some want then runOps (call C) (s :: r) env H else runOps (call C) r (putD env s.dst (.tup [])) H
  | none => none
section
variable (C : Ctx) (env : Env) (H : Heap) (d s : Nat) (as : List Opd) (r : List CStm)
theorem runOps_sM : runOps (call C) (sM d s :: r) env H = runOps (call C) r ((d, Env.at env s) :: env) H := (rfl)
theorem runOps_sP (o : POp) : runOps (call C) (sP d o as :: r) env H = ((pureOp o (evs env as)).map fun v => (v, H)).bind (restE C (some d) r env) := (rfl)
theorem runOps_sH (o : HOp) : runOps (call C) (sH d o as :: r) env H = (heapOp o (evs env as) H).bind (restE C (some d) r env) := (rfl)
theorem runOps_sHn (o : HOp) : runOps (call C) (sHn o as :: r) env H = (heapOp o (evs env as) H).bind (restE C none r env) := (rfl)
theorem runOps_sB (o : HOp) : runOps (call C) (sB d o as :: r) env H = (runOp (call C) (.hb o) (evs env as) H).bind (restE C (some d) r env) := (rfl)
theorem runOps_sBn (o : HOp) : runOps (call C) (sBn o as :: r) env H = (runOp (call C) (.hb o) (evs env as) H).bind (restE C none r env) := (rfl)
theorem runOps_sL (o : HOp) : runOps (call C) (sL d s o as :: r) env H = (runOp (call C) (.hl s o) (evs env as) H).bind (restE C (some d) r env) := (rfl)
theorem runOps_sLn (o : HOp) : runOps (call C) (sLn s o as :: r) env H = (runOp (call C) (.hl s o) (evs env as) H).bind (restE C none r env) := (rfl)
theorem runOps_sC (k : FuncId) : runOps (call C) (sC d k as :: r) env H = (call C (.fn (.func k) [] []) (evs env as) H).bind (restE C (some d) r env) := (rfl)
theorem runOps_sCb (k : FuncId) : runOps (call C) (sCb d k as :: r) env H = ((call C (.fn (.func k) [] []) (evs env as) ⟨[], H.bl⟩).map fun x => (x.1, (⟨H.bx, x.2.bl⟩ : Heap))).bind (restE C (some d) r env) := (rfl)
theorem runOps_sCp (k : FuncId) : runOps (call C) (sCp d k as :: r) env H = ((call C (.fn (.func k) [] []) (evs env as) ⟨[], H.bl⟩).bind fun x => if isPre H.bl x.2.bl then some (x.1, (⟨H.bx, x.2.bl⟩ : Heap)) else none).bind (restE C (some d) r env) := (rfl)
theorem runOps_sCk (n : Nat) (k : FuncId) : runOps (call C) (sCk n d k as :: r) env H = ((call C (.fn (.func k) [] []) ((evs env as).take ((evs env as).length - n)) ⟨[], H.bl⟩).bind fun x => if sparesC ((evs env as).drop ((evs env as).length - n)) H.bl x.2.bl then some (x.1, (⟨H.bx, x.2.bl⟩ : Heap)) else none).bind (restE C (some d) r env) := (rfl)
theorem runOps_sCv (k : FuncId) : runOps (call C) (sCv d k as :: r) env H = (if CV.refs (.fn (.func k) [] [] :: evs env as) then none else (call C (.fn (.func k) [] []) (evs env as) ⟨[], []⟩).map fun x => (x.1, H)).bind (restE C (some d) r env) := (rfl)
theorem runOps_sG {s : CStm} (hs : s.guard = none) (g : Nat) (want : Bool) : runOps (call C) (sG s g want :: r) env H = guardS C want s r env H (Env.at env g) := by
  obtain ⟨d, o, as, gu⟩ := s
  simp only at hs
  subst hs
  rfl
theorem guardS_bool (want : Bool) (s : CStm) (b : Bool) : guardS C want s r env H (.bool b) = if b = want then runOps (call C) (s :: r) env H else runOps (call C) r (putD env s.dst (.tup [])) H := by
  simp only [guardS, gvC, Option.some.injEq]
theorem guardS_skip (want : Bool) (s : CStm) : guardS C want s r env H (.tup []) = runOps (call C) r (putD env s.dst (.tup [])) H := by
  simp [guardS, gvC]
theorem sM_g : (sM d s).guard = none := (rfl)
theorem sP_g (o : POp) : (sP d o as).guard = none := (rfl)
theorem sH_g (o : HOp) : (sH d o as).guard = none := (rfl)
theorem sHn_g (o : HOp) : (sHn o as).guard = none := (rfl)
theorem sB_g (o : HOp) : (sB d o as).guard = none := (rfl)
theorem sBn_g (o : HOp) : (sBn o as).guard = none := (rfl)
theorem sL_g (o : HOp) : (sL d s o as).guard = none := (rfl)
theorem sLn_g (o : HOp) : (sLn s o as).guard = none := (rfl)
theorem sC_g (k : FuncId) : (sC d k as).guard = none := (rfl)
theorem sCb_g (k : FuncId) : (sCb d k as).guard = none := (rfl)
theorem sCp_g (k : FuncId) : (sCp d k as).guard = none := (rfl)
theorem sCv_g (k : FuncId) : (sCv d k as).guard = none := (rfl)
theorem sM_d : (sM d s).dst = some d := (rfl)
theorem sP_d (o : POp) : (sP d o as).dst = some d := (rfl)
theorem sH_d (o : HOp) : (sH d o as).dst = some d := (rfl)
theorem sHn_d (o : HOp) : (sHn o as).dst = none := (rfl)
theorem sB_d (o : HOp) : (sB d o as).dst = some d := (rfl)
theorem sBn_d (o : HOp) : (sBn o as).dst = none := (rfl)
theorem sL_d (o : HOp) : (sL d s o as).dst = some d := (rfl)
theorem sLn_d (o : HOp) : (sLn s o as).dst = none := (rfl)
theorem sC_d (k : FuncId) : (sC d k as).dst = some d := (rfl)
theorem sCb_d (k : FuncId) : (sCb d k as).dst = some d := (rfl)
theorem sCp_d (k : FuncId) : (sCp d k as).dst = some d := (rfl)
theorem sCv_d (k : FuncId) : (sCv d k as).dst = some d := (rfl)
theorem stm_d (d : Option Nat) (o : COp) (as : List Opd) (g : Option (Nat × Bool)) : CStm.dst ⟨d, o, as, g⟩ = d := (rfl)
theorem stm_g (d : Option Nat) (o : COp) (as : List Opd) (g : Option (Nat × Bool)) : CStm.guard ⟨d, o, as, g⟩ = g := (rfl)
end
theorem locv_und : CV.locv .und = false := (rfl)
theorem locv_bool (b : Bool) : CV.locv (.bool b) = false := (rfl)
theorem locv_int (k : IntKind) (n : Int) : CV.locv (.int k n) = false := (rfl)
theorem locv_float (k : FloatKind) (n : Nat) : CV.locv (.float k n) = false := (rfl)
theorem locv_cplx (k : FloatKind) (a b : Nat) : CV.locv (.cplx k a b) = false := (rfl)
theorem locv_str (s : ByteArray) : CV.locv (.str s) = false := (rfl)
theorem locv_nilp : CV.locv .nilp = false := (rfl)
theorem locv_vp (cs : List CV) : CV.locv (.vp cs) = false := (rfl)
theorem locv_nils : CV.locv .nils = false := (rfl)
theorem locv_vs (cs : List CV) (n : Nat) : CV.locv (.vs cs n) = false := (rfl)
theorem locv_nilm : CV.locv .nilm = false := (rfl)
theorem locv_om (n : Nat) : CV.locv (.om n) = false := (rfl)
theorem locv_nilf : CV.locv .nilf = false := (rfl)
theorem locv_nili : CV.locv .nili = false := (rfl)
theorem ref_und : CV.ref .und = false := (rfl)
theorem ref_bool (b : Bool) : CV.ref (.bool b) = false := (rfl)
theorem ref_int (k : IntKind) (n : Int) : CV.ref (.int k n) = false := (rfl)
theorem ref_float (k : FloatKind) (n : Nat) : CV.ref (.float k n) = false := (rfl)
theorem ref_cplx (k : FloatKind) (a b : Nat) : CV.ref (.cplx k a b) = false := (rfl)
theorem ref_str (s : ByteArray) : CV.ref (.str s) = false := (rfl)
theorem ref_nilp : CV.ref .nilp = false := (rfl)
theorem ref_vp (cs : List CV) : CV.ref (.vp cs) = false := (rfl)
theorem ref_nils : CV.ref .nils = false := (rfl)
theorem ref_vs (cs : List CV) (n : Nat) : CV.ref (.vs cs n) = false := (rfl)
theorem ref_nilm : CV.ref .nilm = false := (rfl)
theorem ref_nilf : CV.ref .nilf = false := (rfl)
theorem ref_nili : CV.ref .nili = false := (rfl)
theorem keepE_def (l : List Nat) (env : Env) (H : Heap) : keepE l env H = if chk l (keep env l) (keepB H.bx l) then some (keep env l, ⟨keepB H.bx l, H.bl⟩) else none := (rfl)
theorem resV_nil : resV [] = .tup [] := (rfl)
theorem resV_two (a b : CV) (r : List CV) : resV (a :: b :: r) = .tup (a :: b :: r) := (rfl)

/-! ### What is told of each function, in short -/
abbrev FzCall (C : Ctx) (k : FuncId) (F : Bool → Heap → List CV → Option (CV × Heap)) : Prop := ∀ (cap args : List CV) (H : Heap), call C (.fn (.func k) [] cap) args H = (snapL H false false (args ++ cap)).bind (F (CV.refs (args ++ cap)) H)
abbrev FzEq (C : Ctx) (kn : Bool) (np : Nat) (code : CCode) (res : List Res) (F : Bool → Heap → List CV → Option (CV × Heap)) : Prop := ∀ (st : Bool) (H : Heap) (xs : List CV), F st H xs = if xs.length = np then (eval C code (enterC 0 xs) ⟨[], []⟩).bind (fzOut res st kn H) else none
abbrev OwnEq (C : Ctx) (np : Nat) (code : CCode) (res : List Res) (F : Bool → Heap → List CV → Option (CV × Heap)) : Prop := ∀ (st : Bool) (H : Heap) (xs : List CV), F st H xs = if xs.length = np then (eval C code (enterC 0 xs) ⟨[], []⟩).bind (ownOut res st H) else none
abbrev RefEq (C : Ctx) (np : Nat) (code : CCode) (res : List Res) (F : List (Nat × List CV) → List Blk → List CV → Option (CV × Heap)) : Prop := ∀ (bx : List (Nat × List CV)) (bl : List Blk) (xs : List CV), F bx bl xs = if xs.length = np then (eval C code (enterC 0 xs) ⟨[], bl⟩).bind (refOut res bx) else none
abbrev RefCall (C : Ctx) (k : FuncId) (F : List (Nat × List CV) → List Blk → List CV → Option (CV × Heap)) : Prop := ∀ (cap args : List CV) (bx : List (Nat × List CV)) (bl : List Blk), call C (.fn (.func k) [] cap) args ⟨bx, bl⟩ = if CV.locs (args ++ cap) then none else F bx bl (args ++ cap)
noncomputable def refE (C : Ctx) (np : Nat) (code : CCode) (res : List Res) (bx : List (Nat × List CV)) (bl : List Blk) (xs : List CV) : Option (CV × Heap) := if xs.length = np then (eval C code (enterC 0 xs) ⟨[], bl⟩).bind (refOut res bx) else none
theorem fz_eq (C : Ctx) (kn : Bool) (np : Nat) (code : CCode) (res : List Res) : FzEq C kn np code res (fzE C kn np code res) := fun _ _ _ => fzE_eq ..
theorem own_eq (C : Ctx) (np : Nat) (code : CCode) (res : List Res) : OwnEq C np code res (oE C np code res) := fun _ _ _ => oE_eq ..
theorem ref_eq (C : Ctx) (np : Nat) (code : CCode) (res : List Res) : RefEq C np code res (refE C np code res) := fun _ _ _ => (by rfl)
theorem fz_called {C : Ctx} {k : FuncId} {kn : Bool} {np : Nat} {code : CCode} {res : List Res} (hp : C.prim k = none) (hi : C.info k = some ⟨.fz kn, np, code, res⟩) : FzCall C k (fzE C kn np code res) := fun cap args H => fz_call hp hi cap args H
theorem own_called {C : Ctx} {k : FuncId} {np : Nat} {code : CCode} {res : List Res} (hp : C.prim k = none) (hi : C.info k = some ⟨.own, np, code, res⟩) : FzCall C k (oE C np code res) := fun cap args H => own_call hp hi cap args H
theorem ref_called {C : Ctx} {k : FuncId} {np : Nat} {code : CCode} {res : List Res} (hp : C.prim k = none) (hi : C.info k = some ⟨.ref, np, code, res⟩) : RefCall C k (refE C np code res) := fun cap args bx bl => ref_call hp hi cap args bx bl
/-- A loop: where it is entered. -/
abbrev LEq (C : Ctx) (li : List Nat) (L : CCode) (R : Env × Heap → Out) : Prop := ∀ (env : Env) (H : Heap), eval C L env H = (keepE li env H).bind R
/-- Its round. -/
abbrev REq (C : Ctx) (B : CCode) (R : Env × Heap → Out) (K : Ex × Env × Heap → Out) : Prop := ∀ (env : Env) (H : Heap), R (env, H) = (eval C B env H).bind K
/-- Behind its round. -/
abbrev KEq (id : Nat) (li lo : List Nat) (R : Env × Heap → Out) (K : Ex × Env × Heap → Out) : Prop := (∀ (env : Env) (H : Heap), K (.norm, env, H) = (keepE li env H).bind R) ∧ (∀ (env : Env) (H : Heap), K (.ret, env, H) = some (.ret, env, H)) ∧ ∀ (k : Nat) (env : Env) (H : Heap), K (.exit k, env, H) = if k = id then (keepE lo env H).map normE else some (.exit k, env, H)
theorem l_eq (C : Ctx) (id : Nat) (li lo : List Nat) (B : CCode) : LEq C li (.bloop id li lo B) (intoE C id li lo B) := fun env H => eval_bloop' C env H id li lo B
theorem r_eq (C : Ctx) (id : Nat) (li lo : List Nat) (B : CCode) : REq C B (intoE C id li lo B) (roundE C id li lo B) := fun _ _ => (by rfl)
theorem k_eq (C : Ctx) (id : Nat) (li lo : List Nat) (B : CCode) : KEq id li lo (intoE C id li lo B) (roundE C id li lo B) := ⟨fun env H => eval_bloop' C env H id li lo B, fun _ _ => rfl, fun _ _ _ => rfl⟩
end Go.Zc
end
section
namespace Go.Zc

theorem chkV_of {v : CV} (h : v.locv = false) (l : List Nat) : chkV l v = true := by
  unfold chkV
  split
  · simp [CV.locv, Id.loc?] at h
  · rw [h]; rfl

/-- A slice that is being made: none yet, or all of its block. -/
def Own {α : Type} (f : α → List CV) (sz : Nat) (bl : List Blk) (v : CV) (l : List α) : Prop :=
  (v = .nils ∧ l = []) ∨ ∃ m, v = .os sz (.blk m) 0 l.length ∧ bl[m]? = some (.cells (l.flatMap f))

/-- A kind of cells: how many, all of them scalar. -/
structure Flat {α : Type} (f : α → List CV) (sz : Nat) : Prop where
  len : ∀ x, (f x).length = sz
  pos : 0 < sz
  one : ∀ x, ones (f x) = true
  loc : ∀ x, CV.locs (f x) = false
  ref : ∀ x, CV.refs (f x) = false

section
variable {α : Type} {f : α → List CV} {sz : Nat} {bl : List Blk} {v : CV} {l : List α}

theorem ones_append (a b : List CV) : ones (a ++ b) = (ones a && ones b) := by simp [ones, List.all_append]
theorem locs_append : ∀ (a b : List CV), CV.locs (a ++ b) = (CV.locs a || CV.locs b)
  | [], b => by simp [CV.locs]
  | c :: a, b => by simp [CV.locs, locs_append a b, Bool.or_assoc]
theorem refs_append : ∀ (a b : List CV), CV.refs (a ++ b) = (CV.refs a || CV.refs b)
  | [], b => by simp [CV.refs]
  | c :: a, b => by simp [CV.refs, refs_append a b, Bool.or_assoc]

theorem Flat.ones (h : Flat f sz) : ∀ l : List α, Zc.ones (l.flatMap f) = true
  | [] => rfl
  | a :: l => by simp only [List.flatMap_cons, ones_append, h.one, h.ones l, Bool.and_true]
theorem Flat.locs (h : Flat f sz) : ∀ l : List α, CV.locs (l.flatMap f) = false
  | [] => rfl
  | a :: l => by simp only [List.flatMap_cons, locs_append, h.loc, h.locs l, Bool.or_false]
theorem Flat.refs (h : Flat f sz) : ∀ l : List α, CV.refs (l.flatMap f) = false
  | [] => rfl
  | a :: l => by simp only [List.flatMap_cons, refs_append, h.ref, h.refs l, Bool.or_false]
theorem Flat.length (h : Flat f sz) (l : List α) : (l.flatMap f).length = l.length * sz := flatMap_len h.len l

theorem Own.nil (f : α → List CV) (sz : Nat) (bl : List Blk) : Own f sz bl .nils [] := .inl ⟨rfl, rfl⟩

theorem Own.len (h : Own f sz bl v l) : lenC v = some (.int .i64 l.length) := by
  rcases h with ⟨rfl, rfl⟩ | ⟨m, rfl, _⟩ <;> rfl
theorem Own.lenOf (h : Own f sz bl v l) : lenOf v = l.length := by
  rcases h with ⟨rfl, rfl⟩ | ⟨m, rfl, _⟩ <;> rfl
theorem Own.isSl (h : Own f sz bl v l) : isSl v = true := by
  rcases h with ⟨rfl, rfl⟩ | ⟨m, rfl, _⟩ <;> rfl
theorem Own.chkV (h : Own f sz bl v l) (s : List Nat) : chkV s v = true := by
  rcases h with ⟨rfl, rfl⟩ | ⟨m, rfl, _⟩ <;> rfl
theorem Own.locv (h : Own f sz bl v l) : v.locv = false := by
  rcases h with ⟨rfl, rfl⟩ | ⟨m, rfl, _⟩ <;> rfl
theorem Own.und (h : Own f sz bl v l) : v.und? = false := by
  rcases h with ⟨rfl, rfl⟩ | ⟨m, rfl, _⟩ <;> rfl
theorem Own.one (h : Own f sz bl v l) : v.one = true := by
  rcases h with ⟨rfl, rfl⟩ | ⟨m, rfl, _⟩ <;> rfl
theorem Own.cells (h : Own f sz bl v l) : v.cells = [v] := by
  rcases h with ⟨rfl, rfl⟩ | ⟨m, rfl, _⟩ <;> rfl

/-- Which block a slice lies in. -/
def blkOf : CV → Option Nat
  | .os _ (.blk m) _ _ => some m
  | _ => none
theorem blkOf_os (z m o n : Nat) : blkOf (.os z (.blk m) o n) = some m := rfl
theorem blkOf_nils : blkOf .nils = none := rfl
theorem Own.lt (h : Own f sz bl v l) {k : Nat} (hk : blkOf v = some k) : k < bl.length := by
  rcases h with ⟨rfl, rfl⟩ | ⟨m, rfl, h2⟩
  · cases hk
  · cases hk; exact (List.getElem?_eq_some_iff.1 h2).1

/-- Two slices that lie apart. -/
def Dj (v w : CV) : Prop := ∀ k, blkOf v = some k → blkOf w ≠ some k
theorem Dj.symm {v w : CV} (h : Dj v w) : Dj w v := fun k h1 h2 => h k h2 h1
theorem Dj.nils (w : CV) : Dj .nils w := fun k h => by cases h

/-- What an append leaves of other blocks. -/
def Fr (bl bl' : List Blk) (v : CV) : Prop := ∀ (k : Nat) (b : Blk), bl[k]? = some b → blkOf v ≠ some k → bl'[k]? = some b
theorem Own.fr {β : Type} {g : β → List CV} {sz' : Nat} {w : CV} {r : List β} {bl' : List Blk} (h : Own g sz' bl w r) (hf : Fr bl bl' v) (hd : Dj v w) : Own g sz' bl' w r := by
  rcases h with h | ⟨m, rfl, h2⟩
  · exact .inl h
  · exact .inr ⟨m, rfl, hf m _ h2 (fun hk => hd m hk rfl)⟩
theorem Dj.grow {v' w : CV} (hd : Dj v w) (hb : blkOf v' = blkOf v ∨ blkOf v' = some bl.length) (hl : ∀ k, blkOf w = some k → k < bl.length) : Dj v' w := by
  intro k h1 h2
  rcases hb with hb | hb
  · exact hd k (hb ▸ h1) h2
  · rw [hb] at h1; cases h1; exact Nat.lt_irrefl _ (hl _ h2)

/-- Blocks that were there are there still, but for one. -/
theorem Own.keep {bl' : List Blk} (h : Own f sz bl v l) (hk : ∀ (m : Nat) (b : Blk), bl[m]? = some b → bl'[m]? = some b) : Own f sz bl' v l := by
  rcases h with h | ⟨m, h1, h2⟩
  · exact .inl h
  · exact .inr ⟨m, h1, hk _ _ h2⟩

theorem Own.shown (hf : Flat f sz) (h : Own f sz bl v l) (bx : List (Nat × List CV)) : shown ⟨bx, bl⟩ sz v = some (l.flatMap f) := by
  rcases h with ⟨rfl, rfl⟩ | ⟨m, rfl, h2⟩
  · rfl
  · unfold Zc.shown
    simp only [if_true]
    rw [get_blk bx bl m _ h2]
    simp only [Option.bind_some, Nat.zero_add, hf.length, Nat.le_refl, if_true, List.drop_zero]
    rw [List.take_of_length_le (by rw [hf.length]; exact Nat.le_refl _)]

/-- An append: what it makes lies in a new block. -/
theorem Own.app (hf : Flat f sz) (h : Own f sz bl v l) {bytes : Nat} {zero : List CV} (hb : 0 < bytes) (hz : zero.length = sz) (hz1 : Zc.ones zero = true) {x : CV} {new : List α}
    (hx : ∀ bx, Zc.shown ⟨bx, bl⟩ sz x = some (new.flatMap f)) (hx1 : Zc.lenOf x = new.length) (hx2 : Zc.isSl x = true) (hm : (l.length + new.length) * bytes ≤ 140737488355328) :
    ∃ v' bl', (∀ bx, heapOp (.app sz bytes zero) [v, x] ⟨bx, bl⟩ = some (v', ⟨bx, bl'⟩)) ∧ Own f sz bl' v' (l ++ new) ∧ bl.length ≤ bl'.length ∧
      Fr bl bl' v ∧ (blkOf v' = blkOf v ∨ blkOf v' = some bl.length) := by
  by_cases h0 : new.length = 0
  · have : new = [] := List.eq_nil_of_length_eq_zero h0
    subst this
    refine ⟨v, bl, fun bx => ?_, by simpa using h, Nat.le_refl _, fun _ _ h _ => h, .inl rfl⟩
    simp only [heapOp, hx1, List.length_nil, if_true, h.isSl, hx2, Bool.and_self]
  · rcases h with ⟨rfl, rfl⟩ | ⟨m, rfl, h2⟩
    · refine ⟨.os sz (.blk bl.length) 0 new.length, bl ++ [.cells (new.flatMap f)], fun bx => ?_, ?_, by simp, fun k b hk _ => ?_, .inr rfl⟩
      · simp only [heapOp, hx1, if_neg h0, hx, Option.bind_some, hf.ones, hf.locs, hz, hz1, decide_true, hf.pos, hb, Bool.true_and, Bool.not_false, Bool.and_true, appC, push_eq]
        rw [if_pos (by simpa [Zc.lenOf] using hm)]
      · refine .inr ⟨bl.length, by simp, by simp⟩
      · rw [List.getElem?_append_left (by exact (List.getElem?_eq_some_iff.1 hk).1)]; exact hk
    · have hml : m < bl.length := (List.getElem?_eq_some_iff.1 h2).1
      refine ⟨.os sz (.blk bl.length) 0 (l.length + new.length), (bl.set m .dead) ++ [.cells (l.flatMap f ++ new.flatMap f)], fun bx => ?_, ?_, by simp, fun k b hk hne => ?_, .inr rfl⟩
      · simp only [heapOp, hx1, if_neg h0, hx, Option.bind_some, hf.ones, hf.locs, hz, hz1, decide_true, hf.pos, hb, Bool.true_and, Bool.not_false, Bool.and_true]
        rw [if_pos (decide_eq_true (show (Zc.lenOf (.os sz (.blk m) 0 l.length) + new.length) * bytes ≤ _ from hm))]
        simp only [appC, if_true, get_blk bx bl m _ h2, Option.bind_some, hf.length, Nat.le_refl, Heap.kill, Heap.push]
        rw [List.take_of_length_le (by rw [hf.length]; exact Nat.le_refl _)]
      · refine .inr ⟨bl.length, by simp, by simp⟩
      · have hkl := (List.getElem?_eq_some_iff.1 hk).1
        rw [List.getElem?_append_left (by simpa using hkl), List.getElem?_set_ne (fun h => hne (by rw [h]; rfl))]
        exact hk

/-- An append of one, as a literal tells it. -/
theorem Own.app1 (hf : Flat f sz) (h : Own f sz bl v l) {bytes : Nat} {zero : List CV} (hb : 0 < bytes) (hz : zero.length = sz) (hz1 : Zc.ones zero = true) (x : α) (hm : (l.length + 1) * bytes ≤ 140737488355328) :
    ∃ v' bl', (∀ bx, heapOp (.app sz bytes zero) [v, .vs (f x) 1] ⟨bx, bl⟩ = some (v', ⟨bx, bl'⟩)) ∧ Own f sz bl' v' (l ++ [x]) ∧ bl.length ≤ bl'.length ∧
      Fr bl bl' v ∧ (blkOf v' = blkOf v ∨ blkOf v' = some bl.length) := by
  refine h.app hf hb hz hz1 (x := .vs (f x) 1) (new := [x]) (fun bx => ?_) rfl rfl hm
  simp [Zc.shown, hf.len]

/-- An append of a frozen slice. -/
theorem Own.appSl (hf : Flat f sz) (h : Own f sz bl v l) {bytes : Nat} {zero : List CV} (hb : 0 < bytes) (hz : zero.length = sz) (hz1 : Zc.ones zero = true) (new : List α) (hm : (l.length + new.length) * bytes ≤ 140737488355328) :
    ∃ v' bl', (∀ bx, heapOp (.app sz bytes zero) [v, sl f new] ⟨bx, bl⟩ = some (v', ⟨bx, bl'⟩)) ∧ Own f sz bl' v' (l ++ new) ∧ bl.length ≤ bl'.length ∧
      Fr bl bl' v ∧ (blkOf v' = blkOf v ∨ blkOf v' = some bl.length) :=
  h.app hf hb hz hz1 (fun _ => shown_sl hf.len _ _) rfl rfl hm

/-- A slice that is made, or was made whole. -/
def OwnF {α : Type} (f : α → List CV) (sz : Nat) (bl : List Blk) (v : CV) (l : List α) : Prop := v = sl f l ∨ Own f sz bl v l
theorem OwnF.fr {β : Type} {g : β → List CV} {sz' : Nat} {w : CV} {r : List β} {bl' : List Blk} (h : OwnF g sz' bl w r) (hf : Fr bl bl' v) (hd : Dj v w) : OwnF g sz' bl' w r := by
  rcases h with h | h
  · exact .inl h
  · exact .inr (h.fr hf hd)
theorem OwnF.lt (h : OwnF f sz bl v l) {k : Nat} (hk : blkOf v = some k) : k < bl.length := by
  rcases h with rfl | h
  · cases hk
  · exact h.lt hk
theorem OwnF.locv (h : OwnF f sz bl v l) : v.locv = false := by
  rcases h with rfl | h
  · rfl
  · exact h.locv
theorem OwnF.und (h : OwnF f sz bl v l) : v.und? = false := by
  rcases h with rfl | h
  · rfl
  · exact h.und
theorem OwnF.one (h : OwnF f sz bl v l) : v.one = true := by
  rcases h with rfl | h
  · rfl
  · exact h.one

theorem mapC_id {g : CV → Option CV} : ∀ {cs : List CV}, (∀ c ∈ cs, g c = some c) → mapC g cs = some cs
  | [], _ => rfl
  | c :: cs, h => by
    rw [mapC_cons, h c (by simp), bind_some', mapC_id (fun x hx => h x (by simp [hx]))]
    rfl

/-- How it is handed out by value. -/
theorem Own.snapV (hf : Flat f sz) (h : Own f sz bl v l) (bx : List (Nat × List CV)) (st : Bool) (g : CV → Option CV) (hg : ∀ x, ∀ c ∈ f x, g c = some c) : snapV ⟨bx, bl⟩ st false g v = some (sl f l) := by
  rcases h with ⟨rfl, rfl⟩ | ⟨m, rfl, h2⟩
  · rfl
  · unfold Zc.snapV
    split
    · rename_i h0
      have : l = [] := List.eq_nil_of_length_eq_zero h0
      subst this
      rfl
    · rw [get_blk bx bl m _ h2]
      simp only [Option.bind_some, Nat.zero_add, hf.length, Nat.le_refl, if_true, List.drop_zero]
      rw [List.take_of_length_le (by rw [hf.length]; exact Nat.le_refl _), mapC_id]
      · rfl
      · intro c hc
        obtain ⟨x, _, hx⟩ := List.mem_flatMap.1 hc
        exact hg x c hx

/-- The same, of one that isn't empty; nil slices may be kept. -/
theorem Own.snapK (hf : Flat f sz) (h : Own f sz bl v l) (h0 : l ≠ []) (bx : List (Nat × List CV)) (st kn : Bool) (g : CV → Option CV) (hg : ∀ x, ∀ c ∈ f x, g c = some c) : Zc.snapV ⟨bx, bl⟩ st kn g v = some (sl f l) := by
  rcases h with ⟨rfl, rfl⟩ | ⟨m, rfl, h2⟩
  · exact (h0 rfl).elim
  · unfold Zc.snapV
    split
    · rename_i h1
      exact (h0 (List.eq_nil_of_length_eq_zero h1)).elim
    · rw [get_blk bx bl m _ h2]
      simp only [Option.bind_some, Nat.zero_add, hf.length, Nat.le_refl, if_true, List.drop_zero]
      rw [List.take_of_length_le (by rw [hf.length]; exact Nat.le_refl _), mapC_id]
      · rfl
      · intro c hc
        obtain ⟨x, _, hx⟩ := List.mem_flatMap.1 hc
        exact hg x c hx

theorem refs_mem : ∀ {cs : List CV} {c : CV}, CV.refs cs = false → c ∈ cs → c.ref = false
  | [], _, _, h => by simp at h
  | d :: cs, c, hr, h => by
    simp only [CV.refs, Bool.or_eq_false_iff] at hr
    rcases List.mem_cons.1 h with rfl | h
    · exact hr.1
    · exact refs_mem hr.2 h

theorem Own.refs_or (h : Own f sz bl v l) : v.ref = false ∧ v = .nils ∨ v.ref = true := by
  rcases h with ⟨rfl, rfl⟩ | ⟨m, rfl, _⟩
  · exact .inl ⟨rfl, rfl⟩
  · exact .inr rfl

/-- Its elements, read. -/
theorem Own.iaddr (hf : Flat f sz) (h : Own f sz bl v l) {k : IntKind} {i : Nat} (hi : i < l.length) :
    ∃ m, iaddrC sz v (.int k i) = some (.op (.blk m) (i * sz)) ∧ bl[m]? = some (.cells (l.flatMap f)) ∧ v = .os sz (.blk m) 0 l.length := by
  rcases h with ⟨rfl, rfl⟩ | ⟨m, rfl, h2⟩
  · simp at hi
  · refine ⟨m, ?_, h2, rfl⟩
    unfold iaddrC iaddrN
    simp only [Int.toNat_natCast, Nat.zero_add]
    rw [if_pos ⟨trivial, by omega, by omega⟩]
end

/-! ### Of which the block may hold more -/
def OwnS {α : Type} (f : α → List CV) (sz : Nat) (bl : List Blk) (v : CV) (l : List α) : Prop :=
  (v = .nils ∧ l = []) ∨ ∃ m rest, v = .os sz (.blk m) 0 l.length ∧ bl[m]? = some (.cells (l.flatMap f ++ rest))

section
variable {α : Type} {f : α → List CV} {sz : Nat} {bl : List Blk} {v : CV} {l : List α}
theorem Own.s (h : Own f sz bl v l) : OwnS f sz bl v l := by
  rcases h with h | ⟨m, h1, h2⟩
  · exact .inl h
  · exact .inr ⟨m, [], h1, by simpa using h2⟩
theorem OwnS.len (h : OwnS f sz bl v l) : lenC v = some (.int .i64 l.length) := by
  rcases h with ⟨rfl, rfl⟩ | ⟨m, r, rfl, _⟩ <;> rfl
theorem OwnS.chkV (h : OwnS f sz bl v l) (s : List Nat) : chkV s v = true := by
  rcases h with ⟨rfl, rfl⟩ | ⟨m, r, rfl, _⟩ <;> rfl
theorem OwnS.locv (h : OwnS f sz bl v l) : v.locv = false := by
  rcases h with ⟨rfl, rfl⟩ | ⟨m, r, rfl, _⟩ <;> rfl
theorem OwnS.snapV (hf : Flat f sz) (h : OwnS f sz bl v l) (bx : List (Nat × List CV)) (st : Bool) (g : CV → Option CV) (hg : ∀ x, ∀ c ∈ f x, g c = some c) : snapV ⟨bx, bl⟩ st false g v = some (sl f l) := by
  rcases h with ⟨rfl, rfl⟩ | ⟨m, r, rfl, h2⟩
  · rfl
  · unfold Zc.snapV
    split
    · rename_i h0
      have : l = [] := List.eq_nil_of_length_eq_zero h0
      subst this
      rfl
    · rw [get_blk bx bl m _ h2]
      have hl := hf.length l
      simp only [Option.bind_some, Nat.zero_add, List.length_append, hl, List.drop_zero]
      rw [if_pos (by omega), ← hl, List.take_left, mapC_id]
      · rfl
      · intro c hc
        obtain ⟨x, _, hx⟩ := List.mem_flatMap.1 hc
        exact hg x c hx

/-- An append to it. -/
theorem OwnS.app (hf : Flat f sz) (h : OwnS f sz bl v l) {bytes : Nat} {zero : List CV} (hb : 0 < bytes) (hz : zero.length = sz) (hz1 : Zc.ones zero = true) {x : CV} {new : List α}
    (hx : ∀ bx, Zc.shown ⟨bx, bl⟩ sz x = some (new.flatMap f)) (hx1 : Zc.lenOf x = new.length) (hx2 : Zc.isSl x = true) (hm : (l.length + new.length) * bytes ≤ 140737488355328) :
    ∃ v' bl', (∀ bx, heapOp (.app sz bytes zero) [v, x] ⟨bx, bl⟩ = some (v', ⟨bx, bl'⟩)) ∧ OwnS f sz bl' v' (l ++ new) ∧ bl.length ≤ bl'.length ∧ Fr bl bl' v ∧ (blkOf v' = blkOf v ∨ blkOf v' = some bl.length) := by
  by_cases h0 : new.length = 0
  · have : new = [] := List.eq_nil_of_length_eq_zero h0
    subst this
    refine ⟨v, bl, fun bx => ?_, by simpa using h, Nat.le_refl _, fun _ _ h _ => h, .inl rfl⟩
    have : Zc.isSl v = true := by rcases h with ⟨rfl, rfl⟩ | ⟨m, r, rfl, _⟩ <;> rfl
    simp only [heapOp, hx1, List.length_nil, if_true, this, hx2, Bool.and_self]
  · rcases h with ⟨rfl, rfl⟩ | ⟨m, r, rfl, h2⟩
    · obtain ⟨v', bl', h1, h2, h3⟩ := (Own.nil f sz bl).app hf hb hz hz1 hx hx1 hx2 hm
      exact ⟨v', bl', h1, h2.s, h3⟩
    · have hml : m < bl.length := (List.getElem?_eq_some_iff.1 h2).1
      have hl := hf.length l
      refine ⟨.os sz (.blk bl.length) 0 (l.length + new.length), (bl.set m .dead) ++ [.cells (l.flatMap f ++ new.flatMap f)], fun bx => ?_, ?_, by simp, fun k b hk hne => ?_, .inr rfl⟩
      · simp only [heapOp, hx1, if_neg h0, hx, Option.bind_some, hf.ones, hf.locs, hz, hz1, decide_true, hf.pos, hb, Bool.true_and, Bool.not_false, Bool.and_true]
        rw [if_pos (decide_eq_true (show (Zc.lenOf (.os sz (.blk m) 0 l.length) + new.length) * bytes ≤ _ from hm))]
        simp only [appC, if_true, get_blk bx bl m _ h2, Option.bind_some, List.length_append, hl, Heap.kill, Heap.push]
        rw [if_pos (by omega), ← hl, List.take_left]
      · refine .inr ⟨bl.length, [], by simp, by simp⟩
      · have hkl := (List.getElem?_eq_some_iff.1 hk).1
        rw [List.getElem?_append_left (by simpa using hkl), List.getElem?_set_ne (fun h => hne (by rw [h]; rfl))]
        exact hk
theorem OwnS.appSl (hf : Flat f sz) (h : OwnS f sz bl v l) {bytes : Nat} {zero : List CV} (hb : 0 < bytes) (hz : zero.length = sz) (hz1 : Zc.ones zero = true) (new : List α) (hm : (l.length + new.length) * bytes ≤ 140737488355328) :
    ∃ v' bl', (∀ bx, heapOp (.app sz bytes zero) [v, sl f new] ⟨bx, bl⟩ = some (v', ⟨bx, bl'⟩)) ∧ OwnS f sz bl' v' (l ++ new) ∧ bl.length ≤ bl'.length ∧ Fr bl bl' v ∧ (blkOf v' = blkOf v ∨ blkOf v' = some bl.length) :=
  h.app hf hb hz hz1 (fun _ => shown_sl hf.len _ _) rfl rfl hm

/-- Handed out of a body that makes it. -/
theorem Own.handed (hf : Flat f sz) (h : Own f sz bl v l) (st : Bool) (bx bx' : List (Nat × List CV)) (bl' : List Blk) (hg : ∀ (H : Heap) (x : α), ∀ c ∈ f x, snap H st false c = some c) :
    ∃ v' bl'', ownSnap st ⟨bx', bl'⟩ ⟨bx, bl⟩ [v] = some (v', ⟨bx', bl''⟩) ∧ Own f sz bl'' v' l ∧ (∀ (k : Nat) (b : Blk), bl'[k]? = some b → bl''[k]? = some b) ∧ (∀ k, blkOf v' = some k → bl'.length ≤ k) := by
  rcases h with ⟨rfl, rfl⟩ | ⟨m, rfl, h2⟩
  · exact ⟨.nils, bl', rfl, .inl ⟨rfl, rfl⟩, fun _ _ h => h, fun k h => by cases h⟩
  · refine ⟨.os sz (.blk bl'.length) 0 l.length, bl' ++ [.cells (l.flatMap f)], ?_, .inr ⟨bl'.length, rfl, by simp⟩, fun k b hk => ?_, fun k h => by cases h; exact Nat.le_refl _⟩
    · unfold ownSnap ownOf resV
      simp only [get_blk bx bl m _ h2, Option.bind_some, hf.length, Nat.le_refl, if_true]
      rw [mapC_id]
      · rfl
      · intro c hc
        obtain ⟨x, _, hx⟩ := List.mem_flatMap.1 hc
        exact hg _ x c hx
    · rw [List.getElem?_append_left (List.getElem?_eq_some_iff.1 hk).1]; exact hk
end

theorem setMany_app : ∀ (B' B A C : List CV), B.length = B'.length → setMany (A ++ B ++ C) A.length B' = A ++ B' ++ C
  | [], [], A, C, _ => by simp [setMany]
  | c :: B', b :: B, A, C, h => by
    have := setMany_app B' B (A ++ [c]) C (by simpa using h)
    simp only [setMany, List.append_assoc, List.cons_append, List.nil_append, List.length_append, List.length_cons, List.length_nil, Nat.zero_add] at this ⊢
    rw [← this]
    congr 1
    simp
  | [], _ :: _, _, _, h => by simp at h
  | _ :: _, [], _, _, h => by simp at h
theorem setMany_mid {α : Type} {f : α → List CV} {sz : Nat} (hf : Flat f sz) (p s : List α) (x y : α) : setMany ((p ++ y :: s).flatMap f) (p.length * sz) (f x) = (p ++ x :: s).flatMap f := by
  have := setMany_app (f x) (f y) (p.flatMap f) (s.flatMap f) (by rw [hf.len, hf.len])
  rw [hf.length] at this
  simpa using this

theorem drop_mid {α : Type} {f : α → List CV} {sz : Nat} (hf : Flat f sz) (p s : List α) (x : α) : ((p ++ x :: s).flatMap f).drop (p.length * sz) = f x ++ s.flatMap f := by
  rw [flatMap_drop hf.len]; simp
end Go.Zc
end
