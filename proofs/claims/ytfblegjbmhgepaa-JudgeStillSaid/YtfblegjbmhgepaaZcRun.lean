/- Running without a bound: what the interpreter hands back when it may run as long as it likes. No condition. -/
import Derived.Test.YtfblegjbmhgepaaZcCall
set_option linter.all false
namespace Go.Zc

/-- Whatever the one hands back, so does the other. -/
def LeO {α : Type} (a b : Option α) : Prop := ∀ r, a = some r → b = some r

theorem LeO.bind {α β : Type} {a a' : Option α} {f f' : α → Option β} (h : LeO a a') (h' : ∀ x, LeO (f x) (f' x)) : LeO (a.bind f) (a'.bind f') := by
  intro r hr
  obtain ⟨x, hx, hr⟩ := Option.bind_eq_some_iff.1 hr
  rw [h x hx]
  exact h' x r hr
theorem LeO.map {α β : Type} {a a' : Option α} {f : α → β} (h : LeO a a') : LeO (a.map f) (a'.map f) := by
  intro r hr
  obtain ⟨x, hx, hr⟩ := Option.map_eq_some_iff.1 hr
  rw [h x hx]
  exact congrArg some hr
theorem LeO.rfl {α : Type} {a : Option α} : LeO a a := fun _ h => h

theorem LeO.eq {α : Type} {a b : Option α} (h : LeO a b) (h' : LeO b a) : a = b := by
  cases ha : a with
  | some x => exact (h x ha).symm
  | none =>
    cases hb : b with
    | none => rfl
    | some x => rw [h' x hb] at ha; cases ha

abbrev LeCall (c c' : Caller) : Prop := ∀ f args H, LeO (c f args H) (c' f args H)
abbrev LeRun (c c' : CCode → Env → Heap → Out) : Prop := ∀ x env H, LeO (c x env H) (c' x env H)

theorem runOps_mono {c c' : Caller} (h : LeCall c c') : ∀ l env H, LeO (runOps c l env H) (runOps c' l env H)
  | [], _, _ => LeO.rfl
  | s :: r, env, H => by
    have ho : ∀ vs, LeO (runOp c s.op vs H) (runOp c' s.op vs H) := by
      intro vs
      cases s.op with
      | call =>
        cases vs with
        | nil => exact LeO.rfl
        | cons f as => exact h _ _ _
      | callb =>
        cases vs with
        | nil => exact LeO.rfl
        | cons f as => exact (h _ _ _).map
      | callp =>
        cases vs with
        | nil => exact LeO.rfl
        | cons f as => exact (h _ _ _).bind fun _ => LeO.rfl
      | callv =>
        cases vs with
        | nil => exact LeO.rfl
        | cons f as =>
          simp only [runOp]
          split
          · exact LeO.rfl
          · exact (h _ _ _).map
      | _ => exact LeO.rfl
    unfold runOps
    split
    · exact (ho _).bind fun x => runOps_mono h r _ _
    · split
      · split
        · exact (ho _).bind fun x => runOps_mono h r _ _
        · exact runOps_mono h r _ _
      · exact LeO.rfl

theorem iter_mono {id : Nat} {li lo : List Nat} {f f' : Env → Heap → Out} (h : ∀ e H, LeO (f e H) (f' e H)) : ∀ n m, n ≤ m → ∀ env H, LeO (iter id li lo f n env H) (iter id li lo f' m env H)
  | 0, _, _, _, _ => fun _ h => by simp [iter] at h
  | n + 1, 0, hnm, _, _ => by omega
  | n + 1, m + 1, hnm, env, H => by
    unfold iter
    refine LeO.rfl.bind fun x => (h _ _).bind fun y => ?_
    split
    · exact iter_mono h n m (by omega) _ _
    · exact LeO.rfl
    · exact LeO.rfl

theorem runC_mono {c c' : Caller} (h : LeCall c c') {n m : Nat} (hnm : n ≤ m) : ∀ code env H, LeO (runC c n code env H) (runC c' m code env H)
  | .skip, _, _ => LeO.rfl
  | .ops l, env, H => (runOps_mono h l env H).map
  | .seq a b, env, H => by
    simp only [runC]
    refine (runC_mono h hnm a env H).bind fun x => ?_
    split
    · exact runC_mono h hnm b _ _
    · exact LeO.rfl
  | .cond c a b, env, H => by
    simp only [runC]
    split
    · split
      · exact runC_mono h hnm a _ _
      · exact runC_mono h hnm b _ _
    · exact LeO.rfl
  | .block id lo c, env, H => by
    simp only [runC]
    exact (runC_mono h hnm c env H).bind fun x => LeO.rfl
  | .bloop id li lo c, env, H => by
    simp only [runC]
    exact iter_mono (fun e H => runC_mono h hnm c e H) n m hnm env H
  | .exit _, _, _ => LeO.rfl
  | .ret _, _, _ => LeO.rfl

theorem bodyC_mono {r r' : CCode → Env → Heap → Out} (h : LeRun r r') (I : FInfo) (as : List CV) (bl : List Blk) : LeO (bodyC r I as bl) (bodyC r' I as bl) := by
  unfold bodyC
  split
  · exact (h _ _ _).bind fun _ => LeO.rfl
  · exact LeO.rfl

theorem callC_mono (C : Ctx) {r r' : CCode → Env → Heap → Out} (h : LeRun r r') : LeCall (callC C r) (callC C r') := by
  intro f args H
  unfold callC
  split
  · dsimp only
    split
    · exact LeO.rfl
    · split
      · exact LeO.rfl
      · split
        · split
          · exact LeO.rfl
          · exact (bodyC_mono h _ _ _).bind fun _ => LeO.rfl
        · exact LeO.rfl.bind fun _ => (bodyC_mono h _ _ _).bind fun _ => LeO.rfl
        · exact LeO.rfl.bind fun _ => (bodyC_mono h _ _ _).bind fun _ => LeO.rfl
  · exact LeO.rfl

theorem run_mono (C : Ctx) : ∀ n m, n ≤ m → LeRun (run C n) (run C m)
  | 0, _, _ => fun _ _ _ _ h => by simp [run] at h
  | n + 1, 0, h => by omega
  | n + 1, m + 1, h => fun c env H => runC_mono (callC_mono C (run_mono C n m (by omega))) (by omega) c env H

open Classical in
/-- What a code comes to. -/
noncomputable def eval (C : Ctx) (c : CCode) (env : Env) (H : Heap) : Out :=
  if h : ∃ r n, run C n c env H = some r then some (Classical.choose h) else none

theorem eval_iff {C : Ctx} {c : CCode} {env : Env} {H : Heap} {r : Ex × Env × Heap} : eval C c env H = some r ↔ ∃ n, run C n c env H = some r := by
  unfold eval
  constructor
  · intro h
    split at h
    · rename_i hx
      cases h
      exact Classical.choose_spec hx
    · cases h
  · rintro ⟨n, hn⟩
    have hx : ∃ r n, run C n c env H = some r := ⟨r, n, hn⟩
    rw [dif_pos hx]
    obtain ⟨m, hm⟩ := Classical.choose_spec hx
    have h1 := run_mono C n (max n m) (by omega) _ _ _ _ hn
    have h2 := run_mono C m (max n m) (by omega) _ _ _ _ hm
    rw [h2] at h1
    exact h1

theorem run_eval (C : Ctx) (n : Nat) : LeRun (run C n) (eval C) := fun _ _ _ _ h => eval_iff.2 ⟨n, h⟩

/-- What a call comes to. -/
noncomputable def call (C : Ctx) : Caller := callC C (eval C)

/-- A bind reached by climbing. -/
theorem climb_body {C : Ctx} {I : FInfo} {as : List CV} {bl : List Blk} {x : CV × Heap} (h : bodyC (eval C) I as bl = some x) : ∃ n, bodyC (run C n) I as bl = some x := by
  unfold bodyC at h ⊢
  split at h
  · rename_i hl
    simp only [if_pos hl]
    obtain ⟨y, hy, hr⟩ := Option.bind_eq_some_iff.1 h
    obtain ⟨n, hn⟩ := eval_iff.1 hy
    exact ⟨n, by rw [hn]; exact hr⟩
  · cases h

theorem call_iff {C : Ctx} {f : CV} {args : List CV} {H : Heap} {r : CV × Heap} : call C f args H = some r ↔ ∃ n, callC C (run C n) f args H = some r := by
  constructor
  · intro h
    unfold call callC at h
    split at h
    · rename_i k first cap
      dsimp only at h
      unfold callC
      dsimp only
      split at h
      · exact ⟨0, h⟩
      · cases hI : C.info k with
        | none => simp [hI] at h
        | some I =>
          simp only [hI] at h ⊢
          cases hm : I.mode with
          | ref =>
            simp only [hm] at h ⊢
            split at h
            · cases h
            · rename_i hl
              simp only [if_neg hl]
              obtain ⟨x, hx, hr⟩ := Option.bind_eq_some_iff.1 h
              obtain ⟨n, hn⟩ := climb_body hx
              exact ⟨n, by rw [hn]; exact hr⟩
          | fz kn =>
            simp only [hm] at h ⊢
            obtain ⟨as', h1, h2⟩ := Option.bind_eq_some_iff.1 h
            obtain ⟨x, hx, hr⟩ := Option.bind_eq_some_iff.1 h2
            obtain ⟨n, hn⟩ := climb_body hx
            exact ⟨n, by rw [h1, Option.bind_some, hn]; exact hr⟩
          | own =>
            simp only [hm] at h ⊢
            obtain ⟨as', h1, h2⟩ := Option.bind_eq_some_iff.1 h
            obtain ⟨x, hx, hr⟩ := Option.bind_eq_some_iff.1 h2
            obtain ⟨n, hn⟩ := climb_body hx
            exact ⟨n, by rw [h1, Option.bind_some, hn]; exact hr⟩
    · cases h
  · rintro ⟨n, h⟩
    exact callC_mono C (run_eval C n) _ _ _ _ h

/-- A bound that does for both. -/
theorem climbOps {C : Ctx} : ∀ {l : List CStm} {env : Env} {H : Heap} {r : Env × Heap}, runOps (call C) l env H = some r → ∃ n, runOps (callC C (run C n)) l env H = some r
  | [], env, H, r, h => ⟨0, by simpa [runOps] using h⟩
  | s :: l, env, H, r, h => by
    have up : ∀ n m, n ≤ m → LeCall (callC C (run C n)) (callC C (run C m)) := fun n m h => callC_mono C (run_mono C n m h)
    have hop : ∀ {vs x}, runOp (call C) s.op vs H = some x → ∃ n, runOp (callC C (run C n)) s.op vs H = some x := by
      intro vs x hx
      cases hop : s.op with
      | call =>
        rw [hop] at hx
        cases vs with
        | nil => cases hx
        | cons f as => exact call_iff.1 hx
      | callb =>
        rw [hop] at hx
        cases vs with
        | nil => cases hx
        | cons f as =>
          simp only [runOp, Option.map_eq_some_iff] at hx ⊢
          obtain ⟨y, hy, rfl⟩ := hx
          obtain ⟨n, hn⟩ := call_iff.1 hy
          exact ⟨n, y, hn, rfl⟩
      | callp =>
        rw [hop] at hx
        cases vs with
        | nil => cases hx
        | cons f as =>
          simp only [runOp, Option.bind_eq_some_iff] at hx ⊢
          obtain ⟨y, hy, h2⟩ := hx
          obtain ⟨n, hn⟩ := call_iff.1 hy
          exact ⟨n, y, hn, h2⟩
      | callv =>
        rw [hop] at hx
        cases vs with
        | nil => cases hx
        | cons f as =>
          simp only [runOp] at hx ⊢
          split at hx <;> (try cases hx)
          rename_i hr
          simp only [if_neg hr, Option.map_eq_some_iff] at hx ⊢
          obtain ⟨y, hy, rfl⟩ := hx
          obtain ⟨n, hn⟩ := call_iff.1 hy
          exact ⟨n, y, hn, rfl⟩
      | _ => rw [hop] at hx; exact ⟨0, hx⟩
    have two : (runOp (call C) s.op (evs env s.args) H).bind (fun x => runOps (call C) l (putD env s.dst x.1) x.2) = some r → ∃ n, (runOp (callC C (run C n)) s.op (evs env s.args) H).bind (fun x => runOps (callC C (run C n)) l (putD env s.dst x.1) x.2) = some r := by
      intro h
      obtain ⟨x, h1, h2⟩ := Option.bind_eq_some_iff.1 h
      obtain ⟨n, hn⟩ := hop h1
      obtain ⟨m, hm⟩ := climbOps h2
      refine ⟨max n m, ?_⟩
      have g1 : runOp (callC C (run C (max n m))) s.op (evs env s.args) H = some x := by
        revert hn
        cases s.op with
        | call =>
          cases evs env s.args with
          | nil => intro hn; cases hn
          | cons f as => intro hn; exact up n _ (by omega) _ _ _ _ hn
        | callb =>
          cases evs env s.args with
          | nil => intro hn; cases hn
          | cons f as => intro hn; exact (LeO.map (up n _ (by omega) _ _ _)) _ hn
        | callp =>
          cases evs env s.args with
          | nil => intro hn; cases hn
          | cons f as => intro hn; exact (LeO.bind (up n _ (by omega) _ _ _) fun _ => LeO.rfl) _ hn
        | callv =>
          cases evs env s.args with
          | nil => intro hn; cases hn
          | cons f as =>
            simp only [runOp]
            split
            · intro hn; cases hn
            · intro hn; exact (LeO.map (up n _ (by omega) _ _ _)) _ hn
        | _ => intro hn; exact hn
      rw [g1]
      exact runOps_mono (up m _ (by omega)) _ _ _ _ hm
    unfold runOps at h ⊢
    split at h
    · exact two h
    · split at h
      · split at h
        · rename_i hb
          simp only [if_pos hb]
          exact two h
        · rename_i hb
          simp only [if_neg hb]
          exact climbOps h
      · cases h

theorem climb {C : Ctx} {code : CCode} {env : Env} {H : Heap} {r : Ex × Env × Heap} {n : Nat} (h : runC (callC C (run C n)) n code env H = some r) : eval C code env H = some r := eval_iff.2 ⟨n + 1, h⟩

theorem descend {C : Ctx} {code : CCode} {env : Env} {H : Heap} {r : Ex × Env × Heap} (h : eval C code env H = some r) : ∃ n, ∀ m, n ≤ m → runC (callC C (run C m)) m code env H = some r := by
  obtain ⟨n, hn⟩ := eval_iff.1 h
  cases n with
  | zero => simp [run] at hn
  | succ n => exact ⟨n, fun m hm => runC_mono (callC_mono C (run_mono C n m hm)) hm _ _ _ _ hn⟩

section
variable (C : Ctx) (env : Env) (H : Heap)

theorem eval_skip : eval C .skip env H = some (.norm, env, H) := climb (n := 0) rfl
theorem eval_exit (k : Nat) : eval C (.exit k) env H = some (.exit k, env, H) := climb (n := 0) rfl
theorem eval_ret (rs : List Nat) : eval C (.ret rs) env H = some (.ret, Zc.keep env rs, H) := climb (n := 0) rfl

theorem eval_ops (l : List CStm) : eval C (.ops l) env H = (runOps (call C) l env H).map fun x => (.norm, x.1, x.2) := by
  refine LeO.eq ?_ ?_
  · intro r h
    obtain ⟨n, hn⟩ := descend h
    have := hn n (by omega)
    simp only [runC] at this
    obtain ⟨x, hx, rfl⟩ := Option.map_eq_some_iff.1 this
    have := runOps_mono (callC_mono C (run_eval C n)) _ _ _ _ hx
    unfold call
    rw [this]
    rfl
  · intro r h
    obtain ⟨x, hx, rfl⟩ := Option.map_eq_some_iff.1 h
    obtain ⟨n, hn⟩ := climbOps hx
    refine climb (n := n) ?_
    simp only [runC, hn, Option.map_some]

/-- Then, where it went on. -/
noncomputable def thenE (C : Ctx) (b : CCode) : Ex × Env × Heap → Out
  | (.norm, env, H) => eval C b env H
  | r => some r

theorem eval_seq (a b : CCode) : eval C (.seq a b) env H = (eval C a env H).bind (thenE C b) := by
  refine LeO.eq ?_ ?_
  · intro r h
    obtain ⟨n, hn⟩ := descend h
    have := hn n (by omega)
    simp only [runC] at this
    obtain ⟨⟨x, e, H1⟩, hx, hr⟩ := Option.bind_eq_some_iff.1 this
    rw [climb hx]
    cases x with
    | norm => exact climb hr
    | exit k => exact hr
    | ret => exact hr
  · intro r h
    obtain ⟨⟨x, e, H1⟩, hx, hr⟩ := Option.bind_eq_some_iff.1 h
    obtain ⟨n, hn⟩ := descend hx
    cases x with
    | norm =>
      obtain ⟨m, hm⟩ := descend (show eval C b e H1 = some r from hr)
      refine climb (n := max n m) ?_
      simp only [runC, hn (max n m) (by omega), Option.bind_some]
      exact hm _ (by omega)
    | exit k =>
      refine climb (n := n) ?_
      simp only [runC, hn n (by omega), Option.bind_some]
      exact hr
    | ret =>
      refine climb (n := n) ?_
      simp only [runC, hn n (by omega), Option.bind_some]
      exact hr

theorem eval_cond_true (c : Opd) (a b : CCode) (h : ev env c = .bool true) : eval C (.cond c a b) env H = eval C a env H := by
  refine LeO.eq ?_ ?_ <;> intro r hr <;> obtain ⟨n, hn⟩ := descend hr <;> refine climb (n := n) ?_ <;> have := hn n (by omega) <;> simpa only [runC, h, if_true] using this
theorem eval_cond_false (c : Opd) (a b : CCode) (h : ev env c = .bool false) : eval C (.cond c a b) env H = eval C b env H := by
  refine LeO.eq ?_ ?_ <;> intro r hr <;> obtain ⟨n, hn⟩ := descend hr <;> refine climb (n := n) ?_ <;> have := hn n (by omega) <;> simpa [runC, h] using this

/-- A choice. -/
noncomputable def condE (x : CV) (a b : Out) : Out :=
  match x with
  | .bool t => if t then a else b
  | _ => none

theorem eval_cond (c : Opd) (a b : CCode) : eval C (.cond c a b) env H = condE (ev env c) (eval C a env H) (eval C b env H) := by
  unfold condE
  split
  · rename_i t ht
    cases t
    · exact eval_cond_false C env H c a b ht
    · exact eval_cond_true C env H c a b ht
  · rename_i hne
    refine LeO.eq ?_ (fun _ h => by cases h)
    intro r hr
    obtain ⟨n, hn⟩ := descend hr
    have := hn n (by omega)
    simp only [runC] at this
    cases this

/-- Out of a block. -/
def outE (id : Nat) (lo : Option (List Nat)) : Ex × Env × Heap → Out
  | (.exit k, env', H') => if k = id then joinE lo env' H' else some (.exit k, env', H')
  | (.norm, env', H') => joinE lo env' H'
  | r => some r

theorem eval_block (id : Nat) (lo : Option (List Nat)) (c : CCode) : eval C (.block id lo c) env H = (eval C c env H).bind (outE id lo) := by
  refine LeO.eq ?_ ?_
  · intro r h
    obtain ⟨n, hn⟩ := descend h
    have := hn n (by omega)
    simp only [runC] at this
    obtain ⟨x, hx, hr⟩ := Option.bind_eq_some_iff.1 this
    rw [climb hx]
    exact hr
  · intro r h
    obtain ⟨x, hx, hr⟩ := Option.bind_eq_some_iff.1 h
    obtain ⟨n, hn⟩ := descend hx
    refine climb (n := n) ?_
    simp only [runC, hn n (by omega), Option.bind_some]
    exact hr

/-- Around a loop once more. -/
noncomputable def roundE (C : Ctx) (id : Nat) (li lo : List Nat) (c : CCode) : Ex × Env × Heap → Out
  | (.norm, env', H') => eval C (.bloop id li lo c) env' H'
  | (.exit k, env', H') => if k = id then (keepE lo env' H').map fun x => (.norm, x.1, x.2) else some (.exit k, env', H')
  | (.ret, env', H') => some (.ret, env', H')

theorem eval_bloop (id : Nat) (li lo : List Nat) (c : CCode) : eval C (.bloop id li lo c) env H = (keepE li env H).bind fun x => (eval C c x.1 x.2).bind (roundE C id li lo c) := by
  refine LeO.eq ?_ ?_
  · intro r h
    obtain ⟨n, hn⟩ := descend h
    have := hn n (by omega)
    simp only [runC] at this
    cases n with
    | zero => simp [iter] at this
    | succ n =>
      unfold iter at this
      obtain ⟨x, hx, h2⟩ := Option.bind_eq_some_iff.1 this
      obtain ⟨⟨e, env', H'⟩, hy, h3⟩ := Option.bind_eq_some_iff.1 h2
      rw [hx, Option.bind_some, climb hy, Option.bind_some]
      cases e with
      | norm =>
        refine climb (n := n + 1) ?_
        simp only [runC]
        exact iter_mono (fun _ _ => LeO.rfl) n (n + 1) (by omega) _ _ _ h3
      | exit k => exact h3
      | ret => exact h3
  · intro r h
    obtain ⟨x, hx, h2⟩ := Option.bind_eq_some_iff.1 h
    obtain ⟨⟨e, env', H'⟩, hy, h3⟩ := Option.bind_eq_some_iff.1 h2
    obtain ⟨n, hn⟩ := descend hy
    cases e with
    | norm =>
      obtain ⟨m, hm⟩ := descend (show eval C (.bloop id li lo c) env' H' = some r from h3)
      refine climb (n := max n m + 1) ?_
      simp only [runC]
      unfold iter
      rw [hx, Option.bind_some, hn (max n m + 1) (by omega), Option.bind_some]
      have := hm (max n m) (by omega)
      simp only [runC] at this
      exact iter_mono (fun e H => runC_mono (callC_mono C (run_mono C (max n m) (max n m + 1) (by omega))) (by omega) c e H) (max n m) (max n m) (by omega) _ _ _ this
    | exit k =>
      refine climb (n := n + 1) ?_
      simp only [runC]
      unfold iter
      rw [hx, Option.bind_some, hn (n + 1) (by omega), Option.bind_some]
      exact h3
    | ret =>
      refine climb (n := n + 1) ?_
      simp only [runC]
      unfold iter
      rw [hx, Option.bind_some, hn (n + 1) (by omega), Option.bind_some]
      exact h3
end

theorem call_runs {C : Ctx} {f : CV} {args : List CV} {H : Heap} {v : CV} {H' : Heap} (h : call C f args H = some (v, H')) : ∃ n, callC C (run C n) f args H = some (v, H') := call_iff.1 h

end Go.Zc
