/- What the interpreter does the model does: code, functions, calls. No condition. -/
import Derived.Test.YtlhjpcgfkkhogaaGreatZcHeap5
import Derived.ProofKit
import Derived.Carry
import Derived.Below
import Derived.ChangeOld
import Derived.WalkKit
import Derived.JoinedOf
import Derived.ShutString
set_option linter.all false
section
namespace Go.Zc

def exOf : Ex → Exit
  | .norm => .normal
  | .exit k => .exit k
  | .ret => .ret

section
variable {P : Program} {w : World} {F : Nat → Prop} {ι : IM} {H : Heap} {env : Env} {a : Act}

theorem at_keep (env : Env) : ∀ (l : List Nat) (t : Nat), Env.at (keep env l) t = if t ∈ l then Env.at env t else .und
  | [], t => by simp [keep, Env.at, look]
  | x :: l, t => by
    simp only [keep, look_cons, at_keep env l t, List.mem_cons]
    by_cases h : t = x
    · subst h; simp
    · simp [h]

theorem look_keepB (bx : List (Nat × List CV)) : ∀ (l : List Nat) (t : Nat), look (keepB bx l) t = if t ∈ l then look bx t else none
  | [], t => by simp [keepB, look]
  | x :: l, t => by
    simp only [keepB, List.mem_cons]
    split
    · rename_i cs hcs
      simp only [look, look_keepB bx l t]
      by_cases h : t = x
      · subst h; simp [hcs]
      · simp [beq_ne (fun e => h e.symm), h]
    · rename_i hn
      rw [look_keepB bx l t]
      by_cases h : t = x
      · subst h; simp [hn]
      · simp [h]

theorem mem_look {α : Type} : ∀ {l : List (Nat × α)} {s : Nat} {x : α}, look l s = some x → (s, x) ∈ l
  | [], _, _, h => by simp [look] at h
  | (i, y) :: l, s, x, h => by
    simp only [look] at h
    by_cases e : i = s
    · subst e; simp at h; subst h; simp
    · simp only [beq_ne e, cond_false] at h
      exact List.mem_cons_of_mem _ (mem_look h)

theorem mem_keep : ∀ (l : List Nat) {t : Nat}, t ∈ l → (t, Env.at env t) ∈ keep env l
  | x :: l, t, h => by
    simp only [keep]
    rcases List.mem_cons.1 h with rfl | h
    · simp
    · exact List.mem_cons_of_mem _ (mem_keep l h)

/-- Slots that are let go. -/
theorem keep_ok {n : Nat} {l : List Nat} {env' : Env} {H' : Heap} (h : keepE l env H = some (env', H')) (hst : St n w F ι H env a) : ∃ ι', St n w F ι' H' env' a ∧ Ext w F ι H w F ι' H' := by
  unfold keepE at h
  split at h <;> (try cases h)
  rename_i hchk
  simp only [chk, Bool.and_eq_true] at hchk
  obtain ⟨hc1, hc2⟩ := hchk
  let ι' : IM := ⟨fun s => if s ∈ l then ι.lo s else none, ι.bl⟩
  have hglob : ι'.glob = ι.glob := rfl
  have hle : ι.glob.le ι' := fun i b hb => by cases i <;> simp_all [IM.glob, IM.get, ι']
  have hmono : ∀ {c : CV} {v : Value}, VR w F ι.glob c v → VR w F ι' c v := fun h => VR.mono ⟨⟨fun _ h => h, fun _ _ => rfl⟩, hle, fun _ _ h => h⟩ _ _ h
  have hget : ∀ i cs, (⟨keepB H.bx l, H.bl⟩ : Heap).get i = some cs → H.get i = some cs ∧ ι'.get i = ι.get i := by
    intro i cs hg
    cases i with
    | loc s =>
      simp only [Heap.get, look_keepB] at hg ⊢
      split at hg
      · rename_i hs
        exact ⟨hg, by simp [IM.get, ι', hs]⟩
      · cases hg
    | blk m => exact ⟨hg, rfl⟩
  have hlive : ∀ i, (⟨keepB H.bx l, H.bl⟩ : Heap).live i → H.live i ∧ ι'.get i = ι.get i := by
    intro i hi
    rcases live_iff.1 hi with ⟨cs, h'⟩ | ⟨m, es, rfl, h'⟩
    · exact ⟨live_iff.2 (.inl ⟨cs, (hget i cs h').1⟩), (hget i cs h').2⟩
    · exact ⟨live_iff.2 (.inr ⟨m, es, rfl, h'⟩), rfl⟩
  have hi := hst.i
  refine ⟨ι', ⟨?_, ?_, hst.d, hst.s⟩, ?_⟩
  · intro t
    rw [at_keep]
    split
    · rename_i htl
      have hv := hst.e t
      have hck := List.all_eq_true.1 hc1 _ (mem_keep (env := env) l htl)
      cases hcv : Env.at env t with
      | op i off =>
        rw [hcv] at hv hck
        cases i with
        | loc s =>
          simp only [chkV, List.contains_eq_mem, decide_eq_true_eq] at hck
          simp only [VR] at hv ⊢
          obtain ⟨b, h1, h2⟩ := hv
          exact ⟨b, by simpa [IM.get, ι', hck] using h1, h2⟩
        | blk m => simpa [VR, IM.get, ι'] using hv
      | _ =>
        rw [hcv] at hv hck
        exact hmono (VR.noloc _ _ (by simpa [chkV] using hck) hv)
    · simp [VR, BR]
  · refine ⟨hi.len, ?_, ?_, ?_, ?_, hi.lt, ?_⟩
    · intro i cs hg
      obtain ⟨h1, h2⟩ := hget i cs hg
      obtain ⟨b, c, e, h3, h4, h5, h6⟩ := hi.cells i cs h1
      refine ⟨b, c, e, by rw [h2]; exact h3, h4, ?_, h6⟩
      cases i with
      | blk m => exact h5
      | loc s =>
        have hno : CV.locs cs = false := by
          have := List.all_eq_true.1 hc2 _ (mem_look hg)
          simpa using this
        intro j x hx
        obtain ⟨u, g1, g2⟩ := h5 j x hx
        refine ⟨u, g1, hmono (VR.noloc x u ?_ g2)⟩
        have : ∀ (cs : List CV), CV.locs cs = false → ∀ (j : Nat) (x : CV), cs[j]? = some x → x.locv = false := by
          intro cs
          induction cs with
          | nil => intro _ j x hx; simp at hx
          | cons c cs ih =>
            intro hl j x hx
            simp only [CV.locs, Bool.or_eq_false_iff] at hl
            cases j with
            | zero => simp at hx; subst hx; exact hl.1
            | succ j => exact ih hl.2 j x (by simpa using hx)
        exact this cs hno j x hx
    · intro m es hm
      exact hi.maps m es hm
    · intro i j b h1 h2 h3 h4
      rw [(hlive i h1).2] at h3
      rw [(hlive j h2).2] at h4
      exact hi.inj i j b (hlive i h1).1 (hlive j h2).1 h3 h4
    · rintro b hb ⟨i, h1, h2⟩
      rw [(hlive i h1).2] at h2
      exact hi.dis b hb ⟨i, (hlive i h1).1, h2⟩
    · intro s hs
      show (if s ∈ l then ι.lo s else none) = none
      split
      · rename_i hsl
        refine hi.lo s ?_
        rw [look_keepB, if_pos hsl] at hs
        exact hs
      · rfl
  · refine ⟨rfl, rfl, rfl, fun _ _ h => h, fun _ h => h, fun _ h => .inl h, Nat.le_refl _, fun _ _ h => h, fun _ _ _ => rfl, ?_⟩
    rintro b ⟨i, h1, h2⟩
    rw [(hlive i h1).2] at h2
    exact .inl ⟨i, (hlive i h1).1, h2⟩

/-- Where code leads that comes to 'x', 'env'', 'H''. -/
def Post (n : Nat) (w : World) (F : Nat → Prop) (ι : IM) (H : Heap) (x : Ex) (env' : Env) (H' : Heap) (e : Exit) (a' : Act) (w' : World) : Prop :=
  e = exOf x ∧ ∃ F' ι', St n w' F' ι' H' env' a' ∧ Ext w F ι H w' F' ι' H'

theorem EnvR.keep {rs : List Nat} (h : EnvR w F ι env a) : EnvR w F ι (Zc.keep env rs) a := fun t => by
  rw [at_keep]
  split
  · exact h t
  · simp [VR, BR]

theorem join_ok {n : Nat} {lo : Option (List Nat)} {x : Ex} {env' : Env} {H' : Heap} (h : joinE lo env H = some (x, env', H')) (hst : St n w F ι H env a) : x = .norm ∧ ∃ ι', St n w F ι' H' env' a ∧ Ext w F ι H w F ι' H' := by
  cases lo with
  | none =>
    simp only [joinE, Option.some.injEq, Prod.mk.injEq] at h
    obtain ⟨rfl, rfl, rfl⟩ := h
    exact ⟨rfl, ι, hst, Ext.refl _ _ _ _⟩
  | some l =>
    simp only [joinE, Option.map_eq_some_iff, Prod.mk.injEq] at h
    obtain ⟨⟨e1, H1⟩, h1, rfl, rfl, rfl⟩ := h
    exact ⟨rfl, keep_ok h1 hst⟩

theorem loop_ok {n id : Nat} {li lo : List Nat} {c : Code} {f : Env → Heap → Out}
    (hf : ∀ (w : World) (F : Nat → Prop) (ι : IM) (H : Heap) (env : Env) (a : Act) (x : Ex) (env' : Env) (H' : Heap), f env H = some (x, env', H') → St n w F ι H env a → c.wp P (Post n w F ι H x env' H') a w) :
    ∀ (m : Nat) (w : World) (F : Nat → Prop) (ι : IM) (H : Heap) (env : Env) (a : Act) (x : Ex) (env' : Env) (H' : Heap), iter id li lo f m env H = some (x, env', H') → St n w F ι H env a →
      ∀ (b : Frame) (k : List Item) (cs : List Frame), ∃ e a' w', Exit.inBlock id (Post n w F ι H x env' H') e a' w' ∧ Arrives P (lone (b.at a (.code c :: .inLoop c :: k)) cs w) b k cs e a' w'
  | 0, _, _, _, _, _, _, _, _, _, h, _, _, _, _ => by simp [iter] at h
  | m + 1, w, F, ι, H, env, a, x, env', H', h, hst, b, k, cs => by
    simp only [iter, Option.bind_eq_some_iff] at h
    obtain ⟨⟨env1, H1⟩, h1, ⟨x1, env2, H2⟩, h2, h3⟩ := h
    obtain ⟨ι1, hst1, hext1⟩ := keep_ok h1 hst
    obtain ⟨e, a1, w1, ⟨rfl, F2, ι2, hst2, hext2⟩, harr⟩ := hf w F ι1 H1 env1 a x1 env2 H2 h2 hst1 b (.inLoop c :: k) cs
    have hext := hext1.trans hext2
    cases x1 with
    | norm =>
      simp only at h3
      obtain ⟨e, a', w', hq, harr2⟩ := loop_ok hf m w1 F2 ι2 H2 env2 a1 x env' H' h3 hst2 b k cs
      refine ⟨e, a', w', ?_, .of_steps (Steps.trans harr (.one step_inLoop)) harr2⟩
      revert hq
      cases e <;> simp only [Exit.inBlock] <;> (try split) <;> rintro ⟨q1, F', ι', q2, q3⟩ <;> exact ⟨q1, F', ι', q2, hext.trans q3⟩
    | exit j =>
      simp only at h3
      refine ⟨.exit j, a1, w1, ?_, .pass (x := .inLoop c) rfl (fun _ _ => .inl (by simp)) harr⟩
      by_cases hj : j = id
      · rw [if_pos hj] at h3
        simp only [Option.map_eq_some_iff, Prod.mk.injEq] at h3
        obtain ⟨⟨env3, H3⟩, h4, rfl, rfl, rfl⟩ := h3
        obtain ⟨ι3, hst3, hext3⟩ := keep_ok h4 hst2
        simp only [Exit.inBlock, if_pos hj]
        exact ⟨rfl, F2, ι3, hst3, hext.trans hext3⟩
      · rw [if_neg hj] at h3
        simp only [Option.some.injEq, Prod.mk.injEq] at h3
        obtain ⟨rfl, rfl, rfl⟩ := h3
        simp only [Exit.inBlock, if_neg hj]
        exact ⟨rfl, F2, ι2, hst2, hext⟩
    | ret =>
      simp only [Option.some.injEq, Prod.mk.injEq] at h3
      obtain ⟨rfl, rfl, rfl⟩ := h3
      refine ⟨.ret, a1, w1, ?_, .pass (x := .inLoop c) rfl (fun _ _ => .inl (by simp)) harr⟩
      simp only [Exit.inBlock]
      exact ⟨rfl, F2, ι2, hst2, hext⟩

theorem reg_ok {call : Caller} (hcall : CallerOk P call) {quiet : FuncId → Bool} (hq : QuietOk call quiet) (hmix : P.follows .mixedOrders = true) {an : Ann} {n lf : Nat} (id : Nat) (ops : Array Oper) (draw : Bool) :
    ∀ (c : CCode) (w : World) (F : Nat → Prop) (ι : IM) (H : Heap) (env : Env) (a : Act) (x : Ex) (env' : Env) (H' : Heap), compReg P quiet an n ops draw = some c → runC call lf c env H = some (x, env', H') → St n w F ι H env a →
      (Code.region id ops draw).wp P (Post n w F ι H x env' H') a w := by
  intro c w F ι H env a x env' H' hc hr hst
  simp only [compReg] at hc
  have hne : c ≠ bad := by rintro rfl; simp [runC, bad, ev] at hr
  cases hl : compStms P an n ops ops.toList with
  | none => simp only [hl, Option.some.injEq] at hc; exact (hne hc.symm).elim
  | some l =>
  simp only [hl] at hc
  have fin : ∀ l', c = .ops l' → (l'.length = l.length ∧ ∀ (k : Nat) (s : CStm), l[k]? = some s → ∃ s', l'[k]? = some s' ∧ Sharp quiet s s') → ((draw = false ∧ l' = l) ∨ (draw = true ∧ drawOk quiet ops l' = true)) → (Code.region id ops draw).wp P (Post n w F ι H x env' H') a w := by
    rintro l' rfl hsh hd
    simp only [runC, Option.map_eq_some_iff, Prod.mk.injEq] at hr
    obtain ⟨⟨e1, H1⟩, h1, rfl, rfl, rfl⟩ := hr
    exact region_ok hcall hq hmix hl hsh hd h1 hst fun a' w' F' ι' g1 g2 _ => ⟨rfl, F', ι', g1, g2⟩
  split at hc
  · rename_i hd
    simp only [Option.some.injEq] at hc
    refine fin l hc.symm ⟨rfl, fun k s hk => ⟨s, hk, Sharp.refl _ s⟩⟩ ?_
    cases draw with
    | false => exact .inl ⟨rfl, rfl⟩
    | true => exact .inr ⟨rfl, by simpa using hd⟩
  · split at hc
    · rename_i hnd hd
      simp only [Option.some.injEq] at hc
      refine fin _ hc.symm ⟨by simp, fun k s hk => ⟨_, by rw [List.getElem?_map, hk]; rfl, focus_sharp _ _ _ _⟩⟩ ?_
      cases draw with
      | false => simp at hnd
      | true => exact .inr ⟨rfl, hd⟩
    · have fin2 : ∀ b, some (CCode.ops ((l.map (focus an.boxes l)).map (focusC quiet b))) = some c → drawOk quiet ops ((l.map (focus an.boxes l)).map (focusC quiet b)) = true → (Code.region id ops draw).wp P (Post n w F ι H x env' H') a w := by
        intro b hc hd
        simp only [Option.some.injEq] at hc
        refine fin _ hc.symm ⟨by simp, fun k s hk => ⟨_, by rw [List.getElem?_map, List.getElem?_map, hk]; rfl, (focus_sharp _ _ _ _).trans (focusC_sharp _ _ _)⟩⟩ ?_
        cases draw with
        | false => simp_all
        | true => exact .inr ⟨rfl, hd⟩
      split at hc
      · rename_i hd; exact fin2 false hc hd
      · split at hc
        · rename_i hd; exact fin2 true hc hd
        · exact (hne (Option.some.inj hc).symm).elim

theorem BRc_at {w : World} {F : Nat → Prop} {b : Nat} : ∀ (cs : List CV) (o : Nat), (∀ (j : Nat) (x : CV), cs[j]? = some x → ∃ u, w.cell? ⟨b, o + j, none⟩ = some u ∧ BR w F x u) → BRc w F cs b o
  | [], _, _ => by simp [BRc]
  | c :: cs, o, h => by
    simp only [BRc]
    refine ⟨by simpa using h 0 c rfl, BRc_at cs (o + 1) fun j x hx => ?_⟩
    have := h (j + 1) x (by simpa using hx)
    rwa [show o + (j + 1) = o + 1 + j by omega] at this
theorem refs_get : ∀ {cs : List CV}, CV.refs cs = false → ∀ (j : Nat) (x : CV), cs[j]? = some x → x.ref = false
  | [], _, j, x, hx => by simp at hx
  | c :: cs, h, j, x, hx => by
    simp only [CV.refs, Bool.or_eq_false_iff] at h
    cases j with
    | zero => simp only [List.getElem?_cons_zero, Option.some.injEq] at hx; subst hx; exact h.1
    | succ j => exact refs_get h.2 j x (by simpa using hx)
theorem frz_ok {n : Nat} {t : Nat} {env' : Env} {H' : Heap} (h : frzC t env H = some (env', H')) (hst : St n w F ι H env a) : ∃ F', St n w F' ι H' env' a ∧ Ext w F ι H w F' ι H' := by
  unfold frzC at h
  split at h <;> (try cases h)
  rename_i k ht
  split at h <;> (try cases h)
  rename_i cs hcs
  split at h <;> (try cases h)
  rename_i hr
  have hr' : CV.refs cs = false := by simpa using hr
  obtain ⟨b, c, e, h1, h2, h3, h4⟩ := hst.i.cells (.blk k) cs hcs
  have hlk : H.live (.blk k) := live_iff.2 (.inl ⟨cs, hcs⟩)
  have hl : Live ι H b := ⟨.blk k, hlk, h1⟩
  have hbl : b < w.heap.size := hst.i.live_lt hl
  have hdead : ¬ Live ι (H.kill (.blk k)) b := by
    rintro ⟨i, g1, g2⟩
    obtain ⟨g3, g4⟩ := live_kill g1
    exact g3 (hst.i.inj i (.blk k) b g4 hlk g2 h1)
  have hi' : Inv w (fun x => F x ∨ x = b) ι (H.kill (.blk k)) := (hst.i.kill k).freeze (fun _ h => .inl h) (fun x hx => by
    rcases hx with hx | rfl
    · exact (hst.i.kill k).dis x hx
    · exact hdead) (fun x hx => by
    rcases hx with hx | rfl
    · exact hst.i.lt x hx
    · exact hbl)
  have hm : MoV w w F (fun x => F x ∨ x = b) ι ι := ⟨⟨fun _ h => .inl h, fun _ _ => rfl⟩, fun _ _ h => h, fun _ _ h => h⟩
  refine ⟨_, ⟨fun u => ?_, hi', hst.d, hst.s⟩, ⟨rfl, rfl, rfl, fun _ _ h => h, fun _ h => .inl h, fun x hx => ?_, Nat.le_refl _, fun _ _ h => h, fun _ _ _ => rfl, fun x hx => ?_⟩⟩
  · have hu := hst.e u
    by_cases hut : u = t
    · subst hut
      rw [ht] at hu
      simp only [VR] at hu
      obtain ⟨b', g1, g2⟩ := hu
      have hbb : b' = b := by
        have h1' : ι.get (.blk k) = some b := h1
        rw [h1'] at g1
        exact (Option.some.inj g1).symm
      subst hbb
      have hat : Env.at ((u, CV.vp cs) :: env) u = .vp cs := by simp [Env.at, look]
      rw [hat, g2]
      simp only [VR, BR]
      refine ⟨b', 0, rfl, .inr rfl, BRc_at cs 0 fun j x hx => ?_⟩
      obtain ⟨y, y1, y2⟩ := h3 j x hx
      refine ⟨y, ?_, ?_⟩
      · simp only [World.cell?, h2, Nat.zero_add]
        simpa using y1
      · exact BR.mono hm.toMo _ _ (VR.bv x y (refs_get hr' j x hx) y2)
    · have hat : Env.at ((t, CV.vp cs) :: env) u = Env.at env u := by
        have : (t.beq u) = false := by
          cases h : t.beq u with
          | true => exact (hut (Nat.eq_of_beq_eq_true h).symm).elim
          | false => rfl
        simp [Env.at, look, this]
      rw [hat]
      exact VR.mono hm _ _ hu
  · rcases hx with hx | rfl
    · exact .inl hx
    · exact .inr (.inr hl)
  · obtain ⟨i, g1, g2⟩ := hx
    exact .inl ⟨i, (live_kill g1).2, g2⟩

theorem code_ok {call : Caller} (hcall : CallerOk P call) {quiet : FuncId → Bool} (hq : QuietOk call quiet) (hmix : P.follows .mixedOrders = true) {an : Ann} {n lf : Nat} {rs : List Nat} (code : Code) :
    ∀ (c : CCode) (w : World) (F : Nat → Prop) (ι : IM) (H : Heap) (env : Env) (a : Act) (x : Ex) (env' : Env) (H' : Heap), compC P quiet an n rs code = some c → runC call lf c env H = some (x, env', H') → St n w F ι H env a →
      code.wp P (Post n w F ι H x env' H') a w := by
  intro c w F ι H env a x env' H' hc hr hst
  match code with
  | .skip =>
    simp only [compC, Option.some.injEq] at hc
    subst hc
    simp only [runC, Option.some.injEq, Prod.mk.injEq] at hr
    obtain ⟨rfl, rfl, rfl⟩ := hr
    exact wp_skip ⟨rfl, F, ι, hst, Ext.refl _ _ _ _⟩
  | .region id ops draw =>
    simp only [compC, Option.map_eq_some_iff] at hc
    obtain ⟨c0, h0, rfl⟩ := hc
    have base := fun x env' H' hr => reg_ok hcall hq hmix (lf := lf) id ops draw c0 w F ι H env a x env' H' h0 hr hst
    have all : ∀ (l : List Nat) (c : CCode), (∀ x env' H', runC call lf c env H = some (x, env', H') → (Code.region id ops draw).wp P (Post n w F ι H x env' H') a w) →
        ∀ x env' H', runC call lf (frzAll c l) env H = some (x, env', H') → (Code.region id ops draw).wp P (Post n w F ι H x env' H') a w := by
      intro l
      induction l with
      | nil => intro c hc; exact hc
      | cons t l ih =>
        intro c hc
        refine ih (.seq c (.frz t)) ?_
        intro x env' H' hr
        simp only [runC, Option.bind_eq_some_iff] at hr
        obtain ⟨⟨x1, env1, H1⟩, h1, h2⟩ := hr
        refine wp_mono (hc x1 env1 H1 h1) ?_
        rintro e a1 w1 ⟨rfl, F1, ι1, hst1, hext1⟩
        cases x1 with
        | norm =>
          simp only [Option.map_eq_some_iff, Prod.mk.injEq] at h2
          obtain ⟨⟨e2, H2⟩, h3, rfl, rfl, rfl⟩ := h2
          obtain ⟨F2, g1, g2⟩ := frz_ok h3 hst1
          exact ⟨rfl, F2, ι1, g1, hext1.trans g2⟩
        | exit k =>
          simp only [Option.some.injEq, Prod.mk.injEq] at h2
          obtain ⟨rfl, rfl, rfl⟩ := h2
          exact ⟨rfl, F1, ι1, hst1, hext1⟩
        | ret =>
          simp only [Option.some.injEq, Prod.mk.injEq] at h2
          obtain ⟨rfl, rfl, rfl⟩ := h2
          exact ⟨rfl, F1, ι1, hst1, hext1⟩
    exact all _ c0 base x env' H' hr
  | .seq p q =>
    simp only [compC, Option.bind_eq_some_iff, Option.map_eq_some_iff] at hc
    obtain ⟨cp, hp, cq, hqc, rfl⟩ := hc
    simp only [runC, Option.bind_eq_some_iff] at hr
    obtain ⟨⟨x1, env1, H1⟩, h1, h2⟩ := hr
    have hp' := code_ok hcall hq hmix p cp w F ι H env a x1 env1 H1 hp h1 hst
    refine wp_seq (wp_mono hp' ?_)
    rintro e a1 w1 ⟨rfl, F1, ι1, hst1, hext1⟩
    cases x1 with
    | norm =>
      refine wp_mono (code_ok hcall hq hmix q cq w1 F1 ι1 H1 env1 a1 x env' H' hqc h2 hst1) ?_
      rintro e a2 w2 ⟨rfl, F2, ι2, hst2, hext2⟩
      exact ⟨rfl, F2, ι2, hst2, hext1.trans hext2⟩
    | exit k =>
      simp only [Option.some.injEq, Prod.mk.injEq] at h2
      obtain ⟨rfl, rfl, rfl⟩ := h2
      exact ⟨rfl, F1, ι1, hst1, hext1⟩
    | ret =>
      simp only [Option.some.injEq, Prod.mk.injEq] at h2
      obtain ⟨rfl, rfl, rfl⟩ := h2
      exact ⟨rfl, F1, ι1, hst1, hext1⟩
  | .cond o p q =>
    simp only [compC, Option.bind_eq_some_iff, Option.map_eq_some_iff] at hc
    obtain ⟨co, ho, cp, hp, cq, hqc, rfl⟩ := hc
    simp only [runC] at hr
    split at hr <;> (try cases hr)
    rename_i t ht
    have hv := opd_ok hst.e ho
    rw [ht] at hv
    cases t with
    | true =>
      simp only [if_true] at hr
      exact wp_cond_true hv.bool (code_ok hcall hq hmix p cp w F ι H env a x env' H' hp hr hst)
    | false =>
      simp only [Bool.false_eq_true, if_false] at hr
      exact wp_cond_false hv.bool (code_ok hcall hq hmix q cq w F ι H env a x env' H' hqc hr hst)
  | .exit id =>
    simp only [compC, Option.some.injEq] at hc
    subst hc
    simp only [runC, Option.some.injEq, Prod.mk.injEq] at hr
    obtain ⟨rfl, rfl, rfl⟩ := hr
    exact wp_exit ⟨rfl, F, ι, hst, Ext.refl _ _ _ _⟩
  | .ret =>
    simp only [compC, Option.some.injEq] at hc
    subst hc
    simp only [runC, Option.some.injEq, Prod.mk.injEq] at hr
    obtain ⟨rfl, rfl, rfl⟩ := hr
    exact wp_ret ⟨rfl, F, ι, ⟨hst.e.keep, hst.i, hst.d, hst.s⟩, Ext.refl _ _ _ _⟩
  | .block id body =>
    by_cases hb : ∃ c', body = .loop c'
    · obtain ⟨c', hbc⟩ := hb
      have hlt : SizeOf.sizeOf c' < SizeOf.sizeOf body := by rw [hbc]; simp
      rw [hbc] at hc ⊢
      simp only [compC, Option.bind_eq_some_iff, Option.map_eq_some_iff] at hc
      obtain ⟨cc, hcc, l, hl, rfl⟩ := hc
      simp only [runC] at hr
      refine wp_block ?_
      intro b k cs
      obtain ⟨e, a', w', hq', harr⟩ := loop_ok (P := P) (n := n) (id := id) (c := c') (f := fun e h => runC call lf cc e h)
        (fun w F ι H env a x env' H' h hst => code_ok hcall hq hmix c' cc w F ι H env a x env' H' hcc h hst) lf w F ι H env a x env' H' hr hst b k cs
      exact ⟨e, a', w', hq', .of_steps (.one step_loop) harr⟩
    · have hc' : ((compC P quiet an n rs body).bind fun y => some (CCode.block id (look an.blocks id) y)) = some c := by
        rw [← hc]
        cases body <;> first | rfl | exact (hb ⟨_, rfl⟩).elim
      simp only [Option.bind_eq_some_iff, Option.some.injEq] at hc'
      obtain ⟨cb, hcb, rfl⟩ := hc'
      simp only [runC, Option.bind_eq_some_iff] at hr
      obtain ⟨⟨x1, env1, H1⟩, h1, h2⟩ := hr
      have hb' := code_ok hcall hq hmix body cb w F ι H env a x1 env1 H1 hcb h1 hst
      refine wp_block (wp_mono hb' ?_)
      rintro e a1 w1 ⟨rfl, F1, ι1, hst1, hext1⟩
      cases x1 with
      | norm =>
        simp only at h2
        obtain ⟨rfl, ι2, hst2, hext2⟩ := join_ok h2 hst1
        exact ⟨rfl, F1, ι2, hst2, hext1.trans hext2⟩
      | exit k =>
        simp only at h2
        simp only [exOf, Exit.inBlock]
        split
        · rename_i hk
          rw [if_pos hk] at h2
          obtain ⟨rfl, ι2, hst2, hext2⟩ := join_ok h2 hst1
          exact ⟨rfl, F1, ι2, hst2, hext1.trans hext2⟩
        · rename_i hk
          rw [if_neg hk] at h2
          simp only [Option.some.injEq, Prod.mk.injEq] at h2
          obtain ⟨rfl, rfl, rfl⟩ := h2
          exact ⟨rfl, F1, ι1, hst1, hext1⟩
      | ret =>
        simp only [Option.some.injEq, Prod.mk.injEq] at h2
        obtain ⟨rfl, rfl, rfl⟩ := h2
        exact ⟨rfl, F1, ι1, hst1, hext1⟩
  | .loop _ | .rangeFunc _ _ _ _ | .scope _ | .label _ | .goto _ | .refuse _ =>
    simp only [compC, Option.some.injEq] at hc
    subst hc
    simp [runC, bad, ev] at hr
termination_by SizeOf.sizeOf code
decreasing_by all_goals simp_wf; omega

end
end Go.Zc
end
section
namespace Go.Zc

section
variable {P : Program} {w : World} {F : Nat → Prop} {ι : IM} {H : Heap} {env : Env} {a : Act}

/-- A function whose contract is proved by itself. -/
def PrimOk (P : Program) (k : FuncId) (s : List CV → List Blk → Option (CV × List Blk)) : Prop :=
  ∃ fn, P.funcs[k]? = some fn ∧ fn.body.isSome = true ∧ (fn.name == "runtime.NumGoroutine") = false ∧
    ∀ args bl v bl', s args bl = some (v, bl') → ∀ (w : World) (F : Nat → Prop) (ι : IM) (as : List Value), (∀ s, ι.lo s = none) → Inv w F ι ⟨[], bl⟩ → VRl w F ι args as →
      Calls P k as.toArray w fun e w' => ∃ v' F' ι' bx, e = .returned v' ∧ VR w' F' ι' v v' ∧ Inv w' F' ι' ⟨bx, bl'⟩ ∧ Ext w F ι ⟨[], bl⟩ w' F' ι' ⟨bx, bl'⟩

def quietOf (C : Ctx) (k : FuncId) : Bool :=
  (C.prim k).isNone && match C.info k with
    | some I => match I.mode with | .fz _ => true | _ => false
    | none => false

structure CtxOk (P : Program) (C : Ctx) : Prop where
  mix : P.follows .mixedOrders = true
  info : ∀ k I, C.prim k = none → C.info k = some I → ∃ fn an, P.funcs[k]? = some fn ∧ compF P (quietOf C) an I.mode fn = some I
  prim : ∀ k s, C.prim k = some s → PrimOk P k s

theorem at_enter : ∀ (as : List CV) (i t : Nat), Env.at (enterC i as) t = if i ≤ t then (as[t - i]?).getD .und else .und
  | [], i, t => by simp [enterC, Env.at, look]
  | v :: r, i, t => by
    simp only [enterC, look_cons, at_enter r (i + 1) t]
    by_cases h : t = i
    · subst h; simp
    · rw [if_neg h]
      by_cases h2 : i ≤ t
      · rw [if_pos h2, if_pos (by omega), show t - i = (t - (i + 1)) + 1 by omega]; simp
      · rw [if_neg h2, if_neg (by omega)]

def resSem (tmps : Array Value) : ResultVar → Sem Value
  | .tmp t => pure (tmps.getD t undef)
  | .cell ad t => do loadVar t (← asAddr (tmps.getD ad undef))

theorem results_eq (fn : Func) (tmps : Array Value) : results fn tmps = (do let vs ← fn.results.mapM (resSem tmps); pure (if h : vs.size = 1 then vs[0] else .tuple vs)) := by
  unfold results
  congr

theorem resOne_ok (hi : Inv w F ι H) (he : EnvR w F ι env a) {r : ResultVar} {rs : Res} (hc : compRes P [r] = some [rs]) {v : CV} (h : resOne env H rs = some v) :
    ∃ u, (resSem a.tmps r).run P w = .ok u w ∧ VR w F ι v u := by
  cases r with
  | tmp t =>
    simp only [compRes, Option.map_some, Option.some.injEq, List.cons.injEq, and_true] at hc
    subst hc
    simp only [resOne, Option.some.injEq] at h
    subst h
    exact ⟨_, rfl, he t⟩
  | cell ad t =>
    simp only [compRes, Option.map_some, Option.bind_eq_some_iff, Option.some.injEq, List.cons.injEq, and_true] at hc
    obtain ⟨s, hs, rfl⟩ := hc
    simp only [resOne, heapOp, Option.map_eq_some_iff] at h
    obtain ⟨⟨x, H1⟩, ⟨y, hy, hyx⟩, rfl⟩ := h
    cases hyx
    obtain ⟨ad', u, h1, h2, h3⟩ := loadC_ok (P := P) hi hs (he ad) hy
    refine ⟨u, ?_, h3⟩
    simp only [resSem, Sem.run_bind, h1, asAddr, Sem.run_pure, Result.andThen_ok]
    exact h2

theorem resAll_ok (hi : Inv w F ι H) (he : EnvR w F ι env a) : ∀ (rv : List ResultVar) (rs : List Res) (vs : List CV), compRes P rv = some rs → resAll env H rs = some vs →
    ∃ us : List Value, (rv.mapM (m := Sem) (resSem a.tmps)).run P w = .ok us w ∧ VRl w F ι vs us
  | [], rs, vs, hc, h => by
    simp only [compRes, Option.some.injEq] at hc
    subst hc
    simp only [resAll, Option.some.injEq] at h
    subst h
    exact ⟨[], by simp, by simp [VRl]⟩
  | r :: rv, rs, vs, hc, h => by
    have hsplit : ∃ r1 rs1, compRes P [r] = some [r1] ∧ compRes P rv = some rs1 ∧ rs = r1 :: rs1 := by
      cases r with
      | tmp t =>
        simp only [compRes, Option.map_eq_some_iff] at hc
        obtain ⟨l, h1, rfl⟩ := hc
        exact ⟨_, l, by simp [compRes], h1, rfl⟩
      | cell ad t =>
        simp only [compRes, Option.bind_eq_some_iff, Option.map_eq_some_iff] at hc
        obtain ⟨s, hs, l, h1, rfl⟩ := hc
        exact ⟨_, l, by simp [compRes, hs], h1, rfl⟩
    obtain ⟨r1, rs1, h1, h2, rfl⟩ := hsplit
    simp only [resAll, Option.bind_eq_some_iff, Option.map_eq_some_iff] at h
    obtain ⟨v, h3, l, h4, rfl⟩ := h
    obtain ⟨u, h5, h6⟩ := resOne_ok (P := P) hi he h1 h3
    obtain ⟨us, h7, h8⟩ := resAll_ok hi he rv rs1 l h2 h4
    refine ⟨u :: us, ?_, by simp only [VRl]; exact ⟨u, us, rfl, h6, h8⟩⟩
    rw [List.mapM_cons]
    simp only [Sem.run_bind]
    rw [h5]
    simp only [Result.andThen_ok, h7, Sem.run_pure]

/-- A body, run by the model. -/
theorem body_ok {call : Caller} (hcall : CallerOk P call) {quiet : FuncId → Bool} (hq : QuietOk call quiet) (hmix : P.follows .mixedOrders = true) {k : FuncId} {fn : Func} (hfn : P.funcs[k]? = some fn) {an : Ann} {mode : Mode} {I : FInfo} (hI : compF P quiet an mode fn = some I)
    {lf : Nat} {as : List CV} {bl : List Blk} {v : CV} {Hf : Heap} (h : bodyC (runC call lf) I as bl = some (v, Hf)) (hi : Inv w F ι ⟨[], bl⟩) {avs : List Value} (hargs : VRl w F ι as avs) :
    Calls P k avs.toArray w fun e w' => ∃ v' F' ι', e = .returned v' ∧ VR w' F' ι' v v' ∧ Inv w' F' ι' Hf ∧ Ext w F ι ⟨[], bl⟩ w' F' ι' Hf := by
  unfold compF at hI
  split at hI
  · cases hI
  · rename_i code hbody
    split at hI
    · cases hI
    · simp only [Option.bind_eq_some_iff, Option.map_eq_some_iff] at hI
      obtain ⟨cc, hcc, rs, hrs, rfl⟩ := hI
      unfold bodyC at h
      split at h <;> (try cases h)
      simp only [Option.bind_eq_some_iff] at h
      obtain ⟨⟨x, env', H1⟩, hrun, hres⟩ := h
      have hlen := VRl.length hargs
      let a0 : Act := { tmps := avs.toArray ++ Array.replicate (fn.ntmps - avs.toArray.size) undef, defers := [] }
      have hst : St fn.ntmps w F ι ⟨[], bl⟩ (enterC 0 as) a0 := by
        refine ⟨fun t => ?_, hi, rfl, by simp [a0]; omega⟩
        rw [at_enter, if_pos (Nat.zero_le _), Nat.sub_zero]
        cases hat : as[t]? with
        | none => simp [VR, BR]
        | some c =>
          obtain ⟨u, hu, huv⟩ := hargs.get t c hat
          have hlt := (List.getElem?_eq_some_iff.1 hu).1
          have : a0.tmps.getD t undef = u := by
            simp [a0, Array.getD_eq_getD_getElem?, Array.getElem?_append, hlt, (List.getElem?_eq_some_iff.1 hu).2]
          rw [this]
          exact huv
      have hwp := code_ok hcall hq hmix code cc w F ι ⟨[], bl⟩ (enterC 0 as) a0 x env' H1 hcc hrun hst
      refine calls_of_wp hfn hbody (wp_mono hwp ?_)
      rintro e a' w' ⟨rfl, F', ι', hst', hext⟩
      have fin : (resAll env' H1 rs).map (fun vs => (resV vs, H1)) = some (v, Hf) → a'.defers = [] ∧ ∃ u, (results fn a'.tmps).run P w' = .ok u w' ∧ ∃ v' F'' ι'', Ending.returned u = .returned v' ∧ VR w' F'' ι'' v v' ∧ Inv w' F'' ι'' Hf ∧ Ext w F ι ⟨[], bl⟩ w' F'' ι'' Hf := by
        intro hr
        simp only [Option.map_eq_some_iff, Prod.mk.injEq] at hr
        obtain ⟨vs, hvs, rfl, rfl⟩ := hr
        obtain ⟨us, h1, h2⟩ := resAll_ok (P := P) hst'.i hst'.e fn.results.toList rs vs hrs hvs
        refine ⟨hst'.d, if h : us.length = 1 then us[0] else .tuple us.toArray, ?_, _, F', ι', rfl, ?_, hst'.i, hext⟩
        · rw [results_eq, Array.mapM_eq_mapM_toList]
          simp only [Sem.run_bind, Sem.run_map, h1]
          simp
        · have hl := VRl.length h2
          cases vs with
          | nil =>
            simp only [VRl] at h2
            subst h2
            simp only [List.length_nil, resV, VR]
            exact ⟨_, rfl, by simp [VRl]⟩
          | cons c vs =>
            cases vs with
            | nil =>
              simp only [VRl] at h2
              obtain ⟨u, us', rfl, h3, rfl⟩ := h2
              simpa [resV] using h3
            | cons d vs =>
              have hne : ¬ us.length = 1 := by simp at hl; omega
              rw [dif_neg hne]
              simp only [resV, VR]
              exact ⟨_, rfl, by simpa using h2⟩
      cases x with
      | norm => exact fin hres
      | ret => exact fin hres
      | exit j => simp at hres

/-! ### What a caller keeps -/

theorem Inv.glob (hi : Inv w F ι H) : Inv w F ι.glob ⟨[], H.bl⟩ where
  len := hi.len
  cells := fun i cs h => by
    cases i with
    | loc s => simp [Heap.get, look] at h
    | blk n => exact hi.cells (.blk n) cs h
  maps := hi.maps
  inj := fun i j b h1 h2 h3 h4 => by
    cases i with
    | loc s => simp [Heap.live, look] at h1
    | blk n =>
      cases j with
      | loc s => simp [Heap.live, look] at h2
      | blk m => exact hi.inj (.blk n) (.blk m) b h1 h2 h3 h4
  dis := fun b hb ⟨i, h1, h2⟩ => by
    cases i with
    | loc s => simp [Heap.live, look] at h1
    | blk n => exact hi.dis b hb ⟨.blk n, h1, h2⟩
  lt := hi.lt
  lo := fun _ _ => rfl

/-- Behind a call that works on the caller's own memory. -/
theorem restore (hi : Inv w F ι H) {w' : World} {F' : Nat → Prop} {ι' : IM} {bx : List (Nat × List CV)} {bl : List Blk} (hi' : Inv w' F' ι' ⟨bx, bl⟩) (hx : Ext w F ι.glob ⟨[], H.bl⟩ w' F' ι' ⟨bx, bl⟩) :
    Inv w' F' ⟨ι.lo, ι'.bl⟩ ⟨H.bx, bl⟩ ∧ Ext w F ι H w' F' ⟨ι.lo, ι'.bl⟩ ⟨H.bx, bl⟩ ∧ MoV w w' F F' ι ⟨ι.lo, ι'.bl⟩ := by
  have hgl : ∀ b, Live ι.glob ⟨[], H.bl⟩ b → Live ι H b := by
    rintro b ⟨i, h1, h2⟩
    cases i with
    | loc s => simp [Heap.live, look] at h1
    | blk n => exact ⟨.blk n, h1, h2⟩
  have hF : ∀ b, F b → w'.heap[b]? = w.heap[b]? := fun b hb => hx.frame b (hi.lt b hb) fun h => hi.dis b hb (hgl b h)
  have hm : MoV w w' F F' ι ⟨ι.lo, ι'.bl⟩ := by
    refine ⟨⟨hx.fmono, hF⟩, fun i b hb => ?_, hx.csz⟩
    cases i with
    | loc s => exact hb
    | blk n => exact hx.pre n b hb
  have hbox : ∀ s b, H.live (.loc s) → ι.get (.loc s) = some b → b < w.heap.size ∧ ¬ Live ι.glob ⟨[], H.bl⟩ b := by
    intro s b h1 h2
    refine ⟨hi.live_lt ⟨.loc s, h1, h2⟩, ?_⟩
    rintro ⟨i, h3, h4⟩
    cases i with
    | loc t => simp [Heap.live, look] at h3
    | blk n =>
      have := hi.inj (.loc s) (.blk n) b h1 h3 h2 h4
      cases this
  have hblk : ∀ n b, (⟨H.bx, bl⟩ : Heap).live (.blk n) → ι'.bl[n]? = some b → Live ι.glob ⟨[], H.bl⟩ b ∨ w.heap.size ≤ b := fun n b h1 h2 => hx.live b ⟨.blk n, h1, h2⟩
  refine ⟨⟨hi'.len, ?_, ?_, ?_, ?_, hi'.lt, hi.lo⟩, ⟨hx.os, hx.tape, hx.output, hx.pre, hx.fmono, fun b hb => (hx.fnew b hb).imp id (Or.imp id (hgl b)), hx.size, hx.csz, fun b hb hn => hx.frame b hb fun h => hn (hgl b h), ?_⟩, hm⟩
  · intro i cs h
    cases i with
    | loc s =>
      obtain ⟨b, c, e, h1, h2, h3, h4⟩ := hi.cells (.loc s) cs h
      obtain ⟨g1, g2⟩ := hbox s b ⟨cs, h⟩ h1
      exact ⟨b, c, e, h1, (hx.frame b g1 g2).trans h2, h3.mono hm, h4⟩
    | blk n => exact hi'.cells (.blk n) cs h
  · exact hi'.maps
  · intro i j b h1 h2 h3 h4
    cases i with
    | loc s =>
      cases j with
      | loc t => exact hi.inj (.loc s) (.loc t) b h1 h2 h3 h4
      | blk n =>
        obtain ⟨g1, g2⟩ := hbox s b h1 h3
        rcases hblk n b h2 h4 with h | h
        · exact (g2 h).elim
        · omega
    | blk n =>
      cases j with
      | loc t =>
        obtain ⟨g1, g2⟩ := hbox t b h2 h4
        rcases hblk n b h1 h3 with h | h
        · exact (g2 h).elim
        · omega
      | blk m => exact hi'.inj (.blk n) (.blk m) b h1 h2 h3 h4
  · rintro b hb ⟨i, h1, h2⟩
    cases i with
    | loc s =>
      obtain ⟨g1, g2⟩ := hbox s b h1 h2
      rcases hx.fnew b hb with h | h | h
      · exact hi.dis b h ⟨.loc s, h1, h2⟩
      · omega
      · exact g2 h
    | blk n => exact hi'.dis b hb ⟨.blk n, h1, h2⟩
  · rintro b ⟨i, h1, h2⟩
    cases i with
    | loc s => exact .inl ⟨.loc s, h1, h2⟩
    | blk n => exact (hblk n b h1 h2).imp (hgl b) id

mutual
theorem snapV_noref {H' : Heap} {st kn : Bool} {f g : CV → Option CV} : ∀ (c : CV), c.ref = false → snapV H st kn f c = snapV H' st kn g c
  | .op _ _, h => by simp [CV.ref] at h
  | .os _ _ _ _, h => by simp [CV.ref] at h
  | .om _, h => by simp [CV.ref] at h
  | .fn _ a c, h => by
    simp only [CV.ref, Bool.or_eq_false_iff] at h
    simp only [snapV, snapVs_noref (H' := H') (g := g) a h.1, snapVs_noref (H' := H') (g := g) c h.2]
  | .ifc _ x, h => by
    simp only [CV.ref] at h
    simp only [snapV, snapV_noref (H' := H') (g := g) x h]
  | .agg cs, h => by
    simp only [CV.ref] at h
    simp only [snapV, snapVs_noref (H' := H') (g := g) cs h]
  | .tup cs, h => by
    simp only [CV.ref] at h
    simp only [snapV, snapVs_noref (H' := H') (g := g) cs h]
  | .und, _ | .bool _, _ | .int _ _, _ | .float _ _, _ | .cplx _ _ _, _ | .str _, _ | .nilp, _ | .vp _, _ | .nils, _ | .vs _ _, _ | .nilm, _ | .nilf, _ | .nili, _ => by simp only [snapV]
theorem snapVs_noref {H' : Heap} {st kn : Bool} {f g : CV → Option CV} : ∀ (cs : List CV), CV.refs cs = false → snapVs H st kn f cs = snapVs H' st kn g cs
  | [], _ => rfl
  | c :: cs, h => by
    simp only [CV.refs, Bool.or_eq_false_iff] at h
    simp only [snapVs, snapV_noref (H' := H') (g := g) c h.1, snapVs_noref (H' := H') (g := g) cs h.2]
end

theorem snap_noref {H' : Heap} {st kn : Bool} {c : CV} (h : c.ref = false) : snap H st kn c = snap H' st kn c := snapV_noref c h

theorem mapC_noref {f g : CV → Option CV} (hfg : ∀ c, c.ref = false → f c = g c) (cs : List CV) : CV.refs cs = false → mapC f cs = mapC g cs := by
  induction cs with
  | nil => intro _; rfl
  | cons c cs ih =>
    intro h
    simp only [CV.refs, Bool.or_eq_false_iff] at h
    simp only [mapC, hfg c h.1, ih h.2]

theorem snapL_noref {H' : Heap} {st kn : Bool} (cs : List CV) (h : CV.refs cs = false) : snapL H st kn cs = snapL H' st kn cs :=
  mapC_noref (f := snap H st kn) (g := snap H' st kn) (fun _ hc => snap_noref hc) cs h

theorem Inv.empty (w : World) (F : Nat → Prop) (h : ∀ b, F b → b < w.heap.size) : Inv w F IM.nil ⟨[], []⟩ where
  len := rfl
  cells := fun i cs hg => by cases i <;> simp [Heap.get, look] at hg
  maps := fun n es hg => by simp at hg
  inj := fun i j b h1 => by cases i <;> simp [Heap.live, look] at h1
  dis := fun b _ ⟨i, h1, _⟩ => by cases i <;> simp [Heap.live, look] at h1
  lt := h
  lo := fun _ _ => rfl

theorem no_live {b : Nat} : ¬ Live IM.nil ⟨[], []⟩ b := fun ⟨i, h1, _⟩ => by cases i <;> simp [Heap.live, look] at h1

/-- The arguments of a call by value. -/
theorem args_ok (hi : Inv w F ι H) {as as' : List CV} (hs : snapL H false false as = some as') {avs : List Value} (hv : VRl w F ι as avs) :
    BRl w (fun b => F b ∨ (CV.refs as = true ∧ Live ι H b)) as' avs := by
  cases hr : CV.refs as with
  | true => exact hi.snapL (G := fun b => F b ∨ (true = true ∧ Live ι H b)) (fun b hb => .inr ⟨rfl, hb⟩) (.inr fun b hb => .inl hb) hs hv
  | false =>
    rw [snapL_noref (H' := ⟨[], []⟩) as hr] at hs
    have hv' : VRl w F IM.nil as avs := BRl.vr _ _ (VRl.bv _ _ hr hv)
    have := (Inv.empty w F hi.lt).snapL (G := F) (fun b hb => (no_live hb).elim) (.inr fun b hb => hb) hs hv'
    exact BRl.mono ⟨fun b hb => .inl hb, fun _ _ => rfl⟩ _ _ this

/-- Behind a call by value: nothing that was there has turned. -/
theorem behind (hi : Inv w F ι H) {w' : World} {F1 : Nat → Prop} {ι1 : IM} {Hf : Heap} {Fc G : Nat → Prop} (hx : Ext w Fc IM.nil ⟨[], []⟩ w' F1 ι1 Hf) (hG : ∀ b, F b → G b) (hG2 : ∀ b, G b → F b ∨ w.heap.size ≤ b) (hG3 : ∀ b, G b → b < w'.heap.size) :
    Inv w' G ι H ∧ Ext w F ι H w' G ι H ∧ MoV w w' F G ι ι := by
  have hsame : ∀ b, b < w.heap.size → w'.heap[b]? = w.heap[b]? := fun b hb => hx.frame b hb no_live
  have hm : MoV w w' F G ι ι := ⟨⟨hG, fun b hb => hsame b (hi.lt b hb)⟩, fun _ _ h => h, hx.csz⟩
  refine ⟨hi.build hm hi.len (fun i cs h => .inl ⟨h, fun b hb => hsame b (hi.live_lt ⟨i, live_iff.2 (.inl ⟨cs, h⟩), hb⟩)⟩) (fun n es h => .inl ⟨h, fun b hb => hsame b (hi.live_lt ⟨.blk n, live_iff.2 (.inr ⟨n, es, rfl, h⟩), hb⟩)⟩) hi.inj ?_ hG3 hi.lo,
    ⟨hx.os, hx.tape, hx.output, fun _ _ h => h, hG, fun b hb => (hG2 b hb).imp id .inl, hx.size, hx.csz, fun b hb _ => hsame b hb, fun _ h => .inl h⟩, hm⟩
  intro b hb hl
  rcases hG2 b hb with h | h
  · exact hi.dis b h hl
  · have := hi.live_lt hl; omega

mutual
theorem snapV_agr {H H' : Heap} (h : Agr (fun _ => True) H H') {st kn : Bool} {f g : CV → Option CV} (hfg : ∀ c, f c = g c) : ∀ (c : CV), snapV H st kn f c = snapV H' st kn g c
  | .op i off => by
    have hm : ∀ l, mapC f l = mapC g l := fun l => by rw [show f = g from funext hfg]
    simp only [snapV, alike_get h, hm]
  | .os sz i off n => by
    have hm : ∀ l, mapC f l = mapC g l := fun l => by rw [show f = g from funext hfg]
    simp only [snapV, alike_get h, hm]
  | .fn _ a c => by simp only [snapV, snapVs_agr h hfg a, snapVs_agr h hfg c]
  | .ifc _ x => by simp only [snapV, snapV_agr h hfg x]
  | .agg cs => by simp only [snapV, snapVs_agr h hfg cs]
  | .tup cs => by simp only [snapV, snapVs_agr h hfg cs]
  | .om _ | .nils | .vp _ | .vs _ _ | .und | .bool _ | .int _ _ | .float _ _ | .cplx _ _ _ | .str _ | .nilp | .nilm | .nilf | .nili => by simp only [snapV]
theorem snapVs_agr {H H' : Heap} (h : Agr (fun _ => True) H H') {st kn : Bool} {f g : CV → Option CV} (hfg : ∀ c, f c = g c) : ∀ (cs : List CV), snapVs H st kn f cs = snapVs H' st kn g cs
  | [] => by simp only [snapVs]
  | c :: cs => by simp only [snapVs, snapV_agr h hfg c, snapVs_agr h hfg cs]
end

theorem snapN_agr {H H' : Heap} (h : Agr (fun _ => True) H H') {st kn : Bool} : ∀ (n : Nat) (c : CV), snapN H st kn n c = snapN H' st kn n c
  | 0, _ => rfl
  | n + 1, c => snapV_agr h (snapN_agr h n) c

theorem snapL_agr {H H' : Heap} (h : Agr (fun _ => True) H H') {st kn : Bool} (l : List CV) : snapL H st kn l = snapL H' st kn l := by
  unfold snapL
  rw [show snap H st kn = snap H' st kn from funext fun c => snapN_agr h deep c]

theorem callC_agr {C : Ctx} {r : CCode → Env → Heap → Out} {f : CV} {args : List CV} {H H' : Heap} {v : CV} {H1 : Heap} (ha : Agr (fun _ => True) H H') (h : callC C r f args H = some (v, H1)) : ∃ H1', callC C r f args H' = some (v, H1') ∧ Agr (fun _ => True) H1 H1' := by
  unfold callC at h ⊢
  split at h <;> (try cases h)
  rename_i k first cap
  dsimp only at h ⊢
  rw [← ha.bl]
  simp only [← snapL_agr ha]
  cases hp : C.prim k with
  | some s =>
    simp only [hp] at h ⊢
    split at h <;> (try cases h)
    rename_i hl
    rw [if_neg hl]
    obtain ⟨x, h1, h2⟩ := Option.bind_eq_some_iff.1 h
    split at h2 <;> cases h2
    rename_i hv
    exact ⟨⟨H'.bx, x.2⟩, by rw [h1, Option.bind_some, if_neg hv], rfl, ha.bx⟩
  | none =>
    simp only [hp] at h ⊢
    cases hI : C.info k with
    | none => simp [hI] at h
    | some I =>
      simp only [hI] at h ⊢
      cases hm : I.mode with
      | ref =>
        simp only [hm] at h ⊢
        split at h <;> (try cases h)
        rename_i hl
        rw [if_neg hl]
        obtain ⟨x, h1, h2⟩ := Option.bind_eq_some_iff.1 h
        split at h2 <;> cases h2
        rename_i hv
        exact ⟨⟨H'.bx, x.2.bl⟩, by rw [h1, Option.bind_some, if_neg hv], rfl, ha.bx⟩
      | fz kn =>
        simp only [hm] at h ⊢
        obtain ⟨as', h0, h⟩ := Option.bind_eq_some_iff.1 h
        obtain ⟨x, h1, h2⟩ := Option.bind_eq_some_iff.1 h
        obtain ⟨u, h3, h4⟩ := Option.map_eq_some_iff.1 h2
        cases h4
        exact ⟨H', by rw [h0, Option.bind_some, h1, Option.bind_some, h3]; rfl, ha⟩
      | own =>
        simp only [hm] at h ⊢
        obtain ⟨as', h0, h⟩ := Option.bind_eq_some_iff.1 h
        obtain ⟨x, h1, h2⟩ := Option.bind_eq_some_iff.1 h
        obtain ⟨u, h3, h4⟩ := Option.map_eq_some_iff.1 h2
        rw [h0, Option.bind_some, h1, Option.bind_some, h3]
        cases u with
        | none =>
          simp only [Prod.mk.injEq] at h4
          obtain ⟨rfl, rfl⟩ := h4
          exact ⟨H', rfl, ha⟩
        | some y =>
          obtain ⟨sz, n, cs⟩ := y
          simp only [Prod.mk.injEq] at h4
          obtain ⟨rfl, rfl⟩ := h4
          exact ⟨H'.push (.cells cs), by simp, (ha.push _).1⟩

theorem mapC_up {f g : CV → Option CV} (h : ∀ c v, f c = some v → g c = some v) : ∀ (l r : List CV), mapC f l = some r → mapC g l = some r
  | [], r, hr => by simpa only [mapC] using hr
  | c :: cs, r, hr => by
    simp only [mapC, Option.bind_eq_some_iff, Option.map_eq_some_iff] at hr ⊢
    obtain ⟨u, h1, us, h2, rfl⟩ := hr
    exact ⟨u, h _ _ h1, us, mapC_up h cs us h2, rfl⟩

theorem get_lone {H : Heap} {i : Id} {cs : List CV} (h : Heap.get ⟨[], H.bl⟩ i = some cs) : H.get i = some cs := by
  cases i with
  | loc s => simp [Heap.get, look] at h
  | blk n => exact h

mutual
theorem snapV_lone {H : Heap} {st kn : Bool} {f g : CV → Option CV} (hfg : ∀ c v, f c = some v → g c = some v) : ∀ (c v : CV), snapV ⟨[], H.bl⟩ st kn f c = some v → snapV H st kn g c = some v
  | .op i off, v, h => by
    simp only [snapV, Option.bind_eq_some_iff] at h ⊢
    obtain ⟨cs, h1, h2⟩ := h
    refine ⟨cs, get_lone h1, ?_⟩
    split at h2 <;> (try cases h2)
    rename_i hc
    obtain ⟨u, h3, h4⟩ := Option.map_eq_some_iff.1 h2
    rw [if_pos hc, mapC_up hfg _ _ h3]
    exact congrArg some h4
  | .os sz i off n, v, h => by
    simp only [snapV] at h ⊢
    split at h
    · rename_i h0; rw [if_pos h0]; exact h
    · rename_i h0
      rw [if_neg h0]
      obtain ⟨cs, h1, h2⟩ := Option.bind_eq_some_iff.1 h
      rw [get_lone h1, Option.bind_some]
      split at h2 <;> (try cases h2)
      rename_i hc
      obtain ⟨u, h3, h4⟩ := Option.map_eq_some_iff.1 h2
      rw [if_pos hc, mapC_up hfg _ _ h3]
      exact congrArg some h4
  | .fn _ a c, v, h => by
    simp only [snapV, Option.bind_eq_some_iff, Option.map_eq_some_iff] at h ⊢
    obtain ⟨x, h1, y, h2, h3⟩ := h
    exact ⟨x, snapVs_lone hfg _ _ h1, y, snapVs_lone hfg _ _ h2, h3⟩
  | .ifc _ x, v, h => by
    simp only [snapV, Option.map_eq_some_iff] at h ⊢
    obtain ⟨y, h1, h2⟩ := h
    exact ⟨y, snapV_lone hfg _ _ h1, h2⟩
  | .agg cs, v, h => by
    simp only [snapV, Option.map_eq_some_iff] at h ⊢
    obtain ⟨y, h1, h2⟩ := h
    exact ⟨y, snapVs_lone hfg _ _ h1, h2⟩
  | .tup cs, v, h => by
    simp only [snapV, Option.map_eq_some_iff] at h ⊢
    obtain ⟨y, h1, h2⟩ := h
    exact ⟨y, snapVs_lone hfg _ _ h1, h2⟩
  | .om _, v, h | .nils, v, h | .vp _, v, h | .vs _ _, v, h | .und, v, h | .bool _, v, h | .int _ _, v, h | .float _ _, v, h | .cplx _ _ _, v, h | .str _, v, h | .nilp, v, h | .nilm, v, h | .nilf, v, h | .nili, v, h => by simpa only [snapV] using h
theorem snapVs_lone {H : Heap} {st kn : Bool} {f g : CV → Option CV} (hfg : ∀ c v, f c = some v → g c = some v) : ∀ (cs vs : List CV), snapVs ⟨[], H.bl⟩ st kn f cs = some vs → snapVs H st kn g cs = some vs
  | [], v, h => by simpa only [snapVs] using h
  | c :: cs, v, h => by
    simp only [snapVs, Option.bind_eq_some_iff, Option.map_eq_some_iff] at h ⊢
    obtain ⟨x, h1, y, h2, h3⟩ := h
    exact ⟨x, snapV_lone hfg _ _ h1, y, snapVs_lone hfg _ _ h2, h3⟩
end

theorem snapN_lone {H : Heap} {st kn : Bool} : ∀ (n : Nat) (c v : CV), snapN ⟨[], H.bl⟩ st kn n c = some v → snapN H st kn n c = some v
  | 0, _, _, h => by simp [snapN] at h
  | n + 1, c, v, h => snapV_lone (snapN_lone n) c v h

theorem snapL_lone {H : Heap} {st kn : Bool} {l r : List CV} (h : snapL ⟨[], H.bl⟩ st kn l = some r) : snapL H st kn l = some r := mapC_up (fun c v hv => snapN_lone deep c v hv) l r h

theorem callC_lone {C : Ctx} {r : CCode → Env → Heap → Out} {f : CV} {args : List CV} {H : Heap} {v : CV} {H1 : Heap} (h : callC C r f args ⟨[], H.bl⟩ = some (v, H1)) : callC C r f args H = some (v, ⟨H.bx, H1.bl⟩) := by
  unfold callC at h ⊢
  split at h <;> (try cases h)
  rename_i k first cap
  dsimp only at h ⊢
  cases hp : C.prim k with
  | some s =>
    simp only [hp] at h ⊢
    split at h <;> (try cases h)
    rename_i hl
    rw [if_neg hl]
    obtain ⟨x, h1, h2⟩ := Option.bind_eq_some_iff.1 h
    rw [h1, Option.bind_some]
    split at h2 <;> (try cases h2)
    rename_i hx
    rw [if_neg hx]
  | none =>
    simp only [hp] at h ⊢
    cases hI : C.info k with
    | none => simp [hI] at h
    | some I =>
      simp only [hI] at h ⊢
      cases hm : I.mode with
      | ref =>
        simp only [hm] at h ⊢
        split at h <;> (try cases h)
        rename_i hl
        rw [if_neg hl]
        obtain ⟨x, h1, h2⟩ := Option.bind_eq_some_iff.1 h
        rw [h1, Option.bind_some]
        split at h2 <;> (try cases h2)
        rename_i hx
        rw [if_neg hx]
      | fz kn =>
        simp only [hm] at h ⊢
        obtain ⟨as', h1, h2⟩ := Option.bind_eq_some_iff.1 h
        rw [snapL_lone h1, Option.bind_some]
        obtain ⟨x, h3, h4⟩ := Option.bind_eq_some_iff.1 h2
        rw [h3, Option.bind_some]
        obtain ⟨y, h5, h6⟩ := Option.map_eq_some_iff.1 h4
        rw [h5, Option.map_some]
        cases h6
        rfl
      | own =>
        simp only [hm] at h ⊢
        obtain ⟨as', h1, h2⟩ := Option.bind_eq_some_iff.1 h
        rw [snapL_lone h1, Option.bind_some]
        obtain ⟨x, h3, h4⟩ := Option.bind_eq_some_iff.1 h2
        rw [h3, Option.bind_some]
        obtain ⟨y, h5, h6⟩ := Option.map_eq_some_iff.1 h4
        rw [h5, Option.map_some]
        cases y with
        | none => simp only [Prod.mk.injEq] at h6; obtain ⟨rfl, rfl⟩ := h6; rfl
        | some y =>
          obtain ⟨sz, n, cs⟩ := y
          simp only [Prod.mk.injEq] at h6
          obtain ⟨rfl, rfl⟩ := h6
          rfl

theorem caller_ok {C : Ctx} (hC : CtxOk P C) : ∀ n, CallerOk P (callC C (run C n)) ∧ QuietOk (callC C (run C n)) (quietOf C) := by
  intro n
  have hquiet : ∀ n, QuietOk (callC C (run C n)) (quietOf C) := by
    intro n
    refine ⟨?_, ?_, fun f args H v H1 h => callC_lone h, fun f args H H' v H1 ha h => callC_agr ha h⟩
    · intro k first cap args H v H1 hq hrf h
      simp only [quietOf, Bool.and_eq_true, Option.isNone_iff_eq_none] at hq
      obtain ⟨h1, h2⟩ := hq
      simp only [callC, h1] at h ⊢
      cases hI : C.info k with
      | none => simp [hI] at h
      | some I =>
        simp only [hI] at h h2 ⊢
        cases hm : I.mode with
        | ref => simp [hm] at h2
        | own => simp [hm] at h2
        | fz kn =>
          have hrf' : CV.refs (first ++ (args ++ cap)) = false := by
            have app : ∀ (a b : List CV), CV.refs (a ++ b) = (CV.refs a || CV.refs b) := by
              intro a b
              induction a with
              | nil => simp [CV.refs]
              | cons c a ih => simp [CV.refs, ih, Bool.or_assoc]
            simp only [CV.refs, CV.ref, Bool.or_eq_false_iff] at hrf
            simp [app, hrf]
          simp only [hm, Option.bind_eq_some_iff, Option.map_eq_some_iff, Prod.mk.injEq] at h ⊢
          obtain ⟨as', g1, x, g2, y, g3, rfl, rfl⟩ := h
          exact ⟨as', by rw [← g1]; exact snapL_noref _ hrf', x, g2, y, g3, rfl, trivial⟩
    intro k first cap args H v H' hq h
    simp only [quietOf, Bool.and_eq_true, Option.isNone_iff_eq_none] at hq
    obtain ⟨h1, h2⟩ := hq
    simp only [callC, h1] at h
    cases hI : C.info k with
    | none => simp [hI] at h
    | some I =>
      simp only [hI] at h h2
      cases hm : I.mode with
      | ref => simp [hm] at h2
      | own => simp [hm] at h2
      | fz kn =>
        simp only [hm, Option.bind_eq_some_iff, Option.map_eq_some_iff, Prod.mk.injEq] at h
        obtain ⟨_, _, _, _, _, _, _, rfl⟩ := h
        rfl
  refine ⟨?_, hquiet n⟩
  induction n with
  | zero =>
    intro f args H v H' h
    have hrun : ∀ I as bl, bodyC (run C 0) I as bl = none := by intro I as bl; unfold bodyC run; split <;> rfl
    unfold callC at h
    split at h <;> (try cases h)
    rename_i k first cap
    dsimp only at h
    cases hp : C.prim k with
    | none =>
      simp only [hp] at h
      cases hI : C.info k with
      | none => simp [hI] at h
      | some I =>
        simp only [hI] at h
        cases hm : I.mode with
        | ref => simp only [hm, hrun] at h; split at h <;> simp at h
        | own =>
          simp only [hm, hrun, Option.bind_eq_some_iff] at h
          obtain ⟨_, _, _, h, _⟩ := h
          cases h
        | fz kn =>
          simp only [hm, hrun, Option.bind_eq_some_iff] at h
          obtain ⟨_, _, _, h, _⟩ := h
          cases h
    | some s =>
      simp only [hp] at h
      split at h <;> (try cases h)
      rename_i hl
      simp only [Option.bind_eq_some_iff] at h
      obtain ⟨⟨v1, bl1⟩, h1, h2⟩ := h
      split at h2 <;> (try cases h2)
      rename_i hv
      obtain ⟨fn, g1, g2, g3, g4⟩ := hC.prim k s hp
      refine ⟨k, first, cap, fn, rfl, g1, g2, g3, ?_⟩
      intro w F ι as hi hvs
      refine (g4 _ _ _ _ h1 w F ι.glob as (fun _ => rfl) hi.glob (VRl.noloc _ _ (by simpa using hl) hvs)).mono ?_
      rintro e w' ⟨v', F', ι', bx, rfl, k1, k2, k3⟩
      obtain ⟨r1, r2, r3⟩ := restore hi k2 k3
      refine ⟨v', F', _, rfl, ?_, r1, r2, r3⟩
      exact VR.mono ⟨⟨fun _ h => h, fun _ _ => rfl⟩, fun i b hb => by cases i <;> simp_all [IM.glob, IM.get], fun _ _ h => h⟩ _ _ (VR.noloc _ _ (by simpa using hv) k1)
  | succ n ih =>
    intro f args H v H' h
    unfold callC at h
    split at h <;> (try cases h)
    rename_i k first cap
    dsimp only at h
    cases hp : C.prim k with
    | some s =>
      simp only [hp] at h
      split at h <;> (try cases h)
      rename_i hl
      simp only [Option.bind_eq_some_iff] at h
      obtain ⟨⟨v1, bl1⟩, h1, h2⟩ := h
      split at h2 <;> (try cases h2)
      rename_i hv
      obtain ⟨fn, g1, g2, g3, g4⟩ := hC.prim k s hp
      refine ⟨k, first, cap, fn, rfl, g1, g2, g3, ?_⟩
      intro w F ι as hi hvs
      refine (g4 _ _ _ _ h1 w F ι.glob as (fun _ => rfl) hi.glob (VRl.noloc _ _ (by simpa using hl) hvs)).mono ?_
      rintro e w' ⟨v', F', ι', bx, rfl, k1, k2, k3⟩
      obtain ⟨r1, r2, r3⟩ := restore hi k2 k3
      refine ⟨v', F', _, rfl, ?_, r1, r2, r3⟩
      exact VR.mono ⟨⟨fun _ h => h, fun _ _ => rfl⟩, fun i b hb => by cases i <;> simp_all [IM.glob, IM.get], fun _ _ h => h⟩ _ _ (VR.noloc _ _ (by simpa using hv) k1)
    | none =>
      simp only [hp] at h
      cases hI : C.info k with
      | none => simp [hI] at h
      | some I =>
        simp only [hI] at h
        obtain ⟨fn, an, hfn, hcomp⟩ := hC.info k I hp hI
        have hbody : fn.body.isSome = true ∧ (fn.name == "runtime.NumGoroutine") = false := by
          unfold compF at hcomp
          split at hcomp
          · cases hcomp
          · rename_i c hc
            split at hcomp
            · cases hcomp
            · rename_i hnm
              exact ⟨by simp [hc], by simpa using hnm⟩
        have body := fun (as : List CV) (bl : List Blk) (v : CV) (Hf : Heap) (h : bodyC (run C (n + 1)) I as bl = some (v, Hf)) (w : World) (F : Nat → Prop) (ι : IM) (hi : Inv w F ι ⟨[], bl⟩) (avs : List Value) (hargs : VRl w F ι as avs) =>
          body_ok (P := P) ih (hquiet n) hC.mix hfn hcomp (lf := n) (as := as) (bl := bl) (v := v) (Hf := Hf) h hi hargs
        refine ⟨k, first, cap, fn, rfl, hfn, hbody.1, hbody.2, ?_⟩
        intro w F ι as hi hvs
        cases hm : I.mode with
        | ref =>
          simp only [hm] at h
          split at h <;> (try cases h)
          rename_i hl
          simp only [Option.bind_eq_some_iff] at h
          obtain ⟨⟨v1, H1⟩, h1, h2⟩ := h
          split at h2 <;> (try cases h2)
          rename_i hv
          refine (body _ _ _ _ h1 w F ι.glob hi.glob as (VRl.noloc _ _ (by simpa using hl) hvs)).mono ?_
          rintro e w' ⟨v', F', ι', rfl, k1, k2, k3⟩
          obtain ⟨r1, r2, r3⟩ := restore hi (bx := H1.bx) (bl := H1.bl) k2 k3
          refine ⟨v', F', _, rfl, ?_, r1, r2, r3⟩
          exact VR.mono ⟨⟨fun _ h => h, fun _ _ => rfl⟩, fun i b hb => by cases i <;> simp_all [IM.glob, IM.get], fun _ _ h => h⟩ _ _ (VR.noloc _ _ (by simpa using hv) k1)
        | fz kn =>
          simp only [hm, Option.bind_eq_some_iff, Option.map_eq_some_iff, Prod.mk.injEq] at h
          obtain ⟨as', hs, ⟨v1, Hf⟩, hb, v2, hsn, rfl, rfl⟩ := h
          have hargs := args_ok hi hs hvs
          have hlt : ∀ b, (F b ∨ (CV.refs (first ++ (args ++ cap)) = true ∧ Live ι H b)) → b < w.heap.size := fun b hb => hb.elim (hi.lt b) fun h => hi.live_lt h.2
          refine (body _ _ _ _ hb w _ IM.nil (Inv.empty w _ hlt) as (BRl.vr _ _ hargs)).mono ?_
          rintro e w' ⟨v', F1, ι1, rfl, k1, k2, k3⟩
          have hbr : BR w' (fun b => F b ∨ (w.heap.size ≤ b ∧ b < w'.heap.size)) v2 v' := by
            refine k2.snap (fun b hb => ?_) ?_ hsn k1
            · rcases k3.live b hb with h | h
              · exact (no_live h).elim
              · exact .inr ⟨h, k2.live_lt hb⟩
            · cases hr : CV.refs (first ++ (args ++ cap)) with
              | true => exact .inl rfl
              | false =>
                right
                intro b hb
                rcases k3.fnew b hb with h | h | h
                · rcases h with h | ⟨h, _⟩
                  · exact .inl h
                  · rw [hr] at h; cases h
                · exact .inr ⟨h, k2.lt b hb⟩
                · exact (no_live h).elim
          obtain ⟨r1, r2, r3⟩ := behind hi k3 (G := fun b => F b ∨ (w.heap.size ≤ b ∧ b < w'.heap.size)) (fun b hb => .inl hb) (fun b hb => hb.imp id fun h => h.1) (fun b hb => hb.elim (fun h => Nat.lt_of_lt_of_le (hi.lt b h) k3.size) fun h => h.2)
          exact ⟨v', _, ι, rfl, BR.vr _ _ hbr, r1, r2, r3⟩
        | own =>
          simp only [hm, Option.bind_eq_some_iff, Option.map_eq_some_iff] at h
          obtain ⟨as', hs, ⟨v1, Hf⟩, hb, r, hown, hres⟩ := h
          have hargs := args_ok hi hs hvs
          have hlt : ∀ b, (F b ∨ (CV.refs (first ++ (args ++ cap)) = true ∧ Live ι H b)) → b < w.heap.size := fun b hb => hb.elim (hi.lt b) fun h => hi.live_lt h.2
          refine (body _ _ _ _ hb w _ IM.nil (Inv.empty w _ hlt) as (BRl.vr _ _ hargs)).mono ?_
          rintro e w' ⟨v', F1, ι1, rfl, k1, k2, k3⟩
          dsimp only at hown
          unfold ownOf at hown
          split at hown <;> (try cases hown)
          · simp only [Prod.mk.injEq] at hres
            obtain ⟨rfl, rfl⟩ := hres
            obtain ⟨r1, r2, r3⟩ := behind hi k3 (G := F) (fun b hb => hb) (fun b hb => .inl hb) (fun b hb => Nat.lt_of_lt_of_le (hi.lt b hb) k3.size)
            exact ⟨v', _, ι, rfl, by simpa [VR, BR] using k1, r1, r2, r3⟩
          · rename_i sz m len
            simp only [Option.bind_eq_some_iff] at hown
            obtain ⟨cs, hcs, hown⟩ := hown
            split at hown <;> (try cases hown)
            simp only [Option.map_eq_some_iff] at hown
            obtain ⟨cs', hmap, rfl⟩ := hown
            simp only [Prod.mk.injEq] at hres
            obtain ⟨rfl, rfl⟩ := hres
            obtain ⟨b0, c, ec, q1, q2, q3, q4⟩ := k2.cells (.blk m) cs hcs
            have hlive0 : Live ι1 Hf b0 := ⟨.blk m, live_iff.2 (.inl ⟨cs, hcs⟩), q1⟩
            have hge : w.heap.size ≤ b0 := by
              rcases k3.live b0 hlive0 with h | h
              · exact (no_live h).elim
              · exact h
            have hlt0 := k2.live_lt hlive0
            let G : Nat → Prop := fun b => F b ∨ (w.heap.size ≤ b ∧ b < w'.heap.size ∧ b ≠ b0)
            obtain ⟨r1, r2, r3⟩ := behind hi k3 (G := G) (fun b hb => .inl hb) (fun b hb => hb.imp id fun h => h.1) (fun b hb => hb.elim (fun h => Nat.lt_of_lt_of_le (hi.lt b h) k3.size) fun h => h.2.1)
            have hnl : ¬ Live ι H b0 := fun h => by have := hi.live_lt h; omega
            have hng : ¬ G b0 := by
              rintro (h | h)
              · have := hi.lt b0 h; omega
              · exact h.2.2 rfl
            have hw : WTo w' w' b0 := ⟨rfl, rfl, rfl, Nat.le_refl _, hlt0, fun _ _ _ => rfl, fun _ h => h⟩
            have hst : ∀ (j : Nat) (x : CV), cs'[j]? = some x → ∃ u, c[j]? = some u ∧ VR w' G ι.glob x u := by
              intro j x hx
              obtain ⟨y, hy, hsy⟩ := mapC_get _ _ hmap j x hx
              obtain ⟨u, hu, huv⟩ := q3 j y hy
              refine ⟨u, hu, BR.vr _ _ ?_⟩
              refine (k2.kill m).snap (fun b hb => ?_) ?_ hsy huv.glob
              · obtain ⟨i, h1, h2⟩ := hb
                obtain ⟨h3, h4⟩ := live_kill h1
                have hb' : Live ι1 Hf b := ⟨i, h4, h2⟩
                rcases k3.live b hb' with h | h
                · exact (no_live h).elim
                · refine .inr ⟨h, k2.live_lt hb', ?_⟩
                  rintro rfl
                  exact h3 (k2.inj i (.blk m) b h4 (live_iff.2 (.inl ⟨cs, hcs⟩)) h2 q1)
              · cases hr : CV.refs (first ++ (args ++ cap)) with
                | true => exact .inl rfl
                | false =>
                  right
                  intro b hb
                  rcases k3.fnew b hb with h | h | h
                  · rcases h with h | ⟨h, _⟩
                    · exact .inl h
                    · rw [hr] at h; cases h
                  · refine .inr ⟨h, k2.lt b hb, ?_⟩
                    rintro rfl
                    exact k2.dis b hb hlive0
                  · exact (no_live h).elim
            obtain ⟨t1, t2⟩ := r1.add hw hnl hng q2 hst q4
            refine ⟨v', G, ι.push b0, rfl, ?_, t1, ?_, ⟨⟨fun b hb => .inl hb, r3.h⟩, ι.push_le b0, r3.c⟩⟩
            · simp only [VR] at k1 ⊢
              obtain ⟨base, cap, g1, g2, g3⟩ := k1
              refine ⟨base, cap, g1, g2, ?_⟩
              rcases g3 with g3 | ⟨b, N, g3, g4, g5, g6⟩
              · exact .inl g3
              · rw [q1] at g3; cases g3
                exact .inr ⟨b0, N, by rw [IM.get_push, hi.len, if_pos rfl], g4, g5, g6⟩
            · refine ⟨r2.os, r2.tape, r2.output, fun n x h => ?_, fun b hb => .inl hb, r2.fnew, r2.size, r2.csz, r2.frame, ?_⟩
              · simp only [IM.push]
                rw [List.getElem?_append_left (List.getElem?_eq_some_iff.1 h).1]; exact h
              · rintro b ⟨i, h1, h2⟩
                rw [IM.get_push, hi.len] at h2
                rcases live_push h1 with rfl | h1
                · rw [if_pos rfl] at h2; cases h2; exact .inr hge
                · split at h2
                  · cases h2; exact .inr hge
                  · exact .inl ⟨i, h1, h2⟩

end
end Go.Zc
end
section
namespace Go.Zc

/-- Whatever the one hands back, so does the other. -/
def LeO {α : Type} (a b : Option α) : Prop := ∀ r, a = some r → b = some r

theorem LeO.bind {α β : Type} {a a' : Option α} {f f' : α → Option β} (h : LeO a a') (h' : ∀ x, LeO (f x) (f' x)) : LeO (a.bind f) (a'.bind f') := by
  intro r hr
  obtain ⟨x, hx, hr⟩ := Option.bind_eq_some_iff.1 hr
  rw [h x hx]
  exact h' x r hr
theorem LeO.map {α β : Type} {a a' : Option α} {f : α → β} (h : LeO a a') : LeO (a.map f) (a'.map f) := by
  intro r hr
  obtain ⟨x, hx, hr⟩ := Option.map_eq_some_iff.1 hr
  rw [h x hx]
  exact congrArg some hr
theorem LeO.rfl {α : Type} {a : Option α} : LeO a a := fun _ h => h

theorem LeO.eq {α : Type} {a b : Option α} (h : LeO a b) (h' : LeO b a) : a = b := by
  cases ha : a with
  | some x => exact (h x ha).symm
  | none =>
    cases hb : b with
    | none => rfl
    | some x => rw [h' x hb] at ha; cases ha

abbrev LeCall (c c' : Caller) : Prop := ∀ f args H, LeO (c f args H) (c' f args H)
abbrev LeRun (c c' : CCode → Env → Heap → Out) : Prop := ∀ x env H, LeO (c x env H) (c' x env H)

theorem runOps_mono {c c' : Caller} (h : LeCall c c') : ∀ l env H, LeO (runOps c l env H) (runOps c' l env H)
  | [], _, _ => LeO.rfl
  | s :: r, env, H => by
    have ho : ∀ vs, LeO (runOp c s.op vs H) (runOp c' s.op vs H) := by
      intro vs
      cases s.op with
      | call =>
        cases vs with
        | nil => exact LeO.rfl
        | cons f as => exact h _ _ _
      | callb =>
        cases vs with
        | nil => exact LeO.rfl
        | cons f as => exact (h _ _ _).map
      | callp =>
        cases vs with
        | nil => exact LeO.rfl
        | cons f as => exact (h _ _ _).bind fun _ => LeO.rfl
      | callv =>
        cases vs with
        | nil => exact LeO.rfl
        | cons f as =>
          simp only [runOp]
          split
          · exact LeO.rfl
          · exact (h _ _ _).map
      | _ => exact LeO.rfl
    unfold runOps
    split
    · exact (ho _).bind fun x => runOps_mono h r _ _
    · split
      · split
        · exact (ho _).bind fun x => runOps_mono h r _ _
        · exact runOps_mono h r _ _
      · exact LeO.rfl

theorem iter_mono {id : Nat} {li lo : List Nat} {f f' : Env → Heap → Out} (h : ∀ e H, LeO (f e H) (f' e H)) : ∀ n m, n ≤ m → ∀ env H, LeO (iter id li lo f n env H) (iter id li lo f' m env H)
  | 0, _, _, _, _ => fun _ h => by simp [iter] at h
  | n + 1, 0, hnm, _, _ => by omega
  | n + 1, m + 1, hnm, env, H => by
    unfold iter
    refine LeO.rfl.bind fun x => (h _ _).bind fun y => ?_
    split
    · exact iter_mono h n m (by omega) _ _
    · exact LeO.rfl
    · exact LeO.rfl

theorem runC_mono {c c' : Caller} (h : LeCall c c') {n m : Nat} (hnm : n ≤ m) : ∀ code env H, LeO (runC c n code env H) (runC c' m code env H)
  | .skip, _, _ => LeO.rfl
  | .ops l, env, H => (runOps_mono h l env H).map
  | .seq a b, env, H => by
    simp only [runC]
    refine (runC_mono h hnm a env H).bind fun x => ?_
    split
    · exact runC_mono h hnm b _ _
    · exact LeO.rfl
  | .cond c a b, env, H => by
    simp only [runC]
    split
    · split
      · exact runC_mono h hnm a _ _
      · exact runC_mono h hnm b _ _
    · exact LeO.rfl
  | .block id lo c, env, H => by
    simp only [runC]
    exact (runC_mono h hnm c env H).bind fun x => LeO.rfl
  | .bloop id li lo c, env, H => by
    simp only [runC]
    exact iter_mono (fun e H => runC_mono h hnm c e H) n m hnm env H
  | .exit _, _, _ => LeO.rfl
  | .ret _, _, _ => LeO.rfl
  | .frz _, _, _ => LeO.rfl

theorem bodyC_mono {r r' : CCode → Env → Heap → Out} (h : LeRun r r') (I : FInfo) (as : List CV) (bl : List Blk) : LeO (bodyC r I as bl) (bodyC r' I as bl) := by
  unfold bodyC
  split
  · exact (h _ _ _).bind fun _ => LeO.rfl
  · exact LeO.rfl

theorem callC_mono (C : Ctx) {r r' : CCode → Env → Heap → Out} (h : LeRun r r') : LeCall (callC C r) (callC C r') := by
  intro f args H
  unfold callC
  split
  · dsimp only
    split
    · exact LeO.rfl
    · split
      · exact LeO.rfl
      · split
        · split
          · exact LeO.rfl
          · exact (bodyC_mono h _ _ _).bind fun _ => LeO.rfl
        · exact LeO.rfl.bind fun _ => (bodyC_mono h _ _ _).bind fun _ => LeO.rfl
        · exact LeO.rfl.bind fun _ => (bodyC_mono h _ _ _).bind fun _ => LeO.rfl
  · exact LeO.rfl

theorem run_mono (C : Ctx) : ∀ n m, n ≤ m → LeRun (run C n) (run C m)
  | 0, _, _ => fun _ _ _ _ h => by simp [run] at h
  | n + 1, 0, h => by omega
  | n + 1, m + 1, h => fun c env H => runC_mono (callC_mono C (run_mono C n m (by omega))) (by omega) c env H

open Classical in
/-- What a code comes to. -/
noncomputable def eval (C : Ctx) (c : CCode) (env : Env) (H : Heap) : Out :=
  if h : ∃ r n, run C n c env H = some r then some (Classical.choose h) else none

theorem eval_iff {C : Ctx} {c : CCode} {env : Env} {H : Heap} {r : Ex × Env × Heap} : eval C c env H = some r ↔ ∃ n, run C n c env H = some r := by
  unfold eval
  constructor
  · intro h
    split at h
    · rename_i hx
      cases h
      exact Classical.choose_spec hx
    · cases h
  · rintro ⟨n, hn⟩
    have hx : ∃ r n, run C n c env H = some r := ⟨r, n, hn⟩
    rw [dif_pos hx]
    obtain ⟨m, hm⟩ := Classical.choose_spec hx
    have h1 := run_mono C n (max n m) (by omega) _ _ _ _ hn
    have h2 := run_mono C m (max n m) (by omega) _ _ _ _ hm
    rw [h2] at h1
    exact h1

theorem run_eval (C : Ctx) (n : Nat) : LeRun (run C n) (eval C) := fun _ _ _ _ h => eval_iff.2 ⟨n, h⟩

/-- What a call comes to. -/
noncomputable def call (C : Ctx) : Caller := callC C (eval C)

/-- A bind reached by climbing. -/
theorem climb_body {C : Ctx} {I : FInfo} {as : List CV} {bl : List Blk} {x : CV × Heap} (h : bodyC (eval C) I as bl = some x) : ∃ n, bodyC (run C n) I as bl = some x := by
  unfold bodyC at h ⊢
  split at h
  · rename_i hl
    simp only [if_pos hl]
    obtain ⟨y, hy, hr⟩ := Option.bind_eq_some_iff.1 h
    obtain ⟨n, hn⟩ := eval_iff.1 hy
    exact ⟨n, by rw [hn]; exact hr⟩
  · cases h

theorem call_iff {C : Ctx} {f : CV} {args : List CV} {H : Heap} {r : CV × Heap} : call C f args H = some r ↔ ∃ n, callC C (run C n) f args H = some r := by
  constructor
  · intro h
    unfold call callC at h
    split at h
    · rename_i k first cap
      dsimp only at h
      unfold callC
      dsimp only
      split at h
      · exact ⟨0, h⟩
      · cases hI : C.info k with
        | none => simp [hI] at h
        | some I =>
          simp only [hI] at h ⊢
          cases hm : I.mode with
          | ref =>
            simp only [hm] at h ⊢
            split at h
            · cases h
            · rename_i hl
              simp only [if_neg hl]
              obtain ⟨x, hx, hr⟩ := Option.bind_eq_some_iff.1 h
              obtain ⟨n, hn⟩ := climb_body hx
              exact ⟨n, by rw [hn]; exact hr⟩
          | fz kn =>
            simp only [hm] at h ⊢
            obtain ⟨as', h1, h2⟩ := Option.bind_eq_some_iff.1 h
            obtain ⟨x, hx, hr⟩ := Option.bind_eq_some_iff.1 h2
            obtain ⟨n, hn⟩ := climb_body hx
            exact ⟨n, by rw [h1, Option.bind_some, hn]; exact hr⟩
          | own =>
            simp only [hm] at h ⊢
            obtain ⟨as', h1, h2⟩ := Option.bind_eq_some_iff.1 h
            obtain ⟨x, hx, hr⟩ := Option.bind_eq_some_iff.1 h2
            obtain ⟨n, hn⟩ := climb_body hx
            exact ⟨n, by rw [h1, Option.bind_some, hn]; exact hr⟩
    · cases h
  · rintro ⟨n, h⟩
    exact callC_mono C (run_eval C n) _ _ _ _ h

/-- A bound that does for both. -/
theorem climbOps {C : Ctx} : ∀ {l : List CStm} {env : Env} {H : Heap} {r : Env × Heap}, runOps (call C) l env H = some r → ∃ n, runOps (callC C (run C n)) l env H = some r
  | [], env, H, r, h => ⟨0, by simpa [runOps] using h⟩
  | s :: l, env, H, r, h => by
    have up : ∀ n m, n ≤ m → LeCall (callC C (run C n)) (callC C (run C m)) := fun n m h => callC_mono C (run_mono C n m h)
    have hop : ∀ {vs x}, runOp (call C) s.op vs H = some x → ∃ n, runOp (callC C (run C n)) s.op vs H = some x := by
      intro vs x hx
      cases hop : s.op with
      | call =>
        rw [hop] at hx
        cases vs with
        | nil => cases hx
        | cons f as => exact call_iff.1 hx
      | callb =>
        rw [hop] at hx
        cases vs with
        | nil => cases hx
        | cons f as =>
          simp only [runOp, Option.map_eq_some_iff] at hx ⊢
          obtain ⟨y, hy, rfl⟩ := hx
          obtain ⟨n, hn⟩ := call_iff.1 hy
          exact ⟨n, y, hn, rfl⟩
      | callp =>
        rw [hop] at hx
        cases vs with
        | nil => cases hx
        | cons f as =>
          simp only [runOp, Option.bind_eq_some_iff] at hx ⊢
          obtain ⟨y, hy, h2⟩ := hx
          obtain ⟨n, hn⟩ := call_iff.1 hy
          exact ⟨n, y, hn, h2⟩
      | callv =>
        rw [hop] at hx
        cases vs with
        | nil => cases hx
        | cons f as =>
          simp only [runOp] at hx ⊢
          split at hx <;> (try cases hx)
          rename_i hr
          simp only [if_neg hr, Option.map_eq_some_iff] at hx ⊢
          obtain ⟨y, hy, rfl⟩ := hx
          obtain ⟨n, hn⟩ := call_iff.1 hy
          exact ⟨n, y, hn, rfl⟩
      | _ => rw [hop] at hx; exact ⟨0, hx⟩
    have two : (runOp (call C) s.op (evs env s.args) H).bind (fun x => runOps (call C) l (putD env s.dst x.1) x.2) = some r → ∃ n, (runOp (callC C (run C n)) s.op (evs env s.args) H).bind (fun x => runOps (callC C (run C n)) l (putD env s.dst x.1) x.2) = some r := by
      intro h
      obtain ⟨x, h1, h2⟩ := Option.bind_eq_some_iff.1 h
      obtain ⟨n, hn⟩ := hop h1
      obtain ⟨m, hm⟩ := climbOps h2
      refine ⟨max n m, ?_⟩
      have g1 : runOp (callC C (run C (max n m))) s.op (evs env s.args) H = some x := by
        revert hn
        cases s.op with
        | call =>
          cases evs env s.args with
          | nil => intro hn; cases hn
          | cons f as => intro hn; exact up n _ (by omega) _ _ _ _ hn
        | callb =>
          cases evs env s.args with
          | nil => intro hn; cases hn
          | cons f as => intro hn; exact (LeO.map (up n _ (by omega) _ _ _)) _ hn
        | callp =>
          cases evs env s.args with
          | nil => intro hn; cases hn
          | cons f as => intro hn; exact (LeO.bind (up n _ (by omega) _ _ _) fun _ => LeO.rfl) _ hn
        | callv =>
          cases evs env s.args with
          | nil => intro hn; cases hn
          | cons f as =>
            simp only [runOp]
            split
            · intro hn; cases hn
            · intro hn; exact (LeO.map (up n _ (by omega) _ _ _)) _ hn
        | _ => intro hn; exact hn
      rw [g1]
      exact runOps_mono (up m _ (by omega)) _ _ _ _ hm
    unfold runOps at h ⊢
    split at h
    · exact two h
    · split at h
      · split at h
        · rename_i hb
          simp only [if_pos hb]
          exact two h
        · rename_i hb
          simp only [if_neg hb]
          exact climbOps h
      · cases h

theorem climb {C : Ctx} {code : CCode} {env : Env} {H : Heap} {r : Ex × Env × Heap} {n : Nat} (h : runC (callC C (run C n)) n code env H = some r) : eval C code env H = some r := eval_iff.2 ⟨n + 1, h⟩

theorem descend {C : Ctx} {code : CCode} {env : Env} {H : Heap} {r : Ex × Env × Heap} (h : eval C code env H = some r) : ∃ n, ∀ m, n ≤ m → runC (callC C (run C m)) m code env H = some r := by
  obtain ⟨n, hn⟩ := eval_iff.1 h
  cases n with
  | zero => simp [run] at hn
  | succ n => exact ⟨n, fun m hm => runC_mono (callC_mono C (run_mono C n m hm)) hm _ _ _ _ hn⟩

section
variable (C : Ctx) (env : Env) (H : Heap)

theorem eval_skip : eval C .skip env H = some (.norm, env, H) := climb (n := 0) rfl
theorem eval_exit (k : Nat) : eval C (.exit k) env H = some (.exit k, env, H) := climb (n := 0) rfl
theorem eval_ret (rs : List Nat) : eval C (.ret rs) env H = some (.ret, Zc.keep env rs, H) := climb (n := 0) rfl

theorem eval_frz (t : Nat) : eval C (.frz t) env H = (frzC t env H).map fun x => (.norm, x.1, x.2) := by
  cases h : frzC t env H with
  | none =>
    refine LeO.eq (fun r hr => ?_) (fun r hr => ?_)
    · obtain ⟨n, hn⟩ := descend hr
      have := hn n (by omega)
      simp [runC, h] at this
    · simp at hr
  | some x => exact climb (n := 0) (by simp [runC, h])
theorem eval_ops (l : List CStm) : eval C (.ops l) env H = (runOps (call C) l env H).map fun x => (.norm, x.1, x.2) := by
  refine LeO.eq ?_ ?_
  · intro r h
    obtain ⟨n, hn⟩ := descend h
    have := hn n (by omega)
    simp only [runC] at this
    obtain ⟨x, hx, rfl⟩ := Option.map_eq_some_iff.1 this
    have := runOps_mono (callC_mono C (run_eval C n)) _ _ _ _ hx
    unfold call
    rw [this]
    rfl
  · intro r h
    obtain ⟨x, hx, rfl⟩ := Option.map_eq_some_iff.1 h
    obtain ⟨n, hn⟩ := climbOps hx
    refine climb (n := n) ?_
    simp only [runC, hn, Option.map_some]

/-- Then, where it went on. -/
noncomputable def thenE (C : Ctx) (b : CCode) : Ex × Env × Heap → Out
  | (.norm, env, H) => eval C b env H
  | r => some r

theorem eval_seq (a b : CCode) : eval C (.seq a b) env H = (eval C a env H).bind (thenE C b) := by
  refine LeO.eq ?_ ?_
  · intro r h
    obtain ⟨n, hn⟩ := descend h
    have := hn n (by omega)
    simp only [runC] at this
    obtain ⟨⟨x, e, H1⟩, hx, hr⟩ := Option.bind_eq_some_iff.1 this
    rw [climb hx]
    cases x with
    | norm => exact climb hr
    | exit k => exact hr
    | ret => exact hr
  · intro r h
    obtain ⟨⟨x, e, H1⟩, hx, hr⟩ := Option.bind_eq_some_iff.1 h
    obtain ⟨n, hn⟩ := descend hx
    cases x with
    | norm =>
      obtain ⟨m, hm⟩ := descend (show eval C b e H1 = some r from hr)
      refine climb (n := max n m) ?_
      simp only [runC, hn (max n m) (by omega), Option.bind_some]
      exact hm _ (by omega)
    | exit k =>
      refine climb (n := n) ?_
      simp only [runC, hn n (by omega), Option.bind_some]
      exact hr
    | ret =>
      refine climb (n := n) ?_
      simp only [runC, hn n (by omega), Option.bind_some]
      exact hr

theorem eval_cond_true (c : Opd) (a b : CCode) (h : ev env c = .bool true) : eval C (.cond c a b) env H = eval C a env H := by
  refine LeO.eq ?_ ?_ <;> intro r hr <;> obtain ⟨n, hn⟩ := descend hr <;> refine climb (n := n) ?_ <;> have := hn n (by omega) <;> simpa only [runC, h, if_true] using this
theorem eval_cond_false (c : Opd) (a b : CCode) (h : ev env c = .bool false) : eval C (.cond c a b) env H = eval C b env H := by
  refine LeO.eq ?_ ?_ <;> intro r hr <;> obtain ⟨n, hn⟩ := descend hr <;> refine climb (n := n) ?_ <;> have := hn n (by omega) <;> simpa [runC, h] using this

/-- A choice. -/
noncomputable def condE (x : CV) (a b : Out) : Out :=
  match x with
  | .bool t => if t then a else b
  | _ => none

theorem eval_cond (c : Opd) (a b : CCode) : eval C (.cond c a b) env H = condE (ev env c) (eval C a env H) (eval C b env H) := by
  unfold condE
  split
  · rename_i t ht
    cases t
    · exact eval_cond_false C env H c a b ht
    · exact eval_cond_true C env H c a b ht
  · rename_i hne
    refine LeO.eq ?_ (fun _ h => by cases h)
    intro r hr
    obtain ⟨n, hn⟩ := descend hr
    have := hn n (by omega)
    simp only [runC] at this
    cases this

/-- Out of a block. -/
def outE (id : Nat) (lo : Option (List Nat)) : Ex × Env × Heap → Out
  | (.exit k, env', H') => if k = id then joinE lo env' H' else some (.exit k, env', H')
  | (.norm, env', H') => joinE lo env' H'
  | r => some r

theorem eval_block (id : Nat) (lo : Option (List Nat)) (c : CCode) : eval C (.block id lo c) env H = (eval C c env H).bind (outE id lo) := by
  refine LeO.eq ?_ ?_
  · intro r h
    obtain ⟨n, hn⟩ := descend h
    have := hn n (by omega)
    simp only [runC] at this
    obtain ⟨x, hx, hr⟩ := Option.bind_eq_some_iff.1 this
    rw [climb hx]
    exact hr
  · intro r h
    obtain ⟨x, hx, hr⟩ := Option.bind_eq_some_iff.1 h
    obtain ⟨n, hn⟩ := descend hx
    refine climb (n := n) ?_
    simp only [runC, hn n (by omega), Option.bind_some]
    exact hr

/-- Around a loop once more. -/
noncomputable def roundE (C : Ctx) (id : Nat) (li lo : List Nat) (c : CCode) : Ex × Env × Heap → Out
  | (.norm, env', H') => eval C (.bloop id li lo c) env' H'
  | (.exit k, env', H') => if k = id then (keepE lo env' H').map fun x => (.norm, x.1, x.2) else some (.exit k, env', H')
  | (.ret, env', H') => some (.ret, env', H')

theorem eval_bloop (id : Nat) (li lo : List Nat) (c : CCode) : eval C (.bloop id li lo c) env H = (keepE li env H).bind fun x => (eval C c x.1 x.2).bind (roundE C id li lo c) := by
  refine LeO.eq ?_ ?_
  · intro r h
    obtain ⟨n, hn⟩ := descend h
    have := hn n (by omega)
    simp only [runC] at this
    cases n with
    | zero => simp [iter] at this
    | succ n =>
      unfold iter at this
      obtain ⟨x, hx, h2⟩ := Option.bind_eq_some_iff.1 this
      obtain ⟨⟨e, env', H'⟩, hy, h3⟩ := Option.bind_eq_some_iff.1 h2
      rw [hx, Option.bind_some, climb hy, Option.bind_some]
      cases e with
      | norm =>
        refine climb (n := n + 1) ?_
        simp only [runC]
        exact iter_mono (fun _ _ => LeO.rfl) n (n + 1) (by omega) _ _ _ h3
      | exit k => exact h3
      | ret => exact h3
  · intro r h
    obtain ⟨x, hx, h2⟩ := Option.bind_eq_some_iff.1 h
    obtain ⟨⟨e, env', H'⟩, hy, h3⟩ := Option.bind_eq_some_iff.1 h2
    obtain ⟨n, hn⟩ := descend hy
    cases e with
    | norm =>
      obtain ⟨m, hm⟩ := descend (show eval C (.bloop id li lo c) env' H' = some r from h3)
      refine climb (n := max n m + 1) ?_
      simp only [runC]
      unfold iter
      rw [hx, Option.bind_some, hn (max n m + 1) (by omega), Option.bind_some]
      have := hm (max n m) (by omega)
      simp only [runC] at this
      exact iter_mono (fun e H => runC_mono (callC_mono C (run_mono C (max n m) (max n m + 1) (by omega))) (by omega) c e H) (max n m) (max n m) (by omega) _ _ _ this
    | exit k =>
      refine climb (n := n + 1) ?_
      simp only [runC]
      unfold iter
      rw [hx, Option.bind_some, hn (n + 1) (by omega), Option.bind_some]
      exact h3
    | ret =>
      refine climb (n := n + 1) ?_
      simp only [runC]
      unfold iter
      rw [hx, Option.bind_some, hn (n + 1) (by omega), Option.bind_some]
      exact h3
end

theorem call_runs {C : Ctx} {f : CV} {args : List CV} {H : Heap} {v : CV} {H' : Heap} (h : call C f args H = some (v, H')) : ∃ n, callC C (run C n) f args H = some (v, H') := call_iff.1 h

end Go.Zc
end
section
namespace Go.Zc
open Go.ChangeShapes Go.WideShapes Go.ChangeAt Go.RowKit

/-- The types that come in. -/
inductive Ty where
  | bool
  | int (k : IntKind)
  | str
  | slice (e : Ty)
  | struct (fs : List Ty)
  deriving Inhabited

mutual
def Ty.size : Ty → Nat
  | .struct fs => Ty.sizes fs
  | _ => 1
def Ty.sizes : List Ty → Nat
  | [] => 0
  | f :: fs => f.size + Ty.sizes fs
end

mutual
/-- What a value of a type looks like, cell by cell. -/
def HasTy : Ty → List CV → Prop
  | .bool, cs => ∃ b, cs = [.bool b]
  | .int k, cs => ∃ n, cs = [.int k n] ∧ (Lit.int k n).wf = true
  | .str, cs => ∃ s : ByteArray, cs = [.str s] ∧ s.size ≤ maxLen
  | .slice e, cs => ∃ rows : List (List CV), cs = [.vs rows.flatten rows.length] ∧ rows.length ≤ maxLen ∧ ∀ r ∈ rows, HasTy e r
  | .struct fs, cs => HasTys fs cs
def HasTys : List Ty → List CV → Prop
  | [], cs => cs = []
  | f :: fs, cs => ∃ a b, cs = a ++ b ∧ HasTy f a ∧ HasTys fs b
end

/-- The fields, one behind the other. -/
def fieldsTy (P : Program) (go : TypeId → Option Ty) : Nat → List Field → Option (List Ty)
  | _, [] => some []
  | off, f :: fs =>
    if f.offset = off then (go f.type).bind fun T => if P.cellsOf f.type = T.size then (fieldsTy P go (off + T.size) fs).map (T :: ·) else none else none

def tyOf (P : Program) : Nat → TypeId → Option Ty
  | 0, _ => none
  | n + 1, t =>
    match P.underlying t with
    | some .bool => some .bool
    | some (.int k) => some (.int k)
    | some .string => some .str
    | some (.slice e) => (tyOf P n e).bind fun T => if P.cellsOf e = T.size ∧ 0 < T.size then some (.slice T) else none
    | some (.struct fs) => (fieldsTy P (tyOf P n) 0 fs.toList).bind fun l => if P.cellsOf t = Ty.sizes l then some (.struct l) else none
    | _ => none

/-- Every block that is there. -/
def Old (w : World) (b : Nat) : Prop := b < w.heap.size

theorem mapM_all {α β : Type} {f : α → Option β} : ∀ {l : List α} {r : List β}, l.mapM f = some r → ∀ x ∈ l, ∃ y, f x = some y
  | [], _, _, x, hx => by simp at hx
  | a :: l, r, h, x, hx => by
    simp only [List.mapM_cons, Option.bind_eq_bind, Option.bind_eq_some_iff] at h
    obtain ⟨y, hy, ys, hys, _⟩ := h
    rcases List.mem_cons.1 hx with rfl | hx
    · exact ⟨y, hy⟩
    · exact mapM_all hys x hx

theorem BRc_of {w : World} {F : Nat → Prop} : ∀ {ccs : List CV} {cs : List Value} {b o : Nat}, BRl w F ccs cs → (∀ i c, cs[i]? = some c → w.cell? ⟨b, o + i, none⟩ = some c) → BRc w F ccs b o
  | [], _, _, _, _, _ => trivial
  | c :: ccs, cs, b, o, h, hc => by
    obtain ⟨u, us, rfl, h1, h2⟩ := h
    refine ⟨⟨u, by simpa using hc 0 u rfl, h1⟩, BRc_of h2 fun i x hx => ?_⟩
    have := hc (i + 1) x (by simpa using hx)
    rw [show o + 1 + i = o + (i + 1) by omega]
    exact this

theorem BRc_append {w : World} {F : Nat → Prop} : ∀ {a : List CV} {c : List CV} {b o : Nat}, BRc w F a b o → BRc w F c b (o + a.length) → BRc w F (a ++ c) b o
  | [], _, _, _, _, h => by simpa using h
  | x :: a, c, b, o, h, h2 => by
    obtain ⟨h3, h4⟩ := h
    refine ⟨h3, BRc_append h4 ?_⟩
    rw [show o + 1 + a.length = o + (x :: a).length by simp; omega]
    exact h2

theorem BRl_append {w : World} {F : Nat → Prop} : ∀ {a : List CV} {c : List CV} {x y : List Value}, BRl w F a x → BRl w F c y → BRl w F (a ++ c) (x ++ y)
  | [], _, x, y, h, h2 => by simp only [BRl] at h; subst h; simpa using h2
  | q :: a, c, x, y, h, h2 => by
    obtain ⟨u, us, rfl, h3, h4⟩ := h
    exact ⟨u, us ++ y, by simp, h3, BRl_append h4 h2⟩

/-- Rows of cells behind each other. -/
theorem rows_ok {w : World} {F : Nat → Prop} {T : Ty} {sz b : Nat} : ∀ (n o : Nat), (∀ i, i < n → ∃ cs ccs, (∀ j c, cs[j]? = some c → w.cell? ⟨b, o + i * sz + j, none⟩ = some c) ∧ BRl w F ccs cs ∧ ccs.length = sz ∧ HasTy T ccs) →
    ∃ rows : List (List CV), rows.length = n ∧ BRc w F rows.flatten b o ∧ ∀ r ∈ rows, HasTy T r
  | 0, _, _ => ⟨[], rfl, trivial, by simp⟩
  | n + 1, o, h => by
    obtain ⟨cs, ccs, h1, h2, h3, h4⟩ := h 0 (by omega)
    obtain ⟨rows, g1, g2, g3⟩ := rows_ok (T := T) (w := w) (F := F) (sz := sz) (b := b) n (o + sz) (fun i hi => by
      obtain ⟨cs, ccs, q1, q2, q3, q4⟩ := h (i + 1) (by omega)
      refine ⟨cs, ccs, fun j c hc => ?_, q2, q3, q4⟩
      have := q1 j c hc
      rw [show o + sz + i * sz + j = o + (i + 1) * sz + j by rw [Nat.add_mul]; omega]
      exact this)
    refine ⟨ccs :: rows, by simp [g1], ?_, ?_⟩
    · simp only [List.flatten_cons]
      refine BRc_append (BRc_of h2 fun i c hc => ?_) ?_
      · simpa using h1 i c hc
      · rw [h3]; exact g2
    · intro r hr
      rcases List.mem_cons.1 hr with rfl | hr
      · exact h4
      · exact g3 r hr

theorem fields_ok {H : Type} {enc : TypeId × Value → H} {P : Program} {w : World} {fuel : Nat} {sp : Nat → Bool} {hd : Bool} {go : TypeId → Option Ty} {all : List Value}
    (hrec : ∀ t T cs x, go t = some T → cs.length = P.cellsOf t → DataW.trod enc P w 0 sp hd fuel t cs = some x → ∃ ccs, BRl w (Old w) ccs cs ∧ ccs.length = T.size ∧ HasTy T ccs) :
    ∀ (fs : List Field) (off : Nat) (l : List Ty), fieldsTy P go off fs = some l → all.length = off + Ty.sizes l →
      (∀ f ∈ fs, ∃ y, DataW.trod enc P w 0 sp hd fuel f.type ((all.drop f.offset).take (P.cellsOf f.type)) = some y) →
      ∃ ccs, BRl w (Old w) ccs (all.drop off) ∧ ccs.length = Ty.sizes l ∧ HasTys l ccs
  | [], off, l, h, hl, _ => by
    simp only [fieldsTy, Option.some.injEq] at h
    subst h
    refine ⟨[], ?_, rfl, rfl⟩
    simp only [Ty.sizes] at hl
    simp only [BRl]
    exact List.drop_eq_nil_of_le (by omega)
  | f :: fs, off, l, h, hl, hf => by
    unfold fieldsTy at h
    split at h
    · rename_i ho
      simp only [Option.bind_eq_some_iff] at h
      obtain ⟨T, hT, h⟩ := h
      split at h
      · rename_i hsz
        simp only [Option.map_eq_some_iff] at h
        obtain ⟨l', hl', rfl⟩ := h
        simp only [Ty.sizes] at hl
        obtain ⟨y, hy⟩ := hf f (by simp)
        subst ho
        have hlen : ((all.drop f.offset).take (P.cellsOf f.type)).length = P.cellsOf f.type := by
          simp; omega
        obtain ⟨c1, g1, g2, g3⟩ := hrec _ T _ y hT hlen hy
        obtain ⟨c2, k1, k2, k3⟩ := fields_ok hrec fs (f.offset + T.size) l' hl' (by omega) (fun f hf' => hf f (by simp [hf']))
        refine ⟨c1 ++ c2, ?_, by simp [g2, k2, Ty.sizes], ⟨c1, c2, rfl, g3, k3⟩⟩
        have := BRl_append g1 k1
        rwa [hsz, ← List.drop_drop, List.take_append_drop] at this
      · cases h
    · cases h

theorem Addr.add_zero' (a : Addr) : a.add 0 = a := by simp [Addr.add]
theorem Addr.add_at {a : Addr} (h : a.spot = none) (n : Nat) : a.add n = ⟨a.block, a.off + n, none⟩ := by
  unfold Addr.add
  split
  · rename_i h0
    subst h0
    obtain ⟨b, o, s⟩ := a
    simp at h
    simp [h]
  · rfl

theorem open_ty {H : Type} {enc : TypeId × Value → H} {P : Program} {w : World} {sp : Nat → Bool} {hd : Bool} : ∀ (fuel n : Nat) (t : TypeId) (T : Ty) (cs : List Value) (x : DataW H × List MemPlace), tyOf P n t = some T → cs.length = P.cellsOf t →
    DataW.trod enc P w 0 sp hd fuel t cs = some x → ∃ ccs, BRl w (Old w) ccs cs ∧ ccs.length = T.size ∧ HasTy T ccs
  | 0, _, _, _, _, _, _, _, h => by simp [DataW.trod] at h
  | fuel + 1, 0, _, _, _, _, ht, _, _ => by simp [tyOf] at ht
  | fuel + 1, n + 1, t, T, cs, x, ht, hlen, h => by
    have hrec := open_ty (enc := enc) (P := P) (w := w) (sp := sp) (hd := hd) fuel n
    unfold tyOf at ht
    unfold DataW.trod at h
    cases hu : P.underlying t with
    | none => simp [hu] at ht
    | some u =>
      simp only [hu] at ht h
      cases u with
      | bool =>
        simp only [Option.some.injEq] at ht
        subst ht
        split at h <;> simp_all
        exact ⟨[.bool _], ⟨_, _, rfl, rfl, rfl⟩, rfl, _, rfl⟩
      | int k =>
        simp only [Option.some.injEq] at ht
        subst ht
        split at h <;> simp_all
        obtain ⟨⟨rfl, h2⟩, _⟩ := h
        exact ⟨[.int _ _], ⟨_, _, rfl, rfl, rfl⟩, rfl, _, rfl, h2⟩
      | string =>
        simp only [Option.some.injEq] at ht
        subst ht
        split at h <;> simp_all
        exact ⟨[.str _], ⟨_, _, rfl, rfl, rfl⟩, rfl, _, rfl, h.1⟩
      | slice e =>
        simp only [Option.bind_eq_some_iff] at ht
        obtain ⟨E, hE, ht⟩ := ht
        split at ht <;> (try cases ht)
        rename_i hsz
        split at h
        all_goals try (exfalso; simp_all; done)
        · refine ⟨[.vs [] 0], ⟨_, _, rfl, ⟨none, 0, rfl, Nat.le_refl _, .inl rfl⟩, rfl⟩, rfl, [], rfl, Nat.zero_le _, by simp⟩
        · rename_i e' a len cap heq
          obtain rfl : e = e' := by simpa using heq
          split at h
          · rename_i hb
            simp only [Option.bind_eq_some_iff] at h
            obtain ⟨elems, hel, _⟩ := h
            by_cases h0 : len = 0
            · subst h0
              exact ⟨[.vs [] 0], ⟨_, _, rfl, ⟨some a, cap, rfl, Nat.zero_le _, .inl rfl⟩, rfl⟩, rfl, [], rfl, Nat.zero_le _, by simp⟩
            · have cell0 : a.spot = none ∧ a.block < w.heap.size := by
                obtain ⟨y, hy⟩ := mapM_all hel 0 (by simp; omega)
                simp only [Option.bind_eq_some_iff] at hy
                obtain ⟨cs, hcs, hy⟩ := hy
                obtain ⟨_, k1, k2⟩ := World.cells?_some hcs
                have hpos : 0 < P.cellsOf e := by omega
                have hlt := World.cells?_block hcs hpos
                have := k2 0 hpos
                have h3 : ∃ c, cs[0]? = some c := by
                  cases cs with
                  | nil => simp at k1; omega
                  | cons c _ => exact ⟨c, rfl⟩
                obtain ⟨c, hc⟩ := h3
                rw [hc] at this
                have hs := World.cell?_spot this
                rw [Nat.zero_mul, Addr.add_zero', Addr.add_zero'] at hs
                rw [Nat.zero_mul, Addr.add_zero'] at hlt
                exact ⟨hs, hlt⟩
              obtain ⟨hspot, hblk⟩ := cell0
              have each : ∀ i, i < len → ∃ cs ccs, (∀ (j : Nat) (c : Value), cs[j]? = some c → w.cell? ⟨a.block, a.off + i * E.size + j, none⟩ = some c) ∧ BRl w (Old w) ccs cs ∧ ccs.length = E.size ∧ HasTy E ccs := by
                intro i hi
                obtain ⟨y, hy⟩ := mapM_all hel i (by simpa using hi)
                simp only [Option.bind_eq_some_iff] at hy
                obtain ⟨cs, hcs, hy⟩ := hy
                obtain ⟨ccs, g1, g2, g3⟩ := hrec _ E cs y hE (World.cells?_some hcs).2.1 hy
                obtain ⟨_, k1, k2⟩ := World.cells?_some hcs
                refine ⟨cs, ccs, fun j c hc => ?_, g1, g2, g3⟩
                have hj : j < P.cellsOf e := by
                  have := (List.getElem?_eq_some_iff.1 hc).1
                  rw [k1] at this; exact this
                have := k2 j hj
                rw [hc, Addr.add_at hspot, Addr.add_at rfl] at this
                rw [← hsz.1]
                exact this
              obtain ⟨rows, g1, g2, g3⟩ := rows_ok (w := w) (F := Old w) (T := E) (sz := E.size) (b := a.block) len a.off each
              refine ⟨[.vs rows.flatten rows.length], ⟨_, _, rfl, ⟨some a, cap, by rw [g1], by rw [g1]; exact hb.2.1, .inr ⟨a.block, a.off, ?_, hblk, g2⟩⟩, rfl⟩, rfl, rows, rfl, by rw [g1]; omega, g3⟩
              rw [← hspot]
          · cases h
      | struct fs =>
        simp only [Option.bind_eq_some_iff] at ht
        obtain ⟨l, hl, ht⟩ := ht
        split at ht <;> (try cases ht)
        rename_i hsz
        split at h
        all_goals try (exfalso; simp_all; done)
        rename_i fs' heq
        obtain rfl : fs = fs' := by simpa using heq
        split at h
        · simp only [Option.map_eq_some_iff] at h
          obtain ⟨xs, hxs, _⟩ := h
          obtain ⟨ccs, g1, g2, g3⟩ := fields_ok (fun t T cs x a b c => hrec t T cs x a b c) fs.toList 0 l hl (hlen.trans (hsz.trans (Nat.zero_add _).symm)) (fun f hf => mapM_all hxs f hf)
          exact ⟨ccs, by simpa using g1, by simpa [Ty.size] using g2, by simpa [HasTy] using g3⟩
        · exact absurd hlen (by assumption)
      | _ => simp at ht

/-! ### A law's row -/

/-- An argument of a type. -/
def HasArg : Ty → CV → Prop
  | .struct fs, c => ∃ cs, c = .agg cs ∧ HasTys fs cs
  | T, c => HasTy T [c]

def HasArgs : List Ty → List CV → Prop
  | [], cs => cs = []
  | T :: Ts, cs => ∃ c r, cs = c :: r ∧ HasArg T c ∧ HasArgs Ts r

def argTy (P : Program) (n : Nat) (t : TypeId) : Option Ty := (tyOf P n t).bind fun T => if P.cellsOf t = T.size ∧ P.readableRec t = true ∧ t < P.types.size then some T else none

def argsTy (P : Program) (n : Nat) : List TypeId → Option (List Ty)
  | [] => some []
  | t :: ts => (argTy P n t).bind fun T => (argsTy P n ts).map (T :: ·)

theorem open_arg {H : Type} {enc : TypeId × Value → H} {P : Program} {w : World} {sp : Nat → Bool} {hd : Bool} {r : Reach} {b0 n : Nat} {t : TypeId} {T : Ty} {v : Value} {d : DataW H} {p : List MemPlace}
    (ht : argTy P n t = some T) (hv : Value.okWide P w r b0 t v) (h : DataW.Trod enc P w 0 sp hd t v d p) : ∃ c, BR w (Old w) c v ∧ HasArg T c := by
  obtain ⟨fuel, hf⟩ := h
  simp only [argTy, Option.bind_eq_some_iff] at ht
  obtain ⟨T', ht, hc⟩ := ht
  split at hc <;> (try cases hc)
  rename_i hsz
  have hsz := hsz.1
  have one : v.cells.toList = [v] → (∀ fs, T ≠ .struct fs) → ∃ c, BR w (Old w) c v ∧ HasArg T c := by
    intro hu hns
    rw [hu] at hf
    obtain ⟨ccs, h1, h2, h3⟩ := open_ty fuel n t T [v] (d, p) ht (by
      rw [hsz]
      cases T with
      | struct fs => exact (hns fs rfl).elim
      | _ => rfl) hf
    cases ccs with
    | nil => simp [BRl] at h1
    | cons c ccs =>
      simp only [BRl, List.cons.injEq] at h1
      obtain ⟨_, us, ⟨rfl, rfl⟩, h4, h5⟩ := h1
      have hnil : ccs = [] := by
        cases ccs with
        | nil => rfl
        | cons _ _ => simp [BRl] at h5
      subst hnil
      refine ⟨c, h4, ?_⟩
      cases T with
      | struct fs => exact (hns fs rfl).elim
      | _ => exact h3
  cases n with
  | zero => simp [tyOf] at ht
  | succ n =>
    have ht0 := ht
    unfold tyOf at ht0
    cases hu : P.underlying t with
    | none => simp [hu] at ht0
    | some u =>
      simp only [hu] at ht0
      cases u with
      | bool =>
        obtain ⟨b, rfl⟩ := okWide_bool hu hv
        simp only [Option.some.injEq] at ht0
        exact one rfl (by rw [← ht0]; intro fs h; cases h)
      | int k =>
        obtain ⟨b, rfl⟩ := okWide_int hu hv
        simp only [Option.some.injEq] at ht0
        exact one rfl (by rw [← ht0]; intro fs h; cases h)
      | string =>
        obtain ⟨b, rfl⟩ := okWide_string hu hv
        simp only [Option.some.injEq] at ht0
        exact one rfl (by rw [← ht0]; intro fs h; cases h)
      | slice e =>
        obtain ⟨a, l, c, rfl⟩ := okWide_slice hu hv
        simp only [Option.bind_eq_some_iff] at ht0
        obtain ⟨E, _, ht0⟩ := ht0
        split at ht0 <;> (try cases ht0)
        exact one rfl (by intro fs h; cases h)
      | struct fs =>
        obtain ⟨cs, rfl, hs⟩ := okWide_struct hu hv
        obtain ⟨ccs, h1, h2, h3⟩ := open_ty fuel (n + 1) t T cs.toList (d, p) ht (by simpa using hs) hf
        refine ⟨.agg ccs, ⟨cs, rfl, h1⟩, ?_⟩
        simp only [Option.bind_eq_some_iff] at ht0
        obtain ⟨l, _, ht0⟩ := ht0
        split at ht0 <;> (try cases ht0)
        exact ⟨ccs, rfl, h3⟩
      | _ => simp at ht0

theorem open_args {H : Type} {enc : TypeId × Value → H} {P : Program} {w : World} {sp : Nat → Bool} {hd : Bool} {r : Reach} {b0 n : Nat} : ∀ {ts : List TypeId} {Ts : List Ty} {vs : List Value} {ds : List (DataW H)} {p : List MemPlace},
    argsTy P n ts = some Ts → (∀ (j : Nat) t v, ts[j]? = some t → vs[j]? = some v → Value.okWide P w r b0 t v) → DataW.TrodAll enc P w 0 sp hd ts vs ds p → ∃ cs, BRl w (Old w) cs vs ∧ HasArgs Ts cs
  | [], Ts, vs, ds, p, ht, _, h => by
    obtain ⟨rfl, _, _⟩ := trodAll_nil h
    simp only [argsTy, Option.some.injEq] at ht
    subst ht
    exact ⟨[], rfl, rfl⟩
  | t :: ts, Ts, vs, ds, p, ht, hv, h => by
    obtain ⟨v, vs', d, ds', p1, q, rfl, rfl, rfl, h0, hr⟩ := trodAll_cons h
    simp only [argsTy, Option.bind_eq_some_iff, Option.map_eq_some_iff] at ht
    obtain ⟨T, hT, Ts', hTs, rfl⟩ := ht
    obtain ⟨c, h1, h2⟩ := open_arg hT (hv 0 t v rfl rfl) h0
    obtain ⟨cs, h3, h4⟩ := open_args hTs (fun j t v a b => hv (j + 1) t v (by simpa using a) (by simpa using b)) hr
    exact ⟨c :: cs, ⟨_, _, rfl, h1, h3⟩, c, cs, rfl, h2, h4⟩

theorem again_args {H : Type} {enc : TypeId × Value → H} {P : Program} {w w' : World} {n : Nat} (hl : laidOutB P = true) (hb : Below w.heap.size w w') : ∀ {ts : List TypeId} {Ts : List Ty} {vs : List Value} {ds : List (DataW H)} {p : List MemPlace},
    argsTy P n ts = some Ts → DataW.TrodAll enc P w 0 (fun _ => true) true ts vs ds p → DataW.TrodAll enc P w' 0 (fun b => decide (b < w.heap.size)) true ts vs ds p
  | [], Ts, vs, ds, p, _, h => by
    obtain ⟨rfl, rfl, rfl⟩ := trodAll_nil h
    exact trodAll_mk0
  | t :: ts, Ts, vs, ds, p, ht, h => by
    obtain ⟨v, vs', d, ds', p1, q, rfl, rfl, rfl, h0, hr⟩ := trodAll_cons h
    simp only [argsTy, Option.bind_eq_some_iff, Option.map_eq_some_iff] at ht
    obtain ⟨T, hT, Ts', hTs, rfl⟩ := ht
    simp only [argTy, Option.bind_eq_some_iff] at hT
    obtain ⟨_, _, hc⟩ := hT
    split at hc <;> (try cases hc)
    rename_i hsz
    refine ⟨p1, q, Below.trod hl hsz.2.1 hsz.2.2 h0 hb ?_, again_args hl hb hTs hr, rfl⟩
    obtain ⟨m, hm⟩ := h0
    exact DataW.trod_lt m _ _ _ hm

/-- What an empty memory's call comes to, the model hands back, and nothing that was there has turned. -/
theorem calls_of_call {P : Program} {K : Ctx} (hK : CtxOk P K) {f : FuncId} {cs : List CV} {v : CV} {H' : Heap} (h : call K (.fn (.func f) [] []) cs ⟨[], []⟩ = some (v, H')) {w : World} {vs : Array Value} (hr : BRl w (Old w) cs vs.toList) :
    Calls P f vs w fun e w' => ∃ F' ι' v', e = .returned v' ∧ VR w' F' ι' v v' ∧ Below w.heap.size w w' := by
  obtain ⟨n, hn⟩ := call_iff.1 h
  obtain ⟨k, first, cap, fn, he, _, _, _, hc⟩ := (caller_ok hK n).1 _ _ _ _ _ hn
  simp only [CV.fn.injEq, Fn.func.injEq] at he
  obtain ⟨rfl, rfl, rfl⟩ := he
  have := hc w (Old w) IM.nil vs.toList (Inv.empty w (Old w) fun _ h => h) (by simpa using BRl.vr _ _ hr)
  rw [Array.toArray_toList] at this
  refine this.mono ?_
  rintro e w' ⟨v', F', ι', rfl, h1, _, h3, _⟩
  exact ⟨F', ι', v', rfl, h1, h3.os, h3.tape, h3.output, h3.size, fun k hk => h3.frame k hk no_live⟩

theorem law_lifted {C : Checked} {K : Ctx} (hK : CtxOk C.prog K) {f : FuncId} {fn : Func} {s : ChangeSpec} {n : Nat} {Ts : List Ty} {tb : TypeId} {conds : List PathCond}
    (own : ownKnob C.prog.godebug = none) (laid : laidOutB C.prog = true) (noInit : C.prog.inits.idxOf? f = none) (hfn : C.prog.funcs[f]? = some fn)
    (hres : fn.resultTypes = #[tb]) (hb : C.prog.underlying tb = some .bool) (hvars : s.vars = []) (hty : argsTy C.prog n fn.params.toList = some Ts)
    (hspec : ∀ (H : Type) (ds : List (DataW H)), ds.length = Ts.length → s.fn H ds = { results := [.lit (.bool true)], args := ds })
    (law : ∀ cs, HasArgs Ts cs → ∃ H', call K (.fn (.func f) [] []) cs ⟨[], []⟩ = some (.bool true, H'))
    (os : Os) (started : os.Started) (H : Type) (enc : TypeId × Value → H)
    (witness : ∃ (w : World) (tape : Tape) (i : Input), w.os = os ∧ (w.forCall tape i).Shaped C.prog ∧ i.vars = [] ∧ Input.okWide C.prog (w.forCall tape i) .any w.heap.size f i ∧
      s.pre6 enc C.prog fn conds false (w.forCall tape i).memory i.args ∧ ({} : Assume).holds C.prog (lone (Frame.enter C.prog f i.args .normal) [] (w.forCall tape i))) :
    ReturnsInHanded {} C os f .any (s.pre6 enc C.prog fn conds false) (s.post enc C.prog fn false true false false) := by
  refine returnsInHanded_of_change own started noInit hfn witness ?_
  intro W base args ds gs before hval hW hcnd _
  have hW' := hW
  obtain ⟨p, q, hA, hV, rfl, hfz, hnd⟩ := hW
  rw [hvars] at hV
  obtain ⟨rfl, rfl⟩ := trodVars_none hV
  have hlen : ds.length = Ts.length := by
    have l1 : ∀ {ts : List TypeId} {vs : List Value} {ds : List (DataW H)} {p : List MemPlace}, DataW.TrodAll enc C.prog W 0 (fun _ => true) true ts vs ds p → ds.length = ts.length := by
      intro ts
      induction ts with
      | nil => intro vs ds p h; obtain ⟨_, rfl, _⟩ := trodAll_nil h; rfl
      | cons t ts ih => intro vs ds p h; obtain ⟨_, _, _, _, _, _, rfl, rfl, rfl, _, hr⟩ := trodAll_cons h; simp [ih hr]
    have l2 : ∀ {ts : List TypeId} {Ts : List Ty}, argsTy C.prog n ts = some Ts → Ts.length = ts.length := by
      intro ts
      induction ts with
      | nil => intro Ts h; simp only [argsTy, Option.some.injEq] at h; subst h; rfl
      | cons t ts ih =>
        intro Ts h
        simp only [argsTy, Option.bind_eq_some_iff, Option.map_eq_some_iff] at h
        obtain ⟨T, _, Ts', hTs, rfl⟩ := h
        simp [ih hTs]
    rw [l1 hA, l2 hty]
  obtain ⟨cs, hcs, hargs⟩ := open_args hty (fun j t v a b => hval j t v (by simpa using a) (by simpa using b)) hA
  obtain ⟨H', hcall⟩ := law cs hargs
  refine (calls_of_call hK hcall hcs).mono ?_
  rintro e W' ⟨F', ι', v', rfl, hv, bel⟩
  simp only [VR, BR] at hv
  subst hv
  refine ⟨_, rfl, ds, [], _, [], p, [], hW', ?_, ?_, ?_, bel.frame _, fun h => by cases h⟩
  · rw [List.append_nil, hspec H ds hlen, hres]
    exact trodAll_mk1 (shut_bool hb _)
  · rw [List.append_nil, hspec H ds hlen]
    exact again_args laid bel hty hA
  · rw [hvars, List.append_nil, hspec H ds hlen]
    rfl

end Go.Zc
end
section
namespace Go.Zc

inductive TabOk (P : Program) (C : Ctx) : List (Nat × FInfo) → Prop where
  | nil : TabOk P C []
  | cons {k : Nat} {I : FInfo} {r : List (Nat × FInfo)} : (∃ fn an, P.funcs[k]? = some fn ∧ compF P (quietOf C) an I.mode fn = some I) → TabOk P C r → TabOk P C ((k, I) :: r)

theorem TabOk.get {P : Program} {C : Ctx} : ∀ {t : List (Nat × FInfo)}, TabOk P C t → ∀ k I, look t k = some I → ∃ fn an, P.funcs[k]? = some fn ∧ compF P (quietOf C) an I.mode fn = some I
  | _, .nil, _, _, h => by simp [look] at h
  | _, .cons (k := i) h r, k, I, hl => by
    unfold look at hl
    cases hb : Nat.beq i k with
    | true =>
      simp only [hb, cond_true, Option.some.injEq] at hl
      subst hl
      have : i = k := Nat.eq_of_beq_eq_true hb
      subst this
      exact h
    | false =>
      simp only [hb, cond_false] at hl
      exact r.get k I hl

theorem ctxOk_of {P : Program} {tab : List (Nat × FInfo)} (mix : P.follows .mixedOrders = true) (h : TabOk P ⟨look tab, fun _ => none⟩ tab) : CtxOk P ⟨look tab, fun _ => none⟩ where
  mix := mix
  info := fun k I _ hi => h.get k I hi
  prim := fun k s hs => by cases hs

end Go.Zc
end
