/- What the interpreter does the model does: code, functions, calls. No condition. -/
import Derived.Test.YtfblegjbmhgepaaZcDraw
set_option linter.all false
namespace Go.Zc

def exOf : Ex → Exit
  | .norm => .normal
  | .exit k => .exit k
  | .ret => .ret

section
variable {P : Program} {w : World} {F : Nat → Prop} {ι : IM} {H : Heap} {env : Env} {a : Act}

theorem at_keep (env : Env) : ∀ (l : List Nat) (t : Nat), Env.at (keep env l) t = if t ∈ l then Env.at env t else .und
  | [], t => by simp [keep, Env.at, look]
  | x :: l, t => by
    simp only [keep, look_cons, at_keep env l t, List.mem_cons]
    by_cases h : t = x
    · subst h; simp
    · simp [h]

theorem look_keepB (bx : List (Nat × List CV)) : ∀ (l : List Nat) (t : Nat), look (keepB bx l) t = if t ∈ l then look bx t else none
  | [], t => by simp [keepB, look]
  | x :: l, t => by
    simp only [keepB, List.mem_cons]
    split
    · rename_i cs hcs
      simp only [look, look_keepB bx l t]
      by_cases h : t = x
      · subst h; simp [hcs]
      · simp [beq_ne (fun e => h e.symm), h]
    · rename_i hn
      rw [look_keepB bx l t]
      by_cases h : t = x
      · subst h; simp [hn]
      · simp [h]

theorem mem_look {α : Type} : ∀ {l : List (Nat × α)} {s : Nat} {x : α}, look l s = some x → (s, x) ∈ l
  | [], _, _, h => by simp [look] at h
  | (i, y) :: l, s, x, h => by
    simp only [look] at h
    by_cases e : i = s
    · subst e; simp at h; subst h; simp
    · simp only [beq_ne e, cond_false] at h
      exact List.mem_cons_of_mem _ (mem_look h)

theorem mem_keep : ∀ (l : List Nat) {t : Nat}, t ∈ l → (t, Env.at env t) ∈ keep env l
  | x :: l, t, h => by
    simp only [keep]
    rcases List.mem_cons.1 h with rfl | h
    · simp
    · exact List.mem_cons_of_mem _ (mem_keep l h)

/-- Slots that are let go. -/
theorem keep_ok {n : Nat} {l : List Nat} {env' : Env} {H' : Heap} (h : keepE l env H = some (env', H')) (hst : St n w F ι H env a) : ∃ ι', St n w F ι' H' env' a ∧ Ext w F ι H w F ι' H' := by
  unfold keepE at h
  split at h <;> (try cases h)
  rename_i hchk
  simp only [chk, Bool.and_eq_true] at hchk
  obtain ⟨hc1, hc2⟩ := hchk
  let ι' : IM := ⟨fun s => if s ∈ l then ι.lo s else none, ι.bl⟩
  have hglob : ι'.glob = ι.glob := rfl
  have hle : ι.glob.le ι' := fun i b hb => by cases i <;> simp_all [IM.glob, IM.get, ι']
  have hmono : ∀ {c : CV} {v : Value}, VR w F ι.glob c v → VR w F ι' c v := fun h => VR.mono ⟨⟨fun _ h => h, fun _ _ => rfl⟩, hle, fun _ _ h => h⟩ _ _ h
  have hget : ∀ i cs, (⟨keepB H.bx l, H.bl⟩ : Heap).get i = some cs → H.get i = some cs ∧ ι'.get i = ι.get i := by
    intro i cs hg
    cases i with
    | loc s =>
      simp only [Heap.get, look_keepB] at hg ⊢
      split at hg
      · rename_i hs
        exact ⟨hg, by simp [IM.get, ι', hs]⟩
      · cases hg
    | blk m => exact ⟨hg, rfl⟩
  have hlive : ∀ i, (⟨keepB H.bx l, H.bl⟩ : Heap).live i → H.live i ∧ ι'.get i = ι.get i := by
    intro i hi
    rcases live_iff.1 hi with ⟨cs, h'⟩ | ⟨m, es, rfl, h'⟩
    · exact ⟨live_iff.2 (.inl ⟨cs, (hget i cs h').1⟩), (hget i cs h').2⟩
    · exact ⟨live_iff.2 (.inr ⟨m, es, rfl, h'⟩), rfl⟩
  have hi := hst.i
  refine ⟨ι', ⟨?_, ?_, hst.d, hst.s⟩, ?_⟩
  · intro t
    rw [at_keep]
    split
    · rename_i htl
      have hv := hst.e t
      have hck := List.all_eq_true.1 hc1 _ (mem_keep (env := env) l htl)
      cases hcv : Env.at env t with
      | op i off =>
        rw [hcv] at hv hck
        cases i with
        | loc s =>
          simp only [chkV, List.contains_eq_mem, decide_eq_true_eq] at hck
          simp only [VR] at hv ⊢
          obtain ⟨b, h1, h2⟩ := hv
          exact ⟨b, by simpa [IM.get, ι', hck] using h1, h2⟩
        | blk m => simpa [VR, IM.get, ι'] using hv
      | _ =>
        rw [hcv] at hv hck
        exact hmono (VR.noloc _ _ (by simpa [chkV] using hck) hv)
    · simp [VR, BR]
  · refine ⟨hi.len, ?_, ?_, ?_, ?_, hi.lt, ?_⟩
    · intro i cs hg
      obtain ⟨h1, h2⟩ := hget i cs hg
      obtain ⟨b, c, e, h3, h4, h5, h6⟩ := hi.cells i cs h1
      refine ⟨b, c, e, by rw [h2]; exact h3, h4, ?_, h6⟩
      cases i with
      | blk m => exact h5
      | loc s =>
        have hno : CV.locs cs = false := by
          have := List.all_eq_true.1 hc2 _ (mem_look hg)
          simpa using this
        intro j x hx
        obtain ⟨u, g1, g2⟩ := h5 j x hx
        refine ⟨u, g1, hmono (VR.noloc x u ?_ g2)⟩
        have : ∀ (cs : List CV), CV.locs cs = false → ∀ (j : Nat) (x : CV), cs[j]? = some x → x.locv = false := by
          intro cs
          induction cs with
          | nil => intro _ j x hx; simp at hx
          | cons c cs ih =>
            intro hl j x hx
            simp only [CV.locs, Bool.or_eq_false_iff] at hl
            cases j with
            | zero => simp at hx; subst hx; exact hl.1
            | succ j => exact ih hl.2 j x (by simpa using hx)
        exact this cs hno j x hx
    · intro m es hm
      exact hi.maps m es hm
    · intro i j b h1 h2 h3 h4
      rw [(hlive i h1).2] at h3
      rw [(hlive j h2).2] at h4
      exact hi.inj i j b (hlive i h1).1 (hlive j h2).1 h3 h4
    · rintro b hb ⟨i, h1, h2⟩
      rw [(hlive i h1).2] at h2
      exact hi.dis b hb ⟨i, (hlive i h1).1, h2⟩
    · intro s hs
      show (if s ∈ l then ι.lo s else none) = none
      split
      · rename_i hsl
        refine hi.lo s ?_
        rw [look_keepB, if_pos hsl] at hs
        exact hs
      · rfl
  · refine ⟨rfl, rfl, rfl, fun _ _ h => h, fun _ h => h, fun _ h => .inl h, Nat.le_refl _, fun _ _ h => h, fun _ _ _ => rfl, ?_⟩
    rintro b ⟨i, h1, h2⟩
    rw [(hlive i h1).2] at h2
    exact .inl ⟨i, (hlive i h1).1, h2⟩

/-- Where code leads that comes to 'x', 'env'', 'H''. -/
def Post (n : Nat) (w : World) (F : Nat → Prop) (ι : IM) (H : Heap) (x : Ex) (env' : Env) (H' : Heap) (e : Exit) (a' : Act) (w' : World) : Prop :=
  e = exOf x ∧ ∃ F' ι', St n w' F' ι' H' env' a' ∧ Ext w F ι H w' F' ι' H'

theorem EnvR.keep {rs : List Nat} (h : EnvR w F ι env a) : EnvR w F ι (Zc.keep env rs) a := fun t => by
  rw [at_keep]
  split
  · exact h t
  · simp [VR, BR]

theorem join_ok {n : Nat} {lo : Option (List Nat)} {x : Ex} {env' : Env} {H' : Heap} (h : joinE lo env H = some (x, env', H')) (hst : St n w F ι H env a) : x = .norm ∧ ∃ ι', St n w F ι' H' env' a ∧ Ext w F ι H w F ι' H' := by
  cases lo with
  | none =>
    simp only [joinE, Option.some.injEq, Prod.mk.injEq] at h
    obtain ⟨rfl, rfl, rfl⟩ := h
    exact ⟨rfl, ι, hst, Ext.refl _ _ _ _⟩
  | some l =>
    simp only [joinE, Option.map_eq_some_iff, Prod.mk.injEq] at h
    obtain ⟨⟨e1, H1⟩, h1, rfl, rfl, rfl⟩ := h
    exact ⟨rfl, keep_ok h1 hst⟩

theorem loop_ok {n id : Nat} {li lo : List Nat} {c : Code} {f : Env → Heap → Out}
    (hf : ∀ (w : World) (F : Nat → Prop) (ι : IM) (H : Heap) (env : Env) (a : Act) (x : Ex) (env' : Env) (H' : Heap), f env H = some (x, env', H') → St n w F ι H env a → c.wp P (Post n w F ι H x env' H') a w) :
    ∀ (m : Nat) (w : World) (F : Nat → Prop) (ι : IM) (H : Heap) (env : Env) (a : Act) (x : Ex) (env' : Env) (H' : Heap), iter id li lo f m env H = some (x, env', H') → St n w F ι H env a →
      ∀ (b : Frame) (k : List Item) (cs : List Frame), ∃ e a' w', Exit.inBlock id (Post n w F ι H x env' H') e a' w' ∧ Arrives P (lone (b.at a (.code c :: .inLoop c :: k)) cs w) b k cs e a' w'
  | 0, _, _, _, _, _, _, _, _, _, h, _, _, _, _ => by simp [iter] at h
  | m + 1, w, F, ι, H, env, a, x, env', H', h, hst, b, k, cs => by
    simp only [iter, Option.bind_eq_some_iff] at h
    obtain ⟨⟨env1, H1⟩, h1, ⟨x1, env2, H2⟩, h2, h3⟩ := h
    obtain ⟨ι1, hst1, hext1⟩ := keep_ok h1 hst
    obtain ⟨e, a1, w1, ⟨rfl, F2, ι2, hst2, hext2⟩, harr⟩ := hf w F ι1 H1 env1 a x1 env2 H2 h2 hst1 b (.inLoop c :: k) cs
    have hext := hext1.trans hext2
    cases x1 with
    | norm =>
      simp only at h3
      obtain ⟨e, a', w', hq, harr2⟩ := loop_ok hf m w1 F2 ι2 H2 env2 a1 x env' H' h3 hst2 b k cs
      refine ⟨e, a', w', ?_, .of_steps (Steps.trans harr (.one step_inLoop)) harr2⟩
      revert hq
      cases e <;> simp only [Exit.inBlock] <;> (try split) <;> rintro ⟨q1, F', ι', q2, q3⟩ <;> exact ⟨q1, F', ι', q2, hext.trans q3⟩
    | exit j =>
      simp only at h3
      refine ⟨.exit j, a1, w1, ?_, .pass (x := .inLoop c) rfl (fun _ _ => .inl (by simp)) harr⟩
      by_cases hj : j = id
      · rw [if_pos hj] at h3
        simp only [Option.map_eq_some_iff, Prod.mk.injEq] at h3
        obtain ⟨⟨env3, H3⟩, h4, rfl, rfl, rfl⟩ := h3
        obtain ⟨ι3, hst3, hext3⟩ := keep_ok h4 hst2
        simp only [Exit.inBlock, if_pos hj]
        exact ⟨rfl, F2, ι3, hst3, hext.trans hext3⟩
      · rw [if_neg hj] at h3
        simp only [Option.some.injEq, Prod.mk.injEq] at h3
        obtain ⟨rfl, rfl, rfl⟩ := h3
        simp only [Exit.inBlock, if_neg hj]
        exact ⟨rfl, F2, ι2, hst2, hext⟩
    | ret =>
      simp only [Option.some.injEq, Prod.mk.injEq] at h3
      obtain ⟨rfl, rfl, rfl⟩ := h3
      refine ⟨.ret, a1, w1, ?_, .pass (x := .inLoop c) rfl (fun _ _ => .inl (by simp)) harr⟩
      simp only [Exit.inBlock]
      exact ⟨rfl, F2, ι2, hst2, hext⟩

theorem code_ok {call : Caller} (hcall : CallerOk P call) {quiet : FuncId → Bool} (hq : QuietOk call quiet) (hmix : P.follows .mixedOrders = true) {an : Ann} {n lf : Nat} {rs : List Nat} (code : Code) :
    ∀ (c : CCode) (w : World) (F : Nat → Prop) (ι : IM) (H : Heap) (env : Env) (a : Act) (x : Ex) (env' : Env) (H' : Heap), compC P quiet an n rs code = some c → runC call lf c env H = some (x, env', H') → St n w F ι H env a →
      code.wp P (Post n w F ι H x env' H') a w := by
  intro c w F ι H env a x env' H' hc hr hst
  match code with
  | .skip =>
    simp only [compC, Option.some.injEq] at hc
    subst hc
    simp only [runC, Option.some.injEq, Prod.mk.injEq] at hr
    obtain ⟨rfl, rfl, rfl⟩ := hr
    exact wp_skip ⟨rfl, F, ι, hst, Ext.refl _ _ _ _⟩
  | .region id ops draw =>
    simp only [compC] at hc
    have hne : c ≠ bad := by rintro rfl; simp [runC, bad, ev] at hr
    cases hl : compStms P an n ops ops.toList with
    | none => simp only [hl, Option.some.injEq] at hc; exact (hne hc.symm).elim
    | some l =>
    simp only [hl] at hc
    have fin : ∀ l', c = .ops l' → (l'.length = l.length ∧ ∀ (k : Nat) (s : CStm), l[k]? = some s → ∃ s', l'[k]? = some s' ∧ Sharp quiet s s') → ((draw = false ∧ l' = l) ∨ (draw = true ∧ drawOk quiet ops l' = true)) → (Code.region id ops draw).wp P (Post n w F ι H x env' H') a w := by
      rintro l' rfl hsh hd
      simp only [runC, Option.map_eq_some_iff, Prod.mk.injEq] at hr
      obtain ⟨⟨e1, H1⟩, h1, rfl, rfl, rfl⟩ := hr
      exact region_ok hcall hq hmix hl hsh hd h1 hst fun a' w' F' ι' g1 g2 _ => ⟨rfl, F', ι', g1, g2⟩
    split at hc
    · rename_i hd
      simp only [Option.some.injEq] at hc
      refine fin l hc.symm ⟨rfl, fun k s hk => ⟨s, hk, Sharp.refl _ s⟩⟩ ?_
      cases draw with
      | false => exact .inl ⟨rfl, rfl⟩
      | true => exact .inr ⟨rfl, by simpa using hd⟩
    · split at hc
      · rename_i hnd hd
        simp only [Option.some.injEq] at hc
        refine fin _ hc.symm ⟨by simp, fun k s hk => ⟨_, by rw [List.getElem?_map, hk]; rfl, focus_sharp _ _ _ _⟩⟩ ?_
        cases draw with
        | false => simp at hnd
        | true => exact .inr ⟨rfl, hd⟩
      · have fin2 : ∀ b, some (CCode.ops ((l.map (focus an.boxes l)).map (focusC quiet b))) = some c → drawOk quiet ops ((l.map (focus an.boxes l)).map (focusC quiet b)) = true → (Code.region id ops draw).wp P (Post n w F ι H x env' H') a w := by
          intro b hc hd
          simp only [Option.some.injEq] at hc
          refine fin _ hc.symm ⟨by simp, fun k s hk => ⟨_, by rw [List.getElem?_map, List.getElem?_map, hk]; rfl, (focus_sharp _ _ _ _).trans (focusC_sharp _ _ _)⟩⟩ ?_
          cases draw with
          | false => simp_all
          | true => exact .inr ⟨rfl, hd⟩
        split at hc
        · rename_i hd; exact fin2 false hc hd
        · split at hc
          · rename_i hd; exact fin2 true hc hd
          · exact (hne (Option.some.inj hc).symm).elim
  | .seq p q =>
    simp only [compC, Option.bind_eq_some_iff, Option.map_eq_some_iff] at hc
    obtain ⟨cp, hp, cq, hqc, rfl⟩ := hc
    simp only [runC, Option.bind_eq_some_iff] at hr
    obtain ⟨⟨x1, env1, H1⟩, h1, h2⟩ := hr
    have hp' := code_ok hcall hq hmix p cp w F ι H env a x1 env1 H1 hp h1 hst
    refine wp_seq (wp_mono hp' ?_)
    rintro e a1 w1 ⟨rfl, F1, ι1, hst1, hext1⟩
    cases x1 with
    | norm =>
      refine wp_mono (code_ok hcall hq hmix q cq w1 F1 ι1 H1 env1 a1 x env' H' hqc h2 hst1) ?_
      rintro e a2 w2 ⟨rfl, F2, ι2, hst2, hext2⟩
      exact ⟨rfl, F2, ι2, hst2, hext1.trans hext2⟩
    | exit k =>
      simp only [Option.some.injEq, Prod.mk.injEq] at h2
      obtain ⟨rfl, rfl, rfl⟩ := h2
      exact ⟨rfl, F1, ι1, hst1, hext1⟩
    | ret =>
      simp only [Option.some.injEq, Prod.mk.injEq] at h2
      obtain ⟨rfl, rfl, rfl⟩ := h2
      exact ⟨rfl, F1, ι1, hst1, hext1⟩
  | .cond o p q =>
    simp only [compC, Option.bind_eq_some_iff, Option.map_eq_some_iff] at hc
    obtain ⟨co, ho, cp, hp, cq, hqc, rfl⟩ := hc
    simp only [runC] at hr
    split at hr <;> (try cases hr)
    rename_i t ht
    have hv := opd_ok hst.e ho
    rw [ht] at hv
    cases t with
    | true =>
      simp only [if_true] at hr
      exact wp_cond_true hv.bool (code_ok hcall hq hmix p cp w F ι H env a x env' H' hp hr hst)
    | false =>
      simp only [Bool.false_eq_true, if_false] at hr
      exact wp_cond_false hv.bool (code_ok hcall hq hmix q cq w F ι H env a x env' H' hqc hr hst)
  | .exit id =>
    simp only [compC, Option.some.injEq] at hc
    subst hc
    simp only [runC, Option.some.injEq, Prod.mk.injEq] at hr
    obtain ⟨rfl, rfl, rfl⟩ := hr
    exact wp_exit ⟨rfl, F, ι, hst, Ext.refl _ _ _ _⟩
  | .ret =>
    simp only [compC, Option.some.injEq] at hc
    subst hc
    simp only [runC, Option.some.injEq, Prod.mk.injEq] at hr
    obtain ⟨rfl, rfl, rfl⟩ := hr
    exact wp_ret ⟨rfl, F, ι, ⟨hst.e.keep, hst.i, hst.d, hst.s⟩, Ext.refl _ _ _ _⟩
  | .block id body =>
    by_cases hb : ∃ c', body = .loop c'
    · obtain ⟨c', hbc⟩ := hb
      have hlt : SizeOf.sizeOf c' < SizeOf.sizeOf body := by rw [hbc]; simp
      rw [hbc] at hc ⊢
      simp only [compC, Option.bind_eq_some_iff, Option.map_eq_some_iff] at hc
      obtain ⟨cc, hcc, l, hl, rfl⟩ := hc
      simp only [runC] at hr
      refine wp_block ?_
      intro b k cs
      obtain ⟨e, a', w', hq', harr⟩ := loop_ok (P := P) (n := n) (id := id) (c := c') (f := fun e h => runC call lf cc e h)
        (fun w F ι H env a x env' H' h hst => code_ok hcall hq hmix c' cc w F ι H env a x env' H' hcc h hst) lf w F ι H env a x env' H' hr hst b k cs
      exact ⟨e, a', w', hq', .of_steps (.one step_loop) harr⟩
    · have hc' : ((compC P quiet an n rs body).bind fun y => some (CCode.block id (look an.blocks id) y)) = some c := by
        rw [← hc]
        cases body <;> first | rfl | exact (hb ⟨_, rfl⟩).elim
      simp only [Option.bind_eq_some_iff, Option.some.injEq] at hc'
      obtain ⟨cb, hcb, rfl⟩ := hc'
      simp only [runC, Option.bind_eq_some_iff] at hr
      obtain ⟨⟨x1, env1, H1⟩, h1, h2⟩ := hr
      have hb' := code_ok hcall hq hmix body cb w F ι H env a x1 env1 H1 hcb h1 hst
      refine wp_block (wp_mono hb' ?_)
      rintro e a1 w1 ⟨rfl, F1, ι1, hst1, hext1⟩
      cases x1 with
      | norm =>
        simp only at h2
        obtain ⟨rfl, ι2, hst2, hext2⟩ := join_ok h2 hst1
        exact ⟨rfl, F1, ι2, hst2, hext1.trans hext2⟩
      | exit k =>
        simp only at h2
        simp only [exOf, Exit.inBlock]
        split
        · rename_i hk
          rw [if_pos hk] at h2
          obtain ⟨rfl, ι2, hst2, hext2⟩ := join_ok h2 hst1
          exact ⟨rfl, F1, ι2, hst2, hext1.trans hext2⟩
        · rename_i hk
          rw [if_neg hk] at h2
          simp only [Option.some.injEq, Prod.mk.injEq] at h2
          obtain ⟨rfl, rfl, rfl⟩ := h2
          exact ⟨rfl, F1, ι1, hst1, hext1⟩
      | ret =>
        simp only [Option.some.injEq, Prod.mk.injEq] at h2
        obtain ⟨rfl, rfl, rfl⟩ := h2
        exact ⟨rfl, F1, ι1, hst1, hext1⟩
  | .loop _ | .rangeFunc _ _ _ _ | .scope _ | .label _ | .goto _ | .refuse _ =>
    simp only [compC, Option.some.injEq] at hc
    subst hc
    simp [runC, bad, ev] at hr
termination_by SizeOf.sizeOf code
decreasing_by all_goals simp_wf; omega

end
end Go.Zc
