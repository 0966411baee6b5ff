/- Calls: what the interpreter hands back the model does. No condition. -/
import Derived.Test.YtfblegjbmhgepaaZcSound
set_option linter.all false
namespace Go.Zc

section
variable {P : Program} {w : World} {F : Nat → Prop} {ι : IM} {H : Heap} {env : Env} {a : Act}

/-- A function whose contract is proved by itself. -/
def PrimOk (P : Program) (k : FuncId) (s : List CV → List Blk → Option (CV × List Blk)) : Prop :=
  ∃ fn, P.funcs[k]? = some fn ∧ fn.body.isSome = true ∧ (fn.name == "runtime.NumGoroutine") = false ∧
    ∀ args bl v bl', s args bl = some (v, bl') → ∀ (w : World) (F : Nat → Prop) (ι : IM) (as : List Value), (∀ s, ι.lo s = none) → Inv w F ι ⟨[], bl⟩ → VRl w F ι args as →
      Calls P k as.toArray w fun e w' => ∃ v' F' ι' bx, e = .returned v' ∧ VR w' F' ι' v v' ∧ Inv w' F' ι' ⟨bx, bl'⟩ ∧ Ext w F ι ⟨[], bl⟩ w' F' ι' ⟨bx, bl'⟩

def quietOf (C : Ctx) (k : FuncId) : Bool :=
  (C.prim k).isNone && match C.info k with
    | some I => match I.mode with | .fz _ => true | _ => false
    | none => false

structure CtxOk (P : Program) (C : Ctx) : Prop where
  mix : P.follows .mixedOrders = true
  info : ∀ k I, C.prim k = none → C.info k = some I → ∃ fn an, P.funcs[k]? = some fn ∧ compF P (quietOf C) an I.mode fn = some I
  prim : ∀ k s, C.prim k = some s → PrimOk P k s

theorem at_enter : ∀ (as : List CV) (i t : Nat), Env.at (enterC i as) t = if i ≤ t then (as[t - i]?).getD .und else .und
  | [], i, t => by simp [enterC, Env.at, look]
  | v :: r, i, t => by
    simp only [enterC, look_cons, at_enter r (i + 1) t]
    by_cases h : t = i
    · subst h; simp
    · rw [if_neg h]
      by_cases h2 : i ≤ t
      · rw [if_pos h2, if_pos (by omega), show t - i = (t - (i + 1)) + 1 by omega]; simp
      · rw [if_neg h2, if_neg (by omega)]

def resSem (tmps : Array Value) : ResultVar → Sem Value
  | .tmp t => pure (tmps.getD t undef)
  | .cell ad t => do loadVar t (← asAddr (tmps.getD ad undef))

theorem results_eq (fn : Func) (tmps : Array Value) : results fn tmps = (do let vs ← fn.results.mapM (resSem tmps); pure (if h : vs.size = 1 then vs[0] else .tuple vs)) := by
  unfold results
  congr

theorem resOne_ok (hi : Inv w F ι H) (he : EnvR w F ι env a) {r : ResultVar} {rs : Res} (hc : compRes P [r] = some [rs]) {v : CV} (h : resOne env H rs = some v) :
    ∃ u, (resSem a.tmps r).run P w = .ok u w ∧ VR w F ι v u := by
  cases r with
  | tmp t =>
    simp only [compRes, Option.map_some, Option.some.injEq, List.cons.injEq, and_true] at hc
    subst hc
    simp only [resOne, Option.some.injEq] at h
    subst h
    exact ⟨_, rfl, he t⟩
  | cell ad t =>
    simp only [compRes, Option.map_some, Option.bind_eq_some_iff, Option.some.injEq, List.cons.injEq, and_true] at hc
    obtain ⟨s, hs, rfl⟩ := hc
    simp only [resOne, heapOp, Option.map_eq_some_iff] at h
    obtain ⟨⟨x, H1⟩, ⟨y, hy, hyx⟩, rfl⟩ := h
    cases hyx
    obtain ⟨ad', u, h1, h2, h3⟩ := loadC_ok (P := P) hi hs (he ad) hy
    refine ⟨u, ?_, h3⟩
    simp only [resSem, Sem.run_bind, h1, asAddr, Sem.run_pure, Result.andThen_ok]
    exact h2

theorem resAll_ok (hi : Inv w F ι H) (he : EnvR w F ι env a) : ∀ (rv : List ResultVar) (rs : List Res) (vs : List CV), compRes P rv = some rs → resAll env H rs = some vs →
    ∃ us : List Value, (rv.mapM (m := Sem) (resSem a.tmps)).run P w = .ok us w ∧ VRl w F ι vs us
  | [], rs, vs, hc, h => by
    simp only [compRes, Option.some.injEq] at hc
    subst hc
    simp only [resAll, Option.some.injEq] at h
    subst h
    exact ⟨[], by simp, by simp [VRl]⟩
  | r :: rv, rs, vs, hc, h => by
    have hsplit : ∃ r1 rs1, compRes P [r] = some [r1] ∧ compRes P rv = some rs1 ∧ rs = r1 :: rs1 := by
      cases r with
      | tmp t =>
        simp only [compRes, Option.map_eq_some_iff] at hc
        obtain ⟨l, h1, rfl⟩ := hc
        exact ⟨_, l, by simp [compRes], h1, rfl⟩
      | cell ad t =>
        simp only [compRes, Option.bind_eq_some_iff, Option.map_eq_some_iff] at hc
        obtain ⟨s, hs, l, h1, rfl⟩ := hc
        exact ⟨_, l, by simp [compRes, hs], h1, rfl⟩
    obtain ⟨r1, rs1, h1, h2, rfl⟩ := hsplit
    simp only [resAll, Option.bind_eq_some_iff, Option.map_eq_some_iff] at h
    obtain ⟨v, h3, l, h4, rfl⟩ := h
    obtain ⟨u, h5, h6⟩ := resOne_ok (P := P) hi he h1 h3
    obtain ⟨us, h7, h8⟩ := resAll_ok hi he rv rs1 l h2 h4
    refine ⟨u :: us, ?_, by simp only [VRl]; exact ⟨u, us, rfl, h6, h8⟩⟩
    rw [List.mapM_cons]
    simp only [Sem.run_bind]
    rw [h5]
    simp only [Result.andThen_ok, h7, Sem.run_pure]

/-- A body, run by the model. -/
theorem body_ok {call : Caller} (hcall : CallerOk P call) {quiet : FuncId → Bool} (hq : QuietOk call quiet) (hmix : P.follows .mixedOrders = true) {k : FuncId} {fn : Func} (hfn : P.funcs[k]? = some fn) {an : Ann} {mode : Mode} {I : FInfo} (hI : compF P quiet an mode fn = some I)
    {lf : Nat} {as : List CV} {bl : List Blk} {v : CV} {Hf : Heap} (h : bodyC (runC call lf) I as bl = some (v, Hf)) (hi : Inv w F ι ⟨[], bl⟩) {avs : List Value} (hargs : VRl w F ι as avs) :
    Calls P k avs.toArray w fun e w' => ∃ v' F' ι', e = .returned v' ∧ VR w' F' ι' v v' ∧ Inv w' F' ι' Hf ∧ Ext w F ι ⟨[], bl⟩ w' F' ι' Hf := by
  unfold compF at hI
  split at hI
  · cases hI
  · rename_i code hbody
    split at hI
    · cases hI
    · simp only [Option.bind_eq_some_iff, Option.map_eq_some_iff] at hI
      obtain ⟨cc, hcc, rs, hrs, rfl⟩ := hI
      unfold bodyC at h
      split at h <;> (try cases h)
      simp only [Option.bind_eq_some_iff] at h
      obtain ⟨⟨x, env', H1⟩, hrun, hres⟩ := h
      have hlen := VRl.length hargs
      let a0 : Act := { tmps := avs.toArray ++ Array.replicate (fn.ntmps - avs.toArray.size) undef, defers := [] }
      have hst : St fn.ntmps w F ι ⟨[], bl⟩ (enterC 0 as) a0 := by
        refine ⟨fun t => ?_, hi, rfl, by simp [a0]; omega⟩
        rw [at_enter, if_pos (Nat.zero_le _), Nat.sub_zero]
        cases hat : as[t]? with
        | none => simp [VR, BR]
        | some c =>
          obtain ⟨u, hu, huv⟩ := hargs.get t c hat
          have hlt := (List.getElem?_eq_some_iff.1 hu).1
          have : a0.tmps.getD t undef = u := by
            simp [a0, Array.getD_eq_getD_getElem?, Array.getElem?_append, hlt, (List.getElem?_eq_some_iff.1 hu).2]
          rw [this]
          exact huv
      have hwp := code_ok hcall hq hmix code cc w F ι ⟨[], bl⟩ (enterC 0 as) a0 x env' H1 hcc hrun hst
      refine calls_of_wp hfn hbody (wp_mono hwp ?_)
      rintro e a' w' ⟨rfl, F', ι', hst', hext⟩
      have fin : (resAll env' H1 rs).map (fun vs => (resV vs, H1)) = some (v, Hf) → a'.defers = [] ∧ ∃ u, (results fn a'.tmps).run P w' = .ok u w' ∧ ∃ v' F'' ι'', Ending.returned u = .returned v' ∧ VR w' F'' ι'' v v' ∧ Inv w' F'' ι'' Hf ∧ Ext w F ι ⟨[], bl⟩ w' F'' ι'' Hf := by
        intro hr
        simp only [Option.map_eq_some_iff, Prod.mk.injEq] at hr
        obtain ⟨vs, hvs, rfl, rfl⟩ := hr
        obtain ⟨us, h1, h2⟩ := resAll_ok (P := P) hst'.i hst'.e fn.results.toList rs vs hrs hvs
        refine ⟨hst'.d, if h : us.length = 1 then us[0] else .tuple us.toArray, ?_, _, F', ι', rfl, ?_, hst'.i, hext⟩
        · rw [results_eq, Array.mapM_eq_mapM_toList]
          simp only [Sem.run_bind, Sem.run_map, h1]
          simp
        · have hl := VRl.length h2
          cases vs with
          | nil =>
            simp only [VRl] at h2
            subst h2
            simp only [List.length_nil, resV, VR]
            exact ⟨_, rfl, by simp [VRl]⟩
          | cons c vs =>
            cases vs with
            | nil =>
              simp only [VRl] at h2
              obtain ⟨u, us', rfl, h3, rfl⟩ := h2
              simpa [resV] using h3
            | cons d vs =>
              have hne : ¬ us.length = 1 := by simp at hl; omega
              rw [dif_neg hne]
              simp only [resV, VR]
              exact ⟨_, rfl, by simpa using h2⟩
      cases x with
      | norm => exact fin hres
      | ret => exact fin hres
      | exit j => simp at hres

/-! ### What a caller keeps -/

theorem Inv.glob (hi : Inv w F ι H) : Inv w F ι.glob ⟨[], H.bl⟩ where
  len := hi.len
  cells := fun i cs h => by
    cases i with
    | loc s => simp [Heap.get, look] at h
    | blk n => exact hi.cells (.blk n) cs h
  maps := hi.maps
  inj := fun i j b h1 h2 h3 h4 => by
    cases i with
    | loc s => simp [Heap.live, look] at h1
    | blk n =>
      cases j with
      | loc s => simp [Heap.live, look] at h2
      | blk m => exact hi.inj (.blk n) (.blk m) b h1 h2 h3 h4
  dis := fun b hb ⟨i, h1, h2⟩ => by
    cases i with
    | loc s => simp [Heap.live, look] at h1
    | blk n => exact hi.dis b hb ⟨.blk n, h1, h2⟩
  lt := hi.lt
  lo := fun _ _ => rfl

/-- Behind a call that works on the caller's own memory. -/
theorem restore (hi : Inv w F ι H) {w' : World} {F' : Nat → Prop} {ι' : IM} {bx : List (Nat × List CV)} {bl : List Blk} (hi' : Inv w' F' ι' ⟨bx, bl⟩) (hx : Ext w F ι.glob ⟨[], H.bl⟩ w' F' ι' ⟨bx, bl⟩) :
    Inv w' F' ⟨ι.lo, ι'.bl⟩ ⟨H.bx, bl⟩ ∧ Ext w F ι H w' F' ⟨ι.lo, ι'.bl⟩ ⟨H.bx, bl⟩ ∧ MoV w w' F F' ι ⟨ι.lo, ι'.bl⟩ := by
  have hgl : ∀ b, Live ι.glob ⟨[], H.bl⟩ b → Live ι H b := by
    rintro b ⟨i, h1, h2⟩
    cases i with
    | loc s => simp [Heap.live, look] at h1
    | blk n => exact ⟨.blk n, h1, h2⟩
  have hF : ∀ b, F b → w'.heap[b]? = w.heap[b]? := fun b hb => hx.frame b (hi.lt b hb) fun h => hi.dis b hb (hgl b h)
  have hm : MoV w w' F F' ι ⟨ι.lo, ι'.bl⟩ := by
    refine ⟨⟨hx.fmono, hF⟩, fun i b hb => ?_, hx.csz⟩
    cases i with
    | loc s => exact hb
    | blk n => exact hx.pre n b hb
  have hbox : ∀ s b, H.live (.loc s) → ι.get (.loc s) = some b → b < w.heap.size ∧ ¬ Live ι.glob ⟨[], H.bl⟩ b := by
    intro s b h1 h2
    refine ⟨hi.live_lt ⟨.loc s, h1, h2⟩, ?_⟩
    rintro ⟨i, h3, h4⟩
    cases i with
    | loc t => simp [Heap.live, look] at h3
    | blk n =>
      have := hi.inj (.loc s) (.blk n) b h1 h3 h2 h4
      cases this
  have hblk : ∀ n b, (⟨H.bx, bl⟩ : Heap).live (.blk n) → ι'.bl[n]? = some b → Live ι.glob ⟨[], H.bl⟩ b ∨ w.heap.size ≤ b := fun n b h1 h2 => hx.live b ⟨.blk n, h1, h2⟩
  refine ⟨⟨hi'.len, ?_, ?_, ?_, ?_, hi'.lt, hi.lo⟩, ⟨hx.os, hx.tape, hx.output, hx.pre, hx.fmono, hx.fnew, hx.size, hx.csz, fun b hb hn => hx.frame b hb fun h => hn (hgl b h), ?_⟩, hm⟩
  · intro i cs h
    cases i with
    | loc s =>
      obtain ⟨b, c, e, h1, h2, h3, h4⟩ := hi.cells (.loc s) cs h
      obtain ⟨g1, g2⟩ := hbox s b ⟨cs, h⟩ h1
      exact ⟨b, c, e, h1, (hx.frame b g1 g2).trans h2, h3.mono hm, h4⟩
    | blk n => exact hi'.cells (.blk n) cs h
  · exact hi'.maps
  · intro i j b h1 h2 h3 h4
    cases i with
    | loc s =>
      cases j with
      | loc t => exact hi.inj (.loc s) (.loc t) b h1 h2 h3 h4
      | blk n =>
        obtain ⟨g1, g2⟩ := hbox s b h1 h3
        rcases hblk n b h2 h4 with h | h
        · exact (g2 h).elim
        · omega
    | blk n =>
      cases j with
      | loc t =>
        obtain ⟨g1, g2⟩ := hbox t b h2 h4
        rcases hblk n b h1 h3 with h | h
        · exact (g2 h).elim
        · omega
      | blk m => exact hi'.inj (.blk n) (.blk m) b h1 h2 h3 h4
  · rintro b hb ⟨i, h1, h2⟩
    cases i with
    | loc s =>
      obtain ⟨g1, g2⟩ := hbox s b h1 h2
      rcases hx.fnew b hb with h | h
      · exact hi.dis b h ⟨.loc s, h1, h2⟩
      · omega
    | blk n => exact hi'.dis b hb ⟨.blk n, h1, h2⟩
  · rintro b ⟨i, h1, h2⟩
    cases i with
    | loc s => exact .inl ⟨.loc s, h1, h2⟩
    | blk n => exact (hblk n b h1 h2).imp (hgl b) id

mutual
theorem snapV_noref {H' : Heap} {st kn : Bool} {f g : CV → Option CV} : ∀ (c : CV), c.ref = false → snapV H st kn f c = snapV H' st kn g c
  | .op _ _, h => by simp [CV.ref] at h
  | .os _ _ _ _, h => by simp [CV.ref] at h
  | .om _, h => by simp [CV.ref] at h
  | .fn _ a c, h => by
    simp only [CV.ref, Bool.or_eq_false_iff] at h
    simp only [snapV, snapVs_noref (H' := H') (g := g) a h.1, snapVs_noref (H' := H') (g := g) c h.2]
  | .ifc _ x, h => by
    simp only [CV.ref] at h
    simp only [snapV, snapV_noref (H' := H') (g := g) x h]
  | .agg cs, h => by
    simp only [CV.ref] at h
    simp only [snapV, snapVs_noref (H' := H') (g := g) cs h]
  | .tup cs, h => by
    simp only [CV.ref] at h
    simp only [snapV, snapVs_noref (H' := H') (g := g) cs h]
  | .und, _ | .bool _, _ | .int _ _, _ | .float _ _, _ | .cplx _ _ _, _ | .str _, _ | .nilp, _ | .vp _, _ | .nils, _ | .vs _ _, _ | .nilm, _ | .nilf, _ | .nili, _ => by simp only [snapV]
theorem snapVs_noref {H' : Heap} {st kn : Bool} {f g : CV → Option CV} : ∀ (cs : List CV), CV.refs cs = false → snapVs H st kn f cs = snapVs H' st kn g cs
  | [], _ => rfl
  | c :: cs, h => by
    simp only [CV.refs, Bool.or_eq_false_iff] at h
    simp only [snapVs, snapV_noref (H' := H') (g := g) c h.1, snapVs_noref (H' := H') (g := g) cs h.2]
end

theorem snap_noref {H' : Heap} {st kn : Bool} {c : CV} (h : c.ref = false) : snap H st kn c = snap H' st kn c := snapV_noref c h

theorem mapC_noref {f g : CV → Option CV} (hfg : ∀ c, c.ref = false → f c = g c) (cs : List CV) : CV.refs cs = false → mapC f cs = mapC g cs := by
  induction cs with
  | nil => intro _; rfl
  | cons c cs ih =>
    intro h
    simp only [CV.refs, Bool.or_eq_false_iff] at h
    simp only [mapC, hfg c h.1, ih h.2]

theorem snapL_noref {H' : Heap} {st kn : Bool} (cs : List CV) (h : CV.refs cs = false) : snapL H st kn cs = snapL H' st kn cs :=
  mapC_noref (f := snap H st kn) (g := snap H' st kn) (fun _ hc => snap_noref hc) cs h

theorem Inv.empty (w : World) (F : Nat → Prop) (h : ∀ b, F b → b < w.heap.size) : Inv w F IM.nil ⟨[], []⟩ where
  len := rfl
  cells := fun i cs hg => by cases i <;> simp [Heap.get, look] at hg
  maps := fun n es hg => by simp at hg
  inj := fun i j b h1 => by cases i <;> simp [Heap.live, look] at h1
  dis := fun b _ ⟨i, h1, _⟩ => by cases i <;> simp [Heap.live, look] at h1
  lt := h
  lo := fun _ _ => rfl

theorem no_live {b : Nat} : ¬ Live IM.nil ⟨[], []⟩ b := fun ⟨i, h1, _⟩ => by cases i <;> simp [Heap.live, look] at h1

/-- The arguments of a call by value. -/
theorem args_ok (hi : Inv w F ι H) {as as' : List CV} (hs : snapL H false false as = some as') {avs : List Value} (hv : VRl w F ι as avs) :
    BRl w (fun b => F b ∨ (CV.refs as = true ∧ Live ι H b)) as' avs := by
  cases hr : CV.refs as with
  | true => exact hi.snapL (G := fun b => F b ∨ (true = true ∧ Live ι H b)) (fun b hb => .inr ⟨rfl, hb⟩) (.inr fun b hb => .inl hb) hs hv
  | false =>
    rw [snapL_noref (H' := ⟨[], []⟩) as hr] at hs
    have hv' : VRl w F IM.nil as avs := BRl.vr _ _ (VRl.bv _ _ hr hv)
    have := (Inv.empty w F hi.lt).snapL (G := F) (fun b hb => (no_live hb).elim) (.inr fun b hb => hb) hs hv'
    exact BRl.mono ⟨fun b hb => .inl hb, fun _ _ => rfl⟩ _ _ this

/-- Behind a call by value: nothing that was there has turned. -/
theorem behind (hi : Inv w F ι H) {w' : World} {F1 : Nat → Prop} {ι1 : IM} {Hf : Heap} {Fc G : Nat → Prop} (hx : Ext w Fc IM.nil ⟨[], []⟩ w' F1 ι1 Hf) (hG : ∀ b, F b → G b) (hG2 : ∀ b, G b → F b ∨ w.heap.size ≤ b) (hG3 : ∀ b, G b → b < w'.heap.size) :
    Inv w' G ι H ∧ Ext w F ι H w' G ι H ∧ MoV w w' F G ι ι := by
  have hsame : ∀ b, b < w.heap.size → w'.heap[b]? = w.heap[b]? := fun b hb => hx.frame b hb no_live
  have hm : MoV w w' F G ι ι := ⟨⟨hG, fun b hb => hsame b (hi.lt b hb)⟩, fun _ _ h => h, hx.csz⟩
  refine ⟨hi.build hm hi.len (fun i cs h => .inl ⟨h, fun b hb => hsame b (hi.live_lt ⟨i, live_iff.2 (.inl ⟨cs, h⟩), hb⟩)⟩) (fun n es h => .inl ⟨h, fun b hb => hsame b (hi.live_lt ⟨.blk n, live_iff.2 (.inr ⟨n, es, rfl, h⟩), hb⟩)⟩) hi.inj ?_ hG3 hi.lo,
    ⟨hx.os, hx.tape, hx.output, fun _ _ h => h, hG, hG2, hx.size, hx.csz, fun b hb _ => hsame b hb, fun _ h => .inl h⟩, hm⟩
  intro b hb hl
  rcases hG2 b hb with h | h
  · exact hi.dis b h hl
  · have := hi.live_lt hl; omega

mutual
theorem snapV_agr {H H' : Heap} (h : Agr (fun _ => True) H H') {st kn : Bool} {f g : CV → Option CV} (hfg : ∀ c, f c = g c) : ∀ (c : CV), snapV H st kn f c = snapV H' st kn g c
  | .op i off => by
    have hm : ∀ l, mapC f l = mapC g l := fun l => by rw [show f = g from funext hfg]
    simp only [snapV, alike_get h, hm]
  | .os sz i off n => by
    have hm : ∀ l, mapC f l = mapC g l := fun l => by rw [show f = g from funext hfg]
    simp only [snapV, alike_get h, hm]
  | .fn _ a c => by simp only [snapV, snapVs_agr h hfg a, snapVs_agr h hfg c]
  | .ifc _ x => by simp only [snapV, snapV_agr h hfg x]
  | .agg cs => by simp only [snapV, snapVs_agr h hfg cs]
  | .tup cs => by simp only [snapV, snapVs_agr h hfg cs]
  | .om _ | .nils | .vp _ | .vs _ _ | .und | .bool _ | .int _ _ | .float _ _ | .cplx _ _ _ | .str _ | .nilp | .nilm | .nilf | .nili => by simp only [snapV]
theorem snapVs_agr {H H' : Heap} (h : Agr (fun _ => True) H H') {st kn : Bool} {f g : CV → Option CV} (hfg : ∀ c, f c = g c) : ∀ (cs : List CV), snapVs H st kn f cs = snapVs H' st kn g cs
  | [] => by simp only [snapVs]
  | c :: cs => by simp only [snapVs, snapV_agr h hfg c, snapVs_agr h hfg cs]
end

theorem snapN_agr {H H' : Heap} (h : Agr (fun _ => True) H H') {st kn : Bool} : ∀ (n : Nat) (c : CV), snapN H st kn n c = snapN H' st kn n c
  | 0, _ => rfl
  | n + 1, c => snapV_agr h (snapN_agr h n) c

theorem snapL_agr {H H' : Heap} (h : Agr (fun _ => True) H H') {st kn : Bool} (l : List CV) : snapL H st kn l = snapL H' st kn l := by
  unfold snapL
  rw [show snap H st kn = snap H' st kn from funext fun c => snapN_agr h deep c]

theorem callC_agr {C : Ctx} {r : CCode → Env → Heap → Out} {f : CV} {args : List CV} {H H' : Heap} {v : CV} {H1 : Heap} (ha : Agr (fun _ => True) H H') (h : callC C r f args H = some (v, H1)) : ∃ H1', callC C r f args H' = some (v, H1') ∧ Agr (fun _ => True) H1 H1' := by
  unfold callC at h ⊢
  split at h <;> (try cases h)
  rename_i k first cap
  dsimp only at h ⊢
  rw [← ha.bl]
  simp only [← snapL_agr ha]
  cases hp : C.prim k with
  | some s =>
    simp only [hp] at h ⊢
    split at h <;> (try cases h)
    rename_i hl
    rw [if_neg hl]
    obtain ⟨x, h1, h2⟩ := Option.bind_eq_some_iff.1 h
    split at h2 <;> cases h2
    rename_i hv
    exact ⟨⟨H'.bx, x.2⟩, by rw [h1, Option.bind_some, if_neg hv], rfl, ha.bx⟩
  | none =>
    simp only [hp] at h ⊢
    cases hI : C.info k with
    | none => simp [hI] at h
    | some I =>
      simp only [hI] at h ⊢
      cases hm : I.mode with
      | ref =>
        simp only [hm] at h ⊢
        split at h <;> (try cases h)
        rename_i hl
        rw [if_neg hl]
        obtain ⟨x, h1, h2⟩ := Option.bind_eq_some_iff.1 h
        split at h2 <;> cases h2
        rename_i hv
        exact ⟨⟨H'.bx, x.2.bl⟩, by rw [h1, Option.bind_some, if_neg hv], rfl, ha.bx⟩
      | fz kn =>
        simp only [hm] at h ⊢
        obtain ⟨as', h0, h⟩ := Option.bind_eq_some_iff.1 h
        obtain ⟨x, h1, h2⟩ := Option.bind_eq_some_iff.1 h
        obtain ⟨u, h3, h4⟩ := Option.map_eq_some_iff.1 h2
        cases h4
        exact ⟨H', by rw [h0, Option.bind_some, h1, Option.bind_some, h3]; rfl, ha⟩
      | own =>
        simp only [hm] at h ⊢
        obtain ⟨as', h0, h⟩ := Option.bind_eq_some_iff.1 h
        obtain ⟨x, h1, h2⟩ := Option.bind_eq_some_iff.1 h
        obtain ⟨u, h3, h4⟩ := Option.map_eq_some_iff.1 h2
        rw [h0, Option.bind_some, h1, Option.bind_some, h3]
        cases u with
        | none =>
          simp only [Prod.mk.injEq] at h4
          obtain ⟨rfl, rfl⟩ := h4
          exact ⟨H', rfl, ha⟩
        | some y =>
          obtain ⟨sz, n, cs⟩ := y
          simp only [Prod.mk.injEq] at h4
          obtain ⟨rfl, rfl⟩ := h4
          exact ⟨H'.push (.cells cs), by simp, (ha.push _).1⟩

theorem mapC_up {f g : CV → Option CV} (h : ∀ c v, f c = some v → g c = some v) : ∀ (l r : List CV), mapC f l = some r → mapC g l = some r
  | [], r, hr => by simpa only [mapC] using hr
  | c :: cs, r, hr => by
    simp only [mapC, Option.bind_eq_some_iff, Option.map_eq_some_iff] at hr ⊢
    obtain ⟨u, h1, us, h2, rfl⟩ := hr
    exact ⟨u, h _ _ h1, us, mapC_up h cs us h2, rfl⟩

theorem get_lone {H : Heap} {i : Id} {cs : List CV} (h : Heap.get ⟨[], H.bl⟩ i = some cs) : H.get i = some cs := by
  cases i with
  | loc s => simp [Heap.get, look] at h
  | blk n => exact h

mutual
theorem snapV_lone {H : Heap} {st kn : Bool} {f g : CV → Option CV} (hfg : ∀ c v, f c = some v → g c = some v) : ∀ (c v : CV), snapV ⟨[], H.bl⟩ st kn f c = some v → snapV H st kn g c = some v
  | .op i off, v, h => by
    simp only [snapV, Option.bind_eq_some_iff] at h ⊢
    obtain ⟨cs, h1, h2⟩ := h
    refine ⟨cs, get_lone h1, ?_⟩
    split at h2 <;> (try cases h2)
    rename_i hc
    obtain ⟨u, h3, h4⟩ := Option.map_eq_some_iff.1 h2
    rw [if_pos hc, mapC_up hfg _ _ h3]
    exact congrArg some h4
  | .os sz i off n, v, h => by
    simp only [snapV] at h ⊢
    split at h
    · rename_i h0; rw [if_pos h0]; exact h
    · rename_i h0
      rw [if_neg h0]
      obtain ⟨cs, h1, h2⟩ := Option.bind_eq_some_iff.1 h
      rw [get_lone h1, Option.bind_some]
      split at h2 <;> (try cases h2)
      rename_i hc
      obtain ⟨u, h3, h4⟩ := Option.map_eq_some_iff.1 h2
      rw [if_pos hc, mapC_up hfg _ _ h3]
      exact congrArg some h4
  | .fn _ a c, v, h => by
    simp only [snapV, Option.bind_eq_some_iff, Option.map_eq_some_iff] at h ⊢
    obtain ⟨x, h1, y, h2, h3⟩ := h
    exact ⟨x, snapVs_lone hfg _ _ h1, y, snapVs_lone hfg _ _ h2, h3⟩
  | .ifc _ x, v, h => by
    simp only [snapV, Option.map_eq_some_iff] at h ⊢
    obtain ⟨y, h1, h2⟩ := h
    exact ⟨y, snapV_lone hfg _ _ h1, h2⟩
  | .agg cs, v, h => by
    simp only [snapV, Option.map_eq_some_iff] at h ⊢
    obtain ⟨y, h1, h2⟩ := h
    exact ⟨y, snapVs_lone hfg _ _ h1, h2⟩
  | .tup cs, v, h => by
    simp only [snapV, Option.map_eq_some_iff] at h ⊢
    obtain ⟨y, h1, h2⟩ := h
    exact ⟨y, snapVs_lone hfg _ _ h1, h2⟩
  | .om _, v, h | .nils, v, h | .vp _, v, h | .vs _ _, v, h | .und, v, h | .bool _, v, h | .int _ _, v, h | .float _ _, v, h | .cplx _ _ _, v, h | .str _, v, h | .nilp, v, h | .nilm, v, h | .nilf, v, h | .nili, v, h => by simpa only [snapV] using h
theorem snapVs_lone {H : Heap} {st kn : Bool} {f g : CV → Option CV} (hfg : ∀ c v, f c = some v → g c = some v) : ∀ (cs vs : List CV), snapVs ⟨[], H.bl⟩ st kn f cs = some vs → snapVs H st kn g cs = some vs
  | [], v, h => by simpa only [snapVs] using h
  | c :: cs, v, h => by
    simp only [snapVs, Option.bind_eq_some_iff, Option.map_eq_some_iff] at h ⊢
    obtain ⟨x, h1, y, h2, h3⟩ := h
    exact ⟨x, snapV_lone hfg _ _ h1, y, snapVs_lone hfg _ _ h2, h3⟩
end

theorem snapN_lone {H : Heap} {st kn : Bool} : ∀ (n : Nat) (c v : CV), snapN ⟨[], H.bl⟩ st kn n c = some v → snapN H st kn n c = some v
  | 0, _, _, h => by simp [snapN] at h
  | n + 1, c, v, h => snapV_lone (snapN_lone n) c v h

theorem snapL_lone {H : Heap} {st kn : Bool} {l r : List CV} (h : snapL ⟨[], H.bl⟩ st kn l = some r) : snapL H st kn l = some r := mapC_up (fun c v hv => snapN_lone deep c v hv) l r h

theorem callC_lone {C : Ctx} {r : CCode → Env → Heap → Out} {f : CV} {args : List CV} {H : Heap} {v : CV} {H1 : Heap} (h : callC C r f args ⟨[], H.bl⟩ = some (v, H1)) : callC C r f args H = some (v, ⟨H.bx, H1.bl⟩) := by
  unfold callC at h ⊢
  split at h <;> (try cases h)
  rename_i k first cap
  dsimp only at h ⊢
  cases hp : C.prim k with
  | some s =>
    simp only [hp] at h ⊢
    split at h <;> (try cases h)
    rename_i hl
    rw [if_neg hl]
    obtain ⟨x, h1, h2⟩ := Option.bind_eq_some_iff.1 h
    rw [h1, Option.bind_some]
    split at h2 <;> (try cases h2)
    rename_i hx
    rw [if_neg hx]
  | none =>
    simp only [hp] at h ⊢
    cases hI : C.info k with
    | none => simp [hI] at h
    | some I =>
      simp only [hI] at h ⊢
      cases hm : I.mode with
      | ref =>
        simp only [hm] at h ⊢
        split at h <;> (try cases h)
        rename_i hl
        rw [if_neg hl]
        obtain ⟨x, h1, h2⟩ := Option.bind_eq_some_iff.1 h
        rw [h1, Option.bind_some]
        split at h2 <;> (try cases h2)
        rename_i hx
        rw [if_neg hx]
      | fz kn =>
        simp only [hm] at h ⊢
        obtain ⟨as', h1, h2⟩ := Option.bind_eq_some_iff.1 h
        rw [snapL_lone h1, Option.bind_some]
        obtain ⟨x, h3, h4⟩ := Option.bind_eq_some_iff.1 h2
        rw [h3, Option.bind_some]
        obtain ⟨y, h5, h6⟩ := Option.map_eq_some_iff.1 h4
        rw [h5, Option.map_some]
        cases h6
        rfl
      | own =>
        simp only [hm] at h ⊢
        obtain ⟨as', h1, h2⟩ := Option.bind_eq_some_iff.1 h
        rw [snapL_lone h1, Option.bind_some]
        obtain ⟨x, h3, h4⟩ := Option.bind_eq_some_iff.1 h2
        rw [h3, Option.bind_some]
        obtain ⟨y, h5, h6⟩ := Option.map_eq_some_iff.1 h4
        rw [h5, Option.map_some]
        cases y with
        | none => simp only [Prod.mk.injEq] at h6; obtain ⟨rfl, rfl⟩ := h6; rfl
        | some y =>
          obtain ⟨sz, n, cs⟩ := y
          simp only [Prod.mk.injEq] at h6
          obtain ⟨rfl, rfl⟩ := h6
          rfl

theorem caller_ok {C : Ctx} (hC : CtxOk P C) : ∀ n, CallerOk P (callC C (run C n)) ∧ QuietOk (callC C (run C n)) (quietOf C) := by
  intro n
  have hquiet : ∀ n, QuietOk (callC C (run C n)) (quietOf C) := by
    intro n
    refine ⟨?_, ?_, fun f args H v H1 h => callC_lone h, fun f args H H' v H1 ha h => callC_agr ha h⟩
    · intro k first cap args H v H1 hq hrf h
      simp only [quietOf, Bool.and_eq_true, Option.isNone_iff_eq_none] at hq
      obtain ⟨h1, h2⟩ := hq
      simp only [callC, h1] at h ⊢
      cases hI : C.info k with
      | none => simp [hI] at h
      | some I =>
        simp only [hI] at h h2 ⊢
        cases hm : I.mode with
        | ref => simp [hm] at h2
        | own => simp [hm] at h2
        | fz kn =>
          have hrf' : CV.refs (first ++ (args ++ cap)) = false := by
            have app : ∀ (a b : List CV), CV.refs (a ++ b) = (CV.refs a || CV.refs b) := by
              intro a b
              induction a with
              | nil => simp [CV.refs]
              | cons c a ih => simp [CV.refs, ih, Bool.or_assoc]
            simp only [CV.refs, CV.ref, Bool.or_eq_false_iff] at hrf
            simp [app, hrf]
          simp only [hm, Option.bind_eq_some_iff, Option.map_eq_some_iff, Prod.mk.injEq] at h ⊢
          obtain ⟨as', g1, x, g2, y, g3, rfl, rfl⟩ := h
          exact ⟨as', by rw [← g1]; exact snapL_noref _ hrf', x, g2, y, g3, rfl, trivial⟩
    intro k first cap args H v H' hq h
    simp only [quietOf, Bool.and_eq_true, Option.isNone_iff_eq_none] at hq
    obtain ⟨h1, h2⟩ := hq
    simp only [callC, h1] at h
    cases hI : C.info k with
    | none => simp [hI] at h
    | some I =>
      simp only [hI] at h h2
      cases hm : I.mode with
      | ref => simp [hm] at h2
      | own => simp [hm] at h2
      | fz kn =>
        simp only [hm, Option.bind_eq_some_iff, Option.map_eq_some_iff, Prod.mk.injEq] at h
        obtain ⟨_, _, _, _, _, _, _, rfl⟩ := h
        rfl
  refine ⟨?_, hquiet n⟩
  induction n with
  | zero =>
    intro f args H v H' h
    have hrun : ∀ I as bl, bodyC (run C 0) I as bl = none := by intro I as bl; unfold bodyC run; split <;> rfl
    unfold callC at h
    split at h <;> (try cases h)
    rename_i k first cap
    dsimp only at h
    cases hp : C.prim k with
    | none =>
      simp only [hp] at h
      cases hI : C.info k with
      | none => simp [hI] at h
      | some I =>
        simp only [hI] at h
        cases hm : I.mode with
        | ref => simp only [hm, hrun] at h; split at h <;> simp at h
        | own =>
          simp only [hm, hrun, Option.bind_eq_some_iff] at h
          obtain ⟨_, _, _, h, _⟩ := h
          cases h
        | fz kn =>
          simp only [hm, hrun, Option.bind_eq_some_iff] at h
          obtain ⟨_, _, _, h, _⟩ := h
          cases h
    | some s =>
      simp only [hp] at h
      split at h <;> (try cases h)
      rename_i hl
      simp only [Option.bind_eq_some_iff] at h
      obtain ⟨⟨v1, bl1⟩, h1, h2⟩ := h
      split at h2 <;> (try cases h2)
      rename_i hv
      obtain ⟨fn, g1, g2, g3, g4⟩ := hC.prim k s hp
      refine ⟨k, first, cap, fn, rfl, g1, g2, g3, ?_⟩
      intro w F ι as hi hvs
      refine (g4 _ _ _ _ h1 w F ι.glob as (fun _ => rfl) hi.glob (VRl.noloc _ _ (by simpa using hl) hvs)).mono ?_
      rintro e w' ⟨v', F', ι', bx, rfl, k1, k2, k3⟩
      obtain ⟨r1, r2, r3⟩ := restore hi k2 k3
      refine ⟨v', F', _, rfl, ?_, r1, r2, r3⟩
      exact VR.mono ⟨⟨fun _ h => h, fun _ _ => rfl⟩, fun i b hb => by cases i <;> simp_all [IM.glob, IM.get], fun _ _ h => h⟩ _ _ (VR.noloc _ _ (by simpa using hv) k1)
  | succ n ih =>
    intro f args H v H' h
    unfold callC at h
    split at h <;> (try cases h)
    rename_i k first cap
    dsimp only at h
    cases hp : C.prim k with
    | some s =>
      simp only [hp] at h
      split at h <;> (try cases h)
      rename_i hl
      simp only [Option.bind_eq_some_iff] at h
      obtain ⟨⟨v1, bl1⟩, h1, h2⟩ := h
      split at h2 <;> (try cases h2)
      rename_i hv
      obtain ⟨fn, g1, g2, g3, g4⟩ := hC.prim k s hp
      refine ⟨k, first, cap, fn, rfl, g1, g2, g3, ?_⟩
      intro w F ι as hi hvs
      refine (g4 _ _ _ _ h1 w F ι.glob as (fun _ => rfl) hi.glob (VRl.noloc _ _ (by simpa using hl) hvs)).mono ?_
      rintro e w' ⟨v', F', ι', bx, rfl, k1, k2, k3⟩
      obtain ⟨r1, r2, r3⟩ := restore hi k2 k3
      refine ⟨v', F', _, rfl, ?_, r1, r2, r3⟩
      exact VR.mono ⟨⟨fun _ h => h, fun _ _ => rfl⟩, fun i b hb => by cases i <;> simp_all [IM.glob, IM.get], fun _ _ h => h⟩ _ _ (VR.noloc _ _ (by simpa using hv) k1)
    | none =>
      simp only [hp] at h
      cases hI : C.info k with
      | none => simp [hI] at h
      | some I =>
        simp only [hI] at h
        obtain ⟨fn, an, hfn, hcomp⟩ := hC.info k I hp hI
        have hbody : fn.body.isSome = true ∧ (fn.name == "runtime.NumGoroutine") = false := by
          unfold compF at hcomp
          split at hcomp
          · cases hcomp
          · rename_i c hc
            split at hcomp
            · cases hcomp
            · rename_i hnm
              exact ⟨by simp [hc], by simpa using hnm⟩
        have body := fun (as : List CV) (bl : List Blk) (v : CV) (Hf : Heap) (h : bodyC (run C (n + 1)) I as bl = some (v, Hf)) (w : World) (F : Nat → Prop) (ι : IM) (hi : Inv w F ι ⟨[], bl⟩) (avs : List Value) (hargs : VRl w F ι as avs) =>
          body_ok (P := P) ih (hquiet n) hC.mix hfn hcomp (lf := n) (as := as) (bl := bl) (v := v) (Hf := Hf) h hi hargs
        refine ⟨k, first, cap, fn, rfl, hfn, hbody.1, hbody.2, ?_⟩
        intro w F ι as hi hvs
        cases hm : I.mode with
        | ref =>
          simp only [hm] at h
          split at h <;> (try cases h)
          rename_i hl
          simp only [Option.bind_eq_some_iff] at h
          obtain ⟨⟨v1, H1⟩, h1, h2⟩ := h
          split at h2 <;> (try cases h2)
          rename_i hv
          refine (body _ _ _ _ h1 w F ι.glob hi.glob as (VRl.noloc _ _ (by simpa using hl) hvs)).mono ?_
          rintro e w' ⟨v', F', ι', rfl, k1, k2, k3⟩
          obtain ⟨r1, r2, r3⟩ := restore hi (bx := H1.bx) (bl := H1.bl) k2 k3
          refine ⟨v', F', _, rfl, ?_, r1, r2, r3⟩
          exact VR.mono ⟨⟨fun _ h => h, fun _ _ => rfl⟩, fun i b hb => by cases i <;> simp_all [IM.glob, IM.get], fun _ _ h => h⟩ _ _ (VR.noloc _ _ (by simpa using hv) k1)
        | fz kn =>
          simp only [hm, Option.bind_eq_some_iff, Option.map_eq_some_iff, Prod.mk.injEq] at h
          obtain ⟨as', hs, ⟨v1, Hf⟩, hb, v2, hsn, rfl, rfl⟩ := h
          have hargs := args_ok hi hs hvs
          have hlt : ∀ b, (F b ∨ (CV.refs (first ++ (args ++ cap)) = true ∧ Live ι H b)) → b < w.heap.size := fun b hb => hb.elim (hi.lt b) fun h => hi.live_lt h.2
          refine (body _ _ _ _ hb w _ IM.nil (Inv.empty w _ hlt) as (BRl.vr _ _ hargs)).mono ?_
          rintro e w' ⟨v', F1, ι1, rfl, k1, k2, k3⟩
          have hbr : BR w' (fun b => F b ∨ (w.heap.size ≤ b ∧ b < w'.heap.size)) v2 v' := by
            refine k2.snap (fun b hb => ?_) ?_ hsn k1
            · rcases k3.live b hb with h | h
              · exact (no_live h).elim
              · exact .inr ⟨h, k2.live_lt hb⟩
            · cases hr : CV.refs (first ++ (args ++ cap)) with
              | true => exact .inl rfl
              | false =>
                right
                intro b hb
                rcases k3.fnew b hb with h | h
                · rcases h with h | ⟨h, _⟩
                  · exact .inl h
                  · rw [hr] at h; cases h
                · exact .inr ⟨h, k2.lt b hb⟩
          obtain ⟨r1, r2, r3⟩ := behind hi k3 (G := fun b => F b ∨ (w.heap.size ≤ b ∧ b < w'.heap.size)) (fun b hb => .inl hb) (fun b hb => hb.imp id fun h => h.1) (fun b hb => hb.elim (fun h => Nat.lt_of_lt_of_le (hi.lt b h) k3.size) fun h => h.2)
          exact ⟨v', _, ι, rfl, BR.vr _ _ hbr, r1, r2, r3⟩
        | own =>
          simp only [hm, Option.bind_eq_some_iff, Option.map_eq_some_iff] at h
          obtain ⟨as', hs, ⟨v1, Hf⟩, hb, r, hown, hres⟩ := h
          have hargs := args_ok hi hs hvs
          have hlt : ∀ b, (F b ∨ (CV.refs (first ++ (args ++ cap)) = true ∧ Live ι H b)) → b < w.heap.size := fun b hb => hb.elim (hi.lt b) fun h => hi.live_lt h.2
          refine (body _ _ _ _ hb w _ IM.nil (Inv.empty w _ hlt) as (BRl.vr _ _ hargs)).mono ?_
          rintro e w' ⟨v', F1, ι1, rfl, k1, k2, k3⟩
          dsimp only at hown
          unfold ownOf at hown
          split at hown <;> (try cases hown)
          · simp only [Prod.mk.injEq] at hres
            obtain ⟨rfl, rfl⟩ := hres
            obtain ⟨r1, r2, r3⟩ := behind hi k3 (G := F) (fun b hb => hb) (fun b hb => .inl hb) (fun b hb => Nat.lt_of_lt_of_le (hi.lt b hb) k3.size)
            exact ⟨v', _, ι, rfl, by simpa [VR, BR] using k1, r1, r2, r3⟩
          · rename_i sz m len
            simp only [Option.bind_eq_some_iff] at hown
            obtain ⟨cs, hcs, hown⟩ := hown
            split at hown <;> (try cases hown)
            simp only [Option.map_eq_some_iff] at hown
            obtain ⟨cs', hmap, rfl⟩ := hown
            simp only [Prod.mk.injEq] at hres
            obtain ⟨rfl, rfl⟩ := hres
            obtain ⟨b0, c, ec, q1, q2, q3, q4⟩ := k2.cells (.blk m) cs hcs
            have hlive0 : Live ι1 Hf b0 := ⟨.blk m, live_iff.2 (.inl ⟨cs, hcs⟩), q1⟩
            have hge : w.heap.size ≤ b0 := by
              rcases k3.live b0 hlive0 with h | h
              · exact (no_live h).elim
              · exact h
            have hlt0 := k2.live_lt hlive0
            let G : Nat → Prop := fun b => F b ∨ (w.heap.size ≤ b ∧ b < w'.heap.size ∧ b ≠ b0)
            obtain ⟨r1, r2, r3⟩ := behind hi k3 (G := G) (fun b hb => .inl hb) (fun b hb => hb.imp id fun h => h.1) (fun b hb => hb.elim (fun h => Nat.lt_of_lt_of_le (hi.lt b h) k3.size) fun h => h.2.1)
            have hnl : ¬ Live ι H b0 := fun h => by have := hi.live_lt h; omega
            have hng : ¬ G b0 := by
              rintro (h | h)
              · have := hi.lt b0 h; omega
              · exact h.2.2 rfl
            have hw : WTo w' w' b0 := ⟨rfl, rfl, rfl, Nat.le_refl _, hlt0, fun _ _ _ => rfl, fun _ h => h⟩
            have hst : ∀ (j : Nat) (x : CV), cs'[j]? = some x → ∃ u, c[j]? = some u ∧ VR w' G ι.glob x u := by
              intro j x hx
              obtain ⟨y, hy, hsy⟩ := mapC_get _ _ hmap j x hx
              obtain ⟨u, hu, huv⟩ := q3 j y hy
              refine ⟨u, hu, BR.vr _ _ ?_⟩
              refine (k2.kill m).snap (fun b hb => ?_) ?_ hsy huv.glob
              · obtain ⟨i, h1, h2⟩ := hb
                obtain ⟨h3, h4⟩ := live_kill h1
                have hb' : Live ι1 Hf b := ⟨i, h4, h2⟩
                rcases k3.live b hb' with h | h
                · exact (no_live h).elim
                · refine .inr ⟨h, k2.live_lt hb', ?_⟩
                  rintro rfl
                  exact h3 (k2.inj i (.blk m) b h4 (live_iff.2 (.inl ⟨cs, hcs⟩)) h2 q1)
              · cases hr : CV.refs (first ++ (args ++ cap)) with
                | true => exact .inl rfl
                | false =>
                  right
                  intro b hb
                  rcases k3.fnew b hb with h | h
                  · rcases h with h | ⟨h, _⟩
                    · exact .inl h
                    · rw [hr] at h; cases h
                  · refine .inr ⟨h, k2.lt b hb, ?_⟩
                    rintro rfl
                    exact k2.dis b hb hlive0
            obtain ⟨t1, t2⟩ := r1.add hw hnl hng q2 hst q4
            refine ⟨v', G, ι.push b0, rfl, ?_, t1, ?_, ⟨⟨fun b hb => .inl hb, r3.h⟩, ι.push_le b0, r3.c⟩⟩
            · simp only [VR] at k1 ⊢
              obtain ⟨base, cap, g1, g2, g3⟩ := k1
              refine ⟨base, cap, g1, g2, ?_⟩
              rcases g3 with g3 | ⟨b, N, g3, g4, g5, g6⟩
              · exact .inl g3
              · rw [q1] at g3; cases g3
                exact .inr ⟨b0, N, by rw [IM.get_push, hi.len, if_pos rfl], g4, g5, g6⟩
            · refine ⟨r2.os, r2.tape, r2.output, fun n x h => ?_, fun b hb => .inl hb, r2.fnew, r2.size, r2.csz, r2.frame, ?_⟩
              · simp only [IM.push]
                rw [List.getElem?_append_left (List.getElem?_eq_some_iff.1 h).1]; exact h
              · rintro b ⟨i, h1, h2⟩
                rw [IM.get_push, hi.len] at h2
                rcases live_push h1 with rfl | h1
                · rw [if_pos rfl] at h2; cases h2; exact .inr hge
                · split at h2
                  · cases h2; exact .inr hge
                  · exact .inl ⟨i, h1, h2⟩

end
end Go.Zc
