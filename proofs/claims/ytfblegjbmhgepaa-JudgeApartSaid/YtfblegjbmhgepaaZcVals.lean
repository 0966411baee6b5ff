/- 'slices.Sorted(seq)' over an iterator that reads memory which its rounds leave alone (slices.Values). Lines of the worked proofs of slices.Collect, turned. No condition. -/
import Derived.Test.YtfblegjbmhgepaaZcKeys
set_option linter.all false
set_option linter.unusedVariables false
set_option linter.unusedSimpArgs false
namespace Go.Zc
open Go.Proofs Go.RowKit Go.Maps Go.Sort Go.Shelf
variable {P : Program} {ρ : Ren}

/-- As 'SeqGives', told that what lay before stays. -/
def SeqGivesB {α : Type} (F : Fence) (n : Nat) (P : Program) (g : Nat) (lb : Array Value) (enc : α → Value) (S : List α → Prop) (N : Nat) (w : World) : Prop :=
  ∀ (l : Nat) (J : List α → World → Prop) (W : World), Below w.heap.size w W → AbidesFrom W.heap.size J → (∀ s W', J s W' → Below w.heap.size w W') →
    (∀ pre x W1, J pre W1 → pre.length < N → YieldAt F (n - 1) P l #[enc x] W1 fun e W' => e = .returned (.bool true) ∧ J (pre ++ [x]) W' ∧ KeepsWalks W1 W') →
    J [] W → CallsIn F n P g (#[.func (.yield l) #[] #[]] ++ lb) W fun e W' => (∃ v, e = .returned v) ∧ ∃ xs, S xs ∧ J xs W'
theorem SeqGivesB.bounded {α : Type} {F : Fence} {n : Nat} {P : Program} {g : Nat} {lb : Array Value} {enc : α → Value} {S : List α → Prop} {N : Nat} {w : World}
    (h : SeqGivesB F n P g lb enc S N w) : SeqGivesB F n P g lb enc (fun xs => S xs ∧ xs.length ≤ N) N w := fun l J W hW hJ hB hY h0 => by
  refine (h l (fun xs W' => J xs W' ∧ xs.length ≤ N) W hW (fun s A B row hs hg hr => ⟨hJ s A B row hs.1 hg hr, hs.2⟩) (fun s W' hs => hB s W' hs.1)
    (fun pre x W1 hj hl => (hY pre x W1 hj.1 hl).mono (fun e w' hr => ⟨hr.1, ⟨hr.2.1, by simp; omega⟩, hr.2.2⟩)) ⟨h0, Nat.zero_le _⟩).mono ?_
  rintro e W' ⟨hv, xs, hS, hJ', hlen⟩
  exact ⟨hv, xs, ⟨hS, hlen⟩, hJ'⟩

set_option maxRecDepth 100000 in
set_option maxHeartbeats 2000000 in
theorem appendSeqB (L : SlLaysZI.n11 P ρ) (F : Fence) (n : Nat) (h11 : F.fn (ρ.f 11)) (hro : F.round = none) (hn : 2 ≤ n) (g : Nat) (lb : Array Value) (hFg : F.fn g) (eg : ∀ args w, (callFunc g args).run P w = .ok (.enter g args) w)
    (S : List Int → Prop) (N : Nat) (hN : N ≤ maxLen) (hNb : N * 8 ≤ 140737488355328) (w : World) (hseq : SeqGivesB F (n - 1) P g lb encZ S N w) :
    CallsIn F n P (ρ.f 11) #[.slice none 0 0, .func (.func g) #[] lb] w fun e w' => ∃ (v : Value) (ss : List Int), e = .returned v ∧ S ss ∧ w'.ownsRow w.heap.size (ρ.t 26) 1 v ss.length (ss.map encZ) ∧ (v = .slice none 0 0 ↔ ss = []) ∧ Below w.heap.size w w' := by
  have h1 : 1 ≤ n := by omega
  have mixed := L.mixed; have t0 := L.t0; have a0 := L.a0; have z0 := L.z0; have v0 := L.v0; have t24 := L.t24; have a24 := L.a24; have z24 := L.z24; have v24 := L.v24; have t26 := L.t26; have a26 := L.a26; have z26 := L.z26; have v26 := L.v26; have t28 := L.t28; have a28 := L.a28; have z28 := L.z28; have v28 := L.v28
  have hne : ρ.t 24 ≠ ρ.t 26 := fun e => by have h := L.t24; rw [e, L.t26] at h; cases h
  have u0 := run_underlying L.t0; have u24 := run_underlying L.t24; have u26 := run_underlying L.t26; have u28 := run_underlying L.t28
  obtain ⟨_, _, FG⟩ := L.f11
  refine callsIn_of_wp_marks FG rfl h11 ?_ hro
  simp only [SlBodyZ.n11_ntmps ρ, List.size_toArray, List.length_cons, List.length_nil, Nat.reduceAdd, Nat.reduceSub, Array.replicate_succ, Array.replicate_zero, List.push_toArray, List.append_toArray, List.nil_append, List.cons_append]
  gi_wp2
  refine wpIn_rangeFunc ?_
  intro fn hfn
  rw [hro]
  obtain ⟨W0, hW0⟩ : ∃ W0, w.alloc (.cells #[.slice none 0 0] (ρ.t 24)) = W0 := ⟨_, rfl⟩
  have hs0 : W0.heap.size = w.heap.size + 1 := by rw [← hW0]; simp
  have hv0 : W0.heap[w.heap.size]? = some (.cells #[.slice none 0 0] (ρ.t 24) (0, 0)) := by rw [← hW0]; exact World.alloc_heap_new w _
  have hb0 : Below w.heap.size w W0 := by rw [← hW0]; exact (Below.refl _ w).alloc (Nat.le_refl _) _
  rw [hW0]
  obtain ⟨W1, hW1⟩ : ∃ W1, (W0.alloc (.deferred (some []))).alloc (.loop (AnyZI.apRec ρ fn (.func (.func g) #[] lb) w.heap.size W0.heap.size .ready none)) = W1 := ⟨_, rfl⟩
  have hold : ∀ k, k < W0.heap.size → W1.heap[k]? = W0.heap[k]? := fun k hk => by
    rw [← hW1]; exact (Below.heap_alloc _ _ k (by simp; omega)).trans (Below.heap_alloc _ _ k hk)
  have hb1 : Below w.heap.size w W1 := by rw [← hW1]; exact (hb0.alloc hb0.size _).alloc (by have := hb0.size; simp; omega) _
  have hs1 : W1.heap.size = W0.heap.size + 2 := by rw [← hW1]; simp
  have hM : AnyZI.ApAt ρ w fn (.func (.func g) #[] lb) w.heap.size (W0.heap.size + 1) W0.heap.size [] W1 :=
    ⟨⟨_, (hold w.heap.size (by omega)).trans hv0, ⟨rfl, .inl ⟨rfl, rfl⟩⟩, by simp⟩,
     by rw [← hW1]; have := World.alloc_heap_new (W0.alloc (.deferred (some []))) (.loop (AnyZI.apRec ρ fn (.func (.func g) #[] lb) w.heap.size W0.heap.size .ready none)); rwa [World.size_alloc] at this,
     by rw [← hW1]; exact (Below.heap_alloc _ _ _ (by simp)).trans (World.alloc_heap_new W0 _), hb1⟩
  refine ⟨W0.heap.size + 1, [{ target := .collected W0.heap.size, args := #[] }], W1, { target := .fn (.func g) lb, args := #[.func (.yield (W0.heap.size + 1)) #[] #[]] }, W1, g,
    #[.func (.yield (W0.heap.size + 1)) #[] #[]] ++ lb, W1, ?_, ?_, ?_, ?_, fun _ => h1, ?_⟩
  · rw [← hW1]; exact run_enterLoop_outer _ _ _ _ _
  · simp [resolve, go_sem]
  · intro f' hf'; simp [Target.leads] at hf'; subst hf'; exact hFg
  · simp [invoke, go_sem, eg]
  · refine (hseq (W0.heap.size + 1) (AnyZI.ApAt ρ w fn (.func (.func g) #[] lb) w.heap.size (W0.heap.size + 1) W0.heap.size) W1 hb1 (AnyZI.ap_abides ρ _ _ _ _ _ _ _ hb1.size) (fun s W' h => h.below)
      (fun pre x W hJ hl => AnyZI.apYield { L with } F (n - 1 - 1) w fn hfn _ w.heap.size (W0.heap.size + 1) W0.heap.size (by omega) (by omega) (by omega) (Nat.le_refl _) (by omega) N hN hNb pre x W hJ hl) hM).mono ?_
    rintro e W2 ⟨⟨v0, rfl⟩, ss, hS, h2⟩
    obtain ⟨v, hv, hrow, hnil⟩ := h2.box
    have hend := run_endLoop (P := P) h2.L (by simp [AnyZI.apRec])
    obtain ⟨W3, hW3⟩ : ∃ W3, W2.putObj (W0.heap.size + 1) (.loop { AnyZI.apRec ρ fn (.func (.func g) #[] lb) w.heap.size W0.heap.size .ready none with state := .exhausted }) = W3 := ⟨_, rfl⟩
    rw [hW3] at hend
    have hg3 : W2.grownBy W3 (some (W0.heap.size + 1)) := by rw [← hW3]; exact grownBy_putObj_a _ _ _
    have hv3 : W3.heap[w.heap.size]? = some (.cells #[v] (ρ.t 24) (0, 0)) := by rw [← hW3]; exact (World.putObj_heap_other (by omega)).trans hv
    have hK3 : W3.heap[W0.heap.size]? = some (.deferred (some [])) := by rw [← hW3]; exact (World.putObj_heap_other (by omega)).trans h2.K
    have hrow3 := hrow.kept hg3 (ownsRow_ne_a hrow h2.L (fun cur e => by first | cases e | exact hne (Obj.cells.inj e).2.1))
    have hb3 : Below w.heap.size w W3 := h2.below.grown hg3 h2.below.size (fun k e => by cases e; omega)
    obtain ⟨hc3, hf3⟩ := cell_of_box_a hv3
    clear hW3
    refine ⟨none, W3, hend, ?_⟩
    gi_wp2
    rw [← hs0]
    refine ⟨by simp, .inl ⟨_, _, rfl, run_takeDeferred hK3, ?_⟩⟩
    exact ⟨_, results_tmp rfl _ _ _, v, ss, rfl, hS, hrow3.kept (grownBy_putObj_a _ _ _) (ownsRow_ne_a hrow3 hK3 (fun cur e => by first | cases e | exact hne (Obj.cells.inj e).2.1)), hnil, hb3.grown (grownBy_putObj_a _ _ _) hb3.size (fun k e => by cases e; omega)⟩

set_option maxHeartbeats 1000000 in
theorem collectB (L : SlLaysZI.n8 P ρ) (F : Fence) (n : Nat) (h8 : F.fn (ρ.f 8)) (h11 : F.fn (ρ.f 11)) (hro : F.round = none) (hn : 3 ≤ n) (g : Nat) (lb : Array Value) (hFg : F.fn g) (eg : ∀ args w, (callFunc g args).run P w = .ok (.enter g args) w)
    (S : List Int → Prop) (N : Nat) (hN : N ≤ maxLen) (hNb : N * 8 ≤ 140737488355328) (w : World) (hseq : SeqGivesB F (n - 1 - 1) P g lb encZ S N w) :
    CallsIn F n P (ρ.f 8) #[.func (.func g) #[] lb] w fun e w' => ∃ (v : Value) (ss : List Int), e = .returned v ∧ S ss ∧ w'.ownsRow w.heap.size (ρ.t 26) 1 v ss.length (ss.map encZ) ∧ (v = .slice none 0 0 ↔ ss = []) ∧ Below w.heap.size w w' := by
  have h1 : 1 ≤ n := by omega
  have e11 : ∀ args w, (callFunc (ρ.f 11) args).run P w = .ok (.enter (ρ.f 11) args) w := L.f11.enters rfl
  have mixed := L.mixed; have t0 := L.t0; have a0 := L.a0; have z0 := L.z0; have v0 := L.v0; have t24 := L.t24; have a24 := L.a24; have z24 := L.z24; have v24 := L.v24; have t26 := L.t26; have a26 := L.a26; have z26 := L.z26; have v26 := L.v26; have t28 := L.t28; have a28 := L.a28; have z28 := L.z28; have v28 := L.v28
  have u0 := run_underlying L.t0; have u24 := run_underlying L.t24; have u26 := run_underlying L.t26; have u28 := run_underlying L.t28
  obtain ⟨_, _, FG⟩ := L.f8
  refine callsIn_of_wp FG rfl h8 ?_ hro
  simp only [SlBodyZ.n8_ntmps ρ, List.size_toArray, List.length_cons, List.length_nil, Nat.reduceAdd, Nat.reduceSub, Array.replicate_succ, Array.replicate_zero, List.push_toArray, List.append_toArray, List.nil_append, List.cons_append]
  gi_wp2_with (gi_at_fn (ρ.f 11); refine (appendSeqB { L with } F (n - 1) h11 hro (by omega) g lb hFg eg S N hN hNb _ hseq).mono ?_; rintro e w' ⟨v, ss, rfl, hS, hrow, hnil, hb⟩)
  go_ret
  exact ⟨v, ss, rfl, hS, hrow, hnil, hb⟩

set_option maxRecDepth 100000 in
set_option maxHeartbeats 2000000 in
theorem sortedB (L : SlLaysZI.n6 P ρ) (F : Fence) (n : Nat) (h6 : F.fn (ρ.f 6)) (h8 : F.fn (ρ.f 8)) (h9 : F.fn (ρ.f 9)) (h11 : F.fn (ρ.f 11)) (hro : F.round = none) (hn : 4 ≤ n) (hsort : AnyZI.SortsIn P ρ F (n - 1)) (e9 : ∀ args w, (callFunc (ρ.f 9) args).run P w = .ok (.enter (ρ.f 9) args) w) (g : Nat) (lb : Array Value) (hFg : F.fn g) (eg : ∀ args w, (callFunc g args).run P w = .ok (.enter g args) w)
    (S : List Int → Prop) (N : Nat) (hN : N ≤ maxLen) (hNb : N * 8 ≤ 140737488355328) (w : World) (hseq : SeqGivesB F (n - 1 - 1 - 1) P g lb encZ S N w) :
    CallsIn F n P (ρ.f 6) #[.func (.func g) #[] lb] w fun e w' => ∃ (v : Value) (ss : List Int), e = .returned v ∧ S ss ∧
      w'.ownsRow w.heap.size (ρ.t 26) 1 v ss.length ((ss.mergeSort (fun x y => decide (x ≤ y))).map encZ) ∧ (v = .slice none 0 0 ↔ ss = []) ∧ Below w.heap.size w w' := by
  have h1 : 1 ≤ n := by omega
  have e8 : ∀ args w, (callFunc (ρ.f 8) args).run P w = .ok (.enter (ρ.f 8) args) w := L.f8.enters rfl
  have mixed := L.mixed; have t0 := L.t0; have a0 := L.a0; have z0 := L.z0; have v0 := L.v0; have t24 := L.t24; have a24 := L.a24; have z24 := L.z24; have v24 := L.v24; have t26 := L.t26; have a26 := L.a26; have z26 := L.z26; have v26 := L.v26; have t28 := L.t28; have a28 := L.a28; have z28 := L.z28; have v28 := L.v28
  have u0 := run_underlying L.t0; have u24 := run_underlying L.t24; have u26 := run_underlying L.t26; have u28 := run_underlying L.t28
  obtain ⟨_, _, FG⟩ := L.f6
  refine callsIn_of_wp FG rfl h6 ?_ hro
  simp only [SlBodyZ.n6_ntmps ρ, List.size_toArray, List.length_cons, List.length_nil, Nat.reduceAdd, Nat.reduceSub, Array.replicate_succ, Array.replicate_zero, List.push_toArray, List.append_toArray, List.nil_append, List.cons_append]
  gi_wp2_with (gi_at_fn (ρ.f 8); refine (collectB { L with } F (n - 1) h8 h11 hro (by omega) g lb hFg eg _ N hN hNb _ hseq.bounded).mono ?_; rintro e W ⟨v, ss, rfl, ⟨hS, hlen⟩, hrow, hnil, hb⟩)
  rcases hrow.2 with ⟨rfl, hz⟩ | ⟨gb, cap, cur, rfl, hbase, hgb, r1, r2, r3, r4⟩
  · -- nothing came: the nil slice is sorted and handed back
    have hss : ss = [] := List.eq_nil_of_length_eq_zero hz
    subst hss
    gi_wp2_with (gi_at_fn (ρ.f 9); refine (hsort.2 none 0 W).mono ?_; rintro e w' ⟨rfl, rfl⟩)
    go_ret
    exact ⟨.slice none 0 0, [], rfl, hS, by simpa using hrow, by simp, hb⟩
  · have hH : Holds encZ W gb 0 ss.toArray := holds_of_block_i hgb (by simpa using r4)
    have hgl : gb < W.heap.size := (Array.getElem?_eq_some_iff.1 hgb).1
    have hsz : ss.length < 4611686018427387904 := by omega
    have cS := hsort.1 gb 0 cap ss W hH hgl hsz
    gi_wp2_with (gi_at_fn (ρ.f 9); refine cS.mono ?_; rintro e w' ⟨rfl, nn, os, rfl⟩)
    go_ret
    exact ⟨_, ss, rfl, hS, ownsRow_sorted_i (by simp) hbase hgb r1 r2 r3, hnil, hb.grown (grownBy_sorted_i _) hb.size (fun j hj => by cases hj; exact hbase)⟩

/-- slices.Values(s)'s iterator, at numbers: all of them, in order. -/
def ValsGive (P : Program) (k : FuncId) : Prop := ∀ (Bs : Nat) (sv : Value) (zs : List Int) (w : World), Bs < w.heap.size → zs.length * 8 ≤ 140737488351232 → w.cell? ⟨Bs, 0, none⟩ = some sv →
  ((sv = .slice none 0 0 ∧ zs = []) ∨ ∃ b cap, sv = .slice (some ⟨b, 0, none⟩) zs.length cap ∧ b < w.heap.size ∧ ∀ j, j < zs.length → w.cell? ⟨b, 0 + j, none⟩ = some (.int .i64 (zs[j]?.getD 0))) →
  SeqGivesB Fence.wide 2 P k #[.pointer (some ⟨Bs, 0, none⟩)] encZ (fun ys => ys = zs) zs.length w

/-- Numbers, as they lie. -/
def wholeI : List CV → Option (List Int)
  | [] => some []
  | c :: r => (keyI c).bind fun n => (wholeI r).map (n :: ·)
/-- What slices.Sorted hands back of slices.Values. -/
def sortedV (vs : List FuncId) (args : List CV) (bl : List Blk) : Option (CV × List Blk) :=
  match args with
  | [.fn (.func k) [] [.op (.blk x) 0]] =>
    if vs.contains k then
      match bl[x]? with
      | some (.cells [.nils]) => some (.nils, bl)
      | some (.cells [.os 1 (.blk q) 0 n]) =>
        match bl[q]? with
        | some (.cells X) => match wholeI (X.take n) with
          | some l => if 0 < n ∧ l.length = n ∧ n ≤ 1000000 then some (.vs ((isort l).map fun n => .int .i64 n) l.length, bl) else none
          | none => none
        | _ => none
      | _ => none
    else none
  | _ => none
theorem wholeI_get : ∀ {X : List CV} {l : List Int}, wholeI X = some l → X.length = l.length ∧ ∀ (j : Nat) (x : CV), X[j]? = some x → ∃ n, l[j]? = some n ∧ x = .int .i64 n
  | [], l, h => by
    simp only [wholeI, Option.some.injEq] at h
    subst h
    exact ⟨rfl, fun j x hx => by simp at hx⟩
  | c :: r, l, h => by
    simp only [wholeI, Option.bind_eq_some_iff, Option.map_eq_some_iff] at h
    obtain ⟨n, hn, l', hl', rfl⟩ := h
    obtain ⟨rfl, _⟩ := keyI_ok hn
    obtain ⟨h1, h2⟩ := wholeI_get hl'
    refine ⟨by simp [h1], fun j x hx => ?_⟩
    cases j with
    | zero => simp only [List.getElem?_cons_zero, Option.some.injEq] at hx ⊢; exact ⟨n, rfl, hx.symm⟩
    | succ j => simp only [List.getElem?_cons_succ] at hx ⊢; exact h2 j x hx

theorem sortedV_prim {P : Program} {ρ : Ren} (L6 : SlLaysZI.n6 P ρ) (hsort : AnyZI.SortsIn P ρ Fence.wide 4) (e9 : ∀ args w, (callFunc (ρ.f 9) args).run P w = .ok (.enter (ρ.f 9) args) w)
    (ks : List FuncId) (hks : ∀ k ∈ ks, ValsGive P k ∧ ∀ args w, (callFunc k args).run P w = .ok (.enter k args) w)
    {fn : Func} (hfn : P.funcs[ρ.f 6]? = some fn) (hb : fn.body.isSome = true) (hnm : (fn.name == "runtime.NumGoroutine") = false) : PrimOk P (ρ.f 6) (sortedV ks) := by
  refine ⟨fn, hfn, hb, hnm, ?_⟩
  intro args bl v bl' hs w F ι vs hlo hi hv
  unfold sortedV at hs
  split at hs <;> (try cases hs)
  rename_i k x
  split at hs <;> (try cases hs)
  rename_i hk
  obtain ⟨hgive, eg⟩ := hks k (by simpa using hk)
  simp only [VRl, VR] at hv
  obtain ⟨u, us, rfl, ⟨a', c', rfl, ha, hc⟩, rfl⟩ := hv
  obtain ⟨pv, ps, hcl, ⟨B, hB, rfl⟩, rfl⟩ := hc
  have ha0 : a' = #[] := by
    cases a'; simp_all
  have hc0 : c' = #[.pointer (some ⟨B, 0, none⟩)] := by
    cases c'; simp_all
  subst ha0 hc0
  have key : ∀ (c0 r0 : CV) (zs : List Int), bl[x]? = some (.cells [c0]) → zs.length ≤ 1000000 → (zs = [] → r0 = .nils) → (zs ≠ [] → r0 = .vs ((isort zs).map fun n => .int .i64 n) zs.length) →
      (∀ mv, VR w F ι.glob c0 mv → ((mv = .slice none 0 0 ∧ zs = []) ∨ ∃ b cap, mv = .slice (some ⟨b, 0, none⟩) zs.length cap ∧ b < w.heap.size ∧ ∀ j, j < zs.length → w.cell? ⟨b, 0 + j, none⟩ = some (.int .i64 (zs[j]?.getD 0)))) →
      Calls P (ρ.f 6) #[.func (.func k) #[] #[.pointer (some ⟨B, 0, none⟩)]] w fun e w' => ∃ v' F' ι' bx, e = .returned v' ∧ VR w' F' ι' r0 v' ∧ Inv w' F' ι' ⟨bx, bl⟩ ∧ Ext w F ι ⟨[], bl⟩ w' F' ι' ⟨bx, bl⟩ := by
    intro c0 r0 l hx hlen hr1 hr2 hsv
    obtain ⟨B2, c, e, g1, g2, g3, _⟩ := hi.cells (.blk x) [c0] (by simp [Heap.get, hx])
    rw [hB] at g1; cases g1
    obtain ⟨mv, g4, g5⟩ := g3 0 c0 rfl
    have hBl : B < w.heap.size := (Array.getElem?_eq_some_iff.1 g2).1
    have hcell : w.cell? ⟨B, 0, none⟩ = some mv := by
      simp only [World.cell?, g2]
      simpa using g4
    have hseq := hgive B mv l w hBl (by omega) hcell (hsv mv g5)
    have cS := sortedB L6 Fence.wide 5 trivial trivial trivial trivial rfl (by omega) hsort e9 k #[.pointer (some ⟨B, 0, none⟩)] trivial eg _ _ (by unfold maxLen; omega) (by omega) w hseq
    refine ((callsIn_wide (n := 5)).1 cS).mono ?_
    rintro ex w' ⟨v, ss, rfl, hS, hrow, hnil, hbw⟩
    have hss : ss.Perm l := by rw [hS]
    have hsl : ss.length = l.length := hss.length_eq
    have hst : ss.mergeSort (fun x y => decide (x ≤ y)) = isort l := (mergeSort_of_perm_i hss).trans (isort_eq l).symm
    rcases hrow.2 with ⟨rfl, hz⟩ | ⟨g, cap, cur, rfl, hbase, hgb, r1, r2, r3, r4⟩
    · have hl0 : l = [] := List.eq_nil_of_length_eq_zero (by omega)
      obtain ⟨i1, i2, _⟩ := hi.below hbw (fun _ h => h) (fun _ h => .inl h)
      refine ⟨_, F, ι, [], rfl, ?_, i1, i2⟩
      rw [hr1 hl0]
      simp [VR, BR]
    · have hgl : g < w'.heap.size := (Array.getElem?_eq_some_iff.1 hgb).1
      obtain ⟨i1, i2, _⟩ := hi.below (F' := fun b => F b ∨ b = g) hbw (fun _ h => .inl h) (fun b h => h.imp id (fun e => by subst e; exact ⟨hbase, hgl⟩))
      refine ⟨_, fun b => F b ∨ b = g, ι, [], rfl, ?_, i1, i2⟩
      have hl1 : l ≠ [] := fun e => by
        have : ss = [] := List.eq_nil_of_length_eq_zero (by rw [hsl, e]; rfl)
        have := hnil.2 this
        cases this
      rw [hr2 hl1]
      simp only [VR, BR]
      refine ⟨some ⟨g, 0, none⟩, cap, by rw [hsl], by omega, .inr ⟨g, 0, rfl, .inr rfl, BRc_row hgb _ 0 fun j x hx => ?_⟩⟩
      have hj : j < (isort l).length := (List.getElem?_eq_some_iff.1 hx).1
      rw [(isort_perm l).length_eq] at hj
      have h4 : (cur.toList.take (ss.length * 1))[j]? = ((isort l).map encZ)[j]? := by rw [r4, hst]
      rw [List.getElem?_take_of_lt (by omega), List.getElem?_map, hx] at h4
      rw [Nat.zero_add, ← Array.getElem?_toList]
      exact h4
  split at hs <;> (try cases hs)
  · rename_i hx
    refine key .nils .nils [] hx (by simp) (fun _ => rfl) (fun h => absurd rfl h) fun mv h => .inl ⟨?_, rfl⟩
    simpa [VR, BR] using h
  · rename_i q n hx
    split at hs <;> (try cases hs)
    rename_i X hX
    split at hs <;> (try cases hs)
    rename_i l hl
    split at hs <;> (try cases hs)
    rename_i hcond
    obtain ⟨h0, rfl, hn⟩ := hcond
    obtain ⟨w1, w2⟩ := wholeI_get hl
    refine key _ _ l hx hn (fun e => by rw [e] at h0; simp at h0) (fun _ => rfl) fun mv h => .inr ?_
    simp only [VR] at h
    obtain ⟨base, cap, rfl, hcap, h | ⟨b, N, h1, rfl, h3, h4⟩⟩ := h
    · omega
    · obtain ⟨b2, ca, eo, e1, e2, e3, _⟩ := hi.cells (.blk q) X (by simp [Heap.get, hX])
      have hbb : b2 = b := by
        have h1' : ι.get (.blk q) = some b := h1
        rw [e1] at h1'
        exact Option.some.inj h1'
      subst hbb
      refine ⟨b2, cap, rfl, (Array.getElem?_eq_some_iff.1 e2).1, fun j hj => ?_⟩
      have hXj : (X.take l.length)[j]? = X[j]? := List.getElem?_take_of_lt hj
      cases hXj' : X[j]? with
      | none =>
        rw [hXj'] at hXj
        have := List.getElem?_eq_none_iff.1 hXj
        omega
      | some c =>
        rw [hXj'] at hXj
        obtain ⟨z, z1, rfl⟩ := w2 j c hXj
        obtain ⟨u, u1, u2⟩ := e3 j _ hXj'
        have hu : u = .int .i64 z := by simpa [VR, BR] using u2
        subst hu
        rw [z1]
        simp only [World.cell?, e2, Nat.zero_add]
        simpa using u1

def orS (s t : List CV → List Blk → Option (CV × List Blk)) : List CV → List Blk → Option (CV × List Blk) := fun args bl => match s args bl with | some r => some r | none => t args bl
theorem orS_right {s t : List CV → List Blk → Option (CV × List Blk)} {args : List CV} {bl : List Blk} (h : s args bl = none) : orS s t args bl = t args bl := by simp [orS, h]
theorem PrimOk.or {P : Program} {f : FuncId} {s t : List CV → List Blk → Option (CV × List Blk)} (h : PrimOk P f s) (h' : PrimOk P f t) : PrimOk P f (orS s t) := by
  obtain ⟨fn, q1, q2, q3, q4⟩ := h
  obtain ⟨fn', r1, r2, r3, r4⟩ := h'
  refine ⟨fn, q1, q2, q3, ?_⟩
  intro args bl v bl' hs
  unfold orS at hs
  cases hq : s args bl with
  | some r => rw [hq] at hs; exact q4 args bl v bl' (hq.trans hs)
  | none => rw [hq] at hs; exact r4 args bl v bl' hs
end Go.Zc
