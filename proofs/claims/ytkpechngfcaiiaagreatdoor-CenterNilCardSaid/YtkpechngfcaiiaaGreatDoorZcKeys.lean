/- 'slices.Sorted(maps.Keys(m))' as the interpreter has it: the keys, sorted, in memory that nobody writes; by the library's contract. No condition. -/
import Derived.Test.YtkpechngfcaiiaaGreatDoorZcRun
import Derived.Test.YtkpechngfcaiiaaGreatDoorZcLay
import Derived.Shelf.SlIterI.Sorted
import Derived.Shelf.SlIterI.Nil
set_option linter.all false
namespace Go.Zc
variable [Globs]
open Go.Proofs Go.RowKit Go.Maps Go.Sort Go.Shelf

/-- Whole keys, as they stand. -/
def keyI : CV → Option Int
  | .int .i64 n => if -9223372036854775808 ≤ n ∧ n ≤ 9223372036854775807 then some n else none
  | _ => none
def keysI : List (CV × CV) → Option (List Int)
  | [] => some []
  | e :: r => (keyI e.1).bind fun n => (keysI r).map (n :: ·)
theorem keysI_itE {es : List (CV × CV)} {l : List Int} (h : keysI es = some l) : itE es = false := by
  unfold itE
  split
  · simp [keysI, keyI] at h
  · rfl
theorem keyI_ok {c : CV} {n : Int} (h : keyI c = some n) : c = .int .i64 n ∧ (Lit.int .i64 n).wf = true := by
  unfold keyI at h
  split at h
  · split at h
    · rename_i hr
      cases h
      refine ⟨rfl, ?_⟩
      simp only [Lit.wf, Bool.and_eq_true, decide_eq_true_eq]
      exact hr
    · cases h
  · cases h
def leB : Int → Int → Bool := fun x y => decide (x ≤ y)
theorem isort_eq (l : List Int) : isort l = l.mergeSort leB := by
  have tr : ∀ a b c : Int, leB a b = true → leB b c = true → leB a c = true := fun a b c h1 h2 => by simp only [leB, decide_eq_true_eq] at *; exact Int.le_trans h1 h2
  have to : ∀ a b : Int, (leB a b || leB b a) = true := fun a b => by simp only [leB, Bool.or_eq_true, decide_eq_true_eq]; exact Int.le_total a b
  refine List.Perm.eq_of_pairwise (le := fun a b => a ≤ b) (fun a b _ _ h1 h2 => Int.le_antisymm h1 h2) (isort_sorted l) ?_ ((isort_perm l).trans (List.mergeSort_perm l leB).symm)
  refine (List.pairwise_mergeSort tr to l).imp fun h => ?_
  simpa [leB] using h
/-- What slices.Sorted hands back of an iterator over a map's keys. -/
def sortedS (ks : List FuncId) (args : List CV) (bl : List Blk) : Option (CV × List Blk) :=
  match args with
  | [.fn (.func k) [] [.op (.blk x) 0]] =>
    if ks.contains k then
      match bl[x]? with
      | some (.cells [.om b]) =>
        match bl[b]? with
        | some (.map es) => match keysI es with
          | some l => if l.length ≤ 1000000 then some (.vs ((isort l).map fun n => .int .i64 n) l.length, bl) else none
          | none => none
        | _ => none
      | _ => none
    else none
  | _ => none

theorem keysI_ok {w : World} {F : Nat → Prop} {ι : IM} {es : List (CV × CV)} {ms : List MapEntry} (h : MR w F ι es ms) : ∀ {l : List Int}, keysI es = some l → ms.map (·.key) = l.map encZ ∧ ∀ n ∈ l, (Lit.int .i64 n).wf = true := by
  induction h with
  | nil =>
    intro l hl
    simp only [keysI, Option.some.injEq] at hl
    subst hl
    exact ⟨rfl, by simp⟩
  | @cons e m es ms h1 h2 ih =>
    intro l hl
    obtain ⟨c, v⟩ := e
    have hk := h1.key
    simp only [keysI, Option.bind_eq_some_iff, Option.map_eq_some_iff] at hl
    obtain ⟨n, hn, l', hl', rfl⟩ := hl
    obtain ⟨rfl, hw⟩ := keyI_ok hn
    obtain ⟨a, b⟩ := ih hl'
    simp only [BR] at hk
    refine ⟨by simp only [List.map_cons, a, hk], fun x hx => ?_⟩
    rcases List.mem_cons.1 hx with rfl | hx
    · exact hw
    · exact b x hx

/-- A world in which more lies, but what lay there lies as it did. -/
theorem Inv.below {w w' : World} {F F' : Nat → Prop} {ι : IM} {H : Heap} (hi : Inv w F ι H) (hb : Below w.heap.size w w') (hF : ∀ b, F b → F' b) (hn : ∀ b, F' b → F b ∨ (w.heap.size ≤ b ∧ b < w'.heap.size)) : Inv w' F' ι H ∧ Ext w F ι H w' F' ι H ∧ MoV w w' F F' ι ι := by
  have hcs : ∀ b n, csize w b = some n → csize w' b = some n := fun b n h => by rw [csize_of (hb.block b (csize_lt h))]; exact h
  have hm : MoV w w' F F' ι ι := ⟨⟨hF, fun k hk => hb.block k (hi.lt k hk)⟩, fun _ _ h => h, hcs⟩
  refine ⟨hi.build hm hi.len (fun i cs h => .inl ⟨h, fun b hbb => hb.block b (hi.live_lt ⟨i, live_iff.2 (.inl ⟨cs, h⟩), hbb⟩)⟩) (fun n es h => .inl ⟨h, fun b hbb => hb.block b (hi.live_lt ⟨.blk n, live_iff.2 (.inr ⟨n, es, rfl, h⟩), hbb⟩)⟩) hi.inj ?_ ?_ hi.lo, ?_, hm⟩
  · intro b hbb hl
    rcases hn b hbb with h | h
    · exact hi.dis b h hl
    · have := hi.live_lt hl; omega
  · intro b hbb
    rcases hn b hbb with h | h
    · exact Nat.lt_of_lt_of_le (hi.lt b h) hb.size
    · exact h.2
  · exact ⟨hb.os, hb.tape, hb.output, fun _ _ h => h, hF, fun b h => (hn b h).imp id (fun h => .inl h.1), hb.size, hcs, fun b h _ => hb.block b h, fun b h => .inl h⟩

theorem BRc_row {w : World} {F : Nat → Prop} {g : Nat} {cur : Array Value} {e : TypeId} (hg : w.heap[g]? = some (.cells cur e (0, 0))) : ∀ (l : List Int) (o : Nat), (∀ j x, l[j]? = some x → cur[o + j]? = some (encZ x)) → BRc w F (l.map fun n => CV.int .i64 n) g o
  | [], _, _ => by simp [BRc]
  | x :: l, o, h => by
    simp only [List.map_cons, BRc]
    refine ⟨⟨encZ x, ?_, by simp [BR]⟩, BRc_row hg l (o + 1) fun j y hy => ?_⟩
    · have := h 0 x rfl
      simp only [World.cell?, hg]
      simpa using this
    · have := h (j + 1) y (by simpa using hy)
      rw [show o + 1 + j = o + (j + 1) by omega]
      exact this

def vI : Value → Int
  | .int _ n => n
  | _ => 0
theorem sorted_prim {P : Program} {ρ : Ren} (L6 : SlLaysZI.n6 P ρ) (hsort : AnyZI.SortsIn P ρ Fence.wide 4) (e9 : ∀ args w, (callFunc (ρ.f 9) args).run P w = .ok (.enter (ρ.f 9) args) w)
    (ks : List FuncId) (hks : ∀ k ∈ ks, (∃ ρ', ρ'.f 10 = k ∧ SlLaysZI.n10 P ρ') ∧ ∀ args w, (callFunc k args).run P w = .ok (.enter k args) w)
    {fn : Func} (hfn : P.funcs[ρ.f 6]? = some fn) (hb : fn.body.isSome = true) (hnm : (fn.name == "runtime.NumGoroutine") = false) : PrimOk P (ρ.f 6) (sortedS ks) := by
  refine ⟨fn, hfn, hb, hnm, ?_⟩
  intro args bl v bl' hs w F ι vs hlo hi hv
  unfold sortedS at hs
  split at hs <;> (try cases hs)
  rename_i k x
  split at hs <;> (try cases hs)
  rename_i hk
  split at hs <;> (try cases hs)
  rename_i b hx
  split at hs <;> (try cases hs)
  rename_i es hes
  split at hs <;> (try cases hs)
  rename_i l hl
  split at hs <;> (try cases hs)
  rename_i hlen
  obtain ⟨⟨ρ', hρ, L10⟩, eg⟩ := hks k (by simpa using hk)
  subst hρ
  simp only [VRl, VR] at hv
  obtain ⟨u, us, rfl, ⟨a', c', rfl, ha, hc⟩, rfl⟩ := hv
  obtain ⟨pv, ps, hcl, ⟨B, hB, rfl⟩, rfl⟩ := hc
  have ha0 : a' = #[] := by
    cases a'; simp_all
  have hc0 : c' = #[.pointer (some ⟨B, 0, none⟩)] := by
    cases c'; simp_all
  subst ha0 hc0
  obtain ⟨B2, c, e, g1, g2, g3, _⟩ := hi.cells (.blk x) [.om b] (by simp [Heap.get, hx])
  rw [hB] at g1; cases g1
  obtain ⟨mv, g4, g5⟩ := g3 0 (.om b) rfl
  simp only [VR] at g5
  obtain ⟨M, g6, rfl⟩ := g5
  obtain ⟨M2, ms, cl, g7, g8, g9, g10⟩ := hi.real hes (keysI_itE hl)
  have hM : M = M2 := by
    have h1 : ι.bl[b]? = some M := g6
    rw [g7] at h1; cases h1; rfl
  subst hM
  obtain ⟨k1, k2⟩ := keysI_ok g9 hl
  have hsz : ms.size = l.length := by
    have := congrArg List.length k1
    simpa using this
  let R : Value → Option (DataW Unit × List MemPlace) := fun _ => some (.lit (.bool true), [])
  have hrd : ∀ y ∈ ms.toList, ∃ n, y.key = encZ n ∧ (Lit.int .i64 n).wf = true := fun y hy => by
    have : y.key ∈ ms.toList.map (·.key) := List.mem_map.2 ⟨y, hy, rfl⟩
    rw [k1] at this
    obtain ⟨n, hn, e⟩ := List.mem_map.1 this
    exact ⟨n, e.symm, k2 n hn⟩
  have hkey : ∀ n, (Lit.int .i64 n).wf = true → keyOf P (ρ'.t 26) (encZ n) = some (.int .i64 n) := fun n hn => by
    simp [keyOf, L10.t26, mapKey, encZ, hn]
  have hown : w.ownsMap P (ρ'.t 26) R M ms.size (.map ((ms.toList.map (Go.WideElems.rg P (ρ'.t 26) R)).foldr DataW.insert [])) := by
    refine ⟨ms, cl, g8, ⟨by rw [hsz]; unfold maxLen; omega, g10, fun y hy => ?_⟩, Nat.le_refl _, rfl⟩
    obtain ⟨n, hn, hw⟩ := hrd y hy
    obtain ⟨yk, yv, yb⟩ := y
    simp only at hn
    subst hn
    exact ⟨_, Go.WideElems.rd_mk (hkey n hw) rfl⟩
  have hrg : ∀ y ∈ ms.toList, (intOf (Go.WideElems.rg P (ρ'.t 26) R y).1) = vI y.key := fun y hy => by
    obtain ⟨n, hn, hw⟩ := hrd y hy
    obtain ⟨yk, yv, yb⟩ := y
    simp only at hn
    subst hn
    rw [Go.WideElems.rg_of (Go.WideElems.rd_mk (hkey n hw) rfl)]
    rfl
  have hl2 : ms.toList.map (fun y => vI y.key) = l := by
    have : ms.toList.map (fun y => vI y.key) = (ms.toList.map (·.key)).map vI := by rw [List.map_map]; rfl
    rw [this, k1, List.map_map]
    exact (List.map_congr_left fun x _ => rfl).trans (List.map_id l)
  have hik : (intKeys (.map ((ms.toList.map (Go.WideElems.rg P (ρ'.t 26) R)).foldr DataW.insert []))).Perm l := by
    show (((ms.toList.map (Go.WideElems.rg P (ρ'.t 26) R)).foldr DataW.insert []).map fun p => intOf p.1).Perm l
    refine ((Go.WideShapes.sorted_perm _).map _).trans ?_
    rw [List.map_map]
    have : ms.toList.map ((fun p => intOf p.1) ∘ Go.WideElems.rg P (ρ'.t 26) R) = l := by
      rw [← hl2]
      exact List.map_congr_left fun y hy => hrg y hy
    rw [this]
  have hBl : B < w.heap.size := (Array.getElem?_eq_some_iff.1 g2).1
  have hcell : w.cell? ⟨B, 0, none⟩ = some (.map (some M)) := by
    simp only [World.cell?, g2]
    simpa using g4
  have hseq := AnyZI.keys_gives L10 Fence.wide 2 trivial rfl (by omega) B M ms.size _ w hBl hcell hown
  have hms : Maps.size (DataW.map (H := Unit) ((ms.toList.map (Go.WideElems.rg P (ρ'.t 26) R)).foldr DataW.insert [])) = l.length := by
    show ((ms.toList.map (Go.WideElems.rg P (ρ'.t 26) R)).foldr DataW.insert []).length = l.length
    rw [length_sorted, List.length_map, Array.length_toList, hsz]
  have cS := AnyZI.sorted_in L6 Fence.wide 5 trivial trivial trivial trivial rfl (by omega) hsort e9 (ρ'.f 10) #[.pointer (some ⟨B, 0, none⟩)] trivial eg _ _ (by rw [hms]; unfold maxLen; omega) (by rw [hms]; omega) w hseq
  refine ((callsIn_wide (n := 5)).1 cS).mono ?_
  rintro ex w' ⟨v, ss, rfl, hS, hrow, hnil, hbw⟩
  have hss : ss.Perm l := hS.trans hik
  have hsl : ss.length = l.length := hss.length_eq
  have hst : ss.mergeSort (fun x y => decide (x ≤ y)) = isort l := (mergeSort_of_perm_i hss).trans (isort_eq l).symm
  rcases hrow.2 with ⟨rfl, hz⟩ | ⟨g, cap, cur, rfl, hbase, hgb, r1, r2, r3, r4⟩
  · have hl0 : l = [] := List.eq_nil_of_length_eq_zero (by omega)
    obtain ⟨i1, i2, _⟩ := hi.below hbw (fun _ h => h) (fun _ h => .inl h)
    refine ⟨_, F, ι, [], rfl, ?_, i1, i2⟩
    subst hl0
    simp only [VR, BR]
    exact ⟨none, 0, rfl, Nat.le_refl _, .inl (by simp [isort])⟩
  · have hgl : g < w'.heap.size := (Array.getElem?_eq_some_iff.1 hgb).1
    obtain ⟨i1, i2, _⟩ := hi.below (F' := fun b => F b ∨ b = g) hbw (fun _ h => .inl h) (fun b h => h.imp id (fun e => by subst e; exact ⟨hbase, hgl⟩))
    refine ⟨_, fun b => F b ∨ b = g, ι, [], rfl, ?_, i1, i2⟩
    simp only [VR, BR]
    refine ⟨some ⟨g, 0, none⟩, cap, by rw [hsl], by omega, .inr ⟨g, 0, rfl, .inr rfl, BRc_row hgb _ 0 fun j x hx => ?_⟩⟩
    have hj : j < (isort l).length := (List.getElem?_eq_some_iff.1 hx).1
    rw [(isort_perm l).length_eq] at hj
    have h4 : (cur.toList.take (ss.length * 1))[j]? = ((isort l).map encZ)[j]? := by rw [r4, hst]
    rw [List.getElem?_take_of_lt (by omega), List.getElem?_map, hx] at h4
    rw [Nat.zero_add, ← Array.getElem?_toList]
    exact h4

/-- A call of what has a contract of its own. -/
theorem prim_call {C : Ctx} {k : FuncId} {s : List CV → List Blk → Option (CV × List Blk)} (hp : C.prim k = some s) (cap args : List CV) (bx : List (Nat × List CV)) (bl : List Blk) :
    call C (.fn (.func k) [] cap) args ⟨bx, bl⟩ = if CV.locs (args ++ cap) then none else (s (args ++ cap) bl).bind fun x => if x.1.locv then none else some (x.1, ⟨bx, x.2⟩) := by
  unfold call callC
  simp only [List.nil_append, hp]
theorem ctxOk_prims {P : Program} {tab : List (Nat × FInfo)} {pr : List (Nat × (List CV → List Blk → Option (CV × List Blk)))} (mix : P.follows .mixedOrders = true) (h : TabOk P ⟨look tab, look pr⟩ tab) (hp : ∀ e ∈ pr, PrimOk P e.1 e.2) : CtxOk P ⟨look tab, look pr⟩ where
  mix := mix
  info := fun k I _ hi => h.get k I hi
  prim := fun k s hs => by
    have : ∀ pr : List (Nat × (List CV → List Blk → Option (CV × List Blk))), look pr k = some s → (k, s) ∈ pr := by
      intro pr
      induction pr with
      | nil => intro h; cases h
      | cons e r ih =>
        obtain ⟨i, x⟩ := e
        intro h
        unfold look at h
        cases hb : Nat.beq i k with
        | true =>
          simp only [hb, cond_true, Option.some.injEq] at h
          have : i = k := Nat.eq_of_beq_eq_true hb
          subst this h
          exact List.mem_cons_self
        | false =>
          simp only [hb, cond_false] at h
          exact List.mem_cons_of_mem _ (ih h)
    exact hp _ (this pr hs)
theorem sortedS_eq {ks : List FuncId} {k : FuncId} {x b : Nat} {bl : List Blk} {es : List (CV × CV)} {l : List Int} (hk : ks.contains k = true) (hx : bl[x]? = some (.cells [.om b])) (hb : bl[b]? = some (.map es)) (hl : keysI es = some l) (hn : l.length ≤ 1000000) :
    sortedS ks [.fn (.func k) [] [.op (.blk x) 0]] bl = some (.vs ((isort l).map fun n => .int .i64 n) l.length, bl) := by
  unfold sortedS
  simp only [hk, if_true, hx, hb, hl, if_pos hn]
end Go.Zc
