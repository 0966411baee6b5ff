/- The law JudgeSafe, walked. No condition. -/
import Derived.Test.YtfblegjbmhgepaaZcWa2
set_option linter.all false
section
namespace Go.Proofs.Ytfblegjbmhgepaa.Zt
open Go Go.Zc
set_option maxRecDepth 10000

theorem carsW_good (l : Lay) (hl : Lens l) : ∀ (S : List Car) (i : Nat) (w : List Vh), GoodW l w → (∀ v ∈ w, v.id < i) → i ≤ 6 → GoodW l (carsW l i S w)
  | [], _, _, h, _, _ => h
  | c :: S, i, w, h, hid, hi => by
    unfold carsW
    split
    · exact h
    · rename_i h6
      refine carsW_good l hl S (i + 1) _ ?_ ?_ (by omega)
      · unfold addV
        split
        · exact h
        · rename_i hc
          split
          · rename_i hma
            obtain ⟨s1, s2, _⟩ := mayAdd_ok hma (i : Int)
            simp only [not_or] at hc
            refine h.app (by simp only; omega) ?_ (by omega) ⟨s1, s2⟩
            intro hm
            obtain ⟨v, hv, hvi⟩ := List.mem_map.1 hm
            have := hid v hv
            simp only at hvi
            omega
          · exact h
      · intro v hv
        unfold addV at hv
        split at hv
        · have := hid v hv; omega
        · split at hv
          · rcases List.mem_append.1 hv with hv | hv
            · have := hid v hv; omega
            · simp only [List.mem_singleton] at hv
              subst hv
              simp only
              omega
          · have := hid v hv; omega
theorem begin_good (s : Story) : GoodW (begin s).l (begin s).w := carsW_good (full s.d) (full_Lens s.d) s.cars 0 [] ⟨by simp, by simp, by simp, by simp⟩ (by simp) (by omega)
theorem full_speed (d : Draft) (hd : d.ok) : 0 ≤ (full d).speed ∧ (full d).speed ≤ 10000 := by
  have h : (full d).speed = 1 + d.speed % (2 * unitOf d.len) := rfl
  rw [h]
  have hu : unitOf d.len = 10 * (1 + d.len % 20) := rfl
  have h0 : 0 ≤ d.speed % (2 * unitOf d.len) := Int.emod_nonneg _ (by omega)
  have h1 : d.speed % (2 * unitOf d.len) < 2 * unitOf d.len := Int.emod_lt_of_pos _ (by omega)
  omega

set_option maxHeartbeats 2000000 in
theorem lsafe_loop (s : Story) (hs : s.ok) (h8 : ∀ t ∈ s.ticks, t.go.length ≤ 8) (states : List Int) (B : List Blk) (a : Nat) (ha : a < B.length) : ∀ (S P : List Tick) (p : Pl) (wv : CV), s.ticks = P ++ S → P.length ≤ 10 → Lens p.l → (0 ≤ p.l.speed ∧ p.l.speed ≤ 10000) → GoodW p.l p.w → Fz fVh wv p.w →
    ∃ p' wv', l20_JudgeSafe_R0 ([(1, sl fU states), (2, .op (.loc 2) 0), (5, .op (.blk a) 0), (6, .int .i64 P.length)], ⟨[(2, storyC s)], B.set a (.cells (playC p wv .nils))⟩) =
      some (.norm, [(1, sl fU states), (5, .op (.blk a) 0)], ⟨[], B.set a (.cells (playC p' wv' .nils))⟩) ∧ p'.l = p.l ∧ GoodW p'.l p'.w ∧ Fz fVh wv' p'.w := by
  intro S
  have hsl : CV.locs (storyC s) = false := rfl
  induction S with
  | nil =>
    intro P p wv hP _ hl hsp hG hwv
    have h1 : ¬ ((P.length : Int) < s.ticks.length) := by rw [hP]; simp
    refine ⟨p, wv, ?_, rfl, hG, hwv⟩
    rw [l20_JudgeSafe_R0_eq]
    simp only [l20_JudgeSafe_B0, l20_JudgeSafe_K0_a, h1, zy, simprocAttr]
  | cons t S ih =>
    intro P p wv hP hP10 hl hsp hG hwv
    have h1 : ((P.length : Int) < s.ticks.length) := by rw [hP]; simp; omega
    by_cases h2 : P.length < 10
    · have h2' : ((P.length : Int) < 10) := by omega
      have hw := wrapN (n := P.length) (by unfold Zc.small; omega)
      have htm : t ∈ s.ticks := by rw [hP]; simp
      have hia := iaddr_midTick .i64 P S t
      rw [← hP] at hia
      obtain ⟨p1, wv1, q1, q2, q3, q4⟩ := drive_F t (hs.tick t htm) (h8 t htm) B a ha p wv hl hsp hG hwv
      obtain ⟨p', wv', r1, r2, r3, r4⟩ := ih (P ++ [t]) p1 wv1 (by rw [hP]; simp) (by simp; omega) (by rw [q2]; exact hl) (by rw [q2]; exact hsp) q3 q4
      rw [show (P ++ [t]).length = P.length + 1 by simp] at r1
      refine ⟨p', wv', ?_, r2.trans q2, r3, r4⟩
      rw [l20_JudgeSafe_R0_eq]
      simp only [l20_JudgeSafe_B0, l20_JudgeSafe_K0_a, h1, h2', hia, hw, hsl, r18_Drive_call, q1, r1, zy, simprocAttr]
    · have h2' : ¬ ((P.length : Int) < 10) := by omega
      refine ⟨p, wv, ?_, rfl, hG, hwv⟩
      rw [l20_JudgeSafe_R0_eq]
      simp only [l20_JudgeSafe_B0, l20_JudgeSafe_K0_a, h1, h2', zy, simprocAttr]

set_option maxHeartbeats 4000000 in
theorem judgeSafe_F (s : Story) (hs : s.ok) (states : List Int) (H : Heap) : l20_JudgeSafe_F false H [.agg (storyC s), sl fU states] = some (.bool true, H) := by
  have hn := nobody_F
  have hsm := fun st H => rsmall_F s hs st H
  cases hsmall : s.small with
  | false =>
    rw [hsmall] at hsm
    rw [l20_JudgeSafe_F_eq]
    simp only [l20_JudgeSafe_C, l20_nobody_call, hn, r18_Small_call, hsm, zy, simprocAttr]
  | true =>
    rw [hsmall] at hsm
    by_cases h40 : (40 : Int) < states.length
    · rw [l20_JudgeSafe_F_eq]
      simp only [l20_JudgeSafe_C, l20_nobody_call, hn, r18_Small_call, hsm, h40, zy, simprocAttr]
    · have hst : states.length ≤ 1000 := by omega
      unfold Story.small at hsmall
      simp only [Bool.and_eq_true, List.all_eq_true, decide_eq_true_eq] at hsmall
      obtain ⟨⟨⟨⟨_, h8⟩, _⟩, _⟩, _⟩ := hsmall
      have hl := full_Lens s.d
      obtain ⟨wv0, w1, w2⟩ := begin_F s hs []
      simp only [List.nil_append, List.length_nil] at w2
      obtain ⟨p, wv, q1, q2, q3, q4⟩ := lsafe_loop s hs h8 states [Blk.dead] 0 (by simp) s.ticks [] (begin s) wv0 rfl (by simp) hl (full_speed s.d hs.d) (begin_good s) w1
      simp only [List.length_nil, Int.natCast_zero, List.set_cons_zero] at q1
      have hpl : p.l = full s.d := q2
      have hlp : Lens p.l := by rw [hpl]; exact hl
      obtain ⟨b', a, m, es, t1, t2, t3, t4⟩ := turned_F p.l hlp p rfl wv q3 q4 [Blk.cells (playC p wv .nils)] 0 rfl
      have hGE := goodE_of hlp q3 t3
      obtain ⟨b2, g2, e2⟩ := jsafe_F p.l hlp a m es hGE states hst b' t2
      obtain ⟨b3, g3, e3⟩ := nsafe_F states hst b2
      have hp2 : b2[0]? = some (.cells (playC p wv .nils)) := (t4.trans g2) _ _ rfl
      have hg : ∀ bx, Heap.get ⟨bx, b2⟩ (.blk 0) = some (playC p wv .nils) := fun bx => get_blk bx _ _ _ hp2
      have hsn := fun bx n => play_snap p wv q4 ⟨bx, b2⟩ n
      have hpl2 := play_len p wv .nils (sl fB p.right)
      have hR := fun st H => rsafe_F p hlp q3 (.vs [] 0) rfl states hst st H
      have hsame : insideE p.l es = insideV p.l p.w := funext fun s => inside_same p.l p.w q3.once es t3 s
      rw [hsame] at e2
      rw [l20_JudgeSafe_F_eq]
      cases hv : safeFrom (insideV p.l p.w) 0 states with
      | true =>
        rw [hv] at e2 hR
        simp only [l20_JudgeSafe_C, l20_nobody_call, hn, r18_Small_call, hsm, h40, r18_Begin_call, w2, l20_JudgeSafe_L0_eq, q1, l20_turned_call, t1, judge_Safe_call, e2, hg, hsn, hpl2, r20_Safe_call, hR, e3, zy, simprocAttr]
      | false =>
        rw [hv] at e2 hR
        simp only [l20_JudgeSafe_C, l20_nobody_call, hn, r18_Small_call, hsm, h40, r18_Begin_call, w2, l20_JudgeSafe_L0_eq, q1, l20_turned_call, t1, judge_Safe_call, e2, hg, hsn, hpl2, r20_Safe_call, hR, e3, zy, simprocAttr]
end Go.Proofs.Ytfblegjbmhgepaa.Zt
end
section
namespace Go.Proofs.Ytfblegjbmhgepaa.Zt
open Go Go.Zc
set_option maxRecDepth 10000

section
variable {bl : List Blk} {a m : Nat} {l : Lay} {es : List Ve}
theorem wIn1_F (hl : Lens l) (h : Wld bl a m l es) (n : Nat) (hn : n < l.parts.length) (s : Int) (x y : Nat) (hx : bl[x]? = some (.cells [.op (.blk a) 0])) (hy : bl[y]? = some (.cells [.int .i64 n])) (bx : List (Nat × List CV)) :
    world_World_In_1_F bx bl [.int .i64 s, .op (.blk x) 0, .op (.blk y) 0] = some (.bool (decide (s ∈ l.parts[n])), ⟨bx, bl⟩) := by
  have g1 : ∀ bx, Heap.get ⟨bx, bl⟩ (.blk x) = some [.op (.blk a) 0] := fun bx => get_blk bx bl _ _ hx
  have g2 : ∀ bx, Heap.get ⟨bx, bl⟩ (.blk y) = some [.int .i64 n] := fun bx => get_blk bx bl _ _ hy
  have hg := h.get
  have hk : nchkC (.op (.blk a) 0) = some (.op (.blk a) 0) := rfl
  have hia := iaddr_atL (k := .i64) hn
  have hc := fun st H => contains_F s l.parts[n] (by have := hl.ok.part _ (List.getElem_mem hn); unfold Zc.small at *; omega) st H
  rw [world_World_In_1_F_eq]
  simp only [world_World_In_1_C, g1, g2, hg, hk, world_parts, hia, slices_Contains_int_call, hc, zy, simprocAttr]
theorem wIn_F (hl : Lens l) (h : Wld bl a m l es) (hf : GoodE l es) (id p : Int) :
    ∃ b', Grows bl b' ∧ ∀ bx, world_World_In_F bx bl [.op (.blk a) 0, .int .i64 id, .int .i64 p] = some (.bool (inE l es id p), ⟨bx, b'⟩) := by
  have hG1 : Grows bl (bl ++ [Blk.cells [.op (.blk a) 0]] ++ [Blk.cells [.int .i64 p]]) := (Grows.app _ _).trans (Grows.app _ _)
  have hW := h.keep hG1
  have hget : ∀ bx, Heap.get ⟨bx, bl ++ [Blk.cells [.op (.blk a) 0]] ++ [Blk.cells [.int .i64 p]]⟩ (.blk bl.length) = some [.op (.blk a) 0] := fun bx => get_blk bx _ _ _ (by simp)
  have hget2 : ∀ bx, Heap.get ⟨bx, bl ++ [Blk.cells [.op (.blk a) 0]] ++ [Blk.cells [.int .i64 p]]⟩ (.blk (bl.length + 1)) = some [.int .i64 p] := fun bx => get_blk bx _ _ _ (by rw [List.getElem?_append_right (by simp)]; simp)
  have hg := hW.get
  have hk : nchkC (.op (.blk a) 0) = some (.op (.blk a) 0) := rfl
  have hz : ∀ i o, binC .eql .ptr (.op i o) .nilp = some (.bool false) := fun _ _ => rfl
  unfold inE partAt
  by_cases h0 : 0 ≤ p
  · have h0' : ¬ p < 0 := by omega
    by_cases h1 : p < l.parts.length
    · obtain ⟨n, rfl⟩ := Int.eq_ofNat_of_zero_le h0
      have hn : n < l.parts.length := by omega
      have h1' : ¬ ((l.parts.length : Int) ≤ n) := by omega
      simp only [if_pos h0, Int.toNat_natCast, List.getElem?_eq_getElem hn]
      obtain ⟨v, X, q1, q2, q3⟩ := wUnder_F hl hW hf.fit id
      have hG2 := Grows.app (bl ++ [Blk.cells [.op (.blk a) 0]] ++ [Blk.cells [.int .i64 n]]) X
      have hx : (bl ++ [Blk.cells [.op (.blk a) 0]] ++ [Blk.cells [.int .i64 n]])[bl.length]? = some (.cells [.op (.blk a) 0]) := by simp
      have hy : (bl ++ [Blk.cells [.op (.blk a) 0]] ++ [Blk.cells [.int .i64 n]])[bl.length + 1]? = some (.cells [.int .i64 n]) := by rw [List.getElem?_append_right (by simp)]; simp
      obtain ⟨b', g, c⟩ := containsR_F (.fn (.func 80) [] [.op (.blk bl.length) 0, .op (.blk (bl.length + 1)) 0]) rfl (fun s => decide (s ∈ l.parts[n])) v _ (underE l es id) q2.held
        (by have := underE_len hf id; unfold Zc.small; omega) (fun s _ b hb => by
          refine ⟨b, Grows.refl b, fun bx => ?_⟩
          rw [world_World_In_1_call]
          exact wIn1_F hl ((hW.keep hG2).keep hb) n hn s _ _ (hb _ _ (hG2 _ _ hx)) (hb _ _ (hG2 _ _ hy)) bx)
      refine ⟨b', (hG1.trans hG2).trans g, fun bx => ?_⟩
      have hmk : ∀ x y, pureOp (.mkfn (.func 80) 0) [x, y] = some (.fn (.func 80) [] [x, y]) := fun _ _ => rfl
      have hlv := q2.locv
      rw [world_World_In_F_eq]
      simp only [world_World_In_C, hget, hget2, hz, hg, hk, world_parts, h0', h1', ge_iff_le, world_World_Under_call, q1, hmk, hlv, slices_ContainsFunc_int_call, c, List.length_append, zy, simprocAttr]
    · have h1' : (l.parts.length : Int) ≤ p := by omega
      have hnone : l.parts[p.toNat]? = none := List.getElem?_eq_none (by omega)
      simp only [if_pos h0, hnone]
      refine ⟨_, hG1, fun bx => ?_⟩
      rw [world_World_In_F_eq]
      simp only [world_World_In_C, hget, hget2, hz, hg, hk, world_parts, h0', h1', ge_iff_le, List.length_append, zy, simprocAttr]
  · have h0' : p < 0 := by omega
    simp only [if_neg h0]
    refine ⟨_, hG1, fun bx => ?_⟩
    rw [world_World_In_F_eq]
    simp only [world_World_In_C, hget, hget2, hz, h0', List.length_append, zy, simprocAttr]

/-- Is one not among some, and in a part? -/
def stray (l : Lay) (es : List Ve) (p : Int) (mine : List Int) (id : Int) : Bool := !decide (id ∈ mine) && inE l es id p
theorem sole1_F (hl : Lens l) (h : Wld bl a m l es) (hf : GoodE l es) (p : Int) (mine : List Int) (hm : mine.length ≤ 1000) (id : Int) (x y z : Nat) (hx : bl[x]? = some (.cells [sl fI mine])) (hy : bl[y]? = some (.cells [.op (.blk a) 0])) (hz : bl[z]? = some (.cells [.int .i64 p])) :
    ∃ b', Grows bl b' ∧ ∀ bx, judge_Sole_1_F bx bl [.int .i64 id, .op (.blk x) 0, .op (.blk y) 0, .op (.blk z) 0] = some (.bool (stray l es p mine id), ⟨bx, b'⟩) := by
  have g1 : ∀ bx, Heap.get ⟨bx, bl⟩ (.blk x) = some [sl fI mine] := fun bx => get_blk bx bl _ _ hx
  have g2 : ∀ bx, Heap.get ⟨bx, bl⟩ (.blk y) = some [.op (.blk a) 0] := fun bx => get_blk bx bl _ _ hy
  have g3 : ∀ bx, Heap.get ⟨bx, bl⟩ (.blk z) = some [.int .i64 p] := fun bx => get_blk bx bl _ _ hz
  have hc := fun st H => contains_F id mine (by unfold Zc.small; omega) st H
  obtain ⟨b', g, q⟩ := wIn_F hl h hf id p
  unfold stray
  by_cases hA : id ∈ mine
  · refine ⟨bl, Grows.refl bl, fun bx => ?_⟩
    rw [judge_Sole_1_F_eq]
    simp only [judge_Sole_1_C, g1, slices_Contains_int_call, hc, eq_true hA, zy, simprocAttr]
  · refine ⟨b', g, fun bx => ?_⟩
    rw [judge_Sole_1_F_eq]
    simp only [judge_Sole_1_C, g1, g2, g3, slices_Contains_int_call, hc, eq_false hA, world_World_In_call, q, zy, simprocAttr]
theorem sole_F (hl : Lens l) (h : Wld bl a m l es) (hf : GoodE l es) (p : Int) (mine : List Int) (hm : mine.length ≤ 1000) :
    ∃ b', Grows bl b' ∧ ∀ bx, judge_Sole_F bx bl [.op (.blk a) 0, .int .i64 p, sl fI mine] = some (.bool (!((isort (es.map fun e => e.v.id)).any (stray l es p mine))), ⟨bx, b'⟩) := by
  have hG1 : Grows bl (bl ++ [Blk.cells [.op (.blk a) 0]] ++ [Blk.cells [.int .i64 p]] ++ [Blk.cells [sl fI mine]]) := ((Grows.app _ _).trans (Grows.app _ _)).trans (Grows.app _ _)
  have hW := h.keep hG1
  have hall := wAll_F hW hf.ids (by have := hf.few; omega)
  have hG2 := hG1.trans (Grows.app _ [Blk.cells [.om m]])
  have hget : ∀ bx, Heap.get ⟨bx, bl ++ [Blk.cells [.op (.blk a) 0]] ++ [Blk.cells [.int .i64 p]] ++ [Blk.cells [sl fI mine]]⟩ (.blk bl.length) = some [.op (.blk a) 0] := fun bx => get_blk bx _ _ _ (by simp)
  have hx : (bl ++ [Blk.cells [.op (.blk a) 0]] ++ [Blk.cells [.int .i64 p]] ++ [Blk.cells [sl fI mine]] ++ [Blk.cells [.om m]])[bl.length + 1 + 1]? = some (.cells [sl fI mine]) := by
    rw [List.getElem?_append_left (by simp), List.getElem?_append_right (by simp)]; simp
  have hy : (bl ++ [Blk.cells [.op (.blk a) 0]] ++ [Blk.cells [.int .i64 p]] ++ [Blk.cells [sl fI mine]] ++ [Blk.cells [.om m]])[bl.length]? = some (.cells [.op (.blk a) 0]) := by simp
  have hz : (bl ++ [Blk.cells [.op (.blk a) 0]] ++ [Blk.cells [.int .i64 p]] ++ [Blk.cells [sl fI mine]] ++ [Blk.cells [.om m]])[bl.length + 1]? = some (.cells [.int .i64 p]) := by
    rw [List.getElem?_append_left (by simp), List.getElem?_append_left (by simp), List.getElem?_append_right (by simp)]; simp
  obtain ⟨b', g, c⟩ := containsR_F (.fn (.func 58) [] [.op (.blk (bl.length + 1 + 1)) 0, .op (.blk bl.length) 0, .op (.blk (bl.length + 1)) 0]) rfl (stray l es p mine) (sl fI (isort (es.map fun e => e.v.id))) _ (isort (es.map fun e => e.v.id)) (.inl rfl)
    (by rw [(isort_perm _).length_eq, List.length_map]; have := hf.few; unfold Zc.small; omega) (fun id _ b hb => by
      obtain ⟨b', g, q⟩ := sole1_F hl ((h.keep hG2).keep hb) hf p mine hm id _ _ _ (hb _ _ hx) (hb _ _ hy) (hb _ _ hz)
      refine ⟨b', g, fun bx => ?_⟩
      rw [judge_Sole_1_call]
      exact q bx)
  refine ⟨b', hG2.trans g, fun bx => ?_⟩
  have hmk : ∀ x y z, pureOp (.mkfn (.func 58) 0) [x, y, z] = some (.fn (.func 58) [] [x, y, z]) := fun _ _ _ => rfl
  rw [judge_Sole_F_eq]
  simp only [judge_Sole_C, hget, world_World_All_call, hall, hmk, slices_ContainsFunc_int_call, c, List.length_append, zy, simprocAttr]
end
theorem nsole_F (p : Int) (mine : List Int) (b : List Blk) : ∃ b', Grows b b' ∧ ∀ bx, judge_Sole_F bx b [.nilp, .int .i64 p, sl fI mine] = some (.bool true, ⟨bx, b'⟩) := by
  have hG1 : Grows b (b ++ [Blk.cells [.nilp]] ++ [Blk.cells [.int .i64 p]] ++ [Blk.cells [sl fI mine]]) := ((Grows.app _ _).trans (Grows.app _ _)).trans (Grows.app _ _)
  have hget : ∀ bx, Heap.get ⟨bx, b ++ [Blk.cells [.nilp]] ++ [Blk.cells [.int .i64 p]] ++ [Blk.cells [sl fI mine]]⟩ (.blk b.length) = some [.nilp] := fun bx => get_blk bx _ _ _ (by simp)
  obtain ⟨b', g, c⟩ := containsR_F (.fn (.func 58) [] [.op (.blk (b.length + 1 + 1)) 0, .op (.blk b.length) 0, .op (.blk (b.length + 1)) 0]) rfl (fun _ => false) .nils (b ++ [Blk.cells [.nilp]] ++ [Blk.cells [.int .i64 p]] ++ [Blk.cells [sl fI mine]]) [] (.inr (.inl ⟨rfl, rfl⟩)) (by simp) (by simp)
  refine ⟨b', hG1.trans g, fun bx => ?_⟩
  have hmk : ∀ x y z, pureOp (.mkfn (.func 58) 0) [x, y, z] = some (.fn (.func 58) [] [x, y, z]) := fun _ _ _ => rfl
  have hz2 : binC .eql .ptr .nilp .nilp = some (.bool true) := rfl
  simp only [List.any_nil] at c
  rw [judge_Sole_F_eq]
  simp only [judge_Sole_C, hget, world_World_All_call, world_World_All_F_eq, world_World_All_C, hz2, hmk, slices_ContainsFunc_int_call, c, List.length_append, zy, simprocAttr]

/-- As the document tells: all of some vehicles. -/
def soleV (l : Lay) (w : List Vh) (p : Int) (mine : List Int) : List Vh → Bool
  | [] => true
  | v :: r => (decide (v.id ∈ mine) || !inV l w v.id p) && soleV l w p mine r
theorem lsole_loop (l : Lay) (hl : Lens l) (pl : Pl) (hpl : pl.l = l) (wv : CV) (hG : GoodW l pl.w) (hwv : Fz fVh wv pl.w) (b : List Blk) (a0 : Nat) (h0 : b[a0]? = some (.cells (playC pl wv .nils))) (p : Int) (mine : List Int) (hm : mine.length ≤ 1000) (c10 : CV) (h10 : c10.locv = false) : ∀ (S P : List Vh) (w : Bool), pl.w = P ++ S →
    l20_JudgeSole_R0 ([(1, .int .i64 p), (2, sl fI mine), (9, .op (.blk a0) 0), (10, c10), (11, .bool w), (12, .int .i64 P.length)], ⟨[], b⟩) =
      some (.norm, [(1, .int .i64 p), (2, sl fI mine), (10, c10), (11, .bool (w && soleV l pl.w p mine S))], ⟨[], b⟩) := by
  intro S
  have hn : nchkC (.op (.blk a0) 0) = some (.op (.blk a0) 0) := rfl
  have hlen := hwv.len
  have g2 := play_w pl wv .nils (sl fB pl.right)
  have g1 := play_l pl wv .nils (sl fB pl.right)
  rw [hpl] at g1
  have hg : ∀ bx, Heap.get ⟨bx, b⟩ (.blk a0) = some (playC pl wv .nils) := fun bx => get_blk bx b _ _ h0
  have hc10 := chkV_of h10
  induction S with
  | nil =>
    intro P w hP
    have h1 : ¬ ((P.length : Int) < pl.w.length) := by rw [hP]; simp
    rw [l20_JudgeSole_R0_eq]
    simp only [l20_JudgeSole_B0, l20_JudgeSole_K0_a, hn, hg, g2, hlen, h1, hc10, soleV, zy, simprocAttr]
  | cons v S ih =>
    intro P w hP
    have h1 : ((P.length : Int) < pl.w.length) := by rw [hP]; simp; omega
    have hp6 : P.length + 1 ≤ 6 := by have := hG.few; rw [hP] at this; simp at this; omega
    have hw := wrapN (n := P.length) (by unfold Zc.small; omega)
    have hwe := hwv.ne (by rw [hP]; simp)
    have hia := iaddr_midVh .i64 P S v
    rw [← hP] at hia
    have hI := fun st H => rIn_F l hl pl.w (by have := hG.few; unfold Zc.small; omega) (hG.fits hl) v.id p st H
    have hH := fun st H => has_F mine v.id (by unfold Zc.small; omega) st H
    have ih' := fun w => ih (P ++ [v]) w (by rw [hP]; simp)
    rw [show (P ++ [v]).length = P.length + 1 by simp] at ih'
    subst hwe
    rw [l20_JudgeSole_R0_eq]
    unfold soleV
    cases w with
    | false => simp only [l20_JudgeSole_B0, l20_JudgeSole_K0_a, hn, hg, g2, hlen, h1, hw, hc10, ih', zy, simprocAttr]
    | true =>
      by_cases hA : v.id ∈ mine
      · simp only [l20_JudgeSole_B0, l20_JudgeSole_K0_a, hn, hg, g2, hlen, h1, hia, hw, hc10, r01_Has_call, hH, eq_true hA, ih', zy, simprocAttr]
      · simp only [l20_JudgeSole_B0, l20_JudgeSole_K0_a, hn, hg, g1, g2, hlen, h1, hia, hw, hc10, r01_Has_call, hH, eq_false hA, r18_In_call, hI, ih', zy, simprocAttr]

theorem under_same (l : Lay) (w : List Vh) (hn : (w.map Vh.id).Nodup) (es : List Ve) (hes : es.map Ve.v = w.map (turnV l)) {v : Vh} (hv : v ∈ w) : underE l es v.id = underL l v := by
  have hm : turnV l v ∈ es.map Ve.v := by rw [hes]; exact List.mem_map_of_mem hv
  obtain ⟨e, he, hev⟩ := List.mem_map.1 hm
  unfold underE
  cases hf : findE es v.id with
  | none =>
    unfold findE at hf
    rw [List.find?_eq_none] at hf
    have := hf e he
    rw [hev] at this
    simp [turnV] at this
  | some e' =>
    obtain ⟨he', hi'⟩ := findE_mem hf
    have hm' : e'.v ∈ es.map Ve.v := List.mem_map_of_mem he'
    rw [hes] at hm'
    obtain ⟨v', hv', hve'⟩ := List.mem_map.1 hm'
    have : v' = v := by
      obtain ⟨i, hi, rfl⟩ := List.mem_iff_getElem.1 hv
      obtain ⟨j, hj, rfl⟩ := List.mem_iff_getElem.1 hv'
      have h1 : w[j].id = w[i].id := by rw [← hi', ← hve']; rfl
      have h2 := findW_at hn hi
      have h3 := findW_at hn hj
      rw [h1, h2] at h3
      cases h3
      rfl
    subst this
    show underL l e'.v = _
    rw [← hve', turn_under]
theorem soleV_all (l : Lay) (w : List Vh) (p : Int) (mine : List Int) : ∀ r : List Vh, soleV l w p mine r = r.all fun v => decide (v.id ∈ mine) || !inV l w v.id p
  | [] => rfl
  | v :: r => by unfold soleV; rw [soleV_all l w p mine r, List.all_cons]
theorem sole_same (l : Lay) (w : List Vh) (hn : (w.map Vh.id).Nodup) (es : List Ve) (hes : es.map Ve.v = w.map (turnV l)) (p : Int) (mine : List Int) : (!((isort (es.map fun e => e.v.id)).any (stray l es p mine))) = soleV l w p mine w := by
  have hids : (es.map fun e => e.v.id) = w.map Vh.id := by
    have := congrArg (List.map Vh.id) hes
    rw [List.map_map, List.map_map] at this
    exact this
  have hin : ∀ v ∈ w, inE l es v.id p = inV l w v.id p := by
    intro v hv
    unfold inE inV
    rw [under_same l w hn es hes hv, underV_mem hn hv]
    cases partAt l p <;> rfl
  rw [soleV_all, hids, Bool.eq_iff_iff, Bool.not_eq_true', List.any_eq_false, List.all_eq_true]
  constructor
  · intro h v hv
    have := h v.id ((isort_perm _).mem_iff.2 (List.mem_map_of_mem hv))
    unfold stray at this
    rw [hin v hv] at this
    by_cases hA : v.id ∈ mine
    · simp [hA]
    · simpa [hA] using this
  · intro h id hid
    rw [(isort_perm _).mem_iff] at hid
    obtain ⟨v, hv, rfl⟩ := List.mem_map.1 hid
    have := h v hv
    unfold stray
    rw [hin v hv]
    by_cases hA : v.id ∈ mine
    · simp [hA]
    · simpa [hA] using this

set_option maxHeartbeats 4000000 in
theorem judgeSole_F (s : Story) (hs : s.ok) (part : Int) (mine : List Int) (near : Bool) (H : Heap) : l20_JudgeSole_F false H [.agg (storyC s), .int .i64 part, sl fI mine, .bool near] = some (.bool true, H) := by
  have hn := nobody_F
  have hsm := fun st H => rsmall_F s hs st H
  cases hsmall : s.small with
  | false =>
    rw [hsmall] at hsm
    rw [l20_JudgeSole_F_eq]
    simp only [l20_JudgeSole_C, l20_nobody_call, hn, r18_Small_call, hsm, zy, simprocAttr]
  | true =>
    rw [hsmall] at hsm
    by_cases h12 : (12 : Int) < mine.length
    · rw [l20_JudgeSole_F_eq]
      simp only [l20_JudgeSole_C, l20_nobody_call, hn, r18_Small_call, hsm, h12, zy, simprocAttr]
    · have hl : Lens (begin s).l := full_Lens s.d
      have hG := begin_good s
      obtain ⟨wv, w1, w2⟩ := begin_F s hs []
      simp only [List.nil_append, List.length_nil] at w2
      obtain ⟨b1, a, m, es, t1, t2, t3, t4⟩ := turned_F (begin s).l hl (begin s) rfl wv hG w1 [Blk.cells (playC (begin s) wv .nils)] 0 rfl
      have hGE := goodE_of hl hG t3
      have hb1 : b1[0]? = some (.cells (playC (begin s) wv .nils)) := t4 0 _ rfl
      have hgp : ∀ bx, Heap.get ⟨bx, b1⟩ (.blk 0) = some (playC (begin s) wv .nils) := fun bx => get_blk bx b1 _ _ hb1
      have hnk : nchkC (.op (.blk 0) 0) = some (.op (.blk 0) 0) := rfl
      have gp := play_parts (begin s) wv .nils (sl fB (begin s).right)
      have hpp : 0 < (begin s).l.parts.length := by
        obtain ⟨n, hn, _⟩ := full_part s.d hs.d (s := 0) (by omega) (by have h : 0 < (full s.d).secs.length := hl.pos; omega)
        show 0 < (full s.d).parts.length
        omega
      have hp0 : ¬ ((begin s).l.parts.length : Int) = 0 := by omega
      have run : ∀ p : Int, ∃ b2 b3, (∀ bx, judge_Sole_F bx b1 [.op (.blk a) 0, .int .i64 p, sl fI mine] = some (.bool (soleV (begin s).l (begin s).w p mine (begin s).w), ⟨bx, b2⟩)) ∧ (∀ bx, judge_Sole_F bx b2 [.nilp, .int .i64 p, sl fI mine] = some (.bool true, ⟨bx, b3⟩)) ∧
          l20_JudgeSole_R0 ([(1, .int .i64 p), (2, sl fI mine), (9, .op (.blk 0) 0), (10, .op (.blk a) 0), (11, .bool true), (12, .int .i64 0)], ⟨[], b1⟩) =
            some (.norm, [(1, .int .i64 p), (2, sl fI mine), (10, .op (.blk a) 0), (11, .bool (soleV (begin s).l (begin s).w p mine (begin s).w))], ⟨[], b1⟩) := by
        intro p
        obtain ⟨b2, g2, e2⟩ := sole_F hl t2 hGE p mine (by omega)
        rw [sole_same (begin s).l (begin s).w hG.once es t3 p mine] at e2
        obtain ⟨b3, g3, e3⟩ := nsole_F p mine b2
        have e4 := lsole_loop (begin s).l hl (begin s) rfl wv hG w1 b1 0 hb1 p mine (by omega) (.op (.blk a) 0) rfl (begin s).w [] true rfl
        simp only [List.length_nil, Int.natCast_zero, Bool.true_and] at e4
        exact ⟨b2, b3, e2, e3, e4⟩
      have heq : ∀ b : Bool, binC .eql .bool (.bool b) (.bool b) = some (.bool true) := by intro b; cases b <;> rfl
      cases near with
      | false =>
        obtain ⟨b2, b3, e2, e3, e4⟩ := run part
        rw [l20_JudgeSole_F_eq]
        simp only [l20_JudgeSole_C, l20_nobody_call, hn, r18_Small_call, hsm, h12, r18_Begin_call, w2, l20_turned_call, t1, l20_JudgeSole_L0_eq, e4, judge_Sole_call, e2, heq, e3, zy, simprocAttr]
      | true =>
        obtain ⟨b2, b3, e2, e3, e4⟩ := run (part.tmod (begin s).l.parts.length)
        rw [l20_JudgeSole_F_eq]
        simp only [l20_JudgeSole_C, l20_nobody_call, hn, r18_Small_call, hsm, h12, r18_Begin_call, w2, l20_turned_call, t1, hnk, hgp, gp, hp0, l20_JudgeSole_L0_eq, e4, judge_Sole_call, e2, heq, e3, zy, simprocAttr]
end Go.Proofs.Ytfblegjbmhgepaa.Zt
end
