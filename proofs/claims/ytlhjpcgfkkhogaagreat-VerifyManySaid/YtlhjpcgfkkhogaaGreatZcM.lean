/- Walks: slices.Index and Contains. -/
import Derived.Test.YtlhjpcgfkkhogaaGreatZcVa
import Derived.Test.YtlhjpcgfkkhogaaGreatZcSet
import Derived.Test.YtlhjpcgfkkhogaaGreatZcT
import Derived.Test.YtlhjpcgfkkhogaaGreatZcSym
set_option linter.all false
section
namespace Go.Proofs.YtlhjpcgfkkhogaaGreat.Zt
open Go Go.Zc
set_option maxRecDepth 10000

theorem index_loop (n : Int) : ∀ (s pre : List Int), (pre ++ s).length ≤ 2 * Zc.small →
    slices_Index_int_R0 ([(0, sl fI (pre ++ s)), (1, .int .i64 n), (7, .int .i64 (pre ++ s).length), (8, .int .i64 pre.length)], ⟨[], []⟩) =
      match s.findIdx? (fun x => decide (n = x)) with
      | some i => some (.ret, [(4, .int .i64 ((pre.length + i : Nat) : Int))], ⟨[], []⟩)
      | none => some (.norm, [], ⟨[], []⟩)
  | [], pre, hm => by
    rw [slices_Index_int_R0_eq]
    simp only [slices_Index_int_B0, slices_Index_int_K0_a, List.findIdx?_nil, zy, simprocAttr]
  | x :: s, pre, hm => by
    have h1 : ((pre.length : Int) < (pre ++ x :: s).length) := by simp; omega
    have hw := wrapN (n := pre.length) (by simp at hm; omega)
    have ih := index_loop n s (pre ++ [x]) (by simpa using hm)
    simp only [List.append_assoc, List.cons_append, List.nil_append, List.length_append, List.length_cons, List.length_nil] at ih h1
    rw [slices_Index_int_R0_eq]
    simp only [slices_Index_int_B0, slices_Index_int_K0_a, h1, iaddr_midI, hw, List.append_assoc, List.cons_append, List.nil_append, List.length_append, List.length_cons, List.length_nil, zy, simprocAttr, ih]
    by_cases hA : n = x
    · simp [hA, List.findIdx?_cons]
    · simp only [hA, if_false, List.findIdx?_cons, decide_false, Bool.false_eq_true]
      cases hf : s.findIdx? (fun x => decide (n = x)) with
      | none => simp
      | some i => simp; omega

theorem index_F (n : Int) (l : List Int) (hm : l.length ≤ 2 * Zc.small) (st : Bool) (H : Heap) :
    slices_Index_int_F st H [sl fI l, .int .i64 n] = some (.int .i64 (idxOf (fun x => decide (n = x)) l), H) := by
  have e := index_loop n l [] hm
  simp only [List.nil_append, List.length_nil, Int.natCast_zero, Nat.zero_add] at e
  rw [slices_Index_int_F_eq]
  simp only [slices_Index_int_C, slices_Index_int_L0_eq, e, idxOf, zy, simprocAttr]
  cases hf : l.findIdx? (fun x => decide (n = x)) <;> simp only [zy, simprocAttr]

theorem idxOf_nonneg {α : Type} (p : α → Bool) (l : List α) : (0 ≤ idxOf p l) ↔ ∃ x ∈ l, p x = true := by
  unfold idxOf
  cases h : l.findIdx? p with
  | none =>
    have := List.findIdx?_eq_none_iff.1 h
    simp only [show ¬ (0 : Int) ≤ -1 by omega, false_iff]
    rintro ⟨x, hx, hp⟩
    rw [this x hx] at hp; cases hp
  | some i =>
    obtain ⟨hi, hp, _⟩ := List.findIdx?_eq_some_iff_getElem.1 h
    simp only [show (0 : Int) ≤ i by omega, true_iff]
    exact ⟨l[i], List.getElem_mem hi, hp⟩

theorem contains_F (n : Int) (l : List Int) (hm : l.length ≤ 2 * Zc.small) (st : Bool) (H : Heap) :
    slices_Contains_int_F st H [sl fI l, .int .i64 n] = some (.bool (decide (n ∈ l)), H) := by
  rw [slices_Contains_int_F_eq]
  have h : (0 ≤ idxOf (fun x => decide (n = x)) l) = (n ∈ l) := by
    rw [idxOf_nonneg]; simp
  simp only [slices_Contains_int_C, slices_Index_int_call, index_F n l hm, h, zy, simprocAttr]

theorem find_idx {α : Type} (p : α → Bool) (l : List α) : (∀ i, l.findIdx? p = some i → ∃ h : i < l.length, l.find? p = some l[i]) ∧ (l.findIdx? p = none → l.find? p = none) := by
  constructor
  · intro i h
    obtain ⟨hi, h2, h3⟩ := List.findIdx?_eq_some_iff_getElem.1 h
    refine ⟨hi, ?_⟩
    rw [List.find?_eq_some_iff_getElem]
    exact ⟨h2, i, hi, rfl, fun j hj => by simpa using h3 j hj⟩
  · intro h
    rw [List.find?_eq_none]
    intro x hx
    simpa using List.findIdx?_eq_none_iff.1 h x hx

theorem around_len2 (l : Lay) (x : Ed) : (around l x).length ≤ 2 * Zc.small := by
  have := around_len l x
  unfold Zc.small; omega

theorem iaddr_0I (k : IntKind) (h : Int) (t : List Int) : iaddrC 1 (sl fI (h :: t)) (.int k 0) = some (.vp (.int .i64 h :: t.flatMap fI)) := iaddr_midI k [] t h
theorem slc_1I (k : IntKind) (h : Int) (t : List Int) : slcC 1 (sl fI (h :: t)) (some (.int k 1)) none = some (sl fI t) := by
  have := slc_lo flatI (h :: t) 1 (by simp) k
  simpa using this

end Go.Proofs.YtlhjpcgfkkhogaaGreat.Zt
end
section
namespace Go.Proofs.YtlhjpcgfkkhogaaGreat.Zt
open Go Go.Zc
set_option maxRecDepth 10000

theorem ptOf_pt {l : Lay} {n : Int} {i : Nat} (h : ptOf l n = some i) : ∃ hi : i < l.pts.length, l.pts[i]? = some l.pts[i] := by
  obtain ⟨hi, _⟩ := ptOf_some h
  exact ⟨hi, List.getElem?_eq_getElem hi⟩
theorem snap_N (H : Heap) (st kn : Bool) (n : Nat) : ∀ x : Nd, ∀ c ∈ fN x, snapN H st kn (n + 1) c = some c := by
  intro x c hc
  simp only [fN, List.mem_cons, List.not_mem_nil, or_false] at hc
  rcases hc with rfl | rfl <;> rfl
theorem slN1 (a : Int) (b : Bool) : sl fN [⟨a, b⟩] = .vs [.int .i64 a, .bool b] 1 := rfl
theorem needAt_len (l : Lay) (n s t : Int) : (needAt l n s t).length ≤ 1 := by
  unfold needAt
  split
  · simp
  · split <;> simp
theorem around_node {l : Lay} {x y : Ed} (h : y ∈ around l x) : ∃ n, nodeOf l x = some n := by
  cases hn : nodeOf l x with
  | none => simp [around, hn] at h
  | some n => exact ⟨n, rfl⟩

theorem gneed_F (l : Lay) (hl : l.ok) (x y : Ed) (n : Int) (hn : nodeOf l x = some n) (H : Heap) : graph_Graph_need_F false H [.vp (layC l), .agg (fE x), .agg (fE y)] = some (sl fN (needAt l n x.s y.s), H) := by
  rw [graph_Graph_need_F_eq]
  have hnF := fun st H => gnode_F l x st H
  have hpF := fun st H => gpoint_F l hl n st H
  simp only [hn, Option.getD_some, fE] at hnF
  cases hp : ptOf l n with
  | none =>
    simp only [hp] at hpF
    have hne : needAt l n x.s y.s = [] := by simp [needAt, hp]
    rw [hne]
    simp only [graph_Graph_need_C, fE, graph_Graph_node_call, hnF, graph_Graph_Point_call, hpF, sl_nil fN, zy, simprocAttr]
  | some i =>
    simp only [hp] at hpF
    obtain ⟨hi, hpi⟩ := ptOf_pt hp
    have hi0 : ¬ ((i : Int) < 0) := by omega
    by_cases h1 : l.pts[i].stem = y.s
    · have hne : needAt l n x.s y.s = [⟨i, decide (l.pts[i].right = x.s)⟩] := by simp [needAt, hp, hpi, h1]
      rw [hne, slN1]
      simp only [graph_Graph_need_C, fE, graph_Graph_node_call, hnF, graph_Graph_Point_call, hpF, hi0, iaddr_atP hi, eq_true h1, zy, simprocAttr]
    · have hne : needAt l n x.s y.s = [⟨i, decide (l.pts[i].right = y.s)⟩] := by simp [needAt, hp, hpi, h1]
      rw [hne, slN1]
      simp only [graph_Graph_need_C, fE, graph_Graph_node_call, hnF, graph_Graph_Point_call, hpF, hi0, iaddr_atP hi, eq_false h1, zy, simprocAttr]

theorem gway1_F (x : Ed) (n : Int) (st : Bool) (H : Heap) : graph_Graph_way_1_F st H [.agg (fE x), .vp [.int .i64 n]] = some (.bool (decide (x.s = n)), H) := by
  rw [graph_Graph_way_1_F_eq]
  simp only [graph_Graph_way_1_C, fE, zy, simprocAttr]

set_option maxHeartbeats 1000000 in
theorem gway_loop (l : Lay) (hl : l.ok) (t : List Int) (hm : t.length ≤ Zc.small) : ∀ (s pre : List Int) (x : Ed) (acc : List Nd) (v : CV) (bl : List Blk), pre ++ s = t → acc.length ≤ pre.length → Own fN 2 bl v acc →
    match nways l x s with
    | some ns => ∃ v' bl', graph_Graph_way_R0 ([(0, .vp (layC l)), (4, .op (.loc 4) 0), (8, v), (13, sl fI t), (14, .int .i64 t.length), (15, .int .i64 pre.length)], ⟨[(4, fE x)], bl⟩) = some (.norm, [(8, v')], ⟨[], bl'⟩) ∧ Own fN 2 bl' v' (acc ++ ns)
    | none => ∃ bx' bl', graph_Graph_way_R0 ([(0, .vp (layC l)), (4, .op (.loc 4) 0), (8, v), (13, sl fI t), (14, .int .i64 t.length), (15, .int .i64 pre.length)], ⟨[(4, fE x)], bl⟩) = some (.ret, [(6, .nils), (7, .bool false)], ⟨bx', bl'⟩)
  | [], pre, x, acc, v, bl, hp, ha, hO => by
    have h1 : ¬ ((pre.length : Int) < t.length) := by rw [← hp]; simp
    refine ⟨v, bl, ?_, by simpa using hO⟩
    rw [graph_Graph_way_R0_eq]
    simp only [graph_Graph_way_B0, graph_Graph_way_K0_a, h1, hO.chkV, zy, simprocAttr]
  | n :: s, pre, x, acc, v, bl, hp, ha, hO => by
    have hpl : pre.length + 1 + s.length = t.length := by rw [← hp]; simp; omega
    have h1 : ((pre.length : Int) < t.length) := by omega
    have hw := wrapN (n := pre.length) (by omega)
    have hi : iaddrC 1 (sl fI t) (.int .i64 pre.length) = some (.vp (.int .i64 n :: s.flatMap fI)) := by rw [← hp]; exact iaddr_midI _ pre s n
    have haF := fun H => garound_F l hl x H
    simp only [fE] at haF
    have hg0 : ∀ bx, Heap.get ⟨bx, bl ++ [Blk.cells [.int .i64 0]]⟩ (.blk bl.length) = some [.int .i64 0] := fun bx => get_blk _ _ _ _ (by simp)
    have hg1 : ∀ bx, Heap.get ⟨bx, bl ++ [Blk.cells [.int .i64 n]]⟩ (.blk bl.length) = some [.int .i64 n] := fun bx => get_blk _ _ _ _ (by simp)
    have hst : ∀ bx, stE 1 0 (.int .i64 n) ⟨bx, bl ++ [Blk.cells [.int .i64 0]]⟩ (.blk bl.length) [.int .i64 0] = some ⟨bx, bl ++ [Blk.cells [.int .i64 n]]⟩ := by
      intro bx
      simp [stE, CV.cells, ones, CV.one, CV.locs, CV.locv, Id.loc?, Heap.put, setMany]
    have hc : ∀ (y : Ed) (H' : Heap), call ctx (.fn (.func 103) [] [.vp [.int .i64 n]]) [.agg (fE y)] H' = some (.bool (decide (y.s = n)), H') := by
      intro y H'
      have := gway1_F y n
      simp only [fE] at this
      simp only [graph_Graph_way_1_call, fE, zy, simprocAttr, this]
    have hix := fun st H => idxE_F (.fn (.func 103) [] [.vp [.int .i64 n]]) rfl (fun y => decide (y.s = n)) hc (around l x) (around_len2 l x) st H
    have hfi := find_idx (fun y : Ed => decide (y.s = n)) (around l x)
    have hO1 : Own fN 2 (bl ++ [Blk.cells [.int .i64 n]]) v acc := hO.keep fun m b hb => by
      rw [List.getElem?_append_left (List.getElem?_eq_some_iff.1 hb).1]; exact hb
    cases hf : (around l x).findIdx? (fun y => decide (y.s = n)) with
    | none =>
      have hfd := hfi.2 hf
      have hid : idxOf (fun y : Ed => decide (y.s = n)) (around l x) = -1 := by simp only [idxOf, hf]
      simp only [nways, hfd]
      rw [graph_Graph_way_R0_eq]
      simp only [graph_Graph_way_B0, graph_Graph_way_K0_a, fE, h1, hi, hg0, hg1, hst, hO1.chkV, hO.chkV, graph_Graph_Around_call, haF, slices_IndexFunc_End_call, hix, hid, zy, simprocAttr]
      exact ⟨_, _, rfl⟩
    | some i =>
      obtain ⟨hil, hfd⟩ := hfi.1 i hf
      have hid : idxOf (fun y : Ed => decide (y.s = n)) (around l x) = i := by simp only [idxOf, hf]
      have hi0 : ¬ ((i : Int) < 0) := by omega
      obtain ⟨y, hy⟩ : ∃ y, (around l x)[i] = y := ⟨_, rfl⟩
      have hym : y ∈ around l x := by rw [← hy]; exact List.getElem_mem hil
      have hya := around_in hym
      have hyn : y.s = n := by
        rw [hy] at hfd
        simpa using List.find?_some hfd
      obtain ⟨nd, hnd⟩ := around_node hym
      have hw3 : IntKind.i64.wrap (1 - y.e) = 1 - y.e := wrap64 (by omega) (by omega)
      have hia := iaddr_atE (k := .i64) hil
      rw [hy] at hia hfd
      have hnF := fun H => gneed_F l hl x y nd hnd H
      simp only [fE, hyn] at hnF
      have hnl := needAt_len l nd x.s n
      obtain ⟨v1, bl1, e1, o1, _, f1, _⟩ := hO1.appSl flatN (bytes := 16) (zero := [.int .i64 0, .bool false]) (by decide) rfl rfl (needAt l nd x.s n) (by unfold Zc.small at hm; omega)
      have hg2 : ∀ bx, Heap.get ⟨bx, bl1⟩ (.blk bl.length) = some [.int .i64 n] := fun bx => get_blk _ _ _ _ (f1 bl.length _ (by simp) fun hk => by
        have := hO.lt hk
        omega)
      have hno : needOf l x n = needAt l nd x.s n := by simp [needOf, hnd]
      have ih := gway_loop l hl t hm s (pre ++ [n]) ⟨n, 1 - y.e⟩ (acc ++ needAt l nd x.s n) v1 bl1 (by simpa using hp) (by simp; omega) o1
      rw [show (pre ++ [n]).length = pre.length + 1 by simp] at ih
      simp only [nways, hfd, hno]
      cases hws : nways l ⟨n, 1 - y.e⟩ s with
      | none =>
        simp only [hws, fE] at ih
        obtain ⟨bx', bl', e⟩ := ih
        refine ⟨bx', bl', ?_⟩
        rw [graph_Graph_way_R0_eq]
        simp only [graph_Graph_way_B0, graph_Graph_way_K0_a, fE, h1, hi, hg0, hg1, hg2, hst, hO1.chkV, o1.chkV, graph_Graph_Around_call, haF, slices_IndexFunc_End_call, hix, hid, hi0, hia, hyn, graph_Graph_need_call, hnF, e1, hw, hw3, e, zy, simprocAttr]
      | some ns =>
        simp only [hws, fE] at ih
        obtain ⟨v', bl', e, o⟩ := ih
        refine ⟨v', bl', ?_, by simpa using o⟩
        rw [graph_Graph_way_R0_eq]
        simp only [graph_Graph_way_B0, graph_Graph_way_K0_a, fE, h1, hi, hg0, hg1, hg2, hst, hO1.chkV, o1.chkV, graph_Graph_Around_call, haF, slices_IndexFunc_End_call, hix, hid, hi0, hia, hyn, graph_Graph_need_call, hnF, e1, hw, hw3, e, zy, simprocAttr]

theorem gway_F (l : Lay) (hl : l.ok) (x : Ed) (s : List Int) (hm : s.length ≤ Zc.small) (H : Heap) : graph_Graph_way_F false H [.vp (layC l), .agg (fE x), sl fI s] = some (.tup [sl fN ((nways l x s).getD []), .bool (nways l x s).isSome], H) := by
  have h := gway_loop l hl s hm s [] x [] .nils [] rfl (by simp) (Own.nil _ _ _)
  rw [graph_Graph_way_F_eq]
  cases hw : nways l x s with
  | none =>
    simp only [hw, List.nil_append, List.length_nil, Int.natCast_zero, fE] at h
    obtain ⟨bx', bl', e⟩ := h
    simp only [graph_Graph_way_C, graph_Graph_way_L0_eq, fE, e, sl_nil fN, Option.getD_none, Option.getD_some, zy, simprocAttr]
  | some ns =>
    simp only [hw, List.nil_append, List.length_nil, Int.natCast_zero, fE] at h
    obtain ⟨v', bl', e, o⟩ := h
    have hs := fun bx => o.snapV flatN bx false _ (snap_N ⟨bx, bl'⟩ false false 6)
    simp only [graph_Graph_way_C, graph_Graph_way_L0_eq, fE, e, o.one, o.locv, o.cells, hs, Option.getD_some, zy, simprocAttr]

theorem gpath_loop (g : CV) (hg : g.locv = false) (t : List Int) (hm : t.length ≤ Zc.small) : ∀ (s pre : List Int), pre ++ s = t → pre.Nodup →
    graph_Graph_Path_R0 ([(0, g), (1, sl fI t), (14, sl fI t), (15, .int .i64 t.length), (16, .int .i64 pre.length)], ⟨[], []⟩) =
      if t.Nodup then some (.norm, [(0, g), (1, sl fI t)], ⟨[], []⟩) else some (.ret, [(4, .nils), (5, .bool false)], ⟨[], []⟩)
  | [], pre, hp, hn => by
    have q := chkV_of hg
    rw [List.append_nil] at hp
    subst hp
    rw [graph_Graph_Path_R0_eq, if_pos hn]
    simp only [graph_Graph_Path_B0, graph_Graph_Path_K0_a, q, zy, simprocAttr]
  | x :: s, pre, hp, hn => by
    have q := chkV_of hg
    have hpl : pre.length + 1 + s.length = t.length := by rw [← hp]; simp; omega
    have h1 : ((pre.length : Int) < t.length) := by omega
    have hw := wrapN (n := pre.length) (by omega)
    have hi : iaddrC 1 (sl fI t) (.int .i64 pre.length) = some (.vp (.int .i64 x :: s.flatMap fI)) := by rw [← hp]; exact iaddr_midI _ pre s x
    have hsl := slc_hi flatI t pre.length (by omega) .i64
    rw [show t.take pre.length = pre by rw [← hp]; simp] at hsl
    have hcF := fun st H => contains_F x pre (by omega) st H
    by_cases hx : x ∈ pre
    · have ht : ¬ t.Nodup := by
        rw [← hp, List.nodup_append]
        exact fun h => h.2.2 x hx x (by simp) rfl
      simp only [eq_true hx] at hcF
      rw [graph_Graph_Path_R0_eq, if_neg ht]
      simp only [graph_Graph_Path_B0, graph_Graph_Path_K0_a, q, h1, hi, hsl, slices_Contains_int_call, hcF, zy, simprocAttr]
    · have ih := gpath_loop g hg t hm s (pre ++ [x]) (by simpa using hp) (by
        rw [List.nodup_append]
        exact ⟨hn, by simp, fun a ha b hb => by simp only [List.mem_singleton] at hb; subst hb; exact fun e => hx (e ▸ ha)⟩)
      rw [show (pre ++ [x]).length = pre.length + 1 by simp] at ih
      simp only [eq_false hx] at hcF
      rw [graph_Graph_Path_R0_eq, ← ih]
      simp only [graph_Graph_Path_B0, graph_Graph_Path_K0_a, q, h1, hi, hsl, slices_Contains_int_call, hcF, hw, zy, simprocAttr]

theorem gpath_F (l : Lay) (hl : l.ok) (t : List Int) (hm : t.length ≤ Zc.small) (H : Heap) : graph_Graph_Path_F false H [.vp (layC l), sl fI t] = some (.tup [sl fN ((npath l t).getD []), .bool (npath l t).isSome], H) := by
  rw [graph_Graph_Path_F_eq]
  by_cases h2 : t.length < 2
  · have h2' : ((t.length : Int) < 2) := by omega
    have hp : npath l t = none := by simp [npath, h2]
    simp only [graph_Graph_Path_C, h2', hp, sl_nil fN, Option.getD_none, Option.getD_some, zy, simprocAttr]
  · have h2' : ¬ ((t.length : Int) < 2) := by omega
    have hL := gpath_loop (.vp (layC l)) rfl t hm t [] rfl (by simp)
    simp only [List.nil_append, List.length_nil, Int.natCast_zero] at hL
    by_cases hn : t.Nodup
    · rw [if_pos hn] at hL
      cases t with
      | nil => simp at h2
      | cons a r =>
        have hr : r.length ≤ Zc.small := by simp at hm; omega
        have g0 := fun H => gway_F l hl ⟨a, 0⟩ r hr H
        have g1 := fun H => gway_F l hl ⟨a, 1⟩ r hr H
        have i0 := iaddr_0I .i64 a r
        have s1 := slc_1I .i64 a r
        simp only [fE] at g0 g1
        cases hw0 : nways l ⟨a, 0⟩ r with
        | some ns =>
          have hp : npath l (a :: r) = some ns := by simp only [npath, hw0, h2, hn, not_true_eq_false, or_self, if_false]
          simp only [hw0, Option.getD_none, Option.getD_some] at g0
          have hL2 : graph_Graph_Path_R2 ([(0, .vp (layC l)), (1, sl fI (a :: r)), (27, .int .i64 0)], ⟨[], []⟩) = some (.ret, [(4, sl fN ns), (5, .bool true)], ⟨[], []⟩) := by
            rw [graph_Graph_Path_R2_eq]
            simp only [graph_Graph_Path_B2, graph_Graph_Path_K2_a, i0, s1, graph_Graph_way_call, g0, zy, simprocAttr]
          simp only [List.length_cons] at hL h2'
          simp only [graph_Graph_Path_C, graph_Graph_Path_L0_eq, graph_Graph_Path_L2_eq, h2', hL, hL2, hp, Option.getD_none, Option.getD_some, zy, simprocAttr]
        | none =>
          simp only [hw0, Option.getD_none, Option.getD_some] at g0
          cases hw1 : nways l ⟨a, 1⟩ r with
          | some ns =>
            have hp : npath l (a :: r) = some ns := by simp only [npath, hw0, hw1, h2, hn, not_true_eq_false, or_self, if_false]
            simp only [hw1, Option.getD_none, Option.getD_some] at g1
            have hL2 : graph_Graph_Path_R2 ([(0, .vp (layC l)), (1, sl fI (a :: r)), (27, .int .i64 0)], ⟨[], []⟩) = some (.ret, [(4, sl fN ns), (5, .bool true)], ⟨[], []⟩) := by
              rw [graph_Graph_Path_R2_eq]
              simp only [graph_Graph_Path_B2, graph_Graph_Path_K2_a, i0, s1, graph_Graph_way_call, g0, zy, simprocAttr]
              rw [graph_Graph_Path_R2_eq]
              simp only [graph_Graph_Path_B2, graph_Graph_Path_K2_a, i0, s1, graph_Graph_way_call, g1, zy, simprocAttr]
            simp only [List.length_cons] at hL h2'
            simp only [graph_Graph_Path_C, graph_Graph_Path_L0_eq, graph_Graph_Path_L2_eq, h2', hL, hL2, hp, Option.getD_none, Option.getD_some, zy, simprocAttr]
          | none =>
            have hp : npath l (a :: r) = none := by simp only [npath, hw0, hw1, h2, hn, not_true_eq_false, or_self, if_false]
            simp only [hw1, Option.getD_none, Option.getD_some] at g1
            have hL2 : graph_Graph_Path_R2 ([(0, .vp (layC l)), (1, sl fI (a :: r)), (27, .int .i64 0)], ⟨[], []⟩) = some (.norm, [], ⟨[], []⟩) := by
              rw [graph_Graph_Path_R2_eq]
              simp only [graph_Graph_Path_B2, graph_Graph_Path_K2_a, i0, s1, graph_Graph_way_call, g0, zy, simprocAttr]
              rw [graph_Graph_Path_R2_eq]
              simp only [graph_Graph_Path_B2, graph_Graph_Path_K2_a, i0, s1, graph_Graph_way_call, g1, zy, simprocAttr]
              rw [graph_Graph_Path_R2_eq]
              simp only [graph_Graph_Path_B2, graph_Graph_Path_K2_a, zy, simprocAttr]
            simp only [List.length_cons] at hL h2'
            simp only [graph_Graph_Path_C, graph_Graph_Path_L0_eq, graph_Graph_Path_L2_eq, h2', hL, hL2, hp, sl_nil fN, Option.getD_none, Option.getD_some, zy, simprocAttr]
    · rw [if_neg hn] at hL
      have hp : npath l t = none := by simp [npath, hn]
      simp only [graph_Graph_Path_C, graph_Graph_Path_L0_eq, h2', hL, hp, sl_nil fN, Option.getD_none, Option.getD_some, zy, simprocAttr]

theorem nways_len (l : Lay) : ∀ (s : List Int) (x : Ed) (ns : List Nd), nways l x s = some ns → ns.length ≤ s.length
  | [], x, ns, h => by simp only [nways, Option.some.injEq] at h; subst h; simp
  | a :: s, x, ns, h => by
    simp only [nways] at h
    cases hf : (around l x).find? (fun y => decide (y.s = a)) with
    | none => rw [hf] at h; cases h
    | some y =>
      rw [hf] at h
      simp only [Option.map_eq_some_iff] at h
      obtain ⟨r, hr, rfl⟩ := h
      have := nways_len l s _ r hr
      have h1 : (needOf l x a).length ≤ 1 := by
        unfold needOf
        cases nodeOf l x with
        | none => simp
        | some n => exact needAt_len l n x.s a
      simp only [List.length_append, List.length_cons]
      omega
theorem npath_len (l : Lay) (t : List Int) : ((npath l t).getD []).length ≤ t.length := by
  cases h : npath l t with
  | none => simp
  | some ns =>
    simp only [Option.getD_some]
    unfold npath at h
    split at h
    · cases h
    · cases t with
      | nil => cases h
      | cons a r =>
        simp only at h
        cases h0 : nways l ⟨a, 0⟩ r with
        | some x =>
          rw [h0] at h
          cases h
          have := nways_len l r _ _ h0
          simp only [List.length_cons]; omega
        | none =>
          rw [h0] at h
          have := nways_len l r _ _ h
          simp only [List.length_cons]; omega
end Go.Proofs.YtlhjpcgfkkhogaaGreat.Zt
end
section
namespace Go.Proofs.YtlhjpcgfkkhogaaGreat.Zt
open Go Go.Zc
set_option maxRecDepth 10000

/-! ### Times -/
def timeB (n : Int) : Bool := decide (1 ≤ n) && decide (n ≤ 1000)
def stayB (n : Int) : Bool := decide (0 ≤ n) && decide (n ≤ 1000)
def timesB (l : Lay) : Bool := [l.mute, l.wait, l.cancel].all timeB && stayB l.stay
theorem times_loop (b1 : List CV) (hb : CV.locs b1 = false) (ts : List Int) (hm : ts.length ≤ 1000) (bl : List Blk) : ∀ (s pre : List Int), pre ++ s = ts →
    verify_judge_times_R0 ([(1, .op (.loc 1) 0), (14, sl fI ts), (15, .int .i64 ts.length), (16, .int .i64 pre.length)], ⟨[(1, b1)], bl⟩) =
      if s.all timeB = true then some (.norm, [(1, .op (.loc 1) 0)], ⟨[(1, b1)], bl⟩) else some (.ret, [(2, .bool false)], ⟨[(1, b1)], bl⟩)
  | [], pre, hp => by
    have h1 : ¬ ((pre.length : Int) < ts.length) := by rw [← hp]; simp
    rw [verify_judge_times_R0_eq]
    simp only [verify_judge_times_B0, verify_judge_times_K0_a, h1, hb, List.all_nil, zy, simprocAttr]
  | x :: s, pre, hp => by
    have h1 : ((pre.length : Int) < ts.length) := by rw [← hp]; simp; omega
    have hwr := wrapN (n := pre.length) (by rw [← hp] at hm; unfold Zc.small; simp at hm; omega)
    have hia : iaddrC 1 (sl fI ts) (.int .i64 pre.length) = some (.vp (.int .i64 x :: s.flatMap fI)) := by rw [← hp]; exact iaddr_midI .i64 pre s x
    have hw := fun st H => within64_F x 1 1000 st H
    have ih := times_loop b1 hb ts hm bl s (pre ++ [x]) (by simpa using hp)
    rw [show (pre ++ [x]).length = pre.length + 1 by simp] at ih
    have hd : (decide (1 ≤ x) && decide (x ≤ 1000)) = timeB x := rfl
    rw [hd] at hw
    rw [verify_judge_times_R0_eq]
    cases hA : timeB x with
    | true =>
      rw [hA] at hw
      simp only [verify_judge_times_B0, verify_judge_times_K0_a, h1, hb, hia, verify_within_int64_call, hw, hwr, ih, List.all_cons, hA, Bool.true_and, zy, simprocAttr]
    | false =>
      rw [hA] at hw
      simp only [verify_judge_times_B0, verify_judge_times_K0_a, h1, hb, hia, verify_within_int64_call, hw, hwr, List.all_cons, hA, Bool.false_and, Bool.false_eq_true, if_false, zy, simprocAttr]
theorem times_F (l : Lay) (st : Bool) (H : Heap) : verify_judge_times_F st H [.agg (judC l)] = some (.bool (timesB l), H) := by
  have e := fun bl => times_loop (judC l) rfl [l.mute, l.wait, l.cancel] (by simp) bl [l.mute, l.wait, l.cancel] [] rfl
  simp only [List.nil_append, List.length_nil, Int.natCast_zero, Nat.zero_add, List.length_cons, List.length_nil, judC] at e
  have hw := fun st H => within64_F l.stay 0 1000 st H
  have hd : (decide (0 ≤ l.stay) && decide (l.stay ≤ 1000)) = stayB l.stay := rfl
  rw [hd] at hw
  unfold timesB
  rw [verify_judge_times_F_eq]
  cases hA : ([l.mute, l.wait, l.cancel].all timeB) with
  | true =>
    have e' : verify_judge_times_R0 ([(1, .op (.loc 1) 0), (14, .vs [.int .i64 l.mute, .int .i64 l.wait, .int .i64 l.cancel] 3), (15, .int .i64 3), (16, .int .i64 0)], ⟨[(1, judC l)], []⟩) = some (.norm, [(1, .op (.loc 1) 0)], ⟨[(1, judC l)], []⟩) := (e []).trans (if_pos hA)
    simp only [judC] at e'
    simp only [verify_judge_times_C, judC, verify_judge_times_L0_eq, e', verify_within_int64_call, hw, Bool.true_and, zy, simprocAttr]
  | false =>
    have e' : verify_judge_times_R0 ([(1, .op (.loc 1) 0), (14, .vs [.int .i64 l.mute, .int .i64 l.wait, .int .i64 l.cancel] 3), (15, .int .i64 3), (16, .int .i64 0)], ⟨[(1, judC l)], []⟩) = some (.ret, [(2, .bool false)], ⟨[(1, judC l)], []⟩) := (e []).trans (if_neg (by rw [hA]; exact Bool.false_ne_true))
    simp only [judC] at e'
    simp only [verify_judge_times_C, judC, verify_judge_times_L0_eq, e', verify_within_int64_call, hw, Bool.false_and, zy, simprocAttr]

/-! ### Points at a node -/
def cntP (n : Int) (s : List Pt) : Nat := s.countP fun p => decide (p.node = n)
theorem points_loop (b2 : List CV) (hb : CV.locs b2 = false) (n : Int) (ps : List Pt) (hm : ps.length ≤ 1000) : ∀ (s pre : List Pt) (k : Nat), pre ++ s = ps → k ≤ pre.length →
    verify_judge_points_R0 ([(1, .int .i64 n), (2, .op (.loc 2) 0), (5, .int .i64 k), (10, sl fP ps), (11, .int .i64 ps.length), (12, .int .i64 pre.length)], ⟨[(2, b2)], []⟩) =
      some (.norm, [(1, .int .i64 n), (2, .op (.loc 2) 0), (5, .int .i64 ((k + cntP n s : Nat) : Int))], ⟨[(2, b2)], []⟩)
  | [], pre, k, hp, hk => by
    have h1 : ¬ ((pre.length : Int) < ps.length) := by rw [← hp]; simp
    rw [verify_judge_points_R0_eq]
    simp only [verify_judge_points_B0, verify_judge_points_K0_a, h1, hb, cntP, List.countP_nil, Nat.add_zero, zy, simprocAttr]
  | x :: s, pre, k, hp, hk => by
    have hpl : pre.length + 1 + s.length = ps.length := by rw [← hp]; simp; omega
    have h1 : ((pre.length : Int) < ps.length) := by omega
    have hwr := wrapN (n := pre.length) (by unfold Zc.small; omega)
    have hwk := wrapN (n := k) (by unfold Zc.small; omega)
    have hia : iaddrC 4 (sl fP ps) (.int .i64 pre.length) = some (.vp (.int .i64 x.node :: .int .i64 x.stem :: .int .i64 x.left :: .int .i64 x.right :: s.flatMap fP)) := by rw [← hp]; exact iaddr_midP .i64 pre s x
    rw [verify_judge_points_R0_eq]
    by_cases hx : x.node = n
    · have ih := points_loop b2 hb n ps hm s (pre ++ [x]) (k + 1) (by simpa using hp) (by simp; omega)
      rw [show (pre ++ [x]).length = pre.length + 1 by simp] at ih
      have hc : cntP n (x :: s) = cntP n s + 1 := by simp [cntP, List.countP_cons, hx]
      have he : k + cntP n (x :: s) = k + 1 + cntP n s := by omega
      rw [he]
      simp only [verify_judge_points_B0, verify_judge_points_K0_a, h1, hb, hia, eq_true hx, hwr, hwk, ih, zy, simprocAttr]
    · have ih := points_loop b2 hb n ps hm s (pre ++ [x]) k (by simpa using hp) (by simp; omega)
      rw [show (pre ++ [x]).length = pre.length + 1 by simp] at ih
      have hc : cntP n (x :: s) = cntP n s := by simp [cntP, List.countP_cons, hx]
      rw [hc]
      simp only [verify_judge_points_B0, verify_judge_points_K0_a, h1, hb, hia, eq_false hx, hwr, hwk, ih, zy, simprocAttr]
def pointsB (l : Lay) (n : Int) : Bool := if (ends l n).length = 3 then decide (cntP n l.pts = 1) else decide (cntP n l.pts = 0)
theorem points_F (l : Lay) (hl : l.ok) (hp : l.pts.length ≤ 1000) (n : Int) (st : Bool) (H : Heap) : verify_judge_points_F st H [.agg (judC l), .int .i64 n] = some (.bool (pointsB l n), H) := by
  have e := points_loop (judC l) rfl n l.pts hp l.pts [] 0 rfl (by simp)
  simp only [List.nil_append, List.length_nil, Int.natCast_zero, Nat.zero_add, List.length_nil, judC] at e
  obtain ⟨v, bl, e', o, _⟩ := gends_F l hl n false [(2, judC l)] []
  simp only [judC] at e'
  have hlen := o.len
  have hlv := o.locv
  unfold pointsB
  rw [verify_judge_points_F_eq]
  by_cases h3 : (ends l n).length = 3
  · have h3' : (((ends l n).length : Int) = 3) := by omega
    rw [if_pos h3]
    have hd : decide ((cntP n l.pts : Int) = 1) = decide (cntP n l.pts = 1) := by by_cases h : cntP n l.pts = 1 <;> simp [h] <;> omega
    simp only [verify_judge_points_C, judC, verify_judge_points_L0_eq, e, graph_Graph_Ends_call, e', hlen, hlv, eq_true h3', hd, zy, simprocAttr]
  · have h3' : ¬ (((ends l n).length : Int) = 3) := by omega
    rw [if_neg h3]
    have hd : decide ((cntP n l.pts : Int) = 0) = decide (cntP n l.pts = 0) := by by_cases h : cntP n l.pts = 0 <;> simp [h] <;> omega
    simp only [verify_judge_points_C, judC, verify_judge_points_L0_eq, e, graph_Graph_Ends_call, e', hlen, hlv, eq_false h3', hd, zy, simprocAttr]

/-! ### Parts -/
theorem part1_F (l : Lay) (hs : l.secs.length ≤ 1000) (n : Int) (st : Bool) (H : Heap) : verify_judge_part_1_F st H [.int .i64 n, .vp (judC l)] = some (.bool (!secB l n), H) := by
  have hw := fun st H => within_F n 0 ((l.secs.length : Int) - 1) st H
  have w1 : IntKind.i64.wrap ((l.secs.length : Int) - 1) = (l.secs.length : Int) - 1 := wrap64 (by omega) (by omega)
  have hd : decide (n ≤ (l.secs.length : Int) - 1) = decide (n < l.secs.length) := by
    by_cases h : n < l.secs.length
    · rw [decide_eq_true h, decide_eq_true (by omega)]
    · rw [decide_eq_false h, decide_eq_false (by omega)]
  unfold secB
  rw [verify_judge_part_1_F_eq]
  simp only [verify_judge_part_1_C, judC, verify_within_int_call, hw, w1, hd, zy, simprocAttr]
theorem idxI_loop (fv : CV) (hf : fv.locv = false) (p : Int → Bool) (hp : ∀ x H, call ctx fv [.int .i64 x] H = some (.bool (p x), H)) : ∀ (s pre : List Int), (pre ++ s).length ≤ 2 * Zc.small →
    slices_IndexFunc_Int_R0 ([(0, sl fI (pre ++ s)), (1, fv), (7, .int .i64 (pre ++ s).length), (8, .int .i64 pre.length)], ⟨[], []⟩) =
      match s.findIdx? p with
      | some i => some (.ret, [(4, .int .i64 ((pre.length + i : Nat) : Int))], ⟨[], []⟩)
      | none => some (.norm, [], ⟨[], []⟩)
  | [], pre, hm => by
    rw [slices_IndexFunc_Int_R0_eq]
    simp only [slices_IndexFunc_Int_B0, slices_IndexFunc_Int_K0_a, List.findIdx?_nil, zy, simprocAttr]
  | x :: s, pre, hm => by
    have h1 : ((pre.length : Int) < (pre ++ x :: s).length) := by simp; omega
    have hw := wrapN (n := pre.length) (by simp at hm; omega)
    have ih := idxI_loop fv hf p hp s (pre ++ [x]) (by simpa using hm)
    have hpx := fun H => hp x H
    have hcv := chkV_of hf
    simp only [List.append_assoc, List.cons_append, List.nil_append, List.length_append, List.length_cons, List.length_nil] at ih h1
    rw [slices_IndexFunc_Int_R0_eq]
    simp only [slices_IndexFunc_Int_B0, slices_IndexFunc_Int_K0_a, h1, iaddr_midI, hpx, hw, hcv, List.append_assoc, List.cons_append, List.nil_append, List.length_append, List.length_cons, List.length_nil, zy, simprocAttr, ih]
    by_cases hA : p x = true
    · simp [hA, List.findIdx?_cons]
    · simp only [hA, Bool.false_eq_true, if_false, List.findIdx?_cons]
      cases hf : s.findIdx? p with
      | none => simp
      | some i => simp; omega
theorem idxI_F (fv : CV) (hf : fv.locv = false) (p : Int → Bool) (hp : ∀ x H, call ctx fv [.int .i64 x] H = some (.bool (p x), H)) (l : List Int) (hm : l.length ≤ 2 * Zc.small) (st : Bool) (H : Heap) :
    slices_IndexFunc_Int_F st H [sl fI l, fv] = some (.int .i64 (match l.findIdx? p with | some i => (i : Int) | none => -1), H) := by
  have e := idxI_loop fv hf p hp l [] hm
  simp only [List.nil_append, List.length_nil, Int.natCast_zero, Nat.zero_add] at e
  rw [slices_IndexFunc_Int_F_eq]
  simp only [slices_IndexFunc_Int_C, slices_IndexFunc_Int_L0_eq, e, chkV_of hf, zy, simprocAttr]
  cases hf : l.findIdx? p <;> simp only [zy, simprocAttr]
theorem containsI_F (L : Lay) (p : Int → Bool) (hp : ∀ x H, call ctx (.fn (.func 67) [] [.vp (judC L)]) [.int .i64 x] H = some (.bool (p x), H)) (l : List Int) (hm : l.length ≤ 2 * Zc.small) (st : Bool) (H : Heap) :
    slices_ContainsFunc_int_F st H [sl fI l, .fn (.func 67) [] [.vp (judC L)]] = some (.bool (l.any p), H) := by
  have e := idxI_F _ rfl p hp l hm
  simp only [judC] at e
  rw [slices_ContainsFunc_int_F_eq]
  cases hi : l.findIdx? p with
  | none =>
    simp only [hi] at e
    have h0 : ¬ (0 : Int) ≤ -1 := by omega
    have ha : l.any p = false := by
      rw [List.findIdx?_eq_none_iff] at hi
      rw [List.any_eq_false]
      intro x hx
      rw [hi x hx]; exact Bool.false_ne_true
    simp only [slices_ContainsFunc_int_C, slices_IndexFunc_Int_call, judC, e, h0, ha, ge_iff_le, zy, simprocAttr]
  | some i =>
    simp only [hi] at e
    have h0 : (0 : Int) ≤ i := by omega
    have ha : l.any p = true := by
      rw [List.findIdx?_eq_some_iff_getElem] at hi
      obtain ⟨h1, h2, _⟩ := hi
      rw [List.any_eq_true]
      exact ⟨_, List.getElem_mem h1, h2⟩
    simp only [slices_ContainsFunc_int_C, slices_IndexFunc_Int_call, judC, e, h0, ha, ge_iff_le, zy, simprocAttr]
def partB (l : Lay) (x : List Int) : Bool := decide (0 < x.length) && !(x.any fun s => !secB l s)
theorem part_F (l : Lay) (hl : l.ok) (hs : l.secs.length ≤ 1000) (i : Nat) (hi : i < l.parts.length) (st : Bool) (H : Heap) : verify_judge_part_F st H [.agg (judC l), .int .i64 i] = some (.bool (partB l l.parts[i]), H) := by
  have hia := iaddr_atL (k := .i64) hi
  have hm := hl.part _ (List.getElem_mem hi)
  have hc := fun st H => containsI_F l (fun n => !secB l n) (fun x H => by
    simp only [verify_judge_part_1_call, judC, zy, simprocAttr]
    have := fun st H => part1_F l hs x st H
    simp only [judC] at this
    rw [this]) l.parts[i] (by omega) st H
  simp only [judC] at hc
  unfold partB
  rw [verify_judge_part_F_eq]
  by_cases h0 : 0 < l.parts[i].length
  · have h0' : (0 : Int) < l.parts[i].length := by omega
    simp only [verify_judge_part_C, judC, hia, gt_iff_lt, h0, h0', slices_ContainsFunc_int_call, hc, decide_true, Bool.true_and, zy, simprocAttr]
  · have h0' : ¬ (0 : Int) < l.parts[i].length := by omega
    simp only [verify_judge_part_C, judC, hia, gt_iff_lt, h0, h0', decide_false, Bool.false_and, zy, simprocAttr]

/-! ### In just one part -/
def cntS (n : Int) : List (List Int) → Nat
  | [] => 0
  | x :: r => x.countP (fun s => decide (s = n)) + cntS n r
theorem once_in (n : Int) (c12 c13 c14 : CV) (h12 : c12.locv = false) (h13 : c13.locv = false) (h14 : c14.locv = false) (ps : List Int) (hm : ps.length ≤ Zc.small) : ∀ (s pre : List Int) (k : Nat), pre ++ s = ps → k ≤ 4000000000000000000 + pre.length →
    verify_judge_once_R2 ([(1, .int .i64 n), (5, .int .i64 k), (12, c12), (13, c13), (14, c14), (18, sl fI ps), (19, .int .i64 ps.length), (20, .int .i64 pre.length)], ⟨[], []⟩) =
      some (.norm, [(1, .int .i64 n), (5, .int .i64 ((k + s.countP (fun s => decide (s = n)) : Nat) : Int)), (12, c12), (13, c13), (14, c14)], ⟨[], []⟩)
  | [], pre, k, hp, hk => by
    have h1 : ¬ ((pre.length : Int) < ps.length) := by rw [← hp]; simp
    rw [verify_judge_once_R2_eq]
    simp only [verify_judge_once_B2, verify_judge_once_K2_a, h1, chkV_of h12, chkV_of h13, chkV_of h14, List.countP_nil, Nat.add_zero, zy, simprocAttr]
  | x :: s, pre, k, hp, hk => by
    have hpl : pre.length + 1 + s.length = ps.length := by rw [← hp]; simp; omega
    have h1 : ((pre.length : Int) < ps.length) := by omega
    have hwr := wrapN (n := pre.length) (by omega)
    have hwk : IntKind.i64.wrap ((k : Int) + 1) = ((k + 1 : Nat) : Int) := by unfold Zc.small at hm; rw [wrap64 (by omega) (by omega)]; omega
    have hia : iaddrC 1 (sl fI ps) (.int .i64 pre.length) = some (.vp (.int .i64 x :: s.flatMap fI)) := by rw [← hp]; exact iaddr_midI .i64 pre s x
    rw [verify_judge_once_R2_eq]
    by_cases hx : x = n
    · have ih := once_in n c12 c13 c14 h12 h13 h14 ps hm s (pre ++ [x]) (k + 1) (by simpa using hp) (by simp; omega)
      rw [show (pre ++ [x]).length = pre.length + 1 by simp] at ih
      have he : k + (x :: s).countP (fun s => decide (s = n)) = k + 1 + s.countP (fun s => decide (s = n)) := by simp [List.countP_cons, hx]; omega
      rw [he]
      simp only [verify_judge_once_B2, verify_judge_once_K2_a, h1, chkV_of h12, chkV_of h13, chkV_of h14, hia, eq_true hx, hwr, hwk, ih, zy, simprocAttr]
    · have ih := once_in n c12 c13 c14 h12 h13 h14 ps hm s (pre ++ [x]) k (by simpa using hp) (by simp; omega)
      rw [show (pre ++ [x]).length = pre.length + 1 by simp] at ih
      have he : k + (x :: s).countP (fun s => decide (s = n)) = k + s.countP (fun s => decide (s = n)) := by simp [List.countP_cons, hx]
      rw [he]
      simp only [verify_judge_once_B2, verify_judge_once_K2_a, h1, chkV_of h12, chkV_of h13, chkV_of h14, hia, eq_false hx, hwr, ih, zy, simprocAttr]
theorem once_out (n : Int) (ps : List (List Int)) (hm : ps.length ≤ 1000) (hq : ∀ p ∈ ps, p.length ≤ Zc.small) : ∀ (s pre : List (List Int)) (k : Nat), pre ++ s = ps → k ≤ 1000000000 * pre.length →
    verify_judge_once_R0 ([(1, .int .i64 n), (5, .int .i64 k), (12, sl fL ps), (13, .int .i64 ps.length), (14, .int .i64 pre.length)], ⟨[], []⟩) =
      some (.norm, [(5, .int .i64 ((k + cntS n s : Nat) : Int))], ⟨[], []⟩)
  | [], pre, k, hp, hk => by
    have h1 : ¬ ((pre.length : Int) < ps.length) := by rw [← hp]; simp
    rw [verify_judge_once_R0_eq]
    simp only [verify_judge_once_B0, verify_judge_once_K0_a, h1, cntS, Nat.add_zero, zy, simprocAttr]
  | x :: s, pre, k, hp, hk => by
    have hpl : pre.length + 1 + s.length = ps.length := by rw [← hp]; simp; omega
    have h1 : ((pre.length : Int) < ps.length) := by omega
    have hwr := wrapN (n := pre.length) (by unfold Zc.small; omega)
    have hx : x.length ≤ Zc.small := hq x (by rw [← hp]; simp)
    have hc : x.countP (fun s => decide (s = n)) ≤ x.length := List.countP_le_length
    have hia : iaddrC 1 (sl fL ps) (.int .i64 pre.length) = some (.vp (sl fI x :: s.flatMap fL)) := by rw [← hp]; exact iaddr_midL .i64 pre s x
    have hin := once_in n (sl fL ps) (.int .i64 ps.length) (.int .i64 pre.length) rfl rfl rfl x hx x [] k rfl (by simp; omega)
    simp only [List.nil_append, List.length_nil, Int.natCast_zero, Nat.zero_add, List.length_nil] at hin
    have ih := once_out n ps hm hq s (pre ++ [x]) (k + x.countP (fun s => decide (s = n))) (by simpa using hp) (by unfold Zc.small at hx; simp; omega)
    rw [show (pre ++ [x]).length = pre.length + 1 by simp] at ih
    rw [verify_judge_once_R0_eq]
    simp only [verify_judge_once_B0, verify_judge_once_K0_a, verify_judge_once_L2_eq, h1, hia, hin, hwr, ih, cntS, Nat.add_assoc, zy, simprocAttr]
def onceB (l : Lay) (n : Int) : Bool := decide (cntS n l.parts = 1)
theorem once_F (l : Lay) (hl : l.ok) (hp : l.parts.length ≤ 1000) (n : Int) (st : Bool) (H : Heap) : verify_judge_once_F st H [.agg (judC l), .int .i64 n] = some (.bool (onceB l n), H) := by
  have e := once_out n l.parts hp hl.part l.parts [] 0 rfl (by simp)
  simp only [List.nil_append, List.length_nil, Int.natCast_zero, Nat.zero_add, List.length_nil] at e
  have hd : decide ((cntS n l.parts : Int) = 1) = decide (cntS n l.parts = 1) := by by_cases h : cntS n l.parts = 1 <;> simp [h] <;> omega
  unfold onceB
  rw [verify_judge_once_F_eq]
  simp only [verify_judge_once_C, judC, verify_judge_once_L0_eq, e, hd, zy, simprocAttr]

/-! ### Routes -/
def routeB (l : Lay) (t : List Int) : Bool := (npath l t).isSome && decide (t.length ≤ 12)
theorem route_F (l : Lay) (hl : l.ok) (i : Nat) (hi : i < l.routes.length) (st : Bool) (H : Heap) : verify_judge_route_F st H [.agg (judC l), .int .i64 i] = some (.bool (routeB l l.routes[i]), H) := by
  have hia := iaddr_atL (k := .i64) hi
  have hm := hl.route _ (List.getElem_mem hi)
  have hg := fun H => gpath_F l hl l.routes[i] hm H
  have hd : decide ((l.routes[i].length : Int) ≤ 12) = decide (l.routes[i].length ≤ 12) := by by_cases h : l.routes[i].length ≤ 12 <;> simp [h] <;> omega
  unfold routeB
  rw [verify_judge_route_F_eq]
  cases hA : (npath l l.routes[i]).isSome with
  | true =>
    rw [hA] at hg
    simp only [verify_judge_route_C, judC, hia, graph_Graph_Path_call, hg, hd, Bool.true_and, zy, simprocAttr]
  | false =>
    rw [hA] at hg
    simp only [verify_judge_route_C, judC, hia, graph_Graph_Path_call, hg, Bool.false_and, zy, simprocAttr]

/-! ### Rules -/
theorem vone_F (b : Bool) (H : Heap) : verify_one_F false H [.bool b] = some (.agg [.int .i64 1, .fn (.func 56) [] [.vp [.bool b]]], H) := by
  rw [verify_one_F_eq]
  simp only [verify_one_C, zy, simprocAttr]
theorem one1_F (i : Int) (b : Bool) (st : Bool) (H : Heap) : verify_one_1_F st H [.int .i64 i, .vp [.bool b]] = some (.bool b, H) := by
  rw [verify_one_1_F_eq]
  simp only [verify_one_1_C, zy, simprocAttr]
/-- The first place of some at which something does not hold. -/
def bad (p : Nat → Bool) (n : Nat) : Option Nat := (List.range n).find? fun i => !p i
theorem broken_loop (c : CV) (hc : c.locv = false) (n : Nat) (hn : n ≤ Zc.small) (p : Nat → Bool) (hp : ∀ i < n, ∀ H, call ctx c [.int .i64 (i : Nat)] H = some (.bool (p i), H)) (bl : List Blk) : ∀ (k i : Nat), i + k = n →
    verify_rule_broken_R0 ([(1, .op (.loc 1) 0), (5, .int .i64 n), (6, .int .i64 i)], ⟨[(1, [.int .i64 n, c])], bl⟩) =
      match (List.range' i k).find? fun i => !p i with
      | some j => some (.ret, [(2, .int .i64 j)], ⟨[(1, [.int .i64 n, c])], bl⟩)
      | none => some (.norm, [], ⟨[], bl⟩)
  | 0, i, hk => by
    have h1 : ¬ ((i : Int) < n) := by omega
    rw [verify_rule_broken_R0_eq]
    simp only [verify_rule_broken_B0, verify_rule_broken_K0_a, h1, List.range'_zero, List.find?_nil, zy, simprocAttr]
  | k + 1, i, hk => by
    have h1 : ((i : Int) < n) := by omega
    have hwr := wrapN (n := i) (by omega)
    have hpi := fun H => hp i (by omega) H
    have ih := broken_loop c hc n hn p hp bl k (i + 1) (by omega)
    rw [verify_rule_broken_R0_eq]
    rw [List.range'_succ, List.find?_cons]
    cases hA : p i with
    | true =>
      rw [hA] at hpi
      simp only [verify_rule_broken_B0, verify_rule_broken_K0_a, h1, hpi, hwr, ih, CV.locs, hc, chkV_of hc, Bool.not_true, zy, simprocAttr]
    | false =>
      rw [hA] at hpi
      simp only [verify_rule_broken_B0, verify_rule_broken_K0_a, h1, hpi, hwr, CV.locs, hc, chkV_of hc, Bool.not_false, zy, simprocAttr]
theorem broken_F (c : CV) (hc : c.locv = false) (ho : c.one = true) (n : Nat) (hn : n ≤ Zc.small) (p : Nat → Bool) (hp : ∀ i < n, ∀ H, call ctx c [.int .i64 (i : Nat)] H = some (.bool (p i), H)) (st : Bool) (H : Heap) :
    verify_rule_broken_F st H [.agg [.int .i64 n, c]] = some (.int .i64 (match bad p n with | some j => (j : Int) | none => -1), H) := by
  have e := fun bl => broken_loop c hc n hn p hp bl n 0 (by omega)
  simp only [List.nil_append, List.length_nil, Int.natCast_zero, Int.natCast_zero, Int.ofNat_zero] at e
  unfold bad
  rw [List.range_eq_range']
  rw [verify_rule_broken_F_eq]
  cases hA : (List.range' 0 n).find? fun i => !p i with
  | none =>
    simp only [hA] at e
    simp only [verify_rule_broken_C, verify_rule_broken_L0_eq, e, CV.locs, hc, ho, chkV_of hc, zy, simprocAttr]
  | some j =>
    simp only [hA] at e
    simp only [verify_rule_broken_C, verify_rule_broken_L0_eq, e, CV.locs, hc, ho, chkV_of hc, zy, simprocAttr]
end Go.Proofs.YtlhjpcgfkkhogaaGreat.Zt
end
section
namespace Go.Proofs.YtlhjpcgfkkhogaaGreat.Zt
open Go Go.Zc
set_option maxRecDepth 10000

theorem isnan_F (x : Int) (st : Bool) (H : Heap) : cmp_isNaN_int_F st H [.int .i64 x] = some (.bool false, H) := by
  rw [cmp_isNaN_int_F_eq]
  simp only [cmp_isNaN_int_C, zy, simprocAttr]
theorem less_F (x y : Int) (st : Bool) (H : Heap) : cmp_Less_int_F st H [.int .i64 x, .int .i64 y] = some (.bool (decide (x < y)), H) := by
  rw [cmp_Less_int_F_eq]
  by_cases h : x < y
  · simp only [cmp_Less_int_C, cmp_isNaN_int_call, isnan_F, h, zy, simprocAttr]
  · simp only [cmp_Less_int_C, cmp_isNaN_int_call, isnan_F, h, zy, simprocAttr]

theorem iaddr_os {m n i : Nat} {k : IntKind} (h : i < n) : iaddrC 1 (.os 1 (.blk m) 0 n) (.int k i) = some (.op (.blk m) i) := by
  unfold iaddrC iaddrN
  simp only [Int.toNat_natCast, Nat.zero_add, Nat.mul_one]
  rw [if_pos ⟨trivial, by omega, by omega⟩]
theorem dropI (p s : List Int) (x : Int) : ((p ++ x :: s).flatMap fI).drop p.length = .int .i64 x :: s.flatMap fI := by
  have := drop_mid flatI p s x
  rw [Nat.mul_one] at this
  exact this
theorem stI (bx : List (Nat × List CV)) (bl : List Blk) (m : Nat) (p s : List Int) (x y : Int) : stE 1 p.length (.int .i64 y) ⟨bx, bl⟩ (.blk m) ((p ++ x :: s).flatMap fI) = some ⟨bx, bl.set m (.cells ((p ++ y :: s).flatMap fI))⟩ := by
  have h1 := setMany_mid flatI p s y x
  simp only [Nat.mul_one] at h1
  have h2 := flatI.length (p ++ x :: s)
  unfold stE
  rw [if_pos ⟨rfl, by rw [h2]; simp, rfl, .inr rfl⟩]
  simp only [CV.cells]
  rw [show [CV.int IntKind.i64 y] = fI y from rfl, h1]
  rfl

theorem ins_in (m n b i : Nat) (hn : n ≤ 1000) (x : Int) : ∀ (rp s : List Int) (bl : List Blk), bl[m]? = some (.cells ((rp.reverse ++ x :: s).flatMap fI)) → rp.length + 1 + s.length = n →
    slices_insertionSortOrdered_int_R2 ([(0, .os 1 (.blk m) 0 n), (1, .int .i64 0), (2, .int .i64 b), (6, .int .i64 i), (7, .int .i64 rp.length)], ⟨[], bl⟩) =
      some (.norm, [(0, .os 1 (.blk m) 0 n), (1, .int .i64 0), (2, .int .i64 b), (6, .int .i64 i)], ⟨[], bl.set m (.cells ((sinkR rp x ++ s).flatMap fI))⟩)
  | [], s, bl, hm, hl => by
    have hml : m < bl.length := (List.getElem?_eq_some_iff.1 hm).1
    have hset : bl.set m (.cells ((sinkR [] x ++ s).flatMap fI)) = bl := by
      rw [List.getElem?_eq_getElem hml, Option.some.injEq] at hm
      simp only [sinkR, List.reverse_nil, List.nil_append, List.cons_append] at hm ⊢
      rw [← hm, List.set_getElem_self]
    rw [hset, slices_insertionSortOrdered_int_R2_eq]
    simp only [slices_insertionSortOrdered_int_B2, slices_insertionSortOrdered_int_K2_a, Int.natCast_zero, zy, simprocAttr]
  | y :: rp, s, bl, hm, hl => by
    have hml : m < bl.length := (List.getElem?_eq_some_iff.1 hm).1
    have hl' : rp.length + 2 + s.length = n := by simp at hl; omega
    have hj : ((y :: rp).length : Int) = (rp.length + 1 : Nat) := by simp
    have hpos : (0 : Int) < (rp.length + 1 : Nat) := by omega
    have hw : IntKind.i64.wrap (((rp.length + 1 : Nat) : Int) - 1) = rp.length := by rw [wrap64 (by omega) (by omega)]; omega
    have e1 : (y :: rp).reverse ++ x :: s = (rp.reverse ++ [y]) ++ x :: s := by simp
    have e2 : (y :: rp).reverse ++ x :: s = rp.reverse ++ y :: (x :: s) := by simp
    have hg : ∀ bx, Heap.get ⟨bx, bl⟩ (.blk m) = some (((rp.reverse ++ [y]) ++ x :: s).flatMap fI) := fun bx => get_blk bx bl m _ (by rw [← e1]; exact hm)
    have d1 : (((rp.reverse ++ [y]) ++ x :: s).flatMap fI).drop (rp.length + 1) = .int .i64 x :: s.flatMap fI := by
      have := dropI (rp.reverse ++ [y]) s x
      simpa only [List.length_append, List.length_reverse, List.length_cons, List.length_nil, Nat.zero_add] using this
    have d2 : (((rp.reverse ++ [y]) ++ x :: s).flatMap fI).drop rp.length = .int .i64 y :: (x :: s).flatMap fI := by
      have := dropI rp.reverse (x :: s) y
      rw [List.length_reverse] at this
      rw [← e1, e2]
      exact this
    have i1 : iaddrC 1 (.os 1 (.blk m) 0 n) (.int .i64 (rp.length + 1 : Nat)) = some (.op (.blk m) (rp.length + 1)) := iaddr_os (by omega)
    have i2 : iaddrC 1 (.os 1 (.blk m) 0 n) (.int .i64 rp.length) = some (.op (.blk m) rp.length) := iaddr_os (by omega)
    rw [hj]
    by_cases hlt : x < y
    · have s1 := fun bx => stI bx bl m (rp.reverse ++ [y]) s x y
      simp only [List.length_append, List.length_reverse, List.length_cons, List.length_nil, Nat.zero_add] at s1
      have s2 := fun bx => stI bx (bl.set m (.cells (((rp.reverse ++ [y]) ++ y :: s).flatMap fI))) m rp.reverse (y :: s) y x
      simp only [List.length_reverse, List.set_set] at s2
      have e3 : rp.reverse ++ y :: (y :: s) = (rp.reverse ++ [y]) ++ y :: s := by simp
      rw [e3] at s2
      have hg2 : ∀ bx, Heap.get ⟨bx, bl.set m (.cells (((rp.reverse ++ [y]) ++ y :: s).flatMap fI))⟩ (.blk m) = some (((rp.reverse ++ [y]) ++ y :: s).flatMap fI) := fun bx => get_blk _ _ _ _ (by rw [List.getElem?_set_self hml])
      have ih := ins_in m n b i hn x rp (y :: s) (bl.set m (.cells ((rp.reverse ++ x :: (y :: s)).flatMap fI))) (by rw [List.getElem?_set_self hml]) (by simp; omega)
      rw [List.set_set] at ih
      have hs : sinkR (y :: rp) x ++ s = sinkR rp x ++ (y :: s) := by simp [sinkR, hlt]
      rw [hs, slices_insertionSortOrdered_int_R2_eq]
      simp only [slices_insertionSortOrdered_int_B2, slices_insertionSortOrdered_int_K2_a, hpos, hw, hg, d1, d2, i1, i2, cmp_Less_int_call, less_F, hlt, s1, s2, hg2, ih, zy, simprocAttr]
    · have hset : bl.set m (.cells ((sinkR (y :: rp) x ++ s).flatMap fI)) = bl := by
        rw [List.getElem?_eq_getElem hml, Option.some.injEq] at hm
        have : sinkR (y :: rp) x ++ s = (y :: rp).reverse ++ x :: s := by simp [sinkR, hlt]
        rw [this, ← hm, List.set_getElem_self]
      rw [hset, slices_insertionSortOrdered_int_R2_eq]
      simp only [slices_insertionSortOrdered_int_B2, slices_insertionSortOrdered_int_K2_a, hpos, hw, hg, d1, d2, i1, i2, cmp_Less_int_call, less_F, hlt, zy, simprocAttr]

theorem ins_out (m n : Nat) (hn : n ≤ 1000) : ∀ (r p : List Int) (bl : List Blk), bl[m]? = some (.cells ((p ++ r).flatMap fI)) → p.length + r.length = n →
    slices_insertionSortOrdered_int_R0 ([(0, .os 1 (.blk m) 0 n), (1, .int .i64 0), (2, .int .i64 n), (6, .int .i64 p.length)], ⟨[], bl⟩) =
      some (.norm, [], ⟨[], bl.set m (.cells ((insAll p r).flatMap fI))⟩)
  | [], p, bl, hm, hl => by
    have hml : m < bl.length := (List.getElem?_eq_some_iff.1 hm).1
    have hset : bl.set m (.cells ((insAll p []).flatMap fI)) = bl := by
      rw [List.getElem?_eq_getElem hml, Option.some.injEq] at hm
      simp only [insAll, List.append_nil] at hm ⊢
      rw [← hm, List.set_getElem_self]
    have h1 : ¬ ((p.length : Int) < n) := by simp at hl; omega
    rw [hset, slices_insertionSortOrdered_int_R0_eq]
    simp only [slices_insertionSortOrdered_int_B0, slices_insertionSortOrdered_int_K0_a, h1, zy, simprocAttr]
  | x :: r, p, bl, hm, hl => by
    have hml : m < bl.length := (List.getElem?_eq_some_iff.1 hm).1
    have hl' : p.length + 1 + r.length = n := by simp at hl; omega
    have h1 : ((p.length : Int) < n) := by omega
    have hw := wrapM (n := p.length) (by omega)
    have e := ins_in m n n p.length hn x p.reverse r bl (by rw [List.reverse_reverse]; exact hm) (by simp; omega)
    rw [List.length_reverse] at e
    have ih := ins_out m n hn r (sinkR p.reverse x) (bl.set m (.cells ((sinkR p.reverse x ++ r).flatMap fI))) (by rw [List.getElem?_set_self hml]) (by rw [sinkR_len]; simp; omega)
    rw [sinkR_len, List.length_reverse, List.set_set] at ih
    rw [slices_insertionSortOrdered_int_R0_eq]
    simp only [slices_insertionSortOrdered_int_B0, slices_insertionSortOrdered_int_K0_a, slices_insertionSortOrdered_int_L2_eq, h1, hw, e, ih, insAll, zy, simprocAttr]

theorem isort_F (m : Nat) (l : List Int) (hl : l.length ≤ 1000) (bx : List (Nat × List CV)) (bl : List Blk) (hm : bl[m]? = some (.cells (l.flatMap fI))) :
    slices_insertionSortOrdered_int_F bx bl [.os 1 (.blk m) 0 l.length, .int .i64 0, .int .i64 l.length] = some (.tup [], ⟨bx, bl.set m (.cells ((isort l).flatMap fI))⟩) := by
  have hml : m < bl.length := (List.getElem?_eq_some_iff.1 hm).1
  rw [slices_insertionSortOrdered_int_F_eq]
  cases l with
  | nil =>
    have hset : bl.set m (.cells ((isort []).flatMap fI)) = bl := by
      rw [List.getElem?_eq_getElem hml, Option.some.injEq] at hm
      simp only [isort]
      rw [← hm, List.set_getElem_self]
    rw [hset]
    simp only [slices_insertionSortOrdered_int_C, slices_insertionSortOrdered_int_L0_eq, slices_insertionSortOrdered_int_R0_eq, slices_insertionSortOrdered_int_B0, slices_insertionSortOrdered_int_K0_a, Int.natCast_zero, zy, simprocAttr]
  | cons x r =>
    have e := ins_out m (x :: r).length hl r [x] bl (by simpa using hm) (by simp; omega)
    simp only [List.length_cons, List.length_nil, Nat.zero_add, Int.natCast_one] at e
    simp only [slices_insertionSortOrdered_int_C, slices_insertionSortOrdered_int_L0_eq, e, isort, zy, simprocAttr]

theorem pdq_F (m : Nat) (l : List Int) (hl : l.length ≤ 12) (c : Int) (bx : List (Nat × List CV)) (bl : List Blk) (hm : bl[m]? = some (.cells (l.flatMap fI))) :
    slices_pdqsortOrdered_int_F bx bl [.os 1 (.blk m) 0 l.length, .int .i64 0, .int .i64 l.length, .int .i64 c] = some (.tup [], ⟨bx, bl.set m (.cells ((isort l).flatMap fI))⟩) := by
  have e := fun bx => isort_F m l (by omega) bx bl hm
  have hw : IntKind.i64.wrap ((l.length : Int) - 0) = l.length := by rw [wrap64 (by omega) (by omega)]; omega
  have h1 : (l.length : Int) ≤ 12 := by omega
  rw [slices_pdqsortOrdered_int_F_eq]
  simp only [slices_pdqsortOrdered_int_C, slices_pdqsortOrdered_int_L0_eq, slices_pdqsortOrdered_int_R0_eq, slices_pdqsortOrdered_int_B0, slices_pdqsortOrdered_int_K0_a, hw, h1, slices_insertionSortOrdered_int_call, e, zy, simprocAttr]
theorem fz_run' {C : Ctx} {kn : Bool} {np : Nat} {code : CCode} {res : List Res} {st : Bool} {H : Heap} {xs : List CV} {r : CV × Heap} (n : Nat)
    (h : (if xs.length = np then (run C n code (enterC 0 xs) ⟨[], []⟩).bind (fzOut res st kn H) else none) = some r) : fzE C kn np code res st H xs = some r := by
  unfold fzE
  split at h
  · rename_i hl
    rw [if_pos hl]
    obtain ⟨x, hx, hr⟩ := Option.bind_eq_some_iff.1 h
    rw [run_eval C n _ _ _ _ hx]
    exact hr
  · cases h


theorem bitsLen_F (n : Nat) (hn : n ≤ 12) (st : Bool) (H : Heap) : ∃ c, math_bits_Len_F st H [.int .u64 n] = some (.int .i64 c, H) := by
  have h : n = 0 ∨ n = 1 ∨ n = 2 ∨ n = 3 ∨ n = 4 ∨ n = 5 ∨ n = 6 ∨ n = 7 ∨ n = 8 ∨ n = 9 ∨ n = 10 ∨ n = 11 ∨ n = 12 := by omega
  rcases h with rfl | rfl | rfl | rfl | rfl | rfl | rfl | rfl | rfl | rfl | rfl | rfl | rfl
  · exact ⟨0, fz_run' 20 (by kernel_rfl)⟩
  · exact ⟨1, fz_run' 20 (by kernel_rfl)⟩
  · exact ⟨2, fz_run' 20 (by kernel_rfl)⟩
  · exact ⟨2, fz_run' 20 (by kernel_rfl)⟩
  · exact ⟨3, fz_run' 20 (by kernel_rfl)⟩
  · exact ⟨3, fz_run' 20 (by kernel_rfl)⟩
  · exact ⟨3, fz_run' 20 (by kernel_rfl)⟩
  · exact ⟨3, fz_run' 20 (by kernel_rfl)⟩
  · exact ⟨4, fz_run' 20 (by kernel_rfl)⟩
  · exact ⟨4, fz_run' 20 (by kernel_rfl)⟩
  · exact ⟨4, fz_run' 20 (by kernel_rfl)⟩
  · exact ⟨4, fz_run' 20 (by kernel_rfl)⟩
  · exact ⟨4, fz_run' 20 (by kernel_rfl)⟩

/-- A few numbers that are being made, sorted in place. -/
theorem sort_F (v : CV) (l : List Int) (hl : l.length ≤ 12) (bx : List (Nat × List CV)) (bl : List Blk) (hO : Own fI 1 bl v l) :
    ∃ bl', slices_Sort_int_F bx bl [v] = some (.tup [], ⟨bx, bl'⟩) ∧ Own fI 1 bl' v (isort l) ∧ Fr bl bl' v := by
  obtain ⟨c, hc⟩ := bitsLen_F l.length hl false ⟨[], bl⟩
  have hw : IntKind.u64.wrap (l.length : Int) = l.length := by rw [IntKind.wrap_u64]; omega
  rcases hO with ⟨rfl, rfl⟩ | ⟨m, rfl, hm⟩
  · refine ⟨bl, ?_, .inl ⟨rfl, rfl⟩, fun _ _ h _ => h⟩
    have hi : slices_insertionSortOrdered_int_F [] bl [.nils, .int .i64 0, .int .i64 0] = some (.tup [], ⟨[], bl⟩) := by
      rw [slices_insertionSortOrdered_int_F_eq]
      simp only [slices_insertionSortOrdered_int_C, slices_insertionSortOrdered_int_L0_eq, slices_insertionSortOrdered_int_R0_eq, slices_insertionSortOrdered_int_B0, slices_insertionSortOrdered_int_K0_a, zy, simprocAttr]
    have hp : slices_pdqsortOrdered_int_F [] bl [.nils, .int .i64 0, .int .i64 0, .int .i64 c] = some (.tup [], ⟨[], bl⟩) := by
      rw [slices_pdqsortOrdered_int_F_eq]
      simp only [slices_pdqsortOrdered_int_C, slices_pdqsortOrdered_int_L0_eq, slices_pdqsortOrdered_int_R0_eq, slices_pdqsortOrdered_int_B0, slices_pdqsortOrdered_int_K0_a, slices_insertionSortOrdered_int_call, hi, zy, simprocAttr]
    simp only [List.length_nil, Int.natCast_zero] at hc hw
    rw [slices_Sort_int_F_eq]
    simp only [slices_Sort_int_C, hw, math_bits_Len_call, hc, slices_pdqsortOrdered_int_call, hp, Int.natCast_zero, zy, simprocAttr]
  · have hml : m < bl.length := (List.getElem?_eq_some_iff.1 hm).1
    have hp := pdq_F m l hl c [] bl hm
    refine ⟨bl.set m (.cells ((isort l).flatMap fI)), ?_, .inr ⟨m, by rw [(isort_perm l).length_eq], by rw [List.getElem?_set_self hml]⟩, fun k b hk hne => ?_⟩
    · rw [slices_Sort_int_F_eq]
      simp only [slices_Sort_int_C, hw, math_bits_Len_call, hc, slices_pdqsortOrdered_int_call, hp, zy, simprocAttr]
    · rw [List.getElem?_set_ne (fun h => hne (by rw [h]; rfl))]
      exact hk
end Go.Proofs.YtlhjpcgfkkhogaaGreat.Zt
end
section
namespace Go.Proofs.YtlhjpcgfkkhogaaGreat.Zt
open Go Go.Zc
set_option maxRecDepth 10000

/-- The best one so far. -/
def Best (last : Option Int) (l : List Int) (i : Nat) (b : Int) : Prop :=
  (b = -1 ∧ ∀ k, ∀ h : k < l.length, k < i → gtO last l[k] = false) ∨
  ∃ j : Nat, ∃ hj : j < l.length, b = j ∧ j < i ∧ gtO last l[j] = true ∧ ∀ k, ∀ h : k < l.length, k < i → gtO last l[k] = true → l[j] ≤ l[k]

theorem rise_in (l : List Int) (hm : l.length ≤ 2 * Zc.small) (acc : List Int) (v : CV) (bl : List Blk) (hO : Own fI 1 bl v acc) (ham : acc.length ≤ 2 * Zc.small) : ∀ (n i : Nat) (b : Int), l.length - i = n → i ≤ l.length → Best acc.getLast? l i b →
    ∃ b', r01_Rise_R2 ([(0, sl fI l), (3, v), (4, .int .i64 b), (5, .int .i64 i)], ⟨[], bl⟩) = some (.norm, [(0, sl fI l), (3, v), (4, .int .i64 b')], ⟨[], bl⟩) ∧ Best acc.getLast? l l.length b' := by
  intro n
  induction n with
  | zero =>
    intro i b hn hi hB
    have : i = l.length := by omega
    subst this
    refine ⟨b, ?_, hB⟩
    rw [r01_Rise_R2_eq]
    simp only [r01_Rise_B2, r01_Rise_K2_a, hO.chkV, zy, simprocAttr]
  | succ n ih =>
    intro i b hn hi hB
    have hil : i < l.length := by omega
    have h1 : ((i : Int) < l.length) := by omega
    have hw := wrapN (n := i) (by omega)
    have hia := iaddr_atI (k := .i64) hil
    have hol := hO.len
    -- the new best one
    have step : ∃ b', Best acc.getLast? l (i + 1) b' ∧ r01_Rise_R2 ([(0, sl fI l), (3, v), (4, .int .i64 b), (5, .int .i64 i)], ⟨[], bl⟩) = r01_Rise_R2 ([(0, sl fI l), (3, v), (4, .int .i64 b'), (5, .int .i64 (i + 1 : Nat))], ⟨[], bl⟩) := by
      have hkB : gtO acc.getLast? l[i] = false → Best acc.getLast? l (i + 1) b := by
        intro hg
        rcases hB with ⟨h2, h3⟩ | ⟨j, hj, h2, h3, h4, h5⟩
        · exact .inl ⟨h2, fun k hk hki => by
            by_cases hkk : k = i
            · subst hkk; exact hg
            · exact h3 k hk (by omega)⟩
        · exact .inr ⟨j, hj, h2, by omega, h4, fun k hk hki hgk => by
            by_cases hkk : k = i
            · subst hkk; rw [hg] at hgk; cases hgk
            · exact h5 k hk (by omega) hgk⟩
      have hnB : gtO acc.getLast? l[i] = true → b < 0 → Best acc.getLast? l (i + 1) i := by
        intro hg hb
        rcases hB with ⟨h2, h3⟩ | ⟨j, hj, h2, h3, h4, h5⟩
        · refine .inr ⟨i, hil, rfl, by omega, hg, fun k hk hki hgk => ?_⟩
          by_cases hkk : k = i
          · subst hkk; exact Int.le_refl _
          · rw [h3 k hk (by omega)] at hgk; cases hgk
        · omega
      by_cases hacc : acc = []
      · subst hacc
        have hg : gtO ([] : List Int).getLast? l[i] = true := rfl
        by_cases hb : b < 0
        · refine ⟨i, hnB hg hb, ?_⟩
          rw [r01_Rise_R2_eq]
          simp only [r01_Rise_B2, r01_Rise_K2_a, h1, hol, hia, hb, hw, hO.chkV, Int.natCast_zero, zy, simprocAttr]
        · rcases hB with ⟨h2, h3⟩ | ⟨j, hj, h2, h3, h4, h5⟩
          · omega
          · subst h2
            have hja := iaddr_atI (k := .i64) hj
            by_cases hlt : l[i] < l[j]
            · refine ⟨i, .inr ⟨i, hil, rfl, by omega, hg, fun k hk hki hgk => ?_⟩, ?_⟩
              · by_cases hkk : k = i
                · subst hkk; exact Int.le_refl _
                · have := h5 k hk (by omega) hgk; omega
              · rw [r01_Rise_R2_eq]
                simp only [r01_Rise_B2, r01_Rise_K2_a, h1, hol, hia, hja, hb, hlt, hw, hO.chkV, Int.natCast_zero, zy, simprocAttr]
            · refine ⟨j, .inr ⟨j, hj, rfl, by omega, h4, fun k hk hki hgk => ?_⟩, ?_⟩
              · by_cases hkk : k = i
                · subst hkk; omega
                · exact h5 k hk (by omega) hgk
              · rw [r01_Rise_R2_eq]
                simp only [r01_Rise_B2, r01_Rise_K2_a, h1, hol, hia, hja, hb, hlt, hw, hO.chkV, Int.natCast_zero, zy, simprocAttr]
      · obtain ⟨a, z, rfl⟩ : ∃ a z, acc = a ++ [z] := ⟨acc.dropLast, acc.getLast hacc, (List.dropLast_concat_getLast hacc).symm⟩
        have hlast : (a ++ [z]).getLast? = some z := by simp
        have hl0 : ¬ (((a ++ [z]).length : Int) = 0) := by simp; omega
        have hsub : IntKind.i64.wrap (((a ++ [z]).length : Int) - 1) = a.length := by
          unfold Zc.small at ham
          rw [wrap64 (by omega) (by omega)]; simp
        obtain ⟨m, hla, cs, hg0, hd⟩ := Own.get flatI hO (p := a) (s := []) (x := z) rfl
        simp only [fI, Nat.mul_one] at hd
        simp only [Nat.mul_one] at hla
        rw [hlast] at hkB hnB hB ⊢
        generalize hL : (a ++ [z]).length = L at *
        by_cases hgz : z < l[i]
        · have hg : gtO (some z) l[i] = true := by simp [gtO, hgz]
          by_cases hb : b < 0
          · refine ⟨i, hnB hg hb, ?_⟩
            rw [r01_Rise_R2_eq]
            simp only [r01_Rise_B2, r01_Rise_K2_a, h1, hol, hl0, hsub, hla, hg0, hd, hgz, hia, hb, hw, hO.chkV, zy, simprocAttr]
          · rcases hB with ⟨h2, h3⟩ | ⟨j, hj, h2, h3, h4, h5⟩
            · omega
            · subst h2
              have hja := iaddr_atI (k := .i64) hj
              by_cases hlt : l[i] < l[j]
              · refine ⟨i, .inr ⟨i, hil, rfl, by omega, hg, fun k hk hki hgk => ?_⟩, ?_⟩
                · by_cases hkk : k = i
                  · subst hkk; exact Int.le_refl _
                  · have := h5 k hk (by omega) hgk; omega
                · rw [r01_Rise_R2_eq]
                  simp only [r01_Rise_B2, r01_Rise_K2_a, h1, hol, hl0, hsub, hla, hg0, hd, hgz, hia, hja, hb, hlt, hw, hO.chkV, zy, simprocAttr]
              · refine ⟨j, .inr ⟨j, hj, rfl, by omega, h4, fun k hk hki hgk => ?_⟩, ?_⟩
                · by_cases hkk : k = i
                  · subst hkk; omega
                  · exact h5 k hk (by omega) hgk
                · rw [r01_Rise_R2_eq]
                  simp only [r01_Rise_B2, r01_Rise_K2_a, h1, hol, hl0, hsub, hla, hg0, hd, hgz, hia, hja, hb, hlt, hw, hO.chkV, zy, simprocAttr]
        · have hg : gtO (some z) l[i] = false := by simp [gtO]; omega
          refine ⟨b, hkB hg, ?_⟩
          rw [r01_Rise_R2_eq]
          simp only [r01_Rise_B2, r01_Rise_K2_a, h1, hol, hl0, hsub, hla, hg0, hd, hgz, hia, hw, hO.chkV, zy, simprocAttr]
    obtain ⟨b', hB', e⟩ := step
    obtain ⟨b'', e2, hB''⟩ := ih (i + 1) b' (by omega) (by omega) hB'
    exact ⟨b'', e.trans e2, hB''⟩

theorem best_min {last : Option Int} {l : List Int} {b : Int} (h : Best last l l.length b) : (b < 0 ∧ minO (l.filter (gtO last)) = none) ∨ ∃ j : Nat, ∃ hj : j < l.length, b = j ∧ minO (l.filter (gtO last)) = some l[j] := by
  rcases h with ⟨h1, h2⟩ | ⟨j, hj, h1, _, h3, h4⟩
  · left
    refine ⟨by omega, minO_none.2 ?_⟩
    rw [List.filter_eq_nil_iff]
    intro x hx
    obtain ⟨k, hk, rfl⟩ := List.mem_iff_getElem.1 hx
    rw [h2 k hk hk]; simp
  · right
    refine ⟨j, hj, h1, minO_some.2 ⟨List.mem_filter.2 ⟨List.getElem_mem hj, h3⟩, fun y hy => ?_⟩⟩
    obtain ⟨hy1, hy2⟩ := List.mem_filter.1 hy
    obtain ⟨k, hk, rfl⟩ := List.mem_iff_getElem.1 hy1
    exact h4 k hk hk hy2

theorem rise_loop (l : List Int) (hm : l.length ≤ Zc.small) : ∀ (n : Nat) (acc : List Int) (v : CV) (bl : List Blk), (l.filter (gtO acc.getLast?)).length ≤ n → acc.length + n ≤ l.length → Own fI 1 bl v acc →
    ∃ v' bl', r01_Rise_R0 ([(0, sl fI l), (3, v)], ⟨[], bl⟩) = some (.ret, [(2, v')], ⟨[], bl'⟩) ∧ Own fI 1 bl' v' (acc ++ riseN l n acc.getLast?) := by
  intro n
  induction n with
  | zero =>
    intro acc v bl hf hn hO
    have hB0 : Best acc.getLast? l 0 (-1) := .inl ⟨rfl, fun k hk h => by omega⟩
    obtain ⟨b, e, hB⟩ := rise_in l (by omega) acc v bl hO (by omega) l.length 0 (-1) (by omega) (by omega) hB0
    have hnil : l.filter (gtO acc.getLast?) = [] := List.eq_nil_of_length_eq_zero (by omega)
    rcases best_min hB with ⟨hb, _⟩ | ⟨j, hj, hb, h⟩
    · refine ⟨v, bl, ?_, by simpa [riseN] using hO⟩
      simp only [Int.natCast_zero] at e
      rw [r01_Rise_R0_eq]
      simp only [r01_Rise_B0, r01_Rise_K0_a, r01_Rise_L2_eq, hO.chkV, e, hb, zy, simprocAttr]
    · rw [hnil] at h; simp [minO] at h
  | succ n ih =>
    intro acc v bl hf hn hO
    have hB0 : Best acc.getLast? l 0 (-1) := .inl ⟨rfl, fun k hk h => by omega⟩
    obtain ⟨b, e, hB⟩ := rise_in l (by omega) acc v bl hO (by omega) l.length 0 (-1) (by omega) (by omega) hB0
    simp only [Int.natCast_zero] at e
    rcases best_min hB with ⟨hb, h⟩ | ⟨j, hj, hb, h⟩
    · refine ⟨v, bl, ?_, by simpa [riseN, h] using hO⟩
      rw [r01_Rise_R0_eq]
      simp only [r01_Rise_B0, r01_Rise_K0_a, r01_Rise_L2_eq, hO.chkV, e, hb, zy, simprocAttr]
    · subst hb
      have hlt := filter_gt h
      unfold Zc.small at hm
      obtain ⟨v1, bl1, e1, o1, _⟩ := hO.app1 flatI (bytes := 8) (zero := [.int .i64 0]) (by decide) rfl rfl l[j] (by omega)
      simp only [fI] at e1
      have hgl : (acc ++ [l[j]]).getLast? = some l[j] := by simp
      obtain ⟨v', bl', e2, o2⟩ := ih (acc ++ [l[j]]) v1 bl1 (by rw [hgl]; omega) (by simp; omega) o1
      rw [hgl] at o2
      have hja := iaddr_atI (k := .i64) hj
      have hb : ¬ ((j : Int) < 0) := by omega
      refine ⟨v', bl', ?_, by simpa only [riseN, h, List.append_assoc, List.cons_append, List.nil_append] using o2⟩
      rw [r01_Rise_R0_eq]
      simp only [r01_Rise_B0, r01_Rise_K0_a, r01_Rise_L2_eq, hO.chkV, e, hb, hja, e1, o1.chkV, e2, zy, simprocAttr]

theorem rise_F (l : List Int) (hm : l.length ≤ Zc.small) (st : Bool) (H : Heap) : r01_Rise_F st H [sl fI l] = some (sl fI (rise l), H) := by
  obtain ⟨v, bl, e, o⟩ := rise_loop l hm l.length [] .nils [] (List.length_filter_le _ _) (by simp) (Own.nil _ _ _)
  have hs := fun bx => snapI_own o bx st
  simp only [List.nil_append, List.getLast?_nil] at hs
  rw [r01_Rise_F_eq]
  simp only [r01_Rise_C, r01_Rise_L0_eq, e, hs, rise, zy, simprocAttr]

end Go.Proofs.YtlhjpcgfkkhogaaGreat.Zt
end
section
namespace Go.Proofs.YtlhjpcgfkkhogaaGreat.Zt
open Go Go.Zc
set_option maxRecDepth 10000

/-- What differs from what stands before it. -/
def dd : Int → List Int → List Int
  | _, [] => []
  | y, x :: s => if x = y then dd x s else x :: dd x s
theorem compact_dd : ∀ (y : Int) (s : List Int), compact (y :: s) = y :: dd y s
  | y, [] => rfl
  | y, x :: s => by
    simp only [compact, dd]
    by_cases h : x = y
    · subst h; simp only [if_true]; exact compact_dd x s
    · rw [if_neg h, if_neg (fun h' => h h'.symm), compact_dd x s]
theorem dd_len : ∀ (s : List Int) (y : Int), (dd y s).length ≤ s.length
  | [], _ => Nat.le_refl _
  | x :: s, y => by
    have := dd_len s x
    simp only [dd]
    split <;> simp <;> omega

theorem iaddr_os2 {m n k i : Nat} {ik : IntKind} (h : i < n) : iaddrC 1 (.os 1 (.blk m) k n) (.int ik i) = some (.op (.blk m) (k + i)) := by
  unfold iaddrC iaddrN
  simp only [Int.toNat_natCast, Nat.mul_one]
  rw [if_pos ⟨trivial, by omega, by omega⟩]

theorem cmp_in (m n k : Nat) (hn : n ≤ 2 * Zc.small) (hk : k ≤ n) : ∀ (suf done junk : List Int) (y : Int) (bl : List Blk), bl[m]? = some (.cells ((done ++ junk ++ y :: suf).flatMap fI)) → (done ++ junk ++ y :: suf).length = n → k ≤ done.length + junk.length →
    ∃ bl' junk', slices_Compact_int_R2 ([(0, .os 1 (.blk m) 0 n), (3, .int .i64 done.length), (4, .os 1 (.blk m) k (n - k)), (5, .int .i64 (done.length + junk.length + 1 - k : Nat))], ⟨[], bl⟩) =
        some (.norm, [(0, .os 1 (.blk m) 0 n), (3, .int .i64 (done ++ dd y suf).length)], ⟨[], bl'⟩) ∧
      bl'[m]? = some (.cells (((done ++ dd y suf) ++ junk').flatMap fI)) ∧ ((done ++ dd y suf) ++ junk').length = n ∧ Fr bl bl' (.os 1 (.blk m) 0 n)
  | [], done, junk, y, bl, hm, hl, hkk => by
    refine ⟨bl, junk ++ [y], ?_, by simpa [dd] using hm, by simp [dd] at hl ⊢; omega, fun _ _ h _ => h⟩
    have h1 : ¬ (((done.length + junk.length + 1 - k : Nat) : Int) < (n - k : Nat)) := by simp at hl; omega
    rw [slices_Compact_int_R2_eq]
    simp only [slices_Compact_int_B2, slices_Compact_int_K2_a, h1, dd, zy, simprocAttr]
  | x :: suf, done, junk, y, bl, hm, hl, hkk => by
    have hl' : done.length + junk.length + 2 + suf.length = n := by simp at hl; omega
    have hml : m < bl.length := (List.getElem?_eq_some_iff.1 hm).1
    have h1 : (((done.length + junk.length + 1 - k : Nat) : Int) < (n - k : Nat)) := by omega
    unfold Zc.small at hn
    have hw := wrapN (n := done.length + junk.length + 1 - k) (by unfold Zc.small; omega)
    have hw1 : IntKind.i64.wrap (((done.length + junk.length + 1 - k : Nat) : Int) - 1) = ((done.length + junk.length - k : Nat) : Int) := by rw [wrap64 (by omega) (by omega)]; omega
    have hw2 := wrapN (n := done.length) (by unfold Zc.small; omega)
    have hg : ∀ bx, Heap.get ⟨bx, bl⟩ (.blk m) = some ((done ++ junk ++ y :: x :: suf).flatMap fI) := fun bx => get_blk bx bl m _ hm
    have i1 : iaddrC 1 (.os 1 (.blk m) k (n - k)) (.int .i64 (done.length + junk.length + 1 - k : Nat)) = some (.op (.blk m) (done.length + junk.length + 1)) := by
      rw [iaddr_os2 (by omega)]; congr 2; omega
    have i2 : iaddrC 1 (.os 1 (.blk m) k (n - k)) (.int .i64 (done.length + junk.length - k : Nat)) = some (.op (.blk m) (done.length + junk.length)) := by
      rw [iaddr_os2 (by omega)]; congr 2; omega
    have i3 : iaddrC 1 (.os 1 (.blk m) 0 n) (.int .i64 done.length) = some (.op (.blk m) done.length) := iaddr_os (by omega)
    have d1 : ((done ++ junk ++ y :: x :: suf).flatMap fI).drop (done.length + junk.length + 1) = .int .i64 x :: suf.flatMap fI := by
      have := dropI (done ++ junk ++ [y]) suf x
      simpa only [List.length_append, List.length_cons, List.length_nil, Nat.zero_add, List.append_assoc, List.cons_append, List.nil_append, Nat.add_assoc] using this
    have d2 : ((done ++ junk ++ y :: x :: suf).flatMap fI).drop (done.length + junk.length) = .int .i64 y :: (x :: suf).flatMap fI := by
      have := dropI (done ++ junk) (x :: suf) y
      simpa only [List.length_append] using this
    by_cases hxy : x = y
    · obtain ⟨bl', junk', e, e1, e2, e3⟩ := cmp_in m n k (by unfold Zc.small; exact hn) hk suf done (junk ++ [y]) x bl (by simpa using hm) (by simpa using hl) (by simp; omega)
      have hd : dd y (x :: suf) = dd x suf := by simp only [dd, if_pos hxy]
      rw [hd]
      refine ⟨bl', junk', ?_, e1, e2, e3⟩
      have hidx : (done.length + (junk ++ [y]).length + 1 - k : Nat) = done.length + junk.length + 1 - k + 1 := by simp; omega
      rw [hidx] at e
      rw [slices_Compact_int_R2_eq]
      simp only [slices_Compact_int_B2, slices_Compact_int_K2_a, h1, i1, i2, hg, d1, d2, eq_true hxy, hw, hw1, e, zy, simprocAttr]
    · obtain ⟨j0, junk0, hj⟩ : ∃ j0 junk0, junk ++ [y] = j0 :: junk0 := by cases junk with | nil => exact ⟨y, [], rfl⟩ | cons a b => exact ⟨a, b ++ [y], rfl⟩
      have hjl : junk.length + 1 = junk0.length + 1 := by simpa using congrArg List.length hj
      have hbe : done ++ junk ++ y :: x :: suf = done ++ j0 :: (junk0 ++ x :: suf) := by
        have : junk ++ y :: x :: suf = (junk ++ [y]) ++ x :: suf := by simp
        rw [List.append_assoc, this, hj]; simp
      have hst : ∀ bx, stE 1 done.length (.int .i64 x) ⟨bx, bl⟩ (.blk m) ((done ++ junk ++ y :: x :: suf).flatMap fI) = some ⟨bx, bl.set m (.cells ((done ++ x :: (junk0 ++ x :: suf)).flatMap fI))⟩ := by
        intro bx
        rw [hbe]
        exact stI bx bl m done (junk0 ++ x :: suf) j0 x
      obtain ⟨bl', junk', e, e1, e2, e3⟩ := cmp_in m n k (by unfold Zc.small; exact hn) hk suf (done ++ [x]) junk0 x (bl.set m (.cells ((done ++ x :: (junk0 ++ x :: suf)).flatMap fI))) (by rw [List.getElem?_set_self hml]; simp) (by simp; omega) (by simp; omega)
      have hd : dd y (x :: suf) = x :: dd x suf := by simp only [dd, if_neg hxy]
      have hke : done ++ x :: dd x suf = (done ++ [x]) ++ dd x suf := by simp
      rw [hd, hke]
      refine ⟨bl', junk', ?_, e1, e2, fun j b hb hne => e3 j b (by rw [List.getElem?_set_ne (fun h => hne (by rw [h]; rfl))]; exact hb) hne⟩
      have hidx : ((done ++ [x]).length + junk0.length + 1 - k : Nat) = done.length + junk.length + 1 - k + 1 := by simp; omega
      rw [hidx, show (done ++ [x]).length = done.length + 1 by simp] at e
      rw [slices_Compact_int_R2_eq]
      simp only [slices_Compact_int_B2, slices_Compact_int_K2_a, h1, i1, i2, i3, hg, d1, d2, eq_false hxy, hst, hw, hw1, hw2, e, zy, simprocAttr]

/-- The outer loop: what comes first is kept as it is. -/
theorem cmp_out (m n : Nat) (hn : n ≤ 2 * Zc.small) : ∀ (suf pre : List Int) (y : Int) (bl : List Blk), bl[m]? = some (.cells ((pre ++ y :: suf).flatMap fI)) → (pre ++ y :: suf).length = n →
    (∃ bl' junk', slices_Compact_int_R0 ([(0, .os 1 (.blk m) 0 n), (3, .int .i64 (pre.length + 1 : Nat))], ⟨[], bl⟩) =
        some (.ret, [(2, .os 1 (.blk m) 0 (pre ++ y :: dd y suf).length)], ⟨[], bl'⟩) ∧
      bl'[m]? = some (.cells ((pre ++ y :: dd y suf).flatMap fI ++ junk')) ∧ Fr bl bl' (.os 1 (.blk m) 0 n)) ∨
    (slices_Compact_int_R0 ([(0, .os 1 (.blk m) 0 n), (3, .int .i64 (pre.length + 1 : Nat))], ⟨[], bl⟩) = some (.norm, [(0, .os 1 (.blk m) 0 n)], ⟨[], bl⟩) ∧ dd y suf = suf)
  | [], pre, y, bl, hm, hl => by
    right
    refine ⟨?_, rfl⟩
    have h1 : ¬ (((pre.length + 1 : Nat) : Int) < n) := by simp at hl; omega
    rw [slices_Compact_int_R0_eq]
    simp only [slices_Compact_int_B0, slices_Compact_int_K0_a, h1, zy, simprocAttr]
  | x :: suf, pre, y, bl, hm, hl => by
    have hl' : pre.length + 2 + suf.length = n := by simp at hl; omega
    have h1 : (((pre.length + 1 : Nat) : Int) < n) := by omega
    unfold Zc.small at hn
    have hw := wrapN (n := pre.length + 1) (by unfold Zc.small; omega)
    have hw1 : IntKind.i64.wrap (((pre.length + 1 : Nat) : Int) - 1) = pre.length := by rw [wrap64 (by omega) (by omega)]; omega
    have hg : ∀ bx, Heap.get ⟨bx, bl⟩ (.blk m) = some ((pre ++ y :: x :: suf).flatMap fI) := fun bx => get_blk bx bl m _ hm
    have i1 : iaddrC 1 (.os 1 (.blk m) 0 n) (.int .i64 (pre.length + 1 : Nat)) = some (.op (.blk m) (pre.length + 1)) := iaddr_os (by omega)
    have i2 : iaddrC 1 (.os 1 (.blk m) 0 n) (.int .i64 pre.length) = some (.op (.blk m) pre.length) := iaddr_os (by omega)
    have d1 : ((pre ++ y :: x :: suf).flatMap fI).drop (pre.length + 1) = .int .i64 x :: suf.flatMap fI := by
      have := dropI (pre ++ [y]) suf x
      simpa only [List.length_append, List.length_cons, List.length_nil, Nat.zero_add, List.append_assoc, List.cons_append, List.nil_append] using this
    have d2 : ((pre ++ y :: x :: suf).flatMap fI).drop pre.length = .int .i64 y :: (x :: suf).flatMap fI := dropI pre (x :: suf) y
    by_cases hxy : x = y
    · left
      subst hxy
      obtain ⟨bl1, junk', e, e1, e2, e3⟩ := cmp_in m n (pre.length + 1) (by unfold Zc.small; exact hn) (by omega) suf (pre ++ [x]) [] x bl (by simpa using hm) (by simpa using hl) (by simp)
      have hd : dd x (x :: suf) = dd x suf := by simp only [dd, if_true]
      have hke : pre ++ x :: dd x suf = (pre ++ [x]) ++ dd x suf := by simp
      rw [hd, hke]
      generalize hq : (pre ++ [x]) ++ dd x suf = q at *
      have hql : q.length ≤ n := by simp at e2; omega
      have hone : ((pre ++ [x]).length + ([] : List Int).length + 1 - (pre.length + 1) : Nat) = 1 := by simp
      rw [hone, show (pre ++ [x]).length = pre.length + 1 by simp] at e
      have hc0 : slcC 1 (.os 1 (.blk m) 0 n) (some (.int .i64 (pre.length + 1 : Nat))) none = some (.os 1 (.blk m) (pre.length + 1) (n - (pre.length + 1))) := by
        unfold slcC
        simp only [sbound, if_true, Option.bind_some]
        rw [if_pos ⟨by omega, by omega⟩]
        simp
      have hc1 : slcC 1 (.os 1 (.blk m) 0 n) (some (.int .i64 q.length)) none = some (.os 1 (.blk m) q.length (n - q.length)) := by
        unfold slcC
        simp only [sbound, if_true, Option.bind_some]
        rw [if_pos ⟨by omega, by omega⟩]
        simp
      have hc2 : slcC 1 (.os 1 (.blk m) 0 n) none (some (.int .i64 q.length)) = some (.os 1 (.blk m) 0 q.length) := by
        unfold slcC
        simp only [sbound, if_true]
        rw [if_pos ⟨by omega, by omega⟩]
        simp
      have hml : m < bl1.length := (List.getElem?_eq_some_iff.1 e1).1
      have hcl : ∀ bx, clearC 1 [.int .i64 0] ⟨bx, bl1⟩ (.os 1 (.blk m) q.length (n - q.length)) = some ⟨bx, bl1.set m (.cells (q.flatMap fI ++ repC [.int .i64 0] (n - q.length)))⟩ := by
        intro bx
        have hlen := flatI.length (q ++ junk')
        have hjl : junk'.length = n - q.length := by simp at e2; omega
        have hsm := setMany_app (repC [.int .i64 0] (n - q.length)) (junk'.flatMap fI) (q.flatMap fI) [] (by rw [repC_length, flatI.length, hjl]; simp)
        rw [flatI.length, Nat.mul_one] at hsm
        simp only [List.append_nil] at hsm
        simp only [clearC, if_true, get_blk bx bl1 m _ e1, Option.bind_some]
        rw [if_pos (by rw [hlen, e2]; omega)]
        simp only [List.flatMap_append, hsm, put_blk]
      refine ⟨bl1.set m (.cells (q.flatMap fI ++ repC [.int .i64 0] (n - q.length))), _, ?_, by rw [List.getElem?_set_self hml], fun j b hb hne => ?_⟩
      · rw [slices_Compact_int_R0_eq]
        have e' := e
        rw [show ((1 : Nat) : Int) = 1 from rfl] at e'
        simp only [slices_Compact_int_B0, slices_Compact_int_K0_a, slices_Compact_int_L2_eq, h1, i1, i2, hg, d1, d2, hw, hw1, hc0, hc1, hc2, hop_clear, hcl, e', zy, simprocAttr]
      · rw [List.getElem?_set_ne (fun h => hne (by rw [h]; rfl))]
        exact e3 j b hb hne
    · have ih := cmp_out m n (by unfold Zc.small; exact hn) suf (pre ++ [y]) x bl (by simpa using hm) (by simpa using hl)
      have hd : dd y (x :: suf) = x :: dd x suf := by simp only [dd, if_neg hxy]
      have hke : pre ++ y :: x :: dd x suf = (pre ++ [y]) ++ x :: dd x suf := by simp
      rw [hd, hke]
      rw [show (pre ++ [y]).length + 1 = pre.length + 1 + 1 by simp] at ih
      have hstep : slices_Compact_int_R0 ([(0, .os 1 (.blk m) 0 n), (3, .int .i64 (pre.length + 1 : Nat))], ⟨[], bl⟩) = slices_Compact_int_R0 ([(0, .os 1 (.blk m) 0 n), (3, .int .i64 (pre.length + 1 + 1 : Nat))], ⟨[], bl⟩) := by
        conv => lhs; rw [slices_Compact_int_R0_eq]
        simp only [slices_Compact_int_B0, slices_Compact_int_K0_a, h1, i1, i2, hg, d1, d2, eq_false hxy, hw, hw1, zy, simprocAttr]
      rw [hstep]
      rcases ih with h | h
      · exact .inl h
      · exact .inr ⟨h.1, by rw [h.2]⟩

theorem compact_F (v : CV) (l : List Int) (hm : l.length ≤ 2 * Zc.small) (bx : List (Nat × List CV)) (bl : List Blk) (hO : Own fI 1 bl v l) :
    ∃ v' bl', slices_Compact_int_F bx bl [v] = some (v', ⟨bx, bl'⟩) ∧ OwnS fI 1 bl' v' (compact l) ∧ Fr bl bl' v := by
  rcases hO with ⟨rfl, rfl⟩ | ⟨m, rfl, hm'⟩
  · refine ⟨.nils, bl, ?_, .inl ⟨rfl, rfl⟩, fun _ _ h _ => h⟩
    rw [slices_Compact_int_F_eq]
    simp only [slices_Compact_int_C, zy, simprocAttr]
  · match l, hm, hm' with
    | [], hm, hm' =>
      refine ⟨.os 1 (.blk m) 0 0, bl, ?_, .inr ⟨m, [], rfl, by simpa [compact] using hm'⟩, fun _ _ h _ => h⟩
      rw [slices_Compact_int_F_eq]
      simp only [slices_Compact_int_C, List.length_nil, Int.natCast_zero, zy, simprocAttr]
    | [x], hm, hm' =>
      refine ⟨.os 1 (.blk m) 0 1, bl, ?_, .inr ⟨m, [], rfl, by simpa [compact] using hm'⟩, fun _ _ h _ => h⟩
      have h1 : ((1 : Nat) : Int) < 2 := by decide
      rw [slices_Compact_int_F_eq]
      simp only [slices_Compact_int_C, List.length_cons, List.length_nil, Nat.zero_add, h1, zy, simprocAttr]
    | y :: x :: suf, hm, hm' =>
      have h1 : ¬ (((y :: x :: suf).length : Int) < 2) := by simp; omega
      have e := cmp_out m (y :: x :: suf).length hm (x :: suf) [] y bl (by simpa using hm') rfl
      rw [compact_dd]
      simp only [List.length_nil, Nat.zero_add, List.nil_append, show ((1 : Nat) : Int) = 1 from rfl] at e
      generalize hn : (y :: x :: suf).length = n at *
      rcases e with ⟨bl', junk', e, e1, e2⟩ | ⟨e, e1⟩
      · refine ⟨_, bl', ?_, .inr ⟨m, junk', rfl, e1⟩, e2⟩
        rw [slices_Compact_int_F_eq]
        simp only [slices_Compact_int_C, slices_Compact_int_L0_eq, h1, e, zy, simprocAttr]
      · rw [e1]
        refine ⟨.os 1 (.blk m) 0 n, bl, ?_, .inr ⟨m, [], by rw [← hn], by simpa using hm'⟩, fun _ _ h _ => h⟩
        rw [slices_Compact_int_F_eq]
        simp only [slices_Compact_int_C, slices_Compact_int_L0_eq, h1, e, zy, simprocAttr]
end Go.Proofs.YtlhjpcgfkkhogaaGreat.Zt
end
section
namespace Go.Proofs.YtlhjpcgfkkhogaaGreat.Zt
open Go Go.Zc
set_option maxRecDepth 10000

theorem equal_loop (xs ys : List Int) (hx : xs.length ≤ 1000) (hy : ys.length = xs.length) : ∀ (s t pre pr2 : List Int), pre ++ s = xs → pr2 ++ t = ys → pre.length = pr2.length →
    slices_Equal_int_R0 ([(0, sl fI xs), (1, sl fI ys), (12, .int .i64 xs.length), (13, .int .i64 pre.length)], ⟨[], []⟩) =
      if s = t then some (.norm, [], ⟨[], []⟩) else some (.ret, [(4, .bool false)], ⟨[], []⟩)
  | [], [], pre, pr2, hp, hq, hl => by
    have h1 : ¬ ((pre.length : Int) < xs.length) := by rw [← hp]; simp
    rw [slices_Equal_int_R0_eq]
    simp only [slices_Equal_int_B0, slices_Equal_int_K0_a, h1, zy, simprocAttr]
  | [], b :: t, pre, pr2, hp, hq, hl => by
    exfalso; rw [← hp, ← hq] at hy; simp at hy; omega
  | a :: s, [], pre, pr2, hp, hq, hl => by
    exfalso; rw [← hp, ← hq] at hy; simp at hy; omega
  | a :: s, b :: t, pre, pr2, hp, hq, hl => by
    have h1 : ((pre.length : Int) < xs.length) := by rw [← hp]; simp; omega
    have hwr := wrapN (n := pre.length) (by rw [← hp] at hx; unfold Zc.small; simp at hx; omega)
    have i1 : iaddrC 1 (sl fI xs) (.int .i64 pre.length) = some (.vp (.int .i64 a :: s.flatMap fI)) := by rw [← hp]; exact iaddr_midI .i64 pre s a
    have i2 : iaddrC 1 (sl fI ys) (.int .i64 pre.length) = some (.vp (.int .i64 b :: t.flatMap fI)) := by rw [← hq, hl]; exact iaddr_midI .i64 pr2 t b
    have ih := equal_loop xs ys hx hy s t (pre ++ [a]) (pr2 ++ [b]) (by simpa using hp) (by simpa using hq) (by simp [hl])
    rw [show (pre ++ [a]).length = pre.length + 1 by simp] at ih
    rw [slices_Equal_int_R0_eq]
    by_cases hab : a = b
    · subst hab
      simp only [slices_Equal_int_B0, slices_Equal_int_K0_a, h1, i1, i2, hwr, ih, ne_eq, not_true_eq_false, List.cons.injEq, true_and, zy, simprocAttr]
    · simp only [slices_Equal_int_B0, slices_Equal_int_K0_a, h1, i1, i2, ne_eq, eq_false hab, not_false_eq_true, List.cons.injEq, false_and, zy, simprocAttr]
theorem equal_F (xs ys : List Int) (hx : xs.length ≤ 1000) (st : Bool) (H : Heap) : slices_Equal_int_F st H [sl fI xs, sl fI ys] = some (.bool (decide (xs = ys)), H) := by
  rw [slices_Equal_int_F_eq]
  by_cases hl : ys.length = xs.length
  · have e := equal_loop xs ys hx hl xs ys [] [] rfl rfl rfl
    have hl' : ((xs.length : Int) = ys.length) := by omega
    simp only [List.nil_append, List.length_nil, Int.natCast_zero] at e
    by_cases h : xs = ys
    · subst h
      have e' := e.trans (if_pos rfl)
      simp only [slices_Equal_int_C, slices_Equal_int_L0_eq, ne_eq, not_true_eq_false, e', decide_true, zy, simprocAttr]
    · have e' := e.trans (if_neg h)
      simp only [slices_Equal_int_C, slices_Equal_int_L0_eq, ne_eq, eq_true hl', not_true_eq_false, e', h, decide_false, zy, simprocAttr]
  · have hl' : ¬ ((xs.length : Int) = ys.length) := by omega
    have h : xs ≠ ys := fun h => hl (by rw [h])
    simp only [slices_Equal_int_C, ne_eq, eq_false hl', not_false_eq_true, h, decide_false, zy, simprocAttr]

def wantP (p : Pt) : List Int := isort [p.stem, p.left, p.right]
def pointB (l : Lay) (p : Pt) : Bool := nodeB l p.node && (decide ((ends l p.node).length = 3) && (decide ((ends l p.node).map (·.s) = wantP p) && decide ((compact (wantP p)).length = 3)))
theorem isort_len (l : List Int) : (isort l).length = l.length := (isort_perm l).length_eq
set_option maxHeartbeats 1000000 in
theorem vpoint_F (l : Lay) (hl : l.ok) (hn : l.nodes.length ≤ 1000) (i : Nat) (hi : i < l.pts.length) (st : Bool) (H : Heap) : verify_judge_point_F st H [.agg (judC l), .int .i64 i] = some (.bool (pointB l l.pts[i]), H) := by
  have hia := iaddr_atP (k := .i64) hi
  have n1 := fun st H => jnode_F l hn l.pts[i].node st H
  obtain ⟨v, bl, e', o, _⟩ := gends_F l hl l.pts[i].node false [(2, judC l), (5, fP l.pts[i])] []
  simp only [judC, fP] at e' n1
  have hlen := o.len
  have hlv := o.locv
  unfold pointB
  rw [verify_judge_point_F_eq]
  cases hA : nodeB l l.pts[i].node with
  | false =>
    rw [hA] at n1
    simp only [verify_judge_point_C, judC, hia, graph_Graph_Ends_call, e', hlen, hlv, verify_judge_node_call, n1, Bool.false_and, zy, simprocAttr]
  | true =>
    rw [hA] at n1
    by_cases h3 : (ends l l.pts[i].node).length = 3
    · obtain ⟨a, b, c, hE⟩ : ∃ a b c, ends l l.pts[i].node = [a, b, c] := by
        generalize ends l l.pts[i].node = E at h3
        match E, h3 with
        | [a, b, c], _ => exact ⟨a, b, c, rfl⟩
      rw [hE] at hlen
      simp only [List.length_cons, List.length_nil] at hlen
      obtain ⟨p, g1, g2, _, g4⟩ := o.held.at flatE (P := []) hE
      obtain ⟨p', k1, k2, k3⟩ := g4 0 (by omega)
      obtain ⟨q, q1, q2, _, q4⟩ := o.held.at flatE (P := [a]) hE
      obtain ⟨q', m1, m2, m3⟩ := q4 0 (by omega)
      obtain ⟨r, r1, r2, _, r4⟩ := o.held.at flatE (P := [a, b]) hE
      obtain ⟨r', t1, t2, t3⟩ := r4 0 (by omega)
      have g1' := g1 .i64
      have q1' := q1 .i64
      have r1' := r1 .i64
      have k3' : ∀ bx, loadC false 1 ⟨bx, bl⟩ p' = some (.int .i64 a.s) := k3
      have m3' : ∀ bx, loadC false 1 ⟨bx, bl⟩ q' = some (.int .i64 b.s) := m3
      have t3' : ∀ bx, loadC false 1 ⟨bx, bl⟩ r' = some (.int .i64 c.s) := t3
      simp only [List.length_nil, List.length_cons, Int.natCast_zero, Nat.zero_add, show ((1 : Nat) : Int) = 1 from rfl, show ((1 + 1 : Nat) : Int) = 2 from rfl] at g1' q1' r1'
      have o1 : Own fI 1 (bl ++ [.cells [.int .i64 l.pts[i].stem, .int .i64 l.pts[i].left, .int .i64 l.pts[i].right]]) (.os 1 (.blk bl.length) 0 3) [l.pts[i].stem, l.pts[i].left, l.pts[i].right] := .inr ⟨bl.length, rfl, by simp [fI]⟩
      obtain ⟨bl2, s1, o2, _⟩ := sort_F _ [l.pts[i].stem, l.pts[i].left, l.pts[i].right] (by simp) [(2, judC l), (5, fP l.pts[i])] _ o1
      obtain ⟨w, bl3, c1, o3, _⟩ := compact_F _ _ (by rw [isort_len]; simp only [List.length_cons, List.length_nil]; unfold Zc.small; omega) [(2, judC l), (5, fP l.pts[i])] _ o2
      have hq := fun st H => equal_F [a.s, b.s, c.s] (isort [l.pts[i].stem, l.pts[i].left, l.pts[i].right]) (by simp) st H
      have hq' : ∀ st H, slices_Equal_int_F st H [.vs [.int .i64 a.s, .int .i64 b.s, .int .i64 c.s] 3, sl fI (isort [l.pts[i].stem, l.pts[i].left, l.pts[i].right])] = _ := hq
      have hsn : ∀ bx, snapV ⟨bx, bl2⟩ false false (snapN ⟨bx, bl2⟩ false false 7) (.os 1 (.blk bl.length) 0 3) = some (sl fI (isort [l.pts[i].stem, l.pts[i].left, l.pts[i].right])) := fun bx => o2.snapV flatI bx false _ (fun x c hc => by simp only [fI, List.mem_singleton] at hc; subst hc; rfl)
      simp only [judC, fP] at s1 c1
      have hd3 : ∀ n : Nat, decide ((n : Int) = 3) = decide (n = 3) := fun n => by by_cases h : n = 3 <;> simp [h] <;> omega
      unfold wantP
      simp only [hE, List.map_cons, List.map_nil]
      cases hB : decide ([a.s, b.s, c.s] = isort [l.pts[i].stem, l.pts[i].left, l.pts[i].right]) with
      | false =>
        rw [hB] at hq'
        simp only [verify_judge_point_C, judC, hia, graph_Graph_Ends_call, e', hlen, hlv, verify_judge_node_call, n1, g1', g2, k1, k2, k3', q1', q2, m1, m2, m3', r1', r2, t1, t2, t3', slices_Sort_int_call, s1, slices_Equal_int_call, hq', hsn, ne_eq, Bool.false_and, Bool.true_and, zy, simprocAttr]
      | true =>
        rw [hB] at hq'
        simp only [verify_judge_point_C, judC, hia, graph_Graph_Ends_call, e', hlen, hlv, verify_judge_node_call, n1, g1', g2, k1, k2, k3', q1', q2, m1, m2, m3', r1', r2, t1, t2, t3', slices_Sort_int_call, s1, slices_Equal_int_call, hq', hsn, slices_Compact_int_call, c1, o3.len, hd3, ne_eq, Bool.false_and, Bool.true_and, zy, simprocAttr]
    · have h3' : ¬ (((ends l l.pts[i].node).length : Int) = 3) := by omega
      simp only [verify_judge_point_C, judC, hia, graph_Graph_Ends_call, e', hlen, hlv, verify_judge_node_call, n1, h3, ne_eq, eq_false h3', not_false_eq_true, decide_false, Bool.false_and, Bool.true_and, zy, simprocAttr]
end Go.Proofs.YtlhjpcgfkkhogaaGreat.Zt
end
section
namespace Go.Proofs.YtlhjpcgfkkhogaaGreat.Zt
open Go Go.Zc
set_option maxRecDepth 10000

/-- A rule: how many places, the closure, what it tells. -/
structure Ru where
  n : Nat
  c : CV
  p : Nat → Bool
abbrev fR (r : Ru) : List CV := [.int .i64 r.n, r.c]
abbrev fRow (r : List Ru) : List CV := [sl fR r]
def Ru.all (r : Ru) : Prop := ∀ i < r.n, r.p i = true
def Ru.fit (r : Ru) : Prop := ∀ i < r.n, ∀ H, call ctx r.c [.int .i64 (i : Nat)] H = some (.bool (r.p i), H)
structure Ru.sound (r : Ru) : Prop where
  locv : r.c.locv = false
  one : r.c.one = true
  cells : r.c.cells = [r.c]
  sn : ∀ H g, snapV H false false g r.c = some r.c
  small : r.n ≤ Zc.small
def rowFit : List Ru → Prop
  | [] => True
  | r :: s => r.fit ∧ (r.all → rowFit s)
def rowAll (s : List Ru) : Prop := ∀ r ∈ s, r.all
def rowsFit : List (List Ru) → Prop
  | [] => True
  | x :: s => rowFit x ∧ (rowAll x → rowsFit s)
def rowBad : List Ru → Option Nat
  | [] => none
  | r :: s => match bad r.p r.n with
    | some i => some i
    | none => rowBad s
def rowsBad : Nat → List (List Ru) → Option (Nat × Nat)
  | _, [] => none
  | k, x :: s => match rowBad x with
    | some i => some (k, i)
    | none => rowsBad (k + 1) s
theorem bad_none {p : Nat → Bool} {n : Nat} (h : bad p n = none) : ∀ i < n, p i = true := fun i hi => by
  unfold bad at h
  rw [List.find?_eq_none] at h
  have := h i (List.mem_range.2 hi)
  simpa using this
theorem rowBad_none : ∀ {x : List Ru}, rowBad x = none → rowAll x
  | [], _ => fun _ h => by cases h
  | r :: s, h => by
    simp only [rowBad] at h
    cases hb : bad r.p r.n with
    | some i => rw [hb] at h; cases h
    | none =>
      rw [hb] at h
      intro q hq
      rcases List.mem_cons.1 hq with rfl | hq
      · exact bad_none hb
      · exact rowBad_none h q hq
theorem midR {row pre s : List Ru} {r : Ru} (hp : pre ++ r :: s = row) : iaddrC 2 (sl fR row) (.int .i64 pre.length) = some (.vp (.int .i64 r.n :: r.c :: s.flatMap fR)) := by
  have := iaddr_sl (f := fR) (sz := 2) (fun _ => rfl) (by decide) (l := row) (k := .i64) (i := pre.length) (by rw [← hp]; simp)
  subst hp
  simpa using this
theorem midRow {rows pre s : List (List Ru)} {r : List Ru} (hp : pre ++ r :: s = rows) : iaddrC 1 (sl fRow rows) (.int .i64 pre.length) = some (.vp (sl fR r :: s.flatMap fRow)) := by
  have := iaddr_sl (f := fRow) (sz := 1) (fun _ => rfl) (by decide) (l := rows) (k := .i64) (i := pre.length) (by rw [← hp]; simp)
  subst hp
  simpa using this
theorem vrow_loop (k : Nat) (hk : k ≤ 1000) (c15 c16 c17 : CV) (h15 : c15.locv = false) (h16 : c16.locv = false) (h17 : c17.locv = false) (row : List Ru) (hm : row.length ≤ 1000) : ∀ (s pre : List Ru), pre ++ s = row → rowFit s → (∀ r ∈ s, r.sound) →
    ∃ bx, verify_First_R2 ([(5, .int .i64 k), (15, c15), (16, c16), (17, c17), (22, sl fR row), (23, .int .i64 row.length), (24, .int .i64 pre.length)], ⟨[], []⟩) =
      match rowBad s with
      | some i => some (.ret, [(2, .int .i64 ((k + 1 : Nat) : Int)), (3, .int .i64 i)], ⟨bx, []⟩)
      | none => some (.norm, [(15, c15), (16, c16), (17, c17)], ⟨[], []⟩)
  | [], pre, hp, hf, hs => by
    have h1 : ¬ ((pre.length : Int) < row.length) := by rw [← hp]; simp
    refine ⟨[], ?_⟩
    rw [verify_First_R2_eq]
    simp only [verify_First_B2, verify_First_K2_a, h1, chkV_of h15, chkV_of h16, chkV_of h17, rowBad, zy, simprocAttr]
  | r :: s, pre, hp, hf, hs => by
    have h1 : ((pre.length : Int) < row.length) := by rw [← hp]; simp; omega
    have hwr := wrapN (n := pre.length) (by rw [← hp] at hm; unfold Zc.small; simp at hm; omega)
    have hwk := wrapN (n := k) (by unfold Zc.small; omega)
    have hia : iaddrC 2 (sl fR row) (.int .i64 pre.length) = some (.vp (.int .i64 r.n :: r.c :: s.flatMap fR)) := midR hp
    obtain ⟨s1, s2, s3, s4, s5⟩ := hs r (by simp)
    have hb := broken_F r.c s1 s2 r.n s5 r.p hf.1
    simp only [rowBad]
    cases hB : bad r.p r.n with
    | some j =>
      simp only [hB] at hb
      have h0 : (0 : Int) ≤ j := by omega
      refine ⟨[(8, fR r)], ?_⟩
      rw [verify_First_R2_eq]
      simp only [verify_First_B2, verify_First_K2_a, h1, hia, chkV_of h15, chkV_of h16, chkV_of h17, s1, s2, s3, s4, chkV_of s1, CV.locs, verify_rule_broken_call, hb, h0, ge_iff_le, hwk, zy, simprocAttr]
    | none =>
      simp only [hB] at hb
      have h0 : ¬ (0 : Int) ≤ -1 := by omega
      obtain ⟨bx, ih⟩ := vrow_loop k hk c15 c16 c17 h15 h16 h17 row hm s (pre ++ [r]) (by simpa using hp) (hf.2 (bad_none hB)) (fun q hq => hs q (by simp [hq]))
      rw [show (pre ++ [r]).length = pre.length + 1 by simp] at ih
      refine ⟨bx, ?_⟩
      rw [verify_First_R2_eq]
      simp only [verify_First_B2, verify_First_K2_a, h1, hia, chkV_of h15, chkV_of h16, chkV_of h17, s1, s2, s3, s4, chkV_of s1, CV.locs, verify_rule_broken_call, hb, h0, ge_iff_le, hwr, ih, zy, simprocAttr]
theorem vrows_loop (rows : List (List Ru)) (hm : rows.length ≤ 1000) (hq : ∀ x ∈ rows, x.length ≤ 1000) : ∀ (s pre : List (List Ru)), pre ++ s = rows → rowsFit s → (∀ x ∈ s, ∀ r ∈ x, r.sound) →
    ∃ bx, verify_First_R0 ([(15, sl fRow rows), (16, .int .i64 rows.length), (17, .int .i64 pre.length)], ⟨[], []⟩) =
      match rowsBad pre.length s with
      | some (k, i) => some (.ret, [(2, .int .i64 ((k + 1 : Nat) : Int)), (3, .int .i64 i)], ⟨bx, []⟩)
      | none => some (.norm, [], ⟨[], []⟩)
  | [], pre, hp, hf, hs => by
    have h1 : ¬ ((pre.length : Int) < rows.length) := by rw [← hp]; simp
    refine ⟨[], ?_⟩
    rw [verify_First_R0_eq]
    simp only [verify_First_B0, verify_First_K0_a, h1, rowsBad, zy, simprocAttr]
  | x :: s, pre, hp, hf, hs => by
    have hpl : pre.length + 1 + s.length = rows.length := by rw [← hp]; simp; omega
    have h1 : ((pre.length : Int) < rows.length) := by omega
    have hwr := wrapN (n := pre.length) (by unfold Zc.small; omega)
    have hia := midRow hp
    obtain ⟨bx1, hin⟩ := vrow_loop pre.length (by omega) (sl fRow rows) (.int .i64 rows.length) (.int .i64 pre.length) rfl rfl rfl x (hq x (by rw [← hp]; simp)) x [] rfl hf.1 (hs x (by simp))
    simp only [List.nil_append, List.length_nil, Int.natCast_zero, Nat.zero_add, List.length_nil] at hin
    simp only [rowsBad]
    cases hB : rowBad x with
    | some j =>
      simp only [hB] at hin
      refine ⟨bx1, ?_⟩
      rw [verify_First_R0_eq]
      simp only [verify_First_B0, verify_First_K0_a, verify_First_L2_eq, h1, hia, hin, zy, simprocAttr]
    | none =>
      simp only [hB] at hin
      obtain ⟨bx, ih⟩ := vrows_loop rows hm hq s (pre ++ [x]) (by simpa using hp) (hf.2 (rowBad_none hB)) (fun q hq => hs q (by simp [hq]))
      rw [show (pre ++ [x]).length = pre.length + 1 by simp] at ih
      refine ⟨bx, ?_⟩
      rw [verify_First_R0_eq]
      simp only [verify_First_B0, verify_First_K0_a, verify_First_L2_eq, h1, hia, hin, hwr, ih, zy, simprocAttr]

theorem gnew6_F (l : Lay) (H : Heap) : graph_New_F false H [.agg (layC l)] = some (.vp (layC l), H) := by
  rw [graph_New_F_eq]
  simp only [graph_New_C, Nat.zero_le, zy, simprocAttr]

/-! ### All of them -/
def rowsOf (l : Lay) (zs : List (Int × Int)) : List (List Ru) :=
  let o (b : Bool) : Ru := ⟨1, .fn (.func 56) [] [.vp [.bool b]], fun _ => b⟩
  [[o (decide (2 ≤ l.nodes.length) && decide (l.nodes.length ≤ 40))],
   [⟨l.nodes.length, .fn (.func 33) [] [.vp (layC l)], freshI zs⟩],
   [o (decide (1 ≤ l.secs.length) && decide (l.secs.length ≤ 32))],
   [⟨l.secs.length, .fn (.func 38) [.agg (judC l)] [], fun i => match l.secs[i]? with | some s => secI l zs s | none => false⟩],
   [o (decide (1 ≤ l.speed) && decide (l.speed ≤ 10000))],
   [⟨l.secs.length, .fn (.func 39) [] [.vp (layC l)], fun i => match l.secs[i]? with | some s => decide (l.speed ≤ s.len) | none => false⟩],
   [o (timesB l)],
   [⟨l.nodes.length, .fn (.func 41) [] [.vp (judC l)], fun i => endsB l i⟩],
   [o (decide (l.pts.length ≤ 8))],
   [⟨l.pts.length, .fn (.func 43) [.agg (judC l)] [], fun i => match l.pts[i]? with | some p => pointB l p | none => false⟩],
   [⟨l.nodes.length, .fn (.func 44) [.agg (judC l)] [], fun i => pointsB l i⟩],
   [⟨l.nodes.length, .fn (.func 45) [.agg (judC l)] [], fun i => goesI l zs i⟩],
   [o (decide (1 ≤ l.parts.length) && decide (l.parts.length ≤ 16)), ⟨l.parts.length, .fn (.func 46) [.agg (judC l)] [], fun i => match l.parts[i]? with | some x => partB l x | none => false⟩],
   [⟨l.secs.length, .fn (.func 47) [.agg (judC l)] [], fun i => onceB l i⟩],
   [o (decide (l.routes.length ≤ 16)), ⟨l.routes.length, .fn (.func 48) [.agg (judC l)] [], fun i => match l.routes[i]? with | some x => routeB l x | none => false⟩]]
theorem withinN (n a b : Nat) (st : Bool) (H : Heap) : verify_within_int_F st H [.int .i64 n, .int .i64 a, .int .i64 b] = some (.bool (decide (a ≤ n) && decide (n ≤ b)), H) := by
  have := within_F n a b st H
  rw [this]
  have h1 : decide ((a : Int) ≤ n) = decide (a ≤ n) := by by_cases h : a ≤ n <;> simp [h]
  have h2 : decide ((n : Int) ≤ b) = decide (n ≤ b) := by by_cases h : n ≤ b <;> simp [h]
  rw [h1, h2]
set_option maxHeartbeats 2000000 in
theorem vrules_F (l : Lay) (zs : List (Int × Int)) (H : Heap) : verify_judge_rules_F false H [.agg (judC l)] = some (sl fRow (rowsOf l zs), H) := by
  have w1 : ∀ st H, verify_within_int_F st H [.int .i64 l.nodes.length, .int .i64 2, .int .i64 40] = some (.bool (decide (2 ≤ l.nodes.length) && decide (l.nodes.length ≤ 40)), H) := fun st H => withinN l.nodes.length 2 40 st H
  have w2 : ∀ st H, verify_within_int_F st H [.int .i64 l.secs.length, .int .i64 1, .int .i64 32] = some (.bool (decide (1 ≤ l.secs.length) && decide (l.secs.length ≤ 32)), H) := fun st H => withinN l.secs.length 1 32 st H
  have w3 := fun st H => within_F l.speed 1 10000 st H
  have w4 : ∀ st H, verify_within_int_F st H [.int .i64 l.parts.length, .int .i64 1, .int .i64 16] = some (.bool (decide (1 ≤ l.parts.length) && decide (l.parts.length ≤ 16)), H) := fun st H => withinN l.parts.length 1 16 st H
  have t := fun st H => times_F l st H
  have d1 : decide ((l.pts.length : Int) ≤ 8) = decide (l.pts.length ≤ 8) := by by_cases h : l.pts.length ≤ 8 <;> simp [h] <;> omega
  have d2 : decide ((l.routes.length : Int) ≤ 16) = decide (l.routes.length ≤ 16) := by by_cases h : l.routes.length ≤ 16 <;> simp [h] <;> omega
  simp only [judC] at t
  have hst : stE 10 0 (.agg [sl fZ l.nodes, sl fS l.secs, sl fL l.parts, sl fP l.pts, sl fL l.routes, .int .i64 l.speed, .int .i64 l.mute, .int .i64 l.wait, .int .i64 l.cancel, .int .i64 l.stay]) ⟨[], [.dead, .cells [.nils, .nils, .nils, .nils, .nils, .int .i64 0, .int .i64 0, .int .i64 0, .int .i64 0, .int .i64 0]]⟩ (.blk 1) [.nils, .nils, .nils, .nils, .nils, .int .i64 0, .int .i64 0, .int .i64 0, .int .i64 0, .int .i64 0] = some ⟨[], [.dead, .cells [sl fZ l.nodes, sl fS l.secs, sl fL l.parts, sl fP l.pts, sl fL l.routes, .int .i64 l.speed, .int .i64 l.mute, .int .i64 l.wait, .int .i64 l.cancel, .int .i64 l.stay]]⟩ := rfl
  rw [verify_judge_rules_F_eq]
  simp only [verify_judge_rules_C, judC, verify_within_int_call, verify_judge_times_call, verify_one_call, vone_F, w1, w2, w3, w4, t, d1, d2, hst, zy, simprocAttr]
  rfl

theorem rows_sound (l : Lay) (zs : List (Int × Int)) (hl : l.ok) : ∀ x ∈ rowsOf l zs, ∀ r ∈ x, r.sound := by
  have o : ∀ b : Bool, Ru.sound ⟨1, .fn (.func 56) [] [.vp [.bool b]], fun _ => b⟩ := fun b => ⟨rfl, rfl, rfl, fun _ _ => rfl, by unfold Zc.small; exact (by decide : 1 ≤ 1000000000)⟩
  have a : ∀ (n : Nat) (f : Fn) (p : Nat → Bool), n ≤ Zc.small → Ru.sound ⟨n, .fn f [.agg (judC l)] [], p⟩ := fun n f p h => ⟨rfl, rfl, rfl, fun _ _ => rfl, h⟩
  have j : ∀ (n : Nat) (f : Fn) (p : Nat → Bool), n ≤ Zc.small → Ru.sound ⟨n, .fn f [] [.vp (judC l)], p⟩ := fun n f p h => ⟨rfl, rfl, rfl, fun _ _ => rfl, h⟩
  have y : ∀ (n : Nat) (f : Fn) (p : Nat → Bool), n ≤ Zc.small → Ru.sound ⟨n, .fn f [] [.vp (layC l)], p⟩ := fun n f p h => ⟨rfl, rfl, rfl, fun _ _ => rfl, h⟩
  obtain ⟨h1, h2, h3, h4, h5, _, _⟩ := hl
  unfold rowsOf
  simp only [List.mem_cons, List.not_mem_nil, or_false, forall_eq_or_imp, forall_eq]
  exact ⟨o _, y _ _ _ h1, o _, a _ _ _ h2, o _, y _ _ _ h2, o _, j _ _ _ h1, o _, a _ _ _ h4, a _ _ _ h1, a _ _ _ h1, ⟨o _, a _ _ _ h3⟩, a _ _ _ h2, o _, a _ _ _ h5⟩
theorem one_fit (b : Bool) : Ru.fit ⟨1, .fn (.func 56) [] [.vp [.bool b]], fun _ => b⟩ := fun i hi H => by
  simp only [verify_one_1_call, one1_F, zy, simprocAttr]
/-- Sections lie between nodes, points at sections: where the rules ahead hold. -/
theorem tied_of {l : Lay} {zs : List (Int × Int)} (h : ∀ i < l.secs.length, (match l.secs[i]? with | some s => secI l zs s | none => false) = true) : Tied l := fun s hs => by
  obtain ⟨i, hi, rfl⟩ := List.getElem_of_mem hs
  have := h i hi
  rw [List.getElem?_eq_getElem hi] at this
  simp only [secI, Bool.and_eq_true] at this
  exact this.1
theorem set_of {l : Lay} (h : ∀ i < l.pts.length, (match l.pts[i]? with | some p => pointB l p | none => false) = true) : Set' l := fun p hp => by
  obtain ⟨i, hi, rfl⟩ := List.getElem_of_mem hp
  have := h i hi
  rw [List.getElem?_eq_getElem hi] at this
  simp only [pointB, Bool.and_eq_true, decide_eq_true_eq] at this
  obtain ⟨_, _, h2, _⟩ := this
  have hp : ∀ n ∈ [l.pts[i].stem, l.pts[i].left, l.pts[i].right], secB l n = true := fun n hn => by
    have : n ∈ wantP l.pts[i] := (isort_perm _).mem_iff.2 hn
    rw [← h2] at this
    obtain ⟨x, hx, rfl⟩ := List.mem_map.1 this
    exact ends_secB l _ x hx
  exact ⟨hp _ (by simp), hp _ (by simp), hp _ (by simp)⟩
/-- Not too big. -/
structure Sm (l : Lay) : Prop where
  nodes : l.nodes.length ≤ 1000
  secs : l.secs.length ≤ 1000
  parts : l.parts.length ≤ 1000
  pts : l.pts.length ≤ 1000
theorem call_bound {C : Ctx} (k : FuncId) (b c args : List CV) (H : Heap) : call C (.fn (.func k) b c) args H = call C (.fn (.func k) [] c) (b ++ args) H := by
  unfold call callC
  simp only [List.nil_append, List.append_assoc]
theorem rows_fit {l : Lay} {zs : List (Int × Int)} (hl : l.ok) (hs : Sm l) (h : Pl l zs) : rowsFit (rowsOf l zs) := by
  obtain ⟨m1, m2, m3, m4⟩ := hs
  have f2 := fun i hi st H => fresh_F h m1 i hi st H
  have f4 := fun i hi st H => section_F h m1 i hi st H
  have f6 := fun i hi st H => rules2_F l i hi st H
  have f8 := fun n st H => rules3_F l hl n st H
  have f10 := fun i hi st H => vpoint_F l hl m1 i hi st H
  have f11 := fun n st H => points_F l hl m4 n st H
  have f13 := fun i hi st H => part_F l hl m2 i hi st H
  have f14 := fun n st H => once_F l hl m3 n st H
  have f15 := fun i hi st H => route_F l hl i hi st H
  simp only [judC] at f4 f8 f10 f11 f13 f14 f15
  refine ⟨⟨one_fit _, fun _ => trivial⟩, fun _ => ⟨⟨fun i hi H => ?_, fun _ => trivial⟩, fun _ => ⟨⟨one_fit _, fun _ => trivial⟩, fun _ => ⟨⟨fun i hi H => ?_, fun _ => trivial⟩, fun a4 => ⟨⟨one_fit _, fun _ => trivial⟩, fun _ => ⟨⟨fun i hi H => ?_, fun _ => trivial⟩, fun _ => ⟨⟨one_fit _, fun _ => trivial⟩, fun _ => ⟨⟨fun i hi H => ?_, fun _ => trivial⟩, fun _ => ⟨⟨one_fit _, fun _ => trivial⟩, fun _ => ⟨⟨fun i hi H => ?_, fun _ => trivial⟩, fun a10 => ⟨⟨fun i hi H => ?_, fun _ => trivial⟩, fun _ => ⟨⟨fun i hi H => ?_, fun _ => trivial⟩, fun _ => ⟨⟨one_fit _, fun _ => ⟨fun i hi H => ?_, fun _ => trivial⟩⟩, fun _ => ⟨⟨fun i hi H => ?_, fun _ => trivial⟩, fun _ => ⟨⟨one_fit _, fun _ => ⟨fun i hi H => ?_, fun _ => trivial⟩⟩, fun _ => trivial⟩⟩⟩⟩⟩⟩⟩⟩⟩⟩⟩⟩⟩⟩⟩
  · have e := f2 i (by rw [← h.len]; exact hi)
    simp only [verify_judge_rules_1_call, e, zy, simprocAttr]
  · have e := f4 i hi
    rw [call_bound]
    simp only [verify_judge_section_call, List.cons_append, List.nil_append, judC, e, List.getElem?_eq_getElem hi, zy, simprocAttr]
  · have e := f6 i hi
    simp only [verify_judge_rules_2_call, e, List.getElem?_eq_getElem hi, zy, simprocAttr]
  · simp only [verify_judge_rules_3_call, judC, f8, zy, simprocAttr]
  · have e := f10 i hi
    rw [call_bound]
    simp only [verify_judge_point_call, List.cons_append, List.nil_append, judC, e, List.getElem?_eq_getElem hi, zy, simprocAttr]
  · rw [call_bound]
    simp only [verify_judge_points_call, List.cons_append, List.nil_append, judC, f11, zy, simprocAttr]
  · have t1 : Tied l := tied_of (a4 _ (List.mem_singleton.2 rfl))
    have t2 : Set' l := set_of (a10 _ (List.mem_singleton.2 rfl))
    have e := fun st H => goes_F hl h t1 t2 i hi st H
    simp only [judC] at e
    rw [call_bound]
    simp only [verify_judge_goes_call, List.cons_append, List.nil_append, judC, e, zy, simprocAttr]
  · have e := f13 i hi
    rw [call_bound]
    simp only [verify_judge_part_call, List.cons_append, List.nil_append, judC, e, List.getElem?_eq_getElem hi, zy, simprocAttr]
  · rw [call_bound]
    simp only [verify_judge_once_call, List.cons_append, List.nil_append, judC, f14, zy, simprocAttr]
  · have e := f15 i hi
    rw [call_bound]
    simp only [verify_judge_route_call, List.cons_append, List.nil_append, judC, e, List.getElem?_eq_getElem hi, zy, simprocAttr]
def firstN (l : Lay) (zs : List (Int × Int)) : Nat × Nat := match rowsBad 0 (rowsOf l zs) with
  | some (k, i) => (k + 1, i)
  | none => (0, 0)
theorem vFirst_F {l : Lay} {zs : List (Int × Int)} (hl : l.ok) (hs : Sm l) (h : Pl l zs) (H : Heap) : verify_First_F false H [.agg (layC l)] = some (.tup [.int .i64 (firstN l zs).1, .int .i64 (firstN l zs).2], H) := by
  obtain ⟨bx, e⟩ := vrows_loop (rowsOf l zs) (by simp [rowsOf]) (by unfold rowsOf; simp) (rowsOf l zs) [] rfl (rows_fit hl hs h) (rows_sound l zs hl)
  have er := fun H => vrules_F l zs H
  simp only [List.nil_append, List.length_nil, Int.natCast_zero, judC] at e er
  unfold firstN
  rw [verify_First_F_eq]
  cases hB : rowsBad 0 (rowsOf l zs) with
  | none =>
    simp only [hB] at e
    simp only [verify_First_C, verify_First_L0_eq, graph_New_call, gnew6_F, verify_judge_rules_call, er, e, zy, simprocAttr]
  | some q =>
    obtain ⟨k, i⟩ := q
    simp only [hB] at e
    simp only [verify_First_C, verify_First_L0_eq, graph_New_call, gnew6_F, verify_judge_rules_call, er, e, zy, simprocAttr]
theorem vRight_F {l : Lay} {zs : List (Int × Int)} (hl : l.ok) (hs : Sm l) (h : Pl l zs) (H : Heap) : verify_Right_F false H [.agg (layC l)] = some (.bool (decide ((firstN l zs).1 = 0)), H) := by
  have e := fun H => vFirst_F hl hs h H
  have hd : decide (((firstN l zs).1 : Int) = 0) = decide ((firstN l zs).1 = 0) := by by_cases h : (firstN l zs).1 = 0 <;> simp [h] <;> omega
  rw [verify_Right_F_eq]
  simp only [verify_Right_C, verify_First_call, e, hd, zy, simprocAttr]
end Go.Proofs.YtlhjpcgfkkhogaaGreat.Zt
end
section
namespace Go.Proofs.YtlhjpcgfkkhogaaGreat.Zt
open Go Go.Zc
set_option maxRecDepth 10000

/-- The first one among some that is of a section; else how many there are. -/
def ixOf (n : Int) : List Ed → Nat
  | [] => 0
  | y :: r => if y.s = n then 0 else ixOf n r + 1
theorem ixOf_le (n : Int) : ∀ l : List Ed, ixOf n l ≤ l.length
  | [] => Nat.le_refl _
  | y :: r => by
    have := ixOf_le n r
    simp only [ixOf, List.length_cons]
    split <;> omega
theorem ixOf_find (n : Int) : ∀ l : List Ed, (l.find? (fun y => decide (y.s = n)) = none ∧ ixOf n l = l.length) ∨ ∃ y, ∃ h : ixOf n l < l.length, l.find? (fun y => decide (y.s = n)) = some y ∧ l[ixOf n l] = y ∧ y.s = n
  | [] => .inl ⟨rfl, rfl⟩
  | y :: r => by
    by_cases h : y.s = n
    · refine .inr ⟨y, by simp [ixOf, h], by simp [h], by simp [ixOf, h], h⟩
    · have e : ixOf n (y :: r) = ixOf n r + 1 := by simp [ixOf, h]
      rcases ixOf_find n r with ⟨a, b⟩ | ⟨z, hz, a, b, c⟩
      · exact .inl ⟨by simp [h, a], by simp [e, b]⟩
      · refine .inr ⟨z, by simp [e]; exact hz, by simp [h, a], ?_, c⟩
        simp only [e, List.getElem_cons_succ]
        exact b

theorem way_in (c8 : CV) (b3 b4 : List CV) (h3 : CV.locs b3 = false) (h4' : CV.locs b4 = false) (h8 : c8.locv = false) (bl : List Blk) (t : List Int) (i : Nat) (n : Int) (hi : iaddrC 1 (sl fI t) (.int .i64 i) = some (.vp (.int .i64 n :: (t.drop (i + 1)).flatMap fI))) : ∀ (s p : List Ed), (p ++ s).length ≤ 2 * Zc.small →
    r05_way_R2 ([(2, sl fI t), (3, .op (.loc 3) 0), (4, .op (.loc 4) 0), (8, c8), (9, .int .i64 i), (10, sl fE (p ++ s)), (11, .int .i64 p.length)], ⟨[(3, b3), (4, b4)], bl⟩) =
      some (.norm, [(2, sl fI t), (3, .op (.loc 3) 0), (4, .op (.loc 4) 0), (8, c8), (9, .int .i64 i), (10, sl fE (p ++ s)), (11, .int .i64 (p.length + ixOf n s : Nat))], ⟨[(3, b3), (4, b4)], bl⟩)
  | [], p, hm => by
    have q := chkV_of h8
    rw [r05_way_R2_eq]
    simp only [r05_way_B2, r05_way_K2_a, q, h3, h4', ixOf, zy, simprocAttr]
  | y :: s, p, hm => by
    have q := chkV_of h8
    have h4 : ((p.length : Int) < (p ++ y :: s).length) := by simp; omega
    have hw := wrapN (n := p.length) (by simp at hm; omega)
    rw [r05_way_R2_eq]
    by_cases h : y.s = n
    · simp only [List.append_assoc, List.cons_append, List.nil_append, List.length_append, List.length_cons, List.length_nil] at h4
      simp only [r05_way_B2, r05_way_K2_a, List.append_assoc, List.cons_append, List.nil_append, List.length_append, List.length_cons, List.length_nil, q, h4, iaddr_midE, hi, h3, h4', eq_true h, ixOf, zy, simprocAttr]
    · have ih := way_in c8 b3 b4 h3 h4' h8 bl t i n hi s (p ++ [y]) (by simpa using hm)
      have he : (p ++ [y]).length + ixOf n s = p.length + (ixOf n s + 1) := by simp; omega
      rw [he] at ih
      simp only [List.append_assoc, List.cons_append, List.nil_append, List.length_append, List.length_cons, List.length_nil] at ih h4
      simp only [r05_way_B2, r05_way_K2_a, List.append_assoc, List.cons_append, List.nil_append, List.length_append, List.length_cons, List.length_nil, q, h4, iaddr_midE, hi, eq_false h, h3, h4', hw, ixOf, ih, zy, simprocAttr]

set_option maxHeartbeats 1000000 in
theorem way_loop (l : Lay) (hl : l.ok) (t : List Int) (hm : t.length ≤ Zc.small) : ∀ (s pre : List Int) (x : Ed) (acc : List Nd) (v : CV) (bl : List Blk), pre ++ s = t → acc.length ≤ pre.length → Own fN 2 bl v acc →
    match nways l x s with
    | some ns => ∃ v' bl', r05_way_R0 ([(2, sl fI t), (3, .op (.loc 3) 0), (4, .op (.loc 4) 0), (8, v), (9, .int .i64 pre.length)], ⟨[(3, layC l), (4, fE x)], bl⟩) = some (.norm, [(8, v')], ⟨[], bl'⟩) ∧ Own fN 2 bl' v' (acc ++ ns)
    | none => ∃ bx' bl', r05_way_R0 ([(2, sl fI t), (3, .op (.loc 3) 0), (4, .op (.loc 4) 0), (8, v), (9, .int .i64 pre.length)], ⟨[(3, layC l), (4, fE x)], bl⟩) = some (.ret, [(6, .nils), (7, .bool false)], ⟨bx', bl'⟩)
  | [], pre, x, acc, v, bl, hp, ha, hO => by
    have h1 : ¬ ((pre.length : Int) < t.length) := by rw [← hp]; simp
    refine ⟨v, bl, ?_, by simpa using hO⟩
    rw [r05_way_R0_eq]
    simp only [r05_way_B0, r05_way_K0_a, h1, hO.chkV, zy, simprocAttr]
  | n :: s, pre, x, acc, v, bl, hp, ha, hO => by
    have hpl : pre.length + 1 + s.length = t.length := by rw [← hp]; simp; omega
    have h1 : ((pre.length : Int) < t.length) := by omega
    have hw := wrapN (n := pre.length) (by omega)
    have hi : iaddrC 1 (sl fI t) (.int .i64 pre.length) = some (.vp (.int .i64 n :: s.flatMap fI)) := by rw [← hp]; exact iaddr_midI _ pre s n
    have hid : t.drop (pre.length + 1) = s := by rw [← hp, List.append_cons]; simp
    have haF := fun H => around_F l hl x H
    simp only [fE] at haF
    have hin := fun bl => way_in v (layC l) (fE x) rfl rfl hO.locv bl t pre.length n (by rw [hid]; exact hi) (around l x) [] (around_len2 l x)
    simp only [List.nil_append, List.length_nil, Int.natCast_zero, Nat.zero_add, fE] at hin
    rcases ixOf_find n (around l x) with ⟨hfd, hix⟩ | ⟨y, hil, hfd, hy, hyn⟩
    · simp only [nways, hfd]
      simp only [hix] at hin
      rw [r05_way_R0_eq]
      simp only [r05_way_B0, r05_way_K0_a, r05_way_L2_eq, fE, h1, hO.chkV, r05_Around_call, haF, hin, zy, simprocAttr]
      exact ⟨_, _, rfl⟩
    · have hym : y ∈ around l x := by rw [← hy]; exact List.getElem_mem hil
      have hya := around_in hym
      obtain ⟨nd, hnd⟩ := around_node hym
      have hw3 : IntKind.i64.wrap (1 - y.e) = 1 - y.e := wrap64 (by omega) (by omega)
      have hia := iaddr_atE (k := .i64) hil
      rw [hy] at hia
      have hne : ¬ ((ixOf n (around l x) : Int) = (around l x).length) := by omega
      have hnF := fun st H => node_F l x st H
      have hpF := fun st H => point_F l hl nd st H
      simp only [hnd, Option.getD_some, fE] at hnF
      have hno : needOf l x n = needAt l nd x.s n := by simp [needOf, hnd]
      cases hpt : ptOf l nd with
      | none =>
        have hna : needAt l nd x.s n = [] := by simp [needAt, hpt]
        simp only [hpt] at hpF
        have ih := way_loop l hl t hm s (pre ++ [n]) ⟨n, 1 - y.e⟩ acc v bl (by simpa using hp) (by simp; omega) hO
        rw [show (pre ++ [n]).length = pre.length + 1 by simp] at ih
        simp only [nways, hfd, hno, hna]
        cases hws : nways l ⟨n, 1 - y.e⟩ s with
        | none =>
          simp only [hws, fE] at ih
          obtain ⟨bx', bl', e⟩ := ih
          refine ⟨bx', bl', ?_⟩
          rw [r05_way_R0_eq]
          simp only [r05_way_B0, r05_way_K0_a, r05_way_L2_eq, fE, h1, hi, hO.chkV, r05_Around_call, haF, hin, hne, r05_node_call, hnF, r05_Point_call, hpF, hia, hw, hw3, e, zy, simprocAttr]
        | some ns =>
          simp only [hws, fE] at ih
          obtain ⟨v', bl', e, o⟩ := ih
          refine ⟨v', bl', ?_, by simpa using o⟩
          rw [r05_way_R0_eq]
          simp only [r05_way_B0, r05_way_K0_a, r05_way_L2_eq, fE, h1, hi, hO.chkV, r05_Around_call, haF, hin, hne, r05_node_call, hnF, r05_Point_call, hpF, hia, hw, hw3, e, zy, simprocAttr]
      | some i =>
        obtain ⟨hpi, hpg⟩ := ptOf_pt hpt
        have hi0 : (0 : Int) ≤ i := by omega
        simp only [hpt] at hpF
        by_cases hs : l.pts[i].stem = n
        · have hna : needAt l nd x.s n = [⟨i, decide (l.pts[i].right = x.s)⟩] := by simp [needAt, hpt, hpg, hs]
          obtain ⟨v1, bl1, e1, o1, _⟩ := hO.app1 flatN (bytes := 16) (zero := [.int .i64 0, .bool false]) (by decide) rfl rfl (⟨i, decide (l.pts[i].right = x.s)⟩ : Nd) (by unfold Zc.small at hm; omega)
          simp only [fN] at e1
          have ih := way_loop l hl t hm s (pre ++ [n]) ⟨n, 1 - y.e⟩ _ v1 bl1 (by simpa using hp) (by simp; omega) o1
          rw [show (pre ++ [n]).length = pre.length + 1 by simp] at ih
          have hs' := eq_true hs.symm
          simp only [nways, hfd, hno, hna]
          cases hws : nways l ⟨n, 1 - y.e⟩ s with
          | none =>
            simp only [hws, fE] at ih
            obtain ⟨bx', bl', e⟩ := ih
            refine ⟨bx', bl', ?_⟩
            rw [r05_way_R0_eq]
            simp only [r05_way_B0, r05_way_K0_a, r05_way_L2_eq, fE, h1, hi, hO.chkV, o1.chkV, r05_Around_call, haF, hin, hne, r05_node_call, hnF, r05_Point_call, hpF, hi0, iaddr_atP hpi, hs', e1, hia, hw, hw3, e, zy, simprocAttr]
          | some ns =>
            simp only [hws, fE] at ih
            obtain ⟨v', bl', e, o⟩ := ih
            refine ⟨v', bl', ?_, by simpa using o⟩
            rw [r05_way_R0_eq]
            simp only [r05_way_B0, r05_way_K0_a, r05_way_L2_eq, fE, h1, hi, hO.chkV, o1.chkV, r05_Around_call, haF, hin, hne, r05_node_call, hnF, r05_Point_call, hpF, hi0, iaddr_atP hpi, hs', e1, hia, hw, hw3, e, zy, simprocAttr]
        · have hna : needAt l nd x.s n = [⟨i, decide (l.pts[i].right = n)⟩] := by simp [needAt, hpt, hpg, hs]
          obtain ⟨v1, bl1, e1, o1, _⟩ := hO.app1 flatN (bytes := 16) (zero := [.int .i64 0, .bool false]) (by decide) rfl rfl (⟨i, decide (l.pts[i].right = n)⟩ : Nd) (by unfold Zc.small at hm; omega)
          simp only [fN] at e1
          have ih := way_loop l hl t hm s (pre ++ [n]) ⟨n, 1 - y.e⟩ _ v1 bl1 (by simpa using hp) (by simp; omega) o1
          rw [show (pre ++ [n]).length = pre.length + 1 by simp] at ih
          have hs' := eq_false (fun e : n = l.pts[i].stem => hs e.symm)
          simp only [nways, hfd, hno, hna]
          cases hws : nways l ⟨n, 1 - y.e⟩ s with
          | none =>
            simp only [hws, fE] at ih
            obtain ⟨bx', bl', e⟩ := ih
            refine ⟨bx', bl', ?_⟩
            rw [r05_way_R0_eq]
            simp only [r05_way_B0, r05_way_K0_a, r05_way_L2_eq, fE, h1, hi, hO.chkV, o1.chkV, r05_Around_call, haF, hin, hne, r05_node_call, hnF, r05_Point_call, hpF, hi0, iaddr_atP hpi, hs', e1, hia, hw, hw3, e, zy, simprocAttr]
          | some ns =>
            simp only [hws, fE] at ih
            obtain ⟨v', bl', e, o⟩ := ih
            refine ⟨v', bl', ?_, by simpa using o⟩
            rw [r05_way_R0_eq]
            simp only [r05_way_B0, r05_way_K0_a, r05_way_L2_eq, fE, h1, hi, hO.chkV, o1.chkV, r05_Around_call, haF, hin, hne, r05_node_call, hnF, r05_Point_call, hpF, hi0, iaddr_atP hpi, hs', e1, hia, hw, hw3, e, zy, simprocAttr]

theorem way_F (l : Lay) (hl : l.ok) (x : Ed) (s : List Int) (hm : s.length ≤ Zc.small) (H : Heap) : r05_way_F false H [.agg (layC l), .agg (fE x), sl fI s] = some (.tup [sl fN ((nways l x s).getD []), .bool (nways l x s).isSome], H) := by
  have h := way_loop l hl s hm s [] x [] .nils [] rfl (by simp) (Own.nil _ _ _)
  rw [r05_way_F_eq]
  cases hw : nways l x s with
  | none =>
    simp only [hw, List.nil_append, List.length_nil, Int.natCast_zero, fE] at h
    obtain ⟨bx', bl', e⟩ := h
    simp only [r05_way_C, r05_way_L0_eq, fE, e, sl_nil fN, Option.getD_none, zy, simprocAttr]
  | some ns =>
    simp only [hw, List.nil_append, List.length_nil, Int.natCast_zero, fE] at h
    obtain ⟨v', bl', e, o⟩ := h
    have hs := fun bx => o.snapV flatN bx false _ (snap_N ⟨bx, bl'⟩ false false 6)
    simp only [r05_way_C, r05_way_L0_eq, fE, e, o.one, o.locv, o.cells, hs, Option.getD_some, zy, simprocAttr]

theorem path_F (l : Lay) (hl : l.ok) (t : List Int) (hm : t.length ≤ Zc.small) (H : Heap) : r05_Path_F false H [.agg (layC l), sl fI t] = some (.tup [sl fN ((npath l t).getD []), .bool (npath l t).isSome], H) := by
  rw [r05_Path_F_eq]
  by_cases h2 : t.length < 2
  · have h2' : ((t.length : Int) < 2) := by omega
    have hp : npath l t = none := by simp [npath, h2]
    simp only [r05_Path_C, h2', hp, sl_nil fN, Option.getD_none, zy, simprocAttr]
  · have h2' : ¬ ((t.length : Int) < 2) := by omega
    have hr := fun st H => rise_F t hm st H
    by_cases hn : t.Nodup
    · have hlen : (((rise t).length : Nat) : Int) = t.length := by rw [(rise_len t).2 hn]
      cases t with
      | nil => simp at h2
      | cons a r =>
        have hr' : r.length ≤ Zc.small := by simp at hm; omega
        have g0 := fun H => way_F l hl ⟨a, 0⟩ r hr' H
        have g1 := fun H => way_F l hl ⟨a, 1⟩ r hr' H
        have i0 := iaddr_0I .i64 a r
        have s1 := slc_1I .i64 a r
        simp only [fE] at g0 g1
        simp only [List.length_cons] at h2' hlen
        cases hw0 : nways l ⟨a, 0⟩ r with
        | some ns =>
          have hp : npath l (a :: r) = some ns := by simp only [npath, hw0, h2, hn, not_true_eq_false, or_self, if_false]
          simp only [hw0, Option.getD_some] at g0
          have hL2 : r05_Path_R0 ([(1, sl fI (a :: r)), (2, .op (.loc 2) 0), (6, .int .i64 0)], ⟨[(2, layC l)], []⟩) = some (.ret, [(4, sl fN ns), (5, .bool true)], ⟨[(2, layC l)], []⟩) := by
            rw [r05_Path_R0_eq]
            simp only [r05_Path_B0, r05_Path_K0_a, i0, s1, r05_way_call, g0, zy, simprocAttr]
          simp only [r05_Path_C, r05_Path_L0_eq, h2', r01_Rise_call, hr, eq_true hlen, hL2, hp, Option.getD_some, zy, simprocAttr]
        | none =>
          simp only [hw0, Option.getD_none] at g0
          cases hw1 : nways l ⟨a, 1⟩ r with
          | some ns =>
            have hp : npath l (a :: r) = some ns := by simp only [npath, hw0, hw1, h2, hn, not_true_eq_false, or_self, if_false]
            simp only [hw1, Option.getD_some] at g1
            have hL2 : r05_Path_R0 ([(1, sl fI (a :: r)), (2, .op (.loc 2) 0), (6, .int .i64 0)], ⟨[(2, layC l)], []⟩) = some (.ret, [(4, sl fN ns), (5, .bool true)], ⟨[(2, layC l)], []⟩) := by
              rw [r05_Path_R0_eq]
              simp only [r05_Path_B0, r05_Path_K0_a, i0, s1, r05_way_call, g0, zy, simprocAttr]
              rw [r05_Path_R0_eq]
              simp only [r05_Path_B0, r05_Path_K0_a, i0, s1, r05_way_call, g1, zy, simprocAttr]
            simp only [r05_Path_C, r05_Path_L0_eq, h2', r01_Rise_call, hr, eq_true hlen, hL2, hp, Option.getD_some, zy, simprocAttr]
          | none =>
            have hp : npath l (a :: r) = none := by simp only [npath, hw0, hw1, h2, hn, not_true_eq_false, or_self, if_false]
            simp only [hw1, Option.getD_none] at g1
            have hL2 : r05_Path_R0 ([(1, sl fI (a :: r)), (2, .op (.loc 2) 0), (6, .int .i64 0)], ⟨[(2, layC l)], []⟩) = some (.norm, [], ⟨[], []⟩) := by
              rw [r05_Path_R0_eq]
              simp only [r05_Path_B0, r05_Path_K0_a, i0, s1, r05_way_call, g0, zy, simprocAttr]
              rw [r05_Path_R0_eq]
              simp only [r05_Path_B0, r05_Path_K0_a, i0, s1, r05_way_call, g1, zy, simprocAttr]
              rw [r05_Path_R0_eq]
              simp only [r05_Path_B0, r05_Path_K0_a, zy, simprocAttr]
            simp only [r05_Path_C, r05_Path_L0_eq, h2', r01_Rise_call, hr, eq_true hlen, hL2, hp, sl_nil fN, Option.getD_none, zy, simprocAttr]
    · have hlen : ¬ ((((rise t).length : Nat) : Int) = t.length) := fun h => hn ((rise_len t).1 (by omega))
      have hp : npath l t = none := by simp [npath, hn]
      simp only [r05_Path_C, h2', r01_Rise_call, hr, eq_false hlen, hp, sl_nil fN, Option.getD_none, zy, simprocAttr]
end Go.Proofs.YtlhjpcgfkkhogaaGreat.Zt
end
section
namespace Go.Proofs.YtlhjpcgfkkhogaaGreat.Zt
open Go Go.Zc
set_option maxRecDepth 10000

/-! ### How many places -/
def plN (l : Lay) : Nat → Nat × Nat
  | 2 | 8 | 11 | 12 => (l.nodes.length, 0)
  | 4 | 6 | 14 => (l.secs.length, 0)
  | 10 => (l.pts.length, 0)
  | 13 => (1, l.parts.length)
  | 15 => (1, l.routes.length)
  | _ => (1, 0)
theorem places1 (l : Lay) (st : Bool) (H : Heap) : r06_places_F st H [.agg (layC l), .int .i64 1] = some (.tup [.int .i64 (plN l 1).1, .int .i64 (plN l 1).2], H) := by
  rw [r06_places_F_eq]
  simp only [r06_places_C, plN, zy, simprocAttr]
theorem places2 (l : Lay) (st : Bool) (H : Heap) : r06_places_F st H [.agg (layC l), .int .i64 2] = some (.tup [.int .i64 (plN l 2).1, .int .i64 (plN l 2).2], H) := by
  rw [r06_places_F_eq]
  simp only [r06_places_C, plN, zy, simprocAttr]
theorem places3 (l : Lay) (st : Bool) (H : Heap) : r06_places_F st H [.agg (layC l), .int .i64 3] = some (.tup [.int .i64 (plN l 3).1, .int .i64 (plN l 3).2], H) := by
  rw [r06_places_F_eq]
  simp only [r06_places_C, plN, zy, simprocAttr]
theorem places4 (l : Lay) (st : Bool) (H : Heap) : r06_places_F st H [.agg (layC l), .int .i64 4] = some (.tup [.int .i64 (plN l 4).1, .int .i64 (plN l 4).2], H) := by
  rw [r06_places_F_eq]
  simp only [r06_places_C, plN, zy, simprocAttr]
theorem places5 (l : Lay) (st : Bool) (H : Heap) : r06_places_F st H [.agg (layC l), .int .i64 5] = some (.tup [.int .i64 (plN l 5).1, .int .i64 (plN l 5).2], H) := by
  rw [r06_places_F_eq]
  simp only [r06_places_C, plN, zy, simprocAttr]
theorem places6 (l : Lay) (st : Bool) (H : Heap) : r06_places_F st H [.agg (layC l), .int .i64 6] = some (.tup [.int .i64 (plN l 6).1, .int .i64 (plN l 6).2], H) := by
  rw [r06_places_F_eq]
  simp only [r06_places_C, plN, zy, simprocAttr]
theorem places7 (l : Lay) (st : Bool) (H : Heap) : r06_places_F st H [.agg (layC l), .int .i64 7] = some (.tup [.int .i64 (plN l 7).1, .int .i64 (plN l 7).2], H) := by
  rw [r06_places_F_eq]
  simp only [r06_places_C, plN, zy, simprocAttr]
theorem places8 (l : Lay) (st : Bool) (H : Heap) : r06_places_F st H [.agg (layC l), .int .i64 8] = some (.tup [.int .i64 (plN l 8).1, .int .i64 (plN l 8).2], H) := by
  rw [r06_places_F_eq]
  simp only [r06_places_C, plN, zy, simprocAttr]
theorem places9 (l : Lay) (st : Bool) (H : Heap) : r06_places_F st H [.agg (layC l), .int .i64 9] = some (.tup [.int .i64 (plN l 9).1, .int .i64 (plN l 9).2], H) := by
  rw [r06_places_F_eq]
  simp only [r06_places_C, plN, zy, simprocAttr]
theorem places10 (l : Lay) (st : Bool) (H : Heap) : r06_places_F st H [.agg (layC l), .int .i64 10] = some (.tup [.int .i64 (plN l 10).1, .int .i64 (plN l 10).2], H) := by
  rw [r06_places_F_eq]
  simp only [r06_places_C, plN, zy, simprocAttr]
theorem places11 (l : Lay) (st : Bool) (H : Heap) : r06_places_F st H [.agg (layC l), .int .i64 11] = some (.tup [.int .i64 (plN l 11).1, .int .i64 (plN l 11).2], H) := by
  rw [r06_places_F_eq]
  simp only [r06_places_C, plN, zy, simprocAttr]
theorem places12 (l : Lay) (st : Bool) (H : Heap) : r06_places_F st H [.agg (layC l), .int .i64 12] = some (.tup [.int .i64 (plN l 12).1, .int .i64 (plN l 12).2], H) := by
  rw [r06_places_F_eq]
  simp only [r06_places_C, plN, zy, simprocAttr]
theorem places13 (l : Lay) (st : Bool) (H : Heap) : r06_places_F st H [.agg (layC l), .int .i64 13] = some (.tup [.int .i64 (plN l 13).1, .int .i64 (plN l 13).2], H) := by
  rw [r06_places_F_eq]
  simp only [r06_places_C, plN, zy, simprocAttr]
theorem places14 (l : Lay) (st : Bool) (H : Heap) : r06_places_F st H [.agg (layC l), .int .i64 14] = some (.tup [.int .i64 (plN l 14).1, .int .i64 (plN l 14).2], H) := by
  rw [r06_places_F_eq]
  simp only [r06_places_C, plN, zy, simprocAttr]
theorem places15 (l : Lay) (st : Bool) (H : Heap) : r06_places_F st H [.agg (layC l), .int .i64 15] = some (.tup [.int .i64 (plN l 15).1, .int .i64 (plN l 15).2], H) := by
  rw [r06_places_F_eq]
  simp only [r06_places_C, plN, zy, simprocAttr]

/-! ### Counts, as decisions -/
theorem dge (n c : Nat) (z : Int) (h : z = c) : decide (z ≤ (n : Int)) = decide (c ≤ n) := by subst h; by_cases h : c ≤ n <;> simp [h]
theorem dle (n c : Nat) (z : Int) (h : z = c) : decide ((n : Int) ≤ z) = decide (n ≤ c) := by subst h; by_cases h : n ≤ c <;> simp [h]
theorem deq (n c : Nat) (z : Int) (h : z = c) : decide ((n : Int) = z) = decide (n = c) := by subst h; by_cases h : n = c <;> simp [h] <;> omega

theorem holds1 (l : Lay) (i : Int) (st : Bool) (H : Heap) : r06_holds_F st H [.agg (layC l), .int .i64 1, .int .i64 i] = some (.bool (decide (2 ≤ l.nodes.length) && decide (l.nodes.length ≤ 40)), H) := by
  rw [r06_holds_F_eq]
  have d1 := dge l.nodes.length 2 2 rfl
  have d2 := dle l.nodes.length 40 40 rfl
  cases hA : decide (2 ≤ l.nodes.length) with
  | true =>
    rw [hA] at d1
    simp only [r06_holds_C, ge_iff_le, d1, d2, Bool.true_and, zy, simprocAttr]
  | false =>
    rw [hA] at d1
    simp only [r06_holds_C, ge_iff_le, d1, d2, Bool.false_and, zy, simprocAttr]
theorem holds3 (l : Lay) (i : Int) (st : Bool) (H : Heap) : r06_holds_F st H [.agg (layC l), .int .i64 3, .int .i64 i] = some (.bool (decide (1 ≤ l.secs.length) && decide (l.secs.length ≤ 32)), H) := by
  rw [r06_holds_F_eq]
  have d1 := dge l.secs.length 1 1 rfl
  have d2 := dle l.secs.length 32 32 rfl
  cases hA : decide (1 ≤ l.secs.length) with
  | true =>
    rw [hA] at d1
    simp only [r06_holds_C, ge_iff_le, d1, d2, Bool.true_and, zy, simprocAttr]
  | false =>
    rw [hA] at d1
    simp only [r06_holds_C, ge_iff_le, d1, d2, Bool.false_and, zy, simprocAttr]
theorem holds13 (l : Lay) (i : Int) (st : Bool) (H : Heap) : r06_holds_F st H [.agg (layC l), .int .i64 13, .int .i64 i] = some (.bool (decide (1 ≤ l.parts.length) && decide (l.parts.length ≤ 16)), H) := by
  rw [r06_holds_F_eq]
  have d1 := dge l.parts.length 1 1 rfl
  have d2 := dle l.parts.length 16 16 rfl
  cases hA : decide (1 ≤ l.parts.length) with
  | true =>
    rw [hA] at d1
    simp only [r06_holds_C, ge_iff_le, d1, d2, Bool.true_and, zy, simprocAttr]
  | false =>
    rw [hA] at d1
    simp only [r06_holds_C, ge_iff_le, d1, d2, Bool.false_and, zy, simprocAttr]
theorem holds5 (l : Lay) (i : Int) (st : Bool) (H : Heap) : r06_holds_F st H [.agg (layC l), .int .i64 5, .int .i64 i] = some (.bool (decide (1 ≤ l.speed) && decide (l.speed ≤ 10000)), H) := by
  rw [r06_holds_F_eq]
  by_cases h : 1 ≤ l.speed
  · simp only [r06_holds_C, ge_iff_le, h, decide_true, Bool.true_and, zy, simprocAttr]
  · simp only [r06_holds_C, ge_iff_le, h, decide_false, Bool.false_and, zy, simprocAttr]
theorem holds6 (l : Lay) (i : Nat) (hi : i < l.secs.length) (st : Bool) (H : Heap) : r06_holds_F st H [.agg (layC l), .int .i64 6, .int .i64 i] = some (.bool (decide (l.speed ≤ l.secs[i].len)), H) := by
  have hia := iaddr_atS (k := .i64) hi
  rw [r06_holds_F_eq]
  simp only [r06_holds_C, hia, ge_iff_le, zy, simprocAttr]
theorem holds7 (l : Lay) (i : Int) (st : Bool) (H : Heap) : r06_holds_F st H [.agg (layC l), .int .i64 7, .int .i64 i] = some (.bool (timesB l), H) := by
  rw [r06_holds_F_eq]
  by_cases h0 : 1 ≤ l.mute
  rotate_left
  · have e : timesB l = false := by simp [timesB, timeB, stayB, h0]
    simp only [r06_holds_C, ge_iff_le, h0, e, zy, simprocAttr]
  by_cases h1 : l.mute ≤ 1000
  rotate_left
  · have e : timesB l = false := by simp [timesB, timeB, stayB, h0, h1]
    simp only [r06_holds_C, ge_iff_le, h0, h1, e, zy, simprocAttr]
  by_cases h2 : 1 ≤ l.wait
  rotate_left
  · have e : timesB l = false := by simp [timesB, timeB, stayB, h0, h1, h2]
    simp only [r06_holds_C, ge_iff_le, h0, h1, h2, e, zy, simprocAttr]
  by_cases h3 : l.wait ≤ 1000
  rotate_left
  · have e : timesB l = false := by simp [timesB, timeB, stayB, h0, h1, h2, h3]
    simp only [r06_holds_C, ge_iff_le, h0, h1, h2, h3, e, zy, simprocAttr]
  by_cases h4 : 1 ≤ l.cancel
  rotate_left
  · have e : timesB l = false := by simp [timesB, timeB, stayB, h0, h1, h2, h3, h4]
    simp only [r06_holds_C, ge_iff_le, h0, h1, h2, h3, h4, e, zy, simprocAttr]
  by_cases h5 : l.cancel ≤ 1000
  rotate_left
  · have e : timesB l = false := by simp [timesB, timeB, stayB, h0, h1, h2, h3, h4, h5]
    simp only [r06_holds_C, ge_iff_le, h0, h1, h2, h3, h4, h5, e, zy, simprocAttr]
  by_cases h6 : 0 ≤ l.stay
  rotate_left
  · have e : timesB l = false := by simp [timesB, timeB, stayB, h0, h1, h2, h3, h4, h5, h6]
    simp only [r06_holds_C, ge_iff_le, h0, h1, h2, h3, h4, h5, h6, e, zy, simprocAttr]
  by_cases h7 : l.stay ≤ 1000
  rotate_left
  · have e : timesB l = false := by simp [timesB, timeB, stayB, h0, h1, h2, h3, h4, h5, h6, h7]
    simp only [r06_holds_C, ge_iff_le, h0, h1, h2, h3, h4, h5, h6, h7, e, zy, simprocAttr]
  · have e : timesB l = true := by simp [timesB, timeB, stayB, h0, h1, h2, h3, h4, h5, h6, h7]
    simp only [r06_holds_C, ge_iff_le, h0, h1, h2, h3, h4, h5, h6, h7, e, zy, simprocAttr]
theorem holds8 (l : Lay) (hl : l.ok) (n : Int) (st : Bool) (H : Heap) : r06_holds_F st H [.agg (layC l), .int .i64 8, .int .i64 n] = some (.bool (endsB l n), H) := by
  have he := fun st H => ends_F l hl n st H
  have d1 := dge (ends l n).length 1 1 rfl
  have d2 := dle (ends l n).length 3 3 rfl
  unfold endsB
  rw [r06_holds_F_eq]
  cases hA : decide (1 ≤ (ends l n).length) with
  | true =>
    rw [hA] at d1
    simp only [r06_holds_C, r05_Ends_call, he, ge_iff_le, d1, d2, Bool.true_and, zy, simprocAttr]
  | false =>
    rw [hA] at d1
    simp only [r06_holds_C, r05_Ends_call, he, ge_iff_le, d1, d2, Bool.false_and, zy, simprocAttr]
theorem holds9 (l : Lay) (i : Int) (st : Bool) (H : Heap) : r06_holds_F st H [.agg (layC l), .int .i64 9, .int .i64 i] = some (.bool (decide (l.pts.length ≤ 8)), H) := by
  rw [r06_holds_F_eq]
  have d2 := dle l.pts.length 8 8 rfl
  simp only [r06_holds_C, d2, zy, simprocAttr]
theorem holds15 (l : Lay) (i : Int) (st : Bool) (H : Heap) : r06_holds_F st H [.agg (layC l), .int .i64 15, .int .i64 i] = some (.bool (decide (l.routes.length ≤ 16)), H) := by
  rw [r06_holds_F_eq]
  have d2 := dle l.routes.length 16 16 rfl
  simp only [r06_holds_C, d2, zy, simprocAttr]
theorem holds4 {l : Lay} {zs : List (Int × Int)} (h : Pl l zs) (i : Nat) (hi : i < l.secs.length) (st : Bool) (H : Heap) : r06_holds_F st H [.agg (layC l), .int .i64 4, .int .i64 i] = some (.bool (secI l zs l.secs[i]), H) := by
  have hia := iaddr_atS (k := .i64) hi
  have n1 := fun st H => rnode_F l l.secs[i].a st H
  have n2 := fun st H => rnode_F l l.secs[i].b st H
  unfold secI
  rw [r06_holds_F_eq]
  cases hA : nodeB l l.secs[i].a with
  | false =>
    rw [hA] at n1
    simp only [r06_holds_C, hia, r06_node_call, n1, Bool.false_and, zy, simprocAttr]
  | true =>
    rw [hA] at n1
    cases hB : nodeB l l.secs[i].b with
    | false =>
      rw [hB] at n2
      simp only [r06_holds_C, hia, r06_node_call, n1, n2, Bool.false_and, Bool.true_and, zy, simprocAttr]
    | true =>
      rw [hB] at n2
      obtain ⟨z, z1, z2, r, z3⟩ := nodeB_at h hA
      obtain ⟨w, w1, w2, r', w3⟩ := nodeB_at h hB
      have hf := fun st H => rfits_Z z1 w1 z2 w2 l.secs[i].len st H
      simp only [r06_holds_C, hia, r06_node_call, n1, n2, z3, w3, r01_Fits_call, hf, Bool.true_and, zy, simprocAttr]

/-! ### A place that no node ahead has -/
theorem rfresh_loop {l : Lay} {zs : List (Int × Int)} (h : Pl l zs) (hn : l.nodes.length ≤ 1000) (i : Nat) (hi : i < zs.length) : ∀ (d k : Nat), k + d = i →
    r06_holds_R1 ([(2, .int .i64 i), (3, .op (.loc 3) 0), (7, .int .i64 k)], ⟨[(3, layC l)], []⟩) =
      if zs[i] ∈ (zs.take i).drop k then some (.ret, [(6, .bool false)], ⟨[(3, layC l)], []⟩) else some (.norm, [(2, .int .i64 i), (3, .op (.loc 3) 0)], ⟨[(3, layC l)], []⟩)
  | 0, k, hk => by
    have h1 : ¬ ((k : Int) < i) := by omega
    have h2 : (zs.take i).drop k = [] := List.drop_eq_nil_of_le (by rw [List.length_take]; omega)
    rw [r06_holds_R1_eq]
    simp only [r06_holds_B1, r06_holds_K1_a, h1, h2, List.not_mem_nil, if_false, zy, simprocAttr]
  | d + 1, k, hk => by
    have h1 : ((k : Int) < i) := by omega
    have hwr := wrapN (n := k) (by have := h.len; unfold Zc.small; omega)
    obtain ⟨z, _, z2, _, z4⟩ := h.at' hi
    obtain ⟨w, _, w2, _, w4⟩ := h.at' (show k < zs.length by omega)
    obtain ⟨r, r1⟩ := z4 .i64
    obtain ⟨r', r1'⟩ := w4 .i64
    have e := w2.eq z2
    have ih := rfresh_loop h hn i hi d (k + 1) (by omega)
    have h2 : (zs.take i).drop k = zs[k] :: (zs.take i).drop (k + 1) := by
      rw [List.drop_eq_getElem_cons (by rw [List.length_take]; omega), List.getElem_take]
    rw [h2]
    rw [r06_holds_R1_eq]
    by_cases hq : zs[k] = zs[i]
    · have hm : zs[i] ∈ zs[k] :: (zs.take i).drop (k + 1) := by rw [hq]; exact List.mem_cons_self
      simp only [r06_holds_B1, r06_holds_K1_a, h1, r1, r1', e, eq_true hq, eq_true hm, zy, simprocAttr]
    · have hm : (zs[i] ∈ zs[k] :: (zs.take i).drop (k + 1)) = (zs[i] ∈ (zs.take i).drop (k + 1)) := by
        rw [List.mem_cons, eq_iff_iff]
        exact ⟨fun h => h.resolve_left (fun h => hq h.symm), .inr⟩
      simp only [r06_holds_B1, r06_holds_K1_a, h1, r1, r1', e, eq_false hq, hm, hwr, ih, zy, simprocAttr]
theorem holds2 {l : Lay} {zs : List (Int × Int)} (h : Pl l zs) (hn : l.nodes.length ≤ 1000) (i : Nat) (hi : i < zs.length) (st : Bool) (H : Heap) : r06_holds_F st H [.agg (layC l), .int .i64 2, .int .i64 i] = some (.bool (freshI zs i), H) := by
  obtain ⟨z, z1, z2, z3, z4⟩ := h.at' hi
  obtain ⟨r, r1⟩ := z4 .i64
  have hp := fun st H => rplace_F z2 (near_52 z3) st H
  have e := rfresh_loop h hn i hi i 0 (by omega)
  simp only [List.nil_append, List.length_nil, Int.natCast_zero, List.drop_zero, Int.ofNat_zero, Int.natCast_zero] at e
  unfold freshI
  rw [List.getElem?_eq_getElem hi]
  simp only
  rw [r06_holds_F_eq]
  by_cases hm : zs[i] ∈ zs.take i
  · rw [if_pos hm] at e
    simp only [r06_holds_C, r06_holds_L1_eq, e, hm, decide_true, Bool.not_true, Bool.and_false, zy, simprocAttr]
  · rw [if_neg hm] at e
    simp only [r06_holds_C, r06_holds_L1_eq, e, hm, r1, r01_Place_call, hp, decide_false, Bool.not_false, Bool.and_true, zy, simprocAttr]
end Go.Proofs.YtlhjpcgfkkhogaaGreat.Zt
end
