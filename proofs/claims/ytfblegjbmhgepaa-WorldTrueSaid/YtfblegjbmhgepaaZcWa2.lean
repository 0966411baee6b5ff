/- Walks: the document's vehicles: who comes, told whole. No condition. -/
import Derived.Test.YtfblegjbmhgepaaZcH
import Derived.Test.YtfblegjbmhgepaaZcSet
set_option linter.all false
section
namespace Go.Proofs.Ytfblegjbmhgepaa.Zt
open Go Go.Zc
set_option maxRecDepth 10000

theorem ixC_neg (o : Option Nat) : (∃ i : Nat, o = some i ∧ ixC o = .int .i64 i) ∨ (o = none ∧ ixC o = .int .i64 (-1)) := by
  cases o with
  | none => exact .inr ⟨rfl, rfl⟩
  | some i => exact .inl ⟨i, rfl, rfl⟩
set_option maxHeartbeats 4000000 in
theorem radd_F (l : Lay) (hl : Lens l) (w : List Vh) (hm : w.length ≤ 1000) (id length ahead dir : Int) (trail : List Int) (ht : trail.length ≤ Zc.small) (ha : -1000000000 ≤ ahead ∧ ahead ≤ 1000000000) (H : Heap) :
    r18_Add_F false H [.agg (layC l), sl fVh w, .int .i64 id, .int .i64 length, .int .i64 ahead, .int .i64 dir, sl fI trail] =
      some (.tup [sl fVh (addV l w id length ahead dir trail).1, .int .i64 (addV l w id length ahead dir trail).2], H) := by
  have hf := fun st H => rfind_F w (by unfold Zc.small; omega) id st H
  have hF := fun st H => rfits_F l hl.ok ⟨3, 0, 0, dir, ahead, false, trail⟩ ht st H
  simp only [msgC] at hF
  rw [r18_Add_F_eq]
  unfold addV
  rcases ixC_neg (findW w id) with ⟨i, h, hx⟩ | ⟨h, hx⟩
  · have h0 : (0 : Int) ≤ i := by omega
    simp only [h, ixC] at hf
    simp only [h, Option.isSome_some, true_or, if_true]
    simp only [r18_Add_C, r18_find_call, hf, h0, ge_iff_le, zy, simprocAttr]
  · have h0 : ¬ (0 : Int) ≤ -1 := by omega
    simp only [h, ixC] at hf
    simp only [h, Option.isSome_none, Bool.false_eq_true, false_or]
    by_cases h6 : 6 ≤ w.length
    · have h6' : (6 : Int) ≤ w.length := by omega
      simp only [if_pos h6]
      simp only [r18_Add_C, r18_find_call, hf, h0, h6', ge_iff_le, zy, simprocAttr]
    · have h6' : ¬ (6 : Int) ≤ w.length := by omega
      simp only [if_neg h6]
      cases hfi : fits l ⟨3, 0, 0, dir, ahead, false, trail⟩ with
      | false =>
        simp only [hfi] at hF
        have hma : mayAdd l length ahead dir trail = false := by unfold mayAdd; rw [hfi]; rfl
        simp only [hma, Bool.false_eq_true, if_false]
        simp only [r18_Add_C, r18_find_call, hf, h0, h6', ge_iff_le, r10_Fits_call, hF, zy, simprocAttr]
      | true =>
        simp only [hfi] at hF
        cases htr : trail with
        | nil => rw [htr] at hfi; simp [fits] at hfi
        | cons s t =>
          have hfi' := hfi
          rw [htr] at hfi'
          unfold fits at hfi'
          simp only [Bool.and_eq_true, decide_eq_true_eq] at hfi'
          obtain ⟨⟨⟨⟨⟨⟨k1, k2⟩, k3⟩, k4⟩, k5⟩, k6⟩, k7⟩ := hfi'
          rw [← htr] at k1
          have hi0 : iaddrC 1 (sl fI trail) (.int .i64 0) = some (.vp (.int .i64 s :: t.flatMap fI)) := by
            rw [htr]; exact iaddr_midI .i64 [] t s
          have hL := fun st H => len_F l s st H
          have hwn : IntKind.i64.wrap (0 - ahead) = 0 - ahead := wrap64 (by omega) (by omega)
          have hun : unC .neg (.int .i64 ahead) = some (.int .i64 (IntKind.i64.wrap (0 - ahead))) := rfl
          have e0 := radd_loop0 l hl w id length ahead dir trail k1 trail [] (0 - ahead) rfl (by omega) (by simp; omega)
          simp only [List.nil_append, List.length_nil, Int.natCast_zero] at e0
          have hd : (s :: t).headD 0 = s := rfl
          rw [← htr]
          by_cases hA : lenAt l s ≤ ahead
          · have hma : mayAdd l length ahead dir trail = false := by
              unfold mayAdd
              rw [htr, hd, show decide (ahead < lenAt l s) = false from decide_eq_false (by omega)]
              simp
            simp only [hma, Bool.false_eq_true, if_false]
            simp only [r18_Add_C, r18_find_call, hf, h0, h6', ge_iff_le, r10_Fits_call, hF, hun, hwn, r18_Add_L0_eq, e0, hi0, r05_Len_call, hL, hA, zy, simprocAttr]
          · by_cases hB : length < 1
            · have hma : mayAdd l length ahead dir trail = false := by
                unfold mayAdd
                rw [show decide (1 ≤ length) = false from decide_eq_false (by omega)]
                simp
              simp only [hma, Bool.false_eq_true, if_false]
              simp only [r18_Add_C, r18_find_call, hf, h0, h6', ge_iff_le, r10_Fits_call, hF, hun, hwn, r18_Add_L0_eq, e0, hi0, r05_Len_call, hL, hA, hB, zy, simprocAttr]
            · by_cases hC : 0 - ahead + sumL l trail < length
              · have hma : mayAdd l length ahead dir trail = false := by
                  unfold mayAdd
                  rw [show decide (length ≤ sumL l trail - ahead) = false from decide_eq_false (by omega)]
                  simp
                simp only [hma, Bool.false_eq_true, if_false]
                simp only [r18_Add_C, r18_find_call, hf, h0, h6', ge_iff_le, r10_Fits_call, hF, hun, hwn, r18_Add_L0_eq, e0, hi0, r05_Len_call, hL, hA, hB, hC, gt_iff_lt, zy, simprocAttr]
              · have hma : mayAdd l length ahead dir trail = true := by
                  unfold mayAdd
                  rw [hfi, show decide (1 ≤ length) = true from decide_eq_true (by omega), show decide (length ≤ sumL l trail - ahead) = true from decide_eq_true (by omega), htr, hd, show decide (ahead < lenAt l s) = true from decide_eq_true (by omega)]
                  rfl
                simp only [hma, if_true]
                have o0 : Own fE 2 [Blk.cells [.int .i64 s, .int .i64 dir]] (.os 2 (.blk 0) 0 1) [⟨s, dir⟩] := .inr ⟨0, rfl, rfl⟩
                obtain ⟨c', bl1, q1, q2⟩ := radd_loop2 l hl w id length ahead trail k1 t [] ⟨s, dir⟩ _ _ (by rw [htr]; rfl) k7 (by simp only at k3 k4 ⊢; omega) o0
                simp only [List.nil_append, List.length_cons, List.length_nil, Nat.zero_add, Int.ofNat_one] at q1 q2
                have hway : wayIn l dir trail = ⟨s, dir⟩ :: wayFrom l ⟨s, dir⟩ t := by rw [htr]; rfl
                rw [show [(⟨s, dir⟩ : Ed)] ++ wayFrom l ⟨s, dir⟩ t = wayIn l dir trail by rw [hway]; rfl] at q2
                obtain ⟨v1, bl2, g1, g2, g3, g4, g5⟩ := (Own.nil fVh 4 bl1).appSl flatVh (bytes := 48) (zero := [.int .i64 0, .int .i64 0, .int .i64 0, .nils]) (by omega) rfl rfl w (by simp; omega)
                have q2' : Own fE 2 bl2 c' (wayIn l dir trail) := q2.fr g4 (fun k hk => by cases hk)
                have hv1 : ∀ k, blkOf c' = some k → blkOf v1 ≠ some k := by
                  intro k hk e
                  have hkl := q2.lt hk
                  rcases g5 with g5 | g5
                  · rw [g5] at e; cases e
                  · rw [g5] at e
                    have := Option.some.inj e
                    omega
                simp only [List.nil_append] at g2
                obtain ⟨bl3, a1, a2, a3⟩ := app_row flatVh g2 (bytes := 48) (zero := [.int .i64 0, .int .i64 0, .int .i64 0, .nils]) (by omega) rfl rfl [.int .i64 id, .int .i64 length, .int .i64 ahead, c'] rfl
                  (by rw [ones_cons, ones_cons, ones_cons, ones_cons, q2.one]; rfl) (by simp only [CV.locs, q2.locv]; rfl) (by omega)
                have q3 : Own fE 2 bl3 c' (wayIn l dir trail) := by
                  rcases q2' with q | ⟨m, q, q'⟩
                  · exact .inl q
                  · exact .inr ⟨m, q, a3 _ _ q' (hv1 m (by rw [q]; rfl))⟩
                have hsh : ShowsL bl3 (w.flatMap fVh ++ [.int .i64 id, .int .i64 length, .int .i64 ahead, c']) ((w ++ [(⟨id, length, ahead, wayIn l dir trail⟩ : Vh)]).flatMap fVh) := by
                  rw [List.flatMap_append]
                  refine (shows_Vhs bl3 w).app ?_
                  simp only [List.flatMap_cons, List.flatMap_nil, List.append_nil]
                  exact ⟨shows_int _ _ _, shows_int _ _ _, shows_int _ _ _, shows_own flatE q3 (fun H x => shows_E H x), trivial⟩
                have hsn := fun bx => os_snap a2 hsh (sz := 4) (n := w.length + 1) (by rw [flatVh.length]; simp) bx
                have hres : CV.vs ((w ++ [(⟨id, length, ahead, wayIn l dir trail⟩ : Vh)]).flatMap fVh) (w.length + 1) = sl fVh (w ++ [⟨id, length, ahead, wayIn l dir trail⟩]) := by simp [sl]
                rw [hres] at hsn
                have hone := q2.one
                have hlocv := q2.locv
                have hund := q2.und
                have hcells := q2.cells
                simp only [r18_Add_C, r18_find_call, hf, h0, h6', ge_iff_le, r10_Fits_call, hF, hun, hwn, r18_Add_L0_eq, e0, hi0, r05_Len_call, hL, hA, hB, hC, gt_iff_lt, r18_Add_L2_eq, q1, g1, hund, hone, hlocv, hcells, a1, hsn, zy, simprocAttr]
end Go.Proofs.Ytfblegjbmhgepaa.Zt
end
section
namespace Go.Proofs.Ytfblegjbmhgepaa.Zt
open Go Go.Zc
set_option maxRecDepth 10000

theorem stands_F (right : List Bool) (i : Nat) (st : Bool) (H : Heap) : graph_stands_F st H [sl fB right, .int .i64 i] = some (.bool (stand right i), H) := by
  rw [graph_stands_F_eq]
  by_cases h : i < right.length
  · have h' : ((i : Int) < right.length) := by omega
    have hia : iaddrC 1 (sl fB right) (.int .i64 i) = some (.vp (.bool right[i] :: (right.drop (i + 1)).flatMap fB)) := iaddr_sl flatB.len flatB.pos h
    have hs : stand right i = right[i] := by simp [stand, h]
    simp only [graph_stands_C, h', hia, hs, zy, simprocAttr]
  · have h' : ¬ ((i : Int) < right.length) := by omega
    have hs : stand right i = false := by simp [stand, h]
    simp only [graph_stands_C, h', hs, zy, simprocAttr]

theorem gnext1_F (x : Ed) (n : Int) (st : Bool) (H : Heap) : graph_Graph_Next_1_F st H [.agg (fE x), .vp [.int .i64 n]] = some (.bool (decide (x.s = n)), H) := by
  rw [graph_Graph_Next_1_F_eq]
  simp only [graph_Graph_Next_1_C, fE, zy, simprocAttr]

theorem ptOf_pt {l : Lay} {n : Int} {i : Nat} (h : ptOf l n = some i) : ∃ hi : i < l.pts.length, l.pts[i]? = some l.pts[i] := by
  obtain ⟨hi, _⟩ := ptOf_some h
  exact ⟨hi, List.getElem?_eq_getElem hi⟩

set_option maxHeartbeats 1000000 in
theorem gnext_F (l : Lay) (hl : l.ok) (x : Ed) (right : List Bool) (st : Bool) (H : Heap) :
    graph_Graph_Next_F st H [.vp (layC l), .agg (fE x), sl fB right] = some (.tup [.agg (edC (next l x right)), .bool (next l x right).isSome], H) := by
  rw [graph_Graph_Next_F_eq]
  have haF := fun H => garound_F l hl x H
  have hnF := fun st H => gnode_F l x st H
  have hal := around_len2 l x
  cases hn : nodeOf l x with
  | none =>
    have ha : around l x = [] := by simp [around, hn]
    simp only [ha, fE] at haF
    simp only [graph_Graph_Next_C, fE, next, hn, graph_Graph_Around_call, haF, edC, zy, simprocAttr]
  | some n =>
    simp only [hn, Option.getD_some, fE] at hnF
    cases ha : around l x with
    | nil =>
      simp only [ha, fE] at haF
      simp only [graph_Graph_Next_C, fE, next, nextAt, hn, ha, graph_Graph_Around_call, haF, edC, zy, simprocAttr]
    | cons y ys =>
      rw [ha] at hal
      have h0 : iaddrC 2 (sl fE (y :: ys)) (.int .i64 0) = some (.vp (.int .i64 y.s :: .int .i64 y.e :: ys.flatMap fE)) := iaddr_midE .i64 [] ys y
      have h00 : ¬ (((ys.length + 1 : Nat) : Int) = 0) := by omega
      simp only [ha, fE] at haF
      have hpF := fun st H => gpoint_F l hl n st H
      cases hp : ptOf l n with
      | none =>
        simp only [hp] at hpF
        simp only [graph_Graph_Next_C, fE, next, nextAt, hn, hp, ha, graph_Graph_Around_call, haF, graph_Graph_node_call, hnF, graph_Graph_Point_call, hpF, h0, h00, edC, zy, simprocAttr]
      | some i =>
        simp only [hp] at hpF
        obtain ⟨hi, hpi⟩ := ptOf_pt hp
        have hi0 : ¬ ((i : Int) < 0) := by omega
        have hsF := fun st H => stands_F right i st H
        have hst : ∀ bx a b, stE 1 0 (.int .i64 b) ⟨bx, [Blk.cells [.int .i64 a]]⟩ (.blk 0) [.int .i64 a] = some ⟨bx, [Blk.cells [.int .i64 b]]⟩ := by
          intro bx a b
          simp [stE, CV.cells, ones, CV.one, CV.locs, CV.locv, Id.loc?, Heap.put, setMany]
        have hc : ∀ (leg : Int) (y : Ed) (H' : Heap), call ctx (.fn (.func 109) [] [.vp [.int .i64 leg]]) [.agg (fE y)] H' = some (.bool (decide (y.s = leg)), H') := by
          intro leg y H'
          have := gnext1_F y leg
          simp only [fE] at this
          simp only [graph_Graph_Next_1_call, fE, zy, simprocAttr, this]
        have hix := fun leg st H => idxE_F (.fn (.func 109) [] [.vp [.int .i64 leg]]) rfl (fun y => decide (y.s = leg)) (hc leg) (y :: ys) hal st H
        cases hs : stand right i with
        | true =>
          simp only [hs] at hsF
          by_cases h1 : x.s = l.pts[i].stem
          · have hfi := find_idx (fun y : Ed => decide (y.s = l.pts[i].right)) (y :: ys)
            cases hf : (y :: ys).findIdx? (fun y => decide (y.s = l.pts[i].right)) with
            | none =>
              have hfd := hfi.2 hf
              have hid : idxOf (fun y : Ed => decide (y.s = l.pts[i].right)) (y :: ys) = -1 := by simp only [idxOf, hf]
              simp only [graph_Graph_Next_C, fE, next, nextAt, hn, hp, hpi, ha, hs, eq_true h1, hfd, graph_Graph_Around_call, haF, graph_Graph_node_call, hnF, graph_Graph_Point_call, hpF, hi0, iaddr_atP hi, graph_stands_call, hsF, hst, slices_IndexFunc_End_call, hix, hid, h0, h00, edC, zy, simprocAttr]
            | some j =>
              obtain ⟨hj, hfd⟩ := hfi.1 j hf
              have hid : idxOf (fun y : Ed => decide (y.s = l.pts[i].right)) (y :: ys) = j := by simp only [idxOf, hf]
              have hj0 : (0 : Int) ≤ j := by omega
              simp only [graph_Graph_Next_C, fE, next, nextAt, hn, hp, hpi, ha, hs, eq_true h1, hfd, graph_Graph_Around_call, haF, graph_Graph_node_call, hnF, graph_Graph_Point_call, hpF, hi0, iaddr_atP hi, graph_stands_call, hsF, hst, slices_IndexFunc_End_call, hix, hid, hj0, iaddr_atE hj, h0, h00, edC, zy, simprocAttr]
          · by_cases h2 : x.s = l.pts[i].right
            · simp only [graph_Graph_Next_C, fE, next, nextAt, hn, hp, hpi, ha, hs, eq_false h1, eq_true h2, graph_Graph_Around_call, haF, graph_Graph_node_call, hnF, graph_Graph_Point_call, hpF, hi0, iaddr_atP hi, graph_stands_call, hsF, hst, h0, h00, edC, zy, simprocAttr]
            · simp only [graph_Graph_Next_C, fE, next, nextAt, hn, hp, hpi, ha, hs, eq_false h1, eq_false h2, graph_Graph_Around_call, haF, graph_Graph_node_call, hnF, graph_Graph_Point_call, hpF, hi0, iaddr_atP hi, graph_stands_call, hsF, hst, h0, h00, edC, zy, simprocAttr]
        | false =>
          simp only [hs] at hsF
          by_cases h1 : x.s = l.pts[i].stem
          · have hfi := find_idx (fun y : Ed => decide (y.s = l.pts[i].left)) (y :: ys)
            cases hf : (y :: ys).findIdx? (fun y => decide (y.s = l.pts[i].left)) with
            | none =>
              have hfd := hfi.2 hf
              have hid : idxOf (fun y : Ed => decide (y.s = l.pts[i].left)) (y :: ys) = -1 := by simp only [idxOf, hf]
              simp only [graph_Graph_Next_C, fE, next, nextAt, hn, hp, hpi, ha, hs, eq_true h1, hfd, graph_Graph_Around_call, haF, graph_Graph_node_call, hnF, graph_Graph_Point_call, hpF, hi0, iaddr_atP hi, graph_stands_call, hsF, hst, slices_IndexFunc_End_call, hix, hid, h0, h00, edC, zy, simprocAttr]
            | some j =>
              obtain ⟨hj, hfd⟩ := hfi.1 j hf
              have hid : idxOf (fun y : Ed => decide (y.s = l.pts[i].left)) (y :: ys) = j := by simp only [idxOf, hf]
              have hj0 : (0 : Int) ≤ j := by omega
              simp only [graph_Graph_Next_C, fE, next, nextAt, hn, hp, hpi, ha, hs, eq_true h1, hfd, graph_Graph_Around_call, haF, graph_Graph_node_call, hnF, graph_Graph_Point_call, hpF, hi0, iaddr_atP hi, graph_stands_call, hsF, hst, slices_IndexFunc_End_call, hix, hid, hj0, iaddr_atE hj, h0, h00, edC, zy, simprocAttr]
          · by_cases h2 : x.s = l.pts[i].left
            · simp only [graph_Graph_Next_C, fE, next, nextAt, hn, hp, hpi, ha, hs, eq_false h1, eq_true h2, graph_Graph_Around_call, haF, graph_Graph_node_call, hnF, graph_Graph_Point_call, hpF, hi0, iaddr_atP hi, graph_stands_call, hsF, hst, h0, h00, edC, zy, simprocAttr]
            · simp only [graph_Graph_Next_C, fE, next, nextAt, hn, hp, hpi, ha, hs, eq_false h1, eq_false h2, graph_Graph_Around_call, haF, graph_Graph_node_call, hnF, graph_Graph_Point_call, hpF, hi0, iaddr_atP hi, graph_stands_call, hsF, hst, h0, h00, edC, zy, simprocAttr]

theorem next_loop (leg : Int) (y0 : List CV) (hy0 : y0.length = 2) : ∀ (s p : List Ed), (p ++ s).length ≤ 2 * Zc.small →
    r05_Next_R0 ([(6, .op (.loc 6) 0), (8, sl fE (p ++ s)), (12, .int .i64 leg), (13, .int .i64 p.length)], ⟨[(6, [.int .i64 0, .int .i64 0])], []⟩) =
      match s.find? (fun y => decide (y.s = leg)) with
      | some y => some (.ret, [(6, .op (.loc 6) 0), (7, .bool true)], ⟨[(6, fE y)], []⟩)
      | none => some (.norm, [(6, .op (.loc 6) 0)], ⟨[(6, [.int .i64 0, .int .i64 0])], []⟩)
  | [], p, hm => by
    rw [r05_Next_R0_eq]
    simp only [r05_Next_B0, r05_Next_K0_a, List.find?_nil, zy, simprocAttr]
  | y :: s, p, hm => by
    have h4 : ((p.length : Int) < (p ++ y :: s).length) := by simp; omega
    have hw := wrapN (n := p.length) (by simp at hm; omega)
    have ih := next_loop leg y0 hy0 s (p ++ [y]) (by simpa using hm)
    simp only [List.append_assoc, List.cons_append, List.nil_append, List.length_append, List.length_cons, List.length_nil] at ih h4
    rw [r05_Next_R0_eq]
    by_cases h : y.s = leg
    · simp only [r05_Next_B0, r05_Next_K0_a, List.append_assoc, List.cons_append, List.nil_append, List.length_append, List.length_cons, List.length_nil, h4, iaddr_midE, eq_true h, List.find?_cons, fE, zy, simprocAttr]
    · simp only [r05_Next_B0, r05_Next_K0_a, List.append_assoc, List.cons_append, List.nil_append, List.length_append, List.length_cons, List.length_nil, h4, hw, iaddr_midE, eq_false h, List.find?_cons, ih, zy, simprocAttr]

set_option maxHeartbeats 1000000 in
theorem next_F (l : Lay) (hl : l.ok) (x : Ed) (right : List Bool) (H : Heap) :
    r05_Next_F false H [.agg (layC l), .agg (fE x), sl fB right] = some (.tup [.agg (edC (next l x right)), .bool (next l x right).isSome], H) := by
  rw [r05_Next_F_eq]
  have haF := fun H => around_F l hl x H
  have hnF := fun st H => node_F l x st H
  have hal := around_len2 l x
  cases hn : nodeOf l x with
  | none =>
    have ha : around l x = [] := by simp [around, hn]
    simp only [ha, fE] at haF
    simp only [r05_Next_C, fE, next, hn, r05_Around_call, haF, edC, zy, simprocAttr]
  | some n =>
    simp only [hn, Option.getD_some, fE] at hnF
    cases ha : around l x with
    | nil =>
      simp only [ha, fE] at haF
      simp only [r05_Next_C, fE, next, nextAt, hn, ha, r05_Around_call, haF, edC, zy, simprocAttr]
    | cons y ys =>
      rw [ha] at hal
      have h0 : iaddrC 2 (sl fE (y :: ys)) (.int .i64 0) = some (.vp (.int .i64 y.s :: .int .i64 y.e :: ys.flatMap fE)) := iaddr_midE .i64 [] ys y
      have h00 : ¬ (((ys.length + 1 : Nat) : Int) = 0) := by omega
      simp only [ha, fE] at haF
      have hpF := fun st H => point_F l hl n st H
      cases hp : ptOf l n with
      | none =>
        simp only [hp] at hpF
        simp only [r05_Next_C, fE, next, nextAt, hn, hp, ha, r05_Around_call, haF, r05_node_call, hnF, r05_Point_call, hpF, h0, h00, edC, zy, simprocAttr]
      | some i =>
        simp only [hp] at hpF
        obtain ⟨hi, hpi⟩ := ptOf_pt hp
        have hi0 : ¬ ((i : Int) < 0) := by omega
        have hL := fun leg => next_loop leg [.int .i64 0, .int .i64 0] rfl (y :: ys) [] hal
        simp only [List.nil_append, List.length_nil, Int.natCast_zero] at hL
        by_cases h1 : x.s = l.pts[i].stem
        · by_cases hr : i < right.length
          · have hr' : ((i : Int) < right.length) := by omega
            have hia : iaddrC 1 (sl fB right) (.int .i64 i) = some (.vp (.bool right[i] :: (right.drop (i + 1)).flatMap fB)) := iaddr_sl flatB.len flatB.pos hr
            have hs : stand right i = right[i] := by simp [stand, hr]
            cases hb : right[i] with
            | true =>
              rw [hb] at hs hia
              have hL' := hL l.pts[i].right
              cases hf : (y :: ys).find? (fun z => decide (z.s = l.pts[i].right)) with
              | none =>
                simp only [hf] at hL'
                simp only [r05_Next_C, r05_Next_L0_eq, fE, next, nextAt, hn, hp, hpi, ha, hs, eq_true h1, hf, r05_Around_call, haF, r05_node_call, hnF, r05_Point_call, hpF, hi0, iaddr_atP hi, hr', hia, h0, h00, hL', edC, zy, simprocAttr]
              | some z =>
                simp only [hf] at hL'
                simp only [r05_Next_C, r05_Next_L0_eq, fE, next, nextAt, hn, hp, hpi, ha, hs, eq_true h1, hf, r05_Around_call, haF, r05_node_call, hnF, r05_Point_call, hpF, hi0, iaddr_atP hi, hr', hia, h0, h00, hL', edC, zy, simprocAttr]
            | false =>
              rw [hb] at hs hia
              have hL' := hL l.pts[i].left
              cases hf : (y :: ys).find? (fun z => decide (z.s = l.pts[i].left)) with
              | none =>
                simp only [hf] at hL'
                simp only [r05_Next_C, r05_Next_L0_eq, fE, next, nextAt, hn, hp, hpi, ha, hs, eq_true h1, hf, r05_Around_call, haF, r05_node_call, hnF, r05_Point_call, hpF, hi0, iaddr_atP hi, hr', hia, h0, h00, hL', edC, zy, simprocAttr]
              | some z =>
                simp only [hf] at hL'
                simp only [r05_Next_C, r05_Next_L0_eq, fE, next, nextAt, hn, hp, hpi, ha, hs, eq_true h1, hf, r05_Around_call, haF, r05_node_call, hnF, r05_Point_call, hpF, hi0, iaddr_atP hi, hr', hia, h0, h00, hL', edC, zy, simprocAttr]
          · have hr' : ¬ ((i : Int) < right.length) := by omega
            have hs : stand right i = false := by simp [stand, hr]
            have hL' := hL l.pts[i].left
            cases hf : (y :: ys).find? (fun z => decide (z.s = l.pts[i].left)) with
            | none =>
              simp only [hf] at hL'
              simp only [r05_Next_C, r05_Next_L0_eq, fE, next, nextAt, hn, hp, hpi, ha, hs, eq_true h1, hf, r05_Around_call, haF, r05_node_call, hnF, r05_Point_call, hpF, hi0, iaddr_atP hi, hr', h0, h00, hL', edC, zy, simprocAttr]
            | some z =>
              simp only [hf] at hL'
              simp only [r05_Next_C, r05_Next_L0_eq, fE, next, nextAt, hn, hp, hpi, ha, hs, eq_true h1, hf, r05_Around_call, haF, r05_node_call, hnF, r05_Point_call, hpF, hi0, iaddr_atP hi, hr', h0, h00, hL', edC, zy, simprocAttr]
        · by_cases hr : i < right.length
          · have hr' : ((i : Int) < right.length) := by omega
            have hia : iaddrC 1 (sl fB right) (.int .i64 i) = some (.vp (.bool right[i] :: (right.drop (i + 1)).flatMap fB)) := iaddr_sl flatB.len flatB.pos hr
            have hs : stand right i = right[i] := by simp [stand, hr]
            cases hb : right[i] with
            | true =>
              rw [hb] at hs hia
              by_cases h2 : x.s = l.pts[i].right
              · simp only [r05_Next_C, fE, next, nextAt, hn, hp, hpi, ha, hs, eq_false h1, eq_true h2, r05_Around_call, haF, r05_node_call, hnF, r05_Point_call, hpF, hi0, iaddr_atP hi, hr', hia, h0, h00, edC, zy, simprocAttr]
              · simp only [r05_Next_C, fE, next, nextAt, hn, hp, hpi, ha, hs, eq_false h1, eq_false h2, r05_Around_call, haF, r05_node_call, hnF, r05_Point_call, hpF, hi0, iaddr_atP hi, hr', hia, h0, h00, edC, zy, simprocAttr]
            | false =>
              rw [hb] at hs hia
              by_cases h2 : x.s = l.pts[i].left
              · simp only [r05_Next_C, fE, next, nextAt, hn, hp, hpi, ha, hs, eq_false h1, eq_true h2, r05_Around_call, haF, r05_node_call, hnF, r05_Point_call, hpF, hi0, iaddr_atP hi, hr', hia, h0, h00, edC, zy, simprocAttr]
              · simp only [r05_Next_C, fE, next, nextAt, hn, hp, hpi, ha, hs, eq_false h1, eq_false h2, r05_Around_call, haF, r05_node_call, hnF, r05_Point_call, hpF, hi0, iaddr_atP hi, hr', hia, h0, h00, edC, zy, simprocAttr]
          · have hr' : ¬ ((i : Int) < right.length) := by omega
            have hs : stand right i = false := by simp [stand, hr]
            by_cases h2 : x.s = l.pts[i].left
            · simp only [r05_Next_C, fE, next, nextAt, hn, hp, hpi, ha, hs, eq_false h1, eq_true h2, r05_Around_call, haF, r05_node_call, hnF, r05_Point_call, hpF, hi0, iaddr_atP hi, hr', h0, h00, edC, zy, simprocAttr]
            · simp only [r05_Next_C, fE, next, nextAt, hn, hp, hpi, ha, hs, eq_false h1, eq_false h2, r05_Around_call, haF, r05_node_call, hnF, r05_Point_call, hpF, hi0, iaddr_atP hi, hr', h0, h00, edC, zy, simprocAttr]
end Go.Proofs.Ytfblegjbmhgepaa.Zt
end
section
namespace Go.Proofs.Ytfblegjbmhgepaa.Zt
open Go Go.Zc
set_option maxRecDepth 10000

theorem few_in {n : Nat} {way : List Ed} (hn : (way.map Ed.s).Nodup) (hr : ∀ x ∈ way, 0 ≤ x.s ∧ x.s < n) : way.length ≤ n := by
  have hnd : ((way.map Ed.s).map Int.toNat).Nodup := by
    refine List.pairwise_map.2 (hn.imp_of_mem fun {x y} hx hy hxy => ?_)
    obtain ⟨a, ha, rfl⟩ := List.mem_map.1 hx
    obtain ⟨b, hb, rfl⟩ := List.mem_map.1 hy
    have := hr a ha; have := hr b hb
    omega
  have := nodup_le hnd (b := List.range n) (fun z hz => by
    obtain ⟨y, hy, rfl⟩ := List.mem_map.1 hz
    obtain ⟨a, ha, rfl⟩ := List.mem_map.1 hy
    rw [List.mem_range]
    have := hr a ha; omega)
  simpa using this
theorem sumL_le {l : Lay} (hl : Lens l) : ∀ r : List Int, sumL l r ≤ 1000 * r.length
  | [] => by simp [sumL]
  | s :: r => by
    have := sumL_le hl r
    have := hl.hi s
    simp only [sumL, List.length_cons]
    omega
theorem Sound.few {l : Lay} (hl : Lens l) {v : Vh} (h : Sound l v) : v.way.length ≤ 12 ∧ v.ahead + v.length ≤ 12000 := by
  have h1 := few_in h.once fun x hx => (h.there x hx).1
  have h2 := hl.few
  have h3 := sumL_le hl (v.way.map Ed.s)
  have h4 := h.room
  simp only [List.length_map] at h3
  omega
theorem Sound.fits {l : Lay} (hl : Lens l) {v : Vh} (h : Sound l v) : v.fits := by
  obtain ⟨h1, h2⟩ := h.few hl
  have := h.pos; have := h.ahead
  exact ⟨by omega, by omega, by omega⟩

theorem rgo_loop2 (l : Lay) (w : List Vh) (metres gone : Int) (right : List Bool) (i : Nat) (v : Vh) (c : CV) (bl : List Blk) (hc : Held fE 2 bl c v.way) (x : Ed) (u : Nat) (hu : u ≤ v.way.length) (hw12 : v.way.length ≤ 100000) : ∀ (S P : List Ed) (ok : Bool), v.way.take u = P ++ S →
    r18_Go_R2 ([(1, sl fVh w), (3, .int .i64 metres), (4, sl fB right), (5, .op (.loc 5) 0), (13, .int .i64 i), (14, .op (.loc 14) 0), (15, .int .i64 gone), (17, .op (.loc 17) 0), (18, .bool ok), (19, .int .i64 u), (20, .int .i64 P.length)], ⟨[(5, layC l), (14, [.int .i64 v.id, .int .i64 v.length, .int .i64 v.ahead, c]), (17, fE x)], bl⟩) =
      some (.norm, [(1, sl fVh w), (3, .int .i64 metres), (4, sl fB right), (5, .op (.loc 5) 0), (13, .int .i64 i), (14, .op (.loc 14) 0), (15, .int .i64 gone), (17, .op (.loc 17) 0), (18, .bool (ok && decide (x.s ∉ S.map Ed.s))), (19, .int .i64 u)], ⟨[(5, layC l), (14, [.int .i64 v.id, .int .i64 v.length, .int .i64 v.ahead, c]), (17, fE x)], bl⟩) := by
  intro S
  have hlv := hc.locv
  have hch := hc.chkV
  induction S with
  | nil =>
    intro P ok hP
    have hPl : P.length = u := by
      have := congrArg List.length hP
      simp only [List.length_take, List.append_nil] at this
      omega
    have h1 : ¬ ((P.length : Int) < u) := by omega
    rw [r18_Go_R2_eq]
    simp only [r18_Go_B2, r18_Go_K2_a, h1, fE, hlv, List.map_nil, List.not_mem_nil, zy, simprocAttr]
  | cons y S ih =>
    intro P ok hP
    have hPl : P.length + 1 ≤ u := by
      have := congrArg List.length hP
      simp only [List.length_take, List.length_append, List.length_cons] at this
      omega
    have h1 : ((P.length : Int) < u) := by omega
    have hw := wrapN (n := P.length) (by unfold Zc.small; omega)
    have hxe : v.way = P ++ y :: (S ++ v.way.drop u) := by
      have := List.take_append_drop u v.way
      rw [hP, List.append_assoc, List.cons_append] at this
      exact this.symm
    obtain ⟨p, g1, g2, _, g4⟩ := hc.at flatE hxe
    obtain ⟨p', k1, k2, k3⟩ := g4 0 (by omega)
    have g1' := g1 .i64
    have k3' : ∀ bx, loadC false 1 ⟨bx, bl⟩ p' = some (.int .i64 y.s) := k3
    have ih' := fun ok => ih (P ++ [y]) ok (by rw [hP]; simp)
    rw [show (P ++ [y]).length = P.length + 1 by simp] at ih'
    simp only [fE] at ih'
    rw [r18_Go_R2_eq]
    cases ok with
    | false =>
      simp only [r18_Go_B2, r18_Go_K2_a, h1, fE, hlv, hw, ih', zy, simprocAttr]
    | true =>
      by_cases hA : y.s = x.s
      · simp only [r18_Go_B2, r18_Go_K2_a, h1, fE, hlv, hw, g1', k1, k3', eq_true hA, ih', zy, simprocAttr]
        simp [hA]
      · have hA' : ¬ x.s = y.s := fun e => hA e.symm
        simp only [r18_Go_B2, r18_Go_K2_a, h1, fE, hlv, hw, g1', k1, k3', eq_false hA, ih', zy, simprocAttr]
        simp [hA']
end Go.Proofs.Ytfblegjbmhgepaa.Zt
end
section
namespace Go.Proofs.Ytfblegjbmhgepaa.Zt
open Go Go.Zc
set_option maxRecDepth 10000

abbrev vC (v : Vh) (c : CV) : List CV := [.int .i64 v.id, .int .i64 v.length, .int .i64 v.ahead, c]
set_option maxHeartbeats 4000000 in
theorem rgo_loop (l : Lay) (hl : Lens l) (w : List Vh) (metres : Int) (hmm : metres ≤ 1000000) (right : List Bool) (i : Nat) : ∀ (n : Nat) (v : Vh) (c : CV) (bl : List Blk) (gone : Int), Held fE 2 bl c v.way →
    Sound l v → (Front l v ∨ (0 < metres - gone ∧ ∃ e r, v.way = e :: r ∧ v.ahead = lenAt l e.s)) → 2 * (metres - gone).toNat + (if 0 < v.ahead then 0 else 1) ≤ n → 0 ≤ gone → gone ≤ 1000000 →
    ∃ c' bl', r18_Go_R0 ([(1, sl fVh w), (3, .int .i64 metres), (4, sl fB right), (5, .op (.loc 5) 0), (13, .int .i64 i), (14, .op (.loc 14) 0), (15, .int .i64 gone)], ⟨[(5, layC l), (14, vC v c)], bl⟩) =
      some (.norm, [(1, sl fVh w), (5, .op (.loc 5) 0), (13, .int .i64 i), (14, .op (.loc 14) 0), (15, .int .i64 (metres - (goN l right n v (metres - gone)).2))], ⟨[(5, layC l), (14, vC (goN l right n v (metres - gone)).1 c')], bl'⟩) ∧ Held fE 2 bl' c' (goN l right n v (metres - gone)).1.way := by
  intro n
  induction n with
  | zero =>
    intro v c bl gone hc hS hf hn hg hg2
    have h1 : ¬ (gone < metres) := by omega
    have h2 : metres - (metres - gone) = gone := by omega
    refine ⟨c, bl, ?_, by simpa [goN] using hc⟩
    have hlv := hc.locv
    simp only [goN, h2]
    rw [r18_Go_R0_eq]
    simp only [r18_Go_B0, r18_Go_K0_a, h1, gt_iff_lt, hlv, zy, simprocAttr]
  | succ n ih =>
    intro v c bl gone hc hS hf hn hg hg2
    have hlv := hc.locv
    by_cases h1 : gone < metres
    · have hle : ¬ (metres - gone ≤ 0) := by omega
      have hah := hS.ahead
      have hwm : IntKind.i64.wrap (metres - gone) = metres - gone := wrap64 (by omega) (by omega)
      by_cases h2 : 0 < v.ahead
      · rw [if_pos h2] at hn
        have hfr : ∃ e r, v.way = e :: r ∧ v.ahead ≤ lenAt l e.s := by
          rcases hf with ⟨e, r, h3, h4⟩ | ⟨_, e, r, h3, h4⟩
          · exact ⟨e, r, h3, by omega⟩
          · exact ⟨e, r, h3, by omega⟩
        obtain ⟨e, r, h3, h4⟩ := hfr
        have hlen := hl.hi e.s
        have hS' : Sound l { v with ahead := v.ahead - min (metres - gone) v.ahead } := ⟨hS.pos, by simp only; omega, by have := hS.room; simp only; omega, hS.once, hS.there, hS.link⟩
        obtain ⟨c', bl', q1, q2⟩ := ih { v with ahead := v.ahead - min (metres - gone) v.ahead } c bl (gone + min (metres - gone) v.ahead) hc hS' (.inl ⟨e, r, h3, by simp only; omega⟩) (by split <;> omega) (by omega) (by omega)
        rw [show metres - (gone + min (metres - gone) v.ahead) = metres - gone - min (metres - gone) v.ahead by omega] at q1 q2
        have hgo : goN l right (n + 1) v (metres - gone) = goN l right n { v with ahead := v.ahead - min (metres - gone) v.ahead } (metres - gone - min (metres - gone) v.ahead) := by
          conv => lhs; unfold goN
          rw [if_neg hle, if_pos h2]
        rw [hgo]
        refine ⟨c', bl', ?_, q2⟩
        by_cases h5 : v.ahead < metres - gone
        · have hmin : min (metres - gone) v.ahead = v.ahead := by omega
          rw [hmin] at q1 ⊢
          have w1 : IntKind.i64.wrap (v.ahead - v.ahead) = v.ahead - v.ahead := wrap64 (by omega) (by omega)
          have w2 : IntKind.i64.wrap (gone + v.ahead) = gone + v.ahead := wrap64 (by omega) (by omega)
          rw [← q1, r18_Go_R0_eq]
          simp only [r18_Go_B0, r18_Go_K0_a, h1, h2, h5, gt_iff_lt, hwm, w1, w2, hlv, zy, simprocAttr]
        · have hmin : min (metres - gone) v.ahead = metres - gone := by omega
          rw [hmin] at q1 ⊢
          have w1 : IntKind.i64.wrap (v.ahead - (metres - gone)) = v.ahead - (metres - gone) := wrap64 (by omega) (by omega)
          have w2 : IntKind.i64.wrap (gone + (metres - gone)) = gone + (metres - gone) := wrap64 (by omega) (by omega)
          rw [← q1, r18_Go_R0_eq]
          simp only [r18_Go_B0, r18_Go_K0_a, h1, h2, h5, gt_iff_lt, hwm, w1, w2, hlv, zy, simprocAttr]
      · rw [if_neg h2] at hn
        have hah0 : v.ahead = 0 := by omega
        obtain ⟨e, r, h3⟩ : ∃ e r, v.way = e :: r := by
          rcases hf with ⟨e, r, h3, _⟩ | ⟨_, e, r, h3, _⟩ <;> exact ⟨e, r, h3⟩
        obtain ⟨p, g1, g2, g3, g4⟩ := hc.at flatE (P := []) h3
        have g1' := g1 .i64
        simp only [List.length_nil, Int.natCast_zero] at g1'
        have hN := fun H => next_F l hl.ok e right H
        have hU := fun st H => runder_F l hl v (hS.fits hl) st H
        have hsn := fun bx => hc.snapV flatE bx (snapN ⟨bx, bl⟩ false false 7) (fun x c hc => shows_E _ x c hc 6)
        have hule := underN_le l (v.ahead + v.length) v.way
        have hw12 := (hS.few hl).1
        have hl2 := fun x ok => rgo_loop2 l w metres gone right i v c bl hc x (underN l (v.ahead + v.length) v.way) hule (by omega) (underW l v) [] ok rfl
        simp only [List.length_nil, Int.natCast_zero] at hl2
        have hgoN : enterV l right v = none → goN l right (n + 1) v (metres - gone) = (v, metres - gone) := by
          intro he
          conv => lhs; unfold goN
          rw [if_neg hle, if_neg h2, he]
        have hgoS : ∀ v', enterV l right v = some v' → goN l right (n + 1) v (metres - gone) = goN l right n v' (metres - gone) := by
          intro v' he
          conv => lhs; unfold goN
          rw [if_neg hle, if_neg h2, he]
        have hentN : next l e right = none → enterV l right v = none := by
          intro hx
          unfold enterV
          simp only [h3, hx]
        have hentS : ∀ x, next l e right = some x → enterV l right v = if x.s ∈ underL l v then none else some { v with ahead := lenAt l x.s, way := ⟨x.s, 1 - x.e⟩ :: underW l v } := by
          intro x hx
          unfold enterV
          simp only [h3, hx]
        have hmg : metres - (metres - gone) = gone := by omega
        have hone := hc.one
        simp only [fVh] at hU
        simp only [fE] at hN hl2 g3
        cases hx : next l e right with
        | none =>
          simp only [hx, edC, Option.isSome_none] at hN
          rw [hgoN (hentN hx)]
          have hl20 := hl2 ⟨0, 0⟩ false
          simp only [hmg]
          refine ⟨c, bl, ?_, hc⟩
          rw [r18_Go_R0_eq]
          simp only [r18_Go_B0, r18_Go_K0_a, h1, h2, gt_iff_lt, hlv, g1', g2, g3, r05_Next_call, hN, fE, r18_under_call, hsn, hU, r18_Go_L2_eq, hl20, zy, simprocAttr]
        | some x =>
          simp only [hx, edC, Option.isSome_some] at hN
          by_cases hin : x.s ∈ underL l v
          · have hin' : x.s ∈ (underW l v).map Ed.s := hin
            rw [hgoN ((hentS x hx).trans (if_pos hin))]
            simp only [hmg]
            refine ⟨c, bl, ?_, hc⟩
            rw [r18_Go_R0_eq]
            simp only [r18_Go_B0, r18_Go_K0_a, h1, h2, gt_iff_lt, hlv, g1', g2, g3, r05_Next_call, hN, fE, r18_under_call, hsn, hU, r18_Go_L2_eq, hl2, hin', zy, simprocAttr]
          · have hin' : ¬ x.s ∈ (underW l v).map Ed.s := hin
            have hm := next_mem hx
            have hxin := around_in hm
            have hE : enterV l right v = some { v with ahead := lenAt l x.s, way := ⟨x.s, 1 - x.e⟩ :: underW l v } := (hentS x hx).trans (if_neg hin)
            have hgo' := hgoS _ hE
            obtain ⟨s1, _, _, e', r', s4, s5⟩ := enter_sound hl.lo hl.back hS hah0 hE
            have hx1 := hl.one x.s hxin.1.1 hxin.1.2
            have hx2 := hl.hi x.s
            have wx : IntKind.i64.wrap (1 - x.e) = 1 - x.e := wrap64 (by omega) (by omega)
            obtain ⟨c2, k1, k2, k3⟩ := hc.take flatE (underN l (v.ahead + v.length) v.way) hule
            have k1' := k1 .i64
            have hbl1 : ∀ (m : Nat) (b : Blk), bl[m]? = some b → (bl ++ [Blk.cells [.int .i64 x.s, .int .i64 (1 - x.e)]])[m]? = some b := fun m b hb => by
              rw [List.getElem?_append_left (List.getElem?_eq_some_iff.1 hb).1]; exact hb
            have k2' : Held fE 2 (bl ++ [Blk.cells [.int .i64 x.s, .int .i64 (1 - x.e)]]) c2 (underW l v) := k2.keep fun m b hb _ => hbl1 m b hb
            have o0 : Own fE 2 (bl ++ [Blk.cells [.int .i64 x.s, .int .i64 (1 - x.e)]]) (.os 2 (.blk bl.length) 0 1) [(⟨x.s, 1 - x.e⟩ : Ed)] := .inr ⟨bl.length, rfl, by simp [fE]⟩
            have hul : (underW l v).length ≤ 12 := by unfold underW; rw [List.length_take]; omega
            obtain ⟨c3, bl2, a1, a2, a3, a4, a5⟩ := o0.app flatE (bytes := 16) (zero := [.int .i64 0, .int .i64 0]) (by omega) rfl rfl (x := c2) (new := underW l v) (fun bx => k2'.shown flatE bx) k2'.lenOf k2'.isSl (by simp; omega)
            have hLen := fun st H => len_F l x.s st H
            obtain ⟨c', bl', q1, q2⟩ := ih { v with ahead := lenAt l x.s, way := ⟨x.s, 1 - x.e⟩ :: underW l v } c3 bl2 gone (by simpa using a2.held) s1 (.inr ⟨by omega, _, _, rfl, rfl⟩) (by rw [if_pos (by simp only; omega)]; omega) hg hg2
            rw [hgo']
            refine ⟨c', bl', ?_, q2⟩
            have hl3 := a2.locv
            have ho3 := a2.one
            have hc3 := a2.cells
            have hl2c := k2.locv
            rw [← q1, r18_Go_R0_eq]
            simp only [r18_Go_B0, r18_Go_K0_a, h1, h2, gt_iff_lt, hlv, g1', g2, g3, r05_Next_call, hN, fE, r18_under_call, hsn, hU, r18_Go_L2_eq, hl2, hin', wx, k1', a1, hl3, ho3, hc3, hl2c, r05_Len_call, hLen, zy, simprocAttr]
    · have hle : metres - gone ≤ 0 := by omega
      have h2 : metres - (metres - gone) = gone := by omega
      have hgo : goN l right (n + 1) v (metres - gone) = (v, metres - gone) := by
        unfold goN; rw [if_pos hle]
      rw [hgo]
      refine ⟨c, bl, ?_, hc⟩
      simp only [h2]
      rw [r18_Go_R0_eq]
      simp only [r18_Go_B0, r18_Go_K0_a, h1, gt_iff_lt, hlv, zy, simprocAttr]
end Go.Proofs.Ytfblegjbmhgepaa.Zt
end
section
namespace Go.Proofs.Ytfblegjbmhgepaa.Zt
open Go Go.Zc
set_option maxRecDepth 10000

/-- A row written over. -/
theorem set_row {w : List Vh} {i : Nat} (hi : i < w.length) (bx : List (Nat × List CV)) (bl : List Blk) (m : Nat) (a b d c : CV) (ho : ones [a, b, d, c] = true) (hl : CV.locs [a, b, d, c] = false) :
    stE 4 (i * 4) (.agg [a, b, d, c]) ⟨bx, bl⟩ (.blk m) (w.flatMap fVh) = some ⟨bx, bl.set m (.cells ((w.take i).flatMap fVh ++ [a, b, d, c] ++ (w.drop (i + 1)).flatMap fVh))⟩ := by
  have hs : w = w.take i ++ w[i] :: w.drop (i + 1) := by rw [← List.drop_eq_getElem_cons hi, List.take_append_drop]
  have hlt : ((w.take i).flatMap fVh).length = i * 4 := by rw [flatVh.length, List.length_take, Nat.min_eq_left (by omega)]
  have h1 : w.flatMap fVh = (w.take i).flatMap fVh ++ fVh w[i] ++ (w.drop (i + 1)).flatMap fVh := by
    exact (congrArg (List.flatMap fVh) hs).trans (by rw [List.flatMap_append, List.flatMap_cons, List.append_assoc])
  have h2 := setMany_app [a, b, d, c] (fVh w[i]) ((w.take i).flatMap fVh) ((w.drop (i + 1)).flatMap fVh) rfl
  rw [hlt] at h2
  unfold stE
  rw [if_pos ⟨rfl, by rw [flatVh.length]; omega, ho, .inr hl⟩]
  simp only [CV.cells]
  rw [h1, h2]
  rfl

set_option maxHeartbeats 4000000 in
theorem rgo_F (l : Lay) (hl : Lens l) (w : List Vh) (hm : w.length ≤ 1000) (hs : ∀ v ∈ w, Sound l v ∧ Front l v) (id metres : Int) (hmm : metres ≤ 1000000) (right : List Bool) (H : Heap) :
    r18_Go_F false H [.agg (layC l), sl fVh w, .int .i64 id, .int .i64 metres, sl fB right] = match findW w id with
      | none => some (.tup [sl fVh w, .int .i64 0, .int .i64 7], H)
      | some i => match w[i]? with
        | none => none
        | some v => some (.tup [sl fVh (w.set i (goV l right v metres).1), .int .i64 (goV l right v metres).2, .int .i64 0], H) := by
  have hf := fun st H => rfind_F w (by unfold Zc.small; omega) id st H
  rw [r18_Go_F_eq]
  cases h : findW w id with
  | none =>
    simp only [h, ixC] at hf
    simp only [r18_Go_C, r18_find_call, hf, zy, simprocAttr]
  | some i =>
    simp only [h, ixC] at hf
    obtain ⟨hi, _⟩ := findW_some h
    have h0 : ¬ ((i : Int) < 0) := by omega
    obtain ⟨hS, hF⟩ := hs _ (List.getElem_mem hi)
    have hia := iaddr_atVh (k := .i64) hi
    obtain ⟨c2, bl2, q1, q2⟩ := rgo_loop l hl w metres hmm right i (2 * metres.toNat + 2) w[i] (sl fE w[i].way) [] 0 (.inl rfl) hS (.inl hF) (by split <;> omega) (by omega) (by omega)
    obtain ⟨s1, s2, s3, s4⟩ := go_sound hl.lo hl.one hl.back (right := right) (2 * metres.toNat + 2) (v := w[i]) (left := metres) hS (.inl hF) (by split <;> omega)
    rw [Int.sub_zero] at q1 q2
    simp only [List.getElem?_eq_getElem hi]
    have hgo : goV l right w[i] metres = ({ (goN l right (2 * metres.toNat + 2) w[i] metres).1 with way := underW l (goN l right (2 * metres.toNat + 2) w[i] metres).1 }, metres - (goN l right (2 * metres.toNat + 2) w[i] metres).2) := rfl
    rw [hgo]
    generalize goN l right (2 * metres.toNat + 2) w[i] metres = R at q1 q2 s1 s2 s3 s4 ⊢
    obtain ⟨v2, left⟩ := R
    simp only at q1 q2 s1 s2 s3 s4 ⊢
    have hlv := q2.locv
    have hone := q2.one
    have hU := fun st H => runder_F l hl v2 (s1.fits hl) st H
    have hsn := fun bx => q2.snapV flatE bx (snapN ⟨bx, bl2⟩ false false 7) (fun x c hc => shows_E _ x c hc 6)
    have hule := underN_le l (v2.ahead + v2.length) v2.way
    obtain ⟨c3, k1, k2, k3⟩ := q2.take flatE (underN l (v2.ahead + v2.length) v2.way) hule
    have k1' := k1 .i64
    have hl3 := k2.locv
    have ho3 := k2.one
    have hc3 := k2.cells
    have hu3 := k2.und
    obtain ⟨v1, bl3, g1, g2, g3, g4, g5⟩ := (Own.nil fVh 4 bl2).appSl flatVh (bytes := 48) (zero := [.int .i64 0, .int .i64 0, .int .i64 0, .nils]) (by omega) rfl rfl w (by simp; omega)
    simp only [List.nil_append] at g2
    obtain ⟨m, m1, m2, m3⟩ := g2.iaddr flatVh (k := .i64) hi
    have hm2 : m = bl2.length := by
      rcases g5 with g5 | g5
      · rw [m3] at g5; cases g5
      · rw [m3] at g5; exact Option.some.inj g5
    have hk3 : Held fE 2 bl3 c3 (underW l v2) := k2.keep fun k b hb _ => g4 k b hb (fun e => by cases e)
    have hmb : m < bl3.length := (List.getElem?_eq_some_iff.1 m2).1
    have hget : ∀ bx, Heap.get ⟨bx, bl3⟩ (.blk m) = some (w.flatMap fVh) := fun bx => get_blk bx bl3 m _ m2
    have hst := fun bx => set_row hi bx bl3 m (.int .i64 v2.id) (.int .i64 v2.length) (.int .i64 v2.ahead) c3 (by rw [ones_cons, ones_cons, ones_cons, ones_cons, ho3]; rfl) (by simp only [CV.locs, hl3]; rfl)
    have hk4 : Held fE 2 (bl3.set m (.cells ((w.take i).flatMap fVh ++ [.int .i64 v2.id, .int .i64 v2.length, .int .i64 v2.ahead, c3] ++ (w.drop (i + 1)).flatMap fVh))) c3 (underW l v2) := hk3.keep fun k b hb hck => by
      have := k2.lt hck
      rw [List.getElem?_set_ne (by omega)]
      exact hb
    have hsh : ShowsL (bl3.set m (.cells ((w.take i).flatMap fVh ++ [.int .i64 v2.id, .int .i64 v2.length, .int .i64 v2.ahead, c3] ++ (w.drop (i + 1)).flatMap fVh))) ((w.take i).flatMap fVh ++ [.int .i64 v2.id, .int .i64 v2.length, .int .i64 v2.ahead, c3] ++ (w.drop (i + 1)).flatMap fVh) ((w.set i { v2 with way := underW l v2 }).flatMap fVh) := by
      rw [show w.set i { v2 with way := underW l v2 } = w.take i ++ { v2 with way := underW l v2 } :: w.drop (i + 1) by rw [List.set_eq_take_append_cons_drop, if_pos hi], List.flatMap_append, List.flatMap_cons, ← List.append_assoc]
      refine ((shows_Vhs _ _).app ?_).app (shows_Vhs _ _)
      exact ⟨shows_int _ _ _, shows_int _ _ _, shows_int _ _ _, hk4.shows flatE (fun H x => shows_E H x), trivial⟩
    have hsn2 := fun bx => os_snap (m := m) (sz := 4) (n := w.length) (by rw [List.getElem?_set_self hmb]) hsh (by rw [flatVh.length, List.length_set]) bx
    have hres : CV.vs ((w.set i { v2 with way := underW l v2 }).flatMap fVh) w.length = sl fVh (w.set i { v2 with way := underW l v2 }) := by simp [sl]
    rw [hres] at hsn2
    rw [m3] at g1 m1
    simp only [fVh] at hU q1
    simp only [r18_Go_C, r18_find_call, hf, h0, hia, r18_Go_L0_eq, q1, hlv, hone, r18_under_call, hsn, hU, k1', hl3, ho3, hc3, hu3, g1, m1, hget, hst, hsn2, zy, simprocAttr]

theorem rsplit_loop (l : Lay) (hl : Lens l) (w : List Vh) (i : Nat) (X : List CV) (hX : CV.locs X = false) (other behind : Int) : ∀ (r : List Ed) (b : Int), 0 ≤ b → b ≤ 1000000 → b < sumL l (r.map Ed.s) →
    r18_Split_R0 ([(1, sl fVh w), (5, .op (.loc 5) 0), (12, .int .i64 i), (13, .op (.loc 13) 0), (14, .op (.loc 14) 0)], ⟨[(5, layC l), (13, X), (14, [.int .i64 other, .int .i64 behind, .int .i64 b, sl fE r])], []⟩) =
      some (.norm, [(1, sl fVh w), (5, .op (.loc 5) 0), (12, .int .i64 i), (13, .op (.loc 13) 0), (14, .op (.loc 14) 0)], ⟨[(5, layC l), (13, X), (14, [.int .i64 other, .int .i64 behind, .int .i64 (backW l b r).1, sl fE (backW l b r).2])], []⟩) := by
  intro r
  induction r with
  | nil => intro b h1 _ h2; simp only [List.map_nil, sumL] at h2; omega
  | cons x r ih =>
    intro b h1 hb h2
    simp only [List.map_cons, sumL] at h2
    have hia : iaddrC 2 (sl fE (x :: r)) (.int .i64 0) = some (.vp (.int .i64 x.s :: .int .i64 x.e :: r.flatMap fE)) := iaddr_midE .i64 [] r x
    have hL := fun st H => len_F l x.s st H
    have hlo := hl.lo x.s
    have hhi := hl.hi x.s
    have hsl : slcC 2 (sl fE (x :: r)) (some (.int .i64 1)) none = some (sl fE r) := by
      have := slc_lo flatE (x :: r) 1 (by simp) .i64
      simpa using this
    rw [r18_Split_R0_eq]
    unfold backW
    by_cases hc : lenAt l x.s ≤ b
    · have hw : IntKind.i64.wrap (b - lenAt l x.s) = b - lenAt l x.s := wrap64 (by omega) (by omega)
      have ih' := ih (b - lenAt l x.s) (by omega) (by omega) (by omega)
      rw [if_pos hc]
      simp only [r18_Split_B0, r18_Split_K0_a, hia, hsl, r05_Len_call, hL, ge_iff_le, hc, hw, hX, ih', zy, simprocAttr]
    · rw [if_neg hc]
      simp only [r18_Split_B0, r18_Split_K0_a, hia, r05_Len_call, hL, ge_iff_le, hc, hX, zy, simprocAttr]

set_option maxHeartbeats 4000000 in
theorem rsplit_F (l : Lay) (hl : Lens l) (w : List Vh) (hm : w.length ≤ 1000) (hs : ∀ v ∈ w, Sound l v ∧ Front l v) (id other behind : Int) (H : Heap) :
    r18_Split_F false H [.agg (layC l), sl fVh w, .int .i64 id, .int .i64 other, .int .i64 behind] = match findW w id with
      | none => some (.tup [sl fVh w, .int .i64 7], H)
      | some i => match w[i]? with
        | none => none
        | some v => if (findW w other).isSome ∨ 6 ≤ w.length then some (.tup [sl fVh w, .int .i64 8], H) else if behind < 1 ∨ v.length ≤ behind then some (.tup [sl fVh w, .int .i64 1], H) else
            some (.tup [sl fVh (w.set i (splitV l v other behind).1 ++ [(splitV l v other behind).2]), .int .i64 0], H) := by
  have hf := fun st H => rfind_F w (by unfold Zc.small; omega) id st H
  have hfo := fun st H => rfind_F w (by unfold Zc.small; omega) other st H
  cases h : findW w id with
  | none =>
    simp only [h, ixC] at hf
    rw [r18_Split_F_eq]
    simp only [r18_Split_C, r18_find_call, hf, zy, simprocAttr]
  | some i =>
    simp only [h, ixC] at hf
    obtain ⟨hi, _⟩ := findW_some h
    have h0 : ¬ ((i : Int) < 0) := by omega
    simp only [List.getElem?_eq_getElem hi]
    rcases ixC_neg (findW w other) with ⟨j, ho, hx⟩ | ⟨ho, hx⟩
    · have hj : (0 : Int) ≤ j := by omega
      simp only [ho, ixC] at hfo
      rw [if_pos (.inl (by rw [ho]; rfl))]
      rw [r18_Split_F_eq]
      simp only [r18_Split_C, r18_find_call, hf, hfo, h0, hj, ge_iff_le, zy, simprocAttr]
    · have hj : ¬ (0 : Int) ≤ -1 := by omega
      simp only [ho, ixC] at hfo
      by_cases h6 : 6 ≤ w.length
      · have h6' : (6 : Int) ≤ w.length := by omega
        rw [if_pos (.inr h6)]
        rw [r18_Split_F_eq]
        simp only [r18_Split_C, r18_find_call, hf, hfo, h0, hj, h6', ge_iff_le, zy, simprocAttr]
      · have h6' : ¬ (6 : Int) ≤ w.length := by omega
        rw [if_neg (by rw [ho]; simp [h6])]
        have hia := iaddr_atVh (k := .i64) hi
        by_cases hb1 : behind < 1
        · rw [if_pos (.inl hb1)]
          rw [r18_Split_F_eq]
          simp only [r18_Split_C, r18_find_call, hf, hfo, h0, hj, h6', hb1, ge_iff_le, zy, simprocAttr]
        · by_cases hb2 : w[i].length ≤ behind
          · rw [if_pos (.inr hb2)]
            rw [r18_Split_F_eq]
            simp only [r18_Split_C, r18_find_call, hf, hfo, h0, hj, h6', hb1, hb2, hia, ge_iff_le, zy, simprocAttr]
          · rw [if_neg (by simp [hb1, hb2])]
            obtain ⟨hS, hF⟩ := hs _ (List.getElem_mem hi)
            have hfit := hS.fits hl
            have ha1 := hfit.ahead; have ha2 := hfit.length
            obtain ⟨f1, f2⟩ := hS.few hl
            have hroom := hS.room
            have w1 : IntKind.i64.wrap (w[i].length - behind) = w[i].length - behind := wrap64 (by omega) (by omega)
            have w2 : IntKind.i64.wrap (w[i].ahead + (w[i].length - behind)) = w[i].ahead + w[i].length - behind := by rw [wrap64 (by omega) (by omega)]; omega
            have e := rsplit_loop l hl w i [.int .i64 w[i].id, .int .i64 (w[i].length - behind), .int .i64 w[i].ahead, sl fE w[i].way] rfl other behind w[i].way (w[i].ahead + w[i].length - behind) (by omega) (by omega) (by omega)
            have hS' : Sound l { w[i] with length := w[i].length - behind } := ⟨by simp only; omega, hS.ahead, by simp only; omega, hS.once, hS.there, hS.link⟩
            have hU := fun st H => runder_F l hl { w[i] with length := w[i].length - behind } (hS'.fits hl) st H
            have hule := underN_le l (w[i].ahead + (w[i].length - behind)) w[i].way
            have hslc := slc_hi flatE w[i].way (underN l (w[i].ahead + (w[i].length - behind)) w[i].way) hule .i64
            obtain ⟨v1, bl1, g1, g2, g3, g4, g5⟩ := (Own.nil fVh 4 []).appSl flatVh (bytes := 48) (zero := [.int .i64 0, .int .i64 0, .int .i64 0, .nils]) (by omega) rfl rfl w (by simp; omega)
            simp only [List.nil_append] at g2
            obtain ⟨m, m1, cs, m2, m3, bl2, m4, m5, m6, m7⟩ := g2.set flatVh hi (splitV l w[i] other behind).1 (.agg (fVh (splitV l w[i] other behind).1)) rfl
            obtain ⟨v2, bl3, n1, n2, n3, n4, n5⟩ := m5.app1 flatVh (bytes := 48) (zero := [.int .i64 0, .int .i64 0, .int .i64 0, .nils]) (by omega) rfl rfl (splitV l w[i] other behind).2 (by simp; omega)
            have hsn := fun bx => n2.snapV flatVh bx false (snapN ⟨bx, bl3⟩ false false 7) (fun x c hc => by
              simp only [fVh, List.mem_cons, List.not_mem_nil, or_false] at hc
              rcases hc with rfl | rfl | rfl | rfl <;> rfl)
            have m1' := m1 .i64
            have hch := g2.chkV; have hch2 := m5.chkV; have hch3 := n2.chkV
            have hl1 := g2.locv; have hl2 := n2.locv
            simp only [fVh, splitV, underW] at hU n1 m4 hsn ⊢
            rw [r18_Split_F_eq]
            simp only [r18_Split_C, r18_find_call, hf, hfo, h0, hj, h6', hb1, hb2, hia, ge_iff_le, w1, w2, r18_Split_L0_eq, e, r18_under_call, hU, hslc, g1, m1', m2, m4, n1, hsn, hl1, hl2, hch, hch2, hch3, zy, simprocAttr]
end Go.Proofs.Ytfblegjbmhgepaa.Zt
end
section
namespace Go.Proofs.Ytfblegjbmhgepaa.Zt
open Go Go.Zc
set_option maxRecDepth 10000

def carTrail (l : Lay) (c : Car) : List Int := walk l (c.sec % l.secs.length) (1 - c.end' % 2) c.turns ((1 + c.long % 4).toNat : Nat)
def carAhead (l : Lay) (c : Car) : Int := c.ahead % lenAt l (c.sec % l.secs.length)
def carLen (l : Lay) (c : Car) : Int := 1 + c.length * (sumL l (carTrail l c) - carAhead l c - 1) / 256
def carsW (l : Lay) : Nat → List Car → List Vh → List Vh
  | _, [], w => w
  | i, c :: r, w => if 6 ≤ i then w else carsW l (i + 1) r (addV l w i (carLen l c) (carAhead l c) (c.end' % 2) (carTrail l c)).1
def begin (s : Story) : Pl := ⟨full s.d, carsW (full s.d) 0 s.cars [], fun _ => false, fun _ => -1, List.replicate (full s.d).pts.length false⟩

theorem full_Lens (d : Draft) : Lens (full d) := by
  have hg := full_good d (full_ok d)
  have hz : ∀ s, lenAt (full d) s = 0 ∨ (1 ≤ lenAt (full d) s ∧ lenAt (full d) s ≤ 1000) := by
    intro s
    by_cases h : lenAt (full d) s = 0
    · exact .inl h
    · obtain ⟨h0, h1⟩ := lenAt_in h
      exact .inr (hg.lenAt h0 h1)
  refine ⟨hg.ok, hg.pos, ?_, fun s => ?_, fun s => ?_, fun s h0 h1 => (hg.lenAt h0 h1).1, full_back d, full_apart d⟩
  · rw [full_secs_len]
    unfold mkEnds
    split
    · simp only [List.length_map, List.length_range, mkN]; omega
    · split
      · simp
      · split <;> simp
  · have := hz s; omega
  · have := hz s; omega

def upN : Nat → Nat → Pl → Pl
  | 0, _, p => p
  | n + 1, k, p => upN n (k + 1) (p.setUp k (-1))
theorem begin_loop0 (wv : CV) (B : List Blk) (a : Nat) (ha : a < B.length) (X : List CV) (hX : CV.locs X = false) : ∀ (n k : Nat) (p : Pl), k + n = 6 →
    r18_Begin_R0 ([(1, .op (.loc 1) 0), (3, .op (.blk a) 0), (4, .int .i64 k)], ⟨[(1, X)], B.set a (.cells (playR p wv .nils .nils))⟩) =
      some (.norm, [(1, .op (.loc 1) 0), (3, .op (.blk a) 0)], ⟨[(1, X)], B.set a (.cells (playR (upN n k p) wv .nils .nils))⟩)
  | 0, k, p, hk => by
    have h1 : ¬ ((k : Int) < 6) := by omega
    rw [r18_Begin_R0_eq]
    simp only [r18_Begin_B0, r18_Begin_K0_a, h1, hX, upN, zy, simprocAttr]
  | n + 1, k, p, hk => by
    have h1 : ((k : Int) < 6) := by omega
    have h2 : ((0 : Int) ≤ k) := by omega
    have hw := wrapN (n := k) (by unfold Zc.small; omega)
    have ih := begin_loop0 wv B a ha X hX n (k + 1) (p.setUp k (-1)) (by omega)
    have hg := fun bx => get_set bx B a (playR p wv .nils .nils) ha
    have hst := fun bx => st_play bx B a p (p.setUp k (-1)) wv wv .nils .nils (17 + k) (.int .i64 (-1)) (by omega) rfl rfl rfl (play_setUp p wv .nils .nils (by omega) (-1))
    have hn : nchkC (.op (.blk a) 0) = some (.op (.blk a) 0) := rfl
    rw [r18_Begin_R0_eq]
    unfold upN
    simp only [r18_Begin_B0, r18_Begin_K0_a, h1, h2, hw, hX, hn, hg, hst, ih, Int.toNat_natCast, Nat.mul_one, zy, simprocAttr]

theorem begin_loop4 (wv : CV) (l : Lay) (hl : Lens l) (X Y : List CV) (hX : CV.locs X = false) (hY : CV.locs Y = false) (B : List Blk) (a : Nat) (ha : a < B.length) (p : Pl) (hp : p.l = l) (i : Nat) (dir : Int) (trail : List Int) (ht : trail.length ≤ 1000) : ∀ (S P : List Int) (r : Int), trail = P ++ S → 0 ≤ r → r ≤ 1000 * P.length →
    r18_Begin_R4 ([(1, .op (.loc 1) 0), (3, .op (.blk a) 0), (5, .int .i64 i), (6, .op (.loc 6) 0), (8, .int .i64 dir), (9, sl fI trail), (10, .int .i64 r), (11, .int .i64 P.length)], ⟨[(1, X), (6, Y)], B.set a (.cells (playR p wv .nils .nils))⟩) =
      some (.norm, [(1, .op (.loc 1) 0), (3, .op (.blk a) 0), (5, .int .i64 i), (6, .op (.loc 6) 0), (8, .int .i64 dir), (9, sl fI trail), (10, .int .i64 (r + sumL l S))], ⟨[(1, X), (6, Y)], B.set a (.cells (playR p wv .nils .nils))⟩) := by
  intro S
  induction S with
  | nil =>
    intro P r hP _ _
    have h1 : ¬ ((P.length : Int) < trail.length) := by rw [hP]; simp
    rw [r18_Begin_R4_eq]
    simp only [r18_Begin_B4, r18_Begin_K4_a, h1, hX, hY, sumL, Int.add_zero, zy, simprocAttr]
  | cons x S ih =>
    intro P r hP hr hr2
    have hpl : P.length + 1 ≤ 1000 := by rw [hP] at ht; simp at ht; omega
    have h1 : ((P.length : Int) < trail.length) := by rw [hP]; simp; omega
    have hw := wrapN (n := P.length) (by unfold Zc.small; omega)
    have hia := iaddr_midI .i64 P S x
    rw [← hP] at hia
    have hlo := hl.lo x
    have hhi := hl.hi x
    have hw2 : IntKind.i64.wrap (r + lenAt l x) = r + lenAt l x := wrap64 (by omega) (by omega)
    have hF := fun st H => len_F l x st H
    have ih' := ih (P ++ [x]) (r + lenAt l x) (by rw [hP]; simp) (by omega) (by simp; omega)
    rw [show (P ++ [x]).length = P.length + 1 by simp] at ih'
    have hg := fun bx => get_set bx B a (playR p wv .nils .nils) ha
    have hpl2 := play_l p wv .nils .nils
    rw [hp] at hpl2
    have hn : nchkC (.op (.blk a) 0) = some (.op (.blk a) 0) := rfl
    rw [r18_Begin_R4_eq]
    simp only [r18_Begin_B4, r18_Begin_K4_a, h1, hia, hw, hw2, hn, hg, hpl2, hX, hY, r05_Len_call, hF, ih', sumL, Int.add_assoc, zy, simprocAttr]
end Go.Proofs.Ytfblegjbmhgepaa.Zt
end
section
namespace Go.Proofs.Ytfblegjbmhgepaa.Zt
open Go Go.Zc
set_option maxRecDepth 10000

theorem sumL_nn {l : Lay} (hl : Lens l) : ∀ r : List Int, 0 ≤ sumL l r
  | [] => by simp [sumL]
  | s :: r => by
    have := sumL_nn hl r
    have := hl.lo s
    simp only [sumL]
    omega
structure CarIs (l : Lay) (c : Car) : Prop where
  at0 : 0 ≤ c.sec % l.secs.length
  at1 : c.sec % l.secs.length < l.secs.length
  len : 1 ≤ lenAt l (c.sec % l.secs.length) ∧ lenAt l (c.sec % l.secs.length) ≤ 1000
  trail : ∃ t, carTrail l c = (c.sec % l.secs.length) :: t
  few : (carTrail l c).length ≤ 5
  ahead : 0 ≤ carAhead l c ∧ carAhead l c < lenAt l (c.sec % l.secs.length)
  room : lenAt l (c.sec % l.secs.length) ≤ sumL l (carTrail l c) ∧ sumL l (carTrail l c) ≤ 5000
  length : 1 ≤ carLen l c ∧ carLen l c ≤ 6000
theorem car_is {l : Lay} (hl : Lens l) {c : Car} (hc : c.ok) : CarIs l c := by
  have hp := hl.pos
  have h0 : 0 ≤ c.sec % l.secs.length := Int.emod_nonneg _ (by omega)
  have h1 : c.sec % l.secs.length < l.secs.length := Int.emod_lt_of_pos _ (by omega)
  have h2 := hl.one _ h0 h1
  have h3 := hl.hi (c.sec % l.secs.length)
  have h4 : 0 ≤ carAhead l c := Int.emod_nonneg _ (by omega)
  have h5 : carAhead l c < lenAt l (c.sec % l.secs.length) := Int.emod_lt_of_pos _ (by omega)
  obtain ⟨t, ht⟩ := walk_head l (c.sec % l.secs.length) (1 - c.end' % 2) c.turns ((1 + c.long % 4).toNat : Nat)
  have ht' : carTrail l c = (c.sec % l.secs.length) :: t := ht
  have h6 : (carTrail l c).length ≤ 5 := by
    have := walk_len l (c.sec % l.secs.length) (1 - c.end' % 2) c.turns (1 + c.long % 4).toNat
    have hlo := hc.long
    unfold carTrail; omega
  have h7 := sumL_le hl (carTrail l c)
  have h8 : lenAt l (c.sec % l.secs.length) ≤ sumL l (carTrail l c) := by
    rw [ht']
    have := sumL_nn hl t
    simp only [sumL]; omega
  have hle := hc.length
  have h9 : 0 ≤ c.length * (sumL l (carTrail l c) - carAhead l c - 1) := Int.mul_nonneg hle.1 (by omega)
  have h10 : c.length * (sumL l (carTrail l c) - carAhead l c - 1) ≤ 255 * 5000 := by
    refine Int.le_trans (Int.mul_le_mul_of_nonneg_right hle.2 (by omega)) ?_
    omega
  refine ⟨h0, h1, ⟨h2, h3⟩, ⟨t, ht'⟩, h6, ⟨h4, h5⟩, ⟨h8, by omega⟩, ?_, ?_⟩
  · unfold carLen; omega
  · unfold carLen; omega
theorem addV_len (l : Lay) (w : List Vh) (id length ahead dir : Int) (trail : List Int) (h : w.length ≤ 6) : (addV l w id length ahead dir trail).1.length ≤ 6 := by
  unfold addV
  split
  · exact h
  · rename_i h1
    split
    · simp only [List.length_append, List.length_cons, List.length_nil]; omega
    · exact h

set_option maxHeartbeats 4000000 in
theorem begin_loop2 (s : Story) (hs : s.ok) (l : Lay) (hl : Lens l) (B : List Blk) (a : Nat) (ha : a < B.length) : ∀ (S P : List Car) (p : Pl) (wv : CV), s.cars = P ++ S → p.l = l → p.w.length ≤ 6 → Fz fVh wv p.w →
    ∃ wv',     r18_Begin_R2 ([(1, .op (.loc 1) 0), (3, .op (.blk a) 0), (5, .int .i64 P.length)], ⟨[(1, storyC s)], B.set a (.cells (playR p wv .nils .nils))⟩) =
      some (.norm, [(3, .op (.blk a) 0)], ⟨[], B.set a (.cells (playR { p with w := carsW l P.length S p.w } wv' .nils .nils))⟩) ∧ Fz fVh wv' (carsW l P.length S p.w) := by
  intro S
  have hsl : CV.locs (storyC s) = false := rfl
  induction S with
  | nil =>
    intro P p wv hP hpl hpw hwv
    have h1 : ¬ ((P.length : Int) < s.cars.length) := by rw [hP]; simp
    refine ⟨wv, ?_, hwv⟩
    rw [r18_Begin_R2_eq]
    simp only [r18_Begin_B2, r18_Begin_K2_a, h1, carsW, zy, simprocAttr]
  | cons c S ih =>
    intro P p wv hP hpl hpw hwv
    have h1 : ((P.length : Int) < s.cars.length) := by rw [hP]; simp; omega
    unfold carsW
    by_cases h6 : 6 ≤ P.length
    · have h6' : ¬ ((P.length : Int) < 6) := by omega
      rw [if_pos h6]
      refine ⟨wv, ?_, hwv⟩
      rw [r18_Begin_R2_eq]
      simp only [r18_Begin_B2, r18_Begin_K2_a, h1, h6', zy, simprocAttr]
    · have h6' : ((P.length : Int) < 6) := by omega
      rw [if_neg h6]
      have hcm : c ∈ s.cars := by rw [hP]; simp
      have hc := hs.car c hcm
      have ci := car_is hl hc
      have q1 := hc.sec; have q2 := hc.end'; have q3 := hc.length; have q4 := hc.ahead; have q5 := hc.long
      have hw := wrapN (n := P.length) (by unfold Zc.small; omega)
      have hia := iaddr_midCar .i64 P S c
      rw [← hP] at hia
      have hsn := hl.pos
      have hfw := hl.few
      obtain ⟨t, ht⟩ := ci.trail
      have e1 := ci.ahead; have e2 := ci.room; have e3 := ci.length; have e4 := ci.len
      have k1 : IntKind.i64.wrap c.sec = c.sec := wrap64 (by omega) (by omega)
      have k2 : c.sec.tmod (l.secs.length : Int) = c.sec % (l.secs.length : Int) := Int.tmod_eq_emod_of_nonneg q1.1
      have k3 : ¬ ((l.secs.length : Int) = 0) := by omega
      have k4 : c.end'.tmod 2 = c.end' % 2 := Int.tmod_eq_emod_of_nonneg q2.1
      have k5 : IntKind.i64.wrap (c.end' % 2) = c.end' % 2 := wrap64 (by omega) (by omega)
      have k6 : IntKind.i64.wrap (1 - c.end' % 2) = 1 - c.end' % 2 := wrap64 (by omega) (by omega)
      have k7 : c.long.tmod 4 = c.long % 4 := Int.tmod_eq_emod_of_nonneg q5.1
      have k8 : IntKind.i64.wrap (c.long % 4) = c.long % 4 := wrap64 (by omega) (by omega)
      have k9 : IntKind.i64.wrap (1 + c.long % 4) = ((1 + c.long % 4).toNat : Nat) := by rw [wrap64 (by omega) (by omega)]; omega
      have k10 : IntKind.i64.wrap c.ahead = c.ahead := wrap64 (by omega) (by omega)
      have k11 : c.ahead.tmod (lenAt l (c.sec % l.secs.length)) = carAhead l c := Int.tmod_eq_emod_of_nonneg q4.1
      have k12 : ¬ (lenAt l (c.sec % l.secs.length) = 0) := by omega
      have k13 : IntKind.i64.wrap c.length = c.length := wrap64 (by omega) (by omega)
      have k14 : IntKind.i64.wrap (sumL l (carTrail l c) - carAhead l c) = sumL l (carTrail l c) - carAhead l c := wrap64 (by omega) (by omega)
      have k15 : IntKind.i64.wrap (sumL l (carTrail l c) - carAhead l c - 1) = sumL l (carTrail l c) - carAhead l c - 1 := wrap64 (by omega) (by omega)
      have hmul0 : 0 ≤ c.length * (sumL l (carTrail l c) - carAhead l c - 1) := Int.mul_nonneg q3.1 (by omega)
      have hmul1 : c.length * (sumL l (carTrail l c) - carAhead l c - 1) ≤ 255 * 5000 := by
        refine Int.le_trans (Int.mul_le_mul_of_nonneg_right q3.2 (by omega)) ?_
        omega
      have k16 : IntKind.i64.wrap (c.length * (sumL l (carTrail l c) - carAhead l c - 1)) = c.length * (sumL l (carTrail l c) - carAhead l c - 1) := wrap64 (by omega) (by omega)
      have k17 : IntKind.i64.wrap ((c.length * (sumL l (carTrail l c) - carAhead l c - 1)).tdiv 256) = c.length * (sumL l (carTrail l c) - carAhead l c - 1) / 256 := by
        rw [Int.tdiv_eq_ediv_of_nonneg hmul0, wrap64 (by omega) (by omega)]
      have k18 : IntKind.i64.wrap (1 + c.length * (sumL l (carTrail l c) - carAhead l c - 1) / 256) = carLen l c := wrap64 (by omega) (by omega)
      have hW : ∀ st H, r05_Walk_F st H [.agg (layC l), .int .i64 (c.sec % l.secs.length), .int .i64 (1 - c.end' % 2), sl fU c.turns, .int .i64 ((1 + c.long % 4).toNat : Nat)] = some (sl fI (carTrail l c), H) :=
        fun st H => walk_F l hl.ok (c.sec % l.secs.length) (1 - c.end' % 2) c.turns hc.turn (1 + c.long % 4).toNat (by unfold Zc.small; omega) H st
      have hi0 : iaddrC 1 (sl fI (carTrail l c)) (.int .i64 0) = some (.vp (.int .i64 (c.sec % l.secs.length) :: t.flatMap fI)) := by
        rw [ht]; exact iaddr_midI .i64 [] t _
      have hL := fun st H => len_F l (c.sec % l.secs.length) st H
      have h4 := begin_loop4 wv l hl (storyC s) (fCar c) rfl rfl B a ha p hpl P.length (c.end' % 2) (carTrail l c) (by have := ci.few; omega) (carTrail l c) [] 0 rfl (by omega) (by simp)
      simp only [List.length_nil, Int.natCast_zero, Int.zero_add] at h4
      have hA := fun H => radd_F l hl p.w (by omega) P.length (carLen l c) (carAhead l c) (c.end' % 2) (carTrail l c) (by have := ci.few; unfold Zc.small; omega) (by omega) H
      have hg := fun bx => get_set bx B a (playR p wv .nils .nils) ha
      have g1 := play_l p wv .nils .nils
      have g2 := play_w p wv .nils .nils
      have g3 := play_secs p wv .nils .nils
      rw [hpl] at g1 g3
      have hst := fun bx => st_play bx B a p { p with w := (addV l p.w P.length (carLen l c) (carAhead l c) (c.end' % 2) (carTrail l c)).1 } wv (sl fVh (addV l p.w P.length (carLen l c) (carAhead l c) (c.end' % 2) (carTrail l c)).1) .nils .nils 10 (sl fVh (addV l p.w P.length (carLen l c) (carAhead l c) (c.end' % 2) (carTrail l c)).1) (by omega) rfl rfl rfl (play_setW p wv .nils .nils _)
      obtain ⟨wv', ih', hwv'⟩ := ih (P ++ [c]) { p with w := (addV l p.w P.length (carLen l c) (carAhead l c) (c.end' % 2) (carTrail l c)).1 } (sl fVh (addV l p.w P.length (carLen l c) (carAhead l c) (c.end' % 2) (carTrail l c)).1) (by rw [hP]; simp) hpl (addV_len _ _ _ _ _ _ _ hpw) (.inl rfl)
      rw [show (P ++ [c]).length = P.length + 1 by simp] at ih' hwv'
      refine ⟨wv', ?_, hwv'⟩
      have hsW := hwv.snapV
      have hlW := hwv.locv
      have hrW := hwv.ref
      have hn : nchkC (.op (.blk a) 0) = some (.op (.blk a) 0) := rfl
      rw [r18_Begin_R2_eq]
      simp only [r18_Begin_B2, r18_Begin_K2_a, h1, h6', hia, hn, hg, g1, g2, g3, k1, k2, k3, k4, k5, k6, k7, k8, k9, k10, k11, k12, k13, k14, k15, k16, k17, k18, r05_Walk_call, hW, hi0, r05_Len_call, hL, r18_Begin_L4_eq, h4, r18_Add_call, hA, hsW, hlW, hrW, hst, hw, ih', hsl, zy, simprocAttr]

set_option maxHeartbeats 2000000 in
theorem begin_F (s : Story) (hs : s.ok) (bl : List Blk) :
    ∃ wv, Fz fVh wv (begin s).w ∧ ∀ bx, r18_Begin_F bx bl [.agg (storyC s)] = some (.op (.blk bl.length) 0, ⟨bx, bl ++ [.cells (playC (begin s) wv .nils)]⟩) := by
  have hl := full_Lens s.d
  have hF := fun H => full_F s.d hs.d H
  have h0 := begin_loop0 .nils (bl ++ [Blk.dead]) bl.length (by simp) (storyC s) rfl 6 0 ⟨full s.d, [], fun _ => false, fun _ => 0, []⟩ rfl
  have hup : playR (upN 6 0 ⟨full s.d, [], fun _ => false, fun _ => 0, []⟩) .nils .nils .nils = playR ⟨full s.d, [], fun _ => false, fun _ => -1, []⟩ .nils .nils .nils := rfl
  obtain ⟨wv, h2, hwv⟩ := begin_loop2 s hs (full s.d) hl (bl ++ [Blk.dead]) bl.length (by simp) s.cars [] ⟨full s.d, [], fun _ => false, fun _ => -1, []⟩ .nils rfl rfl (by simp) (.inr ⟨rfl, rfl⟩)
  simp only [List.length_nil, Int.natCast_zero] at h0 h2 hwv
  refine ⟨wv, hwv, fun bx => ?_⟩
  rw [hup] at h0
  have hg := fun bx => get_set bx (bl ++ [Blk.dead]) bl.length (playR ⟨full s.d, carsW (full s.d) 0 s.cars [], fun _ => false, fun _ => -1, []⟩ wv .nils .nils) (by simp)
  have hpts := play_pts ⟨full s.d, carsW (full s.d) 0 s.cars [], fun _ => false, fun _ => -1, []⟩ wv .nils .nils
  have hn : nchkC (.op (.blk bl.length) 0) = some (.op (.blk bl.length) 0) := rfl
  have hset : ∀ X : List CV, (bl ++ [Blk.dead]).set bl.length (.cells X) = bl ++ [.cells X] := by intro X; simp
  have hst : ∀ bx, stE 1 24 (sl fB (List.replicate (full s.d).pts.length false)) ⟨bx, (bl ++ [Blk.dead]).set bl.length (.cells (playR ⟨full s.d, carsW (full s.d) 0 s.cars [], fun _ => false, fun _ => -1, []⟩ wv .nils .nils))⟩ (.blk bl.length) (playR ⟨full s.d, carsW (full s.d) 0 s.cars [], fun _ => false, fun _ => -1, []⟩ wv .nils .nils) = some ⟨bx, bl ++ [.cells (playC (begin s) wv .nils)]⟩ := by
    intro bx
    rw [st_cell bx _ bl.length 24 (sl fB (List.replicate (full s.d).pts.length false)) (playR ⟨full s.d, carsW (full s.d) 0 s.cars [], fun _ => false, fun _ => -1, []⟩ wv .nils .nils) rfl rfl rfl (by rw [play_len]; omega), List.set_set, hset]
    rfl
  have hp2 : (full s.d).pts.length ≤ 2 := by
    rw [make_pts]
    unfold mkPts
    split
    · simp
    · split
      · simp
      · split <;> simp
  have hrep : CV.vs (repC [.bool false] (full s.d).pts.length) (full s.d).pts.length = sl fB (List.replicate (full s.d).pts.length false) := by
    rw [show ([.bool false] : List CV) = fB false from rfl, repC_eq]
    simp [sl]
  have c1 : (0 : Int) ≤ (full s.d).pts.length := by omega
  have c2 : ((full s.d).pts.length : Int) * 1 ≤ 140737488355328 := by omega
  have c3 : ((full s.d).pts.length : Int) ≤ 140737488355328 := by omega
  have hb0 : bl ++ [Blk.cells [sl fZ (full s.d).nodes, sl fS (full s.d).secs, sl fL (full s.d).parts, sl fP (full s.d).pts, sl fL (full s.d).routes, .int .i64 (full s.d).speed, .int .i64 (full s.d).mute, .int .i64 (full s.d).wait, .int .i64 (full s.d).cancel, .int .i64 (full s.d).stay, .nils,
      .bool false, .bool false, .bool false, .bool false, .bool false, .bool false, .int .i64 0, .int .i64 0, .int .i64 0, .int .i64 0, .int .i64 0, .int .i64 0, .nils, .nils]] = (bl ++ [Blk.dead]).set bl.length (.cells (playR ⟨full s.d, [], fun _ => false, fun _ => 0, []⟩ .nils .nils .nils)) := by
    rw [hset]; rfl
  rw [r18_Begin_F_eq]
  simp only [r18_Begin_C, r05_Full_call, hF, hb0, r18_Begin_L0_eq, h0, r18_Begin_L2_eq, h2, hn, hg, hpts, hrep, c1, c2, c3, hst, Int.toNat_natCast, zy, simprocAttr]
end Go.Proofs.Ytfblegjbmhgepaa.Zt
end
section
namespace Go.Proofs.Ytfblegjbmhgepaa.Zt
open Go Go.Zc
set_option maxRecDepth 10000

structure GoodW (l : Lay) (w : List Vh) : Prop where
  snd : ∀ v ∈ w, Sound l v ∧ Front l v
  ids : ∀ v ∈ w, 0 ≤ v.id ∧ v.id < 6
  once : (w.map Vh.id).Nodup
  few : w.length ≤ 6
theorem GoodW.fits {l : Lay} (hl : Lens l) {w : List Vh} (h : GoodW l w) : ∀ v ∈ w, v.fits := fun v hv => (h.snd v hv).1.fits hl
theorem map_id_set {w : List Vh} {j : Nat} (hj : j < w.length) {v : Vh} (h : v.id = w[j].id) : (w.set j v).map Vh.id = w.map Vh.id := by
  rw [List.map_set, h]
  refine List.ext_getElem (by simp) fun n h1 h2 => ?_
  rw [List.getElem_set]
  split
  · rename_i e; subst e; simp
  · rfl
theorem GoodW.set {l : Lay} {w : List Vh} (h : GoodW l w) {j : Nat} (hj : j < w.length) {v : Vh} (hi : v.id = w[j].id) (hv : Sound l v ∧ Front l v) : GoodW l (w.set j v) := by
  refine ⟨fun x hx => ?_, fun x hx => ?_, by rw [map_id_set hj hi]; exact h.once, by rw [List.length_set]; exact h.few⟩
  · rcases List.mem_or_eq_of_mem_set hx with hx | rfl
    · exact h.snd x hx
    · exact hv
  · rcases List.mem_or_eq_of_mem_set hx with hx | rfl
    · exact h.ids x hx
    · rw [hi]; exact h.ids _ (List.getElem_mem hj)
theorem findW_mem {w : List Vh} {v : Vh} (h : v ∈ w) : ∃ j, findW w v.id = some j := by
  unfold findW
  cases hf : w.findIdx? fun x => decide (x.id = v.id) with
  | some j => exact ⟨j, rfl⟩
  | none =>
    rw [List.findIdx?_eq_none_iff] at hf
    have := hf v h
    simp at this
theorem findW_none {w : List Vh} {id : Int} (h : findW w id = none) : id ∉ w.map Vh.id := by
  intro hm
  obtain ⟨v, hv, rfl⟩ := List.mem_map.1 hm
  obtain ⟨j, hj⟩ := findW_mem hv
  rw [h] at hj; cases hj
theorem GoodW.app {l : Lay} {w : List Vh} (h : GoodW l w) {v : Vh} (hi : 0 ≤ v.id ∧ v.id < 6) (hn : v.id ∉ w.map Vh.id) (h6 : w.length < 6) (hv : Sound l v ∧ Front l v) : GoodW l (w ++ [v]) := by
  refine ⟨fun x hx => ?_, fun x hx => ?_, ?_, by simp; omega⟩
  · rcases List.mem_append.1 hx with hx | hx
    · exact h.snd x hx
    · simp only [List.mem_singleton] at hx; subst hx; exact hv
  · rcases List.mem_append.1 hx with hx | hx
    · exact h.ids x hx
    · simp only [List.mem_singleton] at hx; subst hx; exact hi
  · rw [List.map_append, List.nodup_append]
    refine ⟨h.once, by simp, fun a ha b hb => ?_⟩
    simp only [List.map_cons, List.map_nil, List.mem_singleton] at hb
    subst hb
    intro e
    exact hn (e ▸ ha)

theorem speed_ok {n g : Int} (hn : 0 ≤ n ∧ n ≤ 10000) (hg : 0 ≤ g ∧ g ≤ 255) : 0 ≤ g * n ∧ g * n ≤ 255 * 10000 := by
  have h1 : 0 ≤ g * n := Int.mul_nonneg hg.1 hn.1
  have h2 : g * n ≤ 255 * n := Int.mul_le_mul_of_nonneg_right hg.2 hn.1
  omega

set_option maxHeartbeats 4000000 in
theorem drive_loop (t : Tick) (ht : t.ok) (hg8 : t.go.length ≤ 8) (B : List Blk) (a : Nat) (ha : a < B.length) : ∀ (S P : List Int) (p : Pl) (wv : CV), t.go = P ++ S → Lens p.l → (0 ≤ p.l.speed ∧ p.l.speed ≤ 10000) → GoodW p.l p.w → Fz fVh wv p.w →
    ∃ w' wv', r18_Drive_R0 ([(0, .op (.blk a) 0), (3, .op (.loc 3) 0), (4, .int .i64 P.length)], ⟨[(3, fTick t)], B.set a (.cells (playC p wv .nils))⟩) =
      some (.norm, [(0, .op (.blk a) 0), (3, .op (.loc 3) 0)], ⟨[(3, fTick t)], B.set a (.cells (playC { p with w := w' } wv' .nils))⟩) ∧ GoodW p.l w' ∧ Fz fVh wv' w' := by
  intro S
  have htl : CV.locs (fTick t) = false := rfl
  induction S with
  | nil =>
    intro P p wv hP hl hsp hG hwv
    refine ⟨p.w, wv, ?_, hG, hwv⟩
    have h1 : ¬ ((P.length : Int) < t.go.length) := by rw [hP]; simp
    have hg := fun bx => get_set bx B a (playC p wv .nils) ha
    have g2 := play_w p wv .nils (sl fB p.right)
    have hlen := hwv.len
    have hn : nchkC (.op (.blk a) 0) = some (.op (.blk a) 0) := rfl
    rw [r18_Drive_R0_eq]
    by_cases h2 : ((P.length : Int) < p.w.length)
    · simp only [r18_Drive_B0, r18_Drive_K0_a, hn, hg, g2, hlen, h1, h2, htl, zy, simprocAttr]
    · simp only [r18_Drive_B0, r18_Drive_K0_a, hn, hg, g2, hlen, h2, htl, zy, simprocAttr]
  | cons x S ih =>
    intro P p wv hP hl hsp hG hwv
    have hpl : P.length + 1 ≤ 8 := by rw [hP] at hg8; simp at hg8; omega
    have h1 : ((P.length : Int) < t.go.length) := by rw [hP]; simp; omega
    have hg := fun bx => get_set bx B a (playC p wv .nils) ha
    have g2 := play_w p wv .nils (sl fB p.right)
    have hlen := hwv.len
    have hn : nchkC (.op (.blk a) 0) = some (.op (.blk a) 0) := rfl
    by_cases h2 : P.length < p.w.length
    · have h2' : ((P.length : Int) < p.w.length) := by omega
      have hwe := hwv.ne (by intro e; rw [e] at h2; simp at h2)
      subst hwe
      have hia := iaddr_atVh (k := .i64) h2
      have hvm := List.getElem_mem h2
      obtain ⟨hi0, hi6⟩ := hG.ids _ hvm
      obtain ⟨k, hk⟩ := Int.eq_ofNat_of_zero_le hi0
      have hk6 : k < 6 := by omega
      have hk1 : (0 : Int) ≤ k := by omega
      have hk2 : (k : Int) < 6 := by omega
      have gu := play_up p (sl fVh p.w) .nils (sl fB p.right) hk6
      have hw := wrapN (n := P.length) (by unfold Zc.small; omega)
      have happ : (P ++ [x]).length = P.length + 1 := by simp
      by_cases h3 : 0 ≤ p.up k
      · obtain ⟨w', wv', q1, q2, q3⟩ := ih (P ++ [x]) p (sl fVh p.w) (by rw [hP]; simp) hl hsp hG hwv
        rw [happ] at q1
        refine ⟨w', wv', ?_, q2, q3⟩
        rw [← q1, r18_Drive_R0_eq]
        simp only [r18_Drive_B0, r18_Drive_K0_a, hn, hg, g2, hlen, h1, h2', hia, hk, hk1, hk2, gu, h3, ge_iff_le, hw, htl, Int.toNat_natCast, Nat.mul_one, zy, simprocAttr]
      · have hxg : 0 ≤ x ∧ x ≤ 255 := ht.go x (by rw [hP]; simp)
        obtain ⟨m1, m2⟩ := speed_ok hsp hxg
        have hix := iaddr_midU .i64 P S x
        rw [← hP] at hix
        have w1 : IntKind.i64.wrap x = x := wrap64 (by omega) (by omega)
        have w2 : IntKind.i64.wrap (x * p.l.speed) = x * p.l.speed := wrap64 (by omega) (by omega)
        have w3 : IntKind.i64.wrap ((x * p.l.speed).tdiv 255) = x * p.l.speed / 255 := by rw [Int.tdiv_eq_ediv_of_nonneg m1, wrap64 (by omega) (by omega)]
        obtain ⟨j, hj⟩ := findW_mem hvm
        obtain ⟨hjl, hji⟩ := findW_some hj
        have hGo := fun H => rgo_F p.l hl p.w (by have := hG.few; omega) hG.snd p.w[P.length].id (x * p.l.speed / 255) (by omega) p.right H
        simp only [hj, List.getElem?_eq_getElem hjl] at hGo
        obtain ⟨s1, s2, s3, s4⟩ := goV_sound hl.lo hl.one hl.back (right := p.right) (v := p.w[j]) (metres := x * p.l.speed / 255) (hG.snd _ (List.getElem_mem hjl)).1 (hG.snd _ (List.getElem_mem hjl)).2
        have hG' := hG.set hjl s3 ⟨s1, s2⟩
        obtain ⟨w', wv', q1, q2, q3⟩ := ih (P ++ [x]) { p with w := p.w.set j (goV p.l p.right p.w[j] (x * p.l.speed / 255)).1 } (sl fVh (p.w.set j (goV p.l p.right p.w[j] (x * p.l.speed / 255)).1)) (by rw [hP]; simp) hl hsp hG' (.inl rfl)
        rw [happ] at q1
        refine ⟨w', wv', ?_, q2, q3⟩
        have g1 := play_l p (sl fVh p.w) .nils (sl fB p.right)
        have g5 := play_speed p (sl fVh p.w) .nils (sl fB p.right)
        have g24 := play_right p (sl fVh p.w) .nils (sl fB p.right)
        have hst := fun bx => st_play bx B a p { p with w := p.w.set j (goV p.l p.right p.w[j] (x * p.l.speed / 255)).1 } (sl fVh p.w) (sl fVh (p.w.set j (goV p.l p.right p.w[j] (x * p.l.speed / 255)).1)) .nils (sl fB p.right) 10 (sl fVh (p.w.set j (goV p.l p.right p.w[j] (x * p.l.speed / 255)).1)) (by omega) rfl rfl rfl (play_setW p (sl fVh p.w) .nils (sl fB p.right) _)
        rw [hk] at hGo
        rw [← q1, r18_Drive_R0_eq]
        simp only [r18_Drive_B0, r18_Drive_K0_a, hn, hg, g1, g2, g5, g24, hlen, h1, h2', hia, hk, hk1, hk2, gu, h3, ge_iff_le, hix, w1, w2, w3, r18_Go_call, hGo, hst, hw, htl, Int.toNat_natCast, Nat.mul_one, zy, simprocAttr]
    · have h2' : ¬ ((P.length : Int) < p.w.length) := by omega
      refine ⟨p.w, wv, ?_, hG, hwv⟩
      rw [r18_Drive_R0_eq]
      simp only [r18_Drive_B0, r18_Drive_K0_a, hn, hg, g2, hlen, h2', htl, zy, simprocAttr]
end Go.Proofs.Ytfblegjbmhgepaa.Zt
end
section
namespace Go.Proofs.Ytfblegjbmhgepaa.Zt
open Go Go.Zc
set_option maxRecDepth 10000

theorem findW_at {w : List Vh} (hn : (w.map Vh.id).Nodup) {i : Nat} (hi : i < w.length) : findW w w[i].id = some i := by
  obtain ⟨j, hj⟩ := findW_mem (List.getElem_mem hi)
  obtain ⟨hjl, hji⟩ := findW_some hj
  have : j = i := by
    have h1 : (w.map Vh.id)[j]'(by simpa using hjl) = (w.map Vh.id)[i]'(by simpa using hi) := by simpa using hji
    exact (List.getElem_inj hn).1 h1
  rw [hj, this]
theorem freeN_some {ids : List Int} : ∀ {n k o : Nat}, freeN ids n k = some o → (o : Int) ∉ ids ∧ o < k + n
  | 0, _, _, h => by simp [freeN] at h
  | n + 1, k, o, h => by
    unfold freeN at h
    split at h
    · have := freeN_some h
      exact ⟨this.1, by omega⟩
    · rename_i hk
      cases h
      exact ⟨hk, by omega⟩

set_option maxHeartbeats 4000000 in
theorem drive_F (t : Tick) (ht : t.ok) (hg8 : t.go.length ≤ 8) (B : List Blk) (a : Nat) (ha : a < B.length) (p : Pl) (wv : CV) (hl : Lens p.l) (hsp : 0 ≤ p.l.speed ∧ p.l.speed ≤ 10000) (hG : GoodW p.l p.w) (hwv : Fz fVh wv p.w) :
    ∃ p' wv', (∀ bx, r18_Drive_F bx (B.set a (.cells (playC p wv .nils))) [.op (.blk a) 0, .agg (fTick t)] = some (.tup [], ⟨bx, B.set a (.cells (playC p' wv' .nils))⟩)) ∧ p'.l = p.l ∧ GoodW p'.l p'.w ∧ Fz fVh wv' p'.w := by
  obtain ⟨w', wv1, q1, q2, q3⟩ := drive_loop t ht hg8 B a ha t.go [] p wv rfl hl hsp hG hwv
  simp only [List.length_nil, Int.natCast_zero] at q1
  have hg := fun bx => get_set bx B a (playC { p with w := w' } wv1 .nils) ha
  have g2 := play_w { p with w := w' } wv1 .nils (sl fB p.right)
  have hlen := q3.len
  have hn : nchkC (.op (.blk a) 0) = some (.op (.blk a) 0) := rfl
  by_cases h1 : t.split < 240
  · refine ⟨{ p with w := w' }, wv1, fun bx => ?_, rfl, q2, q3⟩
    rw [r18_Drive_F_eq]
    simp only [r18_Drive_C, r18_Drive_L0_eq, q1, h1, zy, simprocAttr]
  by_cases h2 : w' = []
  · refine ⟨{ p with w := w' }, wv1, fun bx => ?_, rfl, q2, q3⟩
    have h2' : ((w'.length : Nat) : Int) = 0 := by rw [h2]; rfl
    rw [r18_Drive_F_eq]
    simp only [r18_Drive_C, r18_Drive_L0_eq, q1, h1, hn, hg, g2, hlen, h2', zy, simprocAttr]
  have hpos : 0 < w'.length := List.length_pos_iff.2 h2
  have h2' : ¬ ((w'.length : Nat) : Int) = 0 := by omega
  have hwe := q3.ne h2
  subst hwe
  have hwho := ht.who
  have k1 : IntKind.i64.wrap t.who = t.who := wrap64 (by omega) (by omega)
  have k2 : t.who.tmod (w'.length : Int) = ((t.who % w'.length).toNat : Nat) := by
    have h0 : 0 ≤ t.who % (w'.length : Int) := Int.emod_nonneg _ (by omega)
    rw [Int.tmod_eq_emod_of_nonneg hwho.1]; omega
  have hil : (t.who % w'.length).toNat < w'.length := by
    have h0 : 0 ≤ t.who % (w'.length : Int) := Int.emod_nonneg _ (by omega)
    have h3 : t.who % (w'.length : Int) < w'.length := Int.emod_lt_of_pos _ (by omega)
    omega
  generalize (t.who % (w'.length : Int)).toNat = i at k2 hil
  have hia := iaddr_atVh (k := .i64) hil
  have hvm := List.getElem_mem hil
  obtain ⟨hi0, hi6⟩ := q2.ids _ hvm
  obtain ⟨hS, hF⟩ := q2.snd _ hvm
  have hps := hS.pos
  have hroom := (hS.few hl).2
  have hah := hS.ahead
  have hfr := fun st H => rfree_F { p with w := w' } (by have := q2.few; unfold Zc.small; simp only; omega) (.vs [] 0) st H
  have hsn := fun bx n => play_snap { p with w := w' } (sl fVh w') (.inl rfl) ⟨bx, B.set a (.cells (playC { p with w := w' } (sl fVh w') .nils))⟩ n
  have hpl := play_len { p with w := w' } (sl fVh w') .nils (sl fB p.right)
  have g1 := play_l { p with w := w' } (sl fVh w') .nils (sl fB p.right)
  rcases ixC_neg (freeN (rise (w'.map Vh.id)) 6 0) with ⟨o, ho, hx⟩ | ⟨ho, hx⟩
  · simp only [ho, ixC] at hfr
    obtain ⟨ho1, ho2⟩ := freeN_some ho
    have hon : (o : Int) ∉ w'.map Vh.id := fun h => ho1 ((rise_mem _ _).2 h)
    have ho0 : ¬ ((o : Int) < 0) := by omega
    by_cases h3 : w'[i].length < 2
    · refine ⟨{ p with w := w' }, sl fVh w', fun bx => ?_, rfl, q2, q3⟩
      rw [r18_Drive_F_eq]
      simp only [r18_Drive_C, r18_Drive_L0_eq, q1, h1, hn, hg, g2, hlen, h2', k1, k2, hia, r18_free_call, hsn, hpl, hfr, ho0, h3, zy, simprocAttr]
    · have hbh := ht.behind
      have j1 : IntKind.i64.wrap t.behind = t.behind := wrap64 (by omega) (by omega)
      have j2 : IntKind.i64.wrap (w'[i].length - 1) = w'[i].length - 1 := wrap64 (by omega) (by omega)
      have j3 : t.behind.tmod (w'[i].length - 1) = t.behind % (w'[i].length - 1) := Int.tmod_eq_emod_of_nonneg hbh.1
      have j4 : ¬ (w'[i].length - 1 = 0) := by omega
      have j5 : 0 ≤ t.behind % (w'[i].length - 1) := Int.emod_nonneg _ (by omega)
      have j6 : t.behind % (w'[i].length - 1) < w'[i].length - 1 := Int.emod_lt_of_pos _ (by omega)
      have j7 : IntKind.i64.wrap (1 + t.behind % (w'[i].length - 1)) = 1 + t.behind % (w'[i].length - 1) := wrap64 (by omega) (by omega)
      have hfi := findW_at q2.once hil
      have hSp := fun H => rsplit_F p.l hl w' (by have := q2.few; omega) q2.snd w'[i].id o (1 + t.behind % (w'[i].length - 1)) H
      simp only [hfi, List.getElem?_eq_getElem hil] at hSp
      by_cases h6 : 6 ≤ w'.length
      · simp only [h6, or_true, if_true] at hSp
        refine ⟨{ p with w := w' }, sl fVh w', fun bx => ?_, rfl, q2, q3⟩
        rw [r18_Drive_F_eq]
        simp only [r18_Drive_C, r18_Drive_L0_eq, q1, h1, hn, hg, g1, g2, hlen, h2', k1, k2, hia, r18_free_call, hsn, hpl, hfr, ho0, h3, j1, j2, j3, j4, j7, r18_Split_call, hSp, zy, simprocAttr]
      · have hfo : findW w' o = none := by
          cases hfo : findW w' o with
          | none => rfl
          | some j =>
            obtain ⟨hj1, hj2⟩ := findW_some hfo
            exact (hon (List.mem_map.2 ⟨_, List.getElem_mem hj1, hj2⟩)).elim
        have hc1 : ¬ (1 + t.behind % (w'[i].length - 1) < 1 ∨ w'[i].length ≤ 1 + t.behind % (w'[i].length - 1)) := by omega
        simp only [hfo, Option.isSome_none, Bool.false_eq_true, h6, or_self, if_false, hc1] at hSp
        obtain ⟨⟨s1, s2⟩, s3, s4⟩ := splitV_sound hl.lo hS hF (other := o) (behind := 1 + t.behind % (w'[i].length - 1)) (by omega) (by omega)
        have hG1 : GoodW p.l (w'.set i (splitV p.l w'[i] o (1 + t.behind % (w'[i].length - 1))).1) := q2.set hil rfl ⟨s1, s2⟩
        have hG2 : GoodW p.l (w'.set i (splitV p.l w'[i] o (1 + t.behind % (w'[i].length - 1))).1 ++ [(splitV p.l w'[i] o (1 + t.behind % (w'[i].length - 1))).2]) := hG1.app (by simp only [splitV]; omega) (by
          rw [map_id_set (v := (splitV p.l w'[i] o (1 + t.behind % (w'[i].length - 1))).1) hil rfl]; exact hon) (by rw [List.length_set]; omega) ⟨s3, s4⟩
        obtain ⟨k, hk⟩ := Int.eq_ofNat_of_zero_le hi0
        have hk6 : k < 6 := by omega
        have c1 : (0 : Int) ≤ k := by omega
        have c2 : (k : Int) < 6 := by omega
        have c3 : (0 : Int) ≤ o := by omega
        have c4 : (o : Int) < 6 := by omega
        generalize hW2 : w'.set i (splitV p.l w'[i] o (1 + t.behind % (w'[i].length - 1))).1 ++ [(splitV p.l w'[i] o (1 + t.behind % (w'[i].length - 1))).2] = W2 at hSp hG2
        refine ⟨(({ p with w := W2 } : Pl).setSplit k true).setUp o k, sl fVh W2, fun bx => ?_, rfl, hG2, .inl rfl⟩
        have hg2 := fun bx => get_set bx B a (playR { p with w := W2 } (sl fVh W2) .nils (sl fB p.right)) ha
        have hg3 := fun bx => get_set bx B a (playR (({ p with w := W2 } : Pl).setSplit k true) (sl fVh W2) .nils (sl fB p.right)) ha
        have t1 := fun bx => st_play bx B a { p with w := w' } { p with w := W2 } (sl fVh w') (sl fVh W2) .nils (sl fB p.right) 10 (sl fVh W2) (by omega) rfl rfl rfl (play_setW _ _ _ _ _)
        have t2 := fun bx => st_play bx B a { p with w := W2 } (({ p with w := W2 } : Pl).setSplit k true) (sl fVh W2) (sl fVh W2) .nils (sl fB p.right) (11 + k) (.bool true) (by omega) rfl rfl rfl (play_setSplit _ _ _ _ hk6 _)
        have t3 := fun bx => st_play bx B a (({ p with w := W2 } : Pl).setSplit k true) ((({ p with w := W2 } : Pl).setSplit k true).setUp o k) (sl fVh W2) (sl fVh W2) .nils (sl fB p.right) (17 + o) (.int .i64 k) (by omega) rfl rfl rfl (play_setUp _ _ _ _ (by omega) _)
        rw [hk] at hSp
        rw [r18_Drive_F_eq]
        simp only [r18_Drive_C, r18_Drive_L0_eq, q1, h1, hn, hg, g1, g2, hlen, h2', k1, k2, hia, r18_free_call, hsn, hpl, hfr, ho0, h3, j1, j2, j3, j4, j7, hk, r18_Split_call, hSp, t1, hg2, t2, hg3, t3, c1, c2, c3, c4, Int.toNat_natCast, Nat.mul_one, zy, simprocAttr]
        rfl
  · simp only [ho, ixC] at hfr
    refine ⟨{ p with w := w' }, sl fVh w', fun bx => ?_, rfl, q2, q3⟩
    rw [r18_Drive_F_eq]
    simp only [r18_Drive_C, r18_Drive_L0_eq, q1, h1, hn, hg, g2, hlen, h2', k1, k2, hia, r18_free_call, hsn, hpl, hfr, zy, simprocAttr]
end Go.Proofs.Ytfblegjbmhgepaa.Zt
end
section
namespace Go.Proofs.Ytfblegjbmhgepaa.Zt
open Go Go.Zc
set_option maxRecDepth 10000

/-- A vehicle, where its cells lie, and its way. -/
structure Ve where
  v : Vh
  c : Nat
  s : CV
def worldC (l : Lay) (m : Nat) : List CV := [sl fZ l.nodes, sl fS l.secs, sl fL l.parts, sl fP l.pts, sl fL l.routes, .int .i64 l.speed, .int .i64 l.mute, .int .i64 l.wait, .int .i64 l.cancel, .int .i64 l.stay, .vp (layC l), .om m]
theorem world_g (l : Lay) (m : Nat) : headO (List.drop 10 (worldC l m)) = some (.vp (layC l)) := rfl
theorem world_m (l : Lay) (m : Nat) : headO (List.drop 11 (worldC l m)) = some (.om m) := rfl
theorem world_parts (l : Lay) (m : Nat) : headO (List.drop 2 (worldC l m)) = some (sl fL l.parts) := rfl
def entsV (es : List Ve) : List (CV × CV) := es.map fun e => (.int .i64 e.v.id, .op (.blk e.c) 0)
def veC (e : Ve) : List CV := [.int .i64 e.v.length, .int .i64 e.v.ahead, e.s]
def findE (es : List Ve) (id : Int) : Option Ve := es.find? fun e => decide (e.v.id = id)
structure Wld (bl : List Blk) (a m : Nat) (l : Lay) (es : List Ve) : Prop where
  top : bl[a]? = some (.cells (worldC l m))
  map : bl[m]? = some (.map (entsV es))
  cell : ∀ e ∈ es, bl[e.c]? = some (.cells (veC e))
  way : ∀ e ∈ es, Held fE 2 bl e.s e.v.way
theorem Wld.keep {bl bl' : List Blk} {a m : Nat} {l : Lay} {es : List Ve} (h : Wld bl a m l es) (hk : Grows bl bl') : Wld bl' a m l es :=
  ⟨hk _ _ h.top, hk _ _ h.map, fun e he => hk _ _ (h.cell e he), fun e he => (h.way e he).keep fun k b hb _ => hk k b hb⟩
theorem Wld.ne {bl : List Blk} {a m : Nat} {l : Lay} {es : List Ve} (h : Wld bl a m l es) : a ≠ m := fun e => by
  have h1 := h.top; have h2 := h.map
  rw [e, h2] at h1
  simp at h1
theorem findE_mem {es : List Ve} {id : Int} {e : Ve} (h : findE es id = some e) : e ∈ es ∧ e.v.id = id := ⟨List.mem_of_find?_eq_some h, by simpa using List.find?_some h⟩

theorem mfindV (id : Int) : ∀ (es : List Ve) (i : Nat), mfind 0 (.int .i64 id) (entsV es) i = some (match findE es id with
    | some e => some (i + (es.findIdx fun e => decide (e.v.id = id)), .op (.blk e.c) 0)
    | none => none)
  | [], _ => rfl
  | e :: es, i => by
    have ih := mfindV id es (i + 1)
    unfold findE at ih ⊢
    by_cases h : e.v.id = id
    · simp only [entsV, List.map_cons, mfind, mkey, if_true, beq_self_eq_true, Option.bind_some, List.find?_cons, h, decide_true, List.findIdx_cons, cond_true, Nat.add_zero]
    · have h1 : (id == e.v.id) = false := by simpa using fun e' => h e'.symm
      simp only [entsV, List.map_cons, mfind, mkey, if_true, h1, Option.bind_some, List.find?_cons, h, decide_false, List.findIdx_cons, cond_false]
      refine (show _ = mfind 0 (.int .i64 id) (entsV es) (i + 1) from rfl).trans (ih.trans ?_)
      cases es.find? (fun e => decide (e.v.id = id)) with
      | none => rfl
      | some e' => simp only; rw [show i + 1 + es.findIdx (fun e => decide (e.v.id = id)) = i + (es.findIdx (fun e => decide (e.v.id = id)) + 1) by omega]

section
variable {bl : List Blk} {a m : Nat} {l : Lay} {es : List Ve}
def ptrE : Option Ve → CV
  | some e => .op (.blk e.c) 0
  | none => .nilp
theorem Wld.look (h : Wld bl a m l es) (id : Int) (bx : List (Nat × List CV)) : heapOp (.look 0 .nilp false) [.om m, .int .i64 id] ⟨bx, bl⟩ = some (ptrE (findE es id), ⟨bx, bl⟩) := by
  simp only [heapOp, lookC, h.map, mfindV id es 0, Option.bind_some]
  cases findE es id with
  | none =>
    simp only [mkey, if_true, Option.map_some]
    rfl
  | some e => rfl
theorem Wld.lenM (h : Wld bl a m l es) (bx : List (Nat × List CV)) : heapOp .lenM [.om m] ⟨bx, bl⟩ = some (.int .i64 es.length, ⟨bx, bl⟩) := by
  simp only [heapOp, lenMC, h.map, entsV, List.length_map]
  rfl
theorem Wld.get (h : Wld bl a m l es) (bx : List (Nat × List CV)) : Heap.get ⟨bx, bl⟩ (.blk a) = some (worldC l m) := get_blk bx bl a _ h.top

theorem wget_F (h : Wld bl a m l es) (id : Int) (bx : List (Nat × List CV)) : world_World_get_F bx bl [.op (.blk a) 0, .int .i64 id] = some (ptrE (findE es id), ⟨bx, bl⟩) := by
  have hg := h.get
  have hl := h.look id
  have hz : ∀ i o, binC .eql .ptr (.op i o) .nilp = some (.bool false) := fun _ _ => rfl
  have hn : nchkC (.op (.blk a) 0) = some (.op (.blk a) 0) := rfl
  have hp : (ptrE (findE es id)).locv = false := by cases findE es id <;> rfl
  rw [world_World_get_F_eq]
  simp only [world_World_get_C, hz, hn, hg, world_m, hl, hp, zy, simprocAttr]
theorem wfull_F (h : Wld bl a m l es) (id : Int) (bx : List (Nat × List CV)) : world_World_full_F bx bl [.op (.blk a) 0, .int .i64 id] = some (.bool ((findE es id).isSome || decide (6 ≤ es.length)), ⟨bx, bl⟩) := by
  have hg := h.get
  have hl := h.look id
  have hlen := h.lenM
  have hz : ∀ i o, binC .neq .ptr (.op i o) .nilp = some (.bool true) := fun _ _ => rfl
  have hz2 : binC .neq .ptr .nilp .nilp = some (.bool false) := rfl
  have hn : nchkC (.op (.blk a) 0) = some (.op (.blk a) 0) := rfl
  have hd : decide ((6 : Int) ≤ es.length) = decide (6 ≤ es.length) := by by_cases h : 6 ≤ es.length <;> simp [h] <;> omega
  rw [world_World_full_F_eq]
  cases hf : findE es id with
  | none =>
    rw [hf] at hl
    simp only [ptrE] at hl
    simp only [world_World_full_C, hz2, hn, hg, world_m, hl, hlen, ge_iff_le, hd, zy, simprocAttr]
  | some e =>
    rw [hf] at hl
    simp only [ptrE] at hl
    simp only [world_World_full_C, hz, hn, hg, world_m, hl, hlen, zy, simprocAttr]

theorem wroom_loop (hl : Lens l) (h : Wld bl a m l es) (trail : List Int) (ht : trail.length ≤ 12) : ∀ (S P : List Int) (r : Int), trail = P ++ S → -1000000000 ≤ r → r ≤ 1000000000 + 1000 * P.length →
    world_World_room_R0 ([(0, .op (.blk a) 0), (7, .int .i64 r), (12, sl fI trail), (13, .int .i64 trail.length), (14, .int .i64 P.length)], ⟨[], bl⟩) = some (.norm, [(7, .int .i64 (r + sumL l S))], ⟨[], bl⟩) := by
  intro S
  have hg := h.get
  have hn : nchkC (.op (.blk a) 0) = some (.op (.blk a) 0) := rfl
  induction S with
  | nil =>
    intro P r hP _ _
    have h1 : ¬ ((P.length : Int) < trail.length) := by rw [hP]; simp
    rw [world_World_room_R0_eq]
    simp only [world_World_room_B0, world_World_room_K0_a, h1, sumL, Int.add_zero, zy, simprocAttr]
  | cons x S ih =>
    intro P r hP hr hr2
    have hpl : P.length + 1 ≤ 12 := by rw [hP] at ht; simp at ht; omega
    have h1 : ((P.length : Int) < trail.length) := by rw [hP]; simp; omega
    have hw := wrapN (n := P.length) (by unfold Zc.small; omega)
    have hia := iaddr_midI .i64 P S x
    rw [← hP] at hia
    have hlo := hl.lo x
    have hhi := hl.hi x
    have hw2 : IntKind.i64.wrap (r + lenAt l x) = r + lenAt l x := wrap64 (by omega) (by omega)
    have hF := fun st H => glen_F l x st H
    have ih' := ih (P ++ [x]) (r + lenAt l x) (by rw [hP]; simp) (by omega) (by simp; omega)
    rw [show (P ++ [x]).length = P.length + 1 by simp] at ih'
    rw [world_World_room_R0_eq]
    simp only [world_World_room_B0, world_World_room_K0_a, h1, hia, hw, hw2, hn, hg, world_g, graph_Graph_Len_call, hF, ih', sumL, Int.add_assoc, zy, simprocAttr]
theorem wroom_F (hl : Lens l) (h : Wld bl a m l es) (ahead : Int) (ha : -1000000000 ≤ ahead ∧ ahead ≤ 1000000000) (trail : List Int) (ht : trail.length ≤ 12) (bx : List (Nat × List CV)) :
    world_World_room_F bx bl [.op (.blk a) 0, .int .i64 ahead, sl fI trail] = some (.int .i64 (0 - ahead + sumL l trail), ⟨bx, bl⟩) := by
  have hun : unC .neg (.int .i64 ahead) = some (.int .i64 (IntKind.i64.wrap (0 - ahead))) := rfl
  have hwn : IntKind.i64.wrap (0 - ahead) = 0 - ahead := wrap64 (by omega) (by omega)
  have e := wroom_loop hl h trail ht trail [] (0 - ahead) rfl (by omega) (by simp; omega)
  simp only [List.nil_append, List.length_nil, Int.natCast_zero] at e
  rw [world_World_room_F_eq]
  simp only [world_World_room_C, hun, hwn, world_World_room_L0_eq, e, zy, simprocAttr]

theorem wunder_loop (hl : Lens l) (h : Wld bl a m l es) (e : Ve) (he : e ∈ es) (hw12 : e.v.way.length ≤ 100000) : ∀ (S P : List Ed) (b : Int), e.v.way = P ++ S → b ≤ 1000000000 → -1000000000 ≤ b →
    world_World_under_R0 ([(0, .op (.blk a) 0), (1, .op (.blk e.c) 0), (5, .int .i64 P.length), (6, .int .i64 b)], ⟨[], bl⟩) = some (.norm, [(5, .int .i64 (P.length + (if 0 < b then underN l b S else 0) : Nat))], ⟨[], bl⟩) := by
  intro S
  have hg := h.get
  have hn : nchkC (.op (.blk a) 0) = some (.op (.blk a) 0) := rfl
  have hn2 : nchkC (.op (.blk e.c) 0) = some (.op (.blk e.c) 0) := rfl
  have hge : ∀ bx, Heap.get ⟨bx, bl⟩ (.blk e.c) = some (veC e) := fun bx => get_blk bx bl _ _ (h.cell e he)
  have hH := h.way e he
  have hlen := hH.len
  induction S with
  | nil =>
    intro P b hP hb1 hb2
    have h1 : ¬ ((P.length : Int) < e.v.way.length) := by rw [hP]; simp
    rw [world_World_under_R0_eq]
    by_cases h0 : 0 < b
    · simp only [world_World_under_B0, world_World_under_K0_a, h0, h1, hn2, hge, veC, hlen, underN, gt_iff_lt, Nat.add_zero, zy, simprocAttr]
    · simp only [world_World_under_B0, world_World_under_K0_a, h0, gt_iff_lt, zy, simprocAttr]
  | cons x S ih =>
    intro P b hP hb1 hb2
    rw [world_World_under_R0_eq]
    by_cases h0 : 0 < b
    · have h1 : ((P.length : Int) < e.v.way.length) := by rw [hP]; simp; omega
      have hw := wrapN (n := P.length) (by rw [hP] at hw12; unfold Zc.small; simp at hw12; omega)
      obtain ⟨p, g1, g2, _, g4⟩ := hH.at flatE hP
      obtain ⟨p', k1, k2, k3⟩ := g4 0 (by omega)
      have g1' := g1 .i64
      have k3' : ∀ bx, loadC false 1 ⟨bx, bl⟩ p' = some (.int .i64 x.s) := k3
      have hlo := hl.lo x.s
      have hhi := hl.hi x.s
      have hw2 : IntKind.i64.wrap (b - lenAt l x.s) = b - lenAt l x.s := wrap64 (by omega) (by omega)
      have hF := fun st H => glen_F l x.s st H
      have ih' := ih (P ++ [x]) (b - lenAt l x.s) (by rw [hP]; simp) (by omega) (by omega)
      rw [show (P ++ [x]).length = P.length + 1 by simp] at ih'
      have hres : P.length + 1 + (if 0 < b - lenAt l x.s then underN l (b - lenAt l x.s) S else 0) = P.length + underN l b (x :: S) := by
        conv => rhs; unfold underN
        by_cases hc : b - lenAt l x.s ≤ 0
        · rw [if_neg (by omega), if_pos hc]
        · rw [if_pos (by omega), if_neg hc]; omega
      rw [hres] at ih'
      simp only [world_World_under_B0, world_World_under_K0_a, h0, h1, hn, hn2, hg, hge, veC, hlen, world_g, g1', k1, k3', hw, hw2, graph_Graph_Len_call, hF, ih', gt_iff_lt, zy, simprocAttr]
    · simp only [world_World_under_B0, world_World_under_K0_a, h0, gt_iff_lt, Nat.add_zero, zy, simprocAttr]
theorem wunder_F (hl : Lens l) (h : Wld bl a m l es) (e : Ve) (he : e ∈ es) (hf : e.v.fits) (bx : List (Nat × List CV)) :
    world_World_under_F bx bl [.op (.blk a) 0, .op (.blk e.c) 0] = some (.int .i64 (underN l (e.v.ahead + e.v.length) e.v.way), ⟨bx, bl⟩) := by
  have ha := hf.ahead; have hle := hf.length
  have hn2 : nchkC (.op (.blk e.c) 0) = some (.op (.blk e.c) 0) := rfl
  have hge : ∀ bx, Heap.get ⟨bx, bl⟩ (.blk e.c) = some (veC e) := fun bx => get_blk bx bl _ _ (h.cell e he)
  have hw : IntKind.i64.wrap (e.v.length + e.v.ahead) = e.v.ahead + e.v.length := by rw [wrap64 (by omega) (by omega)]; omega
  have e0 := wunder_loop hl h e he hf.way e.v.way [] (e.v.ahead + e.v.length) rfl (by omega) (by omega)
  rw [if_pos (by omega)] at e0
  simp only [List.nil_append, List.length_nil, Int.natCast_zero, Nat.zero_add] at e0
  rw [world_World_under_F_eq]
  simp only [world_World_under_C, hn2, hge, veC, hw, world_World_under_L0_eq, e0, zy, simprocAttr]
end
end Go.Proofs.Ytfblegjbmhgepaa.Zt
end
section
namespace Go.Proofs.Ytfblegjbmhgepaa.Zt
open Go Go.Zc
set_option maxRecDepth 10000

def underE (l : Lay) (es : List Ve) (id : Int) : List Int := match findE es id with
  | some e => underL l e.v
  | none => []
section
variable {bl : List Blk} {a m : Nat} {l : Lay} {es : List Ve}

theorem wUnder_loop (sl' : CV) (xs : List Ed) (hxs : xs.length ≤ 100000) (b0 : List Blk) (hs : Held fE 2 b0 sl' xs) : ∀ (S P : List Ed) (v : CV) (b : List Blk), xs = P ++ S → Own fI 1 b v (P.map Ed.s) → Grows b0 b → (∀ k, blkOf v = some k → b0.length ≤ k) →
    ∃ v' b', world_World_Under_R0 ([(6, v), (21, sl'), (22, .int .i64 xs.length), (23, .int .i64 P.length)], ⟨[], b⟩) = some (.norm, [(6, v')], ⟨[], b'⟩) ∧ Own fI 1 b' v' (xs.map Ed.s) ∧ Grows b0 b' ∧ (∀ k, blkOf v' = some k → b0.length ≤ k) := by
  intro S
  induction S with
  | nil =>
    intro P v b hP hO hG hv
    have h1 : ¬ ((P.length : Int) < xs.length) := by rw [hP]; simp
    refine ⟨v, b, ?_, by rw [hP, List.append_nil]; exact hO, hG, hv⟩
    rw [world_World_Under_R0_eq]
    simp only [world_World_Under_B0, world_World_Under_K0_a, h1, hO.chkV, zy, simprocAttr]
  | cons x S ih =>
    intro P v b hP hO hG hv
    have hpl : P.length + 1 ≤ 100000 := by rw [hP] at hxs; simp at hxs; omega
    have h1 : ((P.length : Int) < xs.length) := by rw [hP]; simp; omega
    have hw := wrapN (n := P.length) (by unfold Zc.small; omega)
    have hsb : Held fE 2 b sl' xs := hs.keep fun k z hz _ => hG k z hz
    obtain ⟨p, g1, g2, g3, _⟩ := hsb.at flatE hP
    have g1' := g1 .i64
    have hch := hsb.chkV
    obtain ⟨v1, b1, e1, o1, f1, f2, f3⟩ := hO.app1 flatI (bytes := 8) (zero := [.int .i64 0]) (by omega) rfl rfl x.s (by simp; omega)
    have hv1 : ∀ k, blkOf v1 = some k → b0.length ≤ k := fun k hk => by
      rcases f3 with f3 | f3
      · exact hv k (f3 ▸ hk)
      · rw [f3] at hk
        have := Option.some.inj hk
        have := hG.le
        omega
    obtain ⟨v', b', q1, q2, q3, q4⟩ := ih (P ++ [x]) v1 b1 (by rw [hP]; simp) (by simpa using o1) (hG.fr f2 hv) hv1
    rw [show (P ++ [x]).length = P.length + 1 by simp] at q1
    refine ⟨v', b', ?_, q2, q3, q4⟩
    simp only [fI] at e1
    simp only [fE] at g3
    rw [world_World_Under_R0_eq]
    simp only [world_World_Under_B0, world_World_Under_K0_a, h1, hw, g1', g3, e1, hO.chkV, o1.chkV, hch, q1, zy, simprocAttr]
theorem wUnder_F (hl : Lens l) (h : Wld bl a m l es) (hf : ∀ e ∈ es, e.v.fits) (id : Int) :
    ∃ v X, (∀ bx, world_World_Under_F bx bl [.op (.blk a) 0, .int .i64 id] = some (v, ⟨bx, bl ++ X⟩)) ∧ Own fI 1 (bl ++ X) v (underE l es id) ∧ (∀ k, blkOf v = some k → bl.length ≤ k) := by
  have hget := wget_F h id
  unfold underE
  cases hfe : findE es id with
  | none =>
    rw [hfe] at hget
    simp only [ptrE] at hget
    have hz2 : binC .eql .ptr .nilp .nilp = some (.bool true) := rfl
    refine ⟨.nils, [], fun bx => ?_, .inl ⟨rfl, rfl⟩, fun k hk => by cases hk⟩
    rw [world_World_Under_F_eq]
    simp only [world_World_Under_C, world_World_get_call, hget, hz2, zy, simprocAttr]
  | some e =>
    rw [hfe] at hget
    simp only [ptrE] at hget
    obtain ⟨he, _⟩ := findE_mem hfe
    have hfit := hf e he
    have hu := wunder_F hl h e he hfit
    have hz : ∀ i o, binC .eql .ptr (.op i o) .nilp = some (.bool false) := fun _ _ => rfl
    have hn2 : nchkC (.op (.blk e.c) 0) = some (.op (.blk e.c) 0) := rfl
    have hge : ∀ bx, Heap.get ⟨bx, bl⟩ (.blk e.c) = some (veC e) := fun bx => get_blk bx bl _ _ (h.cell e he)
    have hule := underN_le l (e.v.ahead + e.v.length) e.v.way
    obtain ⟨c3, k1, k2, k3⟩ := (h.way e he).take flatE (underN l (e.v.ahead + e.v.length) e.v.way) hule
    have k1' := k1 .i64
    have hlen := k2.len
    have hlv := k2.locv
    have hw := hfit.way
    obtain ⟨v', b', q1, q2, q3, q4⟩ := wUnder_loop c3 (underW l e.v) (by unfold underW; rw [List.length_take]; omega) bl k2 (underW l e.v) [] .nils bl rfl (.inl ⟨rfl, rfl⟩) (Grows.refl bl) (fun k hk => by cases hk)
    obtain ⟨X, rfl⟩ := q3.ex
    simp only [List.nil_append, List.length_nil, Int.natCast_zero] at q1
    unfold underW at q1 hlen
    refine ⟨v', X, fun bx => ?_, q2, q4⟩
    have hl' := q2.locv
    rw [world_World_Under_F_eq]
    simp only [world_World_Under_C, world_World_get_call, hget, hz, hn2, hge, veC, world_World_under_call, hu, k1', hlen, hlv, k2.chkV, world_World_Under_L0_eq, q1, hl', zy, simprocAttr]

theorem keysI_entsV : ∀ es : List Ve, (∀ e ∈ es, -9223372036854775808 ≤ e.v.id ∧ e.v.id ≤ 9223372036854775807) → keysI (entsV es) = some (es.map fun e => e.v.id)
  | [], _ => rfl
  | e :: es, h => by
    have ih := keysI_entsV es (fun x hx => h x (by simp [hx]))
    have he := h e (by simp)
    simp only [entsV, List.map_cons, keysI, keyI, if_pos he, Option.bind_some]
    rw [show es.map (fun e => (CV.int .i64 e.v.id, CV.op (.blk e.c) 0)) = entsV es from rfl, ih]
    rfl
theorem sl_mapI (l : List Int) : CV.vs (l.map fun n => .int .i64 n) l.length = sl fI l := by
  have : l.map (fun n => CV.int .i64 n) = l.flatMap fI := by
    induction l with
    | nil => rfl
    | cons x l ih => simp only [List.map_cons, List.flatMap_cons, ih]; rfl
  rw [this]; rfl
theorem sorted_V {x : Nat} (hx : bl[x]? = some (.cells [.om m])) (hb : bl[m]? = some (.map (entsV es))) (hr : ∀ e ∈ es, -9223372036854775808 ≤ e.v.id ∧ e.v.id ≤ 9223372036854775807) (hn : es.length ≤ 1000000) (bx : List (Nat × List CV)) :
    call ctx (.fn (.func 61) [] []) [.fn (.func 93) [] [.op (.blk x) 0]] ⟨bx, bl⟩ = some (sl fI (isort (es.map fun e => e.v.id)), ⟨bx, bl⟩) := by
  rw [prim_call (s := sortedS [93]) (show ctx.prim 61 = _ by rfl), List.append_nil, sortedS_eq (by decide) hx hb (keysI_entsV es hr) (by simpa using hn)]
  have h1 : (isort (es.map fun e => e.v.id)).length = (es.map fun e => e.v.id).length := (isort_perm _).length_eq
  rw [← h1, sl_mapI]
  simp only [CV.locs, CV.locv, Bool.or_self, Bool.false_or, Option.bind_some, locv_sl, Id.loc?]
  rfl
theorem wAll_F (h : Wld bl a m l es) (hr : ∀ e ∈ es, -9223372036854775808 ≤ e.v.id ∧ e.v.id ≤ 9223372036854775807) (hn : es.length ≤ 1000000) (bx : List (Nat × List CV)) :
    world_World_All_F bx bl [.op (.blk a) 0] = some (sl fI (isort (es.map fun e => e.v.id)), ⟨bx, bl ++ [.cells [.om m]]⟩) := by
  have hg := h.get
  have hz : ∀ i o, binC .eql .ptr (.op i o) .nilp = some (.bool false) := fun _ _ => rfl
  have hnn : nchkC (.op (.blk a) 0) = some (.op (.blk a) 0) := rfl
  have hb : m < bl.length := (List.getElem?_eq_some_iff.1 h.map).1
  have hs := sorted_V (bl := bl ++ [.cells [.om m]]) (m := m) (es := es) (x := bl.length) (by simp) (by rw [List.getElem?_append_left hb]; exact h.map) hr hn
  have hmk : pureOp (.mkfn (.func 93) 0) [.op (.blk bl.length) 0] = some (.fn (.func 93) [] [.op (.blk bl.length) 0]) := rfl
  rw [world_World_All_F_eq]
  simp only [world_World_All_C, maps_Keys_vehicle_call, maps_Keys_vehicle_F_eq, maps_Keys_vehicle_C, hg, hz, hnn, world_m, hs, hmk, zy, simprocAttr]

theorem faddr0 {p p' : CV} (h : faddrC 0 p = some p') : p' = p := by
  cases p <;> simp [faddrC] at h
  · exact h.symm
  · exact h.symm
theorem Held.at1 {α : Type} {f : α → List CV} {bl : List Blk} {c : CV} {l : List α} (hf : Flat f 1) (h : Held f 1 bl c l) {P S : List α} {x : α} (hl : l = P ++ x :: S) :
    ∃ p, (∀ k : IntKind, iaddrC 1 c (.int k P.length) = some p) ∧ p.locv = false ∧ ∀ bx, loadC false 1 ⟨bx, bl⟩ p = (f x)[0]? := by
  obtain ⟨p, g1, g2, _, g4⟩ := h.at hf hl
  obtain ⟨p', k1, _, k3⟩ := g4 0 (by omega)
  have := faddr0 k1
  subst this
  exact ⟨p', g1, g2, k3⟩
/-- Looking through numbers with a function that but makes memory. -/
theorem idxR_loop (fv : CV) (hfv : fv.locv = false) (p : Int → Bool) (c : CV) (xs : List Int) (b0 : List Blk) (hc : Held fI 1 b0 c xs) (hm : xs.length ≤ Zc.small) : ∀ (S P : List Int) (b : List Blk), xs = P ++ S → Grows b0 b → (∀ x ∈ S, ∀ b, Grows b0 b → ∃ b', Grows b b' ∧ ∀ bx, call ctx fv [.int .i64 x] ⟨bx, b⟩ = some (.bool (p x), ⟨bx, b'⟩)) →
    ∃ b', Grows b b' ∧ slices_IndexFunc_Int_R0 ([(0, c), (1, fv), (7, .int .i64 xs.length), (8, .int .i64 P.length)], ⟨[], b⟩) =
      match S.findIdx? p with
      | some i => some (.ret, [(4, .int .i64 ((P.length + i : Nat) : Int))], ⟨[], b'⟩)
      | none => some (.norm, [], ⟨[], b'⟩) := by
  intro S
  induction S with
  | nil =>
    intro P b hP hG hp
    have h1 : ¬ ((P.length : Int) < xs.length) := by rw [hP]; simp
    refine ⟨b, Grows.refl b, ?_⟩
    rw [slices_IndexFunc_Int_R0_eq]
    simp only [slices_IndexFunc_Int_B0, slices_IndexFunc_Int_K0_a, h1, List.findIdx?_nil, zy, simprocAttr]
  | cons x S ih =>
    intro P b hP hG hp
    have h1 : ((P.length : Int) < xs.length) := by rw [hP]; simp; omega
    have hw := wrapN (n := P.length) (by rw [hP] at hm; unfold Zc.small at *; simp at hm; omega)
    obtain ⟨q, g1, g2, g3⟩ := Held.at1 flatI (hc.keep fun k z hz _ => hG k z hz) hP
    have g1' := g1 .i64
    have g3' : ∀ bx, loadC false 1 ⟨bx, b⟩ q = some (.int .i64 x) := g3
    obtain ⟨b1, r1, c1⟩ := hp x (by simp) b hG
    obtain ⟨b', r2, q⟩ := ih (P ++ [x]) b1 (by rw [hP]; simp) (hG.trans r1) (fun y hy => hp y (by simp [hy]))
    rw [show (P ++ [x]).length = P.length + 1 by simp] at q
    have hcv := chkV_of hfv
    have hch := hc.chkV
    by_cases hA : p x = true
    · refine ⟨b1, r1, ?_⟩
      rw [slices_IndexFunc_Int_R0_eq]
      simp only [slices_IndexFunc_Int_B0, slices_IndexFunc_Int_K0_a, h1, g1', g3', c1, hA, hcv, List.findIdx?_cons, zy, simprocAttr]
    · have hA' : p x = false := by simpa using hA
      refine ⟨b', r1.trans r2, ?_⟩
      rw [slices_IndexFunc_Int_R0_eq]
      simp only [slices_IndexFunc_Int_B0, slices_IndexFunc_Int_K0_a, h1, g1', g3', c1, hA', hcv, hch, hw, q, List.findIdx?_cons, zy, simprocAttr]
      cases S.findIdx? p with
      | none => simp
      | some i => simp; omega
theorem containsR_F (fv : CV) (hfv : fv.locv = false) (p : Int → Bool) (c : CV) (b0 : List Blk) (xs : List Int) (hc : Held fI 1 b0 c xs) (hm : xs.length ≤ Zc.small) (hp : ∀ x ∈ xs, ∀ b, Grows b0 b → ∃ b', Grows b b' ∧ ∀ bx, call ctx fv [.int .i64 x] ⟨bx, b⟩ = some (.bool (p x), ⟨bx, b'⟩)) :
    ∃ b', Grows b0 b' ∧ ∀ bx, slices_ContainsFunc_int_F bx b0 [c, fv] = some (.bool (xs.any p), ⟨bx, b'⟩) := by
  obtain ⟨b', g, q⟩ := idxR_loop fv hfv p c xs b0 hc hm xs [] b0 rfl (Grows.refl b0) hp
  refine ⟨b', g, fun bx => ?_⟩
  simp only [List.length_nil, Int.natCast_zero, Nat.zero_add] at q
  have hcv := chkV_of hfv
  have hch := hc.chkV
  have hlv := hc.locv
  have hlen := hc.len
  rw [slices_ContainsFunc_int_F_eq]
  cases hx : xs.findIdx? p with
  | none =>
    rw [hx] at q
    have : xs.any p = false := by
      rw [List.findIdx?_eq_none_iff] at hx
      simpa [List.any_eq_false] using hx
    simp only [slices_ContainsFunc_int_C, slices_IndexFunc_Int_call, slices_IndexFunc_Int_F_eq, slices_IndexFunc_Int_C, slices_IndexFunc_Int_L0_eq, q, hcv, hch, hlv, hlen, hfv, this, zy, simprocAttr]
  | some i =>
    rw [hx] at q
    have h0 : (0 : Int) ≤ i := by omega
    have : xs.any p = true := by
      rw [List.findIdx?_eq_some_iff_getElem] at hx
      obtain ⟨h1, h2, _⟩ := hx
      exact List.any_eq_true.2 ⟨_, List.getElem_mem h1, h2⟩
    simp only [slices_ContainsFunc_int_C, slices_IndexFunc_Int_call, slices_IndexFunc_Int_F_eq, slices_IndexFunc_Int_C, slices_IndexFunc_Int_L0_eq, q, hcv, hch, hlv, hlen, hfv, this, h0, ge_iff_le, zy, simprocAttr]
end
end Go.Proofs.Ytfblegjbmhgepaa.Zt
end
section
namespace Go.Proofs.Ytfblegjbmhgepaa.Zt
open Go Go.Zc
set_option maxRecDepth 10000

structure GoodE (l : Lay) (es : List Ve) : Prop where
  fit : ∀ e ∈ es, e.v.fits
  ids : ∀ e ∈ es, -9223372036854775808 ≤ e.v.id ∧ e.v.id ≤ 9223372036854775807
  few : es.length ≤ 6
def insideE (l : Lay) (es : List Ve) (s : Int) : Bool := (isort (es.map fun e => e.v.id)).any fun id => decide (s ∈ underE l es id)
def inE (l : Lay) (es : List Ve) (id p : Int) : Bool := match partAt l p with
  | none => false
  | some q => (underE l es id).any fun s => decide (s ∈ q)

section
variable {bl : List Blk} {a m : Nat} {l : Lay} {es : List Ve}
theorem underE_len (hf : GoodE l es) (id : Int) : (underE l es id).length ≤ 100000 := by
  unfold underE
  split
  · rename_i e he
    have := (hf.fit e (findE_mem he).1).way
    simp only [underL, underW, List.length_map, List.length_take]
    omega
  · simp

theorem wInside1_F (hl : Lens l) (h : Wld bl a m l es) (hf : GoodE l es) (s id : Int) (x y : Nat) (hx : bl[x]? = some (.cells [.op (.blk a) 0])) (hy : bl[y]? = some (.cells [.int .i64 s])) :
    ∃ X, ∀ bx, world_World_Inside_1_F bx bl [.int .i64 id, .op (.blk x) 0, .op (.blk y) 0] = some (.bool (decide (s ∈ underE l es id)), ⟨bx, bl ++ X⟩) := by
  obtain ⟨v, X, q1, q2, q3⟩ := wUnder_F hl h hf.fit id
  have g1 : ∀ bx, Heap.get ⟨bx, bl⟩ (.blk x) = some [.op (.blk a) 0] := fun bx => get_blk bx bl _ _ hx
  have g2 : ∀ bx, Heap.get ⟨bx, bl ++ X⟩ (.blk y) = some [.int .i64 s] := fun bx => get_blk bx _ _ _ (Grows.app bl X _ _ hy)
  have hsn := fun bx => q2.snapV flatI bx false (snapN ⟨bx, bl ++ X⟩ false false 7) (snap_Iq _ false 6)
  have hc := fun st H => contains_F s (underE l es id) (by have := underE_len hf id; unfold Zc.small; omega) st H
  have hlv := q2.locv
  refine ⟨X, fun bx => ?_⟩
  rw [world_World_Inside_1_F_eq]
  simp only [world_World_Inside_1_C, g1, world_World_Under_call, q1, g2, slices_Contains_int_call, hsn, hc, hlv, zy, simprocAttr]
theorem wInside_F (hl : Lens l) (h : Wld bl a m l es) (hf : GoodE l es) (s : Int) :
    ∃ X, ∀ bx, world_World_Inside_F bx bl [.op (.blk a) 0, .int .i64 s] = some (.bool (insideE l es s), ⟨bx, bl ++ X⟩) := by
  have hG1 : Grows bl (bl ++ [Blk.cells [.op (.blk a) 0]] ++ [Blk.cells [.int .i64 s]]) := (Grows.app _ _).trans (Grows.app _ _)
  have hW := h.keep hG1
  have hall := wAll_F hW hf.ids (by have := hf.few; omega)
  have hG2 := hG1.trans (Grows.app _ [Blk.cells [.om m]])
  have hx : (bl ++ [Blk.cells [.op (.blk a) 0]] ++ [Blk.cells [.int .i64 s]] ++ [Blk.cells [.om m]])[bl.length]? = some (.cells [.op (.blk a) 0]) := by simp
  have hy : (bl ++ [Blk.cells [.op (.blk a) 0]] ++ [Blk.cells [.int .i64 s]] ++ [Blk.cells [.om m]])[bl.length + 1]? = some (.cells [.int .i64 s]) := by
    rw [List.append_assoc, List.append_assoc, List.getElem?_append_right (by omega)]
    simp
  obtain ⟨b', g, c⟩ := containsR_F (.fn (.func 81) [] [.op (.blk bl.length) 0, .op (.blk (bl.length + 1)) 0]) rfl (fun id => decide (s ∈ underE l es id)) (sl fI (isort (es.map fun e => e.v.id))) _ (isort (es.map fun e => e.v.id)) (.inl rfl)
    (by rw [(isort_perm _).length_eq, List.length_map]; have := hf.few; unfold Zc.small; omega) (fun id _ b hb => by
      obtain ⟨X, hX⟩ := wInside1_F hl ((h.keep hG2).keep hb) hf s id bl.length (bl.length + 1) (hb _ _ hx) (hb _ _ hy)
      refine ⟨b ++ X, Grows.app _ _, fun bx => ?_⟩
      rw [world_World_Inside_1_call]
      exact hX bx)
  obtain ⟨X, hX⟩ := (hG2.trans g).ex
  subst hX
  refine ⟨X, fun bx => ?_⟩
  have hget : ∀ bx, Heap.get ⟨bx, bl ++ [Blk.cells [.op (.blk a) 0]] ++ [Blk.cells [.int .i64 s]]⟩ (.blk bl.length) = some [.op (.blk a) 0] := fun bx => get_blk bx _ _ _ (by simp)
  have hmk : ∀ x y, pureOp (.mkfn (.func 81) 0) [x, y] = some (.fn (.func 81) [] [x, y]) := fun _ _ => rfl
  rw [world_World_Inside_F_eq]
  simp only [world_World_Inside_C, hget, world_World_All_call, hall, hmk, slices_ContainsFunc_int_call, c, insideE, List.length_append, zy, simprocAttr]

theorem wgnew_F (l : Lay) (H : Heap) : graph_New_F false H [.agg (layC l)] = some (.vp (layC l), H) := by
  rw [graph_New_F_eq]
  simp only [graph_New_C, Nat.zero_le, zy, simprocAttr]
theorem wNew_F (l : Lay) (bl : List Blk) (bx : List (Nat × List CV)) : world_New_F bx bl [.agg (layC l)] = some (.op (.blk (bl.length + 1)) 0, ⟨bx, bl ++ [.map []] ++ [.cells (worldC l bl.length)]⟩) := by
  have hg := fun H => wgnew_F l H
  have hmk : ∀ bx bl, heapOp .mkmap [] ⟨bx, bl⟩ = some (.om bl.length, ⟨bx, bl ++ [.map []]⟩) := fun _ _ => rfl
  have hw : [sl fZ l.nodes, sl fS l.secs, sl fL l.parts, sl fP l.pts, sl fL l.routes, .int .i64 l.speed, .int .i64 l.mute, .int .i64 l.wait, .int .i64 l.cancel, .int .i64 l.stay, .vp (layC l), .om bl.length] = worldC l bl.length := rfl
  rw [world_New_F_eq]
  have hw1 : ones (worldC l bl.length) = true := rfl
  have hw2 : CV.locs (worldC l bl.length) = false := rfl
  simp only [world_New_C, graph_New_call, hg, hmk, hw, hw1, hw2, List.length_append, zy, simprocAttr]
theorem wNew_W (l : Lay) (bl : List Blk) : Wld (bl ++ [.map []] ++ [.cells (worldC l bl.length)]) (bl.length + 1) bl.length l [] :=
  ⟨by simp, by simp [entsV], by simp, by simp⟩

theorem wway_loop2 (s : Int) (X : CV) (hX : X.locv = false) (Y : CV) (hY : Y.locv = false) (q : Nat) (t : Nat) (xs : List Ed) (hx : xs.length ≤ 4) (b0 : List Blk) : ∀ (S P W : List Ed) (v : CV) (b : List Blk), xs = P ++ S → W.length ≤ 1000 → Own fE 2 b v W → Grows b0 b → (∀ k, blkOf v = some k → b0.length ≤ k) →
    ∃ v' b', world_World_way_R2 ([(0, X), (7, v), (9, .int .i64 s), (20, Y), (21, .int .i64 q), (22, .int .i64 t), (47, sl fE xs), (48, .int .i64 xs.length), (49, .int .i64 P.length)], ⟨[], b⟩) =
      some (.norm, [(0, X), (7, v'), (20, Y), (21, .int .i64 q), (22, .int .i64 t)], ⟨[], b'⟩) ∧ Own fE 2 b' v' (W ++ match S.find? fun x => x.s == s with | some x => [x] | none => []) ∧ Grows b0 b' ∧ (∀ k, blkOf v' = some k → b0.length ≤ k) := by
  intro S
  have hcX := chkV_of hX
  have hcY := chkV_of hY
  induction S with
  | nil =>
    intro P W v b hP _ hO hG hv
    have h1 : ¬ ((P.length : Int) < xs.length) := by rw [hP]; simp
    refine ⟨v, b, ?_, by simpa using hO, hG, hv⟩
    rw [world_World_way_R2_eq]
    simp only [world_World_way_B2, world_World_way_K2_a, h1, hcX, hcY, hO.chkV, zy, simprocAttr]
  | cons x S ih =>
    intro P W v b hP hW hO hG hv
    have h1 : ((P.length : Int) < xs.length) := by rw [hP]; simp; omega
    have hw := wrapN (n := P.length) (by rw [hP] at hx; unfold Zc.small; simp at hx; omega)
    have hia := iaddr_midE .i64 P S x
    rw [← hP] at hia
    by_cases hA : x.s = s
    · obtain ⟨v1, b1, e1, o1, _, f2, f3⟩ := hO.app1 flatE (bytes := 16) (zero := [.int .i64 0, .int .i64 0]) (by omega) rfl rfl x (by omega)
      have hb : (x.s == s) = true := by simpa using hA
      refine ⟨v1, b1, ?_, by simpa [List.find?_cons, hb] using o1, hG.fr f2 hv, fun k hk => ?_⟩
      · simp only [fE] at e1
        rw [world_World_way_R2_eq]
        simp only [world_World_way_B2, world_World_way_K2_a, h1, hia, eq_true hA, e1, hcX, hcY, hO.chkV, o1.chkV, zy, simprocAttr]
      · rcases f3 with f3 | f3
        · exact hv k (f3 ▸ hk)
        · rw [f3] at hk
          have := Option.some.inj hk
          have := hG.le
          omega
    · have hb : (x.s == s) = false := by simpa using hA
      obtain ⟨v', b', q1, q2, q3, q4⟩ := ih (P ++ [x]) W v b (by rw [hP]; simp) hW hO hG hv
      rw [show (P ++ [x]).length = P.length + 1 by simp] at q1
      refine ⟨v', b', ?_, by simpa [List.find?_cons, hb] using q2, q3, q4⟩
      rw [world_World_way_R2_eq]
      simp only [world_World_way_B2, world_World_way_K2_a, h1, hia, eq_false hA, hw, hcX, hcY, hO.chkV, q1, zy, simprocAttr]

theorem wway_loop0 (hl : Lens l) (h : Wld bl a m l es) (t : List Int) (ht : t.length ≤ 12) : ∀ (S P : List Int) (W : List Ed) (e : Ed) (v : CV) (b : List Blk), t = P ++ S → W.length + S.length ≤ 100 → follows l ⟨e.s, 1 - e.e⟩ S = true → -1 ≤ e.e ∧ e.e ≤ 1 → Own fE 2 b v (W ++ [e]) → Grows bl b → (∀ k, blkOf v = some k → bl.length ≤ k) →
    ∃ v' b', world_World_way_R0 ([(0, .op (.blk a) 0), (7, v), (20, sl fI t), (21, .int .i64 t.length), (22, .int .i64 P.length)], ⟨[], b⟩) = some (.norm, [(7, v')], ⟨[], b'⟩) ∧ Own fE 2 b' v' (W ++ [e] ++ wayFrom l e S) ∧ Grows bl b' ∧ (∀ k, blkOf v' = some k → bl.length ≤ k) := by
  intro S
  have hn : nchkC (.op (.blk a) 0) = some (.op (.blk a) 0) := rfl
  induction S with
  | nil =>
    intro P W e v b hP _ _ _ hO hG hv
    have h1 : ¬ ((P.length : Int) < t.length) := by rw [hP]; simp
    refine ⟨v, b, ?_, by simpa [wayFrom] using hO, hG, hv⟩
    rw [world_World_way_R0_eq]
    simp only [world_World_way_B0, world_World_way_K0_a, h1, hO.chkV, zy, simprocAttr]
  | cons s S ih =>
    intro P W e v b hP hW hf he hO hG hv
    unfold follows at hf
    cases hx : (around l ⟨e.s, 1 - e.e⟩).find? fun x => x.s == s with
    | none => simp [hx] at hf
    | some x =>
      simp only [hx] at hf
      have hm := List.mem_of_find?_eq_some hx
      have hxs : x.s = s := by simpa using List.find?_some hx
      have hin := around_in hm
      have h1 : ((P.length : Int) < t.length) := by rw [hP]; simp; omega
      have hpl : P.length + 1 ≤ 12 := by rw [hP] at ht; simp at ht; omega
      have hw := wrapN (n := P.length) (by unfold Zc.small; omega)
      have hWl : W.length + 1 ≤ 100 := by simp at hW; omega
      have hw2 : IntKind.i64.wrap (((W ++ [e]).length : Int) - 1) = W.length := by rw [wrap64 (by omega) (by simp; omega)]; simp
      have hw3 : IntKind.i64.wrap (1 - e.e) = 1 - e.e := wrap64 (by omega) (by omega)
      have hia := iaddr_midI .i64 P S s
      rw [← hP] at hia
      have hlen := hO.len
      obtain ⟨m', g1, cs, g2, g3⟩ := Own.get flatE hO (p := W) (s := []) (x := e) rfl
      have g1' := g1 .i64
      have hh0 : headO (List.drop (W.length * 2) cs) = some (.int .i64 e.s) := by rw [g3]; rfl
      have hh1 : headO (List.drop (W.length * 2 + 1) cs) = some (.int .i64 e.e) := by rw [← List.drop_drop, g3]; rfl
      have hA := fun H => garound_F l hl.ok ⟨e.s, 1 - e.e⟩ H
      have hal := around_len l ⟨e.s, 1 - e.e⟩
      have hgw := (h.keep hG).get
      obtain ⟨v1, b1, r1, r2, r3, r4⟩ := wway_loop2 s (.op (.blk a) 0) rfl (sl fI t) rfl t.length P.length (around l ⟨e.s, 1 - e.e⟩) (by omega) bl (around l ⟨e.s, 1 - e.e⟩) [] (W ++ [e]) v b rfl (by simp; omega) hO hG hv
      simp only [hx] at r2
      obtain ⟨v', b', q1, q2, q3, q4⟩ := ih (P ++ [s]) (W ++ [e]) x v1 b1 (by rw [hP]; simp) (by simp at hW ⊢; omega) (by rw [hxs]; exact hf) (by omega) r2 r3 r4
      rw [show (P ++ [s]).length = P.length + 1 by simp] at q1
      refine ⟨v', b', ?_, ?_, q3, q4⟩
      · simp only [fE] at hA
        simp only [List.length_nil, Int.natCast_zero] at r1
        rw [world_World_way_R0_eq]
        simp only [world_World_way_B0, world_World_way_K0_a, h1, hia, hlen, hw2, hw3, g1', g2, hh0, hh1, hn, hgw, world_g, graph_Graph_Around_call, hA, world_World_way_L2_eq, r1, hw, hO.chkV, r2.chkV, q1, Nat.add_zero, zy, simprocAttr]
      · unfold wayFrom
        simp only [hx]
        rw [show W ++ [e] ++ x :: wayFrom l x S = W ++ [e] ++ [x] ++ wayFrom l x S by simp]
        exact q2
theorem wway_F (hl : Lens l) (h : Wld bl a m l es) (dir : Int) (s : Int) (t : List Int) (ht : t.length ≤ 12) (hf : follows l ⟨s, 1 - dir⟩ t = true) (hd : 0 ≤ dir ∧ dir ≤ 1) :
    ∃ v X, (∀ bx, world_World_way_F bx bl [.op (.blk a) 0, .int .i64 dir, sl fI (s :: t)] = some (v, ⟨bx, bl ++ X⟩)) ∧ Own fE 2 (bl ++ X) v (wayIn l dir (s :: t)) ∧ (∀ k, blkOf v = some k → bl.length ≤ k) := by
  have o0 : Own fE 2 (bl ++ [Blk.cells [.int .i64 s, .int .i64 dir]]) (.os 2 (.blk bl.length) 0 1) [⟨s, dir⟩] := .inr ⟨bl.length, rfl, by simp [fE]⟩
  obtain ⟨v', b', q1, q2, q3, q4⟩ := wway_loop0 hl h t ht t [] [] ⟨s, dir⟩ _ _ rfl (by simp; omega) hf (by simp only; omega) o0 (Grows.app _ _) (fun k hk => by cases hk; exact Nat.le_refl _)
  obtain ⟨X, rfl⟩ := q3.ex
  simp only [List.length_nil, Int.natCast_zero] at q1
  have h0 : iaddrC 1 (sl fI (s :: t)) (.int .i64 0) = some (.vp (.int .i64 s :: t.flatMap fI)) := iaddr_midI .i64 [] t s
  have hsl : slcC 1 (sl fI (s :: t)) (some (.int .i64 1)) none = some (sl fI t) := by
    have := slc_lo flatI (s :: t) 1 (by simp) .i64
    simpa using this
  refine ⟨v', X, fun bx => ?_, q2, q4⟩
  have hlv := q2.locv
  rw [world_World_way_F_eq]
  simp only [world_World_way_C, h0, hsl, world_World_way_L0_eq, q1, hlv, zy, simprocAttr]
end
end Go.Proofs.Ytfblegjbmhgepaa.Zt
end
section
namespace Go.Proofs.Ytfblegjbmhgepaa.Zt
open Go Go.Zc
set_option maxRecDepth 10000

section
variable {bl : List Blk} {a m : Nat} {l : Lay} {es : List Ve}
set_option maxHeartbeats 2000000 in
theorem wAdd_F (hl : Lens l) (h : Wld bl a m l es) (id length ahead dir : Int) (trail : List Int) (ha : -1000000000 ≤ ahead ∧ ahead ≤ 1000000000) (hfree : findE es id = none) (h6 : es.length < 6) (hma : mayAdd l length ahead dir trail = true) :
    ∃ bl' e, (∀ bx, world_World_Add_F bx bl [.op (.blk a) 0, .int .i64 id, .int .i64 length, .int .i64 ahead, .int .i64 dir, sl fI trail] = some (.int .i64 0, ⟨bx, bl'⟩)) ∧ Wld bl' a m l (es ++ [e]) ∧ e.v = ⟨id, length, ahead, wayIn l dir trail⟩ ∧
      (∀ (k : Nat) (b : Blk), bl[k]? = some b → k ≠ m → bl'[k]? = some b) ∧ bl.length ≤ e.c ∧ (∀ k, blkOf e.s = some k → bl.length ≤ k ∧ k ≠ e.c) ∧ bl.length ≤ bl'.length ∧ Own fE 2 bl' e.s e.v.way := by
  have hfull := wfull_F h id
  rw [hfree] at hfull
  have hd6 : decide (6 ≤ es.length) = false := decide_eq_false (by omega)
  simp only [Option.isSome_none, Bool.false_or, hd6] at hfull
  have hma' := hma
  unfold mayAdd at hma'
  cases htr : trail with
  | nil => rw [htr] at hma'; simp [fits] at hma'
  | cons s t =>
    rw [htr] at hma'
    have hd0 : (s :: t).headD 0 = s := rfl
    rw [hd0] at hma'
    simp only [Bool.and_eq_true, decide_eq_true_eq] at hma'
    obtain ⟨⟨⟨k1, k2⟩, k3⟩, k4⟩ := hma'
    have hfi := k1
    unfold fits at k1
    simp only [Bool.and_eq_true, decide_eq_true_eq] at k1
    obtain ⟨⟨⟨⟨⟨⟨j1, j2⟩, j3⟩, j4⟩, j5⟩, j6⟩, j7⟩ := k1
    have j1' : (s :: t).length ≤ 12 := j1
    have hF := fun st H => tfits_F l hl.ok ⟨3, 0, 0, dir, ahead, false, s :: t⟩ st H
    rw [hfi] at hF
    simp only [msgC] at hF
    have hroom := wroom_F hl h ahead ha (s :: t) j1'
    have hL := fun st H => glen_F l s st H
    have hi0 : iaddrC 1 (sl fI (s :: t)) (.int .i64 0) = some (.vp (.int .i64 s :: t.flatMap fI)) := iaddr_midI .i64 [] t s
    have c1 : ¬ (lenAt l s ≤ ahead) := by omega
    have c2 : ¬ (length < 1) := by omega
    have c3 : ¬ (0 - ahead + sumL l (s :: t) < length) := by omega
    obtain ⟨v, X, q1, q2, q3⟩ := wway_F hl h dir s t (by simp at j1'; omega) j7 ⟨j3, j4⟩
    have hg := h.get
    have hz : ∀ i o, binC .eql .ptr (.op i o) .nilp = some (.bool false) := fun _ _ => rfl
    have hn : nchkC (.op (.blk a) 0) = some (.op (.blk a) 0) := rfl
    have hone := q2.one
    have hlv := q2.locv
    have hund := q2.und
    have hcells := q2.cells
    have hmb : m < bl.length := (List.getElem?_eq_some_iff.1 h.map).1
    have hput : ∀ bx, heapOp (.mput 0) [.om m, .int .i64 id, .op (.blk (bl ++ X).length) 0] ⟨bx, bl ++ X ++ [Blk.cells [.int .i64 length, .int .i64 ahead, v]]⟩ =
        some (.tup [], ⟨bx, (bl ++ X ++ [Blk.cells [.int .i64 length, .int .i64 ahead, v]]).set m (.map (entsV es ++ [(.int .i64 id, .op (.blk (bl ++ X).length) 0)]))⟩) := by
      intro bx
      have hm2 : (bl ++ X ++ [Blk.cells [.int .i64 length, .int .i64 ahead, v]])[m]? = some (.map (entsV es)) := by
        rw [List.append_assoc, List.getElem?_append_left hmb]; exact h.map
      have hf0 := mfindV id es 0
      rw [hfree] at hf0
      simp only at hf0
      simp only [heapOp, CV.und?, CV.locv, Id.loc?, Bool.or_self, Bool.false_eq_true, if_false, mputC, Nat.zero_ne_one, hm2, hf0, Option.bind_some, mkey, if_true, Option.map_some]
    rw [List.length_append] at hput
    let e : Ve := ⟨⟨id, length, ahead, wayIn l dir (s :: t)⟩, bl.length + X.length, v⟩
    refine ⟨(bl ++ X ++ [Blk.cells [.int .i64 length, .int .i64 ahead, v]]).set m (.map (entsV es ++ [(.int .i64 id, .op (.blk (bl.length + X.length)) 0)])), e, fun bx => ?_, ⟨?_, ?_, ?_, ?_⟩, rfl, fun k b hk hne => ?_, Nat.le_add_right _ _, fun k hk => ?_, ?_, ?_⟩
    · rw [world_World_Add_F_eq]
      simp only [world_World_Add_C, hz, world_World_full_call, hfull, hn, hg, world_g, world_m, train_Fits_call, hF, hi0, graph_Graph_Len_call, hL, c1, c2, c3, ge_iff_le, gt_iff_lt, world_World_room_call, hroom, world_World_way_call, q1, hone, hlv, hund, hcells, List.length_append, hput, zy, simprocAttr]
    · rw [List.getElem?_set_ne (Ne.symm h.ne), List.append_assoc, List.getElem?_append_left (List.getElem?_eq_some_iff.1 h.top).1]
      exact h.top
    · rw [List.getElem?_set_self (by simp; omega)]
      simp [entsV, e]
    · intro x hx
      rcases List.mem_append.1 hx with hx | hx
      · have hc := h.cell x hx
        have hcl := (List.getElem?_eq_some_iff.1 hc).1
        rw [List.getElem?_set_ne (fun e => by have := h.map; rw [e, hc] at this; simp at this), List.append_assoc, List.getElem?_append_left hcl]
        exact hc
      · simp only [List.mem_singleton] at hx
        subst hx
        show ((bl ++ X ++ [Blk.cells [.int .i64 length, .int .i64 ahead, v]]).set m (.map (entsV es ++ [(.int .i64 id, .op (.blk (bl.length + X.length)) 0)])))[bl.length + X.length]? = some (.cells [.int .i64 length, .int .i64 ahead, v])
        rw [List.getElem?_set_ne (by omega), List.getElem?_append_right (by simp)]
        simp
    · intro x hx
      rcases List.mem_append.1 hx with hx | hx
      · refine (h.way x hx).keep fun k b hb hk => ?_
        have hkl := (List.getElem?_eq_some_iff.1 hb).1
        rw [List.getElem?_set_ne, List.append_assoc, List.getElem?_append_left hkl]
        · exact hb
        · intro e
          have hw := h.way x hx
          rcases hw with hw | ⟨hw, _⟩ | ⟨m', pre, rest, hw, h2⟩
          · rw [hw] at hk; cases hk
          · rw [hw] at hk; cases hk
          · rw [hw] at hk
            cases hk
            rw [← e, h.map] at h2
            simp at h2
      · simp only [List.mem_singleton] at hx
        subst hx
        refine q2.held.keep fun k b hb hk => ?_
        have := q3 k hk
        rw [List.getElem?_set_ne (by omega), List.getElem?_append_left (List.getElem?_eq_some_iff.1 hb).1]
        exact hb
    · have hkl := (List.getElem?_eq_some_iff.1 hk).1
      rw [List.getElem?_set_ne (Ne.symm hne), List.append_assoc, List.getElem?_append_left hkl]
      exact hk
    · refine ⟨q3 k hk, ?_⟩
      have := q2.lt hk
      simp only [List.length_append] at this
      show k ≠ bl.length + X.length
      omega
    · simp only [List.length_set, List.length_append]
      omega
    · rcases q2 with h' | ⟨k, h1', h2'⟩
      · exact .inl h'
      · refine .inr ⟨k, h1', ?_⟩
        have hk := q3 k (by rw [h1']; rfl)
        rw [List.getElem?_set_ne (by omega), List.getElem?_append_left (List.getElem?_eq_some_iff.1 h2').1]
        exact h2'
end
end Go.Proofs.Ytfblegjbmhgepaa.Zt
end
section
namespace Go.Proofs.Ytfblegjbmhgepaa.Zt
open Go Go.Zc
set_option maxRecDepth 10000

theorem ones_E (w : List Ed) : ones (w.flatMap fE) = true := by
  induction w with
  | nil => rfl
  | cons x w ih => simpa [fE, ones, CV.one] using ih
theorem len_E (w : List Ed) : (w.flatMap fE).length = w.length * 2 := by
  induction w with
  | nil => rfl
  | cons x w ih => simp only [List.flatMap_cons, List.length_append, ih, List.length_cons]; show 2 + w.length * 2 = _; omega
/-- What slices.Insert(way, 0, x) does. -/
theorem insert_C (bl : List Blk) (k v : Nat) (w : List Ed) (x : Ed) (rest : List CV) (hk : bl[k]? = some (.cells (w.flatMap fE ++ rest))) (hv : bl[v]? = some (.cells (fE x))) (hne : k ≠ v) (h0 : 0 < w.length) (h6 : w.length ≤ 1000000) (bx : List (Nat × List CV)) :
    call ctx (.fn (.func 92) [] []) [.os 2 (.blk k) 0 w.length, .int .i64 0, .os 2 (.blk v) 0 1] ⟨bx, bl⟩ = some (.os 2 (.blk bl.length) 0 (w.length + 1), ⟨bx, bl.set k .dead ++ [.cells ((x :: w).flatMap fE)]⟩) := by
  rw [prim_call (s := insC) (show ctx.prim 92 = _ by rfl), List.append_nil]
  have e1 : (w.flatMap fE ++ rest).take (w.length * 2) = w.flatMap fE := by rw [List.take_append_of_le_length (by rw [len_E]; omega), List.take_of_length_le (by rw [len_E]; omega)]
  have e2 : (fE x).take 2 = fE x := rfl
  have hl : w.length * 2 ≤ (w.flatMap fE ++ rest).length := by rw [List.length_append, len_E]; omega
  have hx : ones (fE x) = true := rfl
  have hins : insC [.os 2 (.blk k) 0 w.length, .int .i64 0, .os 2 (.blk v) 0 1] bl = some (.os 2 (.blk bl.length) 0 (w.length + 1), bl.set k .dead ++ [.cells (fE x ++ w.flatMap fE)]) := by
    unfold insC
    simp only []
    rw [if_pos ⟨trivial, h0, h6, hne⟩, hk, hv]
    simp only []
    rw [if_pos ⟨hl, by show 2 ≤ 2; omega, by rw [e1]; exact ones_E w, by rw [e2]; exact hx⟩, e1, e2]
  rw [hins]
  rfl

/-- On into the next section, the way behind kept. -/
def enterP (l : Lay) (right : List Bool) (v : Vh) : Option Vh := match v.way with
  | [] => none
  | e :: _ => match next l e right with
    | none => none
    | some x => if x.s ∈ underL l v then none else some { v with ahead := lenAt l x.s, way := ⟨x.s, 1 - x.e⟩ :: v.way }

section
variable {bl : List Blk} {a m : Nat} {l : Lay} {es : List Ve}
/-- A vehicle's way is its own. -/
structure Mine (bl : List Blk) (e : Ve) (k : Nat) : Prop where
  s : e.s = .os 2 (.blk k) 0 e.v.way.length
  at' : ∃ rest, bl[k]? = some (.cells (e.v.way.flatMap fE ++ rest))
  ne : k ≠ e.c

theorem Wld.apart (h : Wld bl a m l es) (e : Ve) (he : e ∈ es) : a ≠ e.c ∧ m ≠ e.c := by
  have h1 := h.top; have h2 := h.map; have h3 := h.cell e he
  constructor
  · intro q
    rw [q, h3] at h1
    simp only [Option.some.injEq, Blk.cells.injEq] at h1
    have := congrArg List.length h1
    simp [veC, worldC] at this
  · intro q
    rw [q, h3] at h2
    simp at h2

theorem wEnter_F (hl : Lens l) (h : Wld bl a m l es) (hf : GoodE l es) (e : Ve) (he : findE es e.v.id = some e) (k : Nat) (hm : Mine bl e k) (right : List Bool) (x : Ed) (r : List Ed) (hw : e.v.way = x :: r) (hb : ∀ y, next l x right = some y → -1000 ≤ y.e ∧ y.e ≤ 1000) :
    match enterP l right e.v with
    | none => ∃ X, ∀ bx, world_World_enter_F bx bl [.op (.blk a) 0, .int .i64 e.v.id, .op (.blk e.c) 0, sl fB right] = some (.bool false, ⟨bx, bl ++ X⟩)
    | some v' => ∃ bl' k', (∀ bx, world_World_enter_F bx bl [.op (.blk a) 0, .int .i64 e.v.id, .op (.blk e.c) 0, sl fB right] = some (.bool true, ⟨bx, bl'⟩)) ∧
        bl'[e.c]? = some (.cells (veC ⟨v', e.c, .os 2 (.blk k') 0 v'.way.length⟩)) ∧ bl'[k']? = some (.cells (v'.way.flatMap fE)) ∧ bl.length ≤ k' ∧ bl.length ≤ bl'.length ∧
        (∀ (j : Nat) (b : Blk), bl[j]? = some b → j ≠ e.c → j ≠ k → bl'[j]? = some b) := by
  have hem := (findE_mem he).1
  have hg := h.get
  have hc := h.cell e hem
  have hcl := (List.getElem?_eq_some_iff.1 hc).1
  have hgc : ∀ bx, Heap.get ⟨bx, bl⟩ (.blk e.c) = some (veC e) := fun bx => get_blk bx bl _ _ hc
  obtain ⟨rest, hk⟩ := hm.at'
  have hkl := (List.getElem?_eq_some_iff.1 hk).1
  have hgk : ∀ bx, Heap.get ⟨bx, bl⟩ (.blk k) = some (e.v.way.flatMap fE ++ rest) := fun bx => get_blk bx bl _ _ hk
  have hn : nchkC (.op (.blk a) 0) = some (.op (.blk a) 0) := rfl
  have hn2 : nchkC (.op (.blk e.c) 0) = some (.op (.blk e.c) 0) := rfl
  have hnx := fun st H => gnext_F l hl.ok x right st H
  have hia : iaddrC 2 (.os 2 (.blk k) 0 (r.length + 1)) (.int .i64 0) = some (.op (.blk k) 0) := by
    simp [iaddrC, iaddrN]
  rw [hw] at hgk
  simp only [List.flatMap_cons, fE, List.cons_append, List.nil_append] at hgk
  have hs := hm.s
  rw [hw] at hs
  simp only [List.length_cons] at hs
  unfold enterP
  rw [hw]
  simp only
  obtain ⟨v, X, u1, u2, u3⟩ := wUnder_F hl h hf.fit e.v.id
  have huE : underE l es e.v.id = underL l e.v := by unfold underE; rw [he]
  have hlen := underE_len hf e.v.id
  rw [huE] at u2 hlen
  have hsn := fun bx => u2.snapV flatI bx false (snapN ⟨bx, bl ++ X⟩ false false 7) (snap_Iq _ false 6)
  have hlv := u2.locv
  cases hnext : next l x right with
  | none =>
    rw [hnext] at hnx
    simp only [fE, edC, Option.isSome_none] at hnx
    refine ⟨[], fun bx => ?_⟩
    rw [world_World_enter_F_eq]
    simp only [world_World_enter_C, hn, hn2, hg, hgc, veC, hs, world_g, hia, hgk, graph_Graph_Next_call, hnx, List.append_nil, zy, simprocAttr]
  | some y =>
    rw [hnext] at hnx
    simp only [fE, edC, Option.isSome_some] at hnx
    simp only
    have hc2 := fun st H => contains_F y.s (underL l e.v) (by unfold Zc.small; omega) st H
    by_cases hin : y.s ∈ underL l e.v
    · rw [if_pos hin]
      rw [decide_eq_true hin] at hc2
      refine ⟨X, fun bx => ?_⟩
      rw [world_World_enter_F_eq]
      simp only [world_World_enter_C, hn, hn2, hg, hgc, veC, hs, world_g, hia, hgk, graph_Graph_Next_call, hnx, world_World_Under_call, u1, slices_Contains_int_call, hsn, hc2, hlv, zy, simprocAttr]
    · rw [if_neg hin]
      rw [decide_eq_false hin] at hc2
      obtain ⟨hy1, hy2⟩ := hb y hnext
      have hL := fun st H => glen_F l y.s st H
      obtain ⟨ha1, ha2⟩ := h.apart e hem
      have hal := (List.getElem?_eq_some_iff.1 h.top).1
      have hB1 : ∀ (j : Nat) (b : Blk), bl[j]? = some b → (bl ++ X)[j]? = some b := fun j b hj => Grows.app bl X _ _ hj
      have hg1 : ∀ bx, Heap.get ⟨bx, bl ++ X⟩ (.blk a) = some (worldC l m) := fun bx => get_blk bx _ _ _ (hB1 _ _ h.top)
      have hc1 : ∀ bx, Heap.get ⟨bx, bl ++ X⟩ (.blk e.c) = some (veC e) := fun bx => get_blk bx _ _ _ (hB1 _ _ hc)
      have hcl1 : e.c < (bl ++ X).length := by rw [List.length_append]; omega
      let L1 : List CV := [.int .i64 e.v.length, .int .i64 (lenAt l y.s), .os 2 (.blk k) 0 (r.length + 1)]
      let B2 := (bl ++ X).set e.c (.cells L1)
      have st1 : ∀ bx, stE 1 1 (.int .i64 (lenAt l y.s)) ⟨bx, bl ++ X⟩ (.blk e.c) [.int .i64 e.v.length, .int .i64 e.v.ahead, .os 2 (.blk k) 0 (r.length + 1)] = some ⟨bx, B2⟩ := fun bx => st_cell bx _ _ 1 _ _ rfl rfl rfl (by simp)
      have hg2 : ∀ bx, Heap.get ⟨bx, B2⟩ (.blk e.c) = some L1 := fun bx => get_set bx _ _ _ hcl1
      have hl2 : B2.length = (bl ++ X).length := List.length_set
      let y' : Ed := ⟨y.s, 1 - y.e⟩
      let B3 := B2 ++ [Blk.cells (fE y')]
      have hk2 : B2[k]? = some (.cells (e.v.way.flatMap fE ++ rest)) := by
        show ((bl ++ X).set e.c _)[k]? = _
        rw [List.getElem?_set_ne (Ne.symm hm.ne)]
        exact hB1 _ _ hk
      have hk2l := (List.getElem?_eq_some_iff.1 hk2).1
      have hk3 : B3[k]? = some (.cells (e.v.way.flatMap fE ++ rest)) := (List.getElem?_append_left hk2l).trans hk2
      have hv3 : B3[B2.length]? = some (.cells (fE y')) := by show (B2 ++ [_])[B2.length]? = _; simp
      have hwf := (hf.fit e hem).way
      have hins := fun bx => insert_C B3 k B2.length e.v.way y' rest hk3 hv3 (by omega) (by rw [hw]; simp) (by omega) bx
      rw [hw] at hins
      simp only [List.length_cons] at hins
      have hL1 : headO (List.drop 2 L1) = some (.os 2 (.blk k) 0 (r.length + 1)) := rfl
      let B4 := B3.set k .dead ++ [Blk.cells ((y' :: x :: r).flatMap fE)]
      have hins' : ∀ bx, call ctx (.fn (.func 92) [] []) [.os 2 (.blk k) 0 (r.length + 1), .int .i64 0, .os 2 (.blk B2.length) 0 1] ⟨bx, B2 ++ [Blk.cells [.int .i64 y.s, .int .i64 (1 - y.e)]]⟩ = some (.os 2 (.blk B3.length) 0 (r.length + 1 + 1), ⟨bx, B4⟩) := hins
      have hc4 : B4[e.c]? = some (.cells L1) := by
        show (B3.set k .dead ++ _)[e.c]? = _
        rw [List.getElem?_append_left (by rw [List.length_set, List.length_append]; omega), List.getElem?_set_ne hm.ne]
        show (B2 ++ _)[e.c]? = _
        rw [List.getElem?_append_left (by omega)]
        show ((bl ++ X).set e.c _)[e.c]? = _
        rw [List.getElem?_set_self hcl1]
      have hg4 : ∀ bx, Heap.get ⟨bx, B4⟩ (.blk e.c) = some L1 := fun bx => get_blk bx _ _ _ hc4
      have hc4l := (List.getElem?_eq_some_iff.1 hc4).1
      have st4 : ∀ bx, stE 1 2 (.os 2 (.blk B3.length) 0 (r.length + 1 + 1)) ⟨bx, B4⟩ (.blk e.c) L1 = some ⟨bx, B4.set e.c (.cells [.int .i64 e.v.length, .int .i64 (lenAt l y.s), .os 2 (.blk B3.length) 0 (r.length + 1 + 1)])⟩ := fun bx => st_cell bx _ _ 2 _ _ rfl rfl rfl (by simp [L1])
      have hw1 : IntKind.i64.wrap (1 - y.e) = 1 - y.e := wrap64 (by omega) (by omega)
      have h3l : B3.length = (bl ++ X).length + 1 := by show (B2 ++ [_]).length = _; rw [List.length_append, hl2]; rfl
      have hxl : (bl ++ X).length = bl.length + X.length := List.length_append
      refine ⟨B4.set e.c (.cells [.int .i64 e.v.length, .int .i64 (lenAt l y.s), .os 2 (.blk B3.length) 0 (r.length + 1 + 1)]), B3.length, fun bx => ?_, ?_, ?_, by omega, ?_, fun j b hj hjc hjk => ?_⟩
      · rw [world_World_enter_F_eq]
        simp only [world_World_enter_C, hn, hn2, hg, hgc, veC, hs, world_g, hia, hgk, graph_Graph_Next_call, hnx, world_World_Under_call, u1, slices_Contains_int_call, hsn, hc2, hlv, hg1, hc1, graph_Graph_Len_call, hL, st1, hg2, hL1, hw1, hins', hg4, st4, zy, simprocAttr]
      · rw [List.getElem?_set_self hc4l]
        rfl
      · rw [List.getElem?_set_ne (by omega)]
        show (B3.set k .dead ++ _)[B3.length]? = _
        rw [List.getElem?_append_right (by simp)]
        simp [y']
      · rw [List.length_set]
        show _ ≤ (B3.set k .dead ++ _).length
        rw [List.length_append, List.length_set]
        omega
      · have hjl := (List.getElem?_eq_some_iff.1 hj).1
        rw [List.getElem?_set_ne (Ne.symm hjc)]
        show (B3.set k .dead ++ _)[j]? = _
        rw [List.getElem?_append_left (by rw [List.length_set]; omega), List.getElem?_set_ne (Ne.symm hjk)]
        show (B2 ++ _)[j]? = _
        rw [List.getElem?_append_left (by omega)]
        show ((bl ++ X).set e.c _)[j]? = _
        rw [List.getElem?_set_ne (Ne.symm hjc)]
        exact hB1 _ _ hj
end
end Go.Proofs.Ytfblegjbmhgepaa.Zt
end
section
namespace Go.Proofs.Ytfblegjbmhgepaa.Zt
open Go Go.Zc
set_option maxRecDepth 10000

/-- On, by so many metres, the way behind kept; what is left of them. -/
def goP (l : Lay) (right : List Bool) : Nat → Vh → Int → Vh × Int
  | 0, v, left => (v, left)
  | n + 1, v, left =>
    if left ≤ 0 then (v, left)
    else if left - min left v.ahead ≤ 0 then ({ v with ahead := v.ahead - min left v.ahead }, left - min left v.ahead)
    else match enterP l right { v with ahead := v.ahead - min left v.ahead } with
      | none => ({ v with ahead := v.ahead - min left v.ahead }, left - min left v.ahead)
      | some v' => goP l right n v' (left - min left v.ahead)

structure Rig (l : Lay) (a m : Nat) (P S : List Ve) (bl : List Blk) (e : Ve) (k : Nat) : Prop where
  w : Wld bl a m l (P ++ e :: S)
  g : GoodE l (P ++ e :: S)
  f : ∀ x ∈ P, x.v.id ≠ e.v.id
  mine : Mine bl e k
  o : ∀ x ∈ P ++ S, x.c ≠ e.c ∧ x.c ≠ k ∧ blkOf x.s ≠ some e.c ∧ blkOf x.s ≠ some k
  ak : a ≠ k ∧ m ≠ k
/-- All but a vehicle's own blocks are as they were. -/
def Kept (c k : Nat) (bl bl' : List Blk) : Prop := bl.length ≤ bl'.length ∧ ∀ (j : Nat) (b : Blk), bl[j]? = some b → j ≠ c → j ≠ k → bl'[j]? = some b
theorem Kept.trans {c k k' : Nat} {b0 b1 b2 : List Blk} (h : Kept c k b0 b1) (h' : Kept c k' b1 b2) (hk : k' = k ∨ b0.length ≤ k') : Kept c k b0 b2 := by
  refine ⟨Nat.le_trans h.1 h'.1, fun j b hj hc hjk => h'.2 j b (h.2 j b hj hc hjk) hc fun e => ?_⟩
  have := (List.getElem?_eq_some_iff.1 hj).1
  rcases hk with rfl | hk
  · exact hjk e
  · omega
theorem Kept.app {c k : Nat} (bl X : List Blk) : Kept c k bl (bl ++ X) := ⟨by simp, fun j b hj _ _ => Grows.app bl X _ _ hj⟩
theorem Kept.set {c k : Nat} (bl : List Blk) (x : Blk) : Kept c k bl (bl.set c x) := ⟨by simp, fun j b hj hc _ => by rw [List.getElem?_set_ne (Ne.symm hc)]; exact hj⟩
theorem Rig.find {l : Lay} {a m k : Nat} {P S : List Ve} {bl : List Blk} {e : Ve} (h : Rig l a m P S bl e k) : findE (P ++ e :: S) e.v.id = some e := by
  unfold findE
  rw [List.find?_append]
  have : P.find? (fun x => decide (x.v.id = e.v.id)) = none := by
    rw [List.find?_eq_none]
    intro x hx
    simpa using h.f x hx
  rw [this]
  simp
theorem Rig.upd {l : Lay} {a m k : Nat} {P S : List Ve} {bl bl' : List Blk} {e : Ve} (h : Rig l a m P S bl e k) (hk : Kept e.c k bl bl') (v' : Vh) (hid : v'.id = e.v.id) (hfit : v'.fits) (k' : Nat) (hk' : k' = k ∨ bl.length ≤ k')
    (h1 : bl'[e.c]? = some (.cells (veC ⟨v', e.c, .os 2 (.blk k') 0 v'.way.length⟩))) (h2 : ∃ rest, bl'[k']? = some (.cells (v'.way.flatMap fE ++ rest))) : Rig l a m P S bl' ⟨v', e.c, .os 2 (.blk k') 0 v'.way.length⟩ k' := by
  have hem : e ∈ P ++ e :: S := by simp
  obtain ⟨ha1, ha2⟩ := h.w.apart e hem
  have hlt : ∀ {j : Nat} {b : Blk}, bl[j]? = some b → j < bl.length := fun hj => (List.getElem?_eq_some_iff.1 hj).1
  have hcl := hlt (h.w.cell e hem)
  have hkk : ∀ {j : Nat} {b : Blk}, bl[j]? = some b → j ≠ k → j ≠ k' := fun hj hne he => by
    have := hlt hj
    rcases hk' with rfl | h'
    · exact hne he
    · omega
  have hmem : ∀ x ∈ P ++ (⟨v', e.c, .os 2 (.blk k') 0 v'.way.length⟩ : Ve) :: S, x ∈ P ++ S ∨ x = ⟨v', e.c, .os 2 (.blk k') 0 v'.way.length⟩ := fun x hx => by
    simp only [List.mem_append, List.mem_cons] at hx ⊢
    rcases hx with hx | hx | hx
    · exact .inl (.inl hx)
    · exact .inr hx
    · exact .inl (.inr hx)
  have hold : ∀ x ∈ P ++ S, x ∈ P ++ e :: S := fun x hx => by
    simp only [List.mem_append, List.mem_cons] at hx ⊢
    rcases hx with hx | hx
    · exact .inl hx
    · exact .inr (.inr hx)
  have hents : entsV (P ++ (⟨v', e.c, .os 2 (.blk k') 0 v'.way.length⟩ : Ve) :: S) = entsV (P ++ e :: S) := by
    simp [entsV, hid]
  obtain ⟨rest, hr⟩ := h2
  refine ⟨⟨hk.2 _ _ h.w.top ha1 h.ak.1, by rw [hents]; exact hk.2 _ _ h.w.map ha2 h.ak.2, fun x hx => ?_, fun x hx => ?_⟩, ⟨fun x hx => ?_, fun x hx => ?_, by have := h.g.few; simpa using this⟩, fun x hx => by rw [hid]; exact h.f x hx, ⟨rfl, ⟨rest, hr⟩, ?_⟩, fun x hx => ?_, ?_⟩
  · rcases hmem x hx with hx | rfl
    · exact hk.2 _ _ (h.w.cell x (hold x hx)) (h.o x hx).1 (h.o x hx).2.1
    · exact h1
  · rcases hmem x hx with hx | rfl
    · exact (h.w.way x (hold x hx)).keep fun j b hj hb => hk.2 _ _ hj (fun e' => (h.o x hx).2.2.1 (by rw [hb, e'])) (fun e' => (h.o x hx).2.2.2 (by rw [hb, e']))
    · exact .inr (.inr ⟨k', [], rest, rfl, by simpa using hr⟩)
  · rcases hmem x hx with hx | rfl
    · exact h.g.fit x (hold x hx)
    · exact hfit
  · rcases hmem x hx with hx | rfl
    · exact h.g.ids x (hold x hx)
    · have := h.g.ids e hem; rw [← hid] at this; exact this
  · show k' ≠ e.c
    intro q
    rcases hk' with rfl | h'
    · exact h.mine.ne q
    · omega
  · obtain ⟨o1, o2, o3, o4⟩ := h.o x hx
    refine ⟨o1, hkk (h.w.cell x (hold x hx)) o2, o3, ?_⟩
    intro q
    rcases hk' with rfl | h'
    · exact o4 q
    · rcases h.w.way x (hold x hx) with hw | ⟨hw, _⟩ | ⟨m', pre, rest', hw, h2⟩
      · rw [hw] at q; cases q
      · rw [hw] at q; cases q
      · rw [hw] at q
        cases q
        have := hlt h2
        omega
  · exact ⟨hkk h.w.top h.ak.1, hkk h.w.map h.ak.2⟩
end Go.Proofs.Ytfblegjbmhgepaa.Zt
end
