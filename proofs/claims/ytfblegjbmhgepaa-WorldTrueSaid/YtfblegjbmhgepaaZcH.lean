/- Walks: a draft's layout, with its routes. -/
import Derived.Test.YtfblegjbmhgepaaZcT
import Derived.Test.YtfblegjbmhgepaaZcSet
set_option linter.all false
section
namespace Go.Proofs.Ytfblegjbmhgepaa.Zt
open Go Go.Zc
set_option maxRecDepth 10000

theorem mkSecs_ok (u : Int) : ∀ (i : Nat) (l : List Ed), (mkSecs u i l).length = l.length := mkSecs_length u
theorem addLast_len (x : Int) : ∀ (l : List (List Int)), (addLast x l).length = l.length
  | [] => rfl
  | [_] => rfl
  | a :: b :: l => by simp only [addLast, List.length_cons, addLast_len x (b :: l)]
theorem addLast_mem (x : Int) : ∀ (l : List (List Int)) (n : Nat), (∀ p ∈ l, p.length ≤ n) → ∀ p ∈ addLast x l, p.length ≤ n + 1
  | [], _, _, p, hp => by simp [addLast] at hp
  | [q], n, h, p, hp => by
    have := h q (by simp)
    simp only [addLast, List.mem_singleton] at hp; subst hp; simp; omega
  | a :: b :: l, n, h, p, hp => by
    simp only [addLast, List.mem_cons] at hp
    rcases hp with rfl | hp
    · have := h p (by simp); omega
    · exact addLast_mem x (b :: l) n (fun q hq => h q (by simp [List.mem_cons.1 hq])) p hp
theorem mkParts_ok (j : Int) : ∀ (n i : Nat) (acc : List (List Int)), acc.length ≤ i → (∀ p ∈ acc, p.length ≤ i + 1) → (mkParts j i n acc).length ≤ i + n ∧ ∀ p ∈ mkParts j i n acc, p.length ≤ i + n + 1
  | 0, _, _, h, h' => ⟨by simpa [mkParts] using h, by simpa [mkParts] using h'⟩
  | n + 1, i, acc, h, h' => by
    simp only [mkParts]
    have := mkParts_ok j n (i + 1) (if joinAt j i then addLast i acc else acc ++ [[(i : Int)]]) (by split <;> simp [addLast_len] <;> omega) (by
      split
      · exact addLast_mem i acc (i + 1) h'
      · intro p hp
        rcases List.mem_append.1 hp with hp | hp
        · have := h' p hp; omega
        · simp only [List.mem_singleton] at hp; subst hp; simp)
    rw [show i + (n + 1) = i + 1 + n by omega]
    exact this
theorem mkXY_len (form u : Int) : (mkXY form u).length ≤ 9 := by
  unfold mkXY
  split
  · simp [mkN]; omega
  · split
    · simp
    · split <;> simp
theorem mkPts_len (form : Int) : (mkPts form).length ≤ 2 := by
  unfold mkPts
  split
  · simp
  · split
    · simp
    · split <;> simp
theorem make_ok (d : Draft) (r : List (List Int)) (h1 : r.length ≤ 16) (h2 : ∀ p ∈ r, p.length ≤ 7) : ({ make d with routes := r } : Lay).ok := by
  have ha := mkEnds_len d.form
  have hb := mkSecs_length (unitOf d.len) 0 (mkEnds d.form)
  have hc := mkParts_ok d.join (mkEnds d.form).length 0 [] (by simp) (by simp)
  have hd := mkXY_len d.form (unitOf d.len)
  have he := mkPts_len d.form
  refine ⟨?_, ?_, ?_, ?_, ?_, fun p hp => ?_, fun p hp => ?_⟩
  · simp only [make, List.length_map]; unfold Zc.small; omega
  · simp only [make]; unfold Zc.small; omega
  · simp only [make]; unfold Zc.small; omega
  · simp only [make]; unfold Zc.small; omega
  · simp only; unfold Zc.small; omega
  · have := hc.2 p hp; unfold Zc.small; omega
  · have := h2 p hp; unfold Zc.small; omega
theorem full_ok (d : Draft) : (full d).ok := by
  have := fullFrom_ok (make d) d.routes [] (by simp) (by simp)
  exact make_ok d _ this.1 this.2

theorem snap_L (H : Heap) (kn : Bool) (n : Nat) : ∀ x : List Int, ∀ c ∈ fL x, snapN H false kn (n + 1) c = some c := by
  intro x c hc
  simp only [fL, List.mem_cons, List.not_mem_nil, or_false] at hc
  subst hc
  rfl

set_option maxHeartbeats 1000000 in
theorem full_loop (d : Draft) (hd : d.ok) : ∀ (s p : List (List Int)) (acc : List (List Int)) (v : CV) (bl : List Blk), p ++ s = d.routes → acc.length ≤ 16 → (∀ q ∈ acc, q.length ≤ 7) → Own fL 1 bl v acc →
    ∃ v' bl', r05_Full_R0 ([(1, .op (.loc 1) 0), (2, .op (.loc 2) 0), (3, .op (.loc 3) 0), (4, .int .i64 p.length)], ⟨[(1, draftC d), (2, zeroL), (3, [sl fZ (make d).nodes, sl fS (make d).secs, sl fL (make d).parts, nz fP (make d).pts, v, .int .i64 (make d).speed, .int .i64 (make d).mute, .int .i64 (make d).wait, .int .i64 (make d).cancel, .int .i64 (make d).stay])], bl⟩) =
      some (.norm, [(2, .op (.loc 2) 0), (3, .op (.loc 3) 0)], ⟨[(2, zeroL), (3, [sl fZ (make d).nodes, sl fS (make d).secs, sl fL (make d).parts, nz fP (make d).pts, v', .int .i64 (make d).speed, .int .i64 (make d).mute, .int .i64 (make d).wait, .int .i64 (make d).cancel, .int .i64 (make d).stay])], bl'⟩) ∧ Own fL 1 bl' v' (fullFrom (make d) s acc)
  | [], p, acc, v, bl, hp, ha, hq, hO => by
    refine ⟨v, bl, ?_, hO⟩
    have h1 : ¬ ((p.length : Int) < d.routes.length) := by rw [← hp]; simp
    rw [r05_Full_R0_eq]
    simp only [r05_Full_B0, r05_Full_K0_a, h1, hO.locv, locv_nz, zy, simprocAttr]
  | x :: s, p, acc, v, bl, hp, ha, hq, hO => by
    have hpl : p.length + 1 + s.length = d.routes.length := by rw [← hp]; simp; omega
    have h1 : ((p.length : Int) < d.routes.length) := by omega
    have hrl := hd.routes
    unfold maxLen at hrl
    have hw := wrapM (n := p.length) (by omega)
    have hx := hd.route x (by rw [← hp]; simp)
    have hi : iaddrC 1 (sl fUL d.routes) (.int .i64 p.length) = some (.vp (sl fU x :: s.flatMap fUL)) := by rw [← hp]; exact iaddr_midUL _ p s x
    by_cases h16 : 16 ≤ acc.length
    · refine ⟨v, bl, ?_, by simpa only [fullFrom, if_pos h16] using hO⟩
      have h16' : ¬ ((acc.length : Int) < 16) := by omega
      rw [r05_Full_R0_eq]
      simp only [r05_Full_B0, r05_Full_K0_a, h1, h16', hO.len, hO.locv, locv_nz, zy, simprocAttr]
    · have h16' : ((acc.length : Int) < 16) := by omega
      by_cases h2 : x.length < 2
      · have h2' : ((x.length : Int) < 2) := by omega
        obtain ⟨v', bl', e, o⟩ := full_loop d hd s (p ++ [x]) acc v bl (by simpa using hp) ha hq hO
        simp only [List.append_assoc, List.cons_append, List.nil_append, List.length_append, List.length_cons, List.length_nil] at e
        refine ⟨v', bl', ?_, by simpa only [fullFrom, if_neg h16, if_neg (show ¬ (2 ≤ x.length ∧ 2 ≤ (wayOf (make d) x).length) by omega)] using o⟩
        rw [r05_Full_R0_eq]
        simp only [r05_Full_B0, r05_Full_K0_a, h1, h16', hi, h2', hw, hO.len, hO.locv, locv_nz, e, zy, simprocAttr]
      · have h2' : ¬ ((x.length : Int) < 2) := by omega
        obtain ⟨x0, x1, t, rfl⟩ : ∃ x0 x1 t, x = x0 :: x1 :: t := by
          match x, h2 with
          | x0 :: x1 :: t, _ => exact ⟨x0, x1, t, rfl⟩
          | [_], h => simp at h
          | [], h => simp at h
        have b0 := hx.2 x0 (by simp)
        have b1 := hx.2 x1 (by simp)
        have hel := mkEnds_len d.form
        have hsl : (make d).secs.length = (mkEnds d.form).length := mkSecs_length _ _ _
        have hi0 := iaddr_midU .i64 [] (x1 :: t) x0
        have hi1 := iaddr_midU .i64 [x0] t x1
        simp only [List.nil_append, List.length_nil, List.cons_append, List.length_cons, Int.natCast_zero, Nat.zero_add, Int.natCast_one] at hi0 hi1
        have hsc := slc_lo flatU (x0 :: x1 :: t) 2 (by simp) .i64
        simp only [Int.cast_ofNat_Int, List.drop_succ_cons, List.drop_zero] at hsc
        have k0 : IntKind.i64.wrap x0 = x0 := wrap64 (by omega) (by omega)
        have k1 : x0.tmod ((make d).secs.length : Int) = x0 % ((make d).secs.length : Int) := Int.tmod_eq_emod_of_nonneg b0.1
        have k2 : IntKind.u8.wrap (x0.tdiv 128) = x0 / 128 := by rw [Int.tdiv_eq_ediv_of_nonneg b0.1, IntKind.wrap_u8]; omega
        have k3 : IntKind.i64.wrap (x0 / 128) = x0 / 128 := wrap64 (by omega) (by omega)
        have k4 : x1.tmod 5 = x1 % 5 := Int.tmod_eq_emod_of_nonneg b1.1
        have k5 : IntKind.i64.wrap (x1 % 5) = x1 % 5 := wrap64 (by omega) (by omega)
        have k6 : IntKind.i64.wrap (2 + x1 % 5) = ((2 + x1 % 5).toNat : Nat) := by rw [wrap64 (by omega) (by omega)]; omega
        have k7 : ¬ ((make d).secs.length : Int) = 0 := by omega
        have hwF := fun H st => walk_F { make d with routes := acc } (make_ok d acc ha hq) (x0 % (make d).secs.length) (x0 / 128) t (fun q hq' => hx.2 q (by simp [hq'])) (2 + x1 % 5).toNat (by unfold Zc.small; omega) H st
        have hwy : walk { make d with routes := acc } (x0 % (make d).secs.length) (x0 / 128) t ((2 + x1 % 5).toNat : Nat) = wayOf (make d) (x0 :: x1 :: t) := by rw [walk_routes]; rfl
        rw [hwy] at hwF
        have hsn := fun bx => hO.snapV flatL bx false _ (snap_L ⟨bx, bl⟩ false 6)
        by_cases h3 : 2 ≤ (wayOf (make d) (x0 :: x1 :: t)).length
        · have h3' : (2 : Int) ≤ (wayOf (make d) (x0 :: x1 :: t)).length := by omega
          obtain ⟨v1, bl1, e1, o1, _⟩ := hO.app1 flatL (bytes := 24) (zero := [.nils]) (by decide) rfl rfl (wayOf (make d) (x0 :: x1 :: t)) (by omega)
          simp only [fL] at e1
          have hwl := walk_len (make d) (x0 % (make d).secs.length) (x0 / 128) t (2 + x1 % 5).toNat
          obtain ⟨v', bl', e, o⟩ := full_loop d hd s (p ++ [x0 :: x1 :: t]) (acc ++ [wayOf (make d) (x0 :: x1 :: t)]) v1 bl1 (by simpa using hp) (by simp; omega) (by
            intro q hq'
            rcases List.mem_append.1 hq' with h | h
            · exact hq q h
            · simp only [List.mem_singleton] at h; subst h
              have : wayOf (make d) (x0 :: x1 :: t) = walk (make d) (x0 % (make d).secs.length) (x0 / 128) t ((2 + x1 % 5).toNat : Nat) := rfl
              rw [this]; omega) o1
          simp only [List.append_assoc, List.cons_append, List.nil_append, List.length_append, List.length_cons, List.length_nil] at e
          refine ⟨v', bl', ?_, by simpa only [fullFrom, if_neg h16, if_pos (show (2 ≤ (x0 :: x1 :: t).length ∧ 2 ≤ (wayOf (make d) (x0 :: x1 :: t)).length) from ⟨by simp, h3⟩)] using o⟩
          rw [r05_Full_R0_eq]
          simp only [List.length_cons] at h2'
          simp only [r05_Full_B0, r05_Full_K0_a, h1, h16', hi, h2', hw, hi0, hi1, hsc, k0, k1, k2, k3, k4, k5, k6, k7, hsn, snapV_nz, r05_Walk_call, hwF, h3', e1, hO.len, hO.locv, o1.locv, o1.one, o1.cells, locv_nz, e, zy, simprocAttr]
        · have h3' : ¬ (2 : Int) ≤ (wayOf (make d) (x0 :: x1 :: t)).length := by omega
          obtain ⟨v', bl', e, o⟩ := full_loop d hd s (p ++ [x0 :: x1 :: t]) acc v bl (by simpa using hp) ha hq hO
          simp only [List.append_assoc, List.cons_append, List.nil_append, List.length_append, List.length_cons, List.length_nil] at e
          refine ⟨v', bl', ?_, by simpa only [fullFrom, if_neg h16, if_neg (show ¬ (2 ≤ (x0 :: x1 :: t).length ∧ 2 ≤ (wayOf (make d) (x0 :: x1 :: t)).length) from fun h => h3 h.2)] using o⟩
          rw [r05_Full_R0_eq]
          simp only [List.length_cons] at h2'
          simp only [r05_Full_B0, r05_Full_K0_a, h1, h16', hi, h2', hw, hi0, hi1, hsc, k0, k1, k2, k3, k4, k5, k6, k7, hsn, snapV_nz, r05_Walk_call, hwF, h3', hO.len, hO.locv, locv_nz, e, zy, simprocAttr]

theorem full_F (d : Draft) (hd : d.ok) (H : Heap) : r05_Full_F false H [.agg (draftC d)] = some (.agg (layC (full d)), H) := by
  obtain ⟨v, bl, e, o⟩ := full_loop d hd d.routes [] [] .nils [] rfl (by simp) (by simp) (Own.nil _ _ _)
  simp only [List.nil_append, List.length_nil, Int.natCast_zero] at e
  have hsn := fun bx => o.snapV flatL bx false _ (snap_L ⟨bx, bl⟩ false 6)
  rw [r05_Full_F_eq]
  simp only [r05_Full_C, r05_Full_L0_eq, r04_Make_call, make_F d hd, makeC, e, hsn, snapV_nz, locv_nz, one_nz, und_nz, o.locv, o.one, o.und, zy, simprocAttr]
  rfl
end Go.Proofs.Ytfblegjbmhgepaa.Zt
end
section
namespace Go.Proofs.Ytfblegjbmhgepaa.Zt
open Go Go.Zc
set_option maxRecDepth 10000

theorem gsection_F (l : Lay) (n : Int) (st : Bool) (H : Heap) : graph_Graph_section_F st H [.vp (layC l), .int .i64 n] = some (.tup [.agg (secC (secAt l n)), .bool (secAt l n).isSome], H) := by
  rw [graph_Graph_section_F_eq]
  have hz : binC .eql .ptr (.vp (layC l)) .nilp = some (.bool false) := rfl
  by_cases h1 : n < 0
  · have hn : secAt l n = none := by simp only [secAt, if_neg (show ¬ 0 ≤ n by omega)]
    simp only [graph_Graph_section_C, hz, h1, hn, secC, zy, simprocAttr]
  · obtain ⟨n, rfl⟩ := Int.eq_ofNat_of_zero_le (show 0 ≤ n by omega)
    by_cases h2 : l.secs.length ≤ n
    · have hn : secAt l n = none := by simp [secAt, List.getElem?_eq_none h2]
      have h2' : ((l.secs.length : Int) ≤ n) := by omega
      simp only [graph_Graph_section_C, hz, h1, h2', hn, secC, zy, simprocAttr]
    · have h2' : ¬ ((l.secs.length : Int) ≤ n) := by omega
      have hlt : n < l.secs.length := by omega
      have hn : secAt l n = some l.secs[n] := by simp [secAt, List.getElem?_eq_getElem hlt]
      simp only [graph_Graph_section_C, hz, h1, h2', hn, secC, fS, iaddr_atS hlt, zy, simprocAttr]

theorem nodeOf_sec (l : Lay) (x : Ed) : nodeOf l x = (secAt l x.s).bind fun s => if x.e = 0 then some s.a else if x.e = 1 then some s.b else none := rfl

theorem gnode_F (l : Lay) (x : Ed) (st : Bool) (H : Heap) : graph_Graph_node_F st H [.vp (layC l), .agg (fE x)] = some (.tup [.int .i64 ((nodeOf l x).getD 0), .bool (nodeOf l x).isSome], H) := by
  rw [graph_Graph_node_F_eq, nodeOf_sec]
  have hs := gsection_F l x.s
  cases h : secAt l x.s with
  | none =>
    simp only [h, secC] at hs
    simp only [graph_Graph_node_C, fE, graph_Graph_section_call, hs, Option.bind_none, Option.getD_none, zy, simprocAttr]
  | some s =>
    simp only [h, secC, fS] at hs
    by_cases h0 : x.e = 0
    · simp only [graph_Graph_node_C, fE, graph_Graph_section_call, hs, Option.bind_some, eq_true h0, Option.getD_some, zy, simprocAttr]
    · by_cases h1 : x.e = 1
      · simp only [graph_Graph_node_C, fE, graph_Graph_section_call, hs, Option.bind_some, eq_false h0, eq_true h1, Option.getD_some, zy, simprocAttr]
      · simp only [graph_Graph_node_C, fE, graph_Graph_section_call, hs, Option.bind_some, eq_false h0, eq_false h1, Option.getD_none, zy, simprocAttr]

theorem glen_F (l : Lay) (n : Int) (st : Bool) (H : Heap) : graph_Graph_Len_F st H [.vp (layC l), .int .i64 n] = some (.int .i64 (lenAt l n), H) := by
  rw [graph_Graph_Len_F_eq]
  have hs := gsection_F l n
  have hl : lenAt l n = ((secAt l n).map Sec.len).getD 0 := rfl
  rw [hl]
  cases h : secAt l n with
  | none =>
    simp only [h, secC] at hs
    simp only [graph_Graph_Len_C, graph_Graph_section_call, hs, Option.map_none, Option.getD_none, zy, simprocAttr]
  | some s =>
    simp only [h, secC, fS] at hs
    simp only [graph_Graph_Len_C, graph_Graph_section_call, hs, Option.map_some, Option.getD_some, zy, simprocAttr]

theorem gends_in (a b at' : Int) (l : Lay) (i : Nat) (acc : List Ed) (v : CV) (bl : List Blk) (hm : acc.length ≤ 2 * Zc.small) (hO : Own fE 2 bl v acc) :
    ∃ v' bl', graph_Graph_Ends_R2 ([(0, .vp (layC l)), (1, .int .i64 at'), (5, v), (6, .int .i64 i), (26, .agg [.int .i64 a, .int .i64 b]), (27, .int .i64 0)], ⟨[], bl⟩) = some (.norm, [(0, .vp (layC l)), (1, .int .i64 at'), (5, v'), (6, .int .i64 i)], ⟨[], bl'⟩) ∧
      Own fE 2 bl' v' (acc ++ ((if a = at' then [⟨i, 0⟩] else []) ++ (if b = at' then [⟨i, 1⟩] else []))) := by
  unfold Zc.small at hm
  have x0 : idxAC 2 false 1 (.agg [.int .i64 a, .int .i64 b]) (.int .i64 0) = some (.int .i64 a) := rfl
  have x1 : idxAC 2 false 1 (.agg [.int .i64 a, .int .i64 b]) (.int .i64 1) = some (.int .i64 b) := rfl
  have s2 : ∀ (v : CV) (bl : List Blk) (acc : List Ed), Own fE 2 bl v acc → graph_Graph_Ends_R2 ([(0, .vp (layC l)), (1, .int .i64 at'), (5, v), (6, .int .i64 i), (26, .agg [.int .i64 a, .int .i64 b]), (27, .int .i64 2)], ⟨[], bl⟩) = some (.norm, [(0, .vp (layC l)), (1, .int .i64 at'), (5, v), (6, .int .i64 i)], ⟨[], bl⟩) := by
    intro v bl acc hO
    rw [graph_Graph_Ends_R2_eq]
    simp only [graph_Graph_Ends_B2, graph_Graph_Ends_K2_a, hO.chkV, zy, simprocAttr]
  have s1 : ∀ (v : CV) (bl : List Blk) (acc : List Ed), acc.length ≤ 2 * 1000000000 + 1 → Own fE 2 bl v acc → ∃ v' bl', graph_Graph_Ends_R2 ([(0, .vp (layC l)), (1, .int .i64 at'), (5, v), (6, .int .i64 i), (26, .agg [.int .i64 a, .int .i64 b]), (27, .int .i64 1)], ⟨[], bl⟩) = some (.norm, [(0, .vp (layC l)), (1, .int .i64 at'), (5, v'), (6, .int .i64 i)], ⟨[], bl'⟩) ∧ Own fE 2 bl' v' (acc ++ if b = at' then [⟨i, 1⟩] else []) := by
    intro v bl acc hm hO
    by_cases hb : b = at'
    · obtain ⟨v1, bl1, e1, o1, _⟩ := hO.app1 flatE (bytes := 16) (zero := [.int .i64 0, .int .i64 0]) (by decide) rfl rfl ⟨i, 1⟩ (by omega)
      simp only [fE] at e1
      refine ⟨v1, bl1, ?_, by simpa [hb] using o1⟩
      have := s2 v1 bl1 _ o1
      rw [graph_Graph_Ends_R2_eq]
      simp only [graph_Graph_Ends_B2, graph_Graph_Ends_K2_a, x1, eq_true hb, e1, this, hO.chkV, o1.chkV, zy, simprocAttr]
    · refine ⟨v, bl, ?_, by simpa [hb] using hO⟩
      have := s2 v bl _ hO
      rw [graph_Graph_Ends_R2_eq]
      simp only [graph_Graph_Ends_B2, graph_Graph_Ends_K2_a, x1, eq_false hb, this, hO.chkV, zy, simprocAttr]
  by_cases ha : a = at'
  · obtain ⟨v1, bl1, e1, o1, _⟩ := hO.app1 flatE (bytes := 16) (zero := [.int .i64 0, .int .i64 0]) (by decide) rfl rfl ⟨i, 0⟩ (by omega)
    obtain ⟨v2, bl2, e2, o2⟩ := s1 v1 bl1 _ (by simp; omega) o1
    simp only [fE] at e1
    refine ⟨v2, bl2, ?_, by simpa [ha] using o2⟩
    rw [graph_Graph_Ends_R2_eq]
    simp only [graph_Graph_Ends_B2, graph_Graph_Ends_K2_a, x0, eq_true ha, e1, e2, hO.chkV, o1.chkV, zy, simprocAttr]
  · obtain ⟨v2, bl2, e2, o2⟩ := s1 v bl _ (by omega) hO
    refine ⟨v2, bl2, ?_, by simpa [ha] using o2⟩
    rw [graph_Graph_Ends_R2_eq]
    simp only [graph_Graph_Ends_B2, graph_Graph_Ends_K2_a, x0, eq_false ha, e2, hO.chkV, zy, simprocAttr]

theorem gends_loop (l : Lay) (hl : l.ok) (at' : Int) : ∀ (s p : List Sec) (acc : List Ed) (v : CV) (bl : List Blk), p ++ s = l.secs → acc.length ≤ 2 * p.length → Own fE 2 bl v acc →
    ∃ v' bl' bx, graph_Graph_Ends_R0 ([(0, .vp (layC l)), (1, .int .i64 at'), (5, v), (6, .int .i64 p.length)], ⟨[], bl⟩) = some (.ret, [(4, v')], ⟨bx, bl'⟩) ∧ Own fE 2 bl' v' (acc ++ endsFrom at' p.length s)
  | [], p, acc, v, bl, hp, ha, hO => by
    have hs := gsection_F l p.length
    have hn : secAt l p.length = none := by simp [secAt, ← hp]
    simp only [hn, secC] at hs
    have : ∃ bx, graph_Graph_Ends_R0 ([(0, .vp (layC l)), (1, .int .i64 at'), (5, v), (6, .int .i64 p.length)], ⟨[], bl⟩) = some (.ret, [(4, v)], ⟨bx, bl⟩) := by
      rw [graph_Graph_Ends_R0_eq]
      simp only [graph_Graph_Ends_B0, graph_Graph_Ends_K0_a, graph_Graph_section_call, hs, zy, simprocAttr]
      exact ⟨_, rfl⟩
    obtain ⟨bx, h⟩ := this
    exact ⟨v, bl, bx, h, by simpa [endsFrom] using hO⟩
  | x :: s, p, acc, v, bl, hp, ha, hO => by
    have hsm := hl.secs
    have hpl : p.length + 1 + s.length = l.secs.length := by rw [← hp]; simp; omega
    have hw := wrapN (n := p.length) (by omega)
    have hs := gsection_F l p.length
    have hn : secAt l p.length = some x := by simp [secAt, ← hp]
    simp only [hn, secC, fS] at hs
    obtain ⟨v1, bl1, e1, o1⟩ := gends_in x.a x.b at' l p.length acc v bl (by omega) hO
    obtain ⟨v2, bl2, bx, e2, o2⟩ := gends_loop l hl at' s (p ++ [x]) _ v1 bl1 (by simpa using hp) (by simp only [List.length_append, List.length_cons, List.length_nil]; split <;> split <;> simp <;> omega) o1
    simp only [List.append_assoc, List.cons_append, List.nil_append, List.length_append, List.length_cons, List.length_nil] at e2
    refine ⟨v2, bl2, bx, ?_, by simpa [endsFrom] using o2⟩
    rw [graph_Graph_Ends_R0_eq]
    simp only [graph_Graph_Ends_B0, graph_Graph_Ends_K0_a, graph_Graph_Ends_L2_eq, graph_Graph_section_call, hs, e1, hw, hO.chkV, o1.chkV, e2, zy, simprocAttr]

theorem snapE1 (st : Bool) (H : Heap) (x : Ed) : ∀ c ∈ fE x, snap H st false c = some c := snap_E H st false 7 x

/-- The ends at a node, in memory of the caller's. -/
theorem gends_F (l : Lay) (hl : l.ok) (at' : Int) (st : Bool) (bx : List (Nat × List CV)) (bl : List Blk) :
    ∃ v bl', graph_Graph_Ends_F st ⟨bx, bl⟩ [.vp (layC l), .int .i64 at'] = some (v, ⟨bx, bl'⟩) ∧ Own fE 2 bl' v (ends l at') ∧ (∀ (k : Nat) (b : Blk), bl[k]? = some b → bl'[k]? = some b) ∧ (∀ k, blkOf v = some k → bl.length ≤ k) := by
  obtain ⟨v1, bl1, bx1, e1, o1⟩ := gends_loop l hl at' l.secs [] [] .nils [] rfl (by simp) (Own.nil _ _ _)
  simp only [List.nil_append, List.length_nil, Int.natCast_zero] at e1 o1
  obtain ⟨v2, bl2, e2, o2, h3, h4⟩ := o1.handed flatE st bx1 bx bl (fun H x => snapE1 st H x)
  refine ⟨v2, bl2, ?_, o2, h3, h4⟩
  rw [graph_Graph_Ends_F_eq]
  simp only [graph_Graph_Ends_C, graph_Graph_Ends_L0_eq, e1, e2, zy, simprocAttr]
end Go.Proofs.Ytfblegjbmhgepaa.Zt
end
section
namespace Go.Proofs.Ytfblegjbmhgepaa.Zt
open Go Go.Zc
set_option maxRecDepth 10000

/-- The place of the first one, or -1. -/
def idxOf {α : Type} (p : α → Bool) (l : List α) : Int := match l.findIdx? p with
  | some i => (i : Int)
  | none => -1

theorem idxP_loop (fv : CV) (hf : fv.locv = false) (p : Pt → Bool) (hp : ∀ x H, call ctx fv [.agg (fP x)] H = some (.bool (p x), H)) : ∀ (s pre : List Pt), (pre ++ s).length ≤ 2 * Zc.small →
    slices_IndexFunc_Point_R0 ([(0, sl fP (pre ++ s)), (1, fv), (7, .int .i64 (pre ++ s).length), (8, .int .i64 pre.length)], ⟨[], []⟩) =
      match s.findIdx? p with
      | some i => some (.ret, [(4, .int .i64 ((pre.length + i : Nat) : Int))], ⟨[], []⟩)
      | none => some (.norm, [], ⟨[], []⟩)
  | [], pre, hm => by
    rw [slices_IndexFunc_Point_R0_eq]
    simp only [slices_IndexFunc_Point_B0, slices_IndexFunc_Point_K0_a, List.findIdx?_nil, zy, simprocAttr]
  | x :: s, pre, hm => by
    have h1 : ((pre.length : Int) < (pre ++ x :: s).length) := by simp; omega
    have hw := wrapN (n := pre.length) (by simp at hm; omega)
    have ih := idxP_loop fv hf p hp s (pre ++ [x]) (by simpa using hm)
    have hpx := fun H => hp x H
    have hcv := chkV_of hf
    simp only [fP] at hpx
    simp only [List.append_assoc, List.cons_append, List.nil_append, List.length_append, List.length_cons, List.length_nil] at ih h1
    rw [slices_IndexFunc_Point_R0_eq]
    simp only [slices_IndexFunc_Point_B0, slices_IndexFunc_Point_K0_a, h1, iaddr_midP, hpx, hw, hcv, List.append_assoc, List.cons_append, List.nil_append, List.length_append, List.length_cons, List.length_nil, zy, simprocAttr, ih]
    by_cases hA : p x = true
    · simp [hA, List.findIdx?_cons]
    · simp only [hA, Bool.false_eq_true, if_false, List.findIdx?_cons]
      cases hf : s.findIdx? p with
      | none => simp
      | some i => simp; omega

theorem idxP_F (fv : CV) (hf : fv.locv = false) (p : Pt → Bool) (hp : ∀ x H, call ctx fv [.agg (fP x)] H = some (.bool (p x), H)) (l : List Pt) (hm : l.length ≤ 2 * Zc.small) (st : Bool) (H : Heap) :
    slices_IndexFunc_Point_F st H [sl fP l, fv] = some (.int .i64 (idxOf p l), H) := by
  have e := idxP_loop fv hf p hp l [] hm
  simp only [List.nil_append, List.length_nil, Int.natCast_zero, Nat.zero_add] at e
  rw [slices_IndexFunc_Point_F_eq]
  simp only [slices_IndexFunc_Point_C, slices_IndexFunc_Point_L0_eq, e, idxOf, chkV_of hf, zy, simprocAttr]
  cases hf : l.findIdx? p <;> simp only [zy, simprocAttr]

theorem idxE_loop (fv : CV) (hf : fv.locv = false) (p : Ed → Bool) (hp : ∀ x H, call ctx fv [.agg (fE x)] H = some (.bool (p x), H)) : ∀ (s pre : List Ed), (pre ++ s).length ≤ 2 * Zc.small →
    slices_IndexFunc_End_R0 ([(0, sl fE (pre ++ s)), (1, fv), (7, .int .i64 (pre ++ s).length), (8, .int .i64 pre.length)], ⟨[], []⟩) =
      match s.findIdx? p with
      | some i => some (.ret, [(4, .int .i64 ((pre.length + i : Nat) : Int))], ⟨[], []⟩)
      | none => some (.norm, [], ⟨[], []⟩)
  | [], pre, hm => by
    rw [slices_IndexFunc_End_R0_eq]
    simp only [slices_IndexFunc_End_B0, slices_IndexFunc_End_K0_a, List.findIdx?_nil, zy, simprocAttr]
  | x :: s, pre, hm => by
    have h1 : ((pre.length : Int) < (pre ++ x :: s).length) := by simp; omega
    have hw := wrapN (n := pre.length) (by simp at hm; omega)
    have ih := idxE_loop fv hf p hp s (pre ++ [x]) (by simpa using hm)
    have hpx := fun H => hp x H
    have hcv := chkV_of hf
    simp only [fE] at hpx
    simp only [List.append_assoc, List.cons_append, List.nil_append, List.length_append, List.length_cons, List.length_nil] at ih h1
    rw [slices_IndexFunc_End_R0_eq]
    simp only [slices_IndexFunc_End_B0, slices_IndexFunc_End_K0_a, h1, iaddr_midE, hpx, hw, hcv, List.append_assoc, List.cons_append, List.nil_append, List.length_append, List.length_cons, List.length_nil, zy, simprocAttr, ih]
    by_cases hA : p x = true
    · simp [hA, List.findIdx?_cons]
    · simp only [hA, Bool.false_eq_true, if_false, List.findIdx?_cons]
      cases hf : s.findIdx? p with
      | none => simp
      | some i => simp; omega

theorem idxE_F (fv : CV) (hf : fv.locv = false) (p : Ed → Bool) (hp : ∀ x H, call ctx fv [.agg (fE x)] H = some (.bool (p x), H)) (l : List Ed) (hm : l.length ≤ 2 * Zc.small) (st : Bool) (H : Heap) :
    slices_IndexFunc_End_F st H [sl fE l, fv] = some (.int .i64 (idxOf p l), H) := by
  have e := idxE_loop fv hf p hp l [] hm
  simp only [List.nil_append, List.length_nil, Int.natCast_zero, Nat.zero_add] at e
  rw [slices_IndexFunc_End_F_eq]
  simp only [slices_IndexFunc_End_C, slices_IndexFunc_End_L0_eq, e, idxOf, chkV_of hf, zy, simprocAttr]
  cases hf : l.findIdx? p <;> simp only [zy, simprocAttr]

theorem gpoint1_F (x : Pt) (n : Int) (st : Bool) (H : Heap) : graph_Graph_Point_1_F st H [.agg (fP x), .vp [.int .i64 n]] = some (.bool (decide (x.node = n)), H) := by
  rw [graph_Graph_Point_1_F_eq]
  simp only [graph_Graph_Point_1_C, fP, zy, simprocAttr]

theorem gpoint_F (l : Lay) (hl : l.ok) (n : Int) (st : Bool) (H : Heap) : graph_Graph_Point_F st H [.vp (layC l), .int .i64 n] = some (.int .i64 (match ptOf l n with | some i => (i : Int) | none => -1), H) := by
  rw [graph_Graph_Point_F_eq]
  have hz : binC .eql .ptr (.vp (layC l)) .nilp = some (.bool false) := rfl
  have hs := hl.pts
  have hF := fun st H => idxP_F (.fn (.func 113) [] [.vp [.int .i64 n]]) rfl (fun x => decide (x.node = n)) (fun x H => by
    simp only [graph_Graph_Point_1_call, fP, zy, simprocAttr]
    have := gpoint1_F x n
    simp only [fP] at this
    rw [this]) l.pts (by omega) st H
  have he : idxOf (fun x : Pt => decide (x.node = n)) l.pts = (match ptOf l n with | some i => (i : Int) | none => -1) := rfl
  rw [← he]
  simp only [graph_Graph_Point_C, hz, slices_IndexFunc_Point_call, hF, zy, simprocAttr]

/-! ### A section's end at a node -/
theorem Own.get {α : Type} {f : α → List CV} {sz : Nat} {bl : List Blk} {v : CV} {l : List α} (hf : Flat f sz) (h : Own f sz bl v l) {p s : List α} {x : α} (hl : l = p ++ x :: s) :
    ∃ m, (∀ k, iaddrC sz v (.int k p.length) = some (.op (.blk m) (p.length * sz))) ∧ ∃ cs, (∀ bx, Heap.get ⟨bx, bl⟩ (.blk m) = some cs) ∧ cs.drop (p.length * sz) = f x ++ s.flatMap f := by
  obtain ⟨m, h1, h2, h3⟩ := h.iaddr hf (k := .i64) (i := p.length) (by rw [hl]; simp)
  refine ⟨m, fun k => ?_, _, fun bx => get_blk bx bl m _ h2, by rw [hl]; exact drop_mid hf p s x⟩
  rw [h3] at h1 ⊢
  exact h1

theorem gat_loop (sec : Int) (l : List Ed) (hm : l.length ≤ 2 * Zc.small) (v : CV) (bl : List Blk) (hO : Own fE 2 bl v l) : ∀ (s p : List Ed), p ++ s = l →
    graph_Graph_at_R0 ([(1, .int .i64 sec), (11, v), (12, .int .i64 l.length), (13, .int .i64 p.length)], ⟨[], bl⟩) =
      match s.find? (fun x => x.s == sec) with
      | some x => some (.ret, [(6, sl fE [x])], ⟨[(8, fE x)], bl⟩)
      | none => some (.norm, [], ⟨[], bl⟩)
  | [], p, hp => by
    have h1 : ¬ ((p.length : Int) < l.length) := by rw [← hp]; simp
    rw [graph_Graph_at_R0_eq]
    simp only [graph_Graph_at_B0, graph_Graph_at_K0_a, h1, hO.chkV, List.find?_nil, zy, simprocAttr]
  | x :: s, p, hp => by
    have hpl : p.length + 1 + s.length = l.length := by rw [← hp]; simp; omega
    have h1 : ((p.length : Int) < l.length) := by omega
    have hw := wrapN (n := p.length) (by omega)
    have ih := gat_loop sec l hm v bl hO s (p ++ [x]) (by simpa using hp)
    obtain ⟨m, hia, cs, hg, hd⟩ := Own.get flatE hO hp.symm
    simp only [fE] at hd
    simp only [List.append_assoc, List.cons_append, List.nil_append, List.length_append, List.length_cons, List.length_nil] at ih
    rw [graph_Graph_at_R0_eq]
    by_cases he : x.s = sec
    · simp only [graph_Graph_at_B0, graph_Graph_at_K0_a, h1, hia, hg, hd, eq_true he, hO.chkV, sl, fE, List.flatMap_cons, List.flatMap_nil, List.find?_cons, beq_iff_eq, zy, simprocAttr]
      simp [he, fE]
    · simp only [graph_Graph_at_B0, graph_Graph_at_K0_a, h1, hia, hg, hd, eq_false he, hw, hO.chkV, ih, zy, simprocAttr]
      simp [he]

theorem gat_F (l : Lay) (hl : l.ok) (sec at' : Int) (H : Heap) : graph_Graph_at_F false H [.vp (layC l), .int .i64 sec, .int .i64 at'] = some (sl fE (oneOf l sec at'), H) := by
  obtain ⟨v, bl, e, o, _⟩ := gends_F l hl at' false [] []
  have e2 := gat_loop sec (ends l at') (ends_len hl at') v bl o (ends l at') [] rfl
  simp only [List.nil_append, List.length_nil, Int.natCast_zero] at e2
  rw [graph_Graph_at_F_eq]
  simp only [graph_Graph_at_C, graph_Graph_at_L0_eq, graph_Graph_Ends_call, e, e2, o.len, o.chkV, oneOf, zy, simprocAttr]
  cases hf : (ends l at').find? (fun x => x.s == sec) <;> simp only [sl_nil fE, zy, simprocAttr]
end Go.Proofs.Ytfblegjbmhgepaa.Zt
end
section
namespace Go.Proofs.Ytfblegjbmhgepaa.Zt
open Go Go.Zc
set_option maxRecDepth 10000

section
variable (fv fv' : CV) (hfv : fv.locv = false) (hfv' : fv'.locv = false) (p : Ed → Bool) (k : Nat) (ce : List CV)
variable (hcall : ∀ (bl : List Blk) (bx : List (Nat × List CV)) (y : Ed), bl[k]? = some (.cells ce) → call ctx fv [.agg (fE y)] ⟨bx, bl⟩ = some (.bool (p y), ⟨bx, bl⟩))
include hfv hcall

theorem del_loop (m n : Nat) (hmk : m ≠ k) (hn : n ≤ 2 * Zc.small) : ∀ (suf kept junk : List Ed) (bl : List Blk), bl[m]? = some (.cells ((kept ++ junk ++ suf).flatMap fE)) → bl[k]? = some (.cells ce) → junk ≠ [] → (kept ++ junk ++ suf).length = n →
    ∃ bl' junk', slices_DeleteFunc_End_R0 ([(0, .os 2 (.blk m) 0 n), (1, fv), (5, .int .i64 kept.length), (6, .int .i64 (kept.length + junk.length : Nat))], ⟨[], bl⟩) =
        some (.norm, [(0, .os 2 (.blk m) 0 n), (5, .int .i64 (kept ++ suf.filter fun x => !p x).length)], ⟨[], bl'⟩) ∧
      bl'[m]? = some (.cells (((kept ++ suf.filter fun x => !p x) ++ junk').flatMap fE)) ∧ bl'[k]? = some (.cells ce) ∧ ((kept ++ suf.filter fun x => !p x) ++ junk').length = n
  | [], kept, junk, bl, hm, hk, hj, hl => by
    refine ⟨bl, junk, ?_, by simpa using hm, hk, by simpa using hl⟩
    have h1 : ¬ (((kept.length + junk.length : Nat) : Int) < n) := by simp at hl; omega
    have hcv := chkV_of hfv
    rw [slices_DeleteFunc_End_R0_eq]
    simp only [slices_DeleteFunc_End_B0, slices_DeleteFunc_End_K0_a, h1, hcv, List.filter_nil, zy, simprocAttr]
  | x :: suf, kept, junk, bl, hm, hk, hj, hl => by
    have hl' : kept.length + junk.length + 1 + suf.length = n := by simp at hl; omega
    have h1 : (((kept.length + junk.length : Nat) : Int) < n) := by omega
    have hw := wrapN (n := kept.length + junk.length) (by omega)
    have hw2 := wrapN (n := kept.length) (by omega)
    have hcv := chkV_of hfv
    have hg : ∀ bx, Heap.get ⟨bx, bl⟩ (.blk m) = some ((kept ++ junk ++ x :: suf).flatMap fE) := fun bx => get_blk bx bl m _ hm
    have hia : iaddrC 2 (.os 2 (.blk m) 0 n) (.int .i64 (kept.length + junk.length : Nat)) = some (.op (.blk m) ((kept.length + junk.length) * 2)) := by
      unfold iaddrC iaddrN
      simp only [Int.toNat_natCast, Nat.zero_add]
      rw [if_pos ⟨trivial, by omega, by omega⟩]
    have hia2 : iaddrC 2 (.os 2 (.blk m) 0 n) (.int .i64 kept.length) = some (.op (.blk m) (kept.length * 2)) := by
      unfold iaddrC iaddrN
      simp only [Int.toNat_natCast, Nat.zero_add]
      rw [if_pos ⟨trivial, by omega, by omega⟩]
    have hd : ((kept ++ junk ++ x :: suf).flatMap fE).drop ((kept.length + junk.length) * 2) = .int .i64 x.s :: .int .i64 x.e :: suf.flatMap fE := by
      have := drop_mid flatE (kept ++ junk) suf x
      rw [List.length_append] at this
      exact this
    have hcx := fun bx => hcall bl bx x hk
    simp only [fE] at hcx
    by_cases hp : p x = true
    · obtain ⟨bl', junk', e, e1, e2, e3⟩ := del_loop m n hmk hn suf kept (junk ++ [x]) bl (by simpa using hm) hk (by simp) (by simpa using hl)
      have hfl : (x :: suf).filter (fun x => !p x) = suf.filter fun x => !p x := by simp [hp]
      rw [hfl]
      refine ⟨bl', junk', ?_, e1, e2, e3⟩
      have hidx : (kept.length + (junk ++ [x]).length : Nat) = kept.length + junk.length + 1 := by simp; omega
      rw [hidx] at e
      rw [slices_DeleteFunc_End_R0_eq]
      simp only [slices_DeleteFunc_End_B0, slices_DeleteFunc_End_K0_a, h1, hia, hg, hd, hcx, hp, hw, hcv, e, zy, simprocAttr]
    · obtain ⟨j0, junk0, rfl⟩ : ∃ j0 junk0, junk = j0 :: junk0 := by cases junk with | nil => exact (hj rfl).elim | cons a b => exact ⟨a, b, rfl⟩
      have hml : m < bl.length := (List.getElem?_eq_some_iff.1 hm).1
      have hst : ∀ bx, stE 2 (kept.length * 2) (.agg [.int .i64 x.s, .int .i64 x.e]) ⟨bx, bl⟩ (.blk m) ((kept ++ j0 :: junk0 ++ x :: suf).flatMap fE) = some ⟨bx, bl.set m (.cells ((kept ++ x :: junk0 ++ x :: suf).flatMap fE))⟩ := by
        intro bx
        have hlen := flatE.length (kept ++ j0 :: junk0 ++ x :: suf)
        have hsm := setMany_mid flatE kept (junk0 ++ x :: suf) x j0
        unfold stE
        rw [if_pos ⟨rfl, by rw [hlen]; simp; omega, rfl, .inr rfl⟩]
        simp only [List.append_assoc, List.cons_append] at hsm ⊢
        simp only [fE] at hsm
        simp only [CV.cells, hsm, put_blk]
      obtain ⟨bl', junk', e, e1, e2, e3⟩ := del_loop m n hmk hn suf (kept ++ [x]) (junk0 ++ [x]) (bl.set m (.cells ((kept ++ x :: junk0 ++ x :: suf).flatMap fE))) (by rw [List.getElem?_set_self hml]; simp) (by rw [List.getElem?_set_ne hmk]; exact hk) (by simp) (by simp at hl ⊢; omega)
      have hfl : (x :: suf).filter (fun x => !p x) = x :: suf.filter fun x => !p x := by simp [hp]
      rw [hfl]
      have hke : kept ++ x :: (suf.filter fun x => !p x) = (kept ++ [x]) ++ suf.filter fun x => !p x := by simp
      rw [hke]
      refine ⟨bl', junk', ?_, e1, e2, e3⟩
      have hidx : ((kept ++ [x]).length + (junk0 ++ [x]).length : Nat) = kept.length + (j0 :: junk0).length + 1 := by simp; omega
      rw [hidx, show (kept ++ [x]).length = kept.length + 1 by simp] at e
      generalize (j0 :: junk0).length = J at *
      rw [slices_DeleteFunc_End_R0_eq]
      simp only [slices_DeleteFunc_End_B0, slices_DeleteFunc_End_K0_a, h1, hia, hia2, hg, hd, hcx, hp, hst, hw, hw2, hcv, e, zy, simprocAttr]

variable (hsn : ∀ (bl : List Blk) (bx : List (Nat × List CV)), bl[k]? = some (.cells ce) → snapV ⟨bx, bl⟩ false false (snapN ⟨bx, bl⟩ false false 7) fv = some fv') (hp' : ∀ x H, call ctx fv' [.agg (fE x)] H = some (.bool (p x), H))
include hfv' hsn hp'

theorem del_F (v : CV) (bl : List Blk) (l : List Ed) (hO : Own fE 2 bl v l) (hk : bl[k]? = some (.cells ce)) (hne : blkOf v ≠ some k) (hm : l.length ≤ 2 * Zc.small) (bx : List (Nat × List CV)) :
    ∃ v' bl', slices_DeleteFunc_End_F bx bl [v, fv] = some (v', ⟨bx, bl'⟩) ∧ OwnS fE 2 bl' v' (l.filter fun x => !p x) := by
  have hv := fun bx => snapE_own hO bx false
  have hs := fun bx => hsn bl bx hk
  have hi := fun st H => idxE_F fv' hfv' p hp' l hm st H
  have hcv := chkV_of hfv
  cases hf : l.findIdx? p with
  | none =>
    have hall : ∀ x ∈ l, p x = false := fun x hx => by simpa using List.findIdx?_eq_none_iff.1 hf x hx
    have hfl : l.filter (fun x => !p x) = l := List.filter_eq_self.2 fun x hx => by simp [hall x hx]
    have hix : idxOf p l = -1 := by simp [idxOf, hf]
    rw [hfl]
    refine ⟨v, bl, ?_, hO.s⟩
    rw [slices_DeleteFunc_End_F_eq]
    simp only [slices_DeleteFunc_End_C, slices_IndexFunc_End_call, hv, hs, hi, hix, hO.locv, zy, simprocAttr]
  | some i =>
    have hix : idxOf p l = i := by simp [idxOf, hf]
    obtain ⟨hil, hpi, hlt⟩ := List.findIdx?_eq_some_iff_getElem.1 hf
    obtain ⟨pre, x, suf, rfl, hpl, hpx, hpre⟩ : ∃ pre x suf, l = pre ++ x :: suf ∧ pre.length = i ∧ p x = true ∧ ∀ y ∈ pre, p y = false := by
      refine ⟨l.take i, l[i], l.drop (i + 1), by rw [← List.drop_eq_getElem_cons hil, List.take_append_drop], by simp; omega, hpi, fun y hy => ?_⟩
      obtain ⟨j, hj, rfl⟩ := List.mem_iff_getElem.1 hy
      have hji : j < i := by simp at hj; omega
      simpa using hlt j hji
    subst hpl
    have hfl : (pre ++ x :: suf).filter (fun x => !p x) = pre ++ suf.filter fun x => !p x := by
      rw [List.filter_append, List.filter_cons, List.filter_eq_self.2 (fun y hy => by simp [hpre y hy])]
      simp [hpx]
    rw [hfl]
    obtain ⟨m, hia, hg, hvm⟩ := hO.iaddr flatE (k := .i64) (i := 0) (by simp; omega)
    have hmk : m ≠ k := fun h => hne (by rw [hvm, h]; rfl)
    subst hvm
    obtain ⟨bl', junk', e, e1, e2, e3⟩ := del_loop fv hfv p k ce hcall m (pre ++ x :: suf).length hmk hm suf pre [x] bl (by simpa using hg) hk (by simp) (by simp)
    simp only [List.length_cons, List.length_nil, Nat.zero_add] at e
    have hw := wrapN (n := pre.length) (by simp at hm; omega)
    have h1 : ¬ ((pre.length : Int) = -1) := by omega
    clear hpi hlt
    clear hil
    generalize hn : (pre ++ x :: suf).length = n at *
    generalize hq : (pre ++ suf.filter fun x => !p x) = q at *
    have hql : q.length ≤ n := by simp at e3; omega
    have hc1 : slcC 2 (.os 2 (.blk m) 0 n) (some (.int .i64 q.length)) none = some (.os 2 (.blk m) (q.length * 2) (n - q.length)) := by
      unfold slcC
      simp only [sbound, if_true, Option.bind_some]
      rw [if_pos ⟨by omega, by omega⟩]
      simp
    have hc2 : slcC 2 (.os 2 (.blk m) 0 n) none (some (.int .i64 q.length)) = some (.os 2 (.blk m) 0 q.length) := by
      unfold slcC
      simp only [sbound, if_true]
      rw [if_pos ⟨by omega, by omega⟩]
      simp
    have hml : m < bl'.length := (List.getElem?_eq_some_iff.1 e1).1
    have hcl : ∀ bx, clearC 2 [.int .i64 0, .int .i64 0] ⟨bx, bl'⟩ (.os 2 (.blk m) (q.length * 2) (n - q.length)) = some ⟨bx, bl'.set m (.cells (q.flatMap fE ++ repC [.int .i64 0, .int .i64 0] (n - q.length)))⟩ := by
      intro bx
      have hlen := flatE.length (q ++ junk')
      have h3 : (q ++ junk').length = n := e3
      have hjl : junk'.length = n - q.length := by simp at h3; omega
      have hsm := setMany_app (repC [.int .i64 0, .int .i64 0] (n - q.length)) (junk'.flatMap fE) (q.flatMap fE) [] (by rw [repC_length, flatE.length, hjl]; rfl)
      rw [flatE.length] at hsm
      simp only [List.append_nil] at hsm
      simp only [clearC, if_true, get_blk bx bl' m _ e1, Option.bind_some]
      rw [if_pos (by rw [hlen, h3]; omega)]
      simp only [List.flatMap_append, hsm, put_blk]
    refine ⟨.os 2 (.blk m) 0 q.length, bl'.set m (.cells (q.flatMap fE ++ repC [.int .i64 0, .int .i64 0] (n - q.length))), ?_, .inr ⟨m, _, rfl, by rw [List.getElem?_set_self hml]⟩⟩
    rw [slices_DeleteFunc_End_F_eq]
    simp only [slices_DeleteFunc_End_C, slices_DeleteFunc_End_L0_eq, slices_IndexFunc_End_call, hv, hs, hi, hix, h1, hw, hcv, e, hc1, hc2, hop_clear, hcl, zy, simprocAttr]
end
end Go.Proofs.Ytfblegjbmhgepaa.Zt
end
section
namespace Go.Proofs.Ytfblegjbmhgepaa.Zt
open Go Go.Zc
set_option maxRecDepth 10000

def fEL (l : List Ed) : List CV := [sl fE l]
theorem flatEL : Flat fEL 1 := ⟨fun _ => rfl, by decide, fun _ => rfl, fun _ => rfl, fun _ => rfl⟩
theorem iaddr_midEL (k : IntKind) (pre suf : List (List Ed)) (x : List Ed) : iaddrC 1 (sl fEL (pre ++ x :: suf)) (.int k pre.length) = some (.vp (sl fE x :: suf.flatMap fEL)) := iaddr_mid flatEL k pre suf x

theorem grow_F (n : Nat) (hn : n ≤ 4 * Zc.small) (bx : List (Nat × List CV)) (bl : List Blk) : ∃ v bl', slices_Grow_End_F bx bl [.nils, .int .i64 n] = some (v, ⟨bx, bl'⟩) ∧ OwnS fE 2 bl' v [] := by
  unfold Zc.small at hn
  have hw : IntKind.i64.wrap ((n : Int) - 0) = n := by rw [wrap64 (by omega) (by omega)]; omega
  have h0 : ¬ ((n : Int) < 0) := by omega
  have hc1 : slcC 2 .nils none (some (.int .i64 0)) = some .nils := rfl
  have hc2 : slcC 2 (.os 2 (.blk bl.length) 0 n) none (some (.int .i64 0)) = some (.os 2 (.blk bl.length) 0 0) := by
    unfold slcC
    simp only [sbound, if_true]
    rw [if_pos ⟨by omega, by omega⟩]
    simp
  by_cases h : n = 0
  · subst h
    refine ⟨.nils, bl, ?_, .inl ⟨rfl, rfl⟩⟩
    rw [slices_Grow_End_F_eq]
    simp only [slices_Grow_End_C, Int.natCast_zero, zy, simprocAttr]
  · have h1 : (0 : Int) < n := by omega
    have h2 : (n : Int) * 16 ≤ 140737488355328 := by omega
    refine ⟨.os 2 (.blk bl.length) 0 0, bl ++ [.cells (repC [.int .i64 0, .int .i64 0] n)], ?_, .inr ⟨bl.length, repC [.int .i64 0, .int .i64 0] n, rfl, by simp⟩⟩
    rw [slices_Grow_End_F_eq]
    simp only [slices_Grow_End_C, h0, hw, h1, h2, hc1, hc2, Int.cast_ofNat_Int, Int.toNat_natCast, zy, simprocAttr]

theorem cat_len : ∀ (s p : List (List Ed)), (p ++ s).length ≤ 1000 → (p.flatten.length + s.flatten.length) ≤ 4 * Zc.small →
    slices_Concat_End_R0 ([(0, sl fEL (p ++ s)), (3, .int .i64 p.flatten.length), (9, sl fEL (p ++ s)), (10, .int .i64 (p ++ s).length), (11, .int .i64 p.length)], ⟨[], []⟩) =
      some (.norm, [(0, sl fEL (p ++ s)), (3, .int .i64 (p ++ s).flatten.length)], ⟨[], []⟩)
  | [], p, hm, hl => by
    rw [slices_Concat_End_R0_eq]
    simp only [slices_Concat_End_B0, slices_Concat_End_K0_a, zy, simprocAttr]
  | x :: s, p, hm, hl => by
    have h1 : ((p.length : Int) < (p ++ x :: s).length) := by simp; omega
    have hw := wrapM (n := p.length) (by simp at hm; omega)
    have hxl : p.flatten.length + x.length + s.flatten.length ≤ 4 * Zc.small := by simp at hl; simp; omega
    unfold Zc.small at hxl
    have hw2 : IntKind.i64.wrap ((p.flatten.length : Int) + x.length) = ((p ++ [x]).flatten.length : Nat) := by rw [wrap64 (by omega) (by omega)]; simp
    have h0 : ¬ (((p ++ [x]).flatten.length : Int) < 0) := by omega
    have ih := cat_len s (p ++ [x]) (by simpa using hm) (by simp at hl ⊢; omega)
    rw [show (p ++ [x]) ++ s = p ++ x :: s by simp, show (p ++ [x]).length = p.length + 1 by simp] at ih
    rw [slices_Concat_End_R0_eq]
    simp only [slices_Concat_End_B0, slices_Concat_End_K0_a, h1, iaddr_midEL, hw, hw2, h0, ih, zy, simprocAttr]

theorem cat_app (ls : List (List Ed)) (hm : ls.length ≤ 1000) (hl : ls.flatten.length ≤ 4 * Zc.small) : ∀ (s p : List (List Ed)) (v : CV) (bl : List Blk), p ++ s = ls → OwnS fE 2 bl v p.flatten →
    ∃ v' bl', slices_Concat_End_R2 ([(6, v), (25, sl fEL ls), (26, .int .i64 ls.length), (27, .int .i64 p.length)], ⟨[], bl⟩) = some (.norm, [(6, v')], ⟨[], bl'⟩) ∧ OwnS fE 2 bl' v' ls.flatten
  | [], p, v, bl, hp, hO => by
    rw [List.append_nil] at hp
    subst hp
    refine ⟨v, bl, ?_, hO⟩
    rw [slices_Concat_End_R2_eq]
    simp only [slices_Concat_End_B2, slices_Concat_End_K2_a, hO.chkV, zy, simprocAttr]
  | x :: s, p, v, bl, hp, hO => by
    have h1 : ((p.length : Int) < ls.length) := by rw [← hp]; simp; omega
    have hw := wrapM (n := p.length) (by rw [← hp] at hm; simp at hm; omega)
    have hi : iaddrC 1 (sl fEL ls) (.int .i64 p.length) = some (.vp (sl fE x :: s.flatMap fEL)) := by rw [← hp]; exact iaddr_midEL _ p s x
    have hb : p.flatten.length + x.length ≤ 4 * Zc.small := by rw [← hp] at hl; simp at hl; simp; omega
    unfold Zc.small at hb
    obtain ⟨v1, bl1, e1, o1, _⟩ := hO.appSl flatE (bytes := 16) (zero := [.int .i64 0, .int .i64 0]) (by decide) rfl rfl x (by omega)
    obtain ⟨v', bl', e, o⟩ := cat_app ls hm hl s (p ++ [x]) v1 bl1 (by simpa using hp) (by simpa using o1)
    rw [show (p ++ [x]).length = p.length + 1 by simp] at e
    refine ⟨v', bl', ?_, o⟩
    rw [slices_Concat_End_R2_eq]
    simp only [slices_Concat_End_B2, slices_Concat_End_K2_a, h1, hi, hw, e1, hO.chkV, o1.chkV, e, zy, simprocAttr]

theorem concat_F (ls : List (List Ed)) (hm : ls.length ≤ 1000) (hl : ls.flatten.length ≤ 4 * Zc.small) (st : Bool) (H : Heap) : slices_Concat_End_F st H [sl fEL ls] = some (sl fE ls.flatten, H) := by
  have e1 := cat_len ls [] hm (by simpa using hl)
  simp only [List.nil_append, List.length_nil, Int.natCast_zero, List.flatten_nil] at e1
  obtain ⟨v, bl, e2, o2⟩ := grow_F ls.flatten.length hl [] []
  obtain ⟨v', bl', e3, o3⟩ := cat_app ls hm hl ls [] v bl rfl o2
  simp only [List.nil_append, List.length_nil, Int.natCast_zero] at e3
  have hs := fun bx => o3.snapV flatE bx st _ (snap_E ⟨bx, bl'⟩ st false 6)
  rw [slices_Concat_End_F_eq]
  simp only [slices_Concat_End_C, slices_Concat_End_L0_eq, slices_Concat_End_L2_eq, slices_Grow_End_call, e1, e2, e3, o2.chkV, hs, zy, simprocAttr]

theorem garound1_F (x y : Ed) (st : Bool) (H : Heap) : graph_Graph_Around_1_F st H [.agg (fE y), .vp (fE x)] = some (.bool (decide (y = x)), H) := by
  rw [graph_Graph_Around_1_F_eq]
  have hq := eqE y x
  simp only [fE] at hq
  simp only [graph_Graph_Around_1_C, fE, hq, zy, simprocAttr]

theorem garound_F (l : Lay) (hl : l.ok) (x : Ed) (H : Heap) : graph_Graph_Around_F false H [.vp (layC l), .agg (fE x)] = some (sl fE (around l x), H) := by
  rw [graph_Graph_Around_F_eq]
  have hnF := gnode_F l x
  simp only [fE] at hnF
  cases hn : nodeOf l x with
  | none =>
    simp only [hn, Option.getD_none] at hnF
    simp only [graph_Graph_Around_C, fE, graph_Graph_node_call, hnF, around, hn, sl_nil fE, zy, simprocAttr]
  | some n =>
    simp only [hn, Option.getD_some] at hnF
    have hpF := gpoint_F l hl n
    cases hp : ptOf l n with
    | some i =>
      obtain ⟨hi, hf⟩ := ptOf_some hp
      simp only [hp] at hpF
      have h0 : ¬ ((i : Int) < 0) := by omega
      have hcc : CV.vs [sl fE (oneOf l l.pts[i].left n), sl fE (oneOf l l.pts[i].right n)] 2 = sl fEL [oneOf l l.pts[i].left n, oneOf l l.pts[i].right n] := rfl
      have hcF := fun st H => concat_F [oneOf l l.pts[i].left n, oneOf l l.pts[i].right n] (by simp) (by have := oneOf_len l l.pts[i].left n; have := oneOf_len l l.pts[i].right n; unfold Zc.small; simp; omega) st H
      simp only [List.flatten_cons, List.flatten_nil, List.append_nil] at hcF
      by_cases h1 : x.s = l.pts[i].stem
      · simp only [graph_Graph_Around_C, fE, graph_Graph_node_call, hnF, graph_Graph_Point_call, hpF, h0, iaddr_atP hi, eq_true h1, graph_Graph_at_call, gat_F l hl, slices_Concat_End_call, hcc, hcF, around, hn, hf, zy, simprocAttr]
      · by_cases h2 : x.s = l.pts[i].left
        · simp only [graph_Graph_Around_C, fE, graph_Graph_node_call, hnF, graph_Graph_Point_call, hpF, h0, iaddr_atP hi, eq_false h1, eq_true h2, graph_Graph_at_call, gat_F l hl, around, hn, hf, zy, simprocAttr]
        · by_cases h3 : x.s = l.pts[i].right
          · simp only [graph_Graph_Around_C, fE, graph_Graph_node_call, hnF, graph_Graph_Point_call, hpF, h0, iaddr_atP hi, eq_false h1, eq_false h2, eq_true h3, graph_Graph_at_call, gat_F l hl, around, hn, hf, zy, simprocAttr]
          · simp only [graph_Graph_Around_C, fE, graph_Graph_node_call, hnF, graph_Graph_Point_call, hpF, h0, iaddr_atP hi, h1, h2, h3, sl_nil fE, around, hn, hf, zy, simprocAttr]
    | none =>
      have hf := ptOf_none hp
      simp only [hp] at hpF
      obtain ⟨v, bl, e, o, hkeep, hnew⟩ := gends_F l hl n false [] [.cells (fE x)]
      have hk0 : bl[0]? = some (.cells (fE x)) := hkeep 0 _ rfl
      have hne : blkOf v ≠ some 0 := fun h => by have := hnew 0 h; simp at this
      have hc : ∀ y (H' : Heap), call ctx (.fn (.func 98) [] [.vp (fE x)]) [.agg (fE y)] H' = some (.bool (decide (y = x)), H') := by
        intro y H'
        have := garound1_F x y
        simp only [fE] at this
        simp only [graph_Graph_Around_1_call, fE, zy, simprocAttr, this]
      have hc2 : ∀ (bl : List Blk) (bx : List (Nat × List CV)) (y : Ed), bl[0]? = some (.cells (fE x)) → call ctx (.fn (.func 98) [] [.op (.blk 0) 0]) [.agg (fE y)] ⟨bx, bl⟩ = some (.bool (decide (y = x)), ⟨bx, bl⟩) := by
        intro bl bx y hb
        have := garound1_F x y
        simp only [fE] at this
        have hg := get_blk bx bl 0 _ hb
        simp only [fE] at hg
        simp only [graph_Graph_Around_1_call, fE, hg, zy, simprocAttr, this]
      have hsn : ∀ (bl : List Blk) (bx : List (Nat × List CV)), bl[0]? = some (.cells (fE x)) → snapV ⟨bx, bl⟩ false false (snapN ⟨bx, bl⟩ false false 7) (.fn (.func 98) [] [.op (.blk 0) 0]) = some (.fn (.func 98) [] [.vp (fE x)]) := by
        intro bl bx hb
        have hg := get_blk bx bl 0 _ hb
        simp only [fE] at hg ⊢
        simp only [hg, zy, simprocAttr]
      obtain ⟨v', bl', e', o'⟩ := del_F (.fn (.func 98) [] [.op (.blk 0) 0]) (.fn (.func 98) [] [.vp (fE x)]) rfl rfl (fun y => decide (y = x)) 0 (fE x) hc2 hsn hc v bl (ends l n) o hk0 hne (ends_len hl n) []
      simp only [fE] at e e'
      have hfe : (ends l n).filter (fun y => !decide (y = x)) = (ends l n).filter fun y => decide (y ≠ x) := by congr 1; funext y; by_cases h : y = x <;> simp [h]
      rw [hfe] at o'
      have ho := o'.len
      have hs := fun bx => o'.snapV flatE bx false _ (snap_E ⟨bx, bl'⟩ false false 6)
      by_cases h1 : ((ends l n).filter fun y => decide (y ≠ x)).length = 1
      · have h1' : (((ends l n).filter fun y => decide (y ≠ x)).length : Int) = 1 := by omega
        simp only [graph_Graph_Around_C, fE, graph_Graph_node_call, hnF, graph_Graph_Point_call, hpF, graph_Graph_Ends_call, e, slices_DeleteFunc_End_call, e', o.locv, o'.locv, ho, eq_true h1, eq_true h1', hs, around, hn, hf, zy, simprocAttr]
      · have h1' : ¬ (((ends l n).filter fun y => decide (y ≠ x)).length : Int) = 1 := by omega
        simp only [graph_Graph_Around_C, fE, graph_Graph_node_call, hnF, graph_Graph_Point_call, hpF, graph_Graph_Ends_call, e, slices_DeleteFunc_End_call, e', o.locv, o'.locv, ho, eq_false h1, eq_false h1', sl_nil fE, around, hn, hf, zy, simprocAttr]
end Go.Proofs.Ytfblegjbmhgepaa.Zt
end
section
namespace Go.Proofs.Ytfblegjbmhgepaa.Zt
open Go Go.Zc
set_option maxRecDepth 10000

theorem index_loop (n : Int) : ∀ (s pre : List Int), (pre ++ s).length ≤ 2 * Zc.small →
    slices_Index_int_R0 ([(0, sl fI (pre ++ s)), (1, .int .i64 n), (7, .int .i64 (pre ++ s).length), (8, .int .i64 pre.length)], ⟨[], []⟩) =
      match s.findIdx? (fun x => decide (n = x)) with
      | some i => some (.ret, [(4, .int .i64 ((pre.length + i : Nat) : Int))], ⟨[], []⟩)
      | none => some (.norm, [], ⟨[], []⟩)
  | [], pre, hm => by
    rw [slices_Index_int_R0_eq]
    simp only [slices_Index_int_B0, slices_Index_int_K0_a, List.findIdx?_nil, zy, simprocAttr]
  | x :: s, pre, hm => by
    have h1 : ((pre.length : Int) < (pre ++ x :: s).length) := by simp; omega
    have hw := wrapN (n := pre.length) (by simp at hm; omega)
    have ih := index_loop n s (pre ++ [x]) (by simpa using hm)
    simp only [List.append_assoc, List.cons_append, List.nil_append, List.length_append, List.length_cons, List.length_nil] at ih h1
    rw [slices_Index_int_R0_eq]
    simp only [slices_Index_int_B0, slices_Index_int_K0_a, h1, iaddr_midI, hw, List.append_assoc, List.cons_append, List.nil_append, List.length_append, List.length_cons, List.length_nil, zy, simprocAttr, ih]
    by_cases hA : n = x
    · simp [hA, List.findIdx?_cons]
    · simp only [hA, if_false, List.findIdx?_cons, decide_false, Bool.false_eq_true]
      cases hf : s.findIdx? (fun x => decide (n = x)) with
      | none => simp
      | some i => simp; omega

theorem index_F (n : Int) (l : List Int) (hm : l.length ≤ 2 * Zc.small) (st : Bool) (H : Heap) :
    slices_Index_int_F st H [sl fI l, .int .i64 n] = some (.int .i64 (idxOf (fun x => decide (n = x)) l), H) := by
  have e := index_loop n l [] hm
  simp only [List.nil_append, List.length_nil, Int.natCast_zero, Nat.zero_add] at e
  rw [slices_Index_int_F_eq]
  simp only [slices_Index_int_C, slices_Index_int_L0_eq, e, idxOf, zy, simprocAttr]
  cases hf : l.findIdx? (fun x => decide (n = x)) <;> simp only [zy, simprocAttr]

theorem idxOf_nonneg {α : Type} (p : α → Bool) (l : List α) : (0 ≤ idxOf p l) ↔ ∃ x ∈ l, p x = true := by
  unfold idxOf
  cases h : l.findIdx? p with
  | none =>
    have := List.findIdx?_eq_none_iff.1 h
    simp only [show ¬ (0 : Int) ≤ -1 by omega, false_iff]
    rintro ⟨x, hx, hp⟩
    rw [this x hx] at hp; cases hp
  | some i =>
    obtain ⟨hi, hp, _⟩ := List.findIdx?_eq_some_iff_getElem.1 h
    simp only [show (0 : Int) ≤ i by omega, true_iff]
    exact ⟨l[i], List.getElem_mem hi, hp⟩

theorem contains_F (n : Int) (l : List Int) (hm : l.length ≤ 2 * Zc.small) (st : Bool) (H : Heap) :
    slices_Contains_int_F st H [sl fI l, .int .i64 n] = some (.bool (decide (n ∈ l)), H) := by
  rw [slices_Contains_int_F_eq]
  have h : (0 ≤ idxOf (fun x => decide (n = x)) l) = (n ∈ l) := by
    rw [idxOf_nonneg]; simp
  simp only [slices_Contains_int_C, slices_Index_int_call, index_F n l hm, h, zy, simprocAttr]

theorem find_idx {α : Type} (p : α → Bool) (l : List α) : (∀ i, l.findIdx? p = some i → ∃ h : i < l.length, l.find? p = some l[i]) ∧ (l.findIdx? p = none → l.find? p = none) := by
  constructor
  · intro i h
    obtain ⟨hi, h2, h3⟩ := List.findIdx?_eq_some_iff_getElem.1 h
    refine ⟨hi, ?_⟩
    rw [List.find?_eq_some_iff_getElem]
    exact ⟨h2, i, hi, rfl, fun j hj => by simpa using h3 j hj⟩
  · intro h
    rw [List.find?_eq_none]
    intro x hx
    simpa using List.findIdx?_eq_none_iff.1 h x hx

theorem around_len2 (l : Lay) (x : Ed) : (around l x).length ≤ 2 * Zc.small := by
  have := around_len l x
  unfold Zc.small; omega

theorem iaddr_0I (k : IntKind) (h : Int) (t : List Int) : iaddrC 1 (sl fI (h :: t)) (.int k 0) = some (.vp (.int .i64 h :: t.flatMap fI)) := iaddr_midI k [] t h
theorem slc_1I (k : IntKind) (h : Int) (t : List Int) : slcC 1 (sl fI (h :: t)) (some (.int k 1)) none = some (sl fI t) := by
  have := slc_lo flatI (h :: t) 1 (by simp) k
  simpa using this

end Go.Proofs.Ytfblegjbmhgepaa.Zt
end
section
namespace Go.Proofs.Ytfblegjbmhgepaa.Zt
open Go Go.Zc
set_option maxRecDepth 10000

/-- Sections that there are, each once, none of which stood before. -/
def unlFrom (l : Lay) : List Int → List Int → Bool
  | _, [] => true
  | pre, x :: s => if lenAt l x = 0 then false else if x ∈ pre then false else unlFrom l (pre ++ [x]) s

theorem unlike_loop (l : Lay) (t : List Int) (hm : t.length ≤ Zc.small) : ∀ (s pre : List Int), pre ++ s = t →
    train_unlike_R0 ([(0, .vp (layC l)), (1, sl fI t), (7, sl fI t), (8, .int .i64 t.length), (9, .int .i64 pre.length)], ⟨[], []⟩) =
      if unlFrom l pre s = true then some (.norm, [], ⟨[], []⟩) else some (.ret, [(4, .bool false)], ⟨[], []⟩)
  | [], pre, hp => by
    have h1 : ¬ ((pre.length : Int) < t.length) := by rw [← hp]; simp
    rw [train_unlike_R0_eq]
    simp only [train_unlike_B0, train_unlike_K0_a, h1, unlFrom, zy, simprocAttr]
  | x :: s, pre, hp => by
    have hpl : pre.length + 1 + s.length = t.length := by rw [← hp]; simp; omega
    have h1 : ((pre.length : Int) < t.length) := by omega
    have hw := wrapN (n := pre.length) (by omega)
    have hi : iaddrC 1 (sl fI t) (.int .i64 pre.length) = some (.vp (.int .i64 x :: s.flatMap fI)) := by rw [← hp]; exact iaddr_midI _ pre s x
    have hs : slcC 1 (sl fI t) none (some (.int .i64 pre.length)) = some (sl fI pre) := by
      rw [slc_hi flatI t pre.length (by omega), ← hp]; simp
    have hc := fun st H => contains_F x pre (by omega) st H
    have ih := unlike_loop l t hm s (pre ++ [x]) (by simpa using hp)
    rw [show (pre ++ [x]).length = pre.length + 1 by simp] at ih
    rw [train_unlike_R0_eq]
    by_cases h2 : lenAt l x = 0
    · simp only [train_unlike_B0, train_unlike_K0_a, h1, hi, graph_Graph_Len_call, glen_F, eq_true h2, unlFrom, zy, simprocAttr]
    · by_cases h3 : x ∈ pre
      · simp only [train_unlike_B0, train_unlike_K0_a, h1, hi, hs, graph_Graph_Len_call, glen_F, eq_false h2, slices_Contains_int_call, hc, eq_true h3, unlFrom, zy, simprocAttr]
      · simp only [train_unlike_B0, train_unlike_K0_a, h1, hi, hs, graph_Graph_Len_call, glen_F, eq_false h2, slices_Contains_int_call, hc, eq_false h3, hw, ih, unlFrom, zy, simprocAttr]

theorem unlike_F (l : Lay) (t : List Int) (hm : t.length ≤ Zc.small) (st : Bool) (H : Heap) : train_unlike_F st H [.vp (layC l), sl fI t] = some (.bool (unlFrom l [] t), H) := by
  have e := unlike_loop l t hm t [] rfl
  simp only [List.nil_append, List.length_nil, Int.natCast_zero] at e
  rw [train_unlike_F_eq]
  cases h : unlFrom l [] t with
  | true =>
    rw [h, if_pos rfl] at e
    simp only [train_unlike_C, train_unlike_L0_eq, e, zy, simprocAttr]
  | false =>
    rw [h, if_neg (by decide)] at e
    simp only [train_unlike_C, train_unlike_L0_eq, e, zy, simprocAttr]

theorem unlFrom_iff (l : Lay) : ∀ (s pre : List Int), unlFrom l pre s = true ↔ s.Nodup ∧ ∀ x ∈ s, lenAt l x ≠ 0 ∧ x ∉ pre
  | [], pre => by simp [unlFrom]
  | x :: s, pre => by
    simp only [unlFrom]
    split
    · rename_i h; simp [h]
    · rename_i h
      split
      · rename_i h'; simp [h']
      · rename_i h'
        rw [unlFrom_iff l s (pre ++ [x])]
        simp only [List.mem_append, List.mem_singleton, List.nodup_cons, List.mem_cons, forall_eq_or_imp, not_or]
        constructor
        · rintro ⟨h1, h2⟩
          exact ⟨⟨fun hx => (h2 x hx).2.2.1 rfl, h1⟩, ⟨h, h'⟩, fun y hy => ⟨(h2 y hy).1, (h2 y hy).2.1⟩⟩
        · rintro ⟨⟨h1, h2⟩, _, h3⟩
          exact ⟨h2, fun y hy => ⟨(h3 y hy).1, (h3 y hy).2, fun e => h1 (by rw [← e]; exact hy), by simp⟩⟩

/-! ### Reports -/
structure Msg where
  kind : Int
  train : Int
  time : Int
  dir : Int
  ahead : Int
  whole : Bool
  trail : List Int
abbrev msgC (m : Msg) : List CV := [.int .u8 m.kind, .int .i64 m.train, .int .i64 m.time, .int .i64 m.dir, .int .i64 m.ahead, .bool m.whole, sl fI m.trail]

/-- From an end on, through sections. -/
def follows (l : Lay) : Ed → List Int → Bool
  | _, [] => true
  | e, s :: r => match (around l e).find? fun x => x.s == s with
    | some y => follows l ⟨s, 1 - y.e⟩ r
    | none => false
def fits (l : Lay) (m : Msg) : Bool :=
  match m.trail with
  | [] => false
  | h :: t => decide (m.trail.length ≤ 12) && unlFrom l [] m.trail && decide (0 ≤ m.dir) && decide (m.dir ≤ 1) && decide (0 ≤ m.ahead) && decide (m.ahead ≤ lenAt l h) && follows l ⟨h, 1 - m.dir⟩ t

theorem tfits1_F (x : Ed) (n : Int) (st : Bool) (H : Heap) : train_Fits_1_F st H [.agg (fE x), .vp [.int .i64 n]] = some (.bool (decide (x.s = n)), H) := by
  rw [train_Fits_1_F_eq]
  simp only [train_Fits_1_C, fE, zy, simprocAttr]

set_option maxHeartbeats 1000000 in
theorem tfits_loop (l : Lay) (hl : l.ok) (t : List Int) (hm : t.length ≤ Zc.small) : ∀ (s pre : List Int) (x : Ed) (bl : List Blk), pre ++ s = t →
    ∃ bl' bx', train_Fits_R0 ([(0, .vp (layC l)), (6, .op (.loc 6) 0), (60, sl fI t), (61, .int .i64 t.length), (62, .int .i64 pre.length)], ⟨[(6, fE x)], bl⟩) =
      if follows l x s = true then some (.norm, [], ⟨[], bl'⟩) else some (.ret, [(4, .bool false)], ⟨bx', bl'⟩)
  | [], pre, x, bl, hp => by
    have h1 : ¬ ((pre.length : Int) < t.length) := by rw [← hp]; simp
    refine ⟨bl, [], ?_⟩
    rw [train_Fits_R0_eq]
    simp only [train_Fits_B0, train_Fits_K0_a, fE, h1, follows, zy, simprocAttr]
  | n :: s, pre, x, bl, hp => by
    have hpl : pre.length + 1 + s.length = t.length := by rw [← hp]; simp; omega
    have h1 : ((pre.length : Int) < t.length) := by omega
    have hw := wrapN (n := pre.length) (by omega)
    have hi : iaddrC 1 (sl fI t) (.int .i64 pre.length) = some (.vp (.int .i64 n :: s.flatMap fI)) := by rw [← hp]; exact iaddr_midI _ pre s n
    have haF := fun H => garound_F l hl x H
    simp only [fE] at haF
    have hg0 : ∀ bx, Heap.get ⟨bx, bl ++ [Blk.cells [.int .i64 0]]⟩ (.blk bl.length) = some [.int .i64 0] := fun bx => get_blk _ _ _ _ (by simp)
    have hg1 : ∀ bx, Heap.get ⟨bx, bl ++ [Blk.cells [.int .i64 n]]⟩ (.blk bl.length) = some [.int .i64 n] := fun bx => get_blk _ _ _ _ (by simp)
    have hst : ∀ bx, stE 1 0 (.int .i64 n) ⟨bx, bl ++ [Blk.cells [.int .i64 0]]⟩ (.blk bl.length) [.int .i64 0] = some ⟨bx, bl ++ [Blk.cells [.int .i64 n]]⟩ := by
      intro bx
      simp [stE, CV.cells, ones, CV.one, CV.locs, CV.locv, Id.loc?, Heap.put, setMany]
    have hc : ∀ (y : Ed) (H' : Heap), call ctx (.fn (.func 78) [] [.vp [.int .i64 n]]) [.agg (fE y)] H' = some (.bool (decide (y.s = n)), H') := by
      intro y H'
      have := tfits1_F y n
      simp only [fE] at this
      simp only [train_Fits_1_call, fE, zy, simprocAttr, this]
    have hix := fun st H => idxE_F (.fn (.func 78) [] [.vp [.int .i64 n]]) rfl (fun y => decide (y.s = n)) hc (around l x) (around_len2 l x) st H
    have hfi := find_idx (fun y : Ed => decide (y.s = n)) (around l x)
    have hfe : (fun y : Ed => y.s == n) = fun y => decide (y.s = n) := by funext y; by_cases h : y.s = n <;> simp [h]
    cases hf : (around l x).findIdx? (fun y => decide (y.s = n)) with
    | none =>
      have hfd := hfi.2 hf
      have hid : idxOf (fun y : Ed => decide (y.s = n)) (around l x) = -1 := by simp [idxOf, hf]
      have hfo : follows l x (n :: s) = false := by simp only [follows, hfe, hfd]
      rw [hfo, train_Fits_R0_eq]
      simp only [train_Fits_B0, train_Fits_K0_a, fE, h1, hi, hg0, hg1, hst, graph_Graph_Around_call, haF, slices_IndexFunc_End_call, hix, hid, zy, simprocAttr]
      exact ⟨_, _, rfl⟩
    | some i =>
      obtain ⟨hil, hfd⟩ := hfi.1 i hf
      have hid : idxOf (fun y : Ed => decide (y.s = n)) (around l x) = i := by simp [idxOf, hf]
      have hi0 : ¬ ((i : Int) < 0) := by omega
      obtain ⟨y, hy⟩ : ∃ y, (around l x)[i] = y := ⟨_, rfl⟩
      have hya := around_in (l := l) (x := x) (y := y) (by rw [← hy]; exact List.getElem_mem hil)
      have hw3 : IntKind.i64.wrap (1 - y.e) = 1 - y.e := wrap64 (by omega) (by omega)
      have hia := iaddr_atE (k := .i64) hil
      rw [hy] at hia hfd
      have hfo : follows l x (n :: s) = follows l ⟨n, 1 - y.e⟩ s := by simp only [follows, hfe, hfd]
      obtain ⟨bl', bx', e⟩ := tfits_loop l hl t hm s (pre ++ [n]) ⟨n, 1 - y.e⟩ (bl ++ [Blk.cells [.int .i64 n]]) (by simpa using hp)
      rw [show (pre ++ [n]).length = pre.length + 1 by simp] at e
      refine ⟨bl', bx', ?_⟩
      simp only [fE] at e
      rw [hfo, train_Fits_R0_eq]
      simp only [train_Fits_B0, train_Fits_K0_a, fE, h1, hi, hg0, hg1, hst, graph_Graph_Around_call, haF, slices_IndexFunc_End_call, hix, hid, hi0, hia, hw, hw3, e, zy, simprocAttr]
end Go.Proofs.Ytfblegjbmhgepaa.Zt
end
section
namespace Go.Proofs.Ytfblegjbmhgepaa.Zt
open Go Go.Zc
set_option maxRecDepth 10000

set_option maxHeartbeats 1000000 in
theorem tfits_F (l : Lay) (hl : l.ok) (m : Msg) (st : Bool) (H : Heap) : train_Fits_F st H [.vp (layC l), .agg (msgC m)] = some (.bool (fits l m), H) := by
  rw [train_Fits_F_eq]
  obtain ⟨kind, train, time, dir, ahead, whole, trail⟩ := m
  cases trail with
  | nil => simp only [train_Fits_C, fits, Int.natCast_zero, zy, simprocAttr]
  | cons h t =>
    have h1 : ¬ (((t.length + 1 : Nat) : Int) < 1) := by omega
    by_cases h2 : t.length + 1 ≤ 12
    · have h2' : ¬ (12 : Int) < ((t.length + 1 : Nat) : Int) := by omega
      have hu := fun st H => unlike_F l (h :: t) (by unfold Zc.small; simp; omega) st H
      cases h3 : unlFrom l [] (h :: t) with
      | false =>
        simp only [h3] at hu
        simp only [train_Fits_C, fits, h1, h2', h3, train_unlike_call, hu, zy, simprocAttr]
      | true =>
        simp only [h3] at hu
        by_cases h4 : dir < 0
        · have h4' : ¬ 0 ≤ dir := by omega
          simp only [train_Fits_C, fits, h1, h2', h3, h4, h4', train_unlike_call, hu, zy, simprocAttr]
        · have h4' : 0 ≤ dir := by omega
          by_cases h5 : 1 < dir
          · have h5' : ¬ dir ≤ 1 := by omega
            simp only [train_Fits_C, fits, h1, h2', h3, h4, h5, h5', train_unlike_call, hu, zy, simprocAttr]
          · have h5' : dir ≤ 1 := by omega
            by_cases h6 : ahead < 0
            · have h6' : ¬ 0 ≤ ahead := by omega
              simp only [train_Fits_C, fits, h1, h2', h3, h4, h5, h6, h6', train_unlike_call, hu, zy, simprocAttr]
            · have h6' : 0 ≤ ahead := by omega
              by_cases h7 : lenAt l h < ahead
              · have h7' : ¬ ahead ≤ lenAt l h := by omega
                simp only [train_Fits_C, fits, h1, h2', h3, h4, h5, h6, h7, h7', train_unlike_call, hu, iaddr_0I, graph_Graph_Len_call, glen_F, zy, simprocAttr]
              · have h7' : ahead ≤ lenAt l h := by omega
                have hw : IntKind.i64.wrap (1 - dir) = 1 - dir := wrap64 (by omega) (by omega)
                obtain ⟨bl', bx', e⟩ := tfits_loop l hl t (by unfold Zc.small; omega) t [] ⟨h, 1 - dir⟩ [] rfl
                simp only [fE, List.nil_append, List.length_nil, Int.natCast_zero] at e
                cases h8 : follows l ⟨h, 1 - dir⟩ t with
                | true =>
                  rw [h8, if_pos rfl] at e
                  simp only [train_Fits_C, train_Fits_L0_eq, fits, h1, h2, h2', h3, h4, h4', h5, h5', h6, h6', h7, h7', h8, hw, train_unlike_call, hu, iaddr_0I, slc_1I, graph_Graph_Len_call, glen_F, e, zy, simprocAttr]
                | false =>
                  rw [h8, if_neg (by decide)] at e
                  simp only [train_Fits_C, train_Fits_L0_eq, fits, h1, h2, h2', h3, h4, h4', h5, h5', h6, h6', h7, h7', h8, hw, train_unlike_call, hu, iaddr_0I, slc_1I, graph_Graph_Len_call, glen_F, e, zy, simprocAttr]
    · have h2' : (12 : Int) < ((t.length + 1 : Nat) : Int) := by omega
      simp only [train_Fits_C, fits, h1, h2, h2', zy, simprocAttr]
end Go.Proofs.Ytfblegjbmhgepaa.Zt
end
section
namespace Go.Proofs.Ytfblegjbmhgepaa.Zt
open Go Go.Zc
set_option maxRecDepth 10000

structure Vh where
  id : Int
  length : Int
  ahead : Int
  way : List Ed
def fVh (v : Vh) : List CV := [.int .i64 v.id, .int .i64 v.length, .int .i64 v.ahead, sl fE v.way]
theorem flatVh : Flat fVh 4 := ⟨fun _ => rfl, by decide, fun _ => rfl, fun _ => rfl, fun _ => rfl⟩

def findW (w : List Vh) (id : Int) : Option Nat := w.findIdx? fun v => decide (v.id = id)
/-- Metres of sections. -/
def sumL (l : Lay) : List Int → Int
  | [] => 0
  | s :: r => lenAt l s + sumL l r
/-- How many sections of a way are in so many metres. -/
def underN (l : Lay) : Int → List Ed → Nat
  | _, [] => 0
  | b, x :: r => if b - lenAt l x.s ≤ 0 then 1 else underN l (b - lenAt l x.s) r + 1
def underW (l : Lay) (v : Vh) : List Ed := v.way.take (underN l (v.ahead + v.length) v.way)
def underL (l : Lay) (v : Vh) : List Int := (underW l v).map Ed.s
def underV (l : Lay) (w : List Vh) (id : Int) : List Int := match findW w id with
  | none => []
  | some i => match w[i]? with
    | none => []
    | some v => underL l v
def insideV (l : Lay) (w : List Vh) (s : Int) : Bool := w.any fun v => decide (s ∈ underV l w v.id)
def partAt (l : Lay) (p : Int) : Option (List Int) := if 0 ≤ p then l.parts[p.toNat]? else none
def inV (l : Lay) (w : List Vh) (id p : Int) : Bool := match partAt l p with
  | none => false
  | some q => (underV l w id).any fun s => decide (s ∈ q)

/-- The way through a trail, the foremost first. -/
def wayFrom (l : Lay) : Ed → List Int → List Ed
  | _, [] => []
  | e, s :: r => match (around l ⟨e.s, 1 - e.e⟩).find? fun x => x.s == s with
    | none => []
    | some x => x :: wayFrom l x r
def wayIn (l : Lay) (dir : Int) : List Int → List Ed
  | [] => []
  | h :: t => ⟨h, dir⟩ :: wayFrom l ⟨h, dir⟩ t
def mayAdd (l : Lay) (length ahead dir : Int) (trail : List Int) : Bool :=
  fits l ⟨3, 0, 0, dir, ahead, false, trail⟩ && decide (ahead < lenAt l (trail.headD 0)) && decide (1 ≤ length) && decide (length ≤ sumL l trail - ahead)
def addV (l : Lay) (w : List Vh) (id length ahead dir : Int) (trail : List Int) : List Vh × Int :=
  if (findW w id).isSome ∨ 6 ≤ w.length then (w, 8)
  else if mayAdd l length ahead dir trail then (w ++ [⟨id, length, ahead, wayIn l dir trail⟩], 0) else (w, 1)

def enterV (l : Lay) (right : List Bool) (v : Vh) : Option Vh := match v.way with
  | [] => none
  | e :: _ => match next l e right with
    | none => none
    | some x => if x.s ∈ underL l v then none else some { v with ahead := lenAt l x.s, way := ⟨x.s, 1 - x.e⟩ :: underW l v }
/-- On, by so many metres; what is left of them. -/
def goN (l : Lay) (right : List Bool) : Nat → Vh → Int → Vh × Int
  | 0, v, left => (v, left)
  | n + 1, v, left =>
    if left ≤ 0 then (v, left)
    else if 0 < v.ahead then goN l right n { v with ahead := v.ahead - min left v.ahead } (left - min left v.ahead)
    else match enterV l right v with
      | none => (v, left)
      | some v' => goN l right n v' left
def goV (l : Lay) (right : List Bool) (v : Vh) (metres : Int) : Vh × Int :=
  (fun r : Vh × Int => ({ r.1 with way := underW l r.1 }, metres - r.2)) (goN l right (2 * metres.toNat + 2) v metres)
/-- Ahead of how far back. -/
def backW (l : Lay) : Int → List Ed → Int × List Ed
  | b, [] => (b, [])
  | b, x :: r => if lenAt l x.s ≤ b then backW l (b - lenAt l x.s) r else (b, x :: r)
def splitV (l : Lay) (v : Vh) (other behind : Int) : Vh × Vh :=
  ((fun u : Vh => { u with way := underW l u }) { v with length := v.length - behind }, ⟨other, behind, (backW l (v.ahead + v.length - behind) v.way).1, (backW l (v.ahead + v.length - behind) v.way).2⟩)

/-! ### What vehicles are -/
def linked (l : Lay) : List Ed → Prop
  | a :: b :: r => b ∈ around l ⟨a.s, 1 - a.e⟩ ∧ linked l (b :: r)
  | _ => True
structure Sound (l : Lay) (v : Vh) : Prop where
  pos : 1 ≤ v.length
  ahead : 0 ≤ v.ahead
  room : v.ahead + v.length ≤ sumL l (v.way.map Ed.s)
  once : (v.way.map Ed.s).Nodup
  there : ∀ x ∈ v.way, (0 ≤ x.s ∧ x.s < l.secs.length) ∧ (x.e = 0 ∨ x.e = 1)
  link : linked l v.way
/-- In its first section. -/
def Front (l : Lay) (v : Vh) : Prop := ∃ e r, v.way = e :: r ∧ v.ahead < lenAt l e.s

theorem linked_tail {l : Lay} {a : Ed} {r : List Ed} (h : linked l (a :: r)) : linked l r := by
  cases r with
  | nil => trivial
  | cons b r => exact h.2
theorem linked_take {l : Lay} : ∀ (n : Nat) {r : List Ed}, linked l r → linked l (r.take n)
  | 0, _, _ => by simp [linked]
  | n + 1, [], _ => by simp [linked]
  | 1, a :: r, _ => by simp [linked]
  | n + 2, [a], _ => by simp [linked]
  | n + 2, a :: b :: r, h => by
    have := linked_take (n + 1) h.2
    simp only [List.take_succ_cons] at this ⊢
    exact ⟨h.1, this⟩
theorem sumL_take {l : Lay} (hl : ∀ s, 0 ≤ lenAt l s) : ∀ (b : Int) (r : List Ed), 0 < b → b ≤ sumL l (r.map Ed.s) → b ≤ sumL l ((r.take (underN l b r)).map Ed.s)
  | b, [], h, h' => by simpa [underN] using h'
  | b, x :: r, h, h' => by
    simp only [List.map_cons, sumL] at h'
    unfold underN
    split
    · rename_i hc
      simp only [List.take_succ_cons, List.take_zero, List.map_cons, List.map_nil, sumL]
      omega
    · rename_i hc
      have := sumL_take hl (b - lenAt l x.s) r (by omega) (by omega)
      simp only [List.take_succ_cons, List.map_cons, sumL]
      omega
theorem underN_pos (l : Lay) (b : Int) (x : Ed) (r : List Ed) : 1 ≤ underN l b (x :: r) := by
  unfold underN; split <;> omega
theorem underN_take (l : Lay) : ∀ (b : Int) (r : List Ed) (n : Nat), underN l b r ≤ n → underN l b (r.take n) = underN l b r
  | _, [], n, _ => by simp
  | b, x :: r, 0, h => by have := underN_pos l b x r; omega
  | b, x :: r, n + 1, h => by
    simp only [List.take_succ_cons]
    unfold underN at h ⊢
    split
    · rfl
    · rename_i hc
      rw [if_neg hc] at h
      rw [underN_take l _ r n (by omega)]
theorem underN_le (l : Lay) : ∀ (b : Int) (r : List Ed), underN l b r ≤ r.length
  | _, [] => by simp [underN]
  | b, x :: r => by
    unfold underN
    have := underN_le l (b - lenAt l x.s) r
    simp only [List.length_cons]
    split <;> omega
theorem underW_cons {l : Lay} {v : Vh} {e : Ed} {r : List Ed} (h : v.way = e :: r) : ∃ t, underW l v = e :: t := by
  unfold underW
  rw [h]
  have := underN_pos l (v.ahead + v.length) e r
  obtain ⟨n, hn⟩ : ∃ n, underN l (v.ahead + v.length) (e :: r) = n + 1 := ⟨underN l (v.ahead + v.length) (e :: r) - 1, by omega⟩
  rw [hn]
  exact ⟨_, List.take_succ_cons ..⟩
/-- What isn't under it is left out. -/
theorem Sound.cut {l : Lay} (hl : ∀ s, 0 ≤ lenAt l s) {v : Vh} (h : Sound l v) : Sound l { v with way := underW l v } := by
  refine ⟨h.pos, h.ahead, sumL_take hl (v.ahead + v.length) v.way (by have := h.pos; have := h.ahead; omega) h.room, ?_, ?_, ?_⟩
  · exact h.once.sublist ((List.take_sublist _ _).map _)
  · exact fun x hx => h.there x (List.mem_of_mem_take hx)
  · exact linked_take _ h.link
theorem underW_idem (l : Lay) (v : Vh) : underW l { v with way := underW l v } = underW l v := by
  unfold underW
  simp only
  rw [underN_take l _ _ _ (Nat.le_refl _), List.take_take, Nat.min_self]
theorem Front.cut {l : Lay} {v : Vh} (h : Front l v) : Front l { v with way := underW l v } := by
  obtain ⟨e, r, h1, h2⟩ := h
  obtain ⟨t, ht⟩ := underW_cons (l := l) h1
  exact ⟨e, t, ht, h2⟩

theorem enter_sound {l : Lay} (hl : ∀ s, 0 ≤ lenAt l s) (hb : ∀ x y, y ∈ around l x → x ∈ around l y) {right : List Bool} {v v' : Vh} (h : Sound l v) (h0 : v.ahead = 0) (he : enterV l right v = some v') : Sound l v' ∧ v'.id = v.id ∧ v'.length = v.length ∧ ∃ e r, v'.way = e :: r ∧ v'.ahead = lenAt l e.s := by
  unfold enterV at he
  cases hw : v.way with
  | nil => simp [hw] at he
  | cons e r =>
    simp only [hw] at he
    cases hx : next l e right with
    | none => simp [hx] at he
    | some x =>
      simp only [hx] at he
      split at he
      · cases he
      · rename_i hno
        cases he
        have hm := next_mem hx
        have hin := around_in hm
        have hc := h.cut hl
        obtain ⟨t, ht⟩ := underW_cons (l := l) hw
        refine ⟨⟨h.pos, hl _, ?_, ?_, ?_, ?_⟩, rfl, rfl, _, _, rfl, rfl⟩
        · have := hc.room
          simp only [h0] at this
          simp only [List.map_cons, sumL]
          omega
        · simp only [List.map_cons, List.nodup_cons]
          exact ⟨hno, hc.once⟩
        · intro y hy
          rcases List.mem_cons.1 hy with rfl | hy
          · refine ⟨hin.1, ?_⟩
            simp only
            omega
          · exact hc.there y hy
        · have hlk := hc.link
          simp only [ht] at hlk ⊢
          refine ⟨?_, hlk⟩
          have := hb _ _ hm
          rw [show (⟨x.s, 1 - (1 - x.e)⟩ : Ed) = x by obtain ⟨a, b⟩ := x; simp only [Ed.mk.injEq, true_and]; omega]
          exact this
theorem go_sound {l : Lay} (hl : ∀ s, 0 ≤ lenAt l s) (hp : ∀ s : Int, 0 ≤ s → s < l.secs.length → 1 ≤ lenAt l s) (hb : ∀ x y, y ∈ around l x → x ∈ around l y) {right : List Bool} : ∀ (n : Nat) {v : Vh} {left : Int},
    Sound l v → (Front l v ∨ (0 < left ∧ ∃ e r, v.way = e :: r ∧ v.ahead = lenAt l e.s)) → 2 * left.toNat + (if 0 < v.ahead then 0 else 1) ≤ n →
    Sound l (goN l right n v left).1 ∧ Front l (goN l right n v left).1 ∧ (goN l right n v left).1.id = v.id ∧ (goN l right n v left).1.length = v.length
  | 0, v, left, h, hf, hn => by
    simp only [goN]
    refine ⟨h, ?_, trivial, trivial⟩
    rcases hf with hf | ⟨h0, _⟩
    · exact hf
    · omega
  | n + 1, v, left, h, hf, hn => by
    unfold goN
    by_cases h1 : left ≤ 0
    · rw [if_pos h1]
      refine ⟨h, ?_, rfl, rfl⟩
      rcases hf with hf | ⟨h0, _⟩
      · exact hf
      · omega
    · rw [if_neg h1]
      have ha := h.ahead
      by_cases h2 : 0 < v.ahead
      · rw [if_pos h2]
        rw [if_pos h2] at hn
        have hfr : ∃ e r, v.way = e :: r ∧ v.ahead ≤ lenAt l e.s := by
          rcases hf with ⟨e, r, h3, h4⟩ | ⟨_, e, r, h3, h4⟩
          · exact ⟨e, r, h3, by omega⟩
          · exact ⟨e, r, h3, by omega⟩
        obtain ⟨e, r, h3, h4⟩ := hfr
        obtain ⟨q1, q2, q3, q4⟩ := go_sound hl hp hb n (v := { v with ahead := v.ahead - min left v.ahead }) (left := left - min left v.ahead)
          ⟨h.pos, by simp only; omega, by have := h.room; simp only; omega, h.once, h.there, h.link⟩ (.inl ⟨e, r, h3, by simp only; omega⟩) (by
            split <;> omega)
        exact ⟨q1, q2, q3, q4⟩
      · rw [if_neg h2]
        rw [if_neg h2] at hn
        cases he : enterV l right v with
        | none =>
          refine ⟨h, ?_, rfl, rfl⟩
          rcases hf with hf | ⟨_, e, r, h3, h4⟩
          · exact hf
          · have := h.there e (by rw [h3]; simp)
            have := hp e.s this.1.1 this.1.2
            exact ⟨e, r, h3, by omega⟩
        | some v' =>
          obtain ⟨q1, q2, q3, e, r, q4, q5⟩ := enter_sound hl hb h (by omega) he
          have hin := q1.there e (by rw [q4]; simp)
          have := hp e.s hin.1.1 hin.1.2
          obtain ⟨p1, p2, p3, p4⟩ := go_sound hl hp hb n (left := left) q1 (.inr ⟨by omega, e, r, q4, q5⟩) (by rw [if_pos (by omega)]; omega)
          exact ⟨p1, p2, p3.trans q2, p4.trans q3⟩
theorem goV_sound {l : Lay} (hl : ∀ s, 0 ≤ lenAt l s) (hp : ∀ s : Int, 0 ≤ s → s < l.secs.length → 1 ≤ lenAt l s) (hb : ∀ x y, y ∈ around l x → x ∈ around l y) {right : List Bool} {v : Vh} {metres : Int} (h : Sound l v) (hf : Front l v) :
    Sound l (goV l right v metres).1 ∧ Front l (goV l right v metres).1 ∧ (goV l right v metres).1.id = v.id ∧ (goV l right v metres).1.length = v.length := by
  obtain ⟨q1, q2, q3, q4⟩ := go_sound hl hp hb (right := right) (2 * metres.toNat + 2) (v := v) (left := metres) h (.inl hf) (by split <;> omega)
  exact ⟨q1.cut hl, q2.cut, q3, q4⟩

theorem back_ok {l : Lay} : ∀ (r : List Ed) (b : Int), 0 ≤ b → b < sumL l (r.map Ed.s) → linked l r →
    (∃ e t, (backW l b r).2 = e :: t ∧ (backW l b r).1 < lenAt l e.s) ∧ 0 ≤ (backW l b r).1 ∧ sumL l (r.map Ed.s) - b = sumL l ((backW l b r).2.map Ed.s) - (backW l b r).1 ∧ (∃ p, r = p ++ (backW l b r).2) ∧ linked l (backW l b r).2
  | [], b, h, h', _ => by simp only [List.map_nil, sumL] at h'; omega
  | x :: r, b, h, h', hk => by
    simp only [List.map_cons, sumL] at h'
    unfold backW
    split
    · rename_i hc
      obtain ⟨q1, q2, q3, ⟨p, q4⟩, q5⟩ := back_ok r (b - lenAt l x.s) (by omega) (by omega) (linked_tail hk)
      refine ⟨q1, q2, by simp only [List.map_cons, sumL]; omega, ⟨x :: p, by rw [List.cons_append, ← q4]⟩, q5⟩
    · rename_i hc
      exact ⟨⟨x, r, rfl, by omega⟩, h, rfl, ⟨[], rfl⟩, hk⟩
theorem splitV_sound {l : Lay} (hl : ∀ s, 0 ≤ lenAt l s) {v : Vh} (h : Sound l v) (hf : Front l v) {other behind : Int} (h1 : 1 ≤ behind) (h2 : behind < v.length) :
    (Sound l (splitV l v other behind).1 ∧ Front l (splitV l v other behind).1) ∧ Sound l (splitV l v other behind).2 ∧ Front l (splitV l v other behind).2 := by
  obtain ⟨q1, q2, q3, ⟨p, q4⟩, q5⟩ := back_ok v.way (v.ahead + v.length - behind) (by have := h.ahead; omega) (by have := h.room; omega) h.link
  have hs : Sound l { v with length := v.length - behind } := ⟨by simp only; omega, h.ahead, by have := h.room; simp only; omega, h.once, h.there, h.link⟩
  refine ⟨⟨hs.cut hl, Front.cut (v := { v with length := v.length - behind }) hf⟩, ⟨h1, q2, ?_, ?_, ?_, q5⟩, ?_⟩
  · have := h.room
    simp only [splitV]
    omega
  · have := h.once
    rw [q4, List.map_append] at this
    exact (List.nodup_append.1 this).2.1
  · intro x hx
    exact h.there x (by rw [q4]; exact List.mem_append_right _ hx)
  · obtain ⟨e, t, h3, h4⟩ := q1
    exact ⟨e, t, h3, h4⟩

/-! ### Who comes -/
theorem wayFrom_ok {l : Lay} : ∀ (r : List Int) (e : Ed), follows l ⟨e.s, 1 - e.e⟩ r = true → (wayFrom l e r).map Ed.s = r ∧ linked l (e :: wayFrom l e r) ∧ ∀ x ∈ wayFrom l e r, (0 ≤ x.s ∧ x.s < l.secs.length) ∧ (x.e = 0 ∨ x.e = 1)
  | [], e, _ => ⟨rfl, trivial, by simp [wayFrom]⟩
  | s :: r, e, h => by
    unfold follows at h
    cases hx : (around l ⟨e.s, 1 - e.e⟩).find? fun x => x.s == s with
    | none => simp [hx] at h
    | some x =>
      simp only [hx] at h
      have hm := List.mem_of_find?_eq_some hx
      have hs : x.s = s := by simpa using List.find?_some hx
      subst hs
      obtain ⟨q1, q2, q3⟩ := wayFrom_ok r x h
      unfold wayFrom
      simp only [hx]
      refine ⟨by simp [q1], ⟨hm, q2⟩, fun y hy => ?_⟩
      rcases List.mem_cons.1 hy with rfl | hy
      · exact around_in hm
      · exact q3 y hy
theorem lenAt_in {l : Lay} {s : Int} (h : lenAt l s ≠ 0) : 0 ≤ s ∧ s < l.secs.length := by
  unfold lenAt at h
  by_cases h0 : 0 ≤ s
  · refine ⟨h0, ?_⟩
    by_cases h1 : s.toNat < l.secs.length
    · omega
    · rw [if_pos h0, List.getElem?_eq_none (by omega)] at h
      exact (h rfl).elim
  · rw [if_neg h0] at h
    exact (h rfl).elim
theorem mayAdd_ok {l : Lay} {length ahead dir : Int} {trail : List Int} (h : mayAdd l length ahead dir trail = true) (id : Int) : Sound l ⟨id, length, ahead, wayIn l dir trail⟩ ∧ Front l ⟨id, length, ahead, wayIn l dir trail⟩ ∧ (wayIn l dir trail).map Ed.s = trail := by
  unfold mayAdd fits at h
  cases trail with
  | nil => simp at h
  | cons s t =>
    simp only [List.headD_cons] at h
    simp only [Bool.and_eq_true, decide_eq_true_eq] at h
    obtain ⟨⟨⟨⟨⟨⟨⟨⟨⟨_, h2⟩, h3⟩, h4⟩, h5⟩, h6⟩, h7⟩, h8⟩, h9⟩, h10⟩ := h
    obtain ⟨n1, n2⟩ := (unlFrom_iff l _ _).1 h2
    obtain ⟨q1, q2, q3⟩ := wayFrom_ok t ⟨s, dir⟩ h7
    have hm : (wayIn l dir (s :: t)).map Ed.s = s :: t := by simp [wayIn, q1]
    refine ⟨⟨h9, h5, by rw [hm]; simp only; omega, by rw [hm]; exact n1, fun x hx => ?_, q2⟩, ⟨⟨s, dir⟩, _, rfl, of_decide_eq_true h8⟩, hm⟩
    rcases List.mem_cons.1 hx with rfl | hx
    · exact ⟨lenAt_in (n2 s (by simp)).1, by simp only; omega⟩
    · exact q3 x hx

/-! ### A vehicle that is put where it is -/
theorem wayFrom_linked {l : Lay} (hap : ∀ x y, y ∈ around l x → (around l x).find? (fun z => z.s == y.s) = some y) : ∀ (r : List Ed) (e : Ed), linked l (e :: r) → wayFrom l e (r.map Ed.s) = r ∧ follows l ⟨e.s, 1 - e.e⟩ (r.map Ed.s) = true
  | [], e, _ => ⟨rfl, rfl⟩
  | x :: r, e, h => by
    have hx := hap _ _ h.1
    obtain ⟨q1, q2⟩ := wayFrom_linked hap r x h.2
    simp only [List.map_cons]
    unfold wayFrom follows
    simp only [hx, q1, q2, and_self]
theorem sound_mayAdd {l : Lay} (hlen : l.secs.length ≤ 12) (hl : ∀ s, 0 ≤ lenAt l s) (hp : ∀ s : Int, 0 ≤ s → s < l.secs.length → 1 ≤ lenAt l s) (hap : ∀ x y, y ∈ around l x → (around l x).find? (fun z => z.s == y.s) = some y) {v : Vh} (h : Sound l v) (hf : Front l v) :
    mayAdd l v.length v.ahead ((v.way.headD ⟨0, 0⟩).e) (underL l v) = true ∧ wayIn l ((v.way.headD ⟨0, 0⟩).e) (underL l v) = underW l v := by
  have hc := h.cut hl
  obtain ⟨e, r, hw, hlt⟩ := hf
  obtain ⟨t, ht⟩ := underW_cons (l := l) hw
  have hlk := hc.link
  simp only [ht] at hlk
  obtain ⟨q1, q2⟩ := wayFrom_linked hap t e hlk
  have hn := hc.once
  have hth := hc.there
  have hr := hc.room
  simp only [ht, List.map_cons] at hn hth hr
  have hlen2 : (e.s :: t.map Ed.s).length ≤ 12 := by
    have hnd : ((e.s :: t.map Ed.s).map Int.toNat).Nodup := by
      have h1 : ∀ z ∈ e.s :: t.map Ed.s, 0 ≤ z := by
        intro z hz
        rcases List.mem_cons.1 hz with rfl | hz
        · exact (hth e (by simp)).1.1
        · obtain ⟨y, hy, rfl⟩ := List.mem_map.1 hz
          exact (hth y (by simp [hy])).1.1
      refine List.pairwise_map.2 (hn.imp_of_mem fun {x y} hx hy hxy => ?_)
      have := h1 x hx; have := h1 y hy
      omega
    have := nodup_le hnd (b := List.range l.secs.length) (fun z hz => by
      obtain ⟨y, hy, rfl⟩ := List.mem_map.1 hz
      rw [List.mem_range]
      rcases List.mem_cons.1 hy with rfl | hy
      · have := (hth e (by simp)).1; omega
      · obtain ⟨y', hy', rfl⟩ := List.mem_map.1 hy
        have := (hth y' (by simp [hy'])).1; omega)
    simp only [List.length_map, List.length_range] at this
    omega
  have hu : unlFrom l [] (e.s :: t.map Ed.s) = true := (unlFrom_iff l _ _).2 ⟨hn, fun x hx => ⟨by
    rcases List.mem_cons.1 hx with rfl | hx
    · have := (hth e (by simp)).1
      have := hp _ this.1 this.2; omega
    · obtain ⟨y, hy, rfl⟩ := List.mem_map.1 hx
      have := (hth y (by simp [hy])).1
      have := hp _ this.1 this.2; omega, by simp⟩⟩
  have he := (hth e (by simp)).2
  have hpos := h.pos
  have ha := h.ahead
  have hUL : underL l v = e.s :: t.map Ed.s := by unfold underL; rw [ht]; rfl
  rw [hUL, hw]
  refine ⟨?_, ?_⟩
  · unfold mayAdd fits
    simp only [List.headD_cons]
    simp only [Bool.and_eq_true, decide_eq_true_eq]
    refine ⟨⟨⟨⟨⟨⟨⟨⟨⟨hlen2, hu⟩, ?_⟩, ?_⟩, ha⟩, by omega⟩, q2⟩, decide_eq_true hlt⟩, hpos⟩, by omega⟩
    · exact decide_eq_true (show 0 ≤ e.e by omega)
    · exact decide_eq_true (show e.e ≤ 1 by omega)
  · simp only [List.headD_cons, wayIn, ht]
    rw [show (⟨e.s, e.e⟩ : Ed) = e from rfl, q1]
end Go.Proofs.Ytfblegjbmhgepaa.Zt
end
section
namespace Go.Proofs.Ytfblegjbmhgepaa.Zt
open Go Go.Zc
set_option maxRecDepth 10000

/-- The best one so far. -/
def Best (last : Option Int) (l : List Int) (i : Nat) (b : Int) : Prop :=
  (b = -1 ∧ ∀ k, ∀ h : k < l.length, k < i → gtO last l[k] = false) ∨
  ∃ j : Nat, ∃ hj : j < l.length, b = j ∧ j < i ∧ gtO last l[j] = true ∧ ∀ k, ∀ h : k < l.length, k < i → gtO last l[k] = true → l[j] ≤ l[k]

theorem rise_in (l : List Int) (hm : l.length ≤ 2 * Zc.small) (acc : List Int) (v : CV) (bl : List Blk) (hO : Own fI 1 bl v acc) (ham : acc.length ≤ 2 * Zc.small) : ∀ (n i : Nat) (b : Int), l.length - i = n → i ≤ l.length → Best acc.getLast? l i b →
    ∃ b', r01_Rise_R2 ([(0, sl fI l), (3, v), (4, .int .i64 b), (5, .int .i64 i)], ⟨[], bl⟩) = some (.norm, [(0, sl fI l), (3, v), (4, .int .i64 b')], ⟨[], bl⟩) ∧ Best acc.getLast? l l.length b' := by
  intro n
  induction n with
  | zero =>
    intro i b hn hi hB
    have : i = l.length := by omega
    subst this
    refine ⟨b, ?_, hB⟩
    rw [r01_Rise_R2_eq]
    simp only [r01_Rise_B2, r01_Rise_K2_a, hO.chkV, zy, simprocAttr]
  | succ n ih =>
    intro i b hn hi hB
    have hil : i < l.length := by omega
    have h1 : ((i : Int) < l.length) := by omega
    have hw := wrapN (n := i) (by omega)
    have hia := iaddr_atI (k := .i64) hil
    have hol := hO.len
    -- the new best one
    have step : ∃ b', Best acc.getLast? l (i + 1) b' ∧ r01_Rise_R2 ([(0, sl fI l), (3, v), (4, .int .i64 b), (5, .int .i64 i)], ⟨[], bl⟩) = r01_Rise_R2 ([(0, sl fI l), (3, v), (4, .int .i64 b'), (5, .int .i64 (i + 1 : Nat))], ⟨[], bl⟩) := by
      have hkB : gtO acc.getLast? l[i] = false → Best acc.getLast? l (i + 1) b := by
        intro hg
        rcases hB with ⟨h2, h3⟩ | ⟨j, hj, h2, h3, h4, h5⟩
        · exact .inl ⟨h2, fun k hk hki => by
            by_cases hkk : k = i
            · subst hkk; exact hg
            · exact h3 k hk (by omega)⟩
        · exact .inr ⟨j, hj, h2, by omega, h4, fun k hk hki hgk => by
            by_cases hkk : k = i
            · subst hkk; rw [hg] at hgk; cases hgk
            · exact h5 k hk (by omega) hgk⟩
      have hnB : gtO acc.getLast? l[i] = true → b < 0 → Best acc.getLast? l (i + 1) i := by
        intro hg hb
        rcases hB with ⟨h2, h3⟩ | ⟨j, hj, h2, h3, h4, h5⟩
        · refine .inr ⟨i, hil, rfl, by omega, hg, fun k hk hki hgk => ?_⟩
          by_cases hkk : k = i
          · subst hkk; exact Int.le_refl _
          · rw [h3 k hk (by omega)] at hgk; cases hgk
        · omega
      by_cases hacc : acc = []
      · subst hacc
        have hg : gtO ([] : List Int).getLast? l[i] = true := rfl
        by_cases hb : b < 0
        · refine ⟨i, hnB hg hb, ?_⟩
          rw [r01_Rise_R2_eq]
          simp only [r01_Rise_B2, r01_Rise_K2_a, h1, hol, hia, hb, hw, hO.chkV, Int.natCast_zero, zy, simprocAttr]
        · rcases hB with ⟨h2, h3⟩ | ⟨j, hj, h2, h3, h4, h5⟩
          · omega
          · subst h2
            have hja := iaddr_atI (k := .i64) hj
            by_cases hlt : l[i] < l[j]
            · refine ⟨i, .inr ⟨i, hil, rfl, by omega, hg, fun k hk hki hgk => ?_⟩, ?_⟩
              · by_cases hkk : k = i
                · subst hkk; exact Int.le_refl _
                · have := h5 k hk (by omega) hgk; omega
              · rw [r01_Rise_R2_eq]
                simp only [r01_Rise_B2, r01_Rise_K2_a, h1, hol, hia, hja, hb, hlt, hw, hO.chkV, Int.natCast_zero, zy, simprocAttr]
            · refine ⟨j, .inr ⟨j, hj, rfl, by omega, h4, fun k hk hki hgk => ?_⟩, ?_⟩
              · by_cases hkk : k = i
                · subst hkk; omega
                · exact h5 k hk (by omega) hgk
              · rw [r01_Rise_R2_eq]
                simp only [r01_Rise_B2, r01_Rise_K2_a, h1, hol, hia, hja, hb, hlt, hw, hO.chkV, Int.natCast_zero, zy, simprocAttr]
      · obtain ⟨a, z, rfl⟩ : ∃ a z, acc = a ++ [z] := ⟨acc.dropLast, acc.getLast hacc, (List.dropLast_concat_getLast hacc).symm⟩
        have hlast : (a ++ [z]).getLast? = some z := by simp
        have hl0 : ¬ (((a ++ [z]).length : Int) = 0) := by simp; omega
        have hsub : IntKind.i64.wrap (((a ++ [z]).length : Int) - 1) = a.length := by
          unfold Zc.small at ham
          rw [wrap64 (by omega) (by omega)]; simp
        obtain ⟨m, hla, cs, hg0, hd⟩ := Own.get flatI hO (p := a) (s := []) (x := z) rfl
        simp only [fI, Nat.mul_one] at hd
        simp only [Nat.mul_one] at hla
        rw [hlast] at hkB hnB hB ⊢
        generalize hL : (a ++ [z]).length = L at *
        by_cases hgz : z < l[i]
        · have hg : gtO (some z) l[i] = true := by simp [gtO, hgz]
          by_cases hb : b < 0
          · refine ⟨i, hnB hg hb, ?_⟩
            rw [r01_Rise_R2_eq]
            simp only [r01_Rise_B2, r01_Rise_K2_a, h1, hol, hl0, hsub, hla, hg0, hd, hgz, hia, hb, hw, hO.chkV, zy, simprocAttr]
          · rcases hB with ⟨h2, h3⟩ | ⟨j, hj, h2, h3, h4, h5⟩
            · omega
            · subst h2
              have hja := iaddr_atI (k := .i64) hj
              by_cases hlt : l[i] < l[j]
              · refine ⟨i, .inr ⟨i, hil, rfl, by omega, hg, fun k hk hki hgk => ?_⟩, ?_⟩
                · by_cases hkk : k = i
                  · subst hkk; exact Int.le_refl _
                  · have := h5 k hk (by omega) hgk; omega
                · rw [r01_Rise_R2_eq]
                  simp only [r01_Rise_B2, r01_Rise_K2_a, h1, hol, hl0, hsub, hla, hg0, hd, hgz, hia, hja, hb, hlt, hw, hO.chkV, zy, simprocAttr]
              · refine ⟨j, .inr ⟨j, hj, rfl, by omega, h4, fun k hk hki hgk => ?_⟩, ?_⟩
                · by_cases hkk : k = i
                  · subst hkk; omega
                  · exact h5 k hk (by omega) hgk
                · rw [r01_Rise_R2_eq]
                  simp only [r01_Rise_B2, r01_Rise_K2_a, h1, hol, hl0, hsub, hla, hg0, hd, hgz, hia, hja, hb, hlt, hw, hO.chkV, zy, simprocAttr]
        · have hg : gtO (some z) l[i] = false := by simp [gtO]; omega
          refine ⟨b, hkB hg, ?_⟩
          rw [r01_Rise_R2_eq]
          simp only [r01_Rise_B2, r01_Rise_K2_a, h1, hol, hl0, hsub, hla, hg0, hd, hgz, hia, hw, hO.chkV, zy, simprocAttr]
    obtain ⟨b', hB', e⟩ := step
    obtain ⟨b'', e2, hB''⟩ := ih (i + 1) b' (by omega) (by omega) hB'
    exact ⟨b'', e.trans e2, hB''⟩

theorem best_min {last : Option Int} {l : List Int} {b : Int} (h : Best last l l.length b) : (b < 0 ∧ minO (l.filter (gtO last)) = none) ∨ ∃ j : Nat, ∃ hj : j < l.length, b = j ∧ minO (l.filter (gtO last)) = some l[j] := by
  rcases h with ⟨h1, h2⟩ | ⟨j, hj, h1, _, h3, h4⟩
  · left
    refine ⟨by omega, minO_none.2 ?_⟩
    rw [List.filter_eq_nil_iff]
    intro x hx
    obtain ⟨k, hk, rfl⟩ := List.mem_iff_getElem.1 hx
    rw [h2 k hk hk]; simp
  · right
    refine ⟨j, hj, h1, minO_some.2 ⟨List.mem_filter.2 ⟨List.getElem_mem hj, h3⟩, fun y hy => ?_⟩⟩
    obtain ⟨hy1, hy2⟩ := List.mem_filter.1 hy
    obtain ⟨k, hk, rfl⟩ := List.mem_iff_getElem.1 hy1
    exact h4 k hk hk hy2

theorem rise_loop (l : List Int) (hm : l.length ≤ Zc.small) : ∀ (n : Nat) (acc : List Int) (v : CV) (bl : List Blk), (l.filter (gtO acc.getLast?)).length ≤ n → acc.length + n ≤ l.length → Own fI 1 bl v acc →
    ∃ v' bl', r01_Rise_R0 ([(0, sl fI l), (3, v)], ⟨[], bl⟩) = some (.ret, [(2, v')], ⟨[], bl'⟩) ∧ Own fI 1 bl' v' (acc ++ riseN l n acc.getLast?) := by
  intro n
  induction n with
  | zero =>
    intro acc v bl hf hn hO
    have hB0 : Best acc.getLast? l 0 (-1) := .inl ⟨rfl, fun k hk h => by omega⟩
    obtain ⟨b, e, hB⟩ := rise_in l (by omega) acc v bl hO (by omega) l.length 0 (-1) (by omega) (by omega) hB0
    have hnil : l.filter (gtO acc.getLast?) = [] := List.eq_nil_of_length_eq_zero (by omega)
    rcases best_min hB with ⟨hb, _⟩ | ⟨j, hj, hb, h⟩
    · refine ⟨v, bl, ?_, by simpa [riseN] using hO⟩
      simp only [Int.natCast_zero] at e
      rw [r01_Rise_R0_eq]
      simp only [r01_Rise_B0, r01_Rise_K0_a, r01_Rise_L2_eq, hO.chkV, e, hb, zy, simprocAttr]
    · rw [hnil] at h; simp [minO] at h
  | succ n ih =>
    intro acc v bl hf hn hO
    have hB0 : Best acc.getLast? l 0 (-1) := .inl ⟨rfl, fun k hk h => by omega⟩
    obtain ⟨b, e, hB⟩ := rise_in l (by omega) acc v bl hO (by omega) l.length 0 (-1) (by omega) (by omega) hB0
    simp only [Int.natCast_zero] at e
    rcases best_min hB with ⟨hb, h⟩ | ⟨j, hj, hb, h⟩
    · refine ⟨v, bl, ?_, by simpa [riseN, h] using hO⟩
      rw [r01_Rise_R0_eq]
      simp only [r01_Rise_B0, r01_Rise_K0_a, r01_Rise_L2_eq, hO.chkV, e, hb, zy, simprocAttr]
    · subst hb
      have hlt := filter_gt h
      unfold Zc.small at hm
      obtain ⟨v1, bl1, e1, o1, _⟩ := hO.app1 flatI (bytes := 8) (zero := [.int .i64 0]) (by decide) rfl rfl l[j] (by omega)
      simp only [fI] at e1
      have hgl : (acc ++ [l[j]]).getLast? = some l[j] := by simp
      obtain ⟨v', bl', e2, o2⟩ := ih (acc ++ [l[j]]) v1 bl1 (by rw [hgl]; omega) (by simp; omega) o1
      rw [hgl] at o2
      have hja := iaddr_atI (k := .i64) hj
      have hb : ¬ ((j : Int) < 0) := by omega
      refine ⟨v', bl', ?_, by simpa only [riseN, h, List.append_assoc, List.cons_append, List.nil_append] using o2⟩
      rw [r01_Rise_R0_eq]
      simp only [r01_Rise_B0, r01_Rise_K0_a, r01_Rise_L2_eq, hO.chkV, e, hb, hja, e1, o1.chkV, e2, zy, simprocAttr]

theorem rise_F (l : List Int) (hm : l.length ≤ Zc.small) (st : Bool) (H : Heap) : r01_Rise_F st H [sl fI l] = some (sl fI (rise l), H) := by
  obtain ⟨v, bl, e, o⟩ := rise_loop l hm l.length [] .nils [] (List.length_filter_le _ _) (by simp) (Own.nil _ _ _)
  have hs := fun bx => snapI_own o bx st
  simp only [List.nil_append, List.getLast?_nil] at hs
  rw [r01_Rise_F_eq]
  simp only [r01_Rise_C, r01_Rise_L0_eq, e, hs, rise, zy, simprocAttr]

end Go.Proofs.Ytfblegjbmhgepaa.Zt
end
section
namespace Go.Proofs.Ytfblegjbmhgepaa.Zt
open Go Go.Zc
set_option maxRecDepth 10000

theorem iaddr_midVh (k : IntKind) (pre suf : List Vh) (x : Vh) : iaddrC 4 (sl fVh (pre ++ x :: suf)) (.int k pre.length) = some (.vp (.int .i64 x.id :: .int .i64 x.length :: .int .i64 x.ahead :: sl fE x.way :: suf.flatMap fVh)) := iaddr_mid flatVh k pre suf x
theorem iaddr_atVh {k : IntKind} {l : List Vh} {i : Nat} (h : i < l.length) : iaddrC 4 (sl fVh l) (.int k i) = some (.vp (.int .i64 l[i].id :: .int .i64 l[i].length :: .int .i64 l[i].ahead :: sl fE l[i].way :: (l.drop (i + 1)).flatMap fVh)) := iaddr_sl flatVh.len flatVh.pos h

theorem rfind_loop (id : Int) : ∀ (S P : List Vh), (P ++ S).length ≤ Zc.small →
    r18_find_R0 ([(0, sl fVh (P ++ S)), (1, .int .i64 id), (5, .int .i64 P.length)], ⟨[], []⟩) =
      match S.findIdx? fun v => decide (v.id = id) with
      | some i => some (.ret, [(4, .int .i64 ((P.length + i : Nat) : Int))], ⟨[], []⟩)
      | none => some (.norm, [], ⟨[], []⟩)
  | [], P, hm => by
    rw [r18_find_R0_eq]
    simp only [r18_find_B0, r18_find_K0_a, List.findIdx?_nil, zy, simprocAttr]
  | x :: S, P, hm => by
    have h1 : ((P.length : Int) < (P ++ x :: S).length) := by simp; omega
    have hw := wrapN (n := P.length) (by unfold Zc.small at *; simp at hm; omega)
    have hia := iaddr_midVh .i64 P S x
    have ih := rfind_loop id S (P ++ [x]) (by simpa using hm)
    rw [show (P ++ [x]) ++ S = P ++ x :: S by simp, show (P ++ [x]).length = P.length + 1 by simp] at ih
    rw [r18_find_R0_eq]
    by_cases hA : x.id = id
    · simp only [r18_find_B0, r18_find_K0_a, h1, hia, eq_true hA, List.findIdx?_cons, zy, simprocAttr]
    · simp only [r18_find_B0, r18_find_K0_a, h1, hia, eq_false hA, hw, ih, List.findIdx?_cons, zy, simprocAttr]
      cases S.findIdx? fun v => decide (v.id = id) with
      | none => simp
      | some i => simp; omega
def ixC (o : Option Nat) : CV := .int .i64 (match o with | some i => (i : Int) | none => -1)
theorem rfind_F (w : List Vh) (hm : w.length ≤ Zc.small) (id : Int) (st : Bool) (H : Heap) : r18_find_F st H [sl fVh w, .int .i64 id] = some (ixC (findW w id), H) := by
  have e := rfind_loop id w [] hm
  simp only [List.nil_append, List.length_nil, Int.natCast_zero, Nat.zero_add] at e
  rw [r18_find_F_eq]
  unfold findW
  cases h : w.findIdx? fun v => decide (v.id = id) with
  | none =>
    rw [h] at e
    simp only [r18_find_C, r18_find_L0_eq, e, ixC, zy, simprocAttr]
  | some i =>
    rw [h] at e
    simp only [r18_find_C, r18_find_L0_eq, e, ixC, zy, simprocAttr]

/-- Sections of a length that may be. -/
structure Lens (l : Lay) : Prop where
  ok : l.ok
  pos : 0 < l.secs.length
  few : l.secs.length ≤ 12
  lo : ∀ s, 0 ≤ lenAt l s
  hi : ∀ s, lenAt l s ≤ 1000
  one : ∀ s : Int, 0 ≤ s → s < l.secs.length → 1 ≤ lenAt l s
  back : ∀ x y, y ∈ around l x → x ∈ around l y
  apart : ∀ x y, y ∈ around l x → (around l x).find? (fun z => z.s == y.s) = some y
structure Vh.fits (v : Vh) : Prop where
  ahead : 0 ≤ v.ahead ∧ v.ahead ≤ 100000000
  length : 1 ≤ v.length ∧ v.length ≤ 100000000
  way : v.way.length ≤ 100000

theorem runder_loop (l : Lay) (hl : Lens l) (v : Vh) (hv : v.fits) : ∀ (S P : List Ed) (b : Int), v.way = P ++ S → 0 < b ∧ b ≤ 1000000000 →
    (r18_under_R0 ([(2, .op (.loc 2) 0), (3, .op (.loc 3) 0), (5, .int .i64 b), (6, .int .i64 P.length)], ⟨[(2, layC l), (3, fVh v)], []⟩) = some (.ret, [(4, .int .i64 ((P.length + underN l b S : Nat) : Int))], ⟨[(2, layC l), (3, fVh v)], []⟩)) ∨
    (r18_under_R0 ([(2, .op (.loc 2) 0), (3, .op (.loc 3) 0), (5, .int .i64 b), (6, .int .i64 P.length)], ⟨[(2, layC l), (3, fVh v)], []⟩) = some (.norm, [(3, .op (.loc 3) 0)], ⟨[(3, fVh v)], []⟩) ∧ underN l b S = S.length)
  | [], P, b, hP, hb => by
    right
    refine ⟨?_, rfl⟩
    have h1 : ¬ ((P.length : Int) < v.way.length) := by rw [hP]; simp
    rw [r18_under_R0_eq]
    simp only [r18_under_B0, r18_under_K0_a, fVh, h1, zy, simprocAttr]
  | x :: S, P, b, hP, hb => by
    have h1 : ((P.length : Int) < v.way.length) := by rw [hP]; simp; omega
    have hw := wrapN (n := P.length) (by have := hv.way; rw [hP] at this; unfold Zc.small; simp at this; omega)
    have hia := iaddr_midE .i64 P S x
    rw [← hP] at hia
    have hlo := hl.lo x.s
    have hhi := hl.hi x.s
    have hw2 : IntKind.i64.wrap (b - lenAt l x.s) = b - lenAt l x.s := wrap64 (by omega) (by omega)
    have hF := fun st H => len_F l x.s st H
    rw [r18_under_R0_eq]
    unfold underN
    by_cases hc : b - lenAt l x.s ≤ 0
    · left
      simp only [r18_under_B0, r18_under_K0_a, fVh, h1, hia, r05_Len_call, hF, hw2, hw, eq_true hc, zy, simprocAttr]
    · have hc' : 0 < b - lenAt l x.s := by omega
      have ih := runder_loop l hl v hv S (P ++ [x]) (b - lenAt l x.s) (by rw [hP]; simp) ⟨hc', by omega⟩
      rw [show (P ++ [x]).length = P.length + 1 by simp] at ih
      simp only [fVh] at ih
      rcases ih with ih | ⟨ih, ihn⟩
      · left
        simp only [r18_under_B0, r18_under_K0_a, fVh, h1, hia, r05_Len_call, hF, hw2, hw, eq_false hc, ih, zy, simprocAttr]
        rw [show P.length + 1 + underN l (b - lenAt l x.s) S = P.length + (underN l (b - lenAt l x.s) S + 1) by omega]
      · right
        refine ⟨?_, by rw [if_neg hc, ihn, List.length_cons]⟩
        simp only [r18_under_B0, r18_under_K0_a, fVh, h1, hia, r05_Len_call, hF, hw2, hw, eq_false hc, ih, zy, simprocAttr]
theorem runder_F (l : Lay) (hl : Lens l) (v : Vh) (hv : v.fits) (st : Bool) (H : Heap) :
    r18_under_F st H [.agg (layC l), .agg (fVh v)] = some (.int .i64 (underN l (v.ahead + v.length) v.way), H) := by
  have ha := hv.ahead
  have hle := hv.length
  have hw2 : IntKind.i64.wrap (v.ahead + v.length) = v.ahead + v.length := wrap64 (by omega) (by omega)
  have e := runder_loop l hl v hv v.way [] (v.ahead + v.length) rfl (by omega)
  simp only [List.nil_append, List.length_nil, Int.natCast_zero, Nat.zero_add, fVh] at e
  rw [r18_under_F_eq]
  rcases e with e | ⟨e, en⟩
  · simp only [r18_under_C, r18_under_L0_eq, fVh, hw2, e, zy, simprocAttr]
  · simp only [r18_under_C, r18_under_L0_eq, fVh, hw2, e, en, zy, simprocAttr]

theorem findW_some {w : List Vh} {id : Int} {i : Nat} (h : findW w id = some i) : ∃ hi : i < w.length, w[i].id = id := by
  unfold findW at h
  rw [List.findIdx?_eq_some_iff_getElem] at h
  obtain ⟨h1, h2, _⟩ := h
  exact ⟨h1, by simpa using h2⟩

theorem rUnder_loop (l : Lay) (hl : Lens l) (w : List Vh) (hm : w.length ≤ Zc.small) (i : Nat) (hi : i < w.length) (hv : w[i].fits) : ∀ (S P : List Ed) (c : CV) (bl : List Blk), underW l w[i] = P ++ S → Own fI 1 bl c (P.map Ed.s) →
    ∃ c' bl', r18_Under_R0 ([(1, sl fVh w), (3, .op (.loc 3) 0), (7, .int .i64 i), (8, c), (9, .int .i64 P.length)], ⟨[(3, layC l)], bl⟩) = some (.norm, [(8, c')], ⟨[], bl'⟩) ∧ Own fI 1 bl' c' (underL l w[i]) := by
  intro S
  have hn : (underW l w[i]).length = underN l (w[i].ahead + w[i].length) w[i].way := by
    unfold underW
    rw [List.length_take]
    have := underN_le l (w[i].ahead + w[i].length) w[i].way
    omega
  have hF := fun st H => runder_F l hl w[i] hv st H
  have hia := iaddr_atVh (k := .i64) hi
  have hway := hv.way
  have hnle := underN_le l (w[i].ahead + w[i].length) w[i].way
  simp only [fVh] at hF
  induction S with
  | nil =>
    intro P c bl hP hO
    refine ⟨c, bl, ?_, by unfold underL; rw [hP, List.append_nil]; exact hO⟩
    have h1 : ¬ ((P.length : Int) < (underN l (w[i].ahead + w[i].length) w[i].way : Nat)) := by rw [← hn, hP]; simp
    rw [r18_Under_R0_eq]
    simp only [r18_Under_B0, r18_Under_K0_a, hia, r18_under_call, hF, h1, hO.chkV, zy, simprocAttr]
  | cons x S ih =>
    intro P c bl hP hO
    have h1 : ((P.length : Int) < (underN l (w[i].ahead + w[i].length) w[i].way : Nat)) := by rw [← hn, hP]; simp; omega
    have hpl : P.length + 1 ≤ underN l (w[i].ahead + w[i].length) w[i].way := by rw [← hn, hP]; simp
    have hw := wrapN (n := P.length) (by unfold Zc.small; omega)
    have hxe : w[i].way = P ++ x :: (S ++ w[i].way.drop (underN l (w[i].ahead + w[i].length) w[i].way)) := by
      have := List.take_append_drop (underN l (w[i].ahead + w[i].length) w[i].way) w[i].way
      unfold underW at hP
      rw [hP] at this
      rw [List.append_assoc, List.cons_append] at this
      exact this.symm
    have hix := iaddr_midE .i64 P (S ++ w[i].way.drop (underN l (w[i].ahead + w[i].length) w[i].way)) x
    rw [← hxe] at hix
    obtain ⟨c1, bl1, e1, o1, _, _, _⟩ := hO.app1 flatI (bytes := 8) (zero := [.int .i64 0]) (by omega) rfl rfl x.s (by simp; omega)
    obtain ⟨c', bl', q1, q2⟩ := ih (P ++ [x]) c1 bl1 (by rw [hP]; simp) (by simpa using o1)
    rw [show (P ++ [x]).length = P.length + 1 by simp] at q1
    refine ⟨c', bl', ?_, q2⟩
    simp only [fI] at e1
    rw [r18_Under_R0_eq]
    simp only [r18_Under_B0, r18_Under_K0_a, hia, r18_under_call, hF, h1, hix, hw, e1, hO.chkV, o1.chkV, q1, zy, simprocAttr]

theorem snap_Iq (H : Heap) (st : Bool) (n : Nat) (x : Int) : ∀ c ∈ fI x, snapN H st false (n + 1) c = some c := by
  intro c hc
  simp only [fI, List.mem_singleton] at hc
  subst hc
  rfl
theorem rUnder_F (l : Lay) (hl : Lens l) (w : List Vh) (hm : w.length ≤ Zc.small) (hv : ∀ v ∈ w, v.fits) (id : Int) (st : Bool) (H : Heap) :
    r18_Under_F st H [.agg (layC l), sl fVh w, .int .i64 id] = some (sl fI (underV l w id), H) := by
  have hf := fun st H => rfind_F w hm id st H
  rw [r18_Under_F_eq]
  unfold underV
  cases h : findW w id with
  | none =>
    simp only [h, ixC] at hf
    have hsl : sl fI [] = .vs [] 0 := rfl
    simp only [r18_Under_C, r18_find_call, hf, hsl, zy, simprocAttr]
  | some i =>
    simp only [h, ixC] at hf
    obtain ⟨hi, _⟩ := findW_some h
    have h0 : ¬ ((i : Int) < 0) := by omega
    obtain ⟨c', bl', q1, q2⟩ := rUnder_loop l hl w hm i hi (hv _ (List.getElem_mem hi)) (underW l w[i]) [] .nils [] rfl (.inl ⟨rfl, rfl⟩)
    simp only [List.nil_append, List.length_nil, Int.natCast_zero] at q1
    have hs := fun bx st => q2.snapV flatI bx st (snapN ⟨bx, bl'⟩ st false 7) (snap_Iq _ st 6)
    simp only [List.getElem?_eq_getElem hi]
    simp only [r18_Under_C, r18_Under_L0_eq, r18_find_call, hf, h0, q1, hs, q2.chkV, q2.locv, zy, simprocAttr]

theorem rInside_loop (l : Lay) (hl : Lens l) (w : List Vh) (hm : w.length ≤ Zc.small) (hv : ∀ v ∈ w, v.fits) (s : Int) : ∀ (S P : List Vh), w = P ++ S →
    r18_Inside_R0 ([(1, sl fVh w), (2, .int .i64 s), (3, .op (.loc 3) 0), (7, .int .i64 P.length)], ⟨[(3, layC l)], []⟩) =
      if (S.any fun v => decide (s ∈ underV l w v.id)) = true then some (.ret, [(6, .bool true)], ⟨[(3, layC l)], []⟩) else some (.norm, [], ⟨[], []⟩) := by
  intro S
  induction S with
  | nil =>
    intro P hP
    have h1 : ¬ ((P.length : Int) < w.length) := by rw [hP]; simp
    rw [r18_Inside_R0_eq]
    simp only [r18_Inside_B0, r18_Inside_K0_a, h1, List.any_nil, zy, simprocAttr]
  | cons x S ih =>
    intro P hP
    have h1 : ((P.length : Int) < w.length) := by rw [hP]; simp; omega
    have hw := wrapN (n := P.length) (by rw [hP] at hm; unfold Zc.small at *; simp at hm; omega)
    have hia := iaddr_midVh .i64 P S x
    rw [← hP] at hia
    have hU := fun st H => rUnder_F l hl w hm hv x.id st H
    have hul : (underV l w x.id).length ≤ Zc.small := by
      unfold underV
      split
      · simp
      · rename_i i hi
        obtain ⟨hi', _⟩ := findW_some hi
        rw [List.getElem?_eq_getElem hi']
        have := (hv _ (List.getElem_mem hi')).way
        have := underN_le l (w[i].ahead + w[i].length) w[i].way
        simp only [underL, underW, List.length_map, List.length_take]
        unfold Zc.small; omega
    have hH := fun st H => has_F (underV l w x.id) s hul st H
    have ih' := ih (P ++ [x]) (by rw [hP]; simp)
    rw [show (P ++ [x]).length = P.length + 1 by simp] at ih'
    rw [r18_Inside_R0_eq]
    by_cases hA : s ∈ underV l w x.id
    · simp only [r18_Inside_B0, r18_Inside_K0_a, h1, hia, hw, r18_Under_call, hU, r01_Has_call, hH, List.any_cons, eq_true hA, zy, simprocAttr]
    · simp only [r18_Inside_B0, r18_Inside_K0_a, h1, hia, hw, r18_Under_call, hU, r01_Has_call, hH, List.any_cons, eq_false hA, ih', zy, simprocAttr]
theorem rInside_F (l : Lay) (hl : Lens l) (w : List Vh) (hm : w.length ≤ Zc.small) (hv : ∀ v ∈ w, v.fits) (s : Int) (st : Bool) (H : Heap) :
    r18_Inside_F st H [.agg (layC l), sl fVh w, .int .i64 s] = some (.bool (insideV l w s), H) := by
  have e := rInside_loop l hl w hm hv s w [] rfl
  simp only [List.nil_append, List.length_nil, Int.natCast_zero] at e
  rw [r18_Inside_F_eq]
  cases h : insideV l w s with
  | true =>
    rw [show (w.any fun v => decide (s ∈ underV l w v.id)) = true from h, if_pos rfl] at e
    simp only [r18_Inside_C, r18_Inside_L0_eq, e, zy, simprocAttr]
  | false =>
    rw [show (w.any fun v => decide (s ∈ underV l w v.id)) = false from h, if_neg (by decide)] at e
    simp only [r18_Inside_C, r18_Inside_L0_eq, e, zy, simprocAttr]
end Go.Proofs.Ytfblegjbmhgepaa.Zt
end
section
namespace Go.Proofs.Ytfblegjbmhgepaa.Zt
open Go Go.Zc
set_option maxRecDepth 10000

theorem underV_len {l : Lay} {w : List Vh} (hv : ∀ v ∈ w, v.fits) (id : Int) : (underV l w id).length ≤ 100000 := by
  unfold underV
  split
  · simp
  · rename_i i hi
    obtain ⟨hi', _⟩ := findW_some hi
    rw [List.getElem?_eq_getElem hi']
    have := (hv _ (List.getElem_mem hi')).way
    simp only [underL, underW, List.length_map, List.length_take]
    omega

theorem rIn_loop (l : Lay) (hl : l.ok) (p : Nat) (hp : p < l.parts.length) (u : List Int) (hu : u.length ≤ 100000) : ∀ (S P : List Int), u = P ++ S →
    r18_In_R0 ([(3, .int .i64 p), (4, .op (.loc 4) 0), (9, sl fI u), (10, .int .i64 P.length)], ⟨[(4, layC l)], []⟩) =
      if (S.any fun s => decide (s ∈ l.parts[p])) = true then some (.ret, [(8, .bool true)], ⟨[(4, layC l)], []⟩) else some (.norm, [], ⟨[], []⟩) := by
  intro S
  induction S with
  | nil =>
    intro P hP
    have h1 : ¬ ((P.length : Int) < u.length) := by rw [hP]; simp
    rw [r18_In_R0_eq]
    simp only [r18_In_B0, r18_In_K0_a, h1, List.any_nil, zy, simprocAttr]
  | cons x S ih =>
    intro P hP
    have h1 : ((P.length : Int) < u.length) := by rw [hP]; simp; omega
    have hw := wrapN (n := P.length) (by rw [hP] at hu; unfold Zc.small at *; simp at hu; omega)
    have hia := iaddr_midI .i64 P S x
    rw [← hP] at hia
    have hip := iaddr_atL (k := .i64) hp
    have hH := fun st H => has_F l.parts[p] x (hl.part _ (List.getElem_mem hp)) st H
    have ih' := ih (P ++ [x]) (by rw [hP]; simp)
    rw [show (P ++ [x]).length = P.length + 1 by simp] at ih'
    rw [r18_In_R0_eq]
    by_cases hA : x ∈ l.parts[p]
    · simp only [r18_In_B0, r18_In_K0_a, h1, hia, hip, hw, r01_Has_call, hH, List.any_cons, eq_true hA, zy, simprocAttr]
    · simp only [r18_In_B0, r18_In_K0_a, h1, hia, hip, hw, r01_Has_call, hH, List.any_cons, eq_false hA, ih', zy, simprocAttr]
theorem rIn_F (l : Lay) (hl : Lens l) (w : List Vh) (hm : w.length ≤ Zc.small) (hv : ∀ v ∈ w, v.fits) (id p : Int) (st : Bool) (H : Heap) :
    r18_In_F st H [.agg (layC l), sl fVh w, .int .i64 id, .int .i64 p] = some (.bool (inV l w id p), H) := by
  rw [r18_In_F_eq]
  unfold inV partAt
  by_cases h0 : 0 ≤ p
  · have h0' : ¬ p < 0 := by omega
    by_cases h1 : p < l.parts.length
    · obtain ⟨n, rfl⟩ := Int.eq_ofNat_of_zero_le h0
      have hn : n < l.parts.length := by omega
      have h1' : ¬ ((l.parts.length : Int) ≤ n) := by omega
      have hU := fun st H => rUnder_F l hl w hm hv id st H
      have e := rIn_loop l hl.ok n hn (underV l w id) (underV_len hv id) (underV l w id) [] rfl
      simp only [List.nil_append, List.length_nil, Int.natCast_zero] at e
      simp only [if_pos h0, Int.toNat_natCast, List.getElem?_eq_getElem hn]
      cases h : (underV l w id).any fun s => decide (s ∈ l.parts[n]) with
      | true =>
        rw [h, if_pos rfl] at e
        simp only [r18_In_C, r18_In_L0_eq, h0', h1', ge_iff_le, r18_Under_call, hU, e, zy, simprocAttr]
      | false =>
        rw [h, if_neg (by decide)] at e
        simp only [r18_In_C, r18_In_L0_eq, h0', h1', ge_iff_le, r18_Under_call, hU, e, zy, simprocAttr]
    · have h1' : (l.parts.length : Int) ≤ p := by omega
      have hnone : l.parts[p.toNat]? = none := List.getElem?_eq_none (by omega)
      simp only [if_pos h0, hnone]
      simp only [r18_In_C, h0', h1', ge_iff_le, zy, simprocAttr]
  · have h0' : p < 0 := by omega
    simp only [if_neg h0]
    simp only [r18_In_C, h0', zy, simprocAttr]

theorem rAll_loop (w : List Vh) (hm : w.length ≤ Zc.small) : ∀ (S P : List Vh) (c : CV) (bl : List Blk), w = P ++ S → Own fI 1 bl c (P.map Vh.id) →
    ∃ c' bl', r18_All_R0 ([(0, sl fVh w), (3, c), (4, .int .i64 P.length)], ⟨[], bl⟩) = some (.norm, [(3, c')], ⟨[], bl'⟩) ∧ Own fI 1 bl' c' (w.map Vh.id) := by
  intro S
  induction S with
  | nil =>
    intro P c bl hP hO
    have h1 : ¬ ((P.length : Int) < w.length) := by rw [hP]; simp
    refine ⟨c, bl, ?_, by rw [hP, List.append_nil]; exact hO⟩
    rw [r18_All_R0_eq]
    simp only [r18_All_B0, r18_All_K0_a, h1, hO.chkV, zy, simprocAttr]
  | cons x S ih =>
    intro P c bl hP hO
    have h1 : ((P.length : Int) < w.length) := by rw [hP]; simp; omega
    have hpl : P.length + 1 ≤ Zc.small := by rw [hP] at hm; simp at hm; omega
    have hw := wrapN (n := P.length) (by unfold Zc.small at *; omega)
    have hia := iaddr_midVh .i64 P S x
    rw [← hP] at hia
    obtain ⟨c1, bl1, e1, o1, _, _, _⟩ := hO.app1 flatI (bytes := 8) (zero := [.int .i64 0]) (by omega) rfl rfl x.id (by unfold Zc.small at *; simp; omega)
    obtain ⟨c', bl', q1, q2⟩ := ih (P ++ [x]) c1 bl1 (by rw [hP]; simp) (by simpa using o1)
    rw [show (P ++ [x]).length = P.length + 1 by simp] at q1
    refine ⟨c', bl', ?_, q2⟩
    simp only [fI] at e1
    rw [r18_All_R0_eq]
    simp only [r18_All_B0, r18_All_K0_a, h1, hia, hw, e1, hO.chkV, o1.chkV, q1, zy, simprocAttr]
theorem rAll_F (w : List Vh) (hm : w.length ≤ Zc.small) (H : Heap) : r18_All_F false H [sl fVh w] = some (sl fI (rise (w.map Vh.id)), H) := by
  obtain ⟨c', bl', q1, q2⟩ := rAll_loop w hm w [] .nils [] rfl (.inl ⟨rfl, rfl⟩)
  simp only [List.nil_append, List.length_nil, Int.natCast_zero] at q1
  have hs := fun bx st => q2.snapV flatI bx st (snapN ⟨bx, bl'⟩ st false 7) (snap_Iq _ st 6)
  have hR := fun st H => rise_F (w.map Vh.id) (by simpa using hm) st H
  rw [r18_All_F_eq]
  simp only [r18_All_C, r18_All_L0_eq, q1, hs, r01_Rise_call, hR, q2.chkV, q2.locv, zy, simprocAttr]

/-! ### Plays -/
structure Pl where
  l : Lay
  w : List Vh
  split : Nat → Bool
  up : Nat → Int
  right : List Bool
def playR (p : Pl) (wv q r : CV) : List CV := [sl fZ p.l.nodes, sl fS p.l.secs, sl fL p.l.parts, sl fP p.l.pts, sl fL p.l.routes, .int .i64 p.l.speed, .int .i64 p.l.mute, .int .i64 p.l.wait, .int .i64 p.l.cancel, .int .i64 p.l.stay, wv,
  .bool (p.split 0), .bool (p.split 1), .bool (p.split 2), .bool (p.split 3), .bool (p.split 4), .bool (p.split 5), .int .i64 (p.up 0), .int .i64 (p.up 1), .int .i64 (p.up 2), .int .i64 (p.up 3), .int .i64 (p.up 4), .int .i64 (p.up 5), q, r]
abbrev playC (p : Pl) (wv q : CV) : List CV := playR p wv q (sl fB p.right)
theorem play_l (p : Pl) (wv q r : CV) : takeN 10 (playR p wv q r) = some (layC p.l) := rfl
theorem play_w (p : Pl) (wv q r : CV) : headO (List.drop 10 (playR p wv q r)) = some wv := rfl
theorem play_secs (p : Pl) (wv q r : CV) : headO (List.drop 1 (playR p wv q r)) = some (sl fS p.l.secs) := rfl
theorem play_parts (p : Pl) (wv q r : CV) : headO (List.drop 2 (playR p wv q r)) = some (sl fL p.l.parts) := rfl
theorem play_pts (p : Pl) (wv q r : CV) : headO (List.drop 3 (playR p wv q r)) = some (sl fP p.l.pts) := rfl
theorem play_speed (p : Pl) (wv q r : CV) : headO (List.drop 5 (playR p wv q r)) = some (.int .i64 p.l.speed) := rfl
theorem play_right (p : Pl) (wv q r : CV) : headO (List.drop 24 (playR p wv q r)) = some r := rfl
theorem play_up (p : Pl) (wv q r : CV) {i : Nat} (h : i < 6) : headO (List.drop (17 + i) (playR p wv q r)) = some (.int .i64 (p.up i)) := by
  have : i = 0 ∨ i = 1 ∨ i = 2 ∨ i = 3 ∨ i = 4 ∨ i = 5 := by omega
  rcases this with rfl | rfl | rfl | rfl | rfl | rfl <;> rfl
/-- Another slot. -/
def Pl.setUp (p : Pl) (i : Nat) (n : Int) : Pl := { p with up := fun k => if k = i then n else p.up k }
def Pl.setSplit (p : Pl) (i : Nat) (b : Bool) : Pl := { p with split := fun k => if k = i then b else p.split k }
theorem play_setUp (p : Pl) (wv q r : CV) {i : Nat} (h : i < 6) (n : Int) : (playR p wv q r).set (17 + i) (.int .i64 n) = playR (p.setUp i n) wv q r := by
  have : i = 0 ∨ i = 1 ∨ i = 2 ∨ i = 3 ∨ i = 4 ∨ i = 5 := by omega
  rcases this with rfl | rfl | rfl | rfl | rfl | rfl <;> rfl
theorem play_setSplit (p : Pl) (wv q r : CV) {i : Nat} (h : i < 6) (b : Bool) : (playR p wv q r).set (11 + i) (.bool b) = playR (p.setSplit i b) wv q r := by
  have : i = 0 ∨ i = 1 ∨ i = 2 ∨ i = 3 ∨ i = 4 ∨ i = 5 := by omega
  rcases this with rfl | rfl | rfl | rfl | rfl | rfl <;> rfl
theorem play_setW (p : Pl) (wv q r : CV) (w : List Vh) : (playR p wv q r).set 10 (sl fVh w) = playR { p with w := w } (sl fVh w) q r := rfl
theorem play_snap (p : Pl) (wv : CV) (h : Fz fVh wv p.w) (H : Heap) (n : Nat) : mapC (snapN H false false (n + 1)) (playC p wv .nils) = some (playC p (sl fVh p.w) (.vs [] 0)) := by
  rcases h with rfl | ⟨rfl, h⟩
  · rfl
  · rw [h]; rfl
theorem play_len (p : Pl) (wv q r : CV) : (playR p wv q r).length = 25 := rfl
theorem st_play (bx : List (Nat × List CV)) (B : List Blk) (a : Nat) (p p' : Pl) (wv wv' q r : CV) (k : Nat) (x : CV) (hk : k < 25) (hc : x.cells = [x]) (h1 : x.one = true) (h2 : x.locv = false) (h : (playR p wv q r).set k x = playR p' wv' q r) :
    stE 1 k x ⟨bx, B.set a (.cells (playR p wv q r))⟩ (.blk a) (playR p wv q r) = some ⟨bx, B.set a (.cells (playR p' wv' q r))⟩ := by
  rw [st_cell bx _ a k x (playR p wv q r) hc h1 h2 hk, h, List.set_set]

def freeN (ids : List Int) : Nat → Nat → Option Nat
  | 0, _ => none
  | n + 1, k => if (k : Int) ∈ ids then freeN ids n (k + 1) else some k
theorem rfree_loop (p : Pl) (hm : p.w.length ≤ Zc.small) (q : CV) : ∀ (n k : Nat), k + n = 6 →
    r18_free_R0 ([(0, .vp (playC p (sl fVh p.w) q)), (3, .int .i64 k)], ⟨[], []⟩) = match freeN (rise (p.w.map Vh.id)) n k with
      | some i => some (.ret, [(2, .int .i64 i)], ⟨[], []⟩)
      | none => some (.norm, [], ⟨[], []⟩)
  | 0, k, hk => by
    have h1 : ¬ ((k : Int) < 6) := by omega
    rw [r18_free_R0_eq]
    simp only [r18_free_B0, r18_free_K0_a, h1, freeN, zy, simprocAttr]
  | n + 1, k, hk => by
    have h1 : ((k : Int) < 6) := by omega
    have hw := wrapN (n := k) (by unfold Zc.small; omega)
    have ih := rfree_loop p hm q n (k + 1) (by omega)
    have hA := fun H => rAll_F p.w hm H
    have hr : (rise (p.w.map Vh.id)).length ≤ Zc.small := by
      have := nodup_le (rise_nodup (p.w.map Vh.id)) (b := p.w.map Vh.id) fun y hy => (rise_mem _ y).1 hy
      simp only [List.length_map] at this
      omega
    have hH := fun st H => has_F (rise (p.w.map Vh.id)) k hr st H
    have hpw : faddrC 10 (.vp (playC p (sl fVh p.w) q)) = some (.vp (List.drop 10 (playC p (sl fVh p.w) q))) := rfl
    have hld : ∀ H, loadC false 1 H (.vp (List.drop 10 (playC p (sl fVh p.w) q))) = some (sl fVh p.w) := fun _ => rfl
    have hn : nchkC (.vp (playC p (sl fVh p.w) q)) = some (.vp (playC p (sl fVh p.w) q)) := rfl
    rw [r18_free_R0_eq]
    unfold freeN
    by_cases hc : (k : Int) ∈ rise (p.w.map Vh.id)
    · simp only [r18_free_B0, r18_free_K0_a, h1, hw, hn, hpw, hld, r18_All_call, hA, r01_Has_call, hH, eq_true hc, ih, zy, simprocAttr]
    · simp only [r18_free_B0, r18_free_K0_a, h1, hw, hn, hpw, hld, r18_All_call, hA, r01_Has_call, hH, eq_false hc, ih, zy, simprocAttr]
theorem rfree_F (p : Pl) (hm : p.w.length ≤ Zc.small) (q : CV) (st : Bool) (H : Heap) : r18_free_F st H [.vp (playC p (sl fVh p.w) q)] = some (ixC (freeN (rise (p.w.map Vh.id)) 6 0), H) := by
  have e := rfree_loop p hm q 6 0 rfl
  simp only [Int.natCast_zero] at e
  rw [r18_free_F_eq]
  cases h : freeN (rise (p.w.map Vh.id)) 6 0 with
  | none =>
    rw [h] at e
    simp only [r18_free_C, r18_free_L0_eq, e, ixC, zy, simprocAttr]
  | some i =>
    rw [h] at e
    simp only [r18_free_C, r18_free_L0_eq, e, ixC, zy, simprocAttr]

/-! ### Small -/
theorem rsmall_loop0 (s : Story) (hm : s.cars.length ≤ maxLen) : ∀ (S P : List Car), s.cars = P ++ S →
    r18_Small_R0 ([(1, .op (.loc 1) 0), (3, .int .i64 P.length)], ⟨[(1, storyC s)], []⟩) =
      if (S.all fun c => decide (c.turns.length ≤ 12)) = true then some (.norm, [(1, .op (.loc 1) 0)], ⟨[(1, storyC s)], []⟩) else some (.ret, [(2, .bool false)], ⟨[(1, storyC s)], []⟩) := by
  intro S
  induction S with
  | nil =>
    intro P hP
    have h1 : ¬ ((P.length : Int) < s.cars.length) := by rw [hP]; simp
    rw [r18_Small_R0_eq]
    simp only [r18_Small_B0, r18_Small_K0_a, h1, List.all_nil, zy, simprocAttr]
  | cons x S ih =>
    intro P hP
    have h1 : ((P.length : Int) < s.cars.length) := by rw [hP]; simp; omega
    have hw := wrapM (n := P.length) (by rw [hP] at hm; unfold maxLen at hm; simp at hm; omega)
    have hia := iaddr_midCar .i64 P S x
    rw [← hP] at hia
    have ih' := ih (P ++ [x]) (by rw [hP]; simp)
    rw [show (P ++ [x]).length = P.length + 1 by simp] at ih'
    rw [r18_Small_R0_eq]
    by_cases hA : x.turns.length ≤ 12
    · have hA' : ¬ ((12 : Int) < x.turns.length) := by omega
      simp only [r18_Small_B0, r18_Small_K0_a, h1, hia, hw, hA', List.all_cons, eq_true hA, ih', zy, simprocAttr]
    · have hA' : ((12 : Int) < x.turns.length) := by omega
      simp only [r18_Small_B0, r18_Small_K0_a, h1, hia, hw, hA', List.all_cons, eq_false hA, zy, simprocAttr]
theorem rsmall_loop2 (s : Story) (hm : s.ticks.length ≤ maxLen) : ∀ (S P : List Tick), s.ticks = P ++ S →
    r18_Small_R2 ([(1, .op (.loc 1) 0), (4, .int .i64 P.length)], ⟨[(1, storyC s)], []⟩) =
      if (S.all fun c => decide (c.go.length ≤ 8)) = true then some (.norm, [(1, .op (.loc 1) 0)], ⟨[(1, storyC s)], []⟩) else some (.ret, [(2, .bool false)], ⟨[(1, storyC s)], []⟩) := by
  intro S
  induction S with
  | nil =>
    intro P hP
    have h1 : ¬ ((P.length : Int) < s.ticks.length) := by rw [hP]; simp
    rw [r18_Small_R2_eq]
    simp only [r18_Small_B2, r18_Small_K2_a, h1, List.all_nil, zy, simprocAttr]
  | cons x S ih =>
    intro P hP
    have h1 : ((P.length : Int) < s.ticks.length) := by rw [hP]; simp; omega
    have hw := wrapM (n := P.length) (by rw [hP] at hm; unfold maxLen at hm; simp at hm; omega)
    have hia := iaddr_midTick .i64 P S x
    rw [← hP] at hia
    have ih' := ih (P ++ [x]) (by rw [hP]; simp)
    rw [show (P ++ [x]).length = P.length + 1 by simp] at ih'
    rw [r18_Small_R2_eq]
    by_cases hA : x.go.length ≤ 8
    · have hA' : ¬ ((8 : Int) < x.go.length) := by omega
      simp only [r18_Small_B2, r18_Small_K2_a, h1, hia, hw, hA', List.all_cons, eq_true hA, ih', zy, simprocAttr]
    · have hA' : ((8 : Int) < x.go.length) := by omega
      simp only [r18_Small_B2, r18_Small_K2_a, h1, hia, hw, hA', List.all_cons, eq_false hA, zy, simprocAttr]
theorem rsmall_F (s : Story) (hs : s.ok) (st : Bool) (H : Heap) : r18_Small_F st H [.agg (storyC s)] = some (.bool s.small, H) := by
  have e0 := rsmall_loop0 s hs.cars s.cars [] rfl
  have e2 := rsmall_loop2 s hs.ticks s.ticks [] rfl
  have hD := fun st H => small_F s.d hs.d st H
  simp only [List.nil_append, List.length_nil, Int.natCast_zero] at e0 e2
  rw [r18_Small_F_eq]
  unfold Story.small
  cases h0 : s.cars.all fun c => decide (c.turns.length ≤ 12) with
  | false =>
    rw [h0, if_neg (by decide)] at e0
    simp only [r18_Small_C, r18_Small_L0_eq, e0, zy, simprocAttr]
  | true =>
    rw [h0, if_pos rfl] at e0
    cases h2 : s.ticks.all fun c => decide (c.go.length ≤ 8) with
    | false =>
      rw [h2, if_neg (by decide)] at e2
      simp only [r18_Small_C, r18_Small_L0_eq, r18_Small_L2_eq, e0, e2, zy, simprocAttr]
    | true =>
      rw [h2, if_pos rfl] at e2
      cases h3 : s.d.small with
      | false =>
        simp only [h3] at hD
        simp only [r18_Small_C, r18_Small_L0_eq, r18_Small_L2_eq, e0, e2, r04_Small_call, hD, zy, simprocAttr]
      | true =>
        simp only [h3] at hD
        by_cases h4 : s.cars.length ≤ 6
        · have h4' : ((s.cars.length : Int) ≤ 6) := by omega
          by_cases h5 : s.ticks.length ≤ 120
          · have h5' : ((s.ticks.length : Int) ≤ 120) := by omega
            simp only [r18_Small_C, r18_Small_L0_eq, r18_Small_L2_eq, e0, e2, r04_Small_call, hD, h4, h4', h5, h5', zy, simprocAttr]
          · have h5' : ¬ ((s.ticks.length : Int) ≤ 120) := by omega
            simp only [r18_Small_C, r18_Small_L0_eq, r18_Small_L2_eq, e0, e2, r04_Small_call, hD, h4, h4', h5, h5', zy, simprocAttr]
        · have h4' : ¬ ((s.cars.length : Int) ≤ 6) := by omega
          simp only [r18_Small_C, r18_Small_L0_eq, r18_Small_L2_eq, e0, e2, r04_Small_call, hD, h4, h4', zy, simprocAttr]
end Go.Proofs.Ytfblegjbmhgepaa.Zt
end
section
namespace Go.Proofs.Ytfblegjbmhgepaa.Zt
open Go Go.Zc
set_option maxRecDepth 10000

theorem rfits_len (l : Lay) (m : Msg) (hm : m.trail.length ≤ 12) : ∀ (s p : List Int), p ++ s = m.trail →
    r10_Fits_R0 ([(2, .op (.loc 2) 0), (3, .op (.loc 3) 0), (5, .int .i64 m.trail.length), (6, .int .i64 p.length)], ⟨[(2, layC l), (3, msgC m)], []⟩) =
      if (s.all fun x => decide (lenAt l x ≠ 0)) = true then some (.norm, [(2, .op (.loc 2) 0), (3, .op (.loc 3) 0), (5, .int .i64 m.trail.length)], ⟨[(2, layC l), (3, msgC m)], []⟩) else some (.ret, [(4, .bool false)], ⟨[(2, layC l), (3, msgC m)], []⟩)
  | [], p, hp => by
    have h1 : ¬ ((p.length : Int) < m.trail.length) := by rw [← hp]; simp
    rw [r10_Fits_R0_eq]
    simp only [r10_Fits_B0, r10_Fits_K0_a, h1, zy, simprocAttr]
  | x :: s, p, hp => by
    have hpl : p.length + 1 + s.length = m.trail.length := by rw [← hp]; simp; omega
    have h1 : ((p.length : Int) < m.trail.length) := by omega
    have hw := wrapM (n := p.length) (by omega)
    have hi : iaddrC 1 (sl fI m.trail) (.int .i64 p.length) = some (.vp (.int .i64 x :: s.flatMap fI)) := by rw [← hp]; exact iaddr_midI _ p s x
    have ih := rfits_len l m hm s (p ++ [x]) (by simpa using hp)
    rw [show (p ++ [x]).length = p.length + 1 by simp] at ih
    rw [r10_Fits_R0_eq]
    by_cases h2 : lenAt l x = 0
    · simp only [r10_Fits_B0, r10_Fits_K0_a, h1, hi, r05_Len_call, len_F, eq_true h2, zy, simprocAttr]
    · simp only [r10_Fits_B0, r10_Fits_K0_a, h1, hi, r05_Len_call, len_F, eq_false h2, hw, ih, zy, simprocAttr]

theorem rfits_in (n : Int) (bx0 : List CV) (bx1 : List CV) (e : Ed) (m : Msg) (l : Lay) (i N : Nat) (x : List Ed) (hx : x.length ≤ 2 * Zc.small) (hi : iaddrC 1 (sl fI m.trail) (.int .i64 i) = some (.vp (.int .i64 n :: bx0))) : ∀ (s p : List Ed), p ++ s = x → (∀ y ∈ p, y.s ≠ n) →
    ∃ k : Nat, r10_Fits_R4 ([(2, .op (.loc 2) 0), (3, .op (.loc 3) 0), (5, .int .i64 N), (7, .op (.loc 7) 0), (8, .int .i64 i), (9, sl fE x), (10, .int .i64 p.length)], ⟨[(2, layC l), (3, msgC m), (7, fE e)], []⟩) =
      some (.norm, [(2, .op (.loc 2) 0), (3, .op (.loc 3) 0), (5, .int .i64 N), (7, .op (.loc 7) 0), (8, .int .i64 i), (9, sl fE x), (10, .int .i64 k)], ⟨[(2, layC l), (3, msgC m), (7, fE e)], []⟩) ∧
      ((k = x.length ∧ x.find? (fun y => y.s == n) = none) ∨ ∃ h : k < x.length, x.find? (fun y => y.s == n) = some x[k])
  | [], p, hp, hn => by
    have h1 : ¬ ((p.length : Int) < x.length) := by rw [← hp]; simp
    refine ⟨p.length, ?_, .inl ⟨by rw [← hp]; simp, ?_⟩⟩
    · rw [r10_Fits_R4_eq]
      simp only [r10_Fits_B4, r10_Fits_K4_a, fE, h1, zy, simprocAttr]
    · rw [List.find?_eq_none]
      intro y hy
      rw [← hp, List.append_nil] at hy
      simpa using hn y hy
  | y :: s, p, hp, hn => by
    have hpl : p.length + 1 + s.length = x.length := by rw [← hp]; simp; omega
    have h1 : ((p.length : Int) < x.length) := by omega
    have hw := wrapN (n := p.length) (by omega)
    have hia : iaddrC 2 (sl fE x) (.int .i64 p.length) = some (.vp (.int .i64 y.s :: .int .i64 y.e :: s.flatMap fE)) := by rw [← hp]; exact iaddr_midE _ p s y
    by_cases hy : y.s = n
    · refine ⟨p.length, ?_, .inr ⟨by omega, ?_⟩⟩
      · rw [r10_Fits_R4_eq]
        simp only [r10_Fits_B4, r10_Fits_K4_a, fE, h1, hia, hi, eq_true hy, zy, simprocAttr]
      · rw [List.find?_eq_some_iff_getElem]
        have hk : x[p.length]'(by omega) = y := by simp [← hp]
        rw [hk]
        refine ⟨by simp [hy], p.length, by omega, hk, fun j hj => ?_⟩
        have : x[j]'(by omega) ∈ p := by
          have : x[j]'(by omega) = p[j] := by simp [← hp, List.getElem_append_left, hj]
          rw [this]; exact List.getElem_mem hj
        simpa using hn _ this
    · obtain ⟨k, e1, e2⟩ := rfits_in n bx0 bx1 e m l i N x hx hi s (p ++ [y]) (by simpa using hp) (by
        intro z hz
        rcases List.mem_append.1 hz with h | h
        · exact hn z h
        · simp only [List.mem_singleton] at h; subst h; exact hy)
      rw [show (p ++ [y]).length = p.length + 1 by simp] at e1
      simp only [fE] at e1
      refine ⟨k, ?_, e2⟩
      rw [r10_Fits_R4_eq]
      simp only [r10_Fits_B4, r10_Fits_K4_a, fE, h1, hia, hi, eq_false hy, hw, e1, zy, simprocAttr]

set_option maxHeartbeats 1000000 in
theorem rfits_loop (l : Lay) (hl : l.ok) (m : Msg) (hm : m.trail.length ≤ 12) : ∀ (s p : List Int) (e : Ed), p ++ s = m.trail →
    ∃ bx', r10_Fits_R2 ([(2, .op (.loc 2) 0), (3, .op (.loc 3) 0), (5, .int .i64 m.trail.length), (7, .op (.loc 7) 0), (8, .int .i64 p.length)], ⟨[(2, layC l), (3, msgC m), (7, fE e)], []⟩) =
      if follows l e s = true then some (.norm, [], ⟨[], []⟩) else some (.ret, [(4, .bool false)], ⟨bx', []⟩)
  | [], p, e, hp => by
    have h1 : ¬ ((p.length : Int) < m.trail.length) := by rw [← hp]; simp
    refine ⟨[], ?_⟩
    rw [r10_Fits_R2_eq]
    simp only [r10_Fits_B2, r10_Fits_K2_a, fE, h1, follows, zy, simprocAttr]
  | x :: s, p, e, hp => by
    have hpl : p.length + 1 + s.length = m.trail.length := by rw [← hp]; simp; omega
    have h1 : ((p.length : Int) < m.trail.length) := by omega
    have hw := wrapM (n := p.length) (by omega)
    have hi : iaddrC 1 (sl fI m.trail) (.int .i64 p.length) = some (.vp (.int .i64 x :: s.flatMap fI)) := by rw [← hp]; exact iaddr_midI _ p s x
    have haF := fun H => around_F l hl e H
    simp only [fE] at haF
    obtain ⟨k, e1, e2⟩ := rfits_in x (s.flatMap fI) [] e m l p.length m.trail.length (around l e) (around_len2 l e) hi (around l e) [] rfl (by simp)
    simp only [fE, List.nil_append, List.length_nil, Int.natCast_zero] at e1
    rcases e2 with ⟨hk, hf⟩ | ⟨hk, hf⟩
    · have hfo : follows l e (x :: s) = false := by simp only [follows, hf]
      have hk' : ((k : Int) = (around l e).length) := by omega
      rw [hfo, r10_Fits_R2_eq]
      simp only [r10_Fits_B2, r10_Fits_K2_a, r10_Fits_L4_eq, fE, h1, r05_Around_call, haF, e1, eq_true hk', zy, simprocAttr]
      exact ⟨_, rfl⟩
    · obtain ⟨y, hy⟩ : ∃ y, (around l e)[k] = y := ⟨_, rfl⟩
      rw [hy] at hf
      have hya := around_in (l := l) (x := e) (y := y) (by rw [← hy]; exact List.getElem_mem hk)
      have hw3 : IntKind.i64.wrap (1 - y.e) = 1 - y.e := wrap64 (by omega) (by omega)
      have hia := iaddr_atE (k := .i64) hk
      rw [hy] at hia
      have hk' : ¬ ((k : Int) = (around l e).length) := by omega
      have hfo : follows l e (x :: s) = follows l ⟨x, 1 - y.e⟩ s := by simp only [follows, hf]
      obtain ⟨bx', e3⟩ := rfits_loop l hl m hm s (p ++ [x]) ⟨x, 1 - y.e⟩ (by simpa using hp)
      rw [show (p ++ [x]).length = p.length + 1 by simp] at e3
      simp only [fE] at e3
      refine ⟨bx', ?_⟩
      rw [hfo, r10_Fits_R2_eq]
      simp only [r10_Fits_B2, r10_Fits_K2_a, r10_Fits_L4_eq, fE, h1, r05_Around_call, haF, e1, eq_false hk', hi, hia, hw, hw3, e3, zy, simprocAttr]

theorem unl_of (l : Lay) (t : List Int) : unlFrom l [] t = (decide ((rise t).length = t.length) && t.all fun x => decide (lenAt l x ≠ 0)) := by
  rw [Bool.eq_iff_iff, unlFrom_iff, Bool.and_eq_true, decide_eq_true_eq, rise_len, List.all_eq_true]
  simp

set_option maxHeartbeats 1000000 in
theorem rfits_F (l : Lay) (hl : l.ok) (m : Msg) (hmm : m.trail.length ≤ Zc.small) (st : Bool) (H : Heap) : r10_Fits_F st H [.agg (layC l), .agg (msgC m)] = some (.bool (fits l m), H) := by
  rw [r10_Fits_F_eq]
  obtain ⟨kind, train, time, dir, ahead, whole, trail⟩ := m
  cases trail with
  | nil => simp only [r10_Fits_C, fits, Int.natCast_zero, zy, simprocAttr]
  | cons h t =>
    have h1 : ¬ (((t.length + 1 : Nat) : Int) < 1) := by omega
    by_cases h2 : t.length + 1 ≤ 12
    · have h2' : ¬ (12 : Int) < ((t.length + 1 : Nat) : Int) := by omega
      by_cases h4 : dir < 0
      · have h4' : ¬ 0 ≤ dir := by omega
        simp only [r10_Fits_C, fits, h1, h2', h4, h4', zy, simprocAttr]
      · have h4' : 0 ≤ dir := by omega
        by_cases h5 : 1 < dir
        · have h5' : ¬ dir ≤ 1 := by omega
          simp only [r10_Fits_C, fits, h1, h2', h4, h5, h5', zy, simprocAttr]
        · have h5' : dir ≤ 1 := by omega
          by_cases h6 : ahead < 0
          · have h6' : ¬ 0 ≤ ahead := by omega
            simp only [r10_Fits_C, fits, h1, h2', h4, h5, h6, h6', zy, simprocAttr]
          · have h6' : 0 ≤ ahead := by omega
            have hr := fun st H => rise_F (h :: t) hmm st H
            by_cases h3 : (rise (h :: t)).length = t.length + 1
            · have h3' : ((rise (h :: t)).length : Int) = ((t.length + 1 : Nat) : Int) := by omega
              have e0 := rfits_len l ⟨kind, train, time, dir, ahead, whole, h :: t⟩ (by simpa using h2) (h :: t) [] rfl
              simp only [List.length_nil, List.length_cons, Int.natCast_zero] at e0
              cases h9 : ((h :: t).all fun x => decide (lenAt l x ≠ 0)) with
              | false =>
                have hu : unlFrom l [] (h :: t) = false := by rw [unl_of, h9, Bool.and_false]
                rw [h9, if_neg (by decide)] at e0
                simp only [r10_Fits_C, r10_Fits_L0_eq, fits, h1, h2', h4, h5, h6, r01_Rise_call, hr, eq_true h3', hu, e0, zy, simprocAttr]
              | true =>
                have hu : unlFrom l [] (h :: t) = true := by rw [unl_of, h9, Bool.and_true]; simpa using h3
                rw [h9, if_pos rfl] at e0
                by_cases h7 : lenAt l h < ahead
                · have h7' : ¬ ahead ≤ lenAt l h := by omega
                  simp only [r10_Fits_C, r10_Fits_L0_eq, fits, h1, h2', h4, h5, h6, r01_Rise_call, hr, eq_true h3', hu, e0, iaddr_0I, r05_Len_call, len_F, h7, h7', zy, simprocAttr]
                · have h7' : ahead ≤ lenAt l h := by omega
                  have hw : IntKind.i64.wrap (1 - dir) = 1 - dir := wrap64 (by omega) (by omega)
                  obtain ⟨bx', e⟩ := rfits_loop l hl ⟨kind, train, time, dir, ahead, whole, h :: t⟩ (by simpa using h2) t [h] ⟨h, 1 - dir⟩ rfl
                  simp only [fE, List.length_cons, List.length_nil, Nat.zero_add, Int.natCast_one] at e
                  cases h8 : follows l ⟨h, 1 - dir⟩ t with
                  | true =>
                    rw [h8, if_pos rfl] at e
                    simp only [r10_Fits_C, r10_Fits_L0_eq, r10_Fits_L2_eq, fits, h1, h2, h2', h4, h4', h5, h5', h6, h6', r01_Rise_call, hr, eq_true h3', hu, e0, iaddr_0I, r05_Len_call, len_F, h7, h7', h8, hw, e, zy, simprocAttr]
                  | false =>
                    rw [h8, if_neg (by decide)] at e
                    simp only [r10_Fits_C, r10_Fits_L0_eq, r10_Fits_L2_eq, fits, h1, h2, h2', h4, h4', h5, h5', h6, h6', r01_Rise_call, hr, eq_true h3', hu, e0, iaddr_0I, r05_Len_call, len_F, h7, h7', h8, hw, e, zy, simprocAttr]
            · have h3' : ¬ ((rise (h :: t)).length : Int) = ((t.length + 1 : Nat) : Int) := by omega
              have hu : unlFrom l [] (h :: t) = false := by rw [unl_of, Bool.and_eq_false_iff]; left; simpa using h3
              simp only [r10_Fits_C, fits, h1, h2', h4, h5, h6, r01_Rise_call, hr, eq_false h3', hu, zy, simprocAttr]
    · have h2' : (12 : Int) < ((t.length + 1 : Nat) : Int) := by omega
      simp only [r10_Fits_C, fits, h1, h2, h2', zy, simprocAttr]
end Go.Proofs.Ytfblegjbmhgepaa.Zt
end
section
namespace Go.Proofs.Ytfblegjbmhgepaa.Zt
open Go Go.Zc
set_option maxRecDepth 10000

theorem shows_E (H : Heap) (x : Ed) : ∀ c ∈ fE x, ∀ n, snapN H false false (n + 1) c = some c := by
  intro c hc n
  simp only [fE, List.mem_cons, List.not_mem_nil, or_false] at hc
  rcases hc with rfl | rfl <;> rfl
theorem shows_Vh (bl : List Blk) (v : Vh) : ShowsL bl (fVh v) (fVh v) := ⟨shows_int _ _ _, shows_int _ _ _, shows_int _ _ _, shows_sl _ _ _, trivial⟩
theorem shows_Vhs (bl : List Blk) (w : List Vh) : ShowsL bl (w.flatMap fVh) (w.flatMap fVh) := shows_rows (shows_Vh bl) w

section
variable (l : Lay) (hl : Lens l) (w : List Vh) (id length ahead dir : Int) (trail : List Int) (ht : trail.length ≤ 12)
include hl ht
theorem radd_loop0 : ∀ (S P : List Int) (r : Int), trail = P ++ S → -1000000000 ≤ r → r ≤ 1000000000 + 1000 * P.length →
    r18_Add_R0 ([(1, sl fVh w), (2, .int .i64 id), (3, .int .i64 length), (4, .int .i64 ahead), (5, .int .i64 dir), (6, sl fI trail), (7, .op (.loc 7) 0), (16, .int .i64 r), (17, .int .i64 P.length)], ⟨[(7, layC l)], []⟩) =
      some (.norm, [(1, sl fVh w), (2, .int .i64 id), (3, .int .i64 length), (4, .int .i64 ahead), (5, .int .i64 dir), (6, sl fI trail), (7, .op (.loc 7) 0), (16, .int .i64 (r + sumL l S))], ⟨[(7, layC l)], []⟩) := by
  intro S
  induction S with
  | nil =>
    intro P r hP _ _
    have h1 : ¬ ((P.length : Int) < trail.length) := by rw [hP]; simp
    rw [r18_Add_R0_eq]
    simp only [r18_Add_B0, r18_Add_K0_a, h1, sumL, Int.add_zero, zy, simprocAttr]
  | cons x S ih =>
    intro P r hP hr hr2
    have hpl : P.length + 1 ≤ 12 := by rw [hP] at ht; simp at ht; omega
    have h1 : ((P.length : Int) < trail.length) := by rw [hP]; simp; omega
    have hw := wrapN (n := P.length) (by unfold Zc.small; omega)
    have hia := iaddr_midI .i64 P S x
    rw [← hP] at hia
    have hlo := hl.lo x
    have hhi := hl.hi x
    have hw2 : IntKind.i64.wrap (r + lenAt l x) = r + lenAt l x := wrap64 (by omega) (by omega)
    have hF := fun st H => len_F l x st H
    have ih' := ih (P ++ [x]) (r + lenAt l x) (by rw [hP]; simp) (by omega) (by simp; omega)
    rw [show (P ++ [x]).length = P.length + 1 by simp] at ih'
    rw [r18_Add_R0_eq]
    simp only [r18_Add_B0, r18_Add_K0_a, h1, hia, hw, hw2, r05_Len_call, hF, ih', sumL, Int.add_assoc, zy, simprocAttr]

theorem radd_loop4 (i : Nat) (hi : i ≤ 12) (s : Int) (hs : trail[i]? = some s) (xs : List Ed) (hx : xs.length ≤ 4) : ∀ (S P W : List Ed) (c : CV) (bl : List Blk), xs = P ++ S → Own fE 2 bl c W → (W.length = i ∨ W.length = i + 1) →
    ∃ c' bl', r18_Add_R4 ([(1, sl fVh w), (2, .int .i64 id), (3, .int .i64 length), (4, .int .i64 ahead), (6, sl fI trail), (7, .op (.loc 7) 0), (18, c), (19, .int .i64 i), (20, sl fE xs), (21, .int .i64 P.length)], ⟨[(7, layC l)], bl⟩) =
      some (.norm, [(1, sl fVh w), (2, .int .i64 id), (3, .int .i64 length), (4, .int .i64 ahead), (6, sl fI trail), (7, .op (.loc 7) 0), (18, c'), (19, .int .i64 i)], ⟨[(7, layC l)], bl'⟩) ∧
      Own fE 2 bl' c' (W ++ if W.length = i then (match S.find? fun x => x.s == s with | some x => [x] | none => []) else []) := by
  intro S
  have hil : i < trail.length := (List.getElem?_eq_some_iff.1 hs).1
  have his : trail[i] = s := (List.getElem?_eq_some_iff.1 hs).2
  have hiaT := iaddr_atI (k := .i64) hil
  rw [his] at hiaT
  induction S with
  | nil =>
    intro P W c bl hP hO hW
    have h1 : ¬ ((P.length : Int) < xs.length) := by rw [hP]; simp
    refine ⟨c, bl, ?_, by simpa using hO⟩
    rw [r18_Add_R4_eq]
    simp only [r18_Add_B4, r18_Add_K4_a, h1, hO.chkV, zy, simprocAttr]
  | cons x S ih =>
    intro P W c bl hP hO hW
    have h1 : ((P.length : Int) < xs.length) := by rw [hP]; simp; omega
    have hw := wrapN (n := P.length) (by rw [hP] at hx; unfold Zc.small; simp at hx; omega)
    have hia := iaddr_midE .i64 P S x
    rw [← hP] at hia
    have hlen := hO.len
    by_cases hA : x.s = s
    · rcases hW with hW | hW
      · obtain ⟨c1, bl1, e1, o1, _, _, _⟩ := hO.app1 flatE (bytes := 16) (zero := [.int .i64 0, .int .i64 0]) (by omega) rfl rfl x (by omega)
        obtain ⟨c', bl', q1, q2⟩ := ih (P ++ [x]) (W ++ [x]) c1 bl1 (by rw [hP]; simp) o1 (.inr (by simp [hW]))
        rw [show (P ++ [x]).length = P.length + 1 by simp] at q1
        refine ⟨c', bl', ?_, ?_⟩
        · simp only [fE] at e1
          rw [r18_Add_R4_eq]
          simp only [r18_Add_B4, r18_Add_K4_a, h1, hia, hiaT, eq_true hA, hw, hlen, hW, e1, hO.chkV, o1.chkV, q1, zy, simprocAttr]
        · have hb : (x.s == s) = true := by simpa using hA
          simpa [hW, List.find?_cons, hb] using q2
      · have hne : ¬ (((W.length : Nat) : Int) = i) := by omega
        have hne' : ¬ W.length = i := by omega
        obtain ⟨c', bl', q1, q2⟩ := ih (P ++ [x]) W c bl (by rw [hP]; simp) hO (.inr hW)
        rw [show (P ++ [x]).length = P.length + 1 by simp] at q1
        refine ⟨c', bl', ?_, ?_⟩
        · rw [r18_Add_R4_eq]
          simp only [r18_Add_B4, r18_Add_K4_a, h1, hia, hiaT, eq_true hA, hw, hlen, hne, hO.chkV, q1, zy, simprocAttr]
        · simpa [hne'] using q2
    · obtain ⟨c', bl', q1, q2⟩ := ih (P ++ [x]) W c bl (by rw [hP]; simp) hO hW
      rw [show (P ++ [x]).length = P.length + 1 by simp] at q1
      refine ⟨c', bl', ?_, ?_⟩
      · rw [r18_Add_R4_eq]
        simp only [r18_Add_B4, r18_Add_K4_a, h1, hia, hiaT, eq_false hA, hw, hlen, hO.chkV, q1, zy, simprocAttr]
      · have hb : (x.s == s) = false := by simpa using hA
        simpa [List.find?_cons, hb] using q2

theorem radd_loop2 : ∀ (S : List Int) (W : List Ed) (e : Ed) (c : CV) (bl : List Blk), trail = (W ++ [e]).map Ed.s ++ S → follows l ⟨e.s, 1 - e.e⟩ S = true → -1 ≤ e.e ∧ e.e ≤ 1 → Own fE 2 bl c (W ++ [e]) →
    ∃ c' bl', r18_Add_R2 ([(1, sl fVh w), (2, .int .i64 id), (3, .int .i64 length), (4, .int .i64 ahead), (6, sl fI trail), (7, .op (.loc 7) 0), (18, c), (19, .int .i64 (W ++ [e]).length)], ⟨[(7, layC l)], bl⟩) =
      some (.norm, [(1, sl fVh w), (2, .int .i64 id), (3, .int .i64 length), (4, .int .i64 ahead), (18, c')], ⟨[], bl'⟩) ∧ Own fE 2 bl' c' (W ++ [e] ++ wayFrom l e S) := by
  intro S
  induction S with
  | nil =>
    intro W e c bl hP _ _ hO
    have h1 : ¬ (((W ++ [e]).length : Int) < trail.length) := by rw [hP]; simp
    refine ⟨c, bl, ?_, by simpa [wayFrom] using hO⟩
    rw [r18_Add_R2_eq]
    simp only [r18_Add_B2, r18_Add_K2_a, h1, hO.chkV, zy, simprocAttr]
  | cons s S ih =>
    intro W e c bl hP hf he hO
    unfold follows at hf
    cases hx : (around l ⟨e.s, 1 - e.e⟩).find? fun x => x.s == s with
    | none => simp [hx] at hf
    | some x =>
      simp only [hx] at hf
      have hm := List.mem_of_find?_eq_some hx
      have hxs : x.s = s := by simpa using List.find?_some hx
      have hin := around_in hm
      have hpl : W.length + 2 ≤ 12 := by rw [hP] at ht; simp at ht; omega
      have h1 : (((W ++ [e]).length : Int) < trail.length) := by rw [hP]; simp; omega
      have hw := wrapN (n := (W ++ [e]).length) (by unfold Zc.small; simp; omega)
      have hw2 : IntKind.i64.wrap (((W ++ [e]).length : Int) - 1) = W.length := by rw [wrap64 (by omega) (by simp; omega)]; simp
      have hw3 : IntKind.i64.wrap (1 - e.e) = 1 - e.e := wrap64 (by omega) (by omega)
      have hiT : iaddrC 1 (sl fI trail) (.int .i64 W.length) = some (.vp (.int .i64 e.s :: (s :: S).flatMap fI)) := by
        have := iaddr_midI .i64 (W.map Ed.s) (s :: S) e.s
        rw [show W.map Ed.s ++ e.s :: s :: S = trail by rw [hP]; simp, List.length_map] at this
        exact this
      obtain ⟨m, g1, cs, g2, g3⟩ := Own.get flatE hO (p := W) (s := []) (x := e) rfl
      have g1' := g1 .i64
      have hh : headO (List.drop (W.length * 2 + 1) cs) = some (.int .i64 e.e) := by
        rw [← List.drop_drop, g3]; rfl
      have hA := fun H => around_F l hl.ok ⟨e.s, 1 - e.e⟩ H
      have hal := around_len l ⟨e.s, 1 - e.e⟩
      have hsi : trail[(W ++ [e]).length]? = some s := by rw [hP, List.getElem?_append_right (by simp)]; simp
      obtain ⟨c1, bl1, r1, r2⟩ := radd_loop4 l hl w id length ahead trail ht (W ++ [e]).length (by simp; omega) s hsi (around l ⟨e.s, 1 - e.e⟩) (by omega) (around l ⟨e.s, 1 - e.e⟩) [] (W ++ [e]) c bl rfl hO (.inl rfl)
      simp only [if_true, hx] at r2
      obtain ⟨c', bl', q1, q2⟩ := ih (W ++ [e]) x c1 bl1 (by rw [hP, hxs.symm]; simp) (by rw [hxs]; exact hf) (by omega) r2
      refine ⟨c', bl', ?_, ?_⟩
      · simp only [fE] at hA
        have q1' := q1
        rw [show (W ++ [e] ++ [x]).length = (W ++ [e]).length + 1 by simp] at q1'
        simp only [List.length_nil, Int.natCast_zero] at r1
        rw [r18_Add_R2_eq]
        simp only [r18_Add_B2, r18_Add_K2_a, h1, hw, hw2, hw3, hiT, g1', g2, hh, r05_Around_call, hA, r18_Add_L4_eq, r1, hO.chkV, r2.chkV, q1', zy, simprocAttr]
      · unfold wayFrom
        simp only [hx]
        rw [show W ++ [e] ++ x :: wayFrom l x S = W ++ [e] ++ [x] ++ wayFrom l x S by simp]
        exact q2
end
end Go.Proofs.Ytfblegjbmhgepaa.Zt
end
