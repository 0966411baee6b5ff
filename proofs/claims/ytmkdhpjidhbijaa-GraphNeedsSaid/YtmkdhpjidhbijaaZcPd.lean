/- The law GraphNeeds, walked. -/
import Derived.Test.YtmkdhpjidhbijaaZcPa
import Derived.Test.YtmkdhpjidhbijaaZcStore
import Derived.Test.YtmkdhpjidhbijaaZcNeed
set_option linter.all false
namespace Go.Proofs.Ytmkdhpjidhbijaa.Zt
open Go Go.Zc
set_option maxRecDepth 10000

theorem iaddr_midN (k : IntKind) (pre suf : List Nd) (x : Nd) : iaddrC 2 (sl fN (pre ++ x :: suf)) (.int k pre.length) = some (.vp (.int .i64 x.p :: .bool x.r :: suf.flatMap fN)) := iaddr_mid flatN k pre suf x
theorem snap_B (H : Heap) (st kn : Bool) (n : Nat) : ∀ x : Bool, ∀ c ∈ fB x, snapN H st kn (n + 1) c = some c := by
  intro x c hc
  simp only [fB, List.mem_cons, List.not_mem_nil, or_false] at hc
  subst hc
  rfl
theorem snapB_own {bl : List Blk} {v : CV} {l : List Bool} (h : Own fB 1 bl v l) (bx : List (Nat × List CV)) (st : Bool) : snapV ⟨bx, bl⟩ st false (snapN ⟨bx, bl⟩ st false 7) v = some (sl fB l) := h.snapV flatB bx _ _ (snap_B _ _ _ 6)

theorem needs_loop (g c9 : CV) (hg : g.locv = false) (h9 : c9.locv = false) (p : List Int) (v : CV) (k : Nat) (hk : k ≤ Zc.small) : ∀ (s pre : List Nd) (r : List Bool) (bl : List Blk), (pre ++ s).length ≤ 2 * Zc.small → r.length = k → (∀ n ∈ s, 0 ≤ n.p ∧ n.p < k) → Own fB 1 bl v r →
    ∃ bl', l05_GraphNeeds_R0 ([(8, g), (9, c9), (10, sl fI p), (11, sl fN (pre ++ s)), (13, v), (14, .int .i64 pre.length)], ⟨[], bl⟩) = some (.norm, [(8, g), (9, c9), (10, sl fI p), (13, v)], ⟨[], bl'⟩) ∧ Own fB 1 bl' v (setN r s)
  | [], pre, r, bl, hm, hr, hs, hO => by
    have q1 := chkV_of hg
    have q2 := chkV_of h9
    refine ⟨bl, ?_, hO⟩
    rw [l05_GraphNeeds_R0_eq]
    simp only [l05_GraphNeeds_B0, l05_GraphNeeds_K0_norm, l05_GraphNeeds_K0_ret, l05_GraphNeeds_K0_exit, q1, q2, hO.chkV, y1, y2, y3, y4, y5, y6, y7, y8, y9, keepE, keepB, chk, CV.locs, CV.locv, CV.refs, CV.ref, pureOp, repC, takeN, resV, enterC, Nat.reduceAdd, Nat.reduceSub, Nat.reduceMul, Nat.reduceLeDiff, Nat.reduceLT, Nat.reduceBEq, Nat.reduceBNe, Nat.reduceEqDiff, ↓reduceIte, Int.reduceAdd, Int.reduceSub, Int.reduceMul, Int.reduceLT, Int.reduceLE, Int.reduceEq, Int.reduceNeg, Int.reduceToNat]
  | n :: s, pre, r, bl, hm, hr, hs, hO => by
    have q1 := chkV_of hg
    have q2 := chkV_of h9
    have h4 : ((pre.length : Int) < (pre ++ n :: s).length) := by simp; omega
    have hw := wrapN (n := pre.length) (by simp at hm; omega)
    obtain ⟨n0, n1⟩ := hs n (by simp)
    obtain ⟨i, hi⟩ := Int.eq_ofNat_of_zero_le n0
    have hir : i < r.length := by omega
    obtain ⟨m, hia, cs, hcs, hdr, bl2, e2, o2, _⟩ := hO.set flatB hir n.r (.bool n.r) rfl
    simp only [Nat.mul_one, ← hi] at hia e2
    obtain ⟨bl', ih, o⟩ := needs_loop g c9 hg h9 p v k hk s (pre ++ [n]) (r.set i n.r) bl2 (by simpa using hm) (by simpa using hr) (fun x hx => hs x (by simp [hx])) o2
    have h5 : ¬ (n.p < 0) := by omega
    have h6 : ¬ ((r.length : Int) ≤ n.p) := by omega
    simp only [List.append_assoc, List.cons_append, List.nil_append, List.length_append, List.length_cons, List.length_nil] at ih h4
    refine ⟨bl', ?_, by simp only [setN, hi, Int.toNat_natCast]; exact o⟩
    rw [l05_GraphNeeds_R0_eq]
    simp only [l05_GraphNeeds_B0, l05_GraphNeeds_K0_norm, l05_GraphNeeds_K0_ret, l05_GraphNeeds_K0_exit, List.append_assoc, List.cons_append, List.nil_append, List.length_append, List.length_cons, List.length_nil, q1, q2, hO.chkV, h4, hw, iaddr_midN, hO.len, h5, h6, hia, hcs, e2, ih, y1, y2, y3, y4, y5, y6, y7, y8, y9, keepE, keepB, chk, CV.locs, CV.locv, CV.refs, CV.ref, pureOp, repC, takeN, resV, enterC, Nat.reduceAdd, Nat.reduceSub, Nat.reduceMul, Nat.reduceLeDiff, Nat.reduceLT, Nat.reduceBEq, Nat.reduceBNe, Nat.reduceEqDiff, ↓reduceIte, Int.reduceAdd, Int.reduceSub, Int.reduceMul, Int.reduceLT, Int.reduceLE, Int.reduceEq, Int.reduceNeg, Int.reduceToNat]

theorem goes_loop (l : Lay) (hl : l.ok) (p : List Int) (hm : p.length ≤ Zc.small) (v : CV) (r : List Bool) (bl : List Blk) (hO : Own fB 1 bl v r) : ∀ (s pre : List Int) (e : Ed), pre ++ s = p → goes (fun x => next l x r) e s = true →
    l05_GraphNeeds_R2 ([(8, .vp (layC l)), (10, sl fI p), (13, v), (15, .op (.loc 15) 0), (16, .int .i64 pre.length)], ⟨[(15, fE e)], bl⟩) = some (.norm, [], ⟨[], bl⟩)
  | [], pre, e, hp, hg => by
    have h1 : ¬ ((pre.length : Int) < p.length) := by rw [← hp]; simp
    rw [l05_GraphNeeds_R2_eq]
    simp only [l05_GraphNeeds_B2, l05_GraphNeeds_K2_norm, l05_GraphNeeds_K2_ret, l05_GraphNeeds_K2_exit, h1, y1, y2, y3, y4, y5, y6, y7, y8, y9, keepE, keepB, chk, CV.locs, CV.locv, CV.refs, CV.ref, pureOp, repC, takeN, resV, enterC, Nat.reduceAdd, Nat.reduceSub, Nat.reduceMul, Nat.reduceLeDiff, Nat.reduceLT, Nat.reduceBEq, Nat.reduceBNe, Nat.reduceEqDiff, ↓reduceIte, Int.reduceAdd, Int.reduceSub, Int.reduceMul, Int.reduceLT, Int.reduceLE, Int.reduceEq, Int.reduceNeg, Int.reduceToNat]
  | a :: s, pre, e, hp, hg => by
    have hpl : pre.length + 1 + s.length = p.length := by rw [← hp]; simp; omega
    have h1 : ((pre.length : Int) < p.length) := by omega
    have hw := wrapN (n := pre.length) (by omega)
    have hi : iaddrC 1 (sl fI p) (.int .i64 pre.length) = some (.vp (.int .i64 a :: s.flatMap fI)) := by rw [← hp]; exact iaddr_midI _ pre s a
    have hN := fun st H => gnext_F l hl e r st H
    simp only [goes] at hg
    cases hx : next l e r with
    | none => rw [hx] at hg; cases hg
    | some x =>
      rw [hx] at hg
      simp only [Bool.and_eq_true, decide_eq_true_eq] at hg
      simp only [hx, edC, fE] at hN
      have hxe : -9223372036854775808 ≤ 1 - x.e ∧ 1 - x.e ≤ 9223372036854775807 := by
        have : x.e = 0 ∨ x.e = 1 := by
          have hm : x ∈ around l e := next_mem hx
          exact (around_in hm).2
        omega
      have hw3 : IntKind.i64.wrap (1 - x.e) = 1 - x.e := wrap64 hxe.1 hxe.2
      have ih := goes_loop l hl p hm v r bl hO s (pre ++ [a]) ⟨x.s, 1 - x.e⟩ (by simpa using hp) hg.2
      rw [show (pre ++ [a]).length = pre.length + 1 by simp] at ih
      have hsn := fun bx st => snapB_own hO bx st
      simp only [fE, hg.1] at ih
      simp only [hg.1] at hN
      rw [l05_GraphNeeds_R2_eq]
      simp only [l05_GraphNeeds_B2, l05_GraphNeeds_K2_norm, l05_GraphNeeds_K2_ret, l05_GraphNeeds_K2_exit, fE, h1, hi, hO.chkV, hO.one, hO.locv, hO.cells, hsn, graph_Graph_Next_call, hN, hg.1, hw, hw3, ih, y1, y2, y3, y4, y5, y6, y7, y8, y9, keepE, keepB, chk, CV.locs, CV.locv, CV.refs, CV.ref, pureOp, repC, takeN, resV, enterC, Nat.reduceAdd, Nat.reduceSub, Nat.reduceMul, Nat.reduceLeDiff, Nat.reduceLT, Nat.reduceBEq, Nat.reduceBNe, Nat.reduceEqDiff, ↓reduceIte, Int.reduceAdd, Int.reduceSub, Int.reduceMul, Int.reduceLT, Int.reduceLE, Int.reduceEq, Int.reduceNeg, Int.reduceToNat]

set_option maxHeartbeats 1000000 in
theorem graphNeeds_F (d : Draft) (hd : d.ok) (fr : Int) (hfr : 0 ≤ fr ∧ fr ≤ 255) (turns : List Int) (ht : ∀ t ∈ turns, 0 ≤ t ∧ t ≤ 255) (st : Bool) (H : Heap) :
    l05_GraphNeeds_F st H [.agg (draftC d), .int .u8 fr, sl fU turns] = some (.bool true, H) := by
  rw [l05_GraphNeeds_F_eq]
  have hj := joins05_F
  have hsF := fun st H => small_F d hd st H
  cases hs : d.small with
  | false =>
    simp only [hs] at hsF
    simp only [l05_GraphNeeds_C, l05_joins_call, hj, r04_Small_call, hsF, y1, y2, y3, y4, y5, y6, y7, y8, y9, keepE, keepB, chk, CV.locs, CV.locv, CV.refs, CV.ref, pureOp, repC, takeN, resV, enterC, Nat.reduceAdd, Nat.reduceSub, Nat.reduceMul, Nat.reduceLeDiff, Nat.reduceLT, Nat.reduceBEq, Nat.reduceBNe, Nat.reduceEqDiff, ↓reduceIte, Int.reduceAdd, Int.reduceSub, Int.reduceMul, Int.reduceLT, Int.reduceLE, Int.reduceEq, Int.reduceNeg, Int.reduceToNat]
  | true =>
    simp only [hs] at hsF
    by_cases h1 : 20 < turns.length
    · have h1' : ((20 : Int) < turns.length) := by omega
      simp only [l05_GraphNeeds_C, l05_joins_call, hj, r04_Small_call, hsF, h1', y1, y2, y3, y4, y5, y6, y7, y8, y9, keepE, keepB, chk, CV.locs, CV.locv, CV.refs, CV.ref, pureOp, repC, takeN, resV, enterC, Nat.reduceAdd, Nat.reduceSub, Nat.reduceMul, Nat.reduceLeDiff, Nat.reduceLT, Nat.reduceBEq, Nat.reduceBNe, Nat.reduceEqDiff, ↓reduceIte, Int.reduceAdd, Int.reduceSub, Int.reduceMul, Int.reduceLT, Int.reduceLE, Int.reduceEq, Int.reduceNeg, Int.reduceToNat]
    · have h1' : ¬ ((20 : Int) < turns.length) := by omega
      have hok := full_ok d
      have hg := full_good d hok
      have hsn := hok.secs
      have hpn := hok.pts
      have hp := hg.pos
      have hs0 : 0 ≤ fr % (full d).secs.length := Int.emod_nonneg _ (by omega)
      have hs1 : fr % (full d).secs.length < (full d).secs.length := Int.emod_lt_of_pos _ (by omega)
      have k1 : IntKind.u8.wrap (fr.tdiv 128) = fr / 128 := by rw [Int.tdiv_eq_ediv_of_nonneg hfr.1, IntKind.wrap_u8]; omega
      have k2 : IntKind.i64.wrap (fr / 128) = fr / 128 := wrap64 (by omega) (by omega)
      have k3 : IntKind.i64.wrap fr = fr := wrap64 (by omega) (by omega)
      have k4 : fr.tmod ((full d).secs.length : Int) = fr % ((full d).secs.length : Int) := Int.tmod_eq_emod_of_nonneg hfr.1
      have k5 : ¬ (((full d).secs.length : Int) = 0) := by omega
      have hwF := fun H st => walk_F (full d) hok (fr % (full d).secs.length) (fr / 128) turns ht 12 (by unfold Zc.small; omega) H st
      have hwl := walk_len (full d) (fr % (full d).secs.length) (fr / 128) turns 12
      obtain ⟨hn, t, htl, hgo⟩ := full_needs d (fr % (full d).secs.length) hs0 hs1 (fr / 128) (by omega) turns
      simp only [Int.cast_ofNat_Int] at hwF hwl
      rw [htl] at hn hgo hwl
      simp only [htl] at hwF
      have hgp := fun H => gpath_F (full d) hok (fr % (full d).secs.length :: t) (by unfold Zc.small; omega) H
      have hnl : ((npath (full d) (fr % (full d).secs.length :: t)).getD []).length ≤ 2 * Zc.small := by
        have := npath_len (full d) (fr % (full d).secs.length :: t)
        unfold Zc.small; omega
      obtain ⟨e1, o1⟩ := Own.mk flatB false (full d).pts.length 1 (by unfold Zc.small at hpn; omega) .i64 .i64 [(3, draftC d), (7, layC (full d))] []
      simp only [fB, List.nil_append, List.length_nil, Int.natCast_zero] at e1 o1
      obtain ⟨bl2, e2, o2⟩ := needs_loop (.vp (layC (full d))) (.int .i64 (fr / 128)) rfl rfl (fr % (full d).secs.length :: t) _ (full d).pts.length hpn ((npath (full d) (fr % (full d).secs.length :: t)).getD []) [] _ _ hnl (by simp) hn o1
      have hL := goes_loop (full d) hok (fr % (full d).secs.length :: t) (by unfold Zc.small; omega) _ _ bl2 o2 t [fr % (full d).secs.length] ⟨fr % (full d).secs.length, fr / 128⟩ rfl hgo
      simp only [List.nil_append, List.length_nil, Int.natCast_zero] at e2
      simp only [fE, List.length_cons, List.length_nil, Nat.zero_add, Int.natCast_one] at hL
      simp only [l05_GraphNeeds_C, l05_GraphNeeds_L0_eq, l05_GraphNeeds_L2_eq, l05_joins_call, hj, r04_Small_call, hsF, h1', r05_Full_call, full_F d hd, k1, k2, k3, k4, k5, r05_Walk_call, hwF, e1, e2, graph_New_call, gnew5_F, graph_Graph_Path_call, hgp, iaddr_0I, hL, y1, y2, y3, y4, y5, y6, y7, y8, y9, keepE, keepB, chk, CV.locs, CV.locv, CV.refs, CV.ref, pureOp, repC, takeN, resV, enterC, Nat.reduceAdd, Nat.reduceSub, Nat.reduceMul, Nat.reduceLeDiff, Nat.reduceLT, Nat.reduceBEq, Nat.reduceBNe, Nat.reduceEqDiff, ↓reduceIte, Int.reduceAdd, Int.reduceSub, Int.reduceMul, Int.reduceLT, Int.reduceLE, Int.reduceEq, Int.reduceNeg, Int.reduceToNat]
end Go.Proofs.Ytmkdhpjidhbijaa.Zt
