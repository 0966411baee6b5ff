/- The law GraphPaths, walked. -/
import Derived.Test.YtmkdhpjidhbijaaZcPb
import Derived.Test.YtmkdhpjidhbijaaZcStore
set_option linter.all false
namespace Go.Proofs.Ytmkdhpjidhbijaa.Zt
open Go Go.Zc
set_option maxRecDepth 10000

theorem iaddr_midN (k : IntKind) (pre suf : List Nd) (x : Nd) : iaddrC 2 (sl fN (pre ++ x :: suf)) (.int k pre.length) = some (.vp (.int .i64 x.p :: .bool x.r :: suf.flatMap fN)) := iaddr_mid flatN k pre suf x
theorem paths_loop : ∀ (s p : List Nd), (p ++ s).length ≤ 2 * Zc.small →
    l05_paths_R0 ([(5, sl fN (p ++ s)), (7, sl fN (p ++ s)), (9, .int .i64 p.length)], ⟨[], []⟩) = some (.norm, [], ⟨[], []⟩)
  | [], p, hm => by
    rw [l05_paths_R0_eq]
    simp only [l05_paths_B0, l05_paths_K0_norm, l05_paths_K0_ret, l05_paths_K0_exit, y1, y2, y3, y4, y5, y6, y7, y8, y9, keepE, keepB, chk, CV.locs, CV.locv, CV.refs, CV.ref, pureOp, repC, takeN, resV, enterC, Nat.reduceAdd, Nat.reduceSub, Nat.reduceMul, Nat.reduceLeDiff, Nat.reduceLT, Nat.reduceBEq, Nat.reduceBNe, Nat.reduceEqDiff, ↓reduceIte, Int.reduceAdd, Int.reduceSub, Int.reduceMul, Int.reduceLT, Int.reduceLE, Int.reduceEq, Int.reduceNeg, Int.reduceToNat]
  | x :: s, p, hm => by
    have h4 : ((p.length : Int) < (p ++ x :: s).length) := by simp; omega
    have hw := wrapN (n := p.length) (by simp at hm; omega)
    have ih := paths_loop s (p ++ [x]) (by simpa using hm)
    simp only [List.append_assoc, List.cons_append, List.nil_append, List.length_append, List.length_cons, List.length_nil] at ih h4
    rw [l05_paths_R0_eq]
    simp only [l05_paths_B0, l05_paths_K0_norm, l05_paths_K0_ret, l05_paths_K0_exit, List.append_assoc, List.cons_append, List.nil_append, List.length_append, List.length_cons, List.length_nil, h4, hw, iaddr_midN, ih, y1, y2, y3, y4, y5, y6, y7, y8, y9, keepE, keepB, chk, CV.locs, CV.locv, CV.refs, CV.ref, pureOp, repC, takeN, resV, enterC, Nat.reduceAdd, Nat.reduceSub, Nat.reduceMul, Nat.reduceLeDiff, Nat.reduceLT, Nat.reduceBEq, Nat.reduceBNe, Nat.reduceEqDiff, ↓reduceIte, Int.reduceAdd, Int.reduceSub, Int.reduceMul, Int.reduceLT, Int.reduceLE, Int.reduceEq, Int.reduceNeg, Int.reduceToNat]
theorem paths_F (l : Lay) (hl : l.ok) (t : List Int) (hm : t.length ≤ Zc.small) (st : Bool) (H : Heap) : l05_paths_F st H [.agg (layC l), sl fI t] = some (.bool true, H) := by
  have hn := npath_len l t
  have hL := paths_loop ((npath l t).getD []) [] (by simp; omega)
  simp only [List.nil_append, List.length_nil, Int.natCast_zero] at hL
  rw [l05_paths_F_eq]
  simp only [l05_paths_C, l05_paths_L0_eq, graph_New_call, gnew5_F, graph_Graph_Path_call, gpath_F l hl t hm, r05_Path_call, path_F l hl t hm, hL, y1, y2, y3, y4, y5, y6, y7, y8, y9, keepE, keepB, chk, CV.locs, CV.locv, CV.refs, CV.ref, pureOp, repC, takeN, resV, enterC, Nat.reduceAdd, Nat.reduceSub, Nat.reduceMul, Nat.reduceLeDiff, Nat.reduceLT, Nat.reduceBEq, Nat.reduceBNe, Nat.reduceEqDiff, ↓reduceIte, Int.reduceAdd, Int.reduceSub, Int.reduceMul, Int.reduceLT, Int.reduceLE, Int.reduceEq, Int.reduceNeg, Int.reduceToNat]

set_option maxHeartbeats 1000000 in
theorem graphPaths_F (d : Draft) (hd : d.ok) (fr : Int) (hfr : 0 ≤ fr ∧ fr ≤ 255) (turns : List Int) (ht : ∀ t ∈ turns, 0 ≤ t ∧ t ≤ 255) (a o : Int) (ha : 0 ≤ a ∧ a ≤ 255) (ho : 0 ≤ o ∧ o ≤ 255) (more : List Int) (st : Bool) (H : Heap) :
    l05_GraphPaths_F st H [.agg (draftC d), .int .u8 fr, sl fU turns, .int .u8 a, .int .u8 o, sl fI more] = some (.bool true, H) := by
  rw [l05_GraphPaths_F_eq]
  have hj := joins05_F
  have hsF := fun st H => small_F d hd st H
  cases hs : d.small with
  | false =>
    simp only [hs] at hsF
    simp only [l05_GraphPaths_C, l05_joins_call, hj, r04_Small_call, hsF, y1, y2, y3, y4, y5, y6, y7, y8, y9, keepE, keepB, chk, CV.locs, CV.locv, CV.refs, CV.ref, pureOp, repC, takeN, resV, enterC, Nat.reduceAdd, Nat.reduceSub, Nat.reduceMul, Nat.reduceLeDiff, Nat.reduceLT, Nat.reduceBEq, Nat.reduceBNe, Nat.reduceEqDiff, ↓reduceIte, Int.reduceAdd, Int.reduceSub, Int.reduceMul, Int.reduceLT, Int.reduceLE, Int.reduceEq, Int.reduceNeg, Int.reduceToNat]
  | true =>
    simp only [hs] at hsF
    by_cases h1 : 20 < turns.length
    · have h1' : ((20 : Int) < turns.length) := by omega
      simp only [l05_GraphPaths_C, l05_joins_call, hj, r04_Small_call, hsF, h1', y1, y2, y3, y4, y5, y6, y7, y8, y9, keepE, keepB, chk, CV.locs, CV.locv, CV.refs, CV.ref, pureOp, repC, takeN, resV, enterC, Nat.reduceAdd, Nat.reduceSub, Nat.reduceMul, Nat.reduceLeDiff, Nat.reduceLT, Nat.reduceBEq, Nat.reduceBNe, Nat.reduceEqDiff, ↓reduceIte, Int.reduceAdd, Int.reduceSub, Int.reduceMul, Int.reduceLT, Int.reduceLE, Int.reduceEq, Int.reduceNeg, Int.reduceToNat]
    · have h1' : ¬ ((20 : Int) < turns.length) := by omega
      by_cases h2 : 10 < more.length
      · have h2' : ((10 : Int) < more.length) := by omega
        simp only [l05_GraphPaths_C, l05_joins_call, hj, r04_Small_call, hsF, h1', h2', y1, y2, y3, y4, y5, y6, y7, y8, y9, keepE, keepB, chk, CV.locs, CV.locv, CV.refs, CV.ref, pureOp, repC, takeN, resV, enterC, Nat.reduceAdd, Nat.reduceSub, Nat.reduceMul, Nat.reduceLeDiff, Nat.reduceLT, Nat.reduceBEq, Nat.reduceBNe, Nat.reduceEqDiff, ↓reduceIte, Int.reduceAdd, Int.reduceSub, Int.reduceMul, Int.reduceLT, Int.reduceLE, Int.reduceEq, Int.reduceNeg, Int.reduceToNat]
      · have h2' : ¬ ((10 : Int) < more.length) := by omega
        have hok := full_ok d
        have hg := full_good d hok
        have hsn := hok.secs
        have hp := hg.pos
        have hs0 : 0 ≤ fr % (full d).secs.length := Int.emod_nonneg _ (by omega)
        have hs1 : fr % (full d).secs.length < (full d).secs.length := Int.emod_lt_of_pos _ (by omega)
        have k1 : IntKind.u8.wrap (fr.tdiv 128) = fr / 128 := by rw [Int.tdiv_eq_ediv_of_nonneg hfr.1, IntKind.wrap_u8]; omega
        have k2 : IntKind.i64.wrap (fr / 128) = fr / 128 := wrap64 (by omega) (by omega)
        have k3 : IntKind.i64.wrap fr = fr := wrap64 (by omega) (by omega)
        have k4 : fr.tmod ((full d).secs.length : Int) = fr % ((full d).secs.length : Int) := Int.tmod_eq_emod_of_nonneg hfr.1
        have k5 : ¬ (((full d).secs.length : Int) = 0) := by omega
        have hwF := fun H st => walk_F (full d) hok (fr % (full d).secs.length) (fr / 128) turns ht 12 (by unfold Zc.small; omega) H st
        have hwl := walk_len (full d) (fr % (full d).secs.length) (fr / 128) turns 12
        obtain ⟨tl, htl⟩ := walk_head (full d) (fr % (full d).secs.length) (fr / 128) turns ((12 : Nat) : Int)
        have hnp := npath_walk d hok (fr % (full d).secs.length) (fr / 128) (by omega) turns ((12 : Nat) : Int)
        have hpos : 0 < (walk (full d) (fr % (full d).secs.length) (fr / 128) turns ((12 : Nat) : Int)).length := by rw [htl]; simp
        simp only [Int.cast_ofNat_Int] at hwF hwl hnp hpos
        generalize walk (full d) (fr % (full d).secs.length) (fr / 128) turns 12 = p at *
        have m1 : IntKind.i64.wrap a = a := wrap64 (by omega) (by omega)
        have m2 : a.tmod (p.length : Int) = ((a % p.length).toNat : Nat) := by
          rw [Int.tmod_eq_emod_of_nonneg ha.1]
          have := Int.emod_nonneg a (b := (p.length : Int)) (by omega)
          omega
        have m3 : (a % p.length).toNat < p.length := by
          have := Int.emod_nonneg a (b := (p.length : Int)) (by omega)
          have := Int.emod_lt_of_pos a (b := (p.length : Int)) (by omega)
          omega
        have m4 : ¬ ((p.length : Int) = 0) := by omega
        have m5 : IntKind.i64.wrap o = o := wrap64 (by omega) (by omega)
        have m6 : IntKind.i64.wrap (((full d).secs.length : Int) + 1) = (full d).secs.length + 1 := wrap64 (by omega) (by unfold Zc.small at hsn; omega)
        have m7 : ¬ (((full d).secs.length : Int) + 1 = 0) := by omega
        obtain ⟨v1, bl1, e1, o1, _⟩ := (Own.nil fI 1 []).appSl flatI (bytes := 8) (zero := [.int .i64 0]) (by decide) rfl rfl p (by simp; omega)
        rw [List.nil_append] at o1
        obtain ⟨m, hia, cs, hcs, hdr, bl2, e2, o2, _⟩ := o1.set flatI m3 (o.tmod ((full d).secs.length + 1)) (.int .i64 (o.tmod ((full d).secs.length + 1))) rfl
        simp only [Nat.mul_one] at hia hdr e2
        have hsn2 := fun bx st => snapI_own o2 bx st
        have hgp := fun H => gpath_F (full d) hok p (by unfold Zc.small; omega) H
        rw [hnp] at hgp
        have q1 := fun st H => paths_F (full d) hok p (by unfold Zc.small; omega) st H
        have q2 := fun st H => paths_F (full d) hok (p.set (a % p.length).toNat (o.tmod ((full d).secs.length + 1))) (by rw [List.length_set]; unfold Zc.small; omega) st H
        have q3 := fun st H => paths_F (full d) hok more (by unfold Zc.small; omega) st H
        have hd1 : ((1 : Int) < p.length) = (1 < p.length) := by simp; omega
        simp only [l05_GraphPaths_C, l05_joins_call, hj, r04_Small_call, hsF, h1', h2', r05_Full_call, full_F d hd, k1, k2, k3, k4, k5, r05_Walk_call, hwF, e1, o1.chkV, o1.one, o1.cells, m1, o1.len, m2, m4, m5, m6, m7, hia, hcs, e2, graph_New_call, gnew5_F, graph_Graph_Path_call, hgp, l05_paths_call, q1, q2, q3, hsn2, hd1, y1, y2, y3, y4, y5, y6, y7, y8, y9, keepE, keepB, chk, CV.locs, CV.locv, CV.refs, CV.ref, pureOp, repC, takeN, resV, enterC, Nat.reduceAdd, Nat.reduceSub, Nat.reduceMul, Nat.reduceLeDiff, Nat.reduceLT, Nat.reduceBEq, Nat.reduceBNe, Nat.reduceEqDiff, ↓reduceIte, Int.reduceAdd, Int.reduceSub, Int.reduceMul, Int.reduceLT, Int.reduceLE, Int.reduceEq, Int.reduceNeg, Int.reduceToNat]
end Go.Proofs.Ytmkdhpjidhbijaa.Zt
