/- Walks: the reference's track. -/
import Derived.Test.YtmkdhpjidhbijaaZcA
set_option linter.all false
namespace Go.Proofs.Ytmkdhpjidhbijaa.Zt
open Go Go.Zc
set_option maxRecDepth 10000

theorem node_F (l : Lay) (x : Ed) (st : Bool) (H : Heap) : r05_node_F st H [.agg (layC l), .agg (fE x)] = some (.tup [.int .i64 ((nodeOf l x).getD 0), .bool (nodeOf l x).isSome], H) := by
  rw [r05_node_F_eq]
  obtain ⟨s, e⟩ := x
  by_cases h1 : s < 0
  · have hn : nodeOf l ⟨s, e⟩ = none := by simp only [nodeOf, if_neg (show ¬ 0 ≤ s by omega), Option.bind_none]
    simp only [r05_node_C, fE, h1, hn, Option.getD_none, y1, y2, y3, y4, y5, y6, y7, y8, y9, keepE, keepB, chk, CV.locs, CV.locv, CV.refs, CV.ref, pureOp, repC, takeN, resV, enterC, Nat.reduceAdd, Nat.reduceSub, Nat.reduceMul, Nat.reduceLeDiff, Nat.reduceLT, Nat.reduceBEq, Nat.reduceBNe, Nat.reduceEqDiff, ↓reduceIte, Int.reduceAdd, Int.reduceSub, Int.reduceMul, Int.reduceLT, Int.reduceLE, Int.reduceEq, Int.reduceNeg, Int.reduceToNat]
  · obtain ⟨n, rfl⟩ := Int.eq_ofNat_of_zero_le (show 0 ≤ s by omega)
    by_cases h2 : l.secs.length ≤ n
    · have hn : nodeOf l ⟨n, e⟩ = none := by simp [nodeOf, List.getElem?_eq_none h2]
      have h2' : ((l.secs.length : Int) ≤ n) := by omega
      simp only [r05_node_C, fE, h1, h2', hn, Option.getD_none, y1, y2, y3, y4, y5, y6, y7, y8, y9, keepE, keepB, chk, CV.locs, CV.locv, CV.refs, CV.ref, pureOp, repC, takeN, resV, enterC, Nat.reduceAdd, Nat.reduceSub, Nat.reduceMul, Nat.reduceLeDiff, Nat.reduceLT, Nat.reduceBEq, Nat.reduceBNe, Nat.reduceEqDiff, ↓reduceIte, Int.reduceAdd, Int.reduceSub, Int.reduceMul, Int.reduceLT, Int.reduceLE, Int.reduceEq, Int.reduceNeg, Int.reduceToNat]
    · have h2' : ¬ ((l.secs.length : Int) ≤ n) := by omega
      have hlt : n < l.secs.length := by omega
      by_cases h3 : e = 0
      · subst h3
        have hn : nodeOf l ⟨n, 0⟩ = some l.secs[n].a := by simp [nodeOf, List.getElem?_eq_getElem hlt]
        simp only [r05_node_C, fE, h1, h2', hn, Option.getD_some, Option.isSome_some, iaddr_atS hlt, y1, y2, y3, y4, y5, y6, y7, y8, y9, keepE, keepB, chk, CV.locs, CV.locv, CV.refs, CV.ref, pureOp, repC, takeN, resV, enterC, Nat.reduceAdd, Nat.reduceSub, Nat.reduceMul, Nat.reduceLeDiff, Nat.reduceLT, Nat.reduceBEq, Nat.reduceBNe, Nat.reduceEqDiff, ↓reduceIte, Int.reduceAdd, Int.reduceSub, Int.reduceMul, Int.reduceLT, Int.reduceLE, Int.reduceEq, Int.reduceNeg, Int.reduceToNat]
      · by_cases h4 : e = 1
        · subst h4
          have hn : nodeOf l ⟨n, 1⟩ = some l.secs[n].b := by simp [nodeOf, List.getElem?_eq_getElem hlt]
          simp only [r05_node_C, fE, h1, h2', hn, Option.getD_some, Option.isSome_some, iaddr_atS hlt, y1, y2, y3, y4, y5, y6, y7, y8, y9, keepE, keepB, chk, CV.locs, CV.locv, CV.refs, CV.ref, pureOp, repC, takeN, resV, enterC, Nat.reduceAdd, Nat.reduceSub, Nat.reduceMul, Nat.reduceLeDiff, Nat.reduceLT, Nat.reduceBEq, Nat.reduceBNe, Nat.reduceEqDiff, ↓reduceIte, Int.reduceAdd, Int.reduceSub, Int.reduceMul, Int.reduceLT, Int.reduceLE, Int.reduceEq, Int.reduceNeg, Int.reduceToNat]
        · have hn : nodeOf l ⟨n, e⟩ = none := by simp [nodeOf, List.getElem?_eq_getElem hlt, h3, h4]
          by_cases h5 : e < 0
          · simp only [r05_node_C, fE, h1, h2', h5, hn, Option.getD_none, y1, y2, y3, y4, y5, y6, y7, y8, y9, keepE, keepB, chk, CV.locs, CV.locv, CV.refs, CV.ref, pureOp, repC, takeN, resV, enterC, Nat.reduceAdd, Nat.reduceSub, Nat.reduceMul, Nat.reduceLeDiff, Nat.reduceLT, Nat.reduceBEq, Nat.reduceBNe, Nat.reduceEqDiff, ↓reduceIte, Int.reduceAdd, Int.reduceSub, Int.reduceMul, Int.reduceLT, Int.reduceLE, Int.reduceEq, Int.reduceNeg, Int.reduceToNat]
          · have h6 : 1 < e := by omega
            simp only [r05_node_C, fE, h1, h2', h5, h6, hn, Option.getD_none, y1, y2, y3, y4, y5, y6, y7, y8, y9, keepE, keepB, chk, CV.locs, CV.locv, CV.refs, CV.ref, pureOp, repC, takeN, resV, enterC, Nat.reduceAdd, Nat.reduceSub, Nat.reduceMul, Nat.reduceLeDiff, Nat.reduceLT, Nat.reduceBEq, Nat.reduceBNe, Nat.reduceEqDiff, ↓reduceIte, Int.reduceAdd, Int.reduceSub, Int.reduceMul, Int.reduceLT, Int.reduceLE, Int.reduceEq, Int.reduceNeg, Int.reduceToNat]

theorem ends_loop (l : Lay) (hl : l.ok) (at' : Int) : ∀ (s p : List Sec) (acc : List Ed) (v : CV) (bl : List Blk), p ++ s = l.secs → acc.length ≤ 2 * p.length → Own fE 2 bl v acc →
    ∃ v' bl', r05_Ends_R0 ([(1, .int .i64 at'), (2, .op (.loc 2) 0), (5, v), (6, .int .i64 p.length)], ⟨[(2, layC l)], bl⟩) = some (.norm, [(5, v')], ⟨[], bl'⟩) ∧ Own fE 2 bl' v' (acc ++ endsFrom at' p.length s)
  | [], p, acc, v, bl, hp, ha, hO => by
    refine ⟨v, bl, ?_, by simpa [endsFrom] using hO⟩
    rw [r05_Ends_R0_eq]
    have h1 : ¬ ((p.length : Int) < l.secs.length) := by rw [← hp]; simp
    simp only [r05_Ends_B0, r05_Ends_K0_norm, r05_Ends_K0_ret, r05_Ends_K0_exit, h1, hO.chkV, y1, y2, y3, y4, y5, y6, y7, y8, y9, keepE, keepB, chk, CV.locs, CV.locv, CV.refs, CV.ref, pureOp, repC, takeN, resV, enterC, Nat.reduceAdd, Nat.reduceSub, Nat.reduceMul, Nat.reduceLeDiff, Nat.reduceLT, Nat.reduceBEq, Nat.reduceBNe, Nat.reduceEqDiff, ↓reduceIte, Int.reduceAdd, Int.reduceSub, Int.reduceMul, Int.reduceLT, Int.reduceLE, Int.reduceEq, Int.reduceNeg, Int.reduceToNat]
  | x :: s, p, acc, v, bl, hp, ha, hO => by
    have hs := hl.secs
    have hpl : p.length + 1 + s.length = l.secs.length := by rw [← hp]; simp; omega
    have h1 : ((p.length : Int) < l.secs.length) := by omega
    have hw := wrapN (n := p.length) (by omega)
    have hi : iaddrC 3 (sl fS l.secs) (.int .i64 p.length) = some (.vp (.int .i64 x.len :: .int .i64 x.a :: .int .i64 x.b :: s.flatMap fS)) := by rw [← hp]; exact iaddr_midS _ p s x
    unfold small at hs
    have key : ∃ v' bl', r05_Ends_R0 ([(1, .int .i64 at'), (2, .op (.loc 2) 0), (5, v), (6, .int .i64 p.length)], ⟨[(2, layC l)], bl⟩) =
        r05_Ends_R0 ([(1, .int .i64 at'), (2, .op (.loc 2) 0), (5, v'), (6, .int .i64 (p ++ [x]).length)], ⟨[(2, layC l)], bl'⟩) ∧ Own fE 2 bl' v' (acc ++ ((if x.a = at' then [⟨p.length, 0⟩] else []) ++ (if x.b = at' then [⟨p.length, 1⟩] else []))) := by
      rw [r05_Ends_R0_eq]
      by_cases hA : x.a = at'
      · obtain ⟨v1, bl1, e1, o1, _⟩ := hO.app1 flatE (bytes := 16) (zero := [.int .i64 0, .int .i64 0]) (by decide) rfl rfl ⟨p.length, 0⟩ (by omega)
        by_cases hB : x.b = at'
        · obtain ⟨v2, bl2, e2, o2, _⟩ := o1.app1 flatE (bytes := 16) (zero := [.int .i64 0, .int .i64 0]) (by decide) rfl rfl ⟨p.length, 1⟩ (by simp; omega)
          refine ⟨v2, bl2, ?_, by simpa [hA, hB] using o2⟩
          simp only [fE] at e1 e2
          simp only [r05_Ends_B0, r05_Ends_K0_norm, r05_Ends_K0_ret, r05_Ends_K0_exit, h1, hi, hA, hB, e1, e2, hw, o2.chkV, hO.chkV, o1.chkV, List.append_assoc, List.cons_append, List.nil_append, List.length_append, List.length_cons, List.length_nil, y1, y2, y3, y4, y5, y6, y7, y8, y9, keepE, keepB, chk, CV.locs, CV.locv, CV.refs, CV.ref, pureOp, repC, takeN, resV, enterC, Nat.reduceAdd, Nat.reduceSub, Nat.reduceMul, Nat.reduceLeDiff, Nat.reduceLT, Nat.reduceBEq, Nat.reduceBNe, Nat.reduceEqDiff, ↓reduceIte, Int.reduceAdd, Int.reduceSub, Int.reduceMul, Int.reduceLT, Int.reduceLE, Int.reduceEq, Int.reduceNeg, Int.reduceToNat]
        · refine ⟨v1, bl1, ?_, by simpa [hA, hB] using o1⟩
          simp only [fE] at e1
          simp only [r05_Ends_B0, r05_Ends_K0_norm, r05_Ends_K0_ret, r05_Ends_K0_exit, h1, hi, hA, hB, e1, hw, hO.chkV, o1.chkV, List.append_assoc, List.cons_append, List.nil_append, List.length_append, List.length_cons, List.length_nil, y1, y2, y3, y4, y5, y6, y7, y8, y9, keepE, keepB, chk, CV.locs, CV.locv, CV.refs, CV.ref, pureOp, repC, takeN, resV, enterC, Nat.reduceAdd, Nat.reduceSub, Nat.reduceMul, Nat.reduceLeDiff, Nat.reduceLT, Nat.reduceBEq, Nat.reduceBNe, Nat.reduceEqDiff, ↓reduceIte, Int.reduceAdd, Int.reduceSub, Int.reduceMul, Int.reduceLT, Int.reduceLE, Int.reduceEq, Int.reduceNeg, Int.reduceToNat]
      · by_cases hB : x.b = at'
        · obtain ⟨v2, bl2, e2, o2, _⟩ := hO.app1 flatE (bytes := 16) (zero := [.int .i64 0, .int .i64 0]) (by decide) rfl rfl ⟨p.length, 1⟩ (by omega)
          refine ⟨v2, bl2, ?_, by simpa [hA, hB] using o2⟩
          simp only [fE] at e2
          simp only [r05_Ends_B0, r05_Ends_K0_norm, r05_Ends_K0_ret, r05_Ends_K0_exit, h1, hi, hA, hB, e2, hw, o2.chkV, hO.chkV, List.append_assoc, List.cons_append, List.nil_append, List.length_append, List.length_cons, List.length_nil, y1, y2, y3, y4, y5, y6, y7, y8, y9, keepE, keepB, chk, CV.locs, CV.locv, CV.refs, CV.ref, pureOp, repC, takeN, resV, enterC, Nat.reduceAdd, Nat.reduceSub, Nat.reduceMul, Nat.reduceLeDiff, Nat.reduceLT, Nat.reduceBEq, Nat.reduceBNe, Nat.reduceEqDiff, ↓reduceIte, Int.reduceAdd, Int.reduceSub, Int.reduceMul, Int.reduceLT, Int.reduceLE, Int.reduceEq, Int.reduceNeg, Int.reduceToNat]
        · refine ⟨v, bl, ?_, by simpa [hA, hB] using hO⟩
          simp only [r05_Ends_B0, r05_Ends_K0_norm, r05_Ends_K0_ret, r05_Ends_K0_exit, h1, hi, hA, hB, hw, hO.chkV, List.append_assoc, List.cons_append, List.nil_append, List.length_append, List.length_cons, List.length_nil, y1, y2, y3, y4, y5, y6, y7, y8, y9, keepE, keepB, chk, CV.locs, CV.locv, CV.refs, CV.ref, pureOp, repC, takeN, resV, enterC, Nat.reduceAdd, Nat.reduceSub, Nat.reduceMul, Nat.reduceLeDiff, Nat.reduceLT, Nat.reduceBEq, Nat.reduceBNe, Nat.reduceEqDiff, ↓reduceIte, Int.reduceAdd, Int.reduceSub, Int.reduceMul, Int.reduceLT, Int.reduceLE, Int.reduceEq, Int.reduceNeg, Int.reduceToNat]
    obtain ⟨v1, bl1, e1, o1⟩ := key
    obtain ⟨v2, bl2, e2, o2⟩ := ends_loop l hl at' s (p ++ [x]) _ v1 bl1 (by simpa using hp) (by simp only [List.length_append, List.length_cons, List.length_nil]; split <;> split <;> simp <;> omega) o1
    refine ⟨v2, bl2, e1.trans e2, ?_⟩
    simpa [endsFrom] using o2

theorem snap_E (H : Heap) (st kn : Bool) (n : Nat) : ∀ x : Ed, ∀ c ∈ fE x, snapN H st kn (n + 1) c = some c := by
  intro x c hc
  simp only [fE, List.mem_cons, List.not_mem_nil, or_false] at hc
  rcases hc with rfl | rfl <;> rfl
theorem snap_I (H : Heap) (st kn : Bool) (n : Nat) : ∀ x : Int, ∀ c ∈ fI x, snapN H st kn (n + 1) c = some c := by
  intro x c hc
  simp only [fI, List.mem_cons, List.not_mem_nil, or_false] at hc
  subst hc
  rfl

theorem ends_F (l : Lay) (hl : l.ok) (at' : Int) (st : Bool) (H : Heap) : r05_Ends_F st H [.agg (layC l), .int .i64 at'] = some (sl fE (ends l at'), H) := by
  rw [r05_Ends_F_eq]
  obtain ⟨v, bl, e, o⟩ := ends_loop l hl at' l.secs [] [] .nils [] rfl (by simp) (Own.nil _ _ _)
  simp only [List.nil_append, List.length_nil, Int.natCast_zero] at e o
  simp only [r05_Ends_C, r05_Ends_L0_eq, e, o.snapV flatE _ _ _ (snap_E _ _ _ 6), ends, y1, y2, y3, y4, y5, y6, y7, y8, y9, keepE, keepB, chk, CV.locs, CV.locv, CV.refs, CV.ref, pureOp, repC, takeN, resV, enterC, Nat.reduceAdd, Nat.reduceSub, Nat.reduceMul, Nat.reduceLeDiff, Nat.reduceLT, Nat.reduceBEq, Nat.reduceBNe, Nat.reduceEqDiff, ↓reduceIte, Int.reduceAdd, Int.reduceSub, Int.reduceMul, Int.reduceLT, Int.reduceLE, Int.reduceEq, Int.reduceNeg, Int.reduceToNat]

theorem point_loop (l : Lay) (hl : l.ok) (at' : Int) : ∀ (s p : List Pt), p ++ s = l.pts →
    r05_Point_R0 ([(1, .int .i64 at'), (2, .op (.loc 2) 0), (5, .int .i64 p.length)], ⟨[(2, layC l)], []⟩) =
      match s.findIdx? (fun q => q.node == at') with
      | some i => some (.ret, [(4, .int .i64 ((p.length + i : Nat) : Int))], ⟨[(2, layC l)], []⟩)
      | none => some (.norm, [], ⟨[], []⟩)
  | [], p, hp => by
    have h1 : ¬ ((p.length : Int) < l.pts.length) := by rw [← hp]; simp
    rw [r05_Point_R0_eq]
    simp only [r05_Point_B0, r05_Point_K0_norm, r05_Point_K0_ret, r05_Point_K0_exit, h1, List.findIdx?_nil, y1, y2, y3, y4, y5, y6, y7, y8, y9, keepE, keepB, chk, CV.locs, CV.locv, CV.refs, CV.ref, pureOp, repC, takeN, resV, enterC, Nat.reduceAdd, Nat.reduceSub, Nat.reduceMul, Nat.reduceLeDiff, Nat.reduceLT, Nat.reduceBEq, Nat.reduceBNe, Nat.reduceEqDiff, ↓reduceIte, Int.reduceAdd, Int.reduceSub, Int.reduceMul, Int.reduceLT, Int.reduceLE, Int.reduceEq, Int.reduceNeg, Int.reduceToNat]
  | x :: s, p, hp => by
    have hs := hl.pts
    have hpl : p.length + 1 + s.length = l.pts.length := by rw [← hp]; simp; omega
    have h1 : ((p.length : Int) < l.pts.length) := by omega
    have hw := wrapN (n := p.length) (by omega)
    have hi : iaddrC 4 (sl fP l.pts) (.int .i64 p.length) = some (.vp (.int .i64 x.node :: .int .i64 x.stem :: .int .i64 x.left :: .int .i64 x.right :: s.flatMap fP)) := by rw [← hp]; exact iaddr_midP _ p s x
    have ih := point_loop l hl at' s (p ++ [x]) (by simpa using hp)
    rw [r05_Point_R0_eq]
    simp only [List.append_assoc, List.cons_append, List.nil_append, List.length_append, List.length_cons, List.length_nil] at ih
    simp only [r05_Point_B0, r05_Point_K0_norm, r05_Point_K0_ret, r05_Point_K0_exit, h1, hi, hw, y1, y2, y3, y4, y5, y6, y7, y8, y9, keepE, keepB, chk, CV.locs, CV.locv, CV.refs, CV.ref, pureOp, repC, takeN, resV, enterC, Nat.reduceAdd, Nat.reduceSub, Nat.reduceMul, Nat.reduceLeDiff, Nat.reduceLT, Nat.reduceBEq, Nat.reduceBNe, Nat.reduceEqDiff, ↓reduceIte, Int.reduceAdd, Int.reduceSub, Int.reduceMul, Int.reduceLT, Int.reduceLE, Int.reduceEq, Int.reduceNeg, Int.reduceToNat, ih]
    by_cases hA : x.node = at'
    · simp [hA, List.findIdx?_cons]
    · simp only [hA, if_false, List.findIdx?_cons, beq_iff_eq]
      cases hf : s.findIdx? (fun q => q.node == at') with
      | none => simp
      | some i => simp; omega

theorem point_F (l : Lay) (hl : l.ok) (at' : Int) (st : Bool) (H : Heap) : r05_Point_F st H [.agg (layC l), .int .i64 at'] = some (.int .i64 (match ptOf l at' with | some i => (i : Int) | none => -1), H) := by
  rw [r05_Point_F_eq]
  have e := point_loop l hl at' l.pts [] rfl
  simp only [List.nil_append, List.length_nil, Int.natCast_zero] at e
  simp only [r05_Point_C, r05_Point_L0_eq, e, ptOf, y1, y2, y3, y4, y5, y6, y7, y8, y9, keepE, keepB, chk, CV.locs, CV.locv, CV.refs, CV.ref, pureOp, repC, takeN, resV, enterC, Nat.reduceAdd, Nat.reduceSub, Nat.reduceMul, Nat.reduceLeDiff, Nat.reduceLT, Nat.reduceBEq, Nat.reduceBNe, Nat.reduceEqDiff, ↓reduceIte, Int.reduceAdd, Int.reduceSub, Int.reduceMul, Int.reduceLT, Int.reduceLE, Int.reduceEq, Int.reduceNeg, Int.reduceToNat]
  cases hf : l.pts.findIdx? (fun q => q.node == at') <;> simp only [y1, y2, y3, y4, y5, y6, y7, y8, y9, keepE, keepB, chk, CV.locs, CV.locv, CV.refs, CV.ref, pureOp, repC, takeN, resV, enterC, Nat.reduceAdd, Nat.reduceSub, Nat.reduceMul, Nat.reduceLeDiff, Nat.reduceLT, Nat.reduceBEq, Nat.reduceBNe, Nat.reduceEqDiff, ↓reduceIte, Int.reduceAdd, Int.reduceSub, Int.reduceMul, Int.reduceLT, Int.reduceLE, Int.reduceEq, Int.reduceNeg, Int.reduceToNat]
end Go.Proofs.Ytmkdhpjidhbijaa.Zt
