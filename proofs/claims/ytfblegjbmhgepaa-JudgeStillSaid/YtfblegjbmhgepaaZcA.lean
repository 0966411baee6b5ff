/- Walks: lists of numbers. -/
import Derived.Test.YtfblegjbmhgepaaZcT
import Derived.Test.YtfblegjbmhgepaaZcSet
set_option linter.all false
namespace Go.Proofs.Ytfblegjbmhgepaa.Zt
open Go Go.Zc
set_option maxRecDepth 10000

theorem ints_loop : ∀ (sa sb pa pb : List Int), pa.length = pb.length → sa.length = sb.length → (pa ++ sa).length ≤ small →
    r01_Ints_R0 ([(0, sl fI (pa ++ sa)), (1, sl fI (pb ++ sb)), (5, .int .i64 pa.length)], ⟨[], []⟩) = if sa = sb then some (.norm, [], ⟨[], []⟩) else some (.ret, [(4, .bool false)], ⟨[], []⟩)
  | [], [], pa, pb, hp, hs, hm => by
    rw [r01_Ints_R0_eq]
    simp only [r01_Ints_B0, r01_Ints_K0_norm, r01_Ints_K0_ret, r01_Ints_K0_exit, y1, y2, y3, y4, y5, y6, y7, y8, y9, keepE, keepB, chk, CV.locs, CV.locv, CV.refs, CV.ref, pureOp, repC, takeN, resV, enterC, Nat.reduceAdd, Nat.reduceSub, Nat.reduceMul, Nat.reduceLeDiff, Nat.reduceLT, Nat.reduceBEq, Nat.reduceBNe, Nat.reduceEqDiff, ↓reduceIte, Int.reduceAdd, Int.reduceSub, Int.reduceMul, Int.reduceLT, Int.reduceLE, Int.reduceEq, Int.reduceNeg, Int.reduceToNat]
  | x :: sa, y :: sb, pa, pb, hp, hs, hm => by
    rw [r01_Ints_R0_eq]
    have h1 : ((pa.length : Int) < (pa ++ x :: sa).length) := by simp; omega
    have h2 := iaddr_midI .i64 pb sb y
    rw [← hp] at h2
    have hw := wrapN (n := pa.length) (by simp at hm; omega)
    have ih := ints_loop sa sb (pa ++ [x]) (pb ++ [y]) (by simpa using hp) (by simpa using hs) (by simpa using hm)
    simp only [List.append_assoc, List.cons_append, List.nil_append, List.length_append, List.length_cons, List.length_nil] at ih
    simp only [r01_Ints_B0, r01_Ints_K0_norm, r01_Ints_K0_ret, r01_Ints_K0_exit, h1, iaddr_midI, h2, hw, y1, y2, y3, y4, y5, y6, y7, y8, y9, keepE, keepB, chk, CV.locs, CV.locv, CV.refs, CV.ref, pureOp, repC, takeN, resV, enterC, Nat.reduceAdd, Nat.reduceSub, Nat.reduceMul, Nat.reduceLeDiff, Nat.reduceLT, Nat.reduceBEq, Nat.reduceBNe, Nat.reduceEqDiff, ↓reduceIte, Int.reduceAdd, Int.reduceSub, Int.reduceMul, Int.reduceLT, Int.reduceLE, Int.reduceEq, Int.reduceNeg, Int.reduceToNat, ih]
    by_cases he : x = y <;> simp [he]

theorem ints_F (a b : List Int) (hm : a.length ≤ small) (st : Bool) (H : Heap) : r01_Ints_F st H [sl fI a, sl fI b] = some (.bool (decide (a = b)), H) := by
  rw [r01_Ints_F_eq]
  by_cases hl : a.length = b.length
  · have := ints_loop a b [] [] rfl hl hm
    simp only [List.nil_append, List.length_nil, Int.natCast_zero] at this
    simp only [r01_Ints_C, r01_Ints_L0_eq, this, hl, y1, y2, y3, y4, y5, y6, y7, y8, y9, keepE, keepB, chk, CV.locs, CV.locv, CV.refs, CV.ref, pureOp, repC, takeN, resV, enterC, Nat.reduceAdd, Nat.reduceSub, Nat.reduceMul, Nat.reduceLeDiff, Nat.reduceLT, Nat.reduceBEq, Nat.reduceBNe, Nat.reduceEqDiff, ↓reduceIte, Int.reduceAdd, Int.reduceSub, Int.reduceMul, Int.reduceLT, Int.reduceLE, Int.reduceEq, Int.reduceNeg, Int.reduceToNat]
    by_cases he : a = b <;> simp only [he, y1, y2, y3, y4, y5, y6, y7, y8, y9, keepE, keepB, chk, CV.locs, CV.locv, CV.refs, CV.ref, pureOp, repC, takeN, resV, enterC, Nat.reduceAdd, Nat.reduceSub, Nat.reduceMul, Nat.reduceLeDiff, Nat.reduceLT, Nat.reduceBEq, Nat.reduceBNe, Nat.reduceEqDiff, ↓reduceIte, Int.reduceAdd, Int.reduceSub, Int.reduceMul, Int.reduceLT, Int.reduceLE, Int.reduceEq, Int.reduceNeg, Int.reduceToNat]
  · have hl' : ¬ ((a.length : Int) = b.length) := by omega
    have he : a ≠ b := fun h => hl (by rw [h])
    simp only [r01_Ints_C, hl', he, y1, y2, y3, y4, y5, y6, y7, y8, y9, keepE, keepB, chk, CV.locs, CV.locv, CV.refs, CV.ref, pureOp, repC, takeN, resV, enterC, Nat.reduceAdd, Nat.reduceSub, Nat.reduceMul, Nat.reduceLeDiff, Nat.reduceLT, Nat.reduceBEq, Nat.reduceBNe, Nat.reduceEqDiff, ↓reduceIte, Int.reduceAdd, Int.reduceSub, Int.reduceMul, Int.reduceLT, Int.reduceLE, Int.reduceEq, Int.reduceNeg, Int.reduceToNat]

theorem has_loop (n : Int) : ∀ (s p : List Int), (p ++ s).length ≤ small →
    r01_Has_R0 ([(0, sl fI (p ++ s)), (1, .int .i64 n), (5, .int .i64 p.length)], ⟨[], []⟩) = if n ∈ s then some (.ret, [(4, .bool true)], ⟨[], []⟩) else some (.norm, [], ⟨[], []⟩)
  | [], p, hm => by
    rw [r01_Has_R0_eq]
    simp only [r01_Has_B0, r01_Has_K0_norm, r01_Has_K0_ret, r01_Has_K0_exit, List.not_mem_nil, y1, y2, y3, y4, y5, y6, y7, y8, y9, keepE, keepB, chk, CV.locs, CV.locv, CV.refs, CV.ref, pureOp, repC, takeN, resV, enterC, Nat.reduceAdd, Nat.reduceSub, Nat.reduceMul, Nat.reduceLeDiff, Nat.reduceLT, Nat.reduceBEq, Nat.reduceBNe, Nat.reduceEqDiff, ↓reduceIte, Int.reduceAdd, Int.reduceSub, Int.reduceMul, Int.reduceLT, Int.reduceLE, Int.reduceEq, Int.reduceNeg, Int.reduceToNat]
  | x :: s, p, hm => by
    rw [r01_Has_R0_eq]
    have h1 : ((p.length : Int) < (p ++ x :: s).length) := by simp; omega
    have hw := wrapN (n := p.length) (by simp at hm; omega)
    have ih := has_loop n s (p ++ [x]) (by simpa using hm)
    simp only [List.append_assoc, List.cons_append, List.nil_append, List.length_append, List.length_cons, List.length_nil] at ih
    simp only [r01_Has_B0, r01_Has_K0_norm, r01_Has_K0_ret, r01_Has_K0_exit, h1, iaddr_midI, hw, y1, y2, y3, y4, y5, y6, y7, y8, y9, keepE, keepB, chk, CV.locs, CV.locv, CV.refs, CV.ref, pureOp, repC, takeN, resV, enterC, Nat.reduceAdd, Nat.reduceSub, Nat.reduceMul, Nat.reduceLeDiff, Nat.reduceLT, Nat.reduceBEq, Nat.reduceBNe, Nat.reduceEqDiff, ↓reduceIte, Int.reduceAdd, Int.reduceSub, Int.reduceMul, Int.reduceLT, Int.reduceLE, Int.reduceEq, Int.reduceNeg, Int.reduceToNat, ih]
    by_cases he : x = n
    · simp [he]
    · have : n ≠ x := fun h => he h.symm
      simp [he, this]

theorem has_F (a : List Int) (n : Int) (hm : a.length ≤ small) (st : Bool) (H : Heap) : r01_Has_F st H [sl fI a, .int .i64 n] = some (.bool (decide (n ∈ a)), H) := by
  rw [r01_Has_F_eq]
  have := has_loop n a [] hm
  simp only [List.nil_append, List.length_nil, Int.natCast_zero] at this
  simp only [r01_Has_C, r01_Has_L0_eq, this, y1, y2, y3, y4, y5, y6, y7, y8, y9, keepE, keepB, chk, CV.locs, CV.locv, CV.refs, CV.ref, pureOp, repC, takeN, resV, enterC, Nat.reduceAdd, Nat.reduceSub, Nat.reduceMul, Nat.reduceLeDiff, Nat.reduceLT, Nat.reduceBEq, Nat.reduceBNe, Nat.reduceEqDiff, ↓reduceIte, Int.reduceAdd, Int.reduceSub, Int.reduceMul, Int.reduceLT, Int.reduceLE, Int.reduceEq, Int.reduceNeg, Int.reduceToNat]
  by_cases he : n ∈ a <;> simp only [he, y1, y2, y3, y4, y5, y6, y7, y8, y9, keepE, keepB, chk, CV.locs, CV.locv, CV.refs, CV.ref, pureOp, repC, takeN, resV, enterC, Nat.reduceAdd, Nat.reduceSub, Nat.reduceMul, Nat.reduceLeDiff, Nat.reduceLT, Nat.reduceBEq, Nat.reduceBNe, Nat.reduceEqDiff, ↓reduceIte, Int.reduceAdd, Int.reduceSub, Int.reduceMul, Int.reduceLT, Int.reduceLE, Int.reduceEq, Int.reduceNeg, Int.reduceToNat]
end Go.Proofs.Ytfblegjbmhgepaa.Zt

/- Walks: the reference's track. -/
namespace Go.Proofs.Ytfblegjbmhgepaa.Zt
open Go Go.Zc
set_option maxRecDepth 10000

theorem node_F (l : Lay) (x : Ed) (st : Bool) (H : Heap) : r05_node_F st H [.agg (layC l), .agg (fE x)] = some (.tup [.int .i64 ((nodeOf l x).getD 0), .bool (nodeOf l x).isSome], H) := by
  rw [r05_node_F_eq]
  obtain ⟨s, e⟩ := x
  by_cases h1 : s < 0
  · have hn : nodeOf l ⟨s, e⟩ = none := by simp only [nodeOf, if_neg (show ¬ 0 ≤ s by omega), Option.bind_none]
    simp only [r05_node_C, fE, h1, hn, Option.getD_none, y1, y2, y3, y4, y5, y6, y7, y8, y9, keepE, keepB, chk, CV.locs, CV.locv, CV.refs, CV.ref, pureOp, repC, takeN, resV, enterC, Nat.reduceAdd, Nat.reduceSub, Nat.reduceMul, Nat.reduceLeDiff, Nat.reduceLT, Nat.reduceBEq, Nat.reduceBNe, Nat.reduceEqDiff, ↓reduceIte, Int.reduceAdd, Int.reduceSub, Int.reduceMul, Int.reduceLT, Int.reduceLE, Int.reduceEq, Int.reduceNeg, Int.reduceToNat]
  · obtain ⟨n, rfl⟩ := Int.eq_ofNat_of_zero_le (show 0 ≤ s by omega)
    by_cases h2 : l.secs.length ≤ n
    · have hn : nodeOf l ⟨n, e⟩ = none := by simp [nodeOf, List.getElem?_eq_none h2]
      have h2' : ((l.secs.length : Int) ≤ n) := by omega
      simp only [r05_node_C, fE, h1, h2', hn, Option.getD_none, y1, y2, y3, y4, y5, y6, y7, y8, y9, keepE, keepB, chk, CV.locs, CV.locv, CV.refs, CV.ref, pureOp, repC, takeN, resV, enterC, Nat.reduceAdd, Nat.reduceSub, Nat.reduceMul, Nat.reduceLeDiff, Nat.reduceLT, Nat.reduceBEq, Nat.reduceBNe, Nat.reduceEqDiff, ↓reduceIte, Int.reduceAdd, Int.reduceSub, Int.reduceMul, Int.reduceLT, Int.reduceLE, Int.reduceEq, Int.reduceNeg, Int.reduceToNat]
    · have h2' : ¬ ((l.secs.length : Int) ≤ n) := by omega
      have hlt : n < l.secs.length := by omega
      by_cases h3 : e = 0
      · subst h3
        have hn : nodeOf l ⟨n, 0⟩ = some l.secs[n].a := by simp [nodeOf, List.getElem?_eq_getElem hlt]
        simp only [r05_node_C, fE, h1, h2', hn, Option.getD_some, Option.isSome_some, iaddr_atS hlt, y1, y2, y3, y4, y5, y6, y7, y8, y9, keepE, keepB, chk, CV.locs, CV.locv, CV.refs, CV.ref, pureOp, repC, takeN, resV, enterC, Nat.reduceAdd, Nat.reduceSub, Nat.reduceMul, Nat.reduceLeDiff, Nat.reduceLT, Nat.reduceBEq, Nat.reduceBNe, Nat.reduceEqDiff, ↓reduceIte, Int.reduceAdd, Int.reduceSub, Int.reduceMul, Int.reduceLT, Int.reduceLE, Int.reduceEq, Int.reduceNeg, Int.reduceToNat]
      · by_cases h4 : e = 1
        · subst h4
          have hn : nodeOf l ⟨n, 1⟩ = some l.secs[n].b := by simp [nodeOf, List.getElem?_eq_getElem hlt]
          simp only [r05_node_C, fE, h1, h2', hn, Option.getD_some, Option.isSome_some, iaddr_atS hlt, y1, y2, y3, y4, y5, y6, y7, y8, y9, keepE, keepB, chk, CV.locs, CV.locv, CV.refs, CV.ref, pureOp, repC, takeN, resV, enterC, Nat.reduceAdd, Nat.reduceSub, Nat.reduceMul, Nat.reduceLeDiff, Nat.reduceLT, Nat.reduceBEq, Nat.reduceBNe, Nat.reduceEqDiff, ↓reduceIte, Int.reduceAdd, Int.reduceSub, Int.reduceMul, Int.reduceLT, Int.reduceLE, Int.reduceEq, Int.reduceNeg, Int.reduceToNat]
        · have hn : nodeOf l ⟨n, e⟩ = none := by simp [nodeOf, List.getElem?_eq_getElem hlt, h3, h4]
          by_cases h5 : e < 0
          · simp only [r05_node_C, fE, h1, h2', h5, hn, Option.getD_none, y1, y2, y3, y4, y5, y6, y7, y8, y9, keepE, keepB, chk, CV.locs, CV.locv, CV.refs, CV.ref, pureOp, repC, takeN, resV, enterC, Nat.reduceAdd, Nat.reduceSub, Nat.reduceMul, Nat.reduceLeDiff, Nat.reduceLT, Nat.reduceBEq, Nat.reduceBNe, Nat.reduceEqDiff, ↓reduceIte, Int.reduceAdd, Int.reduceSub, Int.reduceMul, Int.reduceLT, Int.reduceLE, Int.reduceEq, Int.reduceNeg, Int.reduceToNat]
          · have h6 : 1 < e := by omega
            simp only [r05_node_C, fE, h1, h2', h5, h6, hn, Option.getD_none, y1, y2, y3, y4, y5, y6, y7, y8, y9, keepE, keepB, chk, CV.locs, CV.locv, CV.refs, CV.ref, pureOp, repC, takeN, resV, enterC, Nat.reduceAdd, Nat.reduceSub, Nat.reduceMul, Nat.reduceLeDiff, Nat.reduceLT, Nat.reduceBEq, Nat.reduceBNe, Nat.reduceEqDiff, ↓reduceIte, Int.reduceAdd, Int.reduceSub, Int.reduceMul, Int.reduceLT, Int.reduceLE, Int.reduceEq, Int.reduceNeg, Int.reduceToNat]

theorem ends_loop (l : Lay) (hl : l.ok) (at' : Int) : ∀ (s p : List Sec) (acc : List Ed) (v : CV) (bl : List Blk), p ++ s = l.secs → acc.length ≤ 2 * p.length → Own fE 2 bl v acc →
    ∃ v' bl', r05_Ends_R0 ([(1, .int .i64 at'), (2, .op (.loc 2) 0), (5, v), (6, .int .i64 p.length)], ⟨[(2, layC l)], bl⟩) = some (.norm, [(5, v')], ⟨[], bl'⟩) ∧ Own fE 2 bl' v' (acc ++ endsFrom at' p.length s)
  | [], p, acc, v, bl, hp, ha, hO => by
    refine ⟨v, bl, ?_, by simpa [endsFrom] using hO⟩
    rw [r05_Ends_R0_eq]
    have h1 : ¬ ((p.length : Int) < l.secs.length) := by rw [← hp]; simp
    simp only [r05_Ends_B0, r05_Ends_K0_norm, r05_Ends_K0_ret, r05_Ends_K0_exit, h1, hO.chkV, y1, y2, y3, y4, y5, y6, y7, y8, y9, keepE, keepB, chk, CV.locs, CV.locv, CV.refs, CV.ref, pureOp, repC, takeN, resV, enterC, Nat.reduceAdd, Nat.reduceSub, Nat.reduceMul, Nat.reduceLeDiff, Nat.reduceLT, Nat.reduceBEq, Nat.reduceBNe, Nat.reduceEqDiff, ↓reduceIte, Int.reduceAdd, Int.reduceSub, Int.reduceMul, Int.reduceLT, Int.reduceLE, Int.reduceEq, Int.reduceNeg, Int.reduceToNat]
  | x :: s, p, acc, v, bl, hp, ha, hO => by
    have hs := hl.secs
    have hpl : p.length + 1 + s.length = l.secs.length := by rw [← hp]; simp; omega
    have h1 : ((p.length : Int) < l.secs.length) := by omega
    have hw := wrapN (n := p.length) (by omega)
    have hi : iaddrC 3 (sl fS l.secs) (.int .i64 p.length) = some (.vp (.int .i64 x.len :: .int .i64 x.a :: .int .i64 x.b :: s.flatMap fS)) := by rw [← hp]; exact iaddr_midS _ p s x
    unfold small at hs
    have key : ∃ v' bl', r05_Ends_R0 ([(1, .int .i64 at'), (2, .op (.loc 2) 0), (5, v), (6, .int .i64 p.length)], ⟨[(2, layC l)], bl⟩) =
        r05_Ends_R0 ([(1, .int .i64 at'), (2, .op (.loc 2) 0), (5, v'), (6, .int .i64 (p ++ [x]).length)], ⟨[(2, layC l)], bl'⟩) ∧ Own fE 2 bl' v' (acc ++ ((if x.a = at' then [⟨p.length, 0⟩] else []) ++ (if x.b = at' then [⟨p.length, 1⟩] else []))) := by
      rw [r05_Ends_R0_eq]
      by_cases hA : x.a = at'
      · obtain ⟨v1, bl1, e1, o1, _⟩ := hO.app1 flatE (bytes := 16) (zero := [.int .i64 0, .int .i64 0]) (by decide) rfl rfl ⟨p.length, 0⟩ (by omega)
        by_cases hB : x.b = at'
        · obtain ⟨v2, bl2, e2, o2, _⟩ := o1.app1 flatE (bytes := 16) (zero := [.int .i64 0, .int .i64 0]) (by decide) rfl rfl ⟨p.length, 1⟩ (by simp; omega)
          refine ⟨v2, bl2, ?_, by simpa [hA, hB] using o2⟩
          simp only [fE] at e1 e2
          simp only [r05_Ends_B0, r05_Ends_K0_norm, r05_Ends_K0_ret, r05_Ends_K0_exit, h1, hi, hA, hB, e1, e2, hw, o2.chkV, hO.chkV, o1.chkV, List.append_assoc, List.cons_append, List.nil_append, List.length_append, List.length_cons, List.length_nil, y1, y2, y3, y4, y5, y6, y7, y8, y9, keepE, keepB, chk, CV.locs, CV.locv, CV.refs, CV.ref, pureOp, repC, takeN, resV, enterC, Nat.reduceAdd, Nat.reduceSub, Nat.reduceMul, Nat.reduceLeDiff, Nat.reduceLT, Nat.reduceBEq, Nat.reduceBNe, Nat.reduceEqDiff, ↓reduceIte, Int.reduceAdd, Int.reduceSub, Int.reduceMul, Int.reduceLT, Int.reduceLE, Int.reduceEq, Int.reduceNeg, Int.reduceToNat]
        · refine ⟨v1, bl1, ?_, by simpa [hA, hB] using o1⟩
          simp only [fE] at e1
          simp only [r05_Ends_B0, r05_Ends_K0_norm, r05_Ends_K0_ret, r05_Ends_K0_exit, h1, hi, hA, hB, e1, hw, hO.chkV, o1.chkV, List.append_assoc, List.cons_append, List.nil_append, List.length_append, List.length_cons, List.length_nil, y1, y2, y3, y4, y5, y6, y7, y8, y9, keepE, keepB, chk, CV.locs, CV.locv, CV.refs, CV.ref, pureOp, repC, takeN, resV, enterC, Nat.reduceAdd, Nat.reduceSub, Nat.reduceMul, Nat.reduceLeDiff, Nat.reduceLT, Nat.reduceBEq, Nat.reduceBNe, Nat.reduceEqDiff, ↓reduceIte, Int.reduceAdd, Int.reduceSub, Int.reduceMul, Int.reduceLT, Int.reduceLE, Int.reduceEq, Int.reduceNeg, Int.reduceToNat]
      · by_cases hB : x.b = at'
        · obtain ⟨v2, bl2, e2, o2, _⟩ := hO.app1 flatE (bytes := 16) (zero := [.int .i64 0, .int .i64 0]) (by decide) rfl rfl ⟨p.length, 1⟩ (by omega)
          refine ⟨v2, bl2, ?_, by simpa [hA, hB] using o2⟩
          simp only [fE] at e2
          simp only [r05_Ends_B0, r05_Ends_K0_norm, r05_Ends_K0_ret, r05_Ends_K0_exit, h1, hi, hA, hB, e2, hw, o2.chkV, hO.chkV, List.append_assoc, List.cons_append, List.nil_append, List.length_append, List.length_cons, List.length_nil, y1, y2, y3, y4, y5, y6, y7, y8, y9, keepE, keepB, chk, CV.locs, CV.locv, CV.refs, CV.ref, pureOp, repC, takeN, resV, enterC, Nat.reduceAdd, Nat.reduceSub, Nat.reduceMul, Nat.reduceLeDiff, Nat.reduceLT, Nat.reduceBEq, Nat.reduceBNe, Nat.reduceEqDiff, ↓reduceIte, Int.reduceAdd, Int.reduceSub, Int.reduceMul, Int.reduceLT, Int.reduceLE, Int.reduceEq, Int.reduceNeg, Int.reduceToNat]
        · refine ⟨v, bl, ?_, by simpa [hA, hB] using hO⟩
          simp only [r05_Ends_B0, r05_Ends_K0_norm, r05_Ends_K0_ret, r05_Ends_K0_exit, h1, hi, hA, hB, hw, hO.chkV, List.append_assoc, List.cons_append, List.nil_append, List.length_append, List.length_cons, List.length_nil, y1, y2, y3, y4, y5, y6, y7, y8, y9, keepE, keepB, chk, CV.locs, CV.locv, CV.refs, CV.ref, pureOp, repC, takeN, resV, enterC, Nat.reduceAdd, Nat.reduceSub, Nat.reduceMul, Nat.reduceLeDiff, Nat.reduceLT, Nat.reduceBEq, Nat.reduceBNe, Nat.reduceEqDiff, ↓reduceIte, Int.reduceAdd, Int.reduceSub, Int.reduceMul, Int.reduceLT, Int.reduceLE, Int.reduceEq, Int.reduceNeg, Int.reduceToNat]
    obtain ⟨v1, bl1, e1, o1⟩ := key
    obtain ⟨v2, bl2, e2, o2⟩ := ends_loop l hl at' s (p ++ [x]) _ v1 bl1 (by simpa using hp) (by simp only [List.length_append, List.length_cons, List.length_nil]; split <;> split <;> simp <;> omega) o1
    refine ⟨v2, bl2, e1.trans e2, ?_⟩
    simpa [endsFrom] using o2

theorem snap_E (H : Heap) (st kn : Bool) (n : Nat) : ∀ x : Ed, ∀ c ∈ fE x, snapN H st kn (n + 1) c = some c := by
  intro x c hc
  simp only [fE, List.mem_cons, List.not_mem_nil, or_false] at hc
  rcases hc with rfl | rfl <;> rfl
theorem snap_I (H : Heap) (st kn : Bool) (n : Nat) : ∀ x : Int, ∀ c ∈ fI x, snapN H st kn (n + 1) c = some c := by
  intro x c hc
  simp only [fI, List.mem_cons, List.not_mem_nil, or_false] at hc
  subst hc
  rfl

theorem ends_F (l : Lay) (hl : l.ok) (at' : Int) (st : Bool) (H : Heap) : r05_Ends_F st H [.agg (layC l), .int .i64 at'] = some (sl fE (ends l at'), H) := by
  rw [r05_Ends_F_eq]
  obtain ⟨v, bl, e, o⟩ := ends_loop l hl at' l.secs [] [] .nils [] rfl (by simp) (Own.nil _ _ _)
  simp only [List.nil_append, List.length_nil, Int.natCast_zero] at e o
  simp only [r05_Ends_C, r05_Ends_L0_eq, e, o.snapV flatE _ _ _ (snap_E _ _ _ 6), ends, y1, y2, y3, y4, y5, y6, y7, y8, y9, keepE, keepB, chk, CV.locs, CV.locv, CV.refs, CV.ref, pureOp, repC, takeN, resV, enterC, Nat.reduceAdd, Nat.reduceSub, Nat.reduceMul, Nat.reduceLeDiff, Nat.reduceLT, Nat.reduceBEq, Nat.reduceBNe, Nat.reduceEqDiff, ↓reduceIte, Int.reduceAdd, Int.reduceSub, Int.reduceMul, Int.reduceLT, Int.reduceLE, Int.reduceEq, Int.reduceNeg, Int.reduceToNat]

theorem point_loop (l : Lay) (hl : l.ok) (at' : Int) : ∀ (s p : List Pt), p ++ s = l.pts →
    r05_Point_R0 ([(1, .int .i64 at'), (2, .op (.loc 2) 0), (5, .int .i64 p.length)], ⟨[(2, layC l)], []⟩) =
      match s.findIdx? (fun q => q.node == at') with
      | some i => some (.ret, [(4, .int .i64 ((p.length + i : Nat) : Int))], ⟨[(2, layC l)], []⟩)
      | none => some (.norm, [], ⟨[], []⟩)
  | [], p, hp => by
    have h1 : ¬ ((p.length : Int) < l.pts.length) := by rw [← hp]; simp
    rw [r05_Point_R0_eq]
    simp only [r05_Point_B0, r05_Point_K0_norm, r05_Point_K0_ret, r05_Point_K0_exit, h1, List.findIdx?_nil, y1, y2, y3, y4, y5, y6, y7, y8, y9, keepE, keepB, chk, CV.locs, CV.locv, CV.refs, CV.ref, pureOp, repC, takeN, resV, enterC, Nat.reduceAdd, Nat.reduceSub, Nat.reduceMul, Nat.reduceLeDiff, Nat.reduceLT, Nat.reduceBEq, Nat.reduceBNe, Nat.reduceEqDiff, ↓reduceIte, Int.reduceAdd, Int.reduceSub, Int.reduceMul, Int.reduceLT, Int.reduceLE, Int.reduceEq, Int.reduceNeg, Int.reduceToNat]
  | x :: s, p, hp => by
    have hs := hl.pts
    have hpl : p.length + 1 + s.length = l.pts.length := by rw [← hp]; simp; omega
    have h1 : ((p.length : Int) < l.pts.length) := by omega
    have hw := wrapN (n := p.length) (by omega)
    have hi : iaddrC 4 (sl fP l.pts) (.int .i64 p.length) = some (.vp (.int .i64 x.node :: .int .i64 x.stem :: .int .i64 x.left :: .int .i64 x.right :: s.flatMap fP)) := by rw [← hp]; exact iaddr_midP _ p s x
    have ih := point_loop l hl at' s (p ++ [x]) (by simpa using hp)
    rw [r05_Point_R0_eq]
    simp only [List.append_assoc, List.cons_append, List.nil_append, List.length_append, List.length_cons, List.length_nil] at ih
    simp only [r05_Point_B0, r05_Point_K0_norm, r05_Point_K0_ret, r05_Point_K0_exit, h1, hi, hw, y1, y2, y3, y4, y5, y6, y7, y8, y9, keepE, keepB, chk, CV.locs, CV.locv, CV.refs, CV.ref, pureOp, repC, takeN, resV, enterC, Nat.reduceAdd, Nat.reduceSub, Nat.reduceMul, Nat.reduceLeDiff, Nat.reduceLT, Nat.reduceBEq, Nat.reduceBNe, Nat.reduceEqDiff, ↓reduceIte, Int.reduceAdd, Int.reduceSub, Int.reduceMul, Int.reduceLT, Int.reduceLE, Int.reduceEq, Int.reduceNeg, Int.reduceToNat, ih]
    by_cases hA : x.node = at'
    · simp [hA, List.findIdx?_cons]
    · simp only [hA, if_false, List.findIdx?_cons, beq_iff_eq]
      cases hf : s.findIdx? (fun q => q.node == at') with
      | none => simp
      | some i => simp; omega

theorem point_F (l : Lay) (hl : l.ok) (at' : Int) (st : Bool) (H : Heap) : r05_Point_F st H [.agg (layC l), .int .i64 at'] = some (.int .i64 (match ptOf l at' with | some i => (i : Int) | none => -1), H) := by
  rw [r05_Point_F_eq]
  have e := point_loop l hl at' l.pts [] rfl
  simp only [List.nil_append, List.length_nil, Int.natCast_zero] at e
  simp only [r05_Point_C, r05_Point_L0_eq, e, ptOf, y1, y2, y3, y4, y5, y6, y7, y8, y9, keepE, keepB, chk, CV.locs, CV.locv, CV.refs, CV.ref, pureOp, repC, takeN, resV, enterC, Nat.reduceAdd, Nat.reduceSub, Nat.reduceMul, Nat.reduceLeDiff, Nat.reduceLT, Nat.reduceBEq, Nat.reduceBNe, Nat.reduceEqDiff, ↓reduceIte, Int.reduceAdd, Int.reduceSub, Int.reduceMul, Int.reduceLT, Int.reduceLE, Int.reduceEq, Int.reduceNeg, Int.reduceToNat]
  cases hf : l.pts.findIdx? (fun q => q.node == at') <;> simp only [y1, y2, y3, y4, y5, y6, y7, y8, y9, keepE, keepB, chk, CV.locs, CV.locv, CV.refs, CV.ref, pureOp, repC, takeN, resV, enterC, Nat.reduceAdd, Nat.reduceSub, Nat.reduceMul, Nat.reduceLeDiff, Nat.reduceLT, Nat.reduceBEq, Nat.reduceBNe, Nat.reduceEqDiff, ↓reduceIte, Int.reduceAdd, Int.reduceSub, Int.reduceMul, Int.reduceLT, Int.reduceLE, Int.reduceEq, Int.reduceNeg, Int.reduceToNat]
end Go.Proofs.Ytfblegjbmhgepaa.Zt

/- Walks: the reference's track, around and along. -/
namespace Go.Proofs.Ytfblegjbmhgepaa.Zt
open Go Go.Zc
set_option maxRecDepth 10000

theorem one_loop (sec : Int) : ∀ (s p : List Ed), (p ++ s).length ≤ 2 * small →
    r05_one_R0 ([(1, .int .i64 sec), (7, sl fE (p ++ s)), (8, .int .i64 p.length)], ⟨[], []⟩) =
      match s.find? (fun x => x.s == sec) with
      | some x => some (.ret, [(6, sl fE [x])], ⟨[], []⟩)
      | none => some (.norm, [], ⟨[], []⟩)
  | [], p, hm => by
    rw [r05_one_R0_eq]
    simp only [r05_one_B0, r05_one_K0_norm, r05_one_K0_ret, r05_one_K0_exit, List.find?_nil, y1, y2, y3, y4, y5, y6, y7, y8, y9, keepE, keepB, chk, CV.locs, CV.locv, CV.refs, CV.ref, pureOp, repC, takeN, resV, enterC, Nat.reduceAdd, Nat.reduceSub, Nat.reduceMul, Nat.reduceLeDiff, Nat.reduceLT, Nat.reduceBEq, Nat.reduceBNe, Nat.reduceEqDiff, ↓reduceIte, Int.reduceAdd, Int.reduceSub, Int.reduceMul, Int.reduceLT, Int.reduceLE, Int.reduceEq, Int.reduceNeg, Int.reduceToNat]
  | x :: s, p, hm => by
    rw [r05_one_R0_eq]
    have h1 : ((p.length : Int) < (p ++ x :: s).length) := by simp; omega
    have hw := wrapN (n := p.length) (by simp at hm; omega)
    have ih := one_loop sec s (p ++ [x]) (by simpa using hm)
    have hs := slc_sl flatE (p ++ x :: s) p.length (p.length + 1) (by omega) (by simp) .i64 .i64
    have ht : ((p ++ x :: s).take (p.length + 1)).drop p.length = [x] := by simp [List.take_append]
    rw [ht] at hs
    simp only [List.append_assoc, List.cons_append, List.nil_append, List.length_append, List.length_cons, List.length_nil] at ih
    simp only [r05_one_B0, r05_one_K0_norm, r05_one_K0_ret, r05_one_K0_exit, h1, iaddr_midE, hw, hs, y1, y2, y3, y4, y5, y6, y7, y8, y9, keepE, keepB, chk, CV.locs, CV.locv, CV.refs, CV.ref, pureOp, repC, takeN, resV, enterC, Nat.reduceAdd, Nat.reduceSub, Nat.reduceMul, Nat.reduceLeDiff, Nat.reduceLT, Nat.reduceBEq, Nat.reduceBNe, Nat.reduceEqDiff, ↓reduceIte, Int.reduceAdd, Int.reduceSub, Int.reduceMul, Int.reduceLT, Int.reduceLE, Int.reduceEq, Int.reduceNeg, Int.reduceToNat, ih]
    by_cases he : x.s = sec
    · simp [he]
    · simp [he]

theorem one_F (l : Lay) (hl : l.ok) (sec at' : Int) (H : Heap) : r05_one_F false H [.agg (layC l), .int .i64 sec, .int .i64 at'] = some (sl fE (oneOf l sec at'), H) := by
  rw [r05_one_F_eq]
  have e := one_loop sec (ends l at') [] (ends_len hl at')
  simp only [List.nil_append, List.length_nil, Int.natCast_zero] at e
  simp only [r05_one_C, r05_one_L0_eq, r05_Ends_call, ends_F l hl, e, oneOf, y1, y2, y3, y4, y5, y6, y7, y8, y9, keepE, keepB, chk, CV.locs, CV.locv, CV.refs, CV.ref, pureOp, repC, takeN, resV, enterC, Nat.reduceAdd, Nat.reduceSub, Nat.reduceMul, Nat.reduceLeDiff, Nat.reduceLT, Nat.reduceBEq, Nat.reduceBNe, Nat.reduceEqDiff, ↓reduceIte, Int.reduceAdd, Int.reduceSub, Int.reduceMul, Int.reduceLT, Int.reduceLE, Int.reduceEq, Int.reduceNeg, Int.reduceToNat]
  cases hf : (ends l at').find? (fun x => x.s == sec) <;> simp only [sl_nil fE, y1, y2, y3, y4, y5, y6, y7, y8, y9, keepE, keepB, chk, CV.locs, CV.locv, CV.refs, CV.ref, pureOp, repC, takeN, resV, enterC, Nat.reduceAdd, Nat.reduceSub, Nat.reduceMul, Nat.reduceLeDiff, Nat.reduceLT, Nat.reduceBEq, Nat.reduceBNe, Nat.reduceEqDiff, ↓reduceIte, Int.reduceAdd, Int.reduceSub, Int.reduceMul, Int.reduceLT, Int.reduceLE, Int.reduceEq, Int.reduceNeg, Int.reduceToNat]

theorem around_loop (x : Ed) : ∀ (s p acc : List Ed) (v : CV) (bl : List Blk), (p ++ s).length ≤ 2 * small → acc.length ≤ p.length → Own fE 2 bl v acc →
    ∃ v' bl', r05_Around_R0 ([(3, .op (.loc 3) 0), (8, v), (10, sl fE (p ++ s)), (11, .int .i64 p.length)], ⟨[(3, fE x)], bl⟩) = some (.norm, [(8, v')], ⟨[], bl'⟩) ∧ Own fE 2 bl' v' (acc ++ s.filter fun y => y ≠ x)
  | [], p, acc, v, bl, hm, ha, hO => by
    refine ⟨v, bl, ?_, by simpa using hO⟩
    rw [r05_Around_R0_eq]
    simp only [r05_Around_B0, r05_Around_K0_norm, r05_Around_K0_ret, r05_Around_K0_exit, fE, hO.chkV, y1, y2, y3, y4, y5, y6, y7, y8, y9, keepE, keepB, chk, CV.locs, CV.locv, CV.refs, CV.ref, pureOp, repC, takeN, resV, enterC, Nat.reduceAdd, Nat.reduceSub, Nat.reduceMul, Nat.reduceLeDiff, Nat.reduceLT, Nat.reduceBEq, Nat.reduceBNe, Nat.reduceEqDiff, ↓reduceIte, Int.reduceAdd, Int.reduceSub, Int.reduceMul, Int.reduceLT, Int.reduceLE, Int.reduceEq, Int.reduceNeg, Int.reduceToNat]
  | y :: s, p, acc, v, bl, hm, ha, hO => by
    have hm' := hm
    unfold small at hm'
    simp only [List.length_append, List.length_cons] at hm'
    have h1 : ((p.length : Int) < (p ++ y :: s).length) := by simp; omega
    have hw := wrapN (n := p.length) (by simp at hm; omega)
    have hq := eqE y x
    simp only [fE] at hq
    rw [r05_Around_R0_eq]
    by_cases he : y = x
    · subst he
      obtain ⟨v', bl', e, o⟩ := around_loop y s (p ++ [y]) acc v bl (by simpa using hm) (by simp; omega) hO
      simp only [List.append_assoc, List.cons_append, List.nil_append, List.length_append, List.length_cons, List.length_nil] at e
      refine ⟨v', bl', ?_, by simpa using o⟩
      simp only [fE] at e ⊢
      simp only [r05_Around_B0, r05_Around_K0_norm, r05_Around_K0_ret, r05_Around_K0_exit, h1, iaddr_midE, hw, hO.chkV, hq, e, y1, y2, y3, y4, y5, y6, y7, y8, y9, keepE, keepB, chk, CV.locs, CV.locv, CV.refs, CV.ref, pureOp, repC, takeN, resV, enterC, Nat.reduceAdd, Nat.reduceSub, Nat.reduceMul, Nat.reduceLeDiff, Nat.reduceLT, Nat.reduceBEq, Nat.reduceBNe, Nat.reduceEqDiff, ↓reduceIte, Int.reduceAdd, Int.reduceSub, Int.reduceMul, Int.reduceLT, Int.reduceLE, Int.reduceEq, Int.reduceNeg, Int.reduceToNat]
    · obtain ⟨v1, bl1, e1, o1, _⟩ := hO.app1 flatE (bytes := 16) (zero := [.int .i64 0, .int .i64 0]) (by decide) rfl rfl y (by omega)
      obtain ⟨v', bl', e, o⟩ := around_loop x s (p ++ [y]) _ v1 bl1 (by simpa using hm) (by simp; omega) o1
      simp only [List.append_assoc, List.cons_append, List.nil_append, List.length_append, List.length_cons, List.length_nil] at e
      refine ⟨v', bl', ?_, by simpa [he] using o⟩
      simp only [fE] at e e1 ⊢
      simp only [r05_Around_B0, r05_Around_K0_norm, r05_Around_K0_ret, r05_Around_K0_exit, h1, iaddr_midE, hw, hO.chkV, hq, he, e1, o1.chkV, y1, y2, y3, y4, y5, y6, y7, y8, y9, keepE, keepB, chk, CV.locs, CV.locv, CV.refs, CV.ref, pureOp, repC, takeN, resV, enterC, Nat.reduceAdd, Nat.reduceSub, Nat.reduceMul, Nat.reduceLeDiff, Nat.reduceLT, Nat.reduceBEq, Nat.reduceBNe, Nat.reduceEqDiff, ↓reduceIte, Int.reduceAdd, Int.reduceSub, Int.reduceMul, Int.reduceLT, Int.reduceLE, Int.reduceEq, Int.reduceNeg, Int.reduceToNat]
      exact e

theorem ptOf_some {l : Lay} {n : Int} {i : Nat} (h : ptOf l n = some i) : ∃ hi : i < l.pts.length, l.pts.find? (fun p => p.node == n) = some l.pts[i] := by
  unfold ptOf at h
  have h1 := List.findIdx?_eq_some_iff_getElem.1 h
  obtain ⟨hi, h2, h3⟩ := h1
  refine ⟨hi, ?_⟩
  rw [List.find?_eq_some_iff_getElem]
  exact ⟨h2, i, hi, rfl, fun j hj => by simpa using h3 j hj⟩
theorem ptOf_none {l : Lay} {n : Int} (h : ptOf l n = none) : l.pts.find? (fun p => p.node == n) = none := by
  unfold ptOf at h
  rw [List.find?_eq_none]
  intro x hx
  have := List.findIdx?_eq_none_iff.1 h x hx
  simpa using this

theorem around_F (l : Lay) (hl : l.ok) (x : Ed) (H : Heap) : r05_Around_F false H [.agg (layC l), .agg (fE x)] = some (sl fE (around l x), H) := by
  rw [r05_Around_F_eq]
  have hnF := node_F l x
  simp only [fE] at hnF
  cases hn : nodeOf l x with
  | none =>
    simp only [hn, Option.getD_none] at hnF
    simp only [r05_Around_C, fE, r05_node_call, hnF, around, hn, sl_nil fE, y1, y2, y3, y4, y5, y6, y7, y8, y9, keepE, keepB, chk, CV.locs, CV.locv, CV.refs, CV.ref, pureOp, repC, takeN, resV, enterC, Nat.reduceAdd, Nat.reduceSub, Nat.reduceMul, Nat.reduceLeDiff, Nat.reduceLT, Nat.reduceBEq, Nat.reduceBNe, Nat.reduceEqDiff, ↓reduceIte, Int.reduceAdd, Int.reduceSub, Int.reduceMul, Int.reduceLT, Int.reduceLE, Int.reduceEq, Int.reduceNeg, Int.reduceToNat]
  | some n =>
    simp only [hn, Option.getD_some] at hnF
    have hpF := point_F l hl n
    cases hp : ptOf l n with
    | some i =>
      obtain ⟨hi, hf⟩ := ptOf_some hp
      simp only [hp] at hpF
      have h0 : ¬ ((i : Int) < 0) := by omega
      have h0' : (0 : Int) ≤ i := by omega
      by_cases h1 : x.s = l.pts[i].stem
      · obtain ⟨v1, bl1, e1, o1, _⟩ := (Own.nil fE 2 []).appSl flatE (bytes := 16) (zero := [.int .i64 0, .int .i64 0]) (by decide) rfl rfl (oneOf l l.pts[i].left n) (by have := oneOf_len l l.pts[i].left n; simp; omega)
        obtain ⟨v2, bl2, e2, o2, _⟩ := o1.appSl flatE (bytes := 16) (zero := [.int .i64 0, .int .i64 0]) (by decide) rfl rfl (oneOf l l.pts[i].right n) (by have := oneOf_len l l.pts[i].left n; have := oneOf_len l l.pts[i].right n; simp; omega)
        simp only [r05_Around_C, fE, r05_node_call, hnF, r05_Point_call, hpF, h0, h0', iaddr_atP hi, eq_true h1, r05_one_call, one_F l hl, e1, e2, o2.snapV flatE _ _ _ (snap_E _ _ _ 6), around, hn, hf, y1, y2, y3, y4, y5, y6, y7, y8, y9, keepE, keepB, chk, CV.locs, CV.locv, CV.refs, CV.ref, pureOp, repC, takeN, resV, enterC, Nat.reduceAdd, Nat.reduceSub, Nat.reduceMul, Nat.reduceLeDiff, Nat.reduceLT, Nat.reduceBEq, Nat.reduceBNe, Nat.reduceEqDiff, ↓reduceIte, Int.reduceAdd, Int.reduceSub, Int.reduceMul, Int.reduceLT, Int.reduceLE, Int.reduceEq, Int.reduceNeg, Int.reduceToNat]
      · by_cases h2 : x.s = l.pts[i].left
        · simp only [r05_Around_C, fE, r05_node_call, hnF, r05_Point_call, hpF, h0, h0', iaddr_atP hi, eq_false h1, eq_true h2, r05_one_call, one_F l hl, around, hn, hf, y1, y2, y3, y4, y5, y6, y7, y8, y9, keepE, keepB, chk, CV.locs, CV.locv, CV.refs, CV.ref, pureOp, repC, takeN, resV, enterC, Nat.reduceAdd, Nat.reduceSub, Nat.reduceMul, Nat.reduceLeDiff, Nat.reduceLT, Nat.reduceBEq, Nat.reduceBNe, Nat.reduceEqDiff, ↓reduceIte, Int.reduceAdd, Int.reduceSub, Int.reduceMul, Int.reduceLT, Int.reduceLE, Int.reduceEq, Int.reduceNeg, Int.reduceToNat]
        · by_cases h3 : x.s = l.pts[i].right
          · simp only [r05_Around_C, fE, r05_node_call, hnF, r05_Point_call, hpF, h0, h0', iaddr_atP hi, eq_false h1, eq_false h2, eq_true h3, r05_one_call, one_F l hl, around, hn, hf, y1, y2, y3, y4, y5, y6, y7, y8, y9, keepE, keepB, chk, CV.locs, CV.locv, CV.refs, CV.ref, pureOp, repC, takeN, resV, enterC, Nat.reduceAdd, Nat.reduceSub, Nat.reduceMul, Nat.reduceLeDiff, Nat.reduceLT, Nat.reduceBEq, Nat.reduceBNe, Nat.reduceEqDiff, ↓reduceIte, Int.reduceAdd, Int.reduceSub, Int.reduceMul, Int.reduceLT, Int.reduceLE, Int.reduceEq, Int.reduceNeg, Int.reduceToNat]
          · simp only [r05_Around_C, fE, r05_node_call, hnF, r05_Point_call, hpF, h0, h0', iaddr_atP hi, h1, h2, h3, sl_nil fE, around, hn, hf, y1, y2, y3, y4, y5, y6, y7, y8, y9, keepE, keepB, chk, CV.locs, CV.locv, CV.refs, CV.ref, pureOp, repC, takeN, resV, enterC, Nat.reduceAdd, Nat.reduceSub, Nat.reduceMul, Nat.reduceLeDiff, Nat.reduceLT, Nat.reduceBEq, Nat.reduceBNe, Nat.reduceEqDiff, ↓reduceIte, Int.reduceAdd, Int.reduceSub, Int.reduceMul, Int.reduceLT, Int.reduceLE, Int.reduceEq, Int.reduceNeg, Int.reduceToNat]
    | none =>
      have hf := ptOf_none hp
      simp only [hp] at hpF
      obtain ⟨v, bl, e, o⟩ := around_loop x (ends l n) [] [] .nils [] (ends_len hl n) (by simp) (Own.nil _ _ _)
      simp only [List.nil_append, List.length_nil, Int.natCast_zero, fE] at e o
      have ho := o.len
      by_cases h1 : ((ends l n).filter fun y => y ≠ x).length = 1
      · have h1' : (((ends l n).filter fun y => y ≠ x).length : Int) = 1 := by omega
        simp only [r05_Around_C, r05_Around_L0_eq, fE, r05_node_call, hnF, r05_Point_call, hpF, r05_Ends_call, ends_F l hl, e, ho, eq_true h1, eq_true h1', o.snapV flatE _ _ _ (snap_E _ _ _ 6), around, hn, hf, y1, y2, y3, y4, y5, y6, y7, y8, y9, keepE, keepB, chk, CV.locs, CV.locv, CV.refs, CV.ref, pureOp, repC, takeN, resV, enterC, Nat.reduceAdd, Nat.reduceSub, Nat.reduceMul, Nat.reduceLeDiff, Nat.reduceLT, Nat.reduceBEq, Nat.reduceBNe, Nat.reduceEqDiff, ↓reduceIte, Int.reduceAdd, Int.reduceSub, Int.reduceMul, Int.reduceLT, Int.reduceLE, Int.reduceEq, Int.reduceNeg, Int.reduceToNat]
      · have h1' : ¬ (((ends l n).filter fun y => y ≠ x).length : Int) = 1 := by omega
        simp only [r05_Around_C, r05_Around_L0_eq, fE, r05_node_call, hnF, r05_Point_call, hpF, r05_Ends_call, ends_F l hl, e, ho, h1, h1', sl_nil fE, around, hn, hf, y1, y2, y3, y4, y5, y6, y7, y8, y9, keepE, keepB, chk, CV.locs, CV.locv, CV.refs, CV.ref, pureOp, repC, takeN, resV, enterC, Nat.reduceAdd, Nat.reduceSub, Nat.reduceMul, Nat.reduceLeDiff, Nat.reduceLT, Nat.reduceBEq, Nat.reduceBNe, Nat.reduceEqDiff, ↓reduceIte, Int.reduceAdd, Int.reduceSub, Int.reduceMul, Int.reduceLT, Int.reduceLE, Int.reduceEq, Int.reduceNeg, Int.reduceToNat]
end Go.Proofs.Ytfblegjbmhgepaa.Zt

/- Walks: lengths, ways, drafts that are small. -/
namespace Go.Proofs.Ytfblegjbmhgepaa.Zt
open Go Go.Zc
set_option maxRecDepth 10000

theorem len_F (l : Lay) (s : Int) (st : Bool) (H : Heap) : r05_Len_F st H [.agg (layC l), .int .i64 s] = some (.int .i64 (lenAt l s), H) := by
  rw [r05_Len_F_eq]
  by_cases h1 : s < 0
  · have hn : lenAt l s = 0 := by simp only [lenAt, if_neg (show ¬ 0 ≤ s by omega), Option.map_none, Option.getD_none]
    simp only [r05_Len_C, h1, hn, y1, y2, y3, y4, y5, y6, y7, y8, y9, keepE, keepB, chk, CV.locs, CV.locv, CV.refs, CV.ref, pureOp, repC, takeN, resV, enterC, Nat.reduceAdd, Nat.reduceSub, Nat.reduceMul, Nat.reduceLeDiff, Nat.reduceLT, Nat.reduceBEq, Nat.reduceBNe, Nat.reduceEqDiff, ↓reduceIte, Int.reduceAdd, Int.reduceSub, Int.reduceMul, Int.reduceLT, Int.reduceLE, Int.reduceEq, Int.reduceNeg, Int.reduceToNat]
  · obtain ⟨n, rfl⟩ := Int.eq_ofNat_of_zero_le (show 0 ≤ s by omega)
    by_cases h2 : l.secs.length ≤ n
    · have hn : lenAt l n = 0 := by simp [lenAt, List.getElem?_eq_none h2]
      have h2' : ((l.secs.length : Int) ≤ n) := by omega
      simp only [r05_Len_C, h1, h2', hn, y1, y2, y3, y4, y5, y6, y7, y8, y9, keepE, keepB, chk, CV.locs, CV.locv, CV.refs, CV.ref, pureOp, repC, takeN, resV, enterC, Nat.reduceAdd, Nat.reduceSub, Nat.reduceMul, Nat.reduceLeDiff, Nat.reduceLT, Nat.reduceBEq, Nat.reduceBNe, Nat.reduceEqDiff, ↓reduceIte, Int.reduceAdd, Int.reduceSub, Int.reduceMul, Int.reduceLT, Int.reduceLE, Int.reduceEq, Int.reduceNeg, Int.reduceToNat]
    · have h2' : ¬ ((l.secs.length : Int) ≤ n) := by omega
      have hlt : n < l.secs.length := by omega
      have hn : lenAt l n = l.secs[n].len := by simp [lenAt, List.getElem?_eq_getElem hlt]
      simp only [r05_Len_C, h1, h2', hn, iaddr_atS hlt, y1, y2, y3, y4, y5, y6, y7, y8, y9, keepE, keepB, chk, CV.locs, CV.locv, CV.refs, CV.ref, pureOp, repC, takeN, resV, enterC, Nat.reduceAdd, Nat.reduceSub, Nat.reduceMul, Nat.reduceLeDiff, Nat.reduceLT, Nat.reduceBEq, Nat.reduceBNe, Nat.reduceEqDiff, ↓reduceIte, Int.reduceAdd, Int.reduceSub, Int.reduceMul, Int.reduceLT, Int.reduceLE, Int.reduceEq, Int.reduceNeg, Int.reduceToNat]

theorem small_loop (d : Draft) (hd : d.ok) : ∀ (s p : List (List Int)), p ++ s = d.routes →
    r04_Small_R0 ([(1, .op (.loc 1) 0), (3, .int .i64 p.length)], ⟨[(1, draftC d)], []⟩) = if (s.all fun r => decide (r.length ≤ 10)) = true then some (.norm, [(1, .op (.loc 1) 0)], ⟨[(1, draftC d)], []⟩) else some (.ret, [(2, .bool false)], ⟨[(1, draftC d)], []⟩)
  | [], p, hp => by
    have h1 : ¬ ((p.length : Int) < d.routes.length) := by rw [← hp]; simp
    rw [r04_Small_R0_eq]
    simp only [r04_Small_B0, r04_Small_K0_norm, r04_Small_K0_ret, r04_Small_K0_exit, h1, y1, y2, y3, y4, y5, y6, y7, y8, y9, keepE, keepB, chk, CV.locs, CV.locv, CV.refs, CV.ref, pureOp, repC, takeN, resV, enterC, Nat.reduceAdd, Nat.reduceSub, Nat.reduceMul, Nat.reduceLeDiff, Nat.reduceLT, Nat.reduceBEq, Nat.reduceBNe, Nat.reduceEqDiff, ↓reduceIte, Int.reduceAdd, Int.reduceSub, Int.reduceMul, Int.reduceLT, Int.reduceLE, Int.reduceEq, Int.reduceNeg, Int.reduceToNat]
  | x :: s, p, hp => by
    have hpl : p.length + 1 + s.length = d.routes.length := by rw [← hp]; simp; omega
    have h1 : ((p.length : Int) < d.routes.length) := by omega
    have hw := wrapM (n := p.length) (by have := hd.routes; unfold maxLen at this; omega)
    have hi : iaddrC 1 (sl fUL d.routes) (.int .i64 p.length) = some (.vp (sl fU x :: s.flatMap fUL)) := by rw [← hp]; exact iaddr_midUL _ p s x
    have ih := small_loop d hd s (p ++ [x]) (by simpa using hp)
    rw [r04_Small_R0_eq]
    simp only [List.append_assoc, List.cons_append, List.nil_append, List.length_append, List.length_cons, List.length_nil] at ih
    by_cases hx : x.length ≤ 10
    · have hx' : ¬ (10 : Int) < x.length := by omega
      simp only [r04_Small_B0, r04_Small_K0_norm, r04_Small_K0_ret, r04_Small_K0_exit, h1, hi, hw, hx', ih, y1, y2, y3, y4, y5, y6, y7, y8, y9, keepE, keepB, chk, CV.locs, CV.locv, CV.refs, CV.ref, pureOp, repC, takeN, resV, enterC, Nat.reduceAdd, Nat.reduceSub, Nat.reduceMul, Nat.reduceLeDiff, Nat.reduceLT, Nat.reduceBEq, Nat.reduceBNe, Nat.reduceEqDiff, ↓reduceIte, Int.reduceAdd, Int.reduceSub, Int.reduceMul, Int.reduceLT, Int.reduceLE, Int.reduceEq, Int.reduceNeg, Int.reduceToNat]
      simp [hx]
    · have hx' : (10 : Int) < x.length := by omega
      simp only [r04_Small_B0, r04_Small_K0_norm, r04_Small_K0_ret, r04_Small_K0_exit, h1, hi, hw, hx', ih, y1, y2, y3, y4, y5, y6, y7, y8, y9, keepE, keepB, chk, CV.locs, CV.locv, CV.refs, CV.ref, pureOp, repC, takeN, resV, enterC, Nat.reduceAdd, Nat.reduceSub, Nat.reduceMul, Nat.reduceLeDiff, Nat.reduceLT, Nat.reduceBEq, Nat.reduceBNe, Nat.reduceEqDiff, ↓reduceIte, Int.reduceAdd, Int.reduceSub, Int.reduceMul, Int.reduceLT, Int.reduceLE, Int.reduceEq, Int.reduceNeg, Int.reduceToNat]
      simp [hx]

theorem small_F (d : Draft) (hd : d.ok) (st : Bool) (H : Heap) : r04_Small_F st H [.agg (draftC d)] = some (.bool d.small, H) := by
  rw [r04_Small_F_eq]
  have e := small_loop d hd d.routes [] rfl
  simp only [List.nil_append, List.length_nil, Int.natCast_zero] at e
  by_cases h : (d.routes.all fun r => decide (r.length ≤ 10)) = true
  · simp only [h, y1, y2, y3, y4, y5, y6, y7, y8, y9, keepE, keepB, chk, CV.locs, CV.locv, CV.refs, CV.ref, pureOp, repC, takeN, resV, enterC, Nat.reduceAdd, Nat.reduceSub, Nat.reduceMul, Nat.reduceLeDiff, Nat.reduceLT, Nat.reduceBEq, Nat.reduceBNe, Nat.reduceEqDiff, ↓reduceIte, Int.reduceAdd, Int.reduceSub, Int.reduceMul, Int.reduceLT, Int.reduceLE, Int.reduceEq, Int.reduceNeg, Int.reduceToNat] at e
    have h' : (((d.routes.length : Nat) : Int) ≤ 20) = (d.routes.length ≤ 20) := by simp; omega
    simp only [r04_Small_C, r04_Small_L0_eq, e, Draft.small, h, h', y1, y2, y3, y4, y5, y6, y7, y8, y9, keepE, keepB, chk, CV.locs, CV.locv, CV.refs, CV.ref, pureOp, repC, takeN, resV, enterC, Nat.reduceAdd, Nat.reduceSub, Nat.reduceMul, Nat.reduceLeDiff, Nat.reduceLT, Nat.reduceBEq, Nat.reduceBNe, Nat.reduceEqDiff, ↓reduceIte, Int.reduceAdd, Int.reduceSub, Int.reduceMul, Int.reduceLT, Int.reduceLE, Int.reduceEq, Int.reduceNeg, Int.reduceToNat]
  · simp only [h, y1, y2, y3, y4, y5, y6, y7, y8, y9, keepE, keepB, chk, CV.locs, CV.locv, CV.refs, CV.ref, pureOp, repC, takeN, resV, enterC, Nat.reduceAdd, Nat.reduceSub, Nat.reduceMul, Nat.reduceLeDiff, Nat.reduceLT, Nat.reduceBEq, Nat.reduceBNe, Nat.reduceEqDiff, ↓reduceIte, Int.reduceAdd, Int.reduceSub, Int.reduceMul, Int.reduceLT, Int.reduceLE, Int.reduceEq, Int.reduceNeg, Int.reduceToNat] at e
    simp only [r04_Small_C, r04_Small_L0_eq, e, Draft.small, Bool.eq_false_iff.2 h, y1, y2, y3, y4, y5, y6, y7, y8, y9, keepE, keepB, chk, CV.locs, CV.locv, CV.refs, CV.ref, pureOp, repC, takeN, resV, enterC, Nat.reduceAdd, Nat.reduceSub, Nat.reduceMul, Nat.reduceLeDiff, Nat.reduceLT, Nat.reduceBEq, Nat.reduceBNe, Nat.reduceEqDiff, ↓reduceIte, Int.reduceAdd, Int.reduceSub, Int.reduceMul, Int.reduceLT, Int.reduceLE, Int.reduceEq, Int.reduceNeg, Int.reduceToNat]

theorem snapI_own {bl : List Blk} {v : CV} {l : List Int} (h : Own fI 1 bl v l) (bx : List (Nat × List CV)) (st : Bool) : snapV ⟨bx, bl⟩ st false (snapN ⟨bx, bl⟩ st false 7) v = some (sl fI l) := h.snapV flatI bx _ _ (snap_I _ _ _ 6)
theorem snapE_own {bl : List Blk} {v : CV} {l : List Ed} (h : Own fE 2 bl v l) (bx : List (Nat × List CV)) (st : Bool) : snapV ⟨bx, bl⟩ st false (snapN ⟨bx, bl⟩ st false 7) v = some (sl fE l) := h.snapV flatE bx _ _ (snap_E _ _ _ 6)

/-- The number of a turn, as it is reckoned. -/
theorem turn_lt (turns : List Int) (i n : Nat) (h : 0 < n) : turn turns i n < n := by
  unfold turn
  split
  · exact Nat.mod_lt _ h
  · exact h

set_option maxHeartbeats 1000000 in
theorem walk_loop (l : Lay) (hl : l.ok) (turns : List Int) (ht : ∀ t ∈ turns, 0 ≤ t ∧ t ≤ 255) (most : Nat) (hm : most ≤ Zc.small) : ∀ (n i : Nat) (out : List Int) (x : Ed) (v : CV) (bl : List Blk), most - out.length = n → 0 < out.length → i < out.length → Own fI 1 bl v out →
    ∃ v' bl', (r05_Walk_R0 ([(3, sl fU turns), (4, .int .i64 most), (5, .op (.loc 5) 0), (11, v), (12, .op (.loc 12) 0), (13, .int .i64 i)], ⟨[(5, layC l), (12, fE x)], bl⟩) = some (.norm, [(11, v')], ⟨[], bl'⟩) ∨
      ∃ bx', r05_Walk_R0 ([(3, sl fU turns), (4, .int .i64 most), (5, .op (.loc 5) 0), (11, v), (12, .op (.loc 12) 0), (13, .int .i64 i)], ⟨[(5, layC l), (12, fE x)], bl⟩) = some (.ret, [(10, v')], ⟨bx', bl'⟩)) ∧
      Own fI 1 bl' v' (walkFrom l turns n i out x) := by
  intro n
  induction n with
  | zero =>
    intro i out x v bl hn h0 hi hO
    refine ⟨v, bl, .inl ?_, hO⟩
    have h1 : ¬ ((out.length : Int) < most) := by omega
    rw [r05_Walk_R0_eq]
    simp only [r05_Walk_B0, r05_Walk_K0_norm, r05_Walk_K0_ret, r05_Walk_K0_exit, fE, hO.len, h1, hO.chkV, y1, y2, y3, y4, y5, y6, y7, y8, y9, keepE, keepB, chk, CV.locs, CV.locv, CV.refs, CV.ref, pureOp, repC, takeN, resV, enterC, Nat.reduceAdd, Nat.reduceSub, Nat.reduceMul, Nat.reduceLeDiff, Nat.reduceLT, Nat.reduceBEq, Nat.reduceBNe, Nat.reduceEqDiff, ↓reduceIte, Int.reduceAdd, Int.reduceSub, Int.reduceMul, Int.reduceLT, Int.reduceLE, Int.reduceEq, Int.reduceNeg, Int.reduceToNat]
  | succ n ih =>
    intro i out x v bl hn h0 hi hO
    have h1 : ((out.length : Int) < most) := by omega
    have hw := wrapN (n := i) (by omega)
    have haF := fun H => around_F l hl x H
    simp only [fE] at haF
    by_cases ha : (around l x).length = 0
    · have hat : (around l x)[turn turns i (around l x).length]? = none := List.getElem?_eq_none (by omega)
      have ha' : ((around l x).length : Int) = 0 := by omega
      refine ⟨v, bl, .inr ?_, by simpa only [walkFrom, hat] using hO⟩
      rw [r05_Walk_R0_eq]
      simp only [r05_Walk_B0, r05_Walk_K0_norm, r05_Walk_K0_ret, r05_Walk_K0_exit, fE, hO.len, h1, r05_Around_call, haF, ha', y1, y2, y3, y4, y5, y6, y7, y8, y9, keepE, keepB, chk, CV.locs, CV.locv, CV.refs, CV.ref, pureOp, repC, takeN, resV, enterC, Nat.reduceAdd, Nat.reduceSub, Nat.reduceMul, Nat.reduceLeDiff, Nat.reduceLT, Nat.reduceBEq, Nat.reduceBNe, Nat.reduceEqDiff, ↓reduceIte, Int.reduceAdd, Int.reduceSub, Int.reduceMul, Int.reduceLT, Int.reduceLE, Int.reduceEq, Int.reduceNeg, Int.reduceToNat]
      exact ⟨_, rfl⟩
    · have ha' : ¬ ((around l x).length : Int) = 0 := by omega
      have htl := turn_lt turns i (around l x).length (by omega)
      obtain ⟨y, hy⟩ : ∃ y, (around l x)[turn turns i (around l x).length] = y := ⟨_, rfl⟩
      have hat : (around l x)[turn turns i (around l x).length]? = some y := by rw [List.getElem?_eq_getElem htl, hy]
      have hia := iaddr_atE (k := .i64) htl
      rw [hy] at hia
      have hhas := fun st H => has_F out y.s (by omega) st H
      have hsn := fun bx st => snapI_own hO bx st
      by_cases hmem : y.s ∈ out
      · refine ⟨v, bl, .inr ?_, by simpa only [walkFrom, hat, if_pos hmem] using hO⟩
        rw [r05_Walk_R0_eq]
        by_cases hk : i < turns.length
        · have hk' : ((i : Int) < turns.length) := by omega
          obtain ⟨t0, t1⟩ := ht turns[i] (List.getElem_mem hk)
          have hw2 : IntKind.i64.wrap turns[i] = turns[i] := wrap64 (by omega) (by omega)
          have hmod : (turns[i]).tmod ((around l x).length : Int) = (turn turns i (around l x).length : Nat) := by
            obtain ⟨m, hm⟩ := Int.eq_ofNat_of_zero_le t0
            simp only [turn, List.getElem?_eq_getElem hk, hm, Int.ofNat_tmod, Int.toNat_natCast]
          simp only [r05_Walk_B0, r05_Walk_K0_norm, r05_Walk_K0_ret, r05_Walk_K0_exit, fE, hO.len, h1, r05_Around_call, haF, ha', hk', iaddr_atU hk, hw2, hmod, hia, r01_Has_call, hhas, hsn, hmem, y1, y2, y3, y4, y5, y6, y7, y8, y9, keepE, keepB, chk, CV.locs, CV.locv, CV.refs, CV.ref, pureOp, repC, takeN, resV, enterC, Nat.reduceAdd, Nat.reduceSub, Nat.reduceMul, Nat.reduceLeDiff, Nat.reduceLT, Nat.reduceBEq, Nat.reduceBNe, Nat.reduceEqDiff, ↓reduceIte, Int.reduceAdd, Int.reduceSub, Int.reduceMul, Int.reduceLT, Int.reduceLE, Int.reduceEq, Int.reduceNeg, Int.reduceToNat]
          exact ⟨_, rfl⟩
        · have hk' : ¬ ((i : Int) < turns.length) := by omega
          have hz : turn turns i (around l x).length = 0 := by simp [turn, List.getElem?_eq_none (by omega : turns.length ≤ i)]
          simp only [hz, Int.natCast_zero] at hia
          simp only [r05_Walk_B0, r05_Walk_K0_norm, r05_Walk_K0_ret, r05_Walk_K0_exit, fE, hO.len, h1, r05_Around_call, haF, ha', hk', hia, r01_Has_call, hhas, hsn, hmem, y1, y2, y3, y4, y5, y6, y7, y8, y9, keepE, keepB, chk, CV.locs, CV.locv, CV.refs, CV.ref, pureOp, repC, takeN, resV, enterC, Nat.reduceAdd, Nat.reduceSub, Nat.reduceMul, Nat.reduceLeDiff, Nat.reduceLT, Nat.reduceBEq, Nat.reduceBNe, Nat.reduceEqDiff, ↓reduceIte, Int.reduceAdd, Int.reduceSub, Int.reduceMul, Int.reduceLT, Int.reduceLE, Int.reduceEq, Int.reduceNeg, Int.reduceToNat]
          exact ⟨_, rfl⟩
      · obtain ⟨v1, bl1, e1, o1, _⟩ := hO.app1 flatI (bytes := 8) (zero := [.int .i64 0]) (by decide) rfl rfl y.s (by unfold Zc.small at hm; omega)
        simp only [fI] at e1
        obtain ⟨v', bl', e, o⟩ := ih (i + 1) (out ++ [y.s]) ⟨y.s, 1 - y.e⟩ v1 bl1 (by simp; omega) (by simp) (by simp; omega) o1
        have hy' := around_in (List.mem_of_getElem? hat)
        have hw3 : IntKind.i64.wrap (1 - y.e) = 1 - y.e := wrap64 (by omega) (by omega)
        refine ⟨v', bl', ?_, by simpa only [walkFrom, hat, if_neg hmem] using o⟩
        have key : r05_Walk_R0 ([(3, sl fU turns), (4, .int .i64 most), (5, .op (.loc 5) 0), (11, v), (12, .op (.loc 12) 0), (13, .int .i64 i)], ⟨[(5, layC l), (12, fE x)], bl⟩) =
            r05_Walk_R0 ([(3, sl fU turns), (4, .int .i64 most), (5, .op (.loc 5) 0), (11, v1), (12, .op (.loc 12) 0), (13, .int .i64 (i + 1 : Nat))], ⟨[(5, layC l), (12, fE ⟨y.s, 1 - y.e⟩)], bl1⟩) := by
          rw [r05_Walk_R0_eq]
          by_cases hk : i < turns.length
          · have hk' : ((i : Int) < turns.length) := by omega
            obtain ⟨t0, t1⟩ := ht turns[i] (List.getElem_mem hk)
            have hw2 : IntKind.i64.wrap turns[i] = turns[i] := wrap64 (by omega) (by omega)
            have hmod : (turns[i]).tmod ((around l x).length : Int) = (turn turns i (around l x).length : Nat) := by
              obtain ⟨m, hm⟩ := Int.eq_ofNat_of_zero_le t0
              simp only [turn, List.getElem?_eq_getElem hk, hm, Int.ofNat_tmod, Int.toNat_natCast]
            simp only [r05_Walk_B0, r05_Walk_K0_norm, r05_Walk_K0_ret, r05_Walk_K0_exit, fE, hO.len, hO.chkV, o1.chkV, h1, r05_Around_call, haF, ha', hk', iaddr_atU hk, hw, hw2, hw3, hmod, hia, r01_Has_call, hhas, hsn, hmem, e1, y1, y2, y3, y4, y5, y6, y7, y8, y9, keepE, keepB, chk, CV.locs, CV.locv, CV.refs, CV.ref, pureOp, repC, takeN, resV, enterC, Nat.reduceAdd, Nat.reduceSub, Nat.reduceMul, Nat.reduceLeDiff, Nat.reduceLT, Nat.reduceBEq, Nat.reduceBNe, Nat.reduceEqDiff, ↓reduceIte, Int.reduceAdd, Int.reduceSub, Int.reduceMul, Int.reduceLT, Int.reduceLE, Int.reduceEq, Int.reduceNeg, Int.reduceToNat]
          · have hk' : ¬ ((i : Int) < turns.length) := by omega
            have hz : turn turns i (around l x).length = 0 := by simp [turn, List.getElem?_eq_none (by omega : turns.length ≤ i)]
            simp only [hz, Int.natCast_zero] at hia
            simp only [r05_Walk_B0, r05_Walk_K0_norm, r05_Walk_K0_ret, r05_Walk_K0_exit, fE, hO.len, hO.chkV, o1.chkV, h1, r05_Around_call, haF, ha', hk', hw, hw3, hia, r01_Has_call, hhas, hsn, hmem, e1, y1, y2, y3, y4, y5, y6, y7, y8, y9, keepE, keepB, chk, CV.locs, CV.locv, CV.refs, CV.ref, pureOp, repC, takeN, resV, enterC, Nat.reduceAdd, Nat.reduceSub, Nat.reduceMul, Nat.reduceLeDiff, Nat.reduceLT, Nat.reduceBEq, Nat.reduceBNe, Nat.reduceEqDiff, ↓reduceIte, Int.reduceAdd, Int.reduceSub, Int.reduceMul, Int.reduceLT, Int.reduceLE, Int.reduceEq, Int.reduceNeg, Int.reduceToNat]
        rw [key]
        exact e

theorem walk_F (l : Lay) (hl : l.ok) (s e : Int) (turns : List Int) (ht : ∀ t ∈ turns, 0 ≤ t ∧ t ≤ 255) (most : Nat) (hm : most ≤ Zc.small) (H : Heap) (st : Bool) :
    r05_Walk_F st H [.agg (layC l), .int .i64 s, .int .i64 e, sl fU turns, .int .i64 most] = some (sl fI (walk l s e turns most), H) := by
  rw [r05_Walk_F_eq]
  obtain ⟨v, bl, h, o⟩ := walk_loop l hl turns ht most hm (most - 1) 0 [s] ⟨s, e⟩ (.os 1 (.blk 0) 0 1) [.cells [.int .i64 s]] rfl (by simp) (by simp) (.inr ⟨0, rfl, rfl⟩)
  have hw : walk l s e turns most = walkFrom l turns (most - 1) 0 [s] ⟨s, e⟩ := by
    unfold walk
    congr 1
    omega
  rw [hw]
  simp only [fE, Int.natCast_zero] at h
  rcases h with h | ⟨bx', h⟩
  · simp only [r05_Walk_C, r05_Walk_L0_eq, h, snapI_own o, y1, y2, y3, y4, y5, y6, y7, y8, y9, keepE, keepB, chk, CV.locs, CV.locv, CV.refs, CV.ref, pureOp, repC, takeN, resV, enterC, Nat.reduceAdd, Nat.reduceSub, Nat.reduceMul, Nat.reduceLeDiff, Nat.reduceLT, Nat.reduceBEq, Nat.reduceBNe, Nat.reduceEqDiff, ↓reduceIte, Int.reduceAdd, Int.reduceSub, Int.reduceMul, Int.reduceLT, Int.reduceLE, Int.reduceEq, Int.reduceNeg, Int.reduceToNat]
  · simp only [r05_Walk_C, r05_Walk_L0_eq, h, snapI_own o, y1, y2, y3, y4, y5, y6, y7, y8, y9, keepE, keepB, chk, CV.locs, CV.locv, CV.refs, CV.ref, pureOp, repC, takeN, resV, enterC, Nat.reduceAdd, Nat.reduceSub, Nat.reduceMul, Nat.reduceLeDiff, Nat.reduceLT, Nat.reduceBEq, Nat.reduceBNe, Nat.reduceEqDiff, ↓reduceIte, Int.reduceAdd, Int.reduceSub, Int.reduceMul, Int.reduceLT, Int.reduceLE, Int.reduceEq, Int.reduceNeg, Int.reduceToNat]
end Go.Proofs.Ytfblegjbmhgepaa.Zt
