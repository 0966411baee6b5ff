/- The law OwnFinds, walked. -/
import Derived.Test.YtmjffmghkfappaaZcVe
set_option linter.all false
namespace Go.Proofs.Ytmjffmghkfappaa.Zt
open Go Go.Zc
set_option maxRecDepth 10000

theorem slI1 (a : Int) : sl fI [a] = .vs [.int .i64 a] 1 := rfl
theorem own_at {α : Type} {f : α → List CV} {sz : Nat} {bl : List Blk} {v : CV} {l : List α} (hf : Flat f sz) (h : Own f sz bl v l) {i : Nat} (hi : i < l.length) :
    ∃ m cs, (∀ k, iaddrC sz v (.int k i) = some (.op (.blk m) (i * sz))) ∧ (∀ bx, Heap.get ⟨bx, bl⟩ (.blk m) = some cs) ∧ cs.drop (i * sz) = f l[i] ++ (l.drop (i + 1)).flatMap f := by
  obtain ⟨m, h1, h2, h3⟩ := h.iaddr hf (k := .i64) hi
  refine ⟨m, l.flatMap f, fun k => ?_, fun bx => get_blk bx bl m _ h2, ?_⟩
  · rw [h3] at h1 ⊢
    exact h1
  · rw [flatMap_drop hf.len, List.drop_eq_getElem_cons hi, List.flatMap_cons]
theorem snap_V (H : Heap) (n : Nat) : ∀ x : Vw, ∀ c ∈ fV x, snapN H false false (n + 1) c = some c := by
  intro x c hc
  simp only [fV, List.mem_cons, List.not_mem_nil, or_false] at hc
  rcases hc with rfl | rfl | rfl <;> rfl

theorem ofindO_F (vs : List Vw) (hm : vs.length ≤ 2 * Zc.small) (id : Int) (bl : List Blk) (v : CV) (hO : Own fV 3 bl v vs) (bx : List (Nat × List CV)) : own_Find_F bx bl [v, .int .i64 id] = some (.tup [.agg (viewC (findV vs id)), .bool (findV vs id).isSome], ⟨bx, bl ++ [.cells [.int .i64 id]]⟩) := by
  rw [own_Find_F_eq]
  have hc : ∀ (y : Vw) (H' : Heap), call ctx (.fn (.func 57) [] [.vp [.int .i64 id]]) [.agg (fV y)] H' = some (.bool (decide (y.id = id)), H') := by
    intro y H'
    have := ofind1_F y id
    simp only [fV] at this
    simp only [own_Find_1_call, fV, y1, y2, y3, y4, y5, y6, y7, y8, y9, keepE, keepB, chk, CV.locs, CV.locv, CV.refs, CV.ref, pureOp, repC, takeN, resV, enterC, Nat.reduceAdd, Nat.reduceSub, Nat.reduceMul, Nat.reduceLeDiff, Nat.reduceLT, Nat.reduceBEq, Nat.reduceBNe, Nat.reduceEqDiff, ↓reduceIte, Int.reduceAdd, Int.reduceSub, Int.reduceMul, Int.reduceLT, Int.reduceLE, Int.reduceEq, Int.reduceNeg, Int.reduceToNat, this]
  have hix := fun st H => idxV_F (.fn (.func 57) [] [.vp [.int .i64 id]]) rfl (fun y => decide (y.id = id)) hc vs hm st H
  have hfi := find_idx (fun y : Vw => decide (y.id = id)) vs
  have hg1 : ∀ bx, Heap.get ⟨bx, bl ++ [Blk.cells [.int .i64 id]]⟩ (.blk bl.length) = some [.int .i64 id] := fun bx => get_blk _ _ _ _ (by simp)
  have hO' : Own fV 3 (bl ++ [Blk.cells [.int .i64 id]]) v vs := hO.keep fun m b hb => by
    rw [List.getElem?_append_left (List.getElem?_eq_some_iff.1 hb).1]; exact hb
  have hsn := fun bx => hO'.snapV flatV bx false _ (snap_V ⟨bx, bl ++ [Blk.cells [.int .i64 id]]⟩ 6)
  cases hf : vs.findIdx? (fun y => decide (y.id = id)) with
  | none =>
    have hfd : findV vs id = none := hfi.2 hf
    have hid : idxOf (fun y : Vw => decide (y.id = id)) vs = -1 := by simp only [idxOf, hf]
    simp only [own_Find_C, hg1, hO.locv, hO.one, hO.cells, hsn, slices_IndexFunc_View_call, hix, hid, hfd, viewC, y1, y2, y3, y4, y5, y6, y7, y8, y9, keepE, keepB, chk, CV.locs, CV.locv, CV.refs, CV.ref, pureOp, repC, takeN, resV, enterC, Nat.reduceAdd, Nat.reduceSub, Nat.reduceMul, Nat.reduceLeDiff, Nat.reduceLT, Nat.reduceBEq, Nat.reduceBNe, Nat.reduceEqDiff, ↓reduceIte, Int.reduceAdd, Int.reduceSub, Int.reduceMul, Int.reduceLT, Int.reduceLE, Int.reduceEq, Int.reduceNeg, Int.reduceToNat]
  | some i =>
    obtain ⟨hi, hfd'⟩ := hfi.1 i hf
    have hfd : findV vs id = some vs[i] := hfd'
    have hid : idxOf (fun y : Vw => decide (y.id = id)) vs = i := by simp only [idxOf, hf]
    have hi0 : ¬ ((i : Int) < 0) := by omega
    obtain ⟨m, cs, hia, hcs, hdr⟩ := own_at flatV hO' hi
    simp only [fV, List.cons_append, List.nil_append] at hdr
    simp only [own_Find_C, hg1, hO.locv, hO.one, hO.cells, hsn, slices_IndexFunc_View_call, hix, hid, hi0, hia, hcs, hdr, hfd, viewC, fV, y1, y2, y3, y4, y5, y6, y7, y8, y9, keepE, keepB, chk, CV.locs, CV.locv, CV.refs, CV.ref, pureOp, repC, takeN, resV, enterC, Nat.reduceAdd, Nat.reduceSub, Nat.reduceMul, Nat.reduceLeDiff, Nat.reduceLT, Nat.reduceBEq, Nat.reduceBNe, Nat.reduceEqDiff, ↓reduceIte, Int.reduceAdd, Int.reduceSub, Int.reduceMul, Int.reduceLT, Int.reduceLE, Int.reduceEq, Int.reduceNeg, Int.reduceToNat]

/-- Views of some numbers, in their order. -/
def vf : Nat → List Int → List Vw
  | _, [] => []
  | i, x :: r => ⟨x, false, [(i : Int)]⟩ :: vf (i + 1) r
def atF (id : Int) : Nat → List Int → Int → Int
  | _, [], a => a
  | i, x :: r, a => atF id (i + 1) r (if x = id ∧ a < 0 then (i : Int) else a)
theorem atF_done (id : Int) : ∀ (r : List Int) (i : Nat) (a : Int), 0 ≤ a → atF id i r a = a
  | [], _, _, _ => rfl
  | x :: r, i, a, h => by
    simp only [atF]
    rw [if_neg (by omega), atF_done id r (i + 1) a h]
theorem atF_find (id : Int) : ∀ (r : List Int) (i : Nat), (atF id i r (-1) = -1 ∧ findV (vf i r) id = none) ∨ ∃ k : Nat, atF id i r (-1) = k ∧ findV (vf i r) id = some ⟨id, false, [(k : Int)]⟩
  | [], _ => .inl ⟨rfl, rfl⟩
  | x :: r, i => by
    simp only [atF, vf, findV, List.find?_cons]
    by_cases h : x = id
    · subst h
      right
      refine ⟨i, ?_, by simp⟩
      rw [if_pos (by omega), atF_done x r (i + 1) i (by omega)]
    · rw [if_neg (by omega)]
      simp only [h, decide_false]
      exact atF_find id r (i + 1)

theorem finds_loop (ids : List Int) (hids : ids.length ≤ 20) (id : Int) : ∀ (s p : List Int) (acc : List Vw) (a : Int) (v : CV) (bl : List Blk), p ++ s = ids → acc.length = p.length → Own fV 3 bl v acc →
    ∃ v' bl', l12_OwnFinds_R0 ([(0, sl fI ids), (1, .int .i64 id), (5, v), (6, .int .i64 a), (7, .int .i64 p.length)], ⟨[], bl⟩) = some (.norm, [(1, .int .i64 id), (5, v'), (6, .int .i64 (atF id p.length s a))], ⟨[], bl'⟩) ∧ Own fV 3 bl' v' (acc ++ vf p.length s)
  | [], p, acc, a, v, bl, hp, ha, hO => by
    have h1 : ¬ ((p.length : Int) < ids.length) := by rw [← hp]; simp
    refine ⟨v, bl, ?_, by simpa [vf] using hO⟩
    rw [l12_OwnFinds_R0_eq]
    simp only [l12_OwnFinds_B0, l12_OwnFinds_K0_norm, l12_OwnFinds_K0_ret, l12_OwnFinds_K0_exit, h1, hO.chkV, atF, y1, y2, y3, y4, y5, y6, y7, y8, y9, keepE, keepB, chk, CV.locs, CV.locv, CV.refs, CV.ref, pureOp, repC, takeN, resV, enterC, Nat.reduceAdd, Nat.reduceSub, Nat.reduceMul, Nat.reduceLeDiff, Nat.reduceLT, Nat.reduceBEq, Nat.reduceBNe, Nat.reduceEqDiff, ↓reduceIte, Int.reduceAdd, Int.reduceSub, Int.reduceMul, Int.reduceLT, Int.reduceLE, Int.reduceEq, Int.reduceNeg, Int.reduceToNat]
  | x :: s, p, acc, a, v, bl, hp, ha, hO => by
    have hpl : p.length + 1 + s.length = ids.length := by rw [← hp]; simp; omega
    have h1 : ((p.length : Int) < ids.length) := by omega
    have hw := wrapN (n := p.length) (by unfold Zc.small; omega)
    have hia : iaddrC 1 (sl fI ids) (.int .i64 p.length) = some (.vp (.int .i64 x :: s.flatMap fI)) := by rw [← hp]; exact iaddr_midI _ p s x
    obtain ⟨v1, bl1, e1, o1, _⟩ := hO.app1 flatV (bytes := 40) (zero := [.int .i64 0, .bool false, .nils]) (by decide) rfl rfl ⟨x, false, [(p.length : Int)]⟩ (by omega)
    simp only [fV, slI1] at e1
    obtain ⟨v', bl', e, o⟩ := finds_loop ids hids id s (p ++ [x]) (acc ++ [⟨x, false, [(p.length : Int)]⟩]) (if x = id ∧ a < 0 then (p.length : Int) else a) v1 bl1 (by simpa using hp) (by simp; omega) o1
    rw [show (p ++ [x]).length = p.length + 1 by simp] at e o
    refine ⟨v', bl', ?_, by simpa [vf] using o⟩
    rw [l12_OwnFinds_R0_eq]
    by_cases h2 : x = id
    · by_cases h3 : a < 0
      · rw [if_pos ⟨h2, h3⟩] at e
        simp only [l12_OwnFinds_B0, l12_OwnFinds_K0_norm, l12_OwnFinds_K0_ret, l12_OwnFinds_K0_exit, h1, hia, e1, o1.chkV, eq_true h2, eq_true h3, hw, e, atF, y1, y2, y3, y4, y5, y6, y7, y8, y9, keepE, keepB, chk, CV.locs, CV.locv, CV.refs, CV.ref, pureOp, repC, takeN, resV, enterC, Nat.reduceAdd, Nat.reduceSub, Nat.reduceMul, Nat.reduceLeDiff, Nat.reduceLT, Nat.reduceBEq, Nat.reduceBNe, Nat.reduceEqDiff, ↓reduceIte, Int.reduceAdd, Int.reduceSub, Int.reduceMul, Int.reduceLT, Int.reduceLE, Int.reduceEq, Int.reduceNeg, Int.reduceToNat]
      · rw [if_neg (fun h => h3 h.2)] at e
        simp only [l12_OwnFinds_B0, l12_OwnFinds_K0_norm, l12_OwnFinds_K0_ret, l12_OwnFinds_K0_exit, h1, hia, e1, o1.chkV, eq_true h2, eq_false h3, hw, e, atF, y1, y2, y3, y4, y5, y6, y7, y8, y9, keepE, keepB, chk, CV.locs, CV.locv, CV.refs, CV.ref, pureOp, repC, takeN, resV, enterC, Nat.reduceAdd, Nat.reduceSub, Nat.reduceMul, Nat.reduceLeDiff, Nat.reduceLT, Nat.reduceBEq, Nat.reduceBNe, Nat.reduceEqDiff, ↓reduceIte, Int.reduceAdd, Int.reduceSub, Int.reduceMul, Int.reduceLT, Int.reduceLE, Int.reduceEq, Int.reduceNeg, Int.reduceToNat]
    · rw [if_neg (fun h => h2 h.1)] at e
      simp only [l12_OwnFinds_B0, l12_OwnFinds_K0_norm, l12_OwnFinds_K0_ret, l12_OwnFinds_K0_exit, h1, hia, e1, o1.chkV, eq_false h2, hw, e, atF, y1, y2, y3, y4, y5, y6, y7, y8, y9, keepE, keepB, chk, CV.locs, CV.locv, CV.refs, CV.ref, pureOp, repC, takeN, resV, enterC, Nat.reduceAdd, Nat.reduceSub, Nat.reduceMul, Nat.reduceLeDiff, Nat.reduceLT, Nat.reduceBEq, Nat.reduceBNe, Nat.reduceEqDiff, ↓reduceIte, Int.reduceAdd, Int.reduceSub, Int.reduceMul, Int.reduceLT, Int.reduceLE, Int.reduceEq, Int.reduceNeg, Int.reduceToNat]
theorem vf_len : ∀ (r : List Int) (i : Nat), (vf i r).length = r.length
  | [], _ => rfl
  | _ :: r, i => by simp [vf, vf_len r]

theorem ownFinds_F (ids : List Int) (id : Int) (st : Bool) (H : Heap) : l12_OwnFinds_F st H [sl fI ids, .int .i64 id] = some (.bool true, H) := by
  rw [l12_OwnFinds_F_eq]
  have hc := comes_F
  by_cases h20 : 20 < ids.length
  · have h20' : (20 : Int) < ids.length := by omega
    simp only [l12_OwnFinds_C, l12_comes_call, hc, eq_true h20', y1, y2, y3, y4, y5, y6, y7, y8, y9, keepE, keepB, chk, CV.locs, CV.locv, CV.refs, CV.ref, pureOp, repC, takeN, resV, enterC, Nat.reduceAdd, Nat.reduceSub, Nat.reduceMul, Nat.reduceLeDiff, Nat.reduceLT, Nat.reduceBEq, Nat.reduceBNe, Nat.reduceEqDiff, ↓reduceIte, Int.reduceAdd, Int.reduceSub, Int.reduceMul, Int.reduceLT, Int.reduceLE, Int.reduceEq, Int.reduceNeg, Int.reduceToNat]
  · have h20' : ¬ (20 : Int) < ids.length := by omega
    obtain ⟨v, bl, e, hO⟩ := finds_loop ids (by omega) id ids [] [] (-1) .nils [] rfl rfl (Own.nil _ _ _)
    simp only [List.nil_append, List.length_nil, Int.natCast_zero] at e hO
    have hvl := vf_len ids 0
    have hF := fun bx => ofindO_F (vf 0 ids) (by unfold Zc.small; omega) id bl v hO bx
    rcases atF_find id ids 0 with ⟨h1, h2⟩ | ⟨k, h1, h2⟩
    · simp only [h1] at e
      simp only [h2, viewC] at hF
      simp only [l12_OwnFinds_C, l12_OwnFinds_L0_eq, l12_comes_call, hc, eq_false h20', e, own_Find_call, hO.locv, hF, y1, y2, y3, y4, y5, y6, y7, y8, y9, keepE, keepB, chk, CV.locs, CV.locv, CV.refs, CV.ref, pureOp, repC, takeN, resV, enterC, Nat.reduceAdd, Nat.reduceSub, Nat.reduceMul, Nat.reduceLeDiff, Nat.reduceLT, Nat.reduceBEq, Nat.reduceBNe, Nat.reduceEqDiff, ↓reduceIte, Int.reduceAdd, Int.reduceSub, Int.reduceMul, Int.reduceLT, Int.reduceLE, Int.reduceEq, Int.reduceNeg, Int.reduceToNat]
    · simp only [h1] at e
      simp only [h2, viewC, fV, slI1] at hF
      have hk : (0 : Int) ≤ k := by omega
      have hI := fun st H => ints_F [(k : Int)] [(k : Int)] (by simp [Zc.small]) st H
      simp only [slI1] at hI
      simp only [l12_OwnFinds_C, l12_OwnFinds_L0_eq, l12_comes_call, hc, eq_false h20', e, own_Find_call, hO.locv, hF, eq_true hk, r01_Ints_call, hI, y1, y2, y3, y4, y5, y6, y7, y8, y9, keepE, keepB, chk, CV.locs, CV.locv, CV.refs, CV.ref, pureOp, repC, takeN, resV, enterC, Nat.reduceAdd, Nat.reduceSub, Nat.reduceMul, Nat.reduceLeDiff, Nat.reduceLT, Nat.reduceBEq, Nat.reduceBNe, Nat.reduceEqDiff, ↓reduceIte, Int.reduceAdd, Int.reduceSub, Int.reduceMul, Int.reduceLT, Int.reduceLE, Int.reduceEq, Int.reduceNeg, Int.reduceToNat]
end Go.Proofs.Ytmjffmghkfappaa.Zt
