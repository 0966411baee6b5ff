/- Walks: sections unlike ones that there are; may a report be so, as the program tells. -/
import Derived.Test.YtmkdhpjidhbijaaZcI
set_option linter.all false
namespace Go.Proofs.Ytmkdhpjidhbijaa.Zt
open Go Go.Zc
set_option maxRecDepth 10000

/-- Sections that there are, each once, none of which stood before. -/
def unlFrom (l : Lay) : List Int → List Int → Bool
  | _, [] => true
  | pre, x :: s => if lenAt l x = 0 then false else if x ∈ pre then false else unlFrom l (pre ++ [x]) s

theorem unlike_loop (l : Lay) (t : List Int) (hm : t.length ≤ Zc.small) : ∀ (s pre : List Int), pre ++ s = t →
    train_unlike_R0 ([(0, .vp (layC l)), (1, sl fI t), (7, sl fI t), (8, .int .i64 t.length), (9, .int .i64 pre.length)], ⟨[], []⟩) =
      if unlFrom l pre s = true then some (.norm, [], ⟨[], []⟩) else some (.ret, [(4, .bool false)], ⟨[], []⟩)
  | [], pre, hp => by
    have h1 : ¬ ((pre.length : Int) < t.length) := by rw [← hp]; simp
    rw [train_unlike_R0_eq]
    simp only [train_unlike_B0, train_unlike_K0_norm, train_unlike_K0_ret, train_unlike_K0_exit, h1, unlFrom, y1, y2, y3, y4, y5, y6, y7, y8, y9, keepE, keepB, chk, CV.locs, CV.locv, CV.refs, CV.ref, pureOp, repC, takeN, resV, enterC, Nat.reduceAdd, Nat.reduceSub, Nat.reduceMul, Nat.reduceLeDiff, Nat.reduceLT, Nat.reduceBEq, Nat.reduceBNe, Nat.reduceEqDiff, ↓reduceIte, Int.reduceAdd, Int.reduceSub, Int.reduceMul, Int.reduceLT, Int.reduceLE, Int.reduceEq, Int.reduceNeg, Int.reduceToNat]
  | x :: s, pre, hp => by
    have hpl : pre.length + 1 + s.length = t.length := by rw [← hp]; simp; omega
    have h1 : ((pre.length : Int) < t.length) := by omega
    have hw := wrapN (n := pre.length) (by omega)
    have hi : iaddrC 1 (sl fI t) (.int .i64 pre.length) = some (.vp (.int .i64 x :: s.flatMap fI)) := by rw [← hp]; exact iaddr_midI _ pre s x
    have hs : slcC 1 (sl fI t) none (some (.int .i64 pre.length)) = some (sl fI pre) := by
      rw [slc_hi flatI t pre.length (by omega), ← hp]; simp
    have hc := fun st H => contains_F x pre (by omega) st H
    have ih := unlike_loop l t hm s (pre ++ [x]) (by simpa using hp)
    rw [show (pre ++ [x]).length = pre.length + 1 by simp] at ih
    rw [train_unlike_R0_eq]
    by_cases h2 : lenAt l x = 0
    · simp only [train_unlike_B0, train_unlike_K0_norm, train_unlike_K0_ret, train_unlike_K0_exit, h1, hi, graph_Graph_Len_call, glen_F, eq_true h2, unlFrom, y1, y2, y3, y4, y5, y6, y7, y8, y9, keepE, keepB, chk, CV.locs, CV.locv, CV.refs, CV.ref, pureOp, repC, takeN, resV, enterC, Nat.reduceAdd, Nat.reduceSub, Nat.reduceMul, Nat.reduceLeDiff, Nat.reduceLT, Nat.reduceBEq, Nat.reduceBNe, Nat.reduceEqDiff, ↓reduceIte, Int.reduceAdd, Int.reduceSub, Int.reduceMul, Int.reduceLT, Int.reduceLE, Int.reduceEq, Int.reduceNeg, Int.reduceToNat]
    · by_cases h3 : x ∈ pre
      · simp only [train_unlike_B0, train_unlike_K0_norm, train_unlike_K0_ret, train_unlike_K0_exit, h1, hi, hs, graph_Graph_Len_call, glen_F, eq_false h2, slices_Contains_int_call, hc, eq_true h3, unlFrom, y1, y2, y3, y4, y5, y6, y7, y8, y9, keepE, keepB, chk, CV.locs, CV.locv, CV.refs, CV.ref, pureOp, repC, takeN, resV, enterC, Nat.reduceAdd, Nat.reduceSub, Nat.reduceMul, Nat.reduceLeDiff, Nat.reduceLT, Nat.reduceBEq, Nat.reduceBNe, Nat.reduceEqDiff, ↓reduceIte, Int.reduceAdd, Int.reduceSub, Int.reduceMul, Int.reduceLT, Int.reduceLE, Int.reduceEq, Int.reduceNeg, Int.reduceToNat]
      · simp only [train_unlike_B0, train_unlike_K0_norm, train_unlike_K0_ret, train_unlike_K0_exit, h1, hi, hs, graph_Graph_Len_call, glen_F, eq_false h2, slices_Contains_int_call, hc, eq_false h3, hw, ih, unlFrom, y1, y2, y3, y4, y5, y6, y7, y8, y9, keepE, keepB, chk, CV.locs, CV.locv, CV.refs, CV.ref, pureOp, repC, takeN, resV, enterC, Nat.reduceAdd, Nat.reduceSub, Nat.reduceMul, Nat.reduceLeDiff, Nat.reduceLT, Nat.reduceBEq, Nat.reduceBNe, Nat.reduceEqDiff, ↓reduceIte, Int.reduceAdd, Int.reduceSub, Int.reduceMul, Int.reduceLT, Int.reduceLE, Int.reduceEq, Int.reduceNeg, Int.reduceToNat]

theorem unlike_F (l : Lay) (t : List Int) (hm : t.length ≤ Zc.small) (st : Bool) (H : Heap) : train_unlike_F st H [.vp (layC l), sl fI t] = some (.bool (unlFrom l [] t), H) := by
  have e := unlike_loop l t hm t [] rfl
  simp only [List.nil_append, List.length_nil, Int.natCast_zero] at e
  rw [train_unlike_F_eq]
  cases h : unlFrom l [] t with
  | true =>
    rw [h, if_pos rfl] at e
    simp only [train_unlike_C, train_unlike_L0_eq, e, y1, y2, y3, y4, y5, y6, y7, y8, y9, keepE, keepB, chk, CV.locs, CV.locv, CV.refs, CV.ref, pureOp, repC, takeN, resV, enterC, Nat.reduceAdd, Nat.reduceSub, Nat.reduceMul, Nat.reduceLeDiff, Nat.reduceLT, Nat.reduceBEq, Nat.reduceBNe, Nat.reduceEqDiff, ↓reduceIte, Int.reduceAdd, Int.reduceSub, Int.reduceMul, Int.reduceLT, Int.reduceLE, Int.reduceEq, Int.reduceNeg, Int.reduceToNat]
  | false =>
    rw [h, if_neg (by decide)] at e
    simp only [train_unlike_C, train_unlike_L0_eq, e, y1, y2, y3, y4, y5, y6, y7, y8, y9, keepE, keepB, chk, CV.locs, CV.locv, CV.refs, CV.ref, pureOp, repC, takeN, resV, enterC, Nat.reduceAdd, Nat.reduceSub, Nat.reduceMul, Nat.reduceLeDiff, Nat.reduceLT, Nat.reduceBEq, Nat.reduceBNe, Nat.reduceEqDiff, ↓reduceIte, Int.reduceAdd, Int.reduceSub, Int.reduceMul, Int.reduceLT, Int.reduceLE, Int.reduceEq, Int.reduceNeg, Int.reduceToNat]

theorem unlFrom_iff (l : Lay) : ∀ (s pre : List Int), unlFrom l pre s = true ↔ s.Nodup ∧ ∀ x ∈ s, lenAt l x ≠ 0 ∧ x ∉ pre
  | [], pre => by simp [unlFrom]
  | x :: s, pre => by
    simp only [unlFrom]
    split
    · rename_i h; simp [h]
    · rename_i h
      split
      · rename_i h'; simp [h']
      · rename_i h'
        rw [unlFrom_iff l s (pre ++ [x])]
        simp only [List.mem_append, List.mem_singleton, List.nodup_cons, List.mem_cons, forall_eq_or_imp, not_or]
        constructor
        · rintro ⟨h1, h2⟩
          exact ⟨⟨fun hx => (h2 x hx).2.2.1 rfl, h1⟩, ⟨h, h'⟩, fun y hy => ⟨(h2 y hy).1, (h2 y hy).2.1⟩⟩
        · rintro ⟨⟨h1, h2⟩, _, h3⟩
          exact ⟨h2, fun y hy => ⟨(h3 y hy).1, (h3 y hy).2, fun e => h1 (by rw [← e]; exact hy), by simp⟩⟩

/-! ### Reports -/
structure Msg where
  kind : Int
  train : Int
  time : Int
  dir : Int
  ahead : Int
  whole : Bool
  trail : List Int
abbrev msgC (m : Msg) : List CV := [.int .u8 m.kind, .int .i64 m.train, .int .i64 m.time, .int .i64 m.dir, .int .i64 m.ahead, .bool m.whole, sl fI m.trail]

/-- From an end on, through sections. -/
def follows (l : Lay) : Ed → List Int → Bool
  | _, [] => true
  | e, s :: r => match (around l e).find? fun x => x.s == s with
    | some y => follows l ⟨s, 1 - y.e⟩ r
    | none => false
def fits (l : Lay) (m : Msg) : Bool :=
  match m.trail with
  | [] => false
  | h :: t => decide (m.trail.length ≤ 12) && unlFrom l [] m.trail && decide (0 ≤ m.dir) && decide (m.dir ≤ 1) && decide (0 ≤ m.ahead) && decide (m.ahead ≤ lenAt l h) && follows l ⟨h, 1 - m.dir⟩ t

theorem tfits1_F (x : Ed) (n : Int) (st : Bool) (H : Heap) : train_Fits_1_F st H [.agg (fE x), .vp [.int .i64 n]] = some (.bool (decide (x.s = n)), H) := by
  rw [train_Fits_1_F_eq]
  simp only [train_Fits_1_C, fE, y1, y2, y3, y4, y5, y6, y7, y8, y9, keepE, keepB, chk, CV.locs, CV.locv, CV.refs, CV.ref, pureOp, repC, takeN, resV, enterC, Nat.reduceAdd, Nat.reduceSub, Nat.reduceMul, Nat.reduceLeDiff, Nat.reduceLT, Nat.reduceBEq, Nat.reduceBNe, Nat.reduceEqDiff, ↓reduceIte, Int.reduceAdd, Int.reduceSub, Int.reduceMul, Int.reduceLT, Int.reduceLE, Int.reduceEq, Int.reduceNeg, Int.reduceToNat]

set_option maxHeartbeats 1000000 in
theorem tfits_loop (l : Lay) (hl : l.ok) (t : List Int) (hm : t.length ≤ Zc.small) : ∀ (s pre : List Int) (x : Ed) (bl : List Blk), pre ++ s = t →
    ∃ bl' bx', train_Fits_R0 ([(0, .vp (layC l)), (6, .op (.loc 6) 0), (60, sl fI t), (61, .int .i64 t.length), (62, .int .i64 pre.length)], ⟨[(6, fE x)], bl⟩) =
      if follows l x s = true then some (.norm, [], ⟨[], bl'⟩) else some (.ret, [(4, .bool false)], ⟨bx', bl'⟩)
  | [], pre, x, bl, hp => by
    have h1 : ¬ ((pre.length : Int) < t.length) := by rw [← hp]; simp
    refine ⟨bl, [], ?_⟩
    rw [train_Fits_R0_eq]
    simp only [train_Fits_B0, train_Fits_K0_norm, train_Fits_K0_ret, train_Fits_K0_exit, fE, h1, follows, y1, y2, y3, y4, y5, y6, y7, y8, y9, keepE, keepB, chk, CV.locs, CV.locv, CV.refs, CV.ref, pureOp, repC, takeN, resV, enterC, Nat.reduceAdd, Nat.reduceSub, Nat.reduceMul, Nat.reduceLeDiff, Nat.reduceLT, Nat.reduceBEq, Nat.reduceBNe, Nat.reduceEqDiff, ↓reduceIte, Int.reduceAdd, Int.reduceSub, Int.reduceMul, Int.reduceLT, Int.reduceLE, Int.reduceEq, Int.reduceNeg, Int.reduceToNat]
  | n :: s, pre, x, bl, hp => by
    have hpl : pre.length + 1 + s.length = t.length := by rw [← hp]; simp; omega
    have h1 : ((pre.length : Int) < t.length) := by omega
    have hw := wrapN (n := pre.length) (by omega)
    have hi : iaddrC 1 (sl fI t) (.int .i64 pre.length) = some (.vp (.int .i64 n :: s.flatMap fI)) := by rw [← hp]; exact iaddr_midI _ pre s n
    have haF := fun H => garound_F l hl x H
    simp only [fE] at haF
    have hg0 : ∀ bx, Heap.get ⟨bx, bl ++ [Blk.cells [.int .i64 0]]⟩ (.blk bl.length) = some [.int .i64 0] := fun bx => get_blk _ _ _ _ (by simp)
    have hg1 : ∀ bx, Heap.get ⟨bx, bl ++ [Blk.cells [.int .i64 n]]⟩ (.blk bl.length) = some [.int .i64 n] := fun bx => get_blk _ _ _ _ (by simp)
    have hst : ∀ bx, stE 1 0 (.int .i64 n) ⟨bx, bl ++ [Blk.cells [.int .i64 0]]⟩ (.blk bl.length) [.int .i64 0] = some ⟨bx, bl ++ [Blk.cells [.int .i64 n]]⟩ := by
      intro bx
      simp [stE, CV.cells, ones, CV.one, CV.locs, CV.locv, Id.loc?, Heap.put, setMany]
    have hc : ∀ (y : Ed) (H' : Heap), call ctx (.fn (.func 59) [] [.vp [.int .i64 n]]) [.agg (fE y)] H' = some (.bool (decide (y.s = n)), H') := by
      intro y H'
      have := tfits1_F y n
      simp only [fE] at this
      simp only [train_Fits_1_call, fE, y1, y2, y3, y4, y5, y6, y7, y8, y9, keepE, keepB, chk, CV.locs, CV.locv, CV.refs, CV.ref, pureOp, repC, takeN, resV, enterC, Nat.reduceAdd, Nat.reduceSub, Nat.reduceMul, Nat.reduceLeDiff, Nat.reduceLT, Nat.reduceBEq, Nat.reduceBNe, Nat.reduceEqDiff, ↓reduceIte, Int.reduceAdd, Int.reduceSub, Int.reduceMul, Int.reduceLT, Int.reduceLE, Int.reduceEq, Int.reduceNeg, Int.reduceToNat, this]
    have hix := fun st H => idxE_F (.fn (.func 59) [] [.vp [.int .i64 n]]) rfl (fun y => decide (y.s = n)) hc (around l x) (around_len2 l x) st H
    have hfi := find_idx (fun y : Ed => decide (y.s = n)) (around l x)
    have hfe : (fun y : Ed => y.s == n) = fun y => decide (y.s = n) := by funext y; by_cases h : y.s = n <;> simp [h]
    cases hf : (around l x).findIdx? (fun y => decide (y.s = n)) with
    | none =>
      have hfd := hfi.2 hf
      have hid : idxOf (fun y : Ed => decide (y.s = n)) (around l x) = -1 := by simp [idxOf, hf]
      have hfo : follows l x (n :: s) = false := by simp only [follows, hfe, hfd]
      rw [hfo, train_Fits_R0_eq]
      simp only [train_Fits_B0, train_Fits_K0_norm, train_Fits_K0_ret, train_Fits_K0_exit, fE, h1, hi, hg0, hg1, hst, graph_Graph_Around_call, haF, slices_IndexFunc_End_call, hix, hid, y1, y2, y3, y4, y5, y6, y7, y8, y9, keepE, keepB, chk, CV.locs, CV.locv, CV.refs, CV.ref, pureOp, repC, takeN, resV, enterC, Nat.reduceAdd, Nat.reduceSub, Nat.reduceMul, Nat.reduceLeDiff, Nat.reduceLT, Nat.reduceBEq, Nat.reduceBNe, Nat.reduceEqDiff, ↓reduceIte, Int.reduceAdd, Int.reduceSub, Int.reduceMul, Int.reduceLT, Int.reduceLE, Int.reduceEq, Int.reduceNeg, Int.reduceToNat]
      exact ⟨_, _, rfl⟩
    | some i =>
      obtain ⟨hil, hfd⟩ := hfi.1 i hf
      have hid : idxOf (fun y : Ed => decide (y.s = n)) (around l x) = i := by simp [idxOf, hf]
      have hi0 : ¬ ((i : Int) < 0) := by omega
      obtain ⟨y, hy⟩ : ∃ y, (around l x)[i] = y := ⟨_, rfl⟩
      have hya := around_in (l := l) (x := x) (y := y) (by rw [← hy]; exact List.getElem_mem hil)
      have hw3 : IntKind.i64.wrap (1 - y.e) = 1 - y.e := wrap64 (by omega) (by omega)
      have hia := iaddr_atE (k := .i64) hil
      rw [hy] at hia hfd
      have hfo : follows l x (n :: s) = follows l ⟨n, 1 - y.e⟩ s := by simp only [follows, hfe, hfd]
      obtain ⟨bl', bx', e⟩ := tfits_loop l hl t hm s (pre ++ [n]) ⟨n, 1 - y.e⟩ (bl ++ [Blk.cells [.int .i64 n]]) (by simpa using hp)
      rw [show (pre ++ [n]).length = pre.length + 1 by simp] at e
      refine ⟨bl', bx', ?_⟩
      simp only [fE] at e
      rw [hfo, train_Fits_R0_eq]
      simp only [train_Fits_B0, train_Fits_K0_norm, train_Fits_K0_ret, train_Fits_K0_exit, fE, h1, hi, hg0, hg1, hst, graph_Graph_Around_call, haF, slices_IndexFunc_End_call, hix, hid, hi0, hia, hw, hw3, e, y1, y2, y3, y4, y5, y6, y7, y8, y9, keepE, keepB, chk, CV.locs, CV.locv, CV.refs, CV.ref, pureOp, repC, takeN, resV, enterC, Nat.reduceAdd, Nat.reduceSub, Nat.reduceMul, Nat.reduceLeDiff, Nat.reduceLT, Nat.reduceBEq, Nat.reduceBNe, Nat.reduceEqDiff, ↓reduceIte, Int.reduceAdd, Int.reduceSub, Int.reduceMul, Int.reduceLT, Int.reduceLE, Int.reduceEq, Int.reduceNeg, Int.reduceToNat]
end Go.Proofs.Ytmkdhpjidhbijaa.Zt
