/- Walks: slices.DeleteFunc, Concat of ends; all that may come next, as the graph tells. -/
import Derived.Test.YtmkdhpjidhbijaaZcJ
set_option linter.all false
namespace Go.Proofs.Ytmkdhpjidhbijaa.Zt
open Go Go.Zc
set_option maxRecDepth 10000

section
variable (fv fv' : CV) (hfv : fv.locv = false) (hfv' : fv'.locv = false) (p : Ed → Bool) (k : Nat) (ce : List CV)
variable (hcall : ∀ (bl : List Blk) (bx : List (Nat × List CV)) (y : Ed), bl[k]? = some (.cells ce) → call ctx fv [.agg (fE y)] ⟨bx, bl⟩ = some (.bool (p y), ⟨bx, bl⟩))
include hfv hcall

theorem del_loop (m n : Nat) (hmk : m ≠ k) (hn : n ≤ 2 * Zc.small) : ∀ (suf kept junk : List Ed) (bl : List Blk), bl[m]? = some (.cells ((kept ++ junk ++ suf).flatMap fE)) → bl[k]? = some (.cells ce) → junk ≠ [] → (kept ++ junk ++ suf).length = n →
    ∃ bl' junk', slices_DeleteFunc_End_R0 ([(0, .os 2 (.blk m) 0 n), (1, fv), (5, .int .i64 kept.length), (6, .int .i64 (kept.length + junk.length : Nat))], ⟨[], bl⟩) =
        some (.norm, [(0, .os 2 (.blk m) 0 n), (5, .int .i64 (kept ++ suf.filter fun x => !p x).length)], ⟨[], bl'⟩) ∧
      bl'[m]? = some (.cells (((kept ++ suf.filter fun x => !p x) ++ junk').flatMap fE)) ∧ bl'[k]? = some (.cells ce) ∧ ((kept ++ suf.filter fun x => !p x) ++ junk').length = n
  | [], kept, junk, bl, hm, hk, hj, hl => by
    refine ⟨bl, junk, ?_, by simpa using hm, hk, by simpa using hl⟩
    have h1 : ¬ (((kept.length + junk.length : Nat) : Int) < n) := by simp at hl; omega
    have hcv := chkV_of hfv
    rw [slices_DeleteFunc_End_R0_eq]
    simp only [slices_DeleteFunc_End_B0, slices_DeleteFunc_End_K0_norm, slices_DeleteFunc_End_K0_ret, slices_DeleteFunc_End_K0_exit, h1, hcv, List.filter_nil, y1, y2, y3, y4, y5, y6, y7, y8, y9, keepE, keepB, chk, CV.locs, CV.locv, CV.refs, CV.ref, pureOp, repC, takeN, resV, enterC, Nat.reduceAdd, Nat.reduceSub, Nat.reduceMul, Nat.reduceLeDiff, Nat.reduceLT, Nat.reduceBEq, Nat.reduceBNe, Nat.reduceEqDiff, ↓reduceIte, Int.reduceAdd, Int.reduceSub, Int.reduceMul, Int.reduceLT, Int.reduceLE, Int.reduceEq, Int.reduceNeg, Int.reduceToNat]
  | x :: suf, kept, junk, bl, hm, hk, hj, hl => by
    have hl' : kept.length + junk.length + 1 + suf.length = n := by simp at hl; omega
    have h1 : (((kept.length + junk.length : Nat) : Int) < n) := by omega
    have hw := wrapN (n := kept.length + junk.length) (by omega)
    have hw2 := wrapN (n := kept.length) (by omega)
    have hcv := chkV_of hfv
    have hg : ∀ bx, Heap.get ⟨bx, bl⟩ (.blk m) = some ((kept ++ junk ++ x :: suf).flatMap fE) := fun bx => get_blk bx bl m _ hm
    have hia : iaddrC 2 (.os 2 (.blk m) 0 n) (.int .i64 (kept.length + junk.length : Nat)) = some (.op (.blk m) ((kept.length + junk.length) * 2)) := by
      unfold iaddrC iaddrN
      simp only [Int.toNat_natCast, Nat.zero_add]
      rw [if_pos ⟨trivial, by omega, by omega⟩]
    have hia2 : iaddrC 2 (.os 2 (.blk m) 0 n) (.int .i64 kept.length) = some (.op (.blk m) (kept.length * 2)) := by
      unfold iaddrC iaddrN
      simp only [Int.toNat_natCast, Nat.zero_add]
      rw [if_pos ⟨trivial, by omega, by omega⟩]
    have hd : ((kept ++ junk ++ x :: suf).flatMap fE).drop ((kept.length + junk.length) * 2) = .int .i64 x.s :: .int .i64 x.e :: suf.flatMap fE := by
      have := drop_mid flatE (kept ++ junk) suf x
      rw [List.length_append] at this
      exact this
    have hcx := fun bx => hcall bl bx x hk
    simp only [fE] at hcx
    by_cases hp : p x = true
    · obtain ⟨bl', junk', e, e1, e2, e3⟩ := del_loop m n hmk hn suf kept (junk ++ [x]) bl (by simpa using hm) hk (by simp) (by simpa using hl)
      have hfl : (x :: suf).filter (fun x => !p x) = suf.filter fun x => !p x := by simp [hp]
      rw [hfl]
      refine ⟨bl', junk', ?_, e1, e2, e3⟩
      have hidx : (kept.length + (junk ++ [x]).length : Nat) = kept.length + junk.length + 1 := by simp; omega
      rw [hidx] at e
      rw [slices_DeleteFunc_End_R0_eq]
      simp only [slices_DeleteFunc_End_B0, slices_DeleteFunc_End_K0_norm, slices_DeleteFunc_End_K0_ret, slices_DeleteFunc_End_K0_exit, h1, hia, hg, hd, hcx, hp, hw, hcv, e, y1, y2, y3, y4, y5, y6, y7, y8, y9, keepE, keepB, chk, CV.locs, CV.locv, CV.refs, CV.ref, pureOp, repC, takeN, resV, enterC, Nat.reduceAdd, Nat.reduceSub, Nat.reduceMul, Nat.reduceLeDiff, Nat.reduceLT, Nat.reduceBEq, Nat.reduceBNe, Nat.reduceEqDiff, ↓reduceIte, Int.reduceAdd, Int.reduceSub, Int.reduceMul, Int.reduceLT, Int.reduceLE, Int.reduceEq, Int.reduceNeg, Int.reduceToNat]
    · obtain ⟨j0, junk0, rfl⟩ : ∃ j0 junk0, junk = j0 :: junk0 := by cases junk with | nil => exact (hj rfl).elim | cons a b => exact ⟨a, b, rfl⟩
      have hml : m < bl.length := (List.getElem?_eq_some_iff.1 hm).1
      have hst : ∀ bx, stE 2 (kept.length * 2) (.agg [.int .i64 x.s, .int .i64 x.e]) ⟨bx, bl⟩ (.blk m) ((kept ++ j0 :: junk0 ++ x :: suf).flatMap fE) = some ⟨bx, bl.set m (.cells ((kept ++ x :: junk0 ++ x :: suf).flatMap fE))⟩ := by
        intro bx
        have hlen := flatE.length (kept ++ j0 :: junk0 ++ x :: suf)
        have hsm := setMany_mid flatE kept (junk0 ++ x :: suf) x j0
        unfold stE
        rw [if_pos ⟨rfl, by rw [hlen]; simp; omega, rfl, .inr rfl⟩]
        simp only [List.append_assoc, List.cons_append] at hsm ⊢
        simp only [fE] at hsm
        simp only [CV.cells, hsm, put_blk]
      obtain ⟨bl', junk', e, e1, e2, e3⟩ := del_loop m n hmk hn suf (kept ++ [x]) (junk0 ++ [x]) (bl.set m (.cells ((kept ++ x :: junk0 ++ x :: suf).flatMap fE))) (by rw [List.getElem?_set_self hml]; simp) (by rw [List.getElem?_set_ne hmk]; exact hk) (by simp) (by simp at hl ⊢; omega)
      have hfl : (x :: suf).filter (fun x => !p x) = x :: suf.filter fun x => !p x := by simp [hp]
      rw [hfl]
      have hke : kept ++ x :: (suf.filter fun x => !p x) = (kept ++ [x]) ++ suf.filter fun x => !p x := by simp
      rw [hke]
      refine ⟨bl', junk', ?_, e1, e2, e3⟩
      have hidx : ((kept ++ [x]).length + (junk0 ++ [x]).length : Nat) = kept.length + (j0 :: junk0).length + 1 := by simp; omega
      rw [hidx, show (kept ++ [x]).length = kept.length + 1 by simp] at e
      generalize (j0 :: junk0).length = J at *
      rw [slices_DeleteFunc_End_R0_eq]
      simp only [slices_DeleteFunc_End_B0, slices_DeleteFunc_End_K0_norm, slices_DeleteFunc_End_K0_ret, slices_DeleteFunc_End_K0_exit, h1, hia, hia2, hg, hd, hcx, hp, hst, hw, hw2, hcv, e, y1, y2, y3, y4, y5, y6, y7, y8, y9, keepE, keepB, chk, CV.locs, CV.locv, CV.refs, CV.ref, pureOp, repC, takeN, resV, enterC, Nat.reduceAdd, Nat.reduceSub, Nat.reduceMul, Nat.reduceLeDiff, Nat.reduceLT, Nat.reduceBEq, Nat.reduceBNe, Nat.reduceEqDiff, ↓reduceIte, Int.reduceAdd, Int.reduceSub, Int.reduceMul, Int.reduceLT, Int.reduceLE, Int.reduceEq, Int.reduceNeg, Int.reduceToNat]

variable (hsn : ∀ (bl : List Blk) (bx : List (Nat × List CV)), bl[k]? = some (.cells ce) → snapV ⟨bx, bl⟩ false false (snapN ⟨bx, bl⟩ false false 7) fv = some fv') (hp' : ∀ x H, call ctx fv' [.agg (fE x)] H = some (.bool (p x), H))
include hfv' hsn hp'

theorem del_F (v : CV) (bl : List Blk) (l : List Ed) (hO : Own fE 2 bl v l) (hk : bl[k]? = some (.cells ce)) (hne : blkOf v ≠ some k) (hm : l.length ≤ 2 * Zc.small) (bx : List (Nat × List CV)) :
    ∃ v' bl', slices_DeleteFunc_End_F bx bl [v, fv] = some (v', ⟨bx, bl'⟩) ∧ OwnS fE 2 bl' v' (l.filter fun x => !p x) := by
  have hv := fun bx => snapE_own hO bx false
  have hs := fun bx => hsn bl bx hk
  have hi := fun st H => idxE_F fv' hfv' p hp' l hm st H
  have hcv := chkV_of hfv
  cases hf : l.findIdx? p with
  | none =>
    have hall : ∀ x ∈ l, p x = false := fun x hx => by simpa using List.findIdx?_eq_none_iff.1 hf x hx
    have hfl : l.filter (fun x => !p x) = l := List.filter_eq_self.2 fun x hx => by simp [hall x hx]
    have hix : idxOf p l = -1 := by simp [idxOf, hf]
    rw [hfl]
    refine ⟨v, bl, ?_, hO.s⟩
    rw [slices_DeleteFunc_End_F_eq]
    simp only [slices_DeleteFunc_End_C, slices_IndexFunc_End_call, hv, hs, hi, hix, hO.locv, y1, y2, y3, y4, y5, y6, y7, y8, y9, keepE, keepB, chk, CV.locs, CV.locv, CV.refs, CV.ref, pureOp, repC, takeN, resV, enterC, Nat.reduceAdd, Nat.reduceSub, Nat.reduceMul, Nat.reduceLeDiff, Nat.reduceLT, Nat.reduceBEq, Nat.reduceBNe, Nat.reduceEqDiff, ↓reduceIte, Int.reduceAdd, Int.reduceSub, Int.reduceMul, Int.reduceLT, Int.reduceLE, Int.reduceEq, Int.reduceNeg, Int.reduceToNat]
  | some i =>
    have hix : idxOf p l = i := by simp [idxOf, hf]
    obtain ⟨hil, hpi, hlt⟩ := List.findIdx?_eq_some_iff_getElem.1 hf
    obtain ⟨pre, x, suf, rfl, hpl, hpx, hpre⟩ : ∃ pre x suf, l = pre ++ x :: suf ∧ pre.length = i ∧ p x = true ∧ ∀ y ∈ pre, p y = false := by
      refine ⟨l.take i, l[i], l.drop (i + 1), by rw [← List.drop_eq_getElem_cons hil, List.take_append_drop], by simp; omega, hpi, fun y hy => ?_⟩
      obtain ⟨j, hj, rfl⟩ := List.mem_iff_getElem.1 hy
      have hji : j < i := by simp at hj; omega
      simpa using hlt j hji
    subst hpl
    have hfl : (pre ++ x :: suf).filter (fun x => !p x) = pre ++ suf.filter fun x => !p x := by
      rw [List.filter_append, List.filter_cons, List.filter_eq_self.2 (fun y hy => by simp [hpre y hy])]
      simp [hpx]
    rw [hfl]
    obtain ⟨m, hia, hg, hvm⟩ := hO.iaddr flatE (k := .i64) (i := 0) (by simp; omega)
    have hmk : m ≠ k := fun h => hne (by rw [hvm, h]; rfl)
    subst hvm
    obtain ⟨bl', junk', e, e1, e2, e3⟩ := del_loop fv hfv p k ce hcall m (pre ++ x :: suf).length hmk hm suf pre [x] bl (by simpa using hg) hk (by simp) (by simp)
    simp only [List.length_cons, List.length_nil, Nat.zero_add] at e
    have hw := wrapN (n := pre.length) (by simp at hm; omega)
    have h1 : ¬ ((pre.length : Int) = -1) := by omega
    clear hpi hlt
    clear hil
    generalize hn : (pre ++ x :: suf).length = n at *
    generalize hq : (pre ++ suf.filter fun x => !p x) = q at *
    have hql : q.length ≤ n := by simp at e3; omega
    have hc1 : slcC 2 (.os 2 (.blk m) 0 n) (some (.int .i64 q.length)) none = some (.os 2 (.blk m) (q.length * 2) (n - q.length)) := by
      unfold slcC
      simp only [sbound, if_true, Option.bind_some]
      rw [if_pos ⟨by omega, by omega⟩]
      simp
    have hc2 : slcC 2 (.os 2 (.blk m) 0 n) none (some (.int .i64 q.length)) = some (.os 2 (.blk m) 0 q.length) := by
      unfold slcC
      simp only [sbound, if_true]
      rw [if_pos ⟨by omega, by omega⟩]
      simp
    have hml : m < bl'.length := (List.getElem?_eq_some_iff.1 e1).1
    have hcl : ∀ bx, clearC 2 [.int .i64 0, .int .i64 0] ⟨bx, bl'⟩ (.os 2 (.blk m) (q.length * 2) (n - q.length)) = some ⟨bx, bl'.set m (.cells (q.flatMap fE ++ repC [.int .i64 0, .int .i64 0] (n - q.length)))⟩ := by
      intro bx
      have hlen := flatE.length (q ++ junk')
      have h3 : (q ++ junk').length = n := e3
      have hjl : junk'.length = n - q.length := by simp at h3; omega
      have hsm := setMany_app (repC [.int .i64 0, .int .i64 0] (n - q.length)) (junk'.flatMap fE) (q.flatMap fE) [] (by rw [repC_length, flatE.length, hjl]; rfl)
      rw [flatE.length] at hsm
      simp only [List.append_nil] at hsm
      simp only [clearC, if_true, get_blk bx bl' m _ e1, Option.bind_some]
      rw [if_pos (by rw [hlen, h3]; omega)]
      simp only [List.flatMap_append, hsm, put_blk]
    refine ⟨.os 2 (.blk m) 0 q.length, bl'.set m (.cells (q.flatMap fE ++ repC [.int .i64 0, .int .i64 0] (n - q.length))), ?_, .inr ⟨m, _, rfl, by rw [List.getElem?_set_self hml]⟩⟩
    rw [slices_DeleteFunc_End_F_eq]
    simp only [slices_DeleteFunc_End_C, slices_DeleteFunc_End_L0_eq, slices_IndexFunc_End_call, hv, hs, hi, hix, h1, hw, hcv, e, hc1, hc2, hop_clear, hcl, y1, y2, y3, y4, y5, y6, y7, y8, y9, keepE, keepB, chk, CV.locs, CV.locv, CV.refs, CV.ref, pureOp, repC, takeN, resV, enterC, Nat.reduceAdd, Nat.reduceSub, Nat.reduceMul, Nat.reduceLeDiff, Nat.reduceLT, Nat.reduceBEq, Nat.reduceBNe, Nat.reduceEqDiff, ↓reduceIte, Int.reduceAdd, Int.reduceSub, Int.reduceMul, Int.reduceLT, Int.reduceLE, Int.reduceEq, Int.reduceNeg, Int.reduceToNat]
end
end Go.Proofs.Ytmkdhpjidhbijaa.Zt
