/- Walks: a register of several trains, none of which has told where it is. -/
import Derived.Test.YtmkdhpjidhbijaaZcA
import Derived.Test.YtmkdhpjidhbijaaZcStore
set_option linter.all false
namespace Go.Proofs.Ytmkdhpjidhbijaa.Zt
open Go Go.Zc
set_option maxRecDepth 10000

structure Sn where
  id : Int
  heard : Int
  c : Nat
def snC (e : Sn) : List CV := [.int .i64 e.id, .int .i64 e.heard, .int .i64 (-1), .int .i64 0, .int .i64 0, .nils]
def ents (es : List Sn) : List (CV × CV) := es.map fun e => (.int .i64 e.id, .op (.blk e.c) 0)
theorem ents_len (es : List Sn) : (ents es).length = es.length := by simp [ents]
theorem ents_app (a b : List Sn) : ents (a ++ b) = ents a ++ ents b := by simp [ents]
structure Rgs (bl : List Blk) (a b : Nat) (es : List Sn) : Prop where
  top : bl[a]? = some (.cells [.om b])
  map : bl[b]? = some (.map (ents es))
  ses : ∀ e ∈ es, bl[e.c]? = some (.cells (snC e))
theorem Rgs.keep {bl bl' : List Blk} {a b : Nat} {es : List Sn} (h : Rgs bl a b es) (hk : ∀ (m : Nat) (x : Blk), bl[m]? = some x → bl'[m]? = some x) : Rgs bl' a b es :=
  ⟨hk _ _ h.top, hk _ _ h.map, fun e he => hk _ _ (h.ses e he)⟩
/-- Other trains: the map alone is another one. -/
theorem Rgs.set {bl : List Blk} {a b : Nat} {es : List Sn} (h : Rgs bl a b es) (es' : List Sn) (hs : ∀ e ∈ es', bl[e.c]? = some (.cells (snC e))) : Rgs (bl.set b (.map (ents es'))) a b es' := by
  have hb : b < bl.length := (List.getElem?_eq_some_iff.1 h.map).1
  refine ⟨?_, by simp [hb], fun e he => ?_⟩
  · rw [List.getElem?_set_ne (fun e => ?_)]
    · exact h.top
    · have h1 := h.top; have h2 := h.map
      rw [e, h1] at h2
      simp at h2
  · rw [List.getElem?_set_ne (fun e' => ?_)]
    · exact hs e he
    · have h1 := hs e he; have h2 := h.map
      rw [e', h1] at h2
      simp at h2

theorem mfind_no (k : Int) : ∀ (es : List Sn) (i : Nat), (∀ e ∈ es, e.id ≠ k) → mfind 0 (.int .i64 k) (ents es) i = some none
  | [], _, _ => rfl
  | e :: es, i, h => by
    have h1 : (k == e.id) = false := by simpa using fun he => h e (by simp) he.symm
    have ih := mfind_no k es (i + 1) (fun x hx => h x (by simp [hx]))
    simp only [ents, List.map_cons, mfind, mkey, if_true, h1]
    exact ih
theorem mfind_yes (e : Sn) (suf : List Sn) : ∀ (pre : List Sn) (i : Nat), (∀ x ∈ pre, x.id ≠ e.id) → mfind 0 (.int .i64 e.id) (ents (pre ++ e :: suf)) i = some (some (i + pre.length, .op (.blk e.c) 0))
  | [], i, _ => by simp [ents, mfind, mkey]
  | x :: pre, i, h => by
    have h1 : (e.id == x.id) = false := by simpa using fun he => h x (by simp) he.symm
    have ih := mfind_yes e suf pre (i + 1) (fun y hy => h y (by simp [hy]))
    simp only [List.cons_append, ents, List.map_cons, mfind, mkey, if_true, h1]
    refine (show _ = mfind 0 (.int .i64 e.id) (ents (pre ++ e :: suf)) (i + 1) from rfl).trans (ih.trans ?_)
    simp only [List.length_cons]
    rw [show i + 1 + pre.length = i + (pre.length + 1) by omega]

section
variable {bl : List Blk} {a b : Nat} {es : List Sn}
theorem Rgs.look0 (h : Rgs bl a b es) (k : Int) (hk : ∀ e ∈ es, e.id ≠ k) (bx : List (Nat × List CV)) : heapOp (.look 0 .nilp false) [.om b, .int .i64 k] ⟨bx, bl⟩ = some (.nilp, ⟨bx, bl⟩) := by
  simp only [heapOp, lookC, h.map, mfind_no k es 0 hk, Option.bind_some, mkey, if_true, Option.map_some]
  rfl
theorem Rgs.look1 {pre suf : List Sn} {e : Sn} (h : Rgs bl a b (pre ++ e :: suf)) (hk : ∀ x ∈ pre, x.id ≠ e.id) (bx : List (Nat × List CV)) : heapOp (.look 0 .nilp false) [.om b, .int .i64 e.id] ⟨bx, bl⟩ = some (.op (.blk e.c) 0, ⟨bx, bl⟩) := by
  simp only [heapOp, lookC, h.map, mfind_yes e suf pre 0 hk, Option.bind_some]
  rfl
theorem Rgs.lenM (h : Rgs bl a b es) (bx : List (Nat × List CV)) : heapOp .lenM [.om b] ⟨bx, bl⟩ = some (.int .i64 es.length, ⟨bx, bl⟩) := by
  simp only [heapOp, lenMC, h.map, ents_len]
  rfl
theorem Rgs.del {pre suf : List Sn} {e : Sn} (h : Rgs bl a b (pre ++ e :: suf)) (hk : ∀ x ∈ pre, x.id ≠ e.id) (bx : List (Nat × List CV)) : heapOp (.mdel 0) [.om b, .int .i64 e.id] ⟨bx, bl⟩ = some (.tup [], ⟨bx, bl.set b (.map (ents (pre ++ suf)))⟩) := by
  simp only [heapOp, mdelC, h.map, mfind_yes e suf pre 0 hk, Option.bind_some, Option.map_some]
  have : (ents (pre ++ e :: suf)).eraseIdx (0 + pre.length) = ents (pre ++ suf) := by
    simp [ents, List.eraseIdx_append_of_length_le]
  rw [this]
theorem Rgs.put (h : Rgs bl a b es) (k : Int) (hk : ∀ e ∈ es, e.id ≠ k) (X : List Blk) (p : CV) (h1 : p.und? = false) (h2 : p.locv = false) (bx : List (Nat × List CV)) :
    heapOp (.mput 0) [.om b, .int .i64 k, p] ⟨bx, bl ++ X⟩ = some (.tup [], ⟨bx, (bl ++ X).set b (.map (ents es ++ [(.int .i64 k, p)]))⟩) := by
  have hb : b < bl.length := (List.getElem?_eq_some_iff.1 h.map).1
  simp [heapOp, mputC, List.getElem?_append_left hb, h.map, mfind_no k es 0 hk, mkey, h1, h2]
end
theorem hop_mkmap' (bx : List (Nat × List CV)) (bl : List Blk) : heapOp .mkmap [] ⟨bx, bl⟩ = some (.om bl.length, ⟨bx, bl ++ [.map []]⟩) := rfl

theorem snew_F (bl : List Blk) : ∃ bl', (∀ bx, train_New_F bx bl [] = some (.op (.blk (bl.length + 1)) 0, ⟨bx, bl'⟩)) ∧ Rgs bl' (bl.length + 1) bl.length [] ∧ (∀ (k : Nat) (b : Blk), bl[k]? = some b → bl'[k]? = some b) := by
  refine ⟨bl ++ [.map []] ++ [.cells [.om bl.length]], fun bx => ?_, ⟨by simp, by simp [ents], by simp⟩, fun k b hk => ?_⟩
  · rw [train_New_F_eq]
    simp only [train_New_C, hop_mkmap', List.length_append, y1, y2, y3, y4, y5, y6, y7, y8, y9, keepE, keepB, chk, CV.locs, CV.locv, CV.refs, CV.ref, pureOp, repC, takeN, resV, enterC, Nat.reduceAdd, Nat.reduceSub, Nat.reduceMul, Nat.reduceLeDiff, Nat.reduceLT, Nat.reduceBEq, Nat.reduceBNe, Nat.reduceEqDiff, ↓reduceIte, Int.reduceAdd, Int.reduceSub, Int.reduceMul, Int.reduceLT, Int.reduceLE, Int.reduceEq, Int.reduceNeg, Int.reduceToNat]
  · have := (List.getElem?_eq_some_iff.1 hk).1
    rw [List.append_assoc, List.getElem?_append_left this]; exact hk

theorem sopen_F {bl : List Blk} {a b : Nat} {es : List Sn} (h : Rgs bl a b es) (id now : Int) (hk : ∀ e ∈ es, e.id ≠ id) (hn : es.length < 6) :
    ∃ bl', (∀ bx, train_Register_Open_F bx bl [.op (.blk a) 0, .int .i64 id, .int .i64 now] = some (.int .i64 0, ⟨bx, bl'⟩)) ∧ Rgs bl' a b (es ++ [⟨id, now, bl.length⟩]) ∧ (∀ (k : Nat) (x : Blk), bl[k]? = some x → k ≠ b → bl'[k]? = some x) := by
  have hb : b < bl.length := (List.getElem?_eq_some_iff.1 h.map).1
  have hg : ∀ bx, Heap.get ⟨bx, bl⟩ (.blk a) = some [.om b] := fun bx => get_blk bx bl a _ h.top
  have hl := h.look0 id hk
  have hm := h.lenM
  have hz : ∀ i o, binC .eql .ptr (.op i o) .nilp = some (.bool false) := fun _ _ => rfl
  have hz2 : binC .neq .ptr .nilp .nilp = some (.bool false) := rfl
  have hlt : ¬ ((6 : Int) ≤ es.length) := by omega
  have hp := h.put id hk [Blk.cells (snC ⟨id, now, bl.length⟩)] (.op (.blk bl.length) 0) rfl rfl
  simp only [snC] at hp
  refine ⟨(bl ++ [Blk.cells (snC ⟨id, now, bl.length⟩)]).set b (.map (ents (es ++ [⟨id, now, bl.length⟩]))), fun bx => ?_, ?_, fun k x hx hne => ?_⟩
  · rw [train_Register_Open_F_eq]
    simp only [train_Register_Open_C, hg, hl, hm, hz, hz2, hp, hlt, ge_iff_le, y1, y2, y3, y4, y5, y6, y7, y8, y9, keepE, keepB, chk, CV.locs, CV.locv, CV.refs, CV.ref, pureOp, repC, takeN, resV, enterC, Nat.reduceAdd, Nat.reduceSub, Nat.reduceMul, Nat.reduceLeDiff, Nat.reduceLT, Nat.reduceBEq, Nat.reduceBNe, Nat.reduceEqDiff, ↓reduceIte, Int.reduceAdd, Int.reduceSub, Int.reduceMul, Int.reduceLT, Int.reduceLE, Int.reduceEq, Int.reduceNeg, Int.reduceToNat]
    simp [ents, snC]
  · refine (h.keep (bl' := bl ++ [Blk.cells (snC ⟨id, now, bl.length⟩)]) fun m x hx => by rw [List.getElem?_append_left (List.getElem?_eq_some_iff.1 hx).1]; exact hx).set _ fun e he => ?_
    rcases List.mem_append.1 he with he | he
    · have := h.ses e he
      rw [List.getElem?_append_left (List.getElem?_eq_some_iff.1 this).1]; exact this
    · simp only [List.mem_singleton] at he
      subst he
      simp
  · rw [List.getElem?_set_ne (Ne.symm hne), List.getElem?_append_left (List.getElem?_eq_some_iff.1 hx).1]
    exact hx
theorem sopen_full {bl : List Blk} {a b : Nat} {es : List Sn} (h : Rgs bl a b es) (id now : Int) (hk : ∀ e ∈ es, e.id ≠ id) (hn : ¬ es.length < 6) (bx : List (Nat × List CV)) :
    train_Register_Open_F bx bl [.op (.blk a) 0, .int .i64 id, .int .i64 now] = some (.int .i64 6, ⟨bx, bl⟩) := by
  have hg : ∀ bx, Heap.get ⟨bx, bl⟩ (.blk a) = some [.om b] := fun bx => get_blk bx bl a _ h.top
  have hl := h.look0 id hk
  have hm := h.lenM
  have hz : ∀ i o, binC .eql .ptr (.op i o) .nilp = some (.bool false) := fun _ _ => rfl
  have hz2 : binC .neq .ptr .nilp .nilp = some (.bool false) := rfl
  have hlt : ((6 : Int) ≤ es.length) := by omega
  rw [train_Register_Open_F_eq]
  simp only [train_Register_Open_C, hg, hl, hm, hz, hz2, hlt, ge_iff_le, y1, y2, y3, y4, y5, y6, y7, y8, y9, keepE, keepB, chk, CV.locs, CV.locv, CV.refs, CV.ref, pureOp, repC, takeN, resV, enterC, Nat.reduceAdd, Nat.reduceSub, Nat.reduceMul, Nat.reduceLeDiff, Nat.reduceLT, Nat.reduceBEq, Nat.reduceBNe, Nat.reduceEqDiff, ↓reduceIte, Int.reduceAdd, Int.reduceSub, Int.reduceMul, Int.reduceLT, Int.reduceLE, Int.reduceEq, Int.reduceNeg, Int.reduceToNat]
theorem sopen_in {bl : List Blk} {a b : Nat} {pre suf : List Sn} {e : Sn} (h : Rgs bl a b (pre ++ e :: suf)) (hk : ∀ x ∈ pre, x.id ≠ e.id) (now : Int) (bx : List (Nat × List CV)) :
    train_Register_Open_F bx bl [.op (.blk a) 0, .int .i64 e.id, .int .i64 now] = some (.int .i64 8, ⟨bx, bl⟩) := by
  have hg : ∀ bx, Heap.get ⟨bx, bl⟩ (.blk a) = some [.om b] := fun bx => get_blk bx bl a _ h.top
  have hl := h.look1 hk
  have hz : ∀ i o, binC .eql .ptr (.op i o) .nilp = some (.bool false) := fun _ _ => rfl
  have hz2 : ∀ i o, binC .neq .ptr (.op i o) .nilp = some (.bool true) := fun _ _ => rfl
  rw [train_Register_Open_F_eq]
  simp only [train_Register_Open_C, hg, hl, hz, hz2, y1, y2, y3, y4, y5, y6, y7, y8, y9, keepE, keepB, chk, CV.locs, CV.locv, CV.refs, CV.ref, pureOp, repC, takeN, resV, enterC, Nat.reduceAdd, Nat.reduceSub, Nat.reduceMul, Nat.reduceLeDiff, Nat.reduceLT, Nat.reduceBEq, Nat.reduceBNe, Nat.reduceEqDiff, ↓reduceIte, Int.reduceAdd, Int.reduceSub, Int.reduceMul, Int.reduceLT, Int.reduceLE, Int.reduceEq, Int.reduceNeg, Int.reduceToNat]

theorem sclose_in {bl : List Blk} {a b : Nat} {pre suf : List Sn} {e : Sn} (h : Rgs bl a b (pre ++ e :: suf)) (hk : ∀ x ∈ pre, x.id ≠ e.id) (bx : List (Nat × List CV)) :
    train_Register_Close_F bx bl [.op (.blk a) 0, .int .i64 e.id] = some (.bool true, ⟨bx, bl.set b (.map (ents (pre ++ suf)))⟩) := by
  have hg : ∀ bx, Heap.get ⟨bx, bl⟩ (.blk a) = some [.om b] := fun bx => get_blk bx bl a _ h.top
  have hl := h.look1 hk
  have hd := h.del hk
  have hz : ∀ i o, binC .eql .ptr (.op i o) .nilp = some (.bool false) := fun _ _ => rfl
  rw [train_Register_Close_F_eq]
  simp only [train_Register_Close_C, hg, hl, hz, hd, y1, y2, y3, y4, y5, y6, y7, y8, y9, keepE, keepB, chk, CV.locs, CV.locv, CV.refs, CV.ref, pureOp, repC, takeN, resV, enterC, Nat.reduceAdd, Nat.reduceSub, Nat.reduceMul, Nat.reduceLeDiff, Nat.reduceLT, Nat.reduceBEq, Nat.reduceBNe, Nat.reduceEqDiff, ↓reduceIte, Int.reduceAdd, Int.reduceSub, Int.reduceMul, Int.reduceLT, Int.reduceLE, Int.reduceEq, Int.reduceNeg, Int.reduceToNat]
theorem Rgs.close {bl : List Blk} {a b : Nat} {pre suf : List Sn} {e : Sn} (h : Rgs bl a b (pre ++ e :: suf)) : Rgs (bl.set b (.map (ents (pre ++ suf)))) a b (pre ++ suf) :=
  h.set _ fun x hx => h.ses x (by
    rcases List.mem_append.1 hx with hx | hx
    · exact List.mem_append_left _ hx
    · exact List.mem_append_right _ (List.mem_cons_of_mem _ hx))
theorem sclose_out {bl : List Blk} {a b : Nat} {es : List Sn} (h : Rgs bl a b es) (k : Int) (hk : ∀ e ∈ es, e.id ≠ k) (bx : List (Nat × List CV)) :
    train_Register_Close_F bx bl [.op (.blk a) 0, .int .i64 k] = some (.bool false, ⟨bx, bl⟩) := by
  have hg : ∀ bx, Heap.get ⟨bx, bl⟩ (.blk a) = some [.om b] := fun bx => get_blk bx bl a _ h.top
  have hl := h.look0 k hk
  have hz : ∀ i o, binC .eql .ptr (.op i o) .nilp = some (.bool false) := fun _ _ => rfl
  have hz2 : binC .eql .ptr .nilp .nilp = some (.bool true) := rfl
  rw [train_Register_Close_F_eq]
  simp only [train_Register_Close_C, hg, hl, hz, hz2, y1, y2, y3, y4, y5, y6, y7, y8, y9, keepE, keepB, chk, CV.locs, CV.locv, CV.refs, CV.ref, pureOp, repC, takeN, resV, enterC, Nat.reduceAdd, Nat.reduceSub, Nat.reduceMul, Nat.reduceLeDiff, Nat.reduceLT, Nat.reduceBEq, Nat.reduceBNe, Nat.reduceEqDiff, ↓reduceIte, Int.reduceAdd, Int.reduceSub, Int.reduceMul, Int.reduceLT, Int.reduceLE, Int.reduceEq, Int.reduceNeg, Int.reduceToNat]

theorem keysI_ents : ∀ es : List Sn, (∀ e ∈ es, -9223372036854775808 ≤ e.id ∧ e.id ≤ 9223372036854775807) → keysI (ents es) = some (es.map Sn.id)
  | [], _ => rfl
  | e :: es, h => by
    have ih := keysI_ents es (fun x hx => h x (by simp [hx]))
    have he := h e (by simp)
    simp only [ents, List.map_cons, keysI, keyI, if_pos he, Option.bind_some]
    rw [show es.map (fun e => (CV.int .i64 e.id, CV.op (.blk e.c) 0)) = ents es from rfl, ih]
    rfl
theorem sl_map (l : List Int) : CV.vs (l.map fun n => .int .i64 n) l.length = sl fI l := by
  have : l.map (fun n => CV.int .i64 n) = l.flatMap fI := by
    induction l with
    | nil => rfl
    | cons x l ih => simp only [List.map_cons, List.flatMap_cons, ih]; rfl
  rw [this]; rfl
theorem sorted_ents {bl : List Blk} {x b : Nat} {es : List Sn} (hx : bl[x]? = some (.cells [.om b])) (hb : bl[b]? = some (.map (ents es))) (hr : ∀ e ∈ es, -9223372036854775808 ≤ e.id ∧ e.id ≤ 9223372036854775807) (hn : es.length ≤ 1000000) (bx : List (Nat × List CV)) :
    call ctx (.fn (.func 69) [] []) [.fn (.func 105) [] [.op (.blk x) 0]] ⟨bx, bl⟩ = some (sl fI (isort (es.map Sn.id)), ⟨bx, bl⟩) := by
  rw [prim_call (s := sortedS [105]) (show ctx.prim 69 = _ by rfl), List.append_nil, sortedS_eq (by decide) hx hb (keysI_ents es hr) (by simpa using hn)]
  have h1 : (isort (es.map Sn.id)).length = (es.map Sn.id).length := (isort_perm _).length_eq
  rw [← h1, sl_map]
  simp only [CV.locs, CV.locv, Bool.or_self, Bool.false_or, Option.bind_some, locv_sl, Id.loc?]
  rfl

theorem sall_F {bl : List Blk} {a b : Nat} {es : List Sn} (h : Rgs bl a b es) (hr : ∀ e ∈ es, -9223372036854775808 ≤ e.id ∧ e.id ≤ 9223372036854775807) (hn : es.length ≤ 1000000) (bx : List (Nat × List CV)) :
    train_Register_All_F bx bl [.op (.blk a) 0] = some (sl fI (isort (es.map Sn.id)), ⟨bx, bl ++ [.cells [.om b]]⟩) := by
  have hg : ∀ bx, Heap.get ⟨bx, bl⟩ (.blk a) = some [.om b] := fun bx => get_blk bx bl a _ h.top
  have hz : ∀ i o, binC .eql .ptr (.op i o) .nilp = some (.bool false) := fun _ _ => rfl
  have hb : b < bl.length := (List.getElem?_eq_some_iff.1 h.map).1
  have hs := sorted_ents (bl := bl ++ [.cells [.om b]]) (x := bl.length) (b := b) (by simp) (by rw [List.getElem?_append_left hb]; exact h.map) hr hn
  have hmk : pureOp (.mkfn (.func 105) 0) [.op (.blk bl.length) 0] = some (.fn (.func 105) [] [.op (.blk bl.length) 0]) := rfl
  rw [train_Register_All_F_eq]
  simp only [train_Register_All_C, maps_Keys_Train_call, maps_Keys_Train_F_eq, maps_Keys_Train_C, hg, hz, hs, hmk, y1, y2, y3, y4, y5, y6, y7, y8, y9, keepE, keepB, chk, CV.locs, CV.locv, CV.refs, CV.ref, pureOp, repC, takeN, resV, enterC, Nat.reduceAdd, Nat.reduceSub, Nat.reduceMul, Nat.reduceLeDiff, Nat.reduceLT, Nat.reduceBEq, Nat.reduceBNe, Nat.reduceEqDiff, ↓reduceIte, Int.reduceAdd, Int.reduceSub, Int.reduceMul, Int.reduceLT, Int.reduceLE, Int.reduceEq, Int.reduceNeg, Int.reduceToNat]
end Go.Proofs.Ytmkdhpjidhbijaa.Zt
