/- Walks: a register of one train at most. -/
import Derived.Test.YtmkdhpjidhbijaaZcN
import Derived.Test.YtmkdhpjidhbijaaZcJa
set_option linter.all false
namespace Go.Proofs.Ytmkdhpjidhbijaa.Zt
open Go Go.Zc
set_option maxRecDepth 10000

structure Tr where
  id : Int
  heard : Int
  sure : Int
  dir : Int
  ahead : Int
  trail : List Int
def trC (t : Tr) (v : CV) : List CV := [.int .i64 t.id, .int .i64 t.heard, .int .i64 t.sure, .int .i64 t.dir, .int .i64 t.ahead, v]

/-- A trail: none, or one that isn't empty. -/
def TrailOk (bl : List Blk) (v : CV) (l : List Int) : Prop := (v = .nils ∧ l = []) ∨ (l ≠ [] ∧ OwnF fI 1 bl v l)
theorem TrailOk.len {bl : List Blk} {v : CV} {l : List Int} (h : TrailOk bl v l) : lenC v = some (.int .i64 l.length) := by
  rcases h with ⟨rfl, rfl⟩ | ⟨_, rfl | h⟩
  · rfl
  · exact lenC_sl _ _
  · exact h.len
theorem TrailOk.locv {bl : List Blk} {v : CV} {l : List Int} (h : TrailOk bl v l) : v.locv = false := by
  rcases h with ⟨rfl, rfl⟩ | ⟨_, h⟩
  · rfl
  · exact h.locv
theorem TrailOk.one {bl : List Blk} {v : CV} {l : List Int} (h : TrailOk bl v l) : v.one = true := by
  rcases h with ⟨rfl, rfl⟩ | ⟨_, h⟩
  · rfl
  · exact h.one
theorem TrailOk.cells {bl : List Blk} {v : CV} {l : List Int} (h : TrailOk bl v l) : v.cells = [v] := by
  rcases h with ⟨rfl, rfl⟩ | ⟨_, rfl | h⟩
  · rfl
  · exact cells_sl _ _
  · exact h.cells
theorem TrailOk.und {bl : List Blk} {v : CV} {l : List Int} (h : TrailOk bl v l) : v.und? = false := by
  rcases h with ⟨rfl, rfl⟩ | ⟨_, h⟩
  · rfl
  · exact h.und
theorem TrailOk.lt {bl : List Blk} {v : CV} {l : List Int} (h : TrailOk bl v l) {k : Nat} (hk : blkOf v = some k) : k < bl.length := by
  rcases h with ⟨rfl, rfl⟩ | ⟨_, h⟩
  · cases hk
  · exact h.lt hk
theorem TrailOk.keep {bl bl' : List Blk} {v : CV} {l : List Int} (h : TrailOk bl v l) (hk : ∀ (m : Nat) (b : Blk), bl[m]? = some b → blkOf v = some m → bl'[m]? = some b) : TrailOk bl' v l := by
  rcases h with h | ⟨h0, rfl | h | ⟨m, rfl, h2⟩⟩
  · exact .inl h
  · exact .inr ⟨h0, .inl rfl⟩
  · exact .inr ⟨h0, .inr (.inl h)⟩
  · exact .inr ⟨h0, .inr (.inr ⟨m, rfl, hk _ _ h2 rfl⟩)⟩
theorem TrailOk.snap {bl : List Blk} {v : CV} {l : List Int} (h : TrailOk bl v l) (bx : List (Nat × List CV)) : snapV ⟨bx, bl⟩ false false (snapN ⟨bx, bl⟩ false false 7) v = some (sl fI l) := by
  rcases h with ⟨rfl, rfl⟩ | ⟨_, rfl | h⟩
  · rfl
  · exact snapV_sl _ _ _ _ _
  · exact snapI_own h bx false

/-- Nobody has a session. -/
structure None' (bl : List Blk) (a b : Nat) : Prop where
  top : bl[a]? = some (.cells [.om b])
  map : bl[b]? = some (.map [])
/-- One train has. -/
structure One (bl : List Blk) (a b c : Nat) (v : CV) (t : Tr) : Prop where
  top : bl[a]? = some (.cells [.om b])
  map : bl[b]? = some (.map [(.int .i64 t.id, .op (.blk c) 0)])
  ses : bl[c]? = some (.cells (trC t v))
  trail : TrailOk bl v t.trail
  va : blkOf v ≠ some a
  vb : blkOf v ≠ some b
  vc : blkOf v ≠ some c
theorem One.ac {bl : List Blk} {a b c : Nat} {v : CV} {t : Tr} (h : One bl a b c v t) : c ≠ a := by
  intro e
  have h1 := h.top; have h2 := h.ses
  rw [e, h1, trC] at h2
  simp at h2
theorem One.bc {bl : List Blk} {a b c : Nat} {v : CV} {t : Tr} (h : One bl a b c v t) : c ≠ b := by
  intro e
  have h1 := h.map; have h2 := h.ses
  rw [e, h1] at h2
  simp at h2
theorem One.keep {bl bl' : List Blk} {a b c : Nat} {v : CV} {t : Tr} (h : One bl a b c v t) (hk : ∀ (m : Nat) (x : Blk), bl[m]? = some x → bl'[m]? = some x) : One bl' a b c v t :=
  ⟨hk _ _ h.top, hk _ _ h.map, hk _ _ h.ses, h.trail.keep fun m b hb _ => hk m b hb, h.va, h.vb, h.vc⟩
/-- The session is another one. -/
theorem One.write {bl : List Blk} {a b c : Nat} {v : CV} {t : Tr} (h : One bl a b c v t) (t' : Tr) (hi : t'.id = t.id) (v' : CV) (hv : TrailOk bl v' t'.trail) (h1 : blkOf v' ≠ some a) (h2 : blkOf v' ≠ some b) (h3 : blkOf v' ≠ some c) :
    One (bl.set c (.cells (trC t' v'))) a b c v' t' := by
  have hc : c < bl.length := (List.getElem?_eq_some_iff.1 h.ses).1
  refine ⟨?_, ?_, ?_, hv.keep fun m b hb hm => ?_, h1, h2, h3⟩
  · rw [List.getElem?_set_ne h.ac]; exact h.top
  · rw [List.getElem?_set_ne h.bc, hi]; exact h.map
  · simp [hc]
  · rw [List.getElem?_set_ne (fun e => h3 (by rw [e]; exact hm))]; exact hb

theorem hop_look0 {bl : List Blk} {b : Nat} (h : bl[b]? = some (.map [])) (n : Int) (bx : List (Nat × List CV)) : heapOp (.look 0 .nilp false) [.om b, .int .i64 n] ⟨bx, bl⟩ = some (.nilp, ⟨bx, bl⟩) := by
  simp [heapOp, lookC, h, mfind, mkey]
theorem hop_look1 {bl : List Blk} {b : Nat} {n : Int} {p : CV} (h : bl[b]? = some (.map [(.int .i64 n, p)])) (bx : List (Nat × List CV)) : heapOp (.look 0 .nilp false) [.om b, .int .i64 n] ⟨bx, bl⟩ = some (p, ⟨bx, bl⟩) := by
  simp [heapOp, lookC, h, mfind, mkey]
theorem hop_len0 {bl : List Blk} {b : Nat} {es : List (CV × CV)} (h : bl[b]? = some (.map es)) (bx : List (Nat × List CV)) : heapOp .lenM [.om b] ⟨bx, bl⟩ = some (.int .i64 es.length, ⟨bx, bl⟩) := by
  simp [heapOp, lenMC, h]
theorem hop_put0 {bl : List Blk} {b : Nat} (h : bl[b]? = some (.map [])) (n : Int) (p : CV) (h1 : p.und? = false) (h2 : p.locv = false) (bx : List (Nat × List CV)) : heapOp (.mput 0) [.om b, .int .i64 n, p] ⟨bx, bl⟩ = some (.tup [], ⟨bx, bl.set b (.map [(.int .i64 n, p)])⟩) := by
  simp [heapOp, mputC, h, mfind, mkey, h1, h2]
theorem hop_mkmap (bx : List (Nat × List CV)) (bl : List Blk) : heapOp .mkmap [] ⟨bx, bl⟩ = some (.om bl.length, ⟨bx, bl ++ [.map []]⟩) := rfl
/-- One cell of a block is written over. -/
theorem st_blk (bx : List (Nat × List CV)) (bl : List Blk) (c k : Nat) (x : CV) (X : List CV) (hc : x.cells = [x]) (h1 : x.one = true) (h2 : x.locv = false) (hk : k < X.length) :
    stE 1 k x ⟨bx, bl⟩ (.blk c) X = some ⟨bx, bl.set c (.cells (X.set k x))⟩ := by
  unfold stE
  rw [if_pos ⟨by rw [hc]; rfl, by omega, by rw [hc]; simp [ones, h1], .inr (by rw [hc]; simp [CV.locs, h2])⟩, hc]
  rfl

theorem st_i (bx : List (Nat × List CV)) (bl : List Blk) (c : Nat) (n : Int) (x0 x1 x2 x3 x4 x5 : CV) :
    stE 1 1 (.int .i64 n) ⟨bx, bl⟩ (.blk c) [x0, x1, x2, x3, x4, x5] = some ⟨bx, bl.set c (.cells [x0, .int .i64 n, x2, x3, x4, x5])⟩ ∧
    stE 1 2 (.int .i64 n) ⟨bx, bl⟩ (.blk c) [x0, x1, x2, x3, x4, x5] = some ⟨bx, bl.set c (.cells [x0, x1, .int .i64 n, x3, x4, x5])⟩ ∧
    stE 1 3 (.int .i64 n) ⟨bx, bl⟩ (.blk c) [x0, x1, x2, x3, x4, x5] = some ⟨bx, bl.set c (.cells [x0, x1, x2, .int .i64 n, x4, x5])⟩ ∧
    stE 1 4 (.int .i64 n) ⟨bx, bl⟩ (.blk c) [x0, x1, x2, x3, x4, x5] = some ⟨bx, bl.set c (.cells [x0, x1, x2, x3, .int .i64 n, x5])⟩ :=
  ⟨st_blk bx bl c 1 _ _ rfl rfl rfl (by simp), st_blk bx bl c 2 _ _ rfl rfl rfl (by simp), st_blk bx bl c 3 _ _ rfl rfl rfl (by simp), st_blk bx bl c 4 _ _ rfl rfl rfl (by simp)⟩
theorem st_v (bx : List (Nat × List CV)) (bl : List Blk) (c : Nat) (x : CV) (hc : x.cells = [x]) (h1 : x.one = true) (h2 : x.locv = false) (x0 x1 x2 x3 x4 x5 : CV) :
    stE 1 5 x ⟨bx, bl⟩ (.blk c) [x0, x1, x2, x3, x4, x5] = some ⟨bx, bl.set c (.cells [x0, x1, x2, x3, x4, x])⟩ :=
  st_blk bx bl c 5 _ _ hc h1 h2 (by simp)

theorem rnew_F (bl : List Blk) : ∃ bl', (∀ bx, train_New_F bx bl [] = some (.op (.blk (bl.length + 1)) 0, ⟨bx, bl'⟩)) ∧ None' bl' (bl.length + 1) bl.length ∧ (∀ (k : Nat) (b : Blk), bl[k]? = some b → bl'[k]? = some b) := by
  refine ⟨bl ++ [.map []] ++ [.cells [.om bl.length]], fun bx => ?_, ⟨by simp, by simp⟩, fun k b hk => ?_⟩
  · rw [train_New_F_eq]
    simp only [train_New_C, hop_mkmap, List.length_append, y1, y2, y3, y4, y5, y6, y7, y8, y9, keepE, keepB, chk, CV.locs, CV.locv, CV.refs, CV.ref, pureOp, repC, takeN, resV, enterC, Nat.reduceAdd, Nat.reduceSub, Nat.reduceMul, Nat.reduceLeDiff, Nat.reduceLT, Nat.reduceBEq, Nat.reduceBNe, Nat.reduceEqDiff, ↓reduceIte, Int.reduceAdd, Int.reduceSub, Int.reduceMul, Int.reduceLT, Int.reduceLE, Int.reduceEq, Int.reduceNeg, Int.reduceToNat]
  · have := (List.getElem?_eq_some_iff.1 hk).1
    rw [List.append_assoc, List.getElem?_append_left this]; exact hk

theorem ropen_F {bl : List Blk} {a b : Nat} (h : None' bl a b) (id now : Int) :
    ∃ bl', (∀ bx, train_Register_Open_F bx bl [.op (.blk a) 0, .int .i64 id, .int .i64 now] = some (.int .i64 0, ⟨bx, bl'⟩)) ∧ One bl' a b bl.length .nils ⟨id, now, -1, 0, 0, []⟩ ∧ bl.length ≤ bl'.length := by
  have hb : b < bl.length := (List.getElem?_eq_some_iff.1 h.map).1
  have ha : a < bl.length := (List.getElem?_eq_some_iff.1 h.top).1
  have hab : b ≠ a := by
    intro e
    have h1 := h.top; have h2 := h.map
    rw [e, h1] at h2
    simp at h2
  have hg : ∀ bx, Heap.get ⟨bx, bl⟩ (.blk a) = some [.om b] := fun bx => get_blk bx bl a _ h.top
  have hl := hop_look0 h.map id
  have hn := hop_len0 h.map
  have hz : ∀ i o, binC .eql .ptr (.op i o) .nilp = some (.bool false) := fun _ _ => rfl
  have hz2 : binC .neq .ptr .nilp .nilp = some (.bool false) := rfl
  have hm2 : (bl ++ [.cells [.int .i64 id, .int .i64 now, .int .i64 (-1), .int .i64 0, .int .i64 0, .nils]])[b]? = some (.map []) := by
    rw [List.getElem?_append_left hb]; exact h.map
  have hp := hop_put0 hm2 id (.op (.blk bl.length) 0) rfl rfl
  refine ⟨(bl ++ [Blk.cells [.int .i64 id, .int .i64 now, .int .i64 (-1), .int .i64 0, .int .i64 0, .nils]]).set b (Blk.map [(.int .i64 id, .op (.blk bl.length) 0)]), fun bx => ?_, ⟨?_, ?_, ?_, .inl ⟨rfl, rfl⟩, by simp [blkOf_nils], by simp [blkOf_nils], by simp [blkOf_nils]⟩, ?_⟩
  · rw [train_Register_Open_F_eq]
    simp only [train_Register_Open_C, hg, hl, hn, hz, hz2, hp, List.length_nil, Int.natCast_zero, y1, y2, y3, y4, y5, y6, y7, y8, y9, keepE, keepB, chk, CV.locs, CV.locv, CV.refs, CV.ref, pureOp, repC, takeN, resV, enterC, Nat.reduceAdd, Nat.reduceSub, Nat.reduceMul, Nat.reduceLeDiff, Nat.reduceLT, Nat.reduceBEq, Nat.reduceBNe, Nat.reduceEqDiff, ↓reduceIte, Int.reduceAdd, Int.reduceSub, Int.reduceMul, Int.reduceLT, Int.reduceLE, Int.reduceEq, Int.reduceNeg, Int.reduceToNat]
  · rw [List.getElem?_set_ne hab, List.getElem?_append_left ha]; exact h.top
  · rw [List.getElem?_set_self (by simp; omega)]
  · rw [List.getElem?_set_ne (by omega)]; simp [trC]
  · simp

theorem rnote_none {bl : List Blk} {a b : Nat} (h : None' bl a b) (g w : CV) (hg0 : g.locv = false) (hw : w.locv = false) (now : Int) (m : Msg) (bx : List (Nat × List CV)) :
    train_Register_Note_F bx bl [.op (.blk a) 0, g, .int .i64 now, .agg (msgC m), w] = some (.int .i64 7, ⟨bx, bl⟩) := by
  have q1 := chkV_of hg0
  have q2 := chkV_of hw
  have hg : ∀ bx, Heap.get ⟨bx, bl⟩ (.blk a) = some [.om b] := fun bx => get_blk bx bl a _ h.top
  have hl := hop_look0 h.map m.train
  have hz : ∀ i o, binC .eql .ptr (.op i o) .nilp = some (.bool false) := fun _ _ => rfl
  have hz2 : binC .eql .ptr .nilp .nilp = some (.bool true) := rfl
  rw [train_Register_Note_F_eq]
  simp only [train_Register_Note_C, hg, hl, hz, hz2, q1, q2, y1, y2, y3, y4, y5, y6, y7, y8, y9, keepE, keepB, chk, CV.locs, CV.locv, CV.refs, CV.ref, pureOp, repC, takeN, resV, enterC, Nat.reduceAdd, Nat.reduceSub, Nat.reduceMul, Nat.reduceLeDiff, Nat.reduceLT, Nat.reduceBEq, Nat.reduceBNe, Nat.reduceEqDiff, ↓reduceIte, Int.reduceAdd, Int.reduceSub, Int.reduceMul, Int.reduceLT, Int.reduceLE, Int.reduceEq, Int.reduceNeg, Int.reduceToNat]

set_option maxHeartbeats 1000000 in
theorem rnote_late {bl : List Blk} {a b c : Nat} {v : CV} {t : Tr} (h : One bl a b c v t) (l : Lay) (hl : l.ok) (w : CV) (hw : w.locv = false) (now : Int) (m : Msg) (hf : fits l m = true) (hk : m.kind = 3) (hi : m.train = t.id)
    (hlate : now < m.time ∨ (t.trail = [] ∧ m.time ≠ now) ∨ (t.trail ≠ [] ∧ m.time ≤ t.heard)) (bx : List (Nat × List CV)) :
    train_Register_Note_F bx bl [.op (.blk a) 0, .vp (layC l), .int .i64 now, .agg (msgC m), w] = some (.int .i64 8, ⟨bx, bl⟩) := by
  have q2 := chkV_of hw
  have hg : ∀ bx, Heap.get ⟨bx, bl⟩ (.blk a) = some [.om b] := fun bx => get_blk bx bl a _ h.top
  have hs : ∀ bx, Heap.get ⟨bx, bl⟩ (.blk c) = some (trC t v) := fun bx => get_blk bx bl c _ h.ses
  have hlk := hop_look1 h.map
  have hz : ∀ i o, binC .eql .ptr (.op i o) .nilp = some (.bool false) := fun _ _ => rfl
  obtain ⟨mk, mi, mt, md, ma, mw, ml⟩ := m
  simp only at hk hi hlate
  subst hk hi
  have hF := fun st H => tfits_F l hl ⟨3, t.id, mt, md, ma, mw, ml⟩ st H
  simp only [hf] at hF
  have hlen := h.trail.len
  rw [train_Register_Note_F_eq]
  by_cases h0 : t.trail = []
  · have h0' : ((t.trail.length : Int) = 0) := by simp [h0]
    by_cases h1 : now < mt
    · simp only [train_Register_Note_C, hg, hs, trC, hlk, hz, q2, hlen, eq_true h0', eq_true h1, train_Fits_call, hF, y1, y2, y3, y4, y5, y6, y7, y8, y9, keepE, keepB, chk, CV.locs, CV.locv, CV.refs, CV.ref, pureOp, repC, takeN, resV, enterC, Nat.reduceAdd, Nat.reduceSub, Nat.reduceMul, Nat.reduceLeDiff, Nat.reduceLT, Nat.reduceBEq, Nat.reduceBNe, Nat.reduceEqDiff, ↓reduceIte, Int.reduceAdd, Int.reduceSub, Int.reduceMul, Int.reduceLT, Int.reduceLE, Int.reduceEq, Int.reduceNeg, Int.reduceToNat]
    · have h2 : mt ≠ now := by
        rcases hlate with h | ⟨_, h⟩ | ⟨h, _⟩
        · exact absurd h h1
        · exact h
        · exact absurd h0 h
      simp only [train_Register_Note_C, hg, hs, trC, hlk, hz, q2, hlen, eq_true h0', eq_false h1, eq_false h2, train_Fits_call, hF, y1, y2, y3, y4, y5, y6, y7, y8, y9, keepE, keepB, chk, CV.locs, CV.locv, CV.refs, CV.ref, pureOp, repC, takeN, resV, enterC, Nat.reduceAdd, Nat.reduceSub, Nat.reduceMul, Nat.reduceLeDiff, Nat.reduceLT, Nat.reduceBEq, Nat.reduceBNe, Nat.reduceEqDiff, ↓reduceIte, Int.reduceAdd, Int.reduceSub, Int.reduceMul, Int.reduceLT, Int.reduceLE, Int.reduceEq, Int.reduceNeg, Int.reduceToNat]
  · have h0' : ¬ ((t.trail.length : Int) = 0) := by
      have := List.length_pos_iff.2 h0
      omega
    by_cases h1 : now < mt
    · simp only [train_Register_Note_C, hg, hs, trC, hlk, hz, q2, hlen, eq_false h0', eq_true h1, train_Fits_call, hF, y1, y2, y3, y4, y5, y6, y7, y8, y9, keepE, keepB, chk, CV.locs, CV.locv, CV.refs, CV.ref, pureOp, repC, takeN, resV, enterC, Nat.reduceAdd, Nat.reduceSub, Nat.reduceMul, Nat.reduceLeDiff, Nat.reduceLT, Nat.reduceBEq, Nat.reduceBNe, Nat.reduceEqDiff, ↓reduceIte, Int.reduceAdd, Int.reduceSub, Int.reduceMul, Int.reduceLT, Int.reduceLE, Int.reduceEq, Int.reduceNeg, Int.reduceToNat]
    · have h2 : mt ≤ t.heard := by
        rcases hlate with h | ⟨h, _⟩ | ⟨_, h⟩
        · exact absurd h h1
        · exact absurd h h0
        · exact h
      simp only [train_Register_Note_C, hg, hs, trC, hlk, hz, q2, hlen, eq_false h0', eq_false h1, eq_true h2, train_Fits_call, hF, y1, y2, y3, y4, y5, y6, y7, y8, y9, keepE, keepB, chk, CV.locs, CV.locv, CV.refs, CV.ref, pureOp, repC, takeN, resV, enterC, Nat.reduceAdd, Nat.reduceSub, Nat.reduceMul, Nat.reduceLeDiff, Nat.reduceLT, Nat.reduceBEq, Nat.reduceBNe, Nat.reduceEqDiff, ↓reduceIte, Int.reduceAdd, Int.reduceSub, Int.reduceMul, Int.reduceLT, Int.reduceLE, Int.reduceEq, Int.reduceNeg, Int.reduceToNat]

set_option maxHeartbeats 2000000 in
theorem rnote_ok {bl : List Blk} {a b c : Nat} {v : CV} {t : Tr} (h : One bl a b c v t) (l : Lay) (hl : l.ok) (w : CV) (hw : w.locv = false) (was : List Int) (hws : was.length ≤ 100)
    (hsn : ∀ bx X st, snapV ⟨bx, bl.set c (.cells X)⟩ st false (snapN ⟨bx, bl.set c (.cells X)⟩ st false 7) w = some (sl fI was)) (now : Int) (m : Msg) (hf : fits l m = true) (hk : m.kind = 3) (hi : m.train = t.id) (hml : m.trail ≠ [] ∧ m.trail.length ≤ 100)
    (h1 : ¬ now < m.time) (h2 : t.trail = [] → m.time = now) (h3 : t.trail ≠ [] → ¬ m.time ≤ t.heard) :
    ∃ bl' v', (∀ bx, train_Register_Note_F bx bl [.op (.blk a) 0, .vp (layC l), .int .i64 now, .agg (msgC m), w] = some (.int .i64 0, ⟨bx, bl'⟩)) ∧
      One bl' a b c v' ⟨t.id, m.time, if m.whole then m.time else t.sure, m.dir, m.ahead, if m.whole then m.trail else joinT m.trail was⟩ ∧ (∀ (k : Nat) (x : Blk), bl[k]? = some x → k ≠ c → bl'[k]? = some x) := by
  have q2 := chkV_of hw
  have hcl : c < bl.length := (List.getElem?_eq_some_iff.1 h.ses).1
  have hg : ∀ bx, Heap.get ⟨bx, bl⟩ (.blk a) = some [.om b] := fun bx => get_blk bx bl a _ h.top
  have hs : ∀ bx, Heap.get ⟨bx, bl⟩ (.blk c) = some (trC t v) := fun bx => get_blk bx bl c _ h.ses
  have hs2 : ∀ bx X, Heap.get ⟨bx, bl.set c (.cells X)⟩ (.blk c) = some X := fun bx X => get_blk _ _ c _ (by simp [hcl])
  have hlk := hop_look1 h.map
  have hz : ∀ i o, binC .eql .ptr (.op i o) .nilp = some (.bool false) := fun _ _ => rfl
  obtain ⟨mk, mi, mt, md, ma, mw, ml⟩ := m
  simp only at hk hi h1 h2 h3 hml
  subst hk hi
  have hF := fun st H => tfits_F l hl ⟨3, t.id, mt, md, ma, mw, ml⟩ st H
  simp only [hf] at hF
  have hlen := h.trail.len
  have hvc := h.trail.cells
  have hv1 := h.trail.one
  have hvl := h.trail.locv
  have hlate : (t.trail = [] ∧ mt = now) ∨ (t.trail ≠ [] ∧ ¬ mt ≤ t.heard) := by
    by_cases h0 : t.trail = []
    · exact .inl ⟨h0, h2 h0⟩
    · exact .inr ⟨h0, h3 h0⟩
  cases mw with
  | true =>
    obtain ⟨v', bl', e1, o1, k1, k2⟩ := clone_F ml hml.1 (by unfold Zc.small; omega) (bl.set c (.cells [.int .i64 t.id, .int .i64 mt, .int .i64 t.sure, .int .i64 md, .int .i64 ma, v]))
    have hc' : bl'[c]? = some (.cells [.int .i64 t.id, .int .i64 mt, .int .i64 t.sure, .int .i64 md, .int .i64 ma, v]) := k1 _ _ (by simp [hcl])
    have hg3 : ∀ bx, Heap.get ⟨bx, bl'⟩ (.blk c) = some [.int .i64 t.id, .int .i64 mt, .int .i64 t.sure, .int .i64 md, .int .i64 ma, v] := fun bx => get_blk _ _ c _ hc'
    have hcl' : c < bl'.length := (List.getElem?_eq_some_iff.1 hc').1
    have hg4 : ∀ bx X, Heap.get ⟨bx, bl'.set c (.cells X)⟩ (.blk c) = some X := fun bx X => get_blk _ _ c _ (by simp [hcl'])
    have hno : ∀ k, k < bl.length → blkOf v' ≠ some k := fun k hk e => by
      have := k2 k e
      simp at this; omega
    have hO : One (bl.set c (.cells (trC ⟨t.id, mt, t.sure, md, ma, t.trail⟩ v))) a b c v ⟨t.id, mt, t.sure, md, ma, t.trail⟩ := h.write ⟨t.id, mt, t.sure, md, ma, t.trail⟩ rfl v h.trail h.va h.vb h.vc
    have hO2 : One bl' a b c v ⟨t.id, mt, t.sure, md, ma, t.trail⟩ := hO.keep k1
    have hO3 := hO2.write ⟨t.id, mt, mt, md, ma, ml⟩ rfl v' (.inr ⟨hml.1, .inr o1⟩) (hno a (List.getElem?_eq_some_iff.1 h.top).1) (hno b (List.getElem?_eq_some_iff.1 h.map).1) (hno c hcl)
    have hstv := fun bx bl => st_v bx bl c v' o1.cells o1.one o1.locv
    refine ⟨_, v', fun bx => ?_, hO3, fun k x hk hne => ?_⟩
    · rw [train_Register_Note_F_eq]
      rcases hlate with ⟨h0, h4⟩ | ⟨h0, h4⟩
      · have h0' : ((t.trail.length : Int) = 0) := by simp [h0]
        simp only [train_Register_Note_C, hg, hs, hs2, trC, hlk, hz, q2, hlen, eq_true h0', eq_false h1, eq_true h4, train_Fits_call, hF, st_i, hstv, hvc, hv1, hvl, slices_Clone_int_call, e1, hg3, hg4, o1.cells, o1.one, o1.locv, List.set_set, y1, y2, y3, y4, y5, y6, y7, y8, y9, keepE, keepB, chk, CV.locs, CV.locv, CV.refs, CV.ref, pureOp, repC, takeN, resV, enterC, Nat.reduceAdd, Nat.reduceSub, Nat.reduceMul, Nat.reduceLeDiff, Nat.reduceLT, Nat.reduceBEq, Nat.reduceBNe, Nat.reduceEqDiff, ↓reduceIte, Int.reduceAdd, Int.reduceSub, Int.reduceMul, Int.reduceLT, Int.reduceLE, Int.reduceEq, Int.reduceNeg, Int.reduceToNat]
      · have h0' : ¬ ((t.trail.length : Int) = 0) := by
          have := List.length_pos_iff.2 h0
          omega
        simp only [train_Register_Note_C, hg, hs, hs2, trC, hlk, hz, q2, hlen, eq_false h0', eq_false h1, eq_false h4, train_Fits_call, hF, st_i, hstv, hvc, hv1, hvl, slices_Clone_int_call, e1, hg3, hg4, o1.cells, o1.one, o1.locv, List.set_set, y1, y2, y3, y4, y5, y6, y7, y8, y9, keepE, keepB, chk, CV.locs, CV.locv, CV.refs, CV.ref, pureOp, repC, takeN, resV, enterC, Nat.reduceAdd, Nat.reduceSub, Nat.reduceMul, Nat.reduceLeDiff, Nat.reduceLT, Nat.reduceBEq, Nat.reduceBNe, Nat.reduceEqDiff, ↓reduceIte, Int.reduceAdd, Int.reduceSub, Int.reduceMul, Int.reduceLT, Int.reduceLE, Int.reduceEq, Int.reduceNeg, Int.reduceToNat]
    · rw [List.getElem?_set_ne (Ne.symm hne)]
      exact k1 _ _ (by rw [List.getElem?_set_ne (Ne.symm hne)]; exact hk)
  | false =>
    have hj := fun st H => tjoin_F ml was hml.1 (by unfold Zc.small; omega) (by unfold Zc.small; omega) st H
    have hO3 := h.write ⟨t.id, mt, t.sure, md, ma, joinT ml was⟩ rfl (sl fI (joinT ml was)) (.inr ⟨joinL_ne hml.1 _, .inl rfl⟩) (by intro e; cases e) (by intro e; cases e) (by intro e; cases e)
    have hstv := fun bx bl => st_v bx bl c (sl fI (joinT ml was)) (cells_sl _ _) (one_sl _ _) (locv_sl _ _)
    refine ⟨_, _, fun bx => ?_, hO3, fun k x hk hne => ?_⟩
    · rw [train_Register_Note_F_eq]
      rcases hlate with ⟨h0, h4⟩ | ⟨h0, h4⟩
      · have h0' : ((t.trail.length : Int) = 0) := by simp [h0]
        simp only [train_Register_Note_C, hg, hs, hs2, trC, hlk, hz, q2, hlen, eq_true h0', eq_false h1, eq_true h4, train_Fits_call, hF, st_i, hstv, hvc, hv1, hvl, train_Join_call, hsn, hj, hw, List.set_set, y1, y2, y3, y4, y5, y6, y7, y8, y9, keepE, keepB, chk, CV.locs, CV.locv, CV.refs, CV.ref, pureOp, repC, takeN, resV, enterC, Nat.reduceAdd, Nat.reduceSub, Nat.reduceMul, Nat.reduceLeDiff, Nat.reduceLT, Nat.reduceBEq, Nat.reduceBNe, Nat.reduceEqDiff, ↓reduceIte, Int.reduceAdd, Int.reduceSub, Int.reduceMul, Int.reduceLT, Int.reduceLE, Int.reduceEq, Int.reduceNeg, Int.reduceToNat]
      · have h0' : ¬ ((t.trail.length : Int) = 0) := by
          have := List.length_pos_iff.2 h0
          omega
        simp only [train_Register_Note_C, hg, hs, hs2, trC, hlk, hz, q2, hlen, eq_false h0', eq_false h1, eq_false h4, train_Fits_call, hF, st_i, hstv, hvc, hv1, hvl, train_Join_call, hsn, hj, hw, List.set_set, y1, y2, y3, y4, y5, y6, y7, y8, y9, keepE, keepB, chk, CV.locs, CV.locv, CV.refs, CV.ref, pureOp, repC, takeN, resV, enterC, Nat.reduceAdd, Nat.reduceSub, Nat.reduceMul, Nat.reduceLeDiff, Nat.reduceLT, Nat.reduceBEq, Nat.reduceBNe, Nat.reduceEqDiff, ↓reduceIte, Int.reduceAdd, Int.reduceSub, Int.reduceMul, Int.reduceLT, Int.reduceLE, Int.reduceEq, Int.reduceNeg, Int.reduceToNat]
    · rw [List.getElem?_set_ne (Ne.symm hne)]; exact hk

set_option maxHeartbeats 1000000 in
theorem rget_F {bl : List Blk} {a b c : Nat} {v : CV} {t : Tr} (h : One bl a b c v t) (h0 : t.trail ≠ []) (hm : t.trail.length ≤ 1000) :
    ∃ bl' v', (∀ bx, train_Register_Get_F bx bl [.op (.blk a) 0, .int .i64 t.id] = some (.tup [.agg (trC t v'), .bool true], ⟨bx, bl'⟩)) ∧ Own fI 1 bl' v' t.trail ∧ (∀ (k : Nat) (x : Blk), bl[k]? = some x → bl'[k]? = some x) ∧ (∀ k, blkOf v' = some k → bl.length ≤ k) := by
  obtain ⟨v', bl', e1, o1, k1, k2⟩ := clone_F t.trail h0 (by unfold Zc.small; omega) bl
  have hg : ∀ bx, Heap.get ⟨bx, bl⟩ (.blk a) = some [.om b] := fun bx => get_blk bx bl a _ h.top
  have hs : ∀ bx, Heap.get ⟨bx, bl⟩ (.blk c) = some (trC t v) := fun bx => get_blk bx bl c _ h.ses
  have hlk := hop_look1 h.map
  have hz : ∀ i o, binC .eql .ptr (.op i o) .nilp = some (.bool false) := fun _ _ => rfl
  have hsn := fun bx => h.trail.snap bx
  refine ⟨bl', v', fun bx => ?_, o1, k1, k2⟩
  rw [train_Register_Get_F_eq]
  simp only [train_Register_Get_C, hg, hs, trC, hlk, hz, h.trail.cells, h.trail.one, h.trail.locv, h.trail.und, hsn, slices_Clone_int_call, e1, o1.cells, o1.one, o1.locv, o1.und, y1, y2, y3, y4, y5, y6, y7, y8, y9, keepE, keepB, chk, CV.locs, CV.locv, CV.refs, CV.ref, pureOp, repC, takeN, resV, enterC, Nat.reduceAdd, Nat.reduceSub, Nat.reduceMul, Nat.reduceLeDiff, Nat.reduceLT, Nat.reduceBEq, Nat.reduceBNe, Nat.reduceEqDiff, ↓reduceIte, Int.reduceAdd, Int.reduceSub, Int.reduceMul, Int.reduceLT, Int.reduceLE, Int.reduceEq, Int.reduceNeg, Int.reduceToNat]
end Go.Proofs.Ytmkdhpjidhbijaa.Zt
