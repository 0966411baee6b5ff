/- The law TrainSilent, walked. -/
import Derived.Test.YtmkdhpjidhbijaaZcFu
set_option linter.all false
namespace Go.Proofs.Ytmkdhpjidhbijaa.Zt
open Go Go.Zc
set_option maxRecDepth 10000

theorem isort_id {l : List Int} (h : l.Pairwise (· < ·)) : isort l = l :=
  List.Perm.eq_of_pairwise (le := fun a b => a ≤ b) (fun a b _ _ h1 h2 => Int.le_antisymm h1 h2) (isort_sorted l) (h.imp Int.le_of_lt) (isort_perm l)

/-- Is one silent? -/
def mu (now most : Int) (e : Sn) : Bool := decide (most < now - e.heard)
def nm (now most : Int) (e : Sn) : Bool := !mu now most e

theorem mute1_F {bl : List Blk} {e : Sn} {x y : Nat} {now most : Int} (he : bl[e.c]? = some (.cells (snC e))) (hx : bl[x]? = some (.cells [.int .i64 now])) (hy : bl[y]? = some (.cells [.int .i64 most]))
    (hr : -1000000 ≤ now - e.heard ∧ now - e.heard ≤ 1000000) (bx : List (Nat × List CV)) :
    train_Register_Mute_1_F bx bl [.op (.blk e.c) 0, .op (.blk x) 0, .op (.blk y) 0] = some (.bool (mu now most e), ⟨bx, bl⟩) := by
  have g1 : ∀ bx, Heap.get ⟨bx, bl⟩ (.blk e.c) = some (snC e) := fun bx => get_blk bx bl _ _ he
  have g2 : ∀ bx, Heap.get ⟨bx, bl⟩ (.blk x) = some [.int .i64 now] := fun bx => get_blk bx bl _ _ hx
  have g3 : ∀ bx, Heap.get ⟨bx, bl⟩ (.blk y) = some [.int .i64 most] := fun bx => get_blk bx bl _ _ hy
  have w : IntKind.i64.wrap (now - e.heard) = now - e.heard := wrap64 (by omega) (by omega)
  simp only [snC] at g1
  rw [train_Register_Mute_1_F_eq]
  simp only [train_Register_Mute_1_C, g1, g2, g3, w, mu, y1, y2, y3, y4, y5, y6, y7, y8, y9, keepE, keepB, chk, CV.locs, CV.locv, CV.refs, CV.ref, pureOp, repC, takeN, resV, enterC, Nat.reduceAdd, Nat.reduceSub, Nat.reduceMul, Nat.reduceLeDiff, Nat.reduceLT, Nat.reduceBEq, Nat.reduceBNe, Nat.reduceEqDiff, ↓reduceIte, Int.reduceAdd, Int.reduceSub, Int.reduceMul, Int.reduceLT, Int.reduceLE, Int.reduceEq, Int.reduceNeg, Int.reduceToNat]
theorem mute2_F {bl : List Blk} {a b z : Nat} {pre suf : List Sn} {e : Sn} (h : Rgs bl a b (pre ++ e :: suf)) (hk : ∀ x ∈ pre, x.id ≠ e.id) (hz : bl[z]? = some (.cells [.op (.blk a) 0])) (bx : List (Nat × List CV)) :
    train_Register_Mute_2_F bx bl [.op (.blk e.c) 0, .op (.blk z) 0] = some (.tup [], ⟨bx, bl.set b (.map (ents (pre ++ suf)))⟩) := by
  have g1 : ∀ bx, Heap.get ⟨bx, bl⟩ (.blk e.c) = some (snC e) := fun bx => get_blk bx bl _ _ (h.ses e (by simp))
  have g2 : ∀ bx, Heap.get ⟨bx, bl⟩ (.blk z) = some [.op (.blk a) 0] := fun bx => get_blk bx bl _ _ hz
  have hc := sclose_in h hk
  simp only [snC] at g1
  rw [train_Register_Mute_2_F_eq]
  simp only [train_Register_Mute_2_C, g1, g2, train_Register_Close_call, hc, y1, y2, y3, y4, y5, y6, y7, y8, y9, keepE, keepB, chk, CV.locs, CV.locv, CV.refs, CV.ref, pureOp, repC, takeN, resV, enterC, Nat.reduceAdd, Nat.reduceSub, Nat.reduceMul, Nat.reduceLeDiff, Nat.reduceLT, Nat.reduceBEq, Nat.reduceBNe, Nat.reduceEqDiff, ↓reduceIte, Int.reduceAdd, Int.reduceSub, Int.reduceMul, Int.reduceLT, Int.reduceLE, Int.reduceEq, Int.reduceNeg, Int.reduceToNat]
theorem doubt1_F {bl : List Blk} {e : Sn} {x y : Nat} (he : bl[e.c]? = some (.cells (snC e))) (bx : List (Nat × List CV)) :
    train_Register_Doubt_1_F bx bl [.op (.blk e.c) 0, .op (.blk x) 0, .op (.blk y) 0] = some (.bool false, ⟨bx, bl⟩) := by
  have g1 : ∀ bx, Heap.get ⟨bx, bl⟩ (.blk e.c) = some (snC e) := fun bx => get_blk bx bl _ _ he
  have hlt : ¬ ((0 : Int) ≤ -1) := by omega
  simp only [snC] at g1
  rw [train_Register_Doubt_1_F_eq]
  simp only [train_Register_Doubt_1_C, g1, ge_iff_le, hlt, y1, y2, y3, y4, y5, y6, y7, y8, y9, keepE, keepB, chk, CV.locs, CV.locv, CV.refs, CV.ref, pureOp, repC, takeN, resV, enterC, Nat.reduceAdd, Nat.reduceSub, Nat.reduceMul, Nat.reduceLeDiff, Nat.reduceLT, Nat.reduceBEq, Nat.reduceBNe, Nat.reduceEqDiff, ↓reduceIte, Int.reduceAdd, Int.reduceSub, Int.reduceMul, Int.reduceLT, Int.reduceLE, Int.reduceEq, Int.reduceNeg, Int.reduceToNat]

/-- What doesn't change below, but for the map. -/
structure Kept (N b : Nat) (bl bl' : List Blk) : Prop where
  len : bl.length ≤ bl'.length
  same : ∀ m x, m < N → m ≠ b → bl[m]? = some x → bl'[m]? = some x
theorem Kept.refl (N b : Nat) (bl : List Blk) : Kept N b bl bl := ⟨Nat.le_refl _, fun _ _ _ _ h => h⟩
theorem Kept.trans {N b : Nat} {x y z : List Blk} (h : Kept N b x y) (h' : Kept N b y z) : Kept N b x z := ⟨Nat.le_trans h.len h'.len, fun m v h1 h2 h3 => h'.same m v h1 h2 (h.same m v h1 h2 h3)⟩

theorem mute_loop (now most : Int) (a b x y z N : Nat) (ha : a < N) (hb : b < N) (hab : a ≠ b) (hx : x < N ∧ x ≠ b) (hy : y < N ∧ y ≠ b) (hz : z < N ∧ z ≠ b) :
    ∀ (S P : List Sn) (v : CV) (bl : List Blk), ((P ++ S).map Sn.id).Pairwise (· < ·) → (P ++ S).length ≤ 100 → (∀ e ∈ P ++ S, e.c < N ∧ e.c ≠ b ∧ -1000000 ≤ now - e.heard ∧ now - e.heard ≤ 1000000) →
    Rgs bl a b (P.filter (nm now most) ++ S) → Own fI 1 bl v ((P.filter (mu now most)).map Sn.id) → (∀ m, m < N → blkOf v ≠ some m) → N ≤ bl.length →
    bl[x]? = some (.cells [.int .i64 now]) → bl[y]? = some (.cells [.int .i64 most]) → bl[z]? = some (.cells [.op (.blk a) 0]) →
    ∃ v' bl', train_Register_those_R0 ([(0, .op (.blk a) 0), (1, .fn (.func 72) [] [.op (.blk x) 0, .op (.blk y) 0]), (2, .fn (.func 73) [] [.op (.blk z) 0]), (7, v), (12, sl fI ((P ++ S).map Sn.id)), (13, .int .i64 ((P ++ S).map Sn.id).length), (14, .int .i64 (P.map Sn.id).length)], ⟨[], bl⟩) = some (.norm, [(7, v')], ⟨[], bl'⟩) ∧
      Rgs bl' a b ((P ++ S).filter (nm now most)) ∧ Own fI 1 bl' v' (((P ++ S).filter (mu now most)).map Sn.id) ∧ (∀ m, m < N → blkOf v' ≠ some m) ∧ Kept N b bl bl' := by
  intro S
  induction S with
  | nil =>
    intro P v bl hp hl hc hR hO hv hN hx' hy' hz'
    simp only [List.append_nil] at hR hp hl hc ⊢
    refine ⟨v, bl, ?_, hR, hO, hv, .refl _ _ _⟩
    rw [train_Register_those_R0_eq]
    simp only [train_Register_those_B0, train_Register_those_K0_norm, train_Register_those_K0_ret, train_Register_those_K0_exit, hO.chkV, y1, y2, y3, y4, y5, y6, y7, y8, y9, keepE, keepB, chk, CV.locs, CV.locv, CV.refs, CV.ref, pureOp, repC, takeN, resV, enterC, Nat.reduceAdd, Nat.reduceSub, Nat.reduceMul, Nat.reduceLeDiff, Nat.reduceLT, Nat.reduceBEq, Nat.reduceBNe, Nat.reduceEqDiff, ↓reduceIte, Int.reduceAdd, Int.reduceSub, Int.reduceMul, Int.reduceLT, Int.reduceLE, Int.reduceEq, Int.reduceNeg, Int.reduceToNat]
  | cons s S ih =>
    intro P v bl hp hl hc hR hO hv hN hx' hy' hz'
    have h1 : (((P.map Sn.id).length : Int) < ((P ++ s :: S).map Sn.id).length) := by simp; omega
    have hia := iaddr_midI .i64 (P.map Sn.id) (S.map Sn.id) s.id
    have hw := wrapN (n := (P.map Sn.id).length) (by unfold Zc.small; simp at hl ⊢; omega)
    have hlt : ∀ e ∈ P, e.id ≠ s.id := fun e he => by
      simp only [List.map_append, List.map_cons, List.pairwise_append] at hp
      have := hp.2.2 e.id (List.mem_map_of_mem he) s.id (by simp)
      omega
    have hlt' : ∀ e ∈ P.filter (nm now most), e.id ≠ s.id := fun e he => hlt e (List.mem_filter.1 he).1
    have hg : ∀ bx, Heap.get ⟨bx, bl⟩ (.blk a) = some [.om b] := fun bx => get_blk bx bl a _ hR.top
    have hlk := hR.look1 hlt'
    have hcs := hc s (by simp)
    have m1 := mute1_F (now := now) (most := most) (hR.ses s (by simp)) hx' hy' hcs.2.2
    have happ : P ++ s :: S = (P ++ [s]) ++ S := by simp
    have hmap : (P ++ s :: S).map Sn.id = P.map Sn.id ++ s.id :: S.map Sn.id := by simp
    have hl1 : ((P ++ [s]).map Sn.id).length = (P.map Sn.id).length + 1 := by simp
    have hlocs : ∀ (i j k : Nat), CV.locs [.op (.blk i) 0, .op (.blk j) 0, .op (.blk k) 0] = false := fun _ _ _ => rfl
    cases hmu : mu now most s with
    | false =>
      have hnm : nm now most s = true := by simp [nm, hmu]
      have hR' : Rgs bl a b ((P ++ [s]).filter (nm now most) ++ S) := by
        simpa [List.filter_append, List.filter_cons, hnm] using hR
      have hO' : Own fI 1 bl v (((P ++ [s]).filter (mu now most)).map Sn.id) := by
        simpa [List.filter_append, List.filter_cons, hmu] using hO
      obtain ⟨v', bl', q1, q2, q3, q4, q5⟩ := ih (P ++ [s]) v bl (by rw [← happ]; exact hp) (by rw [← happ]; exact hl) (by rw [← happ]; exact hc) hR' hO' hv hN hx' hy' hz'
      rw [← happ] at q1 q2 q3
      refine ⟨v', bl', ?_, q2, q3, q4, q5⟩
      rw [← q1, hl1, train_Register_those_R0_eq]
      rw [hmap] at h1 ⊢
      simp only [train_Register_those_B0, train_Register_those_K0_norm, train_Register_those_K0_ret, train_Register_those_K0_exit, h1, hia, hw, hg, hlk, train_Register_Mute_1_call, m1, hmu, hO.chkV, y1, y2, y3, y4, y5, y6, y7, y8, y9, keepE, keepB, chk, CV.locs, CV.locv, CV.refs, CV.ref, pureOp, repC, takeN, resV, enterC, Nat.reduceAdd, Nat.reduceSub, Nat.reduceMul, Nat.reduceLeDiff, Nat.reduceLT, Nat.reduceBEq, Nat.reduceBNe, Nat.reduceEqDiff, ↓reduceIte, Int.reduceAdd, Int.reduceSub, Int.reduceMul, Int.reduceLT, Int.reduceLE, Int.reduceEq, Int.reduceNeg, Int.reduceToNat]
    | true =>
      have hnm : nm now most s = false := by simp [nm, hmu]
      have m2 := mute2_F hR hlt' hz'
      have hR1 := hR.close
      have hO1 : Own fI 1 (bl.set b (.map (ents (P.filter (nm now most) ++ S)))) v ((P.filter (mu now most)).map Sn.id) := by
        rcases hO with h | ⟨m, h1, h2⟩
        · exact .inl h
        · refine .inr ⟨m, h1, ?_⟩
          rw [List.getElem?_set_ne (fun e => hv b hb (by rw [h1, e]; rfl))]
          exact h2
      have hbl1 : (bl.set b (Blk.map (ents (P.filter (nm now most) ++ S)))).length = bl.length := by simp
      obtain ⟨v1, bl2, e1, o1, l1, f1, b1⟩ := hO1.app1 flatI (bytes := 8) (zero := [.int .i64 0]) (by omega) rfl rfl s.id (by
        have := List.length_filter_le (mu now most) P
        simp at hl ⊢; omega)
      have hk1 : Kept N b bl bl2 := by
        refine ⟨by rw [hbl1] at l1; exact l1, fun m w hm hne hw => f1 m w ?_ (hv m hm)⟩
        rw [List.getElem?_set_ne (Ne.symm hne)]
        exact hw
      have hv1 : ∀ m, m < N → blkOf v1 ≠ some m := fun m hm e => by
        rcases b1 with b1 | b1
        · exact hv m hm (b1 ▸ e)
        · rw [b1, hbl1] at e
          have := Option.some.inj e
          omega
      have hR2 : Rgs bl2 a b (P.filter (nm now most) ++ S) := by
        refine ⟨f1 _ _ hR1.top (hv a ha), f1 _ _ hR1.map (hv b hb), fun e he => f1 _ _ (hR1.ses e he) (hv _ (hc e ?_).1)⟩
        rcases List.mem_append.1 he with he | he
        · exact List.mem_append_left _ (List.mem_filter.1 he).1
        · exact List.mem_append_right _ (List.mem_cons_of_mem _ he)
      have hR' : Rgs bl2 a b ((P ++ [s]).filter (nm now most) ++ S) := by
        simpa [List.filter_append, List.filter_cons, hnm] using hR2
      have hO' : Own fI 1 bl2 v1 (((P ++ [s]).filter (mu now most)).map Sn.id) := by
        simpa [List.filter_append, List.filter_cons, hmu] using o1
      obtain ⟨v', bl', q1, q2, q3, q4, q5⟩ := ih (P ++ [s]) v1 bl2 (by rw [← happ]; exact hp) (by rw [← happ]; exact hl) (by rw [← happ]; exact hc) hR' hO' hv1 (Nat.le_trans hN hk1.len)
        (hk1.same _ _ hx.1 hx.2 hx') (hk1.same _ _ hy.1 hy.2 hy') (hk1.same _ _ hz.1 hz.2 hz')
      rw [← happ] at q1 q2 q3
      refine ⟨v', bl', ?_, q2, q3, q4, hk1.trans q5⟩
      rw [← q1, hl1, train_Register_those_R0_eq]
      rw [hmap] at h1 ⊢
      simp only [fI] at e1
      simp only [train_Register_those_B0, train_Register_those_K0_norm, train_Register_those_K0_ret, train_Register_those_K0_exit, h1, hia, hw, hg, hlk, train_Register_Mute_1_call, m1, hmu, train_Register_Mute_2_call, m2, e1, hO.chkV, o1.chkV, y1, y2, y3, y4, y5, y6, y7, y8, y9, keepE, keepB, chk, CV.locs, CV.locv, CV.refs, CV.ref, pureOp, repC, takeN, resV, enterC, Nat.reduceAdd, Nat.reduceSub, Nat.reduceMul, Nat.reduceLeDiff, Nat.reduceLT, Nat.reduceBEq, Nat.reduceBNe, Nat.reduceEqDiff, ↓reduceIte, Int.reduceAdd, Int.reduceSub, Int.reduceMul, Int.reduceLT, Int.reduceLE, Int.reduceEq, Int.reduceNeg, Int.reduceToNat]

theorem doubt_loop (a b x y : Nat) (bl : List Blk) : ∀ (S P : List Sn), ((P ++ S).map Sn.id).Pairwise (· < ·) → (P ++ S).length ≤ 100 → Rgs bl a b (P ++ S) →
    train_Register_those_R0 ([(0, .op (.blk a) 0), (1, .fn (.func 74) [] [.op (.blk x) 0, .op (.blk y) 0]), (2, .fn (.func 75) [] []), (7, .nils), (12, sl fI ((P ++ S).map Sn.id)), (13, .int .i64 ((P ++ S).map Sn.id).length), (14, .int .i64 (P.map Sn.id).length)], ⟨[], bl⟩) = some (.norm, [(7, .nils)], ⟨[], bl⟩) := by
  intro S
  induction S with
  | nil =>
    intro P hp hl hR
    simp only [List.append_nil] at hR hp hl ⊢
    rw [train_Register_those_R0_eq]
    simp only [train_Register_those_B0, train_Register_those_K0_norm, train_Register_those_K0_ret, train_Register_those_K0_exit, y1, y2, y3, y4, y5, y6, y7, y8, y9, keepE, keepB, chk, CV.locs, CV.locv, CV.refs, CV.ref, pureOp, repC, takeN, resV, enterC, Nat.reduceAdd, Nat.reduceSub, Nat.reduceMul, Nat.reduceLeDiff, Nat.reduceLT, Nat.reduceBEq, Nat.reduceBNe, Nat.reduceEqDiff, ↓reduceIte, Int.reduceAdd, Int.reduceSub, Int.reduceMul, Int.reduceLT, Int.reduceLE, Int.reduceEq, Int.reduceNeg, Int.reduceToNat]
  | cons s S ih =>
    intro P hp hl hR
    have h1 : (((P.map Sn.id).length : Int) < ((P ++ s :: S).map Sn.id).length) := by simp; omega
    have hia := iaddr_midI .i64 (P.map Sn.id) (S.map Sn.id) s.id
    have hw := wrapN (n := (P.map Sn.id).length) (by unfold Zc.small; simp at hl ⊢; omega)
    have hlt : ∀ e ∈ P, e.id ≠ s.id := fun e he => by
      simp only [List.map_append, List.map_cons, List.pairwise_append] at hp
      have := hp.2.2 e.id (List.mem_map_of_mem he) s.id (by simp)
      omega
    have hg : ∀ bx, Heap.get ⟨bx, bl⟩ (.blk a) = some [.om b] := fun bx => get_blk bx bl a _ hR.top
    have hlk := hR.look1 hlt
    have m1 := doubt1_F (x := x) (y := y) (hR.ses s (by simp))
    have happ : P ++ s :: S = (P ++ [s]) ++ S := by simp
    have hmap : (P ++ s :: S).map Sn.id = P.map Sn.id ++ s.id :: S.map Sn.id := by simp
    have hl1 : ((P ++ [s]).map Sn.id).length = (P.map Sn.id).length + 1 := by simp
    have q1 := ih (P ++ [s]) (by rw [← happ]; exact hp) (by rw [← happ]; exact hl) (by rw [← happ]; exact hR)
    rw [← happ] at q1
    rw [← q1, hl1, train_Register_those_R0_eq]
    rw [hmap] at h1 ⊢
    simp only [train_Register_those_B0, train_Register_those_K0_norm, train_Register_those_K0_ret, train_Register_those_K0_exit, h1, hia, hw, hg, hlk, train_Register_Doubt_1_call, m1, y1, y2, y3, y4, y5, y6, y7, y8, y9, keepE, keepB, chk, CV.locs, CV.locv, CV.refs, CV.ref, pureOp, repC, takeN, resV, enterC, Nat.reduceAdd, Nat.reduceSub, Nat.reduceMul, Nat.reduceLeDiff, Nat.reduceLT, Nat.reduceBEq, Nat.reduceBNe, Nat.reduceEqDiff, ↓reduceIte, Int.reduceAdd, Int.reduceSub, Int.reduceMul, Int.reduceLT, Int.reduceLE, Int.reduceEq, Int.reduceNeg, Int.reduceToNat]

theorem get_app {bl : List Blk} {X : List Blk} {m : Nat} {x : Blk} (h : bl[m]? = some x) : (bl ++ X)[m]? = some x := by
  rw [List.getElem?_append_left (List.getElem?_eq_some_iff.1 h).1]; exact h

set_option maxHeartbeats 1000000 in
theorem smute_F {bl : List Blk} {a b : Nat} {es : List Sn} (h : Rgs bl a b es) (now most : Int) (hs : (es.map Sn.id).Pairwise (· < ·)) (hl : es.length ≤ 100)
    (hr : ∀ e ∈ es, (0 ≤ e.id ∧ e.id ≤ 1000) ∧ -1000000 ≤ now - e.heard ∧ now - e.heard ≤ 1000000) :
    ∃ v bl', (∀ bx, train_Register_Mute_F bx bl [.op (.blk a) 0, .int .i64 now, .int .i64 most] = some (v, ⟨bx, bl'⟩)) ∧ Rgs bl' a b (es.filter (nm now most)) ∧ Own fI 1 bl' v ((es.filter (mu now most)).map Sn.id) ∧
      (∀ m, m < bl.length → blkOf v ≠ some m) ∧ Kept bl.length b bl bl' := by
  have hb : b < bl.length := (List.getElem?_eq_some_iff.1 h.map).1
  have ha : a < bl.length := (List.getElem?_eq_some_iff.1 h.top).1
  have hab : a ≠ b := fun e => by
    have h1 := h.top; have h2 := h.map
    rw [e, h2] at h1
    simp at h1
  obtain ⟨X, hX⟩ : ∃ X, X = bl ++ [Blk.cells [.op (.blk a) 0]] ++ [Blk.cells [.int .i64 now]] ++ [Blk.cells [.int .i64 most]] := ⟨_, rfl⟩
  have hXl : X.length = bl.length + 3 := by rw [hX]; simp
  have hkX : ∀ (m : Nat) (x : Blk), bl[m]? = some x → X[m]? = some x := fun m x hx => by
    rw [hX]; exact get_app (get_app (get_app hx))
  have h3 : Rgs X a b es := h.keep hkX
  have hz : X[bl.length]? = some (.cells [.op (.blk a) 0]) := by rw [hX]; exact get_app (get_app (by simp))
  have hx : X[bl.length + 1]? = some (.cells [.int .i64 now]) := by rw [hX]; refine get_app ?_; rw [List.getElem?_append_right (by simp)]; simp
  have hy : X[bl.length + 2]? = some (.cells [.int .i64 most]) := by rw [hX, List.getElem?_append_right (by simp)]; simp
  have hall := sall_F h3 (fun e he => by have := (hr e he).1; omega) (by omega)
  rw [isort_id hs] at hall
  have h4 : Rgs (X ++ [Blk.cells [.om b]]) a b es := h3.keep fun m x hx => get_app hx
  obtain ⟨v', bl', q1, q2, q3, q4, q5⟩ := mute_loop now most a b (bl.length + 1) (bl.length + 2) bl.length (X ++ [Blk.cells [.om b]]).length (by simp; omega) (by simp; omega) hab ⟨by simp; omega, by omega⟩ ⟨by simp; omega, by omega⟩ ⟨by simp; omega, by omega⟩
    es [] .nils (X ++ [Blk.cells [.om b]]) hs hl (fun e he => by
      have h5 := (List.getElem?_eq_some_iff.1 (h4.ses e he)).1
      refine ⟨h5, fun e' => ?_, (hr e he).2⟩
      have h6 := h4.ses e he; have h7 := h4.map
      rw [e', h7] at h6
      simp at h6) h4 (.inl ⟨rfl, rfl⟩) (fun _ _ e => by cases e) (Nat.le_refl _) (get_app hx) (get_app hy) (get_app hz)
  simp only [List.nil_append, List.map_nil, List.length_nil, Int.natCast_zero] at q1 q2 q3
  refine ⟨v', bl', fun bx => ?_, q2, q3, fun m hm => q4 m (by simp; omega), ⟨by have := q5.len; simp at this; omega, fun m x hm hne hx => q5.same m x (by simp; omega) hne (get_app (hkX m x hx))⟩⟩
  have hl' := q3.locv
  rw [train_Register_Mute_F_eq]
  have hmk1 : ∀ x y, pureOp (.mkfn (.func 72) 0) [x, y] = some (.fn (.func 72) [] [x, y]) := fun _ _ => rfl
  have hmk2 : ∀ x, pureOp (.mkfn (.func 73) 0) [x] = some (.fn (.func 73) [] [x]) := fun _ => rfl
  have hgb : ∀ bx, Heap.get ⟨bx, X⟩ (.blk bl.length) = some [.op (.blk a) 0] := fun bx => get_blk bx X _ _ hz
  rw [hX] at hgb hall q1
  simp only [train_Register_Mute_C, train_Register_those_call, train_Register_those_F_eq, train_Register_those_C, train_Register_those_L0_eq, train_Register_All_call, hmk1, hmk2, List.length_append, hgb, hall, q1, q3.chkV, hl', y1, y2, y3, y4, y5, y6, y7, y8, y9, keepE, keepB, chk, CV.locs, CV.locv, CV.refs, CV.ref, pureOp, repC, takeN, resV, enterC, Nat.reduceAdd, Nat.reduceSub, Nat.reduceMul, Nat.reduceLeDiff, Nat.reduceLT, Nat.reduceBEq, Nat.reduceBNe, Nat.reduceEqDiff, ↓reduceIte, Int.reduceAdd, Int.reduceSub, Int.reduceMul, Int.reduceLT, Int.reduceLE, Int.reduceEq, Int.reduceNeg, Int.reduceToNat]

set_option maxHeartbeats 1000000 in
theorem sdoubt_F {bl : List Blk} {a b : Nat} {es : List Sn} (h : Rgs bl a b es) (now most : Int) (hs : (es.map Sn.id).Pairwise (· < ·)) (hl : es.length ≤ 100) (hr : ∀ e ∈ es, 0 ≤ e.id ∧ e.id ≤ 1000) :
    ∃ bl', (∀ bx, train_Register_Doubt_F bx bl [.op (.blk a) 0, .int .i64 now, .int .i64 most] = some (.nils, ⟨bx, bl'⟩)) := by
  obtain ⟨X, hX⟩ : ∃ X, X = bl ++ [Blk.cells [.int .i64 now]] ++ [Blk.cells [.int .i64 most]] := ⟨_, rfl⟩
  have hkX : ∀ (m : Nat) (x : Blk), bl[m]? = some x → X[m]? = some x := fun m x hx => by
    rw [hX]; exact get_app (get_app hx)
  have h3 : Rgs X a b es := h.keep hkX
  have hall := sall_F h3 (fun e he => by have := hr e he; omega) (by omega)
  rw [isort_id hs] at hall
  have h4 : Rgs (X ++ [Blk.cells [.om b]]) a b es := h3.keep fun m x hx => get_app hx
  have q1 := doubt_loop a b bl.length (bl.length + 1) (X ++ [Blk.cells [.om b]]) es [] hs hl h4
  simp only [List.nil_append, List.map_nil, List.length_nil, Int.natCast_zero] at q1
  refine ⟨X ++ [Blk.cells [.om b]], fun bx => ?_⟩
  rw [train_Register_Doubt_F_eq]
  have hmk1 : ∀ x y, pureOp (.mkfn (.func 74) 0) [x, y] = some (.fn (.func 74) [] [x, y]) := fun _ _ => rfl
  rw [hX] at hall q1 ⊢
  simp only [train_Register_Doubt_C, train_Register_those_call, train_Register_those_F_eq, train_Register_those_C, train_Register_those_L0_eq, train_Register_All_call, hmk1, List.length_append, hall, q1, y1, y2, y3, y4, y5, y6, y7, y8, y9, keepE, keepB, chk, CV.locs, CV.locv, CV.refs, CV.ref, pureOp, repC, takeN, resV, enterC, Nat.reduceAdd, Nat.reduceSub, Nat.reduceMul, Nat.reduceLeDiff, Nat.reduceLT, Nat.reduceBEq, Nat.reduceBNe, Nat.reduceEqDiff, ↓reduceIte, Int.reduceAdd, Int.reduceSub, Int.reduceMul, Int.reduceLT, Int.reduceLE, Int.reduceEq, Int.reduceNeg, Int.reduceToNat]
end Go.Proofs.Ytmkdhpjidhbijaa.Zt
