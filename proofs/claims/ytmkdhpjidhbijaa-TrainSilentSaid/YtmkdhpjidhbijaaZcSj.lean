/- The law TrainSilent, walked to its end. -/
import Derived.Test.YtmkdhpjidhbijaaZcSi
set_option linter.all false
namespace Go.Proofs.Ytmkdhpjidhbijaa.Zt
open Go Go.Zc
set_option maxRecDepth 10000

theorem snap_I' (H : Heap) (st kn : Bool) (n : Nat) : ∀ x : Int, ∀ c ∈ fI x, snapN H st kn (n + 1) c = some c := by
  intro x c hc
  simp only [fI, List.mem_singleton] at hc
  subst hc
  rfl
theorem snapI_own' {bl : List Blk} {v : CV} {l : List Int} (h : Own fI 1 bl v l) (bx : List (Nat × List CV)) (st : Bool) : snapV ⟨bx, bl⟩ st false (snapN ⟨bx, bl⟩ st false 7) v = some (sl fI l) := h.snapV flatI bx _ _ (snap_I' _ _ _ 6)

def rng (n : Nat) : List Int := (List.range n).map fun (k : Nat) => (k : Int)
theorem rng_succ (n : Nat) : rng (n + 1) = rng n ++ [(n : Int)] := by simp [rng, List.range_succ]
theorem rng_mem {n : Nat} {x : Int} (h : x ∈ rng n) : 0 ≤ x ∧ x < n := by
  simp only [rng, List.mem_map, List.mem_range] at h
  obtain ⟨k, hk, rfl⟩ := h
  omega
theorem rng_lt : ∀ n : Nat, (rng n).Pairwise (· < ·)
  | 0 => .nil
  | n + 1 => by
    rw [rng_succ, List.pairwise_append]
    refine ⟨rng_lt n, by simp, fun x hx y hy => ?_⟩
    have := rng_mem hx
    simp only [List.mem_singleton] at hy
    omega

theorem silent_loop (most now : Int) (hm : 0 ≤ most ∧ most ≤ 255) (hw : 0 ≤ now ∧ now ≤ 255) (a b : Nat) : ∀ (S P : List Int) (es : List Sn) (v : CV) (bl : List Blk), (P ++ S).length ≤ 6 → (∀ x ∈ P ++ S, 0 ≤ x ∧ x ≤ 255) →
    Rgs bl a b es → es.map Sn.heard = P → es.map Sn.id = rng P.length → Own fI 1 bl v ((es.filter (mu now most)).map Sn.id) → (∀ k, blkOf v = some k → k ≠ a ∧ k ≠ b ∧ ∀ e ∈ es, k ≠ e.c) →
    ∃ v' bl' es', l10_TrainSilent_R0 ([(0, sl fU (P ++ S)), (1, .int .u8 most), (2, .int .u8 now), (7, .op (.blk a) 0), (8, v), (9, .int .i64 P.length)], ⟨[], bl⟩) = some (.norm, [(0, sl fU (P ++ S)), (1, .int .u8 most), (2, .int .u8 now), (7, .op (.blk a) 0), (8, v')], ⟨[], bl'⟩) ∧
      Rgs bl' a b es' ∧ es'.map Sn.heard = P ++ S ∧ es'.map Sn.id = rng (P ++ S).length ∧ Own fI 1 bl' v' ((es'.filter (mu now most)).map Sn.id) ∧ blkOf v' ≠ some b := by
  intro S
  induction S with
  | nil =>
    intro P es v bl hl hx hR hh hid hO hv
    simp only [List.append_nil] at hl hx ⊢
    refine ⟨v, bl, es, ?_, hR, hh, hid, hO, fun e => (hv b e).2.1 rfl⟩
    rw [l10_TrainSilent_R0_eq]
    simp only [l10_TrainSilent_B0, l10_TrainSilent_K0_norm, l10_TrainSilent_K0_ret, l10_TrainSilent_K0_exit, hO.chkV, y1, y2, y3, y4, y5, y6, y7, y8, y9, keepE, keepB, chk, CV.locs, CV.locv, CV.refs, CV.ref, pureOp, repC, takeN, resV, enterC, Nat.reduceAdd, Nat.reduceSub, Nat.reduceMul, Nat.reduceLeDiff, Nat.reduceLT, Nat.reduceBEq, Nat.reduceBNe, Nat.reduceEqDiff, ↓reduceIte, Int.reduceAdd, Int.reduceSub, Int.reduceMul, Int.reduceLT, Int.reduceLE, Int.reduceEq, Int.reduceNeg, Int.reduceToNat]
  | cons x S ih =>
    intro P es v bl hl hx hR hh hid hO hv
    have h1 : ((P.length : Int) < (P ++ x :: S).length) := by simp; omega
    have hia := iaddr_midU .i64 P S x
    have hw1 := wrapN (n := P.length) (by unfold Zc.small; simp at hl; omega)
    have hxr := hx x (by simp)
    have w1 : IntKind.i64.wrap x = x := wrap64 (by omega) (by omega)
    have w2 : IntKind.i64.wrap now = now := wrap64 (by omega) (by omega)
    have w3 : IntKind.i64.wrap most = most := wrap64 (by omega) (by omega)
    have w4 : IntKind.i64.wrap (now - x) = now - x := wrap64 (by omega) (by omega)
    have hel : es.length = P.length := by rw [← hh]; simp
    have hk : ∀ e ∈ es, e.id ≠ P.length := fun e he hc => by
      have : e.id ∈ es.map Sn.id := List.mem_map_of_mem he
      rw [hid] at this
      have := rng_mem this
      omega
    obtain ⟨bl1, e1, r1, k1⟩ := sopen_F hR P.length x hk (by simp at hl; omega)
    have hO1 : Own fI 1 bl1 v ((es.filter (mu now most)).map Sn.id) := by
      rcases hO with h | ⟨m, h2, h3⟩
      · exact .inl h
      · exact .inr ⟨m, h2, k1 _ _ h3 (hv m (by rw [h2]; rfl)).2.1⟩
    have happ : P ++ x :: S = (P ++ [x]) ++ S := by simp
    have hl1 : ((P.length + 1 : Nat) : Int) = ((P ++ [x]).length : Nat) := by simp
    have hh' : (es ++ [(⟨P.length, x, bl.length⟩ : Sn)]).map Sn.heard = P ++ [x] := by simp [hh]
    have hid' : (es ++ [(⟨P.length, x, bl.length⟩ : Sn)]).map Sn.id = rng (P ++ [x]).length := by
      rw [List.map_append, hid, List.length_append, List.length_singleton, rng_succ]; rfl
    have hvc : ∀ k, blkOf v = some k → k < bl.length := fun k hk => hO.lt hk
    by_cases hmu : most < now - x
    · have hmu' : mu now most ⟨P.length, x, bl.length⟩ = true := decide_eq_true hmu
      obtain ⟨v1, bl2, e2, o2, l2, f2, b2⟩ := hO1.app1 flatI (bytes := 8) (zero := [.int .i64 0]) (by omega) rfl rfl (P.length : Int) (by
        have := List.length_filter_le (mu now most) es
        simp at hl ⊢; omega)
      have ha := (List.getElem?_eq_some_iff.1 r1.top).1
      have hb := (List.getElem?_eq_some_iff.1 r1.map).1
      have hne : ∀ k, (k = a ∨ k = b ∨ ∃ e ∈ es ++ [(⟨P.length, x, bl.length⟩ : Sn)], k = e.c) → blkOf v ≠ some k := by
        rintro k hk e
        have hkb := hvc k e
        rcases hk with rfl | rfl | ⟨e', he', rfl⟩
        · exact (hv _ e).1 rfl
        · exact (hv _ e).2.1 rfl
        · rcases List.mem_append.1 he' with he' | he'
          · exact (hv _ e).2.2 e' he' rfl
          · simp only [List.mem_singleton] at he'
            subst he'
            simp at hkb
      have hR2 : Rgs bl2 a b (es ++ [(⟨P.length, x, bl.length⟩ : Sn)]) := ⟨f2 _ _ r1.top (hne a (.inl rfl)), f2 _ _ r1.map (hne b (.inr (.inl rfl))), fun e he => f2 _ _ (r1.ses e he) (hne _ (.inr (.inr ⟨e, he, rfl⟩)))⟩
      have hv2 : ∀ k, blkOf v1 = some k → k ≠ a ∧ k ≠ b ∧ ∀ e ∈ es ++ [(⟨P.length, x, bl.length⟩ : Sn)], k ≠ e.c := by
        intro k hk
        rcases b2 with b2 | b2
        · rw [b2] at hk
          exact ⟨fun e => hne a (.inl rfl) (e ▸ hk), fun e => hne b (.inr (.inl rfl)) (e ▸ hk), fun e he hc => hne k (.inr (.inr ⟨e, he, hc⟩)) hk⟩
        · rw [b2] at hk
          have : bl1.length = k := Option.some.inj hk
          refine ⟨by omega, by omega, fun e he hc => ?_⟩
          have := (List.getElem?_eq_some_iff.1 (r1.ses e he)).1
          omega
      obtain ⟨v', bl', es', q1, q2, q3, q4, q5, q6⟩ := ih (P ++ [x]) _ v1 bl2 (by rw [← happ]; exact hl) (by rw [← happ]; exact hx) hR2 hh' hid' (by simpa [List.filter_append, List.filter_cons, hmu'] using o2) hv2
      rw [← happ] at q1 q3 q4
      refine ⟨v', bl', es', ?_, q2, q3, q4, q5, q6⟩
      rw [← q1, ← hl1, l10_TrainSilent_R0_eq]
      simp only [fI] at e2
      simp only [l10_TrainSilent_B0, l10_TrainSilent_K0_norm, l10_TrainSilent_K0_ret, l10_TrainSilent_K0_exit, h1, hia, hw1, w1, w2, w3, w4, hmu, train_Register_Open_call, e1, e2, hO.chkV, o2.chkV, y1, y2, y3, y4, y5, y6, y7, y8, y9, keepE, keepB, chk, CV.locs, CV.locv, CV.refs, CV.ref, pureOp, repC, takeN, resV, enterC, Nat.reduceAdd, Nat.reduceSub, Nat.reduceMul, Nat.reduceLeDiff, Nat.reduceLT, Nat.reduceBEq, Nat.reduceBNe, Nat.reduceEqDiff, ↓reduceIte, Int.reduceAdd, Int.reduceSub, Int.reduceMul, Int.reduceLT, Int.reduceLE, Int.reduceEq, Int.reduceNeg, Int.reduceToNat]
    · have hmu' : mu now most ⟨P.length, x, bl.length⟩ = false := decide_eq_false hmu
      have hv2 : ∀ k, blkOf v = some k → k ≠ a ∧ k ≠ b ∧ ∀ e ∈ es ++ [(⟨P.length, x, bl.length⟩ : Sn)], k ≠ e.c := by
        intro k hk
        refine ⟨(hv k hk).1, (hv k hk).2.1, fun e he => ?_⟩
        rcases List.mem_append.1 he with he | he
        · exact (hv k hk).2.2 e he
        · simp only [List.mem_singleton] at he
          subst he
          have := hvc k hk
          simp only; omega
      obtain ⟨v', bl', es', q1, q2, q3, q4, q5, q6⟩ := ih (P ++ [x]) _ v bl1 (by rw [← happ]; exact hl) (by rw [← happ]; exact hx) r1 hh' hid' (by simpa [List.filter_append, List.filter_cons, hmu'] using hO1) hv2
      rw [← happ] at q1 q3 q4
      refine ⟨v', bl', es', ?_, q2, q3, q4, q5, q6⟩
      rw [← q1, ← hl1, l10_TrainSilent_R0_eq]
      simp only [l10_TrainSilent_B0, l10_TrainSilent_K0_norm, l10_TrainSilent_K0_ret, l10_TrainSilent_K0_exit, h1, hia, hw1, w1, w2, w3, w4, hmu, train_Register_Open_call, e1, hO.chkV, y1, y2, y3, y4, y5, y6, y7, y8, y9, keepE, keepB, chk, CV.locs, CV.locv, CV.refs, CV.ref, pureOp, repC, takeN, resV, enterC, Nat.reduceAdd, Nat.reduceSub, Nat.reduceMul, Nat.reduceLeDiff, Nat.reduceLT, Nat.reduceBEq, Nat.reduceBNe, Nat.reduceEqDiff, ↓reduceIte, Int.reduceAdd, Int.reduceSub, Int.reduceMul, Int.reduceLT, Int.reduceLE, Int.reduceEq, Int.reduceNeg, Int.reduceToNat]

theorem nm_mu (now most : Int) (es : List Sn) : (es.filter (nm now most)).filter (mu now most) = [] := by
  rw [List.filter_filter]
  refine List.filter_eq_nil_iff.2 fun e _ h => ?_
  simp only [nm, Bool.and_eq_true, Bool.not_eq_true'] at h
  rw [h.1] at h
  cases h.2
theorem nm_len (now most : Int) : ∀ es : List Sn, ((es.filter (nm now most)).length : Int) = es.length - (es.filter (mu now most)).length
  | [] => rfl
  | e :: es => by
    have ih := nm_len now most es
    cases h : mu now most e with
    | true =>
      have h' : nm now most e = false := by simp [nm, h]
      simp only [List.filter_cons, h, h', if_true, Bool.false_eq_true, if_false, List.length_cons]
      omega
    | false =>
      have h' : nm now most e = true := by simp [nm, h]
      simp only [List.filter_cons, h, h', if_true, Bool.false_eq_true, if_false, List.length_cons]
      omega

set_option maxHeartbeats 2000000 in
theorem trainSilent_F (heard : List Int) (hh : ∀ x ∈ heard, 0 ≤ x ∧ x ≤ 255) (most now : Int) (hm : 0 ≤ most ∧ most ≤ 255) (hw : 0 ≤ now ∧ now ≤ 255) (st : Bool) (H : Heap) :
    l10_TrainSilent_F st H [sl fU heard, .int .u8 most, .int .u8 now] = some (.bool true, H) := by
  rw [l10_TrainSilent_F_eq]
  by_cases hl : (6 : Int) < heard.length
  · simp only [l10_TrainSilent_C, l10_behind_call, sbehind_F, hl, y1, y2, y3, y4, y5, y6, y7, y8, y9, keepE, keepB, chk, CV.locs, CV.locv, CV.refs, CV.ref, pureOp, repC, takeN, resV, enterC, Nat.reduceAdd, Nat.reduceSub, Nat.reduceMul, Nat.reduceLeDiff, Nat.reduceLT, Nat.reduceBEq, Nat.reduceBNe, Nat.reduceEqDiff, ↓reduceIte, Int.reduceAdd, Int.reduceSub, Int.reduceMul, Int.reduceLT, Int.reduceLE, Int.reduceEq, Int.reduceNeg, Int.reduceToNat]
  · obtain ⟨bl0, e0, r0, _⟩ := snew_F []
    simp only [List.length_nil, Nat.zero_add] at e0 r0
    obtain ⟨v, bl1, es, q1, q2, q3, q4, q5, q6⟩ := silent_loop most now hm hw 1 0 heard [] [] .nils bl0 (by simp; omega) (by simpa using hh) r0 rfl rfl (.inl ⟨rfl, rfl⟩) (fun k e => by cases e)
    simp only [List.nil_append, List.length_nil, Int.natCast_zero] at q1 q3 q4
    have hel : es.length = heard.length := by rw [← q3]; simp
    have hlt : (es.map Sn.id).Pairwise (· < ·) := by rw [q4]; exact rng_lt _
    have hr : ∀ e ∈ es, (0 ≤ e.id ∧ e.id ≤ 1000) ∧ -1000000 ≤ now - e.heard ∧ now - e.heard ≤ 1000000 := fun e he => by
      have h1 : e.id ∈ es.map Sn.id := List.mem_map_of_mem he
      rw [q4] at h1
      have h2 := rng_mem h1
      have h3 : e.heard ∈ es.map Sn.heard := List.mem_map_of_mem he
      rw [q3] at h3
      have h4 := hh _ h3
      omega
    have w2 : IntKind.i64.wrap now = now := wrap64 (by omega) (by omega)
    have w3 : IntKind.i64.wrap most = most := wrap64 (by omega) (by omega)
    obtain ⟨v1, bl2, m1, m2, m3, m4, m5⟩ := smute_F q2 now most hlt (by omega) hr
    have hv2 : Own fI 1 bl2 v ((es.filter (mu now most)).map Sn.id) := by
      rcases q5 with h | ⟨m, h2, h3⟩
      · exact .inl h
      · exact .inr ⟨m, h2, m5.same _ _ (List.getElem?_eq_some_iff.1 h3).1 (fun e => q6 (by rw [h2, e]; rfl)) h3⟩
    have hsub : ∀ e ∈ es.filter (nm now most), e ∈ es := fun e he => (List.mem_filter.1 he).1
    have hlt2 : ((es.filter (nm now most)).map Sn.id).Pairwise (· < ·) := hlt.sublist (List.filter_sublist.map _)
    have hl2 : (es.filter (nm now most)).length ≤ 6 := by
      have := List.length_filter_le (nm now most) es
      omega
    have hl3 : (es.filter (mu now most)).length ≤ 6 := by
      have := List.length_filter_le (mu now most) es
      omega
    have hall := sall_F m2 (fun e he => by have := (hr e (hsub e he)).1; omega) (by omega)
    have r3 : Rgs (bl2 ++ [.cells [.om 0]]) 1 0 (es.filter (nm now most)) := m2.keep fun m x hx => get_app hx
    obtain ⟨v3, bl4, n1, n2, n3, n4, n5⟩ := smute_F r3 now most hlt2 (by omega) (fun e he => hr e (hsub e he))
    rw [nm_mu] at n3
    have hsub2 : ∀ e ∈ (es.filter (nm now most)).filter (nm now most), e ∈ es := fun e he => hsub e (List.mem_filter.1 he).1
    obtain ⟨bl5, d1⟩ := sdoubt_F n2 now most (hlt2.sublist (List.filter_sublist.map _)) (by
      have := List.length_filter_le (nm now most) (es.filter (nm now most))
      omega) (fun e he => (hr e (hsub2 e he)).1)
    have sa := fun bx st => snapI_own' m3 bx st
    have sb := fun bx st => snapI_own' hv2 bx st
    have hi := fun st H => ints_F ((es.filter (mu now most)).map Sn.id) ((es.filter (mu now most)).map Sn.id) (by unfold Zc.small; simp; omega) st H
    have hvl := hv2.len
    have hml := n3.len
    simp only [List.map_nil, List.length_nil, Int.natCast_zero] at hml
    have hsl : (isort ((es.filter (nm now most)).map Sn.id)).length = (es.filter (nm now most)).length := by rw [(isort_perm _).length_eq]; simp
    have hnl := nm_len now most es
    have hnl' : ((es.filter (nm now most)).length : Int) = heard.length - ((es.filter (mu now most)).map Sn.id).length := by rw [hnl, hel]; simp
    have w5 : IntKind.i64.wrap ((heard.length : Int) - ((es.filter (mu now most)).map Sn.id).length) = (es.filter (nm now most)).length := by rw [← hnl']; exact wrap64 (by omega) (by omega)
    have hl' : v.locv = false := hv2.locv
    have hl1' : v1.locv = false := m3.locv
    simp only [l10_TrainSilent_C, l10_TrainSilent_L0_eq, l10_behind_call, sbehind_F, eq_false hl, train_New_call, e0, q1, w2, w3, w5, train_Register_Mute_call, m1, r01_Ints_call, sa, sb, hi, hvl, hml, hl', hl1', train_Register_All_call, hall, hsl, n1, train_Register_Doubt_call, d1, hv2.chkV, y1, y2, y3, y4, y5, y6, y7, y8, y9, keepE, keepB, chk, CV.locs, CV.locv, CV.refs, CV.ref, pureOp, repC, takeN, resV, enterC, Nat.reduceAdd, Nat.reduceSub, Nat.reduceMul, Nat.reduceLeDiff, Nat.reduceLT, Nat.reduceBEq, Nat.reduceBNe, Nat.reduceEqDiff, ↓reduceIte, Int.reduceAdd, Int.reduceSub, Int.reduceMul, Int.reduceLT, Int.reduceLE, Int.reduceEq, Int.reduceNeg, Int.reduceToNat]
end Go.Proofs.Ytmkdhpjidhbijaa.Zt
