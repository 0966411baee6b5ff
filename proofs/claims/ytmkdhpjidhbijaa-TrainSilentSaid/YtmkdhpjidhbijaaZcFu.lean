/- The law TrainFull, walked. -/
import Derived.Test.YtmkdhpjidhbijaaZcSg
import Derived.Test.YtmkdhpjidhbijaaZcArgs
import Derived.Test.YtmkdhpjidhbijaaZcPart
set_option linter.all false
namespace Go.Proofs.Ytmkdhpjidhbijaa.Zt
open Go Go.Zc
set_option maxRecDepth 10000

theorem sbehind_F (st : Bool) (H : Heap) : l10_behind_F st H [] = some (.bool true, H) := fz_run 60 (by kernel_rfl)

theorem nodup_split {k : Int} : ∀ {es : List Sn}, k ∈ es.map Sn.id → (es.map Sn.id).Nodup → ∃ pre e suf, es = pre ++ e :: suf ∧ e.id = k ∧ (∀ x ∈ pre, x.id ≠ k) ∧ ∀ x ∈ suf, x.id ≠ k
  | [], h, _ => by simp at h
  | e :: es, h, hn => by
    simp only [List.map_cons, List.nodup_cons] at hn
    by_cases he : e.id = k
    · exact ⟨[], e, es, rfl, he, by simp, fun x hx hk => hn.1 (by rw [he, ← hk]; exact List.mem_map_of_mem hx)⟩
    · have : k ∈ es.map Sn.id := by
        simp only [List.map_cons, List.mem_cons] at h
        rcases h with h | h
        · exact absurd h.symm he
        · exact h
      obtain ⟨pre, e', suf, rfl, h1, h2, h3⟩ := nodup_split this hn.2
      refine ⟨e :: pre, e', suf, rfl, h1, fun x hx => ?_, h3⟩
      rcases List.mem_cons.1 hx with rfl | hx
      · exact he
      · exact h2 x hx

theorem full_loop (n now : Int) (hn : 0 ≤ now ∧ now ≤ 65535) (a b : Nat) : ∀ (m i : Nat) (es : List Sn) (bl : List Blk), 6 - i = m → i ≤ 6 → Rgs bl a b es → es.map Sn.id = (List.range i).map (fun (k : Nat) => (10 + k : Int)) →
    ∃ bl' es', l10_TrainFull_R0 ([(0, .int .u8 n), (1, .int .u16 now), (5, .op (.blk a) 0), (6, .int .i64 i)], ⟨[], bl⟩) = some (.norm, [(0, .int .u8 n), (5, .op (.blk a) 0)], ⟨[], bl'⟩) ∧ Rgs bl' a b es' ∧ es'.map Sn.id = [10, 11, 12, 13, 14, 15]
  | 0, i, es, bl, hm, hi, h, he => by
    have : i = 6 := by omega
    subst this
    refine ⟨bl, es, ?_, h, by rw [he]; rfl⟩
    rw [l10_TrainFull_R0_eq]
    simp only [l10_TrainFull_B0, l10_TrainFull_K0_norm, l10_TrainFull_K0_ret, l10_TrainFull_K0_exit, y1, y2, y3, y4, y5, y6, y7, y8, y9, keepE, keepB, chk, CV.locs, CV.locv, CV.refs, CV.ref, pureOp, repC, takeN, resV, enterC, Nat.reduceAdd, Nat.reduceSub, Nat.reduceMul, Nat.reduceLeDiff, Nat.reduceLT, Nat.reduceBEq, Nat.reduceBNe, Nat.reduceEqDiff, ↓reduceIte, Int.reduceAdd, Int.reduceSub, Int.reduceMul, Int.reduceLT, Int.reduceLE, Int.reduceEq, Int.reduceNeg, Int.reduceToNat]
  | m + 1, i, es, bl, hm, hi, h, he => by
    have h1 : ((i : Int) < 6) := by omega
    have w1 : IntKind.i64.wrap (10 + (i : Int)) = 10 + i := wrap64 (by omega) (by omega)
    have w2 : IntKind.i64.wrap now = now := wrap64 (by omega) (by omega)
    have w3 := wrapN (n := i) (by unfold small; omega)
    have hlen : es.length = i := by
      have := congrArg List.length he
      simpa using this
    have hk : ∀ e ∈ es, e.id ≠ 10 + i := fun e hx hc => by
      have : e.id ∈ es.map Sn.id := List.mem_map_of_mem hx
      rw [he, List.mem_map] at this
      obtain ⟨k, hk, e1⟩ := this
      have := List.mem_range.1 hk
      omega
    obtain ⟨bl1, e1, r1, _⟩ := sopen_F h (10 + i) now hk (by omega)
    obtain ⟨bl', es', q1, q2, q3⟩ := full_loop n now hn a b m (i + 1) _ bl1 (by omega) (by omega) r1 (by rw [List.map_append, he, List.range_succ, List.map_append]; rfl)
    refine ⟨bl', es', ?_, q2, q3⟩
    rw [l10_TrainFull_R0_eq]
    simp only [l10_TrainFull_B0, l10_TrainFull_K0_norm, l10_TrainFull_K0_ret, l10_TrainFull_K0_exit, h1, w1, w2, w3, train_Register_Open_call, e1, y1, y2, y3, y4, y5, y6, y7, y8, y9, keepE, keepB, chk, CV.locs, CV.locv, CV.refs, CV.ref, pureOp, repC, takeN, resV, enterC, Nat.reduceAdd, Nat.reduceSub, Nat.reduceMul, Nat.reduceLeDiff, Nat.reduceLT, Nat.reduceBEq, Nat.reduceBNe, Nat.reduceEqDiff, ↓reduceIte, Int.reduceAdd, Int.reduceSub, Int.reduceMul, Int.reduceLT, Int.reduceLE, Int.reduceEq, Int.reduceNeg, Int.reduceToNat]
    exact q1

theorem rem6 {n : Int} (hn : 0 ≤ n ∧ n ≤ 255) : n.tmod 6 = n % 6 := Int.tmod_eq_emod_of_nonneg hn.1

set_option maxHeartbeats 1000000 in
theorem trainFull_F (n now : Int) (hn : 0 ≤ n ∧ n ≤ 255) (hw : 0 ≤ now ∧ now ≤ 65535) (st : Bool) (H : Heap) :
    l10_TrainFull_F st H [.int .u8 n, .int .u16 now] = some (.bool true, H) := by
  obtain ⟨bl0, e0, r0, _⟩ := snew_F []
  simp only [List.length_nil, Nat.zero_add] at e0 r0
  obtain ⟨bl1, es, hL, r1, hid⟩ := full_loop n now hw 1 0 6 0 [] bl0 rfl (by omega) r0 rfl
  simp only [Int.natCast_zero] at hL
  obtain ⟨k, hk⟩ : ∃ k, k = 10 + n % 6 := ⟨_, rfl⟩
  have w1 : IntKind.i64.wrap (n % 6) = n % 6 := wrap64 (by omega) (by omega)
  have w2 : IntKind.i64.wrap (10 + n % 6) = k := by rw [wrap64 (by omega) (by omega), hk]
  have hr6 := rem6 hn
  have hkm : k ∈ es.map Sn.id := by
    rw [hid]
    simp only [List.mem_cons, List.not_mem_nil, or_false]
    omega
  obtain ⟨pre, e, suf, rfl, hek, hp, hs⟩ := nodup_split hkm (by rw [hid]; decide)
  subst hek
  have hlen : (pre ++ e :: suf).length = 6 := by
    have := congrArg List.length hid
    simpa using this
  have h99 : ∀ x ∈ pre ++ e :: suf, x.id ≠ 99 := fun x hx hc => by
    have : x.id ∈ (pre ++ e :: suf).map Sn.id := List.mem_map_of_mem hx
    rw [hid, hc] at this
    simp at this
  have o1 := sopen_full r1 99 0 h99 (by omega)
  have o2 := sopen_in r1 hp 0
  have o3 := sclose_in r1 hp
  have r2 := r1.close
  have hps : ∀ x ∈ pre ++ suf, x.id ≠ e.id := fun x hx => by
    rcases List.mem_append.1 hx with hx | hx
    · exact hp x hx
    · exact hs x hx
  have o4 := sclose_out r2 e.id hps
  have hl5 : (pre ++ suf).length = 5 := by simp at hlen ⊢; omega
  obtain ⟨bl5, o5, r5, _⟩ := sopen_F r2 99 0 (fun x hx => h99 x (by
    rcases List.mem_append.1 hx with hx | hx
    · exact List.mem_append_left _ hx
    · exact List.mem_append_right _ (List.mem_cons_of_mem _ hx))) (by omega)
  have hrange : ∀ x ∈ pre ++ suf ++ [(⟨99, 0, (bl1.set 0 (Blk.map (ents (pre ++ suf)))).length⟩ : Sn)], -9223372036854775808 ≤ x.id ∧ x.id ≤ 9223372036854775807 := fun x hx => by
    rcases List.mem_append.1 hx with hx | hx
    · have : x.id ∈ (pre ++ e :: suf).map Sn.id := List.mem_map_of_mem (by
        rcases List.mem_append.1 hx with hx | hx
        · exact List.mem_append_left _ hx
        · exact List.mem_append_right _ (List.mem_cons_of_mem _ hx))
      rw [hid] at this
      simp only [List.mem_cons, List.not_mem_nil, or_false] at this
      omega
    · simp only [List.mem_singleton] at hx
      subst hx
      simp
  have o6 := sall_F r5 hrange (by simp at hl5 ⊢; omega)
  have hl6 : (isort ((pre ++ suf ++ [(⟨99, 0, (bl1.set 0 (Blk.map (ents (pre ++ suf)))).length⟩ : Sn)]).map Sn.id)).length = 6 := by
    rw [(isort_perm _).length_eq]
    simp at hl5 ⊢; omega
  rw [l10_TrainFull_F_eq]
  simp only [l10_TrainFull_C, l10_TrainFull_L0_eq, l10_behind_call, sbehind_F, train_New_call, e0, hL, hr6, w1, w2, train_Register_Open_call, train_Register_Close_call, train_Register_All_call, o1, o2, o3, o4, o5, o6, hl6, y1, y2, y3, y4, y5, y6, y7, y8, y9, keepE, keepB, chk, CV.locs, CV.locv, CV.refs, CV.ref, pureOp, repC, takeN, resV, enterC, Nat.reduceAdd, Nat.reduceSub, Nat.reduceMul, Nat.reduceLeDiff, Nat.reduceLT, Nat.reduceBEq, Nat.reduceBNe, Nat.reduceEqDiff, ↓reduceIte, Int.reduceAdd, Int.reduceSub, Int.reduceMul, Int.reduceLT, Int.reduceLE, Int.reduceEq, Int.reduceNeg, Int.reduceToNat]
end Go.Proofs.Ytmkdhpjidhbijaa.Zt
