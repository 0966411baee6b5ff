/- Walks: numbers, rising. -/
import Derived.Test.YtmjffmghkfappaaZcI
set_option linter.all false
namespace Go.Proofs.Ytmjffmghkfappaa.Zt
open Go Go.Zc
set_option maxRecDepth 10000

/-- The best one so far. -/
def Best (last : Option Int) (l : List Int) (i : Nat) (b : Int) : Prop :=
  (b = -1 ∧ ∀ k, ∀ h : k < l.length, k < i → gtO last l[k] = false) ∨
  ∃ j : Nat, ∃ hj : j < l.length, b = j ∧ j < i ∧ gtO last l[j] = true ∧ ∀ k, ∀ h : k < l.length, k < i → gtO last l[k] = true → l[j] ≤ l[k]

theorem rise_in (l : List Int) (hm : l.length ≤ 2 * Zc.small) (acc : List Int) (v : CV) (bl : List Blk) (hO : Own fI 1 bl v acc) (ham : acc.length ≤ 2 * Zc.small) : ∀ (n i : Nat) (b : Int), l.length - i = n → i ≤ l.length → Best acc.getLast? l i b →
    ∃ b', r01_Rise_R2 ([(0, sl fI l), (3, v), (4, .int .i64 b), (5, .int .i64 i)], ⟨[], bl⟩) = some (.norm, [(0, sl fI l), (3, v), (4, .int .i64 b')], ⟨[], bl⟩) ∧ Best acc.getLast? l l.length b' := by
  intro n
  induction n with
  | zero =>
    intro i b hn hi hB
    have : i = l.length := by omega
    subst this
    refine ⟨b, ?_, hB⟩
    rw [r01_Rise_R2_eq]
    simp only [r01_Rise_B2, r01_Rise_K2_norm, r01_Rise_K2_ret, r01_Rise_K2_exit, hO.chkV, y1, y2, y3, y4, y5, y6, y7, y8, y9, keepE, keepB, chk, CV.locs, CV.locv, CV.refs, CV.ref, pureOp, repC, takeN, resV, enterC, Nat.reduceAdd, Nat.reduceSub, Nat.reduceMul, Nat.reduceLeDiff, Nat.reduceLT, Nat.reduceBEq, Nat.reduceBNe, Nat.reduceEqDiff, ↓reduceIte, Int.reduceAdd, Int.reduceSub, Int.reduceMul, Int.reduceLT, Int.reduceLE, Int.reduceEq, Int.reduceNeg, Int.reduceToNat]
  | succ n ih =>
    intro i b hn hi hB
    have hil : i < l.length := by omega
    have h1 : ((i : Int) < l.length) := by omega
    have hw := wrapN (n := i) (by omega)
    have hia := iaddr_atI (k := .i64) hil
    have hol := hO.len
    -- the new best one
    have step : ∃ b', Best acc.getLast? l (i + 1) b' ∧ r01_Rise_R2 ([(0, sl fI l), (3, v), (4, .int .i64 b), (5, .int .i64 i)], ⟨[], bl⟩) = r01_Rise_R2 ([(0, sl fI l), (3, v), (4, .int .i64 b'), (5, .int .i64 (i + 1 : Nat))], ⟨[], bl⟩) := by
      have hkB : gtO acc.getLast? l[i] = false → Best acc.getLast? l (i + 1) b := by
        intro hg
        rcases hB with ⟨h2, h3⟩ | ⟨j, hj, h2, h3, h4, h5⟩
        · exact .inl ⟨h2, fun k hk hki => by
            by_cases hkk : k = i
            · subst hkk; exact hg
            · exact h3 k hk (by omega)⟩
        · exact .inr ⟨j, hj, h2, by omega, h4, fun k hk hki hgk => by
            by_cases hkk : k = i
            · subst hkk; rw [hg] at hgk; cases hgk
            · exact h5 k hk (by omega) hgk⟩
      have hnB : gtO acc.getLast? l[i] = true → b < 0 → Best acc.getLast? l (i + 1) i := by
        intro hg hb
        rcases hB with ⟨h2, h3⟩ | ⟨j, hj, h2, h3, h4, h5⟩
        · refine .inr ⟨i, hil, rfl, by omega, hg, fun k hk hki hgk => ?_⟩
          by_cases hkk : k = i
          · subst hkk; exact Int.le_refl _
          · rw [h3 k hk (by omega)] at hgk; cases hgk
        · omega
      by_cases hacc : acc = []
      · subst hacc
        have hg : gtO ([] : List Int).getLast? l[i] = true := rfl
        by_cases hb : b < 0
        · refine ⟨i, hnB hg hb, ?_⟩
          rw [r01_Rise_R2_eq]
          simp only [r01_Rise_B2, r01_Rise_K2_norm, r01_Rise_K2_ret, r01_Rise_K2_exit, h1, hol, hia, hb, hw, hO.chkV, Int.natCast_zero, y1, y2, y3, y4, y5, y6, y7, y8, y9, keepE, keepB, chk, CV.locs, CV.locv, CV.refs, CV.ref, pureOp, repC, takeN, resV, enterC, Nat.reduceAdd, Nat.reduceSub, Nat.reduceMul, Nat.reduceLeDiff, Nat.reduceLT, Nat.reduceBEq, Nat.reduceBNe, Nat.reduceEqDiff, ↓reduceIte, Int.reduceAdd, Int.reduceSub, Int.reduceMul, Int.reduceLT, Int.reduceLE, Int.reduceEq, Int.reduceNeg, Int.reduceToNat]
        · rcases hB with ⟨h2, h3⟩ | ⟨j, hj, h2, h3, h4, h5⟩
          · omega
          · subst h2
            have hja := iaddr_atI (k := .i64) hj
            by_cases hlt : l[i] < l[j]
            · refine ⟨i, .inr ⟨i, hil, rfl, by omega, hg, fun k hk hki hgk => ?_⟩, ?_⟩
              · by_cases hkk : k = i
                · subst hkk; exact Int.le_refl _
                · have := h5 k hk (by omega) hgk; omega
              · rw [r01_Rise_R2_eq]
                simp only [r01_Rise_B2, r01_Rise_K2_norm, r01_Rise_K2_ret, r01_Rise_K2_exit, h1, hol, hia, hja, hb, hlt, hw, hO.chkV, Int.natCast_zero, y1, y2, y3, y4, y5, y6, y7, y8, y9, keepE, keepB, chk, CV.locs, CV.locv, CV.refs, CV.ref, pureOp, repC, takeN, resV, enterC, Nat.reduceAdd, Nat.reduceSub, Nat.reduceMul, Nat.reduceLeDiff, Nat.reduceLT, Nat.reduceBEq, Nat.reduceBNe, Nat.reduceEqDiff, ↓reduceIte, Int.reduceAdd, Int.reduceSub, Int.reduceMul, Int.reduceLT, Int.reduceLE, Int.reduceEq, Int.reduceNeg, Int.reduceToNat]
            · refine ⟨j, .inr ⟨j, hj, rfl, by omega, h4, fun k hk hki hgk => ?_⟩, ?_⟩
              · by_cases hkk : k = i
                · subst hkk; omega
                · exact h5 k hk (by omega) hgk
              · rw [r01_Rise_R2_eq]
                simp only [r01_Rise_B2, r01_Rise_K2_norm, r01_Rise_K2_ret, r01_Rise_K2_exit, h1, hol, hia, hja, hb, hlt, hw, hO.chkV, Int.natCast_zero, y1, y2, y3, y4, y5, y6, y7, y8, y9, keepE, keepB, chk, CV.locs, CV.locv, CV.refs, CV.ref, pureOp, repC, takeN, resV, enterC, Nat.reduceAdd, Nat.reduceSub, Nat.reduceMul, Nat.reduceLeDiff, Nat.reduceLT, Nat.reduceBEq, Nat.reduceBNe, Nat.reduceEqDiff, ↓reduceIte, Int.reduceAdd, Int.reduceSub, Int.reduceMul, Int.reduceLT, Int.reduceLE, Int.reduceEq, Int.reduceNeg, Int.reduceToNat]
      · obtain ⟨a, z, rfl⟩ : ∃ a z, acc = a ++ [z] := ⟨acc.dropLast, acc.getLast hacc, (List.dropLast_concat_getLast hacc).symm⟩
        have hlast : (a ++ [z]).getLast? = some z := by simp
        have hl0 : ¬ (((a ++ [z]).length : Int) = 0) := by simp; omega
        have hsub : IntKind.i64.wrap (((a ++ [z]).length : Int) - 1) = a.length := by
          unfold Zc.small at ham
          rw [wrap64 (by omega) (by omega)]; simp
        obtain ⟨m, hla, cs, hg0, hd⟩ := Own.get flatI hO (p := a) (s := []) (x := z) rfl
        simp only [fI, Nat.mul_one] at hd
        simp only [Nat.mul_one] at hla
        rw [hlast] at hkB hnB hB ⊢
        generalize hL : (a ++ [z]).length = L at *
        by_cases hgz : z < l[i]
        · have hg : gtO (some z) l[i] = true := by simp [gtO, hgz]
          by_cases hb : b < 0
          · refine ⟨i, hnB hg hb, ?_⟩
            rw [r01_Rise_R2_eq]
            simp only [r01_Rise_B2, r01_Rise_K2_norm, r01_Rise_K2_ret, r01_Rise_K2_exit, h1, hol, hl0, hsub, hla, hg0, hd, hgz, hia, hb, hw, hO.chkV, y1, y2, y3, y4, y5, y6, y7, y8, y9, keepE, keepB, chk, CV.locs, CV.locv, CV.refs, CV.ref, pureOp, repC, takeN, resV, enterC, Nat.reduceAdd, Nat.reduceSub, Nat.reduceMul, Nat.reduceLeDiff, Nat.reduceLT, Nat.reduceBEq, Nat.reduceBNe, Nat.reduceEqDiff, ↓reduceIte, Int.reduceAdd, Int.reduceSub, Int.reduceMul, Int.reduceLT, Int.reduceLE, Int.reduceEq, Int.reduceNeg, Int.reduceToNat]
          · rcases hB with ⟨h2, h3⟩ | ⟨j, hj, h2, h3, h4, h5⟩
            · omega
            · subst h2
              have hja := iaddr_atI (k := .i64) hj
              by_cases hlt : l[i] < l[j]
              · refine ⟨i, .inr ⟨i, hil, rfl, by omega, hg, fun k hk hki hgk => ?_⟩, ?_⟩
                · by_cases hkk : k = i
                  · subst hkk; exact Int.le_refl _
                  · have := h5 k hk (by omega) hgk; omega
                · rw [r01_Rise_R2_eq]
                  simp only [r01_Rise_B2, r01_Rise_K2_norm, r01_Rise_K2_ret, r01_Rise_K2_exit, h1, hol, hl0, hsub, hla, hg0, hd, hgz, hia, hja, hb, hlt, hw, hO.chkV, y1, y2, y3, y4, y5, y6, y7, y8, y9, keepE, keepB, chk, CV.locs, CV.locv, CV.refs, CV.ref, pureOp, repC, takeN, resV, enterC, Nat.reduceAdd, Nat.reduceSub, Nat.reduceMul, Nat.reduceLeDiff, Nat.reduceLT, Nat.reduceBEq, Nat.reduceBNe, Nat.reduceEqDiff, ↓reduceIte, Int.reduceAdd, Int.reduceSub, Int.reduceMul, Int.reduceLT, Int.reduceLE, Int.reduceEq, Int.reduceNeg, Int.reduceToNat]
              · refine ⟨j, .inr ⟨j, hj, rfl, by omega, h4, fun k hk hki hgk => ?_⟩, ?_⟩
                · by_cases hkk : k = i
                  · subst hkk; omega
                  · exact h5 k hk (by omega) hgk
                · rw [r01_Rise_R2_eq]
                  simp only [r01_Rise_B2, r01_Rise_K2_norm, r01_Rise_K2_ret, r01_Rise_K2_exit, h1, hol, hl0, hsub, hla, hg0, hd, hgz, hia, hja, hb, hlt, hw, hO.chkV, y1, y2, y3, y4, y5, y6, y7, y8, y9, keepE, keepB, chk, CV.locs, CV.locv, CV.refs, CV.ref, pureOp, repC, takeN, resV, enterC, Nat.reduceAdd, Nat.reduceSub, Nat.reduceMul, Nat.reduceLeDiff, Nat.reduceLT, Nat.reduceBEq, Nat.reduceBNe, Nat.reduceEqDiff, ↓reduceIte, Int.reduceAdd, Int.reduceSub, Int.reduceMul, Int.reduceLT, Int.reduceLE, Int.reduceEq, Int.reduceNeg, Int.reduceToNat]
        · have hg : gtO (some z) l[i] = false := by simp [gtO]; omega
          refine ⟨b, hkB hg, ?_⟩
          rw [r01_Rise_R2_eq]
          simp only [r01_Rise_B2, r01_Rise_K2_norm, r01_Rise_K2_ret, r01_Rise_K2_exit, h1, hol, hl0, hsub, hla, hg0, hd, hgz, hia, hw, hO.chkV, y1, y2, y3, y4, y5, y6, y7, y8, y9, keepE, keepB, chk, CV.locs, CV.locv, CV.refs, CV.ref, pureOp, repC, takeN, resV, enterC, Nat.reduceAdd, Nat.reduceSub, Nat.reduceMul, Nat.reduceLeDiff, Nat.reduceLT, Nat.reduceBEq, Nat.reduceBNe, Nat.reduceEqDiff, ↓reduceIte, Int.reduceAdd, Int.reduceSub, Int.reduceMul, Int.reduceLT, Int.reduceLE, Int.reduceEq, Int.reduceNeg, Int.reduceToNat]
    obtain ⟨b', hB', e⟩ := step
    obtain ⟨b'', e2, hB''⟩ := ih (i + 1) b' (by omega) (by omega) hB'
    exact ⟨b'', e.trans e2, hB''⟩

theorem best_min {last : Option Int} {l : List Int} {b : Int} (h : Best last l l.length b) : (b < 0 ∧ minO (l.filter (gtO last)) = none) ∨ ∃ j : Nat, ∃ hj : j < l.length, b = j ∧ minO (l.filter (gtO last)) = some l[j] := by
  rcases h with ⟨h1, h2⟩ | ⟨j, hj, h1, _, h3, h4⟩
  · left
    refine ⟨by omega, minO_none.2 ?_⟩
    rw [List.filter_eq_nil_iff]
    intro x hx
    obtain ⟨k, hk, rfl⟩ := List.mem_iff_getElem.1 hx
    rw [h2 k hk hk]; simp
  · right
    refine ⟨j, hj, h1, minO_some.2 ⟨List.mem_filter.2 ⟨List.getElem_mem hj, h3⟩, fun y hy => ?_⟩⟩
    obtain ⟨hy1, hy2⟩ := List.mem_filter.1 hy
    obtain ⟨k, hk, rfl⟩ := List.mem_iff_getElem.1 hy1
    exact h4 k hk hk hy2

theorem rise_loop (l : List Int) (hm : l.length ≤ Zc.small) : ∀ (n : Nat) (acc : List Int) (v : CV) (bl : List Blk), (l.filter (gtO acc.getLast?)).length ≤ n → acc.length + n ≤ l.length → Own fI 1 bl v acc →
    ∃ v' bl', r01_Rise_R0 ([(0, sl fI l), (3, v)], ⟨[], bl⟩) = some (.ret, [(2, v')], ⟨[], bl'⟩) ∧ Own fI 1 bl' v' (acc ++ riseN l n acc.getLast?) := by
  intro n
  induction n with
  | zero =>
    intro acc v bl hf hn hO
    have hB0 : Best acc.getLast? l 0 (-1) := .inl ⟨rfl, fun k hk h => by omega⟩
    obtain ⟨b, e, hB⟩ := rise_in l (by omega) acc v bl hO (by omega) l.length 0 (-1) (by omega) (by omega) hB0
    have hnil : l.filter (gtO acc.getLast?) = [] := List.eq_nil_of_length_eq_zero (by omega)
    rcases best_min hB with ⟨hb, _⟩ | ⟨j, hj, hb, h⟩
    · refine ⟨v, bl, ?_, by simpa [riseN] using hO⟩
      simp only [Int.natCast_zero] at e
      rw [r01_Rise_R0_eq]
      simp only [r01_Rise_B0, r01_Rise_K0_norm, r01_Rise_K0_ret, r01_Rise_K0_exit, r01_Rise_L2_eq, hO.chkV, e, hb, y1, y2, y3, y4, y5, y6, y7, y8, y9, keepE, keepB, chk, CV.locs, CV.locv, CV.refs, CV.ref, pureOp, repC, takeN, resV, enterC, Nat.reduceAdd, Nat.reduceSub, Nat.reduceMul, Nat.reduceLeDiff, Nat.reduceLT, Nat.reduceBEq, Nat.reduceBNe, Nat.reduceEqDiff, ↓reduceIte, Int.reduceAdd, Int.reduceSub, Int.reduceMul, Int.reduceLT, Int.reduceLE, Int.reduceEq, Int.reduceNeg, Int.reduceToNat]
    · rw [hnil] at h; simp [minO] at h
  | succ n ih =>
    intro acc v bl hf hn hO
    have hB0 : Best acc.getLast? l 0 (-1) := .inl ⟨rfl, fun k hk h => by omega⟩
    obtain ⟨b, e, hB⟩ := rise_in l (by omega) acc v bl hO (by omega) l.length 0 (-1) (by omega) (by omega) hB0
    simp only [Int.natCast_zero] at e
    rcases best_min hB with ⟨hb, h⟩ | ⟨j, hj, hb, h⟩
    · refine ⟨v, bl, ?_, by simpa [riseN, h] using hO⟩
      rw [r01_Rise_R0_eq]
      simp only [r01_Rise_B0, r01_Rise_K0_norm, r01_Rise_K0_ret, r01_Rise_K0_exit, r01_Rise_L2_eq, hO.chkV, e, hb, y1, y2, y3, y4, y5, y6, y7, y8, y9, keepE, keepB, chk, CV.locs, CV.locv, CV.refs, CV.ref, pureOp, repC, takeN, resV, enterC, Nat.reduceAdd, Nat.reduceSub, Nat.reduceMul, Nat.reduceLeDiff, Nat.reduceLT, Nat.reduceBEq, Nat.reduceBNe, Nat.reduceEqDiff, ↓reduceIte, Int.reduceAdd, Int.reduceSub, Int.reduceMul, Int.reduceLT, Int.reduceLE, Int.reduceEq, Int.reduceNeg, Int.reduceToNat]
    · subst hb
      have hlt := filter_gt h
      unfold Zc.small at hm
      obtain ⟨v1, bl1, e1, o1, _⟩ := hO.app1 flatI (bytes := 8) (zero := [.int .i64 0]) (by decide) rfl rfl l[j] (by omega)
      simp only [fI] at e1
      have hgl : (acc ++ [l[j]]).getLast? = some l[j] := by simp
      obtain ⟨v', bl', e2, o2⟩ := ih (acc ++ [l[j]]) v1 bl1 (by rw [hgl]; omega) (by simp; omega) o1
      rw [hgl] at o2
      have hja := iaddr_atI (k := .i64) hj
      have hb : ¬ ((j : Int) < 0) := by omega
      refine ⟨v', bl', ?_, by simpa only [riseN, h, List.append_assoc, List.cons_append, List.nil_append] using o2⟩
      rw [r01_Rise_R0_eq]
      simp only [r01_Rise_B0, r01_Rise_K0_norm, r01_Rise_K0_ret, r01_Rise_K0_exit, r01_Rise_L2_eq, hO.chkV, e, hb, hja, e1, o1.chkV, e2, y1, y2, y3, y4, y5, y6, y7, y8, y9, keepE, keepB, chk, CV.locs, CV.locv, CV.refs, CV.ref, pureOp, repC, takeN, resV, enterC, Nat.reduceAdd, Nat.reduceSub, Nat.reduceMul, Nat.reduceLeDiff, Nat.reduceLT, Nat.reduceBEq, Nat.reduceBNe, Nat.reduceEqDiff, ↓reduceIte, Int.reduceAdd, Int.reduceSub, Int.reduceMul, Int.reduceLT, Int.reduceLE, Int.reduceEq, Int.reduceNeg, Int.reduceToNat]

theorem rise_F (l : List Int) (hm : l.length ≤ Zc.small) (st : Bool) (H : Heap) : r01_Rise_F st H [sl fI l] = some (sl fI (rise l), H) := by
  obtain ⟨v, bl, e, o⟩ := rise_loop l hm l.length [] .nils [] (List.length_filter_le _ _) (by simp) (Own.nil _ _ _)
  have hs := fun bx => snapI_own o bx st
  simp only [List.nil_append, List.getLast?_nil] at hs
  rw [r01_Rise_F_eq]
  simp only [r01_Rise_C, r01_Rise_L0_eq, e, hs, rise, y1, y2, y3, y4, y5, y6, y7, y8, y9, keepE, keepB, chk, CV.locs, CV.locv, CV.refs, CV.ref, pureOp, repC, takeN, resV, enterC, Nat.reduceAdd, Nat.reduceSub, Nat.reduceMul, Nat.reduceLeDiff, Nat.reduceLT, Nat.reduceBEq, Nat.reduceBNe, Nat.reduceEqDiff, ↓reduceIte, Int.reduceAdd, Int.reduceSub, Int.reduceMul, Int.reduceLT, Int.reduceLE, Int.reduceEq, Int.reduceNeg, Int.reduceToNat]

end Go.Proofs.Ytmjffmghkfappaa.Zt
