/- The parts of a draft's track, and what is beside them. No condition. -/
import Derived.Test.YtfblegjbmhgepaaZcForm
set_option linter.all false
namespace Go.Zc

theorem fz_run {C : Ctx} {kn : Bool} {np : Nat} {code : CCode} {res : List Res} {st : Bool} {H : Heap} {xs : List CV} {r : CV × Heap} (n : Nat)
    (h : (if xs.length = np then (run C n code (enterC 0 xs) ⟨[], []⟩).bind (fzOut res st kn H) else none) = some r) : fzE C kn np code res st H xs = some r := by
  unfold fzE
  split at h
  · rename_i hl
    rw [if_pos hl]
    obtain ⟨x, hx, hr⟩ := Option.bind_eq_some_iff.1 h
    rw [run_eval C n _ _ _ _ hx]
    exact hr
  · cases h


theorem near_in {l : Lay} {s n : Int} (h : n ∈ near l s) : 0 ≤ n ∧ n < l.secs.length := by
  obtain ⟨x, y, _, rfl, h'⟩ := near_to h
  exact (around_in h').1

theorem mkParts_of (d : Draft) : (full d).parts = mkParts d.join 0 (mkEnds d.form).length [] := rfl

theorem full_partsOk (d : Draft) (hd : d.ok) : ∃ T : List (List Int), T.length = (full d).secs.length ∧ (∀ n : Nat, n < T.length → near (full d) n = T[n]?.getD []) ∧ partsOk T (full d).parts = true := by
  obtain ⟨f, hf, h1, h2, _⟩ := form_in d.form
  rw [nearTs_all, List.mem_map] at hf
  obtain ⟨⟨f', T⟩, hm, rfl⟩ := hf
  have hT := of_decide_eq_true (List.all_eq_true.1 nearTs_ok _ hm)
  simp only at hT h1 h2
  have hj := List.all_eq_true.1 joinsOk_256 _ hm
  have hjo := hd.join
  obtain ⟨j, hj'⟩ := Int.eq_ofNat_of_zero_le hjo.1
  have hj2 := List.all_eq_true.1 hj j (List.mem_range.2 (by omega))
  have hl : T.length = (mkEnds d.form).length := by
    rw [← hT, h1]
    simp [nearT]
  refine ⟨T, by rw [full_secs_len, hl], fun n hn => ?_, ?_⟩
  · rw [full_nearG, h1, h2, ← hT]
    rw [hl, h1] at hn
    simp [nearT, hn]
  · rw [mkParts_of, ← hl, hj']
    exact hj2

theorem full_part (d : Draft) (hd : d.ok) {s : Int} (h0 : 0 ≤ s) (h1 : s < (full d).secs.length) : ∃ n : Nat, ∃ hn : n < (full d).parts.length, partOf (full d) s = n ∧ s ∈ (full d).parts[n] := by
  obtain ⟨T, hT, _, h⟩ := full_partsOk d hd
  unfold partsOk at h
  simp only [Bool.and_eq_true, List.all_eq_true, List.mem_range, decide_eq_true_eq] at h
  obtain ⟨n, rfl⟩ := Int.eq_ofNat_of_zero_le h0
  obtain ⟨⟨a, b⟩, c⟩ := h.1.1 n (by omega)
  rw [← partOf_eq] at a b c
  refine ⟨(partOf (full d) n).toNat, b, by omega, ?_⟩
  rw [List.getElem?_eq_getElem b] at c
  exact c
theorem full_partIx (d : Draft) (hd : d.ok) {k : Nat} (hk : k < (full d).parts.length) {s : Int} (hs : s ∈ (full d).parts[k]) : partOf (full d) s = k ∧ 0 ≤ s ∧ s < (full d).secs.length := by
  obtain ⟨T, hT, _, h⟩ := full_partsOk d hd
  unfold partsOk at h
  simp only [Bool.and_eq_true, List.all_eq_true, List.mem_range, decide_eq_true_eq] at h
  have := h.1.2 k hk
  rw [List.getElem?_eq_getElem hk] at this
  obtain ⟨⟨a, b⟩, c⟩ := this s hs
  rw [← partOf_eq] at a
  exact ⟨a, b, by omega⟩

theorem flatMap_congr' {α β : Type} {f g : α → List β} : ∀ {l : List α}, (∀ x ∈ l, f x = g x) → l.flatMap f = l.flatMap g
  | [], _ => rfl
  | x :: l, h => by
    rw [List.flatMap_cons, List.flatMap_cons, h x (by simp), flatMap_congr' fun y hy => h y (by simp [hy])]
/-- Few parts are beside one. -/
theorem full_beside (d : Draft) (hd : d.ok) (pt : Int) : ∀ q, partIx (full d) pt = some q → (besideL (full d) pt q).length ≤ 12 := by
  intro q hq
  obtain ⟨n, hn, rfl, rfl⟩ := partIx_some hq
  have hin := fun s => full_partIx d hd hn (s := s)
  obtain ⟨T, hT, hN, h⟩ := full_partsOk d hd
  unfold partsOk at h
  simp only [Bool.and_eq_true, List.all_eq_true, List.mem_range] at h
  have h2 := Nat.le_of_ble_eq_true (h.2 n hn)
  rw [List.getElem?_eq_getElem hn] at h2
  have : besideL (full d) n (full d).parts[n] = besT T (full d).parts n (full d).parts[n] := by
    unfold besideL besT
    refine flatMap_congr' fun s hs => ?_
    obtain ⟨_, s0, s1⟩ := hin s hs
    obtain ⟨m, rfl⟩ := Int.eq_ofNat_of_zero_le s0
    rw [hN m (by omega)]
    rfl
  rw [this]
  exact h2

theorem beside_mem {l : Lay} {p b : Int} (h : b ∈ beside l p) : ∃ q, partIx l p = some q ∧ ∃ s ∈ q, ∃ n ∈ near l s, partOf l n = b ∧ 0 ≤ b ∧ b ≠ p := by
  unfold beside at h
  cases hq : partIx l p with
  | none => simp [hq] at h
  | some q =>
    simp only [hq, rise_mem, besideL, List.mem_flatMap, List.mem_filter, List.mem_map, Bool.and_eq_true, decide_eq_true_eq] at h
    obtain ⟨s, hs, ⟨n, hn, rfl⟩, h0, h1⟩ := h
    exact ⟨q, rfl, s, hs, n, hn, rfl, h0, h1⟩
/-- What is beside a part has it beside itself. -/
theorem full_besides (d : Draft) (hd : d.ok) {p b : Int} (h : b ∈ beside (full d) p) : b ≠ p ∧ p ∈ beside (full d) b ∧ 0 ≤ b ∧ b < (full d).parts.length := by
  obtain ⟨q, hq, s, hs, n, hn, hb, h0, h1⟩ := beside_mem h
  obtain ⟨k, hk, rfl, rfl⟩ := partIx_some hq
  obtain ⟨s1, s2, s3⟩ := full_partIx d hd hk hs
  obtain ⟨n1, n2⟩ := near_in hn
  obtain ⟨m, hm, m1, m2⟩ := full_part d hd n1 n2
  rw [hb] at m1
  subst m1
  refine ⟨h1, ?_, h0, by omega⟩
  have hix : partIx (full d) m = some (full d).parts[m] := by
    unfold partIx
    simp only [Int.toNat_natCast, Int.natCast_nonneg, if_true, List.getElem?_eq_getElem hm]
  unfold beside
  simp only [hix, rise_mem, besideL, List.mem_flatMap, List.mem_filter, List.mem_map, Bool.and_eq_true, decide_eq_true_eq]
  exact ⟨n, m2, ⟨s, full_near d hn, s1⟩, by omega, fun e => h1 e.symm⟩
theorem beside_len (d : Draft) (hd : d.ok) (p : Int) : (beside (full d) p).length ≤ 12 := by
  unfold beside
  cases hq : partIx (full d) p with
  | none => simp
  | some q =>
    have h1 := full_beside d hd p q hq
    have h2 := nodup_le (rise_nodup (besideL (full d) p q)) (b := besideL (full d) p q) fun y hy => (rise_mem _ y).1 hy
    simp only
    omega
end Go.Zc
