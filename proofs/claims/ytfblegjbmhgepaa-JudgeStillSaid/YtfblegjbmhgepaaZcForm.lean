/- The tracks of drafts: ways back; parts and what is beside them. No condition. -/
import Derived.Test.YtfblegjbmhgepaaZcTrack
import Derived.Test.YtfblegjbmhgepaaZcNear
set_option linter.all false
namespace Go.Zc

/-! ### The way back -/
def backs (E : List Ed) (pts : List Pt) : Bool := allEnds E fun x => (aroundG E pts x).all fun y => decide (x ∈ aroundG E pts y)
theorem backs_all : shapes.all (fun S => backs S.1 S.2) = true := by kernel_rfl
theorem full_back (d : Draft) (x y : Ed) (h : y ∈ around (full d) x) : x ∈ around (full d) y := by
  rw [full_around] at h ⊢
  have h1 := List.all_eq_true.1 backs_all _ (shape_mem d.form)
  have hx : nodeG (mkEnds d.form) x ≠ none := by
    intro h0
    simp [aroundG, h0] at h
  have h2 := allEnds_of h1 hx
  have h3 := List.all_eq_true.1 h2 y h
  exact of_decide_eq_true h3

theorem around_ends {l : Lay} {x y : Ed} (h : y ∈ around l x) : x.e = 0 ∨ x.e = 1 := by
  unfold around nodeOf at h
  by_cases h0 : x.e = 0
  · exact .inl h0
  · by_cases h1 : x.e = 1
    · exact .inr h1
    · exfalso
      cases hs : (if 0 ≤ x.s then l.secs[x.s.toNat]? else none) <;> simp [hs, h0, h1] at h

theorem near_of {l : Lay} {x y : Ed} (h : y ∈ around l x) : y.s ∈ near l x.s := by
  unfold near nearL
  rw [rise_mem, List.mem_append, List.mem_map, List.mem_map]
  obtain ⟨s, e⟩ := x
  rcases around_ends h with h0 | h0 <;> simp only at h0 <;> subst h0
  · exact .inl ⟨y, h, rfl⟩
  · exact .inr ⟨y, h, rfl⟩
theorem near_to {l : Lay} {s n : Int} (h : n ∈ near l s) : ∃ x y, x.s = s ∧ y.s = n ∧ y ∈ around l x := by
  unfold near nearL at h
  rw [rise_mem, List.mem_append, List.mem_map, List.mem_map] at h
  rcases h with ⟨y, hy, rfl⟩ | ⟨y, hy, rfl⟩
  · exact ⟨_, y, rfl, rfl, hy⟩
  · exact ⟨_, y, rfl, rfl, hy⟩
theorem full_near (d : Draft) {s n : Int} (h : n ∈ near (full d) s) : s ∈ near (full d) n := by
  obtain ⟨x, y, rfl, rfl, h'⟩ := near_to h
  exact near_of (full_back d x y h')

/-! ### Forms -/
def forms : List Int := [0, 4, 8, 12, 16, 20, 1, 2, 3]
theorem form_in (form : Int) : ∃ f ∈ forms, mkEnds form = mkEnds f ∧ mkPts form = mkPts f ∧ ∀ u, (mkXY form u).length = (mkXY f 0).length := by
  have h4 : form % 4 = 0 ∨ form % 4 = 1 ∨ form % 4 = 2 ∨ form % 4 = 3 := by omega
  rcases h4 with h | h | h | h
  · have h6 : form / 4 % 6 = 0 ∨ form / 4 % 6 = 1 ∨ form / 4 % 6 = 2 ∨ form / 4 % 6 = 3 ∨ form / 4 % 6 = 4 ∨ form / 4 % 6 = 5 := by omega
    rcases h6 with k | k | k | k | k | k
    · exact ⟨0, by decide, by simp [mkEnds, h, mkN, k], by simp [mkPts, h], by intro u; simp [mkXY, h, mkN, k]⟩
    · exact ⟨4, by decide, by simp [mkEnds, h, mkN, k], by simp [mkPts, h], by intro u; simp [mkXY, h, mkN, k]⟩
    · exact ⟨8, by decide, by simp [mkEnds, h, mkN, k], by simp [mkPts, h], by intro u; simp [mkXY, h, mkN, k]⟩
    · exact ⟨12, by decide, by simp [mkEnds, h, mkN, k], by simp [mkPts, h], by intro u; simp [mkXY, h, mkN, k]⟩
    · exact ⟨16, by decide, by simp [mkEnds, h, mkN, k], by simp [mkPts, h], by intro u; simp [mkXY, h, mkN, k]⟩
    · exact ⟨20, by decide, by simp [mkEnds, h, mkN, k], by simp [mkPts, h], by intro u; simp [mkXY, h, mkN, k]⟩
  · exact ⟨1, by decide, by simp [mkEnds, h], by simp [mkPts, h], by intro u; simp [mkXY, h]⟩
  · exact ⟨2, by decide, by simp [mkEnds, h], by simp [mkPts, h], by intro u; simp [mkXY, h]⟩
  · exact ⟨3, by decide, by simp [mkEnds, h], by simp [mkPts, h], by intro u; simp [mkXY, h]⟩

/-! ### Each end is at one node -/
def endSum (E : List Ed) (n : Nat) : Nat := ((List.range n).map fun i => (endsG (i : Nat) 0 E).length).sum
theorem endSums : forms.all (fun f => Nat.beq (endSum (mkEnds f) (mkXY f 0).length) (2 * (mkEnds f).length)) = true := by kernel_rfl
theorem full_ends (d : Draft) (n : Int) : ends (full d) n = endsG n 0 (mkEnds d.form) := by
  unfold ends
  rw [make_secs, ends_mk]
theorem mkSecs_len (u : Int) : ∀ (E : List Ed) (j : Nat), (mkSecs u j E).length = E.length
  | [], _ => rfl
  | _ :: E, j => by simp [mkSecs, mkSecs_len u E]
theorem full_secs_len (d : Draft) : (full d).secs.length = (mkEnds d.form).length := by rw [make_secs, mkSecs_len]
theorem full_endSum (d : Draft) : ((List.range (full d).nodes.length).map fun i => (ends (full d) (i : Nat)).length).sum = 2 * (full d).secs.length := by
  obtain ⟨f, hf, h1, _, h3⟩ := form_in d.form
  have h4 := List.all_eq_true.1 endSums f hf
  rw [Nat.beq_eq] at h4
  have hn : (full d).nodes.length = (mkXY f 0).length := by
    show ((mkXY d.form (unitOf d.len)).map fl2).length = _
    rw [List.length_map, h3]
  rw [hn, full_secs_len, h1, ← h4]
  unfold endSum
  simp only [full_ends, h1]

/-! ### Parts -/
def partG (P : List (List Int)) (n : Int) : Int := match P.findIdx? fun p => decide (n ∈ p) with
  | some i => i
  | none => -1
theorem partOf_eq (l : Lay) (n : Int) : partOf l n = partG l.parts n := rfl
def nearG (E : List Ed) (pts : List Pt) (n : Int) : List Int := rise ((aroundG E pts ⟨n, 0⟩).map Ed.s ++ (aroundG E pts ⟨n, 1⟩).map Ed.s)
theorem full_nearG (d : Draft) (n : Int) : near (full d) n = nearG (mkEnds d.form) (mkPts d.form) n := by
  unfold near nearL nearG
  simp only [full_around]
def nearT (f : Int) : List (List Int) := (List.range (mkEnds f).length).map fun s => nearG (mkEnds f) (mkPts f) (s : Nat)
def nearTs : List (Int × List (List Int)) := [(0, [[1], [0, 2], [1]]), (4, [[1], [0, 2], [1, 3], [2]]), (8, [[1], [0, 2], [1, 3], [2, 4], [3]]), (12, [[1], [0, 2], [1, 3], [2, 4], [3, 5], [4]]), (16, [[1], [0, 2], [1, 3], [2, 4], [3, 5], [4, 6], [5]]), (20, [[1], [0, 2], [1, 3], [2, 4], [3, 5], [4, 6], [5, 7], [6]]), (1, [[1, 2], [0], [0]]), (2, [[1], [0, 2, 3], [1, 4], [1, 5], [2, 6], [3, 6], [4, 5, 7], [6]]), (3, [[1], [0, 2, 3], [1, 4], [1, 5], [2], [3]])]
theorem nearTs_ok : nearTs.all (fun x => decide (nearT x.1 = x.2)) = true := by kernel_rfl
theorem nearTs_all : forms = nearTs.map (·.1) := by decide
def besT (T P : List (List Int)) (k : Int) (q : List Int) : List Int := q.flatMap fun s => ((T[s.toNat]?.getD []).map (partG P)).filter fun x => decide (0 ≤ x) && decide (x ≠ k)
/-- Each section is in just one part; few parts are beside one. -/
def partsOk (T P : List (List Int)) : Bool :=
  ((List.range T.length).all fun s => (fun k : Int => decide (0 ≤ k) && decide (k.toNat < P.length) && decide ((s : Int) ∈ P[k.toNat]?.getD [])) (partG P s)) &&
  ((List.range P.length).all fun k => (P[k]?.getD []).all fun s => decide (partG P s = k) && decide (0 ≤ s) && decide (s.toNat < T.length)) &&
  (List.range P.length).all fun k => Nat.ble (besT T P k (P[k]?.getD [])).length 12
def joinsOk (n : Nat) : Bool := nearTs.all fun x => (List.range n).all fun j => partsOk x.2 (mkParts j 0 x.2.length [])
set_option maxRecDepth 100000 in
theorem joinsOk_256 : joinsOk 256 = true := by kernel_rfl
end Go.Zc
