/- The tracks of drafts: what is around an end; ways are ways. No condition. -/
import Derived.Test.YtfblegjbmhgepaaZcLay
set_option linter.all false
namespace Go.Zc

/-! ### Ends alone tell what is around -/
def endsG (at' : Int) : Nat → List Ed → List Ed
  | _, [] => []
  | i, s :: r => (if s.s = at' then [⟨i, 0⟩] else []) ++ (if s.e = at' then [⟨i, 1⟩] else []) ++ endsG at' (i + 1) r
def nodeG (E : List Ed) (x : Ed) : Option Int := (if 0 ≤ x.s then E[x.s.toNat]? else none).bind fun s => if x.e = 0 then some s.s else if x.e = 1 then some s.e else none
def oneG (E : List Ed) (sec at' : Int) : List Ed := match (endsG at' 0 E).find? fun x => x.s == sec with
  | some x => [x]
  | none => []
def aroundG (E : List Ed) (pts : List Pt) (x : Ed) : List Ed :=
  match nodeG E x with
  | none => []
  | some n =>
    match pts.find? fun p => p.node == n with
    | some p => if x.s = p.stem then oneG E p.left n ++ oneG E p.right n else if x.s = p.left ∨ x.s = p.right then oneG E p.stem n else []
    | none => if ((endsG n 0 E).filter fun y => y ≠ x).length = 1 then (endsG n 0 E).filter fun y => y ≠ x else []

theorem ends_mk (u at' : Int) : ∀ (i j : Nat) (E : List Ed), endsFrom at' i (mkSecs u j E) = endsG at' i E
  | _, _, [] => rfl
  | i, j, x :: E => by simp only [mkSecs, endsFrom, endsG, ends_mk u at' (i + 1) (j + 1) E]
theorem mkSecs_get (u : Int) : ∀ (E : List Ed) (j n : Nat), (mkSecs u j E)[n]? = E[n]?.map fun x => ⟨2 * u + ((j + n) % 3 : Nat), x.s, x.e⟩
  | [], _, _ => by simp [mkSecs]
  | x :: E, j, 0 => by simp [mkSecs]
  | x :: E, j, n + 1 => by
    simp only [mkSecs, List.getElem?_cons_succ, mkSecs_get u E (j + 1) n]
    rw [show j + 1 + n = j + (n + 1) by omega]
theorem around_mk (l : Lay) (u : Int) (E : List Ed) (h : l.secs = mkSecs u 0 E) (x : Ed) : around l x = aroundG E l.pts x := by
  have hn : nodeOf l x = nodeG E x := by
    unfold nodeOf nodeG
    rw [h]
    split
    · rw [mkSecs_get]
      cases E[x.s.toNat]? <;> rfl
    · rfl
  have he : ∀ n, ends l n = endsG n 0 E := fun n => by unfold ends; rw [h, ends_mk]
  have ho : ∀ s n, oneOf l s n = oneG E s n := fun s n => by unfold oneOf oneG; rw [he]; cases (endsG n 0 E).find? (fun x => x.s == s) <;> rfl
  unfold around aroundG
  rw [hn]
  simp only [he, ho]
  cases nodeG E x with
  | none => rfl
  | some n =>
    dsimp only
    cases l.pts.find? (fun p => p.node == n) <;> rfl

/-! ### The nine tracks -/
def shapes : List (List Ed × List Pt) := [0, 4, 8, 12, 16, 20, 1, 2, 3].map fun f => (mkEnds f, mkPts f)
theorem shape_mem (form : Int) : (mkEnds form, mkPts form) ∈ shapes := by
  have h4 : form % 4 = 0 ∨ form % 4 = 1 ∨ form % 4 = 2 ∨ form % 4 = 3 := by omega
  rcases h4 with h | h | h | h
  · have h6 : form / 4 % 6 = 0 ∨ form / 4 % 6 = 1 ∨ form / 4 % 6 = 2 ∨ form / 4 % 6 = 3 ∨ form / 4 % 6 = 4 ∨ form / 4 % 6 = 5 := by omega
    have hp : mkPts form = mkPts 0 := by simp [mkPts, h]
    have he : ∀ k : Int, form / 4 % 6 = k → mkEnds form = (List.range (3 + k.toNat)).map fun (i : Nat) => (⟨(i : Int), ((i + 1 : Nat) : Int)⟩ : Ed) := by
      intro k hk; simp [mkEnds, h, mkN, hk]
    rcases h6 with k | k | k | k | k | k <;> (rw [he _ k, hp]; decide)
  · have : mkEnds form = mkEnds 1 ∧ mkPts form = mkPts 1 := by simp [mkEnds, mkPts, h]
    rw [this.1, this.2]; decide
  · have : mkEnds form = mkEnds 2 ∧ mkPts form = mkPts 2 := by simp [mkEnds, mkPts, h]
    rw [this.1, this.2]; decide
  · have : mkEnds form = mkEnds 3 ∧ mkPts form = mkPts 3 := by simp [mkEnds, mkPts, h]
    rw [this.1, this.2]; decide

/-- Of all ends that there are. -/
def allEnds (E : List Ed) (p : Ed → Bool) : Bool := (List.range E.length).all fun s => p ⟨s, 0⟩ && p ⟨s, 1⟩
theorem allEnds_of {E : List Ed} {p : Ed → Bool} (h : allEnds E p = true) {x : Ed} (hx : nodeG E x ≠ none) : p x = true := by
  obtain ⟨s, e⟩ := x
  unfold nodeG at hx
  simp only at hx
  split at hx
  · rename_i h0
    obtain ⟨n, rfl⟩ := Int.eq_ofNat_of_zero_le h0
    simp only [Int.toNat_natCast] at hx
    by_cases hn : n < E.length
    · have := List.all_eq_true.1 h n (List.mem_range.2 hn)
      rw [Bool.and_eq_true] at this
      rw [List.getElem?_eq_getElem hn] at hx
      simp only [Option.bind_some] at hx
      by_cases h1 : e = 0
      · subst h1; exact this.1
      · by_cases h2 : e = 1
        · subst h2; exact this.2
        · simp [h1, h2] at hx
    · simp [List.getElem?_eq_none (Nat.le_of_not_lt hn)] at hx
  · simp at hx

/-- No section stands twice around an end. -/
def apart (E : List Ed) (pts : List Pt) : Bool := allEnds E fun x => (aroundG E pts x).all fun y => decide ((aroundG E pts x).find? (fun z => z.s == y.s) = some y)
theorem apart_all : shapes.all (fun S => apart S.1 S.2) = true := by kernel_rfl
theorem make_secs (d : Draft) : (full d).secs = mkSecs (unitOf d.len) 0 (mkEnds d.form) := rfl
theorem make_pts (d : Draft) : (full d).pts = mkPts d.form := rfl
theorem full_around (d : Draft) (x : Ed) : around (full d) x = aroundG (mkEnds d.form) (mkPts d.form) x := around_mk _ _ _ (make_secs d) x
theorem full_apart (d : Draft) (x y : Ed) (h : y ∈ around (full d) x) : (around (full d) x).find? (fun z => z.s == y.s) = some y := by
  rw [full_around] at h ⊢
  have h1 := List.all_eq_true.1 apart_all _ (shape_mem d.form)
  have hx : nodeG (mkEnds d.form) x ≠ none := by
    intro h0
    simp [aroundG, h0] at h
  have h2 := allEnds_of h1 hx
  have h3 := List.all_eq_true.1 h2 y h
  exact of_decide_eq_true h3

/-! ### A way is one -/
theorem walk_follows {l : Lay} (hap : ∀ x y, y ∈ around l x → (around l x).find? (fun z => z.s == y.s) = some y) (hin : ∀ x y, y ∈ around l x → lenAt l y.s ≠ 0) (turns : List Int) : ∀ (n i : Nat) (out : List Int) (x : Ed), out.Nodup →
    ∃ t, walkFrom l turns n i out x = out ++ t ∧ (out ++ t).Nodup ∧ (∀ s ∈ t, lenAt l s ≠ 0) ∧
      ∀ F : Ed → List Int → Bool, (∀ e, F e [] = true) → (∀ e s r, F e (s :: r) = match (around l e).find? fun x => x.s == s with | some y => F ⟨s, 1 - y.e⟩ r | none => false) → F x t = true
  | 0, _, out, x, h => ⟨[], by simp [walkFrom], by simpa using h, by simp, fun F h1 _ => h1 x⟩
  | n + 1, i, out, x, h => by
    simp only [walkFrom]
    cases hy : (around l x)[turn turns i (around l x).length]? with
    | none => exact ⟨[], by simp, by simpa using h, by simp, fun F h1 _ => h1 x⟩
    | some y =>
      have hm := List.mem_of_getElem? hy
      dsimp only
      split
      · exact ⟨[], by simp, by simpa using h, by simp, fun F h1 _ => h1 x⟩
      · rename_i hno
        obtain ⟨t, h1, h2, h3, h4⟩ := walk_follows hap hin turns n (i + 1) (out ++ [y.s]) ⟨y.s, 1 - y.e⟩ (by
          rw [List.nodup_append]
          refine ⟨h, by simp, fun a ha b hb => ?_⟩
          simp only [List.mem_singleton] at hb
          subst hb
          intro e
          exact hno (e ▸ ha))
        refine ⟨y.s :: t, by rw [h1]; simp, by simpa using h2, fun s hs => ?_, fun F f1 f2 => ?_⟩
        · rcases List.mem_cons.1 hs with rfl | hs
          · exact hin x y hm
          · exact h3 s hs
        · rw [f2, hap x y hm]
          exact h4 F f1 f2
theorem full_good (d : Draft) (hok : (full d).ok) : (full d).good := by
  refine ⟨hok, ?_, fun s hs => ?_⟩
  · rw [make_secs]
    have h1 := mkSecs_get (unitOf d.len) (mkEnds d.form) 0 0
    have hne : ∃ x, (mkEnds d.form)[0]? = some x := by
      have : 0 < (mkEnds d.form).length := by
        unfold mkEnds
        split
        · simp [mkN]; omega
        · split
          · simp
          · split <;> simp
      exact ⟨_, List.getElem?_eq_getElem this⟩
    obtain ⟨x, hx⟩ := hne
    rw [hx] at h1
    exact (List.getElem?_eq_some_iff.1 h1).1
  · rw [make_secs] at hs
    obtain ⟨n, hn, rfl⟩ := List.mem_iff_getElem.1 hs
    have h1 := mkSecs_get (unitOf d.len) (mkEnds d.form) 0 n
    rw [List.getElem?_eq_getElem hn] at h1
    cases hE : (mkEnds d.form)[n]? with
    | none => rw [hE] at h1; cases h1
    | some x =>
      rw [hE] at h1
      simp only [Option.map_some, Option.some.injEq] at h1
      rw [h1]
      have hu : unitOf d.len = 10 * (1 + d.len % 20) := rfl
      simp only
      omega
end Go.Zc
