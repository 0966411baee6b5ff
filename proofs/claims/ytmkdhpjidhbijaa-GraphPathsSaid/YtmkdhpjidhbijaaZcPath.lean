/- Paths through a track: what they need; what is next. No condition. -/
import Derived.Test.YtmkdhpjidhbijaaZcForm
set_option linter.all false
namespace Go.Zc

structure Nd where
  p : Int
  r : Bool
  deriving DecidableEq
def fN (x : Nd) : List CV := [.int .i64 x.p, .bool x.r]
theorem flatN : Flat fN 2 := ⟨fun _ => rfl, by decide, fun _ => rfl, fun _ => rfl, fun _ => rfl⟩

/-- How the point at an end must stand for a section. -/
def needAt (l : Lay) (n s t : Int) : List Nd := match ptOf l n with
  | none => []
  | some i => match l.pts[i]? with
    | none => []
    | some p => [⟨i, decide (p.right = if p.stem = t then s else t)⟩]
def needOf (l : Lay) (x : Ed) (t : Int) : List Nd := match nodeOf l x with
  | none => []
  | some n => needAt l n x.s t
def nways (l : Lay) : Ed → List Int → Option (List Nd)
  | _, [] => some []
  | x, s :: r => match (around l x).find? fun y => decide (y.s = s) with
    | none => none
    | some y => (nways l ⟨s, 1 - y.e⟩ r).map (needOf l x s ++ ·)
def npath (l : Lay) (p : List Int) : Option (List Nd) :=
  if p.length < 2 ∨ ¬ p.Nodup then none else
  match p with
  | [] => none
  | a :: r => match nways l ⟨a, 0⟩ r with
    | some n => some n
    | none => nways l ⟨a, 1⟩ r

/-- What is next, as the points stand. -/
def stand (right : List Bool) (i : Nat) : Bool := match right[i]? with
  | some b => b
  | none => false
def nextAt (l : Lay) (n : Int) (x : Ed) (right : List Bool) (ys : List Ed) : Option Ed := match ys with
  | [] => none
  | y :: _ => match ptOf l n with
    | none => some y
    | some i => match l.pts[i]? with
      | none => none
      | some p =>
        let leg := if stand right i then p.right else p.left
        if x.s = p.stem then ys.find? fun y => decide (y.s = leg) else if x.s = leg then some y else none
def next (l : Lay) (x : Ed) (right : List Bool) : Option Ed := match nodeOf l x with
  | none => none
  | some n => nextAt l n x right (around l x)
def edC : Option Ed → List CV
  | some x => fE x
  | none => fE ⟨0, 0⟩

theorem next_mem {l : Lay} {x y : Ed} {right : List Bool} (h : next l x right = some y) : y ∈ around l x := by
  unfold next at h
  cases hn : nodeOf l x with
  | none => simp [hn] at h
  | some n =>
    simp only [hn] at h
    unfold nextAt at h
    cases ha : around l x with
    | nil => simp [ha] at h
    | cons z zs =>
      simp only [ha] at h
      cases hp : ptOf l n with
      | none => simp only [hp, Option.some.injEq] at h; subst h; simp
      | some i =>
        simp only [hp] at h
        cases hq : l.pts[i]? with
        | none => simp [hq] at h
        | some q =>
          simp only [hq] at h
          generalize (if stand right i = true then q.right else q.left) = leg at h
          by_cases h1 : x.s = q.stem
          · simp only [h1, if_true] at h
            exact List.mem_of_find?_eq_some h
          · simp only [h1, if_false] at h
            by_cases h2 : x.s = leg
            · simp only [h2, if_true, Option.some.injEq] at h
              subst h; simp
            · simp only [h2, if_false] at h
              cases h

/-! ### Ways are ways -/
theorem full_lens' (d : Draft) (hok : (full d).ok) (x y : Ed) (h : y ∈ around (full d) x) : lenAt (full d) y.s ≠ 0 := by
  have := around_in h
  have := ((full_good d hok).lenAt this.1.1 this.1.2).1
  omega
theorem walk_nways (d : Draft) (hok : (full d).ok) (s e : Int) (turns : List Int) (m : Int) :
    ∃ t, walk (full d) s e turns m = s :: t ∧ (s :: t).Nodup ∧ (nways (full d) ⟨s, e⟩ t).isSome = true := by
  obtain ⟨t, e1, e2, _, e4⟩ := walk_follows (full_apart d) (full_lens' d hok) turns (m - 1).toNat 0 [s] ⟨s, e⟩ (by simp)
  refine ⟨t, e1, e2, ?_⟩
  refine e4 (fun x l => (nways (full d) x l).isSome) (fun _ => rfl) fun x s r => ?_
  simp only [nways]
  have : (fun y : Ed => y.s == s) = fun y => decide (y.s = s) := by funext y; by_cases h : y.s = s <;> simp [h]
  rw [this]
  cases (around (full d) x).find? (fun y => decide (y.s = s)) with
  | none => rfl
  | some y => simp
theorem npath_walk (d : Draft) (hok : (full d).ok) (s e : Int) (he : e = 0 ∨ e = 1) (turns : List Int) (m : Int) :
    (npath (full d) (walk (full d) s e turns m)).isSome = decide (1 < (walk (full d) s e turns m).length) := by
  obtain ⟨t, h1, h2, h3⟩ := walk_nways d hok s e turns m
  rw [h1]
  unfold npath
  by_cases hl : (s :: t).length < 2
  · have : ¬ (1 < (s :: t).length) := by omega
    simp only [hl, this, true_or, if_true, decide_false, Option.isSome_none]
  · have : 1 < (s :: t).length := by omega
    simp only [hl, h2, not_true_eq_false, or_self, if_false, this, decide_true]
    rcases he with rfl | rfl
    · cases hn : nways (full d) ⟨s, 0⟩ t with
      | none => rw [hn] at h3; cases h3
      | some x => rfl
    · cases hn : nways (full d) ⟨s, 0⟩ t with
      | none => exact h3
      | some x => rfl
end Go.Zc
