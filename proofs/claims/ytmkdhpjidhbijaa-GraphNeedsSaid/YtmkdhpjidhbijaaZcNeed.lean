/- Where all points stand as a path needs, one comes through it: all ways of the nine tracks, by the kernel. No condition. -/
import Derived.Test.YtmkdhpjidhbijaaZcPath
set_option linter.all false
namespace Go.Zc

/-! ### Ends alone -/
def ptG (pts : List Pt) (n : Int) : Option Nat := pts.findIdx? fun p => p.node == n
def needAtG (pts : List Pt) (n s t : Int) : List Nd := match ptG pts n with
  | none => []
  | some i => match pts[i]? with
    | none => []
    | some p => [⟨i, decide (p.right = if p.stem = t then s else t)⟩]
def needOfG (E : List Ed) (pts : List Pt) (x : Ed) (t : Int) : List Nd := match nodeG E x with
  | none => []
  | some n => needAtG pts n x.s t
def nwaysG (E : List Ed) (pts : List Pt) : Ed → List Int → Option (List Nd)
  | _, [] => some []
  | x, s :: r => match (aroundG E pts x).find? fun y => decide (y.s = s) with
    | none => none
    | some y => (nwaysG E pts ⟨s, 1 - y.e⟩ r).map (needOfG E pts x s ++ ·)
def npathG (E : List Ed) (pts : List Pt) (p : List Int) : Option (List Nd) :=
  if p.length < 2 ∨ ¬ p.Nodup then none else
  match p with
  | [] => none
  | a :: r => match nwaysG E pts ⟨a, 0⟩ r with
    | some n => some n
    | none => nwaysG E pts ⟨a, 1⟩ r
def nextAtG (pts : List Pt) (n : Int) (x : Ed) (right : List Bool) (ys : List Ed) : Option Ed := match ys with
  | [] => none
  | y :: _ => match ptG pts n with
    | none => some y
    | some i => match pts[i]? with
      | none => none
      | some p =>
        let leg := if stand right i then p.right else p.left
        if x.s = p.stem then ys.find? fun y => decide (y.s = leg) else if x.s = leg then some y else none
def nextG (E : List Ed) (pts : List Pt) (x : Ed) (right : List Bool) : Option Ed := match nodeG E x with
  | none => none
  | some n => nextAtG pts n x right (aroundG E pts x)

theorem full_node (d : Draft) (x : Ed) : nodeOf (full d) x = nodeG (mkEnds d.form) x := by
  unfold nodeOf nodeG
  rw [make_secs]
  split
  · rw [mkSecs_get]
    cases (mkEnds d.form)[x.s.toNat]? <;> rfl
  · rfl
theorem full_needAt (d : Draft) (n s t : Int) : needAt (full d) n s t = needAtG (mkPts d.form) n s t := rfl
theorem full_needOf (d : Draft) (x : Ed) (t : Int) : needOf (full d) x t = needOfG (mkEnds d.form) (mkPts d.form) x t := by
  unfold needOf needOfG
  rw [full_node]
  rfl
theorem full_nways (d : Draft) : ∀ (r : List Int) (x : Ed), nways (full d) x r = nwaysG (mkEnds d.form) (mkPts d.form) x r
  | [], _ => rfl
  | s :: r, x => by
    simp only [nways, nwaysG, full_around, full_needOf]
    cases (aroundG (mkEnds d.form) (mkPts d.form) x).find? (fun y => decide (y.s = s)) with
    | none => rfl
    | some y => simp only [full_nways d r]
theorem full_npath (d : Draft) (p : List Int) : npath (full d) p = npathG (mkEnds d.form) (mkPts d.form) p := by
  unfold npath npathG
  cases p with
  | nil => rfl
  | cons a r =>
    simp only [full_nways]
    rfl
theorem full_next (d : Draft) (x : Ed) (right : List Bool) : next (full d) x right = nextG (mkEnds d.form) (mkPts d.form) x right := by
  unfold next nextG
  rw [full_node, full_around]
  cases nodeG (mkEnds d.form) x <;> rfl

/-! ### All ways -/
def allW (E : List Ed) (pts : List Pt) : Nat → List Int → Ed → List (List Int)
  | 0, out, _ => [out]
  | n + 1, out, x => match aroundG E pts x with
    | [] => [out]
    | y :: ys => (y :: ys).flatMap fun y => if y.s ∈ out then [out] else allW E pts n (out ++ [y.s]) ⟨y.s, 1 - y.e⟩
theorem walk_all (d : Draft) (turns : List Int) : ∀ (n i : Nat) (out : List Int) (x : Ed), walkFrom (full d) turns n i out x ∈ allW (mkEnds d.form) (mkPts d.form) n out x
  | 0, _, _, _ => by simp [walkFrom, allW]
  | n + 1, i, out, x => by
    simp only [walkFrom, allW, full_around]
    cases ha : aroundG (mkEnds d.form) (mkPts d.form) x with
    | nil => simp
    | cons y ys =>
      have ht : turn turns i (y :: ys).length < (y :: ys).length := by
        unfold turn
        split
        · exact Nat.mod_lt _ (by simp)
        · simp
      rw [List.getElem?_eq_getElem ht]
      refine List.mem_flatMap.2 ⟨_, List.getElem_mem ht, ?_⟩
      dsimp only
      split
      · simp
      · exact walk_all d turns n (i + 1) _ _

/-! ### Points as they are needed -/
def setN : List Bool → List Nd → List Bool
  | r, [] => r
  | r, n :: l => setN (r.set n.p.toNat n.r) l
def goes (nx : Ed → Option Ed) : Ed → List Int → Bool
  | _, [] => true
  | e, s :: t => match nx e with
    | none => false
    | some x => decide (x.s = s) && goes nx ⟨x.s, 1 - x.e⟩ t
def needsOk (E : List Ed) (pts : List Pt) (e : Ed) (p : List Int) : Bool :=
  ((npathG E pts p).getD []).all (fun n => decide (0 ≤ n.p) && decide (n.p < pts.length)) && goes (fun x => nextG E pts x (setN (List.replicate pts.length false) ((npathG E pts p).getD []))) e p.tail
def needsAll (E : List Ed) (pts : List Pt) : Bool := allEnds E fun x => (allW E pts 11 [x.s] x).all (needsOk E pts x)
theorem needs_all : shapes.all (fun S => needsAll S.1 S.2) = true := by kernel_rfl
theorem goes_congr {f g : Ed → Option Ed} (h : ∀ x, f x = g x) : ∀ (t : List Int) (e : Ed), goes f e t = goes g e t
  | [], _ => rfl
  | s :: t, e => by
    simp only [goes, h]
    cases g e with
    | none => rfl
    | some x => simp only [goes_congr h t]
theorem full_needs (d : Draft) (s : Int) (h0 : 0 ≤ s) (h1 : s < (full d).secs.length) (e : Int) (he : e = 0 ∨ e = 1) (turns : List Int) :
    (∀ n ∈ (npath (full d) (walk (full d) s e turns 12)).getD [], 0 ≤ n.p ∧ n.p < (full d).pts.length) ∧
    ∃ t, walk (full d) s e turns 12 = s :: t ∧ goes (fun x => next (full d) x (setN (List.replicate (full d).pts.length false) ((npath (full d) (walk (full d) s e turns 12)).getD []))) ⟨s, e⟩ t = true := by
  have a1 := List.all_eq_true.1 needs_all _ (shape_mem d.form)
  have hx : nodeG (mkEnds d.form) ⟨s, e⟩ ≠ none := by
    rw [full_secs_len] at h1
    obtain ⟨n, rfl⟩ := Int.eq_ofNat_of_zero_le h0
    have hn : n < (mkEnds d.form).length := by omega
    unfold nodeG
    simp only [Int.natCast_nonneg, if_true, Int.toNat_natCast, List.getElem?_eq_getElem hn, Option.bind_some]
    rcases he with rfl | rfl <;> simp
  have a2 := List.all_eq_true.1 (allEnds_of a1 hx) _ (walk_all d turns 11 0 [s] ⟨s, e⟩)
  obtain ⟨t, ht⟩ := walk_head (full d) s e turns 12
  have a3 : walkFrom (full d) turns 11 0 [s] ⟨s, e⟩ = walk (full d) s e turns 12 := rfl
  rw [a3] at a2
  unfold needsOk at a2
  rw [Bool.and_eq_true, List.all_eq_true] at a2
  rw [full_npath, make_pts]
  refine ⟨fun n hn => ?_, t, ht, ?_⟩
  · have := a2.1 n hn
    simpa using this
  · rw [goes_congr (fun x => full_next d x _)]
    have := a2.2
    rw [ht, List.tail_cons] at this
    rw [ht]
    exact this
theorem setN_len : ∀ (l : List Nd) (r : List Bool), (setN r l).length = r.length
  | [], _ => rfl
  | n :: l, r => by simp only [setN, setN_len l, List.length_set]
end Go.Zc
