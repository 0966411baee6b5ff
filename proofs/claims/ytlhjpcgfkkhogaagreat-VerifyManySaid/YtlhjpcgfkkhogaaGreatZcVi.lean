/- Walks: the reference's rules of points, parts, routes. No condition. -/
import Derived.Test.YtlhjpcgfkkhogaaGreatZcM
import Derived.Test.YtlhjpcgfkkhogaaGreatZcVa
import Derived.Test.YtlhjpcgfkkhogaaGreatZcSet
import Derived.Test.YtlhjpcgfkkhogaaGreatZcT
set_option linter.all false
section
namespace Go.Proofs.YtlhjpcgfkkhogaaGreat.Zt
open Go Go.Zc
set_option maxRecDepth 10000

/-! ### Points at a node -/
theorem rpoints_loop (l : Lay) (n : Int) (hm : l.pts.length ≤ 1000) : ∀ (s pre : List Pt) (k : Nat), pre ++ s = l.pts → k ≤ pre.length →
    r06_holds_R5 ([(2, .int .i64 n), (3, .op (.loc 3) 0), (14, .int .i64 k), (15, .int .i64 pre.length)], ⟨[(3, layC l)], []⟩) =
      some (.norm, [(2, .int .i64 n), (3, .op (.loc 3) 0), (14, .int .i64 ((k + cntP n s : Nat) : Int))], ⟨[(3, layC l)], []⟩)
  | [], pre, k, hp, hk => by
    have h1 : ¬ ((pre.length : Int) < l.pts.length) := by rw [← hp]; simp
    rw [r06_holds_R5_eq]
    simp only [r06_holds_B5, r06_holds_K5_a, h1, cntP, List.countP_nil, Nat.add_zero, zy, simprocAttr]
  | x :: s, pre, k, hp, hk => by
    have hpl : pre.length + 1 + s.length = l.pts.length := by rw [← hp]; simp; omega
    have h1 : ((pre.length : Int) < l.pts.length) := by omega
    have hwr := wrapN (n := pre.length) (by unfold Zc.small; omega)
    have hwk := wrapN (n := k) (by unfold Zc.small; omega)
    have hia : iaddrC 4 (sl fP l.pts) (.int .i64 pre.length) = some (.vp (.int .i64 x.node :: .int .i64 x.stem :: .int .i64 x.left :: .int .i64 x.right :: s.flatMap fP)) := by rw [← hp]; exact iaddr_midP .i64 pre s x
    rw [r06_holds_R5_eq]
    by_cases hx : x.node = n
    · have ih := rpoints_loop l n hm s (pre ++ [x]) (k + 1) (by simpa using hp) (by simp; omega)
      rw [show (pre ++ [x]).length = pre.length + 1 by simp] at ih
      have hc : cntP n (x :: s) = cntP n s + 1 := by simp [cntP, List.countP_cons, hx]
      have he : k + cntP n (x :: s) = k + 1 + cntP n s := by omega
      rw [he]
      simp only [r06_holds_B5, r06_holds_K5_a, h1, hia, eq_true hx, hwr, hwk, ih, zy, simprocAttr]
    · have ih := rpoints_loop l n hm s (pre ++ [x]) k (by simpa using hp) (by simp; omega)
      rw [show (pre ++ [x]).length = pre.length + 1 by simp] at ih
      have hc : cntP n (x :: s) = cntP n s := by simp [cntP, List.countP_cons, hx]
      rw [hc]
      simp only [r06_holds_B5, r06_holds_K5_a, h1, hia, eq_false hx, hwr, hwk, ih, zy, simprocAttr]
theorem holds11 (l : Lay) (hl : l.ok) (hp : l.pts.length ≤ 1000) (n : Int) (st : Bool) (H : Heap) : r06_holds_F st H [.agg (layC l), .int .i64 11, .int .i64 n] = some (.bool (pointsB l n), H) := by
  have e := rpoints_loop l n hp l.pts [] 0 rfl (by simp)
  simp only [List.nil_append, List.length_nil, Int.natCast_zero, Nat.zero_add, List.length_nil] at e
  have he := fun st H => ends_F l hl n st H
  have d3 := deq (ends l n).length 3 3 rfl
  have d1 := deq (cntP n l.pts) 1 1 rfl
  have d0 := deq (cntP n l.pts) 0 0 rfl
  unfold pointsB
  rw [r06_holds_F_eq]
  by_cases h3 : (ends l n).length = 3
  · have h3' : (((ends l n).length : Int) = 3) := by omega
    rw [if_pos h3]
    cases hA : decide (cntP n l.pts = 1) with
    | true =>
      rw [hA] at d1
      simp only [r06_holds_C, r06_holds_L5_eq, e, r05_Ends_call, he, ne_eq, eq_true h3', d1, not_true_eq_false, zy, simprocAttr]
    | false =>
      rw [hA] at d1
      simp only [r06_holds_C, r06_holds_L5_eq, e, r05_Ends_call, he, ne_eq, eq_true h3', d1, not_true_eq_false, zy, simprocAttr]
  · have h3' : ¬ (((ends l n).length : Int) = 3) := by omega
    rw [if_neg h3]
    simp only [r06_holds_C, r06_holds_L5_eq, e, r05_Ends_call, he, ne_eq, eq_false h3', d0, not_false_eq_true, zy, simprocAttr]

/-! ### In just one part -/
theorem ronce_in (l : Lay) (n : Int) (j : Nat) (ps : List Int) (hj : iaddrC 1 (sl fL l.parts) (.int .i64 j) = some (.vp (sl fI ps :: (l.parts.drop (j + 1)).flatMap fL))) (hm : ps.length ≤ Zc.small) : ∀ (s pre : List Int) (k : Nat), pre ++ s = ps → k ≤ 4000000000000000000 + pre.length →
    r06_holds_R9 ([(2, .int .i64 n), (3, .op (.loc 3) 0), (18, .int .i64 k), (19, .int .i64 j), (20, .int .i64 pre.length)], ⟨[(3, layC l)], []⟩) =
      some (.norm, [(2, .int .i64 n), (3, .op (.loc 3) 0), (18, .int .i64 ((k + s.countP (fun s => decide (s = n)) : Nat) : Int)), (19, .int .i64 j)], ⟨[(3, layC l)], []⟩)
  | [], pre, k, hp, hk => by
    have h1 : ¬ ((pre.length : Int) < ps.length) := by rw [← hp]; simp
    rw [r06_holds_R9_eq]
    simp only [r06_holds_B9, r06_holds_K9_a, hj, h1, List.countP_nil, Nat.add_zero, zy, simprocAttr]
  | x :: s, pre, k, hp, hk => by
    have hpl : pre.length + 1 + s.length = ps.length := by rw [← hp]; simp; omega
    have h1 : ((pre.length : Int) < ps.length) := by omega
    have hwr := wrapN (n := pre.length) (by omega)
    have hwk : IntKind.i64.wrap ((k : Int) + 1) = ((k + 1 : Nat) : Int) := by unfold Zc.small at hm; rw [wrap64 (by omega) (by omega)]; omega
    have hia : iaddrC 1 (sl fI ps) (.int .i64 pre.length) = some (.vp (.int .i64 x :: s.flatMap fI)) := by rw [← hp]; exact iaddr_midI .i64 pre s x
    rw [r06_holds_R9_eq]
    by_cases hx : x = n
    · have ih := ronce_in l n j ps hj hm s (pre ++ [x]) (k + 1) (by simpa using hp) (by simp; omega)
      rw [show (pre ++ [x]).length = pre.length + 1 by simp] at ih
      have he : k + (x :: s).countP (fun s => decide (s = n)) = k + 1 + s.countP (fun s => decide (s = n)) := by simp [List.countP_cons, hx]; omega
      rw [he]
      simp only [r06_holds_B9, r06_holds_K9_a, hj, h1, hia, eq_true hx, hwr, hwk, zy, simprocAttr]
      subst hx
      exact ih
    · have ih := ronce_in l n j ps hj hm s (pre ++ [x]) k (by simpa using hp) (by simp; omega)
      rw [show (pre ++ [x]).length = pre.length + 1 by simp] at ih
      have he : k + (x :: s).countP (fun s => decide (s = n)) = k + s.countP (fun s => decide (s = n)) := by simp [List.countP_cons, hx]
      rw [he]
      simp only [r06_holds_B9, r06_holds_K9_a, hj, h1, hia, eq_false hx, hwr, ih, zy, simprocAttr]
theorem ronce_out (l : Lay) (n : Int) (hm : l.parts.length ≤ 1000) (hq : ∀ p ∈ l.parts, p.length ≤ Zc.small) : ∀ (s pre : List (List Int)) (k : Nat), pre ++ s = l.parts → k ≤ 1000000000 * pre.length →
    r06_holds_R7 ([(2, .int .i64 n), (3, .op (.loc 3) 0), (18, .int .i64 k), (19, .int .i64 pre.length)], ⟨[(3, layC l)], []⟩) =
      some (.norm, [(18, .int .i64 ((k + cntS n s : Nat) : Int))], ⟨[], []⟩)
  | [], pre, k, hp, hk => by
    have h1 : ¬ ((pre.length : Int) < l.parts.length) := by rw [← hp]; simp
    rw [r06_holds_R7_eq]
    simp only [r06_holds_B7, r06_holds_K7_a, h1, cntS, Nat.add_zero, zy, simprocAttr]
  | x :: s, pre, k, hp, hk => by
    have hpl : pre.length + 1 + s.length = l.parts.length := by rw [← hp]; simp; omega
    have h1 : ((pre.length : Int) < l.parts.length) := by omega
    have hwr := wrapN (n := pre.length) (by unfold Zc.small; omega)
    have hx : x.length ≤ Zc.small := hq x (by rw [← hp]; simp)
    have hc : x.countP (fun s => decide (s = n)) ≤ x.length := List.countP_le_length
    have hd : l.parts.drop (pre.length + 1) = s := by rw [← hp, List.append_cons]; simp
    have hia : iaddrC 1 (sl fL l.parts) (.int .i64 pre.length) = some (.vp (sl fI x :: (l.parts.drop (pre.length + 1)).flatMap fL)) := by rw [hd, ← hp]; exact iaddr_midL .i64 pre s x
    have hin := ronce_in l n pre.length x hia hx x [] k rfl (by simp; omega)
    simp only [List.nil_append, List.length_nil, Int.natCast_zero, Nat.zero_add, List.length_nil] at hin
    have ih := ronce_out l n hm hq s (pre ++ [x]) (k + x.countP (fun s => decide (s = n))) (by simpa using hp) (by unfold Zc.small at hx; simp; omega)
    rw [show (pre ++ [x]).length = pre.length + 1 by simp] at ih
    rw [r06_holds_R7_eq]
    simp only [r06_holds_B7, r06_holds_K7_a, r06_holds_L9_eq, h1, hin, hwr, ih, cntS, Nat.add_assoc, zy, simprocAttr]
theorem holds14 (l : Lay) (hl : l.ok) (hp : l.parts.length ≤ 1000) (n : Int) (st : Bool) (H : Heap) : r06_holds_F st H [.agg (layC l), .int .i64 14, .int .i64 n] = some (.bool (onceB l n), H) := by
  have e := ronce_out l n hp hl.part l.parts [] 0 rfl (by simp)
  simp only [List.nil_append, List.length_nil, Int.natCast_zero, Nat.zero_add, List.length_nil] at e
  have d1 := deq (cntS n l.parts) 1 1 rfl
  unfold onceB
  rw [r06_holds_F_eq]
  simp only [r06_holds_C, r06_holds_L7_eq, e, d1, zy, simprocAttr]

/-! ### Parts, routes -/
theorem rpart_loop (l : Lay) (j : Nat) (ps : List Int) (hj : iaddrC 1 (sl fL l.parts) (.int .i64 j) = some (.vp (sl fI ps :: (l.parts.drop (j + 1)).flatMap fL))) (hm : ps.length ≤ Zc.small) : ∀ (s pre : List Int), pre ++ s = ps →
    r06_part_R0 ([(2, .int .i64 j), (3, .op (.loc 3) 0), (9, .int .i64 pre.length)], ⟨[(3, layC l)], []⟩) =
      if s.any (fun s => !secB l s) = true then some (.ret, [(6, .bool false)], ⟨[(3, layC l)], []⟩) else some (.norm, [(2, .int .i64 j), (3, .op (.loc 3) 0)], ⟨[(3, layC l)], []⟩)
  | [], pre, hp => by
    have h1 : ¬ ((pre.length : Int) < ps.length) := by rw [← hp]; simp
    rw [r06_part_R0_eq]
    simp only [r06_part_B0, r06_part_K0_a, hj, h1, List.any_nil, Bool.false_eq_true, if_false, zy, simprocAttr]
  | x :: s, pre, hp => by
    have hpl : pre.length + 1 + s.length = ps.length := by rw [← hp]; simp; omega
    have h1 : ((pre.length : Int) < ps.length) := by omega
    have hwr := wrapN (n := pre.length) (by omega)
    have hia : iaddrC 1 (sl fI ps) (.int .i64 pre.length) = some (.vp (.int .i64 x :: s.flatMap fI)) := by rw [← hp]; exact iaddr_midI .i64 pre s x
    have ih := rpart_loop l j ps hj hm s (pre ++ [x]) (by simpa using hp)
    rw [show (pre ++ [x]).length = pre.length + 1 by simp] at ih
    rw [r06_part_R0_eq]
    by_cases h2 : x < 0
    · have hb : secB l x = false := by simp [secB, show ¬ 0 ≤ x by omega]
      simp only [r06_part_B0, r06_part_K0_a, hj, h1, hia, h2, hb, List.any_cons, Bool.not_false, Bool.true_or, if_true, zy, simprocAttr]
    · by_cases h3 : (l.secs.length : Int) ≤ x
      · have hb : secB l x = false := by simp [secB, show ¬ x < (l.secs.length : Int) by omega]
        simp only [r06_part_B0, r06_part_K0_a, hj, h1, hia, h2, h3, hb, ge_iff_le, List.any_cons, Bool.not_false, Bool.true_or, if_true, zy, simprocAttr]
      · have hb : secB l x = true := by simp [secB, show 0 ≤ x by omega, show x < (l.secs.length : Int) by omega]
        simp only [r06_part_B0, r06_part_K0_a, hj, h1, hia, h2, h3, hb, ge_iff_le, List.any_cons, Bool.not_true, Bool.false_or, hwr, ih, zy, simprocAttr]
theorem rpart13 (l : Lay) (hl : l.ok) (i : Nat) (hi : i < l.parts.length) (st : Bool) (H : Heap) : r06_part_F st H [.agg (layC l), .int .i64 13, .int .i64 i] = some (.bool (partB l l.parts[i]), H) := by
  have hia := iaddr_atL (k := .i64) hi
  have hm := hl.part _ (List.getElem_mem hi)
  have e := rpart_loop l i l.parts[i] hia hm l.parts[i] [] rfl
  simp only [List.nil_append, List.length_nil, Int.natCast_zero, Nat.zero_add, List.length_nil] at e
  unfold partB
  rw [r06_part_F_eq]
  cases hA : l.parts[i].any fun s => !secB l s with
  | true =>
    have e' := e.trans (if_pos hA)
    simp only [r06_part_C, r06_part_L0_eq, e', Bool.not_true, Bool.and_false, zy, simprocAttr]
  | false =>
    have e' := e.trans (if_neg (by rw [hA]; exact Bool.false_ne_true))
    by_cases h0 : 0 < l.parts[i].length
    · have h0' : (0 : Int) < l.parts[i].length := by omega
      simp only [r06_part_C, r06_part_L0_eq, e', hia, gt_iff_lt, h0, h0', decide_true, Bool.not_false, Bool.and_true, zy, simprocAttr]
    · have h0' : ¬ (0 : Int) < l.parts[i].length := by omega
      simp only [r06_part_C, r06_part_L0_eq, e', hia, gt_iff_lt, h0, h0', decide_false, Bool.not_false, Bool.and_true, zy, simprocAttr]
theorem rpart15 (l : Lay) (hl : l.ok) (i : Nat) (hi : i < l.routes.length) (st : Bool) (H : Heap) : r06_part_F st H [.agg (layC l), .int .i64 15, .int .i64 i] = some (.bool (routeB l l.routes[i]), H) := by
  have hia := iaddr_atL (k := .i64) hi
  have hm := hl.route _ (List.getElem_mem hi)
  have hg := fun H => path_F l hl l.routes[i] hm H
  have hd := dle l.routes[i].length 12 12 rfl
  unfold routeB
  rw [r06_part_F_eq]
  cases hA : (npath l l.routes[i]).isSome with
  | true =>
    rw [hA] at hg
    simp only [r06_part_C, hia, r05_Path_call, hg, hd, Bool.true_and, zy, simprocAttr]
  | false =>
    rw [hA] at hg
    simp only [r06_part_C, hia, r05_Path_call, hg, Bool.false_and, zy, simprocAttr]

/-! ### How the track goes on -/
theorem cntP_ptOf (l : Lay) (n : Int) : (ptOf l n).isSome = decide (cntP n l.pts ≠ 0) := by
  unfold ptOf cntP
  have hb : (fun p : Pt => p.node == n) = fun p => decide (p.node = n) := by funext p; by_cases h : p.node = n <;> simp [h]
  rw [hb]
  cases h : l.pts.findIdx? fun p => decide (p.node = n) with
  | none =>
    rw [List.findIdx?_eq_none_iff] at h
    have : l.pts.countP (fun p => decide (p.node = n)) = 0 := by
      rw [List.countP_eq_zero]
      intro p hp
      rw [h p hp]; exact Bool.false_ne_true
    simp [this]
  | some i =>
    rw [List.findIdx?_eq_some_iff_getElem] at h
    obtain ⟨h1, h2, _⟩ := h
    have : 0 < l.pts.countP (fun p => decide (p.node = n)) := List.countP_pos_iff.2 ⟨_, List.getElem_mem h1, h2⟩
    rw [decide_eq_true (by omega)]; rfl
theorem holds12 {l : Lay} {zs : List (Int × Int)} (hl : l.ok) (h : Pl l zs) (ht : Tied l) (hp : Set' l) (i : Nat) (hi : i < l.nodes.length) (h11 : pointsB l i = true) (st : Bool) (H : Heap) : r06_holds_F st H [.agg (layC l), .int .i64 12, .int .i64 i] = some (.bool (goesI l zs i), H) := by
  have hn : nodeB l i = true := by unfold nodeB; simp only [Bool.and_eq_true, decide_eq_true_eq]; omega
  have hg := fun st H => point_F l hl i st H
  have he := fun st H => ends_F l hl i st H
  have hiso := cntP_ptOf l i
  unfold pointsB at h11
  unfold goesI
  rw [r06_holds_F_eq]
  by_cases h3 : (ends l i).length = 3
  · have h3' : (((ends l i).length : Int) = 3) := by omega
    rw [if_pos h3, decide_eq_true_eq] at h11
    rw [h11] at hiso
    cases hpt : ptOf l i with
    | none => rw [hpt] at hiso; simp at hiso
    | some k =>
      obtain ⟨hk, _⟩ := ptOf_some hpt
      simp only [hpt] at hg
      obtain ⟨p1, p2, p3⟩ := hp _ (List.getElem_mem hk)
      obtain ⟨_, o1⟩ := on_F h ht l.pts[k].stem l.pts[k].left i p1 p2 hn
      obtain ⟨_, o2⟩ := on_F h ht l.pts[k].stem l.pts[k].right i p1 p3 hn
      have hia := iaddr_atP (k := .i64) hk
      simp only [List.getElem?_eq_getElem hk]
      cases hA : onI l zs l.pts[k].stem l.pts[k].left i with
      | true =>
        rw [hA] at o1
        simp only [r06_holds_C, r05_Ends_call, he, eq_true h3', r05_Point_call, hg, hia, r06_on_call, o1, o2, Bool.true_and, zy, simprocAttr]
      | false =>
        rw [hA] at o1
        simp only [r06_holds_C, r05_Ends_call, he, eq_true h3', r05_Point_call, hg, hia, r06_on_call, o1, o2, Bool.false_and, zy, simprocAttr]
  · have h3' : ¬ (((ends l i).length : Int) = 3) := by omega
    rw [if_neg h3, decide_eq_true_eq] at h11
    rw [h11] at hiso
    cases hpt : ptOf l i with
    | some k => rw [hpt] at hiso; simp at hiso
    | none =>
      have hes := ends_secB l i
      cases hE : ends l i with
      | nil =>
        rw [hE] at he h3'
        simp only [r06_holds_C, r05_Ends_call, he, eq_false h3', zy, simprocAttr]
      | cons a r =>
        cases r with
        | nil =>
          rw [hE] at he h3'
          simp only [r06_holds_C, r05_Ends_call, he, eq_false h3', zy, simprocAttr]
        | cons b r =>
          rw [hE] at he hes h3'
          obtain ⟨_, on1⟩ := on_F h ht a.s b.s i (hes a (by simp)) (hes b (by simp)) hn
          have h2 : ¬ (((r.length + 1 + 1 : Nat) : Int) < 2) := by omega
          have i1 := iaddr_midE .i64 [] (b :: r) a
          have i2 := iaddr_midE .i64 [a] r b
          simp only [List.nil_append, List.cons_append, List.length_nil, List.length_cons, Nat.zero_add, Int.natCast_zero, show ((0 : Nat) : Int) = 0 from rfl, show ((1 : Nat) : Int) = 1 from rfl] at i1 i2 h3'
          simp only [r06_holds_C, r05_Ends_call, he, List.length_cons, eq_false h3', h2, i1, i2, r06_on_call, on1, zy, simprocAttr]

/-! ### A point where three sections end -/
theorem ends_sorted (at' : Int) : ∀ (s : List Sec) (i : Nat), (endsFrom at' i s).Pairwise fun a b => a.s ≤ b.s
  | [], _ => .nil
  | s :: r, i => by
    have ih := ends_sorted at' r (i + 1)
    have hi := endsFrom_in at' r (i + 1)
    simp only [endsFrom]
    rw [List.pairwise_append]
    refine ⟨?_, ih, fun a ha b hb => ?_⟩
    · split <;> split <;> simp
    · have h1 := (hi b hb).1
      have h2 : a.s = i := by
        rw [List.mem_append] at ha
        rcases ha with ha | ha
        · split at ha
          · simp at ha; rw [ha]
          · cases ha
        · split at ha
          · simp at ha; rw [ha]
          · cases ha
      omega
/-- As the reference asks it. -/
def ptR (l : Lay) (p : Pt) : Bool := nodeB l p.node && (decide ((ends l p.node).length = 3) && (!decide (p.stem = p.left) && (!decide (p.stem = p.right) && (!decide (p.left = p.right) && ((ends l p.node).all (fun e => decide (e.s = p.stem) || decide (e.s = p.left) || decide (e.s = p.right)) && (match ends l p.node with | [a, b, c] => !decide (a.s = b.s) && !decide (b.s = c.s) | _ => false))))))
theorem isort3 (x y z : Int) : isort [x, y, z] = if y < x then (if z < x then (if z < y then [z, y, x] else [y, z, x]) else [y, x, z]) else (if z < y then (if z < x then [z, x, y] else [x, z, y]) else [x, y, z]) := by
  by_cases h1 : y < x <;> by_cases h2 : z < x <;> by_cases h3 : z < y <;> simp [isort, insAll, sinkR, h1, h2, h3] <;> omega
theorem compact3 (x y z : Int) : decide ((compact [x, y, z]).length = 3) = (!decide (x = y) && !decide (y = z)) := by
  by_cases h1 : x = y <;> by_cases h2 : y = z <;> simp [compact, h1, h2]
  split <;> simp
theorem three (x y z a b c : Int) (hab : a ≤ b) (hbc : b ≤ c) : (decide ([a, b, c] = isort [x, y, z]) && decide ((compact (isort [x, y, z])).length = 3)) =
    (!decide (x = y) && (!decide (x = z) && (!decide (y = z) && ((decide (a = x) || decide (a = y) || decide (a = z)) && ((decide (b = x) || decide (b = y) || decide (b = z)) && (decide (c = x) || decide (c = y) || decide (c = z))) && (!decide (a = b) && !decide (b = c)))))) := by
  rw [isort3, Bool.eq_iff_iff]
  split <;> split <;> (try split) <;> rw [compact3] <;> simp only [Bool.and_eq_true, Bool.or_eq_true, decide_eq_true_eq, Bool.not_eq_true', decide_eq_false_iff_not, List.cons.injEq, and_true] <;> omega
theorem ptR_eq (l : Lay) (p : Pt) : ptR l p = pointB l p := by
  unfold ptR pointB
  cases nodeB l p.node with
  | false => simp
  | true =>
    simp only [Bool.true_and]
    by_cases h3 : (ends l p.node).length = 3
    · have hs := ends_sorted p.node l.secs 0
      have hE : ends l p.node = endsFrom p.node 0 l.secs := rfl
      rw [← hE] at hs
      generalize ends l p.node = E at h3 hs
      match E, h3 with
      | [a, b, c], _ =>
        simp only [List.pairwise_cons, List.mem_cons, List.not_mem_nil, or_false, forall_eq_or_imp, forall_eq] at hs
        have := three p.stem p.left p.right a.s b.s c.s (by omega) (by omega)
        unfold wantP
        simp only [List.map_cons, List.map_nil, List.all_cons, List.all_nil, Bool.and_true]
        rw [this]
    · simp [h3]
theorem p3_loop (l : Lay) (p : Pt) (E : List Ed) (hm : E.length = 3) : ∀ (s pre : List Ed), pre ++ s = E →
    r06_holds_R3 ([(10, .op (.loc 10) 0), (11, sl fE E), (12, .int .i64 pre.length)], ⟨[(10, fP p)], []⟩) =
      if s.all (fun e => decide (e.s = p.stem) || decide (e.s = p.left) || decide (e.s = p.right)) = true then some (.norm, [(11, sl fE E)], ⟨[], []⟩) else some (.ret, [(6, .bool false)], ⟨[(10, fP p)], []⟩)
  | [], pre, hp => by
    have h1 : ¬ ((pre.length : Int) < 3) := by rw [← hp] at hm; simp at hm; omega
    rw [r06_holds_R3_eq]
    simp only [r06_holds_B3, r06_holds_K3_a, fP, h1, List.all_nil, zy, simprocAttr]
  | x :: s, pre, hp => by
    have hpl : pre.length + 1 + s.length = E.length := by rw [← hp]; simp; omega
    have h1 : ((pre.length : Int) < 3) := by omega
    have hwr := wrapN (n := pre.length) (by unfold Zc.small; omega)
    have hia : iaddrC 2 (sl fE E) (.int .i64 pre.length) = some (.vp (.int .i64 x.s :: .int .i64 x.e :: s.flatMap fE)) := by rw [← hp]; exact iaddr_midE .i64 pre s x
    have ih := p3_loop l p E hm s (pre ++ [x]) (by simpa using hp)
    simp only [fP] at ih
    rw [show (pre ++ [x]).length = pre.length + 1 by simp] at ih
    rw [r06_holds_R3_eq]
    by_cases a1 : x.s = p.stem
    · simp only [r06_holds_B3, r06_holds_K3_a, fP, h1, hia, ne_eq, a1, hwr, ih, List.all_cons, decide_true, Bool.true_or, Bool.true_and, not_true_eq_false, zy, simprocAttr]
    · by_cases a2 : x.s = p.left
      · simp only [r06_holds_B3, r06_holds_K3_a, fP, h1, hia, ne_eq, eq_false a1, eq_true a2, hwr, ih, List.all_cons, decide_true, decide_false, Bool.true_or, Bool.or_true, Bool.true_and, not_true_eq_false, not_false_eq_true, zy, simprocAttr]
      · by_cases a3 : x.s = p.right
        · simp only [r06_holds_B3, r06_holds_K3_a, fP, h1, hia, ne_eq, eq_false a1, eq_false a2, eq_true a3, hwr, ih, List.all_cons, decide_true, decide_false, Bool.true_or, Bool.or_true, Bool.true_and, not_true_eq_false, not_false_eq_true, zy, simprocAttr]
        · simp only [r06_holds_B3, r06_holds_K3_a, fP, h1, hia, ne_eq, eq_false a1, eq_false a2, eq_false a3, List.all_cons, decide_false, Bool.false_or, Bool.or_false, Bool.false_and, not_true_eq_false, not_false_eq_true, Bool.false_eq_true, if_false, zy, simprocAttr]
theorem holds10 (l : Lay) (hl : l.ok) (i : Nat) (hi : i < l.pts.length) (st : Bool) (H : Heap) : r06_holds_F st H [.agg (layC l), .int .i64 10, .int .i64 i] = some (.bool (pointB l l.pts[i]), H) := by
  rw [← ptR_eq]
  have hia := iaddr_atP (k := .i64) hi
  have n1 := fun st H => rnode_F l l.pts[i].node st H
  have he := fun st H => ends_F l hl l.pts[i].node st H
  unfold ptR
  rw [r06_holds_F_eq]
  cases hA : nodeB l l.pts[i].node with
  | false =>
    rw [hA] at n1
    simp only [r06_holds_C, hia, r05_Ends_call, he, r06_node_call, n1, Bool.false_and, zy, simprocAttr]
  | true =>
    rw [hA] at n1
    by_cases h3 : (ends l l.pts[i].node).length = 3
    · have h3' : (((ends l l.pts[i].node).length : Int) = 3) := by omega
      by_cases b1 : l.pts[i].stem = l.pts[i].left
      · simp only [r06_holds_C, hia, r05_Ends_call, he, r06_node_call, n1, ne_eq, eq_true h3', eq_true h3, eq_true b1, not_true_eq_false, decide_true, Bool.not_true, Bool.false_and, Bool.true_and, zy, simprocAttr]
      · by_cases b2 : l.pts[i].stem = l.pts[i].right
        · simp only [r06_holds_C, hia, r05_Ends_call, he, r06_node_call, n1, ne_eq, eq_true h3', eq_true h3, eq_false b1, eq_true b2, not_true_eq_false, decide_true, decide_false, Bool.not_true, Bool.not_false, Bool.false_and, Bool.true_and, zy, simprocAttr]
        · by_cases b3 : l.pts[i].left = l.pts[i].right
          · simp only [r06_holds_C, hia, r05_Ends_call, he, r06_node_call, n1, ne_eq, eq_true h3', eq_true h3, eq_false b1, eq_false b2, eq_true b3, not_true_eq_false, decide_true, decide_false, Bool.not_true, Bool.not_false, Bool.false_and, Bool.true_and, zy, simprocAttr]
          · have e := p3_loop l l.pts[i] (ends l l.pts[i].node) h3 (ends l l.pts[i].node) [] rfl
            simp only [List.nil_append, List.length_nil, Int.natCast_zero, fP] at e
            cases hB : (ends l l.pts[i].node).all (fun e => decide (e.s = l.pts[i].stem) || decide (e.s = l.pts[i].left) || decide (e.s = l.pts[i].right)) with
            | false =>
              have e' := e.trans (if_neg (by rw [hB]; exact Bool.false_ne_true))
              simp only [r06_holds_C, r06_holds_L3_eq, e', hia, r05_Ends_call, he, r06_node_call, n1, ne_eq, eq_true h3', eq_true h3, eq_false b1, eq_false b2, eq_false b3, not_true_eq_false, decide_true, decide_false, Bool.not_true, Bool.not_false, Bool.false_and, Bool.true_and, zy, simprocAttr]
            | true =>
              have e' := e.trans (if_pos hB)
              obtain ⟨a, b, c, hE⟩ : ∃ a b c, ends l l.pts[i].node = [a, b, c] := by
                generalize ends l l.pts[i].node = E at h3
                match E, h3 with
                | [a, b, c], _ => exact ⟨a, b, c, rfl⟩
              have i1 := iaddr_midE .i64 [] [b, c] a
              have i2 := iaddr_midE .i64 [a] [c] b
              have i3 := iaddr_midE .i64 [a, b] [] c
              rw [hE] at he e' h3' h3
              simp only [List.nil_append, List.cons_append, List.length_nil, List.length_cons, Nat.zero_add, Int.natCast_zero, show ((0 : Nat) : Int) = 0 from rfl, show ((1 : Nat) : Int) = 1 from rfl, show ((1 + 1 : Nat) : Int) = 2 from rfl] at i1 i2 i3 h3'
              simp only [hE]
              by_cases q1 : a.s = b.s
              · simp only [r06_holds_C, r06_holds_L3_eq, e', i1, i2, i3, hia, r05_Ends_call, he, r06_node_call, n1, ne_eq, eq_true h3, eq_true h3', eq_false b1, eq_false b2, eq_false b3, eq_true q1, not_true_eq_false, not_false_eq_true, decide_true, decide_false, Bool.not_true, Bool.not_false, Bool.false_and, Bool.true_and, List.length_cons, List.length_nil, zy, simprocAttr]
              · simp only [r06_holds_C, r06_holds_L3_eq, e', i1, i2, i3, hia, r05_Ends_call, he, r06_node_call, n1, ne_eq, eq_true h3, eq_true h3', eq_false b1, eq_false b2, eq_false b3, eq_false q1, not_true_eq_false, not_false_eq_true, decide_true, decide_false, Bool.not_true, Bool.not_false, Bool.false_and, Bool.true_and, List.length_cons, List.length_nil, zy, simprocAttr]
    · have h3' : ¬ (((ends l l.pts[i].node).length : Int) = 3) := by omega
      simp only [r06_holds_C, hia, r05_Ends_call, he, r06_node_call, n1, ne_eq, eq_false h3', eq_false h3, not_false_eq_true, decide_false, Bool.false_and, Bool.true_and, zy, simprocAttr]
end Go.Proofs.YtlhjpcgfkkhogaaGreat.Zt
end
section
namespace Go.Proofs.YtlhjpcgfkkhogaaGreat.Zt
open Go Go.Zc
set_option maxRecDepth 10000

theorem ref2_loop (l : Lay) (k n m : Nat) (hn : n ≤ Zc.small) (p : Nat → Bool) (hp : ∀ i < n, ∀ st H, r06_holds_F st H [.agg (layC l), .int .i64 k, .int .i64 (i : Nat)] = some (.bool (p i), H)) : ∀ (d i : Nat), i + d = n →
    r06_First_R2 ([(1, .op (.loc 1) 0), (4, .int .i64 k), (5, .int .i64 n), (6, .int .i64 m), (7, .int .i64 i)], ⟨[(1, layC l)], []⟩) =
      match (List.range' i d).find? fun i => !p i with
      | some j => some (.ret, [(2, .int .i64 k), (3, .int .i64 j)], ⟨[(1, layC l)], []⟩)
      | none => some (.norm, [(1, .op (.loc 1) 0), (4, .int .i64 k), (6, .int .i64 m)], ⟨[(1, layC l)], []⟩)
  | 0, i, hk => by
    have h1 : ¬ ((i : Int) < n) := by omega
    rw [r06_First_R2_eq]
    simp only [r06_First_B2, r06_First_K2_a, h1, List.range'_zero, List.find?_nil, zy, simprocAttr]
  | d + 1, i, hk => by
    have h1 : ((i : Int) < n) := by omega
    have hwr := wrapN (n := i) (by omega)
    have hpi := fun st H => hp i (by omega) st H
    have ih := ref2_loop l k n m hn p hp d (i + 1) (by omega)
    rw [r06_First_R2_eq]
    rw [List.range'_succ, List.find?_cons]
    cases hA : p i with
    | true =>
      rw [hA] at hpi
      simp only [r06_First_B2, r06_First_K2_a, h1, r06_holds_call, hpi, hwr, ih, Bool.not_true, zy, simprocAttr]
    | false =>
      rw [hA] at hpi
      simp only [r06_First_B2, r06_First_K2_a, h1, r06_holds_call, hpi, hwr, Bool.not_false, zy, simprocAttr]
theorem ref4_loop (l : Lay) (k m : Nat) (hn : m ≤ Zc.small) (p : Nat → Bool) (hp : ∀ i < m, ∀ st H, r06_part_F st H [.agg (layC l), .int .i64 k, .int .i64 (i : Nat)] = some (.bool (p i), H)) : ∀ (d i : Nat), i + d = m →
    r06_First_R4 ([(1, .op (.loc 1) 0), (4, .int .i64 k), (6, .int .i64 m), (8, .int .i64 i)], ⟨[(1, layC l)], []⟩) =
      match (List.range' i d).find? fun i => !p i with
      | some j => some (.ret, [(2, .int .i64 k), (3, .int .i64 j)], ⟨[(1, layC l)], []⟩)
      | none => some (.norm, [(1, .op (.loc 1) 0), (4, .int .i64 k)], ⟨[(1, layC l)], []⟩)
  | 0, i, hk => by
    have h1 : ¬ ((i : Int) < m) := by omega
    rw [r06_First_R4_eq]
    simp only [r06_First_B4, r06_First_K4_a, h1, List.range'_zero, List.find?_nil, zy, simprocAttr]
  | d + 1, i, hk => by
    have h1 : ((i : Int) < m) := by omega
    have hwr := wrapN (n := i) (by omega)
    have hpi := fun st H => hp i (by omega) st H
    have ih := ref4_loop l k m hn p hp d (i + 1) (by omega)
    rw [r06_First_R4_eq]
    rw [List.range'_succ, List.find?_cons]
    cases hA : p i with
    | true =>
      rw [hA] at hpi
      simp only [r06_First_B4, r06_First_K4_a, h1, r06_part_call, hpi, hwr, ih, Bool.not_true, zy, simprocAttr]
    | false =>
      rw [hA] at hpi
      simp only [r06_First_B4, r06_First_K4_a, h1, r06_part_call, hpi, hwr, Bool.not_false, zy, simprocAttr]
/-- A rule of the reference's, and what it tells. -/
structure RefRow (l : Lay) (k : Nat) (x : List Ru) (n m : Nat) (p q : Nat → Bool) : Prop where
  hn : n ≤ Zc.small
  hm : m ≤ Zc.small
  places : ∀ st H, r06_places_F st H [.agg (layC l), .int .i64 k] = some (.tup [.int .i64 n, .int .i64 m], H)
  holds : ∀ i < n, ∀ st H, r06_holds_F st H [.agg (layC l), .int .i64 k, .int .i64 (i : Nat)] = some (.bool (p i), H)
  part : ∀ i < m, ∀ st H, r06_part_F st H [.agg (layC l), .int .i64 k, .int .i64 (i : Nat)] = some (.bool (q i), H)
  bad : rowBad x = match bad p n with | some i => some i | none => bad q m
def refRows (l : Lay) : Nat → List (List Ru) → Prop
  | _, [] => True
  | k, x :: s => (∃ n m p q, RefRow l k x n m p q) ∧ (rowAll x → refRows l (k + 1) s)
theorem ref_loop (l : Lay) : ∀ (s : List (List Ru)) (k : Nat), k + s.length = 16 → refRows l k s →
    ∃ bx, r06_First_R0 ([(1, .op (.loc 1) 0), (4, .int .i64 k)], ⟨[(1, layC l)], []⟩) =
      match rowsBad k s with
      | some (k, i) => some (.ret, [(2, .int .i64 k), (3, .int .i64 i)], ⟨bx, []⟩)
      | none => some (.norm, [], ⟨[], []⟩)
  | [], k, hk, _ => by
    have h1 : ¬ ((k : Int) ≤ 15) := by simp at hk; omega
    refine ⟨[], ?_⟩
    rw [r06_First_R0_eq]
    simp only [r06_First_B0, r06_First_K0_a, h1, rowsBad, zy, simprocAttr]
  | x :: s, k, hk, hr => by
    have hk' : k + 1 + s.length = 16 := by simp at hk; omega
    have h1 : ((k : Int) ≤ 15) := by omega
    have hwr := wrapN (n := k) (by unfold Zc.small; omega)
    obtain ⟨⟨n, m, p, q, hn, hm, hpl, hh, hq, hb⟩, hs⟩ := hr
    have e2 := ref2_loop l k n m hn p hh n 0 (by omega)
    have e4 := ref4_loop l k m hm q hq m 0 (by omega)
    rw [← List.range_eq_range'] at e2 e4
    simp only [List.nil_append, List.length_nil, Int.natCast_zero] at e2 e4
    have e2' : _ = match bad p n with | some j => _ | none => _ := e2
    have e4' : _ = match bad q m with | some j => _ | none => _ := e4
    simp only [rowsBad]
    rw [hb]
    cases hB : bad p n with
    | some j =>
      simp only [hB] at e2'
      refine ⟨[(1, layC l)], ?_⟩
      rw [r06_First_R0_eq]
      simp only [r06_First_B0, r06_First_K0_a, r06_First_L2_eq, h1, r06_places_call, hpl, e2', zy, simprocAttr]
    | none =>
      simp only [hB] at e2'
      cases hQ : bad q m with
      | some j =>
        simp only [hQ] at e4'
        refine ⟨[(1, layC l)], ?_⟩
        rw [r06_First_R0_eq]
        simp only [r06_First_B0, r06_First_K0_a, r06_First_L2_eq, r06_First_L4_eq, h1, r06_places_call, hpl, e2', e4', zy, simprocAttr]
      | none =>
        simp only [hQ] at e4'
        have hall : rowAll x := rowBad_none (by rw [hb, hB]; exact hQ)
        obtain ⟨bx, ih⟩ := ref_loop l s (k + 1) hk' (hs hall)
        refine ⟨bx, ?_⟩
        rw [r06_First_R0_eq]
        simp only [r06_First_B0, r06_First_K0_a, r06_First_L2_eq, r06_First_L4_eq, h1, r06_places_call, hpl, e2', e4', hwr, ih, zy, simprocAttr]
theorem rowsBad_succ : ∀ (s : List (List Ru)) (k : Nat), rowsBad (k + 1) s = (rowsBad k s).map fun q => (q.1 + 1, q.2)
  | [], k => rfl
  | x :: s, k => by
    simp only [rowsBad]
    cases rowBad x with
    | some i => rfl
    | none => exact rowsBad_succ s (k + 1)
theorem bad_zero (p : Nat → Bool) : bad p 0 = none := rfl
theorem rowBad1 (r : Ru) (q : Nat → Bool) : rowBad [r] = match bad r.p r.n with | some i => some i | none => bad q 0 := by
  simp only [rowBad, bad_zero]
  cases bad r.p r.n <;> rfl
theorem rowBad2 (r q : Ru) : rowBad [r, q] = match bad r.p r.n with | some i => some i | none => bad q.p q.n := by
  simp only [rowBad]
  cases bad r.p r.n with
  | some i => rfl
  | none => cases bad q.p q.n <;> rfl
theorem refs_ok {l : Lay} {zs : List (Int × Int)} (hl : l.ok) (hs : Sm l) (h : Pl l zs) : refRows l 1 (rowsOf l zs) := by
  have s0 : 0 ≤ Zc.small := Nat.zero_le _
  have s1 : 1 ≤ Zc.small := by unfold Zc.small; omega
  have nop : ∀ (k : Int) (q : Nat → Bool), ∀ i < 0, ∀ st H, r06_part_F st H [.agg (layC l), .int .i64 k, .int .i64 (i : Nat)] = some (.bool (q i), H) := fun k q i hi => absurd hi (by omega)
  obtain ⟨m1, m2, m3, m4⟩ := hs
  refine ⟨⟨1, 0, _, fun _ => true, ⟨s1, s0, fun st H => places1 l st H, fun i hi st H => holds1 l i st H, nop _ _, rowBad1 _ _⟩⟩, fun a1 => ?_⟩
  refine ⟨⟨l.nodes.length, 0, _, fun _ => true, ⟨hl.nodes, s0, fun st H => places2 l st H, fun i hi st H => holds2 h m1 i (by rw [← h.len]; exact hi) st H, nop _ _, rowBad1 _ _⟩⟩, fun a2 => ?_⟩
  refine ⟨⟨1, 0, _, fun _ => true, ⟨s1, s0, fun st H => places3 l st H, fun i hi st H => holds3 l i st H, nop _ _, rowBad1 _ _⟩⟩, fun a3 => ?_⟩
  refine ⟨⟨l.secs.length, 0, _, fun _ => true, ⟨hl.secs, s0, fun st H => places4 l st H, fun i hi st H => (holds4 h i hi st H).trans (by simp only [List.getElem?_eq_getElem hi]), nop _ _, rowBad1 _ _⟩⟩, fun a4 => ?_⟩
  refine ⟨⟨1, 0, _, fun _ => true, ⟨s1, s0, fun st H => places5 l st H, fun i hi st H => holds5 l i st H, nop _ _, rowBad1 _ _⟩⟩, fun a5 => ?_⟩
  refine ⟨⟨l.secs.length, 0, _, fun _ => true, ⟨hl.secs, s0, fun st H => places6 l st H, fun i hi st H => (holds6 l i hi st H).trans (by simp only [List.getElem?_eq_getElem hi]), nop _ _, rowBad1 _ _⟩⟩, fun a6 => ?_⟩
  refine ⟨⟨1, 0, _, fun _ => true, ⟨s1, s0, fun st H => places7 l st H, fun i hi st H => holds7 l i st H, nop _ _, rowBad1 _ _⟩⟩, fun a7 => ?_⟩
  refine ⟨⟨l.nodes.length, 0, _, fun _ => true, ⟨hl.nodes, s0, fun st H => places8 l st H, fun i hi st H => holds8 l hl i st H, nop _ _, rowBad1 _ _⟩⟩, fun a8 => ?_⟩
  refine ⟨⟨1, 0, _, fun _ => true, ⟨s1, s0, fun st H => places9 l st H, fun i hi st H => holds9 l i st H, nop _ _, rowBad1 _ _⟩⟩, fun a9 => ?_⟩
  refine ⟨⟨l.pts.length, 0, _, fun _ => true, ⟨hl.pts, s0, fun st H => places10 l st H, fun i hi st H => (holds10 l hl i hi st H).trans (by simp only [List.getElem?_eq_getElem hi]), nop _ _, rowBad1 _ _⟩⟩, fun a10 => ?_⟩
  refine ⟨⟨l.nodes.length, 0, _, fun _ => true, ⟨hl.nodes, s0, fun st H => places11 l st H, fun i hi st H => holds11 l hl m4 i st H, nop _ _, rowBad1 _ _⟩⟩, fun a11 => ?_⟩
  refine ⟨⟨l.nodes.length, 0, _, fun _ => true, ⟨hl.nodes, s0, fun st H => places12 l st H, fun i hi st H => holds12 hl h (tied_of (a4 _ (List.mem_singleton.2 rfl))) (set_of (a10 _ (List.mem_singleton.2 rfl))) i hi (a11 _ (List.mem_singleton.2 rfl) i hi) st H, nop _ _, rowBad1 _ _⟩⟩, fun a12 => ?_⟩
  refine ⟨⟨1, l.parts.length, _, _, ⟨s1, hl.parts, fun st H => places13 l st H, fun i hi st H => holds13 l i st H, fun i hi st H => (rpart13 l hl i hi st H).trans (by simp only [List.getElem?_eq_getElem hi]), rowBad2 _ _⟩⟩, fun a13 => ?_⟩
  refine ⟨⟨l.secs.length, 0, _, fun _ => true, ⟨hl.secs, s0, fun st H => places14 l st H, fun i hi st H => holds14 l hl m3 i st H, nop _ _, rowBad1 _ _⟩⟩, fun a14 => ?_⟩
  refine ⟨⟨1, l.routes.length, _, _, ⟨s1, hl.routes, fun st H => places15 l st H, fun i hi st H => holds15 l i st H, fun i hi st H => (rpart15 l hl i hi st H).trans (by simp only [List.getElem?_eq_getElem hi]), rowBad2 _ _⟩⟩, fun a15 => ?_⟩
  exact trivial
theorem rFirst_F {l : Lay} {zs : List (Int × Int)} (hl : l.ok) (hs : Sm l) (h : Pl l zs) (H : Heap) : r06_First_F false H [.agg (layC l)] = some (.tup [.int .i64 (firstN l zs).1, .int .i64 (firstN l zs).2], H) := by
  obtain ⟨bx, e⟩ := ref_loop l (rowsOf l zs) 1 rfl (refs_ok hl hs h)
  have hsu := rowsBad_succ (rowsOf l zs) 0
  simp only [Nat.zero_add] at hsu
  rw [hsu] at e
  unfold firstN
  rw [r06_First_F_eq]
  cases hB : rowsBad 0 (rowsOf l zs) with
  | none =>
    simp only [hB, Option.map_none, show ((1 : Nat) : Int) = 1 from rfl] at e
    simp only [r06_First_C, r06_First_L0_eq, e, zy, simprocAttr]
  | some q =>
    obtain ⟨k, i⟩ := q
    simp only [hB, Option.map_some, show ((1 : Nat) : Int) = 1 from rfl] at e
    simp only [r06_First_C, r06_First_L0_eq, e, zy, simprocAttr]
theorem judged_F {l : Lay} {zs : List (Int × Int)} (hl : l.ok) (hs : Sm l) (h : Pl l zs) (st : Bool) (H : Heap) : l06_judged_F st H [.agg (layC l)] = some (.bool true, H) := by
  have e1 := fun H => vFirst_F hl hs h H
  have e2 := fun H => rFirst_F hl hs h H
  have e3 := fun H => vRight_F hl hs h H
  have d := deq (firstN l zs).1 0 0 rfl
  rw [l06_judged_F_eq]
  by_cases hz : (firstN l zs).1 = 0
  · have hz' : ((firstN l zs).1 : Int) = 0 := by omega
    simp only [l06_judged_C, verify_First_call, e1, r06_First_call, e2, verify_Right_call, e3, hz, hz', decide_true, zy, simprocAttr]
  · have hz' : ¬ ((firstN l zs).1 : Int) = 0 := by omega
    simp only [l06_judged_C, verify_First_call, e1, r06_First_call, e2, verify_Right_call, e3, hz, hz', decide_false, zy, simprocAttr]
end Go.Proofs.YtlhjpcgfkkhogaaGreat.Zt
end
section
namespace Go.Proofs.YtlhjpcgfkkhogaaGreat.Zt
open Go Go.Zc
set_option maxRecDepth 100000

theorem form_xy (form : Int) : ∃ f ∈ forms, mkEnds form = mkEnds f ∧ mkPts form = mkPts f ∧ ∀ u, mkXY form u = mkXY f u := by
  have h4 : form % 4 = 0 ∨ form % 4 = 1 ∨ form % 4 = 2 ∨ form % 4 = 3 := by omega
  rcases h4 with h | h | h | h
  · have h6 : form / 4 % 6 = 0 ∨ form / 4 % 6 = 1 ∨ form / 4 % 6 = 2 ∨ form / 4 % 6 = 3 ∨ form / 4 % 6 = 4 ∨ form / 4 % 6 = 5 := by omega
    rcases h6 with k | k | k | k | k | k
    · exact ⟨0, by decide, by simp [mkEnds, h, mkN, k], by simp [mkPts, h], by intro u; simp [mkXY, h, mkN, k]⟩
    · exact ⟨4, by decide, by simp [mkEnds, h, mkN, k], by simp [mkPts, h], by intro u; simp [mkXY, h, mkN, k]⟩
    · exact ⟨8, by decide, by simp [mkEnds, h, mkN, k], by simp [mkPts, h], by intro u; simp [mkXY, h, mkN, k]⟩
    · exact ⟨12, by decide, by simp [mkEnds, h, mkN, k], by simp [mkPts, h], by intro u; simp [mkXY, h, mkN, k]⟩
    · exact ⟨16, by decide, by simp [mkEnds, h, mkN, k], by simp [mkPts, h], by intro u; simp [mkXY, h, mkN, k]⟩
    · exact ⟨20, by decide, by simp [mkEnds, h, mkN, k], by simp [mkPts, h], by intro u; simp [mkXY, h, mkN, k]⟩
  · exact ⟨1, by decide, by simp [mkEnds, h], by simp [mkPts, h], by intro u; simp [mkXY, h]⟩
  · exact ⟨2, by decide, by simp [mkEnds, h], by simp [mkPts, h], by intro u; simp [mkXY, h]⟩
  · exact ⟨3, by decide, by simp [mkEnds, h], by simp [mkPts, h], by intro u; simp [mkXY, h]⟩
def unitsL : List Int := (List.range 20).map fun (k : Nat) => 10 * (1 + (k : Int))
theorem unit_in (len : Int) : unitOf len ∈ unitsL := by
  unfold unitsL unitOf
  rw [List.mem_map]
  exact ⟨(len % 20).toNat, List.mem_range.2 (by omega), by omega⟩
def nearB (p : Int × Int) : Bool := decide (p.1.natAbs ≤ 2000) && decide (p.2.natAbs ≤ 2000)
def trackL (f u : Int) : Lay := ⟨(mkXY f u).map fl2, mkSecs u 0 (mkEnds f), [], mkPts f, [], 0, 0, 0, 0, 0⟩
def okTrack (f u : Int) : Bool :=
  let l := trackL f u
  let zs := mkXY f u
  let n := List.range zs.length
  zs.all nearB && (decide (2 ≤ zs.length) && decide (zs.length ≤ 40)) && n.all (freshI zs) && (decide (1 ≤ l.secs.length) && decide (l.secs.length ≤ 32)) && l.secs.all (secI l zs) && l.secs.all (fun s => decide (2 * u ≤ s.len)) &&
    n.all (fun i => endsB l i) && decide (l.pts.length ≤ 8) && l.pts.all (pointB l) && n.all (fun i => pointsB l i) && n.all (fun i => goesI l zs i) && (decide (3 ≤ l.secs.length) && decide (l.secs.length ≤ 8))
theorem okTracks : (forms.all fun f => unitsL.all fun u => okTrack f u) = true := by kernel_rfl
def partsR (n : Nat) (j : Int) : Bool :=
  let P := mkParts j 0 n []
  (decide (1 ≤ P.length) && decide (P.length ≤ 16)) && P.all (fun x => decide (0 < x.length) && !(x.any fun s => !(decide (0 ≤ s) && decide (s < (n : Int))))) && (List.range n).all fun s => decide (cntS s P = 1)
theorem partsRs : ([3, 4, 5, 6, 7, 8].all fun n => (List.range 256).all fun j => partsR n (j : Nat)) = true := by kernel_rfl

theorem bad_all {p : Nat → Bool} {n : Nat} (h : ∀ i < n, p i = true) : bad p n = none := by
  unfold bad
  rw [List.find?_eq_none]
  intro i hi
  rw [h i (List.mem_range.1 hi)]
  simp
theorem rowBad_all : ∀ {x : List Ru}, (∀ r ∈ x, r.all) → rowBad x = none
  | [], _ => rfl
  | r :: s, h => by
    have ih := rowBad_all (x := s) fun q hq => h q (List.mem_cons_of_mem _ hq)
    simp only [rowBad, bad_all (h r List.mem_cons_self), ih]
theorem rowsBad_all : ∀ {x : List (List Ru)} {k : Nat}, (∀ y ∈ x, ∀ r ∈ y, r.all) → rowsBad k x = none
  | [], _, _ => rfl
  | y :: s, k, h => by
    have ih := rowsBad_all (x := s) (k := k + 1) fun q hq => h q (List.mem_cons_of_mem _ hq)
    simp only [rowsBad, rowBad_all (h y List.mem_cons_self), ih]
theorem cong {l l' : Lay} (hn : l.nodes = l'.nodes) (hs : l.secs = l'.secs) (hp : l.pts = l'.pts) : (∀ zs, secI l zs = secI l' zs) ∧ endsB l = endsB l' ∧ pointB l = pointB l' ∧ pointsB l = pointsB l' ∧ ∀ zs, goesI l zs = goesI l' zs := by
  obtain ⟨n, s, _, p, _, _, _, _, _, _⟩ := l
  obtain ⟨n', s', _, p', _, _, _, _, _, _⟩ := l'
  simp only at hn hs hp
  subst hn hs hp
  exact ⟨fun _ => rfl, rfl, rfl, rfl, fun _ => rfl⟩
def xyOf (d : Draft) : List (Int × Int) := mkXY d.form (unitOf d.len)
/-- What the kernel found of a draft's track. -/
theorem full_track (d : Draft) : let l := full d; let zs := xyOf d
    (∀ p ∈ zs, Near 2000 p) ∧ (2 ≤ zs.length ∧ zs.length ≤ 40) ∧ (∀ i < zs.length, freshI zs i = true) ∧ (1 ≤ l.secs.length ∧ l.secs.length ≤ 32) ∧ (∀ s ∈ l.secs, secI l zs s = true) ∧ (∀ s ∈ l.secs, 2 * unitOf d.len ≤ s.len) ∧
    (∀ i < zs.length, endsB l (i : Nat) = true) ∧ l.pts.length ≤ 8 ∧ (∀ p ∈ l.pts, pointB l p = true) ∧ (∀ i < zs.length, pointsB l (i : Nat) = true) ∧ (∀ i < zs.length, goesI l zs (i : Nat) = true) ∧ (3 ≤ l.secs.length ∧ l.secs.length ≤ 8) := by
  obtain ⟨f, hf, h1, h2, h3⟩ := form_xy d.form
  have h := List.all_eq_true.1 (List.all_eq_true.1 okTracks f hf) _ (unit_in d.len)
  obtain ⟨c1, c2, c3, c4, c5⟩ := cong (l := full d) (l' := trackL f (unitOf d.len)) (by show (mkXY d.form (unitOf d.len)).map fl2 = _; rw [h3]; rfl) (by show mkSecs (unitOf d.len) 0 (mkEnds d.form) = _; rw [h1]; rfl) (by show mkPts d.form = _; rw [h2]; rfl)
  have hs : (full d).secs = (trackL f (unitOf d.len)).secs := by show mkSecs (unitOf d.len) 0 (mkEnds d.form) = _; rw [h1]; rfl
  have hp : (full d).pts = (trackL f (unitOf d.len)).pts := by show mkPts d.form = _; rw [h2]; rfl
  unfold xyOf
  simp only [c1, c2, c3, c4, c5, hs, hp, h3]
  unfold okTrack at h
  simp only [Bool.and_eq_true, List.all_eq_true, decide_eq_true_eq, List.mem_range, nearB] at h
  obtain ⟨⟨⟨⟨⟨⟨⟨⟨⟨⟨⟨g1, g2⟩, g3⟩, g4⟩, g5⟩, g6⟩, g7⟩, g8⟩, g9⟩, g10⟩, g11⟩, g12⟩ := h
  exact ⟨fun p hp => ⟨(g1 p hp).1, (g1 p hp).2⟩, g2, g3, g4, g5, g6, g7, g8, g9, g10, g11, g12⟩
theorem full_nodes (d : Draft) : (full d).nodes = (xyOf d).map fl2 := rfl
theorem repZ_fl2 {p : Int × Int} (h : Near (2 ^ 52) p) : RepZ (fl2 p) p := ⟨Rep.fl (by have := h.1; omega), Rep.fl (by have := h.2; omega)⟩
theorem pl_full (d : Draft) : Pl (full d) (xyOf d) := by
  obtain ⟨g1, _⟩ := full_track d
  refine ⟨by rw [full_nodes, List.length_map], fun i z p hz hp => ?_, fun p hp => near_le (g1 p hp) (by decide)⟩
  rw [full_nodes, List.getElem?_map, hp] at hz
  simp only [Option.map_some, Option.some.injEq] at hz
  subst hz
  exact repZ_fl2 (near_le (g1 p (List.mem_of_getElem? hp)) (by decide))
theorem sm_full (d : Draft) (hd : d.ok) : Sm (full d) := by
  obtain ⟨_, g2, _, _, _, _, _, g8, _, _, _, g12⟩ := full_track d
  have hp : (full d).parts.length ≤ 1000 := by
    have h2 := List.all_eq_true.1 partsRs (full d).secs.length (by
      have h3 : (full d).secs.length = 3 ∨ (full d).secs.length = 4 ∨ (full d).secs.length = 5 ∨ (full d).secs.length = 6 ∨ (full d).secs.length = 7 ∨ (full d).secs.length = 8 := by omega
      rcases h3 with h | h | h | h | h | h <;> rw [h] <;> decide)
    obtain ⟨j, hj⟩ := Int.eq_ofNat_of_zero_le hd.join.1
    have h3 := List.all_eq_true.1 h2 j (List.mem_range.2 (by have := hd.join.2; omega))
    unfold partsR at h3
    simp only [Bool.and_eq_true, decide_eq_true_eq] at h3
    rw [mkParts_of, ← full_secs_len, hj]
    omega
  refine ⟨?_, by omega, hp, by omega⟩
  rw [full_nodes, List.length_map]
  omega
theorem full_partsR (d : Draft) (hd : d.ok) : (1 ≤ (full d).parts.length ∧ (full d).parts.length ≤ 16) ∧ (∀ x ∈ (full d).parts, partB (full d) x = true) ∧ ∀ i < (full d).secs.length, onceB (full d) (i : Nat) = true := by
  obtain ⟨_, _, _, _, _, _, _, _, _, _, _, g12⟩ := full_track d
  have h2 := List.all_eq_true.1 partsRs (full d).secs.length (by
    have h3 : (full d).secs.length = 3 ∨ (full d).secs.length = 4 ∨ (full d).secs.length = 5 ∨ (full d).secs.length = 6 ∨ (full d).secs.length = 7 ∨ (full d).secs.length = 8 := by omega
    rcases h3 with h | h | h | h | h | h <;> rw [h] <;> decide)
  obtain ⟨j, hj⟩ := Int.eq_ofNat_of_zero_le hd.join.1
  have h3 := List.all_eq_true.1 h2 j (List.mem_range.2 (by have := hd.join.2; omega))
  unfold partsR at h3
  rw [← hj, show mkParts d.join 0 (full d).secs.length [] = (full d).parts by rw [full_secs_len]; rfl] at h3
  simp only [Bool.and_eq_true, List.all_eq_true, List.mem_range] at h3
  obtain ⟨⟨⟨a, b⟩, c⟩, e⟩ := h3
  exact ⟨⟨of_decide_eq_true a, of_decide_eq_true b⟩, fun x hx => by
    have := c x hx
    unfold partB secB
    rw [Bool.and_eq_true]
    exact this, fun i hi => e i hi⟩
theorem full_routesR (d : Draft) (hd : d.ok) : (full d).routes.length ≤ 16 ∧ ∀ x ∈ (full d).routes, routeB (full d) x = true := by
  have h := fullFrom_ok (make d) d.routes [] (by simp) (by simp)
  refine ⟨h.1, fun x hx => ?_⟩
  have hw : ∀ (r acc : List (List Int)), (∀ y ∈ r, ∀ t ∈ y, 0 ≤ t ∧ t ≤ 255) → (∀ x ∈ acc, (npath (full d) x).isSome = true) → ∀ x ∈ fullFrom (make d) r acc, (npath (full d) x).isSome = true := by
    intro r
    induction r with
    | nil => intro acc _ h x hx; exact h x hx
    | cons y r ih =>
      intro acc hy h x hx
      simp only [fullFrom] at hx
      split at hx
      · exact h x hx
      · refine ih _ (fun z hz => hy z (by simp [hz])) ?_ x hx
        split
        · rename_i _ hc
          intro z hz
          rcases List.mem_append.1 hz with hz | hz
          · exact h z hz
          · simp only [List.mem_singleton] at hz
            subst hz
            have he : y.headD 0 / 128 = 0 ∨ y.headD 0 / 128 = 1 := by
              cases y with
              | nil => simp
              | cons t y =>
                have := hy (t :: y) List.mem_cons_self t List.mem_cons_self
                simp only [List.headD_cons]
                omega
            have := npath_walk d (full_ok d) (y.headD 0 % (make d).secs.length) (y.headD 0 / 128) he (y.drop 2) ((2 + (y.drop 1).headD 0 % 5).toNat : Nat)
            have hww : walk (full d) (y.headD 0 % (make d).secs.length) (y.headD 0 / 128) (y.drop 2) ((2 + (y.drop 1).headD 0 % 5).toNat : Nat) = wayOf (make d) y := walk_routes (make d) _ _ _ _ _
            rw [hww] at this
            rw [this, decide_eq_true]
            omega
        · exact h
  have h1 := hw d.routes [] (fun y hy => (hd.route y hy).2) (by simp) x hx
  have h2 := h.2 x hx
  unfold routeB
  rw [h1, decide_eq_true (by omega)]
  rfl
theorem right_full (d : Draft) (hd : d.ok) : firstN (full d) (xyOf d) = (0, 0) := by
  obtain ⟨g1, g2, g3, g4, g5, g6, g7, g8, g9, g10, g11, g12⟩ := full_track d
  obtain ⟨p1, p2, p3⟩ := full_partsR d hd
  obtain ⟨r1, r2⟩ := full_routesR d hd
  have hn : (full d).nodes.length = (xyOf d).length := by rw [full_nodes, List.length_map]
  have hu : 10 ≤ unitOf d.len ∧ unitOf d.len ≤ 200 := by unfold unitOf; omega
  have hsp : (full d).speed = 1 + d.speed % (2 * unitOf d.len) := rfl
  have o : ∀ (b : Bool) (c : CV), b = true → Ru.all ⟨1, c, fun _ => b⟩ := fun b c h i _ => h
  have hb : rowsBad 0 (rowsOf (full d) (xyOf d)) = none := by
    refine rowsBad_all ?_
    unfold rowsOf
    simp only [List.mem_cons, List.not_mem_nil, or_false, forall_eq_or_imp, forall_eq]
    refine ⟨o _ _ ?_, fun i hi => ?_, o _ _ ?_, fun i hi => ?_, o _ _ ?_, fun i hi => ?_, o _ _ ?_, fun i hi => ?_, o _ _ ?_, fun i hi => ?_, fun i hi => ?_, fun i hi => ?_, ⟨o _ _ ?_, fun i hi => ?_⟩, fun i hi => ?_, o _ _ ?_, fun i hi => ?_⟩
    · rw [hn]; simp; omega
    · exact g3 i (by rw [← hn]; exact hi)
    · simp; omega
    · simp only at hi ⊢
      rw [List.getElem?_eq_getElem hi]
      exact g5 _ (List.getElem_mem hi)
    · have := Int.emod_nonneg d.speed (show 2 * unitOf d.len ≠ 0 by omega)
      have := Int.emod_lt_of_pos d.speed (show 0 < 2 * unitOf d.len by omega)
      rw [hsp]; simp; omega
    · simp only at hi ⊢
      rw [List.getElem?_eq_getElem hi]
      have := g6 _ (List.getElem_mem hi)
      have := Int.emod_lt_of_pos d.speed (show 0 < 2 * unitOf d.len by omega)
      simp only [decide_eq_true_eq]
      rw [hsp]; omega
    · have e1 : (full d).mute = 1 + d.mute % 1000 := rfl
      have e2 : (full d).wait = 1 + d.wait % 1000 := rfl
      have e3 : (full d).cancel = 1 + d.cancel := rfl
      have e4 : (full d).stay = d.stay % 4 := rfl
      have := hd.cancel
      simp only [timesB, timeB, stayB, e1, e2, e3, e4, List.all_cons, List.all_nil, Bool.and_eq_true, decide_eq_true_eq, Bool.and_true]
      omega
    · exact g7 i (by rw [← hn]; exact hi)
    · simp; omega
    · simp only at hi ⊢
      rw [List.getElem?_eq_getElem hi]
      exact g9 _ (List.getElem_mem hi)
    · exact g10 i (by rw [← hn]; exact hi)
    · exact g11 i (by rw [← hn]; exact hi)
    · simp; omega
    · simp only at hi ⊢
      rw [List.getElem?_eq_getElem hi]
      exact p2 _ (List.getElem_mem hi)
    · exact p3 i hi
    · simp; omega
    · simp only at hi ⊢
      rw [List.getElem?_eq_getElem hi]
      exact r2 _ (List.getElem_mem hi)
  unfold firstN
  rw [hb]
end Go.Proofs.YtlhjpcgfkkhogaaGreat.Zt
end
section
namespace Go.Proofs.YtlhjpcgfkkhogaaGreat.Zt
open Go Go.Zc
set_option maxRecDepth 100000

theorem nothing_F (st : Bool) (H : Heap) : l06_nothing_F st H [] = some (.bool true, H) := fz_run 300 (by kernel_rfl)
end Go.Proofs.YtlhjpcgfkkhogaaGreat.Zt
end
section
namespace Go.Proofs.YtlhjpcgfkkhogaaGreat.Zt
open Go Go.Zc
set_option maxRecDepth 10000

section
variable {α : Type} {f : α → List CV} {sz : Nat} {bl : List Blk} {v : CV} {l : List α}
theorem ones_mem : ∀ {cs : List CV} {c : CV}, ones cs = true → c ∈ cs → c.one = true
  | c :: cs, d, h, hd => by
    rw [ones_cons, Bool.and_eq_true] at h
    rcases List.mem_cons.1 hd with rfl | hd
    · exact h.1
    · exact ones_mem h.2 hd
theorem locs_mem : ∀ {cs : List CV} {c : CV}, CV.locs cs = false → c ∈ cs → c.locv = false
  | c :: cs, d, h, hd => by
    simp only [CV.locs, Bool.or_eq_false_iff] at h
    rcases List.mem_cons.1 hd with rfl | hd
    · exact h.1
    · exact locs_mem h.2 hd
/-- A cell of an element is written over. -/
theorem Own.put (hf : Flat f sz) (h : Own f sz bl v l) {i : Nat} (hi : i < l.length) (j : Nat) (hj : j < sz) (y : α) (w : CV) (hw : w.cells = [w]) (hy : f y = (f l[i]).set j w) :
    ∃ m, (∀ k, iaddrC sz v (.int k i) = some (.op (.blk m) (i * sz))) ∧ ∃ cs, (∀ bx, Heap.get ⟨bx, bl⟩ (.blk m) = some cs) ∧ cs.drop (i * sz) = f l[i] ++ (l.drop (i + 1)).flatMap f ∧
      ∃ bl', (∀ bx, stE 1 (i * sz + j) w ⟨bx, bl⟩ (.blk m) cs = some ⟨bx, bl'⟩) ∧ Own f sz bl' v (l.set i y) ∧ bl'.length = bl.length ∧ (∀ (k : Nat) (b : Blk), bl[k]? = some b → blkOf v ≠ some k → bl'[k]? = some b) := by
  obtain ⟨m, h1, h2, h3⟩ := h.iaddr hf (k := .i64) hi
  have hl : (l.take i).length = i := by rw [List.length_take]; omega
  have hst : l.set i y = l.take i ++ y :: l.drop (i + 1) := by
    rw [List.set_eq_take_append_cons_drop]; simp [hi]
  have hm : m < bl.length := (List.getElem?_eq_some_iff.1 h2).1
  have hwm : w ∈ f y := by
    rw [hy]
    exact List.mem_set (by rw [hf.len]; exact hj) _
  refine ⟨m, fun k => ?_, l.flatMap f, fun bx => get_blk bx bl m _ h2, ?_, bl.set m (.cells ((l.set i y).flatMap f)), fun bx => ?_, ?_, by simp, fun k b hk hne => ?_⟩
  · rw [h3] at h1 ⊢
    exact h1
  · rw [flatMap_drop hf.len, List.drop_eq_getElem_cons hi, List.flatMap_cons]
  · have hfl : l.flatMap f = ((l.take i).flatMap f ++ (f l[i]).take j) ++ [(f l[i])[j]'(by rw [hf.len]; exact hj)] ++ ((f l[i]).drop (j + 1) ++ (l.drop (i + 1)).flatMap f) := by
      have e1 : l = l.take i ++ l[i] :: l.drop (i + 1) := by rw [← List.drop_eq_getElem_cons hi, List.take_append_drop]
      have e2 : f l[i] = (f l[i]).take j ++ (f l[i])[j]'(by rw [hf.len]; exact hj) :: (f l[i]).drop (j + 1) := by rw [← List.drop_eq_getElem_cons (by rw [hf.len]; exact hj), List.take_append_drop]
      conv => lhs; rw [e1, List.flatMap_append, List.flatMap_cons, e2]
      simp only [List.append_assoc, List.cons_append, List.nil_append]
    have hy' : f y = (f l[i]).take j ++ w :: (f l[i]).drop (j + 1) := by
      rw [hy, List.set_eq_take_append_cons_drop, if_pos (by rw [hf.len]; exact hj)]
    have hln : ((l.take i).flatMap f ++ (f l[i]).take j).length = i * sz + j := by
      rw [List.length_append, hf.length, hl, List.length_take, hf.len]; omega
    have hsm := setMany_app [w] [(f l[i])[j]'(by rw [hf.len]; exact hj)] ((l.take i).flatMap f ++ (f l[i]).take j) ((f l[i]).drop (j + 1) ++ (l.drop (i + 1)).flatMap f) rfl
    rw [hln, ← hfl] at hsm
    have hb : (i + 1) * sz ≤ l.length * sz := Nat.mul_le_mul_right sz hi
    rw [Nat.add_mul, Nat.one_mul] at hb
    have o1 := ones_mem (hf.one y) hwm
    have o2 := locs_mem (hf.loc y) hwm
    unfold stE
    rw [if_pos ⟨by rw [hw]; rfl, by rw [hf.length]; omega, by rw [hw, ones_cons, o1]; rfl, .inr (by rw [hw]; simp only [CV.locs, o2, Bool.or_self])⟩, hw, hsm]
    rw [hst, List.flatMap_append, List.flatMap_cons, hy']
    simp only [List.append_assoc, List.cons_append, List.nil_append]
    rfl
  · rw [h3]
    exact .inr ⟨m, by simp, by simp [hm]⟩
  · rw [List.getElem?_set_ne (fun e => hne (by rw [h3, blkOf_os, e]))]
    exact hk
end

/-! ### Places -/
theorem Pl.set {l : Lay} {zs : List (Int × Int)} (h : Pl l zs) (k : Nat) {z : Nat × Nat} {p : Int × Int} (hz : RepZ z p) (hp : Near 10000000 p) : Pl { l with nodes := l.nodes.set k z } (zs.set k p) := by
  refine ⟨by simp only [List.length_set]; exact h.len, fun i w q hw hq => ?_, fun q hq => ?_⟩
  · simp only [List.getElem?_set] at hw hq
    by_cases hk : k = i
    · rw [if_pos hk] at hw hq
      split at hw
      · cases hw
        split at hq
        · cases hq; exact hz
        · cases hq
      · cases hw
    · rw [if_neg hk] at hw hq
      exact h.rep i w q hw hq
  · rcases List.mem_or_eq_of_mem_set hq with hq | rfl
    · exact h.near q hq
    · exact hp
theorem Pl.app {l : Lay} {zs : List (Int × Int)} (h : Pl l zs) {z : Nat × Nat} {p : Int × Int} (hz : RepZ z p) (hp : Near 10000000 p) : Pl { l with nodes := l.nodes ++ [z] } (zs ++ [p]) := by
  refine ⟨by simp only [List.length_append, List.length_singleton]; rw [h.len], fun i w q hw hq => ?_, fun q hq => ?_⟩
  · have hl := h.len
    by_cases hi : i < l.nodes.length
    · simp only at hw
      rw [List.getElem?_append_left hi] at hw
      rw [List.getElem?_append_left (by omega)] at hq
      exact h.rep i w q hw hq
    · simp only at hw
      rw [List.getElem?_append_right (by omega)] at hw
      rw [List.getElem?_append_right (by omega), ← hl] at hq
      cases hn : i - l.nodes.length with
      | zero =>
        rw [hn] at hw hq
        simp at hw hq
        subst hw hq
        exact hz
      | succ n =>
        rw [hn] at hw
        simp at hw
  · rcases List.mem_append.1 hq with hq | hq
    · exact h.near q hq
    · simp only [List.mem_singleton] at hq
      subst hq; exact hp
theorem Pl.more {l l' : Lay} {zs : List (Int × Int)} (h : Pl l zs) (hn : l'.nodes = l.nodes) : Pl l' zs := ⟨by rw [hn]; exact h.len, by rw [hn]; exact h.rep, h.near⟩

/-! ### Parts written over -/
theorem parts_set {bl : List Blk} {v : CV} {l : List (List Int)} (h : Own fL 1 bl v l) {i : Nat} (hi : i < l.length) (c : CV) (x : List Int) (hc1 : c.one = true) (hc2 : c.locv = false) (hc3 : c.cells = [c])
    (hc : c = .nils ∧ x = [] ∨ Own fI 1 bl c x ∧ ∀ k, blkOf c = some k → blkOf v ≠ some k) :
    ∃ m, (∀ k, iaddrC 1 v (.int k i) = some (.op (.blk m) i)) ∧ ∃ cs, (∀ bx, Heap.get ⟨bx, bl⟩ (.blk m) = some cs) ∧ cs.drop i = fL l[i] ++ (l.drop (i + 1)).flatMap fL ∧
      ∃ bl', (∀ bx, stE 1 i c ⟨bx, bl⟩ (.blk m) cs = some ⟨bx, bl'⟩) ∧ (∀ bx, snapV ⟨bx, bl'⟩ false false (snapN ⟨bx, bl'⟩ false false 7) v = some (sl fL (l.set i x))) ∧ (∀ (k : Nat) (b : Blk), bl[k]? = some b → blkOf v ≠ some k → bl'[k]? = some b) := by
  obtain ⟨m, h1, h2, h3⟩ := h.iaddr flatL (k := .i64) hi
  have hm : m < bl.length := (List.getElem?_eq_some_iff.1 h2).1
  have hl : (l.take i).length = i := by rw [List.length_take]; omega
  have hs : l = l.take i ++ l[i] :: l.drop (i + 1) := by rw [← List.drop_eq_getElem_cons hi, List.take_append_drop]
  have hst : l.set i x = l.take i ++ x :: l.drop (i + 1) := by
    rw [List.set_eq_take_append_cons_drop]; simp [hi]
  have hfr : ∀ (k : Nat) (b : Blk), bl[k]? = some b → blkOf v ≠ some k → (bl.set m (.cells ((l.take i).flatMap fL ++ c :: (l.drop (i + 1)).flatMap fL)))[k]? = some b := fun k b hk hne => by
    rw [List.getElem?_set_ne (fun e => hne (by rw [h3, blkOf_os, e]))]
    exact hk
  have hdr : (l.flatMap fL).drop i = fL l[i] ++ (l.drop (i + 1)).flatMap fL := by
    have := flatMap_drop flatL.len (l := l) (i := i)
    rw [Nat.mul_one] at this
    rw [this, List.drop_eq_getElem_cons hi, List.flatMap_cons]
  simp only [Nat.mul_one] at h1
  refine ⟨m, fun k => ?_, l.flatMap fL, fun bx => get_blk bx bl m _ h2, hdr, bl.set m (.cells ((l.take i).flatMap fL ++ c :: (l.drop (i + 1)).flatMap fL)), fun bx => ?_, fun bx => ?_, hfr⟩
  · rw [h3] at h1 ⊢
    exact h1
  · have hfl : l.flatMap fL = (l.take i).flatMap fL ++ [sl fI l[i]] ++ (l.drop (i + 1)).flatMap fL := by
      conv => lhs; rw [hs, List.flatMap_append, List.flatMap_cons]
      rw [List.append_assoc]
      rfl
    have hln : ((l.take i).flatMap fL).length = i := by rw [flatL.length, hl, Nat.mul_one]
    have hsm := setMany_app [c] [sl fI l[i]] ((l.take i).flatMap fL) ((l.drop (i + 1)).flatMap fL) rfl
    rw [hln, ← hfl] at hsm
    unfold stE
    rw [if_pos ⟨by rw [hc3]; rfl, by rw [flatL.length]; omega, by rw [hc3, ones_cons, hc1]; rfl, .inr (by rw [hc3]; simp only [CV.locs, hc2, Bool.or_self])⟩, hc3, hsm]
    simp only [List.append_assoc, List.cons_append, List.nil_append]
    rfl
  · have hget : Heap.get ⟨bx, bl.set m (.cells ((l.take i).flatMap fL ++ c :: (l.drop (i + 1)).flatMap fL))⟩ (.blk m) = some ((l.take i).flatMap fL ++ c :: (l.drop (i + 1)).flatMap fL) := get_blk _ _ m _ (by simp [hm])
    have hlen : ((l.take i).flatMap fL ++ c :: (l.drop (i + 1)).flatMap fL).length = l.length := by
      rw [List.length_append, List.length_cons, flatL.length, flatL.length, List.length_take, List.length_drop]; omega
    have hsl : ∀ (n : Nat) (y : List (List Int)), mapC (snapN ⟨bx, bl.set m (.cells ((l.take i).flatMap fL ++ c :: (l.drop (i + 1)).flatMap fL))⟩ false false (n + 1)) (y.flatMap fL) = some (y.flatMap fL) := fun n y => mapC_id fun c hc => by
      obtain ⟨z, _, hz⟩ := List.mem_flatMap.1 hc
      simp only [fL, List.mem_singleton] at hz
      subst hz
      rfl
    have hcs : snapN ⟨bx, bl.set m (.cells ((l.take i).flatMap fL ++ c :: (l.drop (i + 1)).flatMap fL))⟩ false false 7 c = some (sl fI x) := by
      rcases hc with ⟨rfl, rfl⟩ | ⟨ho, hd⟩
      · rfl
      · have ho' : Own fI 1 (bl.set m (.cells ((l.take i).flatMap fL ++ c :: (l.drop (i + 1)).flatMap fL))) c x := by
          rcases ho with h | ⟨k, rfl, h⟩
          · exact .inl h
          · exact .inr ⟨k, rfl, hfr k _ h (hd k rfl)⟩
        exact ho'.snapV flatI bx false _ (fun x c hc => by simp only [fI, List.mem_singleton] at hc; subst hc; rfl)
    have hmap : ∀ (a b : List CV) (A B : List CV) (d e : CV) (g : CV → Option CV), mapC g a = some A → mapC g b = some B → g d = some e → mapC g (a ++ d :: b) = some (A ++ e :: B) := by
      intro a
      induction a with
      | nil =>
        intro b A B d e g h1 h2 h3
        simp only [mapC, Option.some.injEq] at h1
        subst h1
        simp only [List.nil_append, mapC, h2, h3, Option.bind_some, Option.map_some]
      | cons q a ih =>
        intro b A B d e g h1 h2 h3
        simp only [mapC] at h1
        obtain ⟨q', hq, h1⟩ := Option.bind_eq_some_iff.1 h1
        obtain ⟨A', hA, h1⟩ := Option.map_eq_some_iff.1 h1
        subst h1
        simp only [List.cons_append, mapC, hq, ih b A' B d e g hA h2 h3, Option.bind_some, Option.map_some]
    rw [h3]
    unfold Zc.snapV
    rw [if_neg (by omega), hget]
    simp only [Option.bind_some, Nat.zero_add, List.drop_zero, Nat.mul_one]
    have htk : List.take l.length ((l.take i).flatMap fL ++ c :: (l.drop (i + 1)).flatMap fL) = (l.take i).flatMap fL ++ c :: (l.drop (i + 1)).flatMap fL := List.take_of_length_le (by omega)
    rw [if_pos (by omega), htk, hmap _ _ _ _ _ _ _ (hsl 6 _) (hsl 6 _) hcs]
    simp only [Option.map_some]
    rw [hst]
    unfold sl
    rw [List.flatMap_append, List.flatMap_cons]
    simp only [List.cons_append, List.nil_append, List.length_append, List.length_cons, hl, List.length_drop]
    congr 2
    omega
end Go.Proofs.YtlhjpcgfkkhogaaGreat.Zt
end
section
namespace Go.Proofs.YtlhjpcgfkkhogaaGreat.Zt
open Go Go.Zc
set_option maxRecDepth 10000

def InR (v : CV) (a b : Nat) : Prop := ∀ k, blkOf v = some k → a ≤ k ∧ k < b
theorem dj_of {v w : CV} {a b c d : Nat} (hv : InR v a b) (hw : InR w c d) (h : b ≤ c ∨ d ≤ a) : Dj v w := fun k h1 h2 => by
  have := hv k h1
  have := hw k h2
  omega
theorem dj_new {v w : CV} {n a b : Nat} (hv : ∀ k, blkOf v = some k → n ≤ k) (hw : InR w a b) (h : b ≤ n) : Dj v w := fun k h1 h2 => by
  have := hv k h1
  have := hw k h2
  omega
/-- A copy of a list, in memory of one's own. -/
theorem copy1 {α : Type} {f : α → List CV} {sz : Nat} (hf : Flat f sz) (bl : List Blk) (l : List α) {bytes : Nat} {zero : List CV} (hb : 0 < bytes) (hz : zero.length = sz) (hz1 : Zc.ones zero = true) (hm : l.length * bytes ≤ 140737488355328) :
    ∃ v bl', (∀ bx, heapOp (.app sz bytes zero) [.nils, sl f l] ⟨bx, bl⟩ = some (v, ⟨bx, bl'⟩)) ∧ Own f sz bl' v l ∧ (∀ (m : Nat) (b : Blk), bl[m]? = some b → bl'[m]? = some b) ∧ InR v bl.length bl'.length ∧ bl.length ≤ bl'.length := by
  obtain ⟨v, bl', e, o, h1, h2, h3⟩ := (Own.nil f sz bl).appSl hf hb hz hz1 l (by simpa using hm)
  rw [List.nil_append] at o
  refine ⟨v, bl', e, o, fun m b h => h2 m b h (fun e => by cases e), fun k hk => ⟨?_, o.lt hk⟩, h1⟩
  rcases h3 with h3 | h3
  · rw [h3] at hk; cases hk
  · rw [h3] at hk; cases hk; exact Nat.le_refl _
theorem snZ {bl : List Blk} {v : CV} {l : List (Nat × Nat)} (o : Own fZ 1 bl v l) : ∀ bx, snapV ⟨bx, bl⟩ false false (snapN ⟨bx, bl⟩ false false 7) v = some (sl fZ l) := fun bx => o.snapV flatZ bx false _ (fun x c hc => by simp only [fZ, List.mem_singleton] at hc; subst hc; rfl)
theorem snS {bl : List Blk} {v : CV} {l : List Sec} (o : Own fS 3 bl v l) : ∀ bx, snapV ⟨bx, bl⟩ false false (snapN ⟨bx, bl⟩ false false 7) v = some (sl fS l) := fun bx => o.snapV flatS bx false _ (fun x c hc => by simp only [fS, List.mem_cons, List.not_mem_nil, or_false] at hc; rcases hc with rfl | rfl | rfl <;> rfl)
theorem snP {bl : List Blk} {v : CV} {l : List Pt} (o : Own fP 4 bl v l) : ∀ bx, snapV ⟨bx, bl⟩ false false (snapN ⟨bx, bl⟩ false false 7) v = some (sl fP l) := fun bx => o.snapV flatP bx false _ (fun x c hc => by simp only [fP, List.mem_cons, List.not_mem_nil, or_false] at hc; rcases hc with rfl | rfl | rfl | rfl <;> rfl)
theorem snL {bl : List Blk} {v : CV} {l : List (List Int)} (o : Own fL 1 bl v l) : ∀ bx, snapV ⟨bx, bl⟩ false false (snapN ⟨bx, bl⟩ false false 7) v = some (sl fL l) := fun bx => o.snapV flatL bx false _ (snap_L ⟨bx, bl⟩ false 6)
structure Cop (l : Lay) (vN vS vP vT vR : CV) (bl1 bl2 bl3 bl4 bl : List Blk) : Prop where
  e1 : ∀ bx, heapOp (.app 1 16 [.cplx .f64 0 0]) [.nils, sl fZ l.nodes] ⟨bx, []⟩ = some (vN, ⟨bx, bl1⟩)
  e2 : ∀ bx, heapOp (.app 3 24 [.int .i64 0, .int .i64 0, .int .i64 0]) [.nils, sl fS l.secs] ⟨bx, bl1⟩ = some (vS, ⟨bx, bl2⟩)
  e3 : ∀ bx, heapOp (.app 4 32 [.int .i64 0, .int .i64 0, .int .i64 0, .int .i64 0]) [.nils, sl fP l.pts] ⟨bx, bl2⟩ = some (vP, ⟨bx, bl3⟩)
  e4 : ∀ bx, heapOp (.app 1 24 [.nils]) [.nils, sl fL l.parts] ⟨bx, bl3⟩ = some (vT, ⟨bx, bl4⟩)
  e5 : ∀ bx, heapOp (.app 1 24 [.nils]) [.nils, sl fL l.routes] ⟨bx, bl4⟩ = some (vR, ⟨bx, bl⟩)
  oN : Own fZ 1 bl vN l.nodes
  oS : Own fS 3 bl vS l.secs
  oP : Own fP 4 bl vP l.pts
  oT : Own fL 1 bl vT l.parts
  oR : Own fL 1 bl vR l.routes
  rN : InR vN 0 bl1.length
  rS : InR vS bl1.length bl2.length
  rP : InR vP bl2.length bl3.length
  rT : InR vT bl3.length bl4.length
  rR : InR vR bl4.length bl.length
  b1 : bl1.length ≤ bl2.length
  b2 : bl2.length ≤ bl3.length
  b3 : bl3.length ≤ bl4.length
  b4 : bl4.length ≤ bl.length
theorem copies {l : Lay} (h1 : l.nodes.length ≤ 1000) (h2 : l.secs.length ≤ 1000) (h3 : l.pts.length ≤ 1000) (h4 : l.parts.length ≤ 1000) (h5 : l.routes.length ≤ 1000) : ∃ vN vS vP vT vR bl1 bl2 bl3 bl4 bl, Cop l vN vS vP vT vR bl1 bl2 bl3 bl4 bl := by
  obtain ⟨vN, bl1, e1, o1, k1, r1, l1⟩ := copy1 flatZ [] l.nodes (bytes := 16) (zero := [.cplx .f64 0 0]) (by decide) rfl rfl (by omega)
  obtain ⟨vS, bl2, e2, o2, k2, r2, l2⟩ := copy1 flatS bl1 l.secs (bytes := 24) (zero := [.int .i64 0, .int .i64 0, .int .i64 0]) (by decide) rfl rfl (by omega)
  obtain ⟨vP, bl3, e3, o3, k3, r3, l3⟩ := copy1 flatP bl2 l.pts (bytes := 32) (zero := [.int .i64 0, .int .i64 0, .int .i64 0, .int .i64 0]) (by decide) rfl rfl (by omega)
  obtain ⟨vT, bl4, e4, o4, k4, r4, l4⟩ := copy1 flatL bl3 l.parts (bytes := 24) (zero := [.nils]) (by decide) rfl rfl (by omega)
  obtain ⟨vR, bl5, e5, o5, k5, r5, l5⟩ := copy1 flatL bl4 l.routes (bytes := 24) (zero := [.nils]) (by decide) rfl rfl (by omega)
  exact ⟨vN, vS, vP, vT, vR, bl1, bl2, bl3, bl4, bl5, e1, e2, e3, e4, e5, (((o1.keep k2).keep k3).keep k4).keep k5, ((o2.keep k3).keep k4).keep k5, (o3.keep k4).keep k5, o4.keep k5, o5, r1, r2, r3, r4, r5, l2, l3, l4, l5⟩
theorem tmod_at {a : Int} (ha : 0 ≤ a) {n : Nat} (hn : 0 < n) : a.tmod (n : Int) = (((a % n).toNat : Nat) : Int) ∧ (a % n).toNat < n := by
  rw [Int.tmod_eq_emod_of_nonneg ha]
  have := Int.emod_nonneg a (b := (n : Int)) (by omega)
  have := Int.emod_lt_of_pos a (b := (n : Int)) (by omega)
  omega
end Go.Proofs.YtlhjpcgfkkhogaaGreat.Zt
end
section
namespace Go.Proofs.YtlhjpcgfkkhogaaGreat.Zt
open Go Go.Zc
set_option maxRecDepth 10000

theorem fL_one (x : List Int) : (fL x).length = 1 := rfl
def OwnL (bl : List Blk) : List CV → List (List Int) → Prop
  | [], [] => True
  | c :: cs, r :: rs => Own fI 1 bl c r ∧ OwnL bl cs rs
  | _, _ => False
theorem OwnL.length {bl : List Blk} : ∀ {cs : List CV} {rs : List (List Int)}, OwnL bl cs rs → cs.length = rs.length
  | [], [], _ => rfl
  | _ :: _, _ :: _, h => by simp [OwnL.length h.2]
  | [], _ :: _, h => h.elim
  | _ :: _, [], h => h.elim
theorem OwnL.cells {bl : List Blk} : ∀ {cs : List CV} {rs : List (List Int)}, OwnL bl cs rs → Cells bl cs (rs.flatMap fL)
  | [], [], _ => trivial
  | _ :: _, _ :: _, h => ⟨cell_own h.1, OwnL.cells h.2⟩
  | [], _ :: _, h => h.elim
  | _ :: _, [], h => h.elim
theorem OwnL.keep {bl bl' : List Blk} : ∀ {cs : List CV} {rs : List (List Int)}, OwnL bl cs rs → (∀ c ∈ cs, ∀ (m : Nat) (b : Blk), bl[m]? = some b → blkOf c = some m → bl'[m]? = some b) → OwnL bl' cs rs
  | [], [], _, _ => trivial
  | c :: cs, _ :: _, h, hk => ⟨by
      rcases h.1 with h1 | ⟨m, rfl, h1⟩
      · exact .inl h1
      · exact .inr ⟨m, rfl, hk _ List.mem_cons_self m _ h1 rfl⟩, OwnL.keep h.2 fun d hd => hk d (List.mem_cons_of_mem _ hd)⟩
  | [], _ :: _, h, _ => h.elim
  | _ :: _, [], h, _ => h.elim
theorem OwnL.snoc {bl : List Blk} {c : CV} {r : List Int} (ho : Own fI 1 bl c r) : ∀ {cs : List CV} {rs : List (List Int)}, OwnL bl cs rs → OwnL bl (cs ++ [c]) (rs ++ [r])
  | [], [], _ => ⟨ho, trivial⟩
  | _ :: _, _ :: _, h => ⟨h.1, OwnL.snoc ho h.2⟩
  | [], _ :: _, h => h.elim
  | _ :: _, [], h => h.elim
theorem OwnL.get {bl : List Blk} : ∀ {cs : List CV} {rs : List (List Int)}, OwnL bl cs rs → ∀ {i : Nat} {c : CV}, cs[i]? = some c → ∃ r, rs[i]? = some r ∧ Own fI 1 bl c r
  | [], [], _, i, c, h => by simp at h
  | d :: cs, r :: rs, h, 0, c, hc => by
    simp at hc
    subst hc
    exact ⟨r, rfl, h.1⟩
  | d :: cs, r :: rs, h, i + 1, c, hc => OwnL.get h.2 hc
  | [], _ :: _, h, _, _, _ => h.elim
  | _ :: _, [], h, _, _, _ => h.elim
theorem OwnL.set {bl : List Blk} {c : CV} {r : List Int} (ho : Own fI 1 bl c r) : ∀ {cs : List CV} {rs : List (List Int)} {i : Nat}, (∀ (j : Nat) (d : CV), cs[j]? = some d → j ≠ i → ∃ s, rs[j]? = some s ∧ Own fI 1 bl d s) → cs.length = rs.length → OwnL bl (cs.set i c) (rs.set i r)
  | [], [], i, _, _ => trivial
  | d :: cs, s :: rs, 0, h, hl => ⟨ho, by
    have : ∀ (cs : List CV) (rs : List (List Int)), (∀ (j : Nat) (d : CV), cs[j]? = some d → ∃ s, rs[j]? = some s ∧ Own fI 1 bl d s) → cs.length = rs.length → OwnL bl cs rs := by
      intro cs
      induction cs with
      | nil =>
        intro rs _ hl
        cases rs with
        | nil => trivial
        | cons a b => simp at hl
      | cons a cs ih =>
        intro rs h hl
        cases rs with
        | nil => simp at hl
        | cons b rs =>
          refine ⟨?_, ih rs (fun j d hd => h (j + 1) d hd) (by simpa using hl)⟩
          obtain ⟨s, h1, h2⟩ := h 0 a rfl
          simp at h1
          subst h1
          exact h2
    exact this cs rs (fun j d hd => h (j + 1) d hd (by omega)) (by simpa using hl)⟩
  | d :: cs, s :: rs, i + 1, h, hl => ⟨by
      obtain ⟨s', h1, h2⟩ := h 0 d rfl (by omega)
      simp at h1
      subst h1
      exact h2, OwnL.set ho (fun j d hd hj => h (j + 1) d hd (by omega)) (by simpa using hl)⟩
  | [], _ :: _, _, _, hl => by simp at hl
  | _ :: _, [], _, _, hl => by simp at hl

def Rows (bl : List Blk) (v : CV) (rows : List (List Int)) : Prop :=
  (v = .nils ∧ rows = []) ∨ ∃ m cs, v = .os 1 (.blk m) 0 rows.length ∧ bl[m]? = some (.cells cs) ∧ OwnL bl cs rows ∧ (∀ c ∈ cs, blkOf c ≠ some m) ∧ cs.Pairwise Dj
theorem Rows.deep {bl : List Blk} {v : CV} {rows : List (List Int)} (h : Rows bl v rows) : Deep fL 1 bl v rows := by
  rcases h with h | ⟨m, cs, h1, h2, h3, h4, _⟩
  · exact .inl h
  · exact .inr ⟨m, cs, h1, h2, h3.cells, h4⟩
theorem Rows.keep {bl bl' : List Blk} {v : CV} {rows : List (List Int)} (h : Rows bl v rows) (hk : ∀ (m : Nat) (b : Blk), bl[m]? = some b → Deep.reach bl v m → bl'[m]? = some b) : Rows bl' v rows := by
  rcases h with h | ⟨m, cs, rfl, h2, h3, h4, h5⟩
  · exact .inl h
  · exact .inr ⟨m, cs, rfl, hk m _ h2 (.inl rfl), h3.keep fun c hc k b hb hck => hk k b hb (.inr ⟨m, cs, rfl, h2, c, hc, hck⟩), h4, h5⟩
/-- A row more. -/
theorem Rows.app {bl : List Blk} {v : CV} {rows : List (List Int)} (h : Rows bl v rows) {c : CV} {r : List Int} (ho : Own fI 1 bl c r) (hc : ∀ k, blkOf c = some k → ¬ Deep.reach bl v k) (hm : (rows.length + 1) * 24 ≤ 140737488355328) :
    ∃ v' bl', (∀ bx, heapOp (.app 1 24 [.nils]) [v, .os 1 (.blk bl.length) 0 1] ⟨bx, bl ++ [.cells [c]]⟩ = some (v', ⟨bx, bl'⟩)) ∧ Rows bl' v' (rows ++ [r]) ∧
      Fr bl bl' v ∧ (∀ k, Deep.reach bl' v' k → k = bl.length + 1 ∨ Deep.reach bl v k ∨ blkOf c = some k) := by
  have hsh : ∀ bx, shown ⟨bx, bl ++ [Blk.cells [c]]⟩ 1 (.os 1 (.blk bl.length) 0 1) = some [c] := by
    intro bx
    unfold shown
    simp only [if_true]
    rw [get_blk bx _ bl.length [c] (by simp)]
    simp
  have hc' := decide_eq_true hm
  have hz1 : Zc.ones [CV.nils] = true := rfl
  have r1 : Zc.ones [c] = true := by rw [ones_cons, ho.one]; rfl
  have r2 : CV.locs [c] = false := by simp only [CV.locs, ho.locv, Bool.or_self]
  rcases h with ⟨rfl, rfl⟩ | ⟨m, cs, rfl, h2, h3, h4, h5⟩
  · refine ⟨.os 1 (.blk (bl.length + 1)) 0 1, bl ++ [.cells [c]] ++ [.cells [c]], fun bx => ?_, .inr ⟨bl.length + 1, [c], by simp, by simp, ⟨?_, trivial⟩, fun d hd e => ?_, List.pairwise_singleton _ _⟩, fun k b hk _ => ?_, fun k hk => ?_⟩
    · simp only [heapOp, lenOf, Nat.one_ne_zero, if_false, hsh, Option.bind_some, r1, r2, hz1, List.length_singleton, decide_true, Bool.true_and, Bool.not_false, Bool.and_true, appC, Heap.push]
      rw [if_pos (by simp)]
      simp
    · rcases ho with h | ⟨k, rfl, h⟩
      · exact .inl h
      · exact .inr ⟨k, rfl, by
          have := (List.getElem?_eq_some_iff.1 h).1
          rw [List.append_assoc, List.getElem?_append_left this]; exact h⟩
    · simp only [List.mem_singleton] at hd
      subst hd
      have := ho.lt e; omega
    · have := (List.getElem?_eq_some_iff.1 hk).1
      rw [List.append_assoc, List.getElem?_append_left this]; exact hk
    · rcases hk with hk | ⟨m, cs, h1, h2, d, hd, hck⟩
      · cases hk; exact .inl rfl
      · cases h1
        have : cs = [c] := by simpa using h2.symm
        subst this
        simp only [List.mem_singleton] at hd
        subst hd
        exact .inr (.inr hck)
  · have hml : m < bl.length := (List.getElem?_eq_some_iff.1 h2).1
    have hlen := h3.length
    have h2' : (bl ++ [Blk.cells [c]])[m]? = some (.cells cs) := by rw [List.getElem?_append_left hml]; exact h2
    have hkeep : ∀ (k : Nat) (b : Blk), bl[k]? = some b → k ≠ m → (((bl ++ [Blk.cells [c]]).set m .dead) ++ [Blk.cells (cs ++ [c])])[k]? = some b := fun k b hb hne => by
      have hkl := (List.getElem?_eq_some_iff.1 hb).1
      rw [List.getElem?_append_left (by simp; omega), List.getElem?_set_ne (Ne.symm hne), List.getElem?_append_left hkl]; exact hb
    have hcm : ∀ k, blkOf c = some k → k ≠ m := fun k hk e => hc k hk (.inl (by rw [e]; rfl))
    have ho' : Own fI 1 (((bl ++ [Blk.cells [c]]).set m .dead) ++ [Blk.cells (cs ++ [c])]) c r := by
      rcases ho with h | ⟨k, rfl, h⟩
      · exact .inl h
      · exact .inr ⟨k, rfl, hkeep k _ h (hcm k rfl)⟩
    refine ⟨.os 1 (.blk (bl.length + 1)) 0 (rows.length + 1), ((bl ++ [Blk.cells [c]]).set m .dead) ++ [Blk.cells (cs ++ [c])], fun bx => ?_, .inr ⟨bl.length + 1, cs ++ [c], by simp, by simp, OwnL.snoc ho' (h3.keep fun d hd k b hb hck => hkeep k b hb fun e => h4 d hd (by rw [hck, e])), fun d hd e => ?_, ?_⟩, fun k b hk hne => hkeep k b hk fun e => hne (by rw [e]; rfl), fun k hk => ?_⟩
    · simp only [heapOp, lenOf, Nat.one_ne_zero, if_false, hsh, Option.bind_some, r1, r2, hz1, List.length_singleton, hc', decide_true, Bool.true_and, Bool.not_false, Bool.and_true, if_true, appC]
      rw [get_blk bx _ m _ h2']
      simp only [Option.bind_some, hlen, Nat.mul_one, Nat.le_refl, if_true, Heap.kill, Heap.push]
      rw [List.take_of_length_le (by omega)]
      simp [hm]
    · rcases List.mem_append.1 hd with hd | hd
      · obtain ⟨i, hi, rfl⟩ := List.getElem_of_mem hd
        obtain ⟨s, _, os⟩ := h3.get (List.getElem?_eq_getElem hi)
        have := os.lt e; omega
      · simp only [List.mem_singleton] at hd
        subst hd
        have := ho.lt e; omega
    · rw [List.pairwise_append]
      refine ⟨h5, List.pairwise_singleton _ _, fun d hd e he => ?_⟩
      simp only [List.mem_singleton] at he
      subst he
      exact fun k h1 h2' => hc k h2' (.inr ⟨m, cs, rfl, h2, d, hd, h1⟩)
    · rcases hk with hk | ⟨m', cs', h1, h2', d, hd, hck⟩
      · cases hk; exact .inl rfl
      · cases h1
        have : cs' = cs ++ [c] := by
          rw [List.getElem?_append_right (by simp)] at h2'
          simpa using h2'.symm
        subst this
        rcases List.mem_append.1 hd with hd | hd
        · exact .inr (.inl (.inr ⟨m, cs, rfl, h2, d, hd, hck⟩))
        · simp only [List.mem_singleton] at hd
          subst hd
          exact .inr (.inr hck)
/-- A number more in a row. -/
theorem Rows.more {bl : List Blk} {v : CV} {rows : List (List Int)} (h : Rows bl v rows) {i : Nat} (hi : i < rows.length) (x : Int) (hm : (rows[i].length + 1) * 8 ≤ 140737488355328) :
    ∃ m cs c c' bl1 bl2, (∀ k, iaddrC 1 v (.int k i) = some (.op (.blk m) i)) ∧ (∀ bx, Heap.get ⟨bx, bl⟩ (.blk m) = some cs) ∧ cs.drop i = c :: cs.drop (i + 1) ∧ c.one = true ∧ c.locv = false ∧ c.und? = false ∧ c.cells = [c] ∧
      (∀ bx, heapOp (.app 1 8 [.int .i64 0]) [c, .vs [.int .i64 x] 1] ⟨bx, bl⟩ = some (c', ⟨bx, bl1⟩)) ∧ c'.one = true ∧ c'.locv = false ∧ c'.und? = false ∧ c'.cells = [c'] ∧
      (∀ bx, Heap.get ⟨bx, bl1⟩ (.blk m) = some cs) ∧ (∀ bx, stE 1 i c' ⟨bx, bl1⟩ (.blk m) cs = some ⟨bx, bl2⟩) ∧ Rows bl2 v (rows.set i (rows[i] ++ [x])) ∧
      (∀ (k : Nat) (b : Blk), bl[k]? = some b → ¬ Deep.reach bl v k → bl2[k]? = some b) ∧ (∀ k, Deep.reach bl2 v k → k = bl.length ∨ Deep.reach bl v k) ∧ bl.length ≤ bl2.length := by
  rcases h with ⟨rfl, rfl⟩ | ⟨m, cs, rfl, h2, h3, h4, h5⟩
  · simp at hi
  · have hml : m < bl.length := (List.getElem?_eq_some_iff.1 h2).1
    have hlen := h3.length
    have hci : i < cs.length := by omega
    obtain ⟨r, hr, ho⟩ := h3.get (List.getElem?_eq_getElem hci)
    rw [List.getElem?_eq_getElem hi] at hr
    cases hr
    obtain ⟨c', bl1, e1, o1, l1, f1, b1⟩ := ho.app1 flatI (bytes := 8) (zero := [.int .i64 0]) (by decide) rfl rfl x hm
    have hmem : cs[i] ∈ cs := List.getElem_mem hci
    have h2' : bl1[m]? = some (.cells cs) := f1 m _ h2 (h4 _ hmem)
    have hm1 : m < bl1.length := (List.getElem?_eq_some_iff.1 h2').1
    have hdj : ∀ j d, cs[j]? = some d → j ≠ i → Dj cs[i] d := fun j d hd hj => by
      have hjl := (List.getElem?_eq_some_iff.1 hd).1
      have hje : cs[j] = d := (List.getElem?_eq_some_iff.1 hd).2
      rw [List.pairwise_iff_getElem] at h5
      rcases Nat.lt_or_gt_of_ne hj with h | h
      · have := h5 j i hjl hci h
        rw [hje] at this
        exact this.symm
      · have := h5 i j hci hjl h
        rw [hje] at this
        exact this
    have hfr : ∀ (k : Nat) (b : Blk), bl[k]? = some b → k ≠ m → blkOf cs[i] ≠ some k → (bl1.set m (.cells (cs.set i c')))[k]? = some b := fun k b hb hk hne => by
      rw [List.getElem?_set_ne (Ne.symm hk)]
      exact f1 k b hb hne
    have hc'm : blkOf c' ≠ some m := fun e => by
      rcases b1 with hb | hb
      · exact h4 _ hmem (by rw [← hb]; exact e)
      · rw [hb] at e; cases e; omega
    have ho2 : Own fI 1 (bl1.set m (.cells (cs.set i c'))) c' (rows[i] ++ [x]) := by
      rcases o1 with h | ⟨k, rfl, h⟩
      · exact .inl h
      · exact .inr ⟨k, rfl, by rw [List.getElem?_set_ne (fun e => hc'm (by rw [blkOf_os, e]))]; exact h⟩
    refine ⟨m, cs, cs[i], c', bl1, bl1.set m (.cells (cs.set i c')), fun k => ?_, fun bx => get_blk bx bl m _ h2, List.drop_eq_getElem_cons hci, ho.one, ho.locv, ho.und, ho.cells, e1, o1.one, o1.locv, o1.und, o1.cells, fun bx => get_blk bx bl1 m _ h2', fun bx => ?_, .inr ⟨m, cs.set i c', by simp, by simp [hm1], OwnL.set ho2 (fun j d hd hj => ?_) hlen, fun d hd e => ?_, ?_⟩, fun k b hb hne => ?_, fun k hk => ?_, by simpa using l1⟩
    · unfold iaddrC iaddrN
      simp only [Int.toNat_natCast, Nat.zero_add, Nat.mul_one]
      rw [if_pos ⟨trivial, by omega, by omega⟩]
    · unfold stE
      rw [if_pos ⟨by rw [o1.cells]; rfl, by omega, by rw [o1.cells, ones_cons, o1.one]; rfl, .inr (by rw [o1.cells]; simp only [CV.locs, o1.locv, Bool.or_self])⟩, o1.cells]
      have hs := setMany_app [c'] [cs[i]] (cs.take i) (cs.drop (i + 1)) rfl
      rw [List.length_take, show min i cs.length = i by omega] at hs
      have hcs : cs = cs.take i ++ [cs[i]] ++ cs.drop (i + 1) := by
        rw [List.append_assoc, List.singleton_append, ← List.drop_eq_getElem_cons hci, List.take_append_drop]
      conv => lhs; rw [hcs, hs]
      have hse : cs.set i c' = cs.take i ++ c' :: cs.drop (i + 1) := by rw [List.set_eq_take_append_cons_drop, if_pos hci]
      rw [hse]
      simp only [List.append_assoc, List.singleton_append]
      rfl
    · obtain ⟨s, hs, os⟩ := h3.get hd
      refine ⟨s, hs, ?_⟩
      rcases os with h | ⟨k, rfl, h⟩
      · exact .inl h
      · exact .inr ⟨k, rfl, hfr k _ h (fun e => h4 _ (List.mem_of_getElem? hd) (by rw [blkOf_os, e])) fun e => hdj j _ hd hj k e rfl⟩
    · rcases List.mem_or_eq_of_mem_set hd with hd | rfl
      · exact h4 d hd e
      · exact hc'm e
    · rw [List.pairwise_iff_getElem]
      rw [List.pairwise_iff_getElem] at h5
      have hnew : ∀ j (hj : j < cs.length), j ≠ i → Dj c' cs[j] := fun j hj hji k h1 h2 => by
        rcases b1 with hb | hb
        · rw [hb] at h1
          exact hdj j _ (List.getElem?_eq_getElem hj) hji k h1 h2
        · rw [hb] at h1
          cases h1
          obtain ⟨s, _, os⟩ := h3.get (List.getElem?_eq_getElem hj)
          have := os.lt h2
          omega
      intro a b ha hb hab
      rw [List.length_set] at ha hb
      rw [List.getElem_set, List.getElem_set]
      split
      · rename_i e
        subst e
        rw [if_neg (by omega)]
        exact hnew b hb (by omega)
      · split
        · rename_i _ e
          subst e
          exact (hnew a ha (by omega)).symm
        · exact h5 a b ha hb hab
    · exact hfr k b hb (fun e => hne (.inl (by rw [e]; rfl))) fun e => hne (.inr ⟨m, cs, rfl, h2, _, hmem, e⟩)
    · rcases hk with hk | ⟨m', cs', q1, q2, d, hd, hck⟩
      · exact .inr (.inl hk)
      · cases q1
        have : cs' = cs.set i c' := by
          rw [List.getElem?_set_self hm1] at q2
          simpa using q2.symm
        subst this
        rcases List.mem_or_eq_of_mem_set hd with hd | rfl
        · exact .inr (.inr ⟨m, cs, rfl, h2, d, hd, hck⟩)
        · rcases b1 with hb | hb
          · exact .inr (.inr ⟨m, cs, rfl, h2, _, hmem, by rw [← hb]; exact hck⟩)
          · rw [hb] at hck; cases hck; exact .inl rfl
end Go.Proofs.YtlhjpcgfkkhogaaGreat.Zt
end
section
namespace Go.Proofs.YtlhjpcgfkkhogaaGreat.Zt
open Go Go.Zc
set_option maxRecDepth 10000

def mNodes (n : Nat) : List (Nat × Nat) := (List.range n).map fun (i : Nat) => (FloatKind.f64.nearest (10 * (i : Int)), 0)
def mZs (n : Nat) : List (Int × Int) := (List.range n).map fun (i : Nat) => (10 * (i : Int), (0 : Int))
def mSecs (n : Nat) : List Sec := (List.range n).map fun (i : Nat) => (⟨10, (i : Int), ((i + 1 : Nat) : Int)⟩ : Sec)
def mParts (even : Bool) : Nat → List (List Int)
  | 0 => []
  | i + 1 => if i < 16 ∨ even = true then mParts even i ++ [[(i : Int)]] else (mParts even i).set 15 ((mParts even i).getD 15 [] ++ [(i : Int)])
theorem mNodes_succ (n : Nat) : mNodes (n + 1) = mNodes n ++ [(FloatKind.f64.nearest (10 * (n : Int)), 0)] := by simp [mNodes, List.range_succ]
theorem mSecs_succ (n : Nat) : mSecs (n + 1) = mSecs n ++ [⟨10, (n : Int), ((n + 1 : Nat) : Int)⟩] := by simp [mSecs, List.range_succ]
theorem mNodes_len (n : Nat) : (mNodes n).length = n := by simp [mNodes]
theorem mSecs_len (n : Nat) : (mSecs n).length = n := by simp [mSecs]
theorem mParts_len (even : Bool) : ∀ n, (mParts even n).length = if n ≤ 16 ∨ even = true then n else 16
  | 0 => by simp [mParts]
  | n + 1 => by
    have ih := mParts_len even n
    simp only [mParts]
    by_cases h : n < 16 ∨ even = true
    · rw [if_pos h, List.length_append, ih, if_pos (by rcases h with h | h; exact .inl (by omega); exact .inr h), if_pos (by rcases h with h | h; exact .inl (by omega); exact .inr h)]
      rfl
    · rw [if_neg h, List.length_set, ih]
      rw [not_or] at h
      by_cases h16 : n ≤ 16
      · rw [if_pos (.inl h16), if_neg (by rw [not_or]; exact ⟨by omega, h.2⟩)]; omega
      · rw [if_neg (by rw [not_or]; exact ⟨h16, h.2⟩), if_neg (by rw [not_or]; exact ⟨by omega, h.2⟩)]
theorem mParts_part (even : Bool) : ∀ n, ∀ x ∈ mParts even n, x.length ≤ n
  | 0, x, h => by simp [mParts] at h
  | n + 1, x, h => by
    have ih := mParts_part even n
    simp only [mParts] at h
    split at h
    · rcases List.mem_append.1 h with h | h
      · have := ih x h; omega
      · simp only [List.mem_singleton] at h; subst h; simp
    · rcases List.mem_or_eq_of_mem_set h with h | rfl
      · have := ih x h; omega
      · rw [List.length_append, List.length_singleton]
        have : ((mParts even n).getD 15 []).length ≤ n := by
          rw [List.getD_eq_getElem?_getD]
          cases hq : (mParts even n)[15]? with
          | none => simp
          | some y => exact ih y (List.mem_of_getElem? hq)
        omega
theorem mParts_succ1 {even : Bool} {i : Nat} (h : i < 16 ∨ even = true) : mParts even (i + 1) = mParts even i ++ [[(i : Int)]] := by simp only [mParts, if_pos h]
theorem mParts_succ2 {even : Bool} {i : Nat} (h : ¬ (i < 16 ∨ even = true)) (hl : 15 < (mParts even i).length) : mParts even (i + 1) = (mParts even i).set 15 ((mParts even i)[15] ++ [(i : Int)]) := by
  simp only [mParts, if_neg h]
  rw [List.getD_eq_getElem?_getD, List.getElem?_eq_getElem hl]
  rfl

/-! ### Nodes -/
abbrev mBox (a b c e : CV) : List CV := [a, b, c, .nils, e, .int .i64 1, .int .i64 1, .int .i64 1, .int .i64 1, .int .i64 0]
theorem many_nodes (w : Int) (k : Nat) (hk : k ≤ 44) : ∀ (d i : Nat) (v : CV) (bl : List Blk), i + d = k + 1 → Own fZ 1 bl v (mNodes i) →
    ∃ v' bl', l06_VerifyMany_R3 ([(0, .int .u8 w), (5, .int .i64 k), (6, .op (.loc 6) 0), (7, .int .i64 i)], ⟨[(6, mBox v .nils .nils .nils)], bl⟩) =
      some (.norm, [(0, .int .u8 w), (5, .int .i64 k), (6, .op (.loc 6) 0)], ⟨[(6, mBox v' .nils .nils .nils)], bl'⟩) ∧ Own fZ 1 bl' v' (mNodes (k + 1))
  | 0, i, v, bl, hd, hO => by
    have h1 : ¬ ((i : Int) ≤ k) := by omega
    have hi : i = k + 1 := by omega
    refine ⟨v, bl, ?_, by rw [← hi]; exact hO⟩
    rw [l06_VerifyMany_R3_eq]
    simp only [l06_VerifyMany_B3, l06_VerifyMany_K3_a, h1, hO.locv, CV.locs, zy, simprocAttr]
  | d + 1, i, v, bl, hd, hO => by
    have h1 : ((i : Int) ≤ k) := by omega
    have hwr := wrapN (n := i) (by unfold Zc.small; omega)
    have hw10 : IntKind.i64.wrap (10 * (i : Int)) = 10 * (i : Int) := wrap64 (by omega) (by omega)
    obtain ⟨v1, bl1, e1, o1, _⟩ := hO.app1 flatZ (bytes := 16) (zero := [.cplx .f64 0 0]) (by decide) rfl rfl (FloatKind.f64.nearest (10 * (i : Int)), 0) (by rw [mNodes_len]; omega)
    rw [← mNodes_succ] at o1
    simp only [fZ] at e1
    obtain ⟨v', bl', e, o⟩ := many_nodes w k hk d (i + 1) v1 bl1 (by omega) o1
    simp only [mBox] at e
    refine ⟨v', bl', ?_, o⟩
    rw [l06_VerifyMany_R3_eq]
    simp only [l06_VerifyMany_B3, l06_VerifyMany_K3_a, h1, hw10, e1, hO.locv, o1.locv, o1.one, o1.cells, o1.und, CV.locs, hwr, e, zy, simprocAttr]

/-! ### Sections and parts -/
set_option maxHeartbeats 1000000 in
theorem many_secs (w : Int) (hw : 0 ≤ w ∧ w ≤ 255) (k : Nat) (hk : k ≤ 44) : ∀ (d i : Nat) (vN vS vT : CV) (bl : List Blk), i + d = k → Own fZ 1 bl vN (mNodes (k + 1)) → Own fS 3 bl vS (mSecs i) → Rows bl vT (mParts (decide (w % 2 = 0)) i) → Dj vN vS → (∀ q, Deep.reach bl vT q → blkOf vN ≠ some q ∧ blkOf vS ≠ some q) →
    ∃ vS' vT' bl', l06_VerifyMany_R5 ([(0, .int .u8 w), (5, .int .i64 k), (6, .op (.loc 6) 0), (8, .int .i64 i)], ⟨[(6, mBox vN vS vT .nils)], bl⟩) =
      some (.norm, [(6, .op (.loc 6) 0)], ⟨[(6, mBox vN vS' vT' .nils)], bl'⟩) ∧ Own fZ 1 bl' vN (mNodes (k + 1)) ∧ Own fS 3 bl' vS' (mSecs k) ∧ Rows bl' vT' (mParts (decide (w % 2 = 0)) k)
  | 0, i, vN, vS, vT, bl, hd, oN, oS, hR, hNS, hsep => by
    have h1 : ¬ ((i : Int) < k) := by omega
    have hi : i = k := by omega
    subst hi
    refine ⟨vS, vT, bl, ?_, oN, oS, hR⟩
    rw [l06_VerifyMany_R5_eq]
    simp only [l06_VerifyMany_B5, l06_VerifyMany_K5_a, h1, oN.locv, oS.locv, hR.deep.locv, CV.locs, zy, simprocAttr]
  | d + 1, i, vN, vS, vT, bl, hd, oN, oS, hR, hNS, hsep => by
    have h1 : ((i : Int) < k) := by omega
    have hwr := wrapN (n := i) (by unfold Zc.small; omega)
    obtain ⟨vS1, bl1, e1, oS1, l1, f1, b1⟩ := oS.app1 flatS (bytes := 24) (zero := [.int .i64 0, .int .i64 0, .int .i64 0]) (by decide) rfl rfl ⟨10, (i : Int), ((i + 1 : Nat) : Int)⟩ (by rw [mSecs_len]; omega)
    rw [← mSecs_succ] at oS1
    simp only [fS] at e1
    have oN1 := oN.fr f1 hNS.symm
    have hR1 : Rows bl1 vT (mParts (decide (w % 2 = 0)) i) := hR.keep fun m b hb hr => f1 m b hb (hsep m hr).2
    have hrk : ∀ q, Deep.reach bl1 vT q → Deep.reach bl vT q := fun q hq => hR.deep.reach_keep (fun m b hb hm => f1 m b hb (hsep m (.inl hm)).2) hq
    have hS1 : ∀ q, blkOf vS1 = some q → blkOf vS = some q ∨ q = bl.length := fun q hq => by
      rcases b1 with e | e
      · exact .inl (by rw [← e]; exact hq)
      · rw [e] at hq; cases hq; exact .inr rfl
    have hNS1 : Dj vN vS1 := fun q h1 h2 => by
      rcases hS1 q h2 with h | rfl
      · exact hNS q h1 h
      · have := oN.lt h1; omega
    have hsep1 : ∀ q, Deep.reach bl1 vT q → blkOf vN ≠ some q ∧ blkOf vS1 ≠ some q := fun q hq => ⟨(hsep q (hrk q hq)).1, fun e => by
      rcases hS1 q e with h | rfl
      · exact (hsep q (hrk q hq)).2 h
      · have := hR.deep.reach_lt (hrk _ hq); omega⟩
    by_cases hc : i < 16 ∨ (decide (w % 2 = 0)) = true
    · -- a part of its own
      have oc : Own fI 1 (bl1 ++ [.cells [.int .i64 i]]) (.os 1 (.blk bl1.length) 0 1) [(i : Int)] := .inr ⟨bl1.length, rfl, by simp [fI]⟩
      have kp : ∀ (m : Nat) (b : Blk), bl1[m]? = some b → (bl1 ++ [Blk.cells [CV.int .i64 i]])[m]? = some b := fun m b h => by rw [List.getElem?_append_left (List.getElem?_eq_some_iff.1 h).1]; exact h
      have hR2 := hR1.keep (bl' := bl1 ++ [.cells [.int .i64 i]]) fun m b hb _ => kp m b hb
      have hrk2 : ∀ q, Deep.reach (bl1 ++ [.cells [.int .i64 i]]) vT q → Deep.reach bl1 vT q := fun q hq => hR1.deep.reach_keep (fun m b hb _ => kp m b hb) hq
      obtain ⟨vT2, bl2, e2, hR3, f2, r2⟩ := hR2.app oc (fun q hq hr => by
        cases hq
        have := hR1.deep.reach_lt (hrk2 _ hr)
        omega) (by
          rw [mParts_len]; split <;> omega)
      rw [← mParts_succ1 hc] at hR3
      have hTN : ∀ q, blkOf vT = some q → blkOf vN ≠ some q := fun q hq => (hsep1 q (.inl hq)).1
      have hTS : ∀ q, blkOf vT = some q → blkOf vS1 ≠ some q := fun q hq => (hsep1 q (.inl hq)).2
      have oN3 := (oN1.keep kp).fr f2 hTN
      have oS3 := (oS1.keep kp).fr f2 hTS
      have hlen2 : (bl1 ++ [Blk.cells [CV.int .i64 i]]).length = bl1.length + 1 := by simp
      rw [hlen2] at e2 r2
      obtain ⟨vS', vT', bl', e, o1, o2, o3⟩ := many_secs w hw k hk d (i + 1) vN vS1 vT2 bl2 (by omega) oN3 oS3 hR3 hNS1 (fun q hq => by
        rcases r2 q hq with rfl | h | h
        · exact ⟨fun e => by have := oN1.lt e; omega, fun e => by have := oS1.lt e; omega⟩
        · exact hsep1 q (hrk2 q h)
        · cases h
          exact ⟨fun e => by have := oN1.lt e; omega, fun e => by have := oS1.lt e; omega⟩)
      simp only [mBox] at e
      refine ⟨vS', vT', bl', ?_, o1, o2, o3⟩
      rw [l06_VerifyMany_R5_eq]
      by_cases h16 : i < 16
      · have h16' : ((i : Int) < 16) := by omega
        simp only [l06_VerifyMany_B5, l06_VerifyMany_K5_a, h1, e1, hwr, h16', e2, hlen2, oN.locv, oS.locv, oS1.locv, oS1.one, oS1.cells, oS1.und, hR.deep.locv, hR3.deep.locv, hR3.deep.one, hR3.deep.cells, hR3.deep.und, CV.locs, e, zy, simprocAttr]
      · have h16' : ¬ ((i : Int) < 16) := by omega
        have hm2 : w.tmod 2 = 0 := by
          rw [Int.tmod_eq_emod_of_nonneg hw.1]
          rcases hc with h | h
          · exact absurd h h16
          · exact of_decide_eq_true h
        simp only [l06_VerifyMany_B5, l06_VerifyMany_K5_a, h1, e1, hwr, h16', hm2, e2, hlen2, oN.locv, oS.locv, oS1.locv, oS1.one, oS1.cells, oS1.und, hR.deep.locv, hR3.deep.locv, hR3.deep.one, hR3.deep.cells, hR3.deep.und, CV.locs, e, zy, simprocAttr]
    · -- one more in the last one
      have hc' := hc
      rw [not_or] at hc'
      have hl15 : 15 < (mParts (decide (w % 2 = 0)) i).length := by
        rw [mParts_len]; split <;> omega
      have hpl := mParts_part (decide (w % 2 = 0)) i _ (List.getElem_mem hl15)
      obtain ⟨m, cs, c, c', bl2, bl3, i1, g1, d1, p1, p2, p3, p4, e2, q1, q2, q3, q4, g2, st1, hR3, f3, r3, l3⟩ := hR1.more hl15 (i : Int) (by omega)
      rw [← mParts_succ2 hc hl15] at hR3
      have own_keep : ∀ {α : Type} {f : α → List CV} {sz : Nat} {v : CV} {l : List α}, Own f sz bl1 v l → (∀ q, Deep.reach bl1 vT q → blkOf v ≠ some q) → Own f sz bl3 v l := fun h hq => by
        rcases h with h | ⟨m, rfl, h⟩
        · exact .inl h
        · exact .inr ⟨m, rfl, f3 m _ h fun hr => hq m hr rfl⟩
      have oN3 := own_keep oN1 fun q hq => (hsep1 q hq).1
      have oS3 := own_keep oS1 fun q hq => (hsep1 q hq).2
      obtain ⟨vS', vT', bl', e, o1, o2, o3⟩ := many_secs w hw k hk d (i + 1) vN vS1 vT bl3 (by omega) oN3 oS3 hR3 hNS1 (fun q hq => by
        rcases r3 q hq with rfl | h
        · exact ⟨fun e => by have := oN1.lt e; omega, fun e => by have := oS1.lt e; omega⟩
        · exact hsep1 q h)
      simp only [mBox] at e
      refine ⟨vS', vT', bl', ?_, o1, o2, o3⟩
      have h16' : ¬ ((i : Int) < 16) := by omega
      have hm2 : ¬ w.tmod 2 = 0 := by
        rw [Int.tmod_eq_emod_of_nonneg hw.1]
        have := hc'.2
        simpa using this
      have i15 : ∀ k, iaddrC 1 vT (.int k 15) = some (.op (.blk m) 15) := i1
      rw [l06_VerifyMany_R5_eq]
      simp only [l06_VerifyMany_B5, l06_VerifyMany_K5_a, h1, e1, hwr, h16', hm2, i15, g1, g2, d1, p1, p2, p3, p4, e2, q1, q2, q3, q4, st1, oN.locv, oS.locv, oS1.locv, oS1.one, oS1.cells, oS1.und, hR.deep.locv, hR3.deep.locv, CV.locs, e, zy, simprocAttr]
end Go.Proofs.YtlhjpcgfkkhogaaGreat.Zt
end
section
namespace Go.Proofs.YtlhjpcgfkkhogaaGreat.Zt
open Go Go.Zc
set_option maxRecDepth 10000

def d0 : Draft := ⟨0, 0, 0, 0, 0, 0, 0, 0, []⟩
theorem d0_ok : d0.ok := by
  refine ⟨?_, ?_, ?_, ?_, ?_, ?_, ?_, ?_, ?_, ?_⟩ <;> simp [d0]
/-- A draft's layout, with some routes. -/
def withR (R : List (List Int)) : Lay := { full d0 with routes := R }
theorem withR_ok {R : List (List Int)} (h : R.length ≤ 100) (h' : ∀ x ∈ R, x.length ≤ 100) : (withR R).ok ∧ Sm (withR R) ∧ Pl (withR R) (xyOf d0) := by
  have hok := full_ok d0
  have hsm := sm_full d0 d0_ok
  have hpl := pl_full d0
  refine ⟨⟨hok.nodes, hok.secs, hok.parts, hok.pts, ?_, hok.part, fun x hx => ?_⟩, ⟨hsm.nodes, hsm.secs, hsm.parts, hsm.pts⟩, ⟨hpl.len, hpl.rep, hpl.near⟩⟩
  · show R.length ≤ _; unfold Zc.small; omega
  · have := h' x hx; unfold Zc.small; omega
abbrev rBox (v : CV) : List CV := [sl fZ (make d0).nodes, sl fS (make d0).secs, sl fL (make d0).parts, .nils, v, .int .i64 (make d0).speed, .int .i64 (make d0).mute, .int .i64 (make d0).wait, .int .i64 (make d0).cancel, .int .i64 (make d0).stay]
theorem make0_F (H : Heap) : r04_Make_F false H [.agg [.int .u8 0, .int .u8 0, .int .u8 0, .int .u16 0, .int .u16 0, .int .u8 0, .int .u8 0, .int .u8 0, .vs [] 0]] = some (.agg (rBox .nils), H) := make_F d0 d0_ok H
theorem many_routes (k : Nat) (hk : k ≤ 44) : ∀ (d i : Nat) (v : CV) (bl : List Blk), i + d = k → Own fL 1 bl v (List.replicate i [0, 1]) →
    ∃ v' bl', l06_VerifyMany_R7 ([(5, .int .i64 k), (6, .op (.loc 6) 0), (9, .int .i64 i)], ⟨[(6, rBox v)], bl⟩) = some (.norm, [(6, .op (.loc 6) 0)], ⟨[(6, rBox v')], bl'⟩) ∧ Own fL 1 bl' v' (List.replicate k [0, 1])
  | 0, i, v, bl, hd, hO => by
    have h1 : ¬ ((i : Int) < k) := by omega
    have hi : i = k := by omega
    subst hi
    refine ⟨v, bl, ?_, hO⟩
    rw [l06_VerifyMany_R7_eq]
    simp only [l06_VerifyMany_B7, l06_VerifyMany_K7_a, h1, hO.locv, CV.locs, zy, simprocAttr]
  | d + 1, i, v, bl, hd, hO => by
    have h1 : ((i : Int) < k) := by omega
    have hwr := wrapN (n := i) (by unfold Zc.small; omega)
    obtain ⟨v1, bl1, e1, o1, _⟩ := hO.app1 flatL (bytes := 24) (zero := [.nils]) (by decide) rfl rfl [0, 1] (by simp; omega)
    have e1' : ∀ bx, heapOp (.app 1 24 [.nils]) [v, .vs [.vs [.int .i64 0, .int .i64 1] 2] 1] ⟨bx, bl⟩ = some (v1, ⟨bx, bl1⟩) := e1
    rw [← List.replicate_succ'] at o1
    obtain ⟨v', bl', e, o⟩ := many_routes k hk d (i + 1) v1 bl1 (by omega) o1
    simp only [rBox] at e
    refine ⟨v', bl', ?_, o⟩
    rw [l06_VerifyMany_R7_eq]
    simp only [l06_VerifyMany_B7, l06_VerifyMany_K7_a, h1, e1', hO.locv, o1.locv, o1.one, o1.cells, o1.und, CV.locs, hwr, e, zy, simprocAttr]
def mPath (n : Nat) : List Int := (List.range n).map fun (i : Nat) => (i : Int)
theorem mPath_len (n : Nat) : (mPath n).length = n := by simp [mPath]
theorem many_path (B : List CV) (hB : CV.locs B = false) (k : Nat) (hk : k ≤ 44) : ∀ (d i : Nat) (v : CV) (bl : List Blk), i + d = k → Own fI 1 bl v (mPath i) →
    ∃ v' bl', l06_VerifyMany_R1 ([(5, .int .i64 k), (6, .op (.loc 6) 0), (10, v), (11, .int .i64 i)], ⟨[(6, B)], bl⟩) = some (.norm, [(6, .op (.loc 6) 0), (10, v')], ⟨[(6, B)], bl'⟩) ∧ Own fI 1 bl' v' (mPath k)
  | 0, i, v, bl, hd, hO => by
    have h1 : ¬ ((i : Int) < k) := by omega
    have hi : i = k := by omega
    subst hi
    refine ⟨v, bl, ?_, hO⟩
    rw [l06_VerifyMany_R1_eq]
    simp only [l06_VerifyMany_B1, l06_VerifyMany_K1_a, h1, hO.locv, hO.chkV, hB, zy, simprocAttr]
  | d + 1, i, v, bl, hd, hO => by
    have h1 : ((i : Int) < k) := by omega
    have hwr := wrapN (n := i) (by unfold Zc.small; omega)
    obtain ⟨v1, bl1, e1, o1, _⟩ := hO.app1 flatI (bytes := 8) (zero := [.int .i64 0]) (by decide) rfl rfl (i : Int) (by rw [mPath_len]; omega)
    simp only [fI] at e1
    rw [show mPath i ++ [(i : Int)] = mPath (i + 1) by simp [mPath, List.range_succ]] at o1
    obtain ⟨v', bl', e, o⟩ := many_path B hB k hk d (i + 1) v1 bl1 (by omega) o1
    refine ⟨v', bl', ?_, o⟩
    rw [l06_VerifyMany_R1_eq]
    simp only [l06_VerifyMany_B1, l06_VerifyMany_K1_a, h1, e1, hO.locv, hO.chkV, o1.chkV, o1.locv, o1.one, o1.cells, o1.und, hB, hwr, e, zy, simprocAttr]

/-! ### A row of sections -/
def rowL (k : Nat) (even : Bool) : Lay := ⟨mNodes (k + 1), mSecs k, mParts even k, [], [], 1, 1, 1, 1, 0⟩
theorem rowL_ok {k : Nat} (hk : k ≤ 44) (even : Bool) : (rowL k even).ok ∧ Sm (rowL k even) ∧ Pl (rowL k even) (mZs (k + 1)) := by
  have h1 := mNodes_len (k + 1)
  have h2 := mSecs_len k
  have h3 : (mParts even k).length ≤ 44 := by rw [mParts_len]; split <;> omega
  refine ⟨⟨?_, ?_, ?_, by simp [rowL], by simp [rowL], fun x hx => ?_, by simp [rowL]⟩, ⟨?_, ?_, ?_, by simp [rowL]⟩, ⟨?_, fun i z p hz hp => ?_, fun p hp => ?_⟩⟩
  · show (mNodes (k + 1)).length ≤ _; unfold Zc.small; omega
  · show (mSecs k).length ≤ _; unfold Zc.small; omega
  · show (mParts even k).length ≤ _; unfold Zc.small; omega
  · have := mParts_part even k x hx; unfold Zc.small; omega
  · show (mNodes (k + 1)).length ≤ _; omega
  · show (mSecs k).length ≤ _; omega
  · show (mParts even k).length ≤ _; omega
  · show (mNodes (k + 1)).length = _; rw [h1]; simp [mZs]
  · simp only [rowL, mNodes, List.getElem?_map] at hz
    simp only [mZs, List.getElem?_map] at hp
    cases hr : (List.range (k + 1))[i]? with
    | none => rw [hr] at hz; simp at hz
    | some j =>
      have hj : j < k + 1 := List.mem_range.1 (List.mem_of_getElem? hr)
      rw [hr] at hz hp
      simp only [Option.map_some, Option.some.injEq] at hz hp
      subst hz hp
      exact ⟨Rep.fl (a := 10 * (j : Int)) (by omega), Rep.zero⟩
  · simp only [mZs, List.mem_map, List.mem_range] at hp
    obtain ⟨j, hj, rfl⟩ := hp
    exact ⟨by simp only; omega, by simp only; omega⟩
set_option maxHeartbeats 1000000 in
theorem vMany_F {w n : Int} (hw : 0 ≤ w ∧ w ≤ 255) (hn : 0 ≤ n ∧ n ≤ 255) (st : Bool) (H : Heap) : l06_VerifyMany_F st H [.int .u8 w, .int .u8 n] = some (.bool true, H) := by
  have hnF := fun st H => nothing_F st H
  have hmk := fun H => make0_F H
  obtain ⟨k, hk⟩ := Int.eq_ofNat_of_zero_le (show 0 ≤ n % 45 by omega)
  have hk44 : k ≤ 44 := by omega
  have k1 : n.tmod 45 = k := by rw [Int.tmod_eq_emod_of_nonneg hn.1, hk]
  have k2 : IntKind.i64.wrap (k : Int) = k := wrap64 (by omega) (by omega)
  have ht : w.tmod 3 = w % 3 := Int.tmod_eq_emod_of_nonneg hw.1
  have h3 : w.tmod 3 = 0 ∨ w.tmod 3 = 1 ∨ w.tmod 3 = 2 := by rw [ht]; omega
  simp only [rBox] at hmk
  rw [l06_VerifyMany_F_eq]
  rcases h3 with h | h | h
  · obtain ⟨vN, bl1, e1, oN⟩ := many_nodes w k hk44 (k + 1) 0 .nils [] (by omega) (Own.nil _ _ _)
    obtain ⟨vS, vT, bl2, e2, oN2, oS, hR⟩ := many_secs w hw k hk44 k 0 vN .nils .nils bl1 (by omega) oN (Own.nil _ _ _) (.inl ⟨rfl, rfl⟩) (fun q _ h => by cases h) (fun q hq => by
      rcases hq with hq | ⟨m, cs, hq, _⟩
      · cases hq
      · cases hq)
    obtain ⟨q1, q2, q3⟩ := rowL_ok hk44 (decide (w % 2 = 0))
    have ej := fun st H => judged_F q1 q2 q3 st H
    have s1 := snZ oN2
    have s2 := snS oS
    have s3 := fun bx => hR.deep.snapV fL_one bx false
    simp only [List.nil_append, List.length_nil, Int.natCast_zero, mBox, Int.natCast_zero, Int.ofNat_zero] at e1 e2
    have ej' : ∀ st H, l06_judged_F st H [.agg [sl fZ (mNodes (k + 1)), sl fS (mSecs k), sl fL (mParts (decide (w % 2 = 0)) k), .vs [] 0, .vs [] 0, .int .i64 1, .int .i64 1, .int .i64 1, .int .i64 1, .int .i64 0]] = _ := ej
    simp only [l06_VerifyMany_C, l06_VerifyMany_L3_eq, l06_VerifyMany_L5_eq, l06_nothing_call, hnF, k1, k2, r04_Make_call, hmk, h, e1, e2, oN2.locv, oN2.one, oN2.cells, oN2.und, oS.locv, oS.one, oS.cells, oS.und, hR.deep.locv, hR.deep.one, hR.deep.cells, hR.deep.und, s1, s2, s3, CV.locs, l06_judged_call, ej', zy, simprocAttr]
  · obtain ⟨v, bl, e1, o1⟩ := many_routes k hk44 k 0 .nils [] (by omega) (Own.nil _ _ _)
    obtain ⟨q1, q2, q3⟩ := withR_ok (R := List.replicate k [0, 1]) (by simp; omega) (fun x hx => by rw [List.eq_of_mem_replicate hx]; simp)
    have ej := fun st H => judged_F q1 q2 q3 st H
    have ej' : ∀ st H, l06_judged_F st H [.agg [sl fZ (make d0).nodes, sl fS (make d0).secs, sl fL (make d0).parts, .vs [] 0, sl fL (List.replicate k [0, 1]), .int .i64 (make d0).speed, .int .i64 (make d0).mute, .int .i64 (make d0).wait, .int .i64 (make d0).cancel, .int .i64 (make d0).stay]] = _ := ej
    have s1 := snL o1
    simp only [List.nil_append, List.length_nil, Int.natCast_zero, rBox, Int.natCast_zero, Int.ofNat_zero] at e1
    simp only [l06_VerifyMany_C, l06_VerifyMany_L7_eq, l06_nothing_call, hnF, k1, k2, r04_Make_call, hmk, h, e1, o1.locv, o1.one, o1.cells, o1.und, s1, CV.locs, l06_judged_call, ej', zy, simprocAttr]
  · obtain ⟨v, bl, e1, o1⟩ := many_path (rBox .nils) rfl k hk44 k 0 .nils [] (by omega) (Own.nil _ _ _)
    obtain ⟨q1, q2, q3⟩ := withR_ok (R := [mPath k]) (by simp) (fun x hx => by simp only [List.mem_singleton] at hx; subst hx; rw [mPath_len]; omega)
    have ej := fun st H => judged_F q1 q2 q3 st H
    have ej' : ∀ st H, l06_judged_F st H [.agg [sl fZ (make d0).nodes, sl fS (make d0).secs, sl fL (make d0).parts, .vs [] 0, sl fL [mPath k], .int .i64 (make d0).speed, .int .i64 (make d0).mute, .int .i64 (make d0).wait, .int .i64 (make d0).cancel, .int .i64 (make d0).stay]] = _ := ej
    have hD : Deep fL 1 (bl ++ [.cells [v]]) (.os 1 (.blk bl.length) 0 1) [mPath k] := .inr ⟨bl.length, [v], rfl, by simp, ⟨cell_own (o1.keep fun m b h => by rw [List.getElem?_append_left (List.getElem?_eq_some_iff.1 h).1]; exact h), trivial⟩, fun c hc e => by
      simp only [List.mem_singleton] at hc
      subst hc
      have := o1.lt e
      omega⟩
    have s1 := fun bx => hD.snapV fL_one bx false
    simp only [List.nil_append, List.length_nil, Int.natCast_zero, rBox, Int.natCast_zero, Int.ofNat_zero] at e1
    simp only [l06_VerifyMany_C, l06_VerifyMany_L1_eq, l06_nothing_call, hnF, k1, k2, r04_Make_call, hmk, h, e1, o1.locv, o1.one, o1.cells, o1.und, s1, CV.locs, l06_judged_call, ej', zy, simprocAttr]
end Go.Proofs.YtlhjpcgfkkhogaaGreat.Zt
end
