/- Walks: the reference's rules of points, parts, routes. No condition. -/
import Derived.Test.YtlhjpcgfkkhogaaGreatZcM
import Derived.Test.YtlhjpcgfkkhogaaGreatZcVa
import Derived.Test.YtlhjpcgfkkhogaaGreatZcSet
import Derived.Test.YtlhjpcgfkkhogaaGreatZcT
set_option linter.all false
section
namespace Go.Proofs.YtlhjpcgfkkhogaaGreat.Zt
open Go Go.Zc
set_option maxRecDepth 10000

/-! ### Points at a node -/
theorem rpoints_loop (l : Lay) (n : Int) (hm : l.pts.length ≤ 1000) : ∀ (s pre : List Pt) (k : Nat), pre ++ s = l.pts → k ≤ pre.length →
    r06_holds_R5 ([(2, .int .i64 n), (3, .op (.loc 3) 0), (14, .int .i64 k), (15, .int .i64 pre.length)], ⟨[(3, layC l)], []⟩) =
      some (.norm, [(2, .int .i64 n), (3, .op (.loc 3) 0), (14, .int .i64 ((k + cntP n s : Nat) : Int))], ⟨[(3, layC l)], []⟩)
  | [], pre, k, hp, hk => by
    have h1 : ¬ ((pre.length : Int) < l.pts.length) := by rw [← hp]; simp
    rw [r06_holds_R5_eq]
    simp only [r06_holds_B5, r06_holds_K5_a, h1, cntP, List.countP_nil, Nat.add_zero, zy, simprocAttr]
  | x :: s, pre, k, hp, hk => by
    have hpl : pre.length + 1 + s.length = l.pts.length := by rw [← hp]; simp; omega
    have h1 : ((pre.length : Int) < l.pts.length) := by omega
    have hwr := wrapN (n := pre.length) (by unfold Zc.small; omega)
    have hwk := wrapN (n := k) (by unfold Zc.small; omega)
    have hia : iaddrC 4 (sl fP l.pts) (.int .i64 pre.length) = some (.vp (.int .i64 x.node :: .int .i64 x.stem :: .int .i64 x.left :: .int .i64 x.right :: s.flatMap fP)) := by rw [← hp]; exact iaddr_midP .i64 pre s x
    rw [r06_holds_R5_eq]
    by_cases hx : x.node = n
    · have ih := rpoints_loop l n hm s (pre ++ [x]) (k + 1) (by simpa using hp) (by simp; omega)
      rw [show (pre ++ [x]).length = pre.length + 1 by simp] at ih
      have hc : cntP n (x :: s) = cntP n s + 1 := by simp [cntP, List.countP_cons, hx]
      have he : k + cntP n (x :: s) = k + 1 + cntP n s := by omega
      rw [he]
      simp only [r06_holds_B5, r06_holds_K5_a, h1, hia, eq_true hx, hwr, hwk, ih, zy, simprocAttr]
    · have ih := rpoints_loop l n hm s (pre ++ [x]) k (by simpa using hp) (by simp; omega)
      rw [show (pre ++ [x]).length = pre.length + 1 by simp] at ih
      have hc : cntP n (x :: s) = cntP n s := by simp [cntP, List.countP_cons, hx]
      rw [hc]
      simp only [r06_holds_B5, r06_holds_K5_a, h1, hia, eq_false hx, hwr, hwk, ih, zy, simprocAttr]
theorem holds11 (l : Lay) (hl : l.ok) (hp : l.pts.length ≤ 1000) (n : Int) (st : Bool) (H : Heap) : r06_holds_F st H [.agg (layC l), .int .i64 11, .int .i64 n] = some (.bool (pointsB l n), H) := by
  have e := rpoints_loop l n hp l.pts [] 0 rfl (by simp)
  simp only [List.nil_append, List.length_nil, Int.natCast_zero, Nat.zero_add, List.length_nil] at e
  have he := fun st H => ends_F l hl n st H
  have d3 := deq (ends l n).length 3 3 rfl
  have d1 := deq (cntP n l.pts) 1 1 rfl
  have d0 := deq (cntP n l.pts) 0 0 rfl
  unfold pointsB
  rw [r06_holds_F_eq]
  by_cases h3 : (ends l n).length = 3
  · have h3' : (((ends l n).length : Int) = 3) := by omega
    rw [if_pos h3]
    cases hA : decide (cntP n l.pts = 1) with
    | true =>
      rw [hA] at d1
      simp only [r06_holds_C, r06_holds_L5_eq, e, r05_Ends_call, he, ne_eq, eq_true h3', d1, not_true_eq_false, zy, simprocAttr]
    | false =>
      rw [hA] at d1
      simp only [r06_holds_C, r06_holds_L5_eq, e, r05_Ends_call, he, ne_eq, eq_true h3', d1, not_true_eq_false, zy, simprocAttr]
  · have h3' : ¬ (((ends l n).length : Int) = 3) := by omega
    rw [if_neg h3]
    simp only [r06_holds_C, r06_holds_L5_eq, e, r05_Ends_call, he, ne_eq, eq_false h3', d0, not_false_eq_true, zy, simprocAttr]

/-! ### In just one part -/
theorem ronce_in (l : Lay) (n : Int) (j : Nat) (ps : List Int) (hj : iaddrC 1 (sl fL l.parts) (.int .i64 j) = some (.vp (sl fI ps :: (l.parts.drop (j + 1)).flatMap fL))) (hm : ps.length ≤ Zc.small) : ∀ (s pre : List Int) (k : Nat), pre ++ s = ps → k ≤ 4000000000000000000 + pre.length →
    r06_holds_R9 ([(2, .int .i64 n), (3, .op (.loc 3) 0), (18, .int .i64 k), (19, .int .i64 j), (20, .int .i64 pre.length)], ⟨[(3, layC l)], []⟩) =
      some (.norm, [(2, .int .i64 n), (3, .op (.loc 3) 0), (18, .int .i64 ((k + s.countP (fun s => decide (s = n)) : Nat) : Int)), (19, .int .i64 j)], ⟨[(3, layC l)], []⟩)
  | [], pre, k, hp, hk => by
    have h1 : ¬ ((pre.length : Int) < ps.length) := by rw [← hp]; simp
    rw [r06_holds_R9_eq]
    simp only [r06_holds_B9, r06_holds_K9_a, hj, h1, List.countP_nil, Nat.add_zero, zy, simprocAttr]
  | x :: s, pre, k, hp, hk => by
    have hpl : pre.length + 1 + s.length = ps.length := by rw [← hp]; simp; omega
    have h1 : ((pre.length : Int) < ps.length) := by omega
    have hwr := wrapN (n := pre.length) (by omega)
    have hwk : IntKind.i64.wrap ((k : Int) + 1) = ((k + 1 : Nat) : Int) := by unfold Zc.small at hm; rw [wrap64 (by omega) (by omega)]; omega
    have hia : iaddrC 1 (sl fI ps) (.int .i64 pre.length) = some (.vp (.int .i64 x :: s.flatMap fI)) := by rw [← hp]; exact iaddr_midI .i64 pre s x
    rw [r06_holds_R9_eq]
    by_cases hx : x = n
    · have ih := ronce_in l n j ps hj hm s (pre ++ [x]) (k + 1) (by simpa using hp) (by simp; omega)
      rw [show (pre ++ [x]).length = pre.length + 1 by simp] at ih
      have he : k + (x :: s).countP (fun s => decide (s = n)) = k + 1 + s.countP (fun s => decide (s = n)) := by simp [List.countP_cons, hx]; omega
      rw [he]
      simp only [r06_holds_B9, r06_holds_K9_a, hj, h1, hia, eq_true hx, hwr, hwk, zy, simprocAttr]
      subst hx
      exact ih
    · have ih := ronce_in l n j ps hj hm s (pre ++ [x]) k (by simpa using hp) (by simp; omega)
      rw [show (pre ++ [x]).length = pre.length + 1 by simp] at ih
      have he : k + (x :: s).countP (fun s => decide (s = n)) = k + s.countP (fun s => decide (s = n)) := by simp [List.countP_cons, hx]
      rw [he]
      simp only [r06_holds_B9, r06_holds_K9_a, hj, h1, hia, eq_false hx, hwr, ih, zy, simprocAttr]
theorem ronce_out (l : Lay) (n : Int) (hm : l.parts.length ≤ 1000) (hq : ∀ p ∈ l.parts, p.length ≤ Zc.small) : ∀ (s pre : List (List Int)) (k : Nat), pre ++ s = l.parts → k ≤ 1000000000 * pre.length →
    r06_holds_R7 ([(2, .int .i64 n), (3, .op (.loc 3) 0), (18, .int .i64 k), (19, .int .i64 pre.length)], ⟨[(3, layC l)], []⟩) =
      some (.norm, [(18, .int .i64 ((k + cntS n s : Nat) : Int))], ⟨[], []⟩)
  | [], pre, k, hp, hk => by
    have h1 : ¬ ((pre.length : Int) < l.parts.length) := by rw [← hp]; simp
    rw [r06_holds_R7_eq]
    simp only [r06_holds_B7, r06_holds_K7_a, h1, cntS, Nat.add_zero, zy, simprocAttr]
  | x :: s, pre, k, hp, hk => by
    have hpl : pre.length + 1 + s.length = l.parts.length := by rw [← hp]; simp; omega
    have h1 : ((pre.length : Int) < l.parts.length) := by omega
    have hwr := wrapN (n := pre.length) (by unfold Zc.small; omega)
    have hx : x.length ≤ Zc.small := hq x (by rw [← hp]; simp)
    have hc : x.countP (fun s => decide (s = n)) ≤ x.length := List.countP_le_length
    have hd : l.parts.drop (pre.length + 1) = s := by rw [← hp, List.append_cons]; simp
    have hia : iaddrC 1 (sl fL l.parts) (.int .i64 pre.length) = some (.vp (sl fI x :: (l.parts.drop (pre.length + 1)).flatMap fL)) := by rw [hd, ← hp]; exact iaddr_midL .i64 pre s x
    have hin := ronce_in l n pre.length x hia hx x [] k rfl (by simp; omega)
    simp only [List.nil_append, List.length_nil, Int.natCast_zero, Nat.zero_add, List.length_nil] at hin
    have ih := ronce_out l n hm hq s (pre ++ [x]) (k + x.countP (fun s => decide (s = n))) (by simpa using hp) (by unfold Zc.small at hx; simp; omega)
    rw [show (pre ++ [x]).length = pre.length + 1 by simp] at ih
    rw [r06_holds_R7_eq]
    simp only [r06_holds_B7, r06_holds_K7_a, r06_holds_L9_eq, h1, hin, hwr, ih, cntS, Nat.add_assoc, zy, simprocAttr]
theorem holds14 (l : Lay) (hl : l.ok) (hp : l.parts.length ≤ 1000) (n : Int) (st : Bool) (H : Heap) : r06_holds_F st H [.agg (layC l), .int .i64 14, .int .i64 n] = some (.bool (onceB l n), H) := by
  have e := ronce_out l n hp hl.part l.parts [] 0 rfl (by simp)
  simp only [List.nil_append, List.length_nil, Int.natCast_zero, Nat.zero_add, List.length_nil] at e
  have d1 := deq (cntS n l.parts) 1 1 rfl
  unfold onceB
  rw [r06_holds_F_eq]
  simp only [r06_holds_C, r06_holds_L7_eq, e, d1, zy, simprocAttr]

/-! ### Parts, routes -/
theorem rpart_loop (l : Lay) (j : Nat) (ps : List Int) (hj : iaddrC 1 (sl fL l.parts) (.int .i64 j) = some (.vp (sl fI ps :: (l.parts.drop (j + 1)).flatMap fL))) (hm : ps.length ≤ Zc.small) : ∀ (s pre : List Int), pre ++ s = ps →
    r06_part_R0 ([(2, .int .i64 j), (3, .op (.loc 3) 0), (9, .int .i64 pre.length)], ⟨[(3, layC l)], []⟩) =
      if s.any (fun s => !secB l s) = true then some (.ret, [(6, .bool false)], ⟨[(3, layC l)], []⟩) else some (.norm, [(2, .int .i64 j), (3, .op (.loc 3) 0)], ⟨[(3, layC l)], []⟩)
  | [], pre, hp => by
    have h1 : ¬ ((pre.length : Int) < ps.length) := by rw [← hp]; simp
    rw [r06_part_R0_eq]
    simp only [r06_part_B0, r06_part_K0_a, hj, h1, List.any_nil, Bool.false_eq_true, if_false, zy, simprocAttr]
  | x :: s, pre, hp => by
    have hpl : pre.length + 1 + s.length = ps.length := by rw [← hp]; simp; omega
    have h1 : ((pre.length : Int) < ps.length) := by omega
    have hwr := wrapN (n := pre.length) (by omega)
    have hia : iaddrC 1 (sl fI ps) (.int .i64 pre.length) = some (.vp (.int .i64 x :: s.flatMap fI)) := by rw [← hp]; exact iaddr_midI .i64 pre s x
    have ih := rpart_loop l j ps hj hm s (pre ++ [x]) (by simpa using hp)
    rw [show (pre ++ [x]).length = pre.length + 1 by simp] at ih
    rw [r06_part_R0_eq]
    by_cases h2 : x < 0
    · have hb : secB l x = false := by simp [secB, show ¬ 0 ≤ x by omega]
      simp only [r06_part_B0, r06_part_K0_a, hj, h1, hia, h2, hb, List.any_cons, Bool.not_false, Bool.true_or, if_true, zy, simprocAttr]
    · by_cases h3 : (l.secs.length : Int) ≤ x
      · have hb : secB l x = false := by simp [secB, show ¬ x < (l.secs.length : Int) by omega]
        simp only [r06_part_B0, r06_part_K0_a, hj, h1, hia, h2, h3, hb, ge_iff_le, List.any_cons, Bool.not_false, Bool.true_or, if_true, zy, simprocAttr]
      · have hb : secB l x = true := by simp [secB, show 0 ≤ x by omega, show x < (l.secs.length : Int) by omega]
        simp only [r06_part_B0, r06_part_K0_a, hj, h1, hia, h2, h3, hb, ge_iff_le, List.any_cons, Bool.not_true, Bool.false_or, hwr, ih, zy, simprocAttr]
theorem rpart13 (l : Lay) (hl : l.ok) (i : Nat) (hi : i < l.parts.length) (st : Bool) (H : Heap) : r06_part_F st H [.agg (layC l), .int .i64 13, .int .i64 i] = some (.bool (partB l l.parts[i]), H) := by
  have hia := iaddr_atL (k := .i64) hi
  have hm := hl.part _ (List.getElem_mem hi)
  have e := rpart_loop l i l.parts[i] hia hm l.parts[i] [] rfl
  simp only [List.nil_append, List.length_nil, Int.natCast_zero, Nat.zero_add, List.length_nil] at e
  unfold partB
  rw [r06_part_F_eq]
  cases hA : l.parts[i].any fun s => !secB l s with
  | true =>
    have e' := e.trans (if_pos hA)
    simp only [r06_part_C, r06_part_L0_eq, e', Bool.not_true, Bool.and_false, zy, simprocAttr]
  | false =>
    have e' := e.trans (if_neg (by rw [hA]; exact Bool.false_ne_true))
    by_cases h0 : 0 < l.parts[i].length
    · have h0' : (0 : Int) < l.parts[i].length := by omega
      simp only [r06_part_C, r06_part_L0_eq, e', hia, gt_iff_lt, h0, h0', decide_true, Bool.not_false, Bool.and_true, zy, simprocAttr]
    · have h0' : ¬ (0 : Int) < l.parts[i].length := by omega
      simp only [r06_part_C, r06_part_L0_eq, e', hia, gt_iff_lt, h0, h0', decide_false, Bool.not_false, Bool.and_true, zy, simprocAttr]
theorem rpart15 (l : Lay) (hl : l.ok) (i : Nat) (hi : i < l.routes.length) (st : Bool) (H : Heap) : r06_part_F st H [.agg (layC l), .int .i64 15, .int .i64 i] = some (.bool (routeB l l.routes[i]), H) := by
  have hia := iaddr_atL (k := .i64) hi
  have hm := hl.route _ (List.getElem_mem hi)
  have hg := fun H => path_F l hl l.routes[i] hm H
  have hd := dle l.routes[i].length 12 12 rfl
  unfold routeB
  rw [r06_part_F_eq]
  cases hA : (npath l l.routes[i]).isSome with
  | true =>
    rw [hA] at hg
    simp only [r06_part_C, hia, r05_Path_call, hg, hd, Bool.true_and, zy, simprocAttr]
  | false =>
    rw [hA] at hg
    simp only [r06_part_C, hia, r05_Path_call, hg, Bool.false_and, zy, simprocAttr]

/-! ### How the track goes on -/
theorem cntP_ptOf (l : Lay) (n : Int) : (ptOf l n).isSome = decide (cntP n l.pts ≠ 0) := by
  unfold ptOf cntP
  have hb : (fun p : Pt => p.node == n) = fun p => decide (p.node = n) := by funext p; by_cases h : p.node = n <;> simp [h]
  rw [hb]
  cases h : l.pts.findIdx? fun p => decide (p.node = n) with
  | none =>
    rw [List.findIdx?_eq_none_iff] at h
    have : l.pts.countP (fun p => decide (p.node = n)) = 0 := by
      rw [List.countP_eq_zero]
      intro p hp
      rw [h p hp]; exact Bool.false_ne_true
    simp [this]
  | some i =>
    rw [List.findIdx?_eq_some_iff_getElem] at h
    obtain ⟨h1, h2, _⟩ := h
    have : 0 < l.pts.countP (fun p => decide (p.node = n)) := List.countP_pos_iff.2 ⟨_, List.getElem_mem h1, h2⟩
    rw [decide_eq_true (by omega)]; rfl
theorem holds12 {l : Lay} {zs : List (Int × Int)} (hl : l.ok) (h : Pl l zs) (ht : Tied l) (hp : Set' l) (i : Nat) (hi : i < l.nodes.length) (h11 : pointsB l i = true) (st : Bool) (H : Heap) : r06_holds_F st H [.agg (layC l), .int .i64 12, .int .i64 i] = some (.bool (goesI l zs i), H) := by
  have hn : nodeB l i = true := by unfold nodeB; simp only [Bool.and_eq_true, decide_eq_true_eq]; omega
  have hg := fun st H => point_F l hl i st H
  have he := fun st H => ends_F l hl i st H
  have hiso := cntP_ptOf l i
  unfold pointsB at h11
  unfold goesI
  rw [r06_holds_F_eq]
  by_cases h3 : (ends l i).length = 3
  · have h3' : (((ends l i).length : Int) = 3) := by omega
    rw [if_pos h3, decide_eq_true_eq] at h11
    rw [h11] at hiso
    cases hpt : ptOf l i with
    | none => rw [hpt] at hiso; simp at hiso
    | some k =>
      obtain ⟨hk, _⟩ := ptOf_some hpt
      simp only [hpt] at hg
      obtain ⟨p1, p2, p3⟩ := hp _ (List.getElem_mem hk)
      obtain ⟨_, o1⟩ := on_F h ht l.pts[k].stem l.pts[k].left i p1 p2 hn
      obtain ⟨_, o2⟩ := on_F h ht l.pts[k].stem l.pts[k].right i p1 p3 hn
      have hia := iaddr_atP (k := .i64) hk
      simp only [List.getElem?_eq_getElem hk]
      cases hA : onI l zs l.pts[k].stem l.pts[k].left i with
      | true =>
        rw [hA] at o1
        simp only [r06_holds_C, r05_Ends_call, he, eq_true h3', r05_Point_call, hg, hia, r06_on_call, o1, o2, Bool.true_and, zy, simprocAttr]
      | false =>
        rw [hA] at o1
        simp only [r06_holds_C, r05_Ends_call, he, eq_true h3', r05_Point_call, hg, hia, r06_on_call, o1, o2, Bool.false_and, zy, simprocAttr]
  · have h3' : ¬ (((ends l i).length : Int) = 3) := by omega
    rw [if_neg h3, decide_eq_true_eq] at h11
    rw [h11] at hiso
    cases hpt : ptOf l i with
    | some k => rw [hpt] at hiso; simp at hiso
    | none =>
      have hes := ends_secB l i
      cases hE : ends l i with
      | nil =>
        rw [hE] at he h3'
        simp only [r06_holds_C, r05_Ends_call, he, eq_false h3', zy, simprocAttr]
      | cons a r =>
        cases r with
        | nil =>
          rw [hE] at he h3'
          simp only [r06_holds_C, r05_Ends_call, he, eq_false h3', zy, simprocAttr]
        | cons b r =>
          rw [hE] at he hes h3'
          obtain ⟨_, on1⟩ := on_F h ht a.s b.s i (hes a (by simp)) (hes b (by simp)) hn
          have h2 : ¬ (((r.length + 1 + 1 : Nat) : Int) < 2) := by omega
          have i1 := iaddr_midE .i64 [] (b :: r) a
          have i2 := iaddr_midE .i64 [a] r b
          simp only [List.nil_append, List.cons_append, List.length_nil, List.length_cons, Nat.zero_add, Int.natCast_zero, show ((0 : Nat) : Int) = 0 from rfl, show ((1 : Nat) : Int) = 1 from rfl] at i1 i2 h3'
          simp only [r06_holds_C, r05_Ends_call, he, List.length_cons, eq_false h3', h2, i1, i2, r06_on_call, on1, zy, simprocAttr]

/-! ### A point where three sections end -/
theorem ends_sorted (at' : Int) : ∀ (s : List Sec) (i : Nat), (endsFrom at' i s).Pairwise fun a b => a.s ≤ b.s
  | [], _ => .nil
  | s :: r, i => by
    have ih := ends_sorted at' r (i + 1)
    have hi := endsFrom_in at' r (i + 1)
    simp only [endsFrom]
    rw [List.pairwise_append]
    refine ⟨?_, ih, fun a ha b hb => ?_⟩
    · split <;> split <;> simp
    · have h1 := (hi b hb).1
      have h2 : a.s = i := by
        rw [List.mem_append] at ha
        rcases ha with ha | ha
        · split at ha
          · simp at ha; rw [ha]
          · cases ha
        · split at ha
          · simp at ha; rw [ha]
          · cases ha
      omega
/-- As the reference asks it. -/
def ptR (l : Lay) (p : Pt) : Bool := nodeB l p.node && (decide ((ends l p.node).length = 3) && (!decide (p.stem = p.left) && (!decide (p.stem = p.right) && (!decide (p.left = p.right) && ((ends l p.node).all (fun e => decide (e.s = p.stem) || decide (e.s = p.left) || decide (e.s = p.right)) && (match ends l p.node with | [a, b, c] => !decide (a.s = b.s) && !decide (b.s = c.s) | _ => false))))))
theorem isort3 (x y z : Int) : isort [x, y, z] = if y < x then (if z < x then (if z < y then [z, y, x] else [y, z, x]) else [y, x, z]) else (if z < y then (if z < x then [z, x, y] else [x, z, y]) else [x, y, z]) := by
  by_cases h1 : y < x <;> by_cases h2 : z < x <;> by_cases h3 : z < y <;> simp [isort, insAll, sinkR, h1, h2, h3] <;> omega
theorem compact3 (x y z : Int) : decide ((compact [x, y, z]).length = 3) = (!decide (x = y) && !decide (y = z)) := by
  by_cases h1 : x = y <;> by_cases h2 : y = z <;> simp [compact, h1, h2]
  split <;> simp
theorem three (x y z a b c : Int) (hab : a ≤ b) (hbc : b ≤ c) : (decide ([a, b, c] = isort [x, y, z]) && decide ((compact (isort [x, y, z])).length = 3)) =
    (!decide (x = y) && (!decide (x = z) && (!decide (y = z) && ((decide (a = x) || decide (a = y) || decide (a = z)) && ((decide (b = x) || decide (b = y) || decide (b = z)) && (decide (c = x) || decide (c = y) || decide (c = z))) && (!decide (a = b) && !decide (b = c)))))) := by
  rw [isort3, Bool.eq_iff_iff]
  split <;> split <;> (try split) <;> rw [compact3] <;> simp only [Bool.and_eq_true, Bool.or_eq_true, decide_eq_true_eq, Bool.not_eq_true', decide_eq_false_iff_not, List.cons.injEq, and_true] <;> omega
theorem ptR_eq (l : Lay) (p : Pt) : ptR l p = pointB l p := by
  unfold ptR pointB
  cases nodeB l p.node with
  | false => simp
  | true =>
    simp only [Bool.true_and]
    by_cases h3 : (ends l p.node).length = 3
    · have hs := ends_sorted p.node l.secs 0
      have hE : ends l p.node = endsFrom p.node 0 l.secs := rfl
      rw [← hE] at hs
      generalize ends l p.node = E at h3 hs
      match E, h3 with
      | [a, b, c], _ =>
        simp only [List.pairwise_cons, List.mem_cons, List.not_mem_nil, or_false, forall_eq_or_imp, forall_eq] at hs
        have := three p.stem p.left p.right a.s b.s c.s (by omega) (by omega)
        unfold wantP
        simp only [List.map_cons, List.map_nil, List.all_cons, List.all_nil, Bool.and_true]
        rw [this]
    · simp [h3]
theorem p3_loop (l : Lay) (p : Pt) (E : List Ed) (hm : E.length = 3) : ∀ (s pre : List Ed), pre ++ s = E →
    r06_holds_R3 ([(10, .op (.loc 10) 0), (11, sl fE E), (12, .int .i64 pre.length)], ⟨[(10, fP p)], []⟩) =
      if s.all (fun e => decide (e.s = p.stem) || decide (e.s = p.left) || decide (e.s = p.right)) = true then some (.norm, [(11, sl fE E)], ⟨[], []⟩) else some (.ret, [(6, .bool false)], ⟨[(10, fP p)], []⟩)
  | [], pre, hp => by
    have h1 : ¬ ((pre.length : Int) < 3) := by rw [← hp] at hm; simp at hm; omega
    rw [r06_holds_R3_eq]
    simp only [r06_holds_B3, r06_holds_K3_a, fP, h1, List.all_nil, zy, simprocAttr]
  | x :: s, pre, hp => by
    have hpl : pre.length + 1 + s.length = E.length := by rw [← hp]; simp; omega
    have h1 : ((pre.length : Int) < 3) := by omega
    have hwr := wrapN (n := pre.length) (by unfold Zc.small; omega)
    have hia : iaddrC 2 (sl fE E) (.int .i64 pre.length) = some (.vp (.int .i64 x.s :: .int .i64 x.e :: s.flatMap fE)) := by rw [← hp]; exact iaddr_midE .i64 pre s x
    have ih := p3_loop l p E hm s (pre ++ [x]) (by simpa using hp)
    simp only [fP] at ih
    rw [show (pre ++ [x]).length = pre.length + 1 by simp] at ih
    rw [r06_holds_R3_eq]
    by_cases a1 : x.s = p.stem
    · simp only [r06_holds_B3, r06_holds_K3_a, fP, h1, hia, ne_eq, a1, hwr, ih, List.all_cons, decide_true, Bool.true_or, Bool.true_and, not_true_eq_false, zy, simprocAttr]
    · by_cases a2 : x.s = p.left
      · simp only [r06_holds_B3, r06_holds_K3_a, fP, h1, hia, ne_eq, eq_false a1, eq_true a2, hwr, ih, List.all_cons, decide_true, decide_false, Bool.true_or, Bool.or_true, Bool.true_and, not_true_eq_false, not_false_eq_true, zy, simprocAttr]
      · by_cases a3 : x.s = p.right
        · simp only [r06_holds_B3, r06_holds_K3_a, fP, h1, hia, ne_eq, eq_false a1, eq_false a2, eq_true a3, hwr, ih, List.all_cons, decide_true, decide_false, Bool.true_or, Bool.or_true, Bool.true_and, not_true_eq_false, not_false_eq_true, zy, simprocAttr]
        · simp only [r06_holds_B3, r06_holds_K3_a, fP, h1, hia, ne_eq, eq_false a1, eq_false a2, eq_false a3, List.all_cons, decide_false, Bool.false_or, Bool.or_false, Bool.false_and, not_true_eq_false, not_false_eq_true, Bool.false_eq_true, if_false, zy, simprocAttr]
theorem holds10 (l : Lay) (hl : l.ok) (i : Nat) (hi : i < l.pts.length) (st : Bool) (H : Heap) : r06_holds_F st H [.agg (layC l), .int .i64 10, .int .i64 i] = some (.bool (pointB l l.pts[i]), H) := by
  rw [← ptR_eq]
  have hia := iaddr_atP (k := .i64) hi
  have n1 := fun st H => rnode_F l l.pts[i].node st H
  have he := fun st H => ends_F l hl l.pts[i].node st H
  unfold ptR
  rw [r06_holds_F_eq]
  cases hA : nodeB l l.pts[i].node with
  | false =>
    rw [hA] at n1
    simp only [r06_holds_C, hia, r05_Ends_call, he, r06_node_call, n1, Bool.false_and, zy, simprocAttr]
  | true =>
    rw [hA] at n1
    by_cases h3 : (ends l l.pts[i].node).length = 3
    · have h3' : (((ends l l.pts[i].node).length : Int) = 3) := by omega
      by_cases b1 : l.pts[i].stem = l.pts[i].left
      · simp only [r06_holds_C, hia, r05_Ends_call, he, r06_node_call, n1, ne_eq, eq_true h3', eq_true h3, eq_true b1, not_true_eq_false, decide_true, Bool.not_true, Bool.false_and, Bool.true_and, zy, simprocAttr]
      · by_cases b2 : l.pts[i].stem = l.pts[i].right
        · simp only [r06_holds_C, hia, r05_Ends_call, he, r06_node_call, n1, ne_eq, eq_true h3', eq_true h3, eq_false b1, eq_true b2, not_true_eq_false, decide_true, decide_false, Bool.not_true, Bool.not_false, Bool.false_and, Bool.true_and, zy, simprocAttr]
        · by_cases b3 : l.pts[i].left = l.pts[i].right
          · simp only [r06_holds_C, hia, r05_Ends_call, he, r06_node_call, n1, ne_eq, eq_true h3', eq_true h3, eq_false b1, eq_false b2, eq_true b3, not_true_eq_false, decide_true, decide_false, Bool.not_true, Bool.not_false, Bool.false_and, Bool.true_and, zy, simprocAttr]
          · have e := p3_loop l l.pts[i] (ends l l.pts[i].node) h3 (ends l l.pts[i].node) [] rfl
            simp only [List.nil_append, List.length_nil, Int.natCast_zero, fP] at e
            cases hB : (ends l l.pts[i].node).all (fun e => decide (e.s = l.pts[i].stem) || decide (e.s = l.pts[i].left) || decide (e.s = l.pts[i].right)) with
            | false =>
              have e' := e.trans (if_neg (by rw [hB]; exact Bool.false_ne_true))
              simp only [r06_holds_C, r06_holds_L3_eq, e', hia, r05_Ends_call, he, r06_node_call, n1, ne_eq, eq_true h3', eq_true h3, eq_false b1, eq_false b2, eq_false b3, not_true_eq_false, decide_true, decide_false, Bool.not_true, Bool.not_false, Bool.false_and, Bool.true_and, zy, simprocAttr]
            | true =>
              have e' := e.trans (if_pos hB)
              obtain ⟨a, b, c, hE⟩ : ∃ a b c, ends l l.pts[i].node = [a, b, c] := by
                generalize ends l l.pts[i].node = E at h3
                match E, h3 with
                | [a, b, c], _ => exact ⟨a, b, c, rfl⟩
              have i1 := iaddr_midE .i64 [] [b, c] a
              have i2 := iaddr_midE .i64 [a] [c] b
              have i3 := iaddr_midE .i64 [a, b] [] c
              rw [hE] at he e' h3' h3
              simp only [List.nil_append, List.cons_append, List.length_nil, List.length_cons, Nat.zero_add, Int.natCast_zero, show ((0 : Nat) : Int) = 0 from rfl, show ((1 : Nat) : Int) = 1 from rfl, show ((1 + 1 : Nat) : Int) = 2 from rfl] at i1 i2 i3 h3'
              simp only [hE]
              by_cases q1 : a.s = b.s
              · simp only [r06_holds_C, r06_holds_L3_eq, e', i1, i2, i3, hia, r05_Ends_call, he, r06_node_call, n1, ne_eq, eq_true h3, eq_true h3', eq_false b1, eq_false b2, eq_false b3, eq_true q1, not_true_eq_false, not_false_eq_true, decide_true, decide_false, Bool.not_true, Bool.not_false, Bool.false_and, Bool.true_and, List.length_cons, List.length_nil, zy, simprocAttr]
              · simp only [r06_holds_C, r06_holds_L3_eq, e', i1, i2, i3, hia, r05_Ends_call, he, r06_node_call, n1, ne_eq, eq_true h3, eq_true h3', eq_false b1, eq_false b2, eq_false b3, eq_false q1, not_true_eq_false, not_false_eq_true, decide_true, decide_false, Bool.not_true, Bool.not_false, Bool.false_and, Bool.true_and, List.length_cons, List.length_nil, zy, simprocAttr]
    · have h3' : ¬ (((ends l l.pts[i].node).length : Int) = 3) := by omega
      simp only [r06_holds_C, hia, r05_Ends_call, he, r06_node_call, n1, ne_eq, eq_false h3', eq_false h3, not_false_eq_true, decide_false, Bool.false_and, Bool.true_and, zy, simprocAttr]
end Go.Proofs.YtlhjpcgfkkhogaaGreat.Zt
end
section
namespace Go.Proofs.YtlhjpcgfkkhogaaGreat.Zt
open Go Go.Zc
set_option maxRecDepth 10000

theorem ref2_loop (l : Lay) (k n m : Nat) (hn : n ≤ Zc.small) (p : Nat → Bool) (hp : ∀ i < n, ∀ st H, r06_holds_F st H [.agg (layC l), .int .i64 k, .int .i64 (i : Nat)] = some (.bool (p i), H)) : ∀ (d i : Nat), i + d = n →
    r06_First_R2 ([(1, .op (.loc 1) 0), (4, .int .i64 k), (5, .int .i64 n), (6, .int .i64 m), (7, .int .i64 i)], ⟨[(1, layC l)], []⟩) =
      match (List.range' i d).find? fun i => !p i with
      | some j => some (.ret, [(2, .int .i64 k), (3, .int .i64 j)], ⟨[(1, layC l)], []⟩)
      | none => some (.norm, [(1, .op (.loc 1) 0), (4, .int .i64 k), (6, .int .i64 m)], ⟨[(1, layC l)], []⟩)
  | 0, i, hk => by
    have h1 : ¬ ((i : Int) < n) := by omega
    rw [r06_First_R2_eq]
    simp only [r06_First_B2, r06_First_K2_a, h1, List.range'_zero, List.find?_nil, zy, simprocAttr]
  | d + 1, i, hk => by
    have h1 : ((i : Int) < n) := by omega
    have hwr := wrapN (n := i) (by omega)
    have hpi := fun st H => hp i (by omega) st H
    have ih := ref2_loop l k n m hn p hp d (i + 1) (by omega)
    rw [r06_First_R2_eq]
    rw [List.range'_succ, List.find?_cons]
    cases hA : p i with
    | true =>
      rw [hA] at hpi
      simp only [r06_First_B2, r06_First_K2_a, h1, r06_holds_call, hpi, hwr, ih, Bool.not_true, zy, simprocAttr]
    | false =>
      rw [hA] at hpi
      simp only [r06_First_B2, r06_First_K2_a, h1, r06_holds_call, hpi, hwr, Bool.not_false, zy, simprocAttr]
theorem ref4_loop (l : Lay) (k m : Nat) (hn : m ≤ Zc.small) (p : Nat → Bool) (hp : ∀ i < m, ∀ st H, r06_part_F st H [.agg (layC l), .int .i64 k, .int .i64 (i : Nat)] = some (.bool (p i), H)) : ∀ (d i : Nat), i + d = m →
    r06_First_R4 ([(1, .op (.loc 1) 0), (4, .int .i64 k), (6, .int .i64 m), (8, .int .i64 i)], ⟨[(1, layC l)], []⟩) =
      match (List.range' i d).find? fun i => !p i with
      | some j => some (.ret, [(2, .int .i64 k), (3, .int .i64 j)], ⟨[(1, layC l)], []⟩)
      | none => some (.norm, [(1, .op (.loc 1) 0), (4, .int .i64 k)], ⟨[(1, layC l)], []⟩)
  | 0, i, hk => by
    have h1 : ¬ ((i : Int) < m) := by omega
    rw [r06_First_R4_eq]
    simp only [r06_First_B4, r06_First_K4_a, h1, List.range'_zero, List.find?_nil, zy, simprocAttr]
  | d + 1, i, hk => by
    have h1 : ((i : Int) < m) := by omega
    have hwr := wrapN (n := i) (by omega)
    have hpi := fun st H => hp i (by omega) st H
    have ih := ref4_loop l k m hn p hp d (i + 1) (by omega)
    rw [r06_First_R4_eq]
    rw [List.range'_succ, List.find?_cons]
    cases hA : p i with
    | true =>
      rw [hA] at hpi
      simp only [r06_First_B4, r06_First_K4_a, h1, r06_part_call, hpi, hwr, ih, Bool.not_true, zy, simprocAttr]
    | false =>
      rw [hA] at hpi
      simp only [r06_First_B4, r06_First_K4_a, h1, r06_part_call, hpi, hwr, Bool.not_false, zy, simprocAttr]
/-- A rule of the reference's, and what it tells. -/
structure RefRow (l : Lay) (k : Nat) (x : List Ru) (n m : Nat) (p q : Nat → Bool) : Prop where
  hn : n ≤ Zc.small
  hm : m ≤ Zc.small
  places : ∀ st H, r06_places_F st H [.agg (layC l), .int .i64 k] = some (.tup [.int .i64 n, .int .i64 m], H)
  holds : ∀ i < n, ∀ st H, r06_holds_F st H [.agg (layC l), .int .i64 k, .int .i64 (i : Nat)] = some (.bool (p i), H)
  part : ∀ i < m, ∀ st H, r06_part_F st H [.agg (layC l), .int .i64 k, .int .i64 (i : Nat)] = some (.bool (q i), H)
  bad : rowBad x = match bad p n with | some i => some i | none => bad q m
def refRows (l : Lay) : Nat → List (List Ru) → Prop
  | _, [] => True
  | k, x :: s => (∃ n m p q, RefRow l k x n m p q) ∧ (rowAll x → refRows l (k + 1) s)
theorem ref_loop (l : Lay) : ∀ (s : List (List Ru)) (k : Nat), k + s.length = 16 → refRows l k s →
    ∃ bx, r06_First_R0 ([(1, .op (.loc 1) 0), (4, .int .i64 k)], ⟨[(1, layC l)], []⟩) =
      match rowsBad k s with
      | some (k, i) => some (.ret, [(2, .int .i64 k), (3, .int .i64 i)], ⟨bx, []⟩)
      | none => some (.norm, [], ⟨[], []⟩)
  | [], k, hk, _ => by
    have h1 : ¬ ((k : Int) ≤ 15) := by simp at hk; omega
    refine ⟨[], ?_⟩
    rw [r06_First_R0_eq]
    simp only [r06_First_B0, r06_First_K0_a, h1, rowsBad, zy, simprocAttr]
  | x :: s, k, hk, hr => by
    have hk' : k + 1 + s.length = 16 := by simp at hk; omega
    have h1 : ((k : Int) ≤ 15) := by omega
    have hwr := wrapN (n := k) (by unfold Zc.small; omega)
    obtain ⟨⟨n, m, p, q, hn, hm, hpl, hh, hq, hb⟩, hs⟩ := hr
    have e2 := ref2_loop l k n m hn p hh n 0 (by omega)
    have e4 := ref4_loop l k m hm q hq m 0 (by omega)
    rw [← List.range_eq_range'] at e2 e4
    simp only [List.nil_append, List.length_nil, Int.natCast_zero] at e2 e4
    have e2' : _ = match bad p n with | some j => _ | none => _ := e2
    have e4' : _ = match bad q m with | some j => _ | none => _ := e4
    simp only [rowsBad]
    rw [hb]
    cases hB : bad p n with
    | some j =>
      simp only [hB] at e2'
      refine ⟨[(1, layC l)], ?_⟩
      rw [r06_First_R0_eq]
      simp only [r06_First_B0, r06_First_K0_a, r06_First_L2_eq, h1, r06_places_call, hpl, e2', zy, simprocAttr]
    | none =>
      simp only [hB] at e2'
      cases hQ : bad q m with
      | some j =>
        simp only [hQ] at e4'
        refine ⟨[(1, layC l)], ?_⟩
        rw [r06_First_R0_eq]
        simp only [r06_First_B0, r06_First_K0_a, r06_First_L2_eq, r06_First_L4_eq, h1, r06_places_call, hpl, e2', e4', zy, simprocAttr]
      | none =>
        simp only [hQ] at e4'
        have hall : rowAll x := rowBad_none (by rw [hb, hB]; exact hQ)
        obtain ⟨bx, ih⟩ := ref_loop l s (k + 1) hk' (hs hall)
        refine ⟨bx, ?_⟩
        rw [r06_First_R0_eq]
        simp only [r06_First_B0, r06_First_K0_a, r06_First_L2_eq, r06_First_L4_eq, h1, r06_places_call, hpl, e2', e4', hwr, ih, zy, simprocAttr]
theorem rowsBad_succ : ∀ (s : List (List Ru)) (k : Nat), rowsBad (k + 1) s = (rowsBad k s).map fun q => (q.1 + 1, q.2)
  | [], k => rfl
  | x :: s, k => by
    simp only [rowsBad]
    cases rowBad x with
    | some i => rfl
    | none => exact rowsBad_succ s (k + 1)
theorem bad_zero (p : Nat → Bool) : bad p 0 = none := rfl
theorem rowBad1 (r : Ru) (q : Nat → Bool) : rowBad [r] = match bad r.p r.n with | some i => some i | none => bad q 0 := by
  simp only [rowBad, bad_zero]
  cases bad r.p r.n <;> rfl
theorem rowBad2 (r q : Ru) : rowBad [r, q] = match bad r.p r.n with | some i => some i | none => bad q.p q.n := by
  simp only [rowBad]
  cases bad r.p r.n with
  | some i => rfl
  | none => cases bad q.p q.n <;> rfl
theorem refs_ok {l : Lay} {zs : List (Int × Int)} (hl : l.ok) (hs : Sm l) (h : Pl l zs) : refRows l 1 (rowsOf l zs) := by
  have s0 : 0 ≤ Zc.small := Nat.zero_le _
  have s1 : 1 ≤ Zc.small := by unfold Zc.small; omega
  have nop : ∀ (k : Int) (q : Nat → Bool), ∀ i < 0, ∀ st H, r06_part_F st H [.agg (layC l), .int .i64 k, .int .i64 (i : Nat)] = some (.bool (q i), H) := fun k q i hi => absurd hi (by omega)
  obtain ⟨m1, m2, m3, m4⟩ := hs
  refine ⟨⟨1, 0, _, fun _ => true, ⟨s1, s0, fun st H => places1 l st H, fun i hi st H => holds1 l i st H, nop _ _, rowBad1 _ _⟩⟩, fun a1 => ?_⟩
  refine ⟨⟨l.nodes.length, 0, _, fun _ => true, ⟨hl.nodes, s0, fun st H => places2 l st H, fun i hi st H => holds2 h m1 i (by rw [← h.len]; exact hi) st H, nop _ _, rowBad1 _ _⟩⟩, fun a2 => ?_⟩
  refine ⟨⟨1, 0, _, fun _ => true, ⟨s1, s0, fun st H => places3 l st H, fun i hi st H => holds3 l i st H, nop _ _, rowBad1 _ _⟩⟩, fun a3 => ?_⟩
  refine ⟨⟨l.secs.length, 0, _, fun _ => true, ⟨hl.secs, s0, fun st H => places4 l st H, fun i hi st H => (holds4 h i hi st H).trans (by simp only [List.getElem?_eq_getElem hi]), nop _ _, rowBad1 _ _⟩⟩, fun a4 => ?_⟩
  refine ⟨⟨1, 0, _, fun _ => true, ⟨s1, s0, fun st H => places5 l st H, fun i hi st H => holds5 l i st H, nop _ _, rowBad1 _ _⟩⟩, fun a5 => ?_⟩
  refine ⟨⟨l.secs.length, 0, _, fun _ => true, ⟨hl.secs, s0, fun st H => places6 l st H, fun i hi st H => (holds6 l i hi st H).trans (by simp only [List.getElem?_eq_getElem hi]), nop _ _, rowBad1 _ _⟩⟩, fun a6 => ?_⟩
  refine ⟨⟨1, 0, _, fun _ => true, ⟨s1, s0, fun st H => places7 l st H, fun i hi st H => holds7 l i st H, nop _ _, rowBad1 _ _⟩⟩, fun a7 => ?_⟩
  refine ⟨⟨l.nodes.length, 0, _, fun _ => true, ⟨hl.nodes, s0, fun st H => places8 l st H, fun i hi st H => holds8 l hl i st H, nop _ _, rowBad1 _ _⟩⟩, fun a8 => ?_⟩
  refine ⟨⟨1, 0, _, fun _ => true, ⟨s1, s0, fun st H => places9 l st H, fun i hi st H => holds9 l i st H, nop _ _, rowBad1 _ _⟩⟩, fun a9 => ?_⟩
  refine ⟨⟨l.pts.length, 0, _, fun _ => true, ⟨hl.pts, s0, fun st H => places10 l st H, fun i hi st H => (holds10 l hl i hi st H).trans (by simp only [List.getElem?_eq_getElem hi]), nop _ _, rowBad1 _ _⟩⟩, fun a10 => ?_⟩
  refine ⟨⟨l.nodes.length, 0, _, fun _ => true, ⟨hl.nodes, s0, fun st H => places11 l st H, fun i hi st H => holds11 l hl m4 i st H, nop _ _, rowBad1 _ _⟩⟩, fun a11 => ?_⟩
  refine ⟨⟨l.nodes.length, 0, _, fun _ => true, ⟨hl.nodes, s0, fun st H => places12 l st H, fun i hi st H => holds12 hl h (tied_of (a4 _ (List.mem_singleton.2 rfl))) (set_of (a10 _ (List.mem_singleton.2 rfl))) i hi (a11 _ (List.mem_singleton.2 rfl) i hi) st H, nop _ _, rowBad1 _ _⟩⟩, fun a12 => ?_⟩
  refine ⟨⟨1, l.parts.length, _, _, ⟨s1, hl.parts, fun st H => places13 l st H, fun i hi st H => holds13 l i st H, fun i hi st H => (rpart13 l hl i hi st H).trans (by simp only [List.getElem?_eq_getElem hi]), rowBad2 _ _⟩⟩, fun a13 => ?_⟩
  refine ⟨⟨l.secs.length, 0, _, fun _ => true, ⟨hl.secs, s0, fun st H => places14 l st H, fun i hi st H => holds14 l hl m3 i st H, nop _ _, rowBad1 _ _⟩⟩, fun a14 => ?_⟩
  refine ⟨⟨1, l.routes.length, _, _, ⟨s1, hl.routes, fun st H => places15 l st H, fun i hi st H => holds15 l i st H, fun i hi st H => (rpart15 l hl i hi st H).trans (by simp only [List.getElem?_eq_getElem hi]), rowBad2 _ _⟩⟩, fun a15 => ?_⟩
  exact trivial
theorem rFirst_F {l : Lay} {zs : List (Int × Int)} (hl : l.ok) (hs : Sm l) (h : Pl l zs) (H : Heap) : r06_First_F false H [.agg (layC l)] = some (.tup [.int .i64 (firstN l zs).1, .int .i64 (firstN l zs).2], H) := by
  obtain ⟨bx, e⟩ := ref_loop l (rowsOf l zs) 1 rfl (refs_ok hl hs h)
  have hsu := rowsBad_succ (rowsOf l zs) 0
  simp only [Nat.zero_add] at hsu
  rw [hsu] at e
  unfold firstN
  rw [r06_First_F_eq]
  cases hB : rowsBad 0 (rowsOf l zs) with
  | none =>
    simp only [hB, Option.map_none, show ((1 : Nat) : Int) = 1 from rfl] at e
    simp only [r06_First_C, r06_First_L0_eq, e, zy, simprocAttr]
  | some q =>
    obtain ⟨k, i⟩ := q
    simp only [hB, Option.map_some, show ((1 : Nat) : Int) = 1 from rfl] at e
    simp only [r06_First_C, r06_First_L0_eq, e, zy, simprocAttr]
theorem judged_F {l : Lay} {zs : List (Int × Int)} (hl : l.ok) (hs : Sm l) (h : Pl l zs) (st : Bool) (H : Heap) : l06_judged_F st H [.agg (layC l)] = some (.bool true, H) := by
  have e1 := fun H => vFirst_F hl hs h H
  have e2 := fun H => rFirst_F hl hs h H
  have e3 := fun H => vRight_F hl hs h H
  have d := deq (firstN l zs).1 0 0 rfl
  rw [l06_judged_F_eq]
  by_cases hz : (firstN l zs).1 = 0
  · have hz' : ((firstN l zs).1 : Int) = 0 := by omega
    simp only [l06_judged_C, verify_First_call, e1, r06_First_call, e2, verify_Right_call, e3, hz, hz', decide_true, zy, simprocAttr]
  · have hz' : ¬ ((firstN l zs).1 : Int) = 0 := by omega
    simp only [l06_judged_C, verify_First_call, e1, r06_First_call, e2, verify_Right_call, e3, hz, hz', decide_false, zy, simprocAttr]
end Go.Proofs.YtlhjpcgfkkhogaaGreat.Zt
end
section
namespace Go.Proofs.YtlhjpcgfkkhogaaGreat.Zt
open Go Go.Zc
set_option maxRecDepth 100000

theorem form_xy (form : Int) : ∃ f ∈ forms, mkEnds form = mkEnds f ∧ mkPts form = mkPts f ∧ ∀ u, mkXY form u = mkXY f u := by
  have h4 : form % 4 = 0 ∨ form % 4 = 1 ∨ form % 4 = 2 ∨ form % 4 = 3 := by omega
  rcases h4 with h | h | h | h
  · have h6 : form / 4 % 6 = 0 ∨ form / 4 % 6 = 1 ∨ form / 4 % 6 = 2 ∨ form / 4 % 6 = 3 ∨ form / 4 % 6 = 4 ∨ form / 4 % 6 = 5 := by omega
    rcases h6 with k | k | k | k | k | k
    · exact ⟨0, by decide, by simp [mkEnds, h, mkN, k], by simp [mkPts, h], by intro u; simp [mkXY, h, mkN, k]⟩
    · exact ⟨4, by decide, by simp [mkEnds, h, mkN, k], by simp [mkPts, h], by intro u; simp [mkXY, h, mkN, k]⟩
    · exact ⟨8, by decide, by simp [mkEnds, h, mkN, k], by simp [mkPts, h], by intro u; simp [mkXY, h, mkN, k]⟩
    · exact ⟨12, by decide, by simp [mkEnds, h, mkN, k], by simp [mkPts, h], by intro u; simp [mkXY, h, mkN, k]⟩
    · exact ⟨16, by decide, by simp [mkEnds, h, mkN, k], by simp [mkPts, h], by intro u; simp [mkXY, h, mkN, k]⟩
    · exact ⟨20, by decide, by simp [mkEnds, h, mkN, k], by simp [mkPts, h], by intro u; simp [mkXY, h, mkN, k]⟩
  · exact ⟨1, by decide, by simp [mkEnds, h], by simp [mkPts, h], by intro u; simp [mkXY, h]⟩
  · exact ⟨2, by decide, by simp [mkEnds, h], by simp [mkPts, h], by intro u; simp [mkXY, h]⟩
  · exact ⟨3, by decide, by simp [mkEnds, h], by simp [mkPts, h], by intro u; simp [mkXY, h]⟩
def unitsL : List Int := (List.range 20).map fun (k : Nat) => 10 * (1 + (k : Int))
theorem unit_in (len : Int) : unitOf len ∈ unitsL := by
  unfold unitsL unitOf
  rw [List.mem_map]
  exact ⟨(len % 20).toNat, List.mem_range.2 (by omega), by omega⟩
def nearB (p : Int × Int) : Bool := decide (p.1.natAbs ≤ 2000) && decide (p.2.natAbs ≤ 2000)
def trackL (f u : Int) : Lay := ⟨(mkXY f u).map fl2, mkSecs u 0 (mkEnds f), [], mkPts f, [], 0, 0, 0, 0, 0⟩
def okTrack (f u : Int) : Bool :=
  let l := trackL f u
  let zs := mkXY f u
  let n := List.range zs.length
  zs.all nearB && (decide (2 ≤ zs.length) && decide (zs.length ≤ 40)) && n.all (freshI zs) && (decide (1 ≤ l.secs.length) && decide (l.secs.length ≤ 32)) && l.secs.all (secI l zs) && l.secs.all (fun s => decide (2 * u ≤ s.len)) &&
    n.all (fun i => endsB l i) && decide (l.pts.length ≤ 8) && l.pts.all (pointB l) && n.all (fun i => pointsB l i) && n.all (fun i => goesI l zs i) && (decide (3 ≤ l.secs.length) && decide (l.secs.length ≤ 8))
theorem okTracks : (forms.all fun f => unitsL.all fun u => okTrack f u) = true := by kernel_rfl
def partsR (n : Nat) (j : Int) : Bool :=
  let P := mkParts j 0 n []
  (decide (1 ≤ P.length) && decide (P.length ≤ 16)) && P.all (fun x => decide (0 < x.length) && !(x.any fun s => !(decide (0 ≤ s) && decide (s < (n : Int))))) && (List.range n).all fun s => decide (cntS s P = 1)
theorem partsRs : ([3, 4, 5, 6, 7, 8].all fun n => (List.range 256).all fun j => partsR n (j : Nat)) = true := by kernel_rfl

theorem bad_all {p : Nat → Bool} {n : Nat} (h : ∀ i < n, p i = true) : bad p n = none := by
  unfold bad
  rw [List.find?_eq_none]
  intro i hi
  rw [h i (List.mem_range.1 hi)]
  simp
theorem rowBad_all : ∀ {x : List Ru}, (∀ r ∈ x, r.all) → rowBad x = none
  | [], _ => rfl
  | r :: s, h => by
    have ih := rowBad_all (x := s) fun q hq => h q (List.mem_cons_of_mem _ hq)
    simp only [rowBad, bad_all (h r List.mem_cons_self), ih]
theorem rowsBad_all : ∀ {x : List (List Ru)} {k : Nat}, (∀ y ∈ x, ∀ r ∈ y, r.all) → rowsBad k x = none
  | [], _, _ => rfl
  | y :: s, k, h => by
    have ih := rowsBad_all (x := s) (k := k + 1) fun q hq => h q (List.mem_cons_of_mem _ hq)
    simp only [rowsBad, rowBad_all (h y List.mem_cons_self), ih]
theorem cong {l l' : Lay} (hn : l.nodes = l'.nodes) (hs : l.secs = l'.secs) (hp : l.pts = l'.pts) : (∀ zs, secI l zs = secI l' zs) ∧ endsB l = endsB l' ∧ pointB l = pointB l' ∧ pointsB l = pointsB l' ∧ ∀ zs, goesI l zs = goesI l' zs := by
  obtain ⟨n, s, _, p, _, _, _, _, _, _⟩ := l
  obtain ⟨n', s', _, p', _, _, _, _, _, _⟩ := l'
  simp only at hn hs hp
  subst hn hs hp
  exact ⟨fun _ => rfl, rfl, rfl, rfl, fun _ => rfl⟩
def xyOf (d : Draft) : List (Int × Int) := mkXY d.form (unitOf d.len)
/-- What the kernel found of a draft's track. -/
theorem full_track (d : Draft) : let l := full d; let zs := xyOf d
    (∀ p ∈ zs, Near 2000 p) ∧ (2 ≤ zs.length ∧ zs.length ≤ 40) ∧ (∀ i < zs.length, freshI zs i = true) ∧ (1 ≤ l.secs.length ∧ l.secs.length ≤ 32) ∧ (∀ s ∈ l.secs, secI l zs s = true) ∧ (∀ s ∈ l.secs, 2 * unitOf d.len ≤ s.len) ∧
    (∀ i < zs.length, endsB l (i : Nat) = true) ∧ l.pts.length ≤ 8 ∧ (∀ p ∈ l.pts, pointB l p = true) ∧ (∀ i < zs.length, pointsB l (i : Nat) = true) ∧ (∀ i < zs.length, goesI l zs (i : Nat) = true) ∧ (3 ≤ l.secs.length ∧ l.secs.length ≤ 8) := by
  obtain ⟨f, hf, h1, h2, h3⟩ := form_xy d.form
  have h := List.all_eq_true.1 (List.all_eq_true.1 okTracks f hf) _ (unit_in d.len)
  obtain ⟨c1, c2, c3, c4, c5⟩ := cong (l := full d) (l' := trackL f (unitOf d.len)) (by show (mkXY d.form (unitOf d.len)).map fl2 = _; rw [h3]; rfl) (by show mkSecs (unitOf d.len) 0 (mkEnds d.form) = _; rw [h1]; rfl) (by show mkPts d.form = _; rw [h2]; rfl)
  have hs : (full d).secs = (trackL f (unitOf d.len)).secs := by show mkSecs (unitOf d.len) 0 (mkEnds d.form) = _; rw [h1]; rfl
  have hp : (full d).pts = (trackL f (unitOf d.len)).pts := by show mkPts d.form = _; rw [h2]; rfl
  unfold xyOf
  simp only [c1, c2, c3, c4, c5, hs, hp, h3]
  unfold okTrack at h
  simp only [Bool.and_eq_true, List.all_eq_true, decide_eq_true_eq, List.mem_range, nearB] at h
  obtain ⟨⟨⟨⟨⟨⟨⟨⟨⟨⟨⟨g1, g2⟩, g3⟩, g4⟩, g5⟩, g6⟩, g7⟩, g8⟩, g9⟩, g10⟩, g11⟩, g12⟩ := h
  exact ⟨fun p hp => ⟨(g1 p hp).1, (g1 p hp).2⟩, g2, g3, g4, g5, g6, g7, g8, g9, g10, g11, g12⟩
theorem full_nodes (d : Draft) : (full d).nodes = (xyOf d).map fl2 := rfl
theorem repZ_fl2 {p : Int × Int} (h : Near (2 ^ 52) p) : RepZ (fl2 p) p := ⟨Rep.fl (by have := h.1; omega), Rep.fl (by have := h.2; omega)⟩
theorem pl_full (d : Draft) : Pl (full d) (xyOf d) := by
  obtain ⟨g1, _⟩ := full_track d
  refine ⟨by rw [full_nodes, List.length_map], fun i z p hz hp => ?_, fun p hp => near_le (g1 p hp) (by decide)⟩
  rw [full_nodes, List.getElem?_map, hp] at hz
  simp only [Option.map_some, Option.some.injEq] at hz
  subst hz
  exact repZ_fl2 (near_le (g1 p (List.mem_of_getElem? hp)) (by decide))
theorem sm_full (d : Draft) (hd : d.ok) : Sm (full d) := by
  obtain ⟨_, g2, _, _, _, _, _, g8, _, _, _, g12⟩ := full_track d
  have hp : (full d).parts.length ≤ 1000 := by
    have h2 := List.all_eq_true.1 partsRs (full d).secs.length (by
      have h3 : (full d).secs.length = 3 ∨ (full d).secs.length = 4 ∨ (full d).secs.length = 5 ∨ (full d).secs.length = 6 ∨ (full d).secs.length = 7 ∨ (full d).secs.length = 8 := by omega
      rcases h3 with h | h | h | h | h | h <;> rw [h] <;> decide)
    obtain ⟨j, hj⟩ := Int.eq_ofNat_of_zero_le hd.join.1
    have h3 := List.all_eq_true.1 h2 j (List.mem_range.2 (by have := hd.join.2; omega))
    unfold partsR at h3
    simp only [Bool.and_eq_true, decide_eq_true_eq] at h3
    rw [mkParts_of, ← full_secs_len, hj]
    omega
  refine ⟨?_, by omega, hp, by omega⟩
  rw [full_nodes, List.length_map]
  omega
theorem full_partsR (d : Draft) (hd : d.ok) : (1 ≤ (full d).parts.length ∧ (full d).parts.length ≤ 16) ∧ (∀ x ∈ (full d).parts, partB (full d) x = true) ∧ ∀ i < (full d).secs.length, onceB (full d) (i : Nat) = true := by
  obtain ⟨_, _, _, _, _, _, _, _, _, _, _, g12⟩ := full_track d
  have h2 := List.all_eq_true.1 partsRs (full d).secs.length (by
    have h3 : (full d).secs.length = 3 ∨ (full d).secs.length = 4 ∨ (full d).secs.length = 5 ∨ (full d).secs.length = 6 ∨ (full d).secs.length = 7 ∨ (full d).secs.length = 8 := by omega
    rcases h3 with h | h | h | h | h | h <;> rw [h] <;> decide)
  obtain ⟨j, hj⟩ := Int.eq_ofNat_of_zero_le hd.join.1
  have h3 := List.all_eq_true.1 h2 j (List.mem_range.2 (by have := hd.join.2; omega))
  unfold partsR at h3
  rw [← hj, show mkParts d.join 0 (full d).secs.length [] = (full d).parts by rw [full_secs_len]; rfl] at h3
  simp only [Bool.and_eq_true, List.all_eq_true, List.mem_range] at h3
  obtain ⟨⟨⟨a, b⟩, c⟩, e⟩ := h3
  exact ⟨⟨of_decide_eq_true a, of_decide_eq_true b⟩, fun x hx => by
    have := c x hx
    unfold partB secB
    rw [Bool.and_eq_true]
    exact this, fun i hi => e i hi⟩
theorem full_routesR (d : Draft) (hd : d.ok) : (full d).routes.length ≤ 16 ∧ ∀ x ∈ (full d).routes, routeB (full d) x = true := by
  have h := fullFrom_ok (make d) d.routes [] (by simp) (by simp)
  refine ⟨h.1, fun x hx => ?_⟩
  have hw : ∀ (r acc : List (List Int)), (∀ y ∈ r, ∀ t ∈ y, 0 ≤ t ∧ t ≤ 255) → (∀ x ∈ acc, (npath (full d) x).isSome = true) → ∀ x ∈ fullFrom (make d) r acc, (npath (full d) x).isSome = true := by
    intro r
    induction r with
    | nil => intro acc _ h x hx; exact h x hx
    | cons y r ih =>
      intro acc hy h x hx
      simp only [fullFrom] at hx
      split at hx
      · exact h x hx
      · refine ih _ (fun z hz => hy z (by simp [hz])) ?_ x hx
        split
        · rename_i _ hc
          intro z hz
          rcases List.mem_append.1 hz with hz | hz
          · exact h z hz
          · simp only [List.mem_singleton] at hz
            subst hz
            have he : y.headD 0 / 128 = 0 ∨ y.headD 0 / 128 = 1 := by
              cases y with
              | nil => simp
              | cons t y =>
                have := hy (t :: y) List.mem_cons_self t List.mem_cons_self
                simp only [List.headD_cons]
                omega
            have := npath_walk d (full_ok d) (y.headD 0 % (make d).secs.length) (y.headD 0 / 128) he (y.drop 2) ((2 + (y.drop 1).headD 0 % 5).toNat : Nat)
            have hww : walk (full d) (y.headD 0 % (make d).secs.length) (y.headD 0 / 128) (y.drop 2) ((2 + (y.drop 1).headD 0 % 5).toNat : Nat) = wayOf (make d) y := walk_routes (make d) _ _ _ _ _
            rw [hww] at this
            rw [this, decide_eq_true]
            omega
        · exact h
  have h1 := hw d.routes [] (fun y hy => (hd.route y hy).2) (by simp) x hx
  have h2 := h.2 x hx
  unfold routeB
  rw [h1, decide_eq_true (by omega)]
  rfl
theorem right_full (d : Draft) (hd : d.ok) : firstN (full d) (xyOf d) = (0, 0) := by
  obtain ⟨g1, g2, g3, g4, g5, g6, g7, g8, g9, g10, g11, g12⟩ := full_track d
  obtain ⟨p1, p2, p3⟩ := full_partsR d hd
  obtain ⟨r1, r2⟩ := full_routesR d hd
  have hn : (full d).nodes.length = (xyOf d).length := by rw [full_nodes, List.length_map]
  have hu : 10 ≤ unitOf d.len ∧ unitOf d.len ≤ 200 := by unfold unitOf; omega
  have hsp : (full d).speed = 1 + d.speed % (2 * unitOf d.len) := rfl
  have o : ∀ (b : Bool) (c : CV), b = true → Ru.all ⟨1, c, fun _ => b⟩ := fun b c h i _ => h
  have hb : rowsBad 0 (rowsOf (full d) (xyOf d)) = none := by
    refine rowsBad_all ?_
    unfold rowsOf
    simp only [List.mem_cons, List.not_mem_nil, or_false, forall_eq_or_imp, forall_eq]
    refine ⟨o _ _ ?_, fun i hi => ?_, o _ _ ?_, fun i hi => ?_, o _ _ ?_, fun i hi => ?_, o _ _ ?_, fun i hi => ?_, o _ _ ?_, fun i hi => ?_, fun i hi => ?_, fun i hi => ?_, ⟨o _ _ ?_, fun i hi => ?_⟩, fun i hi => ?_, o _ _ ?_, fun i hi => ?_⟩
    · rw [hn]; simp; omega
    · exact g3 i (by rw [← hn]; exact hi)
    · simp; omega
    · simp only at hi ⊢
      rw [List.getElem?_eq_getElem hi]
      exact g5 _ (List.getElem_mem hi)
    · have := Int.emod_nonneg d.speed (show 2 * unitOf d.len ≠ 0 by omega)
      have := Int.emod_lt_of_pos d.speed (show 0 < 2 * unitOf d.len by omega)
      rw [hsp]; simp; omega
    · simp only at hi ⊢
      rw [List.getElem?_eq_getElem hi]
      have := g6 _ (List.getElem_mem hi)
      have := Int.emod_lt_of_pos d.speed (show 0 < 2 * unitOf d.len by omega)
      simp only [decide_eq_true_eq]
      rw [hsp]; omega
    · have e1 : (full d).mute = 1 + d.mute % 1000 := rfl
      have e2 : (full d).wait = 1 + d.wait % 1000 := rfl
      have e3 : (full d).cancel = 1 + d.cancel := rfl
      have e4 : (full d).stay = d.stay % 4 := rfl
      have := hd.cancel
      simp only [timesB, timeB, stayB, e1, e2, e3, e4, List.all_cons, List.all_nil, Bool.and_eq_true, decide_eq_true_eq, Bool.and_true]
      omega
    · exact g7 i (by rw [← hn]; exact hi)
    · simp; omega
    · simp only at hi ⊢
      rw [List.getElem?_eq_getElem hi]
      exact g9 _ (List.getElem_mem hi)
    · exact g10 i (by rw [← hn]; exact hi)
    · exact g11 i (by rw [← hn]; exact hi)
    · simp; omega
    · simp only at hi ⊢
      rw [List.getElem?_eq_getElem hi]
      exact p2 _ (List.getElem_mem hi)
    · exact p3 i hi
    · simp; omega
    · simp only at hi ⊢
      rw [List.getElem?_eq_getElem hi]
      exact r2 _ (List.getElem_mem hi)
  unfold firstN
  rw [hb]
end Go.Proofs.YtlhjpcgfkkhogaaGreat.Zt
end
section
namespace Go.Proofs.YtlhjpcgfkkhogaaGreat.Zt
open Go Go.Zc
set_option maxRecDepth 100000

theorem nothing_F (st : Bool) (H : Heap) : l06_nothing_F st H [] = some (.bool true, H) := fz_run 300 (by kernel_rfl)
end Go.Proofs.YtlhjpcgfkkhogaaGreat.Zt
end
section
namespace Go.Proofs.YtlhjpcgfkkhogaaGreat.Zt
open Go Go.Zc
set_option maxRecDepth 10000

/-- A row of two sections, the second told from its far end. -/
def turnL (x y long : Int) : Lay := ⟨[(0, 0), (4636737291354636288, 0), (FloatKind.f64.nearest (100 + x), FloatKind.f64.nearest y)], [⟨100, 0, 1⟩, ⟨100 + long, 2, 1⟩], [[0, 1]], [], [], 100, 1, 1, 1, 0⟩
def turnZ (x y : Int) : List (Int × Int) := [(0, 0), (100, 0), (100 + x, y)]
theorem rep_0 : RepZ (0, 0) (0, 0) := ⟨Rep.zero, Rep.zero⟩
theorem rep_100 : RepZ (4636737291354636288, 0) (100, 0) := by
  have h := repZ_fl2 (p := (100, 0)) ⟨by decide, by decide⟩
  have e : fl2 (100, 0) = (4636737291354636288, 0) := by kernel_rfl
  rw [e] at h
  exact h
theorem rep_xy {x y : Int} (hx : -128 ≤ x ∧ x ≤ 127) (hy : -128 ≤ y ∧ y ≤ 127) : RepZ (FloatKind.f64.nearest (100 + x), FloatKind.f64.nearest y) (100 + x, y) :=
  repZ_fl2 (p := (100 + x, y)) ⟨by simp only; omega, by simp only; omega⟩
theorem turn_ok (x y long : Int) : (turnL x y long).ok := by
  refine ⟨?_, ?_, ?_, ?_, ?_, ?_, ?_⟩ <;> simp [turnL, Zc.small]
theorem turn_sm (x y long : Int) : Sm (turnL x y long) := by
  refine ⟨?_, ?_, ?_, ?_⟩ <;> simp [turnL]
theorem turn_pl {x y : Int} (long : Int) (hx : -128 ≤ x ∧ x ≤ 127) (hy : -128 ≤ y ∧ y ≤ 127) : Pl (turnL x y long) (turnZ x y) := by
  refine ⟨rfl, fun i z p hz hp => ?_, fun p hp => ?_⟩
  · simp only [turnL, turnZ] at hz hp
    match i with
    | 0 => simp at hz hp; subst hz hp; exact rep_0
    | 1 => simp at hz hp; subst hz hp; exact rep_100
    | 2 => simp at hz hp; subst hz hp; exact rep_xy hx hy
    | i + 3 => simp at hz
  · simp only [turnZ, List.mem_cons, List.not_mem_nil, or_false] at hp
    rcases hp with rfl | rfl | rfl
    · exact ⟨by decide, by decide⟩
    · exact ⟨by decide, by decide⟩
    · exact ⟨by simp only; omega, by simp only; omega⟩
theorem rowsBad_app : ∀ (a b : List (List Ru)) (k : Nat), (∀ y ∈ a, ∀ r ∈ y, r.all) → rowsBad k (a ++ b) = rowsBad (k + a.length) b
  | [], b, k, _ => rfl
  | y :: a, b, k, h => by
    have ih := rowsBad_app a b (k + 1) fun q hq => h q (List.mem_cons_of_mem _ hq)
    simp only [List.cons_append, rowsBad, rowBad_all (h y List.mem_cons_self), ih, List.length_cons]
    rw [show k + 1 + a.length = k + (a.length + 1) by omega]
theorem all2 {p : Nat → Bool} (h0 : p 0 = true) (h1 : p 1 = true) : ∀ i < 2, p i = true := fun i hi => by
  match i with
  | 0 => exact h0
  | 1 => exact h1
  | i + 2 => omega
theorem all3 {p : Nat → Bool} (h0 : p 0 = true) (h1 : p 1 = true) (h2 : p 2 = true) : ∀ i < 3, p i = true := fun i hi => by
  match i with
  | 0 => exact h0
  | 1 => exact h1
  | 2 => exact h2
  | i + 3 => omega
theorem turn_ends (x y long : Int) : ends (turnL x y long) 0 = [⟨0, 0⟩] ∧ ends (turnL x y long) 1 = [⟨0, 1⟩, ⟨1, 1⟩] ∧ ends (turnL x y long) 2 = [⟨1, 0⟩] := by
  refine ⟨?_, ?_, ?_⟩ <;> simp [ends, endsFrom, turnL]
theorem turn_first {x y long : Int} (hx : -128 ≤ x ∧ x ≤ 127) (hy : -128 ≤ y ∧ y ≤ 127) (hl : 0 ≤ long ∧ long ≤ 255) (h0 : ¬ ((100 + x, y) : Int × Int) = (0, 0)) (h1 : ¬ ((100 + x, y) : Int × Int) = (100, 0))
    (hd : x * x + y * y ≤ (100 + long) * (100 + long)) : (firstN (turnL x y long) (turnZ x y)).1 = if x ≤ 0 then 12 else 0 := by
  obtain ⟨e0, e1, e2⟩ := turn_ends x y long
  have o : ∀ (b : Bool) (c : CV), b = true → Ru.all ⟨1, c, fun _ => b⟩ := fun b c h i _ => h
  have hpt : ∀ n, ptOf (turnL x y long) n = none := fun n => rfl
  have g0 : goesI (turnL x y long) (turnZ x y) ((0 : Nat) : Int) = true := by
    simp only [goesI, hpt, Int.natCast_zero, Int.ofNat_zero, e0]
  have g1 : goesI (turnL x y long) (turnZ x y) ((1 : Nat) : Int) = decide (0 < x) := by
    simp only [goesI, hpt, show ((1 : Nat) : Int) = 1 from rfl, e1]
    simp only [onI, otherI, turnL, turnZ, aheadI, dotI, subI]
    simp
    constructor <;> intro h <;> omega
  have g2 : goesI (turnL x y long) (turnZ x y) ((2 : Nat) : Int) = true := by
    simp only [goesI, hpt, show ((2 : Nat) : Int) = 2 from rfl, e2]
  have hrows : rowsOf (turnL x y long) (turnZ x y) = (rowsOf (turnL x y long) (turnZ x y)).take 11 ++ (rowsOf (turnL x y long) (turnZ x y)).drop 11 := (List.take_append_drop 11 _).symm
  have hn : (100 - (100 + x)) * (100 - (100 + x)) + (0 - y) * (0 - y) = x * x + y * y := by
    rw [show (100 - (100 + x) : Int) = -x by omega, show (0 - y : Int) = -y by omega, Int.neg_mul_neg, Int.neg_mul_neg]
  have a11 : ∀ y' ∈ (rowsOf (turnL x y long) (turnZ x y)).take 11, ∀ r ∈ y', r.all := by
    unfold rowsOf
    simp only [List.take_succ_cons, List.take_zero, List.mem_cons, List.not_mem_nil, or_false, forall_eq_or_imp, forall_eq]
    refine ⟨o _ _ rfl, all3 ?_ ?_ ?_, o _ _ rfl, all2 ?_ ?_, o _ _ rfl, all2 ?_ ?_, o _ _ rfl, all3 ?_ ?_ ?_, o _ _ rfl, fun i hi => ?_, all3 ?_ ?_ ?_⟩
    · rfl
    · rfl
    · simp only [Prod.mk.injEq] at h0 h1
      simp [freshI, turnZ, placeI, wholeI]
      omega
    · rfl
    · simp only [Prod.mk.injEq] at h0 h1
      simp only [secI, nodeB, fitsI, dotI, subI, turnL, turnZ]
      simp
      refine ⟨⟨⟨by omega, by omega⟩, by omega⟩, ?_⟩
      rw [show (100 - (100 + x) : Int) = -x by omega, Int.neg_mul_neg, Int.neg_mul_neg]
      exact hd
    · rfl
    · show decide (100 ≤ 100 + long) = true
      rw [decide_eq_true_eq]; omega
    · simp only [Int.natCast_zero, Int.ofNat_zero, endsB, e0]; rfl
    · simp only [show ((1 : Nat) : Int) = 1 from rfl, endsB, e1]; rfl
    · simp only [show ((2 : Nat) : Int) = 2 from rfl, endsB, e2]; rfl
    · exact absurd hi (by simp [turnL])
    · simp only [Int.natCast_zero, Int.ofNat_zero, pointsB, e0]; rfl
    · simp only [show ((1 : Nat) : Int) = 1 from rfl, pointsB, e1]; rfl
    · simp only [show ((2 : Nat) : Int) = 2 from rfl, pointsB, e2]; rfl
  unfold firstN
  rw [hrows, rowsBad_app _ _ _ a11]
  by_cases hx0 : x ≤ 0
  · rw [if_pos hx0]
    have hb : bad (fun i => goesI (turnL x y long) (turnZ x y) (i : Nat)) 3 = some 1 := by
      rw [decide_eq_false (by omega)] at g1
      show ([0, 1, 2] : List Nat).find? (fun i => !(goesI (turnL x y long) (turnZ x y) ((i : Nat) : Int))) = some 1
      simp only [List.find?_cons, g0, g1, Bool.not_true, Bool.not_false]
    unfold rowsOf
    simp only [List.drop_succ_cons, List.drop_zero, rowsBad, rowBad]
    have hnl : (turnL x y long).nodes.length = 3 := rfl
    rw [hnl]
    simp only [hb]
    rfl
  · rw [if_neg hx0]
    have a15 : ∀ y' ∈ (rowsOf (turnL x y long) (turnZ x y)).drop 11, ∀ r ∈ y', r.all := by
      rw [decide_eq_true (by omega)] at g1
      unfold rowsOf
      simp only [List.drop_succ_cons, List.drop_zero, List.mem_cons, List.not_mem_nil, or_false, forall_eq_or_imp, forall_eq]
      refine ⟨all3 g0 g1 g2, ⟨o _ _ rfl, fun i hi => ?_⟩, all2 ?_ ?_, o _ _ rfl, fun i hi => ?_⟩
      · match i with
        | 0 => rfl
        | i + 1 => simp [turnL] at hi
      · rfl
      · rfl
      · exact absurd hi (by simp [turnL])
    rw [rowsBad_all a15]
end Go.Proofs.YtlhjpcgfkkhogaaGreat.Zt
end
section
namespace Go.Proofs.YtlhjpcgfkkhogaaGreat.Zt
open Go Go.Zc
set_option maxRecDepth 10000

theorem vTurns_F {x y long : Int} (hx : -128 ≤ x ∧ x ≤ 127) (hy : -128 ≤ y ∧ y ≤ 127) (hl : 0 ≤ long ∧ long ≤ 255) (st : Bool) (H : Heap) :
    l06_VerifyTurns_F st H [.int .i8 x, .int .i8 y, .int .u8 long] = some (.bool true, H) := by
  have hn := fun st H => nothing_F st H
  have hz := rep_xy hx hy
  have q1 := hz.eq rep_0
  have q2 := hz.eq rep_100
  obtain ⟨v, v1, v2⟩ := hz.sub rep_100 (by simp only; omega) (by simp only; omega)
  have hv : Near 20000000 (100 + x - 100, y - 0) := ⟨by simp only; omega, by simp only; omega⟩
  have hd := fun st H => rdot_F v2 v2 hv hv st H
  have hdd : dotI (100 + x - 100, y - 0) (100 + x - 100, y - 0) = x * x + y * y := by
    unfold dotI
    rw [show (100 + x - 100 : Int) = x by omega, show (y - 0 : Int) = y by omega]
  rw [hdd] at hd
  have w1 : IntKind.i64.wrap x = x := wrap64 (by omega) (by omega)
  have w2 : IntKind.i64.wrap (100 + x) = 100 + x := wrap64 (by omega) (by omega)
  have w3 : IntKind.i64.wrap long = long := wrap64 (by omega) (by omega)
  have w4 : IntKind.i64.wrap (100 + long) = 100 + long := wrap64 (by omega) (by omega)
  have hm := mul_small (a := 100 + long) (b := 100 + long) (A := 400) (B := 400) (by omega) (by omega)
  have w5 : IntKind.i64.wrap ((100 + long) * (100 + long)) = (100 + long) * (100 + long) := wrap64 (by omega) (by omega)
  have f1 : ∀ H, verify_First_F false H [.agg [.vs [.cplx .f64 0 0, .cplx .f64 4636737291354636288 0, .cplx .f64 (FloatKind.f64.nearest (100 + x)) (FloatKind.f64.nearest y)] 3, .vs [.int .i64 100, .int .i64 0, .int .i64 1, .int .i64 (100 + long), .int .i64 2, .int .i64 1] 2, .vs [.vs [.int .i64 0, .int .i64 1] 2] 1, .vs [] 0, .vs [] 0, .int .i64 100, .int .i64 1, .int .i64 1, .int .i64 1, .int .i64 0]] = _ := fun H => vFirst_F (turn_ok x y long) (turn_sm x y long) (turn_pl long hx hy) H
  have f2 : ∀ st H, l06_judged_F st H [.agg [.vs [.cplx .f64 0 0, .cplx .f64 4636737291354636288 0, .cplx .f64 (FloatKind.f64.nearest (100 + x)) (FloatKind.f64.nearest y)] 3, .vs [.int .i64 100, .int .i64 0, .int .i64 1, .int .i64 (100 + long), .int .i64 2, .int .i64 1] 2, .vs [.vs [.int .i64 0, .int .i64 1] 2] 1, .vs [] 0, .vs [] 0, .int .i64 100, .int .i64 1, .int .i64 1, .int .i64 1, .int .i64 0]] = _ := fun st H => judged_F (turn_ok x y long) (turn_sm x y long) (turn_pl long hx hy) st H
  rw [l06_VerifyTurns_F_eq]
  by_cases c0 : ((100 + x, y) : Int × Int) = (0, 0)
  · rw [decide_eq_true c0] at q1
    simp only [l06_VerifyTurns_C, l06_nothing_call, hn, w1, w2, w3, w4, verify_First_call, f1, l06_judged_call, f2, q1, zy, simprocAttr]
  · rw [decide_eq_false c0] at q1
    by_cases c1 : ((100 + x, y) : Int × Int) = (100, 0)
    · rw [decide_eq_true c1] at q2
      simp only [l06_VerifyTurns_C, l06_nothing_call, hn, w1, w2, w3, w4, verify_First_call, f1, l06_judged_call, f2, q1, q2, zy, simprocAttr]
    · rw [decide_eq_false c1] at q2
      by_cases c2 : (100 + long) * (100 + long) < x * x + y * y
      · simp only [l06_VerifyTurns_C, l06_nothing_call, hn, w1, w2, w3, w4, w5, verify_First_call, f1, l06_judged_call, f2, q1, q2, v1, r01_Dot_call, hd, gt_iff_lt, c2, zy, simprocAttr]
      · have hf := turn_first hx hy hl c0 c1 (by omega)
        by_cases c3 : x ≤ 0
        · rw [if_pos c3] at hf
          simp only [l06_VerifyTurns_C, l06_nothing_call, hn, w1, w2, w3, w4, w5, verify_First_call, f1, l06_judged_call, f2, q1, q2, v1, r01_Dot_call, hd, gt_iff_lt, c2, hf, c3, Int.cast_ofNat_Int, zy, simprocAttr]
        · rw [if_neg c3] at hf
          simp only [l06_VerifyTurns_C, l06_nothing_call, hn, w1, w2, w3, w4, w5, verify_First_call, f1, l06_judged_call, f2, q1, q2, v1, r01_Dot_call, hd, gt_iff_lt, c2, hf, c3, Int.cast_ofNat_Int, zy, simprocAttr]
end Go.Proofs.YtlhjpcgfkkhogaaGreat.Zt
end
