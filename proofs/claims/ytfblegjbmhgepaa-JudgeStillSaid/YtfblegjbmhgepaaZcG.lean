/- Walks: a draft's layout, whole. -/
import Derived.Test.YtfblegjbmhgepaaZcE
set_option linter.all false
namespace Go.Proofs.Ytfblegjbmhgepaa.Zt
open Go Go.Zc
set_option maxRecDepth 10000

theorem snap_Z (H : Heap) (st kn : Bool) (n : Nat) : ∀ x : Nat × Nat, ∀ c ∈ fZ x, snapN H st kn (n + 1) c = some c := by
  intro x c hc
  simp only [fZ, List.mem_cons, List.not_mem_nil, or_false] at hc
  subst hc
  rfl
theorem snap_S (H : Heap) (st kn : Bool) (n : Nat) : ∀ x : Sec, ∀ c ∈ fS x, snapN H st kn (n + 1) c = some c := by
  intro x c hc
  simp only [fS, List.mem_cons, List.not_mem_nil, or_false] at hc
  rcases hc with rfl | rfl | rfl <;> rfl

theorem rowFrom_eq (u : Int) : ∀ (k i : Nat), rowFrom u i k = (List.range' i k).map fun (j : Nat) => fl2 (u * (j : Int), 0)
  | 0, _ => rfl
  | k + 1, i => by simp only [rowFrom, rowFrom_eq u k (i + 1), List.range'_succ, List.map_cons, fl2, fl_zero]
theorem pairsFrom_eq : ∀ (k i : Nat), pairsFrom i k = (List.range' i k).map fun (j : Nat) => (⟨(j : Int), ((j + 1 : Nat) : Int)⟩ : Ed)
  | 0, _ => rfl
  | k + 1, i => by simp only [pairsFrom, pairsFrom_eq k (i + 1), List.range'_succ, List.map_cons]

theorem mkSecs_length (u : Int) : ∀ (i : Nat) (l : List Ed), (mkSecs u i l).length = l.length
  | _, [] => rfl
  | i, x :: l => by simp [mkSecs, mkSecs_length u (i + 1) l]
theorem addLast_ne {x : Int} : ∀ {l : List (List Int)}, l ≠ [] → addLast x l ≠ []
  | [], h => h
  | [_], _ => by simp [addLast]
  | _ :: _ :: _, _ => by simp [addLast]
theorem mkParts_ne (j : Int) : ∀ (n i : Nat) (acc : List (List Int)), (0 < n ∨ acc ≠ []) → (0 < i → acc ≠ []) → mkParts j i n acc ≠ []
  | 0, _, acc, h, _ => by simpa [mkParts] using h
  | n + 1, i, acc, h, h' => by
    simp only [mkParts]
    have : (if joinAt j i then addLast i acc else acc ++ [[(i : Int)]]) ≠ [] := by
      split
      · rename_i hj
        exact addLast_ne (h' (by simp [joinAt] at hj; exact hj.1))
      · simp
    exact mkParts_ne j n (i + 1) _ (.inr this) (fun _ => this)
theorem mkEnds_len (form : Int) : 3 ≤ (mkEnds form).length ∧ (mkEnds form).length ≤ 8 := by
  unfold mkEnds
  split
  · simp only [List.length_map, List.length_range, mkN]; omega
  · split
    · simp
    · split <;> simp

/-- What is made, cell by cell: the points may be none. -/
def makeC (d : Draft) : List CV := [sl fZ (make d).nodes, sl fS (make d).secs, sl fL (make d).parts, nz fP (make d).pts, .nils, .int .i64 (make d).speed, .int .i64 (make d).mute, .int .i64 (make d).wait, .int .i64 (make d).cancel, .int .i64 (make d).stay]

/-- What is reckoned of a draft's numbers. -/
structure Nums (d : Draft) : Prop where
  len : d.len.tmod 20 = d.len % 20
  w1 : IntKind.i64.wrap (d.len % 20) = d.len % 20
  w2 : IntKind.i64.wrap (1 + d.len % 20) = 1 + d.len % 20
  w3 : IntKind.i64.wrap (10 * (1 + d.len % 20)) = unitOf d.len
  w4 : IntKind.i64.wrap (2 * unitOf d.len) = 2 * unitOf d.len
  form : d.form.tmod 4 = d.form % 4
  f1 : IntKind.u8.wrap (d.form.tdiv 4) = d.form / 4
  f2 : (d.form / 4).tmod 6 = d.form / 4 % 6
  f3 : IntKind.i64.wrap (d.form / 4 % 6) = d.form / 4 % 6
  f4 : IntKind.i64.wrap (3 + d.form / 4 % 6) = (mkN d.form : Int)
  s1 : IntKind.i64.wrap d.speed = d.speed
  s2 : d.speed.tmod (2 * unitOf d.len) = d.speed % (2 * unitOf d.len)
  s3 : IntKind.i64.wrap (1 + d.speed % (2 * unitOf d.len)) = 1 + d.speed % (2 * unitOf d.len)
  s4 : ¬ 2 * unitOf d.len = 0
  m1 : d.mute.tmod 1000 = d.mute % 1000
  m2 : IntKind.i64.wrap (d.mute % 1000) = d.mute % 1000
  m3 : IntKind.i64.wrap (1 + d.mute % 1000) = 1 + d.mute % 1000
  a1 : d.wait.tmod 1000 = d.wait % 1000
  a2 : IntKind.i64.wrap (d.wait % 1000) = d.wait % 1000
  a3 : IntKind.i64.wrap (1 + d.wait % 1000) = 1 + d.wait % 1000
  c1 : IntKind.i64.wrap d.cancel = d.cancel
  c2 : IntKind.i64.wrap (1 + d.cancel) = 1 + d.cancel
  t1 : d.stay.tmod 4 = d.stay % 4
  t2 : IntKind.i64.wrap (d.stay % 4) = d.stay % 4

theorem nums (d : Draft) (h : d.ok) : Nums d := by
  have h1 := h.form; have h2 := h.len; have h3 := h.speed; have h4 := h.mute; have h5 := h.wait; have h6 := h.cancel; have h7 := h.stay
  have hu : unitOf d.len = 10 * (1 + d.len % 20) := rfl
  have hu1 : 10 ≤ unitOf d.len := by rw [hu]; omega
  have hu2 : unitOf d.len ≤ 200 := by rw [hu]; omega
  have hs : 0 ≤ d.speed % (2 * unitOf d.len) ∧ d.speed % (2 * unitOf d.len) < 2 * unitOf d.len := ⟨Int.emod_nonneg _ (by omega), Int.emod_lt_of_pos _ (by omega)⟩
  refine ⟨Int.tmod_eq_emod_of_nonneg h2.1, wrap64 (by omega) (by omega), wrap64 (by omega) (by omega), ?_, wrap64 (by omega) (by omega), Int.tmod_eq_emod_of_nonneg h1.1, ?_, Int.tmod_eq_emod_of_nonneg (by omega), wrap64 (by omega) (by omega), ?_,
    wrap64 (by omega) (by omega), Int.tmod_eq_emod_of_nonneg h3.1, wrap64 (by omega) (by omega), by omega, Int.tmod_eq_emod_of_nonneg h4.1, wrap64 (by omega) (by omega), wrap64 (by omega) (by omega), Int.tmod_eq_emod_of_nonneg h5.1, wrap64 (by omega) (by omega), wrap64 (by omega) (by omega),
    wrap64 (by omega) (by omega), wrap64 (by omega) (by omega), Int.tmod_eq_emod_of_nonneg h7.1, wrap64 (by omega) (by omega)⟩
  · rw [wrap64 (by omega) (by omega)]; rfl
  · rw [Int.tdiv_eq_ediv_of_nonneg h1.1, IntKind.wrap_u8]; omega
  · rw [wrap64 (by omega) (by omega)]; unfold mkN; omega

set_option maxHeartbeats 2000000 in
theorem make_F0 (d : Draft) (hd : d.ok) (hf : d.form % 4 = 0) (H : Heap) : r04_Make_F false H [.agg (draftC d)] = some (.agg (makeC d), H) := by
  have nm := nums d hd
  have hu : 0 ≤ unitOf d.len ∧ unitOf d.len ≤ 200 := by have := hd.len; unfold unitOf; omega
  have hn : mkN d.form ≤ 8 := by unfold mkN; omega
  have hn3 : 3 ≤ mkN d.form := by unfold mkN; omega
  obtain ⟨nv, bl1, e1, o1⟩ := row_loop d (unitOf d.len) hu (mkN d.form) hn (mkN d.form + 1) 0 [] .nils [] (by omega) rfl (Own.nil _ _ _)
  obtain ⟨ev, bl2, e2, o2, o3, d1⟩ := pairs_loop d (unitOf d.len) (mkN d.form) hn _ nv (mkN d.form) 0 [] .nils bl1 (by omega) rfl (Own.nil _ _ _) o1 (Dj.nils _)
  have hE : ([] : List Ed) ++ pairsFrom 0 (mkN d.form) = mkEnds d.form := by
    simp only [List.nil_append, mkEnds, if_pos hf, pairsFrom_eq, List.range_eq_range']
  have hN : ([] : List (Nat × Nat)) ++ rowFrom (unitOf d.len) 0 (mkN d.form + 1) = (make d).nodes := by
    simp only [List.nil_append, make, mkXY, if_pos hf, rowFrom_eq, List.range_eq_range', List.map_map]
    rfl
  rw [hE] at o2
  rw [hN] at o3
  have hel := mkEnds_len d.form
  obtain ⟨sv, bl3, e3, o4, o5, o6, d2, d3⟩ := secs_loop d (unitOf d.len) hu (mkEnds d.form) hel.2 _ nv ev .nils [] rfl (mkEnds d.form) [] [] .nils bl2 rfl rfl (Own.nil _ _ _) o2 (.inr o3) (Dj.nils _) (Dj.nils _)
  obtain ⟨pv, ids, bl4, e4, o7, o8, o9⟩ := parts_loop d hd (unitOf d.len) (mkEnds d.form).length hel.2 _ _ nv sv ev .nils rfl o5.len o5.chkV (mkEnds d.form).length 0 [] .nils [] bl3 (by omega) (by simp) (by simp) (by omega) (.inl ⟨rfl, rfl, rfl⟩) o4 o6 (by intro k _ h; simp at h) (by intro k _ h; simp at h)
  simp only [List.nil_append, List.length_nil, Int.natCast_zero] at e1 e2 e3 e4 o7 o8
  have hN0 : (make d).nodes ≠ [] := by simp [make, mkXY, hf]
  have hS0 : mkSecs (unitOf d.len) 0 (mkEnds d.form) ≠ [] := by
    intro h
    have := mkSecs_length (unitOf d.len) 0 (mkEnds d.form)
    rw [h] at this; simp at this; omega
  have hP0 := mkParts_ne d.join (mkEnds d.form).length 0 [] (.inl (by omega)) (by omega)
  have s1 : ∀ bx, snapV ⟨bx, bl4⟩ false true (snapN ⟨bx, bl4⟩ false true 7) nv = some (sl fZ (make d).nodes) := fun bx => by
    rcases o9 with rfl | o9
    · rfl
    · exact o9.snapK flatZ hN0 bx _ _ _ (snap_Z _ _ _ 6)
  have s2 : ∀ bx, snapV ⟨bx, bl4⟩ false true (snapN ⟨bx, bl4⟩ false true 7) sv = some (sl fS (make d).secs) := fun bx => o8.snapK flatS hS0 bx _ _ _ (snap_S _ _ _ 6)
  have s3 : ∀ bx, snapV ⟨bx, bl4⟩ false true (snapN ⟨bx, bl4⟩ false true 7) pv = some (sl fL (make d).parts) := fun bx => o7.snapK hP0 bx _ _ 5
  have hpt : nz fP (make d).pts = .nils := by simp only [make, mkPts, if_pos hf, nz]
  obtain ⟨q1, q2, q3, q4, q5, q6, q7, q8, q9, q10, q11, q12, q13, q14, q15, q16, q17, q18, q19, q20, q21, q22, q23, q24⟩ := nm
  rw [r04_Make_F_eq]
  simp only [r04_Make_C, r04_Make_L1_eq, r04_Make_L3_eq, r04_Make_L5_eq, r04_Make_L7_eq, q1, q2, q3, q4, q5, q6, q7, q8, q9, q10, q11, q12, q13, q14, q15, q16, q17, q18, q19, q20, q21, q22, q23, q24, hf, e1, e2, e3, e4, o1.locv, o2.chkV, o2.locv, o3.locv, o5.chkV, o8.locv, o8.one, o8.und, o9.locv, o9.one, o9.und, o7.locv, o7.one, o7.und, s1, s2, s3, makeC, hpt, y1, y2, y3, y4, y5, y6, y7, y8, y9, keepE, keepB, chk, CV.locs, CV.locv, CV.refs, CV.ref, pureOp, repC, takeN, resV, enterC, Nat.reduceAdd, Nat.reduceSub, Nat.reduceMul, Nat.reduceLeDiff, Nat.reduceLT, Nat.reduceBEq, Nat.reduceBNe, Nat.reduceEqDiff, ↓reduceIte, Int.reduceAdd, Int.reduceSub, Int.reduceMul, Int.reduceLT, Int.reduceLE, Int.reduceEq, Int.reduceNeg, Int.reduceToNat]
  simp only [make]

theorem floats (d : Draft) (hd : d.ok) :
    (binC .mul .ifc (.cplx .f64 4611686018427387904 0) (.cplx .f64 (FloatKind.nearest .f64 (unitOf d.len)) 0) = some (.cplx .f64 (FloatKind.nearest .f64 (2 * unitOf d.len)) 0)) ∧
    (binC .mul .ifc (.cplx .f64 4613937818241073152 0) (.cplx .f64 (FloatKind.nearest .f64 (unitOf d.len)) 0) = some (.cplx .f64 (FloatKind.nearest .f64 (3 * unitOf d.len)) 0)) ∧
    (binC .mul .ifc (.cplx .f64 4616189618054758400 0) (.cplx .f64 (FloatKind.nearest .f64 (unitOf d.len)) 0) = some (.cplx .f64 (FloatKind.nearest .f64 (4 * unitOf d.len)) 0)) ∧
    (binC .mul .ifc (.cplx .f64 4617315517961601024 0) (.cplx .f64 (FloatKind.nearest .f64 (unitOf d.len)) 0) = some (.cplx .f64 (FloatKind.nearest .f64 (5 * unitOf d.len)) 0)) ∧
    (binC .mul .ifc (.cplx .f64 4618441417868443648 0) (.cplx .f64 (FloatKind.nearest .f64 (unitOf d.len)) 0) = some (.cplx .f64 (FloatKind.nearest .f64 (6 * unitOf d.len)) 0)) ∧
    (binC .add .ifc (.cplx .f64 (FloatKind.nearest .f64 (2 * unitOf d.len)) 0) (.cplx .f64 0 (FloatKind.nearest .f64 (unitOf d.len))) = some (.cplx .f64 (FloatKind.nearest .f64 (2 * unitOf d.len)) (FloatKind.nearest .f64 (unitOf d.len)))) ∧
    (binC .sub .ifc (.cplx .f64 (FloatKind.nearest .f64 (2 * unitOf d.len)) 0) (.cplx .f64 0 (FloatKind.nearest .f64 (unitOf d.len))) = some (.cplx .f64 (FloatKind.nearest .f64 (2 * unitOf d.len)) (FloatKind.nearest .f64 (-unitOf d.len)))) ∧
    (binC .add .ifc (.cplx .f64 (FloatKind.nearest .f64 (3 * unitOf d.len)) 0) (.cplx .f64 0 (FloatKind.nearest .f64 (unitOf d.len))) = some (.cplx .f64 (FloatKind.nearest .f64 (3 * unitOf d.len)) (FloatKind.nearest .f64 (unitOf d.len)))) ∧
    (binC .sub .ifc (.cplx .f64 (FloatKind.nearest .f64 (3 * unitOf d.len)) 0) (.cplx .f64 0 (FloatKind.nearest .f64 (unitOf d.len))) = some (.cplx .f64 (FloatKind.nearest .f64 (3 * unitOf d.len)) (FloatKind.nearest .f64 (-unitOf d.len)))) ∧
    (binC .add .ifc (.cplx .f64 (FloatKind.nearest .f64 (4 * unitOf d.len)) 0) (.cplx .f64 0 (FloatKind.nearest .f64 (unitOf d.len))) = some (.cplx .f64 (FloatKind.nearest .f64 (4 * unitOf d.len)) (FloatKind.nearest .f64 (unitOf d.len)))) ∧
    (binC .sub .ifc (.cplx .f64 (FloatKind.nearest .f64 (4 * unitOf d.len)) 0) (.cplx .f64 0 (FloatKind.nearest .f64 (unitOf d.len))) = some (.cplx .f64 (FloatKind.nearest .f64 (4 * unitOf d.len)) (FloatKind.nearest .f64 (-unitOf d.len)))) ∧
    (binC .quo .ifc (.cplx .f64 0 (FloatKind.nearest .f64 (unitOf d.len))) (.cplx .f64 4611686018427387904 0) = some (.cplx .f64 0 (FloatKind.nearest .f64 (unitOf d.len / 2)))) ∧
    ((binC .add .ifc (.cplx .f64 (FloatKind.nearest .f64 (3 * unitOf d.len)) 0) (.cplx .f64 0 (FloatKind.nearest .f64 (unitOf d.len / 2))) = some (.cplx .f64 (FloatKind.nearest .f64 (3 * unitOf d.len)) (FloatKind.nearest .f64 (unitOf d.len / 2)))) ∧
      binC .sub .ifc (.cplx .f64 (FloatKind.nearest .f64 (3 * unitOf d.len)) 0) (.cplx .f64 0 (FloatKind.nearest .f64 (unitOf d.len / 2))) = some (.cplx .f64 (FloatKind.nearest .f64 (3 * unitOf d.len)) (FloatKind.nearest .f64 (-(unitOf d.len / 2))))) := by
  have h1 := hd.len
  obtain ⟨k, hk⟩ := Int.eq_ofNat_of_zero_le (show 0 ≤ d.len % 20 by omega)
  have h := List.all_eq_true.1 okUs k (List.mem_range.2 (by omega))
  have hu : unitOf d.len = 10 * (1 + (k : Int)) := by unfold unitOf; rw [hk]
  rw [← hu] at h
  simp only [okU, okMul, okAdd, fl, Bool.and_eq_true] at h
  obtain ⟨⟨⟨⟨⟨⟨⟨⟨⟨a1, a2⟩, a3⟩, a4⟩, a5⟩, a6, a7⟩, a8, a9⟩, a10, a11⟩, a12, a13⟩, a14⟩ := h
  exact ⟨isC_eq a1, isC_eq a2, isC_eq a3, isC_eq a4, isC_eq a5, isC_eq a6, isC_eq a7, isC_eq a8, isC_eq a9, isC_eq a10, isC_eq a11, isC_eq a14, isC_eq a12, isC_eq a13⟩

set_option maxHeartbeats 2000000 in
theorem make_F1 (d : Draft) (hd : d.ok) (hf : d.form % 4 = 1) (H : Heap) : r04_Make_F false H [.agg (draftC d)] = some (.agg (makeC d), H) := by
  have nm := nums d hd
  have hu : 0 ≤ unitOf d.len ∧ unitOf d.len ≤ 200 := by have := hd.len; unfold unitOf; omega
  have g0 : ¬ d.form % 4 = 0 := by omega
  obtain ⟨p2, p3, p4, p5, p6, p7, p8, p9, p10, p11, p12, p13, p14⟩ := floats d hd
  have hN : CV.vs [.cplx .f64 0 0, .cplx .f64 (FloatKind.nearest .f64 (unitOf d.len)) 0, .cplx .f64 (FloatKind.nearest .f64 (2 * unitOf d.len)) (FloatKind.nearest .f64 (unitOf d.len)), .cplx .f64 (FloatKind.nearest .f64 (2 * unitOf d.len)) (FloatKind.nearest .f64 (-unitOf d.len))] 4 = sl fZ (make d).nodes := by
    simp only [make, mkXY, g0, hf, if_true, if_false, List.map_cons, List.map_nil, fl2, fl_zero]
    rfl
  have hP : CV.vs [.int .i64 1, .int .i64 0, .int .i64 1, .int .i64 2] 1 = sl fP (make d).pts := by
    simp only [make, mkPts, g0, hf, if_true, if_false]
    rfl
  have hE : Own fE 2 [.cells [.int .i64 0, .int .i64 1, .int .i64 1, .int .i64 2, .int .i64 3, .int .i64 1]] (.os 2 (.blk 0) 0 3) (mkEnds d.form) := by
    simp only [mkEnds, g0, hf, if_true, if_false]
    exact .inr ⟨0, rfl, rfl⟩
  have hel := mkEnds_len d.form
  obtain ⟨sv, bl3, e3, o4, o5, o6, d2, d3⟩ := secs_loop d (unitOf d.len) hu (mkEnds d.form) hel.2 (make d).nodes (sl fZ (make d).nodes) (.os 2 (.blk 0) 0 3) (sl fP (make d).pts) [] rfl (mkEnds d.form) [] [] .nils _ rfl rfl (Own.nil _ _ _) hE (.inl rfl) (Dj.nils _) (Dj.nils _)
  obtain ⟨pv, ids, bl4, e4, o7, o8, o9⟩ := parts_loop d hd (unitOf d.len) (mkEnds d.form).length hel.2 _ _ (sl fZ (make d).nodes) sv (.os 2 (.blk 0) 0 3) (sl fP (make d).pts) rfl o5.len o5.chkV (mkEnds d.form).length 0 [] .nils [] bl3 (by omega) (by simp) (by simp) (by omega) (.inl ⟨rfl, rfl, rfl⟩) o4 o6 (by intro k _ h; simp at h) (by intro k _ h; simp at h)
  simp only [List.nil_append, List.length_nil, Int.natCast_zero] at e3 e4 o7 o8
  have hS0 : mkSecs (unitOf d.len) 0 (mkEnds d.form) ≠ [] := by
    intro h
    have := mkSecs_length (unitOf d.len) 0 (mkEnds d.form)
    rw [h] at this; simp at this; omega
  have hP0 := mkParts_ne d.join (mkEnds d.form).length 0 [] (.inl (by omega)) (by omega)
  have s2 : ∀ bx, snapV ⟨bx, bl4⟩ false true (snapN ⟨bx, bl4⟩ false true 7) sv = some (sl fS (make d).secs) := fun bx => o8.snapK flatS hS0 bx _ _ _ (snap_S _ _ _ 6)
  have s3 : ∀ bx, snapV ⟨bx, bl4⟩ false true (snapN ⟨bx, bl4⟩ false true 7) pv = some (sl fL (make d).parts) := fun bx => o7.snapK hP0 bx _ _ 5
  have hpt : nz fP (make d).pts = sl fP (make d).pts := by simp only [make, mkPts, g0, hf, if_true, if_false, nz]; rfl
  obtain ⟨q1, q2, q3, q4, q5, q6, q7, q8, q9, q10, q11, q12, q13, q14, q15, q16, q17, q18, q19, q20, q21, q22, q23, q24⟩ := nm
  rw [r04_Make_F_eq]
  simp only [r04_Make_C, r04_Make_L5_eq, r04_Make_L7_eq, q1, q2, q3, q4, q5, q6, q10, q11, q12, q13, q14, q15, q16, q17, q18, q19, q20, q21, q22, q23, q24, g0, hf, p2, p3, p4, p5, p6, p7, p8, p9, p10, p11, p12, p13, p14, hN, hP, e3, e4, o5.chkV, o5.locv, o8.locv, o8.one, o8.und, o7.locv, o7.one, o7.und, s2, s3, makeC, hpt, one_cplx, und_cplx, cells_cplx, y1, y2, y3, y4, y5, y6, y7, y8, y9, keepE, keepB, chk, CV.locs, CV.locv, CV.refs, CV.ref, pureOp, repC, takeN, resV, enterC, Nat.reduceAdd, Nat.reduceSub, Nat.reduceMul, Nat.reduceLeDiff, Nat.reduceLT, Nat.reduceBEq, Nat.reduceBNe, Nat.reduceEqDiff, ↓reduceIte, Int.reduceAdd, Int.reduceSub, Int.reduceMul, Int.reduceLT, Int.reduceLE, Int.reduceEq, Int.reduceNeg, Int.reduceToNat]
  simp only [make]

set_option maxHeartbeats 2000000 in
theorem make_F2 (d : Draft) (hd : d.ok) (hf : d.form % 4 = 2) (H : Heap) : r04_Make_F false H [.agg (draftC d)] = some (.agg (makeC d), H) := by
  have nm := nums d hd
  have hu : 0 ≤ unitOf d.len ∧ unitOf d.len ≤ 200 := by have := hd.len; unfold unitOf; omega
  have g0 : ¬ d.form % 4 = 0 := by omega
  have g1 : ¬ d.form % 4 = 1 := by omega
  obtain ⟨p2, p3, p4, p5, p6, p7, p8, p9, p10, p11, p12, p13, p14⟩ := floats d hd
  have hN : CV.vs [.cplx .f64 0 0, .cplx .f64 (FloatKind.nearest .f64 (unitOf d.len)) 0, .cplx .f64 (FloatKind.nearest .f64 (2 * unitOf d.len)) 0, .cplx .f64 (FloatKind.nearest .f64 (3 * unitOf d.len)) (FloatKind.nearest .f64 (unitOf d.len / 2)), .cplx .f64 (FloatKind.nearest .f64 (3 * unitOf d.len)) (FloatKind.nearest .f64 (-(unitOf d.len / 2))), .cplx .f64 (FloatKind.nearest .f64 (4 * unitOf d.len)) 0, .cplx .f64 (FloatKind.nearest .f64 (5 * unitOf d.len)) 0, .cplx .f64 (FloatKind.nearest .f64 (6 * unitOf d.len)) 0] 8 = sl fZ (make d).nodes := by
    simp only [make, mkXY, g0, g1, hf, if_true, if_false, List.map_cons, List.map_nil, fl2, fl_zero]
    rfl
  have hP : CV.vs [.int .i64 2, .int .i64 1, .int .i64 2, .int .i64 3, .int .i64 5, .int .i64 6, .int .i64 4, .int .i64 5] 2 = sl fP (make d).pts := by
    simp only [make, mkPts, g0, g1, hf, if_true, if_false]
    rfl
  have hE : Own fE 2 [.cells [.int .i64 0, .int .i64 1, .int .i64 1, .int .i64 2, .int .i64 2, .int .i64 3, .int .i64 2, .int .i64 4, .int .i64 5, .int .i64 3, .int .i64 4, .int .i64 5, .int .i64 5, .int .i64 6, .int .i64 6, .int .i64 7]] (.os 2 (.blk 0) 0 8) (mkEnds d.form) := by
    simp only [mkEnds, g0, g1, hf, if_true, if_false]
    exact .inr ⟨0, rfl, rfl⟩
  have hel := mkEnds_len d.form
  obtain ⟨sv, bl3, e3, o4, o5, o6, d2, d3⟩ := secs_loop d (unitOf d.len) hu (mkEnds d.form) hel.2 (make d).nodes (sl fZ (make d).nodes) (.os 2 (.blk 0) 0 8) (sl fP (make d).pts) [] rfl (mkEnds d.form) [] [] .nils _ rfl rfl (Own.nil _ _ _) hE (.inl rfl) (Dj.nils _) (Dj.nils _)
  obtain ⟨pv, ids, bl4, e4, o7, o8, o9⟩ := parts_loop d hd (unitOf d.len) (mkEnds d.form).length hel.2 _ _ (sl fZ (make d).nodes) sv (.os 2 (.blk 0) 0 8) (sl fP (make d).pts) rfl o5.len o5.chkV (mkEnds d.form).length 0 [] .nils [] bl3 (by omega) (by simp) (by simp) (by omega) (.inl ⟨rfl, rfl, rfl⟩) o4 o6 (by intro k _ h; simp at h) (by intro k _ h; simp at h)
  simp only [List.nil_append, List.length_nil, Int.natCast_zero] at e3 e4 o7 o8
  have hS0 : mkSecs (unitOf d.len) 0 (mkEnds d.form) ≠ [] := by
    intro h
    have := mkSecs_length (unitOf d.len) 0 (mkEnds d.form)
    rw [h] at this; simp at this; omega
  have hP0 := mkParts_ne d.join (mkEnds d.form).length 0 [] (.inl (by omega)) (by omega)
  have s2 : ∀ bx, snapV ⟨bx, bl4⟩ false true (snapN ⟨bx, bl4⟩ false true 7) sv = some (sl fS (make d).secs) := fun bx => o8.snapK flatS hS0 bx _ _ _ (snap_S _ _ _ 6)
  have s3 : ∀ bx, snapV ⟨bx, bl4⟩ false true (snapN ⟨bx, bl4⟩ false true 7) pv = some (sl fL (make d).parts) := fun bx => o7.snapK hP0 bx _ _ 5
  have hpt : nz fP (make d).pts = sl fP (make d).pts := by simp only [make, mkPts, g0, g1, hf, if_true, if_false, nz]; rfl
  obtain ⟨q1, q2, q3, q4, q5, q6, q7, q8, q9, q10, q11, q12, q13, q14, q15, q16, q17, q18, q19, q20, q21, q22, q23, q24⟩ := nm
  rw [r04_Make_F_eq]
  simp only [r04_Make_C, r04_Make_L5_eq, r04_Make_L7_eq, q1, q2, q3, q4, q5, q6, q10, q11, q12, q13, q14, q15, q16, q17, q18, q19, q20, q21, q22, q23, q24, g0, g1, hf, p2, p3, p4, p5, p6, p7, p8, p9, p10, p11, p12, p13, p14, hN, hP, e3, e4, o5.chkV, o5.locv, o8.locv, o8.one, o8.und, o7.locv, o7.one, o7.und, s2, s3, makeC, hpt, one_cplx, und_cplx, cells_cplx, y1, y2, y3, y4, y5, y6, y7, y8, y9, keepE, keepB, chk, CV.locs, CV.locv, CV.refs, CV.ref, pureOp, repC, takeN, resV, enterC, Nat.reduceAdd, Nat.reduceSub, Nat.reduceMul, Nat.reduceLeDiff, Nat.reduceLT, Nat.reduceBEq, Nat.reduceBNe, Nat.reduceEqDiff, ↓reduceIte, Int.reduceAdd, Int.reduceSub, Int.reduceMul, Int.reduceLT, Int.reduceLE, Int.reduceEq, Int.reduceNeg, Int.reduceToNat]
  simp only [make]

set_option maxHeartbeats 2000000 in
theorem make_F3 (d : Draft) (hd : d.ok) (hf : d.form % 4 = 3) (H : Heap) : r04_Make_F false H [.agg (draftC d)] = some (.agg (makeC d), H) := by
  have nm := nums d hd
  have hu : 0 ≤ unitOf d.len ∧ unitOf d.len ≤ 200 := by have := hd.len; unfold unitOf; omega
  have g0 : ¬ d.form % 4 = 0 := by omega
  have g1 : ¬ d.form % 4 = 1 := by omega
  have g2 : ¬ d.form % 4 = 2 := by omega
  obtain ⟨p2, p3, p4, p5, p6, p7, p8, p9, p10, p11, p12, p13, p14⟩ := floats d hd
  have hN : CV.vs [.cplx .f64 0 0, .cplx .f64 (FloatKind.nearest .f64 (unitOf d.len)) 0, .cplx .f64 (FloatKind.nearest .f64 (2 * unitOf d.len)) 0, .cplx .f64 (FloatKind.nearest .f64 (3 * unitOf d.len)) (FloatKind.nearest .f64 (unitOf d.len)), .cplx .f64 (FloatKind.nearest .f64 (3 * unitOf d.len)) (FloatKind.nearest .f64 (-unitOf d.len)), .cplx .f64 (FloatKind.nearest .f64 (4 * unitOf d.len)) (FloatKind.nearest .f64 (unitOf d.len)), .cplx .f64 (FloatKind.nearest .f64 (4 * unitOf d.len)) (FloatKind.nearest .f64 (-unitOf d.len))] 7 = sl fZ (make d).nodes := by
    simp only [make, mkXY, g0, g1, g2, hf, if_true, if_false, List.map_cons, List.map_nil, fl2, fl_zero]
    rfl
  have hP : CV.vs [.int .i64 2, .int .i64 1, .int .i64 3, .int .i64 2] 1 = sl fP (make d).pts := by
    simp only [make, mkPts, g0, g1, g2, hf, if_true, if_false]
    rfl
  have hE : Own fE 2 [.cells [.int .i64 0, .int .i64 1, .int .i64 2, .int .i64 1, .int .i64 2, .int .i64 3, .int .i64 2, .int .i64 4, .int .i64 3, .int .i64 5, .int .i64 4, .int .i64 6]] (.os 2 (.blk 0) 0 6) (mkEnds d.form) := by
    simp only [mkEnds, g0, g1, g2, hf, if_true, if_false]
    exact .inr ⟨0, rfl, rfl⟩
  have hel := mkEnds_len d.form
  obtain ⟨sv, bl3, e3, o4, o5, o6, d2, d3⟩ := secs_loop d (unitOf d.len) hu (mkEnds d.form) hel.2 (make d).nodes (sl fZ (make d).nodes) (.os 2 (.blk 0) 0 6) (sl fP (make d).pts) [] rfl (mkEnds d.form) [] [] .nils _ rfl rfl (Own.nil _ _ _) hE (.inl rfl) (Dj.nils _) (Dj.nils _)
  obtain ⟨pv, ids, bl4, e4, o7, o8, o9⟩ := parts_loop d hd (unitOf d.len) (mkEnds d.form).length hel.2 _ _ (sl fZ (make d).nodes) sv (.os 2 (.blk 0) 0 6) (sl fP (make d).pts) rfl o5.len o5.chkV (mkEnds d.form).length 0 [] .nils [] bl3 (by omega) (by simp) (by simp) (by omega) (.inl ⟨rfl, rfl, rfl⟩) o4 o6 (by intro k _ h; simp at h) (by intro k _ h; simp at h)
  simp only [List.nil_append, List.length_nil, Int.natCast_zero] at e3 e4 o7 o8
  have hS0 : mkSecs (unitOf d.len) 0 (mkEnds d.form) ≠ [] := by
    intro h
    have := mkSecs_length (unitOf d.len) 0 (mkEnds d.form)
    rw [h] at this; simp at this; omega
  have hP0 := mkParts_ne d.join (mkEnds d.form).length 0 [] (.inl (by omega)) (by omega)
  have s2 : ∀ bx, snapV ⟨bx, bl4⟩ false true (snapN ⟨bx, bl4⟩ false true 7) sv = some (sl fS (make d).secs) := fun bx => o8.snapK flatS hS0 bx _ _ _ (snap_S _ _ _ 6)
  have s3 : ∀ bx, snapV ⟨bx, bl4⟩ false true (snapN ⟨bx, bl4⟩ false true 7) pv = some (sl fL (make d).parts) := fun bx => o7.snapK hP0 bx _ _ 5
  have hpt : nz fP (make d).pts = sl fP (make d).pts := by simp only [make, mkPts, g0, g1, g2, hf, if_true, if_false, nz]; rfl
  obtain ⟨q1, q2, q3, q4, q5, q6, q7, q8, q9, q10, q11, q12, q13, q14, q15, q16, q17, q18, q19, q20, q21, q22, q23, q24⟩ := nm
  rw [r04_Make_F_eq]
  simp only [r04_Make_C, r04_Make_L5_eq, r04_Make_L7_eq, q1, q2, q3, q4, q5, q6, q10, q11, q12, q13, q14, q15, q16, q17, q18, q19, q20, q21, q22, q23, q24, g0, g1, g2, hf, p2, p3, p4, p5, p6, p7, p8, p9, p10, p11, p12, p13, p14, hN, hP, e3, e4, o5.chkV, o5.locv, o8.locv, o8.one, o8.und, o7.locv, o7.one, o7.und, s2, s3, makeC, hpt, one_cplx, und_cplx, cells_cplx, y1, y2, y3, y4, y5, y6, y7, y8, y9, keepE, keepB, chk, CV.locs, CV.locv, CV.refs, CV.ref, pureOp, repC, takeN, resV, enterC, Nat.reduceAdd, Nat.reduceSub, Nat.reduceMul, Nat.reduceLeDiff, Nat.reduceLT, Nat.reduceBEq, Nat.reduceBNe, Nat.reduceEqDiff, ↓reduceIte, Int.reduceAdd, Int.reduceSub, Int.reduceMul, Int.reduceLT, Int.reduceLE, Int.reduceEq, Int.reduceNeg, Int.reduceToNat]
  simp only [make]


theorem make_F (d : Draft) (hd : d.ok) (H : Heap) : r04_Make_F false H [.agg (draftC d)] = some (.agg (makeC d), H) := by
  have : d.form % 4 = 0 ∨ d.form % 4 = 1 ∨ d.form % 4 = 2 ∨ d.form % 4 = 3 := by omega
  rcases this with h | h | h | h
  · exact make_F0 d hd h H
  · exact make_F1 d hd h H
  · exact make_F2 d hd h H
  · exact make_F3 d hd h H
end Go.Proofs.Ytfblegjbmhgepaa.Zt
