/- Walks: looking through slices with a function; the graph's points, a section's end. -/
import Derived.Test.YtfblegjbmhgepaaZcT
import Derived.Test.YtfblegjbmhgepaaZcSym
import Derived.Test.YtfblegjbmhgepaaZcVals
import Derived.Test.YtfblegjbmhgepaaZcSet
set_option linter.all false
section
namespace Go.Proofs.Ytfblegjbmhgepaa.Zt
open Go Go.Zc
set_option maxRecDepth 10000

/-- The place of the first one, or -1. -/
def idxOf {α : Type} (p : α → Bool) (l : List α) : Int := match l.findIdx? p with
  | some i => (i : Int)
  | none => -1

theorem idxP_loop (fv : CV) (hf : fv.locv = false) (p : Pt → Bool) (hp : ∀ x H, call ctx fv [.agg (fP x)] H = some (.bool (p x), H)) : ∀ (s pre : List Pt), (pre ++ s).length ≤ 2 * Zc.small →
    slices_IndexFunc_Point_R0 ([(0, sl fP (pre ++ s)), (1, fv), (7, .int .i64 (pre ++ s).length), (8, .int .i64 pre.length)], ⟨[], []⟩) =
      match s.findIdx? p with
      | some i => some (.ret, [(4, .int .i64 ((pre.length + i : Nat) : Int))], ⟨[], []⟩)
      | none => some (.norm, [], ⟨[], []⟩)
  | [], pre, hm => by
    rw [slices_IndexFunc_Point_R0_eq]
    simp only [slices_IndexFunc_Point_B0, slices_IndexFunc_Point_K0_a, List.findIdx?_nil, zy, simprocAttr]
  | x :: s, pre, hm => by
    have h1 : ((pre.length : Int) < (pre ++ x :: s).length) := by simp; omega
    have hw := wrapN (n := pre.length) (by simp at hm; omega)
    have ih := idxP_loop fv hf p hp s (pre ++ [x]) (by simpa using hm)
    have hpx := fun H => hp x H
    have hcv := chkV_of hf
    simp only [fP] at hpx
    simp only [List.append_assoc, List.cons_append, List.nil_append, List.length_append, List.length_cons, List.length_nil] at ih h1
    rw [slices_IndexFunc_Point_R0_eq]
    simp only [slices_IndexFunc_Point_B0, slices_IndexFunc_Point_K0_a, h1, iaddr_midP, hpx, hw, hcv, List.append_assoc, List.cons_append, List.nil_append, List.length_append, List.length_cons, List.length_nil, zy, simprocAttr, ih]
    by_cases hA : p x = true
    · simp [hA, List.findIdx?_cons]
    · simp only [hA, Bool.false_eq_true, if_false, List.findIdx?_cons]
      cases hf : s.findIdx? p with
      | none => simp
      | some i => simp; omega

theorem idxP_F (fv : CV) (hf : fv.locv = false) (p : Pt → Bool) (hp : ∀ x H, call ctx fv [.agg (fP x)] H = some (.bool (p x), H)) (l : List Pt) (hm : l.length ≤ 2 * Zc.small) (st : Bool) (H : Heap) :
    slices_IndexFunc_Point_F st H [sl fP l, fv] = some (.int .i64 (idxOf p l), H) := by
  have e := idxP_loop fv hf p hp l [] hm
  simp only [List.nil_append, List.length_nil, Int.natCast_zero, Nat.zero_add] at e
  rw [slices_IndexFunc_Point_F_eq]
  simp only [slices_IndexFunc_Point_C, slices_IndexFunc_Point_L0_eq, e, idxOf, chkV_of hf, zy, simprocAttr]
  cases hf : l.findIdx? p <;> simp only [zy, simprocAttr]

theorem idxE_loop (fv : CV) (hf : fv.locv = false) (p : Ed → Bool) (hp : ∀ x H, call ctx fv [.agg (fE x)] H = some (.bool (p x), H)) : ∀ (s pre : List Ed), (pre ++ s).length ≤ 2 * Zc.small →
    slices_IndexFunc_End_R0 ([(0, sl fE (pre ++ s)), (1, fv), (7, .int .i64 (pre ++ s).length), (8, .int .i64 pre.length)], ⟨[], []⟩) =
      match s.findIdx? p with
      | some i => some (.ret, [(4, .int .i64 ((pre.length + i : Nat) : Int))], ⟨[], []⟩)
      | none => some (.norm, [], ⟨[], []⟩)
  | [], pre, hm => by
    rw [slices_IndexFunc_End_R0_eq]
    simp only [slices_IndexFunc_End_B0, slices_IndexFunc_End_K0_a, List.findIdx?_nil, zy, simprocAttr]
  | x :: s, pre, hm => by
    have h1 : ((pre.length : Int) < (pre ++ x :: s).length) := by simp; omega
    have hw := wrapN (n := pre.length) (by simp at hm; omega)
    have ih := idxE_loop fv hf p hp s (pre ++ [x]) (by simpa using hm)
    have hpx := fun H => hp x H
    have hcv := chkV_of hf
    simp only [fE] at hpx
    simp only [List.append_assoc, List.cons_append, List.nil_append, List.length_append, List.length_cons, List.length_nil] at ih h1
    rw [slices_IndexFunc_End_R0_eq]
    simp only [slices_IndexFunc_End_B0, slices_IndexFunc_End_K0_a, h1, iaddr_midE, hpx, hw, hcv, List.append_assoc, List.cons_append, List.nil_append, List.length_append, List.length_cons, List.length_nil, zy, simprocAttr, ih]
    by_cases hA : p x = true
    · simp [hA, List.findIdx?_cons]
    · simp only [hA, Bool.false_eq_true, if_false, List.findIdx?_cons]
      cases hf : s.findIdx? p with
      | none => simp
      | some i => simp; omega

theorem idxE_F (fv : CV) (hf : fv.locv = false) (p : Ed → Bool) (hp : ∀ x H, call ctx fv [.agg (fE x)] H = some (.bool (p x), H)) (l : List Ed) (hm : l.length ≤ 2 * Zc.small) (st : Bool) (H : Heap) :
    slices_IndexFunc_End_F st H [sl fE l, fv] = some (.int .i64 (idxOf p l), H) := by
  have e := idxE_loop fv hf p hp l [] hm
  simp only [List.nil_append, List.length_nil, Int.natCast_zero, Nat.zero_add] at e
  rw [slices_IndexFunc_End_F_eq]
  simp only [slices_IndexFunc_End_C, slices_IndexFunc_End_L0_eq, e, idxOf, chkV_of hf, zy, simprocAttr]
  cases hf : l.findIdx? p <;> simp only [zy, simprocAttr]

theorem gpoint1_F (x : Pt) (n : Int) (st : Bool) (H : Heap) : graph_Graph_Point_1_F st H [.agg (fP x), .vp [.int .i64 n]] = some (.bool (decide (x.node = n)), H) := by
  rw [graph_Graph_Point_1_F_eq]
  simp only [graph_Graph_Point_1_C, fP, zy, simprocAttr]

theorem gpoint_F (l : Lay) (hl : l.ok) (n : Int) (st : Bool) (H : Heap) : graph_Graph_Point_F st H [.vp (layC l), .int .i64 n] = some (.int .i64 (match ptOf l n with | some i => (i : Int) | none => -1), H) := by
  rw [graph_Graph_Point_F_eq]
  have hz : binC .eql .ptr (.vp (layC l)) .nilp = some (.bool false) := rfl
  have hs := hl.pts
  have hF := fun st H => idxP_F (.fn (.func 113) [] [.vp [.int .i64 n]]) rfl (fun x => decide (x.node = n)) (fun x H => by
    simp only [graph_Graph_Point_1_call, fP, zy, simprocAttr]
    have := gpoint1_F x n
    simp only [fP] at this
    rw [this]) l.pts (by omega) st H
  have he : idxOf (fun x : Pt => decide (x.node = n)) l.pts = (match ptOf l n with | some i => (i : Int) | none => -1) := rfl
  rw [← he]
  simp only [graph_Graph_Point_C, hz, slices_IndexFunc_Point_call, hF, zy, simprocAttr]

/-! ### A section's end at a node -/
theorem Own.get {α : Type} {f : α → List CV} {sz : Nat} {bl : List Blk} {v : CV} {l : List α} (hf : Flat f sz) (h : Own f sz bl v l) {p s : List α} {x : α} (hl : l = p ++ x :: s) :
    ∃ m, (∀ k, iaddrC sz v (.int k p.length) = some (.op (.blk m) (p.length * sz))) ∧ ∃ cs, (∀ bx, Heap.get ⟨bx, bl⟩ (.blk m) = some cs) ∧ cs.drop (p.length * sz) = f x ++ s.flatMap f := by
  obtain ⟨m, h1, h2, h3⟩ := h.iaddr hf (k := .i64) (i := p.length) (by rw [hl]; simp)
  refine ⟨m, fun k => ?_, _, fun bx => get_blk bx bl m _ h2, by rw [hl]; exact drop_mid hf p s x⟩
  rw [h3] at h1 ⊢
  exact h1

theorem gat_loop (sec : Int) (l : List Ed) (hm : l.length ≤ 2 * Zc.small) (v : CV) (bl : List Blk) (hO : Own fE 2 bl v l) : ∀ (s p : List Ed), p ++ s = l →
    graph_Graph_at_R0 ([(1, .int .i64 sec), (11, v), (12, .int .i64 l.length), (13, .int .i64 p.length)], ⟨[], bl⟩) =
      match s.find? (fun x => x.s == sec) with
      | some x => some (.ret, [(6, sl fE [x])], ⟨[(8, fE x)], bl⟩)
      | none => some (.norm, [], ⟨[], bl⟩)
  | [], p, hp => by
    have h1 : ¬ ((p.length : Int) < l.length) := by rw [← hp]; simp
    rw [graph_Graph_at_R0_eq]
    simp only [graph_Graph_at_B0, graph_Graph_at_K0_a, h1, hO.chkV, List.find?_nil, zy, simprocAttr]
  | x :: s, p, hp => by
    have hpl : p.length + 1 + s.length = l.length := by rw [← hp]; simp; omega
    have h1 : ((p.length : Int) < l.length) := by omega
    have hw := wrapN (n := p.length) (by omega)
    have ih := gat_loop sec l hm v bl hO s (p ++ [x]) (by simpa using hp)
    obtain ⟨m, hia, cs, hg, hd⟩ := Own.get flatE hO hp.symm
    simp only [fE] at hd
    simp only [List.append_assoc, List.cons_append, List.nil_append, List.length_append, List.length_cons, List.length_nil] at ih
    rw [graph_Graph_at_R0_eq]
    by_cases he : x.s = sec
    · simp only [graph_Graph_at_B0, graph_Graph_at_K0_a, h1, hia, hg, hd, eq_true he, hO.chkV, sl, fE, List.flatMap_cons, List.flatMap_nil, List.find?_cons, beq_iff_eq, zy, simprocAttr]
      simp [he, fE]
    · simp only [graph_Graph_at_B0, graph_Graph_at_K0_a, h1, hia, hg, hd, eq_false he, hw, hO.chkV, ih, zy, simprocAttr]
      simp [he]

theorem gat_F (l : Lay) (hl : l.ok) (sec at' : Int) (H : Heap) : graph_Graph_at_F false H [.vp (layC l), .int .i64 sec, .int .i64 at'] = some (sl fE (oneOf l sec at'), H) := by
  obtain ⟨v, bl, e, o, _⟩ := gends_F l hl at' false [] []
  have e2 := gat_loop sec (ends l at') (ends_len hl at') v bl o (ends l at') [] rfl
  simp only [List.nil_append, List.length_nil, Int.natCast_zero] at e2
  rw [graph_Graph_at_F_eq]
  simp only [graph_Graph_at_C, graph_Graph_at_L0_eq, graph_Graph_Ends_call, e, e2, o.len, o.chkV, oneOf, zy, simprocAttr]
  cases hf : (ends l at').find? (fun x => x.s == sec) <;> simp only [sl_nil fE, zy, simprocAttr]
end Go.Proofs.Ytfblegjbmhgepaa.Zt
end
section
namespace Go.Proofs.Ytfblegjbmhgepaa.Zt
open Go Go.Zc
set_option maxRecDepth 10000

section
variable (fv fv' : CV) (hfv : fv.locv = false) (hfv' : fv'.locv = false) (p : Ed → Bool) (k : Nat) (ce : List CV)
variable (hcall : ∀ (bl : List Blk) (bx : List (Nat × List CV)) (y : Ed), bl[k]? = some (.cells ce) → call ctx fv [.agg (fE y)] ⟨bx, bl⟩ = some (.bool (p y), ⟨bx, bl⟩))
include hfv hcall

theorem del_loop (m n : Nat) (hmk : m ≠ k) (hn : n ≤ 2 * Zc.small) : ∀ (suf kept junk : List Ed) (bl : List Blk), bl[m]? = some (.cells ((kept ++ junk ++ suf).flatMap fE)) → bl[k]? = some (.cells ce) → junk ≠ [] → (kept ++ junk ++ suf).length = n →
    ∃ bl' junk', slices_DeleteFunc_End_R0 ([(0, .os 2 (.blk m) 0 n), (1, fv), (5, .int .i64 kept.length), (6, .int .i64 (kept.length + junk.length : Nat))], ⟨[], bl⟩) =
        some (.norm, [(0, .os 2 (.blk m) 0 n), (5, .int .i64 (kept ++ suf.filter fun x => !p x).length)], ⟨[], bl'⟩) ∧
      bl'[m]? = some (.cells (((kept ++ suf.filter fun x => !p x) ++ junk').flatMap fE)) ∧ bl'[k]? = some (.cells ce) ∧ ((kept ++ suf.filter fun x => !p x) ++ junk').length = n
  | [], kept, junk, bl, hm, hk, hj, hl => by
    refine ⟨bl, junk, ?_, by simpa using hm, hk, by simpa using hl⟩
    have h1 : ¬ (((kept.length + junk.length : Nat) : Int) < n) := by simp at hl; omega
    have hcv := chkV_of hfv
    rw [slices_DeleteFunc_End_R0_eq]
    simp only [slices_DeleteFunc_End_B0, slices_DeleteFunc_End_K0_a, h1, hcv, List.filter_nil, zy, simprocAttr]
  | x :: suf, kept, junk, bl, hm, hk, hj, hl => by
    have hl' : kept.length + junk.length + 1 + suf.length = n := by simp at hl; omega
    have h1 : (((kept.length + junk.length : Nat) : Int) < n) := by omega
    have hw := wrapN (n := kept.length + junk.length) (by omega)
    have hw2 := wrapN (n := kept.length) (by omega)
    have hcv := chkV_of hfv
    have hg : ∀ bx, Heap.get ⟨bx, bl⟩ (.blk m) = some ((kept ++ junk ++ x :: suf).flatMap fE) := fun bx => get_blk bx bl m _ hm
    have hia : iaddrC 2 (.os 2 (.blk m) 0 n) (.int .i64 (kept.length + junk.length : Nat)) = some (.op (.blk m) ((kept.length + junk.length) * 2)) := by
      unfold iaddrC iaddrN
      simp only [Int.toNat_natCast, Nat.zero_add]
      rw [if_pos ⟨trivial, by omega, by omega⟩]
    have hia2 : iaddrC 2 (.os 2 (.blk m) 0 n) (.int .i64 kept.length) = some (.op (.blk m) (kept.length * 2)) := by
      unfold iaddrC iaddrN
      simp only [Int.toNat_natCast, Nat.zero_add]
      rw [if_pos ⟨trivial, by omega, by omega⟩]
    have hd : ((kept ++ junk ++ x :: suf).flatMap fE).drop ((kept.length + junk.length) * 2) = .int .i64 x.s :: .int .i64 x.e :: suf.flatMap fE := by
      have := drop_mid flatE (kept ++ junk) suf x
      rw [List.length_append] at this
      exact this
    have hcx := fun bx => hcall bl bx x hk
    simp only [fE] at hcx
    by_cases hp : p x = true
    · obtain ⟨bl', junk', e, e1, e2, e3⟩ := del_loop m n hmk hn suf kept (junk ++ [x]) bl (by simpa using hm) hk (by simp) (by simpa using hl)
      have hfl : (x :: suf).filter (fun x => !p x) = suf.filter fun x => !p x := by simp [hp]
      rw [hfl]
      refine ⟨bl', junk', ?_, e1, e2, e3⟩
      have hidx : (kept.length + (junk ++ [x]).length : Nat) = kept.length + junk.length + 1 := by simp; omega
      rw [hidx] at e
      rw [slices_DeleteFunc_End_R0_eq]
      simp only [slices_DeleteFunc_End_B0, slices_DeleteFunc_End_K0_a, h1, hia, hg, hd, hcx, hp, hw, hcv, e, zy, simprocAttr]
    · obtain ⟨j0, junk0, rfl⟩ : ∃ j0 junk0, junk = j0 :: junk0 := by cases junk with | nil => exact (hj rfl).elim | cons a b => exact ⟨a, b, rfl⟩
      have hml : m < bl.length := (List.getElem?_eq_some_iff.1 hm).1
      have hst : ∀ bx, stE 2 (kept.length * 2) (.agg [.int .i64 x.s, .int .i64 x.e]) ⟨bx, bl⟩ (.blk m) ((kept ++ j0 :: junk0 ++ x :: suf).flatMap fE) = some ⟨bx, bl.set m (.cells ((kept ++ x :: junk0 ++ x :: suf).flatMap fE))⟩ := by
        intro bx
        have hlen := flatE.length (kept ++ j0 :: junk0 ++ x :: suf)
        have hsm := setMany_mid flatE kept (junk0 ++ x :: suf) x j0
        unfold stE
        rw [if_pos ⟨rfl, by rw [hlen]; simp; omega, rfl, .inr rfl⟩]
        simp only [List.append_assoc, List.cons_append] at hsm ⊢
        simp only [fE] at hsm
        simp only [CV.cells, hsm, put_blk]
      obtain ⟨bl', junk', e, e1, e2, e3⟩ := del_loop m n hmk hn suf (kept ++ [x]) (junk0 ++ [x]) (bl.set m (.cells ((kept ++ x :: junk0 ++ x :: suf).flatMap fE))) (by rw [List.getElem?_set_self hml]; simp) (by rw [List.getElem?_set_ne hmk]; exact hk) (by simp) (by simp at hl ⊢; omega)
      have hfl : (x :: suf).filter (fun x => !p x) = x :: suf.filter fun x => !p x := by simp [hp]
      rw [hfl]
      have hke : kept ++ x :: (suf.filter fun x => !p x) = (kept ++ [x]) ++ suf.filter fun x => !p x := by simp
      rw [hke]
      refine ⟨bl', junk', ?_, e1, e2, e3⟩
      have hidx : ((kept ++ [x]).length + (junk0 ++ [x]).length : Nat) = kept.length + (j0 :: junk0).length + 1 := by simp; omega
      rw [hidx, show (kept ++ [x]).length = kept.length + 1 by simp] at e
      generalize (j0 :: junk0).length = J at *
      rw [slices_DeleteFunc_End_R0_eq]
      simp only [slices_DeleteFunc_End_B0, slices_DeleteFunc_End_K0_a, h1, hia, hia2, hg, hd, hcx, hp, hst, hw, hw2, hcv, e, zy, simprocAttr]

variable (hsn : ∀ (bl : List Blk) (bx : List (Nat × List CV)), bl[k]? = some (.cells ce) → snapV ⟨bx, bl⟩ false false (snapN ⟨bx, bl⟩ false false 7) fv = some fv') (hp' : ∀ x H, call ctx fv' [.agg (fE x)] H = some (.bool (p x), H))
include hfv' hsn hp'

theorem del_F (v : CV) (bl : List Blk) (l : List Ed) (hO : Own fE 2 bl v l) (hk : bl[k]? = some (.cells ce)) (hne : blkOf v ≠ some k) (hm : l.length ≤ 2 * Zc.small) (bx : List (Nat × List CV)) :
    ∃ v' bl', slices_DeleteFunc_End_F bx bl [v, fv] = some (v', ⟨bx, bl'⟩) ∧ OwnS fE 2 bl' v' (l.filter fun x => !p x) := by
  have hv := fun bx => snapE_own hO bx false
  have hs := fun bx => hsn bl bx hk
  have hi := fun st H => idxE_F fv' hfv' p hp' l hm st H
  have hcv := chkV_of hfv
  cases hf : l.findIdx? p with
  | none =>
    have hall : ∀ x ∈ l, p x = false := fun x hx => by simpa using List.findIdx?_eq_none_iff.1 hf x hx
    have hfl : l.filter (fun x => !p x) = l := List.filter_eq_self.2 fun x hx => by simp [hall x hx]
    have hix : idxOf p l = -1 := by simp [idxOf, hf]
    rw [hfl]
    refine ⟨v, bl, ?_, hO.s⟩
    rw [slices_DeleteFunc_End_F_eq]
    simp only [slices_DeleteFunc_End_C, slices_IndexFunc_End_call, hv, hs, hi, hix, hO.locv, zy, simprocAttr]
  | some i =>
    have hix : idxOf p l = i := by simp [idxOf, hf]
    obtain ⟨hil, hpi, hlt⟩ := List.findIdx?_eq_some_iff_getElem.1 hf
    obtain ⟨pre, x, suf, rfl, hpl, hpx, hpre⟩ : ∃ pre x suf, l = pre ++ x :: suf ∧ pre.length = i ∧ p x = true ∧ ∀ y ∈ pre, p y = false := by
      refine ⟨l.take i, l[i], l.drop (i + 1), by rw [← List.drop_eq_getElem_cons hil, List.take_append_drop], by simp; omega, hpi, fun y hy => ?_⟩
      obtain ⟨j, hj, rfl⟩ := List.mem_iff_getElem.1 hy
      have hji : j < i := by simp at hj; omega
      simpa using hlt j hji
    subst hpl
    have hfl : (pre ++ x :: suf).filter (fun x => !p x) = pre ++ suf.filter fun x => !p x := by
      rw [List.filter_append, List.filter_cons, List.filter_eq_self.2 (fun y hy => by simp [hpre y hy])]
      simp [hpx]
    rw [hfl]
    obtain ⟨m, hia, hg, hvm⟩ := hO.iaddr flatE (k := .i64) (i := 0) (by simp; omega)
    have hmk : m ≠ k := fun h => hne (by rw [hvm, h]; rfl)
    subst hvm
    obtain ⟨bl', junk', e, e1, e2, e3⟩ := del_loop fv hfv p k ce hcall m (pre ++ x :: suf).length hmk hm suf pre [x] bl (by simpa using hg) hk (by simp) (by simp)
    simp only [List.length_cons, List.length_nil, Nat.zero_add] at e
    have hw := wrapN (n := pre.length) (by simp at hm; omega)
    have h1 : ¬ ((pre.length : Int) = -1) := by omega
    clear hpi hlt
    clear hil
    generalize hn : (pre ++ x :: suf).length = n at *
    generalize hq : (pre ++ suf.filter fun x => !p x) = q at *
    have hql : q.length ≤ n := by simp at e3; omega
    have hc1 : slcC 2 (.os 2 (.blk m) 0 n) (some (.int .i64 q.length)) none = some (.os 2 (.blk m) (q.length * 2) (n - q.length)) := by
      unfold slcC
      simp only [sbound, if_true, Option.bind_some]
      rw [if_pos ⟨by omega, by omega⟩]
      simp
    have hc2 : slcC 2 (.os 2 (.blk m) 0 n) none (some (.int .i64 q.length)) = some (.os 2 (.blk m) 0 q.length) := by
      unfold slcC
      simp only [sbound, if_true]
      rw [if_pos ⟨by omega, by omega⟩]
      simp
    have hml : m < bl'.length := (List.getElem?_eq_some_iff.1 e1).1
    have hcl : ∀ bx, clearC 2 [.int .i64 0, .int .i64 0] ⟨bx, bl'⟩ (.os 2 (.blk m) (q.length * 2) (n - q.length)) = some ⟨bx, bl'.set m (.cells (q.flatMap fE ++ repC [.int .i64 0, .int .i64 0] (n - q.length)))⟩ := by
      intro bx
      have hlen := flatE.length (q ++ junk')
      have h3 : (q ++ junk').length = n := e3
      have hjl : junk'.length = n - q.length := by simp at h3; omega
      have hsm := setMany_app (repC [.int .i64 0, .int .i64 0] (n - q.length)) (junk'.flatMap fE) (q.flatMap fE) [] (by rw [repC_length, flatE.length, hjl]; rfl)
      rw [flatE.length] at hsm
      simp only [List.append_nil] at hsm
      simp only [clearC, if_true, get_blk bx bl' m _ e1, Option.bind_some]
      rw [if_pos (by rw [hlen, h3]; omega)]
      simp only [List.flatMap_append, hsm, put_blk]
    refine ⟨.os 2 (.blk m) 0 q.length, bl'.set m (.cells (q.flatMap fE ++ repC [.int .i64 0, .int .i64 0] (n - q.length))), ?_, .inr ⟨m, _, rfl, by rw [List.getElem?_set_self hml]⟩⟩
    rw [slices_DeleteFunc_End_F_eq]
    simp only [slices_DeleteFunc_End_C, slices_DeleteFunc_End_L0_eq, slices_IndexFunc_End_call, hv, hs, hi, hix, h1, hw, hcv, e, hc1, hc2, hop_clear, hcl, zy, simprocAttr]
end
end Go.Proofs.Ytfblegjbmhgepaa.Zt
end
section
namespace Go.Proofs.Ytfblegjbmhgepaa.Zt
open Go Go.Zc
set_option maxRecDepth 10000

def fEL (l : List Ed) : List CV := [sl fE l]
theorem flatEL : Flat fEL 1 := ⟨fun _ => rfl, by decide, fun _ => rfl, fun _ => rfl, fun _ => rfl⟩
theorem iaddr_midEL (k : IntKind) (pre suf : List (List Ed)) (x : List Ed) : iaddrC 1 (sl fEL (pre ++ x :: suf)) (.int k pre.length) = some (.vp (sl fE x :: suf.flatMap fEL)) := iaddr_mid flatEL k pre suf x

theorem grow_F (n : Nat) (hn : n ≤ 4 * Zc.small) (bx : List (Nat × List CV)) (bl : List Blk) : ∃ v bl', slices_Grow_End_F bx bl [.nils, .int .i64 n] = some (v, ⟨bx, bl'⟩) ∧ OwnS fE 2 bl' v [] := by
  unfold Zc.small at hn
  have hw : IntKind.i64.wrap ((n : Int) - 0) = n := by rw [wrap64 (by omega) (by omega)]; omega
  have h0 : ¬ ((n : Int) < 0) := by omega
  have hc1 : slcC 2 .nils none (some (.int .i64 0)) = some .nils := rfl
  have hc2 : slcC 2 (.os 2 (.blk bl.length) 0 n) none (some (.int .i64 0)) = some (.os 2 (.blk bl.length) 0 0) := by
    unfold slcC
    simp only [sbound, if_true]
    rw [if_pos ⟨by omega, by omega⟩]
    simp
  by_cases h : n = 0
  · subst h
    refine ⟨.nils, bl, ?_, .inl ⟨rfl, rfl⟩⟩
    rw [slices_Grow_End_F_eq]
    simp only [slices_Grow_End_C, Int.natCast_zero, zy, simprocAttr]
  · have h1 : (0 : Int) < n := by omega
    have h2 : (n : Int) * 16 ≤ 140737488355328 := by omega
    refine ⟨.os 2 (.blk bl.length) 0 0, bl ++ [.cells (repC [.int .i64 0, .int .i64 0] n)], ?_, .inr ⟨bl.length, repC [.int .i64 0, .int .i64 0] n, rfl, by simp⟩⟩
    rw [slices_Grow_End_F_eq]
    simp only [slices_Grow_End_C, h0, hw, h1, h2, hc1, hc2, Int.cast_ofNat_Int, Int.toNat_natCast, zy, simprocAttr]

theorem cat_len : ∀ (s p : List (List Ed)), (p ++ s).length ≤ 1000 → (p.flatten.length + s.flatten.length) ≤ 4 * Zc.small →
    slices_Concat_End_R0 ([(0, sl fEL (p ++ s)), (3, .int .i64 p.flatten.length), (9, sl fEL (p ++ s)), (10, .int .i64 (p ++ s).length), (11, .int .i64 p.length)], ⟨[], []⟩) =
      some (.norm, [(0, sl fEL (p ++ s)), (3, .int .i64 (p ++ s).flatten.length)], ⟨[], []⟩)
  | [], p, hm, hl => by
    rw [slices_Concat_End_R0_eq]
    simp only [slices_Concat_End_B0, slices_Concat_End_K0_a, zy, simprocAttr]
  | x :: s, p, hm, hl => by
    have h1 : ((p.length : Int) < (p ++ x :: s).length) := by simp; omega
    have hw := wrapM (n := p.length) (by simp at hm; omega)
    have hxl : p.flatten.length + x.length + s.flatten.length ≤ 4 * Zc.small := by simp at hl; simp; omega
    unfold Zc.small at hxl
    have hw2 : IntKind.i64.wrap ((p.flatten.length : Int) + x.length) = ((p ++ [x]).flatten.length : Nat) := by rw [wrap64 (by omega) (by omega)]; simp
    have h0 : ¬ (((p ++ [x]).flatten.length : Int) < 0) := by omega
    have ih := cat_len s (p ++ [x]) (by simpa using hm) (by simp at hl ⊢; omega)
    rw [show (p ++ [x]) ++ s = p ++ x :: s by simp, show (p ++ [x]).length = p.length + 1 by simp] at ih
    rw [slices_Concat_End_R0_eq]
    simp only [slices_Concat_End_B0, slices_Concat_End_K0_a, h1, iaddr_midEL, hw, hw2, h0, ih, zy, simprocAttr]

theorem cat_app (ls : List (List Ed)) (hm : ls.length ≤ 1000) (hl : ls.flatten.length ≤ 4 * Zc.small) : ∀ (s p : List (List Ed)) (v : CV) (bl : List Blk), p ++ s = ls → OwnS fE 2 bl v p.flatten →
    ∃ v' bl', slices_Concat_End_R2 ([(6, v), (25, sl fEL ls), (26, .int .i64 ls.length), (27, .int .i64 p.length)], ⟨[], bl⟩) = some (.norm, [(6, v')], ⟨[], bl'⟩) ∧ OwnS fE 2 bl' v' ls.flatten
  | [], p, v, bl, hp, hO => by
    rw [List.append_nil] at hp
    subst hp
    refine ⟨v, bl, ?_, hO⟩
    rw [slices_Concat_End_R2_eq]
    simp only [slices_Concat_End_B2, slices_Concat_End_K2_a, hO.chkV, zy, simprocAttr]
  | x :: s, p, v, bl, hp, hO => by
    have h1 : ((p.length : Int) < ls.length) := by rw [← hp]; simp; omega
    have hw := wrapM (n := p.length) (by rw [← hp] at hm; simp at hm; omega)
    have hi : iaddrC 1 (sl fEL ls) (.int .i64 p.length) = some (.vp (sl fE x :: s.flatMap fEL)) := by rw [← hp]; exact iaddr_midEL _ p s x
    have hb : p.flatten.length + x.length ≤ 4 * Zc.small := by rw [← hp] at hl; simp at hl; simp; omega
    unfold Zc.small at hb
    obtain ⟨v1, bl1, e1, o1, _⟩ := hO.appSl flatE (bytes := 16) (zero := [.int .i64 0, .int .i64 0]) (by decide) rfl rfl x (by omega)
    obtain ⟨v', bl', e, o⟩ := cat_app ls hm hl s (p ++ [x]) v1 bl1 (by simpa using hp) (by simpa using o1)
    rw [show (p ++ [x]).length = p.length + 1 by simp] at e
    refine ⟨v', bl', ?_, o⟩
    rw [slices_Concat_End_R2_eq]
    simp only [slices_Concat_End_B2, slices_Concat_End_K2_a, h1, hi, hw, e1, hO.chkV, o1.chkV, e, zy, simprocAttr]

theorem concat_F (ls : List (List Ed)) (hm : ls.length ≤ 1000) (hl : ls.flatten.length ≤ 4 * Zc.small) (st : Bool) (H : Heap) : slices_Concat_End_F st H [sl fEL ls] = some (sl fE ls.flatten, H) := by
  have e1 := cat_len ls [] hm (by simpa using hl)
  simp only [List.nil_append, List.length_nil, Int.natCast_zero, List.flatten_nil] at e1
  obtain ⟨v, bl, e2, o2⟩ := grow_F ls.flatten.length hl [] []
  obtain ⟨v', bl', e3, o3⟩ := cat_app ls hm hl ls [] v bl rfl o2
  simp only [List.nil_append, List.length_nil, Int.natCast_zero] at e3
  have hs := fun bx => o3.snapV flatE bx st _ (snap_E ⟨bx, bl'⟩ st false 6)
  rw [slices_Concat_End_F_eq]
  simp only [slices_Concat_End_C, slices_Concat_End_L0_eq, slices_Concat_End_L2_eq, slices_Grow_End_call, e1, e2, e3, o2.chkV, hs, zy, simprocAttr]

theorem garound1_F (x y : Ed) (st : Bool) (H : Heap) : graph_Graph_Around_1_F st H [.agg (fE y), .vp (fE x)] = some (.bool (decide (y = x)), H) := by
  rw [graph_Graph_Around_1_F_eq]
  have hq := eqE y x
  simp only [fE] at hq
  simp only [graph_Graph_Around_1_C, fE, hq, zy, simprocAttr]

theorem garound_F (l : Lay) (hl : l.ok) (x : Ed) (H : Heap) : graph_Graph_Around_F false H [.vp (layC l), .agg (fE x)] = some (sl fE (around l x), H) := by
  rw [graph_Graph_Around_F_eq]
  have hnF := gnode_F l x
  simp only [fE] at hnF
  cases hn : nodeOf l x with
  | none =>
    simp only [hn, Option.getD_none] at hnF
    simp only [graph_Graph_Around_C, fE, graph_Graph_node_call, hnF, around, hn, sl_nil fE, zy, simprocAttr]
  | some n =>
    simp only [hn, Option.getD_some] at hnF
    have hpF := gpoint_F l hl n
    cases hp : ptOf l n with
    | some i =>
      obtain ⟨hi, hf⟩ := ptOf_some hp
      simp only [hp] at hpF
      have h0 : ¬ ((i : Int) < 0) := by omega
      have hcc : CV.vs [sl fE (oneOf l l.pts[i].left n), sl fE (oneOf l l.pts[i].right n)] 2 = sl fEL [oneOf l l.pts[i].left n, oneOf l l.pts[i].right n] := rfl
      have hcF := fun st H => concat_F [oneOf l l.pts[i].left n, oneOf l l.pts[i].right n] (by simp) (by have := oneOf_len l l.pts[i].left n; have := oneOf_len l l.pts[i].right n; unfold Zc.small; simp; omega) st H
      simp only [List.flatten_cons, List.flatten_nil, List.append_nil] at hcF
      by_cases h1 : x.s = l.pts[i].stem
      · simp only [graph_Graph_Around_C, fE, graph_Graph_node_call, hnF, graph_Graph_Point_call, hpF, h0, iaddr_atP hi, eq_true h1, graph_Graph_at_call, gat_F l hl, slices_Concat_End_call, hcc, hcF, around, hn, hf, zy, simprocAttr]
      · by_cases h2 : x.s = l.pts[i].left
        · simp only [graph_Graph_Around_C, fE, graph_Graph_node_call, hnF, graph_Graph_Point_call, hpF, h0, iaddr_atP hi, eq_false h1, eq_true h2, graph_Graph_at_call, gat_F l hl, around, hn, hf, zy, simprocAttr]
        · by_cases h3 : x.s = l.pts[i].right
          · simp only [graph_Graph_Around_C, fE, graph_Graph_node_call, hnF, graph_Graph_Point_call, hpF, h0, iaddr_atP hi, eq_false h1, eq_false h2, eq_true h3, graph_Graph_at_call, gat_F l hl, around, hn, hf, zy, simprocAttr]
          · simp only [graph_Graph_Around_C, fE, graph_Graph_node_call, hnF, graph_Graph_Point_call, hpF, h0, iaddr_atP hi, h1, h2, h3, sl_nil fE, around, hn, hf, zy, simprocAttr]
    | none =>
      have hf := ptOf_none hp
      simp only [hp] at hpF
      obtain ⟨v, bl, e, o, hkeep, hnew⟩ := gends_F l hl n false [] [.cells (fE x)]
      have hk0 : bl[0]? = some (.cells (fE x)) := hkeep 0 _ rfl
      have hne : blkOf v ≠ some 0 := fun h => by have := hnew 0 h; simp at this
      have hc : ∀ y (H' : Heap), call ctx (.fn (.func 98) [] [.vp (fE x)]) [.agg (fE y)] H' = some (.bool (decide (y = x)), H') := by
        intro y H'
        have := garound1_F x y
        simp only [fE] at this
        simp only [graph_Graph_Around_1_call, fE, zy, simprocAttr, this]
      have hc2 : ∀ (bl : List Blk) (bx : List (Nat × List CV)) (y : Ed), bl[0]? = some (.cells (fE x)) → call ctx (.fn (.func 98) [] [.op (.blk 0) 0]) [.agg (fE y)] ⟨bx, bl⟩ = some (.bool (decide (y = x)), ⟨bx, bl⟩) := by
        intro bl bx y hb
        have := garound1_F x y
        simp only [fE] at this
        have hg := get_blk bx bl 0 _ hb
        simp only [fE] at hg
        simp only [graph_Graph_Around_1_call, fE, hg, zy, simprocAttr, this]
      have hsn : ∀ (bl : List Blk) (bx : List (Nat × List CV)), bl[0]? = some (.cells (fE x)) → snapV ⟨bx, bl⟩ false false (snapN ⟨bx, bl⟩ false false 7) (.fn (.func 98) [] [.op (.blk 0) 0]) = some (.fn (.func 98) [] [.vp (fE x)]) := by
        intro bl bx hb
        have hg := get_blk bx bl 0 _ hb
        simp only [fE] at hg ⊢
        simp only [hg, zy, simprocAttr]
      obtain ⟨v', bl', e', o'⟩ := del_F (.fn (.func 98) [] [.op (.blk 0) 0]) (.fn (.func 98) [] [.vp (fE x)]) rfl rfl (fun y => decide (y = x)) 0 (fE x) hc2 hsn hc v bl (ends l n) o hk0 hne (ends_len hl n) []
      simp only [fE] at e e'
      have hfe : (ends l n).filter (fun y => !decide (y = x)) = (ends l n).filter fun y => decide (y ≠ x) := by congr 1; funext y; by_cases h : y = x <;> simp [h]
      rw [hfe] at o'
      have ho := o'.len
      have hs := fun bx => o'.snapV flatE bx false _ (snap_E ⟨bx, bl'⟩ false false 6)
      by_cases h1 : ((ends l n).filter fun y => decide (y ≠ x)).length = 1
      · have h1' : (((ends l n).filter fun y => decide (y ≠ x)).length : Int) = 1 := by omega
        simp only [graph_Graph_Around_C, fE, graph_Graph_node_call, hnF, graph_Graph_Point_call, hpF, graph_Graph_Ends_call, e, slices_DeleteFunc_End_call, e', o.locv, o'.locv, ho, eq_true h1, eq_true h1', hs, around, hn, hf, zy, simprocAttr]
      · have h1' : ¬ (((ends l n).filter fun y => decide (y ≠ x)).length : Int) = 1 := by omega
        simp only [graph_Graph_Around_C, fE, graph_Graph_node_call, hnF, graph_Graph_Point_call, hpF, graph_Graph_Ends_call, e, slices_DeleteFunc_End_call, e', o.locv, o'.locv, ho, eq_false h1, eq_false h1', sl_nil fE, around, hn, hf, zy, simprocAttr]
end Go.Proofs.Ytfblegjbmhgepaa.Zt
end
section
namespace Go.Proofs.Ytfblegjbmhgepaa.Zt
open Go Go.Zc
set_option maxRecDepth 10000

theorem index_loop (n : Int) : ∀ (s pre : List Int), (pre ++ s).length ≤ 2 * Zc.small →
    slices_Index_int_R0 ([(0, sl fI (pre ++ s)), (1, .int .i64 n), (7, .int .i64 (pre ++ s).length), (8, .int .i64 pre.length)], ⟨[], []⟩) =
      match s.findIdx? (fun x => decide (n = x)) with
      | some i => some (.ret, [(4, .int .i64 ((pre.length + i : Nat) : Int))], ⟨[], []⟩)
      | none => some (.norm, [], ⟨[], []⟩)
  | [], pre, hm => by
    rw [slices_Index_int_R0_eq]
    simp only [slices_Index_int_B0, slices_Index_int_K0_a, List.findIdx?_nil, zy, simprocAttr]
  | x :: s, pre, hm => by
    have h1 : ((pre.length : Int) < (pre ++ x :: s).length) := by simp; omega
    have hw := wrapN (n := pre.length) (by simp at hm; omega)
    have ih := index_loop n s (pre ++ [x]) (by simpa using hm)
    simp only [List.append_assoc, List.cons_append, List.nil_append, List.length_append, List.length_cons, List.length_nil] at ih h1
    rw [slices_Index_int_R0_eq]
    simp only [slices_Index_int_B0, slices_Index_int_K0_a, h1, iaddr_midI, hw, List.append_assoc, List.cons_append, List.nil_append, List.length_append, List.length_cons, List.length_nil, zy, simprocAttr, ih]
    by_cases hA : n = x
    · simp [hA, List.findIdx?_cons]
    · simp only [hA, if_false, List.findIdx?_cons, decide_false, Bool.false_eq_true]
      cases hf : s.findIdx? (fun x => decide (n = x)) with
      | none => simp
      | some i => simp; omega

theorem index_F (n : Int) (l : List Int) (hm : l.length ≤ 2 * Zc.small) (st : Bool) (H : Heap) :
    slices_Index_int_F st H [sl fI l, .int .i64 n] = some (.int .i64 (idxOf (fun x => decide (n = x)) l), H) := by
  have e := index_loop n l [] hm
  simp only [List.nil_append, List.length_nil, Int.natCast_zero, Nat.zero_add] at e
  rw [slices_Index_int_F_eq]
  simp only [slices_Index_int_C, slices_Index_int_L0_eq, e, idxOf, zy, simprocAttr]
  cases hf : l.findIdx? (fun x => decide (n = x)) <;> simp only [zy, simprocAttr]

theorem idxOf_nonneg {α : Type} (p : α → Bool) (l : List α) : (0 ≤ idxOf p l) ↔ ∃ x ∈ l, p x = true := by
  unfold idxOf
  cases h : l.findIdx? p with
  | none =>
    have := List.findIdx?_eq_none_iff.1 h
    simp only [show ¬ (0 : Int) ≤ -1 by omega, false_iff]
    rintro ⟨x, hx, hp⟩
    rw [this x hx] at hp; cases hp
  | some i =>
    obtain ⟨hi, hp, _⟩ := List.findIdx?_eq_some_iff_getElem.1 h
    simp only [show (0 : Int) ≤ i by omega, true_iff]
    exact ⟨l[i], List.getElem_mem hi, hp⟩

theorem contains_F (n : Int) (l : List Int) (hm : l.length ≤ 2 * Zc.small) (st : Bool) (H : Heap) :
    slices_Contains_int_F st H [sl fI l, .int .i64 n] = some (.bool (decide (n ∈ l)), H) := by
  rw [slices_Contains_int_F_eq]
  have h : (0 ≤ idxOf (fun x => decide (n = x)) l) = (n ∈ l) := by
    rw [idxOf_nonneg]; simp
  simp only [slices_Contains_int_C, slices_Index_int_call, index_F n l hm, h, zy, simprocAttr]

theorem find_idx {α : Type} (p : α → Bool) (l : List α) : (∀ i, l.findIdx? p = some i → ∃ h : i < l.length, l.find? p = some l[i]) ∧ (l.findIdx? p = none → l.find? p = none) := by
  constructor
  · intro i h
    obtain ⟨hi, h2, h3⟩ := List.findIdx?_eq_some_iff_getElem.1 h
    refine ⟨hi, ?_⟩
    rw [List.find?_eq_some_iff_getElem]
    exact ⟨h2, i, hi, rfl, fun j hj => by simpa using h3 j hj⟩
  · intro h
    rw [List.find?_eq_none]
    intro x hx
    simpa using List.findIdx?_eq_none_iff.1 h x hx

theorem around_len2 (l : Lay) (x : Ed) : (around l x).length ≤ 2 * Zc.small := by
  have := around_len l x
  unfold Zc.small; omega

theorem iaddr_0I (k : IntKind) (h : Int) (t : List Int) : iaddrC 1 (sl fI (h :: t)) (.int k 0) = some (.vp (.int .i64 h :: t.flatMap fI)) := iaddr_midI k [] t h
theorem slc_1I (k : IntKind) (h : Int) (t : List Int) : slcC 1 (sl fI (h :: t)) (some (.int k 1)) none = some (sl fI t) := by
  have := slc_lo flatI (h :: t) 1 (by simp) k
  simpa using this

end Go.Proofs.Ytfblegjbmhgepaa.Zt
end
section
namespace Go.Proofs.Ytfblegjbmhgepaa.Zt
open Go Go.Zc
set_option maxRecDepth 10000

/-- The best one so far. -/
def Best (last : Option Int) (l : List Int) (i : Nat) (b : Int) : Prop :=
  (b = -1 ∧ ∀ k, ∀ h : k < l.length, k < i → gtO last l[k] = false) ∨
  ∃ j : Nat, ∃ hj : j < l.length, b = j ∧ j < i ∧ gtO last l[j] = true ∧ ∀ k, ∀ h : k < l.length, k < i → gtO last l[k] = true → l[j] ≤ l[k]

theorem rise_in (l : List Int) (hm : l.length ≤ 2 * Zc.small) (acc : List Int) (v : CV) (bl : List Blk) (hO : Own fI 1 bl v acc) (ham : acc.length ≤ 2 * Zc.small) : ∀ (n i : Nat) (b : Int), l.length - i = n → i ≤ l.length → Best acc.getLast? l i b →
    ∃ b', r01_Rise_R2 ([(0, sl fI l), (3, v), (4, .int .i64 b), (5, .int .i64 i)], ⟨[], bl⟩) = some (.norm, [(0, sl fI l), (3, v), (4, .int .i64 b')], ⟨[], bl⟩) ∧ Best acc.getLast? l l.length b' := by
  intro n
  induction n with
  | zero =>
    intro i b hn hi hB
    have : i = l.length := by omega
    subst this
    refine ⟨b, ?_, hB⟩
    rw [r01_Rise_R2_eq]
    simp only [r01_Rise_B2, r01_Rise_K2_a, hO.chkV, zy, simprocAttr]
  | succ n ih =>
    intro i b hn hi hB
    have hil : i < l.length := by omega
    have h1 : ((i : Int) < l.length) := by omega
    have hw := wrapN (n := i) (by omega)
    have hia := iaddr_atI (k := .i64) hil
    have hol := hO.len
    -- the new best one
    have step : ∃ b', Best acc.getLast? l (i + 1) b' ∧ r01_Rise_R2 ([(0, sl fI l), (3, v), (4, .int .i64 b), (5, .int .i64 i)], ⟨[], bl⟩) = r01_Rise_R2 ([(0, sl fI l), (3, v), (4, .int .i64 b'), (5, .int .i64 (i + 1 : Nat))], ⟨[], bl⟩) := by
      have hkB : gtO acc.getLast? l[i] = false → Best acc.getLast? l (i + 1) b := by
        intro hg
        rcases hB with ⟨h2, h3⟩ | ⟨j, hj, h2, h3, h4, h5⟩
        · exact .inl ⟨h2, fun k hk hki => by
            by_cases hkk : k = i
            · subst hkk; exact hg
            · exact h3 k hk (by omega)⟩
        · exact .inr ⟨j, hj, h2, by omega, h4, fun k hk hki hgk => by
            by_cases hkk : k = i
            · subst hkk; rw [hg] at hgk; cases hgk
            · exact h5 k hk (by omega) hgk⟩
      have hnB : gtO acc.getLast? l[i] = true → b < 0 → Best acc.getLast? l (i + 1) i := by
        intro hg hb
        rcases hB with ⟨h2, h3⟩ | ⟨j, hj, h2, h3, h4, h5⟩
        · refine .inr ⟨i, hil, rfl, by omega, hg, fun k hk hki hgk => ?_⟩
          by_cases hkk : k = i
          · subst hkk; exact Int.le_refl _
          · rw [h3 k hk (by omega)] at hgk; cases hgk
        · omega
      by_cases hacc : acc = []
      · subst hacc
        have hg : gtO ([] : List Int).getLast? l[i] = true := rfl
        by_cases hb : b < 0
        · refine ⟨i, hnB hg hb, ?_⟩
          rw [r01_Rise_R2_eq]
          simp only [r01_Rise_B2, r01_Rise_K2_a, h1, hol, hia, hb, hw, hO.chkV, Int.natCast_zero, zy, simprocAttr]
        · rcases hB with ⟨h2, h3⟩ | ⟨j, hj, h2, h3, h4, h5⟩
          · omega
          · subst h2
            have hja := iaddr_atI (k := .i64) hj
            by_cases hlt : l[i] < l[j]
            · refine ⟨i, .inr ⟨i, hil, rfl, by omega, hg, fun k hk hki hgk => ?_⟩, ?_⟩
              · by_cases hkk : k = i
                · subst hkk; exact Int.le_refl _
                · have := h5 k hk (by omega) hgk; omega
              · rw [r01_Rise_R2_eq]
                simp only [r01_Rise_B2, r01_Rise_K2_a, h1, hol, hia, hja, hb, hlt, hw, hO.chkV, Int.natCast_zero, zy, simprocAttr]
            · refine ⟨j, .inr ⟨j, hj, rfl, by omega, h4, fun k hk hki hgk => ?_⟩, ?_⟩
              · by_cases hkk : k = i
                · subst hkk; omega
                · exact h5 k hk (by omega) hgk
              · rw [r01_Rise_R2_eq]
                simp only [r01_Rise_B2, r01_Rise_K2_a, h1, hol, hia, hja, hb, hlt, hw, hO.chkV, Int.natCast_zero, zy, simprocAttr]
      · obtain ⟨a, z, rfl⟩ : ∃ a z, acc = a ++ [z] := ⟨acc.dropLast, acc.getLast hacc, (List.dropLast_concat_getLast hacc).symm⟩
        have hlast : (a ++ [z]).getLast? = some z := by simp
        have hl0 : ¬ (((a ++ [z]).length : Int) = 0) := by simp; omega
        have hsub : IntKind.i64.wrap (((a ++ [z]).length : Int) - 1) = a.length := by
          unfold Zc.small at ham
          rw [wrap64 (by omega) (by omega)]; simp
        obtain ⟨m, hla, cs, hg0, hd⟩ := Own.get flatI hO (p := a) (s := []) (x := z) rfl
        simp only [fI, Nat.mul_one] at hd
        simp only [Nat.mul_one] at hla
        rw [hlast] at hkB hnB hB ⊢
        generalize hL : (a ++ [z]).length = L at *
        by_cases hgz : z < l[i]
        · have hg : gtO (some z) l[i] = true := by simp [gtO, hgz]
          by_cases hb : b < 0
          · refine ⟨i, hnB hg hb, ?_⟩
            rw [r01_Rise_R2_eq]
            simp only [r01_Rise_B2, r01_Rise_K2_a, h1, hol, hl0, hsub, hla, hg0, hd, hgz, hia, hb, hw, hO.chkV, zy, simprocAttr]
          · rcases hB with ⟨h2, h3⟩ | ⟨j, hj, h2, h3, h4, h5⟩
            · omega
            · subst h2
              have hja := iaddr_atI (k := .i64) hj
              by_cases hlt : l[i] < l[j]
              · refine ⟨i, .inr ⟨i, hil, rfl, by omega, hg, fun k hk hki hgk => ?_⟩, ?_⟩
                · by_cases hkk : k = i
                  · subst hkk; exact Int.le_refl _
                  · have := h5 k hk (by omega) hgk; omega
                · rw [r01_Rise_R2_eq]
                  simp only [r01_Rise_B2, r01_Rise_K2_a, h1, hol, hl0, hsub, hla, hg0, hd, hgz, hia, hja, hb, hlt, hw, hO.chkV, zy, simprocAttr]
              · refine ⟨j, .inr ⟨j, hj, rfl, by omega, h4, fun k hk hki hgk => ?_⟩, ?_⟩
                · by_cases hkk : k = i
                  · subst hkk; omega
                  · exact h5 k hk (by omega) hgk
                · rw [r01_Rise_R2_eq]
                  simp only [r01_Rise_B2, r01_Rise_K2_a, h1, hol, hl0, hsub, hla, hg0, hd, hgz, hia, hja, hb, hlt, hw, hO.chkV, zy, simprocAttr]
        · have hg : gtO (some z) l[i] = false := by simp [gtO]; omega
          refine ⟨b, hkB hg, ?_⟩
          rw [r01_Rise_R2_eq]
          simp only [r01_Rise_B2, r01_Rise_K2_a, h1, hol, hl0, hsub, hla, hg0, hd, hgz, hia, hw, hO.chkV, zy, simprocAttr]
    obtain ⟨b', hB', e⟩ := step
    obtain ⟨b'', e2, hB''⟩ := ih (i + 1) b' (by omega) (by omega) hB'
    exact ⟨b'', e.trans e2, hB''⟩

theorem best_min {last : Option Int} {l : List Int} {b : Int} (h : Best last l l.length b) : (b < 0 ∧ minO (l.filter (gtO last)) = none) ∨ ∃ j : Nat, ∃ hj : j < l.length, b = j ∧ minO (l.filter (gtO last)) = some l[j] := by
  rcases h with ⟨h1, h2⟩ | ⟨j, hj, h1, _, h3, h4⟩
  · left
    refine ⟨by omega, minO_none.2 ?_⟩
    rw [List.filter_eq_nil_iff]
    intro x hx
    obtain ⟨k, hk, rfl⟩ := List.mem_iff_getElem.1 hx
    rw [h2 k hk hk]; simp
  · right
    refine ⟨j, hj, h1, minO_some.2 ⟨List.mem_filter.2 ⟨List.getElem_mem hj, h3⟩, fun y hy => ?_⟩⟩
    obtain ⟨hy1, hy2⟩ := List.mem_filter.1 hy
    obtain ⟨k, hk, rfl⟩ := List.mem_iff_getElem.1 hy1
    exact h4 k hk hk hy2

theorem rise_loop (l : List Int) (hm : l.length ≤ Zc.small) : ∀ (n : Nat) (acc : List Int) (v : CV) (bl : List Blk), (l.filter (gtO acc.getLast?)).length ≤ n → acc.length + n ≤ l.length → Own fI 1 bl v acc →
    ∃ v' bl', r01_Rise_R0 ([(0, sl fI l), (3, v)], ⟨[], bl⟩) = some (.ret, [(2, v')], ⟨[], bl'⟩) ∧ Own fI 1 bl' v' (acc ++ riseN l n acc.getLast?) := by
  intro n
  induction n with
  | zero =>
    intro acc v bl hf hn hO
    have hB0 : Best acc.getLast? l 0 (-1) := .inl ⟨rfl, fun k hk h => by omega⟩
    obtain ⟨b, e, hB⟩ := rise_in l (by omega) acc v bl hO (by omega) l.length 0 (-1) (by omega) (by omega) hB0
    have hnil : l.filter (gtO acc.getLast?) = [] := List.eq_nil_of_length_eq_zero (by omega)
    rcases best_min hB with ⟨hb, _⟩ | ⟨j, hj, hb, h⟩
    · refine ⟨v, bl, ?_, by simpa [riseN] using hO⟩
      simp only [Int.natCast_zero] at e
      rw [r01_Rise_R0_eq]
      simp only [r01_Rise_B0, r01_Rise_K0_a, r01_Rise_L2_eq, hO.chkV, e, hb, zy, simprocAttr]
    · rw [hnil] at h; simp [minO] at h
  | succ n ih =>
    intro acc v bl hf hn hO
    have hB0 : Best acc.getLast? l 0 (-1) := .inl ⟨rfl, fun k hk h => by omega⟩
    obtain ⟨b, e, hB⟩ := rise_in l (by omega) acc v bl hO (by omega) l.length 0 (-1) (by omega) (by omega) hB0
    simp only [Int.natCast_zero] at e
    rcases best_min hB with ⟨hb, h⟩ | ⟨j, hj, hb, h⟩
    · refine ⟨v, bl, ?_, by simpa [riseN, h] using hO⟩
      rw [r01_Rise_R0_eq]
      simp only [r01_Rise_B0, r01_Rise_K0_a, r01_Rise_L2_eq, hO.chkV, e, hb, zy, simprocAttr]
    · subst hb
      have hlt := filter_gt h
      unfold Zc.small at hm
      obtain ⟨v1, bl1, e1, o1, _⟩ := hO.app1 flatI (bytes := 8) (zero := [.int .i64 0]) (by decide) rfl rfl l[j] (by omega)
      simp only [fI] at e1
      have hgl : (acc ++ [l[j]]).getLast? = some l[j] := by simp
      obtain ⟨v', bl', e2, o2⟩ := ih (acc ++ [l[j]]) v1 bl1 (by rw [hgl]; omega) (by simp; omega) o1
      rw [hgl] at o2
      have hja := iaddr_atI (k := .i64) hj
      have hb : ¬ ((j : Int) < 0) := by omega
      refine ⟨v', bl', ?_, by simpa only [riseN, h, List.append_assoc, List.cons_append, List.nil_append] using o2⟩
      rw [r01_Rise_R0_eq]
      simp only [r01_Rise_B0, r01_Rise_K0_a, r01_Rise_L2_eq, hO.chkV, e, hb, hja, e1, o1.chkV, e2, zy, simprocAttr]

theorem rise_F (l : List Int) (hm : l.length ≤ Zc.small) (st : Bool) (H : Heap) : r01_Rise_F st H [sl fI l] = some (sl fI (rise l), H) := by
  obtain ⟨v, bl, e, o⟩ := rise_loop l hm l.length [] .nils [] (List.length_filter_le _ _) (by simp) (Own.nil _ _ _)
  have hs := fun bx => snapI_own o bx st
  simp only [List.nil_append, List.getLast?_nil] at hs
  rw [r01_Rise_F_eq]
  simp only [r01_Rise_C, r01_Rise_L0_eq, e, hs, rise, zy, simprocAttr]

end Go.Proofs.Ytfblegjbmhgepaa.Zt
end
section
namespace Go.Proofs.Ytfblegjbmhgepaa.Zt
open Go Go.Zc
set_option maxRecDepth 10000

theorem iaddr_os {m n i : Nat} {k : IntKind} (h : i < n) : iaddrC 1 (.os 1 (.blk m) 0 n) (.int k i) = some (.op (.blk m) i) := by
  unfold iaddrC iaddrN
  simp only [Int.toNat_natCast, Nat.zero_add, Nat.mul_one]
  rw [if_pos ⟨trivial, by omega, by omega⟩]
theorem dropI (p s : List Int) (x : Int) : ((p ++ x :: s).flatMap fI).drop p.length = .int .i64 x :: s.flatMap fI := by
  have := drop_mid flatI p s x
  rw [Nat.mul_one] at this
  exact this
theorem stI (bx : List (Nat × List CV)) (bl : List Blk) (m : Nat) (p s : List Int) (x y : Int) : stE 1 p.length (.int .i64 y) ⟨bx, bl⟩ (.blk m) ((p ++ x :: s).flatMap fI) = some ⟨bx, bl.set m (.cells ((p ++ y :: s).flatMap fI))⟩ := by
  have h1 := setMany_mid flatI p s y x
  simp only [Nat.mul_one] at h1
  have h2 := flatI.length (p ++ x :: s)
  unfold stE
  rw [if_pos ⟨rfl, by rw [h2]; simp, rfl, .inr rfl⟩]
  simp only [CV.cells]
  rw [show [CV.int IntKind.i64 y] = fI y from rfl, h1]
  rfl

/-- What differs from what stands before it. -/
def dd : Int → List Int → List Int
  | _, [] => []
  | y, x :: s => if x = y then dd x s else x :: dd x s
theorem compact_dd : ∀ (y : Int) (s : List Int), compact (y :: s) = y :: dd y s
  | y, [] => rfl
  | y, x :: s => by
    simp only [compact, dd]
    by_cases h : x = y
    · subst h; simp only [if_true]; exact compact_dd x s
    · rw [if_neg h, if_neg (fun h' => h h'.symm), compact_dd x s]
theorem dd_len : ∀ (s : List Int) (y : Int), (dd y s).length ≤ s.length
  | [], _ => Nat.le_refl _
  | x :: s, y => by
    have := dd_len s x
    simp only [dd]
    split <;> simp <;> omega

theorem iaddr_os2 {m n k i : Nat} {ik : IntKind} (h : i < n) : iaddrC 1 (.os 1 (.blk m) k n) (.int ik i) = some (.op (.blk m) (k + i)) := by
  unfold iaddrC iaddrN
  simp only [Int.toNat_natCast, Nat.mul_one]
  rw [if_pos ⟨trivial, by omega, by omega⟩]

theorem cmp_in (m n k : Nat) (hn : n ≤ 2 * Zc.small) (hk : k ≤ n) : ∀ (suf done junk : List Int) (y : Int) (bl : List Blk), bl[m]? = some (.cells ((done ++ junk ++ y :: suf).flatMap fI)) → (done ++ junk ++ y :: suf).length = n → k ≤ done.length + junk.length →
    ∃ bl' junk', slices_Compact_int_R2 ([(0, .os 1 (.blk m) 0 n), (3, .int .i64 done.length), (4, .os 1 (.blk m) k (n - k)), (5, .int .i64 (done.length + junk.length + 1 - k : Nat))], ⟨[], bl⟩) =
        some (.norm, [(0, .os 1 (.blk m) 0 n), (3, .int .i64 (done ++ dd y suf).length)], ⟨[], bl'⟩) ∧
      bl'[m]? = some (.cells (((done ++ dd y suf) ++ junk').flatMap fI)) ∧ ((done ++ dd y suf) ++ junk').length = n ∧ Fr bl bl' (.os 1 (.blk m) 0 n)
  | [], done, junk, y, bl, hm, hl, hkk => by
    refine ⟨bl, junk ++ [y], ?_, by simpa [dd] using hm, by simp [dd] at hl ⊢; omega, fun _ _ h _ => h⟩
    have h1 : ¬ (((done.length + junk.length + 1 - k : Nat) : Int) < (n - k : Nat)) := by simp at hl; omega
    rw [slices_Compact_int_R2_eq]
    simp only [slices_Compact_int_B2, slices_Compact_int_K2_a, h1, dd, zy, simprocAttr]
  | x :: suf, done, junk, y, bl, hm, hl, hkk => by
    have hl' : done.length + junk.length + 2 + suf.length = n := by simp at hl; omega
    have hml : m < bl.length := (List.getElem?_eq_some_iff.1 hm).1
    have h1 : (((done.length + junk.length + 1 - k : Nat) : Int) < (n - k : Nat)) := by omega
    unfold Zc.small at hn
    have hw := wrapN (n := done.length + junk.length + 1 - k) (by unfold Zc.small; omega)
    have hw1 : IntKind.i64.wrap (((done.length + junk.length + 1 - k : Nat) : Int) - 1) = ((done.length + junk.length - k : Nat) : Int) := by rw [wrap64 (by omega) (by omega)]; omega
    have hw2 := wrapN (n := done.length) (by unfold Zc.small; omega)
    have hg : ∀ bx, Heap.get ⟨bx, bl⟩ (.blk m) = some ((done ++ junk ++ y :: x :: suf).flatMap fI) := fun bx => get_blk bx bl m _ hm
    have i1 : iaddrC 1 (.os 1 (.blk m) k (n - k)) (.int .i64 (done.length + junk.length + 1 - k : Nat)) = some (.op (.blk m) (done.length + junk.length + 1)) := by
      rw [iaddr_os2 (by omega)]; congr 2; omega
    have i2 : iaddrC 1 (.os 1 (.blk m) k (n - k)) (.int .i64 (done.length + junk.length - k : Nat)) = some (.op (.blk m) (done.length + junk.length)) := by
      rw [iaddr_os2 (by omega)]; congr 2; omega
    have i3 : iaddrC 1 (.os 1 (.blk m) 0 n) (.int .i64 done.length) = some (.op (.blk m) done.length) := iaddr_os (by omega)
    have d1 : ((done ++ junk ++ y :: x :: suf).flatMap fI).drop (done.length + junk.length + 1) = .int .i64 x :: suf.flatMap fI := by
      have := dropI (done ++ junk ++ [y]) suf x
      simpa only [List.length_append, List.length_cons, List.length_nil, Nat.zero_add, List.append_assoc, List.cons_append, List.nil_append, Nat.add_assoc] using this
    have d2 : ((done ++ junk ++ y :: x :: suf).flatMap fI).drop (done.length + junk.length) = .int .i64 y :: (x :: suf).flatMap fI := by
      have := dropI (done ++ junk) (x :: suf) y
      simpa only [List.length_append] using this
    by_cases hxy : x = y
    · obtain ⟨bl', junk', e, e1, e2, e3⟩ := cmp_in m n k (by unfold Zc.small; exact hn) hk suf done (junk ++ [y]) x bl (by simpa using hm) (by simpa using hl) (by simp; omega)
      have hd : dd y (x :: suf) = dd x suf := by simp only [dd, if_pos hxy]
      rw [hd]
      refine ⟨bl', junk', ?_, e1, e2, e3⟩
      have hidx : (done.length + (junk ++ [y]).length + 1 - k : Nat) = done.length + junk.length + 1 - k + 1 := by simp; omega
      rw [hidx] at e
      rw [slices_Compact_int_R2_eq]
      simp only [slices_Compact_int_B2, slices_Compact_int_K2_a, h1, i1, i2, hg, d1, d2, eq_true hxy, hw, hw1, e, zy, simprocAttr]
    · obtain ⟨j0, junk0, hj⟩ : ∃ j0 junk0, junk ++ [y] = j0 :: junk0 := by cases junk with | nil => exact ⟨y, [], rfl⟩ | cons a b => exact ⟨a, b ++ [y], rfl⟩
      have hjl : junk.length + 1 = junk0.length + 1 := by simpa using congrArg List.length hj
      have hbe : done ++ junk ++ y :: x :: suf = done ++ j0 :: (junk0 ++ x :: suf) := by
        have : junk ++ y :: x :: suf = (junk ++ [y]) ++ x :: suf := by simp
        rw [List.append_assoc, this, hj]; simp
      have hst : ∀ bx, stE 1 done.length (.int .i64 x) ⟨bx, bl⟩ (.blk m) ((done ++ junk ++ y :: x :: suf).flatMap fI) = some ⟨bx, bl.set m (.cells ((done ++ x :: (junk0 ++ x :: suf)).flatMap fI))⟩ := by
        intro bx
        rw [hbe]
        exact stI bx bl m done (junk0 ++ x :: suf) j0 x
      obtain ⟨bl', junk', e, e1, e2, e3⟩ := cmp_in m n k (by unfold Zc.small; exact hn) hk suf (done ++ [x]) junk0 x (bl.set m (.cells ((done ++ x :: (junk0 ++ x :: suf)).flatMap fI))) (by rw [List.getElem?_set_self hml]; simp) (by simp; omega) (by simp; omega)
      have hd : dd y (x :: suf) = x :: dd x suf := by simp only [dd, if_neg hxy]
      have hke : done ++ x :: dd x suf = (done ++ [x]) ++ dd x suf := by simp
      rw [hd, hke]
      refine ⟨bl', junk', ?_, e1, e2, fun j b hb hne => e3 j b (by rw [List.getElem?_set_ne (fun h => hne (by rw [h]; rfl))]; exact hb) hne⟩
      have hidx : ((done ++ [x]).length + junk0.length + 1 - k : Nat) = done.length + junk.length + 1 - k + 1 := by simp; omega
      rw [hidx, show (done ++ [x]).length = done.length + 1 by simp] at e
      rw [slices_Compact_int_R2_eq]
      simp only [slices_Compact_int_B2, slices_Compact_int_K2_a, h1, i1, i2, i3, hg, d1, d2, eq_false hxy, hst, hw, hw1, hw2, e, zy, simprocAttr]

/-- The outer loop: what comes first is kept as it is. -/
theorem cmp_out (m n : Nat) (hn : n ≤ 2 * Zc.small) : ∀ (suf pre : List Int) (y : Int) (bl : List Blk), bl[m]? = some (.cells ((pre ++ y :: suf).flatMap fI)) → (pre ++ y :: suf).length = n →
    (∃ bl' junk', slices_Compact_int_R0 ([(0, .os 1 (.blk m) 0 n), (3, .int .i64 (pre.length + 1 : Nat))], ⟨[], bl⟩) =
        some (.ret, [(2, .os 1 (.blk m) 0 (pre ++ y :: dd y suf).length)], ⟨[], bl'⟩) ∧
      bl'[m]? = some (.cells ((pre ++ y :: dd y suf).flatMap fI ++ junk')) ∧ Fr bl bl' (.os 1 (.blk m) 0 n)) ∨
    (slices_Compact_int_R0 ([(0, .os 1 (.blk m) 0 n), (3, .int .i64 (pre.length + 1 : Nat))], ⟨[], bl⟩) = some (.norm, [(0, .os 1 (.blk m) 0 n)], ⟨[], bl⟩) ∧ dd y suf = suf)
  | [], pre, y, bl, hm, hl => by
    right
    refine ⟨?_, rfl⟩
    have h1 : ¬ (((pre.length + 1 : Nat) : Int) < n) := by simp at hl; omega
    rw [slices_Compact_int_R0_eq]
    simp only [slices_Compact_int_B0, slices_Compact_int_K0_a, h1, zy, simprocAttr]
  | x :: suf, pre, y, bl, hm, hl => by
    have hl' : pre.length + 2 + suf.length = n := by simp at hl; omega
    have h1 : (((pre.length + 1 : Nat) : Int) < n) := by omega
    unfold Zc.small at hn
    have hw := wrapN (n := pre.length + 1) (by unfold Zc.small; omega)
    have hw1 : IntKind.i64.wrap (((pre.length + 1 : Nat) : Int) - 1) = pre.length := by rw [wrap64 (by omega) (by omega)]; omega
    have hg : ∀ bx, Heap.get ⟨bx, bl⟩ (.blk m) = some ((pre ++ y :: x :: suf).flatMap fI) := fun bx => get_blk bx bl m _ hm
    have i1 : iaddrC 1 (.os 1 (.blk m) 0 n) (.int .i64 (pre.length + 1 : Nat)) = some (.op (.blk m) (pre.length + 1)) := iaddr_os (by omega)
    have i2 : iaddrC 1 (.os 1 (.blk m) 0 n) (.int .i64 pre.length) = some (.op (.blk m) pre.length) := iaddr_os (by omega)
    have d1 : ((pre ++ y :: x :: suf).flatMap fI).drop (pre.length + 1) = .int .i64 x :: suf.flatMap fI := by
      have := dropI (pre ++ [y]) suf x
      simpa only [List.length_append, List.length_cons, List.length_nil, Nat.zero_add, List.append_assoc, List.cons_append, List.nil_append] using this
    have d2 : ((pre ++ y :: x :: suf).flatMap fI).drop pre.length = .int .i64 y :: (x :: suf).flatMap fI := dropI pre (x :: suf) y
    by_cases hxy : x = y
    · left
      subst hxy
      obtain ⟨bl1, junk', e, e1, e2, e3⟩ := cmp_in m n (pre.length + 1) (by unfold Zc.small; exact hn) (by omega) suf (pre ++ [x]) [] x bl (by simpa using hm) (by simpa using hl) (by simp)
      have hd : dd x (x :: suf) = dd x suf := by simp only [dd, if_true]
      have hke : pre ++ x :: dd x suf = (pre ++ [x]) ++ dd x suf := by simp
      rw [hd, hke]
      generalize hq : (pre ++ [x]) ++ dd x suf = q at *
      have hql : q.length ≤ n := by simp at e2; omega
      have hone : ((pre ++ [x]).length + ([] : List Int).length + 1 - (pre.length + 1) : Nat) = 1 := by simp
      rw [hone, show (pre ++ [x]).length = pre.length + 1 by simp] at e
      have hc0 : slcC 1 (.os 1 (.blk m) 0 n) (some (.int .i64 (pre.length + 1 : Nat))) none = some (.os 1 (.blk m) (pre.length + 1) (n - (pre.length + 1))) := by
        unfold slcC
        simp only [sbound, if_true, Option.bind_some]
        rw [if_pos ⟨by omega, by omega⟩]
        simp
      have hc1 : slcC 1 (.os 1 (.blk m) 0 n) (some (.int .i64 q.length)) none = some (.os 1 (.blk m) q.length (n - q.length)) := by
        unfold slcC
        simp only [sbound, if_true, Option.bind_some]
        rw [if_pos ⟨by omega, by omega⟩]
        simp
      have hc2 : slcC 1 (.os 1 (.blk m) 0 n) none (some (.int .i64 q.length)) = some (.os 1 (.blk m) 0 q.length) := by
        unfold slcC
        simp only [sbound, if_true]
        rw [if_pos ⟨by omega, by omega⟩]
        simp
      have hml : m < bl1.length := (List.getElem?_eq_some_iff.1 e1).1
      have hcl : ∀ bx, clearC 1 [.int .i64 0] ⟨bx, bl1⟩ (.os 1 (.blk m) q.length (n - q.length)) = some ⟨bx, bl1.set m (.cells (q.flatMap fI ++ repC [.int .i64 0] (n - q.length)))⟩ := by
        intro bx
        have hlen := flatI.length (q ++ junk')
        have hjl : junk'.length = n - q.length := by simp at e2; omega
        have hsm := setMany_app (repC [.int .i64 0] (n - q.length)) (junk'.flatMap fI) (q.flatMap fI) [] (by rw [repC_length, flatI.length, hjl]; simp)
        rw [flatI.length, Nat.mul_one] at hsm
        simp only [List.append_nil] at hsm
        simp only [clearC, if_true, get_blk bx bl1 m _ e1, Option.bind_some]
        rw [if_pos (by rw [hlen, e2]; omega)]
        simp only [List.flatMap_append, hsm, put_blk]
      refine ⟨bl1.set m (.cells (q.flatMap fI ++ repC [.int .i64 0] (n - q.length))), _, ?_, by rw [List.getElem?_set_self hml], fun j b hb hne => ?_⟩
      · rw [slices_Compact_int_R0_eq]
        have e' := e
        rw [show ((1 : Nat) : Int) = 1 from rfl] at e'
        simp only [slices_Compact_int_B0, slices_Compact_int_K0_a, slices_Compact_int_L2_eq, h1, i1, i2, hg, d1, d2, hw, hw1, hc0, hc1, hc2, hop_clear, hcl, e', zy, simprocAttr]
      · rw [List.getElem?_set_ne (fun h => hne (by rw [h]; rfl))]
        exact e3 j b hb hne
    · have ih := cmp_out m n (by unfold Zc.small; exact hn) suf (pre ++ [y]) x bl (by simpa using hm) (by simpa using hl)
      have hd : dd y (x :: suf) = x :: dd x suf := by simp only [dd, if_neg hxy]
      have hke : pre ++ y :: x :: dd x suf = (pre ++ [y]) ++ x :: dd x suf := by simp
      rw [hd, hke]
      rw [show (pre ++ [y]).length + 1 = pre.length + 1 + 1 by simp] at ih
      have hstep : slices_Compact_int_R0 ([(0, .os 1 (.blk m) 0 n), (3, .int .i64 (pre.length + 1 : Nat))], ⟨[], bl⟩) = slices_Compact_int_R0 ([(0, .os 1 (.blk m) 0 n), (3, .int .i64 (pre.length + 1 + 1 : Nat))], ⟨[], bl⟩) := by
        conv => lhs; rw [slices_Compact_int_R0_eq]
        simp only [slices_Compact_int_B0, slices_Compact_int_K0_a, h1, i1, i2, hg, d1, d2, eq_false hxy, hw, hw1, zy, simprocAttr]
      rw [hstep]
      rcases ih with h | h
      · exact .inl h
      · exact .inr ⟨h.1, by rw [h.2]⟩

theorem compact_F (v : CV) (l : List Int) (hm : l.length ≤ 2 * Zc.small) (bx : List (Nat × List CV)) (bl : List Blk) (hO : Own fI 1 bl v l) :
    ∃ v' bl', slices_Compact_int_F bx bl [v] = some (v', ⟨bx, bl'⟩) ∧ OwnS fI 1 bl' v' (compact l) ∧ Fr bl bl' v := by
  rcases hO with ⟨rfl, rfl⟩ | ⟨m, rfl, hm'⟩
  · refine ⟨.nils, bl, ?_, .inl ⟨rfl, rfl⟩, fun _ _ h _ => h⟩
    rw [slices_Compact_int_F_eq]
    simp only [slices_Compact_int_C, zy, simprocAttr]
  · match l, hm, hm' with
    | [], hm, hm' =>
      refine ⟨.os 1 (.blk m) 0 0, bl, ?_, .inr ⟨m, [], rfl, by simpa [compact] using hm'⟩, fun _ _ h _ => h⟩
      rw [slices_Compact_int_F_eq]
      simp only [slices_Compact_int_C, List.length_nil, Int.natCast_zero, zy, simprocAttr]
    | [x], hm, hm' =>
      refine ⟨.os 1 (.blk m) 0 1, bl, ?_, .inr ⟨m, [], rfl, by simpa [compact] using hm'⟩, fun _ _ h _ => h⟩
      have h1 : ((1 : Nat) : Int) < 2 := by decide
      rw [slices_Compact_int_F_eq]
      simp only [slices_Compact_int_C, List.length_cons, List.length_nil, Nat.zero_add, h1, zy, simprocAttr]
    | y :: x :: suf, hm, hm' =>
      have h1 : ¬ (((y :: x :: suf).length : Int) < 2) := by simp; omega
      have e := cmp_out m (y :: x :: suf).length hm (x :: suf) [] y bl (by simpa using hm') rfl
      rw [compact_dd]
      simp only [List.length_nil, Nat.zero_add, List.nil_append, show ((1 : Nat) : Int) = 1 from rfl] at e
      generalize hn : (y :: x :: suf).length = n at *
      rcases e with ⟨bl', junk', e, e1, e2⟩ | ⟨e, e1⟩
      · refine ⟨_, bl', ?_, .inr ⟨m, junk', rfl, e1⟩, e2⟩
        rw [slices_Compact_int_F_eq]
        simp only [slices_Compact_int_C, slices_Compact_int_L0_eq, h1, e, zy, simprocAttr]
      · rw [e1]
        refine ⟨.os 1 (.blk m) 0 n, bl, ?_, .inr ⟨m, [], by rw [← hn], by simpa using hm'⟩, fun _ _ h _ => h⟩
        rw [slices_Compact_int_F_eq]
        simp only [slices_Compact_int_C, slices_Compact_int_L0_eq, h1, e, zy, simprocAttr]
end Go.Proofs.Ytfblegjbmhgepaa.Zt
end
section
namespace Go.Proofs.Ytfblegjbmhgepaa.Zt
open Go Go.Zc
set_option maxRecDepth 10000

theorem growI_F (n : Nat) (hn : n ≤ 4 * Zc.small) (bx : List (Nat × List CV)) (bl : List Blk) : ∃ v bl', slices_Grow_int_F bx bl [.nils, .int .i64 n] = some (v, ⟨bx, bl'⟩) ∧ OwnS fI 1 bl' v [] := by
  unfold Zc.small at hn
  have hw : IntKind.i64.wrap ((n : Int) - 0) = n := by rw [wrap64 (by omega) (by omega)]; omega
  have h0 : ¬ ((n : Int) < 0) := by omega
  have hc1 : slcC 1 .nils none (some (.int .i64 0)) = some .nils := rfl
  have hc2 : slcC 1 (.os 1 (.blk bl.length) 0 n) none (some (.int .i64 0)) = some (.os 1 (.blk bl.length) 0 0) := by
    unfold slcC
    simp only [sbound, if_true]
    rw [if_pos ⟨by omega, by omega⟩]
    simp
  by_cases h : n = 0
  · subst h
    refine ⟨.nils, bl, ?_, .inl ⟨rfl, rfl⟩⟩
    rw [slices_Grow_int_F_eq]
    simp only [slices_Grow_int_C, Int.natCast_zero, zy, simprocAttr]
  · have h1 : (0 : Int) < n := by omega
    have h2 : (n : Int) * 8 ≤ 140737488355328 := by omega
    refine ⟨.os 1 (.blk bl.length) 0 0, bl ++ [.cells (repC [.int .i64 0] n)], ?_, .inr ⟨bl.length, repC [.int .i64 0] n, rfl, by simp⟩⟩
    rw [slices_Grow_int_F_eq]
    simp only [slices_Grow_int_C, h0, hw, h1, h2, hc1, hc2, Int.cast_ofNat_Int, Int.toNat_natCast, zy, simprocAttr]

theorem catI_len (bl : List Blk) : ∀ (s p : List (List Int)), (p ++ s).length ≤ 1000 → (p.flatten.length + s.flatten.length) ≤ 4 * Zc.small →
    slices_Concat_int_R0 ([(0, sl fL (p ++ s)), (3, .int .i64 p.flatten.length), (9, sl fL (p ++ s)), (10, .int .i64 (p ++ s).length), (11, .int .i64 p.length)], ⟨[], bl⟩) =
      some (.norm, [(0, sl fL (p ++ s)), (3, .int .i64 (p ++ s).flatten.length)], ⟨[], bl⟩)
  | [], p, hm, hl => by
    rw [slices_Concat_int_R0_eq]
    simp only [slices_Concat_int_B0, slices_Concat_int_K0_a, zy, simprocAttr]
  | x :: s, p, hm, hl => by
    have h1 : ((p.length : Int) < (p ++ x :: s).length) := by simp; omega
    have hw := wrapM (n := p.length) (by simp at hm; omega)
    have hxl : p.flatten.length + x.length + s.flatten.length ≤ 4 * Zc.small := by simp at hl; simp; omega
    unfold Zc.small at hxl
    have hw2 : IntKind.i64.wrap ((p.flatten.length : Int) + x.length) = ((p ++ [x]).flatten.length : Nat) := by rw [wrap64 (by omega) (by omega)]; simp
    have h0 : ¬ (((p ++ [x]).flatten.length : Int) < 0) := by omega
    have ih := catI_len bl s (p ++ [x]) (by simpa using hm) (by simp at hl ⊢; omega)
    rw [show (p ++ [x]) ++ s = p ++ x :: s by simp, show (p ++ [x]).length = p.length + 1 by simp] at ih
    rw [slices_Concat_int_R0_eq]
    simp only [slices_Concat_int_B0, slices_Concat_int_K0_a, h1, iaddr_midL, hw, hw2, h0, ih, zy, simprocAttr]

theorem catI_app (ls : List (List Int)) (hm : ls.length ≤ 1000) (hl : ls.flatten.length ≤ 4 * Zc.small) : ∀ (s p : List (List Int)) (v : CV) (bl : List Blk), p ++ s = ls → OwnS fI 1 bl v p.flatten →
    ∃ v' bl', slices_Concat_int_R2 ([(6, v), (25, sl fL ls), (26, .int .i64 ls.length), (27, .int .i64 p.length)], ⟨[], bl⟩) = some (.norm, [(6, v')], ⟨[], bl'⟩) ∧ OwnS fI 1 bl' v' ls.flatten
  | [], p, v, bl, hp, hO => by
    rw [List.append_nil] at hp
    subst hp
    refine ⟨v, bl, ?_, hO⟩
    rw [slices_Concat_int_R2_eq]
    simp only [slices_Concat_int_B2, slices_Concat_int_K2_a, hO.chkV, zy, simprocAttr]
  | x :: s, p, v, bl, hp, hO => by
    have h1 : ((p.length : Int) < ls.length) := by rw [← hp]; simp; omega
    have hw := wrapM (n := p.length) (by rw [← hp] at hm; simp at hm; omega)
    have hi : iaddrC 1 (sl fL ls) (.int .i64 p.length) = some (.vp (sl fI x :: s.flatMap fL)) := by rw [← hp]; exact iaddr_midL _ p s x
    have hb : p.flatten.length + x.length ≤ 4 * Zc.small := by rw [← hp] at hl; simp at hl; simp; omega
    unfold Zc.small at hb
    obtain ⟨v1, bl1, e1, o1, _⟩ := hO.appSl flatI (bytes := 8) (zero := [.int .i64 0]) (by decide) rfl rfl x (by omega)
    obtain ⟨v', bl', e, o⟩ := catI_app ls hm hl s (p ++ [x]) v1 bl1 (by simpa using hp) (by simpa using o1)
    rw [show (p ++ [x]).length = p.length + 1 by simp] at e
    refine ⟨v', bl', ?_, o⟩
    rw [slices_Concat_int_R2_eq]
    simp only [slices_Concat_int_B2, slices_Concat_int_K2_a, h1, hi, hw, e1, hO.chkV, o1.chkV, e, zy, simprocAttr]

theorem cloneR_F (l : List Int) (h0 : l ≠ []) (hm : l.length ≤ 4 * Zc.small) (bl : List Blk) :
    ∃ v bl', (∀ bx, slices_Clone_int_F bx bl [sl fI l] = some (v, ⟨bx, bl'⟩)) ∧ Own fI 1 bl' v l := by
  have hn : binC .eql .sl (sl fI l) .nils = some (.bool false) := by
    cases l with
    | nil => cases h0 rfl
    | cons a r => rfl
  have o0 : Own fI 1 (bl ++ [.cells []]) (.os 1 (.blk bl.length) 0 0) [] := .inr ⟨bl.length, rfl, by simp⟩
  obtain ⟨v1, bl1, e1, o1, _⟩ := o0.appSl flatI (bytes := 8) (zero := [.int .i64 0]) (by decide) rfl rfl l (by unfold Zc.small at hm; simp; omega)
  rw [List.nil_append] at o1
  have hlv := o1.locv
  refine ⟨v1, bl1, fun bx => ?_, o1⟩
  rw [slices_Clone_int_F_eq]
  simp only [slices_Clone_int_C, hn, e1, hlv, zy, simprocAttr]
end Go.Proofs.Ytfblegjbmhgepaa.Zt
end
section
namespace Go.Proofs.Ytfblegjbmhgepaa.Zt
open Go Go.Zc
set_option maxRecDepth 10000

theorem nobody_F (st : Bool) (H : Heap) : l20_nobody_F st H [] = some (.bool true, H) := fz_run 300 (by kernel_rfl)
end Go.Proofs.Ytfblegjbmhgepaa.Zt
end
section
namespace Go.Proofs.Ytfblegjbmhgepaa.Zt
open Go Go.Zc
set_option maxRecDepth 10000

theorem sortedV_F (ls : List Int) (h0 : ls ≠ []) (hr : ∀ x ∈ ls, -9223372036854775808 ≤ x ∧ x ≤ 9223372036854775807) (hn : ls.length ≤ 1000000) (bl : List Blk) (m x : Nat) (rest : List CV) (hm : bl[m]? = some (.cells (ls.flatMap fI ++ rest))) (hx : bl[x]? = some (.cells [.os 1 (.blk m) 0 ls.length])) (bx : List (Nat × List CV)) :
    call ctx (.fn (.func 61) [] []) [.fn (.func 88) [] [.op (.blk x) 0]] ⟨bx, bl⟩ = some (sl fI (isort ls), ⟨bx, bl⟩) := by
  have hw : wholeI ((ls.flatMap fI ++ rest).take ls.length) = some ls := by
    rw [List.take_append_of_le_length (by rw [flatI.length]; omega), List.take_of_length_le (by rw [flatI.length]; omega)]
    clear hm hx h0 hn
    induction ls with
    | nil => rfl
    | cons y ls ih =>
      have hy := hr y (by simp)
      have ih' := ih (fun z hz => hr z (by simp [hz]))
      simp only [List.flatMap_cons, fI, List.cons_append, List.nil_append, wholeI, keyI]
      rw [if_pos hy]
      simp only [Option.bind_some]
      rw [ih']
      rfl
  have hpos : 0 < ls.length := by
    cases ls with
    | nil => exact absurd rfl h0
    | cons y ls => simp
  have hV : sortedV [88] [.fn (.func 88) [] [.op (.blk x) 0]] bl = some (sl fI (isort ls), bl) := by
    unfold sortedV
    simp only [List.contains_cons, beq_self_eq_true, Bool.true_or, if_true, hx, hm, hw, hpos, hn, true_and, and_self]
    have h1 : (isort ls).length = ls.length := (isort_perm _).length_eq
    have : ∀ q : List Int, q.map (fun n => CV.int .i64 n) = q.flatMap fI := fun q => by
      induction q with
      | nil => rfl
      | cons y q ih => simp only [List.map_cons, List.flatMap_cons, ih]; rfl
    rw [this, ← h1]
    rfl
  obtain ⟨s, hs, hs2⟩ : ∃ s, ctx.prim 61 = some s ∧ s [.fn (.func 88) [] [.op (.blk x) 0]] bl = some (sl fI (isort ls), bl) := by
    refine ⟨orS _ (sortedV [88]), rfl, ?_⟩
    rw [orS_right (by rfl)]
    exact hV
  rw [prim_call hs, List.append_nil, hs2]
  simp only [CV.locs, CV.locv, Bool.or_self, Bool.false_or, Option.bind_some, locv_sl, Id.loc?]
  rfl
theorem sortedN_F (bl : List Blk) (x : Nat) (hx : bl[x]? = some (.cells [.nils])) (bx : List (Nat × List CV)) :
    call ctx (.fn (.func 61) [] []) [.fn (.func 88) [] [.op (.blk x) 0]] ⟨bx, bl⟩ = some (.nils, ⟨bx, bl⟩) := by
  have hV : sortedV [88] [.fn (.func 88) [] [.op (.blk x) 0]] bl = some (.nils, bl) := by
    unfold sortedV
    simp only [List.contains_cons, beq_self_eq_true, Bool.true_or, if_true, hx]
  obtain ⟨s, hs, hs2⟩ : ∃ s, ctx.prim 61 = some s ∧ s [.fn (.func 88) [] [.op (.blk x) 0]] bl = some (.nils, bl) := by
    refine ⟨orS _ (sortedV [88]), rfl, ?_⟩
    rw [orS_right (by rfl)]
    exact hV
  rw [prim_call hs, List.append_nil, hs2]
  rfl

theorem concatI_F (ls : List (List Int)) (hm : ls.length ≤ 1000) (hl : ls.flatten.length ≤ 4 * Zc.small) (bl : List Blk) : ∃ v bl', (∀ bx, slices_Concat_int_F bx bl [sl fL ls] = some (v, ⟨bx, bl'⟩)) ∧ OwnS fI 1 bl' v ls.flatten := by
  have e1 := catI_len bl ls [] hm (by simpa using hl)
  simp only [List.nil_append, List.length_nil, Int.natCast_zero, List.flatten_nil] at e1
  obtain ⟨v, bl1, e2, o2⟩ := growI_F ls.flatten.length hl [] bl
  obtain ⟨v', bl2, e3, o3⟩ := catI_app ls hm hl ls [] v bl1 rfl o2
  simp only [List.nil_append, List.length_nil, Int.natCast_zero] at e3
  have hlv := o3.locv
  refine ⟨v', bl2, fun bx => ?_, o3⟩
  rw [slices_Concat_int_F_eq]
  simp only [slices_Concat_int_C, slices_Concat_int_L0_eq, slices_Concat_int_L2_eq, slices_Grow_int_call, e1, e2, e3, o2.chkV, hlv, zy, simprocAttr]

theorem catI_nil (ls : List (List Int)) (hm : ls.length ≤ 1000) (h0 : ls.flatten = []) (bl : List Blk) : ∀ (s p : List (List Int)), p ++ s = ls →
    slices_Concat_int_R2 ([(6, .nils), (25, sl fL ls), (26, .int .i64 ls.length), (27, .int .i64 p.length)], ⟨[], bl⟩) = some (.norm, [(6, .nils)], ⟨[], bl⟩)
  | [], p, hp => by
    rw [List.append_nil] at hp
    subst hp
    have h1 : ¬ ((p.length : Int) < p.length) := by omega
    rw [slices_Concat_int_R2_eq]
    simp only [slices_Concat_int_B2, slices_Concat_int_K2_a, h1, zy, simprocAttr]
  | x :: s, p, hp => by
    have h1 : ((p.length : Int) < ls.length) := by rw [← hp]; simp; omega
    have hw := wrapM (n := p.length) (by rw [← hp] at hm; simp at hm; omega)
    have hi : iaddrC 1 (sl fL ls) (.int .i64 p.length) = some (.vp (sl fI x :: s.flatMap fL)) := by rw [← hp]; exact iaddr_midL _ p s x
    have hx : x = [] := by
      have : ls.flatten = p.flatten ++ (x ++ s.flatten) := by rw [← hp]; simp
      rw [h0] at this
      have := congrArg List.length this
      simp only [List.length_nil, List.length_append] at this
      exact List.eq_nil_of_length_eq_zero (by omega)
    have ha : ∀ bx bl, heapOp (.app 1 8 [.int .i64 0]) [.nils, sl fI x] ⟨bx, bl⟩ = some (.nils, ⟨bx, bl⟩) := fun bx bl => by rw [hx]; rfl
    have e := catI_nil ls hm h0 bl s (p ++ [x]) (by simpa using hp)
    rw [show (p ++ [x]).length = p.length + 1 by simp] at e
    rw [slices_Concat_int_R2_eq]
    simp only [slices_Concat_int_B2, slices_Concat_int_K2_a, h1, hi, hw, ha, e, zy, simprocAttr]
theorem concatN_F (ls : List (List Int)) (hm : ls.length ≤ 1000) (h0 : ls.flatten = []) (bl : List Blk) (bx : List (Nat × List CV)) : slices_Concat_int_F bx bl [sl fL ls] = some (.nils, ⟨bx, bl⟩) := by
  have e1 := catI_len bl ls [] hm (by rw [h0]; simp)
  simp only [List.nil_append, List.length_nil, Int.natCast_zero, List.flatten_nil] at e1
  have e3 := catI_nil ls hm h0 bl ls [] rfl
  simp only [List.nil_append, List.length_nil, Int.natCast_zero] at e3
  have hw : IntKind.i64.wrap ((0 : Int) - 0) = 0 := rfl
  have e2 : ∀ bx, slices_Grow_int_F bx bl [.nils, .int .i64 0] = some (.nils, ⟨bx, bl⟩) := fun bx => by
    rw [slices_Grow_int_F_eq]
    simp only [slices_Grow_int_C, hw, zy, simprocAttr]
  rw [h0] at e1
  simp only [List.length_nil, Int.natCast_zero] at e1
  rw [slices_Concat_int_F_eq]
  simp only [slices_Concat_int_C, slices_Concat_int_L0_eq, slices_Concat_int_L2_eq, slices_Grow_int_call, e1, e2, e3, zy, simprocAttr]
theorem apart_F (ls : List (List Int)) (hm : ls.length ≤ 1000) (hl : ls.flatten.length ≤ 1000000) (hr : ∀ x ∈ ls.flatten, -9223372036854775808 ≤ x ∧ x ≤ 9223372036854775807) (st : Bool) (H : Heap) :
    judge_Apart_F st H [sl fL ls] = some (.bool (decide ((rise ls.flatten).length = ls.flatten.length)), H) := by
  have hmk : ∀ n, pureOp (.mkfn (.func 88) 0) [.op (.blk n) 0] = some (.fn (.func 88) [] [.op (.blk n) 0]) := fun _ => rfl
  by_cases h0 : ls.flatten = []
  · have e1 := fun bx => concatN_F ls hm h0 [] bx
    have hS := sortedN_F [.cells [.nils]] 0 rfl
    have hz : binC .eql .sl .nils .nils = some (.bool true) := rfl
    have hcl : ∀ bx, slices_Clone_int_F bx [.cells [.nils]] [.nils] = some (.nils, ⟨bx, [.cells [.nils]]⟩) := fun bx => by
      rw [slices_Clone_int_F_eq]
      simp only [slices_Clone_int_C, hz, zy, simprocAttr]
    have hco : ∀ bx, slices_Compact_int_F bx [.cells [.nils]] [.nils] = some (.nils, ⟨bx, [.cells [.nils]]⟩) := fun bx => by
      rw [slices_Compact_int_F_eq]
      simp only [slices_Compact_int_C, zy, simprocAttr]
    rw [h0, judge_Apart_F_eq]
    simp only [judge_Apart_C, slices_Concat_int_call, e1, slices_Values_int_call, slices_Values_int_F_eq, slices_Values_int_C, hmk, hS, slices_Clone_int_call, hcl, slices_Compact_int_call, hco, rise, riseN, List.length_nil, zy, simprocAttr]
  · obtain ⟨v, bl, e1, o1⟩ := concatI_F ls hm (by unfold Zc.small; omega) []
    rcases o1 with ⟨_, h⟩ | ⟨m, rest, rfl, hm1⟩
    · exact absurd h h0
    generalize hL : ls.flatten = L at *
    have hmb : m < bl.length := (List.getElem?_eq_some_iff.1 hm1).1
    have hS := fun bx => sortedV_F L h0 hr hl (bl ++ [.cells [.os 1 (.blk m) 0 L.length]]) m bl.length rest (by rw [List.getElem?_append_left hmb]; exact hm1) (by simp) bx
    have hil : (isort L).length = L.length := (isort_perm L).length_eq
    have hi0 : isort L ≠ [] := fun e => h0 (List.eq_nil_of_length_eq_zero (by rw [← hil, e]; rfl))
    obtain ⟨vc, bc, c1, c2⟩ := cloneR_F (isort L) hi0 (by rw [hil]; unfold Zc.small; omega) (bl ++ [.cells [.os 1 (.blk m) 0 L.length]])
    obtain ⟨vd, bd, d1, d2, _⟩ := compact_F vc (isort L) (by rw [hil]; unfold Zc.small; omega) [] bc c2
    rw [compact_isort] at d2
    have hlc := c2.locv
    have hld := d2.locv
    have hlen := d2.len
    have hd : decide (((rise L).length : Int) = (L.length : Int)) = decide ((rise L).length = L.length) := by
      by_cases h : (rise L).length = L.length
      · rw [decide_eq_true h, decide_eq_true (by omega)]
      · rw [decide_eq_false h, decide_eq_false (by omega)]
    have hlenS : lenC (sl fI (isort L)) = some (.int .i64 L.length) := by rw [← hil]; rfl
    rw [judge_Apart_F_eq]
    simp only [judge_Apart_C, slices_Concat_int_call, e1, slices_Values_int_call, slices_Values_int_F_eq, slices_Values_int_C, hmk, hS, slices_Clone_int_call, c1, hlc, hld, slices_Compact_int_call, d1, hlen, hil, hd, zy, simprocAttr]

theorem r16apart_loop (ls : List (List Int)) (hm : ls.length ≤ 1000) (hl : ls.flatten.length ≤ 1000000) : ∀ (s p : List (List Int)) (v : CV) (bl : List Blk), p ++ s = ls → Own fI 1 bl v p.flatten →
    ∃ v' bl', r16_Apart_R0 ([(0, sl fL ls), (3, v), (4, .int .i64 p.length)], ⟨[], bl⟩) = some (.norm, [(3, v')], ⟨[], bl'⟩) ∧ Own fI 1 bl' v' ls.flatten
  | [], p, v, bl, hp, hO => by
    rw [List.append_nil] at hp
    subst hp
    have h1 : ¬ ((p.length : Int) < p.length) := by omega
    refine ⟨v, bl, ?_, hO⟩
    rw [r16_Apart_R0_eq]
    simp only [r16_Apart_B0, r16_Apart_K0_a, h1, hO.chkV, zy, simprocAttr]
  | x :: s, p, v, bl, hp, hO => by
    have h1 : ((p.length : Int) < ls.length) := by rw [← hp]; simp; omega
    have hw := wrapM (n := p.length) (by rw [← hp] at hm; simp at hm; omega)
    have hi : iaddrC 1 (sl fL ls) (.int .i64 p.length) = some (.vp (sl fI x :: s.flatMap fL)) := by rw [← hp]; exact iaddr_midL _ p s x
    have hb : p.flatten.length + x.length ≤ 1000000 := by rw [← hp] at hl; simp at hl; simp; omega
    obtain ⟨v1, bl1, e1, o1, _⟩ := hO.appSl flatI (bytes := 8) (zero := [.int .i64 0]) (by decide) rfl rfl x (by omega)
    obtain ⟨v', bl', e, o⟩ := r16apart_loop ls hm hl s (p ++ [x]) v1 bl1 (by simpa using hp) (by simpa using o1)
    rw [show (p ++ [x]).length = p.length + 1 by simp] at e
    refine ⟨v', bl', ?_, o⟩
    rw [r16_Apart_R0_eq]
    simp only [r16_Apart_B0, r16_Apart_K0_a, h1, hi, hw, e1, hO.chkV, o1.chkV, e, zy, simprocAttr]
theorem r16apart_F (ls : List (List Int)) (hm : ls.length ≤ 1000) (hl : ls.flatten.length ≤ 1000000) (st : Bool) (H : Heap) :
    r16_Apart_F st H [sl fL ls] = some (.bool (decide ((rise ls.flatten).length = ls.flatten.length)), H) := by
  obtain ⟨v, bl, e, o⟩ := r16apart_loop ls hm hl ls [] .nils [] rfl (Own.nil _ _ _)
  simp only [List.nil_append, List.length_nil, Int.natCast_zero] at e
  have hs := fun bx st => snapI_own o bx st
  have hR := fun st H => rise_F ls.flatten (by unfold Zc.small; omega) st H
  have hlen := o.len
  have hlv := o.locv
  have hd : decide (((rise ls.flatten).length : Int) = (ls.flatten.length : Int)) = decide ((rise ls.flatten).length = ls.flatten.length) := by
    by_cases h : (rise ls.flatten).length = ls.flatten.length
    · rw [decide_eq_true h, decide_eq_true (by omega)]
    · rw [decide_eq_false h, decide_eq_false (by omega)]
  rw [r16_Apart_F_eq]
  simp only [r16_Apart_C, r16_Apart_L0_eq, e, hs, r01_Rise_call, hR, hlen, hlv, hd, zy, simprocAttr]

abbrev fI8 (n : Int) : List CV := [.int .i8 n]
theorem flatI8 : Flat fI8 1 := ⟨fun _ => rfl, by decide, fun _ => rfl, fun _ => rfl, fun _ => rfl⟩
theorem iaddr_midI8 (k : IntKind) (pre suf : List Int) (x : Int) : iaddrC 1 (sl fI8 (pre ++ x :: suf)) (.int k pre.length) = some (.vp (.int .i8 x :: suf.flatMap fI8)) := iaddr_mid flatI8 k pre suf x
abbrev fL8 (l : List Int) : List CV := [sl fI8 l]
theorem flatL8 : Flat fL8 1 := ⟨fun _ => rfl, by decide, fun _ => rfl, fun _ => rfl, fun _ => rfl⟩
theorem iaddr_midL8 (k : IntKind) (pre suf : List (List Int)) (x : List Int) : iaddrC 1 (sl fL8 (pre ++ x :: suf)) (.int k pre.length) = some (.vp (sl fI8 x :: suf.flatMap fL8)) := iaddr_mid flatL8 k pre suf x
theorem iaddr_atL8 {k : IntKind} {l : List (List Int)} {i : Nat} (h : i < l.length) : iaddrC 1 (sl fL8 l) (.int k i) = some (.vp (sl fI8 l[i] :: (l.drop (i + 1)).flatMap fL8)) := iaddr_sl flatL8.len flatL8.pos h

theorem japart_in (l : List (List Int)) (n : Nat) (hn : n < l.length) (h20 : l[n].length ≤ 20) (hr : ∀ x ∈ l[n], -128 ≤ x ∧ x ≤ 127) (c3 : CV) (h3 : c3.locv = false) (bl0 : List Blk) : ∀ (s pre : List Int) (v : CV) (bl : List Blk), pre ++ s = l[n] → Own fI 1 bl v pre → Grows bl0 bl → (∀ k, blkOf v = some k → bl0.length ≤ k) →
    ∃ v' bl', l20_JudgeApart_R2 ([(0, sl fL8 l), (3, c3), (4, .int .i64 n), (5, v), (6, .int .i64 pre.length)], ⟨[], bl⟩) = some (.norm, [(0, sl fL8 l), (3, c3), (4, .int .i64 n), (5, v')], ⟨[], bl'⟩) ∧
      Own fI 1 bl' v' l[n] ∧ Grows bl0 bl' ∧ (∀ k, blkOf v' = some k → bl0.length ≤ k)
  | [], pre, v, bl, hp, hO, hG, hv => by
    have q3 := chkV_of h3
    have h1 : ¬ ((pre.length : Int) < l[n].length) := by rw [← hp]; simp
    refine ⟨v, bl, ?_, by rw [← hp, List.append_nil]; exact hO, hG, hv⟩
    rw [l20_JudgeApart_R2_eq]
    simp only [l20_JudgeApart_B2, l20_JudgeApart_K2_a, q3, iaddr_atL8 hn, h1, hO.chkV, zy, simprocAttr]
  | x :: s, pre, v, bl, hp, hO, hG, hv => by
    have q3 := chkV_of h3
    have h1 : ((pre.length : Int) < l[n].length) := by rw [← hp]; simp; omega
    have hw := wrapN (n := pre.length) (by have : pre.length < l[n].length := by omega
                                           unfold Zc.small; omega)
    have hia := iaddr_midI8 .i64 pre s x
    rw [hp] at hia
    have hx := hr x (by rw [← hp]; simp)
    have hwx : IntKind.i64.wrap x = x := wrap64 (by omega) (by omega)
    obtain ⟨v1, bl1, e1, o1, _, f1, b1⟩ := hO.app1 flatI (bytes := 8) (zero := [.int .i64 0]) (by omega) rfl rfl x (by omega)
    obtain ⟨v', bl', e, o, g, b⟩ := japart_in l n hn h20 hr c3 h3 bl0 s (pre ++ [x]) v1 bl1 (by simpa using hp) (by simpa using o1) (fun k b h => f1 k b (hG k b h) fun e => by
        have := hv k e
        have := (List.getElem?_eq_some_iff.1 h).1
        omega) (fun k h => by
        rcases b1 with b1 | b1
        · exact hv k (b1 ▸ h)
        · rw [b1] at h; cases h; exact hG.le)
    rw [show (pre ++ [x]).length = pre.length + 1 by simp] at e
    refine ⟨v', bl', ?_, o, g, b⟩
    simp only [fI] at e1
    rw [l20_JudgeApart_R2_eq]
    simp only [l20_JudgeApart_B2, l20_JudgeApart_K2_a, q3, iaddr_atL8 hn, h1, hia, hw, hwx, hO.chkV, o1.chkV, e1, e, zy, simprocAttr]

theorem japart_out (l : List (List Int)) (h8 : l.length ≤ 8) (hr : ∀ q ∈ l, ∀ x ∈ q, -128 ≤ x ∧ x ≤ 127) : ∀ (s pre : List (List Int)) (v : CV) (bl : List Blk), pre ++ s = l → (∀ q ∈ pre, q.length ≤ 20) → Deep fL 1 bl v pre →
    (∃ bl', l20_JudgeApart_R0 ([(0, sl fL8 l), (3, v), (4, .int .i64 pre.length)], ⟨[], bl⟩) = some (.ret, [(2, .bool true)], ⟨[], bl'⟩)) ∨
    (∃ v' bl', l20_JudgeApart_R0 ([(0, sl fL8 l), (3, v), (4, .int .i64 pre.length)], ⟨[], bl⟩) = some (.norm, [(3, v')], ⟨[], bl'⟩) ∧ Deep fL 1 bl' v' l ∧ ∀ q ∈ l, q.length ≤ 20)
  | [], pre, v, bl, hp, hq, hD => by
    rw [List.append_nil] at hp
    subst hp
    have h1 : ¬ ((pre.length : Int) < pre.length) := by omega
    refine .inr ⟨v, bl, ?_, hD, hq⟩
    rw [l20_JudgeApart_R0_eq]
    simp only [l20_JudgeApart_B0, l20_JudgeApart_K0_a, h1, hD.chkV, zy, simprocAttr]
  | q :: s, pre, v, bl, hp, hq, hD => by
    have h1 : ((pre.length : Int) < l.length) := by rw [← hp]; simp; omega
    have hn : pre.length < l.length := by omega
    have hqe : l[pre.length] = q := by
      have : l[pre.length]? = some q := by rw [← hp]; simp
      rw [List.getElem?_eq_getElem hn] at this
      exact Option.some.inj this
    have hw := wrapN (n := pre.length) (by unfold Zc.small; omega)
    by_cases h20 : (20 : Int) < q.length
    · have h20' : (20 : Int) < l[pre.length].length := by rw [hqe]; exact h20
      refine .inl ⟨bl, ?_⟩
      rw [l20_JudgeApart_R0_eq]
      simp only [l20_JudgeApart_B0, l20_JudgeApart_K0_a, h1, iaddr_atL8 hn, h20', gt_iff_lt, zy, simprocAttr]
    · have h20' : ¬ (20 : Int) < l[pre.length].length := by rw [hqe]; exact h20
      obtain ⟨x, bl1, e1, o1, g1, b1⟩ := japart_in l pre.length hn (by omega) (hr _ (List.getElem_mem hn)) v hD.locv bl l[pre.length] [] .nils bl rfl (Own.nil _ _ _) (Grows.refl bl) (fun k hk => by cases hk)
      simp only [List.nil_append, List.length_nil, Int.natCast_zero] at e1
      have hD1 : Deep fL 1 bl1 v pre := hD.keep fun m b hb _ => g1 m b hb
      have hrow : Cells bl1 [x] (fL l[pre.length]) := ⟨cell_own o1, trivial⟩
      obtain ⟨v2, bl2, e2, d2, f2, b2, r2⟩ := Deep.app (f := fL) (fun _ => rfl) (by decide) hD1 (bytes := 24) (zero := [.nils]) (by decide) rfl rfl l[pre.length] [x] hrow
        (fun c hc k hk e => by
          simp only [List.mem_cons, List.not_mem_nil, or_false] at hc
          subst hc
          have := b1 k hk
          have := hD.lt e
          omega) (by omega)
      rw [hqe] at d2
      have hlx := o1.locv
      have hox := o1.one
      have hcx := o1.cells
      have hchx := o1.chkV
      have hux := o1.und
      rcases japart_out l h8 hr s (pre ++ [q]) v2 bl2 (by simpa using hp) (fun y hy => by
        rcases List.mem_append.1 hy with hy | hy
        · exact hq y hy
        · have : y = q := by simpa using hy
          rw [this]; omega) d2 with ⟨b', e⟩ | ⟨v', b', e, d, hall⟩
      · rw [show (pre ++ [q]).length = pre.length + 1 by simp] at e
        refine .inl ⟨b', ?_⟩
        rw [← e, l20_JudgeApart_R0_eq]
        simp only [l20_JudgeApart_B0, l20_JudgeApart_K0_a, h1, iaddr_atL8 hn, h20', gt_iff_lt, l20_JudgeApart_L2_eq, e1, hD.chkV, hD.locv, d2.chkV, hlx, hox, hcx, hchx, hux, e2, hw, zy, simprocAttr]
      · rw [show (pre ++ [q]).length = pre.length + 1 by simp] at e
        refine .inr ⟨v', b', ?_, d, hall⟩
        rw [← e, l20_JudgeApart_R0_eq]
        simp only [l20_JudgeApart_B0, l20_JudgeApart_K0_a, h1, iaddr_atL8 hn, h20', gt_iff_lt, l20_JudgeApart_L2_eq, e1, hD.chkV, hD.locv, d2.chkV, hlx, hox, hcx, hchx, hux, e2, hw, zy, simprocAttr]

theorem japart_F (l : List (List Int)) (hr : ∀ q ∈ l, ∀ x ∈ q, -128 ≤ x ∧ x ≤ 127) (H : Heap) : l20_JudgeApart_F false H [sl fL8 l] = some (.bool true, H) := by
  have hno := nobody_F
  rw [l20_JudgeApart_F_eq]
  by_cases h8 : (8 : Int) < l.length
  · simp only [l20_JudgeApart_C, l20_nobody_call, hno, h8, gt_iff_lt, zy, simprocAttr]
  · rcases japart_out l (by omega) hr l [] .nils [] rfl (by simp) (Deep.nil _ _ _) with ⟨b', e⟩ | ⟨v', b', e, d, hall⟩
    · simp only [List.nil_append, List.length_nil, Int.natCast_zero] at e
      simp only [l20_JudgeApart_C, l20_nobody_call, hno, h8, gt_iff_lt, l20_JudgeApart_L0_eq, e, zy, simprocAttr]
    · simp only [List.nil_append, List.length_nil, Int.natCast_zero] at e
      have hfl : ∀ (q : List (List Int)), (∀ y ∈ q, y.length ≤ 20) → q.flatten.length ≤ 20 * q.length := by
        intro q
        induction q with
        | nil => intro _; simp
        | cons y q ih =>
          intro h
          have h1 := h y (by simp)
          have h2 := ih (fun z hz => h z (by simp [hz]))
          simp only [List.flatten_cons, List.length_append, List.length_cons]
          omega
      have hlen := hfl l hall
      have hrf : ∀ x ∈ l.flatten, -9223372036854775808 ≤ x ∧ x ≤ 9223372036854775807 := fun x hx => by
        obtain ⟨q, hq, hx⟩ := List.mem_flatten.1 hx
        have := hr q hq x hx
        omega
      have hsn := fun bx st => d.snapV (f := fL) (fun _ => rfl) bx st
      have hA := fun st H => apart_F l (by omega) (by omega) hrf st H
      have hB := fun st H => r16apart_F l (by omega) (by omega) st H
      have hlv := d.locv
      simp only [l20_JudgeApart_C, l20_nobody_call, hno, h8, gt_iff_lt, l20_JudgeApart_L0_eq, e, judge_Apart_call, r16_Apart_call, hsn, hA, hB, hlv, zy, simprocAttr]
end Go.Proofs.Ytfblegjbmhgepaa.Zt
end
