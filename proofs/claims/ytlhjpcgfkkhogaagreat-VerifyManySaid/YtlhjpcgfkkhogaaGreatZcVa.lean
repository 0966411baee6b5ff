/- Walks: places in the plane. No condition. -/
import Derived.Test.YtlhjpcgfkkhogaaGreatZcT
import Derived.Test.YtlhjpcgfkkhogaaGreatZcSet
import Derived.Test.YtlhjpcgfkkhogaaGreatZcFlo
set_option linter.all false
section
namespace Go.Proofs.YtlhjpcgfkkhogaaGreat.Zt
open Go Go.Zc
set_option maxRecDepth 10000

theorem trunc_C {x t : Nat} (h : truncN x = some t) (bx : List (Nat × List CV)) (bl : List Blk) : call ctx (.fn (.func 72) [] []) [.float .f64 x] ⟨bx, bl⟩ = some (.float .f64 t, ⟨bx, bl⟩) := by
  rw [prim_call (s := floatS truncN) (show ctx.prim 72 = _ by rfl), List.append_nil]
  simp only [floatS, h, Option.map_some]
  rfl
theorem abs_C {x t : Nat} (h : absN x = some t) (bx : List (Nat × List CV)) (bl : List Blk) : call ctx (.fn (.func 73) [] []) [.float .f64 x] ⟨bx, bl⟩ = some (.float .f64 t, ⟨bx, bl⟩) := by
  rw [prim_call (s := floatS absN) (show ctx.prim 73 = _ by rfl), List.append_nil]
  simp only [floatS, h, Option.map_some]
  rfl
theorem re_z (k : FloatKind) (a b : Nat) : reC (.cplx k a b) = some (.float k a) := (rfl)
theorem im_z (k : FloatKind) (a b : Nat) : imC (.cplx k a b) = some (.float k b) := (rfl)
/-- May it be a part of a place? -/
def wholeI (a : Int) : Bool := decide (-1000000 ≤ a) && decide (a ≤ 1000000)
def placeI (p : Int × Int) : Bool := wholeI p.1 && wholeI p.2
def dotI (p q : Int × Int) : Int := p.1 * q.1 + p.2 * q.2
def subI (p q : Int × Int) : Int × Int := (p.1 - q.1, p.2 - q.2)
/-- No part is greater. -/
def Near (B : Nat) (p : Int × Int) : Prop := p.1.natAbs ≤ B ∧ p.2.natAbs ≤ B

theorem whole_F {x : Nat} {a : Int} (hx : Rep x a) (ha : a.natAbs < 2 ^ 53) (st : Bool) (H : Heap) : plane_whole_F st H [.float .f64 x] = some (.bool (wholeI a), H) := by
  obtain ⟨t, t1, t2⟩ := hx.trunc ha
  obtain ⟨y, y1, y2⟩ := hx.abs
  have e1 := hx.feq t2
  have e2 := y2.leq Rep.million
  have hd : decide ((a.natAbs : Int) ≤ 1000000) = wholeI a := by
    unfold wholeI
    by_cases h1 : -1000000 ≤ a <;> by_cases h2 : a ≤ 1000000 <;> simp [h1, h2] <;> omega
  rw [plane_whole_F_eq]
  simp only [plane_whole_C, trunc_C t1, abs_C y1, e1, e2, hd, re_z, im_z, zy, simprocAttr]
theorem place_F {z : Nat × Nat} {p : Int × Int} (hz : RepZ z p) (hp : Near (2 ^ 52) p) (st : Bool) (H : Heap) : plane_Place_F st H [.cplx .f64 z.1 z.2] = some (.bool (placeI p), H) := by
  have w1 := fun st H => whole_F hz.1 (by have := hp.1; omega) st H
  have w2 := fun st H => whole_F hz.2 (by have := hp.2; omega) st H
  unfold placeI
  rw [plane_Place_F_eq]
  cases hA : wholeI p.1 with
  | true =>
    rw [hA] at w1
    simp only [plane_Place_C, plane_whole_call, w1, w2, Bool.true_and, re_z, im_z, zy, simprocAttr]
  | false =>
    rw [hA] at w1
    simp only [plane_Place_C, plane_whole_call, w1, w2, Bool.false_and, re_z, im_z, zy, simprocAttr]
theorem rwhole_F {x : Nat} {a : Int} (hx : Rep x a) (ha : a.natAbs < 2 ^ 53) (st : Bool) (H : Heap) : r01_whole_F st H [.float .f64 x] = some (.bool (wholeI a), H) := by
  have e1 := hx.geq Rep.milliom
  have e2 := hx.leq Rep.million
  obtain ⟨z, z1, z2⟩ := Rep.ofInt ha .i64
  have e3 := hx.toInt (by omega) (by omega)
  have e4 := z2.feq hx
  simp only [decide_true] at e4
  unfold wholeI
  rw [r01_whole_F_eq]
  by_cases h1 : -1000000 ≤ a
  · by_cases h2 : a ≤ 1000000
    · simp only [r01_whole_C, e1, e2, e3, z1, e4, h1, h2, re_z, im_z, zy, simprocAttr]
    · simp only [r01_whole_C, e1, e2, e3, z1, e4, h1, h2, re_z, im_z, zy, simprocAttr]
  · simp only [r01_whole_C, e1, e2, e3, z1, e4, h1, re_z, im_z, zy, simprocAttr]
theorem rplace_F {z : Nat × Nat} {p : Int × Int} (hz : RepZ z p) (hp : Near (2 ^ 52) p) (st : Bool) (H : Heap) : r01_Place_F st H [.cplx .f64 z.1 z.2] = some (.bool (placeI p), H) := by
  have w1 := fun st H => rwhole_F hz.1 (by have := hp.1; omega) st H
  have w2 := fun st H => rwhole_F hz.2 (by have := hp.2; omega) st H
  unfold placeI
  rw [r01_Place_F_eq]
  cases hA : wholeI p.1 with
  | true =>
    rw [hA] at w1
    simp only [r01_Place_C, r01_whole_call, w1, w2, Bool.true_and, re_z, im_z, zy, simprocAttr]
  | false =>
    rw [hA] at w1
    simp only [r01_Place_C, r01_whole_call, w1, w2, Bool.false_and, re_z, im_z, zy, simprocAttr]

theorem mul_small {a b : Int} {A B : Nat} (ha : a.natAbs ≤ A) (hb : b.natAbs ≤ B) : (a * b).natAbs ≤ A * B := by
  rw [Int.natAbs_mul]
  exact Nat.mul_le_mul ha hb
theorem turned_F {z w : Nat × Nat} {p q : Int × Int} (hz : RepZ z p) (hw : RepZ w q) (hp : Near 20000000 p) (hq : Near 20000000 q) (st : Bool) (H : Heap) :
    ∃ v : Nat × Nat, plane_turned_F st H [.cplx .f64 z.1 z.2, .cplx .f64 w.1 w.2] = some (.cplx .f64 v.1 v.2, H) ∧ Rep v.1 (dotI p q) := by
  have hn : RepZ (z.1, Op.negFloat .f64 z.2) (p.1, -p.2) := ⟨hz.1, hz.2.neg⟩
  have b1 := mul_small hp.1 hq.1
  have b2 : (-p.2 * q.2).natAbs ≤ 20000000 * 20000000 := mul_small (by rw [Int.natAbs_neg]; exact hp.2) hq.2
  have b3 := mul_small hp.1 hq.2
  have b4 : (-p.2 * q.1).natAbs ≤ 20000000 * 20000000 := mul_small (by rw [Int.natAbs_neg]; exact hp.2) hq.1
  obtain ⟨v, v1, v2⟩ := hn.mul hw (by simp only; omega) (by simp only; omega) (by simp only; omega) (by simp only; omega)
  have hd : p.1 * q.1 - -p.2 * q.2 = dotI p q := by unfold dotI; rw [Int.neg_mul]; omega
  have hun : unC .neg (.float .f64 z.2) = some (.float .f64 (Op.negFloat .f64 z.2)) := rfl
  have v2' := v2.1
  simp only at v2' v1
  rw [hd] at v2'
  refine ⟨v, ?_, v2'⟩
  rw [plane_turned_F_eq]
  simp only [plane_turned_C, hun, v1, re_z, im_z, zy, simprocAttr]
theorem dot_F {z w : Nat × Nat} {p q : Int × Int} (hz : RepZ z p) (hw : RepZ w q) (hp : Near 20000000 p) (hq : Near 20000000 q) (st : Bool) (H : Heap) :
    ∃ v : Nat, plane_Dot_F st H [.cplx .f64 z.1 z.2, .cplx .f64 w.1 w.2] = some (.float .f64 v, H) ∧ Rep v (dotI p q) := by
  obtain ⟨v, v1, v2⟩ := turned_F hz hw hp hq false ⟨[], []⟩
  have b1 := mul_small hp.1 hq.1
  have b2 := mul_small hp.2 hq.2
  have hb : (dotI p q).natAbs < 2 ^ 53 := by unfold dotI; omega
  obtain ⟨u, u1, u2⟩ := v2.addF Rep.zero (by rw [Int.add_zero]; exact hb)
  rw [Int.add_zero] at u2
  have v1' : plane_turned_F false ⟨[], []⟩ [.cplx .f64 z.1 z.2, .cplx .f64 w.1 w.2] = some (.cplx .f64 v.1 v.2, ⟨[], []⟩) := v1
  refine ⟨u, ?_, u2⟩
  rw [plane_Dot_F_eq]
  simp only [plane_Dot_C, plane_turned_call, v1', u1, re_z, im_z, zy, simprocAttr]
theorem square_F {z : Nat × Nat} {p : Int × Int} (hz : RepZ z p) (hp : Near 20000000 p) (st : Bool) (H : Heap) :
    ∃ v : Nat, plane_Square_F st H [.cplx .f64 z.1 z.2] = some (.float .f64 v, H) ∧ Rep v (dotI p p) := by
  obtain ⟨v, v1, v2⟩ := dot_F hz hz hp hp false ⟨[], []⟩
  refine ⟨v, ?_, v2⟩
  rw [plane_Square_F_eq]
  simp only [plane_Square_C, plane_Dot_call, v1, re_z, im_z, zy, simprocAttr]
theorem near_sub {A B : Nat} {p q : Int × Int} (hp : Near A p) (hq : Near B q) : Near (A + B) (subI p q) := by
  obtain ⟨a, b⟩ := hp
  obtain ⟨c, d⟩ := hq
  unfold subI Near
  simp only
  omega
/-- Does one go on? -/
def aheadI (a b c : Int × Int) : Bool := decide (0 < dotI (subI b a) (subI c b))
theorem ahead_F {z w u : Nat × Nat} {a b c : Int × Int} (hz : RepZ z a) (hw : RepZ w b) (hu : RepZ u c) (ha : Near 10000000 a) (hb : Near 10000000 b) (hc : Near 10000000 c) (st : Bool) (H : Heap) :
    plane_Ahead_F st H [.cplx .f64 z.1 z.2, .cplx .f64 w.1 w.2, .cplx .f64 u.1 u.2] = some (.bool (aheadI a b c), H) := by
  have n1 := near_sub hb ha
  have n2 := near_sub hc hb
  obtain ⟨x, x1, x2⟩ := hw.sub hz (by have := n1.1; unfold subI at this; simp only at this; omega) (by have := n1.2; unfold subI at this; simp only at this; omega)
  obtain ⟨y, y1, y2⟩ := hu.sub hw (by have := n2.1; unfold subI at this; simp only at this; omega) (by have := n2.2; unfold subI at this; simp only at this; omega)
  obtain ⟨v, v1, v2⟩ := dot_F (p := subI b a) (q := subI c b) x2 y2 n1 n2 false ⟨[], []⟩
  have g := v2.gtr Rep.zero
  rw [plane_Ahead_F_eq]
  simp only [plane_Ahead_C, x1, y1, plane_Dot_call, v1, g, aheadI, re_z, im_z, zy, simprocAttr]
/-- May a section between two places be so long? -/
def fitsI (a b : Int × Int) (len : Int) : Bool := decide (a ≠ b) && decide (1 ≤ len) && decide (len ≤ 10000) && decide (dotI (subI b a) (subI b a) ≤ len * len)
theorem fits_F {z w : Nat × Nat} {a b : Int × Int} (hz : RepZ z a) (hw : RepZ w b) (ha : Near 10000000 a) (hb : Near 10000000 b) (len : Int) (st : Bool) (H : Heap) :
    plane_Fits_F st H [.cplx .f64 z.1 z.2, .cplx .f64 w.1 w.2, .int .i64 len] = some (.bool (fitsI a b len), H) := by
  have e := hz.eq hw
  unfold fitsI
  rw [plane_Fits_F_eq]
  by_cases h1 : a = b
  · simp only [plane_Fits_C, e, h1, ne_eq, re_z, im_z, zy, simprocAttr]
  · by_cases h2 : len < 1
    · have h2' : ¬ 1 ≤ len := by omega
      simp only [plane_Fits_C, e, h1, h2, h2', ne_eq, re_z, im_z, zy, simprocAttr]
    · by_cases h3 : 10000 < len
      · have h2' : 1 ≤ len := by omega
        have h3' : ¬ len ≤ 10000 := by omega
        simp only [plane_Fits_C, e, h1, h2, h2', h3, h3', gt_iff_lt, ne_eq, re_z, im_z, zy, simprocAttr]
      · have h2' : 1 ≤ len := by omega
        have h3' : len ≤ 10000 := by omega
        have n1 := near_sub hb ha
        obtain ⟨x, x1, x2⟩ := hw.sub hz (by have := n1.1; unfold subI at this; simp only at this; omega) (by have := n1.2; unfold subI at this; simp only at this; omega)
        obtain ⟨f, f1, f2⟩ := Rep.ofInt (a := len) (by omega) .i64
        obtain ⟨v, v1, v2⟩ := square_F (z := (f, 0)) (p := (len, 0)) ⟨f2, Rep.zero⟩ ⟨by simp only; omega, by simp⟩ false ⟨[], []⟩
        obtain ⟨u, u1, u2⟩ := square_F (p := subI b a) x2 n1 false ⟨[], []⟩
        have hlen : dotI (len, 0) (len, 0) = len * len := by simp [dotI]
        rw [hlen] at v2
        have g := v2.geq u2
        simp only [plane_Fits_C, e, h1, h2, h2', h3, h3', gt_iff_lt, ne_eq, f1, x1, plane_Square_call, v1, u1, g, re_z, im_z, zy, simprocAttr]
end Go.Proofs.YtlhjpcgfkkhogaaGreat.Zt
end
section
namespace Go.Proofs.YtlhjpcgfkkhogaaGreat.Zt
open Go Go.Zc
set_option maxRecDepth 10000

theorem has_loop (n : Int) : ∀ (s p : List Int), (p ++ s).length ≤ small →
    r01_Has_R0 ([(0, sl fI (p ++ s)), (1, .int .i64 n), (5, .int .i64 p.length)], ⟨[], []⟩) = if n ∈ s then some (.ret, [(4, .bool true)], ⟨[], []⟩) else some (.norm, [], ⟨[], []⟩)
  | [], p, hm => by
    rw [r01_Has_R0_eq]
    simp only [r01_Has_B0, r01_Has_K0_a, List.not_mem_nil, zy, simprocAttr]
  | x :: s, p, hm => by
    rw [r01_Has_R0_eq]
    have h1 : ((p.length : Int) < (p ++ x :: s).length) := by simp; omega
    have hw := wrapN (n := p.length) (by simp at hm; omega)
    have ih := has_loop n s (p ++ [x]) (by simpa using hm)
    simp only [List.append_assoc, List.cons_append, List.nil_append, List.length_append, List.length_cons, List.length_nil] at ih
    simp only [r01_Has_B0, r01_Has_K0_a, h1, iaddr_midI, hw, zy, simprocAttr, ih]
    by_cases he : x = n
    · simp [he]
    · have : n ≠ x := fun h => he h.symm
      simp [he, this]

theorem has_F (a : List Int) (n : Int) (hm : a.length ≤ small) (st : Bool) (H : Heap) : r01_Has_F st H [sl fI a, .int .i64 n] = some (.bool (decide (n ∈ a)), H) := by
  rw [r01_Has_F_eq]
  have := has_loop n a [] hm
  simp only [List.nil_append, List.length_nil, Int.natCast_zero] at this
  simp only [r01_Has_C, r01_Has_L0_eq, this, zy, simprocAttr]
  by_cases he : n ∈ a <;> simp only [he, zy, simprocAttr]
end Go.Proofs.YtlhjpcgfkkhogaaGreat.Zt
end
section
namespace Go.Proofs.YtlhjpcgfkkhogaaGreat.Zt
open Go Go.Zc
set_option maxRecDepth 10000

theorem node_F (l : Lay) (x : Ed) (st : Bool) (H : Heap) : r05_node_F st H [.agg (layC l), .agg (fE x)] = some (.tup [.int .i64 ((nodeOf l x).getD 0), .bool (nodeOf l x).isSome], H) := by
  rw [r05_node_F_eq]
  obtain ⟨s, e⟩ := x
  by_cases h1 : s < 0
  · have hn : nodeOf l ⟨s, e⟩ = none := by simp only [nodeOf, if_neg (show ¬ 0 ≤ s by omega), Option.bind_none]
    simp only [r05_node_C, fE, h1, hn, Option.getD_none, zy, simprocAttr]
  · obtain ⟨n, rfl⟩ := Int.eq_ofNat_of_zero_le (show 0 ≤ s by omega)
    by_cases h2 : l.secs.length ≤ n
    · have hn : nodeOf l ⟨n, e⟩ = none := by simp [nodeOf, List.getElem?_eq_none h2]
      have h2' : ((l.secs.length : Int) ≤ n) := by omega
      simp only [r05_node_C, fE, h1, h2', hn, Option.getD_none, zy, simprocAttr]
    · have h2' : ¬ ((l.secs.length : Int) ≤ n) := by omega
      have hlt : n < l.secs.length := by omega
      by_cases h3 : e = 0
      · subst h3
        have hn : nodeOf l ⟨n, 0⟩ = some l.secs[n].a := by simp [nodeOf, List.getElem?_eq_getElem hlt]
        simp only [r05_node_C, fE, h1, h2', hn, Option.getD_some, Option.isSome_some, iaddr_atS hlt, zy, simprocAttr]
      · by_cases h4 : e = 1
        · subst h4
          have hn : nodeOf l ⟨n, 1⟩ = some l.secs[n].b := by simp [nodeOf, List.getElem?_eq_getElem hlt]
          simp only [r05_node_C, fE, h1, h2', hn, Option.getD_some, Option.isSome_some, iaddr_atS hlt, zy, simprocAttr]
        · have hn : nodeOf l ⟨n, e⟩ = none := by simp [nodeOf, List.getElem?_eq_getElem hlt, h3, h4]
          by_cases h5 : e < 0
          · simp only [r05_node_C, fE, h1, h2', h5, hn, Option.getD_none, zy, simprocAttr]
          · have h6 : 1 < e := by omega
            simp only [r05_node_C, fE, h1, h2', h5, h6, hn, Option.getD_none, zy, simprocAttr]

theorem ends_loop (l : Lay) (hl : l.ok) (at' : Int) : ∀ (s p : List Sec) (acc : List Ed) (v : CV) (bl : List Blk), p ++ s = l.secs → acc.length ≤ 2 * p.length → Own fE 2 bl v acc →
    ∃ v' bl', r05_Ends_R0 ([(1, .int .i64 at'), (2, .op (.loc 2) 0), (5, v), (6, .int .i64 p.length)], ⟨[(2, layC l)], bl⟩) = some (.norm, [(5, v')], ⟨[], bl'⟩) ∧ Own fE 2 bl' v' (acc ++ endsFrom at' p.length s)
  | [], p, acc, v, bl, hp, ha, hO => by
    refine ⟨v, bl, ?_, by simpa [endsFrom] using hO⟩
    rw [r05_Ends_R0_eq]
    have h1 : ¬ ((p.length : Int) < l.secs.length) := by rw [← hp]; simp
    simp only [r05_Ends_B0, r05_Ends_K0_a, h1, hO.chkV, zy, simprocAttr]
  | x :: s, p, acc, v, bl, hp, ha, hO => by
    have hs := hl.secs
    have hpl : p.length + 1 + s.length = l.secs.length := by rw [← hp]; simp; omega
    have h1 : ((p.length : Int) < l.secs.length) := by omega
    have hw := wrapN (n := p.length) (by omega)
    have hi : iaddrC 3 (sl fS l.secs) (.int .i64 p.length) = some (.vp (.int .i64 x.len :: .int .i64 x.a :: .int .i64 x.b :: s.flatMap fS)) := by rw [← hp]; exact iaddr_midS _ p s x
    unfold small at hs
    have key : ∃ v' bl', r05_Ends_R0 ([(1, .int .i64 at'), (2, .op (.loc 2) 0), (5, v), (6, .int .i64 p.length)], ⟨[(2, layC l)], bl⟩) =
        r05_Ends_R0 ([(1, .int .i64 at'), (2, .op (.loc 2) 0), (5, v'), (6, .int .i64 (p ++ [x]).length)], ⟨[(2, layC l)], bl'⟩) ∧ Own fE 2 bl' v' (acc ++ ((if x.a = at' then [⟨p.length, 0⟩] else []) ++ (if x.b = at' then [⟨p.length, 1⟩] else []))) := by
      rw [r05_Ends_R0_eq]
      by_cases hA : x.a = at'
      · obtain ⟨v1, bl1, e1, o1, _⟩ := hO.app1 flatE (bytes := 16) (zero := [.int .i64 0, .int .i64 0]) (by decide) rfl rfl ⟨p.length, 0⟩ (by omega)
        by_cases hB : x.b = at'
        · obtain ⟨v2, bl2, e2, o2, _⟩ := o1.app1 flatE (bytes := 16) (zero := [.int .i64 0, .int .i64 0]) (by decide) rfl rfl ⟨p.length, 1⟩ (by simp; omega)
          refine ⟨v2, bl2, ?_, by simpa [hA, hB] using o2⟩
          simp only [fE] at e1 e2
          simp only [r05_Ends_B0, r05_Ends_K0_a, h1, hi, hA, hB, e1, e2, hw, o2.chkV, hO.chkV, o1.chkV, List.append_assoc, List.cons_append, List.nil_append, List.length_append, List.length_cons, List.length_nil, zy, simprocAttr]
        · refine ⟨v1, bl1, ?_, by simpa [hA, hB] using o1⟩
          simp only [fE] at e1
          simp only [r05_Ends_B0, r05_Ends_K0_a, h1, hi, hA, hB, e1, hw, hO.chkV, o1.chkV, List.append_assoc, List.cons_append, List.nil_append, List.length_append, List.length_cons, List.length_nil, zy, simprocAttr]
      · by_cases hB : x.b = at'
        · obtain ⟨v2, bl2, e2, o2, _⟩ := hO.app1 flatE (bytes := 16) (zero := [.int .i64 0, .int .i64 0]) (by decide) rfl rfl ⟨p.length, 1⟩ (by omega)
          refine ⟨v2, bl2, ?_, by simpa [hA, hB] using o2⟩
          simp only [fE] at e2
          simp only [r05_Ends_B0, r05_Ends_K0_a, h1, hi, hA, hB, e2, hw, o2.chkV, hO.chkV, List.append_assoc, List.cons_append, List.nil_append, List.length_append, List.length_cons, List.length_nil, zy, simprocAttr]
        · refine ⟨v, bl, ?_, by simpa [hA, hB] using hO⟩
          simp only [r05_Ends_B0, r05_Ends_K0_a, h1, hi, hA, hB, hw, hO.chkV, List.append_assoc, List.cons_append, List.nil_append, List.length_append, List.length_cons, List.length_nil, zy, simprocAttr]
    obtain ⟨v1, bl1, e1, o1⟩ := key
    obtain ⟨v2, bl2, e2, o2⟩ := ends_loop l hl at' s (p ++ [x]) _ v1 bl1 (by simpa using hp) (by simp only [List.length_append, List.length_cons, List.length_nil]; split <;> split <;> simp <;> omega) o1
    refine ⟨v2, bl2, e1.trans e2, ?_⟩
    simpa [endsFrom] using o2

theorem snap_E (H : Heap) (st kn : Bool) (n : Nat) : ∀ x : Ed, ∀ c ∈ fE x, snapN H st kn (n + 1) c = some c := by
  intro x c hc
  simp only [fE, List.mem_cons, List.not_mem_nil, or_false] at hc
  rcases hc with rfl | rfl <;> rfl
theorem snap_I (H : Heap) (st kn : Bool) (n : Nat) : ∀ x : Int, ∀ c ∈ fI x, snapN H st kn (n + 1) c = some c := by
  intro x c hc
  simp only [fI, List.mem_cons, List.not_mem_nil, or_false] at hc
  subst hc
  rfl

theorem ends_F (l : Lay) (hl : l.ok) (at' : Int) (st : Bool) (H : Heap) : r05_Ends_F st H [.agg (layC l), .int .i64 at'] = some (sl fE (ends l at'), H) := by
  rw [r05_Ends_F_eq]
  obtain ⟨v, bl, e, o⟩ := ends_loop l hl at' l.secs [] [] .nils [] rfl (by simp) (Own.nil _ _ _)
  simp only [List.nil_append, List.length_nil, Int.natCast_zero] at e o
  simp only [r05_Ends_C, r05_Ends_L0_eq, e, o.snapV flatE _ _ _ (snap_E _ _ _ 6), ends, zy, simprocAttr]

theorem point_loop (l : Lay) (hl : l.ok) (at' : Int) : ∀ (s p : List Pt), p ++ s = l.pts →
    r05_Point_R0 ([(1, .int .i64 at'), (2, .op (.loc 2) 0), (5, .int .i64 p.length)], ⟨[(2, layC l)], []⟩) =
      match s.findIdx? (fun q => q.node == at') with
      | some i => some (.ret, [(4, .int .i64 ((p.length + i : Nat) : Int))], ⟨[(2, layC l)], []⟩)
      | none => some (.norm, [], ⟨[], []⟩)
  | [], p, hp => by
    have h1 : ¬ ((p.length : Int) < l.pts.length) := by rw [← hp]; simp
    rw [r05_Point_R0_eq]
    simp only [r05_Point_B0, r05_Point_K0_a, h1, List.findIdx?_nil, zy, simprocAttr]
  | x :: s, p, hp => by
    have hs := hl.pts
    have hpl : p.length + 1 + s.length = l.pts.length := by rw [← hp]; simp; omega
    have h1 : ((p.length : Int) < l.pts.length) := by omega
    have hw := wrapN (n := p.length) (by omega)
    have hi : iaddrC 4 (sl fP l.pts) (.int .i64 p.length) = some (.vp (.int .i64 x.node :: .int .i64 x.stem :: .int .i64 x.left :: .int .i64 x.right :: s.flatMap fP)) := by rw [← hp]; exact iaddr_midP _ p s x
    have ih := point_loop l hl at' s (p ++ [x]) (by simpa using hp)
    rw [r05_Point_R0_eq]
    simp only [List.append_assoc, List.cons_append, List.nil_append, List.length_append, List.length_cons, List.length_nil] at ih
    simp only [r05_Point_B0, r05_Point_K0_a, h1, hi, hw, zy, simprocAttr, ih]
    by_cases hA : x.node = at'
    · simp [hA, List.findIdx?_cons]
    · simp only [hA, if_false, List.findIdx?_cons, beq_iff_eq]
      cases hf : s.findIdx? (fun q => q.node == at') with
      | none => simp
      | some i => simp; omega

theorem point_F (l : Lay) (hl : l.ok) (at' : Int) (st : Bool) (H : Heap) : r05_Point_F st H [.agg (layC l), .int .i64 at'] = some (.int .i64 (match ptOf l at' with | some i => (i : Int) | none => -1), H) := by
  rw [r05_Point_F_eq]
  have e := point_loop l hl at' l.pts [] rfl
  simp only [List.nil_append, List.length_nil, Int.natCast_zero] at e
  simp only [r05_Point_C, r05_Point_L0_eq, e, ptOf, zy, simprocAttr]
  cases hf : l.pts.findIdx? (fun q => q.node == at') <;> simp only [zy, simprocAttr]
end Go.Proofs.YtlhjpcgfkkhogaaGreat.Zt
end
section
namespace Go.Proofs.YtlhjpcgfkkhogaaGreat.Zt
open Go Go.Zc
set_option maxRecDepth 10000

theorem one_loop (sec : Int) : ∀ (s p : List Ed), (p ++ s).length ≤ 2 * small →
    r05_one_R0 ([(1, .int .i64 sec), (7, sl fE (p ++ s)), (8, .int .i64 p.length)], ⟨[], []⟩) =
      match s.find? (fun x => x.s == sec) with
      | some x => some (.ret, [(6, sl fE [x])], ⟨[], []⟩)
      | none => some (.norm, [], ⟨[], []⟩)
  | [], p, hm => by
    rw [r05_one_R0_eq]
    simp only [r05_one_B0, r05_one_K0_a, List.find?_nil, zy, simprocAttr]
  | x :: s, p, hm => by
    rw [r05_one_R0_eq]
    have h1 : ((p.length : Int) < (p ++ x :: s).length) := by simp; omega
    have hw := wrapN (n := p.length) (by simp at hm; omega)
    have ih := one_loop sec s (p ++ [x]) (by simpa using hm)
    have hs := slc_sl flatE (p ++ x :: s) p.length (p.length + 1) (by omega) (by simp) .i64 .i64
    have ht : ((p ++ x :: s).take (p.length + 1)).drop p.length = [x] := by simp [List.take_append]
    rw [ht] at hs
    simp only [List.append_assoc, List.cons_append, List.nil_append, List.length_append, List.length_cons, List.length_nil] at ih
    simp only [r05_one_B0, r05_one_K0_a, h1, iaddr_midE, hw, hs, zy, simprocAttr, ih]
    by_cases he : x.s = sec
    · simp [he]
    · simp [he]

theorem one_F (l : Lay) (hl : l.ok) (sec at' : Int) (H : Heap) : r05_one_F false H [.agg (layC l), .int .i64 sec, .int .i64 at'] = some (sl fE (oneOf l sec at'), H) := by
  rw [r05_one_F_eq]
  have e := one_loop sec (ends l at') [] (ends_len hl at')
  simp only [List.nil_append, List.length_nil, Int.natCast_zero] at e
  simp only [r05_one_C, r05_one_L0_eq, r05_Ends_call, ends_F l hl, e, oneOf, zy, simprocAttr]
  cases hf : (ends l at').find? (fun x => x.s == sec) <;> simp only [sl_nil fE, zy, simprocAttr]

theorem around_loop (x : Ed) : ∀ (s p acc : List Ed) (v : CV) (bl : List Blk), (p ++ s).length ≤ 2 * small → acc.length ≤ p.length → Own fE 2 bl v acc →
    ∃ v' bl', r05_Around_R0 ([(3, .op (.loc 3) 0), (8, v), (10, sl fE (p ++ s)), (11, .int .i64 p.length)], ⟨[(3, fE x)], bl⟩) = some (.norm, [(8, v')], ⟨[], bl'⟩) ∧ Own fE 2 bl' v' (acc ++ s.filter fun y => y ≠ x)
  | [], p, acc, v, bl, hm, ha, hO => by
    refine ⟨v, bl, ?_, by simpa using hO⟩
    rw [r05_Around_R0_eq]
    simp only [r05_Around_B0, r05_Around_K0_a, fE, hO.chkV, zy, simprocAttr]
  | y :: s, p, acc, v, bl, hm, ha, hO => by
    have hm' := hm
    unfold small at hm'
    simp only [List.length_append, List.length_cons] at hm'
    have h1 : ((p.length : Int) < (p ++ y :: s).length) := by simp; omega
    have hw := wrapN (n := p.length) (by simp at hm; omega)
    have hq := eqE y x
    simp only [fE] at hq
    rw [r05_Around_R0_eq]
    by_cases he : y = x
    · subst he
      obtain ⟨v', bl', e, o⟩ := around_loop y s (p ++ [y]) acc v bl (by simpa using hm) (by simp; omega) hO
      simp only [List.append_assoc, List.cons_append, List.nil_append, List.length_append, List.length_cons, List.length_nil] at e
      refine ⟨v', bl', ?_, by simpa using o⟩
      simp only [fE] at e ⊢
      simp only [r05_Around_B0, r05_Around_K0_a, h1, iaddr_midE, hw, hO.chkV, hq, e, zy, simprocAttr]
    · obtain ⟨v1, bl1, e1, o1, _⟩ := hO.app1 flatE (bytes := 16) (zero := [.int .i64 0, .int .i64 0]) (by decide) rfl rfl y (by omega)
      obtain ⟨v', bl', e, o⟩ := around_loop x s (p ++ [y]) _ v1 bl1 (by simpa using hm) (by simp; omega) o1
      simp only [List.append_assoc, List.cons_append, List.nil_append, List.length_append, List.length_cons, List.length_nil] at e
      refine ⟨v', bl', ?_, by simpa [he] using o⟩
      simp only [fE] at e e1 ⊢
      simp only [r05_Around_B0, r05_Around_K0_a, h1, iaddr_midE, hw, hO.chkV, hq, he, e1, o1.chkV, zy, simprocAttr]
      exact e

theorem ptOf_some {l : Lay} {n : Int} {i : Nat} (h : ptOf l n = some i) : ∃ hi : i < l.pts.length, l.pts.find? (fun p => p.node == n) = some l.pts[i] := by
  unfold ptOf at h
  have h1 := List.findIdx?_eq_some_iff_getElem.1 h
  obtain ⟨hi, h2, h3⟩ := h1
  refine ⟨hi, ?_⟩
  rw [List.find?_eq_some_iff_getElem]
  exact ⟨h2, i, hi, rfl, fun j hj => by simpa using h3 j hj⟩
theorem ptOf_none {l : Lay} {n : Int} (h : ptOf l n = none) : l.pts.find? (fun p => p.node == n) = none := by
  unfold ptOf at h
  rw [List.find?_eq_none]
  intro x hx
  have := List.findIdx?_eq_none_iff.1 h x hx
  simpa using this

theorem around_F (l : Lay) (hl : l.ok) (x : Ed) (H : Heap) : r05_Around_F false H [.agg (layC l), .agg (fE x)] = some (sl fE (around l x), H) := by
  rw [r05_Around_F_eq]
  have hnF := node_F l x
  simp only [fE] at hnF
  cases hn : nodeOf l x with
  | none =>
    simp only [hn, Option.getD_none] at hnF
    simp only [r05_Around_C, fE, r05_node_call, hnF, around, hn, sl_nil fE, zy, simprocAttr]
  | some n =>
    simp only [hn, Option.getD_some] at hnF
    have hpF := point_F l hl n
    cases hp : ptOf l n with
    | some i =>
      obtain ⟨hi, hf⟩ := ptOf_some hp
      simp only [hp] at hpF
      have h0 : ¬ ((i : Int) < 0) := by omega
      have h0' : (0 : Int) ≤ i := by omega
      by_cases h1 : x.s = l.pts[i].stem
      · obtain ⟨v1, bl1, e1, o1, _⟩ := (Own.nil fE 2 []).appSl flatE (bytes := 16) (zero := [.int .i64 0, .int .i64 0]) (by decide) rfl rfl (oneOf l l.pts[i].left n) (by have := oneOf_len l l.pts[i].left n; simp; omega)
        obtain ⟨v2, bl2, e2, o2, _⟩ := o1.appSl flatE (bytes := 16) (zero := [.int .i64 0, .int .i64 0]) (by decide) rfl rfl (oneOf l l.pts[i].right n) (by have := oneOf_len l l.pts[i].left n; have := oneOf_len l l.pts[i].right n; simp; omega)
        simp only [r05_Around_C, fE, r05_node_call, hnF, r05_Point_call, hpF, h0, h0', iaddr_atP hi, eq_true h1, r05_one_call, one_F l hl, e1, e2, o2.snapV flatE _ _ _ (snap_E _ _ _ 6), around, hn, hf, zy, simprocAttr]
      · by_cases h2 : x.s = l.pts[i].left
        · simp only [r05_Around_C, fE, r05_node_call, hnF, r05_Point_call, hpF, h0, h0', iaddr_atP hi, eq_false h1, eq_true h2, r05_one_call, one_F l hl, around, hn, hf, zy, simprocAttr]
        · by_cases h3 : x.s = l.pts[i].right
          · simp only [r05_Around_C, fE, r05_node_call, hnF, r05_Point_call, hpF, h0, h0', iaddr_atP hi, eq_false h1, eq_false h2, eq_true h3, r05_one_call, one_F l hl, around, hn, hf, zy, simprocAttr]
          · simp only [r05_Around_C, fE, r05_node_call, hnF, r05_Point_call, hpF, h0, h0', iaddr_atP hi, h1, h2, h3, sl_nil fE, around, hn, hf, zy, simprocAttr]
    | none =>
      have hf := ptOf_none hp
      simp only [hp] at hpF
      obtain ⟨v, bl, e, o⟩ := around_loop x (ends l n) [] [] .nils [] (ends_len hl n) (by simp) (Own.nil _ _ _)
      simp only [List.nil_append, List.length_nil, Int.natCast_zero, fE] at e o
      have ho := o.len
      by_cases h1 : ((ends l n).filter fun y => y ≠ x).length = 1
      · have h1' : (((ends l n).filter fun y => y ≠ x).length : Int) = 1 := by omega
        simp only [r05_Around_C, r05_Around_L0_eq, fE, r05_node_call, hnF, r05_Point_call, hpF, r05_Ends_call, ends_F l hl, e, ho, eq_true h1, eq_true h1', o.snapV flatE _ _ _ (snap_E _ _ _ 6), around, hn, hf, zy, simprocAttr]
      · have h1' : ¬ (((ends l n).filter fun y => y ≠ x).length : Int) = 1 := by omega
        simp only [r05_Around_C, r05_Around_L0_eq, fE, r05_node_call, hnF, r05_Point_call, hpF, r05_Ends_call, ends_F l hl, e, ho, h1, h1', sl_nil fE, around, hn, hf, zy, simprocAttr]
end Go.Proofs.YtlhjpcgfkkhogaaGreat.Zt
end
section
namespace Go.Proofs.YtlhjpcgfkkhogaaGreat.Zt
open Go Go.Zc
set_option maxRecDepth 10000

theorem small_loop (d : Draft) (hd : d.ok) : ∀ (s p : List (List Int)), p ++ s = d.routes →
    r04_Small_R0 ([(1, .op (.loc 1) 0), (3, .int .i64 p.length)], ⟨[(1, draftC d)], []⟩) = if (s.all fun r => decide (r.length ≤ 10)) = true then some (.norm, [(1, .op (.loc 1) 0)], ⟨[(1, draftC d)], []⟩) else some (.ret, [(2, .bool false)], ⟨[(1, draftC d)], []⟩)
  | [], p, hp => by
    have h1 : ¬ ((p.length : Int) < d.routes.length) := by rw [← hp]; simp
    rw [r04_Small_R0_eq]
    simp only [r04_Small_B0, r04_Small_K0_a, h1, zy, simprocAttr]
  | x :: s, p, hp => by
    have hpl : p.length + 1 + s.length = d.routes.length := by rw [← hp]; simp; omega
    have h1 : ((p.length : Int) < d.routes.length) := by omega
    have hw := wrapM (n := p.length) (by have := hd.routes; unfold maxLen at this; omega)
    have hi : iaddrC 1 (sl fUL d.routes) (.int .i64 p.length) = some (.vp (sl fU x :: s.flatMap fUL)) := by rw [← hp]; exact iaddr_midUL _ p s x
    have ih := small_loop d hd s (p ++ [x]) (by simpa using hp)
    rw [r04_Small_R0_eq]
    simp only [List.append_assoc, List.cons_append, List.nil_append, List.length_append, List.length_cons, List.length_nil] at ih
    by_cases hx : x.length ≤ 10
    · have hx' : ¬ (10 : Int) < x.length := by omega
      simp only [r04_Small_B0, r04_Small_K0_a, h1, hi, hw, hx', ih, zy, simprocAttr]
      simp [hx]
    · have hx' : (10 : Int) < x.length := by omega
      simp only [r04_Small_B0, r04_Small_K0_a, h1, hi, hw, hx', ih, zy, simprocAttr]
      simp [hx]

theorem small_F (d : Draft) (hd : d.ok) (st : Bool) (H : Heap) : r04_Small_F st H [.agg (draftC d)] = some (.bool d.small, H) := by
  rw [r04_Small_F_eq]
  have e := small_loop d hd d.routes [] rfl
  simp only [List.nil_append, List.length_nil, Int.natCast_zero] at e
  by_cases h : (d.routes.all fun r => decide (r.length ≤ 10)) = true
  · simp only [h, zy, simprocAttr] at e
    have h' : (((d.routes.length : Nat) : Int) ≤ 20) = (d.routes.length ≤ 20) := by simp; omega
    simp only [r04_Small_C, r04_Small_L0_eq, e, Draft.small, h, h', zy, simprocAttr]
  · simp only [h, zy, simprocAttr] at e
    simp only [r04_Small_C, r04_Small_L0_eq, e, Draft.small, Bool.eq_false_iff.2 h, zy, simprocAttr]

theorem snapI_own {bl : List Blk} {v : CV} {l : List Int} (h : Own fI 1 bl v l) (bx : List (Nat × List CV)) (st : Bool) : snapV ⟨bx, bl⟩ st false (snapN ⟨bx, bl⟩ st false 7) v = some (sl fI l) := h.snapV flatI bx _ _ (snap_I _ _ _ 6)
theorem snapE_own {bl : List Blk} {v : CV} {l : List Ed} (h : Own fE 2 bl v l) (bx : List (Nat × List CV)) (st : Bool) : snapV ⟨bx, bl⟩ st false (snapN ⟨bx, bl⟩ st false 7) v = some (sl fE l) := h.snapV flatE bx _ _ (snap_E _ _ _ 6)

/-- The number of a turn, as it is reckoned. -/
theorem turn_lt (turns : List Int) (i n : Nat) (h : 0 < n) : turn turns i n < n := by
  unfold turn
  split
  · exact Nat.mod_lt _ h
  · exact h

set_option maxHeartbeats 1000000 in
theorem walk_loop (l : Lay) (hl : l.ok) (turns : List Int) (ht : ∀ t ∈ turns, 0 ≤ t ∧ t ≤ 255) (most : Nat) (hm : most ≤ Zc.small) : ∀ (n i : Nat) (out : List Int) (x : Ed) (v : CV) (bl : List Blk), most - out.length = n → 0 < out.length → i < out.length → Own fI 1 bl v out →
    ∃ v' bl', (r05_Walk_R0 ([(3, sl fU turns), (4, .int .i64 most), (5, .op (.loc 5) 0), (11, v), (12, .op (.loc 12) 0), (13, .int .i64 i)], ⟨[(5, layC l), (12, fE x)], bl⟩) = some (.norm, [(11, v')], ⟨[], bl'⟩) ∨
      ∃ bx', r05_Walk_R0 ([(3, sl fU turns), (4, .int .i64 most), (5, .op (.loc 5) 0), (11, v), (12, .op (.loc 12) 0), (13, .int .i64 i)], ⟨[(5, layC l), (12, fE x)], bl⟩) = some (.ret, [(10, v')], ⟨bx', bl'⟩)) ∧
      Own fI 1 bl' v' (walkFrom l turns n i out x) := by
  intro n
  induction n with
  | zero =>
    intro i out x v bl hn h0 hi hO
    refine ⟨v, bl, .inl ?_, hO⟩
    have h1 : ¬ ((out.length : Int) < most) := by omega
    rw [r05_Walk_R0_eq]
    simp only [r05_Walk_B0, r05_Walk_K0_a, fE, hO.len, h1, hO.chkV, zy, simprocAttr]
  | succ n ih =>
    intro i out x v bl hn h0 hi hO
    have h1 : ((out.length : Int) < most) := by omega
    have hw := wrapN (n := i) (by omega)
    have haF := fun H => around_F l hl x H
    simp only [fE] at haF
    by_cases ha : (around l x).length = 0
    · have hat : (around l x)[turn turns i (around l x).length]? = none := List.getElem?_eq_none (by omega)
      have ha' : ((around l x).length : Int) = 0 := by omega
      refine ⟨v, bl, .inr ?_, by simpa only [walkFrom, hat] using hO⟩
      rw [r05_Walk_R0_eq]
      simp only [r05_Walk_B0, r05_Walk_K0_a, fE, hO.len, h1, r05_Around_call, haF, ha', zy, simprocAttr]
      exact ⟨_, rfl⟩
    · have ha' : ¬ ((around l x).length : Int) = 0 := by omega
      have htl := turn_lt turns i (around l x).length (by omega)
      obtain ⟨y, hy⟩ : ∃ y, (around l x)[turn turns i (around l x).length] = y := ⟨_, rfl⟩
      have hat : (around l x)[turn turns i (around l x).length]? = some y := by rw [List.getElem?_eq_getElem htl, hy]
      have hia := iaddr_atE (k := .i64) htl
      rw [hy] at hia
      have hhas := fun st H => has_F out y.s (by omega) st H
      have hsn := fun bx st => snapI_own hO bx st
      by_cases hmem : y.s ∈ out
      · refine ⟨v, bl, .inr ?_, by simpa only [walkFrom, hat, if_pos hmem] using hO⟩
        rw [r05_Walk_R0_eq]
        by_cases hk : i < turns.length
        · have hk' : ((i : Int) < turns.length) := by omega
          obtain ⟨t0, t1⟩ := ht turns[i] (List.getElem_mem hk)
          have hw2 : IntKind.i64.wrap turns[i] = turns[i] := wrap64 (by omega) (by omega)
          have hmod : (turns[i]).tmod ((around l x).length : Int) = (turn turns i (around l x).length : Nat) := by
            obtain ⟨m, hm⟩ := Int.eq_ofNat_of_zero_le t0
            simp only [turn, List.getElem?_eq_getElem hk, hm, Int.ofNat_tmod, Int.toNat_natCast]
          simp only [r05_Walk_B0, r05_Walk_K0_a, fE, hO.len, h1, r05_Around_call, haF, ha', hk', iaddr_atU hk, hw2, hmod, hia, r01_Has_call, hhas, hsn, hmem, zy, simprocAttr]
          exact ⟨_, rfl⟩
        · have hk' : ¬ ((i : Int) < turns.length) := by omega
          have hz : turn turns i (around l x).length = 0 := by simp [turn, List.getElem?_eq_none (by omega : turns.length ≤ i)]
          simp only [hz, Int.natCast_zero] at hia
          simp only [r05_Walk_B0, r05_Walk_K0_a, fE, hO.len, h1, r05_Around_call, haF, ha', hk', hia, r01_Has_call, hhas, hsn, hmem, zy, simprocAttr]
          exact ⟨_, rfl⟩
      · obtain ⟨v1, bl1, e1, o1, _⟩ := hO.app1 flatI (bytes := 8) (zero := [.int .i64 0]) (by decide) rfl rfl y.s (by unfold Zc.small at hm; omega)
        simp only [fI] at e1
        obtain ⟨v', bl', e, o⟩ := ih (i + 1) (out ++ [y.s]) ⟨y.s, 1 - y.e⟩ v1 bl1 (by simp; omega) (by simp) (by simp; omega) o1
        have hy' := around_in (List.mem_of_getElem? hat)
        have hw3 : IntKind.i64.wrap (1 - y.e) = 1 - y.e := wrap64 (by omega) (by omega)
        refine ⟨v', bl', ?_, by simpa only [walkFrom, hat, if_neg hmem] using o⟩
        have key : r05_Walk_R0 ([(3, sl fU turns), (4, .int .i64 most), (5, .op (.loc 5) 0), (11, v), (12, .op (.loc 12) 0), (13, .int .i64 i)], ⟨[(5, layC l), (12, fE x)], bl⟩) =
            r05_Walk_R0 ([(3, sl fU turns), (4, .int .i64 most), (5, .op (.loc 5) 0), (11, v1), (12, .op (.loc 12) 0), (13, .int .i64 (i + 1 : Nat))], ⟨[(5, layC l), (12, fE ⟨y.s, 1 - y.e⟩)], bl1⟩) := by
          rw [r05_Walk_R0_eq]
          by_cases hk : i < turns.length
          · have hk' : ((i : Int) < turns.length) := by omega
            obtain ⟨t0, t1⟩ := ht turns[i] (List.getElem_mem hk)
            have hw2 : IntKind.i64.wrap turns[i] = turns[i] := wrap64 (by omega) (by omega)
            have hmod : (turns[i]).tmod ((around l x).length : Int) = (turn turns i (around l x).length : Nat) := by
              obtain ⟨m, hm⟩ := Int.eq_ofNat_of_zero_le t0
              simp only [turn, List.getElem?_eq_getElem hk, hm, Int.ofNat_tmod, Int.toNat_natCast]
            simp only [r05_Walk_B0, r05_Walk_K0_a, fE, hO.len, hO.chkV, o1.chkV, h1, r05_Around_call, haF, ha', hk', iaddr_atU hk, hw, hw2, hw3, hmod, hia, r01_Has_call, hhas, hsn, hmem, e1, zy, simprocAttr]
          · have hk' : ¬ ((i : Int) < turns.length) := by omega
            have hz : turn turns i (around l x).length = 0 := by simp [turn, List.getElem?_eq_none (by omega : turns.length ≤ i)]
            simp only [hz, Int.natCast_zero] at hia
            simp only [r05_Walk_B0, r05_Walk_K0_a, fE, hO.len, hO.chkV, o1.chkV, h1, r05_Around_call, haF, ha', hk', hw, hw3, hia, r01_Has_call, hhas, hsn, hmem, e1, zy, simprocAttr]
        rw [key]
        exact e

theorem walk_F (l : Lay) (hl : l.ok) (s e : Int) (turns : List Int) (ht : ∀ t ∈ turns, 0 ≤ t ∧ t ≤ 255) (most : Nat) (hm : most ≤ Zc.small) (H : Heap) (st : Bool) :
    r05_Walk_F st H [.agg (layC l), .int .i64 s, .int .i64 e, sl fU turns, .int .i64 most] = some (sl fI (walk l s e turns most), H) := by
  rw [r05_Walk_F_eq]
  obtain ⟨v, bl, h, o⟩ := walk_loop l hl turns ht most hm (most - 1) 0 [s] ⟨s, e⟩ (.os 1 (.blk 0) 0 1) [.cells [.int .i64 s]] rfl (by simp) (by simp) (.inr ⟨0, rfl, rfl⟩)
  have hw : walk l s e turns most = walkFrom l turns (most - 1) 0 [s] ⟨s, e⟩ := by
    unfold walk
    congr 1
    omega
  rw [hw]
  simp only [fE, Int.natCast_zero] at h
  rcases h with h | ⟨bx', h⟩
  · simp only [r05_Walk_C, r05_Walk_L0_eq, h, snapI_own o, zy, simprocAttr]
  · simp only [r05_Walk_C, r05_Walk_L0_eq, h, snapI_own o, zy, simprocAttr]
end Go.Proofs.YtlhjpcgfkkhogaaGreat.Zt
end
section
namespace Go.Proofs.YtlhjpcgfkkhogaaGreat.Zt
open Go Go.Zc
set_option maxRecDepth 10000

def rowFrom (u : Int) : Nat → Nat → List (Nat × Nat)
  | _, 0 => []
  | i, k + 1 => (fl (u * i), 0) :: rowFrom u (i + 1) k
def pairsFrom : Nat → Nat → List Ed
  | _, 0 => []
  | i, k + 1 => ⟨i, (i + 1 : Nat)⟩ :: pairsFrom (i + 1) k
abbrev zeroL : List CV := [.nils, .nils, .nils, .nils, .nils, .int .i64 0, .int .i64 0, .int .i64 0, .int .i64 0, .int .i64 0]
abbrev box6 (nv sv pv tv : CV) : List CV := [nv, sv, pv, tv, .nils, .int .i64 0, .int .i64 0, .int .i64 0, .int .i64 0, .int .i64 0]

theorem row_loop (d : Draft) (u : Int) (hu : 0 ≤ u ∧ u ≤ 200) (n : Nat) (hn : n ≤ 8) : ∀ (k i : Nat) (acc : List (Nat × Nat)) (nv : CV) (bl : List Blk), i + k = n + 1 → acc.length = i → Own fZ 1 bl nv acc →
    ∃ nv' bl', r04_Make_R1 ([(1, .op (.loc 1) 0), (2, .op (.loc 2) 0), (3, .int .i64 u), (6, .op (.loc 6) 0), (7, .nils), (8, .int .i64 n), (9, .int .i64 i)], ⟨[(1, draftC d), (2, zeroL), (6, box6 nv .nils .nils .nils)], bl⟩) =
      some (.norm, [(1, .op (.loc 1) 0), (2, .op (.loc 2) 0), (3, .int .i64 u), (6, .op (.loc 6) 0), (7, .nils), (8, .int .i64 n)], ⟨[(1, draftC d), (2, zeroL), (6, box6 nv' .nils .nils .nils)], bl'⟩) ∧ Own fZ 1 bl' nv' (acc ++ rowFrom u i k) := by
  intro k
  induction k with
  | zero =>
    intro i acc nv bl hi ha hO
    refine ⟨nv, bl, ?_, by simpa [rowFrom] using hO⟩
    have h1 : ¬ ((i : Int) ≤ n) := by omega
    rw [r04_Make_R1_eq]
    simp only [r04_Make_B1, r04_Make_K1_a, h1, hO.locv, zy, simprocAttr]
  | succ k ih =>
    intro i acc nv bl hi ha hO
    have h1 : ((i : Int) ≤ n) := by omega
    have hw := wrapN (n := i) (by unfold Zc.small; omega)
    have hw2 : IntKind.i64.wrap (u * i) = u * i := by
      have h2 : 0 ≤ u * (i : Int) := Int.mul_nonneg hu.1 (by omega)
      have h3 : u * (i : Int) ≤ 200 * 9 := Int.mul_le_mul hu.2 (by omega) (by omega) (by omega)
      exact wrap64 (by omega) (by omega)
    obtain ⟨v1, bl1, e1, o1, _⟩ := hO.app1 flatZ (bytes := 16) (zero := [.cplx .f64 0 0]) (by decide) rfl rfl (fl (u * i), 0) (by omega)
    simp only [fZ, fl] at e1
    obtain ⟨nv', bl', e, o⟩ := ih (i + 1) _ v1 bl1 (by omega) (by simp [ha]) o1
    refine ⟨nv', bl', ?_, by simpa [rowFrom] using o⟩
    rw [r04_Make_R1_eq]
    simp only [r04_Make_B1, r04_Make_K1_a, h1, hw, hw2, e1, hO.locv, o1.locv, o1.one, o1.cells, e, zy, simprocAttr]

theorem pairs_loop (d : Draft) (u : Int) (n : Nat) (hn : n ≤ 8) (nodes : List (Nat × Nat)) (nv : CV) : ∀ (k i : Nat) (acc : List Ed) (v : CV) (bl : List Blk), i + k = n → acc.length = i → Own fE 2 bl v acc → Own fZ 1 bl nv nodes → Dj v nv →
    ∃ v' bl', r04_Make_R3 ([(1, .op (.loc 1) 0), (2, .op (.loc 2) 0), (3, .int .i64 u), (6, .op (.loc 6) 0), (7, v), (8, .int .i64 n), (10, .int .i64 i)], ⟨[(1, draftC d), (2, zeroL), (6, box6 nv .nils .nils .nils)], bl⟩) =
      some (.norm, [(1, .op (.loc 1) 0), (2, .op (.loc 2) 0), (3, .int .i64 u), (6, .op (.loc 6) 0), (7, v')], ⟨[(1, draftC d), (2, zeroL), (6, box6 nv .nils .nils .nils)], bl'⟩) ∧ Own fE 2 bl' v' (acc ++ pairsFrom i k) ∧ Own fZ 1 bl' nv nodes ∧ Dj v' nv := by
  intro k
  induction k with
  | zero =>
    intro i acc v bl hi ha hO hN hd
    refine ⟨v, bl, ?_, by simpa [pairsFrom] using hO, hN, hd⟩
    have h1 : ¬ ((i : Int) < n) := by omega
    rw [r04_Make_R3_eq]
    simp only [r04_Make_B3, r04_Make_K3_a, h1, hO.chkV, hN.locv, zy, simprocAttr]
  | succ k ih =>
    intro i acc v bl hi ha hO hN hd
    have h1 : ((i : Int) < n) := by omega
    have hw := wrapN (n := i) (by unfold Zc.small; omega)
    obtain ⟨v1, bl1, e1, o1, _, hf, hb⟩ := hO.app1 flatE (bytes := 16) (zero := [.int .i64 0, .int .i64 0]) (by decide) rfl rfl ⟨i, (i + 1 : Nat)⟩ (by omega)
    simp only [fE] at e1
    obtain ⟨v', bl', e, o, o', d'⟩ := ih (i + 1) _ v1 bl1 (by omega) (by simp [ha]) o1 (hN.fr hf hd) (hd.grow hb fun _ h => hN.lt h)
    refine ⟨v', bl', ?_, by simpa [pairsFrom] using o, o', d'⟩
    rw [r04_Make_R3_eq]
    simp only [r04_Make_B3, r04_Make_K3_a, h1, hw, e1, hO.chkV, o1.chkV, hN.locv, e, zy, simprocAttr]

theorem secs_loop (d : Draft) (u : Int) (hu : 0 ≤ u ∧ u ≤ 200) (ends : List Ed) (he : ends.length ≤ 8) (nodes : List (Nat × Nat)) (nv ev tv : CV) (pts : List Pt) (ht : tv.locv = false) : ∀ (s p : List Ed) (acc : List Sec) (v : CV) (bl : List Blk), p ++ s = ends → acc.length = p.length →
    Own fS 3 bl v acc → Own fE 2 bl ev ends → OwnF fZ 1 bl nv nodes → Dj v ev → Dj v nv →
    ∃ v' bl', r04_Make_R5 ([(1, .op (.loc 1) 0), (2, .op (.loc 2) 0), (3, .int .i64 u), (6, .op (.loc 6) 0), (7, ev), (11, .int .i64 p.length)], ⟨[(1, draftC d), (2, zeroL), (6, box6 nv v .nils tv)], bl⟩) =
      some (.norm, [(1, .op (.loc 1) 0), (2, .op (.loc 2) 0), (3, .int .i64 u), (6, .op (.loc 6) 0), (7, ev)], ⟨[(1, draftC d), (2, zeroL), (6, box6 nv v' .nils tv)], bl'⟩) ∧ Own fS 3 bl' v' (acc ++ mkSecs u p.length s) ∧ Own fE 2 bl' ev ends ∧ OwnF fZ 1 bl' nv nodes ∧ Dj v' ev ∧ Dj v' nv
  | [], p, acc, v, bl, hp, ha, hO, hE, hN, d1, d2 => by
    refine ⟨v, bl, ?_, by simpa [mkSecs] using hO, hE, hN, d1, d2⟩
    have h1 : ¬ ((p.length : Int) < ends.length) := by rw [← hp]; simp
    rw [r04_Make_R5_eq]
    simp only [r04_Make_B5, r04_Make_K5_a, h1, hE.len, hE.chkV, hO.locv, hN.locv, ht, zy, simprocAttr]
  | x :: s, p, acc, v, bl, hp, ha, hO, hE, hN, d1, d2 => by
    have hpl : p.length + 1 + s.length = ends.length := by rw [← hp]; simp; omega
    have h1 : ((p.length : Int) < ends.length) := by omega
    have hw := wrapN (n := p.length) (by unfold Zc.small; omega)
    have hw2 : IntKind.i64.wrap (2 * u) = 2 * u := wrap64 (by omega) (by omega)
    have h3 : ((p.length : Int)).tmod 3 = (p.length % 3 : Nat) := by rw [Int.tmod_eq_emod_of_nonneg (by omega)]; omega
    have hw3 : IntKind.i64.wrap (2 * u + (p.length % 3 : Nat)) = 2 * u + (p.length % 3 : Nat) := wrap64 (by omega) (by omega)
    obtain ⟨m, hi, hm, hv⟩ := hE.iaddr flatE (k := .i64) (i := p.length) (by omega)
    have hg : ∀ bx, Heap.get ⟨bx, bl⟩ (.blk m) = some (ends.flatMap fE) := fun bx => get_blk bx bl m _ hm
    have hdr : (ends.flatMap fE).drop (p.length * 2) = .int .i64 x.s :: .int .i64 x.e :: s.flatMap fE := by rw [← hp]; exact drop_mid flatE p s x
    have hdr1 : (ends.flatMap fE).drop (p.length * 2 + 1) = .int .i64 x.e :: s.flatMap fE := by rw [← List.drop_drop, hdr]; rfl
    obtain ⟨v1, bl1, e1, o1, _, hf, hb⟩ := hO.app1 flatS (bytes := 24) (zero := [.int .i64 0, .int .i64 0, .int .i64 0]) (by decide) rfl rfl ⟨2 * u + (p.length % 3 : Nat), x.s, x.e⟩ (by omega)
    simp only [fS] at e1
    obtain ⟨v', bl', e, o, o2, o3, d3, d4⟩ := secs_loop d u hu ends he nodes nv ev tv pts ht s (p ++ [x]) _ v1 bl1 (by simpa using hp) (by simp [ha]) o1 (hE.fr hf d1) (hN.fr hf d2) (d1.grow hb fun _ h => hE.lt h) (d2.grow hb fun _ h => hN.lt h)
    simp only [List.append_assoc, List.cons_append, List.nil_append, List.length_append, List.length_cons, List.length_nil] at e
    refine ⟨v', bl', ?_, by simpa [mkSecs] using o, o2, o3, d3, d4⟩
    rw [r04_Make_R5_eq]
    simp only [r04_Make_B5, r04_Make_K5_a, h1, hE.len, hw, hw2, h3, hw3, hi, hg, hdr, hdr1, e1, hE.chkV, hO.locv, o1.locv, o1.one, o1.cells, hN.locv, ht, e, zy, simprocAttr]
end Go.Proofs.YtlhjpcgfkkhogaaGreat.Zt
end
section
namespace Go.Proofs.YtlhjpcgfkkhogaaGreat.Zt
open Go Go.Zc
set_option maxRecDepth 10000

theorem addLast_app (x : Int) : ∀ (ps : List (List Int)) (p : List Int), addLast x (ps ++ [p]) = ps ++ [p ++ [x]]
  | [], _ => rfl
  | [q], p => rfl
  | q :: r :: ps, p => by
    have := addLast_app x (r :: ps) p
    simp only [List.cons_append] at this ⊢
    simp only [addLast, this]

theorem djL_grow {ids ids' : List Nat} {bl : List Blk} {w : CV} (h : DjL ids w) (hg : ∀ k ∈ ids', k ∈ ids ∨ bl.length ≤ k) (hl : ∀ k, blkOf w = some k → k < bl.length) : DjL ids' w := by
  intro k hk hm
  rcases hg k hm with h1 | h1
  · exact h k hk h1
  · have := hl k hk; omega

theorem parts_loop (d : Draft) (hd : d.ok) (u : Int) (n : Nat) (hn : n ≤ 8) (nodes : List (Nat × Nat)) (secs : List Sec) (nv sv ev tv : CV) (ht : tv.locv = false) (he : lenC ev = some (.int .i64 n)) (he2 : ∀ l, chkV l ev = true) :
    ∀ (k i : Nat) (acc : List (List Int)) (v : CV) (ids : List Nat) (bl : List Blk), i + k = n → acc.length ≤ i → (∀ p ∈ acc, p.length ≤ i) → (0 < i → acc ≠ []) → OwnL bl v ids acc → Own fS 3 bl sv secs → OwnF fZ 1 bl nv nodes → DjL ids sv → DjL ids nv →
    ∃ v' ids' bl', r04_Make_R7 ([(1, .op (.loc 1) 0), (2, .op (.loc 2) 0), (3, .int .i64 u), (6, .op (.loc 6) 0), (7, ev), (12, .int .i64 i)], ⟨[(1, draftC d), (2, zeroL), (6, box6 nv sv v tv)], bl⟩) =
      some (.norm, [(1, .op (.loc 1) 0), (2, .op (.loc 2) 0), (3, .int .i64 u), (6, .op (.loc 6) 0)], ⟨[(1, draftC d), (2, zeroL), (6, box6 nv sv v' tv)], bl'⟩) ∧ OwnL bl' v' ids' (mkParts d.join i k acc) ∧ Own fS 3 bl' sv secs ∧ OwnF fZ 1 bl' nv nodes := by
  intro k
  induction k with
  | zero =>
    intro i acc v ids bl hi ha hp hne hO hS hN d1 d2
    refine ⟨v, ids, bl, ?_, hO, hS, hN⟩
    have h1 : ¬ ((i : Int) < n) := by omega
    rw [r04_Make_R7_eq]
    simp only [r04_Make_B7, r04_Make_K7_a, h1, he, he2, hO.locv, hS.locv, hN.locv, ht, zy, simprocAttr]
  | succ k ih =>
    intro i acc v ids bl hi ha hp hne hO hS hN d1 d2
    have h1 : ((i : Int) < n) := by omega
    have hw := wrapN (n := i) (by unfold Zc.small; omega)
    have hm8 : ((i : Int)).tmod 8 = (i % 8 : Nat) := by rw [Int.tmod_eq_emod_of_nonneg (by omega)]; omega
    have hmin : min (i % 8) 8 = i % 8 := by omega
    have hq0 : 0 ≤ d.join / 2 ^ (i % 8) := Int.ediv_nonneg hd.join.1 (Int.le_of_lt (Int.pow_pos (by decide)))
    have hshr : binC .shr .ifc (.int .u8 d.join) (.int .i64 ((i % 8 : Nat) : Int)) = some (.int .u8 (d.join / 2 ^ (i % 8))) := by
      rw [bin_shr _ _ _ _ _ (by omega)]
      simp only [Int.toNat_natCast, show IntKind.u8.bits = 8 from rfl, hmin]
      rw [Int.fdiv_eq_ediv_of_nonneg _ (Int.le_of_lt (Int.pow_pos (by decide)))]
    have hm2 : (d.join / 2 ^ (i % 8)).tmod 2 = d.join / 2 ^ (i % 8) % 2 := Int.tmod_eq_emod_of_nonneg hq0
    have new : joinAt d.join i = false → ((i : Int) > 0 → ¬ (d.join / 2 ^ (i % 8) % 2 = 1)) → ∃ v' ids' bl', r04_Make_R7 ([(1, .op (.loc 1) 0), (2, .op (.loc 2) 0), (3, .int .i64 u), (6, .op (.loc 6) 0), (7, ev), (12, .int .i64 i)], ⟨[(1, draftC d), (2, zeroL), (6, box6 nv sv v tv)], bl⟩) =
        some (.norm, [(1, .op (.loc 1) 0), (2, .op (.loc 2) 0), (3, .int .i64 u), (6, .op (.loc 6) 0)], ⟨[(1, draftC d), (2, zeroL), (6, box6 nv sv v' tv)], bl'⟩) ∧ OwnL bl' v' ids' (mkParts d.join i (k + 1) acc) ∧ Own fS 3 bl' sv secs ∧ OwnF fZ 1 bl' nv nodes := by
      intro hj hj'
      obtain ⟨v1, bl1, ids1, e1, o1, f1, g1⟩ := hO.appNew i (by omega)
      obtain ⟨v', ids', bl', e, o, o2, o3⟩ := ih (i + 1) (acc ++ [[(i : Int)]]) v1 ids1 bl1 (by omega) (by simp; omega) (by
        intro p hp'
        rcases List.mem_append.1 hp' with h | h
        · have := hp p h; omega
        · simp only [List.mem_singleton] at h; subst h; simp) (by simp) o1 (hS.frL f1 d1) (hN.frL f1 d2) (djL_grow d1 g1 fun _ h => hS.lt h) (djL_grow d2 g1 fun _ h => hN.lt h)
      refine ⟨v', ids', bl', ?_, by simpa only [mkParts, hj, Bool.false_eq_true, if_false] using o, o2, o3⟩
      rw [r04_Make_R7_eq]
      by_cases h0 : (0 : Int) < i
      · have hj' := hj' h0
        simp only [r04_Make_B7, r04_Make_K7_a, h1, he, he2, h0, hm8, hshr, hm2, hj', hw, e1, hO.locv, o1.locv, o1.one, o1.cells, hS.locv, hN.locv, ht, e, zy, simprocAttr]
      · simp only [r04_Make_B7, r04_Make_K7_a, h1, he, he2, h0, hw, e1, hO.locv, o1.locv, o1.one, o1.cells, hS.locv, hN.locv, ht, e, zy, simprocAttr]
    by_cases h0 : 0 < i
    · by_cases hb : d.join / 2 ^ (i % 8) % 2 = 1
      · have h0' : (0 : Int) < i := by omega
        have hj : joinAt d.join i = true := by simp [joinAt, h0, hb]
        obtain ⟨ps, p, rfl⟩ : ∃ ps p, acc = ps ++ [p] := ⟨acc.dropLast, acc.getLast (hne h0), (List.dropLast_concat_getLast (hne h0)).symm⟩
        have hpl := hp p (by simp)
        obtain ⟨m, kk, w, bl0, bl1, ids1, hia, ⟨cs, hg, hh⟩, e1, hwl, hwo, ⟨cs1, hg1, hst⟩, o1, f1, g1⟩ := hO.appLast (i : Int) (by omega)
        have hsub : IntKind.i64.wrap (((ps ++ [p]).length : Int) - 1) = (ps.length : Int) := by 
          simp only [List.length_append, List.length_cons, List.length_nil] at ha ⊢
          rw [wrap64 (by omega) (by omega)]; omega
        obtain ⟨v', ids', bl', e, o, o2, o3⟩ := ih (i + 1) (ps ++ [p ++ [(i : Int)]]) v ids1 bl1 (by omega) (by simp at ha ⊢; omega) (by
          intro q hq
          rcases List.mem_append.1 hq with h | h
          · have := hp q (by simp [h]); omega
          · simp only [List.mem_singleton] at h; subst h; simp; omega) (by simp) o1 (hS.frL f1 d1) (hN.frL f1 d2) (djL_grow d1 g1 fun _ h => hS.lt h) (djL_grow d2 g1 fun _ h => hN.lt h)
        refine ⟨v', ids', bl', ?_, by simpa only [mkParts, hj, if_true, addLast_app] using o, o2, o3⟩
        rw [r04_Make_R7_eq]
        simp only [r04_Make_B7, r04_Make_K7_a, h1, he, he2, h0', hm8, hshr, hm2, hb, hw, hO.len, hsub, hia, hg, hh, e1, hg1, hst, hwl, hwo, hO.locv, hS.locv, hN.locv, ht, e, zy, simprocAttr]
      · exact new (by simp [joinAt, hb]) (fun _ => hb)
    · exact new (by simp [joinAt, h0]) (fun h => absurd h (by omega))
end Go.Proofs.YtlhjpcgfkkhogaaGreat.Zt
end
section
namespace Go.Proofs.YtlhjpcgfkkhogaaGreat.Zt
open Go Go.Zc
set_option maxRecDepth 10000

theorem snap_Z (H : Heap) (st kn : Bool) (n : Nat) : ∀ x : Nat × Nat, ∀ c ∈ fZ x, snapN H st kn (n + 1) c = some c := by
  intro x c hc
  simp only [fZ, List.mem_cons, List.not_mem_nil, or_false] at hc
  subst hc
  rfl
theorem snap_S (H : Heap) (st kn : Bool) (n : Nat) : ∀ x : Sec, ∀ c ∈ fS x, snapN H st kn (n + 1) c = some c := by
  intro x c hc
  simp only [fS, List.mem_cons, List.not_mem_nil, or_false] at hc
  rcases hc with rfl | rfl | rfl <;> rfl

theorem rowFrom_eq (u : Int) : ∀ (k i : Nat), rowFrom u i k = (List.range' i k).map fun (j : Nat) => fl2 (u * (j : Int), 0)
  | 0, _ => rfl
  | k + 1, i => by simp only [rowFrom, rowFrom_eq u k (i + 1), List.range'_succ, List.map_cons, fl2, fl_zero]
theorem pairsFrom_eq : ∀ (k i : Nat), pairsFrom i k = (List.range' i k).map fun (j : Nat) => (⟨(j : Int), ((j + 1 : Nat) : Int)⟩ : Ed)
  | 0, _ => rfl
  | k + 1, i => by simp only [pairsFrom, pairsFrom_eq k (i + 1), List.range'_succ, List.map_cons]

theorem mkSecs_length (u : Int) : ∀ (i : Nat) (l : List Ed), (mkSecs u i l).length = l.length
  | _, [] => rfl
  | i, x :: l => by simp [mkSecs, mkSecs_length u (i + 1) l]
theorem addLast_ne {x : Int} : ∀ {l : List (List Int)}, l ≠ [] → addLast x l ≠ []
  | [], h => h
  | [_], _ => by simp [addLast]
  | _ :: _ :: _, _ => by simp [addLast]
theorem mkParts_ne (j : Int) : ∀ (n i : Nat) (acc : List (List Int)), (0 < n ∨ acc ≠ []) → (0 < i → acc ≠ []) → mkParts j i n acc ≠ []
  | 0, _, acc, h, _ => by simpa [mkParts] using h
  | n + 1, i, acc, h, h' => by
    simp only [mkParts]
    have : (if joinAt j i then addLast i acc else acc ++ [[(i : Int)]]) ≠ [] := by
      split
      · rename_i hj
        exact addLast_ne (h' (by simp [joinAt] at hj; exact hj.1))
      · simp
    exact mkParts_ne j n (i + 1) _ (.inr this) (fun _ => this)
theorem mkEnds_len (form : Int) : 3 ≤ (mkEnds form).length ∧ (mkEnds form).length ≤ 8 := by
  unfold mkEnds
  split
  · simp only [List.length_map, List.length_range, mkN]; omega
  · split
    · simp
    · split <;> simp

/-- What is made, cell by cell: the points may be none. -/
def makeC (d : Draft) : List CV := [sl fZ (make d).nodes, sl fS (make d).secs, sl fL (make d).parts, nz fP (make d).pts, .nils, .int .i64 (make d).speed, .int .i64 (make d).mute, .int .i64 (make d).wait, .int .i64 (make d).cancel, .int .i64 (make d).stay]

/-- What is reckoned of a draft's numbers. -/
structure Nums (d : Draft) : Prop where
  len : d.len.tmod 20 = d.len % 20
  w1 : IntKind.i64.wrap (d.len % 20) = d.len % 20
  w2 : IntKind.i64.wrap (1 + d.len % 20) = 1 + d.len % 20
  w3 : IntKind.i64.wrap (10 * (1 + d.len % 20)) = unitOf d.len
  w4 : IntKind.i64.wrap (2 * unitOf d.len) = 2 * unitOf d.len
  form : d.form.tmod 4 = d.form % 4
  f1 : IntKind.u8.wrap (d.form.tdiv 4) = d.form / 4
  f2 : (d.form / 4).tmod 6 = d.form / 4 % 6
  f3 : IntKind.i64.wrap (d.form / 4 % 6) = d.form / 4 % 6
  f4 : IntKind.i64.wrap (3 + d.form / 4 % 6) = (mkN d.form : Int)
  s1 : IntKind.i64.wrap d.speed = d.speed
  s2 : d.speed.tmod (2 * unitOf d.len) = d.speed % (2 * unitOf d.len)
  s3 : IntKind.i64.wrap (1 + d.speed % (2 * unitOf d.len)) = 1 + d.speed % (2 * unitOf d.len)
  s4 : ¬ 2 * unitOf d.len = 0
  m1 : d.mute.tmod 1000 = d.mute % 1000
  m2 : IntKind.i64.wrap (d.mute % 1000) = d.mute % 1000
  m3 : IntKind.i64.wrap (1 + d.mute % 1000) = 1 + d.mute % 1000
  a1 : d.wait.tmod 1000 = d.wait % 1000
  a2 : IntKind.i64.wrap (d.wait % 1000) = d.wait % 1000
  a3 : IntKind.i64.wrap (1 + d.wait % 1000) = 1 + d.wait % 1000
  c1 : IntKind.i64.wrap d.cancel = d.cancel
  c2 : IntKind.i64.wrap (1 + d.cancel) = 1 + d.cancel
  t1 : d.stay.tmod 4 = d.stay % 4
  t2 : IntKind.i64.wrap (d.stay % 4) = d.stay % 4

theorem nums (d : Draft) (h : d.ok) : Nums d := by
  have h1 := h.form; have h2 := h.len; have h3 := h.speed; have h4 := h.mute; have h5 := h.wait; have h6 := h.cancel; have h7 := h.stay
  have hu : unitOf d.len = 10 * (1 + d.len % 20) := rfl
  have hu1 : 10 ≤ unitOf d.len := by rw [hu]; omega
  have hu2 : unitOf d.len ≤ 200 := by rw [hu]; omega
  have hs : 0 ≤ d.speed % (2 * unitOf d.len) ∧ d.speed % (2 * unitOf d.len) < 2 * unitOf d.len := ⟨Int.emod_nonneg _ (by omega), Int.emod_lt_of_pos _ (by omega)⟩
  refine ⟨Int.tmod_eq_emod_of_nonneg h2.1, wrap64 (by omega) (by omega), wrap64 (by omega) (by omega), ?_, wrap64 (by omega) (by omega), Int.tmod_eq_emod_of_nonneg h1.1, ?_, Int.tmod_eq_emod_of_nonneg (by omega), wrap64 (by omega) (by omega), ?_,
    wrap64 (by omega) (by omega), Int.tmod_eq_emod_of_nonneg h3.1, wrap64 (by omega) (by omega), by omega, Int.tmod_eq_emod_of_nonneg h4.1, wrap64 (by omega) (by omega), wrap64 (by omega) (by omega), Int.tmod_eq_emod_of_nonneg h5.1, wrap64 (by omega) (by omega), wrap64 (by omega) (by omega),
    wrap64 (by omega) (by omega), wrap64 (by omega) (by omega), Int.tmod_eq_emod_of_nonneg h7.1, wrap64 (by omega) (by omega)⟩
  · rw [wrap64 (by omega) (by omega)]; rfl
  · rw [Int.tdiv_eq_ediv_of_nonneg h1.1, IntKind.wrap_u8]; omega
  · rw [wrap64 (by omega) (by omega)]; unfold mkN; omega

set_option maxHeartbeats 2000000 in
theorem make_F0 (d : Draft) (hd : d.ok) (hf : d.form % 4 = 0) (H : Heap) : r04_Make_F false H [.agg (draftC d)] = some (.agg (makeC d), H) := by
  have nm := nums d hd
  have hu : 0 ≤ unitOf d.len ∧ unitOf d.len ≤ 200 := by have := hd.len; unfold unitOf; omega
  have hn : mkN d.form ≤ 8 := by unfold mkN; omega
  have hn3 : 3 ≤ mkN d.form := by unfold mkN; omega
  obtain ⟨nv, bl1, e1, o1⟩ := row_loop d (unitOf d.len) hu (mkN d.form) hn (mkN d.form + 1) 0 [] .nils [] (by omega) rfl (Own.nil _ _ _)
  obtain ⟨ev, bl2, e2, o2, o3, d1⟩ := pairs_loop d (unitOf d.len) (mkN d.form) hn _ nv (mkN d.form) 0 [] .nils bl1 (by omega) rfl (Own.nil _ _ _) o1 (Dj.nils _)
  have hE : ([] : List Ed) ++ pairsFrom 0 (mkN d.form) = mkEnds d.form := by
    simp only [List.nil_append, mkEnds, if_pos hf, pairsFrom_eq, List.range_eq_range']
  have hN : ([] : List (Nat × Nat)) ++ rowFrom (unitOf d.len) 0 (mkN d.form + 1) = (make d).nodes := by
    simp only [List.nil_append, make, mkXY, if_pos hf, rowFrom_eq, List.range_eq_range', List.map_map]
    rfl
  rw [hE] at o2
  rw [hN] at o3
  have hel := mkEnds_len d.form
  obtain ⟨sv, bl3, e3, o4, o5, o6, d2, d3⟩ := secs_loop d (unitOf d.len) hu (mkEnds d.form) hel.2 _ nv ev .nils [] rfl (mkEnds d.form) [] [] .nils bl2 rfl rfl (Own.nil _ _ _) o2 (.inr o3) (Dj.nils _) (Dj.nils _)
  obtain ⟨pv, ids, bl4, e4, o7, o8, o9⟩ := parts_loop d hd (unitOf d.len) (mkEnds d.form).length hel.2 _ _ nv sv ev .nils rfl o5.len o5.chkV (mkEnds d.form).length 0 [] .nils [] bl3 (by omega) (by simp) (by simp) (by omega) (.inl ⟨rfl, rfl, rfl⟩) o4 o6 (by intro k _ h; simp at h) (by intro k _ h; simp at h)
  simp only [List.nil_append, List.length_nil, Int.natCast_zero] at e1 e2 e3 e4 o7 o8
  have hN0 : (make d).nodes ≠ [] := by simp [make, mkXY, hf]
  have hS0 : mkSecs (unitOf d.len) 0 (mkEnds d.form) ≠ [] := by
    intro h
    have := mkSecs_length (unitOf d.len) 0 (mkEnds d.form)
    rw [h] at this; simp at this; omega
  have hP0 := mkParts_ne d.join (mkEnds d.form).length 0 [] (.inl (by omega)) (by omega)
  have s1 : ∀ bx, snapV ⟨bx, bl4⟩ false true (snapN ⟨bx, bl4⟩ false true 7) nv = some (sl fZ (make d).nodes) := fun bx => by
    rcases o9 with rfl | o9
    · rfl
    · exact o9.snapK flatZ hN0 bx _ _ _ (snap_Z _ _ _ 6)
  have s2 : ∀ bx, snapV ⟨bx, bl4⟩ false true (snapN ⟨bx, bl4⟩ false true 7) sv = some (sl fS (make d).secs) := fun bx => o8.snapK flatS hS0 bx _ _ _ (snap_S _ _ _ 6)
  have s3 : ∀ bx, snapV ⟨bx, bl4⟩ false true (snapN ⟨bx, bl4⟩ false true 7) pv = some (sl fL (make d).parts) := fun bx => o7.snapK hP0 bx _ _ 5
  have hpt : nz fP (make d).pts = .nils := by simp only [make, mkPts, if_pos hf, nz]
  obtain ⟨q1, q2, q3, q4, q5, q6, q7, q8, q9, q10, q11, q12, q13, q14, q15, q16, q17, q18, q19, q20, q21, q22, q23, q24⟩ := nm
  rw [r04_Make_F_eq]
  simp only [r04_Make_C, r04_Make_L1_eq, r04_Make_L3_eq, r04_Make_L5_eq, r04_Make_L7_eq, q1, q2, q3, q4, q5, q6, q7, q8, q9, q10, q11, q12, q13, q14, q15, q16, q17, q18, q19, q20, q21, q22, q23, q24, hf, e1, e2, e3, e4, o1.locv, o2.chkV, o2.locv, o3.locv, o5.chkV, o8.locv, o8.one, o8.und, o9.locv, o9.one, o9.und, o7.locv, o7.one, o7.und, s1, s2, s3, makeC, hpt, zy, simprocAttr]
  simp only [make]

theorem floats (d : Draft) (hd : d.ok) :
    (binC .mul .ifc (.cplx .f64 4611686018427387904 0) (.cplx .f64 (FloatKind.nearest .f64 (unitOf d.len)) 0) = some (.cplx .f64 (FloatKind.nearest .f64 (2 * unitOf d.len)) 0)) ∧
    (binC .mul .ifc (.cplx .f64 4613937818241073152 0) (.cplx .f64 (FloatKind.nearest .f64 (unitOf d.len)) 0) = some (.cplx .f64 (FloatKind.nearest .f64 (3 * unitOf d.len)) 0)) ∧
    (binC .mul .ifc (.cplx .f64 4616189618054758400 0) (.cplx .f64 (FloatKind.nearest .f64 (unitOf d.len)) 0) = some (.cplx .f64 (FloatKind.nearest .f64 (4 * unitOf d.len)) 0)) ∧
    (binC .mul .ifc (.cplx .f64 4617315517961601024 0) (.cplx .f64 (FloatKind.nearest .f64 (unitOf d.len)) 0) = some (.cplx .f64 (FloatKind.nearest .f64 (5 * unitOf d.len)) 0)) ∧
    (binC .mul .ifc (.cplx .f64 4618441417868443648 0) (.cplx .f64 (FloatKind.nearest .f64 (unitOf d.len)) 0) = some (.cplx .f64 (FloatKind.nearest .f64 (6 * unitOf d.len)) 0)) ∧
    (binC .add .ifc (.cplx .f64 (FloatKind.nearest .f64 (2 * unitOf d.len)) 0) (.cplx .f64 0 (FloatKind.nearest .f64 (unitOf d.len))) = some (.cplx .f64 (FloatKind.nearest .f64 (2 * unitOf d.len)) (FloatKind.nearest .f64 (unitOf d.len)))) ∧
    (binC .sub .ifc (.cplx .f64 (FloatKind.nearest .f64 (2 * unitOf d.len)) 0) (.cplx .f64 0 (FloatKind.nearest .f64 (unitOf d.len))) = some (.cplx .f64 (FloatKind.nearest .f64 (2 * unitOf d.len)) (FloatKind.nearest .f64 (-unitOf d.len)))) ∧
    (binC .add .ifc (.cplx .f64 (FloatKind.nearest .f64 (3 * unitOf d.len)) 0) (.cplx .f64 0 (FloatKind.nearest .f64 (unitOf d.len))) = some (.cplx .f64 (FloatKind.nearest .f64 (3 * unitOf d.len)) (FloatKind.nearest .f64 (unitOf d.len)))) ∧
    (binC .sub .ifc (.cplx .f64 (FloatKind.nearest .f64 (3 * unitOf d.len)) 0) (.cplx .f64 0 (FloatKind.nearest .f64 (unitOf d.len))) = some (.cplx .f64 (FloatKind.nearest .f64 (3 * unitOf d.len)) (FloatKind.nearest .f64 (-unitOf d.len)))) ∧
    (binC .add .ifc (.cplx .f64 (FloatKind.nearest .f64 (4 * unitOf d.len)) 0) (.cplx .f64 0 (FloatKind.nearest .f64 (unitOf d.len))) = some (.cplx .f64 (FloatKind.nearest .f64 (4 * unitOf d.len)) (FloatKind.nearest .f64 (unitOf d.len)))) ∧
    (binC .sub .ifc (.cplx .f64 (FloatKind.nearest .f64 (4 * unitOf d.len)) 0) (.cplx .f64 0 (FloatKind.nearest .f64 (unitOf d.len))) = some (.cplx .f64 (FloatKind.nearest .f64 (4 * unitOf d.len)) (FloatKind.nearest .f64 (-unitOf d.len)))) ∧
    (binC .quo .ifc (.cplx .f64 0 (FloatKind.nearest .f64 (unitOf d.len))) (.cplx .f64 4611686018427387904 0) = some (.cplx .f64 0 (FloatKind.nearest .f64 (unitOf d.len / 2)))) ∧
    ((binC .add .ifc (.cplx .f64 (FloatKind.nearest .f64 (3 * unitOf d.len)) 0) (.cplx .f64 0 (FloatKind.nearest .f64 (unitOf d.len / 2))) = some (.cplx .f64 (FloatKind.nearest .f64 (3 * unitOf d.len)) (FloatKind.nearest .f64 (unitOf d.len / 2)))) ∧
      binC .sub .ifc (.cplx .f64 (FloatKind.nearest .f64 (3 * unitOf d.len)) 0) (.cplx .f64 0 (FloatKind.nearest .f64 (unitOf d.len / 2))) = some (.cplx .f64 (FloatKind.nearest .f64 (3 * unitOf d.len)) (FloatKind.nearest .f64 (-(unitOf d.len / 2))))) := by
  have h1 := hd.len
  obtain ⟨k, hk⟩ := Int.eq_ofNat_of_zero_le (show 0 ≤ d.len % 20 by omega)
  have h := List.all_eq_true.1 okUs k (List.mem_range.2 (by omega))
  have hu : unitOf d.len = 10 * (1 + (k : Int)) := by unfold unitOf; rw [hk]
  rw [← hu] at h
  simp only [okU, okMul, okAdd, fl, Bool.and_eq_true] at h
  obtain ⟨⟨⟨⟨⟨⟨⟨⟨⟨a1, a2⟩, a3⟩, a4⟩, a5⟩, a6, a7⟩, a8, a9⟩, a10, a11⟩, a12, a13⟩, a14⟩ := h
  exact ⟨isC_eq a1, isC_eq a2, isC_eq a3, isC_eq a4, isC_eq a5, isC_eq a6, isC_eq a7, isC_eq a8, isC_eq a9, isC_eq a10, isC_eq a11, isC_eq a14, isC_eq a12, isC_eq a13⟩

set_option maxHeartbeats 2000000 in
theorem make_F1 (d : Draft) (hd : d.ok) (hf : d.form % 4 = 1) (H : Heap) : r04_Make_F false H [.agg (draftC d)] = some (.agg (makeC d), H) := by
  have nm := nums d hd
  have hu : 0 ≤ unitOf d.len ∧ unitOf d.len ≤ 200 := by have := hd.len; unfold unitOf; omega
  have g0 : ¬ d.form % 4 = 0 := by omega
  obtain ⟨p2, p3, p4, p5, p6, p7, p8, p9, p10, p11, p12, p13, p14⟩ := floats d hd
  have hN : CV.vs [.cplx .f64 0 0, .cplx .f64 (FloatKind.nearest .f64 (unitOf d.len)) 0, .cplx .f64 (FloatKind.nearest .f64 (2 * unitOf d.len)) (FloatKind.nearest .f64 (unitOf d.len)), .cplx .f64 (FloatKind.nearest .f64 (2 * unitOf d.len)) (FloatKind.nearest .f64 (-unitOf d.len))] 4 = sl fZ (make d).nodes := by
    simp only [make, mkXY, g0, hf, if_true, if_false, List.map_cons, List.map_nil, fl2, fl_zero]
    rfl
  have hP : CV.vs [.int .i64 1, .int .i64 0, .int .i64 1, .int .i64 2] 1 = sl fP (make d).pts := by
    simp only [make, mkPts, g0, hf, if_true, if_false]
    rfl
  have hE : Own fE 2 [.cells [.int .i64 0, .int .i64 1, .int .i64 1, .int .i64 2, .int .i64 3, .int .i64 1]] (.os 2 (.blk 0) 0 3) (mkEnds d.form) := by
    simp only [mkEnds, g0, hf, if_true, if_false]
    exact .inr ⟨0, rfl, rfl⟩
  have hel := mkEnds_len d.form
  obtain ⟨sv, bl3, e3, o4, o5, o6, d2, d3⟩ := secs_loop d (unitOf d.len) hu (mkEnds d.form) hel.2 (make d).nodes (sl fZ (make d).nodes) (.os 2 (.blk 0) 0 3) (sl fP (make d).pts) [] rfl (mkEnds d.form) [] [] .nils _ rfl rfl (Own.nil _ _ _) hE (.inl rfl) (Dj.nils _) (Dj.nils _)
  obtain ⟨pv, ids, bl4, e4, o7, o8, o9⟩ := parts_loop d hd (unitOf d.len) (mkEnds d.form).length hel.2 _ _ (sl fZ (make d).nodes) sv (.os 2 (.blk 0) 0 3) (sl fP (make d).pts) rfl o5.len o5.chkV (mkEnds d.form).length 0 [] .nils [] bl3 (by omega) (by simp) (by simp) (by omega) (.inl ⟨rfl, rfl, rfl⟩) o4 o6 (by intro k _ h; simp at h) (by intro k _ h; simp at h)
  simp only [List.nil_append, List.length_nil, Int.natCast_zero] at e3 e4 o7 o8
  have hS0 : mkSecs (unitOf d.len) 0 (mkEnds d.form) ≠ [] := by
    intro h
    have := mkSecs_length (unitOf d.len) 0 (mkEnds d.form)
    rw [h] at this; simp at this; omega
  have hP0 := mkParts_ne d.join (mkEnds d.form).length 0 [] (.inl (by omega)) (by omega)
  have s2 : ∀ bx, snapV ⟨bx, bl4⟩ false true (snapN ⟨bx, bl4⟩ false true 7) sv = some (sl fS (make d).secs) := fun bx => o8.snapK flatS hS0 bx _ _ _ (snap_S _ _ _ 6)
  have s3 : ∀ bx, snapV ⟨bx, bl4⟩ false true (snapN ⟨bx, bl4⟩ false true 7) pv = some (sl fL (make d).parts) := fun bx => o7.snapK hP0 bx _ _ 5
  have hpt : nz fP (make d).pts = sl fP (make d).pts := by simp only [make, mkPts, g0, hf, if_true, if_false, nz]; rfl
  obtain ⟨q1, q2, q3, q4, q5, q6, q7, q8, q9, q10, q11, q12, q13, q14, q15, q16, q17, q18, q19, q20, q21, q22, q23, q24⟩ := nm
  rw [r04_Make_F_eq]
  simp only [r04_Make_C, r04_Make_L5_eq, r04_Make_L7_eq, q1, q2, q3, q4, q5, q6, q10, q11, q12, q13, q14, q15, q16, q17, q18, q19, q20, q21, q22, q23, q24, g0, hf, p2, p3, p4, p5, p6, p7, p8, p9, p10, p11, p12, p13, p14, hN, hP, e3, e4, o5.chkV, o5.locv, o8.locv, o8.one, o8.und, o7.locv, o7.one, o7.und, s2, s3, makeC, hpt, one_cplx, und_cplx, cells_cplx, zy, simprocAttr]
  simp only [make]

set_option maxHeartbeats 2000000 in
theorem make_F2 (d : Draft) (hd : d.ok) (hf : d.form % 4 = 2) (H : Heap) : r04_Make_F false H [.agg (draftC d)] = some (.agg (makeC d), H) := by
  have nm := nums d hd
  have hu : 0 ≤ unitOf d.len ∧ unitOf d.len ≤ 200 := by have := hd.len; unfold unitOf; omega
  have g0 : ¬ d.form % 4 = 0 := by omega
  have g1 : ¬ d.form % 4 = 1 := by omega
  obtain ⟨p2, p3, p4, p5, p6, p7, p8, p9, p10, p11, p12, p13, p14⟩ := floats d hd
  have hN : CV.vs [.cplx .f64 0 0, .cplx .f64 (FloatKind.nearest .f64 (unitOf d.len)) 0, .cplx .f64 (FloatKind.nearest .f64 (2 * unitOf d.len)) 0, .cplx .f64 (FloatKind.nearest .f64 (3 * unitOf d.len)) (FloatKind.nearest .f64 (unitOf d.len / 2)), .cplx .f64 (FloatKind.nearest .f64 (3 * unitOf d.len)) (FloatKind.nearest .f64 (-(unitOf d.len / 2))), .cplx .f64 (FloatKind.nearest .f64 (4 * unitOf d.len)) 0, .cplx .f64 (FloatKind.nearest .f64 (5 * unitOf d.len)) 0, .cplx .f64 (FloatKind.nearest .f64 (6 * unitOf d.len)) 0] 8 = sl fZ (make d).nodes := by
    simp only [make, mkXY, g0, g1, hf, if_true, if_false, List.map_cons, List.map_nil, fl2, fl_zero]
    rfl
  have hP : CV.vs [.int .i64 2, .int .i64 1, .int .i64 2, .int .i64 3, .int .i64 5, .int .i64 6, .int .i64 4, .int .i64 5] 2 = sl fP (make d).pts := by
    simp only [make, mkPts, g0, g1, hf, if_true, if_false]
    rfl
  have hE : Own fE 2 [.cells [.int .i64 0, .int .i64 1, .int .i64 1, .int .i64 2, .int .i64 2, .int .i64 3, .int .i64 2, .int .i64 4, .int .i64 5, .int .i64 3, .int .i64 4, .int .i64 5, .int .i64 5, .int .i64 6, .int .i64 6, .int .i64 7]] (.os 2 (.blk 0) 0 8) (mkEnds d.form) := by
    simp only [mkEnds, g0, g1, hf, if_true, if_false]
    exact .inr ⟨0, rfl, rfl⟩
  have hel := mkEnds_len d.form
  obtain ⟨sv, bl3, e3, o4, o5, o6, d2, d3⟩ := secs_loop d (unitOf d.len) hu (mkEnds d.form) hel.2 (make d).nodes (sl fZ (make d).nodes) (.os 2 (.blk 0) 0 8) (sl fP (make d).pts) [] rfl (mkEnds d.form) [] [] .nils _ rfl rfl (Own.nil _ _ _) hE (.inl rfl) (Dj.nils _) (Dj.nils _)
  obtain ⟨pv, ids, bl4, e4, o7, o8, o9⟩ := parts_loop d hd (unitOf d.len) (mkEnds d.form).length hel.2 _ _ (sl fZ (make d).nodes) sv (.os 2 (.blk 0) 0 8) (sl fP (make d).pts) rfl o5.len o5.chkV (mkEnds d.form).length 0 [] .nils [] bl3 (by omega) (by simp) (by simp) (by omega) (.inl ⟨rfl, rfl, rfl⟩) o4 o6 (by intro k _ h; simp at h) (by intro k _ h; simp at h)
  simp only [List.nil_append, List.length_nil, Int.natCast_zero] at e3 e4 o7 o8
  have hS0 : mkSecs (unitOf d.len) 0 (mkEnds d.form) ≠ [] := by
    intro h
    have := mkSecs_length (unitOf d.len) 0 (mkEnds d.form)
    rw [h] at this; simp at this; omega
  have hP0 := mkParts_ne d.join (mkEnds d.form).length 0 [] (.inl (by omega)) (by omega)
  have s2 : ∀ bx, snapV ⟨bx, bl4⟩ false true (snapN ⟨bx, bl4⟩ false true 7) sv = some (sl fS (make d).secs) := fun bx => o8.snapK flatS hS0 bx _ _ _ (snap_S _ _ _ 6)
  have s3 : ∀ bx, snapV ⟨bx, bl4⟩ false true (snapN ⟨bx, bl4⟩ false true 7) pv = some (sl fL (make d).parts) := fun bx => o7.snapK hP0 bx _ _ 5
  have hpt : nz fP (make d).pts = sl fP (make d).pts := by simp only [make, mkPts, g0, g1, hf, if_true, if_false, nz]; rfl
  obtain ⟨q1, q2, q3, q4, q5, q6, q7, q8, q9, q10, q11, q12, q13, q14, q15, q16, q17, q18, q19, q20, q21, q22, q23, q24⟩ := nm
  rw [r04_Make_F_eq]
  simp only [r04_Make_C, r04_Make_L5_eq, r04_Make_L7_eq, q1, q2, q3, q4, q5, q6, q10, q11, q12, q13, q14, q15, q16, q17, q18, q19, q20, q21, q22, q23, q24, g0, g1, hf, p2, p3, p4, p5, p6, p7, p8, p9, p10, p11, p12, p13, p14, hN, hP, e3, e4, o5.chkV, o5.locv, o8.locv, o8.one, o8.und, o7.locv, o7.one, o7.und, s2, s3, makeC, hpt, one_cplx, und_cplx, cells_cplx, zy, simprocAttr]
  simp only [make]

set_option maxHeartbeats 2000000 in
theorem make_F3 (d : Draft) (hd : d.ok) (hf : d.form % 4 = 3) (H : Heap) : r04_Make_F false H [.agg (draftC d)] = some (.agg (makeC d), H) := by
  have nm := nums d hd
  have hu : 0 ≤ unitOf d.len ∧ unitOf d.len ≤ 200 := by have := hd.len; unfold unitOf; omega
  have g0 : ¬ d.form % 4 = 0 := by omega
  have g1 : ¬ d.form % 4 = 1 := by omega
  have g2 : ¬ d.form % 4 = 2 := by omega
  obtain ⟨p2, p3, p4, p5, p6, p7, p8, p9, p10, p11, p12, p13, p14⟩ := floats d hd
  have hN : CV.vs [.cplx .f64 0 0, .cplx .f64 (FloatKind.nearest .f64 (unitOf d.len)) 0, .cplx .f64 (FloatKind.nearest .f64 (2 * unitOf d.len)) 0, .cplx .f64 (FloatKind.nearest .f64 (3 * unitOf d.len)) (FloatKind.nearest .f64 (unitOf d.len)), .cplx .f64 (FloatKind.nearest .f64 (3 * unitOf d.len)) (FloatKind.nearest .f64 (-unitOf d.len)), .cplx .f64 (FloatKind.nearest .f64 (4 * unitOf d.len)) (FloatKind.nearest .f64 (unitOf d.len)), .cplx .f64 (FloatKind.nearest .f64 (4 * unitOf d.len)) (FloatKind.nearest .f64 (-unitOf d.len))] 7 = sl fZ (make d).nodes := by
    simp only [make, mkXY, g0, g1, g2, hf, if_true, if_false, List.map_cons, List.map_nil, fl2, fl_zero]
    rfl
  have hP : CV.vs [.int .i64 2, .int .i64 1, .int .i64 3, .int .i64 2] 1 = sl fP (make d).pts := by
    simp only [make, mkPts, g0, g1, g2, hf, if_true, if_false]
    rfl
  have hE : Own fE 2 [.cells [.int .i64 0, .int .i64 1, .int .i64 2, .int .i64 1, .int .i64 2, .int .i64 3, .int .i64 2, .int .i64 4, .int .i64 3, .int .i64 5, .int .i64 4, .int .i64 6]] (.os 2 (.blk 0) 0 6) (mkEnds d.form) := by
    simp only [mkEnds, g0, g1, g2, hf, if_true, if_false]
    exact .inr ⟨0, rfl, rfl⟩
  have hel := mkEnds_len d.form
  obtain ⟨sv, bl3, e3, o4, o5, o6, d2, d3⟩ := secs_loop d (unitOf d.len) hu (mkEnds d.form) hel.2 (make d).nodes (sl fZ (make d).nodes) (.os 2 (.blk 0) 0 6) (sl fP (make d).pts) [] rfl (mkEnds d.form) [] [] .nils _ rfl rfl (Own.nil _ _ _) hE (.inl rfl) (Dj.nils _) (Dj.nils _)
  obtain ⟨pv, ids, bl4, e4, o7, o8, o9⟩ := parts_loop d hd (unitOf d.len) (mkEnds d.form).length hel.2 _ _ (sl fZ (make d).nodes) sv (.os 2 (.blk 0) 0 6) (sl fP (make d).pts) rfl o5.len o5.chkV (mkEnds d.form).length 0 [] .nils [] bl3 (by omega) (by simp) (by simp) (by omega) (.inl ⟨rfl, rfl, rfl⟩) o4 o6 (by intro k _ h; simp at h) (by intro k _ h; simp at h)
  simp only [List.nil_append, List.length_nil, Int.natCast_zero] at e3 e4 o7 o8
  have hS0 : mkSecs (unitOf d.len) 0 (mkEnds d.form) ≠ [] := by
    intro h
    have := mkSecs_length (unitOf d.len) 0 (mkEnds d.form)
    rw [h] at this; simp at this; omega
  have hP0 := mkParts_ne d.join (mkEnds d.form).length 0 [] (.inl (by omega)) (by omega)
  have s2 : ∀ bx, snapV ⟨bx, bl4⟩ false true (snapN ⟨bx, bl4⟩ false true 7) sv = some (sl fS (make d).secs) := fun bx => o8.snapK flatS hS0 bx _ _ _ (snap_S _ _ _ 6)
  have s3 : ∀ bx, snapV ⟨bx, bl4⟩ false true (snapN ⟨bx, bl4⟩ false true 7) pv = some (sl fL (make d).parts) := fun bx => o7.snapK hP0 bx _ _ 5
  have hpt : nz fP (make d).pts = sl fP (make d).pts := by simp only [make, mkPts, g0, g1, g2, hf, if_true, if_false, nz]; rfl
  obtain ⟨q1, q2, q3, q4, q5, q6, q7, q8, q9, q10, q11, q12, q13, q14, q15, q16, q17, q18, q19, q20, q21, q22, q23, q24⟩ := nm
  rw [r04_Make_F_eq]
  simp only [r04_Make_C, r04_Make_L5_eq, r04_Make_L7_eq, q1, q2, q3, q4, q5, q6, q10, q11, q12, q13, q14, q15, q16, q17, q18, q19, q20, q21, q22, q23, q24, g0, g1, g2, hf, p2, p3, p4, p5, p6, p7, p8, p9, p10, p11, p12, p13, p14, hN, hP, e3, e4, o5.chkV, o5.locv, o8.locv, o8.one, o8.und, o7.locv, o7.one, o7.und, s2, s3, makeC, hpt, one_cplx, und_cplx, cells_cplx, zy, simprocAttr]
  simp only [make]


theorem make_F (d : Draft) (hd : d.ok) (H : Heap) : r04_Make_F false H [.agg (draftC d)] = some (.agg (makeC d), H) := by
  have : d.form % 4 = 0 ∨ d.form % 4 = 1 ∨ d.form % 4 = 2 ∨ d.form % 4 = 3 := by omega
  rcases this with h | h | h | h
  · exact make_F0 d hd h H
  · exact make_F1 d hd h H
  · exact make_F2 d hd h H
  · exact make_F3 d hd h H
end Go.Proofs.YtlhjpcgfkkhogaaGreat.Zt
end
section
namespace Go.Proofs.YtlhjpcgfkkhogaaGreat.Zt
open Go Go.Zc
set_option maxRecDepth 10000

theorem mkSecs_ok (u : Int) : ∀ (i : Nat) (l : List Ed), (mkSecs u i l).length = l.length := mkSecs_length u
theorem addLast_len (x : Int) : ∀ (l : List (List Int)), (addLast x l).length = l.length
  | [] => rfl
  | [_] => rfl
  | a :: b :: l => by simp only [addLast, List.length_cons, addLast_len x (b :: l)]
theorem addLast_mem (x : Int) : ∀ (l : List (List Int)) (n : Nat), (∀ p ∈ l, p.length ≤ n) → ∀ p ∈ addLast x l, p.length ≤ n + 1
  | [], _, _, p, hp => by simp [addLast] at hp
  | [q], n, h, p, hp => by
    have := h q (by simp)
    simp only [addLast, List.mem_singleton] at hp; subst hp; simp; omega
  | a :: b :: l, n, h, p, hp => by
    simp only [addLast, List.mem_cons] at hp
    rcases hp with rfl | hp
    · have := h p (by simp); omega
    · exact addLast_mem x (b :: l) n (fun q hq => h q (by simp [List.mem_cons.1 hq])) p hp
theorem mkParts_ok (j : Int) : ∀ (n i : Nat) (acc : List (List Int)), acc.length ≤ i → (∀ p ∈ acc, p.length ≤ i + 1) → (mkParts j i n acc).length ≤ i + n ∧ ∀ p ∈ mkParts j i n acc, p.length ≤ i + n + 1
  | 0, _, _, h, h' => ⟨by simpa [mkParts] using h, by simpa [mkParts] using h'⟩
  | n + 1, i, acc, h, h' => by
    simp only [mkParts]
    have := mkParts_ok j n (i + 1) (if joinAt j i then addLast i acc else acc ++ [[(i : Int)]]) (by split <;> simp [addLast_len] <;> omega) (by
      split
      · exact addLast_mem i acc (i + 1) h'
      · intro p hp
        rcases List.mem_append.1 hp with hp | hp
        · have := h' p hp; omega
        · simp only [List.mem_singleton] at hp; subst hp; simp)
    rw [show i + (n + 1) = i + 1 + n by omega]
    exact this
theorem mkXY_len (form u : Int) : (mkXY form u).length ≤ 9 := by
  unfold mkXY
  split
  · simp [mkN]; omega
  · split
    · simp
    · split <;> simp
theorem mkPts_len (form : Int) : (mkPts form).length ≤ 2 := by
  unfold mkPts
  split
  · simp
  · split
    · simp
    · split <;> simp
theorem make_ok (d : Draft) (r : List (List Int)) (h1 : r.length ≤ 16) (h2 : ∀ p ∈ r, p.length ≤ 7) : ({ make d with routes := r } : Lay).ok := by
  have ha := mkEnds_len d.form
  have hb := mkSecs_length (unitOf d.len) 0 (mkEnds d.form)
  have hc := mkParts_ok d.join (mkEnds d.form).length 0 [] (by simp) (by simp)
  have hd := mkXY_len d.form (unitOf d.len)
  have he := mkPts_len d.form
  refine ⟨?_, ?_, ?_, ?_, ?_, fun p hp => ?_, fun p hp => ?_⟩
  · simp only [make, List.length_map]; unfold Zc.small; omega
  · simp only [make]; unfold Zc.small; omega
  · simp only [make]; unfold Zc.small; omega
  · simp only [make]; unfold Zc.small; omega
  · simp only; unfold Zc.small; omega
  · have := hc.2 p hp; unfold Zc.small; omega
  · have := h2 p hp; unfold Zc.small; omega
theorem full_ok (d : Draft) : (full d).ok := by
  have := fullFrom_ok (make d) d.routes [] (by simp) (by simp)
  exact make_ok d _ this.1 this.2

theorem snap_L (H : Heap) (kn : Bool) (n : Nat) : ∀ x : List Int, ∀ c ∈ fL x, snapN H false kn (n + 1) c = some c := by
  intro x c hc
  simp only [fL, List.mem_cons, List.not_mem_nil, or_false] at hc
  subst hc
  rfl

set_option maxHeartbeats 1000000 in
theorem full_loop (d : Draft) (hd : d.ok) : ∀ (s p : List (List Int)) (acc : List (List Int)) (v : CV) (bl : List Blk), p ++ s = d.routes → acc.length ≤ 16 → (∀ q ∈ acc, q.length ≤ 7) → Own fL 1 bl v acc →
    ∃ v' bl', r05_Full_R0 ([(1, .op (.loc 1) 0), (2, .op (.loc 2) 0), (3, .op (.loc 3) 0), (4, .int .i64 p.length)], ⟨[(1, draftC d), (2, zeroL), (3, [sl fZ (make d).nodes, sl fS (make d).secs, sl fL (make d).parts, nz fP (make d).pts, v, .int .i64 (make d).speed, .int .i64 (make d).mute, .int .i64 (make d).wait, .int .i64 (make d).cancel, .int .i64 (make d).stay])], bl⟩) =
      some (.norm, [(2, .op (.loc 2) 0), (3, .op (.loc 3) 0)], ⟨[(2, zeroL), (3, [sl fZ (make d).nodes, sl fS (make d).secs, sl fL (make d).parts, nz fP (make d).pts, v', .int .i64 (make d).speed, .int .i64 (make d).mute, .int .i64 (make d).wait, .int .i64 (make d).cancel, .int .i64 (make d).stay])], bl'⟩) ∧ Own fL 1 bl' v' (fullFrom (make d) s acc)
  | [], p, acc, v, bl, hp, ha, hq, hO => by
    refine ⟨v, bl, ?_, hO⟩
    have h1 : ¬ ((p.length : Int) < d.routes.length) := by rw [← hp]; simp
    rw [r05_Full_R0_eq]
    simp only [r05_Full_B0, r05_Full_K0_a, h1, hO.locv, locv_nz, zy, simprocAttr]
  | x :: s, p, acc, v, bl, hp, ha, hq, hO => by
    have hpl : p.length + 1 + s.length = d.routes.length := by rw [← hp]; simp; omega
    have h1 : ((p.length : Int) < d.routes.length) := by omega
    have hrl := hd.routes
    unfold maxLen at hrl
    have hw := wrapM (n := p.length) (by omega)
    have hx := hd.route x (by rw [← hp]; simp)
    have hi : iaddrC 1 (sl fUL d.routes) (.int .i64 p.length) = some (.vp (sl fU x :: s.flatMap fUL)) := by rw [← hp]; exact iaddr_midUL _ p s x
    by_cases h16 : 16 ≤ acc.length
    · refine ⟨v, bl, ?_, by simpa only [fullFrom, if_pos h16] using hO⟩
      have h16' : ¬ ((acc.length : Int) < 16) := by omega
      rw [r05_Full_R0_eq]
      simp only [r05_Full_B0, r05_Full_K0_a, h1, h16', hO.len, hO.locv, locv_nz, zy, simprocAttr]
    · have h16' : ((acc.length : Int) < 16) := by omega
      by_cases h2 : x.length < 2
      · have h2' : ((x.length : Int) < 2) := by omega
        obtain ⟨v', bl', e, o⟩ := full_loop d hd s (p ++ [x]) acc v bl (by simpa using hp) ha hq hO
        simp only [List.append_assoc, List.cons_append, List.nil_append, List.length_append, List.length_cons, List.length_nil] at e
        refine ⟨v', bl', ?_, by simpa only [fullFrom, if_neg h16, if_neg (show ¬ (2 ≤ x.length ∧ 2 ≤ (wayOf (make d) x).length) by omega)] using o⟩
        rw [r05_Full_R0_eq]
        simp only [r05_Full_B0, r05_Full_K0_a, h1, h16', hi, h2', hw, hO.len, hO.locv, locv_nz, e, zy, simprocAttr]
      · have h2' : ¬ ((x.length : Int) < 2) := by omega
        obtain ⟨x0, x1, t, rfl⟩ : ∃ x0 x1 t, x = x0 :: x1 :: t := by
          match x, h2 with
          | x0 :: x1 :: t, _ => exact ⟨x0, x1, t, rfl⟩
          | [_], h => simp at h
          | [], h => simp at h
        have b0 := hx.2 x0 (by simp)
        have b1 := hx.2 x1 (by simp)
        have hel := mkEnds_len d.form
        have hsl : (make d).secs.length = (mkEnds d.form).length := mkSecs_length _ _ _
        have hi0 := iaddr_midU .i64 [] (x1 :: t) x0
        have hi1 := iaddr_midU .i64 [x0] t x1
        simp only [List.nil_append, List.length_nil, List.cons_append, List.length_cons, Int.natCast_zero, Nat.zero_add, Int.natCast_one] at hi0 hi1
        have hsc := slc_lo flatU (x0 :: x1 :: t) 2 (by simp) .i64
        simp only [Int.cast_ofNat_Int, List.drop_succ_cons, List.drop_zero] at hsc
        have k0 : IntKind.i64.wrap x0 = x0 := wrap64 (by omega) (by omega)
        have k1 : x0.tmod ((make d).secs.length : Int) = x0 % ((make d).secs.length : Int) := Int.tmod_eq_emod_of_nonneg b0.1
        have k2 : IntKind.u8.wrap (x0.tdiv 128) = x0 / 128 := by rw [Int.tdiv_eq_ediv_of_nonneg b0.1, IntKind.wrap_u8]; omega
        have k3 : IntKind.i64.wrap (x0 / 128) = x0 / 128 := wrap64 (by omega) (by omega)
        have k4 : x1.tmod 5 = x1 % 5 := Int.tmod_eq_emod_of_nonneg b1.1
        have k5 : IntKind.i64.wrap (x1 % 5) = x1 % 5 := wrap64 (by omega) (by omega)
        have k6 : IntKind.i64.wrap (2 + x1 % 5) = ((2 + x1 % 5).toNat : Nat) := by rw [wrap64 (by omega) (by omega)]; omega
        have k7 : ¬ ((make d).secs.length : Int) = 0 := by omega
        have hwF := fun H st => walk_F { make d with routes := acc } (make_ok d acc ha hq) (x0 % (make d).secs.length) (x0 / 128) t (fun q hq' => hx.2 q (by simp [hq'])) (2 + x1 % 5).toNat (by unfold Zc.small; omega) H st
        have hwy : walk { make d with routes := acc } (x0 % (make d).secs.length) (x0 / 128) t ((2 + x1 % 5).toNat : Nat) = wayOf (make d) (x0 :: x1 :: t) := by rw [walk_routes]; rfl
        rw [hwy] at hwF
        have hsn := fun bx => hO.snapV flatL bx false _ (snap_L ⟨bx, bl⟩ false 6)
        by_cases h3 : 2 ≤ (wayOf (make d) (x0 :: x1 :: t)).length
        · have h3' : (2 : Int) ≤ (wayOf (make d) (x0 :: x1 :: t)).length := by omega
          obtain ⟨v1, bl1, e1, o1, _⟩ := hO.app1 flatL (bytes := 24) (zero := [.nils]) (by decide) rfl rfl (wayOf (make d) (x0 :: x1 :: t)) (by omega)
          simp only [fL] at e1
          have hwl := walk_len (make d) (x0 % (make d).secs.length) (x0 / 128) t (2 + x1 % 5).toNat
          obtain ⟨v', bl', e, o⟩ := full_loop d hd s (p ++ [x0 :: x1 :: t]) (acc ++ [wayOf (make d) (x0 :: x1 :: t)]) v1 bl1 (by simpa using hp) (by simp; omega) (by
            intro q hq'
            rcases List.mem_append.1 hq' with h | h
            · exact hq q h
            · simp only [List.mem_singleton] at h; subst h
              have : wayOf (make d) (x0 :: x1 :: t) = walk (make d) (x0 % (make d).secs.length) (x0 / 128) t ((2 + x1 % 5).toNat : Nat) := rfl
              rw [this]; omega) o1
          simp only [List.append_assoc, List.cons_append, List.nil_append, List.length_append, List.length_cons, List.length_nil] at e
          refine ⟨v', bl', ?_, by simpa only [fullFrom, if_neg h16, if_pos (show (2 ≤ (x0 :: x1 :: t).length ∧ 2 ≤ (wayOf (make d) (x0 :: x1 :: t)).length) from ⟨by simp, h3⟩)] using o⟩
          rw [r05_Full_R0_eq]
          simp only [List.length_cons] at h2'
          simp only [r05_Full_B0, r05_Full_K0_a, h1, h16', hi, h2', hw, hi0, hi1, hsc, k0, k1, k2, k3, k4, k5, k6, k7, hsn, snapV_nz, r05_Walk_call, hwF, h3', e1, hO.len, hO.locv, o1.locv, o1.one, o1.cells, locv_nz, e, zy, simprocAttr]
        · have h3' : ¬ (2 : Int) ≤ (wayOf (make d) (x0 :: x1 :: t)).length := by omega
          obtain ⟨v', bl', e, o⟩ := full_loop d hd s (p ++ [x0 :: x1 :: t]) acc v bl (by simpa using hp) ha hq hO
          simp only [List.append_assoc, List.cons_append, List.nil_append, List.length_append, List.length_cons, List.length_nil] at e
          refine ⟨v', bl', ?_, by simpa only [fullFrom, if_neg h16, if_neg (show ¬ (2 ≤ (x0 :: x1 :: t).length ∧ 2 ≤ (wayOf (make d) (x0 :: x1 :: t)).length) from fun h => h3 h.2)] using o⟩
          rw [r05_Full_R0_eq]
          simp only [List.length_cons] at h2'
          simp only [r05_Full_B0, r05_Full_K0_a, h1, h16', hi, h2', hw, hi0, hi1, hsc, k0, k1, k2, k3, k4, k5, k6, k7, hsn, snapV_nz, r05_Walk_call, hwF, h3', hO.len, hO.locv, locv_nz, e, zy, simprocAttr]

theorem full_F (d : Draft) (hd : d.ok) (H : Heap) : r05_Full_F false H [.agg (draftC d)] = some (.agg (layC (full d)), H) := by
  obtain ⟨v, bl, e, o⟩ := full_loop d hd d.routes [] [] .nils [] rfl (by simp) (by simp) (Own.nil _ _ _)
  simp only [List.nil_append, List.length_nil, Int.natCast_zero] at e
  have hsn := fun bx => o.snapV flatL bx false _ (snap_L ⟨bx, bl⟩ false 6)
  rw [r05_Full_F_eq]
  simp only [r05_Full_C, r05_Full_L0_eq, r04_Make_call, make_F d hd, makeC, e, hsn, snapV_nz, locv_nz, one_nz, und_nz, o.locv, o.one, o.und, zy, simprocAttr]
  rfl
end Go.Proofs.YtlhjpcgfkkhogaaGreat.Zt
end
section
namespace Go.Proofs.YtlhjpcgfkkhogaaGreat.Zt
open Go Go.Zc
set_option maxRecDepth 10000

theorem gsection_F (l : Lay) (n : Int) (st : Bool) (H : Heap) : graph_Graph_section_F st H [.vp (layC l), .int .i64 n] = some (.tup [.agg (secC (secAt l n)), .bool (secAt l n).isSome], H) := by
  rw [graph_Graph_section_F_eq]
  have hz : binC .eql .ptr (.vp (layC l)) .nilp = some (.bool false) := rfl
  by_cases h1 : n < 0
  · have hn : secAt l n = none := by simp only [secAt, if_neg (show ¬ 0 ≤ n by omega)]
    simp only [graph_Graph_section_C, hz, h1, hn, secC, zy, simprocAttr]
  · obtain ⟨n, rfl⟩ := Int.eq_ofNat_of_zero_le (show 0 ≤ n by omega)
    by_cases h2 : l.secs.length ≤ n
    · have hn : secAt l n = none := by simp [secAt, List.getElem?_eq_none h2]
      have h2' : ((l.secs.length : Int) ≤ n) := by omega
      simp only [graph_Graph_section_C, hz, h1, h2', hn, secC, zy, simprocAttr]
    · have h2' : ¬ ((l.secs.length : Int) ≤ n) := by omega
      have hlt : n < l.secs.length := by omega
      have hn : secAt l n = some l.secs[n] := by simp [secAt, List.getElem?_eq_getElem hlt]
      simp only [graph_Graph_section_C, hz, h1, h2', hn, secC, fS, iaddr_atS hlt, zy, simprocAttr]

theorem nodeOf_sec (l : Lay) (x : Ed) : nodeOf l x = (secAt l x.s).bind fun s => if x.e = 0 then some s.a else if x.e = 1 then some s.b else none := rfl

theorem gnode_F (l : Lay) (x : Ed) (st : Bool) (H : Heap) : graph_Graph_node_F st H [.vp (layC l), .agg (fE x)] = some (.tup [.int .i64 ((nodeOf l x).getD 0), .bool (nodeOf l x).isSome], H) := by
  rw [graph_Graph_node_F_eq, nodeOf_sec]
  have hs := gsection_F l x.s
  cases h : secAt l x.s with
  | none =>
    simp only [h, secC] at hs
    simp only [graph_Graph_node_C, fE, graph_Graph_section_call, hs, Option.bind_none, Option.getD_none, zy, simprocAttr]
  | some s =>
    simp only [h, secC, fS] at hs
    by_cases h0 : x.e = 0
    · simp only [graph_Graph_node_C, fE, graph_Graph_section_call, hs, Option.bind_some, eq_true h0, Option.getD_some, zy, simprocAttr]
    · by_cases h1 : x.e = 1
      · simp only [graph_Graph_node_C, fE, graph_Graph_section_call, hs, Option.bind_some, eq_false h0, eq_true h1, Option.getD_some, zy, simprocAttr]
      · simp only [graph_Graph_node_C, fE, graph_Graph_section_call, hs, Option.bind_some, eq_false h0, eq_false h1, Option.getD_none, zy, simprocAttr]

theorem gends_in (a b at' : Int) (l : Lay) (i : Nat) (acc : List Ed) (v : CV) (bl : List Blk) (hm : acc.length ≤ 2 * Zc.small) (hO : Own fE 2 bl v acc) :
    ∃ v' bl', graph_Graph_Ends_R2 ([(0, .vp (layC l)), (1, .int .i64 at'), (5, v), (6, .int .i64 i), (26, .agg [.int .i64 a, .int .i64 b]), (27, .int .i64 0)], ⟨[], bl⟩) = some (.norm, [(0, .vp (layC l)), (1, .int .i64 at'), (5, v'), (6, .int .i64 i)], ⟨[], bl'⟩) ∧
      Own fE 2 bl' v' (acc ++ ((if a = at' then [⟨i, 0⟩] else []) ++ (if b = at' then [⟨i, 1⟩] else []))) := by
  unfold Zc.small at hm
  have x0 : idxAC 2 false 1 (.agg [.int .i64 a, .int .i64 b]) (.int .i64 0) = some (.int .i64 a) := rfl
  have x1 : idxAC 2 false 1 (.agg [.int .i64 a, .int .i64 b]) (.int .i64 1) = some (.int .i64 b) := rfl
  have s2 : ∀ (v : CV) (bl : List Blk) (acc : List Ed), Own fE 2 bl v acc → graph_Graph_Ends_R2 ([(0, .vp (layC l)), (1, .int .i64 at'), (5, v), (6, .int .i64 i), (26, .agg [.int .i64 a, .int .i64 b]), (27, .int .i64 2)], ⟨[], bl⟩) = some (.norm, [(0, .vp (layC l)), (1, .int .i64 at'), (5, v), (6, .int .i64 i)], ⟨[], bl⟩) := by
    intro v bl acc hO
    rw [graph_Graph_Ends_R2_eq]
    simp only [graph_Graph_Ends_B2, graph_Graph_Ends_K2_a, hO.chkV, zy, simprocAttr]
  have s1 : ∀ (v : CV) (bl : List Blk) (acc : List Ed), acc.length ≤ 2 * 1000000000 + 1 → Own fE 2 bl v acc → ∃ v' bl', graph_Graph_Ends_R2 ([(0, .vp (layC l)), (1, .int .i64 at'), (5, v), (6, .int .i64 i), (26, .agg [.int .i64 a, .int .i64 b]), (27, .int .i64 1)], ⟨[], bl⟩) = some (.norm, [(0, .vp (layC l)), (1, .int .i64 at'), (5, v'), (6, .int .i64 i)], ⟨[], bl'⟩) ∧ Own fE 2 bl' v' (acc ++ if b = at' then [⟨i, 1⟩] else []) := by
    intro v bl acc hm hO
    by_cases hb : b = at'
    · obtain ⟨v1, bl1, e1, o1, _⟩ := hO.app1 flatE (bytes := 16) (zero := [.int .i64 0, .int .i64 0]) (by decide) rfl rfl ⟨i, 1⟩ (by omega)
      simp only [fE] at e1
      refine ⟨v1, bl1, ?_, by simpa [hb] using o1⟩
      have := s2 v1 bl1 _ o1
      rw [graph_Graph_Ends_R2_eq]
      simp only [graph_Graph_Ends_B2, graph_Graph_Ends_K2_a, x1, eq_true hb, e1, this, hO.chkV, o1.chkV, zy, simprocAttr]
    · refine ⟨v, bl, ?_, by simpa [hb] using hO⟩
      have := s2 v bl _ hO
      rw [graph_Graph_Ends_R2_eq]
      simp only [graph_Graph_Ends_B2, graph_Graph_Ends_K2_a, x1, eq_false hb, this, hO.chkV, zy, simprocAttr]
  by_cases ha : a = at'
  · obtain ⟨v1, bl1, e1, o1, _⟩ := hO.app1 flatE (bytes := 16) (zero := [.int .i64 0, .int .i64 0]) (by decide) rfl rfl ⟨i, 0⟩ (by omega)
    obtain ⟨v2, bl2, e2, o2⟩ := s1 v1 bl1 _ (by simp; omega) o1
    simp only [fE] at e1
    refine ⟨v2, bl2, ?_, by simpa [ha] using o2⟩
    rw [graph_Graph_Ends_R2_eq]
    simp only [graph_Graph_Ends_B2, graph_Graph_Ends_K2_a, x0, eq_true ha, e1, e2, hO.chkV, o1.chkV, zy, simprocAttr]
  · obtain ⟨v2, bl2, e2, o2⟩ := s1 v bl _ (by omega) hO
    refine ⟨v2, bl2, ?_, by simpa [ha] using o2⟩
    rw [graph_Graph_Ends_R2_eq]
    simp only [graph_Graph_Ends_B2, graph_Graph_Ends_K2_a, x0, eq_false ha, e2, hO.chkV, zy, simprocAttr]

theorem gends_loop (l : Lay) (hl : l.ok) (at' : Int) : ∀ (s p : List Sec) (acc : List Ed) (v : CV) (bl : List Blk), p ++ s = l.secs → acc.length ≤ 2 * p.length → Own fE 2 bl v acc →
    ∃ v' bl' bx, graph_Graph_Ends_R0 ([(0, .vp (layC l)), (1, .int .i64 at'), (5, v), (6, .int .i64 p.length)], ⟨[], bl⟩) = some (.ret, [(4, v')], ⟨bx, bl'⟩) ∧ Own fE 2 bl' v' (acc ++ endsFrom at' p.length s)
  | [], p, acc, v, bl, hp, ha, hO => by
    have hs := gsection_F l p.length
    have hn : secAt l p.length = none := by simp [secAt, ← hp]
    simp only [hn, secC] at hs
    have : ∃ bx, graph_Graph_Ends_R0 ([(0, .vp (layC l)), (1, .int .i64 at'), (5, v), (6, .int .i64 p.length)], ⟨[], bl⟩) = some (.ret, [(4, v)], ⟨bx, bl⟩) := by
      rw [graph_Graph_Ends_R0_eq]
      simp only [graph_Graph_Ends_B0, graph_Graph_Ends_K0_a, graph_Graph_section_call, hs, zy, simprocAttr]
      exact ⟨_, rfl⟩
    obtain ⟨bx, h⟩ := this
    exact ⟨v, bl, bx, h, by simpa [endsFrom] using hO⟩
  | x :: s, p, acc, v, bl, hp, ha, hO => by
    have hsm := hl.secs
    have hpl : p.length + 1 + s.length = l.secs.length := by rw [← hp]; simp; omega
    have hw := wrapN (n := p.length) (by omega)
    have hs := gsection_F l p.length
    have hn : secAt l p.length = some x := by simp [secAt, ← hp]
    simp only [hn, secC, fS] at hs
    obtain ⟨v1, bl1, e1, o1⟩ := gends_in x.a x.b at' l p.length acc v bl (by omega) hO
    obtain ⟨v2, bl2, bx, e2, o2⟩ := gends_loop l hl at' s (p ++ [x]) _ v1 bl1 (by simpa using hp) (by simp only [List.length_append, List.length_cons, List.length_nil]; split <;> split <;> simp <;> omega) o1
    simp only [List.append_assoc, List.cons_append, List.nil_append, List.length_append, List.length_cons, List.length_nil] at e2
    refine ⟨v2, bl2, bx, ?_, by simpa [endsFrom] using o2⟩
    rw [graph_Graph_Ends_R0_eq]
    simp only [graph_Graph_Ends_B0, graph_Graph_Ends_K0_a, graph_Graph_Ends_L2_eq, graph_Graph_section_call, hs, e1, hw, hO.chkV, o1.chkV, e2, zy, simprocAttr]

theorem snapE1 (st : Bool) (H : Heap) (x : Ed) : ∀ c ∈ fE x, snap H st false c = some c := snap_E H st false 7 x

/-- The ends at a node, in memory of the caller's. -/
theorem gends_F (l : Lay) (hl : l.ok) (at' : Int) (st : Bool) (bx : List (Nat × List CV)) (bl : List Blk) :
    ∃ v bl', graph_Graph_Ends_F st ⟨bx, bl⟩ [.vp (layC l), .int .i64 at'] = some (v, ⟨bx, bl'⟩) ∧ Own fE 2 bl' v (ends l at') ∧ (∀ (k : Nat) (b : Blk), bl[k]? = some b → bl'[k]? = some b) ∧ (∀ k, blkOf v = some k → bl.length ≤ k) := by
  obtain ⟨v1, bl1, bx1, e1, o1⟩ := gends_loop l hl at' l.secs [] [] .nils [] rfl (by simp) (Own.nil _ _ _)
  simp only [List.nil_append, List.length_nil, Int.natCast_zero] at e1 o1
  obtain ⟨v2, bl2, e2, o2, h3, h4⟩ := o1.handed flatE st bx1 bx bl (fun H x => snapE1 st H x)
  refine ⟨v2, bl2, ?_, o2, h3, h4⟩
  rw [graph_Graph_Ends_F_eq]
  simp only [graph_Graph_Ends_C, graph_Graph_Ends_L0_eq, e1, e2, zy, simprocAttr]
end Go.Proofs.YtlhjpcgfkkhogaaGreat.Zt
end
section
namespace Go.Proofs.YtlhjpcgfkkhogaaGreat.Zt
open Go Go.Zc
set_option maxRecDepth 10000

theorem rat_F {z : Nat × Nat} {p : Int × Int} (hz : RepZ z p) (hp : Near (2 ^ 52) p) (st : Bool) (H : Heap) : r01_At_F st H [.cplx .f64 z.1 z.2] = some (.tup [.int .i64 p.1, .int .i64 p.2], H) := by
  have e1 := hz.1.toInt (by have := hp.1; omega) (by have := hp.1; omega)
  have e2 := hz.2.toInt (by have := hp.2; omega) (by have := hp.2; omega)
  rw [r01_At_F_eq]
  simp only [r01_At_C, e1, e2, re_z, im_z, zy, simprocAttr]
theorem near_le {A B : Nat} {p : Int × Int} (h : Near A p) (hAB : A ≤ B) : Near B p := ⟨Nat.le_trans h.1 hAB, Nat.le_trans h.2 hAB⟩
theorem rdot_F {z w : Nat × Nat} {p q : Int × Int} (hz : RepZ z p) (hw : RepZ w q) (hp : Near 20000000 p) (hq : Near 20000000 q) (st : Bool) (H : Heap) : r01_Dot_F st H [.cplx .f64 z.1 z.2, .cplx .f64 w.1 w.2] = some (.int .i64 (dotI p q), H) := by
  have a1 := fun st H => rat_F hz (near_le hp (by decide)) st H
  have a2 := fun st H => rat_F hw (near_le hq (by decide)) st H
  have b1 := mul_small hp.1 hq.1
  have b2 := mul_small hp.2 hq.2
  have w1 : IntKind.i64.wrap (p.1 * q.1) = p.1 * q.1 := wrap64 (by omega) (by omega)
  have w2 : IntKind.i64.wrap (p.2 * q.2) = p.2 * q.2 := wrap64 (by omega) (by omega)
  have w3 : IntKind.i64.wrap (p.1 * q.1 + p.2 * q.2) = p.1 * q.1 + p.2 * q.2 := wrap64 (by omega) (by omega)
  rw [r01_Dot_F_eq]
  simp only [r01_Dot_C, r01_At_call, a1, a2, w1, w2, w3, dotI, zy, simprocAttr]
theorem sq_nonneg' (a : Int) : 0 ≤ a * a := by
  rcases Int.le_total 0 a with h | h
  · exact Int.mul_nonneg h h
  · exact Int.mul_nonneg_of_nonpos_of_nonpos h h
theorem sq_zero {a : Int} (h : a * a = 0) : a = 0 := by
  rcases Int.mul_eq_zero.1 h with h | h <;> exact h
theorem dot_pos (a b : Int × Int) : 0 < dotI (subI b a) (subI b a) ↔ a ≠ b := by
  obtain ⟨x, y⟩ := a
  obtain ⟨u, v⟩ := b
  unfold dotI subI
  simp only [ne_eq, Prod.mk.injEq, not_and]
  have h1 := sq_nonneg' (u - x)
  have h2 := sq_nonneg' (v - y)
  constructor
  · rintro h rfl rfl
    simp at h
  · intro h
    rcases Int.lt_or_eq_of_le h1 with h3 | h3
    · omega
    · rcases Int.lt_or_eq_of_le h2 with h4 | h4
      · omega
      · have e1 := sq_zero h3.symm
        have e2 := sq_zero h4.symm
        exact absurd (show y = v by omega) (h (by omega))
theorem rfits_Z {z w : Nat × Nat} {a b : Int × Int} (hz : RepZ z a) (hw : RepZ w b) (ha : Near 10000000 a) (hb : Near 10000000 b) (len : Int) (st : Bool) (H : Heap) :
    r01_Fits_F st H [.cplx .f64 z.1 z.2, .cplx .f64 w.1 w.2, .int .i64 len] = some (.bool (fitsI a b len), H) := by
  unfold fitsI
  rw [r01_Fits_F_eq]
  by_cases h2 : len < 1
  · have h2' : ¬ 1 ≤ len := by omega
    simp only [r01_Fits_C, h2, h2', zy, simprocAttr]
  · by_cases h3 : 10000 < len
    · have h3' : ¬ len ≤ 10000 := by omega
      simp only [r01_Fits_C, h2, h3, h3', gt_iff_lt, zy, simprocAttr]
    · have h2' : 1 ≤ len := by omega
      have h3' : len ≤ 10000 := by omega
      have n1 := near_sub hb ha
      obtain ⟨x, x1, x2⟩ := hw.sub hz (by have := n1.1; unfold subI at this; simp only at this; omega) (by have := n1.2; unfold subI at this; simp only at this; omega)
      have hd := fun st H => rdot_F (p := subI b a) (q := subI b a) x2 x2 n1 n1 st H
      have hw1 : IntKind.i64.wrap (len * len) = len * len := by
        have := mul_small (a := len) (b := len) (A := 10000) (B := 10000) (by omega) (by omega)
        exact wrap64 (by omega) (by omega)
      have hpos := dot_pos a b
      by_cases h1 : a = b
      · have hp : ¬ 0 < dotI (subI b a) (subI b a) := fun h => hpos.1 h h1
        simp only [r01_Fits_C, h2, h3, h2', h3', gt_iff_lt, x1, r01_Dot_call, hd, hp, zy, simprocAttr]
        simp [h1]
      · have hp : 0 < dotI (subI b a) (subI b a) := hpos.2 h1
        simp only [r01_Fits_C, h2, h3, h2', h3', gt_iff_lt, ge_iff_le, x1, r01_Dot_call, hd, hp, hw1, h1, ne_eq, zy, simprocAttr]

/-- A layout's places, as whole numbers. -/
structure Pl (l : Lay) (zs : List (Int × Int)) : Prop where
  len : l.nodes.length = zs.length
  rep : ∀ (i : Nat) (z : Nat × Nat) (p : Int × Int), l.nodes[i]? = some z → zs[i]? = some p → RepZ z p
  near : ∀ p ∈ zs, Near 10000000 p
theorem Pl.at' {l : Lay} {zs : List (Int × Int)} (h : Pl l zs) {i : Nat} (hi : i < zs.length) : ∃ z : Nat × Nat, l.nodes[i]? = some z ∧ RepZ z zs[i] ∧ Near 10000000 zs[i] ∧ ∀ k : IntKind, ∃ r, iaddrC 1 (sl fZ l.nodes) (.int k i) = some (.vp (.cplx .f64 z.1 z.2 :: r)) := by
  have hn : i < l.nodes.length := by rw [h.len]; exact hi
  refine ⟨l.nodes[i], List.getElem?_eq_getElem hn, h.rep i _ _ (List.getElem?_eq_getElem hn) (List.getElem?_eq_getElem hi), h.near _ (List.getElem_mem hi), fun k => ⟨(l.nodes.drop (i + 1)).flatMap fZ, ?_⟩⟩
  have := iaddr_sl flatZ.len flatZ.pos (l := l.nodes) (k := k) hn
  rw [this]
  rfl
theorem indexZ_loop {w : Nat × Nat} {q : Int × Int} (hw : RepZ w q) (ns : List (Nat × Nat)) (hm : ns.length ≤ 1000) : ∀ (s pre : List (Nat × Nat)) (sz : List (Int × Int)), pre ++ s = ns → s.length = sz.length → (∀ (i : Nat) (z : Nat × Nat) (p : Int × Int), s[i]? = some z → sz[i]? = some p → RepZ z p) →
    slices_Index_complex128_R0 ([(0, sl fZ ns), (1, .cplx .f64 w.1 w.2), (7, .int .i64 ns.length), (8, .int .i64 pre.length)], ⟨[], []⟩) =
      match sz.findIdx? fun p => decide (q = p) with
      | some i => some (.ret, [(4, .int .i64 ((pre.length + i : Nat) : Int))], ⟨[], []⟩)
      | none => some (.norm, [], ⟨[], []⟩)
  | [], pre, [], hp, _, _ => by
    have h1 : ¬ ((pre.length : Int) < ns.length) := by rw [← hp]; simp
    rw [slices_Index_complex128_R0_eq]
    simp only [slices_Index_complex128_B0, slices_Index_complex128_K0_a, h1, List.findIdx?_nil, zy, simprocAttr]
  | [], pre, p :: sz, hp, h, _ => by simp at h
  | z :: s, pre, [], hp, h, _ => by simp at h
  | z :: s, pre, p :: sz, hp, h, hr => by
    have h1 : ((pre.length : Int) < ns.length) := by rw [← hp]; simp; omega
    have hwr := wrapN (n := pre.length) (by rw [← hp] at hm; unfold Zc.small; simp at hm; omega)
    have hz : RepZ z p := hr 0 z p rfl rfl
    have e := hw.eq hz
    have hia : iaddrC 1 (sl fZ ns) (.int .i64 pre.length) = some (.vp (fZ z ++ s.flatMap fZ)) := by rw [← hp]; exact iaddr_mid flatZ .i64 pre s z
    simp only [fZ, List.cons_append, List.nil_append] at hia
    have ih := indexZ_loop hw ns hm s (pre ++ [z]) sz (by simpa using hp) (by simpa using h) (fun i z p h1 h2 => hr (i + 1) z p (by simpa using h1) (by simpa using h2))
    rw [show (pre ++ [z]).length = pre.length + 1 by simp] at ih
    rw [slices_Index_complex128_R0_eq]
    by_cases hq : q = p
    · simp only [slices_Index_complex128_B0, slices_Index_complex128_K0_a, h1, hia, e, eq_true hq, List.findIdx?_cons, zy, simprocAttr]
    · simp only [slices_Index_complex128_B0, slices_Index_complex128_K0_a, h1, hia, e, eq_false hq, hwr, ih, List.findIdx?_cons, zy, simprocAttr]
      cases sz.findIdx? fun p => decide (q = p) with
      | none => simp
      | some i => simp; omega
theorem containsZ_F {w : Nat × Nat} {q : Int × Int} (hw : RepZ w q) (ns : List (Nat × Nat)) (sz : List (Int × Int)) (hm : ns.length ≤ 1000) (hl : ns.length = sz.length) (hr : ∀ (i : Nat) (z : Nat × Nat) (p : Int × Int), ns[i]? = some z → sz[i]? = some p → RepZ z p) (st : Bool) (H : Heap) :
    slices_Contains_complex128_F st H [sl fZ ns, .cplx .f64 w.1 w.2] = some (.bool (decide (q ∈ sz)), H) := by
  have e := indexZ_loop hw ns hm ns [] sz rfl hl hr
  simp only [List.nil_append, List.length_nil, Int.natCast_zero, Nat.zero_add] at e
  have hI : ∀ st H, slices_Index_complex128_F st H [sl fZ ns, .cplx .f64 w.1 w.2] = some (.int .i64 (match sz.findIdx? fun p => decide (q = p) with | some i => (i : Int) | none => -1), H) := by
    intro st H
    rw [slices_Index_complex128_F_eq]
    cases hf : sz.findIdx? fun p => decide (q = p) with
    | none =>
      rw [hf] at e
      simp only [slices_Index_complex128_C, slices_Index_complex128_L0_eq, e, zy, simprocAttr]
    | some i =>
      rw [hf] at e
      simp only [slices_Index_complex128_C, slices_Index_complex128_L0_eq, e, zy, simprocAttr]
  rw [slices_Contains_complex128_F_eq]
  cases hf : sz.findIdx? fun p => decide (q = p) with
  | none =>
    rw [hf] at hI
    have hq : q ∉ sz := fun h => by
      rw [List.findIdx?_eq_none_iff] at hf
      have := hf q h
      simp at this
    have h0 : ¬ (0 : Int) ≤ -1 := by omega
    simp only [slices_Contains_complex128_C, slices_Index_complex128_call, hI, h0, ge_iff_le, hq, zy, simprocAttr]
  | some i =>
    rw [hf] at hI
    have hq : q ∈ sz := by
      rw [List.findIdx?_eq_some_iff_getElem] at hf
      obtain ⟨h1, h2, _⟩ := hf
      have : q = sz[i] := by simpa using h2
      rw [this]; exact List.getElem_mem h1
    have h0 : (0 : Int) ≤ i := by omega
    simp only [slices_Contains_complex128_C, slices_Index_complex128_call, hI, h0, ge_iff_le, hq, zy, simprocAttr]
end Go.Proofs.YtlhjpcgfkkhogaaGreat.Zt
end
section
namespace Go.Proofs.YtlhjpcgfkkhogaaGreat.Zt
open Go Go.Zc
set_option maxRecDepth 10000

abbrev judC (l : Lay) : List CV := [sl fZ l.nodes, sl fS l.secs, sl fL l.parts, sl fP l.pts, sl fL l.routes, .int .i64 l.speed, .int .i64 l.mute, .int .i64 l.wait, .int .i64 l.cancel, .int .i64 l.stay, .vp (layC l)]
theorem within_F (n a b : Int) (st : Bool) (H : Heap) : verify_within_int_F st H [.int .i64 n, .int .i64 a, .int .i64 b] = some (.bool (decide (a ≤ n) && decide (n ≤ b)), H) := by
  rw [verify_within_int_F_eq]
  by_cases h1 : a ≤ n
  · simp only [verify_within_int_C, ge_iff_le, h1, zy, simprocAttr]
  · simp only [verify_within_int_C, ge_iff_le, h1, zy, simprocAttr]
theorem within64_F (n a b : Int) (st : Bool) (H : Heap) : verify_within_int64_F st H [.int .i64 n, .int .i64 a, .int .i64 b] = some (.bool (decide (a ≤ n) && decide (n ≤ b)), H) := by
  rw [verify_within_int64_F_eq]
  by_cases h1 : a ≤ n
  · simp only [verify_within_int64_C, ge_iff_le, h1, zy, simprocAttr]
  · simp only [verify_within_int64_C, ge_iff_le, h1, zy, simprocAttr]
/-- Is a number a node's? -/
def nodeB (l : Lay) (n : Int) : Bool := decide (0 ≤ n) && decide (n < l.nodes.length)
theorem jnode_F (l : Lay) (hn : l.nodes.length ≤ 1000) (n : Int) (st : Bool) (H : Heap) : verify_judge_node_F st H [.agg (judC l), .int .i64 n] = some (.bool (nodeB l n), H) := by
  have hw := fun st H => within_F n 0 ((l.nodes.length : Int) - 1) st H
  have w1 : IntKind.i64.wrap ((l.nodes.length : Int) - 1) = (l.nodes.length : Int) - 1 := wrap64 (by omega) (by omega)
  have hd : decide (n ≤ (l.nodes.length : Int) - 1) = decide (n < l.nodes.length) := by
    by_cases h : n < l.nodes.length
    · rw [decide_eq_true h, decide_eq_true (by omega)]
    · rw [decide_eq_false h, decide_eq_false (by omega)]
  unfold nodeB
  rw [verify_judge_node_F_eq]
  simp only [verify_judge_node_C, verify_within_int_call, hw, w1, hd, zy, simprocAttr]
theorem rnode_F (l : Lay) (n : Int) (st : Bool) (H : Heap) : r06_node_F st H [.agg (layC l), .int .i64 n] = some (.bool (nodeB l n), H) := by
  unfold nodeB
  rw [r06_node_F_eq]
  by_cases h : 0 ≤ n
  · simp only [r06_node_C, ge_iff_le, h, zy, simprocAttr]
  · simp only [r06_node_C, ge_iff_le, h, zy, simprocAttr]
/-- A place that no node ahead has. -/
def freshI (zs : List (Int × Int)) (i : Nat) : Bool := match zs[i]? with
  | some p => placeI p && !decide (p ∈ zs.take i)
  | none => false
theorem near_52 {p : Int × Int} (h : Near 10000000 p) : Near (2 ^ 52) p := near_le h (by decide)
theorem fresh_F {l : Lay} {zs : List (Int × Int)} (h : Pl l zs) (hn : l.nodes.length ≤ 1000) (i : Nat) (hi : i < zs.length) (st : Bool) (H : Heap) : verify_judge_rules_1_F st H [.int .i64 i, .vp (layC l)] = some (.bool (freshI zs i), H) := by
  obtain ⟨z, z1, z2, z3, z4⟩ := h.at' hi
  obtain ⟨r, r1⟩ := z4 .i64
  have hp := fun st H => place_F z2 (near_52 z3) st H
  have hsl := slc_hi flatZ l.nodes i (by rw [h.len]; omega) .i64
  have hc := fun st H => containsZ_F z2 (l.nodes.take i) (zs.take i) (by rw [List.length_take]; omega) (by rw [List.length_take, List.length_take, h.len]) (fun j a b h1 h2 => by
    rw [List.getElem?_take] at h1 h2
    split at h1
    · rename_i hj
      rw [if_pos hj] at h2
      exact h.rep j a b h1 h2
    · cases h1) st H
  unfold freshI
  rw [List.getElem?_eq_getElem hi]
  simp only
  rw [verify_judge_rules_1_F_eq]
  cases hA : placeI zs[i] with
  | true =>
    rw [hA] at hp
    simp only [verify_judge_rules_1_C, r1, plane_Place_call, hp, hsl, slices_Contains_complex128_call, hc, Bool.true_and, zy, simprocAttr]
  | false =>
    rw [hA] at hp
    simp only [verify_judge_rules_1_C, r1, plane_Place_call, hp, Bool.false_and, zy, simprocAttr]
/-- May a section be as long, between its nodes? -/
def secI (l : Lay) (zs : List (Int × Int)) (s : Sec) : Bool := nodeB l s.a && nodeB l s.b && fitsI (zs.getD s.a.toNat (0, 0)) (zs.getD s.b.toNat (0, 0)) s.len
theorem nodeB_at {l : Lay} {zs : List (Int × Int)} (h : Pl l zs) {n : Int} (hn : nodeB l n = true) : ∃ z : Nat × Nat, RepZ z (zs.getD n.toNat (0, 0)) ∧ Near 10000000 (zs.getD n.toNat (0, 0)) ∧ ∃ r, iaddrC 1 (sl fZ l.nodes) (.int .i64 n) = some (.vp (.cplx .f64 z.1 z.2 :: r)) := by
  unfold nodeB at hn
  simp only [Bool.and_eq_true, decide_eq_true_eq] at hn
  obtain ⟨k, rfl⟩ := Int.eq_ofNat_of_zero_le hn.1
  have hk : k < zs.length := by have := h.len; omega
  obtain ⟨z, _, z2, z3, z4⟩ := h.at' hk
  have e : zs.getD (k : Int).toNat (0, 0) = zs[k] := by simp [hk]
  rw [e]
  exact ⟨z, z2, z3, z4 .i64⟩
theorem section_F {l : Lay} {zs : List (Int × Int)} (h : Pl l zs) (hn : l.nodes.length ≤ 1000) (i : Nat) (hi : i < l.secs.length) (st : Bool) (H : Heap) : verify_judge_section_F st H [.agg (judC l), .int .i64 i] = some (.bool (secI l zs l.secs[i]), H) := by
  have hia := iaddr_atS (k := .i64) hi
  have n1 := fun st H => jnode_F l hn l.secs[i].a st H
  have n2 := fun st H => jnode_F l hn l.secs[i].b st H
  simp only [judC] at n1 n2
  unfold secI
  rw [verify_judge_section_F_eq]
  cases hA : nodeB l l.secs[i].a with
  | false =>
    rw [hA] at n1
    simp only [verify_judge_section_C, judC, hia, verify_judge_node_call, n1, Bool.false_and, zy, simprocAttr]
  | true =>
    rw [hA] at n1
    cases hB : nodeB l l.secs[i].b with
    | false =>
      rw [hB] at n2
      simp only [verify_judge_section_C, judC, hia, verify_judge_node_call, n1, n2, Bool.false_and, Bool.true_and, zy, simprocAttr]
    | true =>
      rw [hB] at n2
      obtain ⟨z, z1, z2, r, z3⟩ := nodeB_at h hA
      obtain ⟨w, w1, w2, r', w3⟩ := nodeB_at h hB
      have hf := fun st H => fits_F z1 w1 z2 w2 l.secs[i].len st H
      simp only [verify_judge_section_C, judC, hia, verify_judge_node_call, n1, n2, z3, w3, plane_Fits_call, hf, Bool.true_and, zy, simprocAttr]
theorem rules2_F (l : Lay) (i : Nat) (hi : i < l.secs.length) (st : Bool) (H : Heap) : verify_judge_rules_2_F st H [.int .i64 i, .vp (layC l)] = some (.bool (decide (l.speed ≤ l.secs[i].len)), H) := by
  have hia := iaddr_atS (k := .i64) hi
  rw [verify_judge_rules_2_F_eq]
  simp only [verify_judge_rules_2_C, hia, ge_iff_le, zy, simprocAttr]
/-- How many ends. -/
def endsB (l : Lay) (n : Int) : Bool := decide (1 ≤ (ends l n).length) && decide ((ends l n).length ≤ 3)
theorem rules3_F (l : Lay) (hl : l.ok) (n : Int) (st : Bool) (H : Heap) : verify_judge_rules_3_F st H [.int .i64 n, .vp (judC l)] = some (.bool (endsB l n), H) := by
  obtain ⟨v, bl, e, o, _⟩ := gends_F l hl n false [] []
  have hlen := o.len
  have hlv := o.locv
  have hw := fun st H => within_F (ends l n).length 1 3 st H
  have h1 : decide ((1 : Int) ≤ ((ends l n).length : Int)) = decide (1 ≤ (ends l n).length) := by by_cases h : 1 ≤ (ends l n).length <;> simp [h] <;> omega
  have h2 : decide (((ends l n).length : Int) ≤ 3) = decide ((ends l n).length ≤ 3) := by by_cases h : (ends l n).length ≤ 3 <;> simp [h] <;> omega
  unfold endsB
  rw [verify_judge_rules_3_F_eq]
  simp only [verify_judge_rules_3_C, judC, graph_Graph_Ends_call, e, hlen, hlv, verify_within_int_call, hw, h1, h2, zy, simprocAttr]
end Go.Proofs.YtlhjpcgfkkhogaaGreat.Zt
end
section
namespace Go.Proofs.YtlhjpcgfkkhogaaGreat.Zt
open Go Go.Zc
set_option maxRecDepth 10000

/-- The place of the first one, or -1. -/
def idxOf {α : Type} (p : α → Bool) (l : List α) : Int := match l.findIdx? p with
  | some i => (i : Int)
  | none => -1

theorem idxP_loop (fv : CV) (hf : fv.locv = false) (p : Pt → Bool) (hp : ∀ x H, call ctx fv [.agg (fP x)] H = some (.bool (p x), H)) : ∀ (s pre : List Pt), (pre ++ s).length ≤ 2 * Zc.small →
    slices_IndexFunc_Point_R0 ([(0, sl fP (pre ++ s)), (1, fv), (7, .int .i64 (pre ++ s).length), (8, .int .i64 pre.length)], ⟨[], []⟩) =
      match s.findIdx? p with
      | some i => some (.ret, [(4, .int .i64 ((pre.length + i : Nat) : Int))], ⟨[], []⟩)
      | none => some (.norm, [], ⟨[], []⟩)
  | [], pre, hm => by
    rw [slices_IndexFunc_Point_R0_eq]
    simp only [slices_IndexFunc_Point_B0, slices_IndexFunc_Point_K0_a, List.findIdx?_nil, zy, simprocAttr]
  | x :: s, pre, hm => by
    have h1 : ((pre.length : Int) < (pre ++ x :: s).length) := by simp; omega
    have hw := wrapN (n := pre.length) (by simp at hm; omega)
    have ih := idxP_loop fv hf p hp s (pre ++ [x]) (by simpa using hm)
    have hpx := fun H => hp x H
    have hcv := chkV_of hf
    simp only [fP] at hpx
    simp only [List.append_assoc, List.cons_append, List.nil_append, List.length_append, List.length_cons, List.length_nil] at ih h1
    rw [slices_IndexFunc_Point_R0_eq]
    simp only [slices_IndexFunc_Point_B0, slices_IndexFunc_Point_K0_a, h1, iaddr_midP, hpx, hw, hcv, List.append_assoc, List.cons_append, List.nil_append, List.length_append, List.length_cons, List.length_nil, zy, simprocAttr, ih]
    by_cases hA : p x = true
    · simp [hA, List.findIdx?_cons]
    · simp only [hA, Bool.false_eq_true, if_false, List.findIdx?_cons]
      cases hf : s.findIdx? p with
      | none => simp
      | some i => simp; omega

theorem idxP_F (fv : CV) (hf : fv.locv = false) (p : Pt → Bool) (hp : ∀ x H, call ctx fv [.agg (fP x)] H = some (.bool (p x), H)) (l : List Pt) (hm : l.length ≤ 2 * Zc.small) (st : Bool) (H : Heap) :
    slices_IndexFunc_Point_F st H [sl fP l, fv] = some (.int .i64 (idxOf p l), H) := by
  have e := idxP_loop fv hf p hp l [] hm
  simp only [List.nil_append, List.length_nil, Int.natCast_zero, Nat.zero_add] at e
  rw [slices_IndexFunc_Point_F_eq]
  simp only [slices_IndexFunc_Point_C, slices_IndexFunc_Point_L0_eq, e, idxOf, chkV_of hf, zy, simprocAttr]
  cases hf : l.findIdx? p <;> simp only [zy, simprocAttr]

theorem idxE_loop (fv : CV) (hf : fv.locv = false) (p : Ed → Bool) (hp : ∀ x H, call ctx fv [.agg (fE x)] H = some (.bool (p x), H)) : ∀ (s pre : List Ed), (pre ++ s).length ≤ 2 * Zc.small →
    slices_IndexFunc_End_R0 ([(0, sl fE (pre ++ s)), (1, fv), (7, .int .i64 (pre ++ s).length), (8, .int .i64 pre.length)], ⟨[], []⟩) =
      match s.findIdx? p with
      | some i => some (.ret, [(4, .int .i64 ((pre.length + i : Nat) : Int))], ⟨[], []⟩)
      | none => some (.norm, [], ⟨[], []⟩)
  | [], pre, hm => by
    rw [slices_IndexFunc_End_R0_eq]
    simp only [slices_IndexFunc_End_B0, slices_IndexFunc_End_K0_a, List.findIdx?_nil, zy, simprocAttr]
  | x :: s, pre, hm => by
    have h1 : ((pre.length : Int) < (pre ++ x :: s).length) := by simp; omega
    have hw := wrapN (n := pre.length) (by simp at hm; omega)
    have ih := idxE_loop fv hf p hp s (pre ++ [x]) (by simpa using hm)
    have hpx := fun H => hp x H
    have hcv := chkV_of hf
    simp only [fE] at hpx
    simp only [List.append_assoc, List.cons_append, List.nil_append, List.length_append, List.length_cons, List.length_nil] at ih h1
    rw [slices_IndexFunc_End_R0_eq]
    simp only [slices_IndexFunc_End_B0, slices_IndexFunc_End_K0_a, h1, iaddr_midE, hpx, hw, hcv, List.append_assoc, List.cons_append, List.nil_append, List.length_append, List.length_cons, List.length_nil, zy, simprocAttr, ih]
    by_cases hA : p x = true
    · simp [hA, List.findIdx?_cons]
    · simp only [hA, Bool.false_eq_true, if_false, List.findIdx?_cons]
      cases hf : s.findIdx? p with
      | none => simp
      | some i => simp; omega

theorem idxE_F (fv : CV) (hf : fv.locv = false) (p : Ed → Bool) (hp : ∀ x H, call ctx fv [.agg (fE x)] H = some (.bool (p x), H)) (l : List Ed) (hm : l.length ≤ 2 * Zc.small) (st : Bool) (H : Heap) :
    slices_IndexFunc_End_F st H [sl fE l, fv] = some (.int .i64 (idxOf p l), H) := by
  have e := idxE_loop fv hf p hp l [] hm
  simp only [List.nil_append, List.length_nil, Int.natCast_zero, Nat.zero_add] at e
  rw [slices_IndexFunc_End_F_eq]
  simp only [slices_IndexFunc_End_C, slices_IndexFunc_End_L0_eq, e, idxOf, chkV_of hf, zy, simprocAttr]
  cases hf : l.findIdx? p <;> simp only [zy, simprocAttr]

theorem gpoint1_F (x : Pt) (n : Int) (st : Bool) (H : Heap) : graph_Graph_Point_1_F st H [.agg (fP x), .vp [.int .i64 n]] = some (.bool (decide (x.node = n)), H) := by
  rw [graph_Graph_Point_1_F_eq]
  simp only [graph_Graph_Point_1_C, fP, zy, simprocAttr]

theorem gpoint_F (l : Lay) (hl : l.ok) (n : Int) (st : Bool) (H : Heap) : graph_Graph_Point_F st H [.vp (layC l), .int .i64 n] = some (.int .i64 (match ptOf l n with | some i => (i : Int) | none => -1), H) := by
  rw [graph_Graph_Point_F_eq]
  have hz : binC .eql .ptr (.vp (layC l)) .nilp = some (.bool false) := rfl
  have hs := hl.pts
  have hF := fun st H => idxP_F (.fn (.func 78) [] [.vp [.int .i64 n]]) rfl (fun x => decide (x.node = n)) (fun x H => by
    simp only [graph_Graph_Point_1_call, fP, zy, simprocAttr]
    have := gpoint1_F x n
    simp only [fP] at this
    rw [this]) l.pts (by omega) st H
  have he : idxOf (fun x : Pt => decide (x.node = n)) l.pts = (match ptOf l n with | some i => (i : Int) | none => -1) := rfl
  rw [← he]
  simp only [graph_Graph_Point_C, hz, slices_IndexFunc_Point_call, hF, zy, simprocAttr]

/-! ### A section's end at a node -/
theorem Own.get {α : Type} {f : α → List CV} {sz : Nat} {bl : List Blk} {v : CV} {l : List α} (hf : Flat f sz) (h : Own f sz bl v l) {p s : List α} {x : α} (hl : l = p ++ x :: s) :
    ∃ m, (∀ k, iaddrC sz v (.int k p.length) = some (.op (.blk m) (p.length * sz))) ∧ ∃ cs, (∀ bx, Heap.get ⟨bx, bl⟩ (.blk m) = some cs) ∧ cs.drop (p.length * sz) = f x ++ s.flatMap f := by
  obtain ⟨m, h1, h2, h3⟩ := h.iaddr hf (k := .i64) (i := p.length) (by rw [hl]; simp)
  refine ⟨m, fun k => ?_, _, fun bx => get_blk bx bl m _ h2, by rw [hl]; exact drop_mid hf p s x⟩
  rw [h3] at h1 ⊢
  exact h1

theorem gat_loop (sec : Int) (l : List Ed) (hm : l.length ≤ 2 * Zc.small) (v : CV) (bl : List Blk) (hO : Own fE 2 bl v l) : ∀ (s p : List Ed), p ++ s = l →
    graph_Graph_at_R0 ([(1, .int .i64 sec), (11, v), (12, .int .i64 l.length), (13, .int .i64 p.length)], ⟨[], bl⟩) =
      match s.find? (fun x => x.s == sec) with
      | some x => some (.ret, [(6, sl fE [x])], ⟨[(8, fE x)], bl⟩)
      | none => some (.norm, [], ⟨[], bl⟩)
  | [], p, hp => by
    have h1 : ¬ ((p.length : Int) < l.length) := by rw [← hp]; simp
    rw [graph_Graph_at_R0_eq]
    simp only [graph_Graph_at_B0, graph_Graph_at_K0_a, h1, hO.chkV, List.find?_nil, zy, simprocAttr]
  | x :: s, p, hp => by
    have hpl : p.length + 1 + s.length = l.length := by rw [← hp]; simp; omega
    have h1 : ((p.length : Int) < l.length) := by omega
    have hw := wrapN (n := p.length) (by omega)
    have ih := gat_loop sec l hm v bl hO s (p ++ [x]) (by simpa using hp)
    obtain ⟨m, hia, cs, hg, hd⟩ := Own.get flatE hO hp.symm
    simp only [fE] at hd
    simp only [List.append_assoc, List.cons_append, List.nil_append, List.length_append, List.length_cons, List.length_nil] at ih
    rw [graph_Graph_at_R0_eq]
    by_cases he : x.s = sec
    · simp only [graph_Graph_at_B0, graph_Graph_at_K0_a, h1, hia, hg, hd, eq_true he, hO.chkV, sl, fE, List.flatMap_cons, List.flatMap_nil, List.find?_cons, beq_iff_eq, zy, simprocAttr]
      simp [he, fE]
    · simp only [graph_Graph_at_B0, graph_Graph_at_K0_a, h1, hia, hg, hd, eq_false he, hw, hO.chkV, ih, zy, simprocAttr]
      simp [he]

theorem gat_F (l : Lay) (hl : l.ok) (sec at' : Int) (H : Heap) : graph_Graph_at_F false H [.vp (layC l), .int .i64 sec, .int .i64 at'] = some (sl fE (oneOf l sec at'), H) := by
  obtain ⟨v, bl, e, o, _⟩ := gends_F l hl at' false [] []
  have e2 := gat_loop sec (ends l at') (ends_len hl at') v bl o (ends l at') [] rfl
  simp only [List.nil_append, List.length_nil, Int.natCast_zero] at e2
  rw [graph_Graph_at_F_eq]
  simp only [graph_Graph_at_C, graph_Graph_at_L0_eq, graph_Graph_Ends_call, e, e2, o.len, o.chkV, oneOf, zy, simprocAttr]
  cases hf : (ends l at').find? (fun x => x.s == sec) <;> simp only [sl_nil fE, zy, simprocAttr]
end Go.Proofs.YtlhjpcgfkkhogaaGreat.Zt
end
section
namespace Go.Proofs.YtlhjpcgfkkhogaaGreat.Zt
open Go Go.Zc
set_option maxRecDepth 10000

def otherI (l : Lay) (zs : List (Int × Int)) (sec at' : Int) : Int × Int := match l.secs[sec.toNat]? with
  | some s => if s.a = at' then zs.getD s.b.toNat (0, 0) else zs.getD s.a.toNat (0, 0)
  | none => (0, 0)
def secB (l : Lay) (sec : Int) : Bool := decide (0 ≤ sec) && decide (sec < l.secs.length)
/-- Sections lie between nodes. -/
def Tied (l : Lay) : Prop := ∀ s ∈ l.secs, nodeB l s.a = true ∧ nodeB l s.b = true
theorem secB_at {l : Lay} {n : Int} (hn : secB l n = true) : ∃ (k : Nat) (hk : k < l.secs.length), n = k ∧ l.secs[n.toNat]? = some l.secs[k] := by
  unfold secB at hn
  simp only [Bool.and_eq_true, decide_eq_true_eq] at hn
  obtain ⟨k, rfl⟩ := Int.eq_ofNat_of_zero_le hn.1
  exact ⟨k, by omega, rfl, by rw [Int.toNat_natCast, List.getElem?_eq_getElem]⟩
theorem jother_F {l : Lay} {zs : List (Int × Int)} (h : Pl l zs) (ht : Tied l) (sec at' : Int) (hs : secB l sec = true) :
    ∃ z : Nat × Nat, RepZ z (otherI l zs sec at') ∧ Near 10000000 (otherI l zs sec at') ∧ (∀ st H, verify_judge_other_F st H [.agg (judC l), .int .i64 sec, .int .i64 at'] = some (.cplx .f64 z.1 z.2, H)) ∧ (∀ st H, r06_other_F st H [.agg (layC l), .int .i64 sec, .int .i64 at'] = some (.cplx .f64 z.1 z.2, H)) := by
  obtain ⟨k, hk, rfl, hget⟩ := secB_at hs
  obtain ⟨ta, tb⟩ := ht _ (List.getElem_mem hk)
  have hia := iaddr_atS (k := .i64) hk
  obtain ⟨z, z1, z2, r, z3⟩ := nodeB_at h ta
  obtain ⟨w, w1, w2, r', w3⟩ := nodeB_at h tb
  unfold otherI
  rw [hget]
  simp only
  by_cases hA : l.secs[k].a = at'
  · rw [if_pos hA]
    refine ⟨w, w1, w2, fun st H => ?_, fun st H => ?_⟩
    · rw [verify_judge_other_F_eq]
      simp only [verify_judge_other_C, judC, hia, eq_true hA, w3, zy, simprocAttr]
    · rw [r06_other_F_eq]
      simp only [r06_other_C, hia, eq_true hA, w3, zy, simprocAttr]
  · rw [if_neg hA]
    refine ⟨z, z1, z2, fun st H => ?_, fun st H => ?_⟩
    · rw [verify_judge_other_F_eq]
      simp only [verify_judge_other_C, judC, hia, eq_false hA, z3, zy, simprocAttr]
    · rw [r06_other_F_eq]
      simp only [r06_other_C, hia, eq_false hA, z3, zy, simprocAttr]
def onI (l : Lay) (zs : List (Int × Int)) (a b at' : Int) : Bool := aheadI (otherI l zs a at') (zs.getD at'.toNat (0, 0)) (otherI l zs b at')
theorem on_F {l : Lay} {zs : List (Int × Int)} (h : Pl l zs) (ht : Tied l) (a b at' : Int) (ha : secB l a = true) (hb : secB l b = true) (hn : nodeB l at' = true) :
    (∀ st H, verify_judge_on_F st H [.agg (judC l), .int .i64 a, .int .i64 b, .int .i64 at'] = some (.bool (onI l zs a b at'), H)) ∧ (∀ st H, r06_on_F st H [.agg (layC l), .int .i64 a, .int .i64 b, .int .i64 at'] = some (.bool (onI l zs a b at'), H)) := by
  obtain ⟨z, z1, z2, z3, z4⟩ := jother_F h ht a at' ha
  obtain ⟨w, w1, w2, w3, w4⟩ := jother_F h ht b at' hb
  obtain ⟨u, u1, u2, r, u3⟩ := nodeB_at h hn
  have hA := fun st H => ahead_F z1 u1 w1 z2 u2 w2 st H
  have n1 := near_sub u2 z2
  have n2 := near_sub w2 u2
  obtain ⟨x, x1, x2⟩ := u1.sub z1 (by have := n1.1; unfold subI at this; simp only at this; omega) (by have := n1.2; unfold subI at this; simp only at this; omega)
  obtain ⟨y, y1, y2⟩ := w1.sub u1 (by have := n2.1; unfold subI at this; simp only at this; omega) (by have := n2.2; unfold subI at this; simp only at this; omega)
  have hd := fun st H => rdot_F (p := subI (zs.getD at'.toNat (0, 0)) (otherI l zs a at')) (q := subI (otherI l zs b at') (zs.getD at'.toNat (0, 0))) x2 y2 n1 n2 st H
  simp only [judC] at z3 w3
  unfold onI
  refine ⟨fun st H => ?_, fun st H => ?_⟩
  · rw [verify_judge_on_F_eq]
    simp only [verify_judge_on_C, judC, verify_judge_other_call, z3, w3, u3, plane_Ahead_call, hA, zy, simprocAttr]
  · unfold aheadI
    rw [r06_on_F_eq]
    simp only [r06_on_C, r06_other_call, z4, w4, u3, x1, y1, r01_Dot_call, hd, gt_iff_lt, zy, simprocAttr]
/-- Does it go on, at a node? -/
def goesI (l : Lay) (zs : List (Int × Int)) (i : Int) : Bool := match ptOf l i with
  | some k => match l.pts[k]? with
    | some p => onI l zs p.stem p.left i && onI l zs p.stem p.right i
    | none => false
  | none => match ends l i with
    | a :: b :: _ => onI l zs a.s b.s i
    | _ => true
theorem endsFrom_in (at' : Int) : ∀ (s : List Sec) (i : Nat), ∀ x ∈ endsFrom at' i s, (i : Int) ≤ x.s ∧ x.s < i + s.length
  | [], _, x, h => by simp [endsFrom] at h
  | s :: r, i, x, h => by
    simp only [endsFrom, List.mem_append] at h
    rcases h with (h | h) | h
    · split at h
      · simp at h; subst h; simp only [List.length_cons]; omega
      · simp at h
    · split at h
      · simp at h; subst h; simp only [List.length_cons]; omega
      · simp at h
    · have := endsFrom_in at' r (i + 1) x h
      simp only [List.length_cons]
      omega
theorem ends_secB (l : Lay) (at' : Int) : ∀ x ∈ ends l at', secB l x.s = true := fun x hx => by
  have := endsFrom_in at' l.secs 0 x hx
  unfold secB
  simp only [Bool.and_eq_true, decide_eq_true_eq]
  omega
/-- Points are at sections. -/
def Set' (l : Lay) : Prop := ∀ p ∈ l.pts, secB l p.stem = true ∧ secB l p.left = true ∧ secB l p.right = true
theorem goes_F {l : Lay} {zs : List (Int × Int)} (hl : l.ok) (h : Pl l zs) (ht : Tied l) (hp : Set' l) (i : Nat) (hi : i < l.nodes.length) (st : Bool) (H : Heap) : verify_judge_goes_F st H [.agg (judC l), .int .i64 i] = some (.bool (goesI l zs i), H) := by
  have hn : nodeB l i = true := by unfold nodeB; simp only [Bool.and_eq_true, decide_eq_true_eq]; omega
  have hg := fun st H => gpoint_F l hl i st H
  unfold goesI
  rw [verify_judge_goes_F_eq]
  cases hpt : ptOf l i with
  | some k =>
    obtain ⟨hk, _⟩ := ptOf_some hpt
    simp only [hpt] at hg
    have h0 : (0 : Int) ≤ k := by omega
    obtain ⟨p1, p2, p3⟩ := hp _ (List.getElem_mem hk)
    obtain ⟨o1, _⟩ := on_F h ht l.pts[k].stem l.pts[k].left i p1 p2 hn
    obtain ⟨o2, _⟩ := on_F h ht l.pts[k].stem l.pts[k].right i p1 p3 hn
    have hia := iaddr_atP (k := .i64) hk
    simp only [judC] at o1 o2
    simp only [List.getElem?_eq_getElem hk]
    cases hA : onI l zs l.pts[k].stem l.pts[k].left i with
    | true =>
      rw [hA] at o1
      simp only [verify_judge_goes_C, judC, graph_Graph_Point_call, hg, h0, ge_iff_le, hia, verify_judge_on_call, o1, o2, Bool.true_and, zy, simprocAttr]
    | false =>
      rw [hA] at o1
      simp only [verify_judge_goes_C, judC, graph_Graph_Point_call, hg, h0, ge_iff_le, hia, verify_judge_on_call, o1, o2, Bool.false_and, zy, simprocAttr]
  | none =>
    simp only [hpt] at hg
    have h0 : ¬ (0 : Int) ≤ -1 := by omega
    obtain ⟨v, bl, e', o, _⟩ := gends_F l hl i false [(2, judC l)] []
    simp only [judC] at e'
    have hlen := o.len
    have hlv := o.locv
    have hes := ends_secB l i
    cases hE : ends l i with
    | nil =>
      rw [hE] at hlen
      simp only [List.length_nil] at hlen
      simp only [verify_judge_goes_C, judC, graph_Graph_Point_call, hg, h0, ge_iff_le, graph_Graph_Ends_call, e', hlen, hlv, zy, simprocAttr]
    | cons a r =>
      cases r with
      | nil =>
        rw [hE] at hlen
        simp only [List.length_cons, List.length_nil] at hlen
        simp only [verify_judge_goes_C, judC, graph_Graph_Point_call, hg, h0, ge_iff_le, graph_Graph_Ends_call, e', hlen, hlv, zy, simprocAttr]
      | cons b r =>
        rw [hE] at hlen hes
        obtain ⟨on1, _⟩ := on_F h ht a.s b.s i (hes a (by simp)) (hes b (by simp)) hn
        simp only [judC] at on1
        have h2 : ¬ (((r.length + 1 + 1 : Nat) : Int) < 2) := by omega
        simp only [List.length_cons] at hlen
        obtain ⟨p, g1, g2, _, g4⟩ := o.held.at flatE (P := []) hE
        obtain ⟨p', k1, k2, k3⟩ := g4 0 (by omega)
        obtain ⟨q, q1, q2, _, q4⟩ := o.held.at flatE (P := [a]) hE
        obtain ⟨q', m1, m2, m3⟩ := q4 0 (by omega)
        have g1' := g1 .i64
        have q1' := q1 .i64
        have k3' : ∀ bx, loadC false 1 ⟨bx, bl⟩ p' = some (.int .i64 a.s) := k3
        have m3' : ∀ bx, loadC false 1 ⟨bx, bl⟩ q' = some (.int .i64 b.s) := m3
        simp only [List.length_nil, List.length_cons, Int.natCast_zero, Nat.zero_add, show ((1 : Nat) : Int) = 1 from rfl] at g1' q1'
        simp only [verify_judge_goes_C, judC, graph_Graph_Point_call, hg, h0, ge_iff_le, graph_Graph_Ends_call, e', hlen, hlv, h2, g1', g2, k1, k2, k3', q1', q2, m1, m2, m3', verify_judge_on_call, on1, zy, simprocAttr]
end Go.Proofs.YtlhjpcgfkkhogaaGreat.Zt
end
section
namespace Go.Proofs.YtlhjpcgfkkhogaaGreat.Zt
open Go Go.Zc
set_option maxRecDepth 10000

section
variable (fv fv' : CV) (hfv : fv.locv = false) (hfv' : fv'.locv = false) (p : Ed → Bool) (k : Nat) (ce : List CV)
variable (hcall : ∀ (bl : List Blk) (bx : List (Nat × List CV)) (y : Ed), bl[k]? = some (.cells ce) → call ctx fv [.agg (fE y)] ⟨bx, bl⟩ = some (.bool (p y), ⟨bx, bl⟩))
include hfv hcall

theorem del_loop (m n : Nat) (hmk : m ≠ k) (hn : n ≤ 2 * Zc.small) : ∀ (suf kept junk : List Ed) (bl : List Blk), bl[m]? = some (.cells ((kept ++ junk ++ suf).flatMap fE)) → bl[k]? = some (.cells ce) → junk ≠ [] → (kept ++ junk ++ suf).length = n →
    ∃ bl' junk', slices_DeleteFunc_End_R0 ([(0, .os 2 (.blk m) 0 n), (1, fv), (5, .int .i64 kept.length), (6, .int .i64 (kept.length + junk.length : Nat))], ⟨[], bl⟩) =
        some (.norm, [(0, .os 2 (.blk m) 0 n), (5, .int .i64 (kept ++ suf.filter fun x => !p x).length)], ⟨[], bl'⟩) ∧
      bl'[m]? = some (.cells (((kept ++ suf.filter fun x => !p x) ++ junk').flatMap fE)) ∧ bl'[k]? = some (.cells ce) ∧ ((kept ++ suf.filter fun x => !p x) ++ junk').length = n
  | [], kept, junk, bl, hm, hk, hj, hl => by
    refine ⟨bl, junk, ?_, by simpa using hm, hk, by simpa using hl⟩
    have h1 : ¬ (((kept.length + junk.length : Nat) : Int) < n) := by simp at hl; omega
    have hcv := chkV_of hfv
    rw [slices_DeleteFunc_End_R0_eq]
    simp only [slices_DeleteFunc_End_B0, slices_DeleteFunc_End_K0_a, h1, hcv, List.filter_nil, zy, simprocAttr]
  | x :: suf, kept, junk, bl, hm, hk, hj, hl => by
    have hl' : kept.length + junk.length + 1 + suf.length = n := by simp at hl; omega
    have h1 : (((kept.length + junk.length : Nat) : Int) < n) := by omega
    have hw := wrapN (n := kept.length + junk.length) (by omega)
    have hw2 := wrapN (n := kept.length) (by omega)
    have hcv := chkV_of hfv
    have hg : ∀ bx, Heap.get ⟨bx, bl⟩ (.blk m) = some ((kept ++ junk ++ x :: suf).flatMap fE) := fun bx => get_blk bx bl m _ hm
    have hia : iaddrC 2 (.os 2 (.blk m) 0 n) (.int .i64 (kept.length + junk.length : Nat)) = some (.op (.blk m) ((kept.length + junk.length) * 2)) := by
      unfold iaddrC iaddrN
      simp only [Int.toNat_natCast, Nat.zero_add]
      rw [if_pos ⟨trivial, by omega, by omega⟩]
    have hia2 : iaddrC 2 (.os 2 (.blk m) 0 n) (.int .i64 kept.length) = some (.op (.blk m) (kept.length * 2)) := by
      unfold iaddrC iaddrN
      simp only [Int.toNat_natCast, Nat.zero_add]
      rw [if_pos ⟨trivial, by omega, by omega⟩]
    have hd : ((kept ++ junk ++ x :: suf).flatMap fE).drop ((kept.length + junk.length) * 2) = .int .i64 x.s :: .int .i64 x.e :: suf.flatMap fE := by
      have := drop_mid flatE (kept ++ junk) suf x
      rw [List.length_append] at this
      exact this
    have hcx := fun bx => hcall bl bx x hk
    simp only [fE] at hcx
    by_cases hp : p x = true
    · obtain ⟨bl', junk', e, e1, e2, e3⟩ := del_loop m n hmk hn suf kept (junk ++ [x]) bl (by simpa using hm) hk (by simp) (by simpa using hl)
      have hfl : (x :: suf).filter (fun x => !p x) = suf.filter fun x => !p x := by simp [hp]
      rw [hfl]
      refine ⟨bl', junk', ?_, e1, e2, e3⟩
      have hidx : (kept.length + (junk ++ [x]).length : Nat) = kept.length + junk.length + 1 := by simp; omega
      rw [hidx] at e
      rw [slices_DeleteFunc_End_R0_eq]
      simp only [slices_DeleteFunc_End_B0, slices_DeleteFunc_End_K0_a, h1, hia, hg, hd, hcx, hp, hw, hcv, e, zy, simprocAttr]
    · obtain ⟨j0, junk0, rfl⟩ : ∃ j0 junk0, junk = j0 :: junk0 := by cases junk with | nil => exact (hj rfl).elim | cons a b => exact ⟨a, b, rfl⟩
      have hml : m < bl.length := (List.getElem?_eq_some_iff.1 hm).1
      have hst : ∀ bx, stE 2 (kept.length * 2) (.agg [.int .i64 x.s, .int .i64 x.e]) ⟨bx, bl⟩ (.blk m) ((kept ++ j0 :: junk0 ++ x :: suf).flatMap fE) = some ⟨bx, bl.set m (.cells ((kept ++ x :: junk0 ++ x :: suf).flatMap fE))⟩ := by
        intro bx
        have hlen := flatE.length (kept ++ j0 :: junk0 ++ x :: suf)
        have hsm := setMany_mid flatE kept (junk0 ++ x :: suf) x j0
        unfold stE
        rw [if_pos ⟨rfl, by rw [hlen]; simp; omega, rfl, .inr rfl⟩]
        simp only [List.append_assoc, List.cons_append] at hsm ⊢
        simp only [fE] at hsm
        simp only [CV.cells, hsm, put_blk]
      obtain ⟨bl', junk', e, e1, e2, e3⟩ := del_loop m n hmk hn suf (kept ++ [x]) (junk0 ++ [x]) (bl.set m (.cells ((kept ++ x :: junk0 ++ x :: suf).flatMap fE))) (by rw [List.getElem?_set_self hml]; simp) (by rw [List.getElem?_set_ne hmk]; exact hk) (by simp) (by simp at hl ⊢; omega)
      have hfl : (x :: suf).filter (fun x => !p x) = x :: suf.filter fun x => !p x := by simp [hp]
      rw [hfl]
      have hke : kept ++ x :: (suf.filter fun x => !p x) = (kept ++ [x]) ++ suf.filter fun x => !p x := by simp
      rw [hke]
      refine ⟨bl', junk', ?_, e1, e2, e3⟩
      have hidx : ((kept ++ [x]).length + (junk0 ++ [x]).length : Nat) = kept.length + (j0 :: junk0).length + 1 := by simp; omega
      rw [hidx, show (kept ++ [x]).length = kept.length + 1 by simp] at e
      generalize (j0 :: junk0).length = J at *
      rw [slices_DeleteFunc_End_R0_eq]
      simp only [slices_DeleteFunc_End_B0, slices_DeleteFunc_End_K0_a, h1, hia, hia2, hg, hd, hcx, hp, hst, hw, hw2, hcv, e, zy, simprocAttr]

variable (hsn : ∀ (bl : List Blk) (bx : List (Nat × List CV)), bl[k]? = some (.cells ce) → snapV ⟨bx, bl⟩ false false (snapN ⟨bx, bl⟩ false false 7) fv = some fv') (hp' : ∀ x H, call ctx fv' [.agg (fE x)] H = some (.bool (p x), H))
include hfv' hsn hp'

theorem del_F (v : CV) (bl : List Blk) (l : List Ed) (hO : Own fE 2 bl v l) (hk : bl[k]? = some (.cells ce)) (hne : blkOf v ≠ some k) (hm : l.length ≤ 2 * Zc.small) (bx : List (Nat × List CV)) :
    ∃ v' bl', slices_DeleteFunc_End_F bx bl [v, fv] = some (v', ⟨bx, bl'⟩) ∧ OwnS fE 2 bl' v' (l.filter fun x => !p x) := by
  have hv := fun bx => snapE_own hO bx false
  have hs := fun bx => hsn bl bx hk
  have hi := fun st H => idxE_F fv' hfv' p hp' l hm st H
  have hcv := chkV_of hfv
  cases hf : l.findIdx? p with
  | none =>
    have hall : ∀ x ∈ l, p x = false := fun x hx => by simpa using List.findIdx?_eq_none_iff.1 hf x hx
    have hfl : l.filter (fun x => !p x) = l := List.filter_eq_self.2 fun x hx => by simp [hall x hx]
    have hix : idxOf p l = -1 := by simp [idxOf, hf]
    rw [hfl]
    refine ⟨v, bl, ?_, hO.s⟩
    rw [slices_DeleteFunc_End_F_eq]
    simp only [slices_DeleteFunc_End_C, slices_IndexFunc_End_call, hv, hs, hi, hix, hO.locv, zy, simprocAttr]
  | some i =>
    have hix : idxOf p l = i := by simp [idxOf, hf]
    obtain ⟨hil, hpi, hlt⟩ := List.findIdx?_eq_some_iff_getElem.1 hf
    obtain ⟨pre, x, suf, rfl, hpl, hpx, hpre⟩ : ∃ pre x suf, l = pre ++ x :: suf ∧ pre.length = i ∧ p x = true ∧ ∀ y ∈ pre, p y = false := by
      refine ⟨l.take i, l[i], l.drop (i + 1), by rw [← List.drop_eq_getElem_cons hil, List.take_append_drop], by simp; omega, hpi, fun y hy => ?_⟩
      obtain ⟨j, hj, rfl⟩ := List.mem_iff_getElem.1 hy
      have hji : j < i := by simp at hj; omega
      simpa using hlt j hji
    subst hpl
    have hfl : (pre ++ x :: suf).filter (fun x => !p x) = pre ++ suf.filter fun x => !p x := by
      rw [List.filter_append, List.filter_cons, List.filter_eq_self.2 (fun y hy => by simp [hpre y hy])]
      simp [hpx]
    rw [hfl]
    obtain ⟨m, hia, hg, hvm⟩ := hO.iaddr flatE (k := .i64) (i := 0) (by simp; omega)
    have hmk : m ≠ k := fun h => hne (by rw [hvm, h]; rfl)
    subst hvm
    obtain ⟨bl', junk', e, e1, e2, e3⟩ := del_loop fv hfv p k ce hcall m (pre ++ x :: suf).length hmk hm suf pre [x] bl (by simpa using hg) hk (by simp) (by simp)
    simp only [List.length_cons, List.length_nil, Nat.zero_add] at e
    have hw := wrapN (n := pre.length) (by simp at hm; omega)
    have h1 : ¬ ((pre.length : Int) = -1) := by omega
    clear hpi hlt
    clear hil
    generalize hn : (pre ++ x :: suf).length = n at *
    generalize hq : (pre ++ suf.filter fun x => !p x) = q at *
    have hql : q.length ≤ n := by simp at e3; omega
    have hc1 : slcC 2 (.os 2 (.blk m) 0 n) (some (.int .i64 q.length)) none = some (.os 2 (.blk m) (q.length * 2) (n - q.length)) := by
      unfold slcC
      simp only [sbound, if_true, Option.bind_some]
      rw [if_pos ⟨by omega, by omega⟩]
      simp
    have hc2 : slcC 2 (.os 2 (.blk m) 0 n) none (some (.int .i64 q.length)) = some (.os 2 (.blk m) 0 q.length) := by
      unfold slcC
      simp only [sbound, if_true]
      rw [if_pos ⟨by omega, by omega⟩]
      simp
    have hml : m < bl'.length := (List.getElem?_eq_some_iff.1 e1).1
    have hcl : ∀ bx, clearC 2 [.int .i64 0, .int .i64 0] ⟨bx, bl'⟩ (.os 2 (.blk m) (q.length * 2) (n - q.length)) = some ⟨bx, bl'.set m (.cells (q.flatMap fE ++ repC [.int .i64 0, .int .i64 0] (n - q.length)))⟩ := by
      intro bx
      have hlen := flatE.length (q ++ junk')
      have h3 : (q ++ junk').length = n := e3
      have hjl : junk'.length = n - q.length := by simp at h3; omega
      have hsm := setMany_app (repC [.int .i64 0, .int .i64 0] (n - q.length)) (junk'.flatMap fE) (q.flatMap fE) [] (by rw [repC_length, flatE.length, hjl]; rfl)
      rw [flatE.length] at hsm
      simp only [List.append_nil] at hsm
      simp only [clearC, if_true, get_blk bx bl' m _ e1, Option.bind_some]
      rw [if_pos (by rw [hlen, h3]; omega)]
      simp only [List.flatMap_append, hsm, put_blk]
    refine ⟨.os 2 (.blk m) 0 q.length, bl'.set m (.cells (q.flatMap fE ++ repC [.int .i64 0, .int .i64 0] (n - q.length))), ?_, .inr ⟨m, _, rfl, by rw [List.getElem?_set_self hml]⟩⟩
    rw [slices_DeleteFunc_End_F_eq]
    simp only [slices_DeleteFunc_End_C, slices_DeleteFunc_End_L0_eq, slices_IndexFunc_End_call, hv, hs, hi, hix, h1, hw, hcv, e, hc1, hc2, hop_clear, hcl, zy, simprocAttr]
end
end Go.Proofs.YtlhjpcgfkkhogaaGreat.Zt
end
section
namespace Go.Proofs.YtlhjpcgfkkhogaaGreat.Zt
open Go Go.Zc
set_option maxRecDepth 10000

def fEL (l : List Ed) : List CV := [sl fE l]
theorem flatEL : Flat fEL 1 := ⟨fun _ => rfl, by decide, fun _ => rfl, fun _ => rfl, fun _ => rfl⟩
theorem iaddr_midEL (k : IntKind) (pre suf : List (List Ed)) (x : List Ed) : iaddrC 1 (sl fEL (pre ++ x :: suf)) (.int k pre.length) = some (.vp (sl fE x :: suf.flatMap fEL)) := iaddr_mid flatEL k pre suf x

theorem grow_F (n : Nat) (hn : n ≤ 4 * Zc.small) (bx : List (Nat × List CV)) (bl : List Blk) : ∃ v bl', slices_Grow_End_F bx bl [.nils, .int .i64 n] = some (v, ⟨bx, bl'⟩) ∧ OwnS fE 2 bl' v [] := by
  unfold Zc.small at hn
  have hw : IntKind.i64.wrap ((n : Int) - 0) = n := by rw [wrap64 (by omega) (by omega)]; omega
  have h0 : ¬ ((n : Int) < 0) := by omega
  have hc1 : slcC 2 .nils none (some (.int .i64 0)) = some .nils := rfl
  have hc2 : slcC 2 (.os 2 (.blk bl.length) 0 n) none (some (.int .i64 0)) = some (.os 2 (.blk bl.length) 0 0) := by
    unfold slcC
    simp only [sbound, if_true]
    rw [if_pos ⟨by omega, by omega⟩]
    simp
  by_cases h : n = 0
  · subst h
    refine ⟨.nils, bl, ?_, .inl ⟨rfl, rfl⟩⟩
    rw [slices_Grow_End_F_eq]
    simp only [slices_Grow_End_C, Int.natCast_zero, zy, simprocAttr]
  · have h1 : (0 : Int) < n := by omega
    have h2 : (n : Int) * 16 ≤ 140737488355328 := by omega
    refine ⟨.os 2 (.blk bl.length) 0 0, bl ++ [.cells (repC [.int .i64 0, .int .i64 0] n)], ?_, .inr ⟨bl.length, repC [.int .i64 0, .int .i64 0] n, rfl, by simp⟩⟩
    rw [slices_Grow_End_F_eq]
    simp only [slices_Grow_End_C, h0, hw, h1, h2, hc1, hc2, Int.cast_ofNat_Int, Int.toNat_natCast, zy, simprocAttr]

theorem cat_len : ∀ (s p : List (List Ed)), (p ++ s).length ≤ 1000 → (p.flatten.length + s.flatten.length) ≤ 4 * Zc.small →
    slices_Concat_End_R0 ([(0, sl fEL (p ++ s)), (3, .int .i64 p.flatten.length), (9, sl fEL (p ++ s)), (10, .int .i64 (p ++ s).length), (11, .int .i64 p.length)], ⟨[], []⟩) =
      some (.norm, [(0, sl fEL (p ++ s)), (3, .int .i64 (p ++ s).flatten.length)], ⟨[], []⟩)
  | [], p, hm, hl => by
    rw [slices_Concat_End_R0_eq]
    simp only [slices_Concat_End_B0, slices_Concat_End_K0_a, zy, simprocAttr]
  | x :: s, p, hm, hl => by
    have h1 : ((p.length : Int) < (p ++ x :: s).length) := by simp; omega
    have hw := wrapM (n := p.length) (by simp at hm; omega)
    have hxl : p.flatten.length + x.length + s.flatten.length ≤ 4 * Zc.small := by simp at hl; simp; omega
    unfold Zc.small at hxl
    have hw2 : IntKind.i64.wrap ((p.flatten.length : Int) + x.length) = ((p ++ [x]).flatten.length : Nat) := by rw [wrap64 (by omega) (by omega)]; simp
    have h0 : ¬ (((p ++ [x]).flatten.length : Int) < 0) := by omega
    have ih := cat_len s (p ++ [x]) (by simpa using hm) (by simp at hl ⊢; omega)
    rw [show (p ++ [x]) ++ s = p ++ x :: s by simp, show (p ++ [x]).length = p.length + 1 by simp] at ih
    rw [slices_Concat_End_R0_eq]
    simp only [slices_Concat_End_B0, slices_Concat_End_K0_a, h1, iaddr_midEL, hw, hw2, h0, ih, zy, simprocAttr]

theorem cat_app (ls : List (List Ed)) (hm : ls.length ≤ 1000) (hl : ls.flatten.length ≤ 4 * Zc.small) : ∀ (s p : List (List Ed)) (v : CV) (bl : List Blk), p ++ s = ls → OwnS fE 2 bl v p.flatten →
    ∃ v' bl', slices_Concat_End_R2 ([(6, v), (25, sl fEL ls), (26, .int .i64 ls.length), (27, .int .i64 p.length)], ⟨[], bl⟩) = some (.norm, [(6, v')], ⟨[], bl'⟩) ∧ OwnS fE 2 bl' v' ls.flatten
  | [], p, v, bl, hp, hO => by
    rw [List.append_nil] at hp
    subst hp
    refine ⟨v, bl, ?_, hO⟩
    rw [slices_Concat_End_R2_eq]
    simp only [slices_Concat_End_B2, slices_Concat_End_K2_a, hO.chkV, zy, simprocAttr]
  | x :: s, p, v, bl, hp, hO => by
    have h1 : ((p.length : Int) < ls.length) := by rw [← hp]; simp; omega
    have hw := wrapM (n := p.length) (by rw [← hp] at hm; simp at hm; omega)
    have hi : iaddrC 1 (sl fEL ls) (.int .i64 p.length) = some (.vp (sl fE x :: s.flatMap fEL)) := by rw [← hp]; exact iaddr_midEL _ p s x
    have hb : p.flatten.length + x.length ≤ 4 * Zc.small := by rw [← hp] at hl; simp at hl; simp; omega
    unfold Zc.small at hb
    obtain ⟨v1, bl1, e1, o1, _⟩ := hO.appSl flatE (bytes := 16) (zero := [.int .i64 0, .int .i64 0]) (by decide) rfl rfl x (by omega)
    obtain ⟨v', bl', e, o⟩ := cat_app ls hm hl s (p ++ [x]) v1 bl1 (by simpa using hp) (by simpa using o1)
    rw [show (p ++ [x]).length = p.length + 1 by simp] at e
    refine ⟨v', bl', ?_, o⟩
    rw [slices_Concat_End_R2_eq]
    simp only [slices_Concat_End_B2, slices_Concat_End_K2_a, h1, hi, hw, e1, hO.chkV, o1.chkV, e, zy, simprocAttr]

theorem concat_F (ls : List (List Ed)) (hm : ls.length ≤ 1000) (hl : ls.flatten.length ≤ 4 * Zc.small) (st : Bool) (H : Heap) : slices_Concat_End_F st H [sl fEL ls] = some (sl fE ls.flatten, H) := by
  have e1 := cat_len ls [] hm (by simpa using hl)
  simp only [List.nil_append, List.length_nil, Int.natCast_zero, List.flatten_nil] at e1
  obtain ⟨v, bl, e2, o2⟩ := grow_F ls.flatten.length hl [] []
  obtain ⟨v', bl', e3, o3⟩ := cat_app ls hm hl ls [] v bl rfl o2
  simp only [List.nil_append, List.length_nil, Int.natCast_zero] at e3
  have hs := fun bx => o3.snapV flatE bx st _ (snap_E ⟨bx, bl'⟩ st false 6)
  rw [slices_Concat_End_F_eq]
  simp only [slices_Concat_End_C, slices_Concat_End_L0_eq, slices_Concat_End_L2_eq, slices_Grow_End_call, e1, e2, e3, o2.chkV, hs, zy, simprocAttr]

theorem garound1_F (x y : Ed) (st : Bool) (H : Heap) : graph_Graph_Around_1_F st H [.agg (fE y), .vp (fE x)] = some (.bool (decide (y = x)), H) := by
  rw [graph_Graph_Around_1_F_eq]
  have hq := eqE y x
  simp only [fE] at hq
  simp only [graph_Graph_Around_1_C, fE, hq, zy, simprocAttr]

theorem garound_F (l : Lay) (hl : l.ok) (x : Ed) (H : Heap) : graph_Graph_Around_F false H [.vp (layC l), .agg (fE x)] = some (sl fE (around l x), H) := by
  rw [graph_Graph_Around_F_eq]
  have hnF := gnode_F l x
  simp only [fE] at hnF
  cases hn : nodeOf l x with
  | none =>
    simp only [hn, Option.getD_none] at hnF
    simp only [graph_Graph_Around_C, fE, graph_Graph_node_call, hnF, around, hn, sl_nil fE, zy, simprocAttr]
  | some n =>
    simp only [hn, Option.getD_some] at hnF
    have hpF := gpoint_F l hl n
    cases hp : ptOf l n with
    | some i =>
      obtain ⟨hi, hf⟩ := ptOf_some hp
      simp only [hp] at hpF
      have h0 : ¬ ((i : Int) < 0) := by omega
      have hcc : CV.vs [sl fE (oneOf l l.pts[i].left n), sl fE (oneOf l l.pts[i].right n)] 2 = sl fEL [oneOf l l.pts[i].left n, oneOf l l.pts[i].right n] := rfl
      have hcF := fun st H => concat_F [oneOf l l.pts[i].left n, oneOf l l.pts[i].right n] (by simp) (by have := oneOf_len l l.pts[i].left n; have := oneOf_len l l.pts[i].right n; unfold Zc.small; simp; omega) st H
      simp only [List.flatten_cons, List.flatten_nil, List.append_nil] at hcF
      by_cases h1 : x.s = l.pts[i].stem
      · simp only [graph_Graph_Around_C, fE, graph_Graph_node_call, hnF, graph_Graph_Point_call, hpF, h0, iaddr_atP hi, eq_true h1, graph_Graph_at_call, gat_F l hl, slices_Concat_End_call, hcc, hcF, around, hn, hf, zy, simprocAttr]
      · by_cases h2 : x.s = l.pts[i].left
        · simp only [graph_Graph_Around_C, fE, graph_Graph_node_call, hnF, graph_Graph_Point_call, hpF, h0, iaddr_atP hi, eq_false h1, eq_true h2, graph_Graph_at_call, gat_F l hl, around, hn, hf, zy, simprocAttr]
        · by_cases h3 : x.s = l.pts[i].right
          · simp only [graph_Graph_Around_C, fE, graph_Graph_node_call, hnF, graph_Graph_Point_call, hpF, h0, iaddr_atP hi, eq_false h1, eq_false h2, eq_true h3, graph_Graph_at_call, gat_F l hl, around, hn, hf, zy, simprocAttr]
          · simp only [graph_Graph_Around_C, fE, graph_Graph_node_call, hnF, graph_Graph_Point_call, hpF, h0, iaddr_atP hi, h1, h2, h3, sl_nil fE, around, hn, hf, zy, simprocAttr]
    | none =>
      have hf := ptOf_none hp
      simp only [hp] at hpF
      obtain ⟨v, bl, e, o, hkeep, hnew⟩ := gends_F l hl n false [] [.cells (fE x)]
      have hk0 : bl[0]? = some (.cells (fE x)) := hkeep 0 _ rfl
      have hne : blkOf v ≠ some 0 := fun h => by have := hnew 0 h; simp at this
      have hc : ∀ y (H' : Heap), call ctx (.fn (.func 115) [] [.vp (fE x)]) [.agg (fE y)] H' = some (.bool (decide (y = x)), H') := by
        intro y H'
        have := garound1_F x y
        simp only [fE] at this
        simp only [graph_Graph_Around_1_call, fE, zy, simprocAttr, this]
      have hc2 : ∀ (bl : List Blk) (bx : List (Nat × List CV)) (y : Ed), bl[0]? = some (.cells (fE x)) → call ctx (.fn (.func 115) [] [.op (.blk 0) 0]) [.agg (fE y)] ⟨bx, bl⟩ = some (.bool (decide (y = x)), ⟨bx, bl⟩) := by
        intro bl bx y hb
        have := garound1_F x y
        simp only [fE] at this
        have hg := get_blk bx bl 0 _ hb
        simp only [fE] at hg
        simp only [graph_Graph_Around_1_call, fE, hg, zy, simprocAttr, this]
      have hsn : ∀ (bl : List Blk) (bx : List (Nat × List CV)), bl[0]? = some (.cells (fE x)) → snapV ⟨bx, bl⟩ false false (snapN ⟨bx, bl⟩ false false 7) (.fn (.func 115) [] [.op (.blk 0) 0]) = some (.fn (.func 115) [] [.vp (fE x)]) := by
        intro bl bx hb
        have hg := get_blk bx bl 0 _ hb
        simp only [fE] at hg ⊢
        simp only [hg, zy, simprocAttr]
      obtain ⟨v', bl', e', o'⟩ := del_F (.fn (.func 115) [] [.op (.blk 0) 0]) (.fn (.func 115) [] [.vp (fE x)]) rfl rfl (fun y => decide (y = x)) 0 (fE x) hc2 hsn hc v bl (ends l n) o hk0 hne (ends_len hl n) []
      simp only [fE] at e e'
      have hfe : (ends l n).filter (fun y => !decide (y = x)) = (ends l n).filter fun y => decide (y ≠ x) := by congr 1; funext y; by_cases h : y = x <;> simp [h]
      rw [hfe] at o'
      have ho := o'.len
      have hs := fun bx => o'.snapV flatE bx false _ (snap_E ⟨bx, bl'⟩ false false 6)
      by_cases h1 : ((ends l n).filter fun y => decide (y ≠ x)).length = 1
      · have h1' : (((ends l n).filter fun y => decide (y ≠ x)).length : Int) = 1 := by omega
        simp only [graph_Graph_Around_C, fE, graph_Graph_node_call, hnF, graph_Graph_Point_call, hpF, graph_Graph_Ends_call, e, slices_DeleteFunc_End_call, e', o.locv, o'.locv, ho, eq_true h1, eq_true h1', hs, around, hn, hf, zy, simprocAttr]
      · have h1' : ¬ (((ends l n).filter fun y => decide (y ≠ x)).length : Int) = 1 := by omega
        simp only [graph_Graph_Around_C, fE, graph_Graph_node_call, hnF, graph_Graph_Point_call, hpF, graph_Graph_Ends_call, e, slices_DeleteFunc_End_call, e', o.locv, o'.locv, ho, eq_false h1, eq_false h1', sl_nil fE, around, hn, hf, zy, simprocAttr]
end Go.Proofs.YtlhjpcgfkkhogaaGreat.Zt
end
