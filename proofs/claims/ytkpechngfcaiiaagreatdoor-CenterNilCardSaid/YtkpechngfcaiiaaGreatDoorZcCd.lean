/- Walks: the reference's layouts as bytes: all of it. No condition. -/
import Derived.Test.YtkpechngfcaiiaaGreatDoorZcCn
import Derived.Test.YtkpechngfcaiiaaGreatDoorZcFlo
set_option linter.all false
section
namespace Go.Proofs.YtkpechngfcaiiaaGreatDoor.Zt
open Go Go.Zc
set_option maxRecDepth 100000

def bitsZ (zs : List (Int × Int)) : List Bool := zs.flatMap fun z => bitsL 32 [z.1, z.2]
def bitsS (l : List Sec) : List Bool := l.flatMap fun s => bitsL 16 [s.len] ++ bitsL 8 [s.a, s.b]
def bitsP (l : List Pt) : List Bool := l.flatMap fun p => bitsL 8 [p.node, p.stem, p.left, p.right]

theorem sec_loop (l : Lay) : ∀ (s p : List Sec) (b : List Bool), p ++ s = l.secs → b.length + 32 * s.length ≤ 9000000 → l.secs.length ≤ 100000 →
    r04_Encode_R2 ([(1, .op (.loc 1) 0), (3, sl fB b), (7, .int .i64 p.length)], ⟨[(1, layC l)], []⟩) = some (.norm, [(1, .op (.loc 1) 0), (3, sl fB (b ++ bitsS s))], ⟨[(1, layC l)], []⟩)
  | [], p, b, hp, hb, hl => by
    have h1 : ¬ ((p.length : Int) < (l.secs.length : Int)) := by rw [← hp]; simp
    rw [r04_Encode_R2_eq]
    simp only [r04_Encode_B2, r04_Encode_K2_a, h1, bitsS, List.flatMap_nil, zy, simprocAttr]
  | x :: s, p, b, hp, hb, hl => by
    have hpl : p.length + 1 + s.length = l.secs.length := by rw [← hp]; simp; omega
    simp only [List.length_cons] at hb
    have ih := sec_loop l s (p ++ [x]) (b ++ bitsL 16 [x.len] ++ bitsL 8 [x.a, x.b]) (by rw [← hp]; simp) (by simp only [List.length_append, bitsL_len, List.length_cons, List.length_nil]; omega) hl
    rw [show b ++ bitsL 16 [x.len] ++ bitsL 8 [x.a, x.b] ++ bitsS s = b ++ bitsS (x :: s) by simp [bitsS, List.append_assoc]] at ih
    have h1 : ((p.length : Int) < (l.secs.length : Int)) := by omega
    have hi : iaddrC 3 (sl fS l.secs) (.int .i64 p.length) = some (.vp (.int .i64 x.len :: .int .i64 x.a :: .int .i64 x.b :: s.flatMap fS)) := by rw [← hp]; exact iaddr_midS _ p s x
    have hw1 : IntKind.i64.wrap ((p.length : Int) + 1) = ((p ++ [x]).length : Nat) := by rw [IntKind.wrap_i64]; simp; omega
    have e1 := fun H => rput_F b 16 16 rfl (by decide) [x.len] (by simp; omega) (by simp) H
    have e2 := fun H => rput_F (b ++ bitsL 16 [x.len]) 8 8 rfl (by decide) [x.a, x.b] (by simp only [List.length_append, bitsL_len, List.length_cons, List.length_nil]; omega) (by simp) H
    have e0 : sl fI [x.len] = .vs [.int .i64 x.len] 1 := rfl
    have e0' : sl fI [x.a, x.b] = .vs [.int .i64 x.a, .int .i64 x.b] 2 := rfl
    rw [e0] at e1
    rw [e0'] at e2
    rw [r04_Encode_R2_eq]
    simp only [r04_Encode_B2, r04_Encode_K2_a, h1, hi, hw1, r04_put_call, e1, e2, ih, zy, simprocAttr]

theorem pt_loop (l : Lay) : ∀ (s p : List Pt) (b : List Bool), p ++ s = l.pts → b.length + 32 * s.length ≤ 9000000 → l.pts.length ≤ 100000 →
    r04_Encode_R4 ([(1, .op (.loc 1) 0), (3, sl fB b), (9, .int .i64 p.length)], ⟨[(1, layC l)], []⟩) = some (.norm, [(1, .op (.loc 1) 0), (3, sl fB (b ++ bitsP s))], ⟨[(1, layC l)], []⟩)
  | [], p, b, hp, hb, hl => by
    have h1 : ¬ ((p.length : Int) < (l.pts.length : Int)) := by rw [← hp]; simp
    rw [r04_Encode_R4_eq]
    simp only [r04_Encode_B4, r04_Encode_K4_a, h1, bitsP, List.flatMap_nil, zy, simprocAttr]
  | x :: s, p, b, hp, hb, hl => by
    have hpl : p.length + 1 + s.length = l.pts.length := by rw [← hp]; simp; omega
    simp only [List.length_cons] at hb
    have ih := pt_loop l s (p ++ [x]) (b ++ bitsL 8 [x.node, x.stem, x.left, x.right]) (by rw [← hp]; simp) (by simp only [List.length_append, bitsL_len, List.length_cons, List.length_nil]; omega) hl
    rw [show b ++ bitsL 8 [x.node, x.stem, x.left, x.right] ++ bitsP s = b ++ bitsP (x :: s) by simp [bitsP, List.append_assoc]] at ih
    have h1 : ((p.length : Int) < (l.pts.length : Int)) := by omega
    have hi : iaddrC 4 (sl fP l.pts) (.int .i64 p.length) = some (.vp (.int .i64 x.node :: .int .i64 x.stem :: .int .i64 x.left :: .int .i64 x.right :: s.flatMap fP)) := by rw [← hp]; exact iaddr_midP _ p s x
    have hw1 : IntKind.i64.wrap ((p.length : Int) + 1) = ((p ++ [x]).length : Nat) := by rw [IntKind.wrap_i64]; simp; omega
    have e1 := fun H => rput_F b 8 8 rfl (by decide) [x.node, x.stem, x.left, x.right] (by simp; omega) (by simp) H
    have e0 : sl fI [x.node, x.stem, x.left, x.right] = .vs [.int .i64 x.node, .int .i64 x.stem, .int .i64 x.left, .int .i64 x.right] 4 := rfl
    rw [e0] at e1
    rw [r04_Encode_R4_eq]
    simp only [r04_Encode_B4, r04_Encode_K4_a, h1, hi, hw1, r04_put_call, e1, ih, zy, simprocAttr]

/-- Places that are whole numbers. -/
def Zs : List (Nat × Nat) → List (Int × Int) → Prop
  | [], [] => True
  | z :: s, p :: q => (RepZ z p ∧ p.1.natAbs ≤ 10000000000 ∧ p.2.natAbs ≤ 10000000000) ∧ Zs s q
  | _, _ => False
theorem Zs.len : ∀ {s : List (Nat × Nat)} {q : List (Int × Int)}, Zs s q → s.length = q.length
  | [], [], _ => rfl
  | _ :: _, _ :: _, h => by simp [Zs.len h.2]
  | [], _ :: _, h => h.elim
  | _ :: _, [], h => h.elim
theorem re_q (k : FloatKind) (a b : Nat) : reC (.cplx k a b) = some (.float k a) := (rfl)
theorem im_q (k : FloatKind) (a b : Nat) : imC (.cplx k a b) = some (.float k b) := (rfl)
theorem at_F {z : Nat × Nat} {p : Int × Int} (hz : RepZ z p) (h1 : p.1.natAbs ≤ 10000000000) (h2 : p.2.natAbs ≤ 10000000000) (st : Bool) (H : Heap) : r01_At_F st H [.cplx .f64 z.1 z.2] = some (.tup [.int .i64 p.1, .int .i64 p.2], H) := by
  have e1 := hz.1.toInt (by omega) (by omega)
  have e2 := hz.2.toInt (by omega) (by omega)
  rw [r01_At_F_eq]
  simp only [r01_At_C, e1, e2, re_q, im_q, zy, simprocAttr]

theorem node_loop (l : Lay) : ∀ (s p : List (Nat × Nat)) (q : List (Int × Int)) (b : List Bool), p ++ s = l.nodes → Zs s q → b.length + 64 * s.length ≤ 9000000 → l.nodes.length ≤ 100000 →
    r04_Encode_R0 ([(1, .op (.loc 1) 0), (3, sl fB b), (4, .int .i64 p.length)], ⟨[(1, layC l)], []⟩) = some (.norm, [(1, .op (.loc 1) 0), (3, sl fB (b ++ bitsZ q))], ⟨[(1, layC l)], []⟩)
  | [], p, q, b, hp, hz, hb, hl => by
    have hq : q = [] := by cases q with | nil => rfl | cons _ _ => exact hz.elim
    subst hq
    have h1 : ¬ ((p.length : Int) < (l.nodes.length : Int)) := by rw [← hp]; simp
    rw [r04_Encode_R0_eq]
    simp only [r04_Encode_B0, r04_Encode_K0_a, h1, bitsZ, List.flatMap_nil, zy, simprocAttr]
  | z :: s, p, [], b, hp, hz, hb, hl => hz.elim
  | z :: s, p, x :: q, b, hp, hz, hb, hl => by
    obtain ⟨⟨hz1, hz2, hz3⟩, hz⟩ := hz
    have hpl : p.length + 1 + s.length = l.nodes.length := by rw [← hp]; simp; omega
    simp only [List.length_cons] at hb
    have ih := node_loop l s (p ++ [z]) q (b ++ bitsL 32 [x.1, x.2]) (by rw [← hp]; simp) hz (by simp only [List.length_append, bitsL_len, List.length_cons, List.length_nil]; omega) hl
    rw [show b ++ bitsL 32 [x.1, x.2] ++ bitsZ q = b ++ bitsZ (x :: q) by simp [bitsZ, List.append_assoc]] at ih
    have h1 : ((p.length : Int) < (l.nodes.length : Int)) := by omega
    have hi : iaddrC 1 (sl fZ l.nodes) (.int .i64 p.length) = some (.vp (.cplx .f64 z.1 z.2 :: s.flatMap fZ)) := by rw [← hp]; exact iaddr_mid flatZ .i64 p s z
    have hw1 : IntKind.i64.wrap ((p.length : Int) + 1) = ((p ++ [z]).length : Nat) := by rw [IntKind.wrap_i64]; simp; omega
    have e1 := fun H => rput_F b 32 32 rfl (by decide) [x.1, x.2] (by simp; omega) (by simp) H
    have e0 : sl fI [x.1, x.2] = .vs [.int .i64 x.1, .int .i64 x.2] 2 := rfl
    rw [e0] at e1
    have ha := fun st H => at_F hz1 hz2 hz3 st H
    rw [r04_Encode_R0_eq]
    simp only [r04_Encode_B0, r04_Encode_K0_a, h1, hi, hw1, r01_At_call, ha, r04_put_call, e1, ih, zy, simprocAttr]

/-- A layout's bits. -/
def encBits (l : Lay) (q : List (Int × Int)) : List Bool :=
  bitsL 8 [66, 76, (l.nodes.length : Int)] ++ bitsZ q ++ bitsL 8 [(l.secs.length : Int)] ++ bitsS l.secs ++ (bitsL 8 [(l.parts.length : Int)] ++ bitsLL l.parts) ++ bitsL 8 [(l.pts.length : Int)] ++ bitsP l.pts ++
  (bitsL 8 [(l.routes.length : Int)] ++ bitsLL l.routes) ++ bitsL 16 [l.speed, l.mute, l.wait, l.cancel, l.stay]
def encOf (l : Lay) (q : List (Int × Int)) : List Int := bytesOf (encBits l q) ++ crcSum (bytesOf (encBits l q))

theorem bitsZ_len (q : List (Int × Int)) : (bitsZ q).length = 64 * q.length := by
  induction q with
  | nil => rfl
  | cons x q ih => simp only [bitsZ, List.flatMap_cons, List.length_append, bitsL_len, List.length_cons, List.length_nil] at ih ⊢; rw [ih]; omega
theorem bitsS_len (q : List Sec) : (bitsS q).length = 32 * q.length := by
  induction q with
  | nil => rfl
  | cons x q ih => simp only [bitsS, List.flatMap_cons, List.length_append, bitsL_len, List.length_cons, List.length_nil] at ih ⊢; rw [ih]; omega
theorem bitsP_len (q : List Pt) : (bitsP q).length = 32 * q.length := by
  induction q with
  | nil => rfl
  | cons x q ih => simp only [bitsP, List.flatMap_cons, List.length_append, bitsL_len, List.length_cons, List.length_nil] at ih ⊢; rw [ih]; omega

/-- Not too much to be encoded. -/
structure Thin (l : Lay) : Prop where
  nodes : l.nodes.length ≤ 10000
  secs : l.secs.length ≤ 10000
  pts : l.pts.length ≤ 10000
  parts : l.parts.length ≤ 10000
  routes : l.routes.length ≤ 10000
  part : ∀ x ∈ l.parts, x.length ≤ 10000
  route : ∀ x ∈ l.routes, x.length ≤ 10000
  partB : (bitsLL l.parts).length ≤ 100000
  routeB : (bitsLL l.routes).length ≤ 100000

set_option maxHeartbeats 4000000 in
theorem encode_F (l : Lay) (q : List (Int × Int)) (hz : Zs l.nodes q) (hb : (encBits l q).length ≤ 1000000) (ht : Thin l) (H : Heap) : r04_Encode_F false H [.agg (layC l)] = some (sl fU (encOf l q), H) := by
  have hq := hz.len
  have hl := hb
  simp only [encBits, List.length_append, bitsL_len, bitsZ_len, bitsS_len, bitsP_len, List.length_cons, List.length_nil] at hl
  have e1 := fun H => rput_F [] 8 8 rfl (by decide) [66, 76, (l.nodes.length : Int)] (by simp) (by simp) H
  have e1' : sl fI [66, 76, (l.nodes.length : Int)] = .vs [.int .i64 66, .int .i64 76, .int .i64 l.nodes.length] 3 := rfl
  rw [e1', show sl fB ([] : List Bool) = .vs [] 0 from rfl, List.nil_append] at e1
  let b1 := bitsL 8 [66, 76, (l.nodes.length : Int)]
  have n1 : b1.length = 24 := by simp [b1, bitsL_len]
  have h0 := node_loop l l.nodes [] q b1 rfl hz (by omega) (by have := ht.nodes; omega)
  rw [show (([] : List (Nat × Nat)).length : Int) = 0 from rfl] at h0
  let b2 := b1 ++ bitsZ q
  have n2 : b2.length = 24 + 64 * q.length := by simp [b2, n1, bitsZ_len]
  have e2 := fun H => rput_F b2 8 8 rfl (by decide) [(l.secs.length : Int)] (by simp; omega) (by simp) H
  have e2' : ∀ x : Int, sl fI [x] = .vs [.int .i64 x] 1 := fun _ => rfl
  rw [e2'] at e2
  let b3 := b2 ++ bitsL 8 [(l.secs.length : Int)]
  have n3 : b3.length = 32 + 64 * q.length := by simp [b3, n2, bitsL_len]; omega
  have h2 := sec_loop l l.secs [] b3 rfl (by omega) (by have := ht.secs; omega)
  rw [show (([] : List Sec).length : Int) = 0 from rfl] at h2
  let b4 := b3 ++ bitsS l.secs
  have n4 : b4.length = 32 + 64 * q.length + 32 * l.secs.length := by simp [b4, n3, bitsS_len]
  have e3 := fun H => rlists_F b4 l.parts (by have := ht.partB; omega) (by have := ht.parts; omega) (fun x hx => by have := ht.part x hx; omega) H
  let b5 := b4 ++ bitsL 8 [(l.parts.length : Int)] ++ bitsLL l.parts
  have n5 : b5.length = 40 + 64 * q.length + 32 * l.secs.length + (bitsLL l.parts).length := by simp [b5, n4, bitsL_len]; omega
  have e4 := fun H => rput_F b5 8 8 rfl (by decide) [(l.pts.length : Int)] (by simp; omega) (by simp) H
  rw [e2'] at e4
  let b6 := b5 ++ bitsL 8 [(l.pts.length : Int)]
  have n6 : b6.length = 48 + 64 * q.length + 32 * l.secs.length + (bitsLL l.parts).length := by simp [b6, n5, bitsL_len]; omega
  have h4 := pt_loop l l.pts [] b6 rfl (by omega) (by have := ht.pts; omega)
  rw [show (([] : List Pt).length : Int) = 0 from rfl] at h4
  let b7 := b6 ++ bitsP l.pts
  have n7 : b7.length = 48 + 64 * q.length + 32 * l.secs.length + (bitsLL l.parts).length + 32 * l.pts.length := by simp [b7, n6, bitsP_len]
  have e5 := fun H => rlists_F b7 l.routes (by have := ht.routeB; omega) (by have := ht.routes; omega) (fun x hx => by have := ht.route x hx; omega) H
  let b8 := b7 ++ bitsL 8 [(l.routes.length : Int)] ++ bitsLL l.routes
  have n8 : b8.length = 56 + 64 * q.length + 32 * l.secs.length + (bitsLL l.parts).length + 32 * l.pts.length + (bitsLL l.routes).length := by simp [b8, n7, bitsL_len]; omega
  have e6 := fun H => rput_F b8 16 16 rfl (by decide) [l.speed, l.mute, l.wait, l.cancel, l.stay] (by simp; omega) (by simp) H
  have e6' : sl fI [l.speed, l.mute, l.wait, l.cancel, l.stay] = .vs [.int .i64 l.speed, .int .i64 l.mute, .int .i64 l.wait, .int .i64 l.cancel, .int .i64 l.stay] 5 := rfl
  rw [e6'] at e6
  have hbits : b8 ++ bitsL 16 [l.speed, l.mute, l.wait, l.cancel, l.stay] = encBits l q := by simp only [encBits, b8, b7, b6, b5, b4, b3, b2, b1, List.append_assoc]
  have e7 := fun st H => bytes_F (encBits l q) (by omega) st H
  have hbl : (bytesOf (encBits l q)).length ≤ small := by
    unfold small
    simp only [bytesOf, List.length_map, List.length_range]
    omega
  have e8 := fun H => closeR_F (bytesOf (encBits l q)) hbl H
  rw [r04_Encode_F_eq]
  simp only [r04_Encode_C, r04_Encode_L0_eq, r04_Encode_L2_eq, r04_Encode_L4_eq, r04_put_call, r04_lists_call, e1, h0, e2, h2, e3, e4, h4, e5, e6, hbits, r02_Bytes_call, e7, r03_Close_call, e8, encOf, b1, b2, b3, b4, b5, b6, b7, b8, zy, simprocAttr]
end Go.Proofs.YtkpechngfcaiiaaGreatDoor.Zt
end
section
namespace Go.Proofs.YtkpechngfcaiiaaGreatDoor.Zt
open Go Go.Zc
set_option maxRecDepth 1000000

def l0 : Lay := ⟨[(0, 0), (4621819117588971520, 0), (4626322717216342016, 0), (4629137466983448576, 0)], [⟨20, 0, 1⟩, ⟨21, 1, 2⟩, ⟨22, 2, 3⟩], [[0], [1], [2]], [], [], 1, 1, 1, 1, 0⟩
def q0 : List (Int × Int) := [(0, 0), (10, 0), (20, 0), (30, 0)]
def body0 : List Int := [4, 0, 0, 0, 0, 0, 0, 0, 0, 0, 0, 0, 10, 0, 0, 0, 0, 0, 0, 0, 20, 0, 0, 0, 0, 0, 0, 0, 30, 0, 0, 0, 0, 3, 0, 20, 0, 1, 0, 21, 1, 2, 0, 22, 2, 3, 3, 1, 0, 1, 1, 1, 2, 0, 0, 0, 1, 0, 1, 0, 1, 0, 1, 0, 0]
theorem enc0 : bytesOf (encBits l0 q0) = 66 :: 76 :: body0 := by kernel_rfl
theorem dec0 : decB body0 = some (l0, 8 * body0.length) := by kernel_rfl
theorem fl_at {a : Int} {x : Nat} (ha : a.natAbs < 2 ^ 53) (h : FloatKind.f64.nearest a = x) : Rep x a := h ▸ Rep.fl ha
theorem zs0 : Zs l0.nodes q0 := by
  have r0 : Rep 0 0 := fl_at (by decide) (by kernel_rfl)
  have r1 : Rep 4621819117588971520 10 := fl_at (by decide) (by kernel_rfl)
  have r2 : Rep 4626322717216342016 20 := fl_at (by decide) (by kernel_rfl)
  have r3 : Rep 4629137466983448576 30 := fl_at (by decide) (by kernel_rfl)
  exact ⟨⟨⟨r0, r0⟩, by decide, by decide⟩, ⟨⟨r1, r0⟩, by decide, by decide⟩, ⟨⟨r2, r0⟩, by decide, by decide⟩, ⟨⟨r3, r0⟩, by decide, by decide⟩, trivial⟩
theorem thin0 : Thin l0 := by
  constructor <;> first | (intro x hx; revert x; decide) | decide
theorem byte0 : byteOk (66 :: 76 :: body0) := by
  intro x hx
  revert x
  decide
def bytes0 : List Int := (66 :: 76 :: body0) ++ crcSum (66 :: 76 :: body0)
theorem encode0 (H : Heap) : r04_Encode_F false H [.agg (layC l0)] = some (sl fU bytes0, H) := by
  have h := encode_F l0 q0 zs0 (by decide +kernel) thin0 H
  unfold encOf at h
  rw [enc0] at h
  exact h
theorem decode0 (H : Heap) : layout_Decode_F false H [sl fU bytes0] = some (.tup [.agg (layC l0), .int .i64 0], H) := by
  have h := decode_F bytes0 body0 (fun H => openP_F (66 :: 76 :: body0) (by simp) byte0 (by decide) H) (by simp [body0]) (fun x hx => byte0 x (by simp [hx])) (by decide) H
  rw [dec0] at h
  simpa using h
end Go.Proofs.YtkpechngfcaiiaaGreatDoor.Zt
end
section
namespace Go.Proofs.YtkpechngfcaiiaaGreatDoor.Zt
open Go Go.Zc
set_option maxRecDepth 1000000

theorem decode1 (H : Heap) : layout_Decode_F false H [sl fU bytes0] = some (.tup [.agg [.vs [.cplx .f64 0 0, .cplx .f64 4621819117588971520 0, .cplx .f64 4626322717216342016 0, .cplx .f64 4629137466983448576 0] 4, .vs [.int .i64 20, .int .i64 0, .int .i64 1, .int .i64 21, .int .i64 1, .int .i64 2, .int .i64 22, .int .i64 2, .int .i64 3] 3, .vs [.vs [.int .i64 0] 1, .vs [.int .i64 1] 1, .vs [.int .i64 2] 1] 3, .vs [] 0, .vs [] 0, .int .i64 1, .int .i64 1, .int .i64 1, .int .i64 1, .int .i64 0], .int .i64 0], H) := (decode0 H).trans rfl

theorem k_center_New_1 (bx : List (Nat × List CV)) : center_New_F bx [] [.nils, .nils, .int .i64 0, .nils] = some (.tup [.nilp, .int .i64 4], ⟨bx, []⟩) := ref_run 100 (by kernel_rfl)
set_option maxHeartbeats 4000000 in
theorem k_center_New_2 (bx : List (Nat × List CV)) : center_New_F bx [] [sl fU bytes0, .nils, .int .i64 0, .nils] = some (.tup [.op (.blk 6) 0, .int .i64 0], ⟨bx, [.cells [.int .i64 0, .int .i64 0, .int .i64 0], .cells [.os 1 (.blk 0) 0 3, .int .i64 0], .map [], .cells [.om 2], .cells [.vs [.cplx .f64 0 0, .cplx .f64 4621819117588971520 0, .cplx .f64 4626322717216342016 0, .cplx .f64 4629137466983448576 0] 4, .vs [.int .i64 20, .int .i64 0, .int .i64 1, .int .i64 21, .int .i64 1, .int .i64 2, .int .i64 22, .int .i64 2, .int .i64 3] 3, .vs [.vs [.int .i64 0] 1, .vs [.int .i64 1] 1, .vs [.int .i64 2] 1] 3, .vs [] 0, .vs [] 0, .int .i64 1, .int .i64 1, .int .i64 1, .int .i64 1, .int .i64 0, .vp [.vs [.cplx .f64 0 0, .cplx .f64 4621819117588971520 0, .cplx .f64 4626322717216342016 0, .cplx .f64 4629137466983448576 0] 4, .vs [.int .i64 20, .int .i64 0, .int .i64 1, .int .i64 21, .int .i64 1, .int .i64 2, .int .i64 22, .int .i64 2, .int .i64 3] 3, .vs [.vs [.int .i64 0] 1, .vs [.int .i64 1] 1, .vs [.int .i64 2] 1] 3, .vs [] 0, .vs [] 0, .int .i64 1, .int .i64 1, .int .i64 1, .int .i64 1, .int .i64 0], .nils], .map [], .cells [.vs [.cplx .f64 0 0, .cplx .f64 4621819117588971520 0, .cplx .f64 4626322717216342016 0, .cplx .f64 4629137466983448576 0] 4, .vs [.int .i64 20, .int .i64 0, .int .i64 1, .int .i64 21, .int .i64 1, .int .i64 2, .int .i64 22, .int .i64 2, .int .i64 3] 3, .vs [.vs [.int .i64 0] 1, .vs [.int .i64 1] 1, .vs [.int .i64 2] 1] 3, .vs [] 0, .vs [] 0, .int .i64 1, .int .i64 1, .int .i64 1, .int .i64 1, .int .i64 0, .vp [.vs [.cplx .f64 0 0, .cplx .f64 4621819117588971520 0, .cplx .f64 4626322717216342016 0, .cplx .f64 4629137466983448576 0] 4, .vs [.int .i64 20, .int .i64 0, .int .i64 1, .int .i64 21, .int .i64 1, .int .i64 2, .int .i64 22, .int .i64 2, .int .i64 3] 3, .vs [.vs [.int .i64 0] 1, .vs [.int .i64 1] 1, .vs [.int .i64 2] 1] 3, .vs [] 0, .vs [] 0, .int .i64 1, .int .i64 1, .int .i64 1, .int .i64 1, .int .i64 0], .int .i64 0, .op (.blk 1) 0, .op (.blk 3) 0, .op (.blk 4) 0, .nils, .vs [.int .i64 (-1), .int .i64 (-1), .int .i64 (-1)] 3, .vs [.int .u8 3, .int .u8 3, .int .u8 3] 3, .nils, .om 5, .int .i64 0]]⟩) := by
  have hu : Env.at [] 55 = .und := rfl
  have hm : ∀ H : Heap, heapOp .mkmap [] H = some (.om H.bl.length, H.push (.map [])) := fun _ => rfl
  have hc : chkV [1, 2, 3, 10, 55] .und = true := rfl
  have hi : pureOp .isund [.und] = some (.tup []) := rfl
  rw [center_New_F_eq]
  simp only [center_New_C, layout_Decode_call, decode1, verify_Right_call, k_verify_Right_1, graph_New_call, k_graph_New_1, k_graph_New_2, detect_New_call, k_detect_New_1, train_New_call, k_train_New_1, route_New_call, k_route_New_1, center_locks_call, k_center_locks_1, slices_Clone_bool_call, k_slices_Clone_bool_1, own_Start_call, k_own_Start_1, slices_Repeat_byte_call, k_slices_Repeat_byte_1, hu, hc, hi, hm, isPre, Blk.eqb, CV.eqb, CV.eqbs, mapEqb, decide_true, Bool.and_self, Heap.get, List.getElem?_cons_succ, List.getElem?_cons_zero, stE, List.length_cons, List.length_nil, ones_cons, ones_nil, CV.locs, Id.loc?, Heap.put, List.set_cons_succ, List.set_cons_zero, setMany, List.set, zy, simprocAttr]
set_option maxHeartbeats 4000000 in
theorem k_center_Center_Step_1 (bx : List (Nat × List CV)) : center_Center_Step_F bx [.cells [.int .i64 0, .int .i64 0, .int .i64 0], .cells [.os 1 (.blk 0) 0 3, .int .i64 0], .map [], .cells [.om 2], .cells [.vs [.cplx .f64 0 0, .cplx .f64 4621819117588971520 0, .cplx .f64 4626322717216342016 0, .cplx .f64 4629137466983448576 0] 4, .vs [.int .i64 20, .int .i64 0, .int .i64 1, .int .i64 21, .int .i64 1, .int .i64 2, .int .i64 22, .int .i64 2, .int .i64 3] 3, .vs [.vs [.int .i64 0] 1, .vs [.int .i64 1] 1, .vs [.int .i64 2] 1] 3, .vs [] 0, .vs [] 0, .int .i64 1, .int .i64 1, .int .i64 1, .int .i64 1, .int .i64 0, .vp [.vs [.cplx .f64 0 0, .cplx .f64 4621819117588971520 0, .cplx .f64 4626322717216342016 0, .cplx .f64 4629137466983448576 0] 4, .vs [.int .i64 20, .int .i64 0, .int .i64 1, .int .i64 21, .int .i64 1, .int .i64 2, .int .i64 22, .int .i64 2, .int .i64 3] 3, .vs [.vs [.int .i64 0] 1, .vs [.int .i64 1] 1, .vs [.int .i64 2] 1] 3, .vs [] 0, .vs [] 0, .int .i64 1, .int .i64 1, .int .i64 1, .int .i64 1, .int .i64 0], .nils], .map [], .cells [.vs [.cplx .f64 0 0, .cplx .f64 4621819117588971520 0, .cplx .f64 4626322717216342016 0, .cplx .f64 4629137466983448576 0] 4, .vs [.int .i64 20, .int .i64 0, .int .i64 1, .int .i64 21, .int .i64 1, .int .i64 2, .int .i64 22, .int .i64 2, .int .i64 3] 3, .vs [.vs [.int .i64 0] 1, .vs [.int .i64 1] 1, .vs [.int .i64 2] 1] 3, .vs [] 0, .vs [] 0, .int .i64 1, .int .i64 1, .int .i64 1, .int .i64 1, .int .i64 0, .vp [.vs [.cplx .f64 0 0, .cplx .f64 4621819117588971520 0, .cplx .f64 4626322717216342016 0, .cplx .f64 4629137466983448576 0] 4, .vs [.int .i64 20, .int .i64 0, .int .i64 1, .int .i64 21, .int .i64 1, .int .i64 2, .int .i64 22, .int .i64 2, .int .i64 3] 3, .vs [.vs [.int .i64 0] 1, .vs [.int .i64 1] 1, .vs [.int .i64 2] 1] 3, .vs [] 0, .vs [] 0, .int .i64 1, .int .i64 1, .int .i64 1, .int .i64 1, .int .i64 0], .int .i64 0, .op (.blk 1) 0, .op (.blk 3) 0, .op (.blk 4) 0, .nils, .vs [.int .i64 (-1), .int .i64 (-1), .int .i64 (-1)] 3, .vs [.int .u8 3, .int .u8 3, .int .u8 3] 3, .nils, .om 5, .int .i64 0]] [.op (.blk 6) 0, .agg [.vs [.int .u8 0, .int .u8 0, .int .u8 0] 3, .nils, .nils]] = some (.agg [.int .i64 1, .os 1 (.blk 21) 0 3, .vs [.int .i64 0, .int .u8 4, .int .i64 1, .int .u8 4, .int .i64 2, .int .u8 4] 3, .nils, .nils, .os 1 (.blk 19) 0 0], ⟨bx, [.cells [.int .i64 1, .int .i64 1, .int .i64 1], .cells [.os 1 (.blk 0) 0 3, .int .i64 0], .map [], .cells [.om 2], .cells [.vs [.cplx .f64 0 0, .cplx .f64 4621819117588971520 0, .cplx .f64 4626322717216342016 0, .cplx .f64 4629137466983448576 0] 4, .vs [.int .i64 20, .int .i64 0, .int .i64 1, .int .i64 21, .int .i64 1, .int .i64 2, .int .i64 22, .int .i64 2, .int .i64 3] 3, .vs [.vs [.int .i64 0] 1, .vs [.int .i64 1] 1, .vs [.int .i64 2] 1] 3, .vs [] 0, .vs [] 0, .int .i64 1, .int .i64 1, .int .i64 1, .int .i64 1, .int .i64 0, .vp [.vs [.cplx .f64 0 0, .cplx .f64 4621819117588971520 0, .cplx .f64 4626322717216342016 0, .cplx .f64 4629137466983448576 0] 4, .vs [.int .i64 20, .int .i64 0, .int .i64 1, .int .i64 21, .int .i64 1, .int .i64 2, .int .i64 22, .int .i64 2, .int .i64 3] 3, .vs [.vs [.int .i64 0] 1, .vs [.int .i64 1] 1, .vs [.int .i64 2] 1] 3, .vs [] 0, .vs [] 0, .int .i64 1, .int .i64 1, .int .i64 1, .int .i64 1, .int .i64 0], .nils], .map [], .cells [.vs [.cplx .f64 0 0, .cplx .f64 4621819117588971520 0, .cplx .f64 4626322717216342016 0, .cplx .f64 4629137466983448576 0] 4, .vs [.int .i64 20, .int .i64 0, .int .i64 1, .int .i64 21, .int .i64 1, .int .i64 2, .int .i64 22, .int .i64 2, .int .i64 3] 3, .vs [.vs [.int .i64 0] 1, .vs [.int .i64 1] 1, .vs [.int .i64 2] 1] 3, .vs [] 0, .vs [] 0, .int .i64 1, .int .i64 1, .int .i64 1, .int .i64 1, .int .i64 0, .vp [.vs [.cplx .f64 0 0, .cplx .f64 4621819117588971520 0, .cplx .f64 4626322717216342016 0, .cplx .f64 4629137466983448576 0] 4, .vs [.int .i64 20, .int .i64 0, .int .i64 1, .int .i64 21, .int .i64 1, .int .i64 2, .int .i64 22, .int .i64 2, .int .i64 3] 3, .vs [.vs [.int .i64 0] 1, .vs [.int .i64 1] 1, .vs [.int .i64 2] 1] 3, .vs [] 0, .vs [] 0, .int .i64 1, .int .i64 1, .int .i64 1, .int .i64 1, .int .i64 0], .int .i64 1, .op (.blk 1) 0, .op (.blk 3) 0, .op (.blk 4) 0, .nils, .vs [.int .i64 (-2), .int .i64 (-2), .int .i64 (-2)] 3, .vs [.int .u8 0, .int .u8 0, .int .u8 0] 3, .nils, .om 5, .int .i64 0], .dead, .dead, .cells [.bool true, .bool true, .bool true], .cells [.op (.blk 3) 0], .cells [.int .i64 1], .cells [.int .i64 1], .cells [.om 2], .cells [.int .i64 1], .cells [.int .i64 1], .cells [.om 2], .cells [.om 2], .map [(.und, .tup [.om 5])], .cells [], .dead, .cells [.int .u8 0, .int .u8 0, .int .u8 0]]⟩) := by
  exact ref_run 600 (by kernel_rfl)
end Go.Proofs.YtkpechngfcaiiaaGreatDoor.Zt
end
section
namespace Go.Proofs.YtkpechngfcaiiaaGreatDoor.Zt
open Go Go.Zc
set_option maxRecDepth 1000000
set_option maxHeartbeats 4000000 in
theorem short_F (st : Bool) (H : Heap) : l19_short_F st H [] = some (.bool true, H) := by
  have he : ∀ H : Heap, r04_Encode_F false H [.agg [.vs [.cplx .f64 0 0, .cplx .f64 4621819117588971520 0, .cplx .f64 4626322717216342016 0, .cplx .f64 4629137466983448576 0] 4, .vs [.int .i64 20, .int .i64 0, .int .i64 1, .int .i64 21, .int .i64 1, .int .i64 2, .int .i64 22, .int .i64 2, .int .i64 3] 3, .vs [.vs [.int .i64 0] 1, .vs [.int .i64 1] 1, .vs [.int .i64 2] 1] 3, .vs [] 0, .vs [] 0, .int .i64 1, .int .i64 1, .int .i64 1, .int .i64 1, .int .i64 0]] = some (sl fU bytes0, H) := encode0
  rw [l19_short_F_eq]
  simp only [l19_short_C, center_New_call, k_center_New_1, k_center_New_2, r04_Make_call, k_r04_Make_1, r04_Encode_call, he, center_Center_Step_call, k_center_Center_Step_1, r01_Bytes_call, k_r01_Bytes_1, Zc.snapV, Heap.get, List.getElem?_cons_succ, List.getElem?_cons_zero, List.drop, List.take, List.length_cons, List.length_nil, mapC, zy, simprocAttr]
end Go.Proofs.YtkpechngfcaiiaaGreatDoor.Zt
end
section
namespace Go.Proofs.YtkpechngfcaiiaaGreatDoor.Zt
open Go Go.Zc
set_option maxRecDepth 1000000

abbrev noO : List CV := [.int .i64 0, .nils, .nils, .nils, .nils, .nils]
abbrev zO : List CV := [.int .i64 0, .vs [] 0, .vs [] 0, .vs [] 0, .vs [] 0, .vs [] 0]
abbrev noLn : List CV := [.nils, .nils, .nils, .nils, .nils, .int .i64 0, .int .i64 0, .int .i64 0, .int .i64 0, .int .i64 0]
theorem nstep_F (d : List Int) (bx : List (Nat × List CV)) (bl : List Blk) : center_Center_Step_F bx bl [.nilp, .agg [sl fU d, .nils, .nils]] = some (.agg noO, ⟨bx, bl⟩) := ref_run 60 (by kernel_rfl)
theorem ntrain_F (n : Int) (bx : List (Nat × List CV)) (bl : List Blk) : center_Center_Train_F bx bl [.nilp, .int .i64 n] = some (.tup [.agg [.int .i64 0, .int .i64 0, .int .i64 0, .int .i64 0, .int .i64 0, .nils], .bool false], ⟨bx, bl⟩) := ref_run 60 (by kernel_rfl)
theorem nnow_F (bx : List (Nat × List CV)) (bl : List Blk) : center_Center_Now_F bx bl [.nilp] = some (.int .i64 0, ⟨bx, bl⟩) := ref_run 60 (by kernel_rfl)
theorem nbad_F (bx : List (Nat × List CV)) (bl : List Blk) : center_Center_Bad_F bx bl [.nilp] = some (.int .i64 0, ⟨bx, bl⟩) := ref_run 60 (by kernel_rfl)
theorem nimage_F (bx : List (Nat × List CV)) (bl : List Blk) : center_Center_Image_F bx bl [.nilp] = some (.nils, ⟨bx, bl⟩) := ref_run 60 (by kernel_rfl)
theorem nowners_F (bx : List (Nat × List CV)) (bl : List Blk) : center_Center_Owners_F bx bl [.nilp] = some (.nils, ⟨bx, bl⟩) := ref_run 60 (by kernel_rfl)
theorem ntrains_F (bx : List (Nat × List CV)) (bl : List Blk) : center_Center_Trains_F bx bl [.nilp] = some (.nils, ⟨bx, bl⟩) := ref_run 60 (by kernel_rfl)
theorem nspan_F (n : Int) (bx : List (Nat × List CV)) (bl : List Blk) : center_Center_Span_F bx bl [.nilp, .int .i64 n] = some (.nils, ⟨bx, bl⟩) := ref_run 60 (by kernel_rfl)
theorem nlocks_F (bx : List (Nat × List CV)) (bl : List Blk) : center_Center_Locks_F bx bl [.nilp] = some (.nils, ⟨bx, bl⟩) := ref_run 60 (by kernel_rfl)
theorem nauth_F (n : Int) (bx : List (Nat × List CV)) (bl : List Blk) : center_Center_Authority_F bx bl [.nilp, .int .i64 n] = some (.nils, ⟨bx, bl⟩) := ref_run 60 (by kernel_rfl)
theorem nlayout_F (bx : List (Nat × List CV)) (bl : List Blk) : center_Center_Layout_F bx bl [.nilp] = some (.agg noLn, ⟨bx, bl⟩) := ref_run 60 (by kernel_rfl)
theorem nsame_F (st : Bool) (H : Heap) : r19_Same_F st H [.agg zO, .agg zO] = some (.bool true, H) := by cases st <;> exact fz_run 300 (by kernel_rfl)
theorem nsameL_F (st : Bool) (H : Heap) : r04_Same_F st H [.agg noL, .agg noL] = some (.bool true, H) := by cases st <;> exact fz_run 300 (by kernel_rfl)

theorem centerNil_F (n : Int) (d : List Int) (st : Bool) (H : Heap) : l19_CenterNil_F st H [.int .i64 n, sl fU d] = some (.bool true, H) := by
  rw [l19_CenterNil_F_eq]
  simp only [l19_CenterNil_C, l19_short_call, short_F, center_Center_Step_call, nstep_F, center_Center_Train_call, ntrain_F, center_Center_Now_call, nnow_F, center_Center_Bad_call, nbad_F, center_Center_Image_call, nimage_F, center_Center_Owners_call, nowners_F, center_Center_Trains_call, ntrains_F, center_Center_Span_call, nspan_F, center_Center_Locks_call, nlocks_F, center_Center_Authority_call, nauth_F, center_Center_Layout_call, nlayout_F, r19_Same_call, nsame_F, r04_Same_call, nsameL_F, zy, simprocAttr]
end Go.Proofs.YtkpechngfcaiiaaGreatDoor.Zt
end
