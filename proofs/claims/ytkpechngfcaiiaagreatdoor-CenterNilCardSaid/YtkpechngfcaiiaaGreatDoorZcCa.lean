/- Walks: the reference's sums. No condition. -/
import Derived.Test.YtkpechngfcaiiaaGreatDoorZcT
import Derived.Test.YtkpechngfcaiiaaGreatDoorZcLay
import Derived.Test.YtkpechngfcaiiaaGreatDoorZcRun
set_option linter.all false
section
namespace Go.Proofs.YtkpechngfcaiiaaGreatDoor.Zt
open Go Go.Zc
set_option maxRecDepth 100000

abbrev cb (l : List Bool) : List CV := l.map CV.bool
def bitOf (n : Int) (k : Nat) : Bool := (n.fdiv (2 ^ k)).tmod 2 == 1
/-- A bit enters the register. -/
def crcBit (r : List Bool) (x : Bool) : List Bool :=
  match r with
  | [b0, b1, b2, b3, b4, b5, b6, b7, b8, b9, b10, b11, b12, b13, b14, b15] =>
    if b0 != x then [!b1, b2, b3, b4, b5, b6, b7, b8, b9, b10, b11, b12, b13, !b14, b15, !false] else [b1, b2, b3, b4, b5, b6, b7, b8, b9, b10, b11, b12, b13, b14, b15, false]
  | r => r
def crcByte (r : List Bool) (n : Int) : List Bool := (List.range 8).foldl (fun r k => crcBit r (bitOf n k)) r
def crcAll (p : List Int) : List Bool := p.foldl crcByte (List.replicate 16 true)

set_option maxHeartbeats 4000000 in
theorem crc_init (p : List Int) : r03_Of_R0 ([(0, sl fU p), (3, .op (.loc 3) 0), (4, .int .i64 0)], ⟨[(3, cb (List.replicate 16 false))], []⟩) = some (.norm, [(0, sl fU p), (3, .op (.loc 3) 0)], ⟨[(3, cb (List.replicate 16 true))], []⟩) := by
  have e1 : List.replicate 16 false = [false, false, false, false, false, false, false, false, false, false, false, false, false, false, false, false] := rfl
  have e2 : List.replicate 16 true = [true, true, true, true, true, true, true, true, true, true, true, true, true, true, true, true] := rfl
  rw [e1, e2]
  simp only [cb, List.map_cons, List.map_nil, r03_Of_R0_eq, r03_Of_B0, r03_Of_K0_a, zy, simprocAttr]

set_option maxHeartbeats 4000000 in
theorem crc_shift (p : List Int) (i k : Int) (t b0 b1 b2 b3 b4 b5 b6 b7 b8 b9 b10 b11 b12 b13 b14 b15 : Bool) :
    r03_Of_R6 ([(0, sl fU p), (3, .op (.loc 3) 0), (5, .int .i64 i), (6, .int .i64 k), (7, .bool t), (8, .int .i64 0)], ⟨[(3, [.bool b0, .bool b1, .bool b2, .bool b3, .bool b4, .bool b5, .bool b6, .bool b7, .bool b8, .bool b9, .bool b10, .bool b11, .bool b12, .bool b13, .bool b14, .bool b15])], []⟩) =
    some (.norm, [(0, sl fU p), (3, .op (.loc 3) 0), (5, .int .i64 i), (6, .int .i64 k), (7, .bool t)], ⟨[(3, [.bool b1, .bool b2, .bool b3, .bool b4, .bool b5, .bool b6, .bool b7, .bool b8, .bool b9, .bool b10, .bool b11, .bool b12, .bool b13, .bool b14, .bool b15, .bool b15])], []⟩) := by
  simp only [r03_Of_R6_eq, r03_Of_B6, r03_Of_K6_a, zy, simprocAttr]

theorem len16 {r : List Bool} (h : r.length = 16) : ∃ b0 b1 b2 b3 b4 b5 b6 b7 b8 b9 b10 b11 b12 b13 b14 b15, r = [b0, b1, b2, b3, b4, b5, b6, b7, b8, b9, b10, b11, b12, b13, b14, b15] := by
  match r, h with
  | [b0, b1, b2, b3, b4, b5, b6, b7, b8, b9, b10, b11, b12, b13, b14, b15], _ => exact ⟨_, _, _, _, _, _, _, _, _, _, _, _, _, _, _, _, rfl⟩
theorem crcBit_len {r : List Bool} (h : r.length = 16) (x : Bool) : (crcBit r x).length = 16 := by
  obtain ⟨b0, b1, b2, b3, b4, b5, b6, b7, b8, b9, b10, b11, b12, b13, b14, b15, rfl⟩ := len16 h
  simp only [crcBit]
  split <;> rfl
set_option maxHeartbeats 4000000 in
theorem crc_step (p s : List Int) (n : Int) (k : Nat) (hk : k < 8) (r : List Bool) (hr : r.length = 16) :
    r03_Of_R4 ([(0, sl fU (p ++ n :: s)), (3, .op (.loc 3) 0), (5, .int .i64 p.length), (6, .int .i64 k)], ⟨[(3, cb r)], []⟩) =
    r03_Of_R4 ([(0, sl fU (p ++ n :: s)), (3, .op (.loc 3) 0), (5, .int .i64 p.length), (6, .int .i64 (k + 1 : Nat))], ⟨[(3, cb (crcBit r (bitOf n k)))], []⟩) := by
  obtain ⟨b0, b1, b2, b3, b4, b5, b6, b7, b8, b9, b10, b11, b12, b13, b14, b15, rfl⟩ := len16 hr
  rw [r03_Of_R4_eq]
  have h1 : (k : Int) < 8 := by omega
  have hi : iaddrC 1 (sl fU (p ++ n :: s)) (.int .i64 p.length) = some (.vp (.int .u8 n :: s.flatMap fU)) := iaddr_mid flatU .i64 p s n
  have hsh : binC .shr .ifc (.int .u8 n) (.int .i64 k) = some (.int .u8 (n.fdiv (2 ^ k))) := by
    have : ¬ ((k : Int) < 0) := by omega
    simp only [binC, shiftBin, this, if_false, Int.toNat_natCast]
    rw [Nat.min_eq_left (by simp [IntKind.bits]; omega)]
  have hrem : binC .rem .ifc (.int .u8 (n.fdiv (2 ^ k))) (.int .u8 2) = some (.int .u8 ((n.fdiv (2 ^ k)).tmod 2)) := by simp [binC, intBin]
  have heq : binC .eql .int (.int .u8 ((n.fdiv (2 ^ k)).tmod 2)) (.int .u8 1) = some (.bool (bitOf n k)) := by simp [binC, intBin, bitOf]
  have hne : binC .neq .bool (.bool b0) (.bool (bitOf n k)) = some (.bool (b0 != bitOf n k)) := by
    cases b0 <;> cases bitOf n k <;> rfl
  have hw : IntKind.i64.wrap ((k : Int) + 1) = ((k + 1 : Nat) : Int) := by rw [IntKind.wrap_i64]; omega
  cases ht : (b0 != bitOf n k) with
  | true =>
    simp only [crcBit, ht, if_true, cb, List.map_cons, List.map_nil, r03_Of_B4, r03_Of_K4_a, h1, hi, hsh, hrem, heq, hne, r03_Of_L6_eq, crc_shift, hw, zy, simprocAttr]
  | false =>
    simp only [crcBit, ht, Bool.false_eq_true, if_false, cb, List.map_cons, List.map_nil, r03_Of_B4, r03_Of_K4_a, h1, hi, hsh, hrem, heq, hne, r03_Of_L6_eq, crc_shift, hw, zy, simprocAttr]

theorem crcs_len {r : List Bool} (h : r.length = 16) (n : Int) : ∀ ks : List Nat, (ks.foldl (fun r k => crcBit r (bitOf n k)) r).length = 16
  | [] => h
  | k :: ks => crcs_len (crcBit_len h _) n ks
theorem crcByte_len {r : List Bool} (h : r.length = 16) (n : Int) : (crcByte r n).length = 16 := crcs_len h n _
theorem crcAll_len (p : List Int) : (crcAll p).length = 16 := by
  have : ∀ (p : List Int) (r : List Bool), r.length = 16 → (p.foldl crcByte r).length = 16 := by
    intro p
    induction p with
    | nil => intro r h; exact h
    | cons n p ih => intro r h; exact ih _ (crcByte_len h n)
  exact this p _ rfl

set_option maxHeartbeats 4000000 in
theorem crc_byte (p s : List Int) (n : Int) (r : List Bool) (hr : r.length = 16) :
    r03_Of_R4 ([(0, sl fU (p ++ n :: s)), (3, .op (.loc 3) 0), (5, .int .i64 p.length), (6, .int .i64 0)], ⟨[(3, cb r)], []⟩) = some (.norm, [(0, sl fU (p ++ n :: s)), (3, .op (.loc 3) 0), (5, .int .i64 p.length)], ⟨[(3, cb (crcByte r n))], []⟩) := by
  have go : ∀ (j k : Nat) (r : List Bool), j + k = 8 → r.length = 16 → r03_Of_R4 ([(0, sl fU (p ++ n :: s)), (3, .op (.loc 3) 0), (5, .int .i64 p.length), (6, .int .i64 k)], ⟨[(3, cb r)], []⟩) =
      some (.norm, [(0, sl fU (p ++ n :: s)), (3, .op (.loc 3) 0), (5, .int .i64 p.length)], ⟨[(3, cb (((List.range' k j).foldl (fun r k => crcBit r (bitOf n k)) r)))], []⟩) := by
    intro j
    induction j with
    | zero =>
      intro k r hk hr
      have h1 : ¬ ((k : Int) < 8) := by omega
      obtain ⟨b0, b1, b2, b3, b4, b5, b6, b7, b8, b9, b10, b11, b12, b13, b14, b15, rfl⟩ := len16 hr
      rw [r03_Of_R4_eq]
      simp only [cb, List.map_cons, List.map_nil, List.range'_zero, List.foldl_nil, r03_Of_B4, r03_Of_K4_a, h1, zy, simprocAttr]
    | succ j ih =>
      intro k r hk hr
      rw [crc_step p s n k (by omega) r hr, ih (k + 1) _ (by omega) (crcBit_len hr _), List.range'_succ, List.foldl_cons]
  have := go 8 0 r rfl hr
  rw [show crcByte r n = (List.range' 0 8).foldl (fun r k => crcBit r (bitOf n k)) r from rfl]
  exact this

set_option maxHeartbeats 4000000 in
theorem crc_loop : ∀ (s p : List Int) (r : List Bool), r.length = 16 → (p ++ s).length ≤ small →
    r03_Of_R2 ([(0, sl fU (p ++ s)), (3, .op (.loc 3) 0), (5, .int .i64 p.length)], ⟨[(3, cb r)], []⟩) = some (.norm, [(3, .op (.loc 3) 0)], ⟨[(3, cb (s.foldl crcByte r))], []⟩)
  | [], p, r, hr, hm => by
    obtain ⟨b0, b1, b2, b3, b4, b5, b6, b7, b8, b9, b10, b11, b12, b13, b14, b15, rfl⟩ := len16 hr
    rw [r03_Of_R2_eq]
    have h1 : ¬ ((p.length : Int) < (p ++ []).length) := by simp
    simp only [cb, List.map_cons, List.map_nil, List.foldl_nil, r03_Of_B2, r03_Of_K2_a, h1, zy, simprocAttr]
  | n :: s, p, r, hr, hm => by
    have hb := crc_byte p s n r hr
    have ih := crc_loop s (p ++ [n]) (crcByte r n) (crcByte_len hr n) (by simpa using hm)
    rw [List.append_assoc, List.singleton_append] at ih
    obtain ⟨c0, c1, c2, c3, c4, c5, c6, c7, c8, c9, c10, c11, c12, c13, c14, c15, hc⟩ := len16 (crcByte_len hr n)
    obtain ⟨b0, b1, b2, b3, b4, b5, b6, b7, b8, b9, b10, b11, b12, b13, b14, b15, rfl⟩ := len16 hr
    rw [List.foldl_cons]
    rw [hc] at hb ih ⊢
    rw [r03_Of_R2_eq]
    unfold small at hm
    simp only [List.length_append, List.length_cons] at hm
    have h1 : ((p.length : Int) < (p ++ n :: s).length) := by simp; omega
    have hw : IntKind.i64.wrap ((p.length : Int) + 1) = ((p ++ [n]).length : Nat) := by rw [IntKind.wrap_i64]; simp; omega
    simp only [cb, List.map_cons, List.map_nil] at hb ih
    simp only [cb, List.map_cons, List.map_nil, r03_Of_B2, r03_Of_K2_a, h1, r03_Of_L4_eq, hb, hw, ih, zy, simprocAttr]

/-- The number of a register. -/
def crcNum : List Bool → Nat
  | [] => 0
  | b :: r => (if b then 0 else 1) + 2 * crcNum r
theorem crcNum_lt : ∀ r : List Bool, crcNum r < 2 ^ r.length
  | [] => by simp [crcNum]
  | b :: r => by
    have := crcNum_lt r
    simp only [crcNum, List.length_cons, Nat.pow_succ]
    split <;> omega
def crcOf (p : List Int) : Int := crcNum (crcAll p)

set_option maxHeartbeats 4000000 in
theorem crc_num (r : List Bool) (hr : r.length = 16) : ∀ (k : Nat), k ≤ 16 → ∀ n : Nat, n = crcNum (r.drop k) →
    r03_Of_R8 ([(3, .op (.loc 3) 0), (9, .int .u16 n), (10, .int .i64 ((k : Int) - 1))], ⟨[(3, cb r)], []⟩) = some (.norm, [(9, .int .u16 (crcNum r))], ⟨[], []⟩) := by
  intro k
  induction k with
  | zero =>
    intro hk n hn
    rw [List.drop_zero] at hn
    subst hn
    obtain ⟨b0, b1, b2, b3, b4, b5, b6, b7, b8, b9, b10, b11, b12, b13, b14, b15, rfl⟩ := len16 hr
    rw [r03_Of_R8_eq]
    have h1 : ¬ (((0 : Nat) : Int) - 1 ≥ 0) := by omega
    have h2 : ¬ ((0 : Int) ≤ ((0 : Nat) : Int) - 1) := by omega
    simp only [cb, List.map_cons, List.map_nil, r03_Of_B8, r03_Of_K8_a, h1, h2, zy, simprocAttr]
  | succ k ih =>
    intro hk n hn
    have hk' : k < r.length := by omega
    have hd : r.drop k = r[k] :: r.drop (k + 1) := List.drop_eq_getElem_cons hk'
    have hlt : n < 2 ^ (15 - k) := by
      have := crcNum_lt (r.drop (k + 1))
      rw [← hn, List.length_drop, hr] at this
      exact Nat.lt_of_lt_of_le this (Nat.pow_le_pow_right (by omega) (by omega))
    have hlt' : n < 32768 := Nat.lt_of_lt_of_le hlt (by
      have := Nat.pow_le_pow_right (show 0 < 2 by omega) (show 15 - k ≤ 15 by omega)
      omega)
    have ihk := ih (by omega) (crcNum (r.drop k)) rfl
    have hnum : crcNum (r.drop k) = (if r[k] then 0 else 1) + 2 * n := by rw [hd, crcNum, hn]
    have hw : ∀ m : Int, 0 ≤ m → m < 65536 → IntKind.u16.wrap m = m := fun m h1 h2 => by
      simp [IntKind.wrap, IntKind.signed, IntKind.bits]; omega
    have hw1 : IntKind.u16.wrap ((n : Int) * 2) = (n : Int) * 2 := hw _ (by omega) (by omega)
    have hw2 : IntKind.u16.wrap ((n : Int) * 2 + 1) = (n : Int) * 2 + 1 := hw _ (by omega) (by omega)
    have h1 : (0 : Int) ≤ ((k + 1 : Nat) : Int) - 1 := by omega
    have h1' : (((k + 1 : Nat) : Int) - 1 ≥ 0) := by omega
    have hia : iaddrAC 16 1 (.op (.loc 3) 0) (.int .i64 (((k + 1 : Nat) : Int) - 1)) = some (.op (.loc 3) k) := by
      have : ((k + 1 : Nat) : Int) - 1 = (k : Int) := by omega
      rw [this]
      simp only [iaddrAC]
      have h2 : (0 : Int) ≤ (k : Int) ∧ (k : Int) < (16 : Nat) := by omega
      simp only [h2, and_self, if_true, Int.toNat_natCast, Nat.mul_one]
      simp [h2, faddrC]
    have hld : ∀ bl, heapOp (.load false 1) [.op (.loc 3) k] ⟨[(3, cb r)], bl⟩ = some (.bool r[k], ⟨[(3, cb r)], bl⟩) := by
      intro bl
      have : (cb r)[k]? = some (.bool r[k]) := by simp [cb, List.getElem?_eq_getElem hk']
      have hle : k + 1 ≤ (cb r).length := by simp [cb]; omega
      simp only [heapOp, loadC, Heap.get, Zc.look, Nat.beq_refl, cond_true, Option.bind_some]
      have hk2 : k + 1 ≤ r.length := by omega
      simp [partC, this, hle, hk', hk2]
    have hlc : CV.locs (cb r) = false := by
      obtain ⟨b0, b1, b2, b3, b4, b5, b6, b7, b8, b9, b10, b11, b12, b13, b14, b15, rfl⟩ := len16 hr
      rfl
    have hwk : IntKind.i64.wrap (((k + 1 : Nat) : Int) - 1 - 1) = (k : Int) - 1 := by rw [IntKind.wrap_i64]; omega
    rw [r03_Of_R8_eq]
    cases hb : r[k] with
    | true =>
      rw [hb] at hnum hld
      simp only [if_true, Nat.zero_add] at hnum
      have e : ((n : Int) * 2) = ((crcNum (r.drop k) : Nat) : Int) := by rw [hnum]; omega
      simp only [r03_Of_B8, r03_Of_K8_a, h1, h1', hw1, hia, hld, hwk, hlc, zy, simprocAttr]
      rw [e]
      exact ihk
    | false =>
      rw [hb] at hnum hld
      simp only [Bool.false_eq_true, if_false] at hnum
      have e : ((n : Int) * 2 + 1) = ((crcNum (r.drop k) : Nat) : Int) := by rw [hnum]; omega
      simp only [r03_Of_B8, r03_Of_K8_a, h1, h1', hw1, hw2, hia, hld, hwk, hlc, zy, simprocAttr]
      rw [e]
      exact ihk

set_option maxHeartbeats 4000000 in
theorem crcOf_F (p : List Int) (hm : p.length ≤ small) (st : Bool) (H : Heap) : r03_Of_F st H [sl fU p] = some (.int .u16 (crcOf p), H) := by
  have h2 := crc_loop p [] (List.replicate 16 true) rfl (by simpa using hm)
  rw [List.nil_append] at h2
  have h3 := crc_num (crcAll p) (crcAll_len p) 16 (by omega) 0 (by rw [List.drop_of_length_le (Nat.le_of_eq (crcAll_len p))]; rfl)
  have h1 := crc_init p
  rw [show p.foldl crcByte (List.replicate 16 true) = crcAll p from rfl] at h2
  have hl : CV.locs (cb (crcAll p)) = false := by
    obtain ⟨b0, b1, b2, b3, b4, b5, b6, b7, b8, b9, b10, b11, b12, b13, b14, b15, h⟩ := len16 (crcAll_len p)
    rw [h]; rfl
  rw [r03_Of_F_eq]
  have e1 : cb (List.replicate 16 false) = [.bool false, .bool false, .bool false, .bool false, .bool false, .bool false, .bool false, .bool false, .bool false, .bool false, .bool false, .bool false, .bool false, .bool false, .bool false, .bool false] := rfl
  have e2 : cb (List.replicate 16 true) = [.bool true, .bool true, .bool true, .bool true, .bool true, .bool true, .bool true, .bool true, .bool true, .bool true, .bool true, .bool true, .bool true, .bool true, .bool true, .bool true] := rfl
  rw [e1] at h1
  rw [e2] at h1 h2
  rw [show (([] : List Int).length : Int) = 0 from rfl] at h2
  rw [show ((16 : Nat) : Int) - 1 = 15 from rfl, show ((0 : Nat) : Int) = 0 from rfl] at h3
  simp only [r03_Of_C, r03_Of_L0_eq, r03_Of_L2_eq, r03_Of_L8_eq, h1, h2, h3, hl, crcOf, zy, simprocAttr]
end Go.Proofs.YtkpechngfcaiiaaGreatDoor.Zt
end
section
namespace Go.Proofs.YtkpechngfcaiiaaGreatDoor.Zt
open Go Go.Zc
set_option maxRecDepth 100000

/-- A number's lowest bits, the highest one first. -/
def bitsN (n : Int) (w : Nat) : List Bool := (List.range w).map fun i => bitOf n (w - 1 - i)
theorem bitsN_len (n : Int) (w : Nat) : (bitsN n w).length = w := by simp [bitsN]

theorem snap_Bq (H : Heap) (st kn : Bool) (n : Nat) : ∀ x : Bool, ∀ c ∈ fB x, snapN H st kn (n + 1) c = some c := by
  intro x c hc
  simp only [fB, List.mem_singleton] at hc
  subst hc
  rfl
theorem snap_Uq (H : Heap) (st kn : Bool) (n : Nat) : ∀ x : Int, ∀ c ∈ fU x, snapN H st kn (n + 1) c = some c := by
  intro x c hc
  simp only [fU, List.mem_singleton] at hc
  subst hc
  rfl

theorem shr64 {n : Int} {k : Nat} (hk : k < 64) : binC .shr .ifc (.int .u64 n) (.int .i64 k) = some (.int .u64 (n.fdiv (2 ^ k))) := by
  have : ¬ ((k : Int) < 0) := by omega
  simp only [binC, shiftBin, this, if_false, Int.toNat_natCast]
  rw [Nat.min_eq_left (by simp [IntKind.bits]; omega)]

theorem put_loop (n : Int) (w : Nat) (hw : w ≤ 64) : ∀ (j i : Nat) (acc : List Bool) (v : CV) (bl : List Blk), j + i = w → acc.length + j ≤ 100000000 → Own fB 1 bl v acc →
    ∃ v' bl', r02_Put_R0 ([(1, .int .u64 n), (2, .int .i64 w), (7, v), (8, .int .i64 i)], ⟨[], bl⟩) = some (.norm, [(7, v')], ⟨[], bl'⟩) ∧ Own fB 1 bl' v' (acc ++ (List.range' i j).map fun i => bitOf n (w - 1 - i))
  | 0, i, acc, v, bl, hj, hm, hO => by
    refine ⟨v, bl, ?_, by simpa using hO⟩
    rw [r02_Put_R0_eq]
    have h1 : ¬ ((i : Int) < (w : Int)) := by omega
    simp only [r02_Put_B0, r02_Put_K0_a, h1, hO.chkV, zy, simprocAttr]
  | j + 1, i, acc, v, bl, hj, hm, hO => by
    obtain ⟨v1, bl1, e1, o1, _⟩ := hO.app1 flatB (bytes := 1) (zero := [.bool false]) (by decide) rfl rfl (bitOf n (w - 1 - i)) (by omega)
    obtain ⟨v2, bl2, e2, o2⟩ := put_loop n w hw j (i + 1) (acc ++ [bitOf n (w - 1 - i)]) v1 bl1 (by omega) (by simp; omega) o1
    refine ⟨v2, bl2, ?_, by rw [List.range'_succ, List.map_cons]; simpa using o2⟩
    rw [← e2, r02_Put_R0_eq]
    have h1 : ((i : Int) < (w : Int)) := by omega
    have hw1 : IntKind.i64.wrap ((w : Int) - 1) = (w : Int) - 1 := by rw [IntKind.wrap_i64]; omega
    have hw2 : IntKind.i64.wrap ((w : Int) - 1 - i) = ((w - 1 - i : Nat) : Int) := by rw [IntKind.wrap_i64]; omega
    have hw3 : IntKind.i64.wrap ((i : Int) + 1) = ((i + 1 : Nat) : Int) := by rw [IntKind.wrap_i64]; omega
    have hsh := shr64 (n := n) (k := w - 1 - i) (by omega)
    have hrem : binC .rem .ifc (.int .u64 (n.fdiv (2 ^ (w - 1 - i)))) (.int .u64 2) = some (.int .u64 ((n.fdiv (2 ^ (w - 1 - i))).tmod 2)) := by simp [binC, intBin]
    have heq : binC .eql .int (.int .u64 ((n.fdiv (2 ^ (w - 1 - i))).tmod 2)) (.int .u64 1) = some (.bool (bitOf n (w - 1 - i))) := by simp [binC, intBin, bitOf]
    simp only [fB] at e1
    simp only [r02_Put_B0, r02_Put_K0_a, h1, hw1, hw2, hw3, hsh, hrem, heq, e1, hO.chkV, o1.chkV, List.append_assoc, List.cons_append, List.nil_append, List.length_append, List.length_cons, List.length_nil, zy, simprocAttr]

theorem put_F (b : List Bool) (n : Int) (w : Nat) (hw : w ≤ 64) (hm : b.length ≤ 10000000) (st : Bool) (H : Heap) : r02_Put_F st H [sl fB b, .int .u64 n, .int .i64 w] = some (sl fB (b ++ bitsN n w), H) := by
  obtain ⟨v1, bl1, e1, o1, _⟩ := (Own.nil fB 1 []).appSl flatB (bytes := 1) (zero := [.bool false]) (by decide) rfl rfl b (by simp; omega)
  rw [List.nil_append] at o1
  obtain ⟨v2, bl2, e2, o2⟩ := put_loop n w hw w 0 b v1 bl1 (by omega) (by omega) o1
  have h1' : ¬ ((64 : Int) < (w : Int)) := by omega
  rw [show b ++ ((List.range' 0 w).map fun i => bitOf n (w - 1 - i)) = b ++ bitsN n w by rw [bitsN, List.range_eq_range']] at o2
  rw [show ((0 : Nat) : Int) = 0 from rfl] at e2
  rw [r02_Put_F_eq]
  simp only [r02_Put_C, r02_Put_L0_eq, h1', e1, e2, o1.chkV, o2.snapV flatB _ _ _ (snap_Bq _ _ _ 6), List.append_assoc, List.cons_append, List.nil_append, List.length_append, List.length_cons, List.length_nil, zy, simprocAttr]

/-! ### Bytes -/

def bitAt (b : List Bool) (k : Nat) : Bool := b[k]?.getD false
def numFrom (b : List Bool) : Nat → Nat → Nat → Nat
  | 0, _, n => n
  | j + 1, k, n => numFrom b j (k + 1) (2 * n + (if bitAt b k then 1 else 0))
theorem numFrom_lt (b : List Bool) : ∀ (j k n m : Nat), n < 2 ^ m → numFrom b j k n < 2 ^ (m + j)
  | 0, _, _, _, h => h
  | j + 1, k, n, m, h => by
    have := numFrom_lt b j (k + 1) (2 * n + (if bitAt b k then 1 else 0)) (m + 1) (by rw [Nat.pow_succ]; split <;> omega)
    rw [show m + (j + 1) = m + 1 + j by omega]
    exact this
def byteAt (b : List Bool) (i : Nat) : Int := numFrom b 8 (8 * i) 0
def bytesOf (b : List Bool) : List Int := (List.range ((b.length + 7) / 8)).map (byteAt b)

set_option maxHeartbeats 4000000 in
theorem byte_loop (b : List Bool) (hb : b.length ≤ 10000000) (i : Nat) (hi : i ≤ 10000000) (v : CV) (bl : List Blk) (acc : List Int) (hO : Own fU 1 bl v acc) : ∀ (j k n : Nat), j + k = i + 8 → n < 2 ^ (8 - j) → j ≤ 8 →
    r02_Bytes_R2 ([(0, sl fB b), (3, v), (4, .int .i64 i), (5, .int .i64 n), (6, .int .i64 k)], ⟨[], bl⟩) = some (.norm, [(0, sl fB b), (3, v), (4, .int .i64 i), (5, .int .i64 (numFrom b j k n))], ⟨[], bl⟩)
  | 0, k, n, hj, hn, _ => by
    rw [r02_Bytes_R2_eq]
    have hw : IntKind.i64.wrap ((i : Int) + 8) = (i : Int) + 8 := by rw [IntKind.wrap_i64]; omega
    have h1 : ¬ ((k : Int) < (i : Int) + 8) := by omega
    simp only [r02_Bytes_B2, r02_Bytes_K2_a, hw, h1, hO.chkV, numFrom, zy, simprocAttr]
  | j + 1, k, n, hj, hn, hj8 => by
    have h8 : n < 256 := Nat.lt_of_lt_of_le hn (by
      have := Nat.pow_le_pow_right (show 0 < 2 by omega) (show 8 - (j + 1) ≤ 8 by omega)
      simpa using this)
    have hpow : 2 ^ (8 - j) = 2 * 2 ^ (8 - (j + 1)) := by
      rw [show 8 - j = (8 - (j + 1)) + 1 by omega, Nat.pow_succ]; omega
    have ih := byte_loop b hb i hi v bl acc hO j (k + 1) (2 * n + (if bitAt b k then 1 else 0)) (by omega) (by rw [hpow]; split <;> omega) (by omega)
    rw [numFrom, ← ih, r02_Bytes_R2_eq]
    have hw : IntKind.i64.wrap ((i : Int) + 8) = (i : Int) + 8 := by rw [IntKind.wrap_i64]; omega
    have hw2 : IntKind.i64.wrap ((n : Int) * 2) = (n : Int) * 2 := by rw [IntKind.wrap_i64]; omega
    have hw3 : IntKind.i64.wrap ((n : Int) * 2 + 1) = (n : Int) * 2 + 1 := by rw [IntKind.wrap_i64]; omega
    have hw4 : IntKind.i64.wrap ((k : Int) + 1) = ((k + 1 : Nat) : Int) := by rw [IntKind.wrap_i64]; omega
    have h1 : ((k : Int) < (i : Int) + 8) := by omega
    by_cases hk : k < b.length
    · have h2 : ((k : Int) < (b.length : Int)) := by omega
      have hia := iaddr_sl (f := fB) (sz := 1) (fun _ => rfl) (by decide) (l := b) (k := .i64) (i := k) hk
      have hbk : bitAt b k = b[k] := by simp [bitAt, List.getElem?_eq_getElem hk]
      replace hia : iaddrC 1 (sl fB b) (.int .i64 k) = some (.vp (.bool b[k] :: (b.drop (k + 1)).flatMap fB)) := hia
      cases hbb : b[k] with
      | true =>
        rw [hbb] at hia hbk
        rw [hbk]
        have e : ((2 * n + (if true = true then 1 else 0) : Nat) : Int) = (n : Int) * 2 + 1 := by simp; omega
        rw [e]
        simp only [r02_Bytes_B2, r02_Bytes_K2_a, hw, hw2, hw3, hw4, h1, h2, hia, hO.chkV, zy, simprocAttr]
      | false =>
        rw [hbb] at hia hbk
        rw [hbk]
        have e : ((2 * n + (if false = true then 1 else 0) : Nat) : Int) = (n : Int) * 2 := by simp; omega
        rw [e]
        simp only [r02_Bytes_B2, r02_Bytes_K2_a, hw, hw2, hw4, h1, h2, hia, hO.chkV, zy, simprocAttr]
    · have h2 : ¬ ((k : Int) < (b.length : Int)) := by omega
      have hbk : bitAt b k = false := by simp [bitAt, List.getElem?_eq_none (show b.length ≤ k by omega)]
      rw [hbk]
      have e : ((2 * n + (if false = true then 1 else 0) : Nat) : Int) = (n : Int) * 2 := by simp; omega
      rw [e]
      simp only [r02_Bytes_B2, r02_Bytes_K2_a, hw, hw2, hw4, h1, h2, hO.chkV, zy, simprocAttr]

set_option maxHeartbeats 4000000 in
theorem bytes_loop (b : List Bool) (hb : b.length ≤ 1000000) : ∀ (j i : Nat) (acc : List Int) (v : CV) (bl : List Blk), j + i = (b.length + 7) / 8 → acc.length = i → Own fU 1 bl v acc →
    ∃ v' bl', r02_Bytes_R0 ([(0, sl fB b), (3, v), (4, .int .i64 (8 * i : Nat))], ⟨[], bl⟩) = some (.norm, [(3, v')], ⟨[], bl'⟩) ∧ Own fU 1 bl' v' (acc ++ (List.range' i j).map (byteAt b))
  | 0, i, acc, v, bl, hj, ha, hO => by
    refine ⟨v, bl, ?_, by simpa using hO⟩
    rw [r02_Bytes_R0_eq]
    have h1 : ¬ (((8 * i : Nat) : Int) < (b.length : Int)) := by omega
    simp only [r02_Bytes_B0, r02_Bytes_K0_a, h1, hO.chkV, zy, simprocAttr]
  | j + 1, i, acc, v, bl, hj, ha, hO => by
    obtain ⟨v1, bl1, e1, o1, _⟩ := hO.app1 flatU (bytes := 1) (zero := [.int .u8 0]) (by decide) rfl rfl (byteAt b i) (by omega)
    obtain ⟨v2, bl2, e2, o2⟩ := bytes_loop b hb j (i + 1) (acc ++ [byteAt b i]) v1 bl1 (by omega) (by simp; omega) o1
    refine ⟨v2, bl2, ?_, by rw [List.range'_succ, List.map_cons]; simpa using o2⟩
    have hlt := numFrom_lt b 8 (8 * i) 0 0 (by decide)
    have hbl := byte_loop b (by omega) (8 * i) (by omega) v bl acc hO 8 (8 * i) 0 (by omega) (by decide) (by omega)
    have h1 : (((8 * i : Nat) : Int) < (b.length : Int)) := by omega
    have hw1 : IntKind.u8.wrap ((numFrom b 8 (8 * i) 0 : Nat) : Int) = byteAt b i := by
      have : numFrom b 8 (8 * i) 0 < 256 := by simpa using hlt
      simp [IntKind.wrap, IntKind.signed, IntKind.bits, byteAt]; omega
    have hw2 : IntKind.i64.wrap (((8 * i : Nat) : Int) + 8) = ((8 * (i + 1) : Nat) : Int) := by rw [IntKind.wrap_i64]; omega
    rw [show ((0 : Nat) : Int) = 0 from rfl] at hbl
    simp only [fU] at e1
    rw [← e2, r02_Bytes_R0_eq]
    simp only [r02_Bytes_B0, r02_Bytes_K0_a, h1, r02_Bytes_L2_eq, hbl, hw1, hw2, e1, hO.chkV, o1.chkV, List.append_assoc, List.cons_append, List.nil_append, List.length_append, List.length_cons, List.length_nil, zy, simprocAttr]

theorem bytes_F (b : List Bool) (hb : b.length ≤ 1000000) (st : Bool) (H : Heap) : r02_Bytes_F st H [sl fB b] = some (sl fU (bytesOf b), H) := by
  obtain ⟨v, bl, e, o⟩ := bytes_loop b hb ((b.length + 7) / 8) 0 [] .nils [] (by omega) rfl (Own.nil _ _ _)
  rw [List.nil_append, show (List.range' 0 ((b.length + 7) / 8)).map (byteAt b) = bytesOf b by rw [bytesOf, List.range_eq_range']] at o
  rw [show ((8 * 0 : Nat) : Int) = 0 from rfl] at e
  rw [r02_Bytes_F_eq]
  simp only [r02_Bytes_C, r02_Bytes_L0_eq, e, o.snapV flatU _ _ _ (snap_Uq _ _ _ 6), zy, simprocAttr]

/-! ### Sums -/

theorem join_F (a b : List Int) (ha : a.length + b.length ≤ 2000000000) (st : Bool) (H : Heap) : r01_Join_F st H [sl fU a, sl fU b] = some (sl fU (a ++ b), H) := by
  obtain ⟨v1, bl1, e1, o1, _⟩ := (Own.nil fU 1 []).appSl flatU (bytes := 1) (zero := [.int .u8 0]) (by decide) rfl rfl a (by simp; omega)
  rw [List.nil_append] at o1
  obtain ⟨v2, bl2, e2, o2, _⟩ := o1.appSl flatU (bytes := 1) (zero := [.int .u8 0]) (by decide) rfl rfl b (by omega)
  rw [r01_Join_F_eq]
  simp only [r01_Join_C, e1, e2, o2.snapV flatU _ _ _ (snap_Uq _ _ _ 6), List.append_assoc, List.cons_append, List.nil_append, List.length_append, List.length_cons, List.length_nil, zy, simprocAttr]

def crcSum (p : List Int) : List Int := [crcOf p % 256, crcOf p / 256]
theorem crcOf_lt (p : List Int) : 0 ≤ crcOf p ∧ crcOf p < 65536 := by
  have := crcNum_lt (crcAll p)
  rw [crcAll_len] at this
  unfold crcOf
  omega
theorem closeR_F (p : List Int) (hp : p.length ≤ small) (H : Heap) : r03_Close_F false H [sl fU p] = some (sl fU (p ++ crcSum p), H) := by
  obtain ⟨h0, h1⟩ := crcOf_lt p
  have hr : IntKind.u16.wrap ((crcOf p).tdiv 256) = crcOf p / 256 := by
    have hw16 : ∀ m : Int, 0 ≤ m → m < 65536 → IntKind.u16.wrap m = m := fun m h1 h2 => by
      simp [IntKind.wrap, IntKind.signed, IntKind.bits]; omega
    rw [Int.tdiv_eq_ediv_of_nonneg h0]
    exact hw16 _ (by omega) (by omega)
  have hm : (crcOf p).tmod 256 = crcOf p % 256 := Int.tmod_eq_emod_of_nonneg h0
  have hw : ∀ m : Int, 0 ≤ m → m < 256 → IntKind.u8.wrap m = m := fun m a b => by
    simp [IntKind.wrap, IntKind.signed, IntKind.bits]; omega
  have hw1 := hw (crcOf p % 256) (by omega) (by omega)
  have hw2 := hw (crcOf p / 256) (by omega) (by omega)
  have hj := join_F p (crcSum p) (by unfold small at hp; simp [crcSum]; omega)
  rw [r03_Close_F_eq]
  have e : sl fU (crcSum p) = .vs [.int .u8 (crcOf p % 256), .int .u8 (crcOf p / 256)] 2 := rfl
  rw [e] at hj
  simp only [r03_Close_C, r03_Of_call, crcOf_F p hp, hr, hm, hw1, hw2, r01_Join_call, hj, zy, simprocAttr]
end Go.Proofs.YtkpechngfcaiiaaGreatDoor.Zt
end
section
namespace Go.Proofs.YtkpechngfcaiiaaGreatDoor.Zt
open Go Go.Zc
set_option maxRecDepth 100000

abbrev W16 := BitVec 16
/-- A register's bits, the lowest one first. -/
def bitsR (x : W16) : List Bool := [x.getLsbD 0, x.getLsbD 1, x.getLsbD 2, x.getLsbD 3, x.getLsbD 4, x.getLsbD 5, x.getLsbD 6, x.getLsbD 7, x.getLsbD 8, x.getLsbD 9, x.getLsbD 10, x.getLsbD 11, x.getLsbD 12, x.getLsbD 13, x.getLsbD 14, x.getLsbD 15]
def bstep (x : W16) (b : Bool) : W16 := if x.getLsbD 0 != b then (x >>> 1) ^^^ 40961#16 else x >>> 1
def pstep (x : W16) : W16 := if x.getLsbD 0 then (x >>> 1) ^^^ 40961#16 else x >>> 1

theorem crcBit_bv (x : W16) (b : Bool) : crcBit (bitsR x) b = bitsR (bstep x b) := by
  unfold crcBit bitsR bstep
  dsimp only
  have p : ∀ i, (40961#16).getLsbD i = (decide (i = 0) || decide (i = 13) || decide (i = 15)) := by
    intro i
    by_cases h : i < 16
    · have : ∀ i : Fin 16, (40961#16).getLsbD i = (decide ((i : Nat) = 0) || decide ((i : Nat) = 13) || decide ((i : Nat) = 15)) := by decide
      exact this ⟨i, h⟩
    · have h1 : (40961#16).getLsbD i = false := BitVec.getLsbD_of_ge _ _ (by omega)
      have h2 : ¬ i = 0 := by omega
      have h3 : ¬ i = 13 := by omega
      have h4 : ¬ i = 15 := by omega
      simp [h1, h2, h3, h4]
  by_cases h : (x.getLsbD 0 != b) = true
  · rw [if_pos h, if_pos h]
    simp only [BitVec.getLsbD_xor, BitVec.getLsbD_ushiftRight, p]
    simp
  · rw [if_neg h, if_neg h]
    simp [BitVec.getLsbD_ushiftRight]

theorem pstep_xor (x c : W16) : pstep (x ^^^ c) = bstep x (c.getLsbD 0) ^^^ (c >>> 1) := by
  have hs : (x ^^^ c) >>> 1 = (x >>> 1) ^^^ (c >>> 1) := BitVec.ushiftRight_xor_distrib x c 1
  have hb : (x ^^^ c).getLsbD 0 = (x.getLsbD 0 != c.getLsbD 0) := by
    rw [BitVec.getLsbD_xor]
  unfold pstep bstep
  rw [hb, hs]
  split
  · rw [BitVec.xor_assoc, BitVec.xor_comm (c >>> 1), ← BitVec.xor_assoc]
  · rfl

theorem bitOf_nat (n k : Nat) : bitOf n k = n.testBit k := by
  unfold bitOf
  have h1 : ((n : Int).fdiv (2 ^ k)) = ((n / 2 ^ k : Nat) : Int) := by
    rw [show ((2 : Int) ^ k) = ((2 ^ k : Nat) : Int) by simp, Int.fdiv_eq_ediv_of_nonneg _ (Int.natCast_nonneg _)]
    rfl
  rw [h1]
  have h2 : (((n / 2 ^ k : Nat) : Int).tmod 2) = ((n / 2 ^ k % 2 : Nat) : Int) := by rfl
  rw [h2, Nat.testBit_eq_decide_div_mod_eq]
  by_cases h : n / 2 ^ k % 2 = 1
  · simp [h]
  · have : n / 2 ^ k % 2 = 0 := by omega
    simp [this]

/-- Eight steps. -/
theorem psteps (n : Nat) : ∀ (j k : Nat) (x : W16), (List.range' k j).foldl (fun y _ => pstep y) (x ^^^ (BitVec.ofNat 16 n >>> k)) = (List.range' k j).foldl (fun x k => bstep x ((BitVec.ofNat 16 n).getLsbD k)) x ^^^ (BitVec.ofNat 16 n >>> (k + j))
  | 0, k, x => by simp
  | j + 1, k, x => by
    rw [List.range'_succ, List.foldl_cons, List.foldl_cons, pstep_xor]
    have h1 : (BitVec.ofNat 16 n >>> k).getLsbD 0 = (BitVec.ofNat 16 n).getLsbD k := by simp [BitVec.getLsbD_ushiftRight]
    have h2 : (BitVec.ofNat 16 n >>> k) >>> 1 = BitVec.ofNat 16 n >>> (k + 1) := by rw [BitVec.shiftRight_add]
    rw [h1, h2, psteps n j (k + 1), show k + 1 + j = k + (j + 1) by omega]

/-- A byte enters. -/
def bbyte (x : W16) (n : Nat) : W16 := (List.range' 0 8).foldl (fun y _ => pstep y) (x ^^^ BitVec.ofNat 16 n)
theorem crcByte_bv (x : W16) (n : Nat) (hn : n < 256) : crcByte (bitsR x) n = bitsR (bbyte x n) := by
  have h0 : BitVec.ofNat 16 n >>> 0 = BitVec.ofNat 16 n := by simp
  have h8 : BitVec.ofNat 16 n >>> (0 + 8) = 0#16 := by
    apply BitVec.eq_of_toNat_eq
    simp only [BitVec.toNat_ushiftRight, BitVec.toNat_ofNat, Nat.shiftRight_eq_div_pow]
    rw [Nat.mod_eq_of_lt (by omega)]
    exact Nat.div_eq_of_lt (by omega)
  have hp := psteps n 8 0 x
  rw [h0, h8, BitVec.xor_zero] at hp
  unfold bbyte
  rw [hp]
  have go : ∀ (ks : List Nat) (x : W16), (∀ k ∈ ks, k < 8) → ks.foldl (fun r k => crcBit r (bitOf n k)) (bitsR x) = bitsR (ks.foldl (fun x k => bstep x ((BitVec.ofNat 16 n).getLsbD k)) x) := by
    intro ks
    induction ks with
    | nil => intro x _; rfl
    | cons k ks ih =>
      intro x hk
      rw [List.foldl_cons, List.foldl_cons, crcBit_bv, ← ih _ fun k' hk' => hk k' (by simp [hk'])]
      have : (BitVec.ofNat 16 n).getLsbD k = bitOf n k := by
        have hk8 := hk k (by simp)
        rw [bitOf_nat, BitVec.getLsbD_ofNat]
        simp; omega
      rw [this]
  unfold crcByte
  rw [List.range_eq_range']
  exact go _ x fun k hk => by simp [List.mem_range'] at hk; omega

def byteOk (p : List Int) : Prop := ∀ n ∈ p, 0 ≤ n ∧ n < 256
def bcrc (p : List Int) : W16 := p.foldl (fun x n => bbyte x n.toNat) (65535#16)
theorem crcAll_bv (p : List Int) (hp : byteOk p) : crcAll p = bitsR (bcrc p) := by
  have go : ∀ (p : List Int) (x : W16), byteOk p → p.foldl crcByte (bitsR x) = bitsR (p.foldl (fun x n => bbyte x n.toNat) x) := by
    intro p
    induction p with
    | nil => intro x _; rfl
    | cons n p ih =>
      intro x hp
      obtain ⟨h0, h1⟩ := hp n (by simp)
      obtain ⟨m, rfl⟩ := Int.eq_ofNat_of_zero_le h0
      rw [List.foldl_cons, List.foldl_cons, crcByte_bv x m (by omega), ih _ fun y hy => hp y (by simp [hy])]
      rfl
  exact go p (65535#16) hp

theorem nat_bits : ∀ (k n : Nat), n < 2 ^ k → ((List.range k).map n.testBit).foldr (fun b m => (if b then 1 else 0) + 2 * m) 0 = n
  | 0, n, h => by simp at h; subst h; rfl
  | k + 1, n, h => by
    have ih := nat_bits k (n / 2) (by rw [Nat.pow_succ] at h; omega)
    rw [List.range_succ_eq_map, List.map_cons, List.map_map, List.foldr_cons]
    have e : (n.testBit ∘ Nat.succ) = (n / 2).testBit := by
      funext i
      simp [Nat.testBit_succ]
    rw [e, ih]
    have h0 : n.testBit 0 = decide (n % 2 = 1) := by simp
    rw [h0]
    by_cases hm : n % 2 = 1
    · simp [hm]; omega
    · simp [hm]; omega
theorem crcNum_bv (x : W16) : (crcNum (bitsR x) : Nat) = (~~~x).toNat := by
  have h : ∀ x : W16, x.toNat = (bitsR x).foldr (fun b n => (if b then 1 else 0) + 2 * n) 0 := by
    intro x
    have := nat_bits 16 x.toNat x.isLt
    rw [← this]
    simp [bitsR, BitVec.getLsbD, List.range, List.range.loop, this]
  have hn : bitsR (~~~x) = (bitsR x).map (! ·) := by simp [bitsR, BitVec.getLsbD_not]
  rw [h (~~~x), hn]
  have go : ∀ l : List Bool, crcNum l = (l.map (! ·)).foldr (fun b n => (if b then 1 else 0) + 2 * n) 0 := by
    intro l
    induction l with
    | nil => rfl
    | cons b l ih =>
      simp only [crcNum, List.map_cons, List.foldr_cons, ih]
      cases b <;> simp
  exact go _
theorem crcOf_bv (p : List Int) (hp : byteOk p) : crcOf p = ((~~~bcrc p).toNat : Int) := by
  unfold crcOf
  rw [crcAll_bv p hp, crcNum_bv]

/-! ### The walk -/

abbrev cw (x : W16) : CV := .int .u16 x.toNat
theorem ofInt16 (x : W16) : BitVec.ofInt 16 (x.toNat : Int) = x := by rw [BitVec.ofInt_natCast, BitVec.ofNat_toNat, BitVec.setWidth_eq]
theorem wrap16 (x : W16) : IntKind.u16.wrap (x.toNat : Int) = x.toNat := by
  have := x.isLt
  simp [IntKind.wrap, IntKind.signed, IntKind.bits]; omega
theorem xor16 (x y : W16) : binC .xor .ifc (cw x) (cw y) = some (cw (x ^^^ y)) := by
  show some (CV.int .u16 (IntKind.u16.wrap ((BitVec.ofInt 16 (x.toNat : Int) ^^^ BitVec.ofInt 16 (y.toNat : Int)).toNat : Int))) = _
  rw [ofInt16, ofInt16, wrap16]
theorem and16 (x : W16) : binC .and .ifc (cw x) (.int .u16 1) = some (.int .u16 (if x.getLsbD 0 then 1 else 0)) := by
  show some (CV.int .u16 (IntKind.u16.wrap ((BitVec.ofInt 16 (x.toNat : Int) &&& BitVec.ofInt 16 1).toNat : Int))) = _
  rw [ofInt16]
  have : x &&& BitVec.ofInt 16 1 = if x.getLsbD 0 then 1#16 else 0#16 := by
    have h1 : BitVec.ofInt 16 1 = 1#16 := rfl
    rw [h1]
    apply BitVec.eq_of_getLsbD_eq
    intro i hi
    rw [BitVec.getLsbD_and]
    by_cases h0 : i = 0
    · subst h0
      cases hx : x.getLsbD 0 <;> simp
    · have : (1#16).getLsbD i = false := by
        rw [BitVec.getLsbD_ofNat]
        have : Nat.testBit 1 i = false := by
          rw [show (1 : Nat) = 2 ^ 0 from rfl, Nat.testBit_two_pow]
          simp; omega
        simp [this]
      rw [this]
      cases hx : x.getLsbD 0 <;> simp [this]
  rw [this]
  cases x.getLsbD 0 <;> rfl
theorem shr16 (x : W16) : binC .shr .ifc (cw x) (.int .u64 1) = some (cw (x >>> 1)) := by
  show some (CV.int .u16 ((x.toNat : Int).fdiv (2 ^ 1))) = _
  have : ((x.toNat : Int).fdiv (2 ^ 1)) = ((x >>> 1).toNat : Int) := by
    rw [show ((2 : Int) ^ 1) = ((2 : Nat) : Int) by rfl, Int.fdiv_eq_ediv_of_nonneg _ (Int.natCast_nonneg _), BitVec.toNat_ushiftRight, Nat.shiftRight_eq_div_pow]
    rfl
  rw [this]
theorem not16 (x : W16) : unC .xor (cw x) = some (cw (~~~x)) := by
  show some (CV.int .u16 (IntKind.u16.wrap ((BitVec.ofInt 16 (IntKind.u16.max) ^^^ BitVec.ofInt 16 (x.toNat : Int)).toNat : Int))) = _
  rw [ofInt16]
  have : BitVec.ofInt 16 (IntKind.u16.max) ^^^ x = ~~~x := by
    have h1 : BitVec.ofInt 16 (IntKind.u16.max) = BitVec.allOnes 16 := rfl
    rw [h1, BitVec.allOnes_xor]
  rw [this, wrap16]

set_option maxHeartbeats 1000000 in
theorem crcp_bits (p : List Int) (i : Int) : ∀ (j k : Nat) (x : W16), j + k = 8 →
    crc_Of_R2 ([(3, cw x), (7, sl fU p), (8, .int .i64 p.length), (9, .int .i64 i), (17, .int .i64 k)], ⟨[], []⟩) =
      some (.norm, [(3, cw ((List.range' k j).foldl (fun y _ => pstep y) x)), (7, sl fU p), (8, .int .i64 p.length), (9, .int .i64 i)], ⟨[], []⟩)
  | 0, k, x, hj => by
    have h1 : ¬ ((k : Int) < 8) := by omega
    rw [crc_Of_R2_eq]
    simp only [crc_Of_B2, crc_Of_K2_a, h1, cw, List.range'_zero, List.foldl_nil, zy, simprocAttr]
  | j + 1, k, x, hj => by
    have ih := crcp_bits p i j (k + 1) (pstep x) (by omega)
    have h1 : ((k : Int) < 8) := by omega
    have hw : IntKind.i64.wrap ((k : Int) + 1) = ((k + 1 : Nat) : Int) := by rw [IntKind.wrap_i64]; omega
    have ha := and16 x
    have hs := shr16 x
    have hx := xor16 (x >>> 1) 40961#16
    have e40 : cw 40961#16 = .int .u16 40961 := rfl
    rw [e40] at hx
    simp only [cw] at ha hs hx ih ⊢
    rw [List.range'_succ, List.foldl_cons, crc_Of_R2_eq]
    cases hb : x.getLsbD 0 with
    | true =>
      have hp : pstep x = (x >>> 1) ^^^ 40961#16 := by simp only [pstep, hb, if_true]
      rw [hb] at ha
      rw [hp] at ih ⊢
      simp only [if_true] at ha
      simp only [crc_Of_B2, crc_Of_K2_a, h1, ha, hs, hx, hw, ih, zy, simprocAttr]
    | false =>
      have hp : pstep x = x >>> 1 := by simp only [pstep, hb, Bool.false_eq_true, if_false]
      rw [hb] at ha
      rw [hp] at ih ⊢
      simp only [Bool.false_eq_true, if_false] at ha
      simp only [crc_Of_B2, crc_Of_K2_a, h1, ha, hs, hw, ih, zy, simprocAttr]

set_option maxHeartbeats 1000000 in
theorem crcp_loop : ∀ (s p : List Int) (x : W16), byteOk s → (p ++ s).length ≤ small →
    crc_Of_R0 ([(3, cw x), (7, sl fU (p ++ s)), (8, .int .i64 (p ++ s).length), (9, .int .i64 p.length)], ⟨[], []⟩) = some (.norm, [(3, cw (s.foldl (fun x n => bbyte x n.toNat) x))], ⟨[], []⟩)
  | [], p, x, hs, hp => by
    have h1 : ¬ ((p.length : Int) < (p ++ []).length) := by simp
    rw [crc_Of_R0_eq]
    simp only [crc_Of_B0, crc_Of_K0_a, h1, cw, List.foldl_nil, zy, simprocAttr]
  | n :: s, p, x, hs, hp => by
    obtain ⟨h0, hn⟩ := hs n (by simp)
    obtain ⟨m, rfl⟩ := Int.eq_ofNat_of_zero_le h0
    have ih := crcp_loop s (p ++ [(m : Int)]) (bbyte x m) (fun y hy => hs y (by simp [hy])) (by simpa using hp)
    rw [List.append_assoc, List.singleton_append] at ih
    have hb := crcp_bits (p ++ (m : Int) :: s) p.length 8 0 (x ^^^ BitVec.ofNat 16 m) rfl
    unfold small at hp
    simp only [List.length_append, List.length_cons] at hp
    have h1 : ((p.length : Int) < (p ++ (m : Int) :: s).length) := by simp; omega
    have hw : IntKind.i64.wrap ((p.length : Int) + 1) = ((p ++ [(m : Int)]).length : Nat) := by rw [IntKind.wrap_i64]; simp; omega
    have hi : iaddrC 1 (sl fU (p ++ (m : Int) :: s)) (.int .i64 p.length) = some (.vp (.int .u8 m :: s.flatMap fU)) := iaddr_mid flatU .i64 p s m
    have hx := xor16 x (BitVec.ofNat 16 m)
    have hm : IntKind.u16.wrap (m : Int) = ((BitVec.ofNat 16 m).toNat : Int) := by
      have : (BitVec.ofNat 16 m).toNat = m := by simp; omega
      rw [this]
      simp [IntKind.wrap, IntKind.signed, IntKind.bits]; omega
    rw [show ((0 : Nat) : Int) = 0 from rfl] at hb
    rw [List.foldl_cons, Int.toNat_natCast]
    simp only [cw] at hx hb ih ⊢
    rw [crc_Of_R0_eq]
    simp only [crc_Of_B0, crc_Of_K0_a, h1, hi, hm, hx, hw, crc_Of_L2_eq, hb, zy, simprocAttr]
    exact ih

theorem crcp_F (p : List Int) (hp : byteOk p) (hl : p.length ≤ small) (st : Bool) (H : Heap) : crc_Of_F st H [sl fU p] = some (.int .u16 (crcOf p), H) := by
  have h := crcp_loop p [] 65535#16 hp (by simpa using hl)
  rw [List.nil_append, show (([] : List Int).length : Int) = 0 from rfl] at h
  have hn := not16 (bcrc p)
  rw [show cw 65535#16 = .int .u16 65535 from rfl] at h
  rw [show p.foldl (fun x n => bbyte x n.toNat) 65535#16 = bcrc p from rfl] at h
  rw [crcOf_bv p hp, crc_Of_F_eq]
  simp only [cw] at h hn
  simp only [crc_Of_C, crc_Of_L0_eq, h, hn, zy, simprocAttr]
end Go.Proofs.YtkpechngfcaiiaaGreatDoor.Zt
end
section
namespace Go.Proofs.YtkpechngfcaiiaaGreatDoor.Zt
open Go Go.Zc
set_option maxRecDepth 100000

theorem setMany_at : ∀ (new pre cs : List CV), new.length ≤ cs.length → setMany (pre ++ cs) pre.length new = pre ++ new ++ cs.drop new.length
  | [], pre, cs, _ => by simp [setMany]
  | c :: r, pre, [], h => by simp at h
  | c :: r, pre, d :: cs, h => by
    have ih := setMany_at r (pre ++ [c]) cs (by simpa using h)
    simp only [setMany, List.length_append, List.length_cons, List.length_nil, Nat.zero_add] at ih ⊢
    have e : (pre ++ d :: cs).set pre.length c = pre ++ [c] ++ cs := by simp
    rw [e, ih]
    simp

theorem repC_one (z : CV) : ∀ n, repC [z] n = List.replicate n z
  | 0 => rfl
  | n + 1 => by simp [repC, repC_one z n, List.replicate_succ]

theorem cells_U (p : List Int) : p.flatMap fU = p.map (CV.int .u8) := by
  induction p with
  | nil => rfl
  | cons x p ih => simp [fU, ih]

/-- A slice of zeros, written over. -/
theorem mk_over (p : List Int) (hp : p.length ≤ small) : ∀ bx, heapOp (.mksl 1 1 [.int .u8 0]) [.int .i64 p.length, .int .i64 ((p.length : Int) + 2)] ⟨bx, []⟩ = some (.os 1 (.blk 0) 0 p.length, ⟨bx, [.cells (List.replicate (p.length + 2) (.int .u8 0))]⟩) := by
  intro bx
  unfold small at hp
  have e : ((p.length : Int) + 2).toNat = p.length + 2 := by omega
  have h1 : (0 : Int) ≤ (p.length : Int) ∧ (p.length : Int) ≤ (p.length : Int) + 2 ∧ ((p.length : Int) + 2) * (1 : Nat) ≤ 140737488355328 ∧ (p.length : Int) + 2 ≤ 140737488355328 := by omega
  simp only [heapOp, mkslC]
  rw [if_pos (by rfl), if_pos h1]
  simp only [Heap.push, List.nil_append, List.length_nil, Int.toNat_natCast, e, repC_one]
theorem cp_over (p : List Int) : ∀ bx, heapOp (.copy 1) [.os 1 (.blk 0) 0 p.length, sl fU p] ⟨bx, [.cells (List.replicate (p.length + 2) (.int .u8 0))]⟩ = some (.int .i64 p.length, ⟨bx, [.cells (p.flatMap fU ++ [.int .u8 0, .int .u8 0])]⟩) := by
  intro bx
  have hs : shown ⟨bx, [.cells (List.replicate (p.length + 2) (.int .u8 0))]⟩ 1 (sl fU p) = some (p.flatMap fU) := by
    simp [shown, sl, cells_U]
  have hlen : (p.flatMap fU).length = p.length := by rw [cells_U]; simp
  have ht : (p.flatMap fU).take (min p.length p.length * 1) = p.flatMap fU := by rw [Nat.min_self, Nat.mul_one, ← hlen, List.take_length]
  have hm := setMany_at (p.flatMap fU) [] (List.replicate (p.length + 2) (.int .u8 0)) (by rw [hlen]; simp)
  have hd : (List.replicate (p.length + 2) (CV.int .u8 0)).drop (p.flatMap fU).length = [.int .u8 0, .int .u8 0] := by
    rw [hlen, List.drop_replicate, show p.length + 2 - p.length = 2 by omega]
    rfl
  rw [hd, List.nil_append, List.nil_append] at hm
  have hl0 : lenOf (sl fU p) = p.length := rfl
  simp only [heapOp, hs, Option.bind_some, flatU.ones, flatU.locs, Bool.not_false, Bool.and_self, if_true, copyC, hl0, Heap.get, List.getElem?_cons_zero, List.length_replicate, Nat.zero_add, Nat.mul_one]
  rw [if_pos (by omega)]
  rw [Nat.mul_one] at ht
  rw [ht]
  simp only [Heap.put, List.set_cons_zero]
  rw [show (([] : List CV).length) = 0 from rfl] at hm
  rw [hm, Nat.min_self]
theorem ap_over (p : List Int) (hp : p.length ≤ small) (a b : Int) : ∀ bx, heapOp (.app 1 1 [.int .u8 0]) [.os 1 (.blk 0) 0 p.length, .vs [.int .u8 a, .int .u8 b] 2] ⟨bx, [.cells (p.flatMap fU ++ [.int .u8 0, .int .u8 0])]⟩ =
    some (.os 1 (.blk 1) 0 (p.length + 2), ⟨bx, [.dead, .cells ((p ++ [a, b]).flatMap fU)]⟩) := by
  intro bx
  unfold small at hp
  have hlen : (p.flatMap fU).length = p.length := by rw [cells_U]; simp
  have e1 : lenOf (.vs [.int .u8 a, .int .u8 b] 2) = 2 := rfl
  have e2 : lenOf (.os 1 (.blk 0) 0 p.length) = p.length := rfl
  simp only [heapOp, e1, e2, Nat.succ_ne_zero, if_false, shown, List.length_cons, List.length_nil, Nat.zero_add, Nat.mul_one, if_true, Option.bind_some]
  have hc : (decide (0 < 1) && decide (0 < 1) && ones [CV.int .u8 a, CV.int .u8 b] && !CV.locs [CV.int .u8 a, CV.int .u8 b] && decide ((p.length + 2) ≤ 140737488355328) && decide (1 = 1) && ones [CV.int .u8 0]) = true := by
    have : decide (p.length + 2 ≤ 140737488355328) = true := decide_eq_true (by omega)
    rw [this]
    rfl
  simp only [Nat.reduceAdd] at hc ⊢
  rw [if_pos hc]
  have ht : (p.flatMap fU ++ [CV.int .u8 0, CV.int .u8 0]).take p.length = p.flatMap fU := by
    rw [← hlen, List.take_left']
    rfl
  simp only [appC, if_true, Heap.get, List.getElem?_cons_zero, Option.bind_some, Nat.mul_one, List.length_append, hlen, List.length_cons, List.length_nil]
  rw [if_pos (by omega), ht]
  simp [Heap.kill, Heap.push, fU, List.flatMap_append]

theorem own_U {p : List Int} {b : Blk} (bl : List Blk) (k : Nat) (h : bl[k]? = some (.cells (p.flatMap fU))) : Own fU 1 bl (.os 1 (.blk k) 0 p.length) p := .inr ⟨k, rfl, h⟩

theorem closeP_F (p : List Int) (hp : byteOk p) (hl : p.length ≤ small) (st : Bool) (H : Heap) : crc_Close_F st H [sl fU p] = some (sl fU (p ++ crcSum p), H) := by
  obtain ⟨h0, h1⟩ := crcOf_lt p
  have e1 := mk_over p hl
  have e2 := cp_over p
  have e3 := ap_over p hl (crcOf p % 256) (crcOf p / 256)
  have hw8 : ∀ m : Int, IntKind.u8.wrap m = m % 256 := fun m => by simp [IntKind.wrap, IntKind.signed, IntKind.bits]
  have hsh : binC .shr .ifc (.int .u16 (crcOf p)) (.int .u64 8) = some (.int .u16 (crcOf p / 256)) := by
    show some (CV.int .u16 ((crcOf p).fdiv (2 ^ 8))) = _
    rw [show ((2 : Int) ^ 8) = 256 by rfl, Int.fdiv_eq_ediv_of_nonneg _ (by decide)]
  have hw2 : IntKind.u8.wrap (crcOf p / 256) = crcOf p / 256 := by rw [hw8]; omega
  have hwl : IntKind.i64.wrap ((p.length : Int) + 2) = (p.length : Int) + 2 := by unfold small at hl; rw [IntKind.wrap_i64]; omega
  have o : Own fU 1 [.dead, .cells ((p ++ crcSum p).flatMap fU)] (.os 1 (.blk 1) 0 (p.length + 2)) (p ++ crcSum p) := .inr ⟨1, by simp [crcSum], rfl⟩
  have hc := crcp_F p hp hl
  rw [crc_Close_F_eq]
  simp only [crc_Close_C, e1, e2, hwl, crc_Of_call, hc, hw8, hsh, zy, simprocAttr]
  rw [show crcOf p / 256 % 256 = crcOf p / 256 by omega]
  simp only [e3, zy, simprocAttr]
  rw [show [crcOf p % 256, crcOf p / 256] = crcSum p from rfl]
  rw [o.snapV flatU _ _ _ (snap_Uq _ _ _ 6)]
  rfl

theorem ap_own (p : List Int) (h0 : p ≠ []) (hl : p.length ≤ small) : ∀ bx, heapOp (.app 1 1 [.int .u8 0]) [.os 1 (.blk 0) 0 0, sl fU p] ⟨bx, [.cells []]⟩ = some (.os 1 (.blk 1) 0 p.length, ⟨bx, [.dead, .cells (p.flatMap fU)]⟩) := by
  intro bx
  unfold small at hl
  have hpl : 0 < p.length := List.length_pos_iff.2 h0
  have hlen : (p.flatMap fU).length = p.length := by rw [cells_U]; simp
  have e1 : lenOf (sl fU p) = p.length := rfl
  have e2 : lenOf (.os 1 (.blk 0) 0 0) = 0 := rfl
  have hs : shown ⟨bx, [.cells []]⟩ 1 (sl fU p) = some (p.flatMap fU) := by simp [shown, sl, cells_U]
  simp only [heapOp, e1, e2, hs, Option.bind_some]
  rw [if_neg (by omega)]
  have hc : (decide (0 < 1) && decide (0 < 1) && ones (p.flatMap fU) && !CV.locs (p.flatMap fU) && decide ((0 + p.length) * 1 ≤ 140737488355328) && decide ([CV.int .u8 0].length = 1) && ones [CV.int .u8 0]) = true := by
    have : decide ((0 + p.length) * 1 ≤ 140737488355328) = true := decide_eq_true (by omega)
    rw [this, flatU.ones, flatU.locs]
    rfl
  rw [if_pos hc]
  simp [appC, Heap.get, Heap.kill, Heap.push]

theorem clone_F (p : List Int) (h0 : p ≠ []) (hl : p.length ≤ small) (st : Bool) (H : Heap) : bytes_Clone_F st H [sl fU p] = some (.os 1 (.blk H.bl.length) 0 p.length, H.push (.cells (p.flatMap fU))) := by
  have e := ap_own p h0 hl
  have hlen : (p.flatMap fU).length = p.length := by rw [cells_U]; simp
  obtain ⟨x, q, rfl⟩ : ∃ x q, p = x :: q := by cases p with | nil => exact (h0 rfl).elim | cons x q => exact ⟨x, q, rfl⟩
  simp only [List.length_cons] at e hlen
  have hn : binC .eql .sl (sl fU (x :: q)) .nils = some (.bool false) := rfl
  have ho : ownSnap st H ⟨[], [.dead, .cells ((x :: q).flatMap fU)]⟩ [.os 1 (.blk 1) 0 (q.length + 1)] = some (.os 1 (.blk H.bl.length) 0 (q.length + 1), H.push (.cells ((x :: q).flatMap fU))) := by
    unfold ownSnap ownOf resV
    simp only [Heap.get, List.getElem?_cons_succ, List.getElem?_cons_zero, Option.bind_some, Nat.mul_one, hlen, Nat.le_refl, if_true]
    rw [mapC_id]
    · rfl
    · intro c hc
      obtain ⟨y, hy, hc⟩ := List.mem_flatMap.1 hc
      exact snap_Uq _ _ _ 7 y c hc
  rw [bytes_Clone_F_eq]
  simp only [bytes_Clone_C, hn, e, ho, List.length_cons, zy, simprocAttr]

theorem bytesC_U (p : List Int) : bytesC (p.flatMap fU) = some p := by
  induction p with
  | nil => rfl
  | cons x p ih => simp [fU, bytesC, ih]
theorem bstr_sl (p : List Int) (H : Heap) : heapOp .bstr [sl fU p] H = some (.str (Zc.strOf p), H) := by
  have hs : shown H 1 (sl fU p) = some (p.flatMap fU) := by simp [shown, sl, cells_U]
  simp only [heapOp, hs, Option.bind_some, bytesC_U]
theorem equal_F (p : List Int) (st : Bool) (H : Heap) : bytes_Equal_F st H [sl fU p, sl fU p] = some (.bool true, H) := by
  have h : binC .eql .ifc (.str (Zc.strOf p)) (.str (Zc.strOf p)) = some (.bool true) := by simp [binC, strBin]
  rw [bytes_Equal_F_eq]
  simp only [bytes_Equal_C, bstr_sl, h, zy, simprocAttr]

/-- What was closed is opened. -/
theorem openP_F (p : List Int) (h0 : p ≠ []) (hp : byteOk p) (hl : p.length + 2 ≤ small) (H : Heap) : crc_Open_F false H [sl fU (p ++ crcSum p)] = some (.tup [sl fU p, .int .i64 0], H) := by
  have hlen : (p ++ crcSum p).length = p.length + 2 := by simp [crcSum]
  have h1 : ¬ (((p ++ crcSum p).length : Int) < 2) := by omega
  have hw : IntKind.i64.wrap (((p ++ crcSum p).length : Int) - 2) = (p.length : Int) := by unfold small at hl; rw [IntKind.wrap_i64]; omega
  have hs := slc_hi flatU (p ++ crcSum p) p.length (by omega) .i64
  rw [List.take_left' rfl] at hs
  have hc := clone_F p h0 (by omega)
  have hcl := closeP_F p hp (by omega)
  have he := equal_F (p ++ crcSum p)
  have o : Own fU 1 [.cells (p.flatMap fU)] (.os 1 (.blk 0) 0 p.length) p := .inr ⟨0, rfl, rfl⟩
  have s7 : snapV ⟨[], [.cells (p.flatMap fU)]⟩ false false (snapN ⟨[], [.cells (p.flatMap fU)]⟩ false false 7) (.os 1 (.blk 0) 0 p.length) = some (sl fU p) := o.snapV flatU _ _ _ (snap_Uq _ _ _ 6)
  have s6 : snapV ⟨[], [.cells (p.flatMap fU)]⟩ false false (snapN ⟨[], [.cells (p.flatMap fU)]⟩ false false 6) (.os 1 (.blk 0) 0 p.length) = some (sl fU p) := o.snapV flatU _ _ _ (snap_Uq _ _ _ 5)
  rw [crc_Open_F_eq]
  simp only [crc_Open_C, s7, s6, h1, hw, hs, bytes_Clone_call, hc, Heap.push, crc_Close_call, hcl, bytes_Equal_call, he, zy, simprocAttr]
end Go.Proofs.YtkpechngfcaiiaaGreatDoor.Zt
end
section
namespace Go.Proofs.YtkpechngfcaiiaaGreatDoor.Zt
open Go Go.Zc
set_option maxRecDepth 100000

def bits8 (x : Int) : List Bool := [x.toNat.testBit 7, x.toNat.testBit 6, x.toNat.testBit 5, x.toNat.testBit 4, x.toNat.testBit 3, x.toNat.testBit 2, x.toNat.testBit 1, x.toNat.testBit 0]
/-- The bits of bytes, the highest first. -/
def bitsB (p : List Int) : List Bool := p.flatMap bits8
theorem bitsB_length (p : List Int) : (bitsB p).length = 8 * p.length := by
  induction p with
  | nil => rfl
  | cons x p ih =>
    have : (bitsB (x :: p)).length = 8 + (bitsB p).length := by simp [bitsB, bits8]; omega
    rw [this, ih, List.length_cons]; omega
theorem bitsB_at : ∀ (p : List Int) (i : Nat) (h : i / 8 < p.length), bitAt (bitsB p) i = p[i / 8].toNat.testBit (7 - i % 8)
  | x :: p, i, h => by
    by_cases h8 : i < 8
    · have h0 : i / 8 = 0 := by omega
      simp only [h0, List.getElem_cons_zero]
      have : i = 0 ∨ i = 1 ∨ i = 2 ∨ i = 3 ∨ i = 4 ∨ i = 5 ∨ i = 6 ∨ i = 7 := by omega
      rcases this with h | h | h | h | h | h | h | h <;> subst h <;> rfl
    · obtain ⟨j, rfl⟩ : ∃ j, i = j + 8 := ⟨i - 8, by omega⟩
      have ih := bitsB_at p j (by simp at h; omega)
      have e1 : bitAt (bitsB (x :: p)) (j + 8) = bitAt (bitsB p) j := by
        show ((bits8 x ++ bitsB p)[j + 8]?).getD false = _
        rw [List.getElem?_append_right (by simp [bits8])]
        rfl
      rw [e1, ih]
      simp only [show (j + 8) / 8 = j / 8 + 1 by omega, List.getElem_cons_succ, show (j + 8) % 8 = j % 8 by omega]
  | [], i, h => by simp at h

abbrev rdB (kp n at' : Nat) (fl : Bool) : Blk := .cells [.os 1 (.blk kp) 0 n, .int .i64 at', .bool fl]
/-- A reader in memory. -/
structure Rd (bl : List Blk) (kr kp : Nat) (p : List Int) (at' : Nat) (fl : Bool) : Prop where
  top : bl[kr]? = some (rdB kp p.length at' fl)
  mem : bl[kp]? = some (.cells (p.flatMap fU))
  ne : kr ≠ kp

theorem Rd.put {bl : List Blk} {kr kp : Nat} {p : List Int} {a : Nat} {f : Bool} (h : Rd bl kr kp p a f) (a' : Nat) (f' : Bool) : Rd (bl.set kr (rdB kp p.length a' f')) kr kp p a' f' :=
  ⟨by rw [List.getElem?_set_self (List.getElem?_eq_some_iff.1 h.top).1], by rw [List.getElem?_set_ne h.ne]; exact h.mem, h.ne⟩
theorem Rd.keep {bl bl' : List Blk} {kr kp : Nat} {p : List Int} {a : Nat} {f : Bool} (h : Rd bl kr kp p a f) (hk : ∀ (k : Nat) (b : Blk), bl[k]? = some b → bl'[k]? = some b) : Rd bl' kr kp p a f := ⟨hk _ _ h.top, hk _ _ h.mem, h.ne⟩
theorem Rd.get {bl : List Blk} {kr kp : Nat} {p : List Int} {a : Nat} {f : Bool} (h : Rd bl kr kp p a f) (bx : List (Nat × List CV)) : (⟨bx, bl⟩ : Heap).get (.blk kr) = some [.os 1 (.blk kp) 0 p.length, .int .i64 a, .bool f] := get_blk bx bl kr _ h.top

theorem ok_F {bl : List Blk} {kr kp : Nat} {p : List Int} {a : Nat} {f : Bool} (h : Rd bl kr kp p a f) (bx : List (Nat × List CV)) : bits_Reader_OK_F bx bl [.op (.blk kr) 0] = some (.bool (!f), ⟨bx, bl⟩) := by
  have g := h.get []
  have hne : binC .neq .ptr (.op (.blk kr) 0) .nilp = some (.bool true) := rfl
  rw [bits_Reader_OK_F_eq]
  cases f <;> simp only [bits_Reader_OK_C, g, hne, zy, simprocAttr]

theorem left_F {bl : List Blk} {kr kp : Nat} {p : List Int} {a : Nat} {f : Bool} (h : Rd bl kr kp p a f) (hp : p.length ≤ small) (ha : a ≤ 8 * p.length) (bx : List (Nat × List CV)) : bits_Reader_Left_F bx bl [.op (.blk kr) 0] = some (.int .i64 (if f then 0 else 8 * p.length - a : Nat), ⟨bx, bl⟩) := by
  have g := h.get []
  have o := ok_F h
  unfold small at hp
  have hw : IntKind.i64.wrap ((p.length : Int) * 8) = (p.length : Int) * 8 := by rw [IntKind.wrap_i64]; omega
  have hw2 : IntKind.i64.wrap ((p.length : Int) * 8 - a) = ((8 * p.length - a : Nat) : Int) := by rw [IntKind.wrap_i64]; omega
  rw [bits_Reader_Left_F_eq]
  cases f <;> simp only [bits_Reader_Left_C, g, o, bits_Reader_OK_call, hw, hw2, zy, simprocAttr]

theorem bit_byte (x : Int) (h0 : 0 ≤ x) (h1 : x < 256) (i : Nat) : binC .and .ifc (.int .u8 (x.fdiv (2 ^ i))) (.int .u8 1) = some (.int .u8 (if x.toNat.testBit i then 1 else 0)) := by
  obtain ⟨n, rfl⟩ := Int.eq_ofNat_of_zero_le h0
  have hd : ((n : Int).fdiv (2 ^ i)) = ((n / 2 ^ i : Nat) : Int) := by
    rw [show ((2 : Int) ^ i) = ((2 ^ i : Nat) : Int) by simp, Int.fdiv_eq_ediv_of_nonneg _ (Int.natCast_nonneg _)]
    rfl
  show some (CV.int .u8 (IntKind.u8.wrap ((BitVec.ofInt 8 ((n : Int).fdiv (2 ^ i)) &&& BitVec.ofInt 8 1).toNat : Int))) = _
  rw [hd, BitVec.ofInt_natCast, show BitVec.ofInt 8 1 = BitVec.ofNat 8 1 from rfl]
  have e : (BitVec.ofNat 8 (n / 2 ^ i) &&& BitVec.ofNat 8 1).toNat = if n.testBit i then 1 else 0 := by
    rw [BitVec.toNat_and, BitVec.toNat_ofNat, BitVec.toNat_ofNat, show 1 % 2 ^ 8 = 1 by rfl, Nat.and_one_is_mod, Nat.mod_mod_of_dvd _ (by decide), Nat.testBit_eq_decide_div_mod_eq]
    by_cases h : n / 2 ^ i % 2 = 1
    · simp [h]
    · have : n / 2 ^ i % 2 = 0 := by omega
      simp [this]
  rw [e]
  simp only [Int.toNat_natCast]
  by_cases h : n.testBit i = true
  · simp only [h, if_true]; rfl
  · simp only [h]; rfl

theorem or_bit (n : Nat) (b : Bool) (hn : n < 2 ^ 63) : binC .or .ifc (.int .u64 (IntKind.u64.wrap ((n : Int) * 2))) (.int .u64 (if b then 1 else 0)) = some (.int .u64 (2 * n + (if b then 1 else 0) : Nat)) := by
  have hw : IntKind.u64.wrap ((n : Int) * 2) = ((2 * n : Nat) : Int) := by
    simp [IntKind.wrap, IntKind.signed, IntKind.bits]; omega
  have hb : (if b then (1 : Int) else 0) = ((if b then 1 else 0 : Nat) : Int) := by cases b <;> rfl
  rw [hw, hb]
  show some (CV.int .u64 (IntKind.u64.wrap ((BitVec.ofInt 64 ((2 * n : Nat) : Int) ||| BitVec.ofInt 64 ((if b then 1 else 0 : Nat) : Int)).toNat : Int))) = _
  rw [BitVec.ofInt_natCast, BitVec.ofInt_natCast, BitVec.toNat_or, BitVec.toNat_ofNat, BitVec.toNat_ofNat, Nat.mod_eq_of_lt (by omega), Nat.mod_eq_of_lt (by cases b <;> decide)]
  have e : (2 * n) ||| (if b then 1 else 0) = 2 * n + (if b then 1 else 0) := by
    have := Nat.shiftLeft_add_eq_or_of_lt (b := if b then 1 else 0) (i := 1) (by cases b <;> decide) n
    rw [Nat.shiftLeft_eq, Nat.pow_one, Nat.mul_comm] at this
    exact this.symm
  rw [e]
  congr 2
  simp [IntKind.wrap, IntKind.signed, IntKind.bits]
  cases b <;> simp <;> omega

set_option maxHeartbeats 4000000 in
theorem get_loop (kr kp : Nat) (p : List Int) (hp : byteOk p) (hl : p.length ≤ small) (w : Nat) (hw : w ≤ 64) : ∀ (j i n a : Nat) (bl : List Blk), Rd bl kr kp p a false → j + i = w → n < 2 ^ i → a + j ≤ 8 * p.length →
    bits_Reader_Get_R0 ([(0, .op (.blk kr) 0), (5, .int .u64 n), (17, .int .i64 w), (18, .int .i64 i)], ⟨[], bl⟩) = some (.norm, [(5, .int .u64 (numFrom (bitsB p) j a n))], ⟨[], bl.set kr (rdB kp p.length (a + j) false)⟩)
  | 0, i, n, a, bl, hr, hj, hn, ha => by
    have h1 : ¬ ((i : Int) < (w : Int)) := by omega
    have hs : bl.set kr (rdB kp p.length (a + 0) false) = bl := by
      obtain ⟨h1, h2⟩ := List.getElem?_eq_some_iff.1 hr.top
      rw [Nat.add_zero, ← h2, List.set_getElem_self]
    rw [bits_Reader_Get_R0_eq, hs]
    simp only [bits_Reader_Get_B0, bits_Reader_Get_K0_a, h1, numFrom, zy, simprocAttr]
  | j + 1, i, n, a, bl, hr, hj, hn, ha => by
    have hn63 : n < 2 ^ 63 := Nat.lt_of_lt_of_le hn (Nat.pow_le_pow_right (by omega) (by omega))
    have ih := get_loop kr kp p hp hl w hw j (i + 1) (2 * n + (if bitAt (bitsB p) a then 1 else 0)) (a + 1) _ (hr.put (a + 1) false) (by omega) (by rw [Nat.pow_succ]; split <;> omega) (by omega)
    rw [List.set_set, show a + 1 + j = a + (j + 1) by omega] at ih
    rw [numFrom, ← ih, bits_Reader_Get_R0_eq]
    unfold small at hl
    have g := hr.get []
    have h1 : ((i : Int) < (w : Int)) := by omega
    have hwi : IntKind.i64.wrap ((i : Int) + 1) = ((i + 1 : Nat) : Int) := by rw [IntKind.wrap_i64]; omega
    have hwa : IntKind.i64.wrap ((a : Int) + 1) = ((a + 1 : Nat) : Int) := by rw [IntKind.wrap_i64]; omega
    have ha8 : a / 8 < p.length := by omega
    have hq : binC .quo .ifc (.int .i64 a) (.int .i64 8) = some (.int .i64 (a / 8 : Nat)) := by
      show some (CV.int .i64 (IntKind.i64.wrap ((a : Int).tdiv 8))) = _
      have hwq : IntKind.i64.wrap ((a / 8 : Nat) : Int) = ((a / 8 : Nat) : Int) := by rw [IntKind.wrap_i64]; omega
      rw [show ((a : Int).tdiv 8) = ((a / 8 : Nat) : Int) from rfl, hwq]
    have hm : binC .rem .ifc (.int .i64 a) (.int .i64 8) = some (.int .i64 (a % 8 : Nat)) := rfl
    have hw7 : IntKind.i64.wrap (7 - ((a % 8 : Nat) : Int)) = ((7 - a % 8 : Nat) : Int) := by rw [IntKind.wrap_i64]; omega
    have hia : iaddrC 1 (.os 1 (.blk kp) 0 p.length) (.int .i64 (a / 8 : Nat)) = some (.op (.blk kp) (a / 8)) := by
      have h0 : (0 : Int) ≤ (a / 8 : Nat) ∧ ((a / 8 : Nat) : Int) < (p.length : Nat) := by omega
      simp only [iaddrC, iaddrN, Int.toNat_natCast, true_and]
      rw [if_pos h0]
      simp
    have hgp : (⟨[], bl⟩ : Heap).get (.blk kp) = some (p.flatMap fU) := get_blk [] bl kp _ hr.mem
    have hld : ldE false 1 (a / 8) (p.flatMap fU) = some (.int .u8 p[a / 8]) := by
      rw [cells_U]
      simp [ldE, partC, List.getElem?_map, List.getElem?_eq_getElem ha8]
      omega
    obtain ⟨hx0, hx1⟩ := hp p[a / 8] (List.getElem_mem ha8)
    have hsh : binC .shr .ifc (.int .u8 p[a / 8]) (.int .i64 (7 - a % 8 : Nat)) = some (.int .u8 (p[a / 8].fdiv (2 ^ (7 - a % 8)))) := by
      show shiftBin .shr .u8 _ _ = _
      have : ¬ (((7 - a % 8 : Nat) : Int) < 0) := by omega
      simp only [shiftBin, this, if_false, Int.toNat_natCast]
      rw [Nat.min_eq_left (by show 7 - a % 8 ≤ 8; omega)]
    have hb := bit_byte p[a / 8] hx0 hx1 (7 - a % 8)
    rw [← bitsB_at p a ha8] at hb
    have ho := or_bit n (bitAt (bitsB p) a) hn63
    have hto : ∀ b : Bool, IntKind.u64.wrap (if b then (1 : Int) else 0) = if b then 1 else 0 := by intro b; cases b <;> rfl
    have hsl : binC .shl .ifc (.int .u64 n) (.int .u64 1) = some (.int .u64 (IntKind.u64.wrap ((n : Int) * 2 ^ 1))) := rfl
    have hst : stE 1 1 (.int .i64 (a + 1 : Nat)) ⟨[], bl⟩ (.blk kr) [.os 1 (.blk kp) 0 p.length, .int .i64 a, .bool false] = some ⟨[], bl.set kr (rdB kp p.length (a + 1) false)⟩ := rfl
    simp only [bits_Reader_Get_B0, bits_Reader_Get_K0_a, h1, g, hq, hm, hw7, hia, hgp, hld, hsh, hb, hto, hsl, ho, hwi, hwa, hst, zy, simprocAttr]

theorem held_F (w : Nat) (hw : w ≤ 64) (st : Bool) (H : Heap) : bits_held_F st H [.int .i64 w] = some (.int .i64 w, H) := by
  have h1 : foldC max2C (.int .i64 w) [.int .i64 0] = some (.int .i64 w) := by
    have h : ¬ (0 > (w : Int)) := by omega
    simp only [foldC, max2C, Option.bind_some, h, if_false]
  have h2 : foldC min2C (.int .i64 w) [.int .i64 64] = some (.int .i64 w) := by
    have h : ¬ (64 < (w : Int)) := by omega
    simp only [foldC, min2C, Option.bind_some, h, if_false]
  rw [bits_held_F_eq]
  simp only [bits_held_C, h1, h2, zy, simprocAttr]

/-- What is read. -/
def getV (p : List Int) (w a : Nat) (f : Bool) : Nat := if f ∨ 8 * p.length < a + w then 0 else numFrom (bitsB p) w a 0
def getA (p : List Int) (w a : Nat) (f : Bool) : Nat := if f ∨ 8 * p.length < a + w then a else a + w
def getF (p : List Int) (w a : Nat) (f : Bool) : Bool := f || decide (8 * p.length < a + w)
theorem get_F {bl : List Blk} {kr kp : Nat} {p : List Int} {a : Nat} {f : Bool} (h : Rd bl kr kp p a f) (hp : byteOk p) (hl : p.length ≤ small) (ha : a ≤ 8 * p.length) (w : Nat) (h0 : 0 < w) (hw : w ≤ 64) (bx : List (Nat × List CV)) :
    bits_Reader_Get_F bx bl [.op (.blk kr) 0, .int .i64 w] = some (.int .u64 (getV p w a f), ⟨bx, bl.set kr (rdB kp p.length (getA p w a f) (getF p w a f))⟩) := by
  have hh := held_F w hw
  have hlf := left_F h hl ha
  have hne : binC .neq .ptr (.op (.blk kr) 0) .nilp = some (.bool true) := rfl
  have g := h.get []
  have hg : binC .gtr .ifc (.int .i64 w) (.int .i64 (if f then 0 else 8 * p.length - a : Nat)) = some (.bool (f || decide (8 * p.length < a + w))) := by
    show some (CV.bool (decide ((w : Int) > ((if f then 0 else 8 * p.length - a : Nat) : Int)))) = _
    congr 2
    cases f
    · simp only [Bool.false_or, Bool.false_eq_true, if_false]
      apply decide_eq_decide.2; omega
    · simp only [Bool.true_or, if_true]
      apply decide_eq_true; omega
  have hst : stE 1 2 (.bool true) ⟨[], bl⟩ (.blk kr) [.os 1 (.blk kp) 0 p.length, .int .i64 a, .bool f] = some ⟨[], bl.set kr (rdB kp p.length a true)⟩ := rfl
  rw [bits_Reader_Get_F_eq]
  by_cases hf : (f || decide (8 * p.length < a + w)) = true
  · have hf' : f = true ∨ 8 * p.length < a + w := by simpa using hf
    rw [hf] at hg
    unfold getV getA getF
    rw [if_pos hf', if_pos hf', hf]
    simp only [bits_Reader_Get_C, bits_Reader_Get_L0_eq, bits_held_call, hh, bits_Reader_Left_call, hlf, hg, hne, g, hst, zy, simprocAttr]
  · have hf' : ¬ (f = true ∨ 8 * p.length < a + w) := by simpa using hf
    have hff : f = false := by cases f; rfl; simp at hf
    have hlp := get_loop kr kp p hp hl w hw w 0 0 a bl (by rw [← hff]; exact h) (by omega) (by decide) (by omega)
    rw [show ((0 : Nat) : Int) = 0 from rfl] at hlp
    rw [eq_false_of_ne_true hf] at hg
    unfold getV getA getF
    rw [if_neg hf', if_neg hf', eq_false_of_ne_true hf]
    simp only [bits_Reader_Get_C, bits_Reader_Get_L0_eq, bits_held_call, hh, bits_Reader_Left_call, hlf, hg, hlp, zy, simprocAttr]
end Go.Proofs.YtkpechngfcaiiaaGreatDoor.Zt
end
section
namespace Go.Proofs.YtkpechngfcaiiaaGreatDoor.Zt
open Go Go.Zc
set_option maxRecDepth 100000

/-- Behind some reading: where the reader is; none: it has failed. -/
def Rdo (bl : List Blk) (kr kp : Nat) (p : List Int) : Option Nat → Prop
  | some a => a ≤ 8 * p.length ∧ Rd bl kr kp p a false
  | none => ∃ a, a ≤ 8 * p.length ∧ Rd bl kr kp p a true
theorem Rdo.rd {bl : List Blk} {kr kp : Nat} {p : List Int} : ∀ {s : Option Nat}, Rdo bl kr kp p s → ∃ a f, a ≤ 8 * p.length ∧ Rd bl kr kp p a f ∧ f = s.isNone ∧ (∀ b, s = some b → a = b)
  | some a, h => ⟨a, false, h.1, h.2, rfl, fun b e => by cases e; rfl⟩
  | none, ⟨a, h1, h2⟩ => ⟨a, true, h1, h2, rfl, fun b e => by cases e⟩
theorem Rdo.keep {bl bl' : List Blk} {kr kp : Nat} {p : List Int} (hr : bl'[kr]? = bl[kr]?) (hp : bl'[kp]? = bl[kp]?) : ∀ {s : Option Nat}, Rdo bl kr kp p s → Rdo bl' kr kp p s
  | some _, h => ⟨h.1, by rw [hr]; exact h.2.top, by rw [hp]; exact h.2.mem, h.2.ne⟩
  | none, ⟨a, h1, h2⟩ => ⟨a, h1, by rw [hr]; exact h2.top, by rw [hp]; exact h2.mem, h2.ne⟩

/-- What was there is there, but the reader. -/
structure Kp (b0 kr : Nat) (bl bl' : List Blk) : Prop where
  len : bl.length ≤ bl'.length
  keep : ∀ (k : Nat) (b : Blk), k < b0 → k ≠ kr → bl[k]? = some b → bl'[k]? = some b
theorem Kp.refl (b0 kr : Nat) (bl : List Blk) : Kp b0 kr bl bl := ⟨Nat.le_refl _, fun _ _ _ _ h => h⟩
theorem Kp.trans {b0 kr : Nat} {a b c : List Blk} (h : Kp b0 kr a b) (g : Kp b0 kr b c) : Kp b0 kr a c := ⟨Nat.le_trans h.len g.len, fun k x h1 h2 h3 => g.keep k x h1 h2 (h.keep k x h1 h2 h3)⟩
theorem Kp.le {b0 b1 kr : Nat} {a b : List Blk} (h : Kp b0 kr a b) (hb : b1 ≤ b0) : Kp b1 kr a b := ⟨h.len, fun k x h1 h2 h3 => h.keep k x (Nat.lt_of_lt_of_le h1 hb) h2 h3⟩

def getO (p : List Int) (w : Nat) (s : Option Nat) : Option Nat := s.bind fun a => if 8 * p.length < a + w then none else some (a + w)
def getN (p : List Int) (w : Nat) : Option Nat → Nat
  | none => 0
  | some a => if 8 * p.length < a + w then 0 else numFrom (bitsB p) w a 0
theorem getN_lt (p : List Int) (w : Nat) (s : Option Nat) : getN p w s < 2 ^ w := by
  have := Nat.two_pow_pos w
  unfold getN
  split
  · exact this
  · split
    · exact this
    · have h := numFrom_lt (bitsB p) w ‹_› 0 0 (by decide)
      simpa using h

theorem get_o {bl : List Blk} {kr kp : Nat} {p : List Int} {s : Option Nat} (h : Rdo bl kr kp p s) (hp : byteOk p) (hl : p.length ≤ small) (w : Nat) (h0 : 0 < w) (hw : w ≤ 64) :
    ∃ bl', (∀ bx, bits_Reader_Get_F bx bl [.op (.blk kr) 0, .int .i64 w] = some (.int .u64 (getN p w s), ⟨bx, bl'⟩)) ∧ Rdo bl' kr kp p (getO p w s) ∧ (∀ b0, Kp b0 kr bl bl') := by
  obtain ⟨a, f, ha, hr, hf, hs⟩ := h.rd
  refine ⟨bl.set kr (rdB kp p.length (getA p w a f) (getF p w a f)), fun bx => ?_, ?_, fun b0 => ⟨?_, ?_⟩⟩
  · rw [get_F hr hp hl ha w h0 hw bx]
    congr 4
    unfold getV getN
    cases s with
    | none =>
      have : f = true := by simpa using hf
      simp [this]
    | some b =>
      have : f = false := by simpa using hf
      have hab := hs b rfl
      subst hab
      simp [this]
  · have hp' := hr.put (getA p w a f) (getF p w a f)
    cases s with
    | none =>
      have : f = true := by simpa using hf
      subst this
      exact ⟨a, ha, by simpa [getA, getF] using hp'⟩
    | some b =>
      have : f = false := by simpa using hf
      have hab := hs b rfl
      subst hab
      subst this
      unfold getO
      simp only [Option.bind_some]
      by_cases h : 8 * p.length < a + w
      · rw [if_pos h]
        exact ⟨a, ha, by simpa [getA, getF, h] using hp'⟩
      · rw [if_neg h]
        exact ⟨by omega, by simpa [getA, getF, h] using hp'⟩
  · simp
  · intro k b _ hk hb
    rw [List.getElem?_set_ne (Ne.symm hk)]; exact hb

theorem ok_o {bl : List Blk} {kr kp : Nat} {p : List Int} {s : Option Nat} (h : Rdo bl kr kp p s) (bx : List (Nat × List CV)) : bits_Reader_OK_F bx bl [.op (.blk kr) 0] = some (.bool s.isSome, ⟨bx, bl⟩) := by
  obtain ⟨a, f, ha, hr, hf, hs⟩ := h.rd
  rw [ok_F hr bx, hf]
  cases s <;> rfl

theorem tiny_o {bl : List Blk} {kr kp : Nat} {p : List Int} {s : Option Nat} (h : Rdo bl kr kp p s) (hp : byteOk p) (hl : p.length ≤ small) :
    ∃ bl', (∀ bx, layout_tiny_F bx bl [.op (.blk kr) 0] = some (.int .i64 (getN p 8 s), ⟨bx, bl'⟩)) ∧ Rdo bl' kr kp p (getO p 8 s) ∧ (∀ b0, Kp b0 kr bl bl') := by
  obtain ⟨bl', h1, h2, h3⟩ := get_o h hp hl 8 (by decide) (by decide)
  refine ⟨bl', fun bx => ?_, h2, h3⟩
  have hlt := getN_lt p 8 s
  have hw : IntKind.i64.wrap (getN p 8 s : Int) = getN p 8 s := by rw [IntKind.wrap_i64]; omega
  rw [show ((8 : Nat) : Int) = 8 from rfl] at h1
  rw [layout_tiny_F_eq]
  simp only [layout_tiny_C, bits_Reader_Get_call, h1, hw, zy, simprocAttr]

theorem ticks_o {bl : List Blk} {kr kp : Nat} {p : List Int} {s : Option Nat} (h : Rdo bl kr kp p s) (hp : byteOk p) (hl : p.length ≤ small) :
    ∃ bl', (∀ bx, layout_ticks_F bx bl [.op (.blk kr) 0] = some (.int .i64 (getN p 16 s), ⟨bx, bl'⟩)) ∧ Rdo bl' kr kp p (getO p 16 s) ∧ (∀ b0, Kp b0 kr bl bl') := by
  obtain ⟨bl', h1, h2, h3⟩ := get_o h hp hl 16 (by decide) (by decide)
  refine ⟨bl', fun bx => ?_, h2, h3⟩
  have hlt := getN_lt p 16 s
  have hw : IntKind.i64.wrap (getN p 16 s : Int) = getN p 16 s := by rw [IntKind.wrap_i64]; omega
  rw [show ((16 : Nat) : Int) = 16 from rfl] at h1
  rw [layout_ticks_F_eq]
  simp only [layout_ticks_C, bits_Reader_Get_call, h1, hw, zy, simprocAttr]

/-! ### Lists -/
/-- What was handed back out of the midst of a loop. -/
def pk (x : Ex × Env × Heap) : Ex × CV × List Blk := (x.1, Env.at x.2.1 4, x.2.2.bl)
theorem pk_some {o : Out} {v : CV} {bl : List Blk} (h : o.map pk = some (.ret, v, bl)) : ∃ env bx, o = some (.ret, env, ⟨bx, bl⟩) ∧ Env.at env 4 = v := by
  cases o with
  | none => simp at h
  | some x =>
    obtain ⟨e, env, bx, bl'⟩ := x
    simp only [Option.map_some, pk, Option.some.injEq, Prod.mk.injEq] at h
    obtain ⟨rfl, h2, rfl⟩ := h
    exact ⟨env, bx, rfl, h2⟩
def decN {α : Type} (one : Nat → Option (α × Nat)) : Nat → Nat → Option (List α × Nat)
  | 0, a => some ([], a)
  | n + 1, a => (one a).bind fun x => (decN one n x.2).map fun l => (x.1 :: l.1, l.2)
def decL {α : Type} (p : List Int) (one : Nat → Option (α × Nat)) (s : Option Nat) : Option (List α × Nat) := (getO p 8 s).bind fun a => decN one (getN p 8 s) a

/-- How one is read: by a function that holds the reader. -/
def OneOk {α : Type} (kr kp kx : Nat) (p : List Int) (c : CV) (one : Nat → Option (α × Nat)) (Rel : List Blk → List Blk → CV → α → Prop) : Prop :=
  ∀ (bl : List Blk) (a : Nat), Rdo bl kr kp p (some a) → bl[kx]? = some (.cells [.op (.blk kr) 0]) → kx ≠ kr → ∃ v bl', (∀ bx, call ctx c [] ⟨bx, bl⟩ = some (v, ⟨bx, bl'⟩)) ∧ Kp bl.length kr bl bl' ∧ v.locv = false ∧
    Rdo bl' kr kp p ((one a).map Prod.snd) ∧ (∃ x, Rel bl bl' v x ∧ ∀ y a', one a = some (y, a') → y = x)

theorem fr_at {bl bl' : List Blk} {v : CV} (h : Fr bl bl' v) {k : Nat} (hv : blkOf v ≠ some k) (hk : k < bl.length) : bl'[k]? = bl[k]? := by
  rw [h k _ (List.getElem?_eq_getElem hk) hv, List.getElem?_eq_getElem hk]
theorem fr_kp {bl bl' : List Blk} {v : CV} (h : Fr bl bl' v) (hl : bl.length ≤ bl'.length) {b0 kr : Nat} (hv : ∀ k, blkOf v = some k → b0 ≤ k) : Kp b0 kr bl bl' := ⟨hl, fun k b h1 _ h3 => h k b h3 fun e => by have := hv k e; omega⟩
theorem own_kp {α : Type} {f : α → List CV} {sz : Nat} {bl bl' : List Blk} {v : CV} {l : List α} (h : Own f sz bl v l) {kr : Nat} (hk : Kp bl.length kr bl bl') (hv : blkOf v ≠ some kr) : Own f sz bl' v l := by
  rcases h with h | ⟨m, rfl, h2⟩
  · exact .inl h
  · exact .inr ⟨m, rfl, hk.keep m _ (List.getElem?_eq_some_iff.1 h2).1 (fun e => hv (by rw [e]; rfl)) h2⟩

set_option maxHeartbeats 4000000 in
theorem intL_loop {kr kp kx b0 : Nat} {p : List Int} {c : CV} {one : Nat → Option (Int × Nat)} (h1 : OneOk kr kp kx p c one fun _ _ v x => v = .int .i64 x) (hc : c.locv = false) (hkr : kr < b0) (hkp : kp < b0) (hkx : kx < b0) (hne : kx ≠ kr) (n : Nat) (hn : n < 256) :
    ∀ (j i a : Nat) (bl : List Blk) (v : CV) (acc : List Int), j + i = n → acc.length = i → b0 ≤ bl.length → Rdo bl kr kp p (some a) → bl[kx]? = some (.cells [.op (.blk kr) 0]) → Own fI 1 bl v acc → (∀ k, blkOf v = some k → b0 ≤ k) →
      (∀ l a', decN one j a = some (l, a') → ∃ v' bl', layout_list_int_R0 ([(0, .op (.blk kr) 0), (1, c), (5, v), (8, .int .u64 n), (9, .int .u64 i)], ⟨[], bl⟩) = some (.norm, [(5, v')], ⟨[], bl'⟩) ∧ Rdo bl' kr kp p (some a') ∧ Own fI 1 bl' v' (acc ++ l) ∧ (∀ k, blkOf v' = some k → b0 ≤ k) ∧ Kp b0 kr bl bl') ∧
      (decN one j a = none → ∃ bl', (layout_list_int_R0 ([(0, .op (.blk kr) 0), (1, c), (5, v), (8, .int .u64 n), (9, .int .u64 i)], ⟨[], bl⟩)).map pk = some (.ret, .nils, bl') ∧ Rdo bl' kr kp p none ∧ Kp b0 kr bl bl')
  | 0, i, a, bl, v, acc, hj, ha, hb, hr, hx, ho, hf => by
    refine ⟨fun l a' e => ?_, fun e => by simp [decN] at e⟩
    simp only [decN, Option.some.injEq, Prod.mk.injEq] at e
    obtain ⟨rfl, rfl⟩ := e
    refine ⟨v, bl, ?_, hr, by simpa using ho, hf, Kp.refl _ _ _⟩
    have h1 : ¬ ((i : Int) < (n : Int)) := by omega
    rw [layout_list_int_R0_eq]
    simp only [layout_list_int_B0, layout_list_int_K0_a, h1, ho.chkV, zy, simprocAttr]
  | j + 1, i, a, bl, v, acc, hj, ha, hb, hr, hx, ho, hf => by
    obtain ⟨w, bl1, e1, k1, hw, r1, x0, rel, rel2⟩ := h1 bl a hr hx hne
    subst rel
    have hi : ((i : Int) < (n : Int)) := by omega
    have hok := ok_o r1
    have hwi : IntKind.u64.wrap ((i : Int) + 1) = ((i + 1 : Nat) : Int) := by simp [IntKind.wrap, IntKind.signed, IntKind.bits]; omega
    cases h : one a with
    | none =>
      rw [h] at r1 hok
      simp only [decN, h, Option.bind_none]
      refine ⟨fun l a' e => by simp at e, fun _ => ⟨bl1, ?_, r1, k1.le hb⟩⟩
      · rw [layout_list_int_R0_eq]
        simp only [layout_list_int_B0, layout_list_int_K0_a, hi, e1, bits_Reader_OK_call, hok, Option.map_none, Option.isSome_none, ho.chkV, pk, zy, simprocAttr]
    | some x =>
      obtain ⟨x, a1⟩ := x
      have hv := rel2 x a1 h
      subst hv
      rw [h] at r1 hok
      have hvk : ∀ k, k < b0 → blkOf v ≠ some k := fun k hk e => by have := hf k e; omega
      have o1 := own_kp ho k1 (hvk kr hkr)
      obtain ⟨v2, bl2, e2, o2, l2, f2, b2⟩ := o1.app1 flatI (bytes := 8) (zero := [.int .i64 0]) (by decide) rfl rfl x (by omega)
      simp only [fI] at e2
      have hb1 : b0 ≤ bl1.length := Nat.le_trans hb k1.len
      have hx1 : bl1[kx]? = some (.cells [.op (.blk kr) 0]) := k1.keep kx _ (by omega) hne hx
      have r2 : Rdo bl2 kr kp p (some a1) := r1.keep (fr_at f2 (hvk kr hkr) (by omega)) (fr_at f2 (hvk kp hkp) (by omega))
      have k2 : Kp b0 kr bl bl2 := (k1.le hb).trans (fr_kp f2 l2 hf)
      have hf2 : ∀ k, blkOf v2 = some k → b0 ≤ k := fun k hk => by
        rcases b2 with b | b
        · exact hf k (b ▸ hk)
        · rw [b] at hk; cases hk; exact hb1
      obtain ⟨g1, g2⟩ := intL_loop h1 hc hkr hkp hkx hne n hn j (i + 1) a1 bl2 v2 (acc ++ [x]) (by omega) (by simp; omega) (Nat.le_trans hb1 l2) r2 (by rw [fr_at f2 (hvk kx hkx) (by omega)]; exact hx1) o2 hf2
      have step : layout_list_int_R0 ([(0, .op (.blk kr) 0), (1, c), (5, v), (8, .int .u64 n), (9, .int .u64 i)], ⟨[], bl⟩) = layout_list_int_R0 ([(0, .op (.blk kr) 0), (1, c), (5, v2), (8, .int .u64 n), (9, .int .u64 (i + 1 : Nat))], ⟨[], bl2⟩) := by
        rw [layout_list_int_R0_eq]
        simp only [layout_list_int_B0, layout_list_int_K0_a, hi, e1, e2, fI, bits_Reader_OK_call, hok, Option.map_some, Option.isSome_some, ho.chkV, o2.chkV, hwi, chkV_of hc, zy, simprocAttr]
      rw [step]
      simp only [decN, h, Option.bind_some]
      refine ⟨fun l a' e => ?_, fun e => ?_⟩
      · obtain ⟨⟨l', a''⟩, e', e''⟩ := Option.map_eq_some_iff.1 e
        simp only [Prod.mk.injEq] at e''
        obtain ⟨rfl, rfl⟩ := e''
        obtain ⟨v3, bl3, q1, q2, q3, q4, q5⟩ := g1 l' a'' e'
        exact ⟨v3, bl3, q1, q2, by simpa using q3, q4, k2.trans q5⟩
      · obtain ⟨bl3, q1, q2, q3⟩ := g2 (Option.map_eq_none_iff.1 e)
        exact ⟨bl3, q1, q2, k2.trans q3⟩
set_option maxHeartbeats 4000000 in
theorem intL_F {kr kp kx : Nat} {p : List Int} (hp : byteOk p) (hl : p.length ≤ small) {c : CV} {one : Nat → Option (Int × Nat)} (h1 : OneOk kr kp kx p c one fun _ _ v x => v = .int .i64 x) (hc : c.locv = false) (hne : kx ≠ kr)
    (bl : List Blk) (s : Option Nat) (hr : Rdo bl kr kp p s) (hx : bl[kx]? = some (.cells [.op (.blk kr) 0])) :
    ∃ v bl', (∀ bx, layout_list_int_F bx bl [.op (.blk kr) 0, c] = some (v, ⟨bx, bl'⟩)) ∧ Kp bl.length kr bl bl' ∧ Rdo bl' kr kp p ((decL p one s).map Prod.snd) ∧
      (∀ l a', decL p one s = some (l, a') → Own fI 1 bl' v l ∧ ∀ k, blkOf v = some k → bl.length ≤ k) ∧ (decL p one s = none → v = .nils) := by
  obtain ⟨bl1, e1, r1, k1⟩ := get_o hr hp hl 8 (by decide) (by decide)
  have hn : getN p 8 s < 256 := getN_lt p 8 s
  have hkr : kr < bl.length := by
    obtain ⟨a, f, _, h, _⟩ := hr.rd
    exact (List.getElem?_eq_some_iff.1 h.top).1
  have hkp : kp < bl.length := by
    obtain ⟨a, f, _, h, _⟩ := hr.rd
    exact (List.getElem?_eq_some_iff.1 h.mem).1
  have hkx : kx < bl.length := (List.getElem?_eq_some_iff.1 hx).1
  have hx1 : bl1[kx]? = some (.cells [.op (.blk kr) 0]) := (k1 bl.length).keep kx _ hkx hne hx
  rw [show ((8 : Nat) : Int) = 8 from rfl] at e1
  unfold decL
  cases ho : getO p 8 s with
  | none =>
    have hz : getN p 8 s = 0 := by
      cases s with
      | none => rfl
      | some a =>
        simp only [getO, Option.bind_some] at ho
        by_cases h : 8 * p.length < a + 8
        · simp only [getN, if_pos h]
        · rw [if_neg h] at ho; cases ho
    rw [hz] at e1
    rw [ho] at r1
    refine ⟨.nils, bl1, fun bx => ?_, k1 _, r1, fun l a' e => by simp at e, fun _ => rfl⟩
    rw [layout_list_int_F_eq]
    simp only [layout_list_int_C, layout_list_int_L0_eq, layout_list_int_R0_eq, layout_list_int_B0, layout_list_int_K0_a, bits_Reader_Get_call, e1, hc, chkV_of hc, zy, simprocAttr]
  | some a =>
    rw [ho] at r1
    obtain ⟨g1, g2⟩ := intL_loop h1 hc hkr hkp hkx hne (getN p 8 s) hn (getN p 8 s) 0 a bl1 .nils [] (by omega) rfl (k1 bl.length).len r1 hx1 (Own.nil fI 1 bl1) (fun k e => by cases e)
    simp only [Option.bind_some]
    cases hd : decN one (getN p 8 s) a with
    | none =>
      obtain ⟨bl2, q1, q2, q3⟩ := g2 hd
      obtain ⟨env, bx1, q4, q5⟩ := pk_some q1
      rw [show ((0 : Nat) : Int) = 0 from rfl] at q4
      refine ⟨.nils, bl2, fun bx => ?_, (k1 _).trans q3, q2, fun l a' e => by simp at e, fun _ => rfl⟩
      rw [layout_list_int_F_eq]
      simp only [layout_list_int_C, layout_list_int_L0_eq, bits_Reader_Get_call, e1, q4, q5, hc, chkV_of hc, zy, simprocAttr]
    | some x =>
      obtain ⟨l, a'⟩ := x
      obtain ⟨v2, bl2, q1, q2, q3, q4, q5⟩ := g1 l a' hd
      rw [show ((0 : Nat) : Int) = 0 from rfl] at q1
      refine ⟨v2, bl2, fun bx => ?_, (k1 _).trans q5, q2, fun l' a'' e => ?_, fun e => by cases e⟩
      · rw [layout_list_int_F_eq]
        simp only [layout_list_int_C, layout_list_int_L0_eq, bits_Reader_Get_call, e1, q1, hc, q3.locv, chkV_of hc, zy, simprocAttr]
      · cases e
        exact ⟨by simpa using q3, q4⟩
end Go.Proofs.YtkpechngfcaiiaaGreatDoor.Zt
end
section
namespace Go.Proofs.YtkpechngfcaiiaaGreatDoor.Zt
open Go Go.Zc
set_option maxRecDepth 100000

set_option maxHeartbeats 4000000 in
theorem zL_loop {kr kp kx b0 : Nat} {p : List Int} {c : CV} {one : Nat → Option ((Nat × Nat) × Nat)} (h1 : OneOk kr kp kx p c one fun _ _ v x => v = .cplx .f64 x.1 x.2) (hc : c.locv = false) (hkr : kr < b0) (hkp : kp < b0) (hkx : kx < b0) (hne : kx ≠ kr) (n : Nat) (hn : n < 256) :
    ∀ (j i a : Nat) (bl : List Blk) (v : CV) (acc : List (Nat × Nat)), j + i = n → acc.length = i → b0 ≤ bl.length → Rdo bl kr kp p (some a) → bl[kx]? = some (.cells [.op (.blk kr) 0]) → Own fZ 1 bl v acc → (∀ k, blkOf v = some k → b0 ≤ k) →
      (∀ l a', decN one j a = some (l, a') → ∃ v' bl', layout_list_complex128_R0 ([(0, .op (.blk kr) 0), (1, c), (5, v), (8, .int .u64 n), (9, .int .u64 i)], ⟨[], bl⟩) = some (.norm, [(5, v')], ⟨[], bl'⟩) ∧ Rdo bl' kr kp p (some a') ∧ Own fZ 1 bl' v' (acc ++ l) ∧ (∀ k, blkOf v' = some k → b0 ≤ k) ∧ Kp b0 kr bl bl') ∧
      (decN one j a = none → ∃ bl', (layout_list_complex128_R0 ([(0, .op (.blk kr) 0), (1, c), (5, v), (8, .int .u64 n), (9, .int .u64 i)], ⟨[], bl⟩)).map pk = some (.ret, .nils, bl') ∧ Rdo bl' kr kp p none ∧ Kp b0 kr bl bl')
  | 0, i, a, bl, v, acc, hj, ha, hb, hr, hx, ho, hf => by
    refine ⟨fun l a' e => ?_, fun e => by simp [decN] at e⟩
    simp only [decN, Option.some.injEq, Prod.mk.injEq] at e
    obtain ⟨rfl, rfl⟩ := e
    refine ⟨v, bl, ?_, hr, by simpa using ho, hf, Kp.refl _ _ _⟩
    have h1 : ¬ ((i : Int) < (n : Int)) := by omega
    rw [layout_list_complex128_R0_eq]
    simp only [layout_list_complex128_B0, layout_list_complex128_K0_a, h1, ho.chkV, zy, simprocAttr]
  | j + 1, i, a, bl, v, acc, hj, ha, hb, hr, hx, ho, hf => by
    obtain ⟨w, bl1, e1, k1, hw, r1, x0, rel, rel2⟩ := h1 bl a hr hx hne
    subst rel
    have hi : ((i : Int) < (n : Int)) := by omega
    have hok := ok_o r1
    have hwi : IntKind.u64.wrap ((i : Int) + 1) = ((i + 1 : Nat) : Int) := by simp [IntKind.wrap, IntKind.signed, IntKind.bits]; omega
    cases h : one a with
    | none =>
      rw [h] at r1 hok
      simp only [decN, h, Option.bind_none]
      refine ⟨fun l a' e => by simp at e, fun _ => ⟨bl1, ?_, r1, k1.le hb⟩⟩
      · rw [layout_list_complex128_R0_eq]
        simp only [layout_list_complex128_B0, layout_list_complex128_K0_a, hi, e1, bits_Reader_OK_call, hok, Option.map_none, Option.isSome_none, ho.chkV, pk, zy, simprocAttr]
    | some x =>
      obtain ⟨x, a1⟩ := x
      have hv := rel2 x a1 h
      subst hv
      rw [h] at r1 hok
      have hvk : ∀ k, k < b0 → blkOf v ≠ some k := fun k hk e => by have := hf k e; omega
      have o1 := own_kp ho k1 (hvk kr hkr)
      obtain ⟨v2, bl2, e2, o2, l2, f2, b2⟩ := o1.app1 flatZ (bytes := 16) (zero := [.cplx .f64 0 0]) (by decide) rfl rfl x (by omega)
      simp only [fZ] at e2
      have hb1 : b0 ≤ bl1.length := Nat.le_trans hb k1.len
      have hx1 : bl1[kx]? = some (.cells [.op (.blk kr) 0]) := k1.keep kx _ (by omega) hne hx
      have r2 : Rdo bl2 kr kp p (some a1) := r1.keep (fr_at f2 (hvk kr hkr) (by omega)) (fr_at f2 (hvk kp hkp) (by omega))
      have k2 : Kp b0 kr bl bl2 := (k1.le hb).trans (fr_kp f2 l2 hf)
      have hf2 : ∀ k, blkOf v2 = some k → b0 ≤ k := fun k hk => by
        rcases b2 with b | b
        · exact hf k (b ▸ hk)
        · rw [b] at hk; cases hk; exact hb1
      obtain ⟨g1, g2⟩ := zL_loop h1 hc hkr hkp hkx hne n hn j (i + 1) a1 bl2 v2 (acc ++ [x]) (by omega) (by simp; omega) (Nat.le_trans hb1 l2) r2 (by rw [fr_at f2 (hvk kx hkx) (by omega)]; exact hx1) o2 hf2
      have step : layout_list_complex128_R0 ([(0, .op (.blk kr) 0), (1, c), (5, v), (8, .int .u64 n), (9, .int .u64 i)], ⟨[], bl⟩) = layout_list_complex128_R0 ([(0, .op (.blk kr) 0), (1, c), (5, v2), (8, .int .u64 n), (9, .int .u64 (i + 1 : Nat))], ⟨[], bl2⟩) := by
        rw [layout_list_complex128_R0_eq]
        simp only [layout_list_complex128_B0, layout_list_complex128_K0_a, hi, e1, e2, fZ, bits_Reader_OK_call, hok, Option.map_some, Option.isSome_some, ho.chkV, o2.chkV, hwi, chkV_of hc, zy, simprocAttr]
      rw [step]
      simp only [decN, h, Option.bind_some]
      refine ⟨fun l a' e => ?_, fun e => ?_⟩
      · obtain ⟨⟨l', a''⟩, e', e''⟩ := Option.map_eq_some_iff.1 e
        simp only [Prod.mk.injEq] at e''
        obtain ⟨rfl, rfl⟩ := e''
        obtain ⟨v3, bl3, q1, q2, q3, q4, q5⟩ := g1 l' a'' e'
        exact ⟨v3, bl3, q1, q2, by simpa using q3, q4, k2.trans q5⟩
      · obtain ⟨bl3, q1, q2, q3⟩ := g2 (Option.map_eq_none_iff.1 e)
        exact ⟨bl3, q1, q2, k2.trans q3⟩
set_option maxHeartbeats 4000000 in
theorem zL_F {kr kp kx : Nat} {p : List Int} (hp : byteOk p) (hl : p.length ≤ small) {c : CV} {one : Nat → Option ((Nat × Nat) × Nat)} (h1 : OneOk kr kp kx p c one fun _ _ v x => v = .cplx .f64 x.1 x.2) (hc : c.locv = false) (hne : kx ≠ kr)
    (bl : List Blk) (s : Option Nat) (hr : Rdo bl kr kp p s) (hx : bl[kx]? = some (.cells [.op (.blk kr) 0])) :
    ∃ v bl', (∀ bx, layout_list_complex128_F bx bl [.op (.blk kr) 0, c] = some (v, ⟨bx, bl'⟩)) ∧ Kp bl.length kr bl bl' ∧ Rdo bl' kr kp p ((decL p one s).map Prod.snd) ∧
      (∀ l a', decL p one s = some (l, a') → Own fZ 1 bl' v l ∧ ∀ k, blkOf v = some k → bl.length ≤ k) ∧ (decL p one s = none → v = .nils) := by
  obtain ⟨bl1, e1, r1, k1⟩ := get_o hr hp hl 8 (by decide) (by decide)
  have hn : getN p 8 s < 256 := getN_lt p 8 s
  have hkr : kr < bl.length := by
    obtain ⟨a, f, _, h, _⟩ := hr.rd
    exact (List.getElem?_eq_some_iff.1 h.top).1
  have hkp : kp < bl.length := by
    obtain ⟨a, f, _, h, _⟩ := hr.rd
    exact (List.getElem?_eq_some_iff.1 h.mem).1
  have hkx : kx < bl.length := (List.getElem?_eq_some_iff.1 hx).1
  have hx1 : bl1[kx]? = some (.cells [.op (.blk kr) 0]) := (k1 bl.length).keep kx _ hkx hne hx
  rw [show ((8 : Nat) : Int) = 8 from rfl] at e1
  unfold decL
  cases ho : getO p 8 s with
  | none =>
    have hz : getN p 8 s = 0 := by
      cases s with
      | none => rfl
      | some a =>
        simp only [getO, Option.bind_some] at ho
        by_cases h : 8 * p.length < a + 8
        · simp only [getN, if_pos h]
        · rw [if_neg h] at ho; cases ho
    rw [hz] at e1
    rw [ho] at r1
    refine ⟨.nils, bl1, fun bx => ?_, k1 _, r1, fun l a' e => by simp at e, fun _ => rfl⟩
    rw [layout_list_complex128_F_eq]
    simp only [layout_list_complex128_C, layout_list_complex128_L0_eq, layout_list_complex128_R0_eq, layout_list_complex128_B0, layout_list_complex128_K0_a, bits_Reader_Get_call, e1, hc, chkV_of hc, zy, simprocAttr]
  | some a =>
    rw [ho] at r1
    obtain ⟨g1, g2⟩ := zL_loop h1 hc hkr hkp hkx hne (getN p 8 s) hn (getN p 8 s) 0 a bl1 .nils [] (by omega) rfl (k1 bl.length).len r1 hx1 (Own.nil fZ 1 bl1) (fun k e => by cases e)
    simp only [Option.bind_some]
    cases hd : decN one (getN p 8 s) a with
    | none =>
      obtain ⟨bl2, q1, q2, q3⟩ := g2 hd
      obtain ⟨env, bx1, q4, q5⟩ := pk_some q1
      rw [show ((0 : Nat) : Int) = 0 from rfl] at q4
      refine ⟨.nils, bl2, fun bx => ?_, (k1 _).trans q3, q2, fun l a' e => by simp at e, fun _ => rfl⟩
      rw [layout_list_complex128_F_eq]
      simp only [layout_list_complex128_C, layout_list_complex128_L0_eq, bits_Reader_Get_call, e1, q4, q5, hc, chkV_of hc, zy, simprocAttr]
    | some x =>
      obtain ⟨l, a'⟩ := x
      obtain ⟨v2, bl2, q1, q2, q3, q4, q5⟩ := g1 l a' hd
      rw [show ((0 : Nat) : Int) = 0 from rfl] at q1
      refine ⟨v2, bl2, fun bx => ?_, (k1 _).trans q5, q2, fun l' a'' e => ?_, fun e => by cases e⟩
      · rw [layout_list_complex128_F_eq]
        simp only [layout_list_complex128_C, layout_list_complex128_L0_eq, bits_Reader_Get_call, e1, q1, hc, q3.locv, chkV_of hc, zy, simprocAttr]
      · cases e
        exact ⟨by simpa using q3, q4⟩

set_option maxHeartbeats 4000000 in
theorem sL_loop {kr kp kx b0 : Nat} {p : List Int} {c : CV} {one : Nat → Option (Sec × Nat)} (h1 : OneOk kr kp kx p c one fun _ _ v x => v = .agg [.int .i64 x.len, .int .i64 x.a, .int .i64 x.b]) (hc : c.locv = false) (hkr : kr < b0) (hkp : kp < b0) (hkx : kx < b0) (hne : kx ≠ kr) (n : Nat) (hn : n < 256) :
    ∀ (j i a : Nat) (bl : List Blk) (v : CV) (acc : List Sec), j + i = n → acc.length = i → b0 ≤ bl.length → Rdo bl kr kp p (some a) → bl[kx]? = some (.cells [.op (.blk kr) 0]) → Own fS 3 bl v acc → (∀ k, blkOf v = some k → b0 ≤ k) →
      (∀ l a', decN one j a = some (l, a') → ∃ v' bl', layout_list_Section_R0 ([(0, .op (.blk kr) 0), (1, c), (5, v), (8, .int .u64 n), (9, .int .u64 i)], ⟨[], bl⟩) = some (.norm, [(5, v')], ⟨[], bl'⟩) ∧ Rdo bl' kr kp p (some a') ∧ Own fS 3 bl' v' (acc ++ l) ∧ (∀ k, blkOf v' = some k → b0 ≤ k) ∧ Kp b0 kr bl bl') ∧
      (decN one j a = none → ∃ bl', (layout_list_Section_R0 ([(0, .op (.blk kr) 0), (1, c), (5, v), (8, .int .u64 n), (9, .int .u64 i)], ⟨[], bl⟩)).map pk = some (.ret, .nils, bl') ∧ Rdo bl' kr kp p none ∧ Kp b0 kr bl bl')
  | 0, i, a, bl, v, acc, hj, ha, hb, hr, hx, ho, hf => by
    refine ⟨fun l a' e => ?_, fun e => by simp [decN] at e⟩
    simp only [decN, Option.some.injEq, Prod.mk.injEq] at e
    obtain ⟨rfl, rfl⟩ := e
    refine ⟨v, bl, ?_, hr, by simpa using ho, hf, Kp.refl _ _ _⟩
    have h1 : ¬ ((i : Int) < (n : Int)) := by omega
    rw [layout_list_Section_R0_eq]
    simp only [layout_list_Section_B0, layout_list_Section_K0_a, h1, ho.chkV, zy, simprocAttr]
  | j + 1, i, a, bl, v, acc, hj, ha, hb, hr, hx, ho, hf => by
    obtain ⟨w, bl1, e1, k1, hw, r1, x0, rel, rel2⟩ := h1 bl a hr hx hne
    subst rel
    have hi : ((i : Int) < (n : Int)) := by omega
    have hok := ok_o r1
    have hwi : IntKind.u64.wrap ((i : Int) + 1) = ((i + 1 : Nat) : Int) := by simp [IntKind.wrap, IntKind.signed, IntKind.bits]; omega
    cases h : one a with
    | none =>
      rw [h] at r1 hok
      simp only [decN, h, Option.bind_none]
      refine ⟨fun l a' e => by simp at e, fun _ => ⟨bl1, ?_, r1, k1.le hb⟩⟩
      · rw [layout_list_Section_R0_eq]
        simp only [layout_list_Section_B0, layout_list_Section_K0_a, hi, e1, bits_Reader_OK_call, hok, Option.map_none, Option.isSome_none, ho.chkV, pk, zy, simprocAttr]
    | some x =>
      obtain ⟨x, a1⟩ := x
      have hv := rel2 x a1 h
      subst hv
      rw [h] at r1 hok
      have hvk : ∀ k, k < b0 → blkOf v ≠ some k := fun k hk e => by have := hf k e; omega
      have o1 := own_kp ho k1 (hvk kr hkr)
      obtain ⟨v2, bl2, e2, o2, l2, f2, b2⟩ := o1.app1 flatS (bytes := 24) (zero := [.int .i64 0, .int .i64 0, .int .i64 0]) (by decide) rfl rfl x (by omega)
      simp only [fS] at e2
      have hb1 : b0 ≤ bl1.length := Nat.le_trans hb k1.len
      have hx1 : bl1[kx]? = some (.cells [.op (.blk kr) 0]) := k1.keep kx _ (by omega) hne hx
      have r2 : Rdo bl2 kr kp p (some a1) := r1.keep (fr_at f2 (hvk kr hkr) (by omega)) (fr_at f2 (hvk kp hkp) (by omega))
      have k2 : Kp b0 kr bl bl2 := (k1.le hb).trans (fr_kp f2 l2 hf)
      have hf2 : ∀ k, blkOf v2 = some k → b0 ≤ k := fun k hk => by
        rcases b2 with b | b
        · exact hf k (b ▸ hk)
        · rw [b] at hk; cases hk; exact hb1
      obtain ⟨g1, g2⟩ := sL_loop h1 hc hkr hkp hkx hne n hn j (i + 1) a1 bl2 v2 (acc ++ [x]) (by omega) (by simp; omega) (Nat.le_trans hb1 l2) r2 (by rw [fr_at f2 (hvk kx hkx) (by omega)]; exact hx1) o2 hf2
      have step : layout_list_Section_R0 ([(0, .op (.blk kr) 0), (1, c), (5, v), (8, .int .u64 n), (9, .int .u64 i)], ⟨[], bl⟩) = layout_list_Section_R0 ([(0, .op (.blk kr) 0), (1, c), (5, v2), (8, .int .u64 n), (9, .int .u64 (i + 1 : Nat))], ⟨[], bl2⟩) := by
        rw [layout_list_Section_R0_eq]
        simp only [layout_list_Section_B0, layout_list_Section_K0_a, hi, e1, e2, fS, bits_Reader_OK_call, hok, Option.map_some, Option.isSome_some, ho.chkV, o2.chkV, hwi, chkV_of hc, zy, simprocAttr]
      rw [step]
      simp only [decN, h, Option.bind_some]
      refine ⟨fun l a' e => ?_, fun e => ?_⟩
      · obtain ⟨⟨l', a''⟩, e', e''⟩ := Option.map_eq_some_iff.1 e
        simp only [Prod.mk.injEq] at e''
        obtain ⟨rfl, rfl⟩ := e''
        obtain ⟨v3, bl3, q1, q2, q3, q4, q5⟩ := g1 l' a'' e'
        exact ⟨v3, bl3, q1, q2, by simpa using q3, q4, k2.trans q5⟩
      · obtain ⟨bl3, q1, q2, q3⟩ := g2 (Option.map_eq_none_iff.1 e)
        exact ⟨bl3, q1, q2, k2.trans q3⟩
set_option maxHeartbeats 4000000 in
theorem sL_F {kr kp kx : Nat} {p : List Int} (hp : byteOk p) (hl : p.length ≤ small) {c : CV} {one : Nat → Option (Sec × Nat)} (h1 : OneOk kr kp kx p c one fun _ _ v x => v = .agg [.int .i64 x.len, .int .i64 x.a, .int .i64 x.b]) (hc : c.locv = false) (hne : kx ≠ kr)
    (bl : List Blk) (s : Option Nat) (hr : Rdo bl kr kp p s) (hx : bl[kx]? = some (.cells [.op (.blk kr) 0])) :
    ∃ v bl', (∀ bx, layout_list_Section_F bx bl [.op (.blk kr) 0, c] = some (v, ⟨bx, bl'⟩)) ∧ Kp bl.length kr bl bl' ∧ Rdo bl' kr kp p ((decL p one s).map Prod.snd) ∧
      (∀ l a', decL p one s = some (l, a') → Own fS 3 bl' v l ∧ ∀ k, blkOf v = some k → bl.length ≤ k) ∧ (decL p one s = none → v = .nils) := by
  obtain ⟨bl1, e1, r1, k1⟩ := get_o hr hp hl 8 (by decide) (by decide)
  have hn : getN p 8 s < 256 := getN_lt p 8 s
  have hkr : kr < bl.length := by
    obtain ⟨a, f, _, h, _⟩ := hr.rd
    exact (List.getElem?_eq_some_iff.1 h.top).1
  have hkp : kp < bl.length := by
    obtain ⟨a, f, _, h, _⟩ := hr.rd
    exact (List.getElem?_eq_some_iff.1 h.mem).1
  have hkx : kx < bl.length := (List.getElem?_eq_some_iff.1 hx).1
  have hx1 : bl1[kx]? = some (.cells [.op (.blk kr) 0]) := (k1 bl.length).keep kx _ hkx hne hx
  rw [show ((8 : Nat) : Int) = 8 from rfl] at e1
  unfold decL
  cases ho : getO p 8 s with
  | none =>
    have hz : getN p 8 s = 0 := by
      cases s with
      | none => rfl
      | some a =>
        simp only [getO, Option.bind_some] at ho
        by_cases h : 8 * p.length < a + 8
        · simp only [getN, if_pos h]
        · rw [if_neg h] at ho; cases ho
    rw [hz] at e1
    rw [ho] at r1
    refine ⟨.nils, bl1, fun bx => ?_, k1 _, r1, fun l a' e => by simp at e, fun _ => rfl⟩
    rw [layout_list_Section_F_eq]
    simp only [layout_list_Section_C, layout_list_Section_L0_eq, layout_list_Section_R0_eq, layout_list_Section_B0, layout_list_Section_K0_a, bits_Reader_Get_call, e1, hc, chkV_of hc, zy, simprocAttr]
  | some a =>
    rw [ho] at r1
    obtain ⟨g1, g2⟩ := sL_loop h1 hc hkr hkp hkx hne (getN p 8 s) hn (getN p 8 s) 0 a bl1 .nils [] (by omega) rfl (k1 bl.length).len r1 hx1 (Own.nil fS 3 bl1) (fun k e => by cases e)
    simp only [Option.bind_some]
    cases hd : decN one (getN p 8 s) a with
    | none =>
      obtain ⟨bl2, q1, q2, q3⟩ := g2 hd
      obtain ⟨env, bx1, q4, q5⟩ := pk_some q1
      rw [show ((0 : Nat) : Int) = 0 from rfl] at q4
      refine ⟨.nils, bl2, fun bx => ?_, (k1 _).trans q3, q2, fun l a' e => by simp at e, fun _ => rfl⟩
      rw [layout_list_Section_F_eq]
      simp only [layout_list_Section_C, layout_list_Section_L0_eq, bits_Reader_Get_call, e1, q4, q5, hc, chkV_of hc, zy, simprocAttr]
    | some x =>
      obtain ⟨l, a'⟩ := x
      obtain ⟨v2, bl2, q1, q2, q3, q4, q5⟩ := g1 l a' hd
      rw [show ((0 : Nat) : Int) = 0 from rfl] at q1
      refine ⟨v2, bl2, fun bx => ?_, (k1 _).trans q5, q2, fun l' a'' e => ?_, fun e => by cases e⟩
      · rw [layout_list_Section_F_eq]
        simp only [layout_list_Section_C, layout_list_Section_L0_eq, bits_Reader_Get_call, e1, q1, hc, q3.locv, chkV_of hc, zy, simprocAttr]
      · cases e
        exact ⟨by simpa using q3, q4⟩

set_option maxHeartbeats 4000000 in
theorem pL_loop {kr kp kx b0 : Nat} {p : List Int} {c : CV} {one : Nat → Option (Pt × Nat)} (h1 : OneOk kr kp kx p c one fun _ _ v x => v = .agg [.int .i64 x.node, .int .i64 x.stem, .int .i64 x.left, .int .i64 x.right]) (hc : c.locv = false) (hkr : kr < b0) (hkp : kp < b0) (hkx : kx < b0) (hne : kx ≠ kr) (n : Nat) (hn : n < 256) :
    ∀ (j i a : Nat) (bl : List Blk) (v : CV) (acc : List Pt), j + i = n → acc.length = i → b0 ≤ bl.length → Rdo bl kr kp p (some a) → bl[kx]? = some (.cells [.op (.blk kr) 0]) → Own fP 4 bl v acc → (∀ k, blkOf v = some k → b0 ≤ k) →
      (∀ l a', decN one j a = some (l, a') → ∃ v' bl', layout_list_Point_R0 ([(0, .op (.blk kr) 0), (1, c), (5, v), (8, .int .u64 n), (9, .int .u64 i)], ⟨[], bl⟩) = some (.norm, [(5, v')], ⟨[], bl'⟩) ∧ Rdo bl' kr kp p (some a') ∧ Own fP 4 bl' v' (acc ++ l) ∧ (∀ k, blkOf v' = some k → b0 ≤ k) ∧ Kp b0 kr bl bl') ∧
      (decN one j a = none → ∃ bl', (layout_list_Point_R0 ([(0, .op (.blk kr) 0), (1, c), (5, v), (8, .int .u64 n), (9, .int .u64 i)], ⟨[], bl⟩)).map pk = some (.ret, .nils, bl') ∧ Rdo bl' kr kp p none ∧ Kp b0 kr bl bl')
  | 0, i, a, bl, v, acc, hj, ha, hb, hr, hx, ho, hf => by
    refine ⟨fun l a' e => ?_, fun e => by simp [decN] at e⟩
    simp only [decN, Option.some.injEq, Prod.mk.injEq] at e
    obtain ⟨rfl, rfl⟩ := e
    refine ⟨v, bl, ?_, hr, by simpa using ho, hf, Kp.refl _ _ _⟩
    have h1 : ¬ ((i : Int) < (n : Int)) := by omega
    rw [layout_list_Point_R0_eq]
    simp only [layout_list_Point_B0, layout_list_Point_K0_a, h1, ho.chkV, zy, simprocAttr]
  | j + 1, i, a, bl, v, acc, hj, ha, hb, hr, hx, ho, hf => by
    obtain ⟨w, bl1, e1, k1, hw, r1, x0, rel, rel2⟩ := h1 bl a hr hx hne
    subst rel
    have hi : ((i : Int) < (n : Int)) := by omega
    have hok := ok_o r1
    have hwi : IntKind.u64.wrap ((i : Int) + 1) = ((i + 1 : Nat) : Int) := by simp [IntKind.wrap, IntKind.signed, IntKind.bits]; omega
    cases h : one a with
    | none =>
      rw [h] at r1 hok
      simp only [decN, h, Option.bind_none]
      refine ⟨fun l a' e => by simp at e, fun _ => ⟨bl1, ?_, r1, k1.le hb⟩⟩
      · rw [layout_list_Point_R0_eq]
        simp only [layout_list_Point_B0, layout_list_Point_K0_a, hi, e1, bits_Reader_OK_call, hok, Option.map_none, Option.isSome_none, ho.chkV, pk, zy, simprocAttr]
    | some x =>
      obtain ⟨x, a1⟩ := x
      have hv := rel2 x a1 h
      subst hv
      rw [h] at r1 hok
      have hvk : ∀ k, k < b0 → blkOf v ≠ some k := fun k hk e => by have := hf k e; omega
      have o1 := own_kp ho k1 (hvk kr hkr)
      obtain ⟨v2, bl2, e2, o2, l2, f2, b2⟩ := o1.app1 flatP (bytes := 32) (zero := [.int .i64 0, .int .i64 0, .int .i64 0, .int .i64 0]) (by decide) rfl rfl x (by omega)
      simp only [fP] at e2
      have hb1 : b0 ≤ bl1.length := Nat.le_trans hb k1.len
      have hx1 : bl1[kx]? = some (.cells [.op (.blk kr) 0]) := k1.keep kx _ (by omega) hne hx
      have r2 : Rdo bl2 kr kp p (some a1) := r1.keep (fr_at f2 (hvk kr hkr) (by omega)) (fr_at f2 (hvk kp hkp) (by omega))
      have k2 : Kp b0 kr bl bl2 := (k1.le hb).trans (fr_kp f2 l2 hf)
      have hf2 : ∀ k, blkOf v2 = some k → b0 ≤ k := fun k hk => by
        rcases b2 with b | b
        · exact hf k (b ▸ hk)
        · rw [b] at hk; cases hk; exact hb1
      obtain ⟨g1, g2⟩ := pL_loop h1 hc hkr hkp hkx hne n hn j (i + 1) a1 bl2 v2 (acc ++ [x]) (by omega) (by simp; omega) (Nat.le_trans hb1 l2) r2 (by rw [fr_at f2 (hvk kx hkx) (by omega)]; exact hx1) o2 hf2
      have step : layout_list_Point_R0 ([(0, .op (.blk kr) 0), (1, c), (5, v), (8, .int .u64 n), (9, .int .u64 i)], ⟨[], bl⟩) = layout_list_Point_R0 ([(0, .op (.blk kr) 0), (1, c), (5, v2), (8, .int .u64 n), (9, .int .u64 (i + 1 : Nat))], ⟨[], bl2⟩) := by
        rw [layout_list_Point_R0_eq]
        simp only [layout_list_Point_B0, layout_list_Point_K0_a, hi, e1, e2, fP, bits_Reader_OK_call, hok, Option.map_some, Option.isSome_some, ho.chkV, o2.chkV, hwi, chkV_of hc, zy, simprocAttr]
      rw [step]
      simp only [decN, h, Option.bind_some]
      refine ⟨fun l a' e => ?_, fun e => ?_⟩
      · obtain ⟨⟨l', a''⟩, e', e''⟩ := Option.map_eq_some_iff.1 e
        simp only [Prod.mk.injEq] at e''
        obtain ⟨rfl, rfl⟩ := e''
        obtain ⟨v3, bl3, q1, q2, q3, q4, q5⟩ := g1 l' a'' e'
        exact ⟨v3, bl3, q1, q2, by simpa using q3, q4, k2.trans q5⟩
      · obtain ⟨bl3, q1, q2, q3⟩ := g2 (Option.map_eq_none_iff.1 e)
        exact ⟨bl3, q1, q2, k2.trans q3⟩
set_option maxHeartbeats 4000000 in
theorem pL_F {kr kp kx : Nat} {p : List Int} (hp : byteOk p) (hl : p.length ≤ small) {c : CV} {one : Nat → Option (Pt × Nat)} (h1 : OneOk kr kp kx p c one fun _ _ v x => v = .agg [.int .i64 x.node, .int .i64 x.stem, .int .i64 x.left, .int .i64 x.right]) (hc : c.locv = false) (hne : kx ≠ kr)
    (bl : List Blk) (s : Option Nat) (hr : Rdo bl kr kp p s) (hx : bl[kx]? = some (.cells [.op (.blk kr) 0])) :
    ∃ v bl', (∀ bx, layout_list_Point_F bx bl [.op (.blk kr) 0, c] = some (v, ⟨bx, bl'⟩)) ∧ Kp bl.length kr bl bl' ∧ Rdo bl' kr kp p ((decL p one s).map Prod.snd) ∧
      (∀ l a', decL p one s = some (l, a') → Own fP 4 bl' v l ∧ ∀ k, blkOf v = some k → bl.length ≤ k) ∧ (decL p one s = none → v = .nils) := by
  obtain ⟨bl1, e1, r1, k1⟩ := get_o hr hp hl 8 (by decide) (by decide)
  have hn : getN p 8 s < 256 := getN_lt p 8 s
  have hkr : kr < bl.length := by
    obtain ⟨a, f, _, h, _⟩ := hr.rd
    exact (List.getElem?_eq_some_iff.1 h.top).1
  have hkp : kp < bl.length := by
    obtain ⟨a, f, _, h, _⟩ := hr.rd
    exact (List.getElem?_eq_some_iff.1 h.mem).1
  have hkx : kx < bl.length := (List.getElem?_eq_some_iff.1 hx).1
  have hx1 : bl1[kx]? = some (.cells [.op (.blk kr) 0]) := (k1 bl.length).keep kx _ hkx hne hx
  rw [show ((8 : Nat) : Int) = 8 from rfl] at e1
  unfold decL
  cases ho : getO p 8 s with
  | none =>
    have hz : getN p 8 s = 0 := by
      cases s with
      | none => rfl
      | some a =>
        simp only [getO, Option.bind_some] at ho
        by_cases h : 8 * p.length < a + 8
        · simp only [getN, if_pos h]
        · rw [if_neg h] at ho; cases ho
    rw [hz] at e1
    rw [ho] at r1
    refine ⟨.nils, bl1, fun bx => ?_, k1 _, r1, fun l a' e => by simp at e, fun _ => rfl⟩
    rw [layout_list_Point_F_eq]
    simp only [layout_list_Point_C, layout_list_Point_L0_eq, layout_list_Point_R0_eq, layout_list_Point_B0, layout_list_Point_K0_a, bits_Reader_Get_call, e1, hc, chkV_of hc, zy, simprocAttr]
  | some a =>
    rw [ho] at r1
    obtain ⟨g1, g2⟩ := pL_loop h1 hc hkr hkp hkx hne (getN p 8 s) hn (getN p 8 s) 0 a bl1 .nils [] (by omega) rfl (k1 bl.length).len r1 hx1 (Own.nil fP 4 bl1) (fun k e => by cases e)
    simp only [Option.bind_some]
    cases hd : decN one (getN p 8 s) a with
    | none =>
      obtain ⟨bl2, q1, q2, q3⟩ := g2 hd
      obtain ⟨env, bx1, q4, q5⟩ := pk_some q1
      rw [show ((0 : Nat) : Int) = 0 from rfl] at q4
      refine ⟨.nils, bl2, fun bx => ?_, (k1 _).trans q3, q2, fun l a' e => by simp at e, fun _ => rfl⟩
      rw [layout_list_Point_F_eq]
      simp only [layout_list_Point_C, layout_list_Point_L0_eq, bits_Reader_Get_call, e1, q4, q5, hc, chkV_of hc, zy, simprocAttr]
    | some x =>
      obtain ⟨l, a'⟩ := x
      obtain ⟨v2, bl2, q1, q2, q3, q4, q5⟩ := g1 l a' hd
      rw [show ((0 : Nat) : Int) = 0 from rfl] at q1
      refine ⟨v2, bl2, fun bx => ?_, (k1 _).trans q5, q2, fun l' a'' e => ?_, fun e => by cases e⟩
      · rw [layout_list_Point_F_eq]
        simp only [layout_list_Point_C, layout_list_Point_L0_eq, bits_Reader_Get_call, e1, q1, hc, q3.locv, chkV_of hc, zy, simprocAttr]
      · cases e
        exact ⟨by simpa using q3, q4⟩

end Go.Proofs.YtkpechngfcaiiaaGreatDoor.Zt
end
section
namespace Go.Proofs.YtkpechngfcaiiaaGreatDoor.Zt
open Go Go.Zc
set_option maxRecDepth 100000

theorem deep_kp {α : Type} {f : α → List CV} {sz : Nat} {bl bl' : List Blk} {v : CV} {l : List α} (h : Deep f sz bl v l) {b0 kr : Nat} (hk : Kp bl.length kr bl bl') (h0 : kr < b0) (hv : ∀ k, Deep.reach bl v k → b0 ≤ k) : Deep f sz bl' v l ∧ ∀ k, Deep.reach bl' v k → b0 ≤ k := by
  have hh : ∀ (m : Nat) (b : Blk), bl[m]? = some b → Deep.reach bl v m → bl'[m]? = some b := fun m b hb hr => hk.keep m b (List.getElem?_eq_some_iff.1 hb).1 (fun e => by have := hv m hr; omega) hb
  exact ⟨h.keep hh, fun k hr => hv k (h.reach_keep (fun m b hb hm => hh m b hb (.inl hm)) hr)⟩

/-- A row is read. -/
abbrev RowR : List Blk → List Blk → CV → List Int → Prop := fun bl bl' v x => Own fI 1 bl' v x ∧ ∀ k, blkOf v = some k → bl.length ≤ k

set_option maxHeartbeats 4000000 in
theorem lL_loop {kr kp kx b0 : Nat} {p : List Int} {c : CV} {one : Nat → Option (List Int × Nat)} (h1 : OneOk kr kp kx p c one RowR) (hc : c.locv = false) (hkr : kr < b0) (hkp : kp < b0) (hkx : kx < b0) (hne : kx ≠ kr) (n : Nat) (hn : n < 256) :
    ∀ (j i a : Nat) (bl : List Blk) (v : CV) (acc : List (List Int)), j + i = n → acc.length = i → b0 ≤ bl.length → Rdo bl kr kp p (some a) → bl[kx]? = some (.cells [.op (.blk kr) 0]) → Deep fL 1 bl v acc → (∀ k, Deep.reach bl v k → b0 ≤ k) →
      (∀ l a', decN one j a = some (l, a') → ∃ v' bl', layout_list_Ints_R0 ([(0, .op (.blk kr) 0), (1, c), (5, v), (8, .int .u64 n), (9, .int .u64 i)], ⟨[], bl⟩) = some (.norm, [(5, v')], ⟨[], bl'⟩) ∧ Rdo bl' kr kp p (some a') ∧ Deep fL 1 bl' v' (acc ++ l) ∧ (∀ k, Deep.reach bl' v' k → b0 ≤ k) ∧ Kp b0 kr bl bl') ∧
      (decN one j a = none → ∃ bl', (layout_list_Ints_R0 ([(0, .op (.blk kr) 0), (1, c), (5, v), (8, .int .u64 n), (9, .int .u64 i)], ⟨[], bl⟩)).map pk = some (.ret, .nils, bl') ∧ Rdo bl' kr kp p none ∧ Kp b0 kr bl bl')
  | 0, i, a, bl, v, acc, hj, ha, hb, hr, hx, ho, hf => by
    refine ⟨fun l a' e => ?_, fun e => by simp [decN] at e⟩
    simp only [decN, Option.some.injEq, Prod.mk.injEq] at e
    obtain ⟨rfl, rfl⟩ := e
    refine ⟨v, bl, ?_, hr, by simpa using ho, hf, Kp.refl _ _ _⟩
    have h1 : ¬ ((i : Int) < (n : Int)) := by omega
    rw [layout_list_Ints_R0_eq]
    simp only [layout_list_Ints_B0, layout_list_Ints_K0_a, h1, ho.chkV, zy, simprocAttr]
  | j + 1, i, a, bl, v, acc, hj, ha, hb, hr, hx, ho, hf => by
    obtain ⟨w, bl1, e1, k1, hw, r1, x0, rel, rel2⟩ := h1 bl a hr hx hne
    have hi : ((i : Int) < (n : Int)) := by omega
    have hok := ok_o r1
    have hwi : IntKind.u64.wrap ((i : Int) + 1) = ((i + 1 : Nat) : Int) := by simp [IntKind.wrap, IntKind.signed, IntKind.bits]; omega
    cases h : one a with
    | none =>
      rw [h] at r1 hok
      simp only [decN, h, Option.bind_none]
      refine ⟨fun l a' e => by simp at e, fun _ => ⟨bl1, ?_, r1, k1.le hb⟩⟩
      · rw [layout_list_Ints_R0_eq]
        simp only [layout_list_Ints_B0, layout_list_Ints_K0_a, hi, e1, bits_Reader_OK_call, hok, Option.map_none, Option.isSome_none, ho.chkV, pk, zy, simprocAttr]
    | some x =>
      obtain ⟨x, a1⟩ := x
      have hv := rel2 x a1 h
      subst hv
      rw [h] at r1 hok
      have hb1 : b0 ≤ bl1.length := Nat.le_trans hb k1.len
      obtain ⟨o1, hf1⟩ := deep_kp ho k1 hkr hf
      have hvk : ∀ k, k < b0 → blkOf v ≠ some k := fun k hk e => by have := hf k (.inl e); omega
      obtain ⟨v2, bl2, e2, o2, f2, b2, b3⟩ := Deep.app (f := fL) (sz := 1) (fun _ => rfl) (by decide) o1 (bytes := 24) (zero := [.nils]) (by decide) rfl rfl x [w] (show Cells bl1 [w] (fL x) from ⟨cell_own rel.1, trivial⟩) (fun d hd k hk e => by
        simp only [List.mem_singleton] at hd
        subst hd
        have := rel.2 k hk
        have := ho.lt e
        omega) (by omega)
      have l2 : bl1.length ≤ bl2.length := by have := o2.lt b2; omega
      have hx1 : bl1[kx]? = some (.cells [.op (.blk kr) 0]) := k1.keep kx _ (by omega) hne hx
      have r2 : Rdo bl2 kr kp p (some a1) := r1.keep (fr_at f2 (hvk kr hkr) (by omega)) (fr_at f2 (hvk kp hkp) (by omega))
      have k2 : Kp b0 kr bl bl2 := (k1.le hb).trans (fr_kp f2 l2 fun k hk => hf k (.inl hk))
      have hf2 : ∀ k, Deep.reach bl2 v2 k → b0 ≤ k := fun k hk => by
        rcases b3 k hk with b | b | ⟨d, hd, hk'⟩
        · omega
        · exact hf1 k b
        · simp only [List.mem_singleton] at hd
          subst hd
          have := rel.2 k hk'
          omega
      have hlit : ∀ bx, heapOp (.bslO 1 1 [.nils] [(0, 1)]) [w] ⟨bx, bl1⟩ = some (.os 1 (.blk bl1.length) 0 1, ⟨bx, bl1 ++ [.cells [w]]⟩) := fun bx => by
        rw [hop_bslO, if_pos (show [w].length = [((0 : Nat), (1 : Nat))].length from rfl)]
        have hcl : w.cells = [w] := rel.1.cells
        have hl : CV.locs [w] = false := by simp only [CV.locs, rel.1.locv, Bool.or_self]
        have h1 : ones [w] = true := by rw [ones_cons, rel.1.one]; rfl
        have hu : w.und? = false := rel.1.und
        simp [fillC, repC, hu, hcl, ownE, hl, h1, setMany, Heap.push]
      obtain ⟨g1, g2⟩ := lL_loop h1 hc hkr hkp hkx hne n hn j (i + 1) a1 bl2 v2 (acc ++ [x]) (by omega) (by simp; omega) (Nat.le_trans hb1 l2) r2 (by rw [fr_at f2 (hvk kx hkx) (by omega)]; exact hx1) o2 hf2
      have step : layout_list_Ints_R0 ([(0, .op (.blk kr) 0), (1, c), (5, v), (8, .int .u64 n), (9, .int .u64 i)], ⟨[], bl⟩) = layout_list_Ints_R0 ([(0, .op (.blk kr) 0), (1, c), (5, v2), (8, .int .u64 n), (9, .int .u64 (i + 1 : Nat))], ⟨[], bl2⟩) := by
        rw [layout_list_Ints_R0_eq]
        simp only [layout_list_Ints_B0, layout_list_Ints_K0_a, hi, e1, e2, hlit, bits_Reader_OK_call, hok, Option.map_some, Option.isSome_some, ho.chkV, o2.chkV, hwi, chkV_of hc, zy, simprocAttr]
      rw [step]
      simp only [decN, h, Option.bind_some]
      refine ⟨fun l a' e => ?_, fun e => ?_⟩
      · obtain ⟨⟨l', a''⟩, e', e''⟩ := Option.map_eq_some_iff.1 e
        simp only [Prod.mk.injEq] at e''
        obtain ⟨rfl, rfl⟩ := e''
        obtain ⟨v3, bl3, q1, q2, q3, q4, q5⟩ := g1 l' a'' e'
        exact ⟨v3, bl3, q1, q2, by simpa using q3, q4, k2.trans q5⟩
      · obtain ⟨bl3, q1, q2, q3⟩ := g2 (Option.map_eq_none_iff.1 e)
        exact ⟨bl3, q1, q2, k2.trans q3⟩

set_option maxHeartbeats 4000000 in
theorem lL_F {kr kp kx : Nat} {p : List Int} (hp : byteOk p) (hl : p.length ≤ small) {c : CV} {one : Nat → Option (List Int × Nat)} (h1 : OneOk kr kp kx p c one RowR) (hc : c.locv = false) (hne : kx ≠ kr)
    (bl : List Blk) (s : Option Nat) (hr : Rdo bl kr kp p s) (hx : bl[kx]? = some (.cells [.op (.blk kr) 0])) :
    ∃ v bl', (∀ bx, layout_list_Ints_F bx bl [.op (.blk kr) 0, c] = some (v, ⟨bx, bl'⟩)) ∧ Kp bl.length kr bl bl' ∧ Rdo bl' kr kp p ((decL p one s).map Prod.snd) ∧
      (∀ l a', decL p one s = some (l, a') → Deep fL 1 bl' v l ∧ ∀ k, Deep.reach bl' v k → bl.length ≤ k) ∧ (decL p one s = none → v = .nils) := by
  obtain ⟨bl1, e1, r1, k1⟩ := get_o hr hp hl 8 (by decide) (by decide)
  have hn : getN p 8 s < 256 := getN_lt p 8 s
  have hkr : kr < bl.length := by
    obtain ⟨a, f, _, h, _⟩ := hr.rd
    exact (List.getElem?_eq_some_iff.1 h.top).1
  have hkp : kp < bl.length := by
    obtain ⟨a, f, _, h, _⟩ := hr.rd
    exact (List.getElem?_eq_some_iff.1 h.mem).1
  have hkx : kx < bl.length := (List.getElem?_eq_some_iff.1 hx).1
  have hx1 : bl1[kx]? = some (.cells [.op (.blk kr) 0]) := (k1 bl.length).keep kx _ hkx hne hx
  rw [show ((8 : Nat) : Int) = 8 from rfl] at e1
  unfold decL
  cases ho : getO p 8 s with
  | none =>
    have hz : getN p 8 s = 0 := by
      cases s with
      | none => rfl
      | some a =>
        simp only [getO, Option.bind_some] at ho
        by_cases h : 8 * p.length < a + 8
        · simp only [getN, if_pos h]
        · rw [if_neg h] at ho; cases ho
    rw [hz] at e1
    rw [ho] at r1
    refine ⟨.nils, bl1, fun bx => ?_, k1 _, r1, fun l a' e => by simp at e, fun _ => rfl⟩
    rw [layout_list_Ints_F_eq]
    simp only [layout_list_Ints_C, layout_list_Ints_L0_eq, layout_list_Ints_R0_eq, layout_list_Ints_B0, layout_list_Ints_K0_a, bits_Reader_Get_call, e1, hc, chkV_of hc, zy, simprocAttr]
  | some a =>
    rw [ho] at r1
    obtain ⟨g1, g2⟩ := lL_loop h1 hc hkr hkp hkx hne (getN p 8 s) hn (getN p 8 s) 0 a bl1 .nils [] (by omega) rfl (k1 bl.length).len r1 hx1 (Deep.nil fL 1 bl1) (fun k e => (Deep.reach_nils e).elim)
    simp only [Option.bind_some]
    cases hd : decN one (getN p 8 s) a with
    | none =>
      obtain ⟨bl2, q1, q2, q3⟩ := g2 hd
      obtain ⟨env, bx1, q4, q5⟩ := pk_some q1
      rw [show ((0 : Nat) : Int) = 0 from rfl] at q4
      refine ⟨.nils, bl2, fun bx => ?_, (k1 _).trans q3, q2, fun l a' e => by simp at e, fun _ => rfl⟩
      rw [layout_list_Ints_F_eq]
      simp only [layout_list_Ints_C, layout_list_Ints_L0_eq, bits_Reader_Get_call, e1, q4, q5, hc, chkV_of hc, zy, simprocAttr]
    | some x =>
      obtain ⟨l, a'⟩ := x
      obtain ⟨v2, bl2, q1, q2, q3, q4, q5⟩ := g1 l a' hd
      rw [show ((0 : Nat) : Int) = 0 from rfl] at q1
      refine ⟨v2, bl2, fun bx => ?_, (k1 _).trans q5, q2, fun l' a'' e => ?_, fun e => by cases e⟩
      · rw [layout_list_Ints_F_eq]
        simp only [layout_list_Ints_C, layout_list_Ints_L0_eq, bits_Reader_Get_call, e1, q1, hc, q3.locv, chkV_of hc, zy, simprocAttr]
      · cases e
        exact ⟨by simpa using q3, q4⟩
end Go.Proofs.YtkpechngfcaiiaaGreatDoor.Zt
end
section
namespace Go.Proofs.YtkpechngfcaiiaaGreatDoor.Zt
open Go Go.Zc
set_option maxRecDepth 100000

def getQ (p : List Int) (w : Nat) (a : Nat) : Option (Int × Nat) := if 8 * p.length < a + w then none else some ((numFrom (bitsB p) w a 0 : Nat), a + w)
theorem getO_some (p : List Int) (w a : Nat) : getO p w (some a) = (getQ p w a).map Prod.snd := by
  unfold getO getQ
  simp only [Option.bind_some]
  split <;> rfl
theorem getN_some {p : List Int} {w a : Nat} {x : Int × Nat} (h : getQ p w a = some x) : ((getN p w (some a) : Nat) : Int) = x.1 := by
  unfold getQ at h
  unfold getN
  dsimp only
  split at h
  · cases h
  · rename_i h0
    rw [if_neg h0]
    cases h
    rfl

section
variable {kr kp kx : Nat} {p : List Int} (hp : byteOk p) (hl : p.length ≤ small)
include hp hl

/-- A number. -/
theorem one_int : OneOk kr kp kx p (.fn (.func 160) [] [.op (.blk kx) 0]) (getQ p 8) fun _ _ v x => v = .int .i64 x := by
  intro bl a hr hx hne
  obtain ⟨bl1, e1, r1, k1⟩ := tiny_o hr hp hl
  have hg : ∀ bx, (⟨bx, bl⟩ : Heap).get (.blk kx) = some [.op (.blk kr) 0] := fun bx => get_blk bx bl kx _ hx
  refine ⟨.int .i64 (getN p 8 (some a)), bl1, fun bx => ?_, k1 _, rfl, by rw [← getO_some]; exact r1, getN p 8 (some a), rfl, fun y a' e => (getN_some e).symm⟩
  rw [layout_nested_1_1_call]
  simp only [layout_nested_1_1_F_eq, layout_nested_1_1_C, hg, layout_tiny_call, e1, zy, simprocAttr]

theorem box_get {bl : List Blk} {x : CV} (h : bl[kx]? = some (.cells [x])) (bx : List (Nat × List CV)) : (⟨bx, bl⟩ : Heap).get (.blk kx) = some [x] := get_blk bx bl kx _ h

/-- A list of numbers: by a function that holds the reader. -/
theorem one_list : OneOk kr kp kx p (.fn (.func 158) [] [.op (.blk kx) 0]) (fun a => decL p (getQ p 8) (some a)) RowR := by
  intro bl a hr hx hne
  obtain ⟨v, bl1, e1, k1, r1, o1, n1⟩ := intL_F hp hl (one_int hp hl (kr := kr) (kp := kp) (kx := kx)) rfl hne bl (some a) hr hx
  have hg := box_get hp hl hx
  have hv : v.locv = false := by
    cases h : decL p (getQ p 8) (some a) with
    | none => rw [n1 h]; rfl
    | some x => exact (o1 x.1 x.2 h).1.locv
  refine ⟨v, bl1, fun bx => ?_, k1, hv, r1, ?_⟩
  · rw [layout_nested_1_call]
    simp only [layout_nested_1_F_eq, layout_nested_1_C, hg, layout_list_int_call, e1, hv, zy, simprocAttr]
  · cases h : decL p (getQ p 8) (some a) with
    | none =>
      rw [n1 h]
      exact ⟨[], ⟨Own.nil fI 1 bl1, fun k e => by cases e⟩, fun y a' e => by
        replace e : decL p (getQ p 8) (some a) = some (y, a') := e
        rw [h] at e; cases e⟩
    | some x => exact ⟨x.1, o1 x.1 x.2 h, fun y a' e => by
        replace e : decL p (getQ p 8) (some a) = some (y, a') := e
        rw [h] at e; cases e; rfl⟩

/-- Lists of numbers. -/
def nestQ (p : List Int) (s : Option Nat) : Option (List (List Int) × Nat) := decL p (fun a => decL p (getQ p 8) (some a)) s
theorem nested_F (bl : List Blk) (s : Option Nat) (hr : Rdo bl kr kp p s) :
    ∃ v bl', (∀ bx, layout_nested_F bx bl [.op (.blk kr) 0] = some (v, ⟨bx, bl'⟩)) ∧ Kp bl.length kr bl bl' ∧ Rdo bl' kr kp p ((nestQ p s).map Prod.snd) ∧
      (∀ l a', nestQ p s = some (l, a') → Deep fL 1 bl' v l ∧ ∀ k, Deep.reach bl' v k → bl.length ≤ k) ∧ (nestQ p s = none → v = .nils) := by
  obtain ⟨_, _, _, hr0, _⟩ := hr.rd
  have hkr := (List.getElem?_eq_some_iff.1 hr0.top).1
  have hkp := (List.getElem?_eq_some_iff.1 hr0.mem).1
  have hx : (bl ++ [Blk.cells [.op (.blk kr) 0]])[bl.length]? = some (.cells [.op (.blk kr) 0]) := by simp
  have hr' : Rdo (bl ++ [Blk.cells [.op (.blk kr) 0]]) kr kp p s := hr.keep (by rw [List.getElem?_append_left hkr]) (by rw [List.getElem?_append_left hkp])
  obtain ⟨v, bl1, e1, k1, r1, o1, n1⟩ := lL_F hp hl (one_list hp hl (kr := kr) (kp := kp) (kx := bl.length)) rfl (by omega) _ s hr' hx
  have hg := box_get hp hl hx
  have k0 : Kp bl.length kr bl (bl ++ [Blk.cells [.op (.blk kr) 0]]) := ⟨by simp, fun k b h _ hb => by rw [List.getElem?_append_left h]; exact hb⟩
  refine ⟨v, bl1, fun bx => ?_, k0.trans (k1.le (by simp)), r1, fun l a' e => ⟨(o1 l a' e).1, fun k hk => ?_⟩, n1⟩
  · have hv : v.locv = false := by
      cases h : nestQ p s with
      | none => rw [n1 h]; rfl
      | some x => exact (o1 x.1 x.2 h).1.locv
    simp only [layout_nested_F_eq, layout_nested_C, hg, layout_list_Ints_call, e1, hv, zy, simprocAttr]
  · have := (o1 l a' e).2 k hk
    simp at this
    omega

/-- A coordinate. -/
def fl32 (n : Nat) : Nat := FloatKind.f64.nearest (IntKind.i32.wrap n)
theorem coord_o {bl : List Blk} {s : Option Nat} (h : Rdo bl kr kp p s) :
    ∃ bl', (∀ bx, layout_coordinate_F bx bl [.op (.blk kr) 0] = some (.float .f64 (fl32 (getN p 32 s)), ⟨bx, bl'⟩)) ∧ Rdo bl' kr kp p (getO p 32 s) ∧ (∀ b0, Kp b0 kr bl bl') := by
  obtain ⟨bl', h1, h2, h3⟩ := get_o h hp hl 32 (by decide) (by decide)
  refine ⟨bl', fun bx => ?_, h2, h3⟩
  rw [show ((32 : Nat) : Int) = 32 from rfl] at h1
  rw [layout_coordinate_F_eq]
  simp only [layout_coordinate_C, bits_Reader_Get_call, h1, zy, simprocAttr]
  rfl
def placeQ (p : List Int) (a : Nat) : Option ((Nat × Nat) × Nat) := (getQ p 32 a).bind fun x => (getQ p 32 x.2).map fun y => ((fl32 x.1.toNat, fl32 y.1.toNat), y.2)
theorem one_place : OneOk kr kp kx p (.fn (.func 77) [] [.op (.blk kx) 0]) (placeQ p) fun _ _ v x => v = .cplx .f64 x.1 x.2 := by
  intro bl a hr hx hne
  obtain ⟨bl1, e1, r1, k1⟩ := coord_o hp hl hr
  obtain ⟨bl2, e2, r2, k2⟩ := coord_o hp hl r1
  have hg := box_get hp hl hx
  have hg1 := box_get hp hl ((k1 bl.length).keep kx _ (List.getElem?_eq_some_iff.1 hx).1 hne hx)
  have hcx : ∀ a b : Nat, cplxC (.float .f64 a) (.float .f64 b) = some (.cplx .f64 a b) := fun _ _ => rfl
  refine ⟨.cplx .f64 (fl32 (getN p 32 (some a))) (fl32 (getN p 32 (getO p 32 (some a)))), bl2, fun bx => ?_, (k1 _).trans (k2 _), rfl, ?_, (_, _), rfl, fun y a' e => ?_⟩
  · rw [layout_Decode_1_call]
    simp only [layout_Decode_1_F_eq, layout_Decode_1_C, hg, hg1, layout_coordinate_call, e1, e2, hcx, zy, simprocAttr]
  · unfold placeQ
    rw [getO_some] at r2
    cases h : getQ p 32 a with
    | none => rw [h] at r2; exact r2
    | some x =>
      rw [h] at r2
      simp only [Option.map_some, getO_some] at r2
      simp only [Option.bind_some, Option.map_map]
      exact r2
  · unfold placeQ at e
    cases h : getQ p 32 a with
    | none => rw [h] at e; cases e
    | some x =>
      rw [h] at e
      simp only [Option.bind_some] at e
      obtain ⟨z, h2, h3⟩ := Option.map_eq_some_iff.1 e
      cases h3
      rw [getO_some, h]
      simp only [Option.map_some]
      rw [← getN_some h, ← getN_some h2]
      rfl
end
end Go.Proofs.YtkpechngfcaiiaaGreatDoor.Zt
end
section
namespace Go.Proofs.YtkpechngfcaiiaaGreatDoor.Zt
open Go Go.Zc
set_option maxRecDepth 100000

theorem oEqb_refl (x : Option Blk) : oEqb x x = true := by
  cases x
  · rfl
  · exact Blk.eqb_refl _
theorem spare1 {bl bl1 : List Blk} {kx : Nat} (h : bl1[kx]? = bl[kx]?) : sparesC [.op (.blk kx) 0] bl bl1 = true := by
  simp only [sparesC, idOf, h, Bool.and_true]
  exact oEqb_refl _

/-- Three numbers, or four, one behind the other. -/
def getQ3 (p : List Int) (w1 w2 w3 : Nat) (a : Nat) : Option ((Int × Int × Int) × Nat) := (getQ p w1 a).bind fun x => (getQ p w2 x.2).bind fun y => (getQ p w3 y.2).map fun z => ((x.1, y.1, z.1), z.2)
theorem getQ3_some (p : List Int) (w1 w2 w3 a : Nat) :
    getO p w3 (getO p w2 (getO p w1 (some a))) = (getQ3 p w1 w2 w3 a).map Prod.snd ∧
    ∀ x a', getQ3 p w1 w2 w3 a = some (x, a') → x = ((getN p w1 (some a) : Int), (getN p w2 (getO p w1 (some a)) : Int), (getN p w3 (getO p w2 (getO p w1 (some a))) : Int)) := by
  unfold getQ3
  rw [getO_some]
  cases h1 : getQ p w1 a with
  | none => exact ⟨rfl, fun x a' e => by cases e⟩
  | some x =>
    simp only [Option.map_some, Option.bind_some, getO_some]
    cases h2 : getQ p w2 x.2 with
    | none => exact ⟨rfl, fun x a' e => by cases e⟩
    | some y =>
      simp only [Option.map_some, Option.bind_some, getO_some]
      cases h3 : getQ p w3 y.2 with
      | none => exact ⟨rfl, fun x a' e => by cases e⟩
      | some z =>
        refine ⟨rfl, fun x a' e => ?_⟩
        cases e
        rw [getN_some h1, getN_some h2, getN_some h3]

section
variable {kr kp kx : Nat} {p : List Int} (hp : byteOk p) (hl : p.length ≤ small)
include hp hl
def secQ (p : List Int) (a : Nat) : Option (Sec × Nat) := (getQ3 p 16 8 8 a).map fun x => (⟨x.1.1, x.1.2.1, x.1.2.2⟩, x.2)
theorem one_sec : OneOk kr kp kx p (.fn (.func 80) [] [.op (.blk kx) 0]) (secQ p) fun _ _ v x => v = .agg [.int .i64 x.len, .int .i64 x.a, .int .i64 x.b] := by
  intro bl a hr hx hne
  obtain ⟨bl1, e1, r1, k1⟩ := get_o hr hp hl 16 (by decide) (by decide)
  obtain ⟨bl2, e2, r2, k2⟩ := tiny_o r1 hp hl
  obtain ⟨bl3, e3, r3, k3⟩ := tiny_o r2 hp hl
  have hkx := (List.getElem?_eq_some_iff.1 hx).1
  have hx1 := (k1 bl.length).keep kx _ hkx hne hx
  have hx2 := (k2 bl.length).keep kx _ hkx hne hx1
  have hx3 := (k3 bl.length).keep kx _ hkx hne hx2
  have hg := box_get hp hl hx
  have hg1 := box_get hp hl hx1
  have hg2 := box_get hp hl hx2
  have s1 : sparesC [.op (.blk kx) 0] bl bl1 = true := spare1 (by rw [hx1, hx])
  have s2 : sparesC [.op (.blk kx) 0] bl1 bl2 = true := spare1 (by rw [hx2, hx1])
  have s3 : sparesC [.op (.blk kx) 0] bl2 bl3 = true := spare1 (by rw [hx3, hx2])
  rw [show ((16 : Nat) : Int) = 16 from rfl] at e1
  have hlt := getN_lt p 16 (some a)
  have hw : IntKind.i64.wrap (getN p 16 (some a) : Int) = getN p 16 (some a) := by rw [IntKind.wrap_i64]; omega
  obtain ⟨q1, q2⟩ := getQ3_some p 16 8 8 a
  refine ⟨.agg [.int .i64 (getN p 16 (some a)), .int .i64 (getN p 8 (getO p 16 (some a))), .int .i64 (getN p 8 (getO p 8 (getO p 16 (some a))))], bl3, fun bx => ?_, (k1 _).trans ((k2 _).trans (k3 _)), rfl, ?_, ⟨_, _, _⟩, rfl, fun y a' e => ?_⟩
  · rw [layout_Decode_2_call]
    simp only [layout_Decode_2_F_eq, layout_Decode_2_C, hg, hg1, hg2, s1, s2, s3, layout_tiny_call, bits_Reader_Get_call, e1, e2, e3, hw, runOps_sCk, List.drop, List.take, zy, simprocAttr]
  · rw [q1] at r3
    unfold secQ
    simp only [Option.map_map]
    exact r3
  · unfold secQ at e
    obtain ⟨z, h2, h3⟩ := Option.map_eq_some_iff.1 e
    cases h3
    rw [q2 z.1 z.2 h2]

def getQ4 (p : List Int) (a : Nat) : Option ((Int × Int × Int × Int) × Nat) := (getQ p 8 a).bind fun x => (getQ3 p 8 8 8 x.2).map fun y => ((x.1, y.1), y.2)
def ptQ (p : List Int) (a : Nat) : Option (Pt × Nat) := (getQ4 p a).map fun x => (⟨x.1.1, x.1.2.1, x.1.2.2.1, x.1.2.2.2⟩, x.2)
omit hp hl in
theorem getQ4_some (p : List Int) (a : Nat) :
    getO p 8 (getO p 8 (getO p 8 (getO p 8 (some a)))) = (getQ4 p a).map Prod.snd ∧
    ∀ x a', getQ4 p a = some (x, a') → x = ((getN p 8 (some a) : Int), (getN p 8 (getO p 8 (some a)) : Int), (getN p 8 (getO p 8 (getO p 8 (some a))) : Int), (getN p 8 (getO p 8 (getO p 8 (getO p 8 (some a)))) : Int)) := by
  unfold getQ4
  rw [getO_some]
  cases h1 : getQ p 8 a with
  | none => exact ⟨rfl, fun x a' e => by cases e⟩
  | some x =>
    obtain ⟨g1, g2⟩ := getQ3_some p 8 8 8 x.2
    simp only [Option.map_some, Option.bind_some, g1, Option.map_map]
    refine ⟨rfl, fun y a' e => ?_⟩
    obtain ⟨z, h2, h3⟩ := Option.map_eq_some_iff.1 e
    cases h3
    rw [getN_some h1, g2 z.1 z.2 h2]
theorem one_pt : OneOk kr kp kx p (.fn (.func 85) [] [.op (.blk kx) 0]) (ptQ p) fun _ _ v x => v = .agg [.int .i64 x.node, .int .i64 x.stem, .int .i64 x.left, .int .i64 x.right] := by
  intro bl a hr hx hne
  obtain ⟨bl1, e1, r1, k1⟩ := tiny_o hr hp hl
  obtain ⟨bl2, e2, r2, k2⟩ := tiny_o r1 hp hl
  obtain ⟨bl3, e3, r3, k3⟩ := tiny_o r2 hp hl
  obtain ⟨bl4, e4, r4, k4⟩ := tiny_o r3 hp hl
  have hkx := (List.getElem?_eq_some_iff.1 hx).1
  have hx1 := (k1 bl.length).keep kx _ hkx hne hx
  have hx2 := (k2 bl.length).keep kx _ hkx hne hx1
  have hx3 := (k3 bl.length).keep kx _ hkx hne hx2
  have hx4 := (k4 bl.length).keep kx _ hkx hne hx3
  have hg := box_get hp hl hx
  have hg1 := box_get hp hl hx1
  have hg2 := box_get hp hl hx2
  have hg3 := box_get hp hl hx3
  have s1 : sparesC [.op (.blk kx) 0] bl bl1 = true := spare1 (by rw [hx1, hx])
  have s2 : sparesC [.op (.blk kx) 0] bl1 bl2 = true := spare1 (by rw [hx2, hx1])
  have s3 : sparesC [.op (.blk kx) 0] bl2 bl3 = true := spare1 (by rw [hx3, hx2])
  have s4 : sparesC [.op (.blk kx) 0] bl3 bl4 = true := spare1 (by rw [hx4, hx3])
  obtain ⟨q1, q2⟩ := getQ4_some p a
  refine ⟨.agg [.int .i64 (getN p 8 (some a)), .int .i64 (getN p 8 (getO p 8 (some a))), .int .i64 (getN p 8 (getO p 8 (getO p 8 (some a)))), .int .i64 (getN p 8 (getO p 8 (getO p 8 (getO p 8 (some a)))))], bl4, fun bx => ?_, (k1 _).trans ((k2 _).trans ((k3 _).trans (k4 _))), rfl, ?_, ⟨_, _, _, _⟩, rfl, fun y a' e => ?_⟩
  · rw [layout_Decode_3_call]
    simp only [layout_Decode_3_F_eq, layout_Decode_3_C, hg, hg1, hg2, hg3, s1, s2, s3, s4, layout_tiny_call, e1, e2, e3, e4, runOps_sCk, List.drop, List.take, zy, simprocAttr]
  · rw [q1] at r4
    unfold ptQ
    simp only [Option.map_map]
    exact r4
  · unfold ptQ at e
    obtain ⟨z, h2, h3⟩ := Option.map_eq_some_iff.1 e
    cases h3
    rw [q2 z.1 z.2 h2]
end
end Go.Proofs.YtkpechngfcaiiaaGreatDoor.Zt
end
section
namespace Go.Proofs.YtkpechngfcaiiaaGreatDoor.Zt
open Go Go.Zc
set_option maxRecDepth 100000

theorem newr_F (p : List Int) (h0 : p ≠ []) (hl : p.length ≤ small) (bl : List Blk) (bx : List (Nat × List CV)) : bits_NewReader_F bx bl [sl fU p] = some (.op (.blk (bl.length + 1)) 0, ⟨bx, bl ++ [.cells (p.flatMap fU)] ++ [rdB bl.length p.length 0 false]⟩) := by
  have e := clone_F p h0 hl
  rw [bits_NewReader_F_eq]
  simp only [bits_NewReader_C, bytes_Clone_call, e, Heap.push, zy, simprocAttr]
  simp

/-- A slice that may lie in a cell. -/
structure SlOk (v : CV) : Prop where
  cells : v.cells = [v]
  one : v.one = true
  locv : v.locv = false
  und : v.und? = false
theorem SlOk.nils : SlOk .nils := ⟨rfl, rfl, rfl, rfl⟩
theorem slOk_own {α : Type} {f : α → List CV} {sz : Nat} {bl : List Blk} {v : CV} {l : List α} (h : Own f sz bl v l) : SlOk v := ⟨h.cells, h.one, h.locv, h.und⟩
theorem slOk_deep {α : Type} {f : α → List CV} {sz : Nat} {bl : List Blk} {v : CV} {l : List α} (h : Deep f sz bl v l) : SlOk v := ⟨h.cells, h.one, h.locv, h.und⟩

/-- Where the reader is, behind each list; what was read. -/
structure Dec (p : List Int) where
  nodes : Option (List (Nat × Nat) × Nat) := decL p (placeQ p) (some 0)
  secs : Option (List Sec × Nat) := decL p (secQ p) (nodes.map Prod.snd)
  parts : Option (List (List Int) × Nat) := nestQ p (secs.map Prod.snd)
  pts : Option (List Pt × Nat) := decL p (ptQ p) (parts.map Prod.snd)
  routes : Option (List (List Int) × Nat) := nestQ p (pts.map Prod.snd)
  s0 : Option Nat := routes.map Prod.snd
  s1 : Option Nat := getO p 16 s0
  s2 : Option Nat := getO p 16 s1
  s3 : Option Nat := getO p 16 s2
  s4 : Option Nat := getO p 16 s3
  s5 : Option Nat := getO p 16 s4
def dec (p : List Int) : Dec p := {}
/-- A layout's bytes behind the letters. -/
def decB (p : List Int) : Option (Lay × Nat) :=
  let d := dec p
  d.nodes.bind fun n => d.secs.bind fun s => d.parts.bind fun q => d.pts.bind fun t => d.routes.bind fun r => d.s5.map fun a =>
    (⟨n.1, s.1, q.1, t.1, r.1, getN p 16 d.s0, getN p 16 d.s1, getN p 16 d.s2, getN p 16 d.s3, getN p 16 d.s4⟩, a)
theorem dec_all (p : List Int) {a : Nat} (h : (dec p).s5 = some a) : ∃ n s q t r, (dec p).nodes = some n ∧ (dec p).secs = some s ∧ (dec p).parts = some q ∧ (dec p).pts = some t ∧ (dec p).routes = some r ∧
    decB p = some (⟨n.1, s.1, q.1, t.1, r.1, getN p 16 (dec p).s0, getN p 16 (dec p).s1, getN p 16 (dec p).s2, getN p 16 (dec p).s3, getN p 16 (dec p).s4⟩, a) := by
  have e0 : (dec p).s5 = getO p 16 (getO p 16 (getO p 16 (getO p 16 (getO p 16 ((dec p).routes.map Prod.snd))))) := rfl
  have e1 : (dec p).routes = nestQ p ((dec p).pts.map Prod.snd) := rfl
  have e2 : (dec p).pts = decL p (ptQ p) ((dec p).parts.map Prod.snd) := rfl
  have e3 : (dec p).parts = nestQ p ((dec p).secs.map Prod.snd) := rfl
  have e4 : (dec p).secs = decL p (secQ p) ((dec p).nodes.map Prod.snd) := rfl
  cases h5 : (dec p).routes with
  | none => rw [e0, h5] at h; cases h
  | some r =>
    cases h4 : (dec p).pts with
    | none => rw [e1, h4] at h5; cases h5
    | some t =>
      cases h3 : (dec p).parts with
      | none => rw [e2, h3] at h4; cases h4
      | some q =>
        cases h2 : (dec p).secs with
        | none => rw [e3, h2] at h3; cases h3
        | some s =>
          cases h1 : (dec p).nodes with
          | none => rw [e4, h1] at h2; cases h2
          | some n =>
            refine ⟨n, s, q, t, r, rfl, rfl, rfl, rfl, rfl, ?_⟩
            unfold decB
            simp only [h1, h2, h3, h4, h5, h, Option.bind_some, Option.map_some]
theorem dec_none (p : List Int) (h : (dec p).s5 = none) : decB p = none := by
  unfold decB
  simp only [h, Option.map_none]
  cases (dec p).nodes <;> cases (dec p).secs <;> cases (dec p).parts <;> cases (dec p).pts <;> cases (dec p).routes <;> rfl

/-- No layout. -/
abbrev noL : List CV := [.vs [] 0, .vs [] 0, .vs [] 0, .vs [] 0, .vs [] 0, .int .i64 0, .int .i64 0, .int .i64 0, .int .i64 0, .int .i64 0]
set_option maxHeartbeats 8000000 in
theorem decode_F (p body : List Int) (hop : ∀ H, crc_Open_F false H [sl fU p] = some (.tup [sl fU (66 :: 76 :: body), .int .i64 0], H)) (hb : body ≠ []) (hp : byteOk body) (hl : body.length ≤ small) (H : Heap) :
    layout_Decode_F false H [sl fU p] = some (match decB body with
      | none => .tup [.agg noL, .int .i64 4]
      | some x => if x.2 < 8 * body.length then .tup [.agg noL, .int .i64 2] else .tup [.agg (layC x.1), .int .i64 0], H) := by
  let bl0 : List Blk := [.cells (body.flatMap fU), rdB 0 body.length 0 false, .cells [.op (.blk 1) 0]]
  have r0 : Rdo bl0 1 0 body (some 0) := ⟨by omega, ⟨rfl, rfl, by decide⟩⟩
  have x0 : bl0[2]? = some (.cells [.op (.blk 1) 0]) := rfl
  have l0 : bl0.length = 3 := rfl
  have c2 : ∀ (b : List Blk) (m : Nat), m ≤ b.length → 3 ≤ m → 2 < m := fun _ _ _ _ => by omega
  obtain ⟨v1, bl1, e1, k1, r1, o1, n1⟩ := zL_F hp hl (one_place hp hl (kr := 1) (kp := 0) (kx := 2)) rfl (by decide) bl0 (some 0) r0 x0
  have q1 : 3 ≤ bl1.length := k1.len
  have x1 := k1.keep 2 _ (by omega) (by decide) x0
  obtain ⟨v2, bl2, e2, k2, r2, o2, n2⟩ := sL_F hp hl (one_sec hp hl (kr := 1) (kp := 0) (kx := 2)) rfl (by decide) bl1 _ r1 x1
  have q2 : 3 ≤ bl2.length := Nat.le_trans q1 k2.len
  have x2 := k2.keep 2 _ (by omega) (by decide) x1
  obtain ⟨v3, bl3, e3, k3, r3, o3, n3⟩ := nested_F hp hl bl2 _ r2
  have q3 : 3 ≤ bl3.length := Nat.le_trans q2 k3.len
  have x3 := k3.keep 2 _ (by omega) (by decide) x2
  obtain ⟨v4, bl4, e4, k4, r4, o4, n4⟩ := pL_F hp hl (one_pt hp hl (kr := 1) (kp := 0) (kx := 2)) rfl (by decide) bl3 _ r3 x3
  have q4 : 3 ≤ bl4.length := Nat.le_trans q3 k4.len
  have x4 := k4.keep 2 _ (by omega) (by decide) x3
  obtain ⟨v5, bl5, e5, k5, r5, o5, n5⟩ := nested_F hp hl bl4 _ r4
  have q5 : 3 ≤ bl5.length := Nat.le_trans q4 k5.len
  have x5 := k5.keep 2 _ (by omega) (by decide) x4
  obtain ⟨bl6, e6, r6, k6⟩ := get_o r5 hp hl 16 (by decide) (by decide)
  have x6 := (k6 3).keep 2 _ (by decide) (by decide) x5
  obtain ⟨bl7, e7, r7, k7⟩ := ticks_o r6 hp hl
  have x7 := (k7 3).keep 2 _ (by decide) (by decide) x6
  obtain ⟨bl8, e8, r8, k8⟩ := ticks_o r7 hp hl
  have x8 := (k8 3).keep 2 _ (by decide) (by decide) x7
  obtain ⟨bl9, e9, r9, k9⟩ := ticks_o r8 hp hl
  have x9 := (k9 3).keep 2 _ (by decide) (by decide) x8
  obtain ⟨bl10, e10, r10, k10⟩ := ticks_o r9 hp hl
  have x10 := (k10 3).keep 2 _ (by decide) (by decide) x9
  have s6 : sparesC [.op (.blk 2) 0] bl5 bl6 = true := spare1 (by rw [x6, x5])
  have s7 : sparesC [.op (.blk 2) 0] bl6 bl7 = true := spare1 (by rw [x7, x6])
  have s8 : sparesC [.op (.blk 2) 0] bl7 bl8 = true := spare1 (by rw [x8, x7])
  have s9 : sparesC [.op (.blk 2) 0] bl8 bl9 = true := spare1 (by rw [x9, x8])
  have s10 : sparesC [.op (.blk 2) 0] bl9 bl10 = true := spare1 (by rw [x10, x9])
  have g0 := box_get hp hl x0
  have g1 := box_get hp hl x1
  have g2 := box_get hp hl x2
  have g3 := box_get hp hl x3
  have g4 := box_get hp hl x4
  have g5 := box_get hp hl x5
  have g6 := box_get hp hl x6
  have g7 := box_get hp hl x7
  have g8 := box_get hp hl x8
  have g9 := box_get hp hl x9
  have g10 := box_get hp hl x10
  rw [show ((16 : Nat) : Int) = 16 from rfl] at e6
  have hw : ∀ s, IntKind.i64.wrap (getN body 16 s : Int) = getN body 16 s := fun s => by have := getN_lt body 16 s; rw [IntKind.wrap_i64]; omega
  have hnr := fun bx => newr_F body hb hl [] bx
  have hstr : binC .neq .ifc (.str (Zc.strOf [66, 76])) (.str (ByteArray.mk #[66, 76])) = some (.bool false) := by
    rw [show Zc.strOf [66, 76] = ByteArray.mk #[66, 76] from rfl]
    simp [binC, strBin]
  have hst : ∀ (bx : List (Nat × List CV)) (a b : Blk), stE 1 0 (.op (.blk 1) 0) ⟨bx, [a, b, .cells [.nilp]]⟩ (.blk 2) [.nilp] = some ⟨bx, [a, b, .cells [.op (.blk 1) 0]]⟩ := fun _ _ _ => rfl
  have hs1 := slc_hi flatU (66 :: 76 :: body) 2 (by simp) .i64
  have hs2 := slc_lo flatU (66 :: 76 :: body) 2 (by simp) .i64
  have hlt : ¬ (((body.length + 1 + 1 : Nat) : Int) < 2) := by omega
  rw [show (66 :: 76 :: body).take 2 = [66, 76] from rfl] at hs1
  rw [show (66 :: 76 :: body).drop 2 = body from rfl] at hs2
  rw [show ((2 : Nat) : Int) = 2 from rfl] at hs1 hs2
  have hbs := bstr_sl [66, 76]
  have t1 : SlOk v1 := by
    cases h : decL body (placeQ body) (some 0) with
    | none => rw [n1 h]; exact .nils
    | some x => exact slOk_own (o1 x.1 x.2 h).1
  have t2 : SlOk v2 := by
    cases h : decL body (secQ body) ((decL body (placeQ body) (some 0)).map Prod.snd) with
    | none => rw [n2 h]; exact .nils
    | some x => exact slOk_own (o2 x.1 x.2 h).1
  have t3 : SlOk v3 := by
    cases h : (dec body).parts with
    | none => rw [n3 h]; exact .nils
    | some x => exact slOk_deep (o3 x.1 x.2 h).1
  have t4 : SlOk v4 := by
    cases h : (dec body).pts with
    | none => rw [n4 h]; exact .nils
    | some x => exact slOk_own (o4 x.1 x.2 h).1
  have t5 : SlOk v5 := by
    cases h : (dec body).routes with
    | none => rw [n5 h]; exact .nils
    | some x => exact slOk_deep (o5 x.1 x.2 h).1
  replace r5 : Rdo bl5 1 0 body (dec body).s0 := r5
  replace r10 : Rdo bl10 1 0 body (dec body).s5 := r10
  have k2' : Kp bl1.length 1 bl1 bl10 := k2.trans ((k3.le k2.len).trans ((k4.le (Nat.le_trans k2.len k3.len)).trans ((k5.le (Nat.le_trans k2.len (Nat.le_trans k3.len k4.len))).trans ((k6 _).trans ((k7 _).trans ((k8 _).trans ((k9 _).trans (k10 _))))))))
  have k3' : Kp bl2.length 1 bl2 bl10 := k3.trans ((k4.le k3.len).trans ((k5.le (Nat.le_trans k3.len k4.len)).trans ((k6 _).trans ((k7 _).trans ((k8 _).trans ((k9 _).trans (k10 _)))))))
  have k4' : Kp bl3.length 1 bl3 bl10 := k4.trans ((k5.le k4.len).trans ((k6 _).trans ((k7 _).trans ((k8 _).trans ((k9 _).trans (k10 _))))))
  have k5' : Kp bl4.length 1 bl4 bl10 := k5.trans ((k6 _).trans ((k7 _).trans ((k8 _).trans ((k9 _).trans (k10 _)))))
  have k6' : Kp bl5.length 1 bl5 bl10 := (k6 _).trans ((k7 _).trans ((k8 _).trans ((k9 _).trans (k10 _))))
  have hok := ok_o r10
  have hs0 : (Option.map Prod.snd (nestQ body (Option.map Prod.snd (decL body (ptQ body) (Option.map Prod.snd (nestQ body (Option.map Prod.snd (decL body (secQ body) (Option.map Prod.snd (decL body (placeQ body) (some 0)))))))))))
     = (dec body).s0 := rfl
  rw [layout_Decode_F_eq]
  cases h5 : (dec body).s5 with
  | none =>
    rw [h5] at hok
    rw [dec_none body h5]
    simp only [layout_Decode_C, crc_Open_call, hop, hlt, hs1, hbs, hstr, hs2, bits_NewReader_call, hnr, List.nil_append, List.cons_append, List.length_nil, Nat.zero_add, hst, bl0, e1, e2, e3, e4, e5, e6, e7, e8, e9, e10, g0, g1, g2, g3, g4, g5, g6, g7, g8, g9, g10, s6, s7, s8, s9, s10, t1.cells, t1.one, t1.locv, t2.cells, t2.one, t2.locv, t3.cells, t3.one, t3.locv, t4.cells, t4.one, t4.locv, t5.cells, t5.one, t5.locv, runOps_sCk, List.drop, List.take, hw, layout_list_complex128_call, layout_list_Section_call, layout_nested_call, layout_list_Point_call, bits_Reader_Get_call, layout_ticks_call, bits_Reader_OK_call, hok, Option.isSome_none, Option.isSome_some, hs0,  zy, simprocAttr]
  | some a =>
    rw [h5] at hok r10
    obtain ⟨n, s, q, t, r, d1, d2, d3, d4, d5, d6⟩ := dec_all body h5
    rw [d6]
    have hlf := left_F r10.2 hl r10.1
    have w1 := own_kp (o1 n.1 n.2 d1).1 k2' (fun e => by have := (o1 n.1 n.2 d1).2 _ e; omega)
    have w2 := own_kp (o2 s.1 s.2 d2).1 k3' (fun e => by have := (o2 s.1 s.2 d2).2 _ e; omega)
    have w3 := (deep_kp (o3 q.1 q.2 d3).1 k4' (b0 := 3) (by decide) (fun k hk => Nat.le_trans q2 ((o3 q.1 q.2 d3).2 k hk))).1
    have w4 := own_kp (o4 t.1 t.2 d4).1 k5' (fun e => by have := (o4 t.1 t.2 d4).2 _ e; omega)
    have w5 := (deep_kp (o5 r.1 r.2 d5).1 k6' (b0 := 3) (by decide) (fun k hk => Nat.le_trans q4 ((o5 r.1 r.2 d5).2 k hk))).1
    have z1 : ∀ bx, snapV ⟨bx, bl10⟩ false false (snapN ⟨bx, bl10⟩ false false 7) v1 = some (sl fZ n.1) := fun bx => w1.snapV flatZ bx false _ fun x c hc => by
      simp only [fZ, List.mem_singleton] at hc; subst hc; rfl
    have z2 : ∀ bx, snapV ⟨bx, bl10⟩ false false (snapN ⟨bx, bl10⟩ false false 7) v2 = some (sl fS s.1) := fun bx => w2.snapV flatS bx false _ fun x c hc => by
      simp only [fS, List.mem_cons, List.not_mem_nil, or_false] at hc; rcases hc with rfl | rfl | rfl <;> rfl
    have z3 : ∀ bx, snapV ⟨bx, bl10⟩ false false (snapN ⟨bx, bl10⟩ false false 7) v3 = some (sl fL q.1) := fun bx => Deep.snapV (f := fL) (sz := 1) (fun _ => rfl) w3 bx false
    have z4 : ∀ bx, snapV ⟨bx, bl10⟩ false false (snapN ⟨bx, bl10⟩ false false 7) v4 = some (sl fP t.1) := fun bx => w4.snapV flatP bx false _ fun x c hc => by
      simp only [fP, List.mem_cons, List.not_mem_nil, or_false] at hc; rcases hc with rfl | rfl | rfl | rfl <;> rfl
    have z5 : ∀ bx, snapV ⟨bx, bl10⟩ false false (snapN ⟨bx, bl10⟩ false false 7) v5 = some (sl fL r.1) := fun bx => Deep.snapV (f := fL) (sz := 1) (fun _ => rfl) w5 bx false
    by_cases hlt2 : a < 8 * body.length
    · have hgt : binC .gtr .ifc (.int .i64 (8 * body.length - a : Nat)) (.int .i64 0) = some (.bool true) := by
        show some (CV.bool (decide (((8 * body.length - a : Nat) : Int) > 0))) = _
        rw [decide_eq_true (by omega)]
      simp only [hlt2, if_true]
      simp only [layout_Decode_C, crc_Open_call, hop, hlt, hs1, hbs, hstr, hs2, bits_NewReader_call, hnr, List.nil_append, List.cons_append, List.length_nil, Nat.zero_add, hst, bl0, e1, e2, e3, e4, e5, e6, e7, e8, e9, e10, g0, g1, g2, g3, g4, g5, g6, g7, g8, g9, g10, s6, s7, s8, s9, s10, t1.cells, t1.one, t1.locv, t2.cells, t2.one, t2.locv, t3.cells, t3.one, t3.locv, t4.cells, t4.one, t4.locv, t5.cells, t5.one, t5.locv, runOps_sCk, List.drop, List.take, hw, layout_list_complex128_call, layout_list_Section_call, layout_nested_call, layout_list_Point_call, bits_Reader_Get_call, layout_ticks_call, bits_Reader_OK_call, hok, Option.isSome_none, Option.isSome_some, hs0, bits_Reader_Left_call, hlf, hgt, Bool.false_eq_true, if_false, zy, simprocAttr]
    · have hgt : binC .gtr .ifc (.int .i64 (8 * body.length - a : Nat)) (.int .i64 0) = some (.bool false) := by
        show some (CV.bool (decide (((8 * body.length - a : Nat) : Int) > 0))) = _
        rw [decide_eq_false (by omega)]
      simp only [hlt2, if_false]
      simp only [layout_Decode_C, crc_Open_call, hop, hlt, hs1, hbs, hstr, hs2, bits_NewReader_call, hnr, List.nil_append, List.cons_append, List.length_nil, Nat.zero_add, hst, bl0, e1, e2, e3, e4, e5, e6, e7, e8, e9, e10, g0, g1, g2, g3, g4, g5, g6, g7, g8, g9, g10, s6, s7, s8, s9, s10, t1.cells, t1.one, t1.locv, t2.cells, t2.one, t2.locv, t3.cells, t3.one, t3.locv, t4.cells, t4.one, t4.locv, t5.cells, t5.one, t5.locv, runOps_sCk, List.drop, List.take, hw, layout_list_complex128_call, layout_list_Section_call, layout_nested_call, layout_list_Point_call, bits_Reader_Get_call, layout_ticks_call, bits_Reader_OK_call, hok, Option.isSome_none, Option.isSome_some, hs0, z1, z2, z3, z4, z5, bits_Reader_Left_call, hlf, hgt, Bool.false_eq_true, if_false, zy, simprocAttr]
      rfl

end Go.Proofs.YtkpechngfcaiiaaGreatDoor.Zt
end
