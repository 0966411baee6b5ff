/- Floating-point numbers that stand for whole numbers: exact. No condition. -/
import Derived.Test.YtkpechngfcaiiaaGreatDoorZcMath
import Derived.Test.YtkpechngfcaiiaaGreatDoorZcLay
set_option linter.all false
namespace Go.Zc
open Go.Proofs Go.RowKit Ieee
set_option maxRecDepth 100000

theorem log2_mul (v k : Nat) (hv : v ≠ 0) : (v * 2 ^ k).log2 = v.log2 + k := by
  have h1 := Nat.log2_self_le hv
  have h2 := Nat.lt_log2_self (n := v)
  have hp : 0 < 2 ^ k := Nat.two_pow_pos k
  refine (Nat.log2_eq_iff (Nat.mul_ne_zero hv (by omega))).2 ⟨?_, ?_⟩
  · rw [Nat.pow_add]
    exact Nat.mul_le_mul_right _ h1
  · rw [show v.log2 + k + 1 = v.log2 + 1 + k by omega, Nat.pow_add]
    exact Nat.mul_lt_mul_of_pos_right h2 hp

/-- What a number of up to 53 digits is written as. -/
theorem nearest_int (neg : Bool) (v k : Nat) (h0 : 0 < v) (h : v < 2 ^ 53) :
    double.nearest neg (v * 2 ^ k) (-(k : Int)) = double.word neg ((v.log2 + 1022) * 2 ^ 52 + v * 2 ^ (52 - v.log2)) ∧ 2 ^ 52 ≤ v * 2 ^ (52 - v.log2) ∧ v * 2 ^ (52 - v.log2) < 2 ^ 53 ∧ v.log2 ≤ 52 := by
  have hv : v ≠ 0 := by omega
  have hl : v.log2 ≤ 52 := by
    have := (Nat.log2_lt hv).2 h
    omega
  have h1 := Nat.log2_self_le hv
  have h2 := Nat.lt_log2_self (n := v)
  have e1 : 2 ^ v.log2 * 2 ^ (52 - v.log2) = 2 ^ 52 := by rw [← Nat.pow_add]; congr 1; omega
  have e2 : 2 ^ (v.log2 + 1) * 2 ^ (52 - v.log2) = 2 ^ 53 := by rw [← Nat.pow_add]; congr 1; omega
  have hp : 0 < 2 ^ (52 - v.log2) := Nat.two_pow_pos _
  have k1 : 2 ^ 52 ≤ v * 2 ^ (52 - v.log2) := by rw [← e1]; exact Nat.mul_le_mul_right _ h1
  have k2 : v * 2 ^ (52 - v.log2) < 2 ^ 53 := by rw [← e2]; exact Nat.mul_lt_mul_of_pos_right h2 hp
  refine ⟨?_, k1, k2, hl⟩
  have hm : v * 2 ^ k ≠ 0 := Nat.mul_ne_zero hv (by have := Nat.two_pow_pos k; omega)
  have hlog := log2_mul v k hv
  have hlp : double.leastPlace = -1074 := by decide
  have hfb : double.fractionBits = 52 := rfl
  have hbin : double.binade = 2 ^ 52 := rfl
  have hir : double.infRung = 2047 * 2 ^ 52 := by decide
  unfold Format.nearest
  rw [if_neg hm, hlog, hlp, hfb, hbin, hir]
  have hlast : max (-(k : Int) + ((v.log2 + k : Nat) : Int) - ((52 : Nat) : Int)) (-1074) = (v.log2 : Int) - 52 := by omega
  simp only [hlast]
  have hr : ((v.log2 : Int) - 52 - -1074).toNat = v.log2 + 1022 := by omega
  rw [hr]
  have hcut : Toward.even.cut neg ((v * 2 ^ k) <<< (-(k : Int) - ((v.log2 : Int) - 52)).toNat) ((v.log2 : Int) - 52 - -(k : Int)).toNat = v * 2 ^ (52 - v.log2) := by
    unfold Toward.cut
    by_cases hk : k ≤ 52 - v.log2
    · have d1 : (-(k : Int) - ((v.log2 : Int) - 52)).toNat = 52 - v.log2 - k := by omega
      have d2 : ((v.log2 : Int) - 52 - -(k : Int)).toNat = 0 := by omega
      rw [d1, d2]
      simp only [Nat.zero_min, Nat.shiftLeft_zero, Nat.div_one, Nat.mod_one, Nat.mul_zero, Nat.not_lt_zero, decide_false, Bool.false_or, Nat.shiftLeft_eq, Nat.one_mul, Nat.pow_zero]
      rw [Nat.mul_assoc, ← Nat.pow_add, show k + (52 - v.log2 - k) = 52 - v.log2 by omega]
      simp
    · have d1 : (-(k : Int) - ((v.log2 : Int) - 52)).toNat = 0 := by omega
      have d2 : ((v.log2 : Int) - 52 - -(k : Int)).toNat = k - (52 - v.log2) := by omega
      rw [d1, d2]
      simp only [Nat.shiftLeft_zero, hlog]
      rw [Nat.min_eq_left (by omega), Nat.shiftLeft_eq, Nat.one_mul]
      have e3 : v * 2 ^ k = v * 2 ^ (52 - v.log2) * 2 ^ (k - (52 - v.log2)) := by
        rw [Nat.mul_assoc, ← Nat.pow_add]; congr 2; omega
      have hgp : 0 < 2 ^ (k - (52 - v.log2)) := Nat.two_pow_pos _
      rw [e3, Nat.mul_div_cancel _ hgp, Nat.mul_mod_left]
      simp
  rw [hcut]
  congr 1
  rw [Nat.min_eq_left]
  have : v.log2 + 1022 ≤ 1074 := by omega
  have h4 : (v.log2 + 1022) * 2 ^ 52 ≤ 1074 * 2 ^ 52 := Nat.mul_le_mul_right _ this
  have h5 : (2 : Nat) ^ 53 = 2 * 2 ^ 52 := by decide
  generalize (2 : Nat) ^ 52 = B at *
  omega
theorem read_aux (neg : Bool) (B L K : Nat) (hB0 : 0 < B) (hsw : double.signWeight = 2048 * B) (hbin : double.binade = B) (hir : double.infRung = 2047 * B) (hlp : double.leastPlace = -1074) (hL : L ≤ 1074) (k1 : B ≤ K) (k2 : K < 2 * B) :
    double.read (double.word neg (L * B + K)) = .number neg K ((L : Int) - 1074) := by
  have hLB : L * B ≤ 1074 * B := Nat.mul_le_mul_right _ hL
  have hrung : L * B + K < 2047 * B := by omega
  have hdiv : (L * B + K) / B = L + 1 := by
    rw [Nat.add_comm, Nat.add_mul_div_right _ _ hB0, Nat.div_eq_of_lt_le (k := 1) (by omega) (by omega)]
    omega
  have hmod : (L * B + K) % B = K - B := by
    rw [Nat.add_comm, Nat.add_mul_mod_self_right, Nat.mod_eq_sub_mod k1, Nat.mod_eq_of_lt (by omega)]
  have hlt : L * B + K < 2048 * B := by omega
  have hw : double.word neg (L * B + K) / double.signWeight % 2 = (if neg then 1 else 0) ∧ double.word neg (L * B + K) % double.signWeight = L * B + K := by
    unfold Format.word
    rw [hsw]
    revert hlt
    generalize L * B + K = R
    intro hlt
    have hp : 0 < 2048 * B := by omega
    cases neg with
    | true =>
      simp only [if_true]
      rw [Nat.add_mod_left, Nat.mod_eq_of_lt hlt, Nat.add_div_left _ hp, Nat.div_eq_of_lt hlt]
      exact ⟨rfl, rfl⟩
    | false =>
      simp only [Bool.false_eq_true, if_false]
      rw [Nat.mod_eq_of_lt hlt, Nat.div_eq_of_lt hlt]
      exact ⟨rfl, rfl⟩
  unfold Format.read
  simp only [hw.1, hw.2, hbin, hir, hlp]
  rw [if_neg (by omega), if_pos hrung, hdiv, hmod]
  congr 1
  · cases neg <;> rfl
  · omega
theorem read_int (neg : Bool) (v : Nat) (h0 : 0 < v) (h : v < 2 ^ 53) : double.read (double.word neg ((v.log2 + 1022) * 2 ^ 52 + v * 2 ^ (52 - v.log2))) = .number neg (v * 2 ^ (52 - v.log2)) ((v.log2 : Int) - 52) := by
  obtain ⟨_, k1, k2, hl⟩ := nearest_int neg v 0 h0 h
  have := read_aux neg (2 ^ 52) (v.log2 + 1022) (v * 2 ^ (52 - v.log2)) (Nat.two_pow_pos _) (by decide) rfl (by decide) (by decide) (by omega) k1 (by rw [show 2 * 2 ^ 52 = 2 ^ 53 by decide]; exact k2)
  rw [this]
  congr 1
  omega

def sg (s : Bool) (m : Nat) : Int := if s then -(m : Int) else m
/-- It stands for a whole number. -/
def Rep (x : Nat) (a : Int) : Prop := ∃ s m k, double.read x = .number s m (-(k : Nat) : Int) ∧ sg s m = a * 2 ^ k
theorem sg_natAbs (s : Bool) (m : Nat) : (sg s m).natAbs = m := by cases s <;> simp [sg]
theorem sg_not (s : Bool) (m : Nat) : sg (!s) m = -sg s m := by cases s <;> simp [sg]
theorem sg_xor (s t : Bool) (m n : Nat) : sg (s ^^ t) (m * n) = sg s m * sg t n := by
  cases s <;> cases t <;> simp [sg, Int.neg_mul, Int.mul_neg]
theorem signed_sg (s : Bool) (m u : Nat) : signed s m u = sg s m * 2 ^ u := by
  unfold signed sg
  cases s <;> simp [Nat.shiftLeft_eq, Int.neg_mul]
theorem pow_pos' (k : Nat) : (0 : Int) < 2 ^ k := Int.pow_pos (by decide)
theorem Rep.nearest {s : Bool} {m k : Nat} {a : Int} (h : sg s m = a * 2 ^ k) (ha : a.natAbs < 2 ^ 53) : Rep (double.nearest s m (-(k : Nat) : Int)) a := by
  have hm : m = a.natAbs * 2 ^ k := by
    have := congrArg Int.natAbs h
    rw [sg_natAbs, Int.natAbs_mul, Int.natAbs_pow] at this
    simpa using this
  by_cases h0 : a = 0
  · subst h0
    have hm0 : m = 0 := by simpa using hm
    subst hm0
    refine ⟨s, 0, 1074, ?_, by rw [Int.zero_mul]; cases s <;> rfl⟩
    unfold Format.nearest
    rw [if_pos rfl]
    cases s <;> decide
  · have hv : 0 < a.natAbs := by omega
    obtain ⟨e1, _, _, hl⟩ := nearest_int s a.natAbs k hv ha
    have e2 := read_int s a.natAbs hv ha
    rw [hm, e1]
    refine ⟨s, a.natAbs * 2 ^ (52 - a.natAbs.log2), 52 - a.natAbs.log2, ?_, ?_⟩
    · rw [e2]; congr 1; omega
    · have hp := pow_pos' k
      have : sg s a.natAbs = a := by
        have h1 : sg s a.natAbs * 2 ^ k = a * 2 ^ k := by
          rw [← h, hm]
          cases s <;> simp [sg, Int.neg_mul]
        exact Int.eq_of_mul_eq_mul_right (by omega) h1
      rw [← this]
      have hx : (sg s a.natAbs).natAbs = a.natAbs := sg_natAbs _ _
      rw [hx]
      cases s <;> simp [sg, Int.neg_mul]
theorem Rep.fl {a : Int} (ha : a.natAbs < 2 ^ 53) : Rep (fl a) a := by
  have : Go.Zc.fl a = double.nearest (decide (a < 0)) a.natAbs (-(0 : Nat) : Int) := rfl
  rw [this]
  refine Rep.nearest ?_ ha
  by_cases h : a < 0
  · simp [sg, h]; omega
  · simp [sg, h]; omega
theorem sg_sign (T : Int) (z : Bool) : sg (if T = 0 then z else decide (T < 0)) T.natAbs = T := by
  by_cases h0 : T = 0
  · subst h0; cases z <;> rfl
  · rw [if_neg h0]
    by_cases h : T < 0
    · simp [sg, h]; omega
    · simp [sg, h]; omega
theorem Rep.sumD {x y : Nat} {a b : Int} (hx : Rep x a) (hy : Rep y b) (h : (a + b).natAbs < 2 ^ 53) : ∃ z, double.add x y = some z ∧ Rep z (a + b) := by
  obtain ⟨s, m, k, h1, h2⟩ := hx
  obtain ⟨t, n, j, h3, h4⟩ := hy
  unfold Format.add
  rw [h1, h3]
  have hb : min (-(k : Nat) : Int) (-(j : Nat) : Int) = (-(max k j : Nat) : Int) := by omega
  have e1 : ((-(k : Nat) : Int) - (-(max k j : Nat) : Int)).toNat = max k j - k := by omega
  have e2 : ((-(j : Nat) : Int) - (-(max k j : Nat) : Int)).toNat = max k j - j := by omega
  have ht : signed s m (max k j - k) + signed t n (max k j - j) = (a + b) * 2 ^ (max k j) := by
    rw [signed_sg, signed_sg, h2, h4, Int.mul_assoc, Int.mul_assoc, ← Int.pow_add, ← Int.pow_add, Int.add_mul]
    congr 3 <;> congr 1 <;> omega
  refine ⟨_, by unfold Datum.sum; simp only [hb, e1, e2, ht]; rfl, ?_⟩
  refine Rep.nearest ?_ h
  generalize (a + b) * 2 ^ (max k j) = T
  exact sg_sign T _
theorem Rep.subD {x y : Nat} {a b : Int} (hx : Rep x a) (hy : Rep y b) (h : (a - b).natAbs < 2 ^ 53) : ∃ z, double.sub x y = some z ∧ Rep z (a - b) := by
  obtain ⟨s, m, k, h1, h2⟩ := hx
  obtain ⟨t, n, j, h3, h4⟩ := hy
  unfold Format.sub
  rw [h1, h3]
  simp only [Datum.opposite]
  have hb : min (-(k : Nat) : Int) (-(j : Nat) : Int) = (-(max k j : Nat) : Int) := by omega
  have e1 : ((-(k : Nat) : Int) - (-(max k j : Nat) : Int)).toNat = max k j - k := by omega
  have e2 : ((-(j : Nat) : Int) - (-(max k j : Nat) : Int)).toNat = max k j - j := by omega
  have ht : signed s m (max k j - k) + signed (!t) n (max k j - j) = (a - b) * 2 ^ (max k j) := by
    rw [signed_sg, signed_sg, sg_not, h2, h4, Int.neg_mul, Int.mul_assoc, Int.mul_assoc, ← Int.pow_add, ← Int.pow_add, Int.sub_mul, Int.sub_eq_add_neg]
    congr 3 <;> congr 1 <;> omega
  refine ⟨_, by unfold Datum.sum; simp only [hb, e1, e2, ht]; rfl, ?_⟩
  refine Rep.nearest ?_ h
  generalize (a - b) * 2 ^ (max k j) = T
  exact sg_sign T _
theorem Rep.mulD {x y : Nat} {a b : Int} (hx : Rep x a) (hy : Rep y b) (h : (a * b).natAbs < 2 ^ 53) : ∃ z, double.mul x y = some z ∧ Rep z (a * b) := by
  obtain ⟨s, m, k, h1, h2⟩ := hx
  obtain ⟨t, n, j, h3, h4⟩ := hy
  unfold Format.mul
  rw [h1, h3]
  have hb : (-(k : Nat) : Int) + (-(j : Nat) : Int) = (-(k + j : Nat) : Int) := by omega
  refine ⟨_, by simp only [Datum.product, hb]; rfl, ?_⟩
  refine Rep.nearest ?_ h
  rw [sg_xor, h2, h4, Int.pow_add, Int.mul_assoc, Int.mul_assoc, ← Int.mul_assoc (2 ^ k), Int.mul_comm (2 ^ k) b, Int.mul_assoc]
theorem cmpI (a b : Int) : compare a b = if a < b then .lt else if a = b then .eq else .gt := (rfl)
theorem cmp_scale (a b K : Int) (hK : 0 < K) : compare (a * K) (b * K) = compare a b := by
  rw [cmpI, cmpI]
  rcases Int.lt_trichotomy a b with h | h | h
  · have : a * K < b * K := Int.mul_lt_mul_of_pos_right h hK
    rw [if_pos this, if_pos h]
  · subst h
    rw [if_neg (Int.lt_irrefl (a * K)), if_neg (Int.lt_irrefl a), if_pos rfl, if_pos rfl]
  · have : b * K < a * K := Int.mul_lt_mul_of_pos_right h hK
    rw [if_neg (by omega : ¬ a * K < b * K), if_neg (by omega : ¬ a < b), if_neg (by omega : ¬ a * K = b * K), if_neg (by omega : ¬ a = b)]
theorem Rep.order {x y : Nat} {a b : Int} (hx : Rep x a) (hy : Rep y b) : double.order x y = some (compare a b) := by
  obtain ⟨s, m, k, h1, h2⟩ := hx
  obtain ⟨t, n, j, h3, h4⟩ := hy
  unfold Format.order
  rw [h1, h3]
  have hb : min (-(k : Nat) : Int) (-(j : Nat) : Int) = (-(max k j : Nat) : Int) := by omega
  have e1 : ((-(k : Nat) : Int) - (-(max k j : Nat) : Int)).toNat = max k j - k := by omega
  have e2 : ((-(j : Nat) : Int) - (-(max k j : Nat) : Int)).toNat = max k j - j := by omega
  unfold Datum.order
  simp only [hb, e1, e2, signed_sg, h2, h4]
  rw [Int.mul_assoc, Int.mul_assoc, ← Int.pow_add, ← Int.pow_add, show k + (max k j - k) = max k j by omega, show j + (max k j - j) = max k j by omega, cmp_scale _ _ _ (pow_pos' _)]

/-! ### As the interpreter has them -/
theorem Rep.add {x y : Nat} {a b : Int} (hx : Rep x a) (hy : Rep y b) (h : (a + b).natAbs < 2 ^ 53) : ∃ z, fArith .add .f64 x y = some z ∧ Rep z (a + b) := hx.sumD hy h
theorem Rep.sub {x y : Nat} {a b : Int} (hx : Rep x a) (hy : Rep y b) (h : (a - b).natAbs < 2 ^ 53) : ∃ z, fArith .sub .f64 x y = some z ∧ Rep z (a - b) := hx.subD hy h
theorem Rep.mul {x y : Nat} {a b : Int} (hx : Rep x a) (hy : Rep y b) (h : (a * b).natAbs < 2 ^ 53) : ∃ z, fArith .mul .f64 x y = some z ∧ Rep z (a * b) := hx.mulD hy h
theorem Rep.eql {x y : Nat} {a b : Int} (hx : Rep x a) (hy : Rep y b) : (FloatKind.f64.format.order x y == some .eq) = decide (a = b) := by
  have h : FloatKind.f64.format.order x y = some (compare a b) := hx.order hy
  rw [h, cmpI]
  rcases Int.lt_trichotomy a b with h | h | h
  · rw [if_pos h, decide_eq_false (by omega)]; rfl
  · rw [if_neg (by omega), if_pos h, decide_eq_true h]; rfl
  · rw [if_neg (by omega), if_neg (by omega), decide_eq_false (by omega)]; rfl
theorem Rep.cmp {x y : Nat} {a b : Int} (hx : Rep x a) (hy : Rep y b) : fCmp .eql .f64 x y = some (decide (a = b)) ∧ fCmp .leq .f64 x y = some (decide (a ≤ b)) ∧ fCmp .geq .f64 x y = some (decide (b ≤ a)) ∧ fCmp .gtr .f64 x y = some (decide (b < a)) ∧ fCmp .lss .f64 x y = some (decide (a < b)) := by
  have h : FloatKind.f64.format.order x y = some (compare a b) := hx.order hy
  unfold fCmp
  simp only [h, cmpI]
  rcases Int.lt_trichotomy a b with h | h | h
  · rw [if_pos h, decide_eq_false (by omega), decide_eq_true (by omega), decide_eq_false (by omega), decide_eq_false (by omega), decide_eq_true h]
    exact ⟨rfl, rfl, rfl, rfl, rfl⟩
  · rw [if_neg (by omega), if_pos h, decide_eq_true h, decide_eq_true (by omega), decide_eq_true (by omega), decide_eq_false (by omega), decide_eq_false (by omega)]
    exact ⟨rfl, rfl, rfl, rfl, rfl⟩
  · rw [if_neg (by omega), if_neg (by omega), decide_eq_false (by omega), decide_eq_false (by omega), decide_eq_true (by omega), decide_eq_true h, decide_eq_false (by omega)]
    exact ⟨rfl, rfl, rfl, rfl, rfl⟩
theorem Rep.cut {s : Bool} {m k : Nat} {a : Int} (h : sg s m = a * 2 ^ k) : Toward.zero.cut s (m <<< (-(k : Nat) : Int).toNat) (-(-(k : Nat) : Int)).toNat = a.natAbs ∧ sg s a.natAbs = a := by
  have hm : m = a.natAbs * 2 ^ k := by
    have := congrArg Int.natAbs h
    rw [sg_natAbs, Int.natAbs_mul, Int.natAbs_pow] at this
    simpa using this
  have e1 : (-(k : Nat) : Int).toNat = 0 := by omega
  have e2 : (-(-(k : Nat) : Int)).toNat = k := by omega
  have hsg : sg s a.natAbs = a := by
    have hp := pow_pos' k
    have h1 : sg s a.natAbs * 2 ^ k = a * 2 ^ k := by
      rw [← h, hm]
      cases s <;> simp [sg, Int.neg_mul]
    exact Int.eq_of_mul_eq_mul_right (by omega) h1
  refine ⟨?_, hsg⟩
  rw [e1, e2, Nat.shiftLeft_zero]
  unfold Toward.cut
  simp only [Bool.toNat_false, Nat.add_zero]
  by_cases h0 : a.natAbs = 0
  · rw [hm, h0, Nat.zero_mul, Nat.zero_div]
  · have hlog : m.log2 = a.natAbs.log2 + k := by rw [hm]; exact log2_mul _ _ h0
    rw [Nat.min_eq_left (by omega), Nat.shiftLeft_eq, Nat.one_mul, hm, Nat.mul_div_cancel _ (Nat.two_pow_pos k)]
theorem Rep.toInt {x : Nat} {a : Int} (hx : Rep x a) (h1 : -9223372036854775808 ≤ a) (h2 : a ≤ 9223372036854775807) : toIntC .i64 (.float .f64 x) = some (.int .i64 a) := by
  obtain ⟨s, m, k, e1, e2⟩ := hx
  obtain ⟨c1, c2⟩ := Rep.cut e2
  have hd : FloatKind.f64.decode x = .number s m (-(k : Nat) : Int) := e1
  have ht : (FloatKind.f64.decode x).toInt .zero = some a := by
    rw [hd]
    unfold Datum.toInt Datum.integral
    simp only [c1]
    rw [signed_sg, c2]
    simp
  unfold toIntC
  simp only [ht]
  rw [if_pos ⟨h1, h2⟩]
theorem Rep.trunc {x : Nat} {a : Int} (hx : Rep x a) (ha : a.natAbs < 2 ^ 53) : ∃ t, truncN x = some t ∧ Rep t a := by
  obtain ⟨s, m, k, e1, e2⟩ := hx
  obtain ⟨c1, c2⟩ := Rep.cut e2
  have hd : FloatKind.f64.decode x = .number s m (-(k : Nat) : Int) := e1
  refine ⟨_, by unfold truncN; simp only [hd]; rfl, ?_⟩
  unfold Datum.integral
  simp only [c1]
  show Rep (double.nearest s a.natAbs 0) a
  exact Rep.nearest (k := 0) (by rw [c2]; simp) ha
theorem Rep.ofInt {a : Int} (ha : a.natAbs < 2 ^ 53) (k : IntKind) : ∃ z, toFloatC .f64 (.int k a) = some (.float .f64 z) ∧ Rep z a := ⟨_, rfl, Rep.fl ha⟩
theorem read_sign {w w' : Nat} {s : Bool} {m : Nat} {p : Int} (h : w % 2 ^ 63 = w' % 2 ^ 63) (e : double.read w = .number s m p) : double.read w' = .number (w' / 2 ^ 63 % 2 == 1) m p ∧ s = (w / 2 ^ 63 % 2 == 1) := by
  have hsw : double.signWeight = 2 ^ 63 := rfl
  unfold Format.read at e ⊢
  simp only [hsw, h] at e ⊢
  generalize (w / 2 ^ 63 % 2 == 1) = b at *
  generalize (w' / 2 ^ 63 % 2 == 1) = b' at *
  generalize w' % 2 ^ 63 = r at *
  split at e
  · rename_i h1
    rw [if_pos h1]
    cases e
    exact ⟨rfl, rfl⟩
  · rename_i h1
    rw [if_neg h1]
    split at e
    · rename_i h2
      rw [if_pos h2]
      cases e
      exact ⟨rfl, rfl⟩
    · split at e <;> cases e
theorem Rep.neg {x : Nat} {a : Int} (hx : Rep x a) : Rep (Op.negFloat .f64 x) (-a) := by
  obtain ⟨s, m, k, e1, e2⟩ := hx
  have hn : Op.negFloat .f64 x = x ^^^ 2 ^ 63 := rfl
  have md : (x ^^^ 2 ^ 63) % 2 ^ 63 = x % 2 ^ 63 := by
    rw [Nat.xor_mod_two_pow, Nat.mod_self, Nat.xor_zero]
  obtain ⟨r1, r2⟩ := read_sign md.symm e1
  have hb : ((x ^^^ 2 ^ 63) / 2 ^ 63 % 2 == 1) = !s := by
    rw [r2, Nat.xor_div_two_pow, Nat.div_self (Nat.two_pow_pos 63)]
    have := Nat.xor_mod_two_pow (a := x / 2 ^ 63) (b := 1) (n := 1)
    rw [Nat.pow_one] at this
    rw [this]
    rcases Nat.mod_two_eq_zero_or_one (x / 2 ^ 63) with h | h <;> rw [h] <;> decide
  rw [hb] at r1
  exact ⟨!s, m, k, r1, by rw [sg_not, e2, Int.neg_mul]⟩
theorem Rep.abs {x : Nat} {a : Int} (hx : Rep x a) : ∃ y, absN x = some y ∧ Rep y a.natAbs := by
  obtain ⟨s, m, k, e1, e2⟩ := hx
  refine ⟨_, rfl, ?_⟩
  have hy : (bits BinOp.andNot IntKind.u64 x 9223372036854775808).toNat = x % 2 ^ 63 := by
    have hx : (BitVec.ofInt 64 (x : Int)).toNat = x % 2 ^ 64 := by
      rw [BitVec.toNat_ofInt]
      have : ((x : Int) % ((2 ^ 64 : Nat) : Int)).toNat = x % 2 ^ 64 := by omega
      exact this
    have h2 : (~~~BitVec.ofInt 64 9223372036854775808).toNat = 2 ^ 63 - 1 := by decide
    have h3 : (BitVec.ofInt 64 (x : Int) &&& ~~~BitVec.ofInt 64 9223372036854775808).toNat = x % 2 ^ 63 := by
      rw [BitVec.toNat_and, hx, h2, Nat.and_two_pow_sub_one_eq_mod]
      omega
    show (IntKind.u64.wrap (((BitVec.ofInt 64 (x : Int) &&& ~~~BitVec.ofInt 64 9223372036854775808).toNat : Nat) : Int)).toNat = x % 2 ^ 63
    rw [h3]
    have hlt : x % 2 ^ 63 < 2 ^ 63 := Nat.mod_lt _ (Nat.two_pow_pos 63)
    generalize x % 2 ^ 63 = r at *
    have : IntKind.u64.wrap (r : Int) = r := by
      unfold IntKind.wrap
      simp [IntKind.bits, IntKind.signed]
      omega
    rw [this]
    omega
  rw [hy]
  have md : (x % 2 ^ 63) % 2 ^ 63 = x % 2 ^ 63 := Nat.mod_mod _ _
  obtain ⟨r1, _⟩ := read_sign md.symm e1
  have h0 : x % 2 ^ 63 / 2 ^ 63 = 0 := Nat.div_eq_of_lt (Nat.mod_lt _ (Nat.two_pow_pos 63))
  rw [h0] at r1
  refine ⟨false, m, k, r1, ?_⟩
  have hm : m = a.natAbs * 2 ^ k := by
    have := congrArg Int.natAbs e2
    rw [sg_natAbs, Int.natAbs_mul, Int.natAbs_pow] at this
    simpa using this
  simp [sg, hm]

theorem Rep.leq {x y : Nat} {a b : Int} (hx : Rep x a) (hy : Rep y b) : binC .leq .ifc (.float .f64 x) (.float .f64 y) = some (.bool (decide (a ≤ b))) := by
  show (fCmp .leq .f64 x y).map CV.bool = _
  rw [(hx.cmp hy).2.1]; rfl
theorem Rep.geq {x y : Nat} {a b : Int} (hx : Rep x a) (hy : Rep y b) : binC .geq .ifc (.float .f64 x) (.float .f64 y) = some (.bool (decide (b ≤ a))) := by
  show (fCmp .geq .f64 x y).map CV.bool = _
  rw [(hx.cmp hy).2.2.1]; rfl
theorem Rep.gtr {x y : Nat} {a b : Int} (hx : Rep x a) (hy : Rep y b) : binC .gtr .ifc (.float .f64 x) (.float .f64 y) = some (.bool (decide (b < a))) := by
  show (fCmp .gtr .f64 x y).map CV.bool = _
  rw [(hx.cmp hy).2.2.2.1]; rfl
theorem Rep.feq {x y : Nat} {a b : Int} (hx : Rep x a) (hy : Rep y b) : binC .eql .ifc (.float .f64 x) (.float .f64 y) = some (.bool (decide (a = b))) := by
  show (fCmp .eql .f64 x y).map CV.bool = _
  rw [(hx.cmp hy).1]; rfl
theorem Rep.addF {x y : Nat} {a b : Int} (hx : Rep x a) (hy : Rep y b) (h : (a + b).natAbs < 2 ^ 53) : ∃ z, binC .add .ifc (.float .f64 x) (.float .f64 y) = some (.float .f64 z) ∧ Rep z (a + b) := by
  obtain ⟨z, h1, h2⟩ := hx.add hy h
  refine ⟨z, ?_, h2⟩
  show (fArith .add .f64 x y).map (CV.float .f64) = _
  rw [h1]; rfl
/-- A place of whole numbers. -/
def RepZ (z : Nat × Nat) (p : Int × Int) : Prop := Rep z.1 p.1 ∧ Rep z.2 p.2
theorem RepZ.eq {z w : Nat × Nat} {p q : Int × Int} (hz : RepZ z p) (hw : RepZ w q) : binC .eql .ifc (.cplx .f64 z.1 z.2) (.cplx .f64 w.1 w.2) = some (.bool (decide (p = q))) := by
  show (some (CV.bool ((FloatKind.f64.format.order z.1 w.1 == some .eq) && (FloatKind.f64.format.order z.2 w.2 == some .eq)))) = _
  rw [hz.1.eql hw.1, hz.2.eql hw.2]
  congr 2
  obtain ⟨a, b⟩ := p
  obtain ⟨c, d⟩ := q
  by_cases h1 : a = c <;> by_cases h2 : b = d <;> simp [h1, h2]
theorem RepZ.sub {z w : Nat × Nat} {p q : Int × Int} (hz : RepZ z p) (hw : RepZ w q) (h1 : (p.1 - q.1).natAbs < 2 ^ 53) (h2 : (p.2 - q.2).natAbs < 2 ^ 53) : ∃ v : Nat × Nat, binC .sub .ifc (.cplx .f64 z.1 z.2) (.cplx .f64 w.1 w.2) = some (.cplx .f64 v.1 v.2) ∧ RepZ v (p.1 - q.1, p.2 - q.2) := by
  obtain ⟨x, a1, a2⟩ := hz.1.sub hw.1 h1
  obtain ⟨y, b1, b2⟩ := hz.2.sub hw.2 h2
  refine ⟨(x, y), ?_, a2, b2⟩
  show ((fArith .sub .f64 z.1 w.1).bind fun x => (fArith .sub .f64 z.2 w.2).map fun y => CV.cplx .f64 x y) = _
  rw [a1, b1]; rfl
theorem RepZ.mul {z w : Nat × Nat} {p q : Int × Int} (hz : RepZ z p) (hw : RepZ w q) (h1 : (p.1 * q.1).natAbs < 2 ^ 52) (h2 : (p.2 * q.2).natAbs < 2 ^ 52) (h3 : (p.1 * q.2).natAbs < 2 ^ 52) (h4 : (p.2 * q.1).natAbs < 2 ^ 52) :
    ∃ v : Nat × Nat, binC .mul .ifc (.cplx .f64 z.1 z.2) (.cplx .f64 w.1 w.2) = some (.cplx .f64 v.1 v.2) ∧ RepZ v (p.1 * q.1 - p.2 * q.2, p.1 * q.2 + p.2 * q.1) := by
  obtain ⟨x1, a1, a2⟩ := hz.1.mul hw.1 (by omega)
  obtain ⟨x2, b1, b2⟩ := hz.2.mul hw.2 (by omega)
  obtain ⟨x3, c1, c2⟩ := a2.sub b2 (by omega)
  obtain ⟨y1, d1, d2⟩ := hz.1.mul hw.2 (by omega)
  obtain ⟨y2, e1, e2⟩ := hz.2.mul hw.1 (by omega)
  obtain ⟨y3, f1, f2⟩ := d2.add e2 (by omega)
  refine ⟨(x3, y3), ?_, c2, f2⟩
  show ((fArith .mul .f64 z.1 w.1).bind fun ac => (fArith .mul .f64 z.2 w.2).bind fun bd => (fArith .sub .f64 ac bd).bind fun x => (fArith .mul .f64 z.1 w.2).bind fun ad => (fArith .mul .f64 z.2 w.1).bind fun bc => (fArith .add .f64 ad bc).map fun y => CV.cplx .f64 x y) = _
  rw [a1, b1, d1, e1]
  simp only [Option.bind_some, c1, f1, Option.map_some]
theorem Rep.zero : Rep 0 0 := ⟨false, 0, 1074, by decide, by rw [Int.zero_mul]; rfl⟩
theorem Rep.million : Rep 4696837146684686336 1000000 := by
  have h : Go.Zc.fl 1000000 = 4696837146684686336 := by decide
  rw [← h]; exact Rep.fl (by decide)
theorem Rep.milliom : Rep 13920209183539462144 (-1000000) := by
  have h : Go.Zc.fl (-1000000) = 13920209183539462144 := by decide
  rw [← h]; exact Rep.fl (by decide)
end Go.Zc
