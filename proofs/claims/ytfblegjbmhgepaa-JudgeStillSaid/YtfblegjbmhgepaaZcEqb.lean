/- When two clean values are one, reckoned. No condition. -/
import Derived.Test.YtfblegjbmhgepaaZcVal
set_option linter.all false
namespace Go.Zc

mutual
def CV.eqb : CV → CV → Bool
  | .und, .und => true
  | .bool a, .bool b => decide (a = b)
  | .int k a, .int l b => decide (k = l) && decide (a = b)
  | .float k a, .float l b => decide (k = l) && decide (a = b)
  | .cplx k a b, .cplx l c d => decide (k = l) && (decide (a = c) && decide (b = d))
  | .str a, .str b => decide (a = b)
  | .nilp, .nilp => true
  | .op i a, .op j b => decide (i = j) && decide (a = b)
  | .vp a, .vp b => CV.eqbs a b
  | .nils, .nils => true
  | .os s i o n, .os t j p m => decide (s = t) && (decide (i = j) && (decide (o = p) && decide (n = m)))
  | .vs a n, .vs b m => decide (n = m) && CV.eqbs a b
  | .nilm, .nilm => true
  | .om a, .om b => decide (a = b)
  | .fn f a c, .fn g b d => decide (f = g) && (CV.eqbs a b && CV.eqbs c d)
  | .nilf, .nilf => true
  | .ifc t x, .ifc u y => decide (t = u) && CV.eqb x y
  | .nili, .nili => true
  | .agg a, .agg b => CV.eqbs a b
  | .tup a, .tup b => CV.eqbs a b
  | _, _ => false
def CV.eqbs : List CV → List CV → Bool
  | [], [] => true
  | a :: as, b :: bs => CV.eqb a b && CV.eqbs as bs
  | _, _ => false
end

mutual
theorem CV.eqb_eq : ∀ (a b : CV), CV.eqb a b = true → a = b
  | .und, b, h => by cases b <;> simp_all [CV.eqb]
  | .bool _, b, h => by cases b <;> simp_all [CV.eqb]
  | .int _ _, b, h => by cases b <;> simp_all [CV.eqb]
  | .float _ _, b, h => by cases b <;> simp_all [CV.eqb]
  | .cplx _ _ _, b, h => by cases b <;> simp_all [CV.eqb]
  | .str _, b, h => by cases b <;> simp_all [CV.eqb]
  | .nilp, b, h => by cases b <;> simp_all [CV.eqb]
  | .op _ _, b, h => by cases b <;> simp_all [CV.eqb]
  | .vp a, b, h => by
    cases b with
    | vp b => rw [CV.eqbs_eq a b (by simpa [CV.eqb] using h)]
    | _ => simp [CV.eqb] at h
  | .nils, b, h => by cases b <;> simp_all [CV.eqb]
  | .os _ _ _ _, b, h => by cases b <;> simp_all [CV.eqb]
  | .vs a n, b, h => by
    cases b with
    | vs b m =>
      simp only [CV.eqb, Bool.and_eq_true, decide_eq_true_eq] at h
      rw [h.1, CV.eqbs_eq a b h.2]
    | _ => simp [CV.eqb] at h
  | .nilm, b, h => by cases b <;> simp_all [CV.eqb]
  | .om _, b, h => by cases b <;> simp_all [CV.eqb]
  | .fn f a c, b, h => by
    cases b with
    | fn g b d =>
      simp only [CV.eqb, Bool.and_eq_true, decide_eq_true_eq] at h
      rw [h.1, CV.eqbs_eq a b h.2.1, CV.eqbs_eq c d h.2.2]
    | _ => simp [CV.eqb] at h
  | .nilf, b, h => by cases b <;> simp_all [CV.eqb]
  | .ifc t x, b, h => by
    cases b with
    | ifc u y =>
      simp only [CV.eqb, Bool.and_eq_true, decide_eq_true_eq] at h
      rw [h.1, CV.eqb_eq x y h.2]
    | _ => simp [CV.eqb] at h
  | .nili, b, h => by cases b <;> simp_all [CV.eqb]
  | .agg a, b, h => by
    cases b with
    | agg b => rw [CV.eqbs_eq a b (by simpa [CV.eqb] using h)]
    | _ => simp [CV.eqb] at h
  | .tup a, b, h => by
    cases b with
    | tup b => rw [CV.eqbs_eq a b (by simpa [CV.eqb] using h)]
    | _ => simp [CV.eqb] at h
theorem CV.eqbs_eq : ∀ (a b : List CV), CV.eqbs a b = true → a = b
  | [], b, h => by cases b <;> simp_all [CV.eqbs]
  | a :: as, b, h => by
    cases b with
    | nil => simp [CV.eqbs] at h
    | cons b bs =>
      simp only [CV.eqbs, Bool.and_eq_true] at h
      rw [CV.eqb_eq a b h.1, CV.eqbs_eq as bs h.2]
end

mutual
theorem CV.eqb_refl : ∀ (a : CV), CV.eqb a a = true
  | .und | .bool _ | .int _ _ | .float _ _ | .cplx _ _ _ | .str _ | .nilp | .op _ _ | .nils | .os _ _ _ _ | .nilm | .om _ | .nilf | .nili => by simp [CV.eqb]
  | .vp a => by simp [CV.eqb, CV.eqbs_refl a]
  | .vs a n => by simp [CV.eqb, CV.eqbs_refl a]
  | .fn f a c => by simp [CV.eqb, CV.eqbs_refl a, CV.eqbs_refl c]
  | .ifc t x => by simp [CV.eqb, CV.eqb_refl x]
  | .agg a => by simp [CV.eqb, CV.eqbs_refl a]
  | .tup a => by simp [CV.eqb, CV.eqbs_refl a]
theorem CV.eqbs_refl : ∀ (a : List CV), CV.eqbs a a = true
  | [] => rfl
  | a :: as => by simp [CV.eqbs, CV.eqb_refl a, CV.eqbs_refl as]
end

def mapEqb : List (CV × CV) → List (CV × CV) → Bool
  | [], [] => true
  | a :: as, b :: bs => CV.eqb a.1 b.1 && (CV.eqb a.2 b.2 && mapEqb as bs)
  | _, _ => false
theorem mapEqb_eq : ∀ a b, mapEqb a b = true → a = b
  | [], b, h => by cases b <;> simp_all [mapEqb]
  | a :: as, b, h => by
    cases b with
    | nil => simp [mapEqb] at h
    | cons b bs =>
      simp only [mapEqb, Bool.and_eq_true] at h
      obtain ⟨a1, a2⟩ := a
      obtain ⟨b1, b2⟩ := b
      rw [CV.eqb_eq a1 b1 h.1, CV.eqb_eq a2 b2 h.2.1, mapEqb_eq as bs h.2.2]
theorem mapEqb_refl : ∀ a, mapEqb a a = true
  | [] => rfl
  | a :: as => by simp [mapEqb, CV.eqb_refl, mapEqb_refl as]

def Blk.eqb : Blk → Blk → Bool
  | .dead, .dead => true
  | .cells a, .cells b => CV.eqbs a b
  | .map a, .map b => mapEqb a b
  | _, _ => false
theorem Blk.eqb_eq (a b : Blk) (h : Blk.eqb a b = true) : a = b := by
  cases a <;> cases b <;> simp only [Blk.eqb] at h <;> first | rfl | cases h | (rw [CV.eqbs_eq _ _ h]) | (rw [mapEqb_eq _ _ h])
theorem Blk.eqb_refl (a : Blk) : Blk.eqb a a = true := by
  cases a <;> simp [Blk.eqb, CV.eqbs_refl, mapEqb_refl]

/-- Has a heap but grown? -/
def isPre : List Blk → List Blk → Bool
  | [], _ => true
  | a :: as, b :: bs => Blk.eqb a b && isPre as bs
  | _ :: _, [] => false
theorem isPre_app : ∀ (a X : List Blk), isPre a (a ++ X) = true
  | [], _ => rfl
  | a :: as, X => by simp only [List.cons_append, isPre, Blk.eqb_refl, isPre_app as X, Bool.and_self]
theorem isPre_refl (a : List Blk) : isPre a a = true := by simpa using isPre_app a []
theorem isPre_ex : ∀ {a b : List Blk}, isPre a b = true → ∃ X, b = a ++ X
  | [], b, _ => ⟨b, rfl⟩
  | a :: as, [], h => by simp [isPre] at h
  | a :: as, b :: bs, h => by
    simp only [isPre, Bool.and_eq_true] at h
    obtain ⟨X, hX⟩ := isPre_ex h.2
    exact ⟨X, by rw [Blk.eqb_eq a b h.1, hX]; rfl⟩
theorem isPre_of {a b X : List Blk} (h : b = a ++ X) : isPre a b = true := h ▸ isPre_app a X
end Go.Zc
