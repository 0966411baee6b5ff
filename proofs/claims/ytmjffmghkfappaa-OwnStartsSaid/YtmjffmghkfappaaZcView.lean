/- Whose a part is: views, owners. No condition. -/
import Derived.Test.YtmjffmghkfappaaZcDeep
import Derived.Test.YtmjffmghkfappaaZcPart
import Derived.Test.YtmjffmghkfappaaZcArgs
set_option linter.all false
namespace Go.Zc

structure Vw where
  id : Int
  sure : Bool
  span : List Int
def fV (v : Vw) : List CV := [.int .i64 v.id, .bool v.sure, sl fI v.span]
theorem flatV : Flat fV 3 := ⟨fun _ => rfl, by decide, fun _ => rfl, fun _ => rfl, fun _ => rfl⟩
theorem iaddr_midV (k : IntKind) (pre suf : List Vw) (x : Vw) : iaddrC 3 (sl fV (pre ++ x :: suf)) (.int k pre.length) = some (.vp (.int .i64 x.id :: .bool x.sure :: sl fI x.span :: suf.flatMap fV)) := iaddr_mid flatV k pre suf x
theorem iaddr_atV {k : IntKind} {l : List Vw} {i : Nat} (h : i < l.length) : iaddrC 3 (sl fV l) (.int k i) = some (.vp (.int .i64 l[i].id :: .bool l[i].sure :: sl fI l[i].span :: (l.drop (i + 1)).flatMap fV)) := iaddr_sl flatV.len flatV.pos h
structure Look where
  id : Int
  sure : Bool
  span : List Int
def fK (v : Look) : List CV := [.int .u8 v.id, .bool v.sure, sl fU v.span]
theorem flatK : Flat fK 3 := ⟨fun _ => rfl, by decide, fun _ => rfl, fun _ => rfl, fun _ => rfl⟩
theorem iaddr_atK {k : IntKind} {l : List Look} {i : Nat} (h : i < l.length) : iaddrC 3 (sl fK l) (.int k i) = some (.vp (.int .u8 l[i].id :: .bool l[i].sure :: sl fU l[i].span :: (l.drop (i + 1)).flatMap fK)) := iaddr_sl flatK.len flatK.pos h
theorem iaddr_midK (k : IntKind) (pre suf : List Look) (x : Look) : iaddrC 3 (sl fK (pre ++ x :: suf)) (.int k pre.length) = some (.vp (.int .u8 x.id :: .bool x.sure :: sl fU x.span :: suf.flatMap fK)) := iaddr_mid flatK k pre suf x
structure Fld where
  own : List Int
  clear : List Bool
  views : List Look
abbrev fieldC (f : Fld) : List CV := [sl fU f.own, sl fB f.clear, sl fK f.views]
structure Look.ok (x : Look) : Prop where
  id : 0 ≤ x.id ∧ x.id ≤ 255
  len : x.span.length ≤ maxLen
  span : ∀ s ∈ x.span, 0 ≤ s ∧ s ≤ 255
structure Fld.ok (f : Fld) : Prop where
  own : ∀ x ∈ f.own, 0 ≤ x ∧ x ≤ 255
  view : ∀ x ∈ f.views, x.ok
  lenO : f.own.length ≤ maxLen
  lenC : f.clear.length ≤ maxLen
  lenV : f.views.length ≤ maxLen
def Fld.few (f : Fld) : Bool := (f.views.all fun v => decide (v.span.length ≤ 14)) && decide (f.views.length ≤ 6)
def tLook : Ty := .struct [.int .u8, .bool, .slice (.int .u8)]
def tField : Ty := .struct [.slice (.int .u8), .slice .bool, .slice tLook]

theorem look_of (r : List CV) (h : HasTy tLook r) : ∃ x : Look, r = fK x ∧ x.ok := by
  unfold tLook at h
  obtain ⟨r0, q0, e0, h0, r1, q1, e1, h1, r2, q2, e2, h2, e3⟩ := h
  subst e0 e1 e2 e3
  obtain ⟨a, rfl, ha⟩ := u8_of _ h0
  obtain ⟨b, rfl, _⟩ := bool_of _ h1
  obtain ⟨c, rfl, hc, hc2⟩ := slice_of u8_of h2
  exact ⟨⟨a, b, c⟩, rfl, ha, hc, hc2⟩
theorem field_of' (r : List CV) (h : HasTy tField r) : ∃ f : Fld, r = fieldC f ∧ f.ok := by
  unfold tField at h
  obtain ⟨r0, q0, e0, h0, r1, q1, e1, h1, r2, q2, e2, h2, e3⟩ := h
  subst e0 e1 e2 e3
  obtain ⟨a, rfl, ha, ha2⟩ := slice_of u8_of h0
  obtain ⟨b, rfl, hb, _⟩ := slice_of bool_of h1
  obtain ⟨c, rfl, hc, hc2⟩ := slice_of look_of h2
  exact ⟨⟨a, b, c⟩, rfl, ⟨ha2, hc2, ha, hb, hc⟩⟩
theorem field_of {c : CV} (h : HasArg tField c) : ∃ f : Fld, c = .agg (fieldC f) ∧ f.ok := by
  obtain ⟨r, rfl, h⟩ := h
  obtain ⟨f, rfl, hf⟩ := field_of' r h
  exact ⟨f, rfl, hf⟩

/-! ### The answer -/
def findV (vs : List Vw) (id : Int) : Option Vw := vs.find? fun v => decide (v.id = id)
def viewC : Option Vw → List CV
  | some v => fV v
  | none => [.int .i64 0, .bool false, .nils]
def meetsB (a b : List Int) : Bool := a.any fun s => decide (s ∈ b)
def holdsV (l : Lay) (vs : List Vw) (p : Nat) (id : Int) : Bool := match findV vs id with
  | none => false
  | some v => v.sure && meetsB v.span (l.parts.getD p [])
def aloneR : Int → List Int → Option Int
  | w, [] => some w
  | w, o :: r => if o = -2 then aloneR w r else if o = -1 ∨ (0 ≤ w ∧ o ≠ w) then none else aloneR o r
def aloneF (l : Lay) (was : List Int) (i : Nat) : Int := (aloneR (was.getD i 0) ((beside l i).map fun b => was.getD b.toNat 0)).getD (-1)
def nextP (l : Lay) (was : List Int) (clear : List Bool) (vs : List Vw) (i : Nat) : Int :=
  if clear.getD i false then -2 else if was.getD i 0 = -1 then -1 else if 0 ≤ aloneF l was i ∧ holdsV l vs i (aloneF l was i) = true then aloneF l was i else -1
/-- A function's values from a number on. -/
def upF {α : Type} (g : Nat → α) : Nat → Nat → List α
  | 0, _ => []
  | k + 1, n => g n :: upF g k (n + 1)
theorem upF_len {α : Type} (g : Nat → α) : ∀ k n, (upF g k n).length = k
  | 0, _ => rfl
  | k + 1, n => by simp [upF, upF_len g k]
theorem upF_get {α : Type} (g : Nat → α) : ∀ (k n i : Nat) (h : i < (upF g k n).length), (upF g k n)[i] = g (n + i)
  | 0, _, _, h => by simp [upF] at h
  | k + 1, n, 0, _ => rfl
  | k + 1, n, i + 1, h => by
    simp only [upF, List.getElem_cons_succ]
    rw [upF_get g k (n + 1) i, show n + 1 + i = n + (i + 1) by omega]
theorem upF_congr {α : Type} {f g : Nat → α} : ∀ (k n : Nat), (∀ i, n ≤ i → i < n + k → f i = g i) → upF f k n = upF g k n
  | 0, _, _ => rfl
  | k + 1, n, h => by
    simp only [upF]
    rw [h n (Nat.le_refl _) (by omega), upF_congr k (n + 1) fun i h1 h2 => h i (by omega) (by omega)]
def ownNext (l : Lay) (was : List Int) (clear : List Bool) (vs : List Vw) : List Int := upF (nextP l was clear vs) l.parts.length 0
def ownersL (l : Lay) (f : Fld) : List Int := upF (fun i => (if i < f.own.length then f.own.getD i 0 % 5 else 0) - 2) l.parts.length 0
def clearL (l : Lay) (f : Fld) : List Bool := upF (fun i => f.clear.getD i false) l.parts.length 0
def spanL (n : Int) : List Int → List Int → List Int
  | out, [] => out
  | out, x :: r => spanL n (if x % n ∈ out then out else out ++ [x % n]) r
def viewsL (n : Int) : List Look → List Vw → List Vw
  | [], acc => acc
  | k :: r, acc => viewsL n r (if (findV acc (k.id % 4)).isSome then acc else acc ++ [⟨k.id % 4, k.sure, spanL n [] k.span⟩])
def viewsF (l : Lay) (f : Fld) : List Vw := viewsL l.secs.length f.views []

theorem spanL_len (n : Int) : ∀ (r out : List Int), (spanL n out r).length ≤ out.length + r.length
  | [], _ => by simp [spanL]
  | x :: r, out => by
    have := spanL_len n r (if x % n ∈ out then out else out ++ [x % n])
    simp only [spanL, List.length_cons]
    split at this
    · rw [if_pos ‹_›]; omega
    · rw [if_neg ‹_›]
      simp only [List.length_append, List.length_cons, List.length_nil] at this
      omega
theorem viewsL_len (n : Int) : ∀ (r : List Look) (acc : List Vw), (viewsL n r acc).length ≤ acc.length + r.length
  | [], _ => by simp [viewsL]
  | x :: r, acc => by
    have := viewsL_len n r (if (findV acc (x.id % 4)).isSome then acc else acc ++ [⟨x.id % 4, x.sure, spanL n [] x.span⟩])
    simp only [viewsL, List.length_cons]
    split at this
    · rw [if_pos ‹_›]; omega
    · rw [if_neg ‹_›]
      simp only [List.length_append, List.length_cons, List.length_nil] at this
      omega
theorem viewsL_span (n : Int) (m : Nat) : ∀ (r : List Look) (acc : List Vw), (∀ k ∈ r, k.span.length ≤ m) → (∀ v ∈ acc, v.span.length ≤ m) → ∀ v ∈ viewsL n r acc, v.span.length ≤ m
  | [], _, _, h => h
  | x :: r, acc, hr, h => by
    simp only [viewsL]
    refine viewsL_span n m r _ (fun k hk => hr k (by simp [hk])) ?_
    split
    · exact h
    · intro v hv
      rcases List.mem_append.1 hv with hv | hv
      · exact h v hv
      · simp only [List.mem_singleton] at hv
        subst hv
        have := spanL_len n x.span []
        have := hr x (by simp)
        simp only [List.length_nil] at *
        omega
theorem clearL_len (l : Lay) (f : Fld) : (clearL l f).length = l.parts.length := upF_len _ _ _
theorem ownersL_len (l : Lay) (f : Fld) : (ownersL l f).length = l.parts.length := upF_len _ _ _
theorem ownNext_len (l : Lay) (was : List Int) (clear : List Bool) (vs : List Vw) : (ownNext l was clear vs).length = l.parts.length := upF_len _ _ _
end Go.Zc
