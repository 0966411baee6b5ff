/- Arguments that came in, opened by their types; and the frame of a law's row. No condition. -/
import Derived.Test.YtfblegjbmhgepaaZcRun
import Derived.ProofKit
import Derived.Carry
import Derived.Below
import Derived.ChangeOld
import Derived.WalkKit
import Derived.JoinedOf
import Derived.ShutString
set_option linter.all false
namespace Go.Zc
open Go.ChangeShapes Go.WideShapes Go.ChangeAt Go.RowKit

/-- The types that come in. -/
inductive Ty where
  | bool
  | int (k : IntKind)
  | str
  | slice (e : Ty)
  | struct (fs : List Ty)
  deriving Inhabited

mutual
def Ty.size : Ty → Nat
  | .struct fs => Ty.sizes fs
  | _ => 1
def Ty.sizes : List Ty → Nat
  | [] => 0
  | f :: fs => f.size + Ty.sizes fs
end

mutual
/-- What a value of a type looks like, cell by cell. -/
def HasTy : Ty → List CV → Prop
  | .bool, cs => ∃ b, cs = [.bool b]
  | .int k, cs => ∃ n, cs = [.int k n] ∧ (Lit.int k n).wf = true
  | .str, cs => ∃ s : ByteArray, cs = [.str s] ∧ s.size ≤ maxLen
  | .slice e, cs => ∃ rows : List (List CV), cs = [.vs rows.flatten rows.length] ∧ rows.length ≤ maxLen ∧ ∀ r ∈ rows, HasTy e r
  | .struct fs, cs => HasTys fs cs
def HasTys : List Ty → List CV → Prop
  | [], cs => cs = []
  | f :: fs, cs => ∃ a b, cs = a ++ b ∧ HasTy f a ∧ HasTys fs b
end

/-- The fields, one behind the other. -/
def fieldsTy (P : Program) (go : TypeId → Option Ty) : Nat → List Field → Option (List Ty)
  | _, [] => some []
  | off, f :: fs =>
    if f.offset = off then (go f.type).bind fun T => if P.cellsOf f.type = T.size then (fieldsTy P go (off + T.size) fs).map (T :: ·) else none else none

def tyOf (P : Program) : Nat → TypeId → Option Ty
  | 0, _ => none
  | n + 1, t =>
    match P.underlying t with
    | some .bool => some .bool
    | some (.int k) => some (.int k)
    | some .string => some .str
    | some (.slice e) => (tyOf P n e).bind fun T => if P.cellsOf e = T.size ∧ 0 < T.size then some (.slice T) else none
    | some (.struct fs) => (fieldsTy P (tyOf P n) 0 fs.toList).bind fun l => if P.cellsOf t = Ty.sizes l then some (.struct l) else none
    | _ => none

/-- Every block that is there. -/
def Old (w : World) (b : Nat) : Prop := b < w.heap.size

theorem mapM_all {α β : Type} {f : α → Option β} : ∀ {l : List α} {r : List β}, l.mapM f = some r → ∀ x ∈ l, ∃ y, f x = some y
  | [], _, _, x, hx => by simp at hx
  | a :: l, r, h, x, hx => by
    simp only [List.mapM_cons, Option.bind_eq_bind, Option.bind_eq_some_iff] at h
    obtain ⟨y, hy, ys, hys, _⟩ := h
    rcases List.mem_cons.1 hx with rfl | hx
    · exact ⟨y, hy⟩
    · exact mapM_all hys x hx

theorem BRc_of {w : World} {F : Nat → Prop} : ∀ {ccs : List CV} {cs : List Value} {b o : Nat}, BRl w F ccs cs → (∀ i c, cs[i]? = some c → w.cell? ⟨b, o + i, none⟩ = some c) → BRc w F ccs b o
  | [], _, _, _, _, _ => trivial
  | c :: ccs, cs, b, o, h, hc => by
    obtain ⟨u, us, rfl, h1, h2⟩ := h
    refine ⟨⟨u, by simpa using hc 0 u rfl, h1⟩, BRc_of h2 fun i x hx => ?_⟩
    have := hc (i + 1) x (by simpa using hx)
    rw [show o + 1 + i = o + (i + 1) by omega]
    exact this

theorem BRc_append {w : World} {F : Nat → Prop} : ∀ {a : List CV} {c : List CV} {b o : Nat}, BRc w F a b o → BRc w F c b (o + a.length) → BRc w F (a ++ c) b o
  | [], _, _, _, _, h => by simpa using h
  | x :: a, c, b, o, h, h2 => by
    obtain ⟨h3, h4⟩ := h
    refine ⟨h3, BRc_append h4 ?_⟩
    rw [show o + 1 + a.length = o + (x :: a).length by simp; omega]
    exact h2

theorem BRl_append {w : World} {F : Nat → Prop} : ∀ {a : List CV} {c : List CV} {x y : List Value}, BRl w F a x → BRl w F c y → BRl w F (a ++ c) (x ++ y)
  | [], _, x, y, h, h2 => by simp only [BRl] at h; subst h; simpa using h2
  | q :: a, c, x, y, h, h2 => by
    obtain ⟨u, us, rfl, h3, h4⟩ := h
    exact ⟨u, us ++ y, by simp, h3, BRl_append h4 h2⟩

/-- Rows of cells behind each other. -/
theorem rows_ok {w : World} {F : Nat → Prop} {T : Ty} {sz b : Nat} : ∀ (n o : Nat), (∀ i, i < n → ∃ cs ccs, (∀ j c, cs[j]? = some c → w.cell? ⟨b, o + i * sz + j, none⟩ = some c) ∧ BRl w F ccs cs ∧ ccs.length = sz ∧ HasTy T ccs) →
    ∃ rows : List (List CV), rows.length = n ∧ BRc w F rows.flatten b o ∧ ∀ r ∈ rows, HasTy T r
  | 0, _, _ => ⟨[], rfl, trivial, by simp⟩
  | n + 1, o, h => by
    obtain ⟨cs, ccs, h1, h2, h3, h4⟩ := h 0 (by omega)
    obtain ⟨rows, g1, g2, g3⟩ := rows_ok (T := T) (w := w) (F := F) (sz := sz) (b := b) n (o + sz) (fun i hi => by
      obtain ⟨cs, ccs, q1, q2, q3, q4⟩ := h (i + 1) (by omega)
      refine ⟨cs, ccs, fun j c hc => ?_, q2, q3, q4⟩
      have := q1 j c hc
      rw [show o + sz + i * sz + j = o + (i + 1) * sz + j by rw [Nat.add_mul]; omega]
      exact this)
    refine ⟨ccs :: rows, by simp [g1], ?_, ?_⟩
    · simp only [List.flatten_cons]
      refine BRc_append (BRc_of h2 fun i c hc => ?_) ?_
      · simpa using h1 i c hc
      · rw [h3]; exact g2
    · intro r hr
      rcases List.mem_cons.1 hr with rfl | hr
      · exact h4
      · exact g3 r hr

theorem fields_ok {H : Type} {enc : TypeId × Value → H} {P : Program} {w : World} {fuel : Nat} {sp : Nat → Bool} {hd : Bool} {go : TypeId → Option Ty} {all : List Value}
    (hrec : ∀ t T cs x, go t = some T → cs.length = P.cellsOf t → DataW.trod enc P w 0 sp hd fuel t cs = some x → ∃ ccs, BRl w (Old w) ccs cs ∧ ccs.length = T.size ∧ HasTy T ccs) :
    ∀ (fs : List Field) (off : Nat) (l : List Ty), fieldsTy P go off fs = some l → all.length = off + Ty.sizes l →
      (∀ f ∈ fs, ∃ y, DataW.trod enc P w 0 sp hd fuel f.type ((all.drop f.offset).take (P.cellsOf f.type)) = some y) →
      ∃ ccs, BRl w (Old w) ccs (all.drop off) ∧ ccs.length = Ty.sizes l ∧ HasTys l ccs
  | [], off, l, h, hl, _ => by
    simp only [fieldsTy, Option.some.injEq] at h
    subst h
    refine ⟨[], ?_, rfl, rfl⟩
    simp only [Ty.sizes] at hl
    simp only [BRl]
    exact List.drop_eq_nil_of_le (by omega)
  | f :: fs, off, l, h, hl, hf => by
    unfold fieldsTy at h
    split at h
    · rename_i ho
      simp only [Option.bind_eq_some_iff] at h
      obtain ⟨T, hT, h⟩ := h
      split at h
      · rename_i hsz
        simp only [Option.map_eq_some_iff] at h
        obtain ⟨l', hl', rfl⟩ := h
        simp only [Ty.sizes] at hl
        obtain ⟨y, hy⟩ := hf f (by simp)
        subst ho
        have hlen : ((all.drop f.offset).take (P.cellsOf f.type)).length = P.cellsOf f.type := by
          simp; omega
        obtain ⟨c1, g1, g2, g3⟩ := hrec _ T _ y hT hlen hy
        obtain ⟨c2, k1, k2, k3⟩ := fields_ok hrec fs (f.offset + T.size) l' hl' (by omega) (fun f hf' => hf f (by simp [hf']))
        refine ⟨c1 ++ c2, ?_, by simp [g2, k2, Ty.sizes], ⟨c1, c2, rfl, g3, k3⟩⟩
        have := BRl_append g1 k1
        rwa [hsz, ← List.drop_drop, List.take_append_drop] at this
      · cases h
    · cases h

theorem Addr.add_zero' (a : Addr) : a.add 0 = a := by simp [Addr.add]
theorem Addr.add_at {a : Addr} (h : a.spot = none) (n : Nat) : a.add n = ⟨a.block, a.off + n, none⟩ := by
  unfold Addr.add
  split
  · rename_i h0
    subst h0
    obtain ⟨b, o, s⟩ := a
    simp at h
    simp [h]
  · rfl

theorem open_ty {H : Type} {enc : TypeId × Value → H} {P : Program} {w : World} {sp : Nat → Bool} {hd : Bool} : ∀ (fuel n : Nat) (t : TypeId) (T : Ty) (cs : List Value) (x : DataW H × List MemPlace), tyOf P n t = some T → cs.length = P.cellsOf t →
    DataW.trod enc P w 0 sp hd fuel t cs = some x → ∃ ccs, BRl w (Old w) ccs cs ∧ ccs.length = T.size ∧ HasTy T ccs
  | 0, _, _, _, _, _, _, _, h => by simp [DataW.trod] at h
  | fuel + 1, 0, _, _, _, _, ht, _, _ => by simp [tyOf] at ht
  | fuel + 1, n + 1, t, T, cs, x, ht, hlen, h => by
    have hrec := open_ty (enc := enc) (P := P) (w := w) (sp := sp) (hd := hd) fuel n
    unfold tyOf at ht
    unfold DataW.trod at h
    cases hu : P.underlying t with
    | none => simp [hu] at ht
    | some u =>
      simp only [hu] at ht h
      cases u with
      | bool =>
        simp only [Option.some.injEq] at ht
        subst ht
        split at h <;> simp_all
        exact ⟨[.bool _], ⟨_, _, rfl, rfl, rfl⟩, rfl, _, rfl⟩
      | int k =>
        simp only [Option.some.injEq] at ht
        subst ht
        split at h <;> simp_all
        obtain ⟨⟨rfl, h2⟩, _⟩ := h
        exact ⟨[.int _ _], ⟨_, _, rfl, rfl, rfl⟩, rfl, _, rfl, h2⟩
      | string =>
        simp only [Option.some.injEq] at ht
        subst ht
        split at h <;> simp_all
        exact ⟨[.str _], ⟨_, _, rfl, rfl, rfl⟩, rfl, _, rfl, h.1⟩
      | slice e =>
        simp only [Option.bind_eq_some_iff] at ht
        obtain ⟨E, hE, ht⟩ := ht
        split at ht <;> (try cases ht)
        rename_i hsz
        split at h
        all_goals try (exfalso; simp_all; done)
        · refine ⟨[.vs [] 0], ⟨_, _, rfl, ⟨none, 0, rfl, Nat.le_refl _, .inl rfl⟩, rfl⟩, rfl, [], rfl, Nat.zero_le _, by simp⟩
        · rename_i e' a len cap heq
          obtain rfl : e = e' := by simpa using heq
          split at h
          · rename_i hb
            simp only [Option.bind_eq_some_iff] at h
            obtain ⟨elems, hel, _⟩ := h
            by_cases h0 : len = 0
            · subst h0
              exact ⟨[.vs [] 0], ⟨_, _, rfl, ⟨some a, cap, rfl, Nat.zero_le _, .inl rfl⟩, rfl⟩, rfl, [], rfl, Nat.zero_le _, by simp⟩
            · have cell0 : a.spot = none ∧ a.block < w.heap.size := by
                obtain ⟨y, hy⟩ := mapM_all hel 0 (by simp; omega)
                simp only [Option.bind_eq_some_iff] at hy
                obtain ⟨cs, hcs, hy⟩ := hy
                obtain ⟨_, k1, k2⟩ := World.cells?_some hcs
                have hpos : 0 < P.cellsOf e := by omega
                have hlt := World.cells?_block hcs hpos
                have := k2 0 hpos
                have h3 : ∃ c, cs[0]? = some c := by
                  cases cs with
                  | nil => simp at k1; omega
                  | cons c _ => exact ⟨c, rfl⟩
                obtain ⟨c, hc⟩ := h3
                rw [hc] at this
                have hs := World.cell?_spot this
                rw [Nat.zero_mul, Addr.add_zero', Addr.add_zero'] at hs
                rw [Nat.zero_mul, Addr.add_zero'] at hlt
                exact ⟨hs, hlt⟩
              obtain ⟨hspot, hblk⟩ := cell0
              have each : ∀ i, i < len → ∃ cs ccs, (∀ (j : Nat) (c : Value), cs[j]? = some c → w.cell? ⟨a.block, a.off + i * E.size + j, none⟩ = some c) ∧ BRl w (Old w) ccs cs ∧ ccs.length = E.size ∧ HasTy E ccs := by
                intro i hi
                obtain ⟨y, hy⟩ := mapM_all hel i (by simpa using hi)
                simp only [Option.bind_eq_some_iff] at hy
                obtain ⟨cs, hcs, hy⟩ := hy
                obtain ⟨ccs, g1, g2, g3⟩ := hrec _ E cs y hE (World.cells?_some hcs).2.1 hy
                obtain ⟨_, k1, k2⟩ := World.cells?_some hcs
                refine ⟨cs, ccs, fun j c hc => ?_, g1, g2, g3⟩
                have hj : j < P.cellsOf e := by
                  have := (List.getElem?_eq_some_iff.1 hc).1
                  rw [k1] at this; exact this
                have := k2 j hj
                rw [hc, Addr.add_at hspot, Addr.add_at rfl] at this
                rw [← hsz.1]
                exact this
              obtain ⟨rows, g1, g2, g3⟩ := rows_ok (w := w) (F := Old w) (T := E) (sz := E.size) (b := a.block) len a.off each
              refine ⟨[.vs rows.flatten rows.length], ⟨_, _, rfl, ⟨some a, cap, by rw [g1], by rw [g1]; exact hb.2.1, .inr ⟨a.block, a.off, ?_, hblk, g2⟩⟩, rfl⟩, rfl, rows, rfl, by rw [g1]; omega, g3⟩
              rw [← hspot]
          · cases h
      | struct fs =>
        simp only [Option.bind_eq_some_iff] at ht
        obtain ⟨l, hl, ht⟩ := ht
        split at ht <;> (try cases ht)
        rename_i hsz
        split at h
        all_goals try (exfalso; simp_all; done)
        rename_i fs' heq
        obtain rfl : fs = fs' := by simpa using heq
        split at h
        · simp only [Option.map_eq_some_iff] at h
          obtain ⟨xs, hxs, _⟩ := h
          obtain ⟨ccs, g1, g2, g3⟩ := fields_ok (fun t T cs x a b c => hrec t T cs x a b c) fs.toList 0 l hl (hlen.trans (hsz.trans (Nat.zero_add _).symm)) (fun f hf => mapM_all hxs f hf)
          exact ⟨ccs, by simpa using g1, by simpa [Ty.size] using g2, by simpa [HasTy] using g3⟩
        · exact absurd hlen (by assumption)
      | _ => simp at ht

/-! ### A law's row -/

/-- An argument of a type. -/
def HasArg : Ty → CV → Prop
  | .struct fs, c => ∃ cs, c = .agg cs ∧ HasTys fs cs
  | T, c => HasTy T [c]

def HasArgs : List Ty → List CV → Prop
  | [], cs => cs = []
  | T :: Ts, cs => ∃ c r, cs = c :: r ∧ HasArg T c ∧ HasArgs Ts r

def argTy (P : Program) (n : Nat) (t : TypeId) : Option Ty := (tyOf P n t).bind fun T => if P.cellsOf t = T.size ∧ P.readableRec t = true ∧ t < P.types.size then some T else none

def argsTy (P : Program) (n : Nat) : List TypeId → Option (List Ty)
  | [] => some []
  | t :: ts => (argTy P n t).bind fun T => (argsTy P n ts).map (T :: ·)

theorem open_arg {H : Type} {enc : TypeId × Value → H} {P : Program} {w : World} {sp : Nat → Bool} {hd : Bool} {r : Reach} {b0 n : Nat} {t : TypeId} {T : Ty} {v : Value} {d : DataW H} {p : List MemPlace}
    (ht : argTy P n t = some T) (hv : Value.okWide P w r b0 t v) (h : DataW.Trod enc P w 0 sp hd t v d p) : ∃ c, BR w (Old w) c v ∧ HasArg T c := by
  obtain ⟨fuel, hf⟩ := h
  simp only [argTy, Option.bind_eq_some_iff] at ht
  obtain ⟨T', ht, hc⟩ := ht
  split at hc <;> (try cases hc)
  rename_i hsz
  have hsz := hsz.1
  have one : v.cells.toList = [v] → (∀ fs, T ≠ .struct fs) → ∃ c, BR w (Old w) c v ∧ HasArg T c := by
    intro hu hns
    rw [hu] at hf
    obtain ⟨ccs, h1, h2, h3⟩ := open_ty fuel n t T [v] (d, p) ht (by
      rw [hsz]
      cases T with
      | struct fs => exact (hns fs rfl).elim
      | _ => rfl) hf
    cases ccs with
    | nil => simp [BRl] at h1
    | cons c ccs =>
      simp only [BRl, List.cons.injEq] at h1
      obtain ⟨_, us, ⟨rfl, rfl⟩, h4, h5⟩ := h1
      have hnil : ccs = [] := by
        cases ccs with
        | nil => rfl
        | cons _ _ => simp [BRl] at h5
      subst hnil
      refine ⟨c, h4, ?_⟩
      cases T with
      | struct fs => exact (hns fs rfl).elim
      | _ => exact h3
  cases n with
  | zero => simp [tyOf] at ht
  | succ n =>
    have ht0 := ht
    unfold tyOf at ht0
    cases hu : P.underlying t with
    | none => simp [hu] at ht0
    | some u =>
      simp only [hu] at ht0
      cases u with
      | bool =>
        obtain ⟨b, rfl⟩ := okWide_bool hu hv
        simp only [Option.some.injEq] at ht0
        exact one rfl (by rw [← ht0]; intro fs h; cases h)
      | int k =>
        obtain ⟨b, rfl⟩ := okWide_int hu hv
        simp only [Option.some.injEq] at ht0
        exact one rfl (by rw [← ht0]; intro fs h; cases h)
      | string =>
        obtain ⟨b, rfl⟩ := okWide_string hu hv
        simp only [Option.some.injEq] at ht0
        exact one rfl (by rw [← ht0]; intro fs h; cases h)
      | slice e =>
        obtain ⟨a, l, c, rfl⟩ := okWide_slice hu hv
        simp only [Option.bind_eq_some_iff] at ht0
        obtain ⟨E, _, ht0⟩ := ht0
        split at ht0 <;> (try cases ht0)
        exact one rfl (by intro fs h; cases h)
      | struct fs =>
        obtain ⟨cs, rfl, hs⟩ := okWide_struct hu hv
        obtain ⟨ccs, h1, h2, h3⟩ := open_ty fuel (n + 1) t T cs.toList (d, p) ht (by simpa using hs) hf
        refine ⟨.agg ccs, ⟨cs, rfl, h1⟩, ?_⟩
        simp only [Option.bind_eq_some_iff] at ht0
        obtain ⟨l, _, ht0⟩ := ht0
        split at ht0 <;> (try cases ht0)
        exact ⟨ccs, rfl, h3⟩
      | _ => simp at ht0

theorem open_args {H : Type} {enc : TypeId × Value → H} {P : Program} {w : World} {sp : Nat → Bool} {hd : Bool} {r : Reach} {b0 n : Nat} : ∀ {ts : List TypeId} {Ts : List Ty} {vs : List Value} {ds : List (DataW H)} {p : List MemPlace},
    argsTy P n ts = some Ts → (∀ (j : Nat) t v, ts[j]? = some t → vs[j]? = some v → Value.okWide P w r b0 t v) → DataW.TrodAll enc P w 0 sp hd ts vs ds p → ∃ cs, BRl w (Old w) cs vs ∧ HasArgs Ts cs
  | [], Ts, vs, ds, p, ht, _, h => by
    obtain ⟨rfl, _, _⟩ := trodAll_nil h
    simp only [argsTy, Option.some.injEq] at ht
    subst ht
    exact ⟨[], rfl, rfl⟩
  | t :: ts, Ts, vs, ds, p, ht, hv, h => by
    obtain ⟨v, vs', d, ds', p1, q, rfl, rfl, rfl, h0, hr⟩ := trodAll_cons h
    simp only [argsTy, Option.bind_eq_some_iff, Option.map_eq_some_iff] at ht
    obtain ⟨T, hT, Ts', hTs, rfl⟩ := ht
    obtain ⟨c, h1, h2⟩ := open_arg hT (hv 0 t v rfl rfl) h0
    obtain ⟨cs, h3, h4⟩ := open_args hTs (fun j t v a b => hv (j + 1) t v (by simpa using a) (by simpa using b)) hr
    exact ⟨c :: cs, ⟨_, _, rfl, h1, h3⟩, c, cs, rfl, h2, h4⟩

theorem again_args {H : Type} {enc : TypeId × Value → H} {P : Program} {w w' : World} {n : Nat} (hl : laidOutB P = true) (hb : Below w.heap.size w w') : ∀ {ts : List TypeId} {Ts : List Ty} {vs : List Value} {ds : List (DataW H)} {p : List MemPlace},
    argsTy P n ts = some Ts → DataW.TrodAll enc P w 0 (fun _ => true) true ts vs ds p → DataW.TrodAll enc P w' 0 (fun b => decide (b < w.heap.size)) true ts vs ds p
  | [], Ts, vs, ds, p, _, h => by
    obtain ⟨rfl, rfl, rfl⟩ := trodAll_nil h
    exact trodAll_mk0
  | t :: ts, Ts, vs, ds, p, ht, h => by
    obtain ⟨v, vs', d, ds', p1, q, rfl, rfl, rfl, h0, hr⟩ := trodAll_cons h
    simp only [argsTy, Option.bind_eq_some_iff, Option.map_eq_some_iff] at ht
    obtain ⟨T, hT, Ts', hTs, rfl⟩ := ht
    simp only [argTy, Option.bind_eq_some_iff] at hT
    obtain ⟨_, _, hc⟩ := hT
    split at hc <;> (try cases hc)
    rename_i hsz
    refine ⟨p1, q, Below.trod hl hsz.2.1 hsz.2.2 h0 hb ?_, again_args hl hb hTs hr, rfl⟩
    obtain ⟨m, hm⟩ := h0
    exact DataW.trod_lt m _ _ _ hm

/-- What an empty memory's call comes to, the model hands back, and nothing that was there has turned. -/
theorem calls_of_call {P : Program} {K : Ctx} (hK : CtxOk P K) {f : FuncId} {cs : List CV} {v : CV} {H' : Heap} (h : call K (.fn (.func f) [] []) cs ⟨[], []⟩ = some (v, H')) {w : World} {vs : Array Value} (hr : BRl w (Old w) cs vs.toList) :
    Calls P f vs w fun e w' => ∃ F' ι' v', e = .returned v' ∧ VR w' F' ι' v v' ∧ Below w.heap.size w w' := by
  obtain ⟨n, hn⟩ := call_iff.1 h
  obtain ⟨k, first, cap, fn, he, _, _, _, hc⟩ := (caller_ok hK n).1 _ _ _ _ _ hn
  simp only [CV.fn.injEq, Fn.func.injEq] at he
  obtain ⟨rfl, rfl, rfl⟩ := he
  have := hc w (Old w) IM.nil vs.toList (Inv.empty w (Old w) fun _ h => h) (by simpa using BRl.vr _ _ hr)
  rw [Array.toArray_toList] at this
  refine this.mono ?_
  rintro e w' ⟨v', F', ι', rfl, h1, _, h3, _⟩
  exact ⟨F', ι', v', rfl, h1, h3.os, h3.tape, h3.output, h3.size, fun k hk => h3.frame k hk no_live⟩

theorem law_lifted {C : Checked} {K : Ctx} (hK : CtxOk C.prog K) {f : FuncId} {fn : Func} {s : ChangeSpec} {n : Nat} {Ts : List Ty} {tb : TypeId} {conds : List PathCond}
    (own : ownKnob C.prog.godebug = none) (laid : laidOutB C.prog = true) (noInit : C.prog.inits.idxOf? f = none) (hfn : C.prog.funcs[f]? = some fn)
    (hres : fn.resultTypes = #[tb]) (hb : C.prog.underlying tb = some .bool) (hvars : s.vars = []) (hty : argsTy C.prog n fn.params.toList = some Ts)
    (hspec : ∀ (H : Type) (ds : List (DataW H)), ds.length = Ts.length → s.fn H ds = { results := [.lit (.bool true)], args := ds })
    (law : ∀ cs, HasArgs Ts cs → ∃ H', call K (.fn (.func f) [] []) cs ⟨[], []⟩ = some (.bool true, H'))
    (os : Os) (started : os.Started) (H : Type) (enc : TypeId × Value → H)
    (witness : ∃ (w : World) (tape : Tape) (i : Input), w.os = os ∧ (w.forCall tape i).Shaped C.prog ∧ i.vars = [] ∧ Input.okWide C.prog (w.forCall tape i) .any w.heap.size f i ∧
      s.pre6 enc C.prog fn conds false (w.forCall tape i).memory i.args ∧ ({} : Assume).holds C.prog (lone (Frame.enter C.prog f i.args .normal) [] (w.forCall tape i))) :
    ReturnsInHanded {} C os f .any (s.pre6 enc C.prog fn conds false) (s.post enc C.prog fn false true false false) := by
  refine returnsInHanded_of_change own started noInit hfn witness ?_
  intro W base args ds gs before hval hW hcnd _
  have hW' := hW
  obtain ⟨p, q, hA, hV, rfl, hfz, hnd⟩ := hW
  rw [hvars] at hV
  obtain ⟨rfl, rfl⟩ := trodVars_none hV
  have hlen : ds.length = Ts.length := by
    have l1 : ∀ {ts : List TypeId} {vs : List Value} {ds : List (DataW H)} {p : List MemPlace}, DataW.TrodAll enc C.prog W 0 (fun _ => true) true ts vs ds p → ds.length = ts.length := by
      intro ts
      induction ts with
      | nil => intro vs ds p h; obtain ⟨_, rfl, _⟩ := trodAll_nil h; rfl
      | cons t ts ih => intro vs ds p h; obtain ⟨_, _, _, _, _, _, rfl, rfl, rfl, _, hr⟩ := trodAll_cons h; simp [ih hr]
    have l2 : ∀ {ts : List TypeId} {Ts : List Ty}, argsTy C.prog n ts = some Ts → Ts.length = ts.length := by
      intro ts
      induction ts with
      | nil => intro Ts h; simp only [argsTy, Option.some.injEq] at h; subst h; rfl
      | cons t ts ih =>
        intro Ts h
        simp only [argsTy, Option.bind_eq_some_iff, Option.map_eq_some_iff] at h
        obtain ⟨T, _, Ts', hTs, rfl⟩ := h
        simp [ih hTs]
    rw [l1 hA, l2 hty]
  obtain ⟨cs, hcs, hargs⟩ := open_args hty (fun j t v a b => hval j t v (by simpa using a) (by simpa using b)) hA
  obtain ⟨H', hcall⟩ := law cs hargs
  refine (calls_of_call hK hcall hcs).mono ?_
  rintro e W' ⟨F', ι', v', rfl, hv, bel⟩
  simp only [VR, BR] at hv
  subst hv
  refine ⟨_, rfl, ds, [], _, [], p, [], hW', ?_, ?_, ?_, bel.frame _, fun h => by cases h⟩
  · rw [List.append_nil, hspec H ds hlen, hres]
    exact trodAll_mk1 (shut_bool hb _)
  · rw [List.append_nil, hspec H ds hlen]
    exact again_args laid bel hty hA
  · rw [hvars, List.append_nil, hspec H ds hlen]
    rfl

end Go.Zc
