/- Walks: the program's world: Go. No condition. -/
import Derived.Test.YtfblegjbmhgepaaZcNx
import Derived.Test.YtfblegjbmhgepaaZcSet
import Derived.Test.YtfblegjbmhgepaaZcT
set_option linter.all false
section
namespace Go.Proofs.Ytfblegjbmhgepaa.Zt
open Go Go.Zc
set_option maxRecDepth 10000

theorem max_ii (a b : Int) : pureOp .max [.int .i64 a, .int .i64 b] = some (.int .i64 (max a b)) := by
  by_cases h : a < b
  · rw [Int.max_eq_right (by omega)]
    simp [pureOp, foldC, max2C, h]
  · rw [Int.max_eq_left (by omega)]
    simp [pureOp, foldC, max2C, h]
theorem slc_os (k u n : Nat) (h : u ≤ n) (c : IntKind) : slcC 2 (.os 2 (.blk k) 0 n) none (some (.int c u)) = some (.os 2 (.blk k) 0 u) := by
  simp [slcC, sbound, h]

/-- What is kept of a way. -/
def cutP (l : Lay) (v : Vh) : Vh := { v with way := underW l v }
theorem wGo_F (l : Lay) (hl : Lens l) (a m : Nat) (P S : List Ve) (right : List Bool) (hnx : ∀ x y, next l x right = some y → (0 ≤ y.s ∧ y.s < l.secs.length) ∧ -1000 ≤ y.e ∧ y.e ≤ 1000) (e : Ve) (k : Nat) (bl : List Blk) (h : Rig l a m P S bl e k)
    (metres : Int) (hm : metres ≤ 10000) (hw : e.v.way ≠ []) (hwl : e.v.way.length ≤ 80000) :
    ∃ bl' e' k', Rig l a m P S bl' e' k' ∧ e'.v = cutP l (goP l right ((max metres 0).toNat + 1) e.v (max metres 0)).1 ∧ e'.c = e.c ∧ (k' = k ∨ bl.length ≤ k') ∧ Kept e.c k bl bl' ∧
      ∀ bx, world_World_Go_F bx bl [.op (.blk a) 0, .int .i64 e.v.id, .int .i64 metres, sl fB right] = some (.tup [.int .i64 (max metres 0 - (goP l right ((max metres 0).toNat + 1) e.v (max metres 0)).2), .int .i64 0], ⟨bx, bl'⟩) := by
  obtain ⟨b1, e1, k1, r1, r2, r3, r4, r5, r6⟩ := wGo_loop l hl a m P S right hnx ((max metres 0).toNat + 1) e k bl 0 (max metres 0) h (by omega) (by split <;> omega) (by omega) (by omega) hw (by omega)
  generalize hr : goP l right ((max metres 0).toNat + 1) e.v (max metres 0) = r at *
  have hem1 : e1 ∈ P ++ e1 :: S := by simp
  have hc1 := r1.w.cell e1 hem1
  have hcl := (List.getElem?_eq_some_iff.1 hc1).1
  have hget := wget_F h.w e.v.id
  rw [h.find] at hget
  have hp : ptrE (some e) = .op (.blk e.c) 0 := rfl
  rw [hp] at hget
  have hz : ∀ i o, binC .eql .ptr (.op i o) .nilp = some (.bool false) := fun _ _ => rfl
  have hn2 : nchkC (.op (.blk e.c) 0) = some (.op (.blk e.c) 0) := rfl
  have hgc : ∀ bx, Heap.get ⟨bx, b1⟩ (.blk e1.c) = some (veC e1) := fun bx => get_blk bx b1 _ _ hc1
  have hu := wunder_F hl r1.w e1 hem1 (r1.g.fit e1 hem1)
  have hule := underN_le l (e1.v.ahead + e1.v.length) e1.v.way
  have hs1 := r1.mine.s
  have hsl := slc_os k1 (underN l (e1.v.ahead + e1.v.length) e1.v.way) e1.v.way.length hule .i64
  have hmx := max_ii metres 0
  rw [r3] at hgc hcl hu
  have hwl2 : (underW l e1.v).length = underN l (e1.v.ahead + e1.v.length) e1.v.way := by unfold underW; rw [List.length_take]; omega
  have st1 : ∀ bx, stE 1 2 (.os 2 (.blk k1) 0 (underN l (e1.v.ahead + e1.v.length) e1.v.way)) ⟨bx, b1⟩ (.blk e.c) [.int .i64 e1.v.length, .int .i64 e1.v.ahead, .os 2 (.blk k1) 0 e1.v.way.length] = some ⟨bx, b1.set e.c (.cells [.int .i64 e1.v.length, .int .i64 e1.v.ahead, .os 2 (.blk k1) 0 (underN l (e1.v.ahead + e1.v.length) e1.v.way)])⟩ := fun bx => st_cell bx _ _ 2 _ _ rfl rfl rfl (by simp)
  obtain ⟨rest, hrest⟩ := r1.mine.at'
  have hfit := r1.g.fit e1 hem1
  have hv1 : (cutP l e1.v).way = underW l e1.v := rfl
  have hR := r1.upd (Kept.set b1 (.cells [.int .i64 e1.v.length, .int .i64 e1.v.ahead, .os 2 (.blk k1) 0 (underN l (e1.v.ahead + e1.v.length) e1.v.way)])) (cutP l e1.v) rfl ⟨hfit.ahead, hfit.length, by rw [hv1, hwl2]; have := hfit.way; omega⟩ k1 (.inl rfl)
    (by rw [r3, List.getElem?_set_self hcl, hv1, hwl2]; rfl)
    ⟨(e1.v.way.drop (underN l (e1.v.ahead + e1.v.length) e1.v.way)).flatMap fE ++ rest, by
      rw [List.getElem?_set_ne (Ne.symm r1.mine.ne), hrest, hv1, ← List.append_assoc, ← List.flatMap_append]
      unfold underW
      rw [List.take_append_drop]⟩
  refine ⟨_, _, k1, hR, by rw [← r2], r3, r4, r5.trans (r3 ▸ Kept.set b1 _) (.inl rfl), fun bx => ?_⟩
  rw [world_World_Go_F_eq]
  rw [Int.zero_add] at r6
  simp only [world_World_Go_C, world_World_get_call, hget, hz, hn2, hmx, world_World_Go_L0_eq, r6, hgc, veC, hs1, world_World_under_call, hu, hsl, st1, r3, zy, simprocAttr]
end Go.Proofs.Ytfblegjbmhgepaa.Zt
end
section
namespace Go.Proofs.Ytfblegjbmhgepaa.Zt
open Go Go.Zc
set_option maxRecDepth 10000

/-- A world that another one's turn leaves as it was. -/
theorem Rig.far {l : Lay} {a m k : Nat} {P S : List Ve} {bl bl' : List Blk} {e : Ve} (h : Rig l a m P S bl e k) {c q : Nat} (hk : Kept c q bl bl') (ha : a ≠ c ∧ a ≠ q) (hm : m ≠ c ∧ m ≠ q) (hc : ∀ x ∈ P ++ e :: S, (x.c ≠ c ∧ x.c ≠ q) ∧ blkOf x.s ≠ some c ∧ blkOf x.s ≠ some q) : Rig l a m P S bl' e k := by
  have hem : e ∈ P ++ e :: S := by simp
  obtain ⟨rest, hr⟩ := h.mine.at'
  have hbs : blkOf e.s = some k := by rw [h.mine.s]; rfl
  refine ⟨⟨hk.2 _ _ h.w.top ha.1 ha.2, hk.2 _ _ h.w.map hm.1 hm.2, fun x hx => hk.2 _ _ (h.w.cell x hx) (hc x hx).1.1 (hc x hx).1.2, fun x hx => (h.w.way x hx).keep fun j b hj hb => hk.2 _ _ hj (fun e' => (hc x hx).2.1 (by rw [hb, e'])) (fun e' => (hc x hx).2.2 (by rw [hb, e']))⟩,
    h.g, h.f, ⟨h.mine.s, ⟨rest, hk.2 _ _ hr (fun q' => (hc e hem).2.1 (by rw [hbs, q'])) (fun q' => (hc e hem).2.2 (by rw [hbs, q']))⟩, h.mine.ne⟩, h.o, h.ak⟩
theorem Rig.grow {l : Lay} {a m k : Nat} {P S : List Ve} {bl : List Blk} {e : Ve} (h : Rig l a m P S bl e k) (X : List Blk) : Rig l a m P S (bl ++ X) e k := by
  obtain ⟨rest, hr⟩ := h.mine.at'
  exact ⟨h.w.keep (Grows.app bl X), h.g, h.f, ⟨h.mine.s, ⟨rest, Grows.app bl X _ _ hr⟩, h.mine.ne⟩, h.o, h.ak⟩

theorem wReport_F (l : Lay) (hl : Lens l) (a m : Nat) (P S : List Ve) (e : Ve) (k : Nat) (bl : List Blk) (h : Rig l a m P S bl e k) (x : Ed) (r : List Ed) (hw : e.v.way = x :: r) (now : Int) :
    ∃ v X, (∀ bx, world_World_Report_F bx bl [.op (.blk a) 0, .int .i64 e.v.id, .int .i64 now] = some (.tup [.agg [.int .u8 3, .int .i64 e.v.id, .int .i64 now, .int .i64 x.e, .int .i64 e.v.ahead, .bool (decide (((underL l e.v).length : Int) ≤ 12)), v], .bool true], ⟨bx, bl ++ X⟩)) ∧
      Held fI 1 (bl ++ X) v ((underL l e.v).take (min (underL l e.v).length 12)) := by
  have hem : e ∈ P ++ e :: S := by simp
  have hc := h.w.cell e hem
  have hget := wget_F h.w e.v.id
  rw [h.find] at hget
  have hp : ptrE (some e) = .op (.blk e.c) 0 := rfl
  rw [hp] at hget
  have hz : ∀ i o, binC .eql .ptr (.op i o) .nilp = some (.bool false) := fun _ _ => rfl
  have hn2 : nchkC (.op (.blk e.c) 0) = some (.op (.blk e.c) 0) := rfl
  obtain ⟨v, X, u1, u2, u3⟩ := wUnder_F hl h.w h.g.fit e.v.id
  have huE : underE l (P ++ e :: S) e.v.id = underL l e.v := by unfold underE; rw [h.find]
  rw [huE] at u2
  have hgc : ∀ bx, Heap.get ⟨bx, bl ++ X⟩ (.blk e.c) = some (veC e) := fun bx => get_blk bx _ _ _ (Grows.app bl X _ _ hc)
  obtain ⟨rest, hk⟩ := h.mine.at'
  have hgk : ∀ bx, Heap.get ⟨bx, bl ++ X⟩ (.blk k) = some (e.v.way.flatMap fE ++ rest) := fun bx => get_blk bx _ _ _ (Grows.app bl X _ _ hk)
  rw [hw] at hgk
  simp only [List.flatMap_cons, fE, List.cons_append, List.nil_append] at hgk
  have hs := h.mine.s
  rw [hw] at hs
  simp only [List.length_cons] at hs
  have hia : iaddrC 2 (.os 2 (.blk k) 0 (r.length + 1)) (.int .i64 0) = some (.op (.blk k) 0) := by
    simp [iaddrC, iaddrN]
  have hlen := u2.len
  have hlv := u2.locv
  obtain ⟨c2, t1, t2, t3⟩ := u2.held.take flatI (min (underL l e.v).length 12) (by omega)
  have t1' := t1 .i64
  have hmn := min_ii (underL l e.v).length 12
  have hcast : min ((underL l e.v).length : Int) 12 = ((min (underL l e.v).length 12 : Nat) : Int) := by omega
  have hlv2 := t2.locv
  have hch := t2.chkV
  have hcl2 : c2.cells = [c2] := by rcases t2 with h' | ⟨h', _⟩ | ⟨m', pre, rest', h', _⟩ <;> rw [h'] <;> rfl
  have hone : ones [c2] = true := by rcases t2 with h' | ⟨h', _⟩ | ⟨m', pre, rest', h', _⟩ <;> rw [h'] <;> rfl
  refine ⟨c2, X, fun bx => ?_, t2⟩
  rw [world_World_Report_F_eq]
  simp only [world_World_Report_C, world_World_get_call, hget, hz, world_World_Under_call, u1, hn2, hgc, veC, hs, hia, hgk, hlen, hlv, hmn, hcast, t1', hlv2, hch, hcl2, hone, zy, simprocAttr]
end Go.Proofs.Ytfblegjbmhgepaa.Zt
end
section
namespace Go.Proofs.Ytfblegjbmhgepaa.Zt
open Go Go.Zc
set_option maxRecDepth 10000

theorem underN_app (l : Lay) (t : List Ed) : ∀ (w : List Ed) (b : Int), 0 < b → b ≤ sumL l (w.map Ed.s) → underN l b (w ++ t) = underN l b w
  | [], b, h, h' => by simp [sumL] at h'; omega
  | x :: w, b, h, h' => by
    simp only [List.map_cons, sumL] at h'
    simp only [List.cons_append]
    unfold underN
    split
    · rfl
    · rw [underN_app l t w _ (by omega) (by omega)]
/-- Where two are, and how they may go on, is one. -/
structure Sim (l : Lay) (v v' : Vh) : Prop where
  len : v.length = v'.length
  ah : v.ahead = v'.ahead
  way : ∃ x r t t', v.way = (x :: r) ++ t ∧ v'.way = (x :: r) ++ t' ∧ v.ahead + v.length ≤ sumL l ((x :: r).map Ed.s)
  lo : 0 ≤ v.ahead
  pos : 1 ≤ v.length
theorem under_front {l : Lay} {v : Vh} {w t : List Ed} (hw : v.way = w ++ t) (h : v.ahead + v.length ≤ sumL l (w.map Ed.s)) (h0 : 0 < v.ahead + v.length) : underW l v = w.take (underN l (v.ahead + v.length) w) := by
  unfold underW
  rw [hw, underN_app l t w _ h0 h, List.take_append_of_le_length (underN_le l _ w)]
theorem Sim.under {l : Lay} {v v' : Vh} (h : Sim l v v') : underW l v = underW l v' := by
  obtain ⟨x, r, t, t', h1, h2, h3⟩ := h.way
  have := h.lo; have := h.pos; have := h.len; have := h.ah
  rw [under_front h1 h3 (by omega), under_front h2 (by omega) (by omega), h.len, h.ah]
theorem Sim.underL {l : Lay} {v v' : Vh} (h : Sim l v v') : underL l v = underL l v' := by unfold Zt.underL; rw [h.under]
theorem Sim.step {l : Lay} {v v' : Vh} (h : Sim l v v') (st : Int) (h0 : 0 ≤ st) (h1 : st ≤ v.ahead) : Sim l { v with ahead := v.ahead - st } { v' with ahead := v'.ahead - st } := by
  obtain ⟨x, r, t, t', a1, a2, a3⟩ := h.way
  have := h.pos; have := h.ah
  exact ⟨h.len, by show v.ahead - st = v'.ahead - st; omega, ⟨x, r, t, t', a1, a2, by show v.ahead - st + v.length ≤ _; omega⟩, by show 0 ≤ v.ahead - st; omega, h.pos⟩
theorem Sim.enter {l : Lay} (hl : Lens l) {right : List Bool} {v v' : Vh} (h : Sim l v v') : (enterP l right v = none ∧ enterP l right v' = none) ∨ ∃ u u', enterP l right v = some u ∧ enterP l right v' = some u' ∧ Sim l u u' := by
  have hu := h.underL
  obtain ⟨x, r, t, t', a1, a2, a3⟩ := h.way
  unfold enterP
  rw [a1, a2]
  simp only [List.cons_append]
  cases hn : next l x right with
  | none => exact .inl ⟨rfl, rfl⟩
  | some y =>
    simp only [← hu]
    by_cases hin : y.s ∈ Zt.underL l v
    · rw [if_pos hin, if_pos hin]; exact .inl ⟨rfl, rfl⟩
    · rw [if_neg hin, if_neg hin]
      refine .inr ⟨_, _, rfl, rfl, h.len, rfl, ⟨⟨y.s, 1 - y.e⟩, x :: r, t, t', rfl, rfl, ?_⟩, hl.lo _, h.pos⟩
      have := h.lo
      simp only [List.map_cons, sumL] at a3 ⊢
      omega
theorem Sim.go {l : Lay} (hl : Lens l) (right : List Bool) : ∀ (n : Nat) {v v' : Vh} (left : Int), Sim l v v' → Sim l (goP l right n v left).1 (goP l right n v' left).1 ∧ (goP l right n v left).2 = (goP l right n v' left).2
  | 0, v, v', left, h => ⟨h, rfl⟩
  | n + 1, v, v', left, h => by
    have hlo := h.lo
    unfold goP
    rw [← h.ah]
    by_cases h0 : left ≤ 0
    · rw [if_pos h0, if_pos h0]; exact ⟨h, rfl⟩
    · rw [if_neg h0, if_neg h0]
      have hs := h.step (min left v.ahead) (by omega) (by omega)
      rw [← h.ah] at hs
      by_cases h1 : left - min left v.ahead ≤ 0
      · rw [if_pos h1, if_pos h1]; exact ⟨hs, rfl⟩
      · rw [if_neg h1, if_neg h1]
        rcases hs.enter hl (right := right) with ⟨e1, e2⟩ | ⟨u, u', e1, e2, e3⟩
        · rw [e1, e2]; exact ⟨hs, rfl⟩
        · rw [e1, e2]; exact Sim.go hl right n _ e3
def enough (n : Nat) (v : Vh) (left : Int) : Prop := left + (if 0 < v.ahead then 0 else 1) ≤ n
theorem enterP_ahead {l : Lay} (hl : Lens l) {right : List Bool} (hnx : ∀ x y, next l x right = some y → 0 ≤ y.s ∧ y.s < l.secs.length) {v v' : Vh} (h : enterP l right v = some v') : 0 < v'.ahead := by
  unfold enterP at h
  split at h
  · cases h
  · split at h
    · cases h
    · rename_i y hy
      split at h
      · cases h
      · cases h
        have := hl.one y.s (hnx _ _ hy).1 (hnx _ _ hy).2
        show 0 < lenAt l y.s
        omega
theorem goP_fuel {l : Lay} (hl : Lens l) {right : List Bool} (hnx : ∀ x y, next l x right = some y → 0 ≤ y.s ∧ y.s < l.secs.length) : ∀ (n n' : Nat) (v : Vh) (left : Int), 0 ≤ left → 0 ≤ v.ahead → enough n v left → enough n' v left → goP l right n v left = goP l right n' v left
  | 0, n', v, left, h0, ha, h, h' => by
    have : left = 0 := by unfold enough at h; split at h <;> omega
    subst this
    cases n' with
    | zero => rfl
    | succ n' => simp [goP]
  | n + 1, 0, v, left, h0, ha, h, h' => by
    have : left = 0 := by unfold enough at h'; split at h' <;> omega
    subst this
    simp [goP]
  | n + 1, n' + 1, v, left, h0, ha, h, h' => by
    unfold goP
    by_cases hl0 : left ≤ 0
    · rw [if_pos hl0, if_pos hl0]
    · rw [if_neg hl0, if_neg hl0]
      by_cases h1 : left - min left v.ahead ≤ 0
      · rw [if_pos h1, if_pos h1]
      · rw [if_neg h1, if_neg h1]
        cases he : enterP l right { v with ahead := v.ahead - min left v.ahead } with
        | none => rfl
        | some u =>
          have hu := enterP_ahead hl hnx he
          unfold enough at h h'
          refine goP_fuel hl hnx n n' u _ (by omega) (by omega) ?_ ?_
          · unfold enough; rw [if_pos hu]; split at h <;> omega
          · unfold enough; rw [if_pos hu]; split at h' <;> omega
theorem goP_add {l : Lay} (hl : Lens l) {right : List Bool} (hnx : ∀ x y, next l x right = some y → 0 ≤ y.s ∧ y.s < l.secs.length) : ∀ (n N N' : Nat) (v : Vh) (A B : Int), 0 ≤ A → 0 ≤ B → 0 ≤ v.ahead → enough n v A → enough N v (A + B) → B + 1 ≤ N' →
    goP l right N v (A + B) = ((goP l right N' (goP l right n v A).1 B).1, (goP l right n v A).2 + (goP l right N' (goP l right n v A).1 B).2)
  | n, 0, N', v, A, B, hA, hB, ha, h, hN, hN' => by
    have hz : A = 0 ∧ B = 0 := by unfold enough at hN; split at hN <;> omega
    obtain ⟨rfl, rfl⟩ := hz
    have h1 : goP l right n v 0 = (v, 0) := by cases n <;> simp [goP]
    have h2 : goP l right N' v 0 = (v, 0) := by cases N' <;> simp [goP]
    rw [h1]
    simp only [h2]
    rfl
  | 0, N + 1, N', v, A, B, hA, hB, ha, h, hN, hN' => by
    have hz : A = 0 := by unfold enough at h; split at h <;> omega
    subst hz
    have h1 : goP l right 0 v 0 = (v, 0) := rfl
    rw [h1]
    simp only [Int.zero_add] at hN ⊢
    exact goP_fuel hl hnx _ _ _ _ hB ha hN (by unfold enough; split <;> omega)
  | n + 1, N + 1, N', v, A, B, hA, hB, ha, h, hN, hN' => by
    by_cases hA0 : A ≤ 0
    · have hz : A = 0 := by omega
      subst hz
      have h1 : goP l right (n + 1) v 0 = (v, 0) := by simp [goP]
      rw [h1]
      simp only [Int.zero_add] at hN ⊢
      exact goP_fuel hl hnx _ _ _ _ hB ha hN (by unfold enough; split <;> omega)
    · have e1 : goP l right (n + 1) v A = (if A - min A v.ahead ≤ 0 then ({ v with ahead := v.ahead - min A v.ahead }, A - min A v.ahead) else match enterP l right { v with ahead := v.ahead - min A v.ahead } with
          | none => ({ v with ahead := v.ahead - min A v.ahead }, A - min A v.ahead)
          | some v' => goP l right n v' (A - min A v.ahead)) := by
        conv => lhs; unfold goP
        rw [if_neg hA0]
        rfl
      have e2 : goP l right (N + 1) v (A + B) = (if A + B - min (A + B) v.ahead ≤ 0 then ({ v with ahead := v.ahead - min (A + B) v.ahead }, A + B - min (A + B) v.ahead) else match enterP l right { v with ahead := v.ahead - min (A + B) v.ahead } with
          | none => ({ v with ahead := v.ahead - min (A + B) v.ahead }, A + B - min (A + B) v.ahead)
          | some v' => goP l right N v' (A + B - min (A + B) v.ahead)) := by
        conv => lhs; unfold goP
        rw [if_neg (by omega)]
        rfl
      rw [e1, e2]
      by_cases h1 : A - min A v.ahead ≤ 0
      · rw [if_pos h1]
        have hmA : min A v.ahead = A := by omega
        rw [hmA]
        simp only [Int.sub_self, Int.zero_add]
        by_cases hB0 : B ≤ 0
        · have hz : B = 0 := by omega
          subst hz
          have h3 : goP l right N' { v with ahead := v.ahead - A } 0 = ({ v with ahead := v.ahead - A }, 0) := by cases N' <;> simp [goP]
          rw [h3]
          simp only [Int.add_zero, hmA, Int.sub_self, Int.le_refl, if_true]
        · obtain ⟨N2, rfl⟩ : ∃ N2, N' = N2 + 1 := ⟨N' - 1, by omega⟩
          have hm3 : min B (v.ahead - A) = min (A + B) v.ahead - A := by omega
          have hv : v.ahead - A - min B (v.ahead - A) = v.ahead - min (A + B) v.ahead := by omega
          have hle : B - min B (v.ahead - A) = A + B - min (A + B) v.ahead := by omega
          have e3 : goP l right (N2 + 1) { v with ahead := v.ahead - A } B = (if A + B - min (A + B) v.ahead ≤ 0 then ({ v with ahead := v.ahead - min (A + B) v.ahead }, A + B - min (A + B) v.ahead) else match enterP l right { v with ahead := v.ahead - min (A + B) v.ahead } with
              | none => ({ v with ahead := v.ahead - min (A + B) v.ahead }, A + B - min (A + B) v.ahead)
              | some v' => goP l right N2 v' (A + B - min (A + B) v.ahead)) := by
            conv => lhs; unfold goP
            rw [if_neg hB0]
            simp only [hv, hle]
            rfl
          rw [e3]
          split
          · rfl
          · rename_i hgt
            cases he : enterP l right { v with ahead := v.ahead - min (A + B) v.ahead } with
            | none => rfl
            | some u =>
              have hu := enterP_ahead hl hnx he
              simp only
              have := goP_fuel hl hnx N N2 u (A + B - min (A + B) v.ahead) (by omega) (by omega) (by unfold enough at hN ⊢; rw [if_pos hu]; split at hN <;> omega) (by unfold enough; rw [if_pos hu]; omega)
              rw [this]
      · rw [if_neg h1, if_neg (by omega)]
        have hmA : min A v.ahead = v.ahead := by omega
        have hmAB : min (A + B) v.ahead = v.ahead := by omega
        rw [hmA, hmAB]
        cases he : enterP l right { v with ahead := v.ahead - v.ahead } with
        | none =>
          simp only
          by_cases hB0 : B ≤ 0
          · have hz : B = 0 := by omega
            subst hz
            have h3 : goP l right N' { v with ahead := v.ahead - v.ahead } 0 = ({ v with ahead := v.ahead - v.ahead }, 0) := by cases N' <;> simp [goP]
            rw [h3]
            simp only [Int.add_zero]
          · obtain ⟨N2, rfl⟩ : ∃ N2, N' = N2 + 1 := ⟨N' - 1, by omega⟩
            have e3 : goP l right (N2 + 1) { v with ahead := v.ahead - v.ahead } B = ({ v with ahead := v.ahead - v.ahead }, B) := by
              conv => lhs; unfold goP
              rw [if_neg hB0]
              have hm0 : min B (v.ahead - v.ahead) = 0 := by omega
              simp only [hm0, Int.sub_zero, if_neg hB0, he]
            rw [e3]
            simp only
            congr 1
            omega
        | some u =>
          have hu := enterP_ahead hl hnx he
          simp only
          have hAB : A + B - v.ahead = (A - v.ahead) + B := by omega
          rw [hAB]
          exact goP_add hl hnx n N N' u (A - v.ahead) B (by omega) hB (by omega) (by unfold enough at h ⊢; rw [if_pos hu]; split at h <;> omega) (by unfold enough at hN ⊢; rw [if_pos hu]; split at hN <;> omega) hN'
theorem Sim.cut {l : Lay} (hl : Lens l) {v v' : Vh} (h : Sim l v v') : Sim l v { v' with way := underW l v' } := by
  obtain ⟨x, r, t, t', a1, a2, a3⟩ := h.way
  have := h.lo; have := h.pos; have h5 := h.len; have h6 := h.ah
  have hu := under_front (l := l) a2 (by omega) (by omega : 0 < v'.ahead + v'.length)
  have hs := sumL_take hl.lo (v.ahead + v.length) (x :: r) (by omega) a3
  rw [← h5, ← h6] at hu
  cases hq : (x :: r).take (underN l (v.ahead + v.length) (x :: r)) with
  | nil => rw [hq] at hs; simp [sumL] at hs; omega
  | cons y s =>
    rw [hq] at hu hs
    refine ⟨h5, h6, ⟨y, s, (x :: r).drop (underN l (v.ahead + v.length) (x :: r)) ++ t, [], ?_, by rw [List.append_nil]; exact hu, hs⟩, h.lo, h.pos⟩
    rw [a1, ← hq, ← List.append_assoc, List.take_append_drop]
end Go.Proofs.Ytfblegjbmhgepaa.Zt
end
section
namespace Go.Proofs.Ytfblegjbmhgepaa.Zt
open Go Go.Zc
set_option maxRecDepth 10000

/-- How long the law's vehicles are. -/
def addLen (l : Lay) (c : Car) : Int := if 250 ≤ c.long then carLen l c + 3 * (sumL l (carTrail l c) - carAhead l c) else carLen l c
theorem add_loop (l : Lay) (hl : Lens l) (X : List CV) (hX : CV.locs X = false) (dir ahead : Int) (trail : List Int) (ht : trail.length ≤ 1000) : ∀ (S P : List Int) (r : Int), trail = P ++ S → -1000000 ≤ r → r ≤ 1000000 + 1000 * P.length →
    l18_add_R0 ([(2, .op (.loc 2) 0), (3, .op (.loc 3) 0), (8, .int .i64 dir), (9, sl fI trail), (10, .int .i64 ahead), (11, .int .i64 r), (12, .int .i64 P.length)], ⟨[(2, layC l), (3, X)], []⟩) =
      some (.norm, [(3, .op (.loc 3) 0), (8, .int .i64 dir), (9, sl fI trail), (10, .int .i64 ahead), (11, .int .i64 (r + sumL l S))], ⟨[(3, X)], []⟩) := by
  intro S
  have hsl : CV.locs (layC l) = false := rfl
  induction S with
  | nil =>
    intro P r hP _ _
    have h1 : ¬ ((P.length : Int) < trail.length) := by rw [hP]; simp
    rw [l18_add_R0_eq]
    simp only [l18_add_B0, l18_add_K0_a, h1, hX, hsl, sumL, Int.add_zero, zy, simprocAttr]
  | cons x S ih =>
    intro P r hP hr hr2
    have hpl : P.length + 1 ≤ 1000 := by rw [hP] at ht; simp at ht; omega
    have h1 : ((P.length : Int) < trail.length) := by rw [hP]; simp; omega
    have hw := wrapN (n := P.length) (by unfold Zc.small; omega)
    have hia := iaddr_midI .i64 P S x
    rw [← hP] at hia
    have hlo := hl.lo x
    have hhi := hl.hi x
    have hw2 : IntKind.i64.wrap (r + lenAt l x) = r + lenAt l x := wrap64 (by omega) (by omega)
    have hF := fun st H => len_F l x st H
    have ih' := ih (P ++ [x]) (r + lenAt l x) (by rw [hP]; simp) (by omega) (by simp; omega)
    rw [show (P ++ [x]).length = P.length + 1 by simp] at ih'
    rw [l18_add_R0_eq]
    simp only [l18_add_B0, l18_add_K0_a, h1, hia, hw, hw2, hX, hsl, r05_Len_call, hF, ih', sumL, Int.add_assoc, zy, simprocAttr]

set_option maxHeartbeats 4000000 in
theorem add_F (l : Lay) (hl : Lens l) (c : Car) (hc : c.ok) (H : Heap) : l18_add_F false H [.agg (layC l), .agg (fCar c)] = some (.tup [sl fI (carTrail l c), .int .i64 (addLen l c), .int .i64 (carAhead l c), .int .i64 (c.end' % 2)], H) := by
  have ci := car_is hl hc
  have q1 := hc.sec; have q2 := hc.end'; have q3 := hc.length; have q4 := hc.ahead; have q5 := hc.long
  have hsn := hl.pos
  have hfw := hl.few
  obtain ⟨t, ht⟩ := ci.trail
  have e1 := ci.ahead; have e2 := ci.room; have e3 := ci.length; have e4 := ci.len
  have k1 : IntKind.i64.wrap c.sec = c.sec := wrap64 (by omega) (by omega)
  have k2 : c.sec.tmod (l.secs.length : Int) = c.sec % (l.secs.length : Int) := Int.tmod_eq_emod_of_nonneg q1.1
  have k3 : ¬ ((l.secs.length : Int) = 0) := by omega
  have k4 : c.end'.tmod 2 = c.end' % 2 := Int.tmod_eq_emod_of_nonneg q2.1
  have k5 : IntKind.i64.wrap (c.end' % 2) = c.end' % 2 := wrap64 (by omega) (by omega)
  have k6 : IntKind.i64.wrap (1 - c.end' % 2) = 1 - c.end' % 2 := wrap64 (by omega) (by omega)
  have k7 : c.long.tmod 4 = c.long % 4 := Int.tmod_eq_emod_of_nonneg q5.1
  have k8 : IntKind.i64.wrap (c.long % 4) = c.long % 4 := wrap64 (by omega) (by omega)
  have k9 : IntKind.i64.wrap (1 + c.long % 4) = ((1 + c.long % 4).toNat : Nat) := by rw [wrap64 (by omega) (by omega)]; omega
  have k10 : IntKind.i64.wrap c.ahead = c.ahead := wrap64 (by omega) (by omega)
  have k11 : c.ahead.tmod (lenAt l (c.sec % l.secs.length)) = carAhead l c := Int.tmod_eq_emod_of_nonneg q4.1
  have k12 : ¬ (lenAt l (c.sec % l.secs.length) = 0) := by omega
  have k13 : IntKind.i64.wrap c.length = c.length := wrap64 (by omega) (by omega)
  have k14 : IntKind.i64.wrap (-carAhead l c) = -carAhead l c := wrap64 (by omega) (by omega)
  have k15 : IntKind.i64.wrap (-carAhead l c + sumL l (carTrail l c) - 1) = -carAhead l c + sumL l (carTrail l c) - 1 := wrap64 (by omega) (by omega)
  have hroom : -carAhead l c + sumL l (carTrail l c) - 1 = sumL l (carTrail l c) - carAhead l c - 1 := by omega
  have hroom2 : -carAhead l c + sumL l (carTrail l c) = sumL l (carTrail l c) - carAhead l c := by omega
  rw [hroom] at k15
  have hmul0 : 0 ≤ c.length * (sumL l (carTrail l c) - carAhead l c - 1) := Int.mul_nonneg q3.1 (by omega)
  have hmul1 : c.length * (sumL l (carTrail l c) - carAhead l c - 1) ≤ 255 * 5000 := by
    refine Int.le_trans (Int.mul_le_mul_of_nonneg_right q3.2 (by omega)) ?_
    omega
  have k16 : IntKind.i64.wrap (c.length * (sumL l (carTrail l c) - carAhead l c - 1)) = c.length * (sumL l (carTrail l c) - carAhead l c - 1) := wrap64 (by omega) (by omega)
  have k17 : IntKind.i64.wrap ((c.length * (sumL l (carTrail l c) - carAhead l c - 1)).tdiv 256) = c.length * (sumL l (carTrail l c) - carAhead l c - 1) / 256 := by
    rw [Int.tdiv_eq_ediv_of_nonneg hmul0, wrap64 (by omega) (by omega)]
  have k18 : IntKind.i64.wrap (1 + c.length * (sumL l (carTrail l c) - carAhead l c - 1) / 256) = carLen l c := wrap64 (by omega) (by omega)
  have k19 : IntKind.i64.wrap (3 * (sumL l (carTrail l c) - carAhead l c)) = 3 * (sumL l (carTrail l c) - carAhead l c) := wrap64 (by omega) (by omega)
  have k20 : IntKind.i64.wrap (carLen l c + 3 * (sumL l (carTrail l c) - carAhead l c)) = carLen l c + 3 * (sumL l (carTrail l c) - carAhead l c) := wrap64 (by omega) (by omega)
  have hW : ∀ st H, r05_Walk_F st H [.agg (layC l), .int .i64 (c.sec % l.secs.length), .int .i64 (1 - c.end' % 2), sl fU c.turns, .int .i64 ((1 + c.long % 4).toNat : Nat)] = some (sl fI (carTrail l c), H) :=
    fun st H => walk_F l hl.ok (c.sec % l.secs.length) (1 - c.end' % 2) c.turns hc.turn (1 + c.long % 4).toNat (by unfold Zc.small; omega) H st
  have hi0 : iaddrC 1 (sl fI (carTrail l c)) (.int .i64 0) = some (.vp (.int .i64 (c.sec % l.secs.length) :: t.flatMap fI)) := by
    rw [ht]; exact iaddr_midI .i64 [] t _
  have hL := fun st H => len_F l (c.sec % l.secs.length) st H
  have h4 := add_loop l hl (fCar c) rfl (c.end' % 2) (carAhead l c) (carTrail l c) (by have := ci.few; omega) (carTrail l c) [] (-carAhead l c) rfl (by omega) (by simp; omega)
  simp only [List.length_nil, Int.natCast_zero, hroom2] at h4
  have hneg : unC .neg (.int .i64 (carAhead l c)) = some (.int .i64 (-carAhead l c)) := by
    simp only [unC]
    rw [show (0 : Int) - carAhead l c = -carAhead l c by omega, k14]
  simp only [layC, fCar] at h4 hW hL
  unfold addLen
  rw [l18_add_F_eq]
  by_cases h250 : 250 ≤ c.long
  · rw [if_pos h250]
    simp only [l18_add_C, fCar, k1, k2, k3, k4, k5, k6, k7, k8, k9, k10, k11, k12, k13, k14, k15, k16, k17, k18, k19, k20, r05_Walk_call, hW, hi0, r05_Len_call, hL, l18_add_L0_eq, h4, hneg, h250, ge_iff_le, layC, zy, simprocAttr]
  · rw [if_neg h250]
    simp only [l18_add_C, fCar, k1, k2, k3, k4, k5, k6, k7, k8, k9, k10, k11, k12, k13, k14, k15, k16, k17, k18, k19, k20, r05_Walk_call, hW, hi0, r05_Len_call, hL, l18_add_L0_eq, h4, hneg, h250, ge_iff_le, layC, zy, simprocAttr]
end Go.Proofs.Ytfblegjbmhgepaa.Zt
end
section
namespace Go.Proofs.Ytfblegjbmhgepaa.Zt
open Go Go.Zc
set_option maxRecDepth 10000

/-- The first vehicle of a world. -/
theorem first_F {bl : List Blk} {a m : Nat} {l : Lay} (hl : Lens l) (h : Wld bl a m l []) (id length ahead dir : Int) (trail : List Int) (hid : -9223372036854775808 ≤ id ∧ id ≤ 9223372036854775807) (ha : -1000000000 ≤ ahead ∧ ahead ≤ 1000000000) (hma : mayAdd l length ahead dir trail = true) :
    ∃ bl' e k, (∀ bx, world_World_Add_F bx bl [.op (.blk a) 0, .int .i64 id, .int .i64 length, .int .i64 ahead, .int .i64 dir, sl fI trail] = some (.int .i64 0, ⟨bx, bl'⟩)) ∧ Rig l a m [] [] bl' e k ∧ e.v = ⟨id, length, ahead, wayIn l dir trail⟩ ∧
      (∀ (j : Nat) (b : Blk), bl[j]? = some b → j ≠ m → bl'[j]? = some b) ∧ bl.length ≤ e.c ∧ bl.length ≤ k ∧ bl.length ≤ bl'.length := by
  obtain ⟨bl', e, q1, q2, q3, q4, q5, q6, q7, q8⟩ := wAdd_F hl h id length ahead dir trail ha rfl (by simp) hma
  obtain ⟨s1, ⟨x, r, s2, _⟩, _⟩ := mayAdd_ok hma id
  have hal := (List.getElem?_eq_some_iff.1 h.top).1
  have hml := (List.getElem?_eq_some_iff.1 h.map).1
  have hfit := s1.fits hl
  rcases q8 with ⟨_, h0⟩ | ⟨k, k1, k2⟩
  · rw [q3] at h0
    rw [show (⟨id, length, ahead, wayIn l dir trail⟩ : Vh).way = wayIn l dir trail from rfl] at h0
    simp only at s2
    rw [h0] at s2
    cases s2
  · have hk := q6 k (by rw [k1]; rfl)
    refine ⟨bl', e, k, q1, ⟨by simpa using q2, ⟨fun y hy => ?_, fun y hy => ?_, by simp⟩, fun y hy => (by cases hy), ⟨k1, ⟨[], by simpa using k2⟩, hk.2⟩, fun y hy => (by cases hy), ⟨by omega, by omega⟩⟩, q3, q4, q5, hk.1, q7⟩
    · have : y = e := by simpa using hy
      rw [this, q3]; exact hfit
    · have : y = e := by simpa using hy
      rw [this, q3]; exact hid
theorem car_fits {l : Lay} (hl : Lens l) {c : Car} (hc : c.ok) : fits l ⟨3, 0, 0, c.end' % 2, carAhead l c, false, carTrail l c⟩ = true := by
  have ci := car_is hl hc
  have hs0 := ci.at0; have hs1 := ci.at1
  have e1 := ci.ahead; have e4 := ci.len; have hfew := ci.few
  have q2 := hc.end'
  have hlens : ∀ x y, y ∈ around l x → lenAt l y.s ≠ 0 := fun x y h => by
    have := around_in h
    have := hl.one y.s this.1.1 this.1.2
    omega
  obtain ⟨t, w1, w2, w3, w4⟩ := walk_follows hl.apart hlens c.turns (((1 + c.long % 4).toNat : Int) - 1).toNat 0 [c.sec % l.secs.length] ⟨c.sec % l.secs.length, 1 - c.end' % 2⟩ (by simp)
  have hw : carTrail l c = (c.sec % l.secs.length) :: t := w1
  have hf := w4 (follows l) (fun _ => rfl) (fun e s r => by simp only [follows]; cases (around l e).find? (fun x => x.s == s) <;> rfl)
  have hu : unlFrom l [] ((c.sec % l.secs.length) :: t) = true := by
    rw [unlFrom_iff]
    refine ⟨by simpa using w2, fun x hx => ⟨?_, by simp⟩⟩
    rcases List.mem_cons.1 hx with rfl | hx
    · omega
    · exact w3 x hx
  rw [hw] at hfew
  unfold fits
  simp only [hw, hu, hf, Bool.and_true, Bool.and_eq_true, decide_eq_true_eq]
  simp only [List.length_cons, and_true, true_and] at hfew ⊢
  omega
/-- The law's vehicles may come. -/
theorem car_may {l : Lay} (hl : Lens l) {c : Car} (hc : c.ok) (h : c.long < 200) : mayAdd l (addLen l c) (carAhead l c) (c.end' % 2) (carTrail l c) = true := by
  have ci := car_is hl hc
  obtain ⟨t, ht⟩ := ci.trail
  have e1 := ci.ahead; have e2 := ci.room; have e3 := ci.length
  have hlen := hc.length
  have hf := car_fits hl hc
  unfold mayAdd addLen
  rw [hf, if_neg (by omega)]
  simp only [Bool.true_and, Bool.and_eq_true, decide_eq_true_eq]
  refine ⟨⟨by rw [ht]; exact e1.2, e3.1⟩, ?_⟩
  have h9 : c.length * (sumL l (carTrail l c) - carAhead l c - 1) ≤ 255 * (sumL l (carTrail l c) - carAhead l c - 1) := Int.mul_le_mul_of_nonneg_right hlen.2 (by omega)
  unfold carLen
  omega
end Go.Proofs.Ytfblegjbmhgepaa.Zt
end
section
namespace Go.Proofs.Ytfblegjbmhgepaa.Zt
open Go Go.Zc
set_option maxRecDepth 10000

theorem Sim.of {l : Lay} {v : Vh} (hs : Sound l v) (hw : v.way ≠ []) : Sim l v v := by
  cases hq : v.way with
  | nil => exact absurd hq hw
  | cons x r =>
    have := hs.room
    rw [hq] at this
    exact ⟨rfl, rfl, ⟨x, r, [], [], by simpa using hq, by simpa using hq, this⟩, hs.ahead, hs.pos⟩
theorem next_is {l : Lay} {right : List Bool} : ∀ x y, next l x right = some y → (0 ≤ y.s ∧ y.s < l.secs.length) ∧ -1000 ≤ y.e ∧ y.e ≤ 1000 := fun x y h => by
  obtain ⟨h1, h2⟩ := around_in (next_mem h)
  exact ⟨h1, by omega, by omega⟩
theorem goes_law {l : Lay} (hl : Lens l) (right : List Bool) (v : Vh) (hs : Sound l v) (hw : v.way ≠ []) (A B : Int) (hA : 0 ≤ A) (hB : 0 ≤ B) :
    (A - (goP l right (A.toNat + 1) v A).2) + (B - (goP l right (B.toNat + 1) (cutP l (goP l right (A.toNat + 1) v A).1) B).2) = A + B - (goP l right ((A + B).toNat + 1) v (A + B)).2 ∧
    Sim l (cutP l (goP l right ((A + B).toNat + 1) v (A + B)).1) (cutP l (goP l right (B.toNat + 1) (cutP l (goP l right (A.toNat + 1) v A).1) B).1) ∧
    (cutP l (goP l right ((A + B).toNat + 1) v (A + B)).1).way = (cutP l (goP l right (B.toNat + 1) (cutP l (goP l right (A.toNat + 1) v A).1) B).1).way := by
  have hnx : ∀ x y, next l x right = some y → 0 ≤ y.s ∧ y.s < l.secs.length := fun x y h => (next_is x y h).1
  have s0 := Sim.of hs hw
  have s1 := (s0.go hl right (A.toNat + 1) A).1
  have s2 : Sim l (goP l right (A.toNat + 1) v A).1 (cutP l (goP l right (A.toNat + 1) v A).1) := s1.cut hl
  have ha := hs.ahead
  have e := goP_add hl hnx (A.toNat + 1) ((A + B).toNat + 1) (B.toNat + 1) v A B hA hB ha (by unfold enough; split <;> omega) (by unfold enough; split <;> omega) (by omega)
  obtain ⟨s3, s4⟩ := s2.go hl right (B.toNat + 1) B
  rw [e]
  simp only
  refine ⟨by omega, ?_, s3.under⟩
  have t1 := s3.cut hl
  obtain ⟨x, r, t, t', b1, b2, b3⟩ := t1.way
  have s3' : Sim l (goP l right (B.toNat + 1) (cutP l (goP l right (A.toNat + 1) v A).1) B).1 (goP l right (B.toNat + 1) (goP l right (A.toNat + 1) v A).1 B).1 := by
    obtain ⟨x, r, t, t', b1, b2, b3⟩ := s3.way
    exact ⟨s3.len.symm, s3.ah.symm, ⟨x, r, t', t, b2, b1, by have := s3.len; have := s3.ah; omega⟩, by have := s3.ah; have := s3.lo; omega, by have := s3.len; have := s3.pos; omega⟩
  have t2 := s3'.cut hl
  have t3 := s3.under
  have t4 : (cutP l (goP l right (B.toNat + 1) (goP l right (A.toNat + 1) v A).1 B).1).way = (cutP l (goP l right (B.toNat + 1) (cutP l (goP l right (A.toNat + 1) v A).1) B).1).way := t3
  obtain ⟨x2, r2, u, u', c1, c2, c3⟩ := t2.way
  refine ⟨s3.len, s3.ah, ⟨x2, r2, u', u', c2, by rw [← t4]; exact c2, ?_⟩, s3.lo, s3.pos⟩
  have h1 := s3.len; have h2 := s3.ah
  show (goP l right (B.toNat + 1) (goP l right (A.toNat + 1) v A).1 B).1.ahead + (goP l right (B.toNat + 1) (goP l right (A.toNat + 1) v A).1 B).1.length ≤ _
  omega
theorem goP_left {l : Lay} {right : List Bool} : ∀ (n : Nat) (v : Vh) (left : Int), 0 ≤ left → 0 ≤ v.ahead → (∀ x y, next l x right = some y → 0 ≤ lenAt l y.s) → 0 ≤ (goP l right n v left).2 ∧ (goP l right n v left).2 ≤ left
  | 0, v, left, h, _, _ => ⟨h, Int.le_refl _⟩
  | n + 1, v, left, h, ha, hp => by
    unfold goP
    by_cases h0 : left ≤ 0
    · rw [if_pos h0]; exact ⟨h, Int.le_refl _⟩
    · rw [if_neg h0]
      by_cases h1 : left - min left v.ahead ≤ 0
      · rw [if_pos h1]; simp only; omega
      · rw [if_neg h1]
        cases he : enterP l right { v with ahead := v.ahead - min left v.ahead } with
        | none => simp only; omega
        | some u =>
          obtain ⟨_, _, _, x, r, y, _, hy, hu⟩ := enterP_way he
          have := goP_left n u (left - min left v.ahead) (by omega) (by rw [hu]; exact hp x y hy) hp
          simp only
          omega
end Go.Proofs.Ytfblegjbmhgepaa.Zt
end
section
namespace Go.Proofs.Ytfblegjbmhgepaa.Zt
open Go Go.Zc
set_option maxRecDepth 100000

theorem enters_F (st : Bool) (H : Heap) : l18_enters_F st H [] = some (.bool true, H) := by cases st <;> exact fz_run 100 (by kernel_rfl)
end Go.Proofs.Ytfblegjbmhgepaa.Zt
end
section
namespace Go.Proofs.Ytfblegjbmhgepaa.Zt
open Go Go.Zc
set_option maxRecDepth 10000

theorem goP_len {l : Lay} {right : List Bool} : ∀ (n : Nat) (v : Vh) (left : Int), (goP l right n v left).1.way.length ≤ v.way.length + n
  | 0, v, left => by simp [goP]
  | n + 1, v, left => by
    unfold goP
    split
    · simp only; omega
    · split
      · simp only; omega
      · cases he : enterP l right { v with ahead := v.ahead - min left v.ahead } with
        | none => simp only; omega
        | some u =>
          obtain ⟨_, _, h3, _⟩ := enterP_way he
          have := goP_len (l := l) (right := right) n u (left - min left v.ahead)
          have h3' : u.way.length = v.way.length + 1 := h3
          simp only
          omega
theorem goP_id {l : Lay} {right : List Bool} : ∀ (n : Nat) (v : Vh) (left : Int), (goP l right n v left).1.id = v.id
  | 0, v, left => rfl
  | n + 1, v, left => by
    unfold goP
    split
    · rfl
    · split
      · rfl
      · cases he : enterP l right { v with ahead := v.ahead - min left v.ahead } with
        | none => rfl
        | some u =>
          obtain ⟨h1, _⟩ := enterP_way he
          exact (goP_id (l := l) (right := right) n u (left - min left v.ahead)).trans h1
theorem cut_len {l : Lay} (v : Vh) : (cutP l v).way.length ≤ v.way.length := by
  show (underW l v).length ≤ _
  unfold underW
  rw [List.length_take]
  omega
structure GoesRun (l : Lay) (v : Vh) (dir : Int) (trail : List Int) (right : List Bool) (A B : Int) (b1 b2 b3 b4 b5 b6 X1 X2 Y1 Y2 : List Blk) (va vb vc : Vh) (x1 x2 y1 y2 : Int) (t1 t2 u1 u2 : CV) : Prop where
  n0 : ∀ bx, world_New_F bx [] [.agg (layC l)] = some (.op (.blk 1) 0, ⟨bx, [.map [], .cells (worldC l 0)]⟩)
  n1 : ∀ bx, world_New_F bx [.map [], .cells (worldC l 0)] [.agg (layC l)] = some (.op (.blk 3) 0, ⟨bx, b1⟩)
  f1 : ∀ bx, world_World_Add_F bx b1 [.op (.blk 1) 0, .int .i64 3, .int .i64 v.length, .int .i64 v.ahead, .int .i64 dir, sl fI trail] = some (.int .i64 0, ⟨bx, b2⟩)
  f2 : ∀ bx, world_World_Add_F bx b2 [.op (.blk 3) 0, .int .i64 3, .int .i64 v.length, .int .i64 v.ahead, .int .i64 dir, sl fI trail] = some (.int .i64 0, ⟨bx, b3⟩)
  gA : ∀ bx, world_World_Go_F bx b3 [.op (.blk 1) 0, .int .i64 3, .int .i64 A, sl fB right] = some (.tup [.int .i64 (A - (goP l right (A.toNat + 1) v A).2), .int .i64 0], ⟨bx, b4⟩)
  gB : ∀ bx, world_World_Go_F bx b4 [.op (.blk 1) 0, .int .i64 3, .int .i64 B, sl fB right] = some (.tup [.int .i64 (B - (goP l right (B.toNat + 1) va B).2), .int .i64 0], ⟨bx, b5⟩)
  gC : ∀ bx, world_World_Go_F bx b5 [.op (.blk 3) 0, .int .i64 3, .int .i64 (A + B), sl fB right] = some (.tup [.int .i64 (A + B - (goP l right ((A + B).toNat + 1) v (A + B)).2), .int .i64 0], ⟨bx, b6⟩)
  r1 : ∀ bx, world_World_Report_F bx b6 [.op (.blk 1) 0, .int .i64 3, .int .i64 1] = some (.tup [.agg [.int .u8 3, .int .i64 3, .int .i64 1, .int .i64 x1, .int .i64 vb.ahead, .bool (decide (((underL l vb).length : Int) ≤ 12)), t1], .bool true], ⟨bx, b6 ++ X1⟩)
  r2 : ∀ bx, world_World_Report_F bx (b6 ++ X1) [.op (.blk 3) 0, .int .i64 3, .int .i64 1] = some (.tup [.agg [.int .u8 3, .int .i64 3, .int .i64 1, .int .i64 x2, .int .i64 vc.ahead, .bool (decide (((underL l vc).length : Int) ≤ 12)), t2], .bool true], ⟨bx, b6 ++ X1 ++ X2⟩)
  u1' : ∀ bx, world_World_Under_F bx (b6 ++ X1 ++ X2) [.op (.blk 1) 0, .int .i64 3] = some (u1, ⟨bx, b6 ++ X1 ++ X2 ++ Y1⟩)
  u2' : ∀ bx, world_World_Under_F bx (b6 ++ X1 ++ X2 ++ Y1) [.op (.blk 3) 0, .int .i64 3] = some (u2, ⟨bx, b6 ++ X1 ++ X2 ++ Y1 ++ Y2⟩)
  o1 : Own fI 1 (b6 ++ X1 ++ X2 ++ Y1 ++ Y2) u1 (underL l vb)
  o2 : Own fI 1 (b6 ++ X1 ++ X2 ++ Y1 ++ Y2) u2 (underL l vc)
  va' : va = cutP l (goP l right (A.toNat + 1) v A).1
  vb' : vb = cutP l (goP l right (B.toNat + 1) va B).1
  vc' : vc = cutP l (goP l right ((A + B).toNat + 1) v (A + B)).1
  x1' : ∃ x r, vb.way = x :: r ∧ x1 = x.e
  x2' : ∃ x r, vc.way = x :: r ∧ x2 = x.e
  h1 : Held fI 1 (b6 ++ X1) t1 ((underL l vb).take (min (underL l vb).length 12))
  h2 : Held fI 1 (b6 ++ X1 ++ X2) t2 ((underL l vc).take (min (underL l vc).length 12))

theorem goes_run (l : Lay) (hl : Lens l) (length ahead dir : Int) (trail : List Int) (ha : -1000000000 ≤ ahead ∧ ahead ≤ 1000000000) (hma : mayAdd l length ahead dir trail = true) (right : List Bool) (A B : Int) (hA : 0 ≤ A ∧ A < 1000) (hB : 0 ≤ B ∧ B < 1000) :
    ∃ b1 b2 b3 b4 b5 b6 X1 X2 Y1 Y2 va vb vc x1 x2 y1 y2 t1 t2 u1 u2, GoesRun l ⟨3, length, ahead, wayIn l dir trail⟩ dir trail right A B b1 b2 b3 b4 b5 b6 X1 X2 Y1 Y2 va vb vc x1 x2 y1 y2 t1 t2 u1 u2 := by
  obtain ⟨hs, ⟨x0, r0, hx0, _⟩, _⟩ := mayAdd_ok hma 3
  have hw0 : (⟨3, length, ahead, wayIn l dir trail⟩ : Vh).way ≠ [] := by rw [hx0]; simp
  have hfew := hs.few hl
  have W0 : Wld [.map [], .cells (worldC l 0)] 1 0 l [] := wNew_W l []
  have N0 := fun bx => wNew_F l [] bx
  have N1 := fun bx => wNew_F l [.map [], .cells (worldC l 0)] bx
  have W2 : Wld ([.map [], .cells (worldC l 0)] ++ [.map []] ++ [.cells (worldC l 2)]) 3 2 l [] := wNew_W l [.map [], .cells (worldC l 0)]
  have W1 : Wld ([.map [], .cells (worldC l 0)] ++ [.map []] ++ [.cells (worldC l 2)]) 1 0 l [] := W0.keep ((Grows.app _ _).trans (Grows.app _ _))
  generalize hb1 : ([.map [], .cells (worldC l 0)] ++ [.map []] ++ [.cells (worldC l 2)] : List Blk) = b1 at *
  have hb1l : b1.length = 4 := by rw [← hb1]; rfl
  obtain ⟨b2, e1, k1, f1, R1, v1, K1, c1, c1', n1⟩ := first_F hl W1 3 length ahead dir trail (by omega) ha hma
  have W2' : Wld b2 3 2 l [] := ⟨K1 _ _ W2.top (by decide), K1 _ _ W2.map (by decide), fun e he => (by cases he), fun e he => (by cases he)⟩
  obtain ⟨b3, e2, k2, f2, R2, v2, K2, c2, c2', n2⟩ := first_F hl W2' 3 length ahead dir trail (by omega) ha hma
  have hlt : ∀ {bl : List Blk} {j : Nat} {b : Blk}, bl[j]? = some b → j < bl.length := fun hj => (List.getElem?_eq_some_iff.1 hj).1
  have le1 := hlt (R1.w.cell e1 (by simp))
  obtain ⟨_, at1⟩ := R1.mine.at'
  have lk1 := hlt at1
  have le2 := hlt (R2.w.cell e2 (by simp))
  obtain ⟨_, at2⟩ := R2.mine.at'
  have lk2 := hlt at2
  have s1 : blkOf e1.s = some k1 := by rw [R1.mine.s]; rfl
  have s2 : blkOf e2.s = some k2 := by rw [R2.mine.s]; rfl
  have R1' : Rig l 1 0 [] [] b3 e1 k1 := R1.far (c := 2) (q := 2) ⟨n2, fun j b hj h _ => K2 j b hj h⟩ (by omega) (by omega) (fun x hx => by
    have : x = e1 := by simpa using hx
    subst this
    rw [s1]
    simp only [ne_eq, Option.some.injEq]
    omega)
  obtain ⟨b4, ea, ka, Ra, va, ca, qa, KA, gA⟩ := wGo_F l hl 1 0 [] [] right next_is e1 k1 b3 R1' A (by omega) (by rw [v1]; exact hw0) (by rw [v1]; omega)
  have R2a : Rig l 3 2 [] [] b4 e2 k2 := R2.far KA (by omega) (by omega) (fun x hx => by
    have : x = e2 := by simpa using hx
    subst this
    rw [s2]
    simp only [ne_eq, Option.some.injEq]
    omega)
  have hla := (Ra.g.fit ea (by simp)).way
  have hmA : max A 0 = A := by omega
  have hmB : max B 0 = B := by omega
  have hmC : max (A + B) 0 = A + B := by omega
  rw [hmA, v1] at gA va
  have hsim := Sim.of hs hw0
  have sA := (hsim.go hl right (A.toNat + 1) A).1
  have sA2 := sA.cut hl
  obtain ⟨xa, ra, _, _, _, wa, _⟩ := sA2.way
  have hwa : ea.v.way ≠ [] := by rw [va]; show (cutP l _).way ≠ []; unfold cutP; rw [wa]; simp
  have hwl : ea.v.way.length ≤ 80000 := by
    rw [va]
    have h1 := cut_len (l := l) (goP l right (A.toNat + 1) ⟨3, length, ahead, wayIn l dir trail⟩ A).1
    have h2 := goP_len (l := l) (right := right) (A.toNat + 1) ⟨3, length, ahead, wayIn l dir trail⟩ A
    have := hfew.1
    omega
  obtain ⟨b5, eb, kb, Rb, vb, cb, qb, KB, gB⟩ := wGo_F l hl 1 0 [] [] right next_is ea ka b4 Ra B (by omega) hwa hwl
  have KAl := KA.1
  have R2b : Rig l 3 2 [] [] b5 e2 k2 := R2a.far KB (by omega) (by omega) (fun x hx => by
    have : x = e2 := by simpa using hx
    subst this
    rw [s2]
    simp only [ne_eq, Option.some.injEq]
    omega)
  obtain ⟨b6, ec, kc, Rc, vc, cc, qc, KC, gC⟩ := wGo_F l hl 3 2 [] [] right next_is e2 k2 b5 R2b (A + B) (by omega) (by rw [v2]; exact hw0) (by rw [v2]; omega)
  rw [hmC, v2] at gC vc
  rw [hmB] at gB vb
  have sb : blkOf eb.s = some kb := by rw [Rb.mine.s]; rfl
  have KBl := KB.1
  have Rb' : Rig l 1 0 [] [] b6 eb kb := Rb.far KC (by omega) (by omega) (fun x hx => by
    have : x = eb := by simpa using hx
    subst this
    rw [sb]
    simp only [ne_eq, Option.some.injEq]
    omega)
  obtain ⟨_, gs, gw⟩ := goes_law hl right ⟨3, length, ahead, wayIn l dir trail⟩ hs hw0 A B hA.1 hB.1
  rw [← va, ← vb, ← vc] at gs gw
  have j1 : e1.v.id = 3 := by rw [v1]
  have j2 : e2.v.id = 3 := by rw [v2]
  have ja : ea.v.id = 3 := by rw [va]; exact goP_id (l := l) (right := right) _ ⟨3, length, ahead, wayIn l dir trail⟩ _
  have jb : eb.v.id = 3 := by rw [vb]; exact (goP_id (l := l) (right := right) _ ea.v _).trans ja
  have jc : ec.v.id = 3 := by rw [vc]; exact goP_id (l := l) (right := right) _ ⟨3, length, ahead, wayIn l dir trail⟩ _
  rw [ja] at gB
  obtain ⟨xb, rb, tb, tb', wb, wb', _⟩ := gs.way
  obtain ⟨t1, X1, p1, p2⟩ := wReport_F l hl 1 0 [] [] eb kb b6 Rb' xb (rb ++ tb') (by rw [wb']; rfl) 1
  obtain ⟨t2, X2, p3, p4⟩ := wReport_F l hl 3 2 [] [] ec kc (b6 ++ X1) (Rc.grow X1) xb (rb ++ tb) (by rw [wb]; rfl) 1
  have Rb2 := (Rb'.grow X1).grow X2
  obtain ⟨u1, Y1, y1, y2, y3⟩ := wUnder_F hl Rb2.w Rb2.g.fit eb.v.id
  have Rc2 := ((Rc.grow X1).grow X2).grow Y1
  obtain ⟨u2, Y2, y4, y5, y6⟩ := wUnder_F hl Rc2.w Rc2.g.fit ec.v.id
  have hub : underE l ([] ++ eb :: []) eb.v.id = underL l eb.v := by unfold underE; rw [Rb2.find]
  have huc : underE l ([] ++ ec :: []) ec.v.id = underL l ec.v := by unfold underE; rw [Rc2.find]
  rw [hub] at y2
  rw [huc] at y5
  rw [jb] at p1 y1
  rw [jc] at p3 y4
  refine ⟨b1, b2, b3, b4, b5, b6, X1, X2, Y1, Y2, ea.v, eb.v, ec.v, xb.e, xb.e, 0, 0, t1, t2, u1, u2, N0, ?_, f1, f2, gA, gB, gC, p1, p3, y1, y4, ?_, y5, va, vb, vc, ⟨xb, rb ++ tb', by rw [wb']; rfl, rfl⟩, ⟨xb, rb ++ tb, by rw [wb]; rfl, rfl⟩, p2, p4⟩
  · intro bx
    exact N1 bx
  · rcases y2 with h' | ⟨q, h1', h2'⟩
    · exact .inl h'
    · exact .inr ⟨q, h1', Grows.app _ Y2 _ _ h2'⟩
end Go.Proofs.Ytfblegjbmhgepaa.Zt
end
section
namespace Go.Proofs.Ytfblegjbmhgepaa.Zt
open Go Go.Zc
set_option maxRecDepth 10000

theorem underN_mono {l : Lay} (hl : ∀ s, 0 ≤ lenAt l s) : ∀ (w : List Ed) (b b' : Int), b ≤ b' → underN l b w ≤ underN l b' w
  | [], b, b', _ => by simp [underN]
  | x :: w, b, b', h => by
    have := underN_mono hl w (b - lenAt l x.s) (b' - lenAt l x.s) (by omega)
    unfold underN
    split <;> split <;> omega
theorem back_under {l : Lay} (hl : ∀ s, 0 ≤ lenAt l s) : ∀ (w : List Ed), (∀ x ∈ w, 1 ≤ lenAt l x.s) → ∀ (c k : Int), 0 ≤ c → 0 < k → c + k ≤ sumL l (w.map Ed.s) →
    ∃ j, (backW l c w).2 = w.drop j ∧ 0 ≤ (backW l c w).1 ∧ (backW l c w).1 ≤ c ∧ (c = 0 → j = 0) ∧ (0 < c → j ≤ underN l c w) ∧ j + underN l ((backW l c w).1 + k) (w.drop j) = underN l (c + k) w ∧ j < w.length ∧ (backW l c w).1 + k ≤ sumL l ((w.drop j).map Ed.s)
  | [], _, c, k, h, hk, hs => by simp only [List.map_nil, sumL] at hs; omega
  | x :: w, hp, c, k, h, hk, hs => by
    have hx := hp x (by simp)
    simp only [List.map_cons, sumL] at hs
    by_cases hc : lenAt l x.s ≤ c
    · obtain ⟨j, e1, e2, e3, e4, e5, e6, e7, e8⟩ := back_under hl w (fun y hy => hp y (by simp [hy])) (c - lenAt l x.s) k (by omega) hk (by omega)
      have hb : backW l c (x :: w) = backW l (c - lenAt l x.s) w := by
        conv => lhs; unfold backW
        rw [if_pos hc]
      have hu : underN l (c + k) (x :: w) = underN l (c - lenAt l x.s + k) w + 1 := by
        conv => lhs; unfold underN
        rw [if_neg (by omega), show c + k - lenAt l x.s = c - lenAt l x.s + k by omega]
      refine ⟨j + 1, by rw [hb, e1]; rfl, by rw [hb]; exact e2, by rw [hb]; omega, fun h0 => by omega, fun _ => ?_, ?_, by simp only [List.length_cons]; omega, by rw [hb]; exact e8⟩
      · by_cases h0 : c - lenAt l x.s ≤ 0
        · have := e4 (by omega)
          have := underN_pos l c x w
          omega
        · have h1 : underN l c (x :: w) = underN l (c - lenAt l x.s) w + 1 := by
            conv => lhs; unfold underN
            rw [if_neg h0]
          have := e5 (by omega)
          omega
      · rw [hb, hu]
        show j + 1 + underN l _ (w.drop j) = _
        omega
    · have hb : backW l c (x :: w) = (c, x :: w) := by
        conv => lhs; unfold backW
        rw [if_neg hc]
      refine ⟨0, by rw [hb]; rfl, by rw [hb]; exact h, by rw [hb]; exact Int.le_refl _, fun _ => rfl, fun _ => by omega, by rw [hb]; simp, by simp, by rw [hb]; simpa [sumL] using hs⟩
/-- The way of a vehicle that may be where it is. -/
structure Sits (l : Lay) (v : Vh) : Prop where
  pos : 1 ≤ v.length
  ahead : 0 ≤ v.ahead
  room : v.ahead + v.length ≤ sumL l (v.way.map Ed.s)
  lens : ∀ x ∈ v.way, 1 ≤ lenAt l x.s
theorem Sits.back {l : Lay} (hl : ∀ s, 0 ≤ lenAt l s) {v : Vh} (h : Sits l v) {k : Int} (hk : 1 ≤ k) (hk' : k < v.length) (id : Int) :
    ∃ n j : Nat, 1 ≤ n ∧ n ≤ (underL l v).length ∧ j ≤ n ∧ j < (underL l v).length ∧
      underL l { v with length := v.length - k } = (underL l v).take n ∧ underL l ⟨id, k, (backW l (v.ahead + v.length - k) v.way).1, (backW l (v.ahead + v.length - k) v.way).2⟩ = (underL l v).drop j := by
  have h1 := h.pos; have h2 := h.ahead; have h3 := h.room
  obtain ⟨j, e1, e2, e3, e4, e5, e6, e7, e8⟩ := back_under hl v.way h.lens (v.ahead + v.length - k) k (by omega) (by omega) (by omega)
  have hm := underN_mono hl v.way (v.ahead + v.length - k) (v.ahead + v.length) (by omega)
  have hle := underN_le l (v.ahead + v.length) v.way
  have hlen : (underL l v).length = underN l (v.ahead + v.length) v.way := by
    unfold underL underW
    rw [List.length_map, List.length_take]
    omega
  rw [show v.ahead + v.length - k + k = v.ahead + v.length by omega] at e6
  have e5' := e5 (by omega)
  have hpos : 1 ≤ underN l (v.ahead + v.length - k) v.way := by
    cases hw : v.way with
    | nil => rw [hw] at e7; simp at e7
    | cons x r => exact underN_pos l _ x r
  have hsub : 1 ≤ underN l ((backW l (v.ahead + v.length - k) v.way).1 + k) (v.way.drop j) := by
    cases hw : v.way.drop j with
    | nil =>
      have : (v.way.drop j).length = 0 := by rw [hw]; rfl
      rw [List.length_drop] at this
      omega
    | cons x r => exact underN_pos l _ x r
  refine ⟨underN l (v.ahead + v.length - k) v.way, j, hpos, by omega, e5', by omega, ?_, ?_⟩
  · unfold underL underW
    simp only
    rw [show v.ahead + (v.length - k) = v.ahead + v.length - k by omega, ← List.map_take, List.take_take, Nat.min_eq_left hm]
  · unfold underL underW
    simp only
    rw [e1, ← List.map_drop, List.drop_take]
    congr 2
    omega
/-- One after the other: the sections of both are those of the whole. -/
theorem rise_parts (u : List Int) (n j : Nat) (h : j ≤ n) : rise (u.take n ++ u.drop j) = rise u := by
  have hs : ∀ {a b : List Int}, a.Pairwise (· < ·) → b.Pairwise (· < ·) → (∀ y, y ∈ a ↔ y ∈ b) → a = b := by
    intro a
    induction a with
    | nil =>
      intro b _ _ hm
      cases b with
      | nil => rfl
      | cons y b => exact absurd ((hm y).2 (by simp)) (by simp)
    | cons x a ih =>
      intro b ha hb hm
      cases b with
      | nil => exact absurd ((hm x).1 (by simp)) (by simp)
      | cons y b =>
        obtain ⟨a1, a2⟩ := List.pairwise_cons.1 ha
        obtain ⟨b1, b2⟩ := List.pairwise_cons.1 hb
        have hxy : x = y := by
          rcases List.mem_cons.1 ((hm x).1 (by simp)) with h1 | h1
          · exact h1
          · rcases List.mem_cons.1 ((hm y).2 (by simp)) with h2 | h2
            · exact h2.symm
            · have := a1 y h2; have := b1 x h1; omega
        subst hxy
        rw [ih a2 b2]
        intro z
        have := hm z
        simp only [List.mem_cons] at this
        constructor
        · intro hz
          rcases this.1 (.inr hz) with h1 | h1
          · have := a1 z hz; omega
          · exact h1
        · intro hz
          rcases this.2 (.inr hz) with h1 | h1
          · have := b1 z hz; omega
          · exact h1
  refine hs (rise_sorted _) (rise_sorted _) fun y => ?_
  rw [rise_mem, rise_mem, List.mem_append]
  constructor
  · rintro (h1 | h1)
    · exact List.mem_of_mem_take h1
    · exact List.mem_of_mem_drop h1
  · intro h1
    obtain ⟨i, hi, he⟩ := List.getElem_of_mem h1
    by_cases hin : i < n
    · exact .inl (by rw [← he]; exact List.mem_take_iff_getElem.2 ⟨i, by omega, rfl⟩)
    · exact .inr (by rw [← he]; exact List.mem_drop_iff_getElem.2 ⟨i - j, by omega, by congr 1; omega⟩)
theorem goP_there {l : Lay} {right : List Bool} : ∀ (n : Nat) (v : Vh) (left : Int), (∀ x ∈ v.way, 0 ≤ x.s ∧ x.s < l.secs.length) → ∀ x ∈ (goP l right n v left).1.way, 0 ≤ x.s ∧ x.s < l.secs.length
  | 0, v, left, h => h
  | n + 1, v, left, h => by
    unfold goP
    split
    · exact h
    · split
      · exact h
      · cases he : enterP l right { v with ahead := v.ahead - min left v.ahead } with
        | none => exact h
        | some u =>
          refine goP_there n u _ fun x hx => ?_
          unfold enterP at he
          split at he
          · cases he
          · split at he
            · cases he
            · rename_i y hy
              split at he
              · cases he
              · cases he
                rcases List.mem_cons.1 hx with rfl | hx
                · exact (next_is _ y hy).1
                · exact h x hx
theorem Sits.of {l : Lay} (hl : Lens l) {right : List Bool} {v : Vh} (hs : Sound l v) (hw : v.way ≠ []) (n : Nat) (left : Int) : Sits l (cutP l (goP l right n v left).1) := by
  have s1 := ((Sim.of hs hw).go hl right n left).1
  obtain ⟨x, r, t, t', w1, w2, w3⟩ := (s1.cut hl).way
  have ht := goP_there (right := right) n v left (fun x hx => (hs.there x hx).1)
  have h1 : (cutP l (goP l right n v left).1).length = (goP l right n v left).1.length := rfl
  have h2 : (cutP l (goP l right n v left).1).ahead = (goP l right n v left).1.ahead := rfl
  have hadd : ∀ a b : List Ed, sumL l ((a ++ b).map Ed.s) = sumL l (a.map Ed.s) + sumL l (b.map Ed.s) := by
    intro a b
    induction a with
    | nil => simp [sumL]
    | cons x a ih => simp only [List.cons_append, List.map_cons, sumL, ih]; omega
  have hpos : ∀ a : List Ed, 0 ≤ sumL l (a.map Ed.s) := by
    intro a
    induction a with
    | nil => simp [sumL]
    | cons x a ih => have := hl.lo x.s; simp only [List.map_cons, sumL]; omega
  refine ⟨s1.pos, s1.lo, ?_, fun y hy => ?_⟩
  · have w2' : (cutP l (goP l right n v left).1).way = (x :: r) ++ t' := w2
    rw [w2', hadd, h1, h2]
    have := hpos t'
    omega
  · have hy' := ht y (List.mem_of_mem_take (show y ∈ (goP l right n v left).1.way.take _ from hy))
    exact hl.one y.s hy'.1 hy'.2
end Go.Proofs.Ytfblegjbmhgepaa.Zt
end
section
namespace Go.Proofs.Ytfblegjbmhgepaa.Zt
open Go Go.Zc
set_option maxRecDepth 10000

/-- The other one's turn. -/
theorem Rig.swap {l : Lay} {a m k q : Nat} {bl : List Blk} {e x : Ve} (h : Rig l a m [x] [] bl e k) (hx : Mine bl x q) (hq : a ≠ q ∧ m ≠ q) : Rig l a m [] [e] bl x q := by
  obtain ⟨o1, o2, o3, o4⟩ := h.o x (by simp)
  have sx : blkOf x.s = some q := by rw [hx.s]; rfl
  have se : blkOf e.s = some k := by rw [h.mine.s]; rfl
  rw [sx] at o3 o4
  simp only [ne_eq, Option.some.injEq] at o3 o4
  refine ⟨h.w, h.g, fun y hy => (by cases hy), hx, fun y hy => ?_, hq⟩
  have : y = e := by simpa using hy
  subst this
  rw [se]
  simp only [ne_eq, Option.some.injEq]
  exact ⟨fun e => o1 e.symm, fun e => o3 e.symm, fun e => o2 e.symm, fun e => o4 e.symm⟩
/-- A second vehicle. -/
theorem second_F {bl : List Blk} {a m : Nat} {l : Lay} (hl : Lens l) (e : Ve) (k : Nat) (h : Rig l a m [] [] bl e k) (id length ahead dir : Int) (trail : List Int) (hid : -9223372036854775808 ≤ id ∧ id ≤ 9223372036854775807) (hne : e.v.id ≠ id) (ha : -1000000000 ≤ ahead ∧ ahead ≤ 1000000000) (hma : mayAdd l length ahead dir trail = true) :
    ∃ bl' e2 k2, (∀ bx, world_World_Add_F bx bl [.op (.blk a) 0, .int .i64 id, .int .i64 length, .int .i64 ahead, .int .i64 dir, sl fI trail] = some (.int .i64 0, ⟨bx, bl'⟩)) ∧ Rig l a m [e] [] bl' e2 k2 ∧ Mine bl' e k ∧ e2.v = ⟨id, length, ahead, wayIn l dir trail⟩ ∧
      bl.length ≤ e2.c ∧ bl.length ≤ k2 ∧ bl.length ≤ bl'.length ∧ (∀ (j : Nat) (b : Blk), bl[j]? = some b → j ≠ m → bl'[j]? = some b) := by
  have hfr : findE ([] ++ e :: []) id = none := by
    simp [findE, hne]
  obtain ⟨bl', e2, q1, q2, q3, q4, q5, q6, q7, q8⟩ := wAdd_F hl h.w id length ahead dir trail ha hfr (by simp) hma
  obtain ⟨s1, ⟨x, r, s2, _⟩, _⟩ := mayAdd_ok hma id
  have hal := (List.getElem?_eq_some_iff.1 h.w.top).1
  have hml := (List.getElem?_eq_some_iff.1 h.w.map).1
  have hce := h.w.cell e (by simp)
  have hcl := (List.getElem?_eq_some_iff.1 hce).1
  obtain ⟨rest, hr⟩ := h.mine.at'
  have hkl := (List.getElem?_eq_some_iff.1 hr).1
  have hfit := s1.fits hl
  have sx : blkOf e.s = some k := by rw [h.mine.s]; rfl
  rcases q8 with ⟨_, h0⟩ | ⟨k2, k1, k2'⟩
  · rw [q3] at h0
    rw [show (⟨id, length, ahead, wayIn l dir trail⟩ : Vh).way = wayIn l dir trail from rfl] at h0
    simp only at s2
    rw [h0] at s2
    cases s2
  · have hk := q6 k2 (by rw [k1]; rfl)
    refine ⟨bl', e2, k2, q1, ⟨q2, ⟨fun y hy => ?_, fun y hy => ?_, by simp⟩, fun y hy => ?_, ⟨k1, ⟨[], by simpa using k2'⟩, hk.2⟩, fun y hy => ?_, ⟨by omega, by omega⟩⟩, ⟨h.mine.s, ⟨rest, q4 _ _ hr (Ne.symm h.ak.2)⟩, h.mine.ne⟩, q3, q5, hk.1, q7, q4⟩
    · have : y = e ∨ y = e2 := by simpa using hy
      rcases this with rfl | rfl
      · exact h.g.fit _ (by simp)
      · rw [q3]; exact hfit
    · have : y = e ∨ y = e2 := by simpa using hy
      rcases this with rfl | rfl
      · exact h.g.ids _ (by simp)
      · rw [q3]; exact hid
    · have : y = e := by simpa using hy
      rw [this, q3]; exact hne
    · have : y = e := by simpa using hy
      rw [this, sx]
      simp only [ne_eq, Option.some.injEq]
      omega
end Go.Proofs.Ytfblegjbmhgepaa.Zt
end
section
namespace Go.Proofs.Ytfblegjbmhgepaa.Zt
open Go Go.Zc
set_option maxRecDepth 10000

theorem cloneE_F (l : List Ed) (h0 : l ≠ []) (hm : l.length ≤ 100000) (bl : List Blk) :
    ∃ v bl', (∀ st bx, slices_Clone_End_F st ⟨bx, bl⟩ [sl fE l] = some (v, ⟨bx, bl'⟩)) ∧ Own fE 2 bl' v l ∧ Grows bl bl' ∧ (∀ k, blkOf v = some k → bl.length ≤ k) := by
  have hn : binC .eql .sl (sl fE l) .nils = some (.bool false) := by
    cases l with
    | nil => cases h0 rfl
    | cons a r => rfl
  have o0 : Own fE 2 ([] ++ [.cells []]) (.os 2 (.blk ([] : List Blk).length) 0 0) [] := .inr ⟨0, rfl, by simp⟩
  obtain ⟨v1, bl1, e1, o1, _⟩ := o0.appSl flatE (bytes := 16) (zero := [.int .i64 0, .int .i64 0]) (by decide) rfl rfl l (by simp; omega)
  rw [List.nil_append] at o1 e1
  obtain ⟨v2, bl2, e2, o2, h3, h4⟩ := o1.handed' flatE bl (fun st H x c hc => by
    simp only [fE, List.mem_cons, List.not_mem_nil, or_false] at hc
    rcases hc with rfl | rfl <;> rfl)
  refine ⟨v2, bl2, fun st bx => ?_, o2, h3, h4⟩
  rw [slices_Clone_End_F_eq]
  simp only [List.length_nil] at e1
  simp only [slices_Clone_End_C, hn, e1, e2, zy, simprocAttr]

theorem Grows.ex {b b' : List Blk} (h : Grows b b') : ∃ X, b' = b ++ X := ⟨b'.drop b.length, by
  apply List.ext_getElem?
  intro i
  by_cases hi : i < b.length
  · rw [List.getElem?_append_left hi, List.getElem?_eq_getElem hi]
    exact h i _ (List.getElem?_eq_getElem hi)
  · rw [List.getElem?_append_right (by omega), List.getElem?_drop]
    congr 1
    omega⟩
theorem wsplit_loop {l : Lay} (hl : Lens l) {bl : List Blk} {a m : Nat} (hg : ∀ bx, Heap.get ⟨bx, bl⟩ (.blk a) = some (worldC l m)) (other behind : Int) (ec : Nat) : ∀ (w : List Ed) (b : Int) (c : CV), Held fE 2 bl c w → 0 ≤ b → b ≤ 1000000000 → b < sumL l (w.map Ed.s) →
    ∃ c', Held fE 2 bl c' (backW l b w).2 ∧ blkOf c' = blkOf c ∧
      world_World_Split_R1 ([(0, .op (.blk a) 0), (2, .int .i64 other), (3, .int .i64 behind), (9, .op (.blk ec) 0), (10, c), (11, .int .i64 b)], ⟨[], bl⟩) =
        some (.norm, [(0, .op (.blk a) 0), (2, .int .i64 other), (3, .int .i64 behind), (9, .op (.blk ec) 0), (10, c'), (11, .int .i64 (backW l b w).1)], ⟨[], bl⟩) := by
  intro w
  have hn : nchkC (.op (.blk a) 0) = some (.op (.blk a) 0) := rfl
  induction w with
  | nil => intro b c _ _ _ h; simp only [List.map_nil, sumL] at h; omega
  | cons x w ih =>
    intro b c hc h0 h1 h2
    simp only [List.map_cons, sumL] at h2
    obtain ⟨p, g1, g2, _, g4⟩ := hc.at flatE (P := []) rfl
    obtain ⟨p', k1, k2, k3⟩ := g4 0 (by omega)
    have g1' := g1 .i64
    simp only [List.length_nil, Int.natCast_zero] at g1'
    have k3' : ∀ bx, loadC false 1 ⟨bx, bl⟩ p' = some (.int .i64 x.s) := k3
    have hL := fun st H => glen_F l x.s st H
    have hlo := hl.lo x.s
    have hhi := hl.hi x.s
    have hlv := hc.locv
    have hch := hc.chkV
    rw [world_World_Split_R1_eq]
    unfold backW
    by_cases hcl : lenAt l x.s ≤ b
    · have hw : IntKind.i64.wrap (b - lenAt l x.s) = b - lenAt l x.s := wrap64 (by omega) (by omega)
      obtain ⟨c2, d1, d2, d3⟩ := hc.drop flatE 1 (by simp)
      have d1' : slcC 2 c (some (.int .i64 1)) none = some c2 := d1 .i64
      have hl2 := d2.locv
      have hch2 := d2.chkV
      obtain ⟨c', q1, q2, q3⟩ := ih (b - lenAt l x.s) c2 d2 (by omega) (by omega) (by omega)
      rw [if_pos hcl]
      refine ⟨c', q1, q2.trans d3, ?_⟩
      simp only [world_World_Split_B1, world_World_Split_K1_a, hn, hg, world_g, g1', g2, k1, k2, k3', graph_Graph_Len_call, hL, ge_iff_le, hcl, hw, d1', hlv, hl2, hch, hch2, q3, zy, simprocAttr]
    · rw [if_neg hcl]
      refine ⟨c, hc, rfl, ?_⟩
      simp only [world_World_Split_B1, world_World_Split_K1_a, hn, hg, world_g, g1', g2, k1, k2, k3', graph_Graph_Len_call, hL, ge_iff_le, hcl, hlv, hch, zy, simprocAttr]

section
variable {bl : List Blk} {a m : Nat} {l : Lay} {es : List Ve}
theorem wSplitFull_F (h : Wld bl a m l es) (e : Ve) (id other behind : Int) (he : findE es id = some e) (hfull : ((findE es other).isSome || decide (6 ≤ es.length)) = true) (bx : List (Nat × List CV)) :
    world_World_Split_F bx bl [.op (.blk a) 0, .int .i64 id, .int .i64 other, .int .i64 behind] = some (.int .i64 8, ⟨bx, bl⟩) := by
  have hget := wget_F h id
  rw [he] at hget
  have hp : ptrE (some e) = .op (.blk e.c) 0 := rfl
  rw [hp] at hget
  have hf := wfull_F h other
  rw [hfull] at hf
  have hz : ∀ i o, binC .eql .ptr (.op i o) .nilp = some (.bool false) := fun _ _ => rfl
  rw [world_World_Split_F_eq]
  simp only [world_World_Split_C, world_World_get_call, hget, hz, world_World_full_call, hf, zy, simprocAttr]
theorem wSplitArg_F (h : Wld bl a m l es) (e : Ve) (id other behind : Int) (he : findE es id = some e) (hfree : findE es other = none) (h6 : es.length < 6) (hb : e.v.length ≤ behind) (bx : List (Nat × List CV)) :
    world_World_Split_F bx bl [.op (.blk a) 0, .int .i64 id, .int .i64 other, .int .i64 behind] = some (.int .i64 1, ⟨bx, bl⟩) := by
  have hget := wget_F h id
  rw [he] at hget
  have hp : ptrE (some e) = .op (.blk e.c) 0 := rfl
  rw [hp] at hget
  have hd6 : decide (6 ≤ es.length) = false := decide_eq_false (by omega)
  have hf := wfull_F h other
  simp only [hfree, Option.isSome_none, Bool.false_or, hd6] at hf
  have hz : ∀ i o, binC .eql .ptr (.op i o) .nilp = some (.bool false) := fun _ _ => rfl
  have hn2 : nchkC (.op (.blk e.c) 0) = some (.op (.blk e.c) 0) := rfl
  have hgc : ∀ bx, Heap.get ⟨bx, bl⟩ (.blk e.c) = some (veC e) := fun bx => get_blk bx bl _ _ (h.cell e (findE_mem he).1)
  rw [world_World_Split_F_eq]
  by_cases h1 : behind < 1
  · simp only [world_World_Split_C, world_World_get_call, hget, hz, hn2, hgc, veC, world_World_full_call, hf, h1, zy, simprocAttr]
  · simp only [world_World_Split_C, world_World_get_call, hget, hz, hn2, hgc, veC, world_World_full_call, hf, h1, hb, ge_iff_le, zy, simprocAttr]
end

set_option maxHeartbeats 2000000 in
theorem wSplit_F {l : Lay} (hl : Lens l) {bl : List Blk} {a m k : Nat} {e : Ve} (h : Rig l a m [] [] bl e k) (hs : Sits l e.v) (other behind : Int) (ho : -9223372036854775808 ≤ other ∧ other ≤ 9223372036854775807) (hne : e.v.id ≠ other) (h1 : 1 ≤ behind) (h2 : behind < e.v.length) :
    ∃ bl' e1 e2, (∀ bx, world_World_Split_F bx bl [.op (.blk a) 0, .int .i64 e.v.id, .int .i64 other, .int .i64 behind] = some (.int .i64 0, ⟨bx, bl'⟩)) ∧ Wld bl' a m l [e1, e2] ∧ GoodE l [e1, e2] ∧
      e1.v = cutP l { e.v with length := e.v.length - behind } ∧ e2.v = ⟨other, behind, (backW l (e.v.ahead + e.v.length - behind) e.v.way).1, (backW l (e.v.ahead + e.v.length - behind) e.v.way).2⟩ ∧
      (∀ (j : Nat) (b : Blk), bl[j]? = some b → j ≠ m → j ≠ e.c → bl'[j]? = some b) := by
  have hem : e ∈ ([] ++ e :: [] : List Ve) := by simp
  have hfit := h.g.fit e hem
  have hfa := hfit.ahead; have hfl := hfit.length; have hfw := hfit.way
  have hroom := hs.room
  have hpos := hs.pos; have hah := hs.ahead
  have hlt : ∀ {bl : List Blk} {j : Nat} {b : Blk}, bl[j]? = some b → j < bl.length := fun hj => (List.getElem?_eq_some_iff.1 hj).1
  obtain ⟨ha1, ha2⟩ := h.w.apart e hem
  have hget := wget_F h.w e.v.id
  rw [h.find] at hget
  have hp : ptrE (some e) = .op (.blk e.c) 0 := rfl
  rw [hp] at hget
  have hfree : findE ([] ++ e :: []) other = none := by simp [findE, hne]
  have hf := wfull_F h.w other
  rw [hfree] at hf
  have hd6 : decide (6 ≤ ([] ++ e :: [] : List Ve).length) = false := rfl
  simp only [Option.isSome_none, Bool.false_or, hd6] at hf
  have hb1 : ¬ (behind < 1) := by omega
  have hb2 : ¬ (e.v.length ≤ behind) := by omega
  have hz : ∀ i o, binC .eql .ptr (.op i o) .nilp = some (.bool false) := fun _ _ => rfl
  have hn : nchkC (.op (.blk a) 0) = some (.op (.blk a) 0) := rfl
  have hn2 : nchkC (.op (.blk e.c) 0) = some (.op (.blk e.c) 0) := rfl
  have hce := h.w.cell e hem
  have hcl := hlt hce
  have hgc : ∀ bx, Heap.get ⟨bx, bl⟩ (.blk e.c) = some (veC e) := fun bx => get_blk bx bl _ _ hce
  obtain ⟨rest, hrest⟩ := h.mine.at'
  have hkl := hlt hrest
  have hes := h.mine.s
  -- the length
  let L1 : List CV := [.int .i64 (e.v.length - behind), .int .i64 e.v.ahead, e.s]
  let B1 := bl.set e.c (.cells L1)
  have hB1l : B1.length = bl.length := List.length_set
  have w1 : IntKind.i64.wrap (e.v.length - behind) = e.v.length - behind := wrap64 (by omega) (by omega)
  have st1 : ∀ bx, stE 1 0 (.int .i64 (e.v.length - behind)) ⟨bx, bl⟩ (.blk e.c) [.int .i64 e.v.length, .int .i64 e.v.ahead, .os 2 (.blk k) 0 e.v.way.length] = some ⟨bx, B1⟩ := by
    rw [← hes]
    exact fun bx => st_cell bx _ _ 0 _ _ rfl rfl rfl (by simp)
  let v1 : Vh := { e.v with length := e.v.length - behind }
  have R1 : Rig l a m [] [] B1 ⟨v1, e.c, .os 2 (.blk k) 0 v1.way.length⟩ k := h.upd (Kept.set bl (.cells L1)) v1 rfl ⟨hfit.ahead, by show _ ∧ _; constructor <;> (show _ ≤ _) <;> simp only [v1] <;> omega, hfit.way⟩ k (.inl rfl)
    (by rw [List.getElem?_set_self hcl]; show some (Blk.cells L1) = _; simp only [L1, hes]; rfl)
    ⟨rest, by show (bl.set e.c _)[k]? = _; rw [List.getElem?_set_ne (Ne.symm h.mine.ne), hrest]⟩
  have hc1 : B1[e.c]? = some (.cells L1) := by show (bl.set e.c _)[e.c]? = _; rw [List.getElem?_set_self hcl]
  have hg1 : ∀ bx, Heap.get ⟨bx, B1⟩ (.blk e.c) = some L1 := fun bx => get_blk bx _ _ _ hc1
  -- the clone
  have hw0 : e.v.way ≠ [] := by
    intro q
    rw [q] at hroom
    simp only [List.map_nil, sumL] at hroom
    omega
  obtain ⟨v, B2, q1, q2, q3, q4⟩ := cloneE_F e.v.way hw0 (by omega) B1
  have hsn := fun bx => (R1.w.way _ (by simp : (⟨v1, e.c, .os 2 (.blk k) 0 v1.way.length⟩ : Ve) ∈ [] ++ _ :: [])).snapV flatE bx (snapN ⟨bx, B1⟩ false false 7) (fun x c hc => shows_E _ x c hc 6)
  have hc2 := q3 _ _ hc1
  have hg2 : ∀ bx, Heap.get ⟨bx, B2⟩ (.blk e.c) = some L1 := fun bx => get_blk bx _ _ _ hc2
  have hgw2 : ∀ bx, Heap.get ⟨bx, B2⟩ (.blk a) = some (worldC l m) := fun bx => get_blk bx _ _ _ (q3 _ _ R1.w.top)
  have w2 : IntKind.i64.wrap (e.v.ahead + (e.v.length - behind)) = e.v.ahead + e.v.length - behind := by rw [wrap64 (by omega) (by omega)]; omega
  -- how far back
  obtain ⟨c', r1, r2, r3⟩ := wsplit_loop hl hgw2 other behind e.c e.v.way (e.v.ahead + e.v.length - behind) v q2.held (by omega) (by omega) (by omega)
  obtain ⟨j, bj1, bj2, bj3, _, _, _, bj4, bj5⟩ := back_under hl.lo e.v.way hs.lens (e.v.ahead + e.v.length - behind) behind (by omega) (by omega) (by omega)
  generalize hbk : backW l (e.v.ahead + e.v.length - behind) e.v.way = bk at *
  -- the other
  let e2 : Ve := ⟨⟨other, behind, bk.1, bk.2⟩, B2.length, c'⟩
  let B3 := B2 ++ [Blk.cells [.int .i64 behind, .int .i64 bk.1, c']]
  let B4 := B3.set m (.map (entsV [⟨v1, e.c, .os 2 (.blk k) 0 v1.way.length⟩, e2]))
  have hlv := r1.locv
  have hone := r1.one
  have hund := r1.und
  have hcells := r1.cells
  have hm1 := R1.w.map
  have hm2 := q3 _ _ hm1
  have hml := hlt hm2
  have hput : ∀ bx, heapOp (.mput 0) [.om m, .int .i64 other, .op (.blk B2.length) 0] ⟨bx, B2 ++ [Blk.cells [.int .i64 behind, .int .i64 bk.1, c']]⟩ = some (.tup [], ⟨bx, B4⟩) := by
    intro bx
    have hm3 : (B2 ++ [Blk.cells [.int .i64 behind, .int .i64 bk.1, c']])[m]? = some (.map (entsV ([] ++ [⟨v1, e.c, .os 2 (.blk k) 0 v1.way.length⟩]))) := by
      rw [List.getElem?_append_left hml]; exact hm2
    have hf0 := mfindV other ([] ++ [(⟨v1, e.c, .os 2 (.blk k) 0 v1.way.length⟩ : Ve)]) 0
    have hfr : findE ([] ++ [(⟨v1, e.c, .os 2 (.blk k) 0 v1.way.length⟩ : Ve)]) other = none := by simp [findE, v1, hne]
    rw [hfr] at hf0
    simp only at hf0
    simp only [heapOp, CV.und?, CV.locv, Id.loc?, Bool.or_self, Bool.false_eq_true, if_false, mputC, Nat.zero_ne_one, hm3, hf0, Option.bind_some, mkey, if_true, Option.map_some]
    rfl
  have hal : a < B2.length := hlt (q3 _ _ R1.w.top)
  have hecl : e.c < B2.length := hlt hc2
  obtain ⟨rest1, hr1⟩ := R1.mine.at'
  have hk2 := q3 _ _ hr1
  have hk2l := hlt hk2
  have get4 : ∀ (i : Nat) (b : Blk), B2[i]? = some b → i ≠ m → B4[i]? = some b := fun i b hi hne' => by
    show (B3.set m _)[i]? = _
    rw [List.getElem?_set_ne (Ne.symm hne')]
    show (B2 ++ _)[i]? = _
    rw [List.getElem?_append_left (hlt hi)]
    exact hi
  have hB4l : B4.length = B2.length + 1 := by show (B3.set m _).length = _; rw [List.length_set]; simp [B3]
  have hqb : ∀ q, blkOf c' = some q → B1.length ≤ q ∧ q < B2.length := fun q hq => ⟨q4 q (r2.symm.trans hq), r1.lt hq⟩
  have hmB1 : m < B1.length := hlt hm1
  have W4 : Wld B4 a m l [⟨v1, e.c, .os 2 (.blk k) 0 v1.way.length⟩, e2] := by
    refine ⟨get4 _ _ (q3 _ _ R1.w.top) R1.w.ne, ?_, fun x hx => ?_, fun x hx => ?_⟩
    · show (B3.set m _)[m]? = _
      rw [List.getElem?_set_self (by show m < (B2 ++ _).length; rw [List.length_append]; omega)]
    · simp only [List.mem_cons, List.not_mem_nil, or_false] at hx
      rcases hx with rfl | rfl
      · exact get4 _ _ (q3 _ _ (R1.w.cell ⟨v1, e.c, .os 2 (.blk k) 0 v1.way.length⟩ (by simp))) (Ne.symm ha2)
      · show (B3.set m _)[B2.length]? = _
        rw [List.getElem?_set_ne (by omega)]
        show (B2 ++ _)[B2.length]? = _
        rw [List.getElem?_append_right (Nat.le_refl _)]
        simp [veC, e2]
    · simp only [List.mem_cons, List.not_mem_nil, or_false] at hx
      rcases hx with rfl | rfl
      · refine (R1.w.way ⟨v1, e.c, .os 2 (.blk k) 0 v1.way.length⟩ (by simp)).keep fun i b hi hb => get4 _ _ (q3 _ _ hi) fun q => ?_
        have : i = k := by
          have : blkOf (.os 2 (.blk k) 0 v1.way.length) = some k := rfl
          rw [this] at hb
          exact (Option.some.inj hb).symm
        exact h.ak.2 (q.symm.trans this)
      · refine r1.keep fun i b hi hb => get4 _ _ hi fun q => ?_
        have := hqb i hb
        omega
  have hg4 : ∀ bx, Heap.get ⟨bx, B4⟩ (.blk e.c) = some L1 := fun bx => get_blk bx _ _ _ (get4 _ _ hc2 (Ne.symm ha2))
  have hgw4 : ∀ bx, Heap.get ⟨bx, B2⟩ (.blk a) = some (worldC l m) := hgw2
  have hv1f : v1.fits := R1.g.fit ⟨v1, e.c, .os 2 (.blk k) 0 v1.way.length⟩ (by simp)
  have hu := wunder_F hl W4 ⟨v1, e.c, .os 2 (.blk k) 0 v1.way.length⟩ (by simp) hv1f
  have hule := underN_le l (v1.ahead + v1.length) v1.way
  have hsl : slcC 2 (.os 2 (.blk k) 0 e.v.way.length) none (some (.int .i64 (underN l (v1.ahead + v1.length) v1.way))) = some (.os 2 (.blk k) 0 (underN l (v1.ahead + v1.length) v1.way)) := slc_os k (underN l (v1.ahead + v1.length) v1.way) v1.way.length hule .i64
  have hchv := q2.held.chkV
  obtain ⟨Xp, hXp⟩ := Grows.ex q3
  have hpre : isPre B1 B2 = true := isPre_of hXp
  have hwl2 : (underW l v1).length = underN l (v1.ahead + v1.length) v1.way := by unfold underW; rw [List.length_take]; omega
  let L5 : List CV := [.int .i64 (e.v.length - behind), .int .i64 e.v.ahead, .os 2 (.blk k) 0 (underN l (v1.ahead + v1.length) v1.way)]
  let B5 := B4.set e.c (.cells L5)
  have st5 : ∀ bx, stE 1 2 (.os 2 (.blk k) 0 (underN l (v1.ahead + v1.length) v1.way)) ⟨bx, B4⟩ (.blk e.c) [.int .i64 (e.v.length - behind), .int .i64 e.v.ahead, .os 2 (.blk k) 0 e.v.way.length] = some ⟨bx, B5⟩ := by
    rw [← hes]
    exact fun bx => st_cell bx _ _ 2 _ _ rfl rfl rfl (by simp)
  have get5 : ∀ (i : Nat) (b : Blk), B4[i]? = some b → i ≠ e.c → B5[i]? = some b := fun i b hi hne' => by
    show (B4.set e.c _)[i]? = _
    rw [List.getElem?_set_ne (Ne.symm hne')]
    exact hi
  let e1 : Ve := ⟨cutP l v1, e.c, .os 2 (.blk k) 0 (underN l (v1.ahead + v1.length) v1.way)⟩
  have hdl : (e.v.way.drop j).length = e.v.way.length - j := List.length_drop
  refine ⟨B5, e1, e2, fun bx => ?_, ⟨?_, ?_, fun x hx => ?_, fun x hx => ?_⟩, ⟨fun x hx => ?_, fun x hx => ?_, by simp⟩, rfl, rfl, fun i b hi him hie => ?_⟩
  · rw [world_World_Split_F_eq]
    have hsn' : ∀ bx, snapV ⟨bx, B1⟩ false false (snapN ⟨bx, B1⟩ false false 7) (.os 2 (.blk k) 0 e.v.way.length) = some (sl fE e.v.way) := hsn
    simp only [world_World_Split_C, world_World_get_call, hget, hz, hn, hn2, hgc, veC, world_World_full_call, hf, hb1, hb2, ge_iff_le, w1, w2, st1, hg1, L1, slices_Clone_End_call, hsn', q1, hg2, world_World_Split_L1_eq, hpre, hchv, r3, hlv, hone, hund, hcells, hgw2, world_m, hput, hg4, world_World_under_call, hu, hsl, st5, hes, zy, simprocAttr]
  · exact get5 _ _ W4.top ha1
  · exact get5 _ _ W4.map ha2
  · simp only [List.mem_cons, List.not_mem_nil, or_false] at hx
    rcases hx with rfl | rfl
    · show (B4.set e.c _)[e.c]? = _
      rw [List.getElem?_set_self (by omega)]
      rfl
    · exact get5 _ _ (W4.cell e2 (by simp)) (by show B2.length ≠ e.c; omega)
  · simp only [List.mem_cons, List.not_mem_nil, or_false] at hx
    rcases hx with rfl | rfl
    · refine .inr (.inr ⟨k, [], (e.v.way.drop (underN l (v1.ahead + v1.length) v1.way)).flatMap fE ++ rest1, ?_, ?_⟩)
      · show CV.os 2 (.blk k) 0 _ = .os 2 (.blk k) 0 (underW l v1).length
        rw [hwl2]
      · have := get5 _ _ (get4 _ _ hk2 (Ne.symm h.ak.2)) h.mine.ne
        rw [this]
        show some (Blk.cells (e.v.way.flatMap fE ++ rest1)) = some (Blk.cells ([] ++ (underW l v1).flatMap fE ++ _))
        rw [List.nil_append, ← List.append_assoc, ← List.flatMap_append]
        unfold underW
        rw [List.take_append_drop]
    · refine (W4.way e2 (by simp)).keep fun i b hi hb => get5 _ _ hi fun q => ?_
      have := hqb i hb
      omega
  · simp only [List.mem_cons, List.not_mem_nil, or_false] at hx
    rcases hx with rfl | rfl
    · exact ⟨hv1f.ahead, hv1f.length, by show (underW l v1).length ≤ _; rw [hwl2]; have := hv1f.way; omega⟩
    · exact ⟨⟨bj2, by show bk.1 ≤ _; have := sumL_le hl ((e.v.way.drop j).map Ed.s); rw [List.length_map, hdl] at this; omega⟩, ⟨h1, by show behind ≤ _; omega⟩, by show bk.2.length ≤ _; rw [bj1, hdl]; omega⟩
  · simp only [List.mem_cons, List.not_mem_nil, or_false] at hx
    rcases hx with rfl | rfl
    · exact h.g.ids e hem
    · exact ho
  · exact get5 _ _ (get4 _ _ (q3 _ _ (by show (bl.set e.c _)[i]? = _; rw [List.getElem?_set_ne (Ne.symm hie)]; exact hi)) him) hie
end Go.Proofs.Ytfblegjbmhgepaa.Zt
end
section
namespace Go.Proofs.Ytfblegjbmhgepaa.Zt
open Go Go.Zc
set_option maxRecDepth 10000

theorem goP_length {l : Lay} {right : List Bool} : ∀ (n : Nat) (v : Vh) (left : Int), (goP l right n v left).1.length = v.length
  | 0, v, left => rfl
  | n + 1, v, left => by
    unfold goP
    split
    · rfl
    · split
      · rfl
      · cases he : enterP l right { v with ahead := v.ahead - min left v.ahead } with
        | none => rfl
        | some u =>
          obtain ⟨_, h1, _⟩ := enterP_way he
          exact (goP_length (l := l) (right := right) n u (left - min left v.ahead)).trans h1
structure SplitsRun (l : Lay) (v0 v : Vh) (dir : Int) (trail : List Int) (right : List Bool) (A : Int) (b2 b3 X0 : List Blk) (y : Int) (was : CV) : Prop where
  n0 : ∀ bx, world_New_F bx [] [.agg (layC l)] = some (.op (.blk 1) 0, ⟨bx, [.map [], .cells (worldC l 0)]⟩)
  f1 : ∀ bx, world_World_Add_F bx [.map [], .cells (worldC l 0)] [.op (.blk 1) 0, .int .i64 3, .int .i64 v0.length, .int .i64 v0.ahead, .int .i64 dir, sl fI trail] = some (.int .i64 0, ⟨bx, b2⟩)
  g1 : ∀ bx, world_World_Go_F bx b2 [.op (.blk 1) 0, .int .i64 3, .int .i64 A, sl fB right] = some (.tup [.int .i64 y, .int .i64 0], ⟨bx, b3⟩)
  u0 : ∀ bx, world_World_Under_F bx b3 [.op (.blk 1) 0, .int .i64 3] = some (was, ⟨bx, b3 ++ X0⟩)
  o0 : Own fI 1 (b3 ++ X0) was (underL l v)
  few : (underL l v).length ≤ 3000
  arg : v0.length < 2 → ∀ bx, world_World_Split_F bx (b3 ++ X0) [.op (.blk 1) 0, .int .i64 3, .int .i64 4, .int .i64 1] = some (.int .i64 1, ⟨bx, b3 ++ X0⟩)
structure PartsRun (u : List Int) (k : Int) (b0 b4 X1 X2 b5 b6 : List Blk) (was va vb w1 w2 : CV) (n j : Nat) : Prop where
  s1 : ∀ bx, world_World_Split_F bx b0 [.op (.blk 1) 0, .int .i64 3, .int .i64 4, .int .i64 k] = some (.int .i64 0, ⟨bx, b4⟩)
  s2 : ∀ bx, world_World_Split_F bx b4 [.op (.blk 1) 0, .int .i64 3, .int .i64 4, .int .i64 1] = some (.int .i64 8, ⟨bx, b4⟩)
  u1 : ∀ bx, world_World_Under_F bx b4 [.op (.blk 1) 0, .int .i64 3] = some (va, ⟨bx, b4 ++ X1⟩)
  u2 : ∀ bx, world_World_Under_F bx (b4 ++ X1) [.op (.blk 1) 0, .int .i64 4] = some (vb, ⟨bx, b4 ++ X1 ++ X2⟩)
  a1 : ∀ bx, heapOp (.app 1 8 [.int .i64 0]) [.nils, va] ⟨bx, b4 ++ X1 ++ X2⟩ = some (w1, ⟨bx, b5⟩)
  a2 : ∀ bx, heapOp (.app 1 8 [.int .i64 0]) [w1, vb] ⟨bx, b5⟩ = some (w2, ⟨bx, b6⟩)
  hA : Held fI 1 b6 va (u.take n)
  hB : Held fI 1 b6 vb (u.drop j)
  hW : Held fI 1 b6 was u
  hw1 : w1.locv = false
  hO : Held fI 1 b6 w2 (u.take n ++ u.drop j)
  s3 : ∀ bx, world_World_Split_F bx b6 [.op (.blk 1) 0, .int .i64 4, .int .i64 5, .int .i64 k] = some (.int .i64 1, ⟨bx, b6⟩)
  n1 : 1 ≤ n
  n2 : n ≤ u.length
  j1 : j ≤ n
  j2 : j < u.length

set_option maxHeartbeats 1000000 in
theorem splits_run (l : Lay) (hl : Lens l) (length ahead dir : Int) (trail : List Int) (ha : -1000000000 ≤ ahead ∧ ahead ≤ 1000000000) (hma : mayAdd l length ahead dir trail = true) (right : List Bool) (A : Int) (hA : 0 ≤ A ∧ A < 1000) :
    ∃ v b2 b3 X0 y was, SplitsRun l ⟨3, length, ahead, wayIn l dir trail⟩ v dir trail right A b2 b3 X0 y was ∧
      ∀ k, 1 ≤ k → k < length → ∃ b4 X1 X2 b5 b6 va vb w1 w2 n j, PartsRun (underL l v) k (b3 ++ X0) b4 X1 X2 b5 b6 was va vb w1 w2 n j := by
  obtain ⟨hs, ⟨x0, r0, hx0, _⟩, _⟩ := mayAdd_ok hma 3
  have hw0 : (⟨3, length, ahead, wayIn l dir trail⟩ : Vh).way ≠ [] := by rw [hx0]; simp
  have hfew := hs.few hl
  have W0 : Wld [.map [], .cells (worldC l 0)] 1 0 l [] := wNew_W l []
  have N0 := fun bx => wNew_F l [] bx
  have hlt : ∀ {bl : List Blk} {j : Nat} {b : Blk}, bl[j]? = some b → j < bl.length := fun hj => (List.getElem?_eq_some_iff.1 hj).1
  obtain ⟨b2, e1, k1, f1, R1, v1, K1, c1, c1', m1⟩ := first_F hl W0 3 length ahead dir trail (by omega) ha hma
  have j1 : e1.v.id = 3 := by rw [v1]
  obtain ⟨b3, ea, ka, Ra, va, ca, qa, KA, gA⟩ := wGo_F l hl 1 0 [] [] right next_is e1 k1 b2 R1 A (by omega) (by rw [v1]; exact hw0) (by rw [v1]; omega)
  rw [j1] at gA
  have hmA : max A 0 = A := by omega
  rw [hmA, v1] at va
  have ja : ea.v.id = 3 := by rw [va]; exact goP_id (l := l) (right := right) _ ⟨3, length, ahead, wayIn l dir trail⟩ _
  have hsits : Sits l ea.v := by rw [va]; exact Sits.of hl hs hw0 _ _
  have hlen : ea.v.length = length := by
    rw [va]
    exact goP_length (l := l) (right := right) _ ⟨3, length, ahead, wayIn l dir trail⟩ _
  obtain ⟨was, X0, u0, o0, p0⟩ := wUnder_F hl Ra.w Ra.g.fit ea.v.id
  have hu0 : underE l ([] ++ ea :: []) ea.v.id = underL l ea.v := by unfold underE; rw [Ra.find]
  rw [hu0] at o0
  rw [ja] at u0
  have Rg := Ra.grow X0
  have hfE : findE ([] ++ ea :: []) 3 = some ea := by rw [← ja]; exact Rg.find
  have hfO : findE ([] ++ ea :: []) 4 = none := by simp [findE, ja]
  have hul : (underL l ea.v).length ≤ 3000 := by
    have h1 : (underL l ea.v).length ≤ ea.v.way.length := by
      unfold underL underW
      rw [List.length_map, List.length_take]
      omega
    have h2 := cut_len (l := l) (goP l right (A.toNat + 1) ⟨3, length, ahead, wayIn l dir trail⟩ A).1
    have h3 := goP_len (l := l) (right := right) (A.toNat + 1) ⟨3, length, ahead, wayIn l dir trail⟩ A
    rw [← va] at h2
    have h4 := hfew.1
    omega
  refine ⟨ea.v, b2, b3, X0, _, was, ⟨N0, f1, gA, u0, o0, hul, fun h2 bx => wSplitArg_F Rg.w ea 3 4 1 hfE hfO (by simp) (by rw [hlen]; have : length < 2 := h2; omega) bx⟩, fun k hk1 hk2 => ?_⟩
  obtain ⟨n, j, n1, n2, jn, j2, pa, pb⟩ := hsits.back hl.lo hk1 (by rw [hlen]; exact hk2) 4
  obtain ⟨b4, e1', e2', s1, W4, G4, q1, q2, K4⟩ := wSplit_F hl Rg hsits 4 k (by omega) (by rw [ja]; decide) hk1 (by rw [hlen]; exact hk2)
  rw [ja] at s1
  have i1 : e1'.v.id = 3 := by rw [q1]; exact ja
  have i2 : e2'.v.id = 4 := by rw [q2]
  have hf3 : findE [e1', e2'] 3 = some e1' := by simp [findE, i1]
  have hf4 : findE [e1', e2'] 4 = some e2' := by simp [findE, i1, i2]
  have hf5 : findE [e1', e2'] 5 = none := by simp [findE, i1, i2]
  obtain ⟨va', X1, u1, o1, p1⟩ := wUnder_F hl W4 G4.fit 3
  obtain ⟨vb', X2, u2, o2, p2⟩ := wUnder_F hl (W4.keep (Grows.app _ X1)) G4.fit 4
  have hu1 : underE l [e1', e2'] 3 = (underL l ea.v).take n := by
    unfold underE
    rw [hf3]
    show underL l e1'.v = _
    rw [q1, ← pa]
    unfold underL
    exact congrArg _ (underW_idem l _)
  have hu2 : underE l [e1', e2'] 4 = (underL l ea.v).drop j := by
    unfold underE
    rw [hf4]
    show underL l e2'.v = _
    rw [q2, ← pb]
  rw [hu1] at o1
  rw [hu2] at o2
  have o1' := o1.keep (Grows.app _ X2)
  have hL1 : ((underL l ea.v).take n).length ≤ 100000 := by rw [List.length_take]; omega
  have hL2 : ((underL l ea.v).drop j).length ≤ 100000 := by rw [List.length_drop]; omega
  obtain ⟨w1, b5, a1, a2, a3, a4, a5⟩ := (Own.nil fI 1 (b4 ++ X1 ++ X2)).app flatI (bytes := 8) (zero := [.int .i64 0]) (by omega) rfl rfl (x := va') (new := (underL l ea.v).take n) (fun bx => o1'.held.shown flatI bx) o1'.held.lenOf o1'.held.isSl (by simp only [List.length_nil]; omega)
  rw [List.nil_append] at a2
  have G5 : Grows (b4 ++ X1 ++ X2) b5 := fun i b hi => a4 i b hi (fun q => by cases q)
  have hw1 : ∀ i, blkOf w1 = some i → (b4 ++ X1 ++ X2).length ≤ i := fun i hi => by
    rcases a5 with q | q
    · rw [q] at hi; cases hi
    · rw [q] at hi; cases hi; exact Nat.le_refl _
  have o2' := o2.keep G5
  obtain ⟨w2, b6, c1'', c2, c3, c4, c5⟩ := a2.app flatI (bytes := 8) (zero := [.int .i64 0]) (by omega) rfl rfl (x := vb') (new := (underL l ea.v).drop j) (fun bx => o2'.held.shown flatI bx) o2'.held.lenOf o2'.held.isSl (by omega)
  have G6 : Grows (b4 ++ X1 ++ X2) b6 := fun i b hi => c4 i b (G5 i b hi) (fun q => by have := hw1 i q; have := hlt hi; omega)
  have hWas : Held fI 1 b6 was (underL l ea.v) := by
    refine o0.held.keep fun i b hi hb => G6 _ _ (Grows.app _ X2 _ _ (Grows.app _ X1 _ _ (K4 _ _ hi ?_ ?_)))
    · have := p0 i hb
      have := hlt Ra.w.map
      omega
    · have := p0 i hb
      have := hlt (Ra.w.cell ea (by simp))
      omega
  refine ⟨b4, X1, X2, b5, b6, va', vb', w1, w2, n, j, s1, fun bx => wSplitFull_F W4 e1' 3 4 1 hf3 (by rw [hf4]; rfl) bx, u1, u2, a1, c1'', (o1'.keep G6).held, (o2.keep G6).held, hWas, a2.locv, c2.held,
    fun bx => wSplitArg_F (((W4.keep (Grows.app _ X1)).keep (Grows.app _ X2)).keep G6) e2' 4 5 k hf4 hf5 (by simp) (by rw [q2]; exact Int.le_refl _) bx, n1, n2, jn, j2⟩
end Go.Proofs.Ytfblegjbmhgepaa.Zt
end
section
namespace Go.Proofs.Ytfblegjbmhgepaa.Zt
open Go Go.Zc
set_option maxRecDepth 10000

set_option maxHeartbeats 4000000 in
theorem worldSplits_F (d : Draft) (hd : d.ok) (c : Car) (hc : c.ok) (N A : Int) (hN : 0 ≤ N ∧ N ≤ 65535) (hA : 0 ≤ A ∧ A ≤ 65535) (right : List Bool) (H : Heap) :
    l18_WorldSplits_F false H [.agg (draftC d), .agg (fCar c), .int .u16 N, .int .u16 A, sl fB right] = some (.bool true, H) := by
  have hen := enters_F
  have hsF := fun H => small_F d hd false H
  cases hsm : d.small with
  | false =>
    rw [hsm] at hsF
    rw [l18_WorldSplits_F_eq]
    simp only [l18_WorldSplits_C, l18_enters_call, hen, r04_Small_call, hsF, zy, simprocAttr]
  | true =>
    rw [hsm] at hsF
    by_cases ht : (12 : Int) < c.turns.length
    · rw [l18_WorldSplits_F_eq]
      simp only [l18_WorldSplits_C, fCar, l18_enters_call, hen, r04_Small_call, hsF, ht, gt_iff_lt, zy, simprocAttr]
    · by_cases hr : (12 : Int) < right.length
      · rw [l18_WorldSplits_F_eq]
        simp only [l18_WorldSplits_C, fCar, l18_enters_call, hen, r04_Small_call, hsF, ht, hr, gt_iff_lt, zy, simprocAttr]
      · have hl := full_Lens d
        have hF := fun H => full_F d hd H
        generalize full d = l at *
        have q5 := hc.long
        let c' : Car := { c with long := c.long % 200 }
        have hc' : c'.ok := ⟨hc.1, hc.2, hc.3, hc.4, by show 0 ≤ c.long % 200 ∧ c.long % 200 ≤ 255; omega, hc.6, hc.7⟩
        have hadd := fun H => add_F l hl c' hc' H
        have hma := car_may hl hc' (by show c.long % 200 < 200; omega)
        have ci := car_is hl hc'
        have cl := ci.len
        obtain ⟨v, b2, b3, X0, y, was, G, hparts⟩ := splits_run l hl (addLen l c') (carAhead l c') (c'.end' % 2) (carTrail l c') (by have := ci.ahead; have := ci.len; omega) hma right (A % 500) (by omega)
        have n0 := G.n0; have f1 := G.f1; have g1 := G.g1; have u0 := G.u0
        have lv := G.o0.locv
        have k1 : A.tmod 500 = A % 500 := Int.tmod_eq_emod_of_nonneg hA.1
        have k3 : IntKind.i64.wrap (A % 500) = A % 500 := wrap64 (by omega) (by omega)
        have k6 : c.long.tmod 200 = c.long % 200 := Int.tmod_eq_emod_of_nonneg q5.1
        by_cases h2 : addLen l c' < 2
        · have ha := G.arg h2
          rw [l18_WorldSplits_F_eq]
          simp only [fCar, c', layC] at hadd hF n0 f1 h2
          simp only [l18_WorldSplits_C, fCar, l18_enters_call, hen, r04_Small_call, hsF, ht, hr, gt_iff_lt, r05_Full_call, hF, layC, k6, l18_add_call, hadd, world_New_call, n0, world_World_Add_call, f1, k1, k3, world_World_Go_call, g1, world_World_Under_call, u0, h2, lv, world_World_Split_call, ha, zy, simprocAttr]
        · have hlo : 1 ≤ addLen l c' - 1 := by omega
          have hm0 := Int.emod_nonneg N (show addLen l c' - 1 ≠ 0 by omega)
          have hm1 := Int.emod_lt_of_pos N (show 0 < addLen l c' - 1 by omega)
          have hbig : addLen l c' ≤ 1000000000 := by
            have q := (mayAdd_ok hma 3).1
            have q1 := (q.few hl).2
            have q2 := q.ahead
            simp only at q1 q2
            omega
          obtain ⟨b4, X1, X2, b5, b6, va, vb, w1, w2, n, j, P⟩ := hparts (1 + N % (addLen l c' - 1)) (by omega) (by omega)
          have s1 := P.s1; have s2 := P.s2; have u1 := P.u1; have u2 := P.u2; have a1 := P.a1; have a2 := P.a2; have s3 := P.s3
          have lA := P.hA.locv; have lB := P.hB.locv; have lO := P.hO.locv; have l1 := P.hw1
          have w1' : IntKind.i64.wrap N = N := wrap64 (by omega) (by omega)
          have w2' : IntKind.i64.wrap (addLen l c' - 1) = addLen l c' - 1 := wrap64 (by omega) (by omega)
          have w3' : IntKind.i64.wrap (N % (addLen l c' - 1)) = N % (addLen l c' - 1) := wrap64 (by omega) (by omega)
          have w4' : IntKind.i64.wrap (1 + N % (addLen l c' - 1)) = 1 + N % (addLen l c' - 1) := wrap64 (by omega) (by omega)
          have k7 : N.tmod (addLen l c' - 1) = N % (addLen l c' - 1) := Int.tmod_eq_emod_of_nonneg hN.1
          have kz : ¬ (addLen l c' - 1 = 0) := by omega
          have hn2 := P.n2; have hj2 := P.j2; have hn1 := P.n1; have hjn := P.j1
          have hfew := G.few
          have hlenA := P.hA.len
          have hlenB := P.hB.len
          have hlenW := P.hW.len
          rw [List.length_take, Nat.min_eq_left hn2] at hlenA
          rw [List.length_drop] at hlenB
          have pA : (0 : Int) < n := by omega
          have pB : (0 : Int) < ((underL l v).length - j : Nat) := by omega
          have hback : IntKind.i64.wrap (((underL l v).length : Int) - ((underL l v).length - j : Nat)) = (j : Int) := by rw [wrap64 (by omega) (by omega)]; omega
          obtain ⟨c1, t1, t2, _⟩ := P.hW.take flatI n hn2
          obtain ⟨c2, t3, t4, _⟩ := P.hW.drop flatI j (by omega)
          have t1' := t1 .i64
          have t3' := t3 .i64
          have snO := fun bx => P.hO.snapV flatI bx (snapN ⟨bx, b6⟩ false false 7) (snap_Iq _ false 6)
          have snW := fun bx => P.hW.snapV flatI bx (snapN ⟨bx, b6⟩ false false 7) (snap_Iq _ false 6)
          have snA := fun bx => P.hA.snapV flatI bx (snapN ⟨bx, b6⟩ false false 7) (snap_Iq _ false 6)
          have snB := fun bx => P.hB.snapV flatI bx (snapN ⟨bx, b6⟩ false false 7) (snap_Iq _ false 6)
          have sn1 := fun bx => t2.snapV flatI bx (snapN ⟨bx, b6⟩ false false 7) (snap_Iq _ false 6)
          have sn2 := fun bx => t4.snapV flatI bx (snapN ⟨bx, b6⟩ false false 7) (snap_Iq _ false 6)
          have lc1 := t2.locv; have lc2 := t4.locv
          have R1 := fun st H => rise_F ((underL l v).take n ++ (underL l v).drop j) (by rw [List.length_append, List.length_take, List.length_drop]; unfold Zc.small; omega) st H
          have R2 := fun st H => rise_F (underL l v) (by unfold Zc.small; omega) st H
          rw [rise_parts _ _ _ hjn] at R1
          have hrl : (rise (underL l v)).length ≤ Zc.small := by
            have := nodup_le (rise_nodup (underL l v)) (fun z hz => (rise_mem (underL l v) z).1 hz)
            unfold Zc.small
            omega
          have I1 := fun st H => ints_F (rise (underL l v)) (rise (underL l v)) hrl st H
          have I2 := fun st H => ints_F ((underL l v).take n) ((underL l v).take n) (by rw [List.length_take]; unfold Zc.small; omega) st H
          have I3 := fun st H => ints_F ((underL l v).drop j) ((underL l v).drop j) (by rw [List.length_drop]; unfold Zc.small; omega) st H
          simp only [decide_true] at I1 I2 I3
          rw [l18_WorldSplits_F_eq]
          simp only [fCar, c', layC] at hadd hF n0 f1 h2 s1 s2 s3 w2' w3' w4' k7 kz
          simp only [l18_WorldSplits_C, fCar, l18_enters_call, hen, r04_Small_call, hsF, ht, hr, gt_iff_lt, r05_Full_call, hF, layC, k6, l18_add_call, hadd, world_New_call, n0, world_World_Add_call, f1, k1, k3, world_World_Go_call, g1, world_World_Under_call, u0, h2, lv, world_World_Split_call, w1', w2', w3', w4', k7, kz, s1, s2, u1, u2, a1, a2, lA, lB, lO, l1, hlenA, hlenB, hlenW, pA, pB, hback, t1', t3', snO, snW, snA, snB, sn1, sn2, lc1, lc2, r01_Rise_call, R1, R2, r01_Ints_call, I1, I2, I3, s3, zy, simprocAttr]
end Go.Proofs.Ytfblegjbmhgepaa.Zt
end
