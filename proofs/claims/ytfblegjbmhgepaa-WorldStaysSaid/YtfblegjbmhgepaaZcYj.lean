/- Walks: the program's world: Go. No condition. -/
import Derived.Test.YtfblegjbmhgepaaZcNx
import Derived.Test.YtfblegjbmhgepaaZcSet
import Derived.Test.YtfblegjbmhgepaaZcT
set_option linter.all false
section
namespace Go.Proofs.Ytfblegjbmhgepaa.Zt
open Go Go.Zc
set_option maxRecDepth 10000

theorem max_ii (a b : Int) : pureOp .max [.int .i64 a, .int .i64 b] = some (.int .i64 (max a b)) := by
  by_cases h : a < b
  · rw [Int.max_eq_right (by omega)]
    simp [pureOp, foldC, max2C, h]
  · rw [Int.max_eq_left (by omega)]
    simp [pureOp, foldC, max2C, h]
theorem slc_os (k u n : Nat) (h : u ≤ n) (c : IntKind) : slcC 2 (.os 2 (.blk k) 0 n) none (some (.int c u)) = some (.os 2 (.blk k) 0 u) := by
  simp [slcC, sbound, h]

/-- What is kept of a way. -/
def cutP (l : Lay) (v : Vh) : Vh := { v with way := underW l v }
theorem wGo_F (l : Lay) (hl : Lens l) (a m : Nat) (P S : List Ve) (right : List Bool) (hnx : ∀ x y, next l x right = some y → (0 ≤ y.s ∧ y.s < l.secs.length) ∧ -1000 ≤ y.e ∧ y.e ≤ 1000) (e : Ve) (k : Nat) (bl : List Blk) (h : Rig l a m P S bl e k)
    (metres : Int) (hm : metres ≤ 10000) (hw : e.v.way ≠ []) (hwl : e.v.way.length ≤ 80000) :
    ∃ bl' e' k', Rig l a m P S bl' e' k' ∧ e'.v = cutP l (goP l right ((max metres 0).toNat + 1) e.v (max metres 0)).1 ∧ e'.c = e.c ∧ (k' = k ∨ bl.length ≤ k') ∧ Kept e.c k bl bl' ∧
      ∀ bx, world_World_Go_F bx bl [.op (.blk a) 0, .int .i64 e.v.id, .int .i64 metres, sl fB right] = some (.tup [.int .i64 (max metres 0 - (goP l right ((max metres 0).toNat + 1) e.v (max metres 0)).2), .int .i64 0], ⟨bx, bl'⟩) := by
  obtain ⟨b1, e1, k1, r1, r2, r3, r4, r5, r6⟩ := wGo_loop l hl a m P S right hnx ((max metres 0).toNat + 1) e k bl 0 (max metres 0) h (by omega) (by split <;> omega) (by omega) (by omega) hw (by omega)
  generalize hr : goP l right ((max metres 0).toNat + 1) e.v (max metres 0) = r at *
  have hem1 : e1 ∈ P ++ e1 :: S := by simp
  have hc1 := r1.w.cell e1 hem1
  have hcl := (List.getElem?_eq_some_iff.1 hc1).1
  have hget := wget_F h.w e.v.id
  rw [h.find] at hget
  have hp : ptrE (some e) = .op (.blk e.c) 0 := rfl
  rw [hp] at hget
  have hz : ∀ i o, binC .eql .ptr (.op i o) .nilp = some (.bool false) := fun _ _ => rfl
  have hn2 : nchkC (.op (.blk e.c) 0) = some (.op (.blk e.c) 0) := rfl
  have hgc : ∀ bx, Heap.get ⟨bx, b1⟩ (.blk e1.c) = some (veC e1) := fun bx => get_blk bx b1 _ _ hc1
  have hu := wunder_F hl r1.w e1 hem1 (r1.g.fit e1 hem1)
  have hule := underN_le l (e1.v.ahead + e1.v.length) e1.v.way
  have hs1 := r1.mine.s
  have hsl := slc_os k1 (underN l (e1.v.ahead + e1.v.length) e1.v.way) e1.v.way.length hule .i64
  have hmx := max_ii metres 0
  rw [r3] at hgc hcl hu
  have hwl2 : (underW l e1.v).length = underN l (e1.v.ahead + e1.v.length) e1.v.way := by unfold underW; rw [List.length_take]; omega
  have st1 : ∀ bx, stE 1 2 (.os 2 (.blk k1) 0 (underN l (e1.v.ahead + e1.v.length) e1.v.way)) ⟨bx, b1⟩ (.blk e.c) [.int .i64 e1.v.length, .int .i64 e1.v.ahead, .os 2 (.blk k1) 0 e1.v.way.length] = some ⟨bx, b1.set e.c (.cells [.int .i64 e1.v.length, .int .i64 e1.v.ahead, .os 2 (.blk k1) 0 (underN l (e1.v.ahead + e1.v.length) e1.v.way)])⟩ := fun bx => st_cell bx _ _ 2 _ _ rfl rfl rfl (by simp)
  obtain ⟨rest, hrest⟩ := r1.mine.at'
  have hfit := r1.g.fit e1 hem1
  have hv1 : (cutP l e1.v).way = underW l e1.v := rfl
  have hR := r1.upd (Kept.set b1 (.cells [.int .i64 e1.v.length, .int .i64 e1.v.ahead, .os 2 (.blk k1) 0 (underN l (e1.v.ahead + e1.v.length) e1.v.way)])) (cutP l e1.v) rfl ⟨hfit.ahead, hfit.length, by rw [hv1, hwl2]; have := hfit.way; omega⟩ k1 (.inl rfl)
    (by rw [r3, List.getElem?_set_self hcl, hv1, hwl2]; rfl)
    ⟨(e1.v.way.drop (underN l (e1.v.ahead + e1.v.length) e1.v.way)).flatMap fE ++ rest, by
      rw [List.getElem?_set_ne (Ne.symm r1.mine.ne), hrest, hv1, ← List.append_assoc, ← List.flatMap_append]
      unfold underW
      rw [List.take_append_drop]⟩
  refine ⟨_, _, k1, hR, by rw [← r2], r3, r4, r5.trans (r3 ▸ Kept.set b1 _) (.inl rfl), fun bx => ?_⟩
  rw [world_World_Go_F_eq]
  rw [Int.zero_add] at r6
  simp only [world_World_Go_C, world_World_get_call, hget, hz, hn2, hmx, world_World_Go_L0_eq, r6, hgc, veC, hs1, world_World_under_call, hu, hsl, st1, r3, zy, simprocAttr]
end Go.Proofs.Ytfblegjbmhgepaa.Zt
end
section
namespace Go.Proofs.Ytfblegjbmhgepaa.Zt
open Go Go.Zc
set_option maxRecDepth 10000

/-- A world that another one's turn leaves as it was. -/
theorem Rig.far {l : Lay} {a m k : Nat} {P S : List Ve} {bl bl' : List Blk} {e : Ve} (h : Rig l a m P S bl e k) {c q : Nat} (hk : Kept c q bl bl') (ha : a ≠ c ∧ a ≠ q) (hm : m ≠ c ∧ m ≠ q) (hc : ∀ x ∈ P ++ e :: S, (x.c ≠ c ∧ x.c ≠ q) ∧ blkOf x.s ≠ some c ∧ blkOf x.s ≠ some q) : Rig l a m P S bl' e k := by
  have hem : e ∈ P ++ e :: S := by simp
  obtain ⟨rest, hr⟩ := h.mine.at'
  have hbs : blkOf e.s = some k := by rw [h.mine.s]; rfl
  refine ⟨⟨hk.2 _ _ h.w.top ha.1 ha.2, hk.2 _ _ h.w.map hm.1 hm.2, fun x hx => hk.2 _ _ (h.w.cell x hx) (hc x hx).1.1 (hc x hx).1.2, fun x hx => (h.w.way x hx).keep fun j b hj hb => hk.2 _ _ hj (fun e' => (hc x hx).2.1 (by rw [hb, e'])) (fun e' => (hc x hx).2.2 (by rw [hb, e']))⟩,
    h.g, h.f, ⟨h.mine.s, ⟨rest, hk.2 _ _ hr (fun q' => (hc e hem).2.1 (by rw [hbs, q'])) (fun q' => (hc e hem).2.2 (by rw [hbs, q']))⟩, h.mine.ne⟩, h.o, h.ak⟩
theorem Rig.grow {l : Lay} {a m k : Nat} {P S : List Ve} {bl : List Blk} {e : Ve} (h : Rig l a m P S bl e k) (X : List Blk) : Rig l a m P S (bl ++ X) e k := by
  obtain ⟨rest, hr⟩ := h.mine.at'
  exact ⟨h.w.keep (Grows.app bl X), h.g, h.f, ⟨h.mine.s, ⟨rest, Grows.app bl X _ _ hr⟩, h.mine.ne⟩, h.o, h.ak⟩

theorem wReport_F (l : Lay) (hl : Lens l) (a m : Nat) (P S : List Ve) (e : Ve) (k : Nat) (bl : List Blk) (h : Rig l a m P S bl e k) (x : Ed) (r : List Ed) (hw : e.v.way = x :: r) (now : Int) :
    ∃ v X, (∀ bx, world_World_Report_F bx bl [.op (.blk a) 0, .int .i64 e.v.id, .int .i64 now] = some (.tup [.agg [.int .u8 3, .int .i64 e.v.id, .int .i64 now, .int .i64 x.e, .int .i64 e.v.ahead, .bool (decide (((underL l e.v).length : Int) ≤ 12)), v], .bool true], ⟨bx, bl ++ X⟩)) ∧
      Held fI 1 (bl ++ X) v ((underL l e.v).take (min (underL l e.v).length 12)) := by
  have hem : e ∈ P ++ e :: S := by simp
  have hc := h.w.cell e hem
  have hget := wget_F h.w e.v.id
  rw [h.find] at hget
  have hp : ptrE (some e) = .op (.blk e.c) 0 := rfl
  rw [hp] at hget
  have hz : ∀ i o, binC .eql .ptr (.op i o) .nilp = some (.bool false) := fun _ _ => rfl
  have hn2 : nchkC (.op (.blk e.c) 0) = some (.op (.blk e.c) 0) := rfl
  obtain ⟨v, X, u1, u2, u3⟩ := wUnder_F hl h.w h.g.fit e.v.id
  have huE : underE l (P ++ e :: S) e.v.id = underL l e.v := by unfold underE; rw [h.find]
  rw [huE] at u2
  have hgc : ∀ bx, Heap.get ⟨bx, bl ++ X⟩ (.blk e.c) = some (veC e) := fun bx => get_blk bx _ _ _ (Grows.app bl X _ _ hc)
  obtain ⟨rest, hk⟩ := h.mine.at'
  have hgk : ∀ bx, Heap.get ⟨bx, bl ++ X⟩ (.blk k) = some (e.v.way.flatMap fE ++ rest) := fun bx => get_blk bx _ _ _ (Grows.app bl X _ _ hk)
  rw [hw] at hgk
  simp only [List.flatMap_cons, fE, List.cons_append, List.nil_append] at hgk
  have hs := h.mine.s
  rw [hw] at hs
  simp only [List.length_cons] at hs
  have hia : iaddrC 2 (.os 2 (.blk k) 0 (r.length + 1)) (.int .i64 0) = some (.op (.blk k) 0) := by
    simp [iaddrC, iaddrN]
  have hlen := u2.len
  have hlv := u2.locv
  obtain ⟨c2, t1, t2, t3⟩ := u2.held.take flatI (min (underL l e.v).length 12) (by omega)
  have t1' := t1 .i64
  have hmn := min_ii (underL l e.v).length 12
  have hcast : min ((underL l e.v).length : Int) 12 = ((min (underL l e.v).length 12 : Nat) : Int) := by omega
  have hlv2 := t2.locv
  have hch := t2.chkV
  have hcl2 : c2.cells = [c2] := by rcases t2 with h' | ⟨h', _⟩ | ⟨m', pre, rest', h', _⟩ <;> rw [h'] <;> rfl
  have hone : ones [c2] = true := by rcases t2 with h' | ⟨h', _⟩ | ⟨m', pre, rest', h', _⟩ <;> rw [h'] <;> rfl
  refine ⟨c2, X, fun bx => ?_, t2⟩
  rw [world_World_Report_F_eq]
  simp only [world_World_Report_C, world_World_get_call, hget, hz, world_World_Under_call, u1, hn2, hgc, veC, hs, hia, hgk, hlen, hlv, hmn, hcast, t1', hlv2, hch, hcl2, hone, zy, simprocAttr]
end Go.Proofs.Ytfblegjbmhgepaa.Zt
end
section
namespace Go.Proofs.Ytfblegjbmhgepaa.Zt
open Go Go.Zc
set_option maxRecDepth 10000

theorem underN_app (l : Lay) (t : List Ed) : ∀ (w : List Ed) (b : Int), 0 < b → b ≤ sumL l (w.map Ed.s) → underN l b (w ++ t) = underN l b w
  | [], b, h, h' => by simp [sumL] at h'; omega
  | x :: w, b, h, h' => by
    simp only [List.map_cons, sumL] at h'
    simp only [List.cons_append]
    unfold underN
    split
    · rfl
    · rw [underN_app l t w _ (by omega) (by omega)]
/-- Where two are, and how they may go on, is one. -/
structure Sim (l : Lay) (v v' : Vh) : Prop where
  len : v.length = v'.length
  ah : v.ahead = v'.ahead
  way : ∃ x r t t', v.way = (x :: r) ++ t ∧ v'.way = (x :: r) ++ t' ∧ v.ahead + v.length ≤ sumL l ((x :: r).map Ed.s)
  lo : 0 ≤ v.ahead
  pos : 1 ≤ v.length
theorem under_front {l : Lay} {v : Vh} {w t : List Ed} (hw : v.way = w ++ t) (h : v.ahead + v.length ≤ sumL l (w.map Ed.s)) (h0 : 0 < v.ahead + v.length) : underW l v = w.take (underN l (v.ahead + v.length) w) := by
  unfold underW
  rw [hw, underN_app l t w _ h0 h, List.take_append_of_le_length (underN_le l _ w)]
theorem Sim.under {l : Lay} {v v' : Vh} (h : Sim l v v') : underW l v = underW l v' := by
  obtain ⟨x, r, t, t', h1, h2, h3⟩ := h.way
  have := h.lo; have := h.pos; have := h.len; have := h.ah
  rw [under_front h1 h3 (by omega), under_front h2 (by omega) (by omega), h.len, h.ah]
theorem Sim.underL {l : Lay} {v v' : Vh} (h : Sim l v v') : underL l v = underL l v' := by unfold Zt.underL; rw [h.under]
theorem Sim.step {l : Lay} {v v' : Vh} (h : Sim l v v') (st : Int) (h0 : 0 ≤ st) (h1 : st ≤ v.ahead) : Sim l { v with ahead := v.ahead - st } { v' with ahead := v'.ahead - st } := by
  obtain ⟨x, r, t, t', a1, a2, a3⟩ := h.way
  have := h.pos; have := h.ah
  exact ⟨h.len, by show v.ahead - st = v'.ahead - st; omega, ⟨x, r, t, t', a1, a2, by show v.ahead - st + v.length ≤ _; omega⟩, by show 0 ≤ v.ahead - st; omega, h.pos⟩
theorem Sim.enter {l : Lay} (hl : Lens l) {right : List Bool} {v v' : Vh} (h : Sim l v v') : (enterP l right v = none ∧ enterP l right v' = none) ∨ ∃ u u', enterP l right v = some u ∧ enterP l right v' = some u' ∧ Sim l u u' := by
  have hu := h.underL
  obtain ⟨x, r, t, t', a1, a2, a3⟩ := h.way
  unfold enterP
  rw [a1, a2]
  simp only [List.cons_append]
  cases hn : next l x right with
  | none => exact .inl ⟨rfl, rfl⟩
  | some y =>
    simp only [← hu]
    by_cases hin : y.s ∈ Zt.underL l v
    · rw [if_pos hin, if_pos hin]; exact .inl ⟨rfl, rfl⟩
    · rw [if_neg hin, if_neg hin]
      refine .inr ⟨_, _, rfl, rfl, h.len, rfl, ⟨⟨y.s, 1 - y.e⟩, x :: r, t, t', rfl, rfl, ?_⟩, hl.lo _, h.pos⟩
      have := h.lo
      simp only [List.map_cons, sumL] at a3 ⊢
      omega
theorem Sim.go {l : Lay} (hl : Lens l) (right : List Bool) : ∀ (n : Nat) {v v' : Vh} (left : Int), Sim l v v' → Sim l (goP l right n v left).1 (goP l right n v' left).1 ∧ (goP l right n v left).2 = (goP l right n v' left).2
  | 0, v, v', left, h => ⟨h, rfl⟩
  | n + 1, v, v', left, h => by
    have hlo := h.lo
    unfold goP
    rw [← h.ah]
    by_cases h0 : left ≤ 0
    · rw [if_pos h0, if_pos h0]; exact ⟨h, rfl⟩
    · rw [if_neg h0, if_neg h0]
      have hs := h.step (min left v.ahead) (by omega) (by omega)
      rw [← h.ah] at hs
      by_cases h1 : left - min left v.ahead ≤ 0
      · rw [if_pos h1, if_pos h1]; exact ⟨hs, rfl⟩
      · rw [if_neg h1, if_neg h1]
        rcases hs.enter hl (right := right) with ⟨e1, e2⟩ | ⟨u, u', e1, e2, e3⟩
        · rw [e1, e2]; exact ⟨hs, rfl⟩
        · rw [e1, e2]; exact Sim.go hl right n _ e3
def enough (n : Nat) (v : Vh) (left : Int) : Prop := left + (if 0 < v.ahead then 0 else 1) ≤ n
theorem enterP_ahead {l : Lay} (hl : Lens l) {right : List Bool} (hnx : ∀ x y, next l x right = some y → 0 ≤ y.s ∧ y.s < l.secs.length) {v v' : Vh} (h : enterP l right v = some v') : 0 < v'.ahead := by
  unfold enterP at h
  split at h
  · cases h
  · split at h
    · cases h
    · rename_i y hy
      split at h
      · cases h
      · cases h
        have := hl.one y.s (hnx _ _ hy).1 (hnx _ _ hy).2
        show 0 < lenAt l y.s
        omega
theorem goP_fuel {l : Lay} (hl : Lens l) {right : List Bool} (hnx : ∀ x y, next l x right = some y → 0 ≤ y.s ∧ y.s < l.secs.length) : ∀ (n n' : Nat) (v : Vh) (left : Int), 0 ≤ left → 0 ≤ v.ahead → enough n v left → enough n' v left → goP l right n v left = goP l right n' v left
  | 0, n', v, left, h0, ha, h, h' => by
    have : left = 0 := by unfold enough at h; split at h <;> omega
    subst this
    cases n' with
    | zero => rfl
    | succ n' => simp [goP]
  | n + 1, 0, v, left, h0, ha, h, h' => by
    have : left = 0 := by unfold enough at h'; split at h' <;> omega
    subst this
    simp [goP]
  | n + 1, n' + 1, v, left, h0, ha, h, h' => by
    unfold goP
    by_cases hl0 : left ≤ 0
    · rw [if_pos hl0, if_pos hl0]
    · rw [if_neg hl0, if_neg hl0]
      by_cases h1 : left - min left v.ahead ≤ 0
      · rw [if_pos h1, if_pos h1]
      · rw [if_neg h1, if_neg h1]
        cases he : enterP l right { v with ahead := v.ahead - min left v.ahead } with
        | none => rfl
        | some u =>
          have hu := enterP_ahead hl hnx he
          unfold enough at h h'
          refine goP_fuel hl hnx n n' u _ (by omega) (by omega) ?_ ?_
          · unfold enough; rw [if_pos hu]; split at h <;> omega
          · unfold enough; rw [if_pos hu]; split at h' <;> omega
theorem goP_add {l : Lay} (hl : Lens l) {right : List Bool} (hnx : ∀ x y, next l x right = some y → 0 ≤ y.s ∧ y.s < l.secs.length) : ∀ (n N N' : Nat) (v : Vh) (A B : Int), 0 ≤ A → 0 ≤ B → 0 ≤ v.ahead → enough n v A → enough N v (A + B) → B + 1 ≤ N' →
    goP l right N v (A + B) = ((goP l right N' (goP l right n v A).1 B).1, (goP l right n v A).2 + (goP l right N' (goP l right n v A).1 B).2)
  | n, 0, N', v, A, B, hA, hB, ha, h, hN, hN' => by
    have hz : A = 0 ∧ B = 0 := by unfold enough at hN; split at hN <;> omega
    obtain ⟨rfl, rfl⟩ := hz
    have h1 : goP l right n v 0 = (v, 0) := by cases n <;> simp [goP]
    have h2 : goP l right N' v 0 = (v, 0) := by cases N' <;> simp [goP]
    rw [h1]
    simp only [h2]
    rfl
  | 0, N + 1, N', v, A, B, hA, hB, ha, h, hN, hN' => by
    have hz : A = 0 := by unfold enough at h; split at h <;> omega
    subst hz
    have h1 : goP l right 0 v 0 = (v, 0) := rfl
    rw [h1]
    simp only [Int.zero_add] at hN ⊢
    exact goP_fuel hl hnx _ _ _ _ hB ha hN (by unfold enough; split <;> omega)
  | n + 1, N + 1, N', v, A, B, hA, hB, ha, h, hN, hN' => by
    by_cases hA0 : A ≤ 0
    · have hz : A = 0 := by omega
      subst hz
      have h1 : goP l right (n + 1) v 0 = (v, 0) := by simp [goP]
      rw [h1]
      simp only [Int.zero_add] at hN ⊢
      exact goP_fuel hl hnx _ _ _ _ hB ha hN (by unfold enough; split <;> omega)
    · have e1 : goP l right (n + 1) v A = (if A - min A v.ahead ≤ 0 then ({ v with ahead := v.ahead - min A v.ahead }, A - min A v.ahead) else match enterP l right { v with ahead := v.ahead - min A v.ahead } with
          | none => ({ v with ahead := v.ahead - min A v.ahead }, A - min A v.ahead)
          | some v' => goP l right n v' (A - min A v.ahead)) := by
        conv => lhs; unfold goP
        rw [if_neg hA0]
        rfl
      have e2 : goP l right (N + 1) v (A + B) = (if A + B - min (A + B) v.ahead ≤ 0 then ({ v with ahead := v.ahead - min (A + B) v.ahead }, A + B - min (A + B) v.ahead) else match enterP l right { v with ahead := v.ahead - min (A + B) v.ahead } with
          | none => ({ v with ahead := v.ahead - min (A + B) v.ahead }, A + B - min (A + B) v.ahead)
          | some v' => goP l right N v' (A + B - min (A + B) v.ahead)) := by
        conv => lhs; unfold goP
        rw [if_neg (by omega)]
        rfl
      rw [e1, e2]
      by_cases h1 : A - min A v.ahead ≤ 0
      · rw [if_pos h1]
        have hmA : min A v.ahead = A := by omega
        rw [hmA]
        simp only [Int.sub_self, Int.zero_add]
        by_cases hB0 : B ≤ 0
        · have hz : B = 0 := by omega
          subst hz
          have h3 : goP l right N' { v with ahead := v.ahead - A } 0 = ({ v with ahead := v.ahead - A }, 0) := by cases N' <;> simp [goP]
          rw [h3]
          simp only [Int.add_zero, hmA, Int.sub_self, Int.le_refl, if_true]
        · obtain ⟨N2, rfl⟩ : ∃ N2, N' = N2 + 1 := ⟨N' - 1, by omega⟩
          have hm3 : min B (v.ahead - A) = min (A + B) v.ahead - A := by omega
          have hv : v.ahead - A - min B (v.ahead - A) = v.ahead - min (A + B) v.ahead := by omega
          have hle : B - min B (v.ahead - A) = A + B - min (A + B) v.ahead := by omega
          have e3 : goP l right (N2 + 1) { v with ahead := v.ahead - A } B = (if A + B - min (A + B) v.ahead ≤ 0 then ({ v with ahead := v.ahead - min (A + B) v.ahead }, A + B - min (A + B) v.ahead) else match enterP l right { v with ahead := v.ahead - min (A + B) v.ahead } with
              | none => ({ v with ahead := v.ahead - min (A + B) v.ahead }, A + B - min (A + B) v.ahead)
              | some v' => goP l right N2 v' (A + B - min (A + B) v.ahead)) := by
            conv => lhs; unfold goP
            rw [if_neg hB0]
            simp only [hv, hle]
            rfl
          rw [e3]
          split
          · rfl
          · rename_i hgt
            cases he : enterP l right { v with ahead := v.ahead - min (A + B) v.ahead } with
            | none => rfl
            | some u =>
              have hu := enterP_ahead hl hnx he
              simp only
              have := goP_fuel hl hnx N N2 u (A + B - min (A + B) v.ahead) (by omega) (by omega) (by unfold enough at hN ⊢; rw [if_pos hu]; split at hN <;> omega) (by unfold enough; rw [if_pos hu]; omega)
              rw [this]
      · rw [if_neg h1, if_neg (by omega)]
        have hmA : min A v.ahead = v.ahead := by omega
        have hmAB : min (A + B) v.ahead = v.ahead := by omega
        rw [hmA, hmAB]
        cases he : enterP l right { v with ahead := v.ahead - v.ahead } with
        | none =>
          simp only
          by_cases hB0 : B ≤ 0
          · have hz : B = 0 := by omega
            subst hz
            have h3 : goP l right N' { v with ahead := v.ahead - v.ahead } 0 = ({ v with ahead := v.ahead - v.ahead }, 0) := by cases N' <;> simp [goP]
            rw [h3]
            simp only [Int.add_zero]
          · obtain ⟨N2, rfl⟩ : ∃ N2, N' = N2 + 1 := ⟨N' - 1, by omega⟩
            have e3 : goP l right (N2 + 1) { v with ahead := v.ahead - v.ahead } B = ({ v with ahead := v.ahead - v.ahead }, B) := by
              conv => lhs; unfold goP
              rw [if_neg hB0]
              have hm0 : min B (v.ahead - v.ahead) = 0 := by omega
              simp only [hm0, Int.sub_zero, if_neg hB0, he]
            rw [e3]
            simp only
            congr 1
            omega
        | some u =>
          have hu := enterP_ahead hl hnx he
          simp only
          have hAB : A + B - v.ahead = (A - v.ahead) + B := by omega
          rw [hAB]
          exact goP_add hl hnx n N N' u (A - v.ahead) B (by omega) hB (by omega) (by unfold enough at h ⊢; rw [if_pos hu]; split at h <;> omega) (by unfold enough at hN ⊢; rw [if_pos hu]; split at hN <;> omega) hN'
theorem Sim.cut {l : Lay} (hl : Lens l) {v v' : Vh} (h : Sim l v v') : Sim l v { v' with way := underW l v' } := by
  obtain ⟨x, r, t, t', a1, a2, a3⟩ := h.way
  have := h.lo; have := h.pos; have h5 := h.len; have h6 := h.ah
  have hu := under_front (l := l) a2 (by omega) (by omega : 0 < v'.ahead + v'.length)
  have hs := sumL_take hl.lo (v.ahead + v.length) (x :: r) (by omega) a3
  rw [← h5, ← h6] at hu
  cases hq : (x :: r).take (underN l (v.ahead + v.length) (x :: r)) with
  | nil => rw [hq] at hs; simp [sumL] at hs; omega
  | cons y s =>
    rw [hq] at hu hs
    refine ⟨h5, h6, ⟨y, s, (x :: r).drop (underN l (v.ahead + v.length) (x :: r)) ++ t, [], ?_, by rw [List.append_nil]; exact hu, hs⟩, h.lo, h.pos⟩
    rw [a1, ← hq, ← List.append_assoc, List.take_append_drop]
end Go.Proofs.Ytfblegjbmhgepaa.Zt
end
section
namespace Go.Proofs.Ytfblegjbmhgepaa.Zt
open Go Go.Zc
set_option maxRecDepth 10000

/-- How long the law's vehicles are. -/
def addLen (l : Lay) (c : Car) : Int := if 250 ≤ c.long then carLen l c + 3 * (sumL l (carTrail l c) - carAhead l c) else carLen l c
theorem add_loop (l : Lay) (hl : Lens l) (X : List CV) (hX : CV.locs X = false) (dir ahead : Int) (trail : List Int) (ht : trail.length ≤ 1000) : ∀ (S P : List Int) (r : Int), trail = P ++ S → -1000000 ≤ r → r ≤ 1000000 + 1000 * P.length →
    l18_add_R0 ([(2, .op (.loc 2) 0), (3, .op (.loc 3) 0), (8, .int .i64 dir), (9, sl fI trail), (10, .int .i64 ahead), (11, .int .i64 r), (12, .int .i64 P.length)], ⟨[(2, layC l), (3, X)], []⟩) =
      some (.norm, [(3, .op (.loc 3) 0), (8, .int .i64 dir), (9, sl fI trail), (10, .int .i64 ahead), (11, .int .i64 (r + sumL l S))], ⟨[(3, X)], []⟩) := by
  intro S
  have hsl : CV.locs (layC l) = false := rfl
  induction S with
  | nil =>
    intro P r hP _ _
    have h1 : ¬ ((P.length : Int) < trail.length) := by rw [hP]; simp
    rw [l18_add_R0_eq]
    simp only [l18_add_B0, l18_add_K0_a, h1, hX, hsl, sumL, Int.add_zero, zy, simprocAttr]
  | cons x S ih =>
    intro P r hP hr hr2
    have hpl : P.length + 1 ≤ 1000 := by rw [hP] at ht; simp at ht; omega
    have h1 : ((P.length : Int) < trail.length) := by rw [hP]; simp; omega
    have hw := wrapN (n := P.length) (by unfold Zc.small; omega)
    have hia := iaddr_midI .i64 P S x
    rw [← hP] at hia
    have hlo := hl.lo x
    have hhi := hl.hi x
    have hw2 : IntKind.i64.wrap (r + lenAt l x) = r + lenAt l x := wrap64 (by omega) (by omega)
    have hF := fun st H => len_F l x st H
    have ih' := ih (P ++ [x]) (r + lenAt l x) (by rw [hP]; simp) (by omega) (by simp; omega)
    rw [show (P ++ [x]).length = P.length + 1 by simp] at ih'
    rw [l18_add_R0_eq]
    simp only [l18_add_B0, l18_add_K0_a, h1, hia, hw, hw2, hX, hsl, r05_Len_call, hF, ih', sumL, Int.add_assoc, zy, simprocAttr]

set_option maxHeartbeats 4000000 in
theorem add_F (l : Lay) (hl : Lens l) (c : Car) (hc : c.ok) (H : Heap) : l18_add_F false H [.agg (layC l), .agg (fCar c)] = some (.tup [sl fI (carTrail l c), .int .i64 (addLen l c), .int .i64 (carAhead l c), .int .i64 (c.end' % 2)], H) := by
  have ci := car_is hl hc
  have q1 := hc.sec; have q2 := hc.end'; have q3 := hc.length; have q4 := hc.ahead; have q5 := hc.long
  have hsn := hl.pos
  have hfw := hl.few
  obtain ⟨t, ht⟩ := ci.trail
  have e1 := ci.ahead; have e2 := ci.room; have e3 := ci.length; have e4 := ci.len
  have k1 : IntKind.i64.wrap c.sec = c.sec := wrap64 (by omega) (by omega)
  have k2 : c.sec.tmod (l.secs.length : Int) = c.sec % (l.secs.length : Int) := Int.tmod_eq_emod_of_nonneg q1.1
  have k3 : ¬ ((l.secs.length : Int) = 0) := by omega
  have k4 : c.end'.tmod 2 = c.end' % 2 := Int.tmod_eq_emod_of_nonneg q2.1
  have k5 : IntKind.i64.wrap (c.end' % 2) = c.end' % 2 := wrap64 (by omega) (by omega)
  have k6 : IntKind.i64.wrap (1 - c.end' % 2) = 1 - c.end' % 2 := wrap64 (by omega) (by omega)
  have k7 : c.long.tmod 4 = c.long % 4 := Int.tmod_eq_emod_of_nonneg q5.1
  have k8 : IntKind.i64.wrap (c.long % 4) = c.long % 4 := wrap64 (by omega) (by omega)
  have k9 : IntKind.i64.wrap (1 + c.long % 4) = ((1 + c.long % 4).toNat : Nat) := by rw [wrap64 (by omega) (by omega)]; omega
  have k10 : IntKind.i64.wrap c.ahead = c.ahead := wrap64 (by omega) (by omega)
  have k11 : c.ahead.tmod (lenAt l (c.sec % l.secs.length)) = carAhead l c := Int.tmod_eq_emod_of_nonneg q4.1
  have k12 : ¬ (lenAt l (c.sec % l.secs.length) = 0) := by omega
  have k13 : IntKind.i64.wrap c.length = c.length := wrap64 (by omega) (by omega)
  have k14 : IntKind.i64.wrap (-carAhead l c) = -carAhead l c := wrap64 (by omega) (by omega)
  have k15 : IntKind.i64.wrap (-carAhead l c + sumL l (carTrail l c) - 1) = -carAhead l c + sumL l (carTrail l c) - 1 := wrap64 (by omega) (by omega)
  have hroom : -carAhead l c + sumL l (carTrail l c) - 1 = sumL l (carTrail l c) - carAhead l c - 1 := by omega
  have hroom2 : -carAhead l c + sumL l (carTrail l c) = sumL l (carTrail l c) - carAhead l c := by omega
  rw [hroom] at k15
  have hmul0 : 0 ≤ c.length * (sumL l (carTrail l c) - carAhead l c - 1) := Int.mul_nonneg q3.1 (by omega)
  have hmul1 : c.length * (sumL l (carTrail l c) - carAhead l c - 1) ≤ 255 * 5000 := by
    refine Int.le_trans (Int.mul_le_mul_of_nonneg_right q3.2 (by omega)) ?_
    omega
  have k16 : IntKind.i64.wrap (c.length * (sumL l (carTrail l c) - carAhead l c - 1)) = c.length * (sumL l (carTrail l c) - carAhead l c - 1) := wrap64 (by omega) (by omega)
  have k17 : IntKind.i64.wrap ((c.length * (sumL l (carTrail l c) - carAhead l c - 1)).tdiv 256) = c.length * (sumL l (carTrail l c) - carAhead l c - 1) / 256 := by
    rw [Int.tdiv_eq_ediv_of_nonneg hmul0, wrap64 (by omega) (by omega)]
  have k18 : IntKind.i64.wrap (1 + c.length * (sumL l (carTrail l c) - carAhead l c - 1) / 256) = carLen l c := wrap64 (by omega) (by omega)
  have k19 : IntKind.i64.wrap (3 * (sumL l (carTrail l c) - carAhead l c)) = 3 * (sumL l (carTrail l c) - carAhead l c) := wrap64 (by omega) (by omega)
  have k20 : IntKind.i64.wrap (carLen l c + 3 * (sumL l (carTrail l c) - carAhead l c)) = carLen l c + 3 * (sumL l (carTrail l c) - carAhead l c) := wrap64 (by omega) (by omega)
  have hW : ∀ st H, r05_Walk_F st H [.agg (layC l), .int .i64 (c.sec % l.secs.length), .int .i64 (1 - c.end' % 2), sl fU c.turns, .int .i64 ((1 + c.long % 4).toNat : Nat)] = some (sl fI (carTrail l c), H) :=
    fun st H => walk_F l hl.ok (c.sec % l.secs.length) (1 - c.end' % 2) c.turns hc.turn (1 + c.long % 4).toNat (by unfold Zc.small; omega) H st
  have hi0 : iaddrC 1 (sl fI (carTrail l c)) (.int .i64 0) = some (.vp (.int .i64 (c.sec % l.secs.length) :: t.flatMap fI)) := by
    rw [ht]; exact iaddr_midI .i64 [] t _
  have hL := fun st H => len_F l (c.sec % l.secs.length) st H
  have h4 := add_loop l hl (fCar c) rfl (c.end' % 2) (carAhead l c) (carTrail l c) (by have := ci.few; omega) (carTrail l c) [] (-carAhead l c) rfl (by omega) (by simp; omega)
  simp only [List.length_nil, Int.natCast_zero, hroom2] at h4
  have hneg : unC .neg (.int .i64 (carAhead l c)) = some (.int .i64 (-carAhead l c)) := by
    simp only [unC]
    rw [show (0 : Int) - carAhead l c = -carAhead l c by omega, k14]
  simp only [layC, fCar] at h4 hW hL
  unfold addLen
  rw [l18_add_F_eq]
  by_cases h250 : 250 ≤ c.long
  · rw [if_pos h250]
    simp only [l18_add_C, fCar, k1, k2, k3, k4, k5, k6, k7, k8, k9, k10, k11, k12, k13, k14, k15, k16, k17, k18, k19, k20, r05_Walk_call, hW, hi0, r05_Len_call, hL, l18_add_L0_eq, h4, hneg, h250, ge_iff_le, layC, zy, simprocAttr]
  · rw [if_neg h250]
    simp only [l18_add_C, fCar, k1, k2, k3, k4, k5, k6, k7, k8, k9, k10, k11, k12, k13, k14, k15, k16, k17, k18, k19, k20, r05_Walk_call, hW, hi0, r05_Len_call, hL, l18_add_L0_eq, h4, hneg, h250, ge_iff_le, layC, zy, simprocAttr]
end Go.Proofs.Ytfblegjbmhgepaa.Zt
end
section
namespace Go.Proofs.Ytfblegjbmhgepaa.Zt
open Go Go.Zc
set_option maxRecDepth 10000

/-- The first vehicle of a world. -/
theorem first_F {bl : List Blk} {a m : Nat} {l : Lay} (hl : Lens l) (h : Wld bl a m l []) (id length ahead dir : Int) (trail : List Int) (hid : -9223372036854775808 ≤ id ∧ id ≤ 9223372036854775807) (ha : -1000000000 ≤ ahead ∧ ahead ≤ 1000000000) (hma : mayAdd l length ahead dir trail = true) :
    ∃ bl' e k, (∀ bx, world_World_Add_F bx bl [.op (.blk a) 0, .int .i64 id, .int .i64 length, .int .i64 ahead, .int .i64 dir, sl fI trail] = some (.int .i64 0, ⟨bx, bl'⟩)) ∧ Rig l a m [] [] bl' e k ∧ e.v = ⟨id, length, ahead, wayIn l dir trail⟩ ∧
      (∀ (j : Nat) (b : Blk), bl[j]? = some b → j ≠ m → bl'[j]? = some b) ∧ bl.length ≤ e.c ∧ bl.length ≤ k ∧ bl.length ≤ bl'.length := by
  obtain ⟨bl', e, q1, q2, q3, q4, q5, q6, q7, q8⟩ := wAdd_F hl h id length ahead dir trail ha rfl (by simp) hma
  obtain ⟨s1, ⟨x, r, s2, _⟩, _⟩ := mayAdd_ok hma id
  have hal := (List.getElem?_eq_some_iff.1 h.top).1
  have hml := (List.getElem?_eq_some_iff.1 h.map).1
  have hfit := s1.fits hl
  rcases q8 with ⟨_, h0⟩ | ⟨k, k1, k2⟩
  · rw [q3] at h0
    rw [show (⟨id, length, ahead, wayIn l dir trail⟩ : Vh).way = wayIn l dir trail from rfl] at h0
    simp only at s2
    rw [h0] at s2
    cases s2
  · have hk := q6 k (by rw [k1]; rfl)
    refine ⟨bl', e, k, q1, ⟨by simpa using q2, ⟨fun y hy => ?_, fun y hy => ?_, by simp⟩, fun y hy => (by cases hy), ⟨k1, ⟨[], by simpa using k2⟩, hk.2⟩, fun y hy => (by cases hy), ⟨by omega, by omega⟩⟩, q3, q4, q5, hk.1, q7⟩
    · have : y = e := by simpa using hy
      rw [this, q3]; exact hfit
    · have : y = e := by simpa using hy
      rw [this, q3]; exact hid
theorem car_fits {l : Lay} (hl : Lens l) {c : Car} (hc : c.ok) : fits l ⟨3, 0, 0, c.end' % 2, carAhead l c, false, carTrail l c⟩ = true := by
  have ci := car_is hl hc
  have hs0 := ci.at0; have hs1 := ci.at1
  have e1 := ci.ahead; have e4 := ci.len; have hfew := ci.few
  have q2 := hc.end'
  have hlens : ∀ x y, y ∈ around l x → lenAt l y.s ≠ 0 := fun x y h => by
    have := around_in h
    have := hl.one y.s this.1.1 this.1.2
    omega
  obtain ⟨t, w1, w2, w3, w4⟩ := walk_follows hl.apart hlens c.turns (((1 + c.long % 4).toNat : Int) - 1).toNat 0 [c.sec % l.secs.length] ⟨c.sec % l.secs.length, 1 - c.end' % 2⟩ (by simp)
  have hw : carTrail l c = (c.sec % l.secs.length) :: t := w1
  have hf := w4 (follows l) (fun _ => rfl) (fun e s r => by simp only [follows]; cases (around l e).find? (fun x => x.s == s) <;> rfl)
  have hu : unlFrom l [] ((c.sec % l.secs.length) :: t) = true := by
    rw [unlFrom_iff]
    refine ⟨by simpa using w2, fun x hx => ⟨?_, by simp⟩⟩
    rcases List.mem_cons.1 hx with rfl | hx
    · omega
    · exact w3 x hx
  rw [hw] at hfew
  unfold fits
  simp only [hw, hu, hf, Bool.and_true, Bool.and_eq_true, decide_eq_true_eq]
  simp only [List.length_cons, and_true, true_and] at hfew ⊢
  omega
/-- The law's vehicles may come. -/
theorem car_may {l : Lay} (hl : Lens l) {c : Car} (hc : c.ok) (h : c.long < 200) : mayAdd l (addLen l c) (carAhead l c) (c.end' % 2) (carTrail l c) = true := by
  have ci := car_is hl hc
  obtain ⟨t, ht⟩ := ci.trail
  have e1 := ci.ahead; have e2 := ci.room; have e3 := ci.length
  have hlen := hc.length
  have hf := car_fits hl hc
  unfold mayAdd addLen
  rw [hf, if_neg (by omega)]
  simp only [Bool.true_and, Bool.and_eq_true, decide_eq_true_eq]
  refine ⟨⟨by rw [ht]; exact e1.2, e3.1⟩, ?_⟩
  have h9 : c.length * (sumL l (carTrail l c) - carAhead l c - 1) ≤ 255 * (sumL l (carTrail l c) - carAhead l c - 1) := Int.mul_le_mul_of_nonneg_right hlen.2 (by omega)
  unfold carLen
  omega
end Go.Proofs.Ytfblegjbmhgepaa.Zt
end
section
namespace Go.Proofs.Ytfblegjbmhgepaa.Zt
open Go Go.Zc
set_option maxRecDepth 10000

/-- The other one's turn. -/
theorem Rig.swap {l : Lay} {a m k q : Nat} {bl : List Blk} {e x : Ve} (h : Rig l a m [x] [] bl e k) (hx : Mine bl x q) (hq : a ≠ q ∧ m ≠ q) : Rig l a m [] [e] bl x q := by
  obtain ⟨o1, o2, o3, o4⟩ := h.o x (by simp)
  have sx : blkOf x.s = some q := by rw [hx.s]; rfl
  have se : blkOf e.s = some k := by rw [h.mine.s]; rfl
  rw [sx] at o3 o4
  simp only [ne_eq, Option.some.injEq] at o3 o4
  refine ⟨h.w, h.g, fun y hy => (by cases hy), hx, fun y hy => ?_, hq⟩
  have : y = e := by simpa using hy
  subst this
  rw [se]
  simp only [ne_eq, Option.some.injEq]
  exact ⟨fun e => o1 e.symm, fun e => o3 e.symm, fun e => o2 e.symm, fun e => o4 e.symm⟩
/-- A second vehicle. -/
theorem second_F {bl : List Blk} {a m : Nat} {l : Lay} (hl : Lens l) (e : Ve) (k : Nat) (h : Rig l a m [] [] bl e k) (id length ahead dir : Int) (trail : List Int) (hid : -9223372036854775808 ≤ id ∧ id ≤ 9223372036854775807) (hne : e.v.id ≠ id) (ha : -1000000000 ≤ ahead ∧ ahead ≤ 1000000000) (hma : mayAdd l length ahead dir trail = true) :
    ∃ bl' e2 k2, (∀ bx, world_World_Add_F bx bl [.op (.blk a) 0, .int .i64 id, .int .i64 length, .int .i64 ahead, .int .i64 dir, sl fI trail] = some (.int .i64 0, ⟨bx, bl'⟩)) ∧ Rig l a m [e] [] bl' e2 k2 ∧ Mine bl' e k ∧ e2.v = ⟨id, length, ahead, wayIn l dir trail⟩ ∧
      bl.length ≤ e2.c ∧ bl.length ≤ k2 ∧ bl.length ≤ bl'.length ∧ (∀ (j : Nat) (b : Blk), bl[j]? = some b → j ≠ m → bl'[j]? = some b) := by
  have hfr : findE ([] ++ e :: []) id = none := by
    simp [findE, hne]
  obtain ⟨bl', e2, q1, q2, q3, q4, q5, q6, q7, q8⟩ := wAdd_F hl h.w id length ahead dir trail ha hfr (by simp) hma
  obtain ⟨s1, ⟨x, r, s2, _⟩, _⟩ := mayAdd_ok hma id
  have hal := (List.getElem?_eq_some_iff.1 h.w.top).1
  have hml := (List.getElem?_eq_some_iff.1 h.w.map).1
  have hce := h.w.cell e (by simp)
  have hcl := (List.getElem?_eq_some_iff.1 hce).1
  obtain ⟨rest, hr⟩ := h.mine.at'
  have hkl := (List.getElem?_eq_some_iff.1 hr).1
  have hfit := s1.fits hl
  have sx : blkOf e.s = some k := by rw [h.mine.s]; rfl
  rcases q8 with ⟨_, h0⟩ | ⟨k2, k1, k2'⟩
  · rw [q3] at h0
    rw [show (⟨id, length, ahead, wayIn l dir trail⟩ : Vh).way = wayIn l dir trail from rfl] at h0
    simp only at s2
    rw [h0] at s2
    cases s2
  · have hk := q6 k2 (by rw [k1]; rfl)
    refine ⟨bl', e2, k2, q1, ⟨q2, ⟨fun y hy => ?_, fun y hy => ?_, by simp⟩, fun y hy => ?_, ⟨k1, ⟨[], by simpa using k2'⟩, hk.2⟩, fun y hy => ?_, ⟨by omega, by omega⟩⟩, ⟨h.mine.s, ⟨rest, q4 _ _ hr (Ne.symm h.ak.2)⟩, h.mine.ne⟩, q3, q5, hk.1, q7, q4⟩
    · have : y = e ∨ y = e2 := by simpa using hy
      rcases this with rfl | rfl
      · exact h.g.fit _ (by simp)
      · rw [q3]; exact hfit
    · have : y = e ∨ y = e2 := by simpa using hy
      rcases this with rfl | rfl
      · exact h.g.ids _ (by simp)
      · rw [q3]; exact hid
    · have : y = e := by simpa using hy
      rw [this, q3]; exact hne
    · have : y = e := by simpa using hy
      rw [this, sx]
      simp only [ne_eq, Option.some.injEq]
      omega
end Go.Proofs.Ytfblegjbmhgepaa.Zt
end
section
namespace Go.Proofs.Ytfblegjbmhgepaa.Zt
open Go Go.Zc
set_option maxRecDepth 10000

theorem Sim.of {l : Lay} {v : Vh} (hs : Sound l v) (hw : v.way ≠ []) : Sim l v v := by
  cases hq : v.way with
  | nil => exact absurd hq hw
  | cons x r =>
    have := hs.room
    rw [hq] at this
    exact ⟨rfl, rfl, ⟨x, r, [], [], by simpa using hq, by simpa using hq, this⟩, hs.ahead, hs.pos⟩
theorem next_is {l : Lay} {right : List Bool} : ∀ x y, next l x right = some y → (0 ≤ y.s ∧ y.s < l.secs.length) ∧ -1000 ≤ y.e ∧ y.e ≤ 1000 := fun x y h => by
  obtain ⟨h1, h2⟩ := around_in (next_mem h)
  exact ⟨h1, by omega, by omega⟩
theorem goes_law {l : Lay} (hl : Lens l) (right : List Bool) (v : Vh) (hs : Sound l v) (hw : v.way ≠ []) (A B : Int) (hA : 0 ≤ A) (hB : 0 ≤ B) :
    (A - (goP l right (A.toNat + 1) v A).2) + (B - (goP l right (B.toNat + 1) (cutP l (goP l right (A.toNat + 1) v A).1) B).2) = A + B - (goP l right ((A + B).toNat + 1) v (A + B)).2 ∧
    Sim l (cutP l (goP l right ((A + B).toNat + 1) v (A + B)).1) (cutP l (goP l right (B.toNat + 1) (cutP l (goP l right (A.toNat + 1) v A).1) B).1) ∧
    (cutP l (goP l right ((A + B).toNat + 1) v (A + B)).1).way = (cutP l (goP l right (B.toNat + 1) (cutP l (goP l right (A.toNat + 1) v A).1) B).1).way := by
  have hnx : ∀ x y, next l x right = some y → 0 ≤ y.s ∧ y.s < l.secs.length := fun x y h => (next_is x y h).1
  have s0 := Sim.of hs hw
  have s1 := (s0.go hl right (A.toNat + 1) A).1
  have s2 : Sim l (goP l right (A.toNat + 1) v A).1 (cutP l (goP l right (A.toNat + 1) v A).1) := s1.cut hl
  have ha := hs.ahead
  have e := goP_add hl hnx (A.toNat + 1) ((A + B).toNat + 1) (B.toNat + 1) v A B hA hB ha (by unfold enough; split <;> omega) (by unfold enough; split <;> omega) (by omega)
  obtain ⟨s3, s4⟩ := s2.go hl right (B.toNat + 1) B
  rw [e]
  simp only
  refine ⟨by omega, ?_, s3.under⟩
  have t1 := s3.cut hl
  obtain ⟨x, r, t, t', b1, b2, b3⟩ := t1.way
  have s3' : Sim l (goP l right (B.toNat + 1) (cutP l (goP l right (A.toNat + 1) v A).1) B).1 (goP l right (B.toNat + 1) (goP l right (A.toNat + 1) v A).1 B).1 := by
    obtain ⟨x, r, t, t', b1, b2, b3⟩ := s3.way
    exact ⟨s3.len.symm, s3.ah.symm, ⟨x, r, t', t, b2, b1, by have := s3.len; have := s3.ah; omega⟩, by have := s3.ah; have := s3.lo; omega, by have := s3.len; have := s3.pos; omega⟩
  have t2 := s3'.cut hl
  have t3 := s3.under
  have t4 : (cutP l (goP l right (B.toNat + 1) (goP l right (A.toNat + 1) v A).1 B).1).way = (cutP l (goP l right (B.toNat + 1) (cutP l (goP l right (A.toNat + 1) v A).1) B).1).way := t3
  obtain ⟨x2, r2, u, u', c1, c2, c3⟩ := t2.way
  refine ⟨s3.len, s3.ah, ⟨x2, r2, u', u', c2, by rw [← t4]; exact c2, ?_⟩, s3.lo, s3.pos⟩
  have h1 := s3.len; have h2 := s3.ah
  show (goP l right (B.toNat + 1) (goP l right (A.toNat + 1) v A).1 B).1.ahead + (goP l right (B.toNat + 1) (goP l right (A.toNat + 1) v A).1 B).1.length ≤ _
  omega
theorem goP_left {l : Lay} {right : List Bool} : ∀ (n : Nat) (v : Vh) (left : Int), 0 ≤ left → 0 ≤ v.ahead → (∀ x y, next l x right = some y → 0 ≤ lenAt l y.s) → 0 ≤ (goP l right n v left).2 ∧ (goP l right n v left).2 ≤ left
  | 0, v, left, h, _, _ => ⟨h, Int.le_refl _⟩
  | n + 1, v, left, h, ha, hp => by
    unfold goP
    by_cases h0 : left ≤ 0
    · rw [if_pos h0]; exact ⟨h, Int.le_refl _⟩
    · rw [if_neg h0]
      by_cases h1 : left - min left v.ahead ≤ 0
      · rw [if_pos h1]; simp only; omega
      · rw [if_neg h1]
        cases he : enterP l right { v with ahead := v.ahead - min left v.ahead } with
        | none => simp only; omega
        | some u =>
          obtain ⟨_, _, _, x, r, y, _, hy, hu⟩ := enterP_way he
          have := goP_left n u (left - min left v.ahead) (by omega) (by rw [hu]; exact hp x y hy) hp
          simp only
          omega
end Go.Proofs.Ytfblegjbmhgepaa.Zt
end
section
namespace Go.Proofs.Ytfblegjbmhgepaa.Zt
open Go Go.Zc
set_option maxRecDepth 100000

theorem enters_F (st : Bool) (H : Heap) : l18_enters_F st H [] = some (.bool true, H) := by cases st <;> exact fz_run 100 (by kernel_rfl)
end Go.Proofs.Ytfblegjbmhgepaa.Zt
end
section
namespace Go.Proofs.Ytfblegjbmhgepaa.Zt
open Go Go.Zc
set_option maxRecDepth 10000

theorem goP_len {l : Lay} {right : List Bool} : ∀ (n : Nat) (v : Vh) (left : Int), (goP l right n v left).1.way.length ≤ v.way.length + n
  | 0, v, left => by simp [goP]
  | n + 1, v, left => by
    unfold goP
    split
    · simp only; omega
    · split
      · simp only; omega
      · cases he : enterP l right { v with ahead := v.ahead - min left v.ahead } with
        | none => simp only; omega
        | some u =>
          obtain ⟨_, _, h3, _⟩ := enterP_way he
          have := goP_len (l := l) (right := right) n u (left - min left v.ahead)
          have h3' : u.way.length = v.way.length + 1 := h3
          simp only
          omega
theorem goP_id {l : Lay} {right : List Bool} : ∀ (n : Nat) (v : Vh) (left : Int), (goP l right n v left).1.id = v.id
  | 0, v, left => rfl
  | n + 1, v, left => by
    unfold goP
    split
    · rfl
    · split
      · rfl
      · cases he : enterP l right { v with ahead := v.ahead - min left v.ahead } with
        | none => rfl
        | some u =>
          obtain ⟨h1, _⟩ := enterP_way he
          exact (goP_id (l := l) (right := right) n u (left - min left v.ahead)).trans h1
theorem cut_len {l : Lay} (v : Vh) : (cutP l v).way.length ≤ v.way.length := by
  show (underW l v).length ≤ _
  unfold underW
  rw [List.length_take]
  omega
structure GoesRun (l : Lay) (v : Vh) (dir : Int) (trail : List Int) (right : List Bool) (A B : Int) (b1 b2 b3 b4 b5 b6 X1 X2 Y1 Y2 : List Blk) (va vb vc : Vh) (x1 x2 y1 y2 : Int) (t1 t2 u1 u2 : CV) : Prop where
  n0 : ∀ bx, world_New_F bx [] [.agg (layC l)] = some (.op (.blk 1) 0, ⟨bx, [.map [], .cells (worldC l 0)]⟩)
  n1 : ∀ bx, world_New_F bx [.map [], .cells (worldC l 0)] [.agg (layC l)] = some (.op (.blk 3) 0, ⟨bx, b1⟩)
  f1 : ∀ bx, world_World_Add_F bx b1 [.op (.blk 1) 0, .int .i64 3, .int .i64 v.length, .int .i64 v.ahead, .int .i64 dir, sl fI trail] = some (.int .i64 0, ⟨bx, b2⟩)
  f2 : ∀ bx, world_World_Add_F bx b2 [.op (.blk 3) 0, .int .i64 3, .int .i64 v.length, .int .i64 v.ahead, .int .i64 dir, sl fI trail] = some (.int .i64 0, ⟨bx, b3⟩)
  gA : ∀ bx, world_World_Go_F bx b3 [.op (.blk 1) 0, .int .i64 3, .int .i64 A, sl fB right] = some (.tup [.int .i64 (A - (goP l right (A.toNat + 1) v A).2), .int .i64 0], ⟨bx, b4⟩)
  gB : ∀ bx, world_World_Go_F bx b4 [.op (.blk 1) 0, .int .i64 3, .int .i64 B, sl fB right] = some (.tup [.int .i64 (B - (goP l right (B.toNat + 1) va B).2), .int .i64 0], ⟨bx, b5⟩)
  gC : ∀ bx, world_World_Go_F bx b5 [.op (.blk 3) 0, .int .i64 3, .int .i64 (A + B), sl fB right] = some (.tup [.int .i64 (A + B - (goP l right ((A + B).toNat + 1) v (A + B)).2), .int .i64 0], ⟨bx, b6⟩)
  r1 : ∀ bx, world_World_Report_F bx b6 [.op (.blk 1) 0, .int .i64 3, .int .i64 1] = some (.tup [.agg [.int .u8 3, .int .i64 3, .int .i64 1, .int .i64 x1, .int .i64 vb.ahead, .bool (decide (((underL l vb).length : Int) ≤ 12)), t1], .bool true], ⟨bx, b6 ++ X1⟩)
  r2 : ∀ bx, world_World_Report_F bx (b6 ++ X1) [.op (.blk 3) 0, .int .i64 3, .int .i64 1] = some (.tup [.agg [.int .u8 3, .int .i64 3, .int .i64 1, .int .i64 x2, .int .i64 vc.ahead, .bool (decide (((underL l vc).length : Int) ≤ 12)), t2], .bool true], ⟨bx, b6 ++ X1 ++ X2⟩)
  u1' : ∀ bx, world_World_Under_F bx (b6 ++ X1 ++ X2) [.op (.blk 1) 0, .int .i64 3] = some (u1, ⟨bx, b6 ++ X1 ++ X2 ++ Y1⟩)
  u2' : ∀ bx, world_World_Under_F bx (b6 ++ X1 ++ X2 ++ Y1) [.op (.blk 3) 0, .int .i64 3] = some (u2, ⟨bx, b6 ++ X1 ++ X2 ++ Y1 ++ Y2⟩)
  o1 : Own fI 1 (b6 ++ X1 ++ X2 ++ Y1 ++ Y2) u1 (underL l vb)
  o2 : Own fI 1 (b6 ++ X1 ++ X2 ++ Y1 ++ Y2) u2 (underL l vc)
  va' : va = cutP l (goP l right (A.toNat + 1) v A).1
  vb' : vb = cutP l (goP l right (B.toNat + 1) va B).1
  vc' : vc = cutP l (goP l right ((A + B).toNat + 1) v (A + B)).1
  x1' : ∃ x r, vb.way = x :: r ∧ x1 = x.e
  x2' : ∃ x r, vc.way = x :: r ∧ x2 = x.e
  h1 : Held fI 1 (b6 ++ X1) t1 ((underL l vb).take (min (underL l vb).length 12))
  h2 : Held fI 1 (b6 ++ X1 ++ X2) t2 ((underL l vc).take (min (underL l vc).length 12))

theorem goes_run (l : Lay) (hl : Lens l) (length ahead dir : Int) (trail : List Int) (ha : -1000000000 ≤ ahead ∧ ahead ≤ 1000000000) (hma : mayAdd l length ahead dir trail = true) (right : List Bool) (A B : Int) (hA : 0 ≤ A ∧ A < 1000) (hB : 0 ≤ B ∧ B < 1000) :
    ∃ b1 b2 b3 b4 b5 b6 X1 X2 Y1 Y2 va vb vc x1 x2 y1 y2 t1 t2 u1 u2, GoesRun l ⟨3, length, ahead, wayIn l dir trail⟩ dir trail right A B b1 b2 b3 b4 b5 b6 X1 X2 Y1 Y2 va vb vc x1 x2 y1 y2 t1 t2 u1 u2 := by
  obtain ⟨hs, ⟨x0, r0, hx0, _⟩, _⟩ := mayAdd_ok hma 3
  have hw0 : (⟨3, length, ahead, wayIn l dir trail⟩ : Vh).way ≠ [] := by rw [hx0]; simp
  have hfew := hs.few hl
  have W0 : Wld [.map [], .cells (worldC l 0)] 1 0 l [] := wNew_W l []
  have N0 := fun bx => wNew_F l [] bx
  have N1 := fun bx => wNew_F l [.map [], .cells (worldC l 0)] bx
  have W2 : Wld ([.map [], .cells (worldC l 0)] ++ [.map []] ++ [.cells (worldC l 2)]) 3 2 l [] := wNew_W l [.map [], .cells (worldC l 0)]
  have W1 : Wld ([.map [], .cells (worldC l 0)] ++ [.map []] ++ [.cells (worldC l 2)]) 1 0 l [] := W0.keep ((Grows.app _ _).trans (Grows.app _ _))
  generalize hb1 : ([.map [], .cells (worldC l 0)] ++ [.map []] ++ [.cells (worldC l 2)] : List Blk) = b1 at *
  have hb1l : b1.length = 4 := by rw [← hb1]; rfl
  obtain ⟨b2, e1, k1, f1, R1, v1, K1, c1, c1', n1⟩ := first_F hl W1 3 length ahead dir trail (by omega) ha hma
  have W2' : Wld b2 3 2 l [] := ⟨K1 _ _ W2.top (by decide), K1 _ _ W2.map (by decide), fun e he => (by cases he), fun e he => (by cases he)⟩
  obtain ⟨b3, e2, k2, f2, R2, v2, K2, c2, c2', n2⟩ := first_F hl W2' 3 length ahead dir trail (by omega) ha hma
  have hlt : ∀ {bl : List Blk} {j : Nat} {b : Blk}, bl[j]? = some b → j < bl.length := fun hj => (List.getElem?_eq_some_iff.1 hj).1
  have le1 := hlt (R1.w.cell e1 (by simp))
  obtain ⟨_, at1⟩ := R1.mine.at'
  have lk1 := hlt at1
  have le2 := hlt (R2.w.cell e2 (by simp))
  obtain ⟨_, at2⟩ := R2.mine.at'
  have lk2 := hlt at2
  have s1 : blkOf e1.s = some k1 := by rw [R1.mine.s]; rfl
  have s2 : blkOf e2.s = some k2 := by rw [R2.mine.s]; rfl
  have R1' : Rig l 1 0 [] [] b3 e1 k1 := R1.far (c := 2) (q := 2) ⟨n2, fun j b hj h _ => K2 j b hj h⟩ (by omega) (by omega) (fun x hx => by
    have : x = e1 := by simpa using hx
    subst this
    rw [s1]
    simp only [ne_eq, Option.some.injEq]
    omega)
  obtain ⟨b4, ea, ka, Ra, va, ca, qa, KA, gA⟩ := wGo_F l hl 1 0 [] [] right next_is e1 k1 b3 R1' A (by omega) (by rw [v1]; exact hw0) (by rw [v1]; omega)
  have R2a : Rig l 3 2 [] [] b4 e2 k2 := R2.far KA (by omega) (by omega) (fun x hx => by
    have : x = e2 := by simpa using hx
    subst this
    rw [s2]
    simp only [ne_eq, Option.some.injEq]
    omega)
  have hla := (Ra.g.fit ea (by simp)).way
  have hmA : max A 0 = A := by omega
  have hmB : max B 0 = B := by omega
  have hmC : max (A + B) 0 = A + B := by omega
  rw [hmA, v1] at gA va
  have hsim := Sim.of hs hw0
  have sA := (hsim.go hl right (A.toNat + 1) A).1
  have sA2 := sA.cut hl
  obtain ⟨xa, ra, _, _, _, wa, _⟩ := sA2.way
  have hwa : ea.v.way ≠ [] := by rw [va]; show (cutP l _).way ≠ []; unfold cutP; rw [wa]; simp
  have hwl : ea.v.way.length ≤ 80000 := by
    rw [va]
    have h1 := cut_len (l := l) (goP l right (A.toNat + 1) ⟨3, length, ahead, wayIn l dir trail⟩ A).1
    have h2 := goP_len (l := l) (right := right) (A.toNat + 1) ⟨3, length, ahead, wayIn l dir trail⟩ A
    have := hfew.1
    omega
  obtain ⟨b5, eb, kb, Rb, vb, cb, qb, KB, gB⟩ := wGo_F l hl 1 0 [] [] right next_is ea ka b4 Ra B (by omega) hwa hwl
  have KAl := KA.1
  have R2b : Rig l 3 2 [] [] b5 e2 k2 := R2a.far KB (by omega) (by omega) (fun x hx => by
    have : x = e2 := by simpa using hx
    subst this
    rw [s2]
    simp only [ne_eq, Option.some.injEq]
    omega)
  obtain ⟨b6, ec, kc, Rc, vc, cc, qc, KC, gC⟩ := wGo_F l hl 3 2 [] [] right next_is e2 k2 b5 R2b (A + B) (by omega) (by rw [v2]; exact hw0) (by rw [v2]; omega)
  rw [hmC, v2] at gC vc
  rw [hmB] at gB vb
  have sb : blkOf eb.s = some kb := by rw [Rb.mine.s]; rfl
  have KBl := KB.1
  have Rb' : Rig l 1 0 [] [] b6 eb kb := Rb.far KC (by omega) (by omega) (fun x hx => by
    have : x = eb := by simpa using hx
    subst this
    rw [sb]
    simp only [ne_eq, Option.some.injEq]
    omega)
  obtain ⟨_, gs, gw⟩ := goes_law hl right ⟨3, length, ahead, wayIn l dir trail⟩ hs hw0 A B hA.1 hB.1
  rw [← va, ← vb, ← vc] at gs gw
  have j1 : e1.v.id = 3 := by rw [v1]
  have j2 : e2.v.id = 3 := by rw [v2]
  have ja : ea.v.id = 3 := by rw [va]; exact goP_id (l := l) (right := right) _ ⟨3, length, ahead, wayIn l dir trail⟩ _
  have jb : eb.v.id = 3 := by rw [vb]; exact (goP_id (l := l) (right := right) _ ea.v _).trans ja
  have jc : ec.v.id = 3 := by rw [vc]; exact goP_id (l := l) (right := right) _ ⟨3, length, ahead, wayIn l dir trail⟩ _
  rw [ja] at gB
  obtain ⟨xb, rb, tb, tb', wb, wb', _⟩ := gs.way
  obtain ⟨t1, X1, p1, p2⟩ := wReport_F l hl 1 0 [] [] eb kb b6 Rb' xb (rb ++ tb') (by rw [wb']; rfl) 1
  obtain ⟨t2, X2, p3, p4⟩ := wReport_F l hl 3 2 [] [] ec kc (b6 ++ X1) (Rc.grow X1) xb (rb ++ tb) (by rw [wb]; rfl) 1
  have Rb2 := (Rb'.grow X1).grow X2
  obtain ⟨u1, Y1, y1, y2, y3⟩ := wUnder_F hl Rb2.w Rb2.g.fit eb.v.id
  have Rc2 := ((Rc.grow X1).grow X2).grow Y1
  obtain ⟨u2, Y2, y4, y5, y6⟩ := wUnder_F hl Rc2.w Rc2.g.fit ec.v.id
  have hub : underE l ([] ++ eb :: []) eb.v.id = underL l eb.v := by unfold underE; rw [Rb2.find]
  have huc : underE l ([] ++ ec :: []) ec.v.id = underL l ec.v := by unfold underE; rw [Rc2.find]
  rw [hub] at y2
  rw [huc] at y5
  rw [jb] at p1 y1
  rw [jc] at p3 y4
  refine ⟨b1, b2, b3, b4, b5, b6, X1, X2, Y1, Y2, ea.v, eb.v, ec.v, xb.e, xb.e, 0, 0, t1, t2, u1, u2, N0, ?_, f1, f2, gA, gB, gC, p1, p3, y1, y4, ?_, y5, va, vb, vc, ⟨xb, rb ++ tb', by rw [wb']; rfl, rfl⟩, ⟨xb, rb ++ tb, by rw [wb]; rfl, rfl⟩, p2, p4⟩
  · intro bx
    exact N1 bx
  · rcases y2 with h' | ⟨q, h1', h2'⟩
    · exact .inl h'
    · exact .inr ⟨q, h1', Grows.app _ Y2 _ _ h2'⟩
end Go.Proofs.Ytfblegjbmhgepaa.Zt
end
section
namespace Go.Proofs.Ytfblegjbmhgepaa.Zt
open Go Go.Zc
set_option maxRecDepth 10000

structure StaysRun (l : Lay) (v w : Vh) (dv dw : Int) (tv tw : List Int) (right : List Bool) (N M : Int) (b2 X0 b3 b4 b5 Y1 : List Blk) (y : Int) (was u1 : CV) : Prop where
  n0 : ∀ bx, world_New_F bx [] [.agg (layC l)] = some (.op (.blk 1) 0, ⟨bx, [.map [], .cells (worldC l 0)]⟩)
  f1 : ∀ bx, world_World_Add_F bx [.map [], .cells (worldC l 0)] [.op (.blk 1) 0, .int .i64 1, .int .i64 v.length, .int .i64 v.ahead, .int .i64 dv, sl fI tv] = some (.int .i64 0, ⟨bx, b2⟩)
  u0' : ∀ bx, world_World_Under_F bx b2 [.op (.blk 1) 0, .int .i64 1] = some (was, ⟨bx, b2 ++ X0⟩)
  f2 : ∀ bx, world_World_Add_F bx (b2 ++ X0) [.op (.blk 1) 0, .int .i64 2, .int .i64 w.length, .int .i64 w.ahead, .int .i64 dw, sl fI tw] = some (.int .i64 0, ⟨bx, b3⟩)
  gN : ∀ bx, world_World_Go_F bx b3 [.op (.blk 1) 0, .int .i64 2, .int .i64 N, sl fB right] = some (.tup [.int .i64 y, .int .i64 0], ⟨bx, b4⟩)
  gM : ∀ bx, world_World_Go_F bx b4 [.op (.blk 1) 0, .int .i64 1, .int .i64 M, sl fB right] = some (.tup [.int .i64 0, .int .i64 0], ⟨bx, b5⟩)
  u1' : ∀ bx, world_World_Under_F bx b5 [.op (.blk 1) 0, .int .i64 1] = some (u1, ⟨bx, b5 ++ Y1⟩)
  o1 : Own fI 1 (b5 ++ Y1) u1 (underL l v)
  o0 : Own fI 1 (b5 ++ Y1) was (underL l v)
  l0 : was.locv = false
  al : ∀ bx, world_World_All_F bx (b5 ++ Y1) [.op (.blk 1) 0] = some (sl fI [1, 2], ⟨bx, b5 ++ Y1 ++ [.cells [.om 0]]⟩)
  few : (underL l v).length ≤ Zc.small

theorem stays_run (l : Lay) (hl : Lens l) (n1 a1 d1 : Int) (t1 : List Int) (n2 a2 d2 : Int) (t2 : List Int) (ha1 : -1000000000 ≤ a1 ∧ a1 ≤ 1000000000) (ha2 : -1000000000 ≤ a2 ∧ a2 ≤ 1000000000) (hm1 : mayAdd l n1 a1 d1 t1 = true) (hm2 : mayAdd l n2 a2 d2 t2 = true) (right : List Bool) (N M : Int) (hN : 0 ≤ N ∧ N < 1000) (hM : M ≤ 0) :
    ∃ b2 X0 b3 b4 b5 Y1 y was u1, StaysRun l ⟨1, n1, a1, wayIn l d1 t1⟩ ⟨2, n2, a2, wayIn l d2 t2⟩ d1 d2 t1 t2 right N M b2 X0 b3 b4 b5 Y1 y was u1 := by
  obtain ⟨hs1, ⟨x1, r1, hx1, _⟩, _⟩ := mayAdd_ok hm1 1
  obtain ⟨hs2, ⟨x2, r2, hx2, _⟩, _⟩ := mayAdd_ok hm2 2
  have hfew1 := hs1.few hl
  have hfew2 := hs2.few hl
  have W0 : Wld [.map [], .cells (worldC l 0)] 1 0 l [] := wNew_W l []
  have N0 := fun bx => wNew_F l [] bx
  obtain ⟨b2, e1, k1, f1, R1, v1, K1, c1, c1', m1⟩ := first_F hl W0 1 n1 a1 d1 t1 (by omega) ha1 hm1
  have hlt : ∀ {bl : List Blk} {j : Nat} {b : Blk}, bl[j]? = some b → j < bl.length := fun hj => (List.getElem?_eq_some_iff.1 hj).1
  have j1 : e1.v.id = 1 := by rw [v1]
  obtain ⟨was, X0, u0, o0, p0⟩ := wUnder_F hl R1.w R1.g.fit e1.v.id
  have hu0 : underE l ([] ++ e1 :: []) e1.v.id = underL l e1.v := by unfold underE; rw [R1.find]
  rw [hu0, v1] at o0
  rw [j1] at u0
  have R1g := R1.grow X0
  have le1 := hlt (R1.w.cell e1 (by simp))
  obtain ⟨_, at1⟩ := R1.mine.at'
  have lk1 := hlt at1
  obtain ⟨b3, e2, k2, f2, R2, mi1, v2, c2, c2', m2, K2⟩ := second_F hl e1 k1 R1g 2 n2 a2 d2 t2 (by omega) (by rw [j1]; decide) ha2 hm2
  have j2 : e2.v.id = 2 := by rw [v2]
  obtain ⟨b4, ea, ka, Ra, va, ca, qa, KA, gA⟩ := wGo_F l hl 1 0 [e1] [] right next_is e2 k2 b3 R2 N (by omega) (by rw [v2, hx2]; simp) (by rw [v2]; omega)
  rw [j2] at gA
  have hlX : (b2 ++ X0).length = b2.length + X0.length := List.length_append
  have mi1' : Mine b4 e1 k1 := by
    obtain ⟨rest, hr⟩ := mi1.at'
    exact ⟨mi1.s, ⟨rest, KA.2 _ _ hr (by omega) (by omega)⟩, mi1.ne⟩
  have Rb := Ra.swap mi1' R1.ak
  obtain ⟨b5, eb, kb, Rc, vb, cb, qb, KB, gB⟩ := wGo_F l hl 1 0 [] [ea] right next_is e1 k1 b4 Rb M (by omega) (by rw [v1, hx1]; simp) (by rw [v1]; omega)
  rw [j1] at gB
  have hmx : max M 0 = 0 := by omega
  have hg0 : ∀ v, goP l right ((0 : Int).toNat + 1) v 0 = (v, 0) := fun v => by simp [goP]
  rw [hmx, hg0] at gB vb
  have hsim := (Sim.of hs1 (by rw [hx1]; simp)).cut hl
  have hund : underL l eb.v = underL l ⟨1, n1, a1, wayIn l d1 t1⟩ := by
    rw [vb, v1]
    exact hsim.underL.symm
  have jb : eb.v.id = 1 := by rw [vb]; exact j1
  obtain ⟨u1, Y1, y1, y2, y3⟩ := wUnder_F hl Rc.w Rc.g.fit eb.v.id
  have hub : underE l ([] ++ eb :: [ea]) eb.v.id = underL l eb.v := by unfold underE; rw [Rc.find]
  rw [hub, hund] at y2
  rw [jb] at y1
  have ja : ea.v.id = 2 := by rw [va]; exact (goP_id (l := l) (right := right) _ e2.v _).trans j2
  have Rc2 := Rc.grow Y1
  have hall := wAll_F Rc2.w Rc2.g.ids (by simp)
  have hmap : (([] ++ eb :: [ea] : List Ve).map fun e : Ve => e.v.id) = [1, 2] := by simp [jb, ja]
  rw [hmap] at hall
  have his : isort [1, 2] = [1, 2] := by decide
  rw [his] at hall
  refine ⟨b2, X0, b3, b4, b5, Y1, _, was, u1, N0, f1, u0, f2, gA, gB, y1, y2, ?_, o0.locv, hall, ?_⟩
  · rcases o0 with h' | ⟨q, h1', h2'⟩
    · exact .inl h'
    · refine .inr ⟨q, h1', ?_⟩
      have hq := p0 q (by rw [h1']; rfl)
      have hql := hlt h2'
      exact Grows.app _ Y1 _ _ (KB.2 _ _ (KA.2 _ _ (K2 _ _ h2' (by omega)) (by omega) (by omega)) (by omega) (by omega))
  · have : (underL l ⟨1, n1, a1, wayIn l d1 t1⟩).length ≤ (wayIn l d1 t1).length := by
      unfold underL underW
      rw [List.length_map, List.length_take]
      show min _ (wayIn l d1 t1).length ≤ _
      omega
    have h4 := hfew1.1
    simp only at h4
    unfold Zc.small
    omega
end Go.Proofs.Ytfblegjbmhgepaa.Zt
end
section
namespace Go.Proofs.Ytfblegjbmhgepaa.Zt
open Go Go.Zc
set_option maxRecDepth 10000

set_option maxHeartbeats 4000000 in
theorem worldStays_F (d : Draft) (hd : d.ok) (a : Car) (ha : a.ok) (b : Car) (hb : b.ok) (A : Int) (hA : 0 ≤ A ∧ A ≤ 65535) (m : Int) (hm : -9223372036854775808 ≤ m ∧ m ≤ 9223372036854775807) (right : List Bool) (H : Heap) :
    l18_WorldStays_F false H [.agg (draftC d), .agg (fCar a), .agg (fCar b), .int .u16 A, .int .i64 m, sl fB right] = some (.bool true, H) := by
  have hen := enters_F
  have hsF := fun H => small_F d hd false H
  cases hsm : d.small with
  | false =>
    rw [hsm] at hsF
    rw [l18_WorldStays_F_eq]
    simp only [l18_WorldStays_C, l18_enters_call, hen, r04_Small_call, hsF, zy, simprocAttr]
  | true =>
    rw [hsm] at hsF
    by_cases ht : (12 : Int) < a.turns.length
    · rw [l18_WorldStays_F_eq]
      simp only [l18_WorldStays_C, fCar, l18_enters_call, hen, r04_Small_call, hsF, ht, gt_iff_lt, zy, simprocAttr]
    · by_cases ht' : (12 : Int) < b.turns.length
      · rw [l18_WorldStays_F_eq]
        simp only [l18_WorldStays_C, fCar, l18_enters_call, hen, r04_Small_call, hsF, ht, ht', gt_iff_lt, zy, simprocAttr]
      · by_cases hr : (12 : Int) < right.length
        · rw [l18_WorldStays_F_eq]
          simp only [l18_WorldStays_C, fCar, l18_enters_call, hen, r04_Small_call, hsF, ht, ht', hr, gt_iff_lt, zy, simprocAttr]
        · have hl := full_Lens d
          have hF := fun H => full_F d hd H
          generalize full d = l at *
          have q5 := ha.long
          have q6 := hb.long
          let a' : Car := { a with long := a.long % 200 }
          let b' : Car := { b with long := b.long % 200 }
          have ha' : a'.ok := ⟨ha.1, ha.2, ha.3, ha.4, by show 0 ≤ a.long % 200 ∧ a.long % 200 ≤ 255; omega, ha.6, ha.7⟩
          have hb' : b'.ok := ⟨hb.1, hb.2, hb.3, hb.4, by show 0 ≤ b.long % 200 ∧ b.long % 200 ≤ 255; omega, hb.6, hb.7⟩
          have hadd := fun H => add_F l hl a' ha' H
          have hadd' := fun H => add_F l hl b' hb' H
          have hma := car_may hl ha' (by show a.long % 200 < 200; omega)
          have hmb := car_may hl hb' (by show b.long % 200 < 200; omega)
          have ci := car_is hl ha'
          have ci' := car_is hl hb'
          have k1 : A.tmod 900 = A % 900 := Int.tmod_eq_emod_of_nonneg hA.1
          have k3 : IntKind.i64.wrap (A % 900) = A % 900 := wrap64 (by omega) (by omega)
          have k6 : a.long.tmod 200 = a.long % 200 := Int.tmod_eq_emod_of_nonneg q5.1
          have k7 : b.long.tmod 200 = b.long % 200 := Int.tmod_eq_emod_of_nonneg q6.1
          have key : ∀ M : Int, M ≤ 0 → (0 < m ∧ IntKind.i64.wrap (0 - m) = M ∨ ¬ 0 < m ∧ m = M) → l18_WorldStays_F false H [.agg (draftC d), .agg (fCar a), .agg (fCar b), .int .u16 A, .int .i64 m, sl fB right] = some (.bool true, H) := by
            intro M hM hc
            obtain ⟨b2, X0, b3, b4, b5, Y1, y, was, u1, G⟩ := stays_run l hl (addLen l a') (carAhead l a') (a'.end' % 2) (carTrail l a') (addLen l b') (carAhead l b') (b'.end' % 2) (carTrail l b') (by have := ci.ahead; have := ci.len; omega) (by have := ci'.ahead; have := ci'.len; omega) hma hmb right (A % 900) M (by omega) hM
            have n0 := G.n0; have f1 := G.f1; have f2 := G.f2; have gN := G.gN; have gM := G.gM; have u0' := G.u0'; have u1' := G.u1'; have al := G.al
            have lv := G.l0
            have lv1 := G.o1.locv
            have hI := fun st H => ints_F (underL l ⟨1, addLen l a', carAhead l a', wayIn l (a'.end' % 2) (carTrail l a')⟩) (underL l ⟨1, addLen l a', carAhead l a', wayIn l (a'.end' % 2) (carTrail l a')⟩) G.few st H
            have hI2 : ∀ st H, r01_Ints_F st H [sl fI [1, 2], .vs [.int .i64 1, .int .i64 2] 2] = some (.bool true, H) := fun st H => ints_F [1, 2] [1, 2] (by decide) st H
            simp only [decide_true] at hI
            have hsn1 := fun bx => G.o1.snapV flatI bx false (snapN ⟨bx, b5 ++ Y1⟩ false false 7) (snap_Iq _ false 6)
            have hsn0 := fun bx => G.o0.snapV flatI bx false (snapN ⟨bx, b5 ++ Y1⟩ false false 7) (snap_Iq _ false 6)
            rw [l18_WorldStays_F_eq]
            simp only [fCar, a', b', layC] at hadd hadd' hF n0 f1 f2
            have hun : unC .neg (.int .i64 m) = some (.int .i64 (IntKind.i64.wrap (0 - m))) := rfl
            rcases hc with ⟨hc, hw⟩ | ⟨hc, rfl⟩
            · simp only [l18_WorldStays_C, fCar, l18_enters_call, hen, r04_Small_call, hsF, ht, ht', hr, gt_iff_lt, r05_Full_call, hF, layC, k6, k7, l18_add_call, hadd, hadd', world_New_call, n0, world_World_Add_call, f1, f2, k1, k3, world_World_Go_call, gN, gM, hc, hun, hw, world_World_Under_call, u0', u1', world_World_All_call, al, r01_Ints_call, hsn1, hsn0, lv, lv1, hI, hI2, zy, simprocAttr]
            · simp only [l18_WorldStays_C, fCar, l18_enters_call, hen, r04_Small_call, hsF, ht, ht', hr, gt_iff_lt, r05_Full_call, hF, layC, k6, k7, l18_add_call, hadd, hadd', world_New_call, n0, world_World_Add_call, f1, f2, k1, k3, world_World_Go_call, gN, gM, hc, world_World_Under_call, u0', u1', world_World_All_call, al, r01_Ints_call, hsn1, hsn0, lv, lv1, hI, hI2, zy, simprocAttr]
          by_cases hm0 : 0 < m
          · exact key (0 - m) (by omega) (.inl ⟨hm0, wrap64 (by omega) (by omega)⟩)
          · exact key m (by omega) (.inr ⟨hm0, rfl⟩)
end Go.Proofs.Ytfblegjbmhgepaa.Zt
end
