/- Walks: the program's world: on, to the end. No condition. -/
import Derived.Test.YtfblegjbmhgepaaZcWa2
import Derived.Test.YtfblegjbmhgepaaZcSet
import Derived.Test.YtfblegjbmhgepaaZcT
set_option linter.all false
section
namespace Go.Proofs.Ytfblegjbmhgepaa.Zt
open Go Go.Zc
set_option maxRecDepth 10000

theorem min_ii (a b : Int) : pureOp .min [.int .i64 a, .int .i64 b] = some (.int .i64 (min a b)) := by
  by_cases h : a ≤ b
  · rw [Int.min_eq_left h]
    simp [pureOp, foldC, min2C, h]
    try omega
  · rw [Int.min_eq_right (by omega)]
    simp [pureOp, foldC, min2C, h]
    try omega
theorem enterP_way {l : Lay} {right : List Bool} {v v' : Vh} (h : enterP l right v = some v') : v'.id = v.id ∧ v'.length = v.length ∧ v'.way.length = v.way.length + 1 ∧ ∃ x r y, v.way = x :: r ∧ next l x right = some y ∧ v'.ahead = lenAt l y.s := by
  unfold enterP at h
  split at h
  · cases h
  · rename_i x r hw
    split at h
    · cases h
    · rename_i y hy
      split at h
      · cases h
      · cases h
        exact ⟨rfl, rfl, by simp [hw], x, r, y, hw, hy, rfl⟩

set_option maxHeartbeats 1000000 in
theorem wGo_loop (l : Lay) (hl : Lens l) (a m : Nat) (P S : List Ve) (right : List Bool) (hnx : ∀ x y, next l x right = some y → (0 ≤ y.s ∧ y.s < l.secs.length) ∧ -1000 ≤ y.e ∧ y.e ≤ 1000) : ∀ (n : Nat) (e : Ve) (k : Nat) (bl : List Blk) (gone left : Int), Rig l a m P S bl e k → 0 ≤ left → left + (if 0 < e.v.ahead then 0 else 1) ≤ n →
    0 ≤ gone → gone + left ≤ 1000000 → e.v.way ≠ [] → e.v.way.length + n ≤ 100000 →
    ∃ bl' e' k', Rig l a m P S bl' e' k' ∧ e'.v = (goP l right n e.v left).1 ∧ e'.c = e.c ∧ (k' = k ∨ bl.length ≤ k') ∧ Kept e.c k bl bl' ∧
      world_World_Go_R0 ([(0, .op (.blk a) 0), (1, .int .i64 e.v.id), (3, sl fB right), (10, .op (.blk e.c) 0), (11, .int .i64 gone), (12, .int .i64 left)], ⟨[], bl⟩) =
        some (.norm, [(0, .op (.blk a) 0), (10, .op (.blk e.c) 0), (11, .int .i64 (gone + (left - (goP l right n e.v left).2)))], ⟨[], bl'⟩) := by
  intro n
  induction n with
  | zero =>
    intro e k bl gone left h h0 hn hg hgl hw hwl
    have hl0 : left = 0 := by
      by_cases hp : 0 < e.v.ahead
      · rw [if_pos hp] at hn; omega
      · rw [if_neg hp] at hn; omega
    subst hl0
    refine ⟨bl, e, k, h, rfl, rfl, .inl rfl, ⟨Nat.le_refl _, fun j b hj _ _ => hj⟩, ?_⟩
    rw [world_World_Go_R0_eq]
    simp only [world_World_Go_B0, world_World_Go_K0_a, goP, gt_iff_lt, Int.lt_irrefl, Int.sub_zero, Int.add_zero, zy, simprocAttr]
  | succ n ih =>
    intro e k bl gone left h h0 hn hg hgl hw hwl
    rw [world_World_Go_R0_eq]
    unfold goP
    by_cases hl0 : left ≤ 0
    · have hl1 : ¬ (0 < left) := by omega
      rw [if_pos hl0]
      refine ⟨bl, e, k, h, rfl, rfl, .inl rfl, ⟨Nat.le_refl _, fun j b hj _ _ => hj⟩, ?_⟩
      simp only [world_World_Go_B0, world_World_Go_K0_a, gt_iff_lt, hl1, Int.sub_self, Int.add_zero, zy, simprocAttr]
    · rw [if_neg hl0]
      have hl1 : 0 < left := by omega
      have hem : e ∈ P ++ e :: S := by simp
      have hfit := h.g.fit e hem
      have hfa := hfit.ahead
      have hfl := hfit.length
      have hc := h.w.cell e hem
      have hcl := (List.getElem?_eq_some_iff.1 hc).1
      have hgc : ∀ bx, Heap.get ⟨bx, bl⟩ (.blk e.c) = some (veC e) := fun bx => get_blk bx bl _ _ hc
      have hn2 : nchkC (.op (.blk e.c) 0) = some (.op (.blk e.c) 0) := rfl
      have hmin := min_ii left e.v.ahead
      generalize hst : min left e.v.ahead = st at *
      have hs0 : 0 ≤ st ∧ st ≤ left ∧ st ≤ e.v.ahead := by omega
      have w1 : IntKind.i64.wrap (e.v.ahead - st) = e.v.ahead - st := wrap64 (by omega) (by omega)
      have w2 : IntKind.i64.wrap (left - st) = left - st := wrap64 (by omega) (by omega)
      have w3 : IntKind.i64.wrap (gone + st) = gone + st := wrap64 (by omega) (by omega)
      let v1 : Vh := { e.v with ahead := e.v.ahead - st }
      let B1 := bl.set e.c (.cells [.int .i64 e.v.length, .int .i64 (e.v.ahead - st), e.s])
      have st1 : ∀ bx, stE 1 1 (.int .i64 (e.v.ahead - st)) ⟨bx, bl⟩ (.blk e.c) [.int .i64 e.v.length, .int .i64 e.v.ahead, e.s] = some ⟨bx, B1⟩ := fun bx => st_cell bx _ _ 1 _ _ rfl rfl rfl (by simp)
      obtain ⟨rest, hrest⟩ := h.mine.at'
      have hK1 : Kept e.c k bl B1 := Kept.set bl _
      have hes := h.mine.s
      have hR1 : Rig l a m P S B1 ⟨v1, e.c, .os 2 (.blk k) 0 v1.way.length⟩ k := h.upd hK1 v1 rfl ⟨by show 0 ≤ e.v.ahead - st ∧ _; show _ ∧ e.v.ahead - st ≤ _; omega, hfl, hfit.way⟩ k (.inl rfl)
        (by show (bl.set e.c _)[e.c]? = _; rw [List.getElem?_set_self hcl, hes]; rfl) ⟨rest, by show (bl.set e.c _)[k]? = _; rw [List.getElem?_set_ne (Ne.symm h.mine.ne)]; exact hrest⟩
      by_cases hd : left - st ≤ 0
      · rw [if_pos hd]
        have hd1 : ¬ (0 < left - st) := by omega
        refine ⟨B1, ⟨v1, e.c, .os 2 (.blk k) 0 v1.way.length⟩, k, hR1, rfl, rfl, .inl rfl, hK1, ?_⟩
        have he0 : left - st = 0 := by omega
        have hend := fun g => show world_World_Go_R0 ([(0, .op (.blk a) 0), (1, .int .i64 e.v.id), (3, sl fB right), (10, .op (.blk e.c) 0), (11, .int .i64 g), (12, .int .i64 0)], ⟨[], B1⟩) = some (.norm, [(0, .op (.blk a) 0), (10, .op (.blk e.c) 0), (11, .int .i64 g)], ⟨[], B1⟩) by
          rw [world_World_Go_R0_eq]
          simp only [world_World_Go_B0, world_World_Go_K0_a, gt_iff_lt, Int.lt_irrefl, zy, simprocAttr]
        have hgg : gone + (left - 0) = gone + st := by omega
        rw [he0] at w2
        simp only [world_World_Go_B0, world_World_Go_K0_a, gt_iff_lt, hl1, hn2, hgc, veC, hmin, w1, w2, w3, he0, st1, Int.lt_irrefl, hend, hgg, zy, simprocAttr]
      · rw [if_neg hd]
        have hd1 : 0 < left - st := by omega
        have hsa : st = e.v.ahead := by omega
        obtain ⟨x, r, hxr⟩ : ∃ x r, e.v.way = x :: r := by
          cases hq : e.v.way with
          | nil => exact absurd hq hw
          | cons x r => exact ⟨x, r, rfl⟩
        have hE := wEnter_F hl hR1.w hR1.g _ hR1.find k hR1.mine right x r hxr (fun y hy => (hnx x y hy).2)
        cases hep : enterP l right v1 with
        | none =>
          rw [hep] at hE
          obtain ⟨X, hE⟩ := hE
          have hc1 : B1[e.c]? = some (.cells (veC ⟨v1, e.c, .os 2 (.blk k) 0 v1.way.length⟩)) := hR1.w.cell ⟨v1, e.c, .os 2 (.blk k) 0 v1.way.length⟩ (by simp)
          obtain ⟨rest1, hrest1⟩ := hR1.mine.at'
          have hR2 := hR1.upd (Kept.app B1 X) v1 rfl (hR1.g.fit ⟨v1, e.c, .os 2 (.blk k) 0 v1.way.length⟩ (by simp)) k (.inl rfl) (Grows.app B1 X _ _ hc1) ⟨rest1, Grows.app B1 X _ _ hrest1⟩
          refine ⟨B1 ++ X, ⟨v1, e.c, .os 2 (.blk k) 0 v1.way.length⟩, k, hR2, rfl, rfl, .inl rfl, hK1.trans (Kept.app B1 X) (.inl rfl), ?_⟩
          have hgg : gone + (left - (left - st)) = gone + st := by omega
          have hE' : ∀ bx, world_World_enter_F bx B1 [.op (.blk a) 0, .int .i64 e.v.id, .op (.blk e.c) 0, sl fB right] = some (.bool false, ⟨bx, B1 ++ X⟩) := hE
          simp only [world_World_Go_B0, world_World_Go_K0_a, gt_iff_lt, hl1, hn2, hgc, veC, hmin, w1, w2, w3, hd1, st1, world_World_enter_call, hE', hgg, zy, simprocAttr]
        | some v' =>
          rw [hep] at hE
          obtain ⟨b2, k2, q1, q2, q3, q4, q5, q6⟩ := hE
          obtain ⟨i1, i2, i3, x', r', y, i4, i5, i6⟩ := enterP_way hep
          have hlo := hl.one y.s (hnx x' y i5).1.1 (hnx x' y i5).1.2
          have hhi := hl.hi y.s
          have hKb : Kept e.c k B1 b2 := ⟨q5, q6⟩
          have hfit2 : v'.fits := ⟨by omega, by rw [i2]; exact hfl, by rw [i3]; show e.v.way.length + 1 ≤ _; omega⟩
          have hR2 := hR1.upd hKb v' i1 hfit2 k2 (.inr q4) q2 ⟨[], by simpa using q3⟩
          have hB1l : B1.length = bl.length := List.length_set
          obtain ⟨b3, e3, k3, r1, r2, r3, r4, r5, r6⟩ := ih ⟨v', e.c, .os 2 (.blk k2) 0 v'.way.length⟩ k2 b2 (gone + st) (left - st) hR2 (by omega) (by
            show left - st + (if 0 < v'.ahead then 0 else 1) ≤ _
            rw [if_pos (by omega)]
            by_cases hp : 0 < e.v.ahead
            · rw [if_pos hp] at hn; omega
            · rw [if_neg hp] at hn; omega) (by omega) (by omega) (by
            show v'.way ≠ []
            intro q
            rw [q] at i3
            simp at i3) (by
            show v'.way.length + n ≤ _
            rw [i3]
            show e.v.way.length + 1 + n ≤ _
            omega)
          refine ⟨b3, e3, k3, r1, r2, r3, ?_, (hK1.trans hKb (.inl rfl)).trans r5 (.inr (by omega)), ?_⟩
          · rcases r4 with r4 | r4
            · exact .inr (by omega)
            · exact .inr (by omega)
          have hgg : gone + st + (left - st - (goP l right n v' (left - st)).2) = gone + (left - (goP l right n v' (left - st)).2) := by omega
          rw [hgg] at r6
          have hE' : ∀ bx, world_World_enter_F bx B1 [.op (.blk a) 0, .int .i64 e.v.id, .op (.blk e.c) 0, sl fB right] = some (.bool true, ⟨bx, b2⟩) := q1
          have i1' : v'.id = e.v.id := i1
          simp only [i1'] at r6
          simp only [world_World_Go_B0, world_World_Go_K0_a, gt_iff_lt, hl1, hn2, hgc, veC, hmin, w1, w2, w3, hd1, st1, world_World_enter_call, hE', r6, zy, simprocAttr]
end Go.Proofs.Ytfblegjbmhgepaa.Zt
end
section
namespace Go.Proofs.Ytfblegjbmhgepaa.Zt
open Go Go.Zc
set_option maxRecDepth 10000

theorem max_ii (a b : Int) : pureOp .max [.int .i64 a, .int .i64 b] = some (.int .i64 (max a b)) := by
  by_cases h : a < b
  · rw [Int.max_eq_right (by omega)]
    simp [pureOp, foldC, max2C, h]
  · rw [Int.max_eq_left (by omega)]
    simp [pureOp, foldC, max2C, h]
theorem slc_os (k u n : Nat) (h : u ≤ n) (c : IntKind) : slcC 2 (.os 2 (.blk k) 0 n) none (some (.int c u)) = some (.os 2 (.blk k) 0 u) := by
  simp [slcC, sbound, h]

/-- What is kept of a way. -/
def cutP (l : Lay) (v : Vh) : Vh := { v with way := underW l v }
theorem wGo_F (l : Lay) (hl : Lens l) (a m : Nat) (P S : List Ve) (right : List Bool) (hnx : ∀ x y, next l x right = some y → (0 ≤ y.s ∧ y.s < l.secs.length) ∧ -1000 ≤ y.e ∧ y.e ≤ 1000) (e : Ve) (k : Nat) (bl : List Blk) (h : Rig l a m P S bl e k)
    (metres : Int) (hm : metres ≤ 10000) (hw : e.v.way ≠ []) (hwl : e.v.way.length ≤ 80000) :
    ∃ bl' e' k', Rig l a m P S bl' e' k' ∧ e'.v = cutP l (goP l right ((max metres 0).toNat + 1) e.v (max metres 0)).1 ∧ e'.c = e.c ∧ (k' = k ∨ bl.length ≤ k') ∧ Kept e.c k bl bl' ∧
      ∀ bx, world_World_Go_F bx bl [.op (.blk a) 0, .int .i64 e.v.id, .int .i64 metres, sl fB right] = some (.tup [.int .i64 (max metres 0 - (goP l right ((max metres 0).toNat + 1) e.v (max metres 0)).2), .int .i64 0], ⟨bx, bl'⟩) := by
  obtain ⟨b1, e1, k1, r1, r2, r3, r4, r5, r6⟩ := wGo_loop l hl a m P S right hnx ((max metres 0).toNat + 1) e k bl 0 (max metres 0) h (by omega) (by split <;> omega) (by omega) (by omega) hw (by omega)
  generalize hr : goP l right ((max metres 0).toNat + 1) e.v (max metres 0) = r at *
  have hem1 : e1 ∈ P ++ e1 :: S := by simp
  have hc1 := r1.w.cell e1 hem1
  have hcl := (List.getElem?_eq_some_iff.1 hc1).1
  have hget := wget_F h.w e.v.id
  rw [h.find] at hget
  have hp : ptrE (some e) = .op (.blk e.c) 0 := rfl
  rw [hp] at hget
  have hz : ∀ i o, binC .eql .ptr (.op i o) .nilp = some (.bool false) := fun _ _ => rfl
  have hn2 : nchkC (.op (.blk e.c) 0) = some (.op (.blk e.c) 0) := rfl
  have hgc : ∀ bx, Heap.get ⟨bx, b1⟩ (.blk e1.c) = some (veC e1) := fun bx => get_blk bx b1 _ _ hc1
  have hu := wunder_F hl r1.w e1 hem1 (r1.g.fit e1 hem1)
  have hule := underN_le l (e1.v.ahead + e1.v.length) e1.v.way
  have hs1 := r1.mine.s
  have hsl := slc_os k1 (underN l (e1.v.ahead + e1.v.length) e1.v.way) e1.v.way.length hule .i64
  have hmx := max_ii metres 0
  rw [r3] at hgc hcl hu
  have hwl2 : (underW l e1.v).length = underN l (e1.v.ahead + e1.v.length) e1.v.way := by unfold underW; rw [List.length_take]; omega
  have st1 : ∀ bx, stE 1 2 (.os 2 (.blk k1) 0 (underN l (e1.v.ahead + e1.v.length) e1.v.way)) ⟨bx, b1⟩ (.blk e.c) [.int .i64 e1.v.length, .int .i64 e1.v.ahead, .os 2 (.blk k1) 0 e1.v.way.length] = some ⟨bx, b1.set e.c (.cells [.int .i64 e1.v.length, .int .i64 e1.v.ahead, .os 2 (.blk k1) 0 (underN l (e1.v.ahead + e1.v.length) e1.v.way)])⟩ := fun bx => st_cell bx _ _ 2 _ _ rfl rfl rfl (by simp)
  obtain ⟨rest, hrest⟩ := r1.mine.at'
  have hfit := r1.g.fit e1 hem1
  have hv1 : (cutP l e1.v).way = underW l e1.v := rfl
  have hR := r1.upd (Kept.set b1 (.cells [.int .i64 e1.v.length, .int .i64 e1.v.ahead, .os 2 (.blk k1) 0 (underN l (e1.v.ahead + e1.v.length) e1.v.way)])) (cutP l e1.v) rfl ⟨hfit.ahead, hfit.length, by rw [hv1, hwl2]; have := hfit.way; omega⟩ k1 (.inl rfl)
    (by rw [r3, List.getElem?_set_self hcl, hv1, hwl2]; rfl)
    ⟨(e1.v.way.drop (underN l (e1.v.ahead + e1.v.length) e1.v.way)).flatMap fE ++ rest, by
      rw [List.getElem?_set_ne (Ne.symm r1.mine.ne), hrest, hv1, ← List.append_assoc, ← List.flatMap_append]
      unfold underW
      rw [List.take_append_drop]⟩
  refine ⟨_, _, k1, hR, by rw [← r2], r3, r4, r5.trans (r3 ▸ Kept.set b1 _) (.inl rfl), fun bx => ?_⟩
  rw [world_World_Go_F_eq]
  rw [Int.zero_add] at r6
  simp only [world_World_Go_C, world_World_get_call, hget, hz, hn2, hmx, world_World_Go_L0_eq, r6, hgc, veC, hs1, world_World_under_call, hu, hsl, st1, r3, zy, simprocAttr]
end Go.Proofs.Ytfblegjbmhgepaa.Zt
end
section
namespace Go.Proofs.Ytfblegjbmhgepaa.Zt
open Go Go.Zc
set_option maxRecDepth 10000

theorem next_is {l : Lay} {right : List Bool} : ∀ x y, next l x right = some y → (0 ≤ y.s ∧ y.s < l.secs.length) ∧ -1000 ≤ y.e ∧ y.e ≤ 1000 := fun x y h => by
  obtain ⟨h1, h2⟩ := around_in (next_mem h)
  exact ⟨h1, by omega, by omega⟩
theorem goP_id {l : Lay} {right : List Bool} : ∀ (n : Nat) (v : Vh) (left : Int), (goP l right n v left).1.id = v.id
  | 0, v, left => rfl
  | n + 1, v, left => by
    unfold goP
    split
    · rfl
    · split
      · rfl
      · cases he : enterP l right { v with ahead := v.ahead - min left v.ahead } with
        | none => rfl
        | some u =>
          obtain ⟨h1, _⟩ := enterP_way he
          exact (goP_id (l := l) (right := right) n u (left - min left v.ahead)).trans h1
theorem underN_mono {l : Lay} (hl : ∀ s, 0 ≤ lenAt l s) : ∀ (w : List Ed) (b b' : Int), b ≤ b' → underN l b w ≤ underN l b' w
  | [], b, b', _ => by simp [underN]
  | x :: w, b, b', h => by
    have := underN_mono hl w (b - lenAt l x.s) (b' - lenAt l x.s) (by omega)
    unfold underN
    split <;> split <;> omega
end Go.Proofs.Ytfblegjbmhgepaa.Zt
end
section
namespace Go.Proofs.Ytfblegjbmhgepaa.Zt
open Go Go.Zc
set_option maxRecDepth 10000

theorem underW_ahead {l : Lay} (hl : ∀ s, 0 ≤ lenAt l s) (v : Vh) (a : Int) (h : a ≤ v.ahead) : underW l { v with ahead := a, way := underW l v } = underW l { v with ahead := a } := by
  unfold underW
  simp only
  have hm := underN_mono hl v.way (a + v.length) (v.ahead + v.length) (by omega)
  rw [underN_take l _ _ _ hm, List.take_take, Nat.min_eq_left hm]
theorem sound_step {l : Lay} (hl : ∀ s, 0 ≤ lenAt l s) {v : Vh} (h : Sound l (cutP l v)) (a : Int) (h0 : 0 ≤ a) (h1 : a ≤ v.ahead) : Sound l (cutP l { v with ahead := a }) := by
  have hr : v.ahead + v.length ≤ sumL l ((underW l v).map Ed.s) := h.room
  have hp : 1 ≤ v.length := h.pos
  have hs : Sound l { v with ahead := a, way := underW l v } := ⟨h.pos, h0, by show a + v.length ≤ sumL l ((underW l v).map Ed.s); omega, h.once, h.there, h.link⟩
  have hc := hs.cut hl
  rw [underW_ahead hl v a h1] at hc
  exact hc
theorem sound_enter {l : Lay} (hl : Lens l) {right : List Bool} {v v' : Vh} (h : Sound l (cutP l v)) (h0 : v.ahead = 0) (he : enterP l right v = some v') : Sound l (cutP l v') ∧ v'.length = v.length ∧ ∃ e r, v'.way = e :: r ∧ v'.ahead = lenAt l e.s := by
  have hp : 1 ≤ v.length := h.pos
  unfold enterP at he
  cases hw : v.way with
  | nil => simp [hw] at he
  | cons e r =>
    simp only [hw] at he
    cases hx : next l e right with
    | none => simp [hx] at he
    | some x =>
      simp only [hx] at he
      split at he
      · cases he
      · rename_i hno
        cases he
        refine ⟨?_, rfl, _, _, rfl, rfl⟩
        obtain ⟨t, ht⟩ := underW_cons (l := l) hw
        have hE : enterV l right (cutP l v) = some { cutP l v with ahead := lenAt l x.s, way := ⟨x.s, 1 - x.e⟩ :: underW l v } := by
          unfold enterV
          have hcw : (cutP l v).way = e :: t := ht
          have hcu : underW l (cutP l v) = underW l v := underW_idem l v
          have hno' : ¬ x.s ∈ underL l (cutP l v) := by unfold underL; rw [hcu]; exact hno
          simp only [hcw, hx]
          rw [if_neg hno', hcu]
        have hs := (enter_sound hl.lo hl.back h h0 hE).1
        have hu : underW l ⟨v.id, v.length, lenAt l x.s, ⟨x.s, 1 - x.e⟩ :: e :: r⟩ = ⟨x.s, 1 - x.e⟩ :: underW l v := by
          unfold underW
          simp only
          have h1 : underN l (lenAt l x.s + v.length) (⟨x.s, 1 - x.e⟩ :: e :: r) = underN l v.length (e :: r) + 1 := by
            conv => lhs; unfold underN
            rw [if_neg (by simp only; omega)]
            simp only [show lenAt l x.s + v.length - lenAt l x.s = v.length by omega]
          rw [h1, List.take_succ_cons, h0, hw, Int.zero_add]
        unfold cutP
        simp only
        rw [hu]
        exact hs
theorem goP_ok {l : Lay} (hl : Lens l) {right : List Bool} : ∀ (n : Nat) (v : Vh) (left : Int), Sound l (cutP l v) → (∃ e r, v.way = e :: r ∧ v.ahead ≤ lenAt l e.s ∧ (v.ahead < lenAt l e.s ∨ 0 < left)) → left + (if 0 < v.ahead then 0 else 1) ≤ n →
    Sound l (cutP l (goP l right n v left).1) ∧ Front l (cutP l (goP l right n v left).1)
  | n, v, left, h, ⟨e, r, hw, h1, h2⟩, hn => by
    have hfr : ∀ v : Vh, ∀ e r, v.way = e :: r → v.ahead < lenAt l e.s → Front l (cutP l v) := fun v e r hw ha => by
      obtain ⟨t, ht⟩ := underW_cons (l := l) hw
      exact ⟨e, t, ht, ha⟩
    have ha : 0 ≤ v.ahead := h.ahead
    obtain ⟨t, ht⟩ := underW_cons (l := l) hw
    have hin := h.there e (by show e ∈ underW l v; rw [ht]; simp)
    have hlen := hl.one e.s hin.1.1 hin.1.2
    cases n with
    | zero =>
      have hle : left ≤ 0 := by split at hn <;> omega
      simp only [goP]
      refine ⟨h, hfr v e r hw ?_⟩
      omega
    | succ n =>
      unfold goP
      by_cases hl0 : left ≤ 0
      · rw [if_pos hl0]
        exact ⟨h, hfr v e r hw (by omega)⟩
      · rw [if_neg hl0]
        have hs := sound_step hl.lo h (v.ahead - min left v.ahead) (by omega) (by omega)
        by_cases hl1 : left - min left v.ahead ≤ 0
        · rw [if_pos hl1]
          exact ⟨hs, hfr { v with ahead := v.ahead - min left v.ahead } e r hw (by simp only; omega)⟩
        · rw [if_neg hl1]
          cases he : enterP l right { v with ahead := v.ahead - min left v.ahead } with
          | none => exact ⟨hs, hfr { v with ahead := v.ahead - min left v.ahead } e r hw (by simp only; omega)⟩
          | some u =>
            obtain ⟨q1, _, e', r', q3, q4⟩ := sound_enter hl hs (by simp only; omega) he
            have hin' := q1.there e' (by obtain ⟨t', ht'⟩ := underW_cons (l := l) q3; show e' ∈ underW l u; rw [ht']; simp)
            have hlen' := hl.one e'.s hin'.1.1 hin'.1.2
            exact goP_ok hl n u _ q1 ⟨e', r', q3, by omega, .inr (by omega)⟩ (by rw [if_pos (by omega)]; split at hn <;> omega)
end Go.Proofs.Ytfblegjbmhgepaa.Zt
end
section
namespace Go.Proofs.Ytfblegjbmhgepaa.Zt
open Go Go.Zc
set_option maxRecDepth 10000

/-- A world that another one's turn leaves as it was. -/
theorem Rig.far {l : Lay} {a m k : Nat} {P S : List Ve} {bl bl' : List Blk} {e : Ve} (h : Rig l a m P S bl e k) {c q : Nat} (hk : Kept c q bl bl') (ha : a ≠ c ∧ a ≠ q) (hm : m ≠ c ∧ m ≠ q) (hc : ∀ x ∈ P ++ e :: S, (x.c ≠ c ∧ x.c ≠ q) ∧ blkOf x.s ≠ some c ∧ blkOf x.s ≠ some q) : Rig l a m P S bl' e k := by
  have hem : e ∈ P ++ e :: S := by simp
  obtain ⟨rest, hr⟩ := h.mine.at'
  have hbs : blkOf e.s = some k := by rw [h.mine.s]; rfl
  refine ⟨⟨hk.2 _ _ h.w.top ha.1 ha.2, hk.2 _ _ h.w.map hm.1 hm.2, fun x hx => hk.2 _ _ (h.w.cell x hx) (hc x hx).1.1 (hc x hx).1.2, fun x hx => (h.w.way x hx).keep fun j b hj hb => hk.2 _ _ hj (fun e' => (hc x hx).2.1 (by rw [hb, e'])) (fun e' => (hc x hx).2.2 (by rw [hb, e']))⟩,
    h.g, h.f, ⟨h.mine.s, ⟨rest, hk.2 _ _ hr (fun q' => (hc e hem).2.1 (by rw [hbs, q'])) (fun q' => (hc e hem).2.2 (by rw [hbs, q']))⟩, h.mine.ne⟩, h.o, h.ak⟩
theorem Rig.grow {l : Lay} {a m k : Nat} {P S : List Ve} {bl : List Blk} {e : Ve} (h : Rig l a m P S bl e k) (X : List Blk) : Rig l a m P S (bl ++ X) e k := by
  obtain ⟨rest, hr⟩ := h.mine.at'
  exact ⟨h.w.keep (Grows.app bl X), h.g, h.f, ⟨h.mine.s, ⟨rest, Grows.app bl X _ _ hr⟩, h.mine.ne⟩, h.o, h.ak⟩

theorem wReport_F (l : Lay) (hl : Lens l) (a m : Nat) (P S : List Ve) (e : Ve) (k : Nat) (bl : List Blk) (h : Rig l a m P S bl e k) (x : Ed) (r : List Ed) (hw : e.v.way = x :: r) (now : Int) :
    ∃ v X, (∀ bx, world_World_Report_F bx bl [.op (.blk a) 0, .int .i64 e.v.id, .int .i64 now] = some (.tup [.agg [.int .u8 3, .int .i64 e.v.id, .int .i64 now, .int .i64 x.e, .int .i64 e.v.ahead, .bool (decide (((underL l e.v).length : Int) ≤ 12)), v], .bool true], ⟨bx, bl ++ X⟩)) ∧
      Held fI 1 (bl ++ X) v ((underL l e.v).take (min (underL l e.v).length 12)) := by
  have hem : e ∈ P ++ e :: S := by simp
  have hc := h.w.cell e hem
  have hget := wget_F h.w e.v.id
  rw [h.find] at hget
  have hp : ptrE (some e) = .op (.blk e.c) 0 := rfl
  rw [hp] at hget
  have hz : ∀ i o, binC .eql .ptr (.op i o) .nilp = some (.bool false) := fun _ _ => rfl
  have hn2 : nchkC (.op (.blk e.c) 0) = some (.op (.blk e.c) 0) := rfl
  obtain ⟨v, X, u1, u2, u3⟩ := wUnder_F hl h.w h.g.fit e.v.id
  have huE : underE l (P ++ e :: S) e.v.id = underL l e.v := by unfold underE; rw [h.find]
  rw [huE] at u2
  have hgc : ∀ bx, Heap.get ⟨bx, bl ++ X⟩ (.blk e.c) = some (veC e) := fun bx => get_blk bx _ _ _ (Grows.app bl X _ _ hc)
  obtain ⟨rest, hk⟩ := h.mine.at'
  have hgk : ∀ bx, Heap.get ⟨bx, bl ++ X⟩ (.blk k) = some (e.v.way.flatMap fE ++ rest) := fun bx => get_blk bx _ _ _ (Grows.app bl X _ _ hk)
  rw [hw] at hgk
  simp only [List.flatMap_cons, fE, List.cons_append, List.nil_append] at hgk
  have hs := h.mine.s
  rw [hw] at hs
  simp only [List.length_cons] at hs
  have hia : iaddrC 2 (.os 2 (.blk k) 0 (r.length + 1)) (.int .i64 0) = some (.op (.blk k) 0) := by
    simp [iaddrC, iaddrN]
  have hlen := u2.len
  have hlv := u2.locv
  obtain ⟨c2, t1, t2, t3⟩ := u2.held.take flatI (min (underL l e.v).length 12) (by omega)
  have t1' := t1 .i64
  have hmn := min_ii (underL l e.v).length 12
  have hcast : min ((underL l e.v).length : Int) 12 = ((min (underL l e.v).length 12 : Nat) : Int) := by omega
  have hlv2 := t2.locv
  have hch := t2.chkV
  have hcl2 : c2.cells = [c2] := by rcases t2 with h' | ⟨h', _⟩ | ⟨m', pre, rest', h', _⟩ <;> rw [h'] <;> rfl
  have hone : ones [c2] = true := by rcases t2 with h' | ⟨h', _⟩ | ⟨m', pre, rest', h', _⟩ <;> rw [h'] <;> rfl
  refine ⟨c2, X, fun bx => ?_, t2⟩
  rw [world_World_Report_F_eq]
  simp only [world_World_Report_C, world_World_get_call, hget, hz, world_World_Under_call, u1, hn2, hgc, veC, hs, hia, hgk, hlen, hlv, hmn, hcast, t1', hlv2, hch, hcl2, hone, zy, simprocAttr]
end Go.Proofs.Ytfblegjbmhgepaa.Zt
end
section
namespace Go.Proofs.Ytfblegjbmhgepaa.Zt
open Go Go.Zc
set_option maxRecDepth 10000

theorem underN_app (l : Lay) (t : List Ed) : ∀ (w : List Ed) (b : Int), 0 < b → b ≤ sumL l (w.map Ed.s) → underN l b (w ++ t) = underN l b w
  | [], b, h, h' => by simp [sumL] at h'; omega
  | x :: w, b, h, h' => by
    simp only [List.map_cons, sumL] at h'
    simp only [List.cons_append]
    unfold underN
    split
    · rfl
    · rw [underN_app l t w _ (by omega) (by omega)]
/-- Where two are, and how they may go on, is one. -/
structure Sim (l : Lay) (v v' : Vh) : Prop where
  len : v.length = v'.length
  ah : v.ahead = v'.ahead
  way : ∃ x r t t', v.way = (x :: r) ++ t ∧ v'.way = (x :: r) ++ t' ∧ v.ahead + v.length ≤ sumL l ((x :: r).map Ed.s)
  lo : 0 ≤ v.ahead
  pos : 1 ≤ v.length
theorem under_front {l : Lay} {v : Vh} {w t : List Ed} (hw : v.way = w ++ t) (h : v.ahead + v.length ≤ sumL l (w.map Ed.s)) (h0 : 0 < v.ahead + v.length) : underW l v = w.take (underN l (v.ahead + v.length) w) := by
  unfold underW
  rw [hw, underN_app l t w _ h0 h, List.take_append_of_le_length (underN_le l _ w)]
theorem Sim.under {l : Lay} {v v' : Vh} (h : Sim l v v') : underW l v = underW l v' := by
  obtain ⟨x, r, t, t', h1, h2, h3⟩ := h.way
  have := h.lo; have := h.pos; have := h.len; have := h.ah
  rw [under_front h1 h3 (by omega), under_front h2 (by omega) (by omega), h.len, h.ah]
theorem Sim.underL {l : Lay} {v v' : Vh} (h : Sim l v v') : underL l v = underL l v' := by unfold Zt.underL; rw [h.under]
theorem Sim.step {l : Lay} {v v' : Vh} (h : Sim l v v') (st : Int) (h0 : 0 ≤ st) (h1 : st ≤ v.ahead) : Sim l { v with ahead := v.ahead - st } { v' with ahead := v'.ahead - st } := by
  obtain ⟨x, r, t, t', a1, a2, a3⟩ := h.way
  have := h.pos; have := h.ah
  exact ⟨h.len, by show v.ahead - st = v'.ahead - st; omega, ⟨x, r, t, t', a1, a2, by show v.ahead - st + v.length ≤ _; omega⟩, by show 0 ≤ v.ahead - st; omega, h.pos⟩
theorem Sim.enter {l : Lay} (hl : Lens l) {right : List Bool} {v v' : Vh} (h : Sim l v v') : (enterP l right v = none ∧ enterP l right v' = none) ∨ ∃ u u', enterP l right v = some u ∧ enterP l right v' = some u' ∧ Sim l u u' := by
  have hu := h.underL
  obtain ⟨x, r, t, t', a1, a2, a3⟩ := h.way
  unfold enterP
  rw [a1, a2]
  simp only [List.cons_append]
  cases hn : next l x right with
  | none => exact .inl ⟨rfl, rfl⟩
  | some y =>
    simp only [← hu]
    by_cases hin : y.s ∈ Zt.underL l v
    · rw [if_pos hin, if_pos hin]; exact .inl ⟨rfl, rfl⟩
    · rw [if_neg hin, if_neg hin]
      refine .inr ⟨_, _, rfl, rfl, h.len, rfl, ⟨⟨y.s, 1 - y.e⟩, x :: r, t, t', rfl, rfl, ?_⟩, hl.lo _, h.pos⟩
      have := h.lo
      simp only [List.map_cons, sumL] at a3 ⊢
      omega
theorem Sim.go {l : Lay} (hl : Lens l) (right : List Bool) : ∀ (n : Nat) {v v' : Vh} (left : Int), Sim l v v' → Sim l (goP l right n v left).1 (goP l right n v' left).1 ∧ (goP l right n v left).2 = (goP l right n v' left).2
  | 0, v, v', left, h => ⟨h, rfl⟩
  | n + 1, v, v', left, h => by
    have hlo := h.lo
    unfold goP
    rw [← h.ah]
    by_cases h0 : left ≤ 0
    · rw [if_pos h0, if_pos h0]; exact ⟨h, rfl⟩
    · rw [if_neg h0, if_neg h0]
      have hs := h.step (min left v.ahead) (by omega) (by omega)
      rw [← h.ah] at hs
      by_cases h1 : left - min left v.ahead ≤ 0
      · rw [if_pos h1, if_pos h1]; exact ⟨hs, rfl⟩
      · rw [if_neg h1, if_neg h1]
        rcases hs.enter hl (right := right) with ⟨e1, e2⟩ | ⟨u, u', e1, e2, e3⟩
        · rw [e1, e2]; exact ⟨hs, rfl⟩
        · rw [e1, e2]; exact Sim.go hl right n _ e3
def enough (n : Nat) (v : Vh) (left : Int) : Prop := left + (if 0 < v.ahead then 0 else 1) ≤ n
theorem enterP_ahead {l : Lay} (hl : Lens l) {right : List Bool} (hnx : ∀ x y, next l x right = some y → 0 ≤ y.s ∧ y.s < l.secs.length) {v v' : Vh} (h : enterP l right v = some v') : 0 < v'.ahead := by
  unfold enterP at h
  split at h
  · cases h
  · split at h
    · cases h
    · rename_i y hy
      split at h
      · cases h
      · cases h
        have := hl.one y.s (hnx _ _ hy).1 (hnx _ _ hy).2
        show 0 < lenAt l y.s
        omega
theorem goP_fuel {l : Lay} (hl : Lens l) {right : List Bool} (hnx : ∀ x y, next l x right = some y → 0 ≤ y.s ∧ y.s < l.secs.length) : ∀ (n n' : Nat) (v : Vh) (left : Int), 0 ≤ left → 0 ≤ v.ahead → enough n v left → enough n' v left → goP l right n v left = goP l right n' v left
  | 0, n', v, left, h0, ha, h, h' => by
    have : left = 0 := by unfold enough at h; split at h <;> omega
    subst this
    cases n' with
    | zero => rfl
    | succ n' => simp [goP]
  | n + 1, 0, v, left, h0, ha, h, h' => by
    have : left = 0 := by unfold enough at h'; split at h' <;> omega
    subst this
    simp [goP]
  | n + 1, n' + 1, v, left, h0, ha, h, h' => by
    unfold goP
    by_cases hl0 : left ≤ 0
    · rw [if_pos hl0, if_pos hl0]
    · rw [if_neg hl0, if_neg hl0]
      by_cases h1 : left - min left v.ahead ≤ 0
      · rw [if_pos h1, if_pos h1]
      · rw [if_neg h1, if_neg h1]
        cases he : enterP l right { v with ahead := v.ahead - min left v.ahead } with
        | none => rfl
        | some u =>
          have hu := enterP_ahead hl hnx he
          unfold enough at h h'
          refine goP_fuel hl hnx n n' u _ (by omega) (by omega) ?_ ?_
          · unfold enough; rw [if_pos hu]; split at h <;> omega
          · unfold enough; rw [if_pos hu]; split at h' <;> omega
theorem goP_add {l : Lay} (hl : Lens l) {right : List Bool} (hnx : ∀ x y, next l x right = some y → 0 ≤ y.s ∧ y.s < l.secs.length) : ∀ (n N N' : Nat) (v : Vh) (A B : Int), 0 ≤ A → 0 ≤ B → 0 ≤ v.ahead → enough n v A → enough N v (A + B) → B + 1 ≤ N' →
    goP l right N v (A + B) = ((goP l right N' (goP l right n v A).1 B).1, (goP l right n v A).2 + (goP l right N' (goP l right n v A).1 B).2)
  | n, 0, N', v, A, B, hA, hB, ha, h, hN, hN' => by
    have hz : A = 0 ∧ B = 0 := by unfold enough at hN; split at hN <;> omega
    obtain ⟨rfl, rfl⟩ := hz
    have h1 : goP l right n v 0 = (v, 0) := by cases n <;> simp [goP]
    have h2 : goP l right N' v 0 = (v, 0) := by cases N' <;> simp [goP]
    rw [h1]
    simp only [h2]
    rfl
  | 0, N + 1, N', v, A, B, hA, hB, ha, h, hN, hN' => by
    have hz : A = 0 := by unfold enough at h; split at h <;> omega
    subst hz
    have h1 : goP l right 0 v 0 = (v, 0) := rfl
    rw [h1]
    simp only [Int.zero_add] at hN ⊢
    exact goP_fuel hl hnx _ _ _ _ hB ha hN (by unfold enough; split <;> omega)
  | n + 1, N + 1, N', v, A, B, hA, hB, ha, h, hN, hN' => by
    by_cases hA0 : A ≤ 0
    · have hz : A = 0 := by omega
      subst hz
      have h1 : goP l right (n + 1) v 0 = (v, 0) := by simp [goP]
      rw [h1]
      simp only [Int.zero_add] at hN ⊢
      exact goP_fuel hl hnx _ _ _ _ hB ha hN (by unfold enough; split <;> omega)
    · have e1 : goP l right (n + 1) v A = (if A - min A v.ahead ≤ 0 then ({ v with ahead := v.ahead - min A v.ahead }, A - min A v.ahead) else match enterP l right { v with ahead := v.ahead - min A v.ahead } with
          | none => ({ v with ahead := v.ahead - min A v.ahead }, A - min A v.ahead)
          | some v' => goP l right n v' (A - min A v.ahead)) := by
        conv => lhs; unfold goP
        rw [if_neg hA0]
        rfl
      have e2 : goP l right (N + 1) v (A + B) = (if A + B - min (A + B) v.ahead ≤ 0 then ({ v with ahead := v.ahead - min (A + B) v.ahead }, A + B - min (A + B) v.ahead) else match enterP l right { v with ahead := v.ahead - min (A + B) v.ahead } with
          | none => ({ v with ahead := v.ahead - min (A + B) v.ahead }, A + B - min (A + B) v.ahead)
          | some v' => goP l right N v' (A + B - min (A + B) v.ahead)) := by
        conv => lhs; unfold goP
        rw [if_neg (by omega)]
        rfl
      rw [e1, e2]
      by_cases h1 : A - min A v.ahead ≤ 0
      · rw [if_pos h1]
        have hmA : min A v.ahead = A := by omega
        rw [hmA]
        simp only [Int.sub_self, Int.zero_add]
        by_cases hB0 : B ≤ 0
        · have hz : B = 0 := by omega
          subst hz
          have h3 : goP l right N' { v with ahead := v.ahead - A } 0 = ({ v with ahead := v.ahead - A }, 0) := by cases N' <;> simp [goP]
          rw [h3]
          simp only [Int.add_zero, hmA, Int.sub_self, Int.le_refl, if_true]
        · obtain ⟨N2, rfl⟩ : ∃ N2, N' = N2 + 1 := ⟨N' - 1, by omega⟩
          have hm3 : min B (v.ahead - A) = min (A + B) v.ahead - A := by omega
          have hv : v.ahead - A - min B (v.ahead - A) = v.ahead - min (A + B) v.ahead := by omega
          have hle : B - min B (v.ahead - A) = A + B - min (A + B) v.ahead := by omega
          have e3 : goP l right (N2 + 1) { v with ahead := v.ahead - A } B = (if A + B - min (A + B) v.ahead ≤ 0 then ({ v with ahead := v.ahead - min (A + B) v.ahead }, A + B - min (A + B) v.ahead) else match enterP l right { v with ahead := v.ahead - min (A + B) v.ahead } with
              | none => ({ v with ahead := v.ahead - min (A + B) v.ahead }, A + B - min (A + B) v.ahead)
              | some v' => goP l right N2 v' (A + B - min (A + B) v.ahead)) := by
            conv => lhs; unfold goP
            rw [if_neg hB0]
            simp only [hv, hle]
            rfl
          rw [e3]
          split
          · rfl
          · rename_i hgt
            cases he : enterP l right { v with ahead := v.ahead - min (A + B) v.ahead } with
            | none => rfl
            | some u =>
              have hu := enterP_ahead hl hnx he
              simp only
              have := goP_fuel hl hnx N N2 u (A + B - min (A + B) v.ahead) (by omega) (by omega) (by unfold enough at hN ⊢; rw [if_pos hu]; split at hN <;> omega) (by unfold enough; rw [if_pos hu]; omega)
              rw [this]
      · rw [if_neg h1, if_neg (by omega)]
        have hmA : min A v.ahead = v.ahead := by omega
        have hmAB : min (A + B) v.ahead = v.ahead := by omega
        rw [hmA, hmAB]
        cases he : enterP l right { v with ahead := v.ahead - v.ahead } with
        | none =>
          simp only
          by_cases hB0 : B ≤ 0
          · have hz : B = 0 := by omega
            subst hz
            have h3 : goP l right N' { v with ahead := v.ahead - v.ahead } 0 = ({ v with ahead := v.ahead - v.ahead }, 0) := by cases N' <;> simp [goP]
            rw [h3]
            simp only [Int.add_zero]
          · obtain ⟨N2, rfl⟩ : ∃ N2, N' = N2 + 1 := ⟨N' - 1, by omega⟩
            have e3 : goP l right (N2 + 1) { v with ahead := v.ahead - v.ahead } B = ({ v with ahead := v.ahead - v.ahead }, B) := by
              conv => lhs; unfold goP
              rw [if_neg hB0]
              have hm0 : min B (v.ahead - v.ahead) = 0 := by omega
              simp only [hm0, Int.sub_zero, if_neg hB0, he]
            rw [e3]
            simp only
            congr 1
            omega
        | some u =>
          have hu := enterP_ahead hl hnx he
          simp only
          have hAB : A + B - v.ahead = (A - v.ahead) + B := by omega
          rw [hAB]
          exact goP_add hl hnx n N N' u (A - v.ahead) B (by omega) hB (by omega) (by unfold enough at h ⊢; rw [if_pos hu]; split at h <;> omega) (by unfold enough at hN ⊢; rw [if_pos hu]; split at hN <;> omega) hN'
theorem Sim.cut {l : Lay} (hl : Lens l) {v v' : Vh} (h : Sim l v v') : Sim l v { v' with way := underW l v' } := by
  obtain ⟨x, r, t, t', a1, a2, a3⟩ := h.way
  have := h.lo; have := h.pos; have h5 := h.len; have h6 := h.ah
  have hu := under_front (l := l) a2 (by omega) (by omega : 0 < v'.ahead + v'.length)
  have hs := sumL_take hl.lo (v.ahead + v.length) (x :: r) (by omega) a3
  rw [← h5, ← h6] at hu
  cases hq : (x :: r).take (underN l (v.ahead + v.length) (x :: r)) with
  | nil => rw [hq] at hs; simp [sumL] at hs; omega
  | cons y s =>
    rw [hq] at hu hs
    refine ⟨h5, h6, ⟨y, s, (x :: r).drop (underN l (v.ahead + v.length) (x :: r)) ++ t, [], ?_, by rw [List.append_nil]; exact hu, hs⟩, h.lo, h.pos⟩
    rw [a1, ← hq, ← List.append_assoc, List.take_append_drop]
end Go.Proofs.Ytfblegjbmhgepaa.Zt
end
section
namespace Go.Proofs.Ytfblegjbmhgepaa.Zt
open Go Go.Zc
set_option maxRecDepth 10000

/-- How long the law's vehicles are. -/
def addLen (l : Lay) (c : Car) : Int := if 250 ≤ c.long then carLen l c + 3 * (sumL l (carTrail l c) - carAhead l c) else carLen l c
theorem add_loop (l : Lay) (hl : Lens l) (X : List CV) (hX : CV.locs X = false) (dir ahead : Int) (trail : List Int) (ht : trail.length ≤ 1000) : ∀ (S P : List Int) (r : Int), trail = P ++ S → -1000000 ≤ r → r ≤ 1000000 + 1000 * P.length →
    l18_add_R0 ([(2, .op (.loc 2) 0), (3, .op (.loc 3) 0), (8, .int .i64 dir), (9, sl fI trail), (10, .int .i64 ahead), (11, .int .i64 r), (12, .int .i64 P.length)], ⟨[(2, layC l), (3, X)], []⟩) =
      some (.norm, [(3, .op (.loc 3) 0), (8, .int .i64 dir), (9, sl fI trail), (10, .int .i64 ahead), (11, .int .i64 (r + sumL l S))], ⟨[(3, X)], []⟩) := by
  intro S
  have hsl : CV.locs (layC l) = false := rfl
  induction S with
  | nil =>
    intro P r hP _ _
    have h1 : ¬ ((P.length : Int) < trail.length) := by rw [hP]; simp
    rw [l18_add_R0_eq]
    simp only [l18_add_B0, l18_add_K0_a, h1, hX, hsl, sumL, Int.add_zero, zy, simprocAttr]
  | cons x S ih =>
    intro P r hP hr hr2
    have hpl : P.length + 1 ≤ 1000 := by rw [hP] at ht; simp at ht; omega
    have h1 : ((P.length : Int) < trail.length) := by rw [hP]; simp; omega
    have hw := wrapN (n := P.length) (by unfold Zc.small; omega)
    have hia := iaddr_midI .i64 P S x
    rw [← hP] at hia
    have hlo := hl.lo x
    have hhi := hl.hi x
    have hw2 : IntKind.i64.wrap (r + lenAt l x) = r + lenAt l x := wrap64 (by omega) (by omega)
    have hF := fun st H => len_F l x st H
    have ih' := ih (P ++ [x]) (r + lenAt l x) (by rw [hP]; simp) (by omega) (by simp; omega)
    rw [show (P ++ [x]).length = P.length + 1 by simp] at ih'
    rw [l18_add_R0_eq]
    simp only [l18_add_B0, l18_add_K0_a, h1, hia, hw, hw2, hX, hsl, r05_Len_call, hF, ih', sumL, Int.add_assoc, zy, simprocAttr]

set_option maxHeartbeats 4000000 in
theorem add_F (l : Lay) (hl : Lens l) (c : Car) (hc : c.ok) (H : Heap) : l18_add_F false H [.agg (layC l), .agg (fCar c)] = some (.tup [sl fI (carTrail l c), .int .i64 (addLen l c), .int .i64 (carAhead l c), .int .i64 (c.end' % 2)], H) := by
  have ci := car_is hl hc
  have q1 := hc.sec; have q2 := hc.end'; have q3 := hc.length; have q4 := hc.ahead; have q5 := hc.long
  have hsn := hl.pos
  have hfw := hl.few
  obtain ⟨t, ht⟩ := ci.trail
  have e1 := ci.ahead; have e2 := ci.room; have e3 := ci.length; have e4 := ci.len
  have k1 : IntKind.i64.wrap c.sec = c.sec := wrap64 (by omega) (by omega)
  have k2 : c.sec.tmod (l.secs.length : Int) = c.sec % (l.secs.length : Int) := Int.tmod_eq_emod_of_nonneg q1.1
  have k3 : ¬ ((l.secs.length : Int) = 0) := by omega
  have k4 : c.end'.tmod 2 = c.end' % 2 := Int.tmod_eq_emod_of_nonneg q2.1
  have k5 : IntKind.i64.wrap (c.end' % 2) = c.end' % 2 := wrap64 (by omega) (by omega)
  have k6 : IntKind.i64.wrap (1 - c.end' % 2) = 1 - c.end' % 2 := wrap64 (by omega) (by omega)
  have k7 : c.long.tmod 4 = c.long % 4 := Int.tmod_eq_emod_of_nonneg q5.1
  have k8 : IntKind.i64.wrap (c.long % 4) = c.long % 4 := wrap64 (by omega) (by omega)
  have k9 : IntKind.i64.wrap (1 + c.long % 4) = ((1 + c.long % 4).toNat : Nat) := by rw [wrap64 (by omega) (by omega)]; omega
  have k10 : IntKind.i64.wrap c.ahead = c.ahead := wrap64 (by omega) (by omega)
  have k11 : c.ahead.tmod (lenAt l (c.sec % l.secs.length)) = carAhead l c := Int.tmod_eq_emod_of_nonneg q4.1
  have k12 : ¬ (lenAt l (c.sec % l.secs.length) = 0) := by omega
  have k13 : IntKind.i64.wrap c.length = c.length := wrap64 (by omega) (by omega)
  have k14 : IntKind.i64.wrap (-carAhead l c) = -carAhead l c := wrap64 (by omega) (by omega)
  have k15 : IntKind.i64.wrap (-carAhead l c + sumL l (carTrail l c) - 1) = -carAhead l c + sumL l (carTrail l c) - 1 := wrap64 (by omega) (by omega)
  have hroom : -carAhead l c + sumL l (carTrail l c) - 1 = sumL l (carTrail l c) - carAhead l c - 1 := by omega
  have hroom2 : -carAhead l c + sumL l (carTrail l c) = sumL l (carTrail l c) - carAhead l c := by omega
  rw [hroom] at k15
  have hmul0 : 0 ≤ c.length * (sumL l (carTrail l c) - carAhead l c - 1) := Int.mul_nonneg q3.1 (by omega)
  have hmul1 : c.length * (sumL l (carTrail l c) - carAhead l c - 1) ≤ 255 * 5000 := by
    refine Int.le_trans (Int.mul_le_mul_of_nonneg_right q3.2 (by omega)) ?_
    omega
  have k16 : IntKind.i64.wrap (c.length * (sumL l (carTrail l c) - carAhead l c - 1)) = c.length * (sumL l (carTrail l c) - carAhead l c - 1) := wrap64 (by omega) (by omega)
  have k17 : IntKind.i64.wrap ((c.length * (sumL l (carTrail l c) - carAhead l c - 1)).tdiv 256) = c.length * (sumL l (carTrail l c) - carAhead l c - 1) / 256 := by
    rw [Int.tdiv_eq_ediv_of_nonneg hmul0, wrap64 (by omega) (by omega)]
  have k18 : IntKind.i64.wrap (1 + c.length * (sumL l (carTrail l c) - carAhead l c - 1) / 256) = carLen l c := wrap64 (by omega) (by omega)
  have k19 : IntKind.i64.wrap (3 * (sumL l (carTrail l c) - carAhead l c)) = 3 * (sumL l (carTrail l c) - carAhead l c) := wrap64 (by omega) (by omega)
  have k20 : IntKind.i64.wrap (carLen l c + 3 * (sumL l (carTrail l c) - carAhead l c)) = carLen l c + 3 * (sumL l (carTrail l c) - carAhead l c) := wrap64 (by omega) (by omega)
  have hW : ∀ st H, r05_Walk_F st H [.agg (layC l), .int .i64 (c.sec % l.secs.length), .int .i64 (1 - c.end' % 2), sl fU c.turns, .int .i64 ((1 + c.long % 4).toNat : Nat)] = some (sl fI (carTrail l c), H) :=
    fun st H => walk_F l hl.ok (c.sec % l.secs.length) (1 - c.end' % 2) c.turns hc.turn (1 + c.long % 4).toNat (by unfold Zc.small; omega) H st
  have hi0 : iaddrC 1 (sl fI (carTrail l c)) (.int .i64 0) = some (.vp (.int .i64 (c.sec % l.secs.length) :: t.flatMap fI)) := by
    rw [ht]; exact iaddr_midI .i64 [] t _
  have hL := fun st H => len_F l (c.sec % l.secs.length) st H
  have h4 := add_loop l hl (fCar c) rfl (c.end' % 2) (carAhead l c) (carTrail l c) (by have := ci.few; omega) (carTrail l c) [] (-carAhead l c) rfl (by omega) (by simp; omega)
  simp only [List.length_nil, Int.natCast_zero, hroom2] at h4
  have hneg : unC .neg (.int .i64 (carAhead l c)) = some (.int .i64 (-carAhead l c)) := by
    simp only [unC]
    rw [show (0 : Int) - carAhead l c = -carAhead l c by omega, k14]
  simp only [layC, fCar] at h4 hW hL
  unfold addLen
  rw [l18_add_F_eq]
  by_cases h250 : 250 ≤ c.long
  · rw [if_pos h250]
    simp only [l18_add_C, fCar, k1, k2, k3, k4, k5, k6, k7, k8, k9, k10, k11, k12, k13, k14, k15, k16, k17, k18, k19, k20, r05_Walk_call, hW, hi0, r05_Len_call, hL, l18_add_L0_eq, h4, hneg, h250, ge_iff_le, layC, zy, simprocAttr]
  · rw [if_neg h250]
    simp only [l18_add_C, fCar, k1, k2, k3, k4, k5, k6, k7, k8, k9, k10, k11, k12, k13, k14, k15, k16, k17, k18, k19, k20, r05_Walk_call, hW, hi0, r05_Len_call, hL, l18_add_L0_eq, h4, hneg, h250, ge_iff_le, layC, zy, simprocAttr]
end Go.Proofs.Ytfblegjbmhgepaa.Zt
end
section
namespace Go.Proofs.Ytfblegjbmhgepaa.Zt
open Go Go.Zc
set_option maxRecDepth 10000

/-- The first vehicle of a world. -/
theorem first_F {bl : List Blk} {a m : Nat} {l : Lay} (hl : Lens l) (h : Wld bl a m l []) (id length ahead dir : Int) (trail : List Int) (hid : -9223372036854775808 ≤ id ∧ id ≤ 9223372036854775807) (ha : -1000000000 ≤ ahead ∧ ahead ≤ 1000000000) (hma : mayAdd l length ahead dir trail = true) :
    ∃ bl' e k, (∀ bx, world_World_Add_F bx bl [.op (.blk a) 0, .int .i64 id, .int .i64 length, .int .i64 ahead, .int .i64 dir, sl fI trail] = some (.int .i64 0, ⟨bx, bl'⟩)) ∧ Rig l a m [] [] bl' e k ∧ e.v = ⟨id, length, ahead, wayIn l dir trail⟩ ∧
      (∀ (j : Nat) (b : Blk), bl[j]? = some b → j ≠ m → bl'[j]? = some b) ∧ bl.length ≤ e.c ∧ bl.length ≤ k ∧ bl.length ≤ bl'.length := by
  obtain ⟨bl', e, q1, q2, q3, q4, q5, q6, q7, q8⟩ := wAdd_F hl h id length ahead dir trail ha rfl (by simp) hma
  obtain ⟨s1, ⟨x, r, s2, _⟩, _⟩ := mayAdd_ok hma id
  have hal := (List.getElem?_eq_some_iff.1 h.top).1
  have hml := (List.getElem?_eq_some_iff.1 h.map).1
  have hfit := s1.fits hl
  rcases q8 with ⟨_, h0⟩ | ⟨k, k1, k2⟩
  · rw [q3] at h0
    rw [show (⟨id, length, ahead, wayIn l dir trail⟩ : Vh).way = wayIn l dir trail from rfl] at h0
    simp only at s2
    rw [h0] at s2
    cases s2
  · have hk := q6 k (by rw [k1]; rfl)
    refine ⟨bl', e, k, q1, ⟨by simpa using q2, ⟨fun y hy => ?_, fun y hy => ?_, by simp⟩, fun y hy => (by cases hy), ⟨k1, ⟨[], by simpa using k2⟩, hk.2⟩, fun y hy => (by cases hy), ⟨by omega, by omega⟩⟩, q3, q4, q5, hk.1, q7⟩
    · have : y = e := by simpa using hy
      rw [this, q3]; exact hfit
    · have : y = e := by simpa using hy
      rw [this, q3]; exact hid
theorem car_fits {l : Lay} (hl : Lens l) {c : Car} (hc : c.ok) : fits l ⟨3, 0, 0, c.end' % 2, carAhead l c, false, carTrail l c⟩ = true := by
  have ci := car_is hl hc
  have hs0 := ci.at0; have hs1 := ci.at1
  have e1 := ci.ahead; have e4 := ci.len; have hfew := ci.few
  have q2 := hc.end'
  have hlens : ∀ x y, y ∈ around l x → lenAt l y.s ≠ 0 := fun x y h => by
    have := around_in h
    have := hl.one y.s this.1.1 this.1.2
    omega
  obtain ⟨t, w1, w2, w3, w4⟩ := walk_follows hl.apart hlens c.turns (((1 + c.long % 4).toNat : Int) - 1).toNat 0 [c.sec % l.secs.length] ⟨c.sec % l.secs.length, 1 - c.end' % 2⟩ (by simp)
  have hw : carTrail l c = (c.sec % l.secs.length) :: t := w1
  have hf := w4 (follows l) (fun _ => rfl) (fun e s r => by simp only [follows]; cases (around l e).find? (fun x => x.s == s) <;> rfl)
  have hu : unlFrom l [] ((c.sec % l.secs.length) :: t) = true := by
    rw [unlFrom_iff]
    refine ⟨by simpa using w2, fun x hx => ⟨?_, by simp⟩⟩
    rcases List.mem_cons.1 hx with rfl | hx
    · omega
    · exact w3 x hx
  rw [hw] at hfew
  unfold fits
  simp only [hw, hu, hf, Bool.and_true, Bool.and_eq_true, decide_eq_true_eq]
  simp only [List.length_cons, and_true, true_and] at hfew ⊢
  omega
/-- The law's vehicles may come. -/
theorem car_may {l : Lay} (hl : Lens l) {c : Car} (hc : c.ok) (h : c.long < 200) : mayAdd l (addLen l c) (carAhead l c) (c.end' % 2) (carTrail l c) = true := by
  have ci := car_is hl hc
  obtain ⟨t, ht⟩ := ci.trail
  have e1 := ci.ahead; have e2 := ci.room; have e3 := ci.length
  have hlen := hc.length
  have hf := car_fits hl hc
  unfold mayAdd addLen
  rw [hf, if_neg (by omega)]
  simp only [Bool.true_and, Bool.and_eq_true, decide_eq_true_eq]
  refine ⟨⟨by rw [ht]; exact e1.2, e3.1⟩, ?_⟩
  have h9 : c.length * (sumL l (carTrail l c) - carAhead l c - 1) ≤ 255 * (sumL l (carTrail l c) - carAhead l c - 1) := Int.mul_le_mul_of_nonneg_right hlen.2 (by omega)
  unfold carLen
  omega
end Go.Proofs.Ytfblegjbmhgepaa.Zt
end
section
namespace Go.Proofs.Ytfblegjbmhgepaa.Zt
open Go Go.Zc
set_option maxRecDepth 10000

/-- The other one's turn. -/
theorem Rig.swap {l : Lay} {a m k q : Nat} {bl : List Blk} {e x : Ve} (h : Rig l a m [x] [] bl e k) (hx : Mine bl x q) (hq : a ≠ q ∧ m ≠ q) : Rig l a m [] [e] bl x q := by
  obtain ⟨o1, o2, o3, o4⟩ := h.o x (by simp)
  have sx : blkOf x.s = some q := by rw [hx.s]; rfl
  have se : blkOf e.s = some k := by rw [h.mine.s]; rfl
  rw [sx] at o3 o4
  simp only [ne_eq, Option.some.injEq] at o3 o4
  refine ⟨h.w, h.g, fun y hy => (by cases hy), hx, fun y hy => ?_, hq⟩
  have : y = e := by simpa using hy
  subst this
  rw [se]
  simp only [ne_eq, Option.some.injEq]
  exact ⟨fun e => o1 e.symm, fun e => o3 e.symm, fun e => o2 e.symm, fun e => o4 e.symm⟩
/-- A second vehicle. -/
theorem second_F {bl : List Blk} {a m : Nat} {l : Lay} (hl : Lens l) (e : Ve) (k : Nat) (h : Rig l a m [] [] bl e k) (id length ahead dir : Int) (trail : List Int) (hid : -9223372036854775808 ≤ id ∧ id ≤ 9223372036854775807) (hne : e.v.id ≠ id) (ha : -1000000000 ≤ ahead ∧ ahead ≤ 1000000000) (hma : mayAdd l length ahead dir trail = true) :
    ∃ bl' e2 k2, (∀ bx, world_World_Add_F bx bl [.op (.blk a) 0, .int .i64 id, .int .i64 length, .int .i64 ahead, .int .i64 dir, sl fI trail] = some (.int .i64 0, ⟨bx, bl'⟩)) ∧ Rig l a m [e] [] bl' e2 k2 ∧ Mine bl' e k ∧ e2.v = ⟨id, length, ahead, wayIn l dir trail⟩ ∧
      bl.length ≤ e2.c ∧ bl.length ≤ k2 ∧ bl.length ≤ bl'.length ∧ (∀ (j : Nat) (b : Blk), bl[j]? = some b → j ≠ m → bl'[j]? = some b) := by
  have hfr : findE ([] ++ e :: []) id = none := by
    simp [findE, hne]
  obtain ⟨bl', e2, q1, q2, q3, q4, q5, q6, q7, q8⟩ := wAdd_F hl h.w id length ahead dir trail ha hfr (by simp) hma
  obtain ⟨s1, ⟨x, r, s2, _⟩, _⟩ := mayAdd_ok hma id
  have hal := (List.getElem?_eq_some_iff.1 h.w.top).1
  have hml := (List.getElem?_eq_some_iff.1 h.w.map).1
  have hce := h.w.cell e (by simp)
  have hcl := (List.getElem?_eq_some_iff.1 hce).1
  obtain ⟨rest, hr⟩ := h.mine.at'
  have hkl := (List.getElem?_eq_some_iff.1 hr).1
  have hfit := s1.fits hl
  have sx : blkOf e.s = some k := by rw [h.mine.s]; rfl
  rcases q8 with ⟨_, h0⟩ | ⟨k2, k1, k2'⟩
  · rw [q3] at h0
    rw [show (⟨id, length, ahead, wayIn l dir trail⟩ : Vh).way = wayIn l dir trail from rfl] at h0
    simp only at s2
    rw [h0] at s2
    cases s2
  · have hk := q6 k2 (by rw [k1]; rfl)
    refine ⟨bl', e2, k2, q1, ⟨q2, ⟨fun y hy => ?_, fun y hy => ?_, by simp⟩, fun y hy => ?_, ⟨k1, ⟨[], by simpa using k2'⟩, hk.2⟩, fun y hy => ?_, ⟨by omega, by omega⟩⟩, ⟨h.mine.s, ⟨rest, q4 _ _ hr (Ne.symm h.ak.2)⟩, h.mine.ne⟩, q3, q5, hk.1, q7, q4⟩
    · have : y = e ∨ y = e2 := by simpa using hy
      rcases this with rfl | rfl
      · exact h.g.fit _ (by simp)
      · rw [q3]; exact hfit
    · have : y = e ∨ y = e2 := by simpa using hy
      rcases this with rfl | rfl
      · exact h.g.ids _ (by simp)
      · rw [q3]; exact hid
    · have : y = e := by simpa using hy
      rw [this, q3]; exact hne
    · have : y = e := by simpa using hy
      rw [this, sx]
      simp only [ne_eq, Option.some.injEq]
      omega
end Go.Proofs.Ytfblegjbmhgepaa.Zt
end
section
namespace Go.Proofs.Ytfblegjbmhgepaa.Zt
open Go Go.Zc
set_option maxRecDepth 10000

section
variable {bl : List Blk} {a m : Nat} {l : Lay} {es : List Ve}
theorem wAddFull_F (h : Wld bl a m l es) (id length ahead dir : Int) (v : CV) (hv : v.locv = false) (hfree : ((findE es id).isSome || decide (6 ≤ es.length)) = true) (bx : List (Nat × List CV)) :
    world_World_Add_F bx bl [.op (.blk a) 0, .int .i64 id, .int .i64 length, .int .i64 ahead, .int .i64 dir, v] = some (.int .i64 8, ⟨bx, bl⟩) := by
  have hfull := wfull_F h id
  rw [hfree] at hfull
  have hz : ∀ i o, binC .eql .ptr (.op i o) .nilp = some (.bool false) := fun _ _ => rfl
  rw [world_World_Add_F_eq]
  simp only [world_World_Add_C, hz, world_World_full_call, hfull, hv, zy, simprocAttr]
theorem wAddNil_F (hl : l.ok) (h : Wld bl a m l es) (id length ahead dir : Int) (hfree : findE es id = none) (h6 : es.length < 6) (bx : List (Nat × List CV)) :
    world_World_Add_F bx bl [.op (.blk a) 0, .int .i64 id, .int .i64 length, .int .i64 ahead, .int .i64 dir, .nils] = some (.int .i64 1, ⟨bx, bl⟩) := by
  have hfull := wfull_F h id
  rw [hfree] at hfull
  have hd6 : decide (6 ≤ es.length) = false := decide_eq_false (by omega)
  simp only [Option.isSome_none, Bool.false_or, hd6] at hfull
  have hg := h.get
  have hz : ∀ i o, binC .eql .ptr (.op i o) .nilp = some (.bool false) := fun _ _ => rfl
  have hn : nchkC (.op (.blk a) 0) = some (.op (.blk a) 0) := rfl
  have hF : ∀ st H, train_Fits_F st H [.vp (layC l), .agg [.int .u8 3, .int .i64 0, .int .i64 0, .int .i64 dir, .int .i64 ahead, .bool false, .vs [] 0]] = some (.bool false, H) := fun st H => tfits_F l hl ⟨3, 0, 0, dir, ahead, false, []⟩ st H
  rw [world_World_Add_F_eq]
  simp only [world_World_Add_C, hz, world_World_full_call, hfull, hn, hg, world_g, train_Fits_call, hF, zy, simprocAttr]
theorem wAddNot_F (hl : Lens l) (h : Wld bl a m l es) (id length ahead dir s : Int) (t : List Int) (ht : (s :: t).length ≤ 12) (ha : -1000000000 ≤ ahead ∧ ahead ≤ 1000000000) (hfree : findE es id = none) (h6 : es.length < 6) (hma : mayAdd l length ahead dir (s :: t) = false) (bx : List (Nat × List CV)) :
    world_World_Add_F bx bl [.op (.blk a) 0, .int .i64 id, .int .i64 length, .int .i64 ahead, .int .i64 dir, sl fI (s :: t)] = some (.int .i64 1, ⟨bx, bl⟩) := by
  have hfull := wfull_F h id
  rw [hfree] at hfull
  have hd6 : decide (6 ≤ es.length) = false := decide_eq_false (by omega)
  simp only [Option.isSome_none, Bool.false_or, hd6] at hfull
  have hg := h.get
  have hz : ∀ i o, binC .eql .ptr (.op i o) .nilp = some (.bool false) := fun _ _ => rfl
  have hn : nchkC (.op (.blk a) 0) = some (.op (.blk a) 0) := rfl
  have hF := fun st H => tfits_F l hl.ok ⟨3, 0, 0, dir, ahead, false, s :: t⟩ st H
  simp only [msgC] at hF
  have hroom := wroom_F hl h ahead ha (s :: t) ht
  have hL := fun st H => glen_F l s st H
  have hi0 : iaddrC 1 (sl fI (s :: t)) (.int .i64 0) = some (.vp (.int .i64 s :: t.flatMap fI)) := iaddr_midI .i64 [] t s
  unfold mayAdd at hma
  cases hfi : fits l ⟨3, 0, 0, dir, ahead, false, s :: t⟩ with
  | false =>
    rw [hfi] at hF
    rw [world_World_Add_F_eq]
    simp only [world_World_Add_C, hz, world_World_full_call, hfull, hn, hg, world_g, train_Fits_call, hF, zy, simprocAttr]
  | true =>
    rw [hfi] at hF hma
    have hd0 : (s :: t).headD 0 = s := rfl
    rw [hd0] at hma
    by_cases c1 : lenAt l s ≤ ahead
    · rw [world_World_Add_F_eq]
      simp only [world_World_Add_C, hz, world_World_full_call, hfull, hn, hg, world_g, train_Fits_call, hF, hi0, graph_Graph_Len_call, hL, c1, ge_iff_le, gt_iff_lt, world_World_room_call, hroom, zy, simprocAttr]
    · by_cases c2 : length < 1
      · rw [world_World_Add_F_eq]
        simp only [world_World_Add_C, hz, world_World_full_call, hfull, hn, hg, world_g, train_Fits_call, hF, hi0, graph_Graph_Len_call, hL, c1, c2, ge_iff_le, gt_iff_lt, world_World_room_call, hroom, zy, simprocAttr]
      · have c3 : 0 - ahead + sumL l (s :: t) < length := by
          have e1 : decide (ahead < lenAt l s) = true := decide_eq_true (by omega)
          have e2 : decide (1 ≤ length) = true := decide_eq_true (by omega)
          rw [e1, e2] at hma
          simp only [Bool.true_and, decide_eq_false_iff_not] at hma
          omega
        rw [world_World_Add_F_eq]
        simp only [world_World_Add_C, hz, world_World_full_call, hfull, hn, hg, world_g, train_Fits_call, hF, hi0, graph_Graph_Len_call, hL, c1, c2, c3, ge_iff_le, gt_iff_lt, world_World_room_call, hroom, zy, simprocAttr]

theorem wGoN_F (h : Wld bl a m l es) (id n : Int) (v : CV) (hv : v.locv = false) (hfree : findE es id = none) (bx : List (Nat × List CV)) :
    world_World_Go_F bx bl [.op (.blk a) 0, .int .i64 id, .int .i64 n, v] = some (.tup [.int .i64 0, .int .i64 7], ⟨bx, bl⟩) := by
  have hget := wget_F h id
  rw [hfree] at hget
  have hp : ptrE none = .nilp := rfl
  rw [hp] at hget
  have hz : binC .eql .ptr .nilp .nilp = some (.bool true) := rfl
  rw [world_World_Go_F_eq]
  simp only [world_World_Go_C, world_World_get_call, hget, hz, hv, zy, simprocAttr]
theorem wReportN_F (h : Wld bl a m l es) (id n : Int) (hfree : findE es id = none) (bx : List (Nat × List CV)) :
    world_World_Report_F bx bl [.op (.blk a) 0, .int .i64 id, .int .i64 n] = some (.tup [.agg [.int .u8 0, .int .i64 0, .int .i64 0, .int .i64 0, .int .i64 0, .bool false, .nils], .bool false], ⟨bx, bl⟩) := by
  have hget := wget_F h id
  rw [hfree] at hget
  have hp : ptrE none = .nilp := rfl
  rw [hp] at hget
  have hz : binC .eql .ptr .nilp .nilp = some (.bool true) := rfl
  rw [world_World_Report_F_eq]
  simp only [world_World_Report_C, world_World_get_call, hget, hz, zy, simprocAttr]
theorem wSplitN_F (h : Wld bl a m l es) (id o n : Int) (hfree : findE es id = none) (bx : List (Nat × List CV)) :
    world_World_Split_F bx bl [.op (.blk a) 0, .int .i64 id, .int .i64 o, .int .i64 n] = some (.int .i64 7, ⟨bx, bl⟩) := by
  have hget := wget_F h id
  rw [hfree] at hget
  have hp : ptrE none = .nilp := rfl
  rw [hp] at hget
  have hz : binC .eql .ptr .nilp .nilp = some (.bool true) := rfl
  rw [world_World_Split_F_eq]
  simp only [world_World_Split_C, world_World_get_call, hget, hz, zy, simprocAttr]
theorem wUnderN_F (h : Wld bl a m l es) (id : Int) (hfree : findE es id = none) (bx : List (Nat × List CV)) :
    world_World_Under_F bx bl [.op (.blk a) 0, .int .i64 id] = some (.nils, ⟨bx, bl⟩) := by
  have hget := wget_F h id
  rw [hfree] at hget
  have hp : ptrE none = .nilp := rfl
  rw [hp] at hget
  have hz : binC .eql .ptr .nilp .nilp = some (.bool true) := rfl
  rw [world_World_Under_F_eq]
  simp only [world_World_Under_C, world_World_get_call, hget, hz, zy, simprocAttr]
end
end Go.Proofs.Ytfblegjbmhgepaa.Zt
end
section
namespace Go.Proofs.Ytfblegjbmhgepaa.Zt
open Go Go.Zc
set_option maxRecDepth 10000

def Off (x y : Ve) : Prop := x.c ≠ y.c ∧ blkOf x.s ≠ some y.c ∧ blkOf y.s ≠ some x.c ∧ (∀ k, blkOf x.s = some k → blkOf y.s ≠ some k)
structure Fleet (l : Lay) (a m : Nat) (bl : List Blk) (es : List Ve) : Prop where
  w : Wld bl a m l es
  g : GoodE l es
  mine : ∀ e ∈ es, ∃ k, Mine bl e k ∧ a ≠ k ∧ m ≠ k
  dis : es.Pairwise Off
  ids : es.Pairwise fun x y => x.v.id < y.v.id
  sound : ∀ e ∈ es, Sound l e.v ∧ Front l e.v
theorem Fleet.grow {l : Lay} {a m : Nat} {bl bl' : List Blk} {es : List Ve} (h : Fleet l a m bl es) (hk : Grows bl bl') : Fleet l a m bl' es :=
  ⟨h.w.keep hk, h.g, fun e he => by
    obtain ⟨k, q1, q2⟩ := h.mine e he
    obtain ⟨rest, hr⟩ := q1.at'
    exact ⟨k, ⟨q1.s, ⟨rest, hk _ _ hr⟩, q1.ne⟩, q2⟩, h.dis, h.ids, h.sound⟩
theorem Mine.blk {bl : List Blk} {e : Ve} {k : Nat} (h : Mine bl e k) : blkOf e.s = some k := by rw [h.s]; rfl
theorem Fleet.rig {l : Lay} {a m : Nat} {bl : List Blk} {P S : List Ve} {e : Ve} (h : Fleet l a m bl (P ++ e :: S)) : ∃ k, Rig l a m P S bl e k := by
  obtain ⟨k, q1, q2⟩ := h.mine e (by simp)
  have hb := q1.blk
  obtain ⟨_, d1, d2⟩ := List.pairwise_append.1 h.dis
  obtain ⟨d3, _⟩ := List.pairwise_cons.1 d1
  obtain ⟨_, _, i2⟩ := List.pairwise_append.1 h.ids
  refine ⟨k, h.w, h.g, fun x hx => ?_, q1, fun x hx => ?_, q2⟩
  · have := i2 x hx e (by simp)
    omega
  · rcases List.mem_append.1 hx with hx | hx
    · obtain ⟨a1, a2, a3, a4⟩ := d2 x hx e (by simp)
      rw [hb] at a3
      exact ⟨a1, fun q => a3 (by rw [q]), a2, fun q => a4 k q hb⟩
    · obtain ⟨a1, a2, a3, a4⟩ := d3 x hx
      rw [hb] at a2 a4
      exact ⟨Ne.symm a1, fun q => a2 (by rw [q]), a3, a4 k rfl⟩
theorem Fleet.turn {l : Lay} {a m k k' : Nat} {bl bl' : List Blk} {P S : List Ve} {e e' : Ve} (h : Fleet l a m bl (P ++ e :: S)) (r : Rig l a m P S bl e k) (r' : Rig l a m P S bl' e' k') (hid : e'.v.id = e.v.id) (hk : Kept e.c k bl bl') (hs : Sound l e'.v ∧ Front l e'.v) : Fleet l a m bl' (P ++ e' :: S) := by
  obtain ⟨d0, d1, d2⟩ := List.pairwise_append.1 h.dis
  obtain ⟨d3, d4⟩ := List.pairwise_cons.1 d1
  obtain ⟨i0, i1, i2⟩ := List.pairwise_append.1 h.ids
  obtain ⟨i3, i4⟩ := List.pairwise_cons.1 i1
  have hb := r'.mine.blk
  have hP : ∀ x ∈ P, Off x e' := fun x hx => by
    obtain ⟨a1, a2, a3, a4⟩ := r'.o x (by simp [hx])
    exact ⟨a1, a3, by rw [hb]; exact fun q => a2 (Option.some.inj q).symm, fun j hj q => a4 (hj.trans (q.symm.trans hb))⟩
  have hS : ∀ x ∈ S, Off e' x := fun x hx => by
    obtain ⟨a1, a2, a3, a4⟩ := r'.o x (by simp [hx])
    refine ⟨Ne.symm a1, by rw [hb]; exact fun q => a2 (Option.some.inj q).symm, a3, fun j hj q => a4 ?_⟩
    rw [hb] at hj
    rw [q, hj]
  refine ⟨r'.w, r'.g, fun x hx => ?_, List.pairwise_append.2 ⟨d0, List.pairwise_cons.2 ⟨hS, d4⟩, fun x hx y hy => ?_⟩, List.pairwise_append.2 ⟨i0, List.pairwise_cons.2 ⟨fun y hy => by rw [hid]; exact i3 y hy, i4⟩, fun x hx y hy => ?_⟩, fun x hx => ?_⟩
  · have hx' : x = e' ∨ x ∈ P ++ S := by
      simp only [List.mem_append, List.mem_cons] at hx ⊢
      rcases hx with hx | hx | hx
      · exact .inr (.inl hx)
      · exact .inl hx
      · exact .inr (.inr hx)
    rcases hx' with rfl | hx'
    · exact ⟨k', r'.mine, r'.ak⟩
    · obtain ⟨q, q1, q2⟩ := h.mine x (by
        simp only [List.mem_append, List.mem_cons] at hx' ⊢
        rcases hx' with hx' | hx'
        · exact .inl hx'
        · exact .inr (.inr hx'))
      obtain ⟨rest, hr⟩ := q1.at'
      obtain ⟨a1, a2, a3, a4⟩ := r.o x hx'
      rw [q1.blk] at a3 a4
      exact ⟨q, ⟨q1.s, ⟨rest, hk.2 _ _ hr (fun e => a3 (by rw [e])) (fun e => a4 (by rw [e]))⟩, q1.ne⟩, q2⟩
  · rcases List.mem_cons.1 hy with rfl | hy
    · exact hP x hx
    · exact d2 x hx y (by simp [hy])
  · rcases List.mem_cons.1 hy with rfl | hy
    · rw [hid]; exact i2 x hx e (by simp)
    · exact i2 x hx y (by simp [hy])
  · simp only [List.mem_append, List.mem_cons] at hx
    rcases hx with hx | rfl | hx
    · exact h.sound x (by simp [hx])
    · exact hs
    · exact h.sound x (by simp [hx])

/-- A vehicle goes on. -/
theorem Fleet.go {l : Lay} (hl : Lens l) {a m : Nat} {bl : List Blk} {P S : List Ve} {e : Ve} (h : Fleet l a m bl (P ++ e :: S)) (right : List Bool) (metres : Int) (h0 : 0 ≤ metres) (hm : metres ≤ 10000) :
    ∃ bl' e' y, Fleet l a m bl' (P ++ e' :: S) ∧ e'.v.id = e.v.id ∧ ∀ bx, world_World_Go_F bx bl [.op (.blk a) 0, .int .i64 e.v.id, .int .i64 metres, sl fB right] = some (.tup [.int .i64 y, .int .i64 0], ⟨bx, bl'⟩) := by
  obtain ⟨k, r⟩ := h.rig
  obtain ⟨s1, x, t, hw, ha⟩ := h.sound e (by simp)
  have hfew := s1.few hl
  obtain ⟨bl', e', k', r', q1, q2, q3, q4, q5⟩ := wGo_F l hl a m P S right next_is e k bl r metres hm (by rw [hw]; simp) (by omega)
  have hmx : max metres 0 = metres := by omega
  rw [hmx] at q1
  have hid : e'.v.id = e.v.id := by rw [q1]; exact goP_id (l := l) (right := right) _ e.v _
  refine ⟨bl', e', _, h.turn r r' hid q4 ?_, hid, q5⟩
  rw [q1]
  exact goP_ok hl _ e.v metres (s1.cut hl.lo) ⟨x, t, hw, by omega, .inl ha⟩ (by split <;> omega)

/-- A vehicle comes. -/
theorem Fleet.add {l : Lay} (hl : Lens l) {a m : Nat} {bl : List Blk} {es : List Ve} (h : Fleet l a m bl es) (id length ahead dir : Int) (trail : List Int) (hid : -9223372036854775808 ≤ id ∧ id ≤ 9223372036854775807) (hnew : ∀ e ∈ es, e.v.id < id) (h6 : es.length < 6) (ha : -1000000000 ≤ ahead ∧ ahead ≤ 1000000000) (hma : mayAdd l length ahead dir trail = true) :
    ∃ bl' e, (∀ bx, world_World_Add_F bx bl [.op (.blk a) 0, .int .i64 id, .int .i64 length, .int .i64 ahead, .int .i64 dir, sl fI trail] = some (.int .i64 0, ⟨bx, bl'⟩)) ∧ Fleet l a m bl' (es ++ [e]) ∧ e.v.id = id := by
  have hfr : findE es id = none := by
    unfold findE
    rw [List.find?_eq_none]
    intro x hx
    have := hnew x hx
    simp only [decide_eq_true_eq]
    omega
  obtain ⟨bl', e, q1, q2, q3, q4, q5, q6, q7, q8⟩ := wAdd_F hl h.w id length ahead dir trail ha hfr h6 hma
  obtain ⟨s1, s2, _⟩ := mayAdd_ok hma id
  have hlt : ∀ {bl : List Blk} {j : Nat} {b : Blk}, bl[j]? = some b → j < bl.length := fun hj => (List.getElem?_eq_some_iff.1 hj).1
  have hal := hlt h.w.top
  have hml := hlt h.w.map
  have hie : e.v.id = id := by rw [q3]
  obtain ⟨x, r, hx, _⟩ := s2
  have hsv : Sound l e.v ∧ Front l e.v := by rw [q3]; exact ⟨s1, x, r, hx, by assumption⟩
  rcases q8 with ⟨_, h0⟩ | ⟨k, k1, k2⟩
  · rw [q3] at h0
    rw [show (⟨id, length, ahead, wayIn l dir trail⟩ : Vh).way = wayIn l dir trail from rfl] at h0
    simp only at hx
    rw [h0] at hx
    cases hx
  · have hk := q6 k (by rw [k1]; rfl)
    refine ⟨bl', e, q1, ⟨q2, ⟨fun y hy => ?_, fun y hy => ?_, by simp; omega⟩, fun y hy => ?_, List.pairwise_append.2 ⟨h.dis, by simp, fun x hx y hy => ?_⟩, List.pairwise_append.2 ⟨h.ids, by simp, fun x hx y hy => ?_⟩, fun y hy => ?_⟩, hie⟩
    · rcases List.mem_append.1 hy with hy | hy
      · exact h.g.fit y hy
      · have : y = e := by simpa using hy
        rw [this, q3]; exact s1.fits hl
    · rcases List.mem_append.1 hy with hy | hy
      · exact h.g.ids y hy
      · have : y = e := by simpa using hy
        rw [this, hie]; exact hid
    · rcases List.mem_append.1 hy with hy | hy
      · obtain ⟨k', p1, p2⟩ := h.mine y hy
        obtain ⟨rest, hr⟩ := p1.at'
        exact ⟨k', ⟨p1.s, ⟨rest, q4 _ _ hr (Ne.symm p2.2)⟩, p1.ne⟩, p2⟩
      · have : y = e := by simpa using hy
        subst this
        exact ⟨k, ⟨k1, ⟨[], by simpa using k2⟩, hk.2⟩, by omega, by omega⟩
    · have : y = e := by simpa using hy
      subst this
      obtain ⟨k', p1, p2⟩ := h.mine x hx
      have hxl := hlt (h.w.cell x hx)
      obtain ⟨rest, hr⟩ := p1.at'
      have hkl := hlt hr
      have hyk : blkOf y.s = some k := by rw [k1]; rfl
      refine ⟨by omega, ?_, ?_, fun j hj => ?_⟩
      · rw [p1.blk]; simp only [ne_eq, Option.some.injEq]; omega
      · rw [hyk]; simp only [ne_eq, Option.some.injEq]; omega
      · rw [p1.blk] at hj
        cases hj
        rw [hyk]; simp only [ne_eq, Option.some.injEq]; omega
    · have : y = e := by simpa using hy
      subst this
      rw [hie]; exact hnew x hx
    · rcases List.mem_append.1 hy with hy | hy
      · exact h.sound y hy
      · have : y = e := by simpa using hy
        rw [this]; exact hsv
end Go.Proofs.Ytfblegjbmhgepaa.Zt
end
section
namespace Go.Proofs.Ytfblegjbmhgepaa.Zt
open Go Go.Zc
set_option maxRecDepth 10000

section
variable {bl : List Blk} {a m : Nat} {l : Lay} {es : List Ve}
theorem wIn1_F (hl : Lens l) (h : Wld bl a m l es) (n : Nat) (hn : n < l.parts.length) (s : Int) (x y : Nat) (hx : bl[x]? = some (.cells [.op (.blk a) 0])) (hy : bl[y]? = some (.cells [.int .i64 n])) (bx : List (Nat × List CV)) :
    world_World_In_1_F bx bl [.int .i64 s, .op (.blk x) 0, .op (.blk y) 0] = some (.bool (decide (s ∈ l.parts[n])), ⟨bx, bl⟩) := by
  have g1 : ∀ bx, Heap.get ⟨bx, bl⟩ (.blk x) = some [.op (.blk a) 0] := fun bx => get_blk bx bl _ _ hx
  have g2 : ∀ bx, Heap.get ⟨bx, bl⟩ (.blk y) = some [.int .i64 n] := fun bx => get_blk bx bl _ _ hy
  have hg := h.get
  have hk : nchkC (.op (.blk a) 0) = some (.op (.blk a) 0) := rfl
  have hia := iaddr_atL (k := .i64) hn
  have hc := fun st H => contains_F s l.parts[n] (by have := hl.ok.part _ (List.getElem_mem hn); unfold Zc.small at *; omega) st H
  rw [world_World_In_1_F_eq]
  simp only [world_World_In_1_C, g1, g2, hg, hk, world_parts, hia, slices_Contains_int_call, hc, zy, simprocAttr]
theorem wIn_F (hl : Lens l) (h : Wld bl a m l es) (hf : GoodE l es) (id p : Int) :
    ∃ b', Grows bl b' ∧ ∀ bx, world_World_In_F bx bl [.op (.blk a) 0, .int .i64 id, .int .i64 p] = some (.bool (inE l es id p), ⟨bx, b'⟩) := by
  have hG1 : Grows bl (bl ++ [Blk.cells [.op (.blk a) 0]] ++ [Blk.cells [.int .i64 p]]) := (Grows.app _ _).trans (Grows.app _ _)
  have hW := h.keep hG1
  have hget : ∀ bx, Heap.get ⟨bx, bl ++ [Blk.cells [.op (.blk a) 0]] ++ [Blk.cells [.int .i64 p]]⟩ (.blk bl.length) = some [.op (.blk a) 0] := fun bx => get_blk bx _ _ _ (by simp)
  have hget2 : ∀ bx, Heap.get ⟨bx, bl ++ [Blk.cells [.op (.blk a) 0]] ++ [Blk.cells [.int .i64 p]]⟩ (.blk (bl.length + 1)) = some [.int .i64 p] := fun bx => get_blk bx _ _ _ (by rw [List.getElem?_append_right (by simp)]; simp)
  have hg := hW.get
  have hk : nchkC (.op (.blk a) 0) = some (.op (.blk a) 0) := rfl
  have hz : ∀ i o, binC .eql .ptr (.op i o) .nilp = some (.bool false) := fun _ _ => rfl
  unfold inE partAt
  by_cases h0 : 0 ≤ p
  · have h0' : ¬ p < 0 := by omega
    by_cases h1 : p < l.parts.length
    · obtain ⟨n, rfl⟩ := Int.eq_ofNat_of_zero_le h0
      have hn : n < l.parts.length := by omega
      have h1' : ¬ ((l.parts.length : Int) ≤ n) := by omega
      simp only [if_pos h0, Int.toNat_natCast, List.getElem?_eq_getElem hn]
      obtain ⟨v, X, q1, q2, q3⟩ := wUnder_F hl hW hf.fit id
      have hG2 := Grows.app (bl ++ [Blk.cells [.op (.blk a) 0]] ++ [Blk.cells [.int .i64 n]]) X
      have hx : (bl ++ [Blk.cells [.op (.blk a) 0]] ++ [Blk.cells [.int .i64 n]])[bl.length]? = some (.cells [.op (.blk a) 0]) := by simp
      have hy : (bl ++ [Blk.cells [.op (.blk a) 0]] ++ [Blk.cells [.int .i64 n]])[bl.length + 1]? = some (.cells [.int .i64 n]) := by rw [List.getElem?_append_right (by simp)]; simp
      obtain ⟨b', g, c⟩ := containsR_F (.fn (.func 80) [] [.op (.blk bl.length) 0, .op (.blk (bl.length + 1)) 0]) rfl (fun s => decide (s ∈ l.parts[n])) v _ (underE l es id) q2.held
        (by have := underE_len hf id; unfold Zc.small; omega) (fun s _ b hb => by
          refine ⟨b, Grows.refl b, fun bx => ?_⟩
          rw [world_World_In_1_call]
          exact wIn1_F hl ((hW.keep hG2).keep hb) n hn s _ _ (hb _ _ (hG2 _ _ hx)) (hb _ _ (hG2 _ _ hy)) bx)
      refine ⟨b', (hG1.trans hG2).trans g, fun bx => ?_⟩
      have hmk : ∀ x y, pureOp (.mkfn (.func 80) 0) [x, y] = some (.fn (.func 80) [] [x, y]) := fun _ _ => rfl
      have hlv := q2.locv
      rw [world_World_In_F_eq]
      simp only [world_World_In_C, hget, hget2, hz, hg, hk, world_parts, h0', h1', ge_iff_le, world_World_Under_call, q1, hmk, hlv, slices_ContainsFunc_int_call, c, List.length_append, zy, simprocAttr]
    · have h1' : (l.parts.length : Int) ≤ p := by omega
      have hnone : l.parts[p.toNat]? = none := List.getElem?_eq_none (by omega)
      simp only [if_pos h0, hnone]
      refine ⟨_, hG1, fun bx => ?_⟩
      rw [world_World_In_F_eq]
      simp only [world_World_In_C, hget, hget2, hz, hg, hk, world_parts, h0', h1', ge_iff_le, List.length_append, zy, simprocAttr]
  · have h0' : p < 0 := by omega
    simp only [if_neg h0]
    refine ⟨_, hG1, fun bx => ?_⟩
    rw [world_World_In_F_eq]
    simp only [world_World_In_C, hget, hget2, hz, h0', List.length_append, zy, simprocAttr]
end
end Go.Proofs.Ytfblegjbmhgepaa.Zt
end
section
namespace Go.Proofs.Ytfblegjbmhgepaa.Zt
open Go Go.Zc
set_option maxRecDepth 10000

/-- What the detectors say. -/
def sayE (l : Lay) (es : List Ve) (q : List Int) : Int := if q.any fun s => insideE l es s then 1 else 0
theorem detect_loop {l : Lay} (hl : Lens l) {a m : Nat} {bl : List Blk} {es : List Ve} (h : Wld bl a m l es) (hf : GoodE l es) : ∀ (S P : List (List Int)) (v : CV) (b : List Blk), l.parts = P ++ S → Grows bl b → Own fU 1 b v (P.map (sayE l es)) → (∀ k, blkOf v = some k → bl.length ≤ k) →
    ∃ v' b', Grows bl b' ∧ Own fU 1 b' v' (l.parts.map (sayE l es)) ∧ world_World_Detect_R0 ([(0, .op (.blk a) 0), (3, v), (13, sl fL l.parts), (14, .int .i64 l.parts.length), (15, .int .i64 P.length)], ⟨[], b⟩) =
      some (.norm, [(3, v')], ⟨[], b'⟩) := by
  intro S
  have hlp := hl.ok.parts
  induction S with
  | nil =>
    intro P v b hP hG hO hv
    have h1 : ¬ ((P.length : Int) < l.parts.length) := by rw [hP]; simp
    refine ⟨v, b, hG, by rw [hP, List.append_nil]; exact hO, ?_⟩
    rw [world_World_Detect_R0_eq]
    simp only [world_World_Detect_B0, world_World_Detect_K0_a, h1, hO.chkV, zy, simprocAttr]
  | cons q S ih =>
    intro P v b hP hG hO hv
    have h1 : ((P.length : Int) < l.parts.length) := by rw [hP]; simp; omega
    have hPl : P.length < l.parts.length := by rw [hP]; simp
    have hw := wrapN (n := P.length) (by unfold Zc.small at *; omega)
    have hia := iaddr_midL .i64 P S q
    rw [← hP] at hia
    have hql := hl.ok.part q (by rw [hP]; simp)
    have hmk : pureOp (.mkfn (.func 46) 1) [.op (.blk a) 0] = some (.fn (.func 46) [.op (.blk a) 0] []) := rfl
    have hcap : ∀ x (H : Heap), call ctx (.fn (.func 46) [.op (.blk a) 0] []) [x] H = call ctx (.fn (.func 46) [] []) [.op (.blk a) 0, x] H := fun x H => by
      unfold call callC
      rfl
    obtain ⟨b1, g1, c1⟩ := containsR_F (.fn (.func 46) [.op (.blk a) 0] []) rfl (fun s => insideE l es s) (sl fI q) b q (.inl rfl) (by unfold Zc.small at *; omega) (fun s _ b' hb => by
      obtain ⟨X, hX⟩ := wInside_F hl (h.keep (hG.trans hb)) hf s
      refine ⟨b' ++ X, Grows.app _ _, fun bx => ?_⟩
      rw [hcap, world_World_Inside_call]
      exact hX bx)
    have hO1 := hO.keep g1
    have hG1 := hG.trans g1
    obtain ⟨v2, b2, e2, o2, _, f2, f3⟩ := hO1.app1 flatU (bytes := 1) (zero := [.int .u8 0]) (by omega) rfl rfl (sayE l es q) (by rw [List.length_map]; unfold Zc.small at *; omega)
    have hG2 : Grows bl b2 := hG1.fr f2 hv
    have hv2 : ∀ k, blkOf v2 = some k → bl.length ≤ k := fun k hk => by
      rcases f3 with f3 | f3
      · exact hv k (f3 ▸ hk)
      · rw [f3] at hk
        have := Option.some.inj hk
        have := hG1.le
        omega
    have ho2 : Own fU 1 b2 v2 ((P ++ [q]).map (sayE l es)) := by rw [List.map_append]; exact o2
    obtain ⟨v', b', r1, r2, r3⟩ := ih (P ++ [q]) v2 b2 (by rw [hP]; simp) hG2 ho2 hv2
    rw [show (P ++ [q]).length = P.length + 1 by simp] at r3
    refine ⟨v', b', r1, r2, ?_⟩
    rw [← r3, world_World_Detect_R0_eq]
    unfold sayE at e2
    cases hA : q.any fun s => insideE l es s with
    | true =>
      rw [hA, if_pos rfl] at e2
      rw [hA] at c1
      simp only [fU] at e2
      simp only [world_World_Detect_B0, world_World_Detect_K0_a, h1, hia, hmk, slices_ContainsFunc_int_call, c1, e2, hw, hO.chkV, o2.chkV, zy, simprocAttr]
    | false =>
      rw [hA, if_neg (by simp)] at e2
      rw [hA] at c1
      simp only [fU] at e2
      simp only [world_World_Detect_B0, world_World_Detect_K0_a, h1, hia, hmk, slices_ContainsFunc_int_call, c1, e2, hw, hO.chkV, o2.chkV, zy, simprocAttr]
theorem wDetect_F {l : Lay} (hl : Lens l) {a m : Nat} {bl : List Blk} {es : List Ve} (h : Wld bl a m l es) (hf : GoodE l es) :
    ∃ v b', Grows bl b' ∧ Own fU 1 b' v (l.parts.map (sayE l es)) ∧ ∀ bx, world_World_Detect_F bx bl [.op (.blk a) 0] = some (v, ⟨bx, b'⟩) := by
  have hg := h.get
  have hz : ∀ i o, binC .eql .ptr (.op i o) .nilp = some (.bool false) := fun _ _ => rfl
  have hnn : nchkC (.op (.blk a) 0) = some (.op (.blk a) 0) := rfl
  obtain ⟨v, b', q1, q2, q3⟩ := detect_loop hl h hf l.parts [] .nils bl rfl (Grows.refl bl) (Own.nil fU 1 bl) (fun k hk => by cases hk)
  simp only [List.nil_append, List.length_nil, Int.natCast_zero] at q3
  have hlv := q2.locv
  refine ⟨v, b', q1, q2, fun bx => ?_⟩
  rw [world_World_Detect_F_eq]
  simp only [world_World_Detect_C, hz, hnn, hg, world_parts, world_World_Detect_L0_eq, q3, hlv, zy, simprocAttr]
end Go.Proofs.Ytfblegjbmhgepaa.Zt
end
section
namespace Go.Proofs.Ytfblegjbmhgepaa.Zt
open Go Go.Zc
set_option maxRecDepth 10000

abbrev fG (n : Int) : List CV := [.int .u16 n]
theorem flatG : Flat fG 1 := ⟨fun _ => rfl, by decide, fun _ => rfl, fun _ => rfl, fun _ => rfl⟩
theorem iaddr_midG (k : IntKind) (pre suf : List Int) (x : Int) : iaddrC 1 (sl fG (pre ++ x :: suf)) (.int k pre.length) = some (.vp (.int .u16 x :: suf.flatMap fG)) := iaddr_mid flatG k pre suf x

theorem true_loop0 (l : Lay) (hl : Lens l) (cars : List Car) (hcs : ∀ c ∈ cars, c.ok) (h6 : cars.length ≤ 6) (go1 : List Int) (right : List Bool) : ∀ (S P : List Car) (es : List Ve) (bl : List Blk), cars = P ++ S → Fleet l 1 0 bl es → es.length ≤ P.length → (∀ e ∈ es, 0 ≤ e.v.id ∧ e.v.id < P.length) →
    (∃ bl' bx', l18_WorldTrue_R0 ([(1, sl fCar cars), (2, sl fG go1), (3, sl fB right), (9, .op (.loc 9) 0), (10, .op (.blk 1) 0), (11, .int .i64 P.length)], ⟨[(9, layC l)], bl⟩) = some (.ret, [(8, .bool true)], ⟨bx', bl'⟩)) ∨
    (∃ bl' es', Fleet l 1 0 bl' es' ∧ es'.length ≤ 6 ∧ (∀ e ∈ es', 0 ≤ e.v.id ∧ e.v.id < 6) ∧ l18_WorldTrue_R0 ([(1, sl fCar cars), (2, sl fG go1), (3, sl fB right), (9, .op (.loc 9) 0), (10, .op (.blk 1) 0), (11, .int .i64 P.length)], ⟨[(9, layC l)], bl⟩) =
      some (.norm, [(2, sl fG go1), (3, sl fB right), (9, .op (.loc 9) 0), (10, .op (.blk 1) 0)], ⟨[(9, layC l)], bl'⟩)) := by
  intro S
  induction S with
  | nil =>
    intro P es bl hP h hn hid
    have h1 : ¬ ((P.length : Int) < cars.length) := by rw [hP]; simp
    have hp6 : P.length ≤ 6 := by rw [hP] at h6; simpa using h6
    refine .inr ⟨bl, es, h, by omega, fun e he => ⟨(hid e he).1, by have := (hid e he).2; omega⟩, ?_⟩
    rw [l18_WorldTrue_R0_eq]
    simp only [l18_WorldTrue_B0, l18_WorldTrue_K0_a, h1, layC, zy, simprocAttr]
  | cons c S ih =>
    intro P es bl hP h hn hid
    have h1 : ((P.length : Int) < cars.length) := by rw [hP]; simp; omega
    have hp6 : P.length + 1 ≤ 6 := by rw [hP] at h6; simp at h6; omega
    have hw := wrapN (n := P.length) (by unfold Zc.small; omega)
    have hia := iaddr_midCar .i64 P S c
    rw [← hP] at hia
    have hc := hcs c (by rw [hP]; simp)
    by_cases ht : (12 : Int) < c.turns.length
    · refine .inl ⟨bl, [(9, layC l)], ?_⟩
      rw [l18_WorldTrue_R0_eq]
      simp only [l18_WorldTrue_B0, l18_WorldTrue_K0_a, h1, hia, ht, gt_iff_lt, layC, zy, simprocAttr]
    · have hadd := fun H => add_F l hl c hc H
      have ci := car_is hl hc
      have ca := ci.ahead
      obtain ⟨t, hct⟩ := ci.trail
      have cl := ci.few
      have chi := ci.len
      simp only [fCar, layC] at hadd
      cases hma : mayAdd l (addLen l c) (carAhead l c) (c.end' % 2) (carTrail l c) with
      | true =>
        obtain ⟨bl', e, q1, q2, q3⟩ := h.add hl P.length (addLen l c) (carAhead l c) (c.end' % 2) (carTrail l c) (by omega) (fun x hx => (hid x hx).2) (by omega) (by omega) hma
        have ih' := ih (P ++ [c]) (es ++ [e]) bl' (by rw [hP]; simp) q2 (by simp; omega) (fun x hx => by
          rw [List.length_append, List.length_singleton]
          rcases List.mem_append.1 hx with hx | hx
          · have := hid x hx; omega
          · have : x = e := by simpa using hx
            rw [this, q3]; omega)
        rw [show (P ++ [c]).length = P.length + 1 by simp] at ih'
        have key : ∀ r, l18_WorldTrue_R0 ([(1, sl fCar cars), (2, sl fG go1), (3, sl fB right), (9, .op (.loc 9) 0), (10, .op (.blk 1) 0), (11, .int .i64 ((P.length + 1 : Nat) : Int))], ⟨[(9, layC l)], bl'⟩) = r →
            l18_WorldTrue_R0 ([(1, sl fCar cars), (2, sl fG go1), (3, sl fB right), (9, .op (.loc 9) 0), (10, .op (.blk 1) 0), (11, .int .i64 P.length)], ⟨[(9, layC l)], bl⟩) = r := by
          intro r hr
          rw [← hr, l18_WorldTrue_R0_eq]
          simp only [l18_WorldTrue_B0, l18_WorldTrue_K0_a, h1, hia, ht, gt_iff_lt, layC, l18_add_call, hadd, world_World_Add_call, q1, hw, zy, simprocAttr]
        rcases ih' with ⟨b', x', hr⟩ | ⟨b', es', r1, r2, r3, hr⟩
        · exact .inl ⟨b', x', key _ hr⟩
        · exact .inr ⟨b', es', r1, r2, r3, key _ hr⟩
      | false =>
        have hno : findE es P.length = none := by
          unfold findE
          rw [List.find?_eq_none]
          intro x hx
          have := hid x hx
          simp only [decide_eq_true_eq]
          omega
        rw [hct] at hma cl
        have q1 := fun bx => wAddNot_F hl h.w P.length (addLen l c) (carAhead l c) (c.end' % 2) _ t (by omega) (by omega) hno (by omega) hma bx
        rw [← hct] at q1
        have ih' := ih (P ++ [c]) es bl (by rw [hP]; simp) h (by simp; omega) (fun x hx => by
          rw [List.length_append, List.length_singleton]
          have := hid x hx
          omega)
        rw [show (P ++ [c]).length = P.length + 1 by simp] at ih'
        have key : ∀ r, l18_WorldTrue_R0 ([(1, sl fCar cars), (2, sl fG go1), (3, sl fB right), (9, .op (.loc 9) 0), (10, .op (.blk 1) 0), (11, .int .i64 ((P.length + 1 : Nat) : Int))], ⟨[(9, layC l)], bl⟩) = r →
            l18_WorldTrue_R0 ([(1, sl fCar cars), (2, sl fG go1), (3, sl fB right), (9, .op (.loc 9) 0), (10, .op (.blk 1) 0), (11, .int .i64 P.length)], ⟨[(9, layC l)], bl⟩) = r := by
          intro r hr
          rw [← hr, l18_WorldTrue_R0_eq]
          simp only [l18_WorldTrue_B0, l18_WorldTrue_K0_a, h1, hia, ht, gt_iff_lt, layC, l18_add_call, hadd, world_World_Add_call, q1, hw, zy, simprocAttr]
        rcases ih' with ⟨b', x', hr⟩ | ⟨b', es', r1, r2, r3, hr⟩
        · exact .inl ⟨b', x', key _ hr⟩
        · exact .inr ⟨b', es', r1, r2, r3, key _ hr⟩

theorem true_loop2 (l : Lay) (hl : Lens l) (ids : List Int) (h6 : ids.length ≤ 6) (go1 : List Int) (hgo : ∀ x ∈ go1, 0 ≤ x ∧ x ≤ 65535) (h30 : go1.length ≤ 30) (right : List Bool) : ∀ (S P : List Int) (es : List Ve) (bl : List Blk), go1 = P ++ S → Fleet l 1 0 bl es → (es.map fun e => e.v.id) = ids →
    ∃ bl' es', Fleet l 1 0 bl' es' ∧ (es'.map fun e => e.v.id) = ids ∧ l18_WorldTrue_R2 ([(2, sl fG go1), (3, sl fB right), (9, .op (.loc 9) 0), (10, .op (.blk 1) 0), (16, sl fI ids), (17, .int .i64 P.length)], ⟨[(9, layC l)], bl⟩) =
      some (.norm, [(9, .op (.loc 9) 0), (10, .op (.blk 1) 0), (16, sl fI ids)], ⟨[(9, layC l)], bl'⟩) := by
  intro S
  induction S with
  | nil =>
    intro P es bl hP h hid
    have h1 : ¬ ((P.length : Int) < go1.length) := by rw [hP]; simp
    refine ⟨bl, es, h, hid, ?_⟩
    rw [l18_WorldTrue_R2_eq]
    simp only [l18_WorldTrue_B2, l18_WorldTrue_K2_a, h1, layC, zy, simprocAttr]
  | cons x S ih =>
    intro P es bl hP h hid
    have h1 : ((P.length : Int) < go1.length) := by rw [hP]; simp; omega
    by_cases h0 : ids.length = 0
    · have h0' : ¬ ((0 : Int) < ids.length) := by omega
      refine ⟨bl, es, h, hid, ?_⟩
      rw [l18_WorldTrue_R2_eq]
      simp only [l18_WorldTrue_B2, l18_WorldTrue_K2_a, h1, h0', gt_iff_lt, layC, zy, simprocAttr]
    · have h0' : (0 : Int) < ids.length := by omega
      have hp30 : P.length + 1 ≤ 30 := by rw [hP] at h30; simp at h30; omega
      have hw := wrapN (n := P.length) (by unfold Zc.small; omega)
      have hia := iaddr_midG .i64 P S x
      rw [← hP] at hia
      have hx := hgo x (by rw [hP]; simp)
      have hj : P.length % ids.length < ids.length := Nat.mod_lt _ (by omega)
      have k1 : (P.length : Int).tmod (ids.length : Int) = ((P.length % ids.length : Nat) : Int) := by
        rw [Int.tmod_eq_emod_of_nonneg (by omega), Int.natCast_emod]
      have k2 : ¬ ((ids.length : Int) = 0) := by omega
      have k3 : IntKind.i64.wrap ((P.length % ids.length : Nat) : Int) = ((P.length % ids.length : Nat) : Int) := wrap64 (by omega) (by omega)
      have k4 : x.tmod 300 = x % 300 := Int.tmod_eq_emod_of_nonneg hx.1
      have k5 : IntKind.i64.wrap (x % 300) = x % 300 := wrap64 (by omega) (by omega)
      have hib := iaddr_atI (k := .i64) hj
      generalize hjd : P.length % ids.length = j at *
      have hje : j < es.length := by rw [← hid] at hj; simpa using hj
      have hes : es = es.take j ++ es[j] :: es.drop (j + 1) := by rw [← List.drop_eq_getElem_cons hje, List.take_append_drop]
      have hidj : ids[j] = es[j].v.id := by
        have : ids[j]? = some es[j].v.id := by rw [← hid, List.getElem?_map, List.getElem?_eq_getElem hje]; rfl
        rw [List.getElem?_eq_getElem hj] at this
        exact Option.some.inj this
      rw [hes] at h
      obtain ⟨bl', e', y, q1, q2, q3⟩ := h.go hl right (x % 300) (by omega) (by omega)
      rw [← hidj] at q3
      have hid' : ((es.take j ++ e' :: es.drop (j + 1)).map fun e => e.v.id) = ids := by
        rw [← hid]
        conv => rhs; rw [hes]
        simp only [List.map_append, List.map_cons, q2]
      obtain ⟨b2, es2, r1, r2, r3⟩ := ih (P ++ [x]) _ bl' (by rw [hP]; simp) q1 hid'
      rw [show (P ++ [x]).length = P.length + 1 by simp] at r3
      refine ⟨b2, es2, r1, r2, ?_⟩
      rw [← r3, l18_WorldTrue_R2_eq]
      simp only [l18_WorldTrue_B2, l18_WorldTrue_K2_a, h1, h0', gt_iff_lt, hia, hib, k1, k2, k3, k4, k5, hw, layC, world_World_Go_call, q3, zy, simprocAttr]
end Go.Proofs.Ytfblegjbmhgepaa.Zt
end
section
namespace Go.Proofs.Ytfblegjbmhgepaa.Zt
open Go Go.Zc
set_option maxRecDepth 10000

theorem ids_at {es P S : List Ve} {e : Ve} (h : es = P ++ e :: S) : iaddrC 1 (sl fI (es.map fun e => e.v.id)) (.int .i64 P.length) = some (.vp (.int .i64 e.v.id :: (S.map fun e => e.v.id).flatMap fI)) := by
  subst h
  have := iaddr_midI .i64 (P.map fun e => e.v.id) (S.map fun e => e.v.id) e.v.id
  rw [List.length_map] at this
  rw [List.map_append, List.map_cons]
  exact this

set_option maxHeartbeats 2000000 in
theorem true_loop4 (l : Lay) (hl : Lens l) (es : List Ve) (say : CV) (hsay : say.locv = false) : ∀ (S P : List Ve) (b : List Blk), es = P ++ S → Fleet l 1 0 b es →
    ∃ b', Grows b b' ∧ l18_WorldTrue_R4 ([(9, .op (.loc 9) 0), (10, .op (.blk 1) 0), (16, sl fI (es.map fun e => e.v.id)), (18, .vp (layC l)), (19, say), (20, .int .i64 P.length)], ⟨[(9, layC l)], b⟩) =
      some (.norm, [(9, .op (.loc 9) 0), (10, .op (.blk 1) 0), (16, sl fI (es.map fun e => e.v.id)), (19, say)], ⟨[(9, layC l)], b'⟩) := by
  intro S
  have hcs := chkV_of hsay
  induction S with
  | nil =>
    intro P b hP h
    have h1 : ¬ ((P.length : Int) < ((es.map fun e => e.v.id).length : Nat)) := by rw [hP]; simp
    refine ⟨b, Grows.refl b, ?_⟩
    rw [l18_WorldTrue_R4_eq]
    simp only [l18_WorldTrue_B4, l18_WorldTrue_K4_a, h1, hcs, hsay, layC, zy, simprocAttr]
  | cons e S ih =>
    intro P b hP h
    have h1 : ((P.length : Int) < ((es.map fun e => e.v.id).length : Nat)) := by rw [hP]; simp; omega
    have hp6 : P.length + 1 ≤ 6 := by have := h.g.few; rw [hP] at this; simp at this; omega
    have hw := wrapN (n := P.length) (by unfold Zc.small; omega)
    have hia := ids_at hP
    have h' := h
    rw [hP] at h'
    obtain ⟨k, r⟩ := h'.rig
    obtain ⟨s1, x, t, hx, hlt⟩ := h.sound e (by rw [hP]; simp)
    have hfew := (s1.few hl).1
    obtain ⟨v, X, q1, q2⟩ := wReport_F l hl 1 0 P S e k b r x t hx 5
    have hule : (underL l e.v).length ≤ 12 := by
      unfold underL underW
      rw [List.length_map, List.length_take]
      omega
    rw [Nat.min_eq_left hule, List.take_length] at q2
    have hd : decide (((underL l e.v).length : Int) ≤ 12) = true := decide_eq_true (by omega)
    rw [hd] at q1
    have hG := Grows.app b X
    have hF2 := h.grow hG
    obtain ⟨u, Y, u1, u2, _⟩ := wUnder_F hl hF2.w hF2.g.fit e.v.id
    have hfe : findE es e.v.id = some e := by rw [hP]; exact r.find
    have hue : underE l es e.v.id = underL l e.v := by unfold underE; rw [hfe]
    rw [hue] at u2
    have hG2 := Grows.app (b ++ X) Y
    have q3 := q2.keep (bl' := b ++ X ++ Y) (fun j b hj _ => hG2 _ _ hj)
    obtain ⟨m1, _⟩ := sound_mayAdd (v := e.v) hl.few hl.lo hl.one hl.apart s1 ⟨x, t, hx, hlt⟩
    rw [hx] at m1
    have hfit : fits l ⟨3, e.v.id, 5, x.e, e.v.ahead, true, underL l e.v⟩ = true := by
      unfold mayAdd at m1
      simp only [Bool.and_eq_true] at m1
      exact m1.1.1.1
    have f1 := fun st H => tfits_F l hl.ok ⟨3, e.v.id, 5, x.e, e.v.ahead, true, underL l e.v⟩ st H
    have f2 := fun st H => rfits_F l hl.ok ⟨3, e.v.id, 5, x.e, e.v.ahead, true, underL l e.v⟩ (by unfold Zc.small; show (underL l e.v).length ≤ _; omega) st H
    rw [hfit] at f1 f2
    simp only [msgC, layC] at f1 f2
    have hlv := q2.locv
    have hon := q2.one
    have hcl := q2.cells
    have hul := u2.locv
    have hsn := fun bx => q2.snapV flatI bx (snapN ⟨bx, b ++ X⟩ false false 7) (snap_Iq _ false 6)
    have hsn6 := fun bx => q2.snapV flatI bx (snapN ⟨bx, b ++ X⟩ false false 6) (snap_Iq _ false 5)
    have hsn2 := fun bx => q3.snapV flatI bx (snapN ⟨bx, b ++ X ++ Y⟩ false false 7) (snap_Iq _ false 6)
    have hsn3 := fun bx => u2.snapV flatI bx false (snapN ⟨bx, b ++ X ++ Y⟩ false false 7) (snap_Iq _ false 6)
    have hI := fun st H => ints_F (underL l e.v) (underL l e.v) (by unfold Zc.small; omega) st H
    simp only [decide_true] at hI
    obtain ⟨b', g', r'⟩ := ih (P ++ [e]) (b ++ X ++ Y) (by rw [hP]; simp) (hF2.grow hG2)
    rw [show (P ++ [e]).length = P.length + 1 by simp] at r'
    refine ⟨b', (hG.trans hG2).trans g', ?_⟩
    simp only [layC] at r'
    rw [l18_WorldTrue_R4_eq]
    simp only [l18_WorldTrue_B4, l18_WorldTrue_K4_a, h1, hia, hw, hcs, hsay, layC, world_World_Report_call, q1, hlv, hon, hcl, train_Fits_call, hsn, hsn6, f1, r10_Fits_call, f2, world_World_Under_call, u1, hul, r01_Ints_call, hsn2, hsn3, hI, r', zy, simprocAttr]
end Go.Proofs.Ytfblegjbmhgepaa.Zt
end
section
namespace Go.Proofs.Ytfblegjbmhgepaa.Zt
open Go Go.Zc
set_option maxRecDepth 10000

theorem say_in (l : Lay) (es : List Ve) (i : Nat) (hi : i < l.parts.length) : sayE l es l.parts[i] = if (es.any fun e => inE l es e.v.id i) then 1 else 0 := by
  have : (l.parts[i].any fun s => insideE l es s) = es.any fun e => inE l es e.v.id i := by
    rw [Bool.eq_iff_iff, List.any_eq_true, List.any_eq_true]
    have hpa : partAt l i = some l.parts[i] := by
      unfold partAt
      rw [if_pos (by omega), Int.toNat_natCast, List.getElem?_eq_getElem hi]
    constructor
    · rintro ⟨s, hs, h⟩
      unfold insideE at h
      rw [List.any_eq_true] at h
      obtain ⟨id, hid, h⟩ := h
      rw [(isort_perm _).mem_iff, List.mem_map] at hid
      obtain ⟨e, he, rfl⟩ := hid
      refine ⟨e, he, ?_⟩
      unfold inE
      rw [hpa]
      simp only [List.any_eq_true]
      exact ⟨s, of_decide_eq_true h, decide_eq_true hs⟩
    · rintro ⟨e, he, h⟩
      unfold inE at h
      rw [hpa] at h
      simp only [List.any_eq_true] at h
      obtain ⟨s, h1, h2⟩ := h
      refine ⟨s, of_decide_eq_true h2, ?_⟩
      unfold insideE
      rw [List.any_eq_true]
      refine ⟨e.v.id, ?_, decide_eq_true h1⟩
      rw [(isort_perm _).mem_iff, List.mem_map]
      exact ⟨e, he, rfl⟩
  unfold sayE
  rw [this]

theorem true_loop8 (l : Lay) (hl : Lens l) (es : List Ve) (say : CV) (hsay : say.locv = false) (i : Int) : ∀ (S P : List Ve) (acc : Bool) (b : List Blk), es = P ++ S → Fleet l 1 0 b es →
    ∃ b', Grows b b' ∧ l18_WorldTrue_R8 ([(9, .op (.loc 9) 0), (10, .op (.blk 1) 0), (16, sl fI (es.map fun e => e.v.id)), (19, say), (23, .int .i64 i), (24, .bool acc), (25, .int .i64 P.length)], ⟨[(9, layC l)], b⟩) =
      some (.norm, [(9, .op (.loc 9) 0), (10, .op (.blk 1) 0), (16, sl fI (es.map fun e => e.v.id)), (19, say), (23, .int .i64 i), (24, .bool (acc || S.any fun e => inE l es e.v.id i))], ⟨[(9, layC l)], b'⟩) := by
  intro S
  have hcs := chkV_of hsay
  induction S with
  | nil =>
    intro P acc b hP h
    have h1 : ¬ ((P.length : Int) < ((es.map fun e => e.v.id).length : Nat)) := by rw [hP]; simp
    refine ⟨b, Grows.refl b, ?_⟩
    rw [l18_WorldTrue_R8_eq]
    simp only [l18_WorldTrue_B8, l18_WorldTrue_K8_a, h1, hcs, hsay, layC, List.any_nil, Bool.or_false, zy, simprocAttr]
  | cons e S ih =>
    intro P acc b hP h
    have h1 : ((P.length : Int) < ((es.map fun e => e.v.id).length : Nat)) := by rw [hP]; simp; omega
    have hp6 : P.length + 1 ≤ 6 := by have := h.g.few; rw [hP] at this; simp at this; omega
    have hw := wrapN (n := P.length) (by unfold Zc.small; omega)
    have hia := ids_at hP
    cases acc with
    | true =>
      obtain ⟨b', g', r'⟩ := ih (P ++ [e]) true b (by rw [hP]; simp) h
      rw [show (P ++ [e]).length = P.length + 1 by simp] at r'
      refine ⟨b', g', ?_⟩
      simp only [layC] at r'
      rw [l18_WorldTrue_R8_eq]
      simp only [l18_WorldTrue_B8, l18_WorldTrue_K8_a, h1, hia, hw, hcs, hsay, layC, r', Bool.true_or, zy, simprocAttr]
    | false =>
      obtain ⟨b1, g1, c1⟩ := wIn_F hl h.w h.g e.v.id i
      obtain ⟨b', g', r'⟩ := ih (P ++ [e]) (inE l es e.v.id i) b1 (by rw [hP]; simp) (h.grow g1)
      rw [show (P ++ [e]).length = P.length + 1 by simp] at r'
      refine ⟨b', g1.trans g', ?_⟩
      simp only [layC] at r'
      rw [l18_WorldTrue_R8_eq]
      simp only [l18_WorldTrue_B8, l18_WorldTrue_K8_a, h1, hia, hw, hcs, hsay, layC, world_World_In_call, c1, r', Bool.false_or, List.any_cons, zy, simprocAttr]

set_option maxHeartbeats 1000000 in
theorem true_loop6 (l : Lay) (hl : Lens l) (es : List Ve) (say : CV) : ∀ (S P : List (List Int)) (b : List Blk), l.parts = P ++ S → Fleet l 1 0 b es → Own fU 1 b say (l.parts.map (sayE l es)) →
    ∃ b', Grows b b' ∧ l18_WorldTrue_R6 ([(9, .op (.loc 9) 0), (10, .op (.blk 1) 0), (16, sl fI (es.map fun e => e.v.id)), (19, say), (23, .int .i64 P.length)], ⟨[(9, layC l)], b⟩) =
      some (.norm, [(9, .op (.loc 9) 0), (19, say)], ⟨[(9, layC l)], b'⟩) := by
  intro S
  have hlp := hl.ok.parts
  induction S with
  | nil =>
    intro P b hP h hO
    have hlen := hO.len
    have hlv := hO.locv
    have hch := hO.chkV
    have h1 : ¬ ((P.length : Int) < ((l.parts.map (sayE l es)).length : Nat)) := by rw [hP]; simp
    refine ⟨b, Grows.refl b, ?_⟩
    rw [l18_WorldTrue_R6_eq]
    simp only [l18_WorldTrue_B6, l18_WorldTrue_K6_a, h1, hlen, hlv, hch, layC, zy, simprocAttr]
  | cons q S ih =>
    intro P b hP h hO
    have hlen := hO.len
    have hlv := hO.locv
    have hch := hO.chkV
    have hPl : P.length < l.parts.length := by rw [hP]; simp
    have h1 : ((P.length : Int) < ((l.parts.map (sayE l es)).length : Nat)) := by rw [List.length_map]; omega
    have hw := wrapN (n := P.length) (by unfold Zc.small at *; omega)
    obtain ⟨b1, g1, c1⟩ := true_loop8 l hl es say hlv P.length es [] false b rfl h
    simp only [List.length_nil, Int.natCast_zero, Bool.false_or] at c1
    have hO1 := hO.keep g1
    have hsp : l.parts.map (sayE l es) = P.map (sayE l es) ++ sayE l es q :: S.map (sayE l es) := by rw [hP, List.map_append, List.map_cons]
    obtain ⟨p, i1, i2, i3⟩ := Held.at1 flatU hO1.held hsp
    have i1' := i1 .i64
    rw [List.length_map] at i1'
    have i3' : ∀ bx, loadC false 1 ⟨bx, b1⟩ p = some (.int .u8 (sayE l es q)) := i3
    have hq : l.parts[P.length] = q := by
      have : l.parts[P.length]? = some q := by rw [hP]; simp
      rw [List.getElem?_eq_getElem hPl] at this
      exact Option.some.inj this
    have hsay := say_in l es P.length hPl
    rw [hq] at hsay
    rw [hsay] at i3'
    obtain ⟨b', g', r'⟩ := ih (P ++ [q]) b1 (by rw [hP]; simp) (h.grow g1) hO1
    rw [show (P ++ [q]).length = P.length + 1 by simp] at r'
    refine ⟨b', g1.trans g', ?_⟩
    simp only [layC] at r' c1
    rw [l18_WorldTrue_R6_eq]
    cases hA : es.any fun e => inE l es e.v.id P.length with
    | true =>
      rw [hA] at c1
      rw [hA, if_pos rfl] at i3'
      simp only [l18_WorldTrue_B6, l18_WorldTrue_K6_a, h1, hw, hlen, hlv, hch, layC, l18_WorldTrue_L8_eq, c1, i1', i2, i3', r', zy, simprocAttr]
    | false =>
      rw [hA] at c1
      rw [hA, if_neg (by simp)] at i3'
      simp only [l18_WorldTrue_B6, l18_WorldTrue_K6_a, h1, hw, hlen, hlv, hch, layC, l18_WorldTrue_L8_eq, c1, i1', i2, i3', r', zy, simprocAttr]
end Go.Proofs.Ytfblegjbmhgepaa.Zt
end
section
namespace Go.Proofs.Ytfblegjbmhgepaa.Zt
open Go Go.Zc
set_option maxRecDepth 100000

theorem enters_F (st : Bool) (H : Heap) : l18_enters_F st H [] = some (.bool true, H) := by cases st <;> exact fz_run 100 (by kernel_rfl)
end Go.Proofs.Ytfblegjbmhgepaa.Zt
end
section
namespace Go.Proofs.Ytfblegjbmhgepaa.Zt
open Go Go.Zc
set_option maxRecDepth 10000

theorem isort_rising : ∀ (l : List Int), l.Pairwise (· < ·) → isort l = l := by
  intro l h
  have h1 := isort_perm l
  have h2 := isort_sorted l
  refine List.Perm.eq_of_pairwise (le := (· ≤ ·)) (fun a b _ _ h h' => by omega) h2 (h.imp fun h => by omega) h1

set_option maxHeartbeats 4000000 in
theorem worldTrue_F (d : Draft) (hd : d.ok) (cars : List Car) (hcs : ∀ c ∈ cars, c.ok) (go1 : List Int) (hgo : ∀ x ∈ go1, 0 ≤ x ∧ x ≤ 65535) (right : List Bool) (H : Heap) :
    l18_WorldTrue_F false H [.agg (draftC d), sl fCar cars, sl fG go1, sl fB right] = some (.bool true, H) := by
  have hen := enters_F
  have hsF := fun H => small_F d hd false H
  cases hsm : d.small with
  | false =>
    rw [hsm] at hsF
    rw [l18_WorldTrue_F_eq]
    simp only [l18_WorldTrue_C, l18_enters_call, hen, r04_Small_call, hsF, zy, simprocAttr]
  | true =>
    rw [hsm] at hsF
    by_cases ht : (6 : Int) < cars.length
    · rw [l18_WorldTrue_F_eq]
      simp only [l18_WorldTrue_C, l18_enters_call, hen, r04_Small_call, hsF, ht, gt_iff_lt, zy, simprocAttr]
    · by_cases ht' : (30 : Int) < go1.length
      · rw [l18_WorldTrue_F_eq]
        simp only [l18_WorldTrue_C, l18_enters_call, hen, r04_Small_call, hsF, ht, ht', gt_iff_lt, zy, simprocAttr]
      · by_cases hr : (12 : Int) < right.length
        · rw [l18_WorldTrue_F_eq]
          simp only [l18_WorldTrue_C, l18_enters_call, hen, r04_Small_call, hsF, ht, ht', hr, gt_iff_lt, zy, simprocAttr]
        · have hl := full_Lens d
          have hF := fun H => full_F d hd H
          generalize full d = l at *
          have W0 : Wld [.map [], .cells (worldC l 0)] 1 0 l [] := wNew_W l []
          have N0 : ∀ bx, world_New_F bx [] [.agg (layC l)] = some (.op (.blk 1) 0, ⟨bx, [.map [], .cells (worldC l 0)]⟩) := fun bx => wNew_F l [] bx
          have F0 : Fleet l 1 0 [.map [], .cells (worldC l 0)] [] := ⟨W0, ⟨fun e he => (by cases he), fun e he => (by cases he), by simp⟩, fun e he => (by cases he), .nil, .nil, fun e he => (by cases he)⟩
          have L0 := true_loop0 l hl cars hcs (by omega) go1 right cars [] [] _ rfl F0 (by simp) (fun e he => by cases he)
          simp only [List.length_nil, Int.natCast_zero, layC] at L0
          simp only [layC] at hF N0
          rcases L0 with ⟨b1, x1, c0⟩ | ⟨b1, es, F1, h6, hid, c0⟩
          · rw [l18_WorldTrue_F_eq]
            simp only [l18_WorldTrue_C, l18_enters_call, hen, r04_Small_call, hsF, ht, ht', hr, gt_iff_lt, r05_Full_call, hF, layC, world_New_call, N0, l18_WorldTrue_L0_eq, c0, zy, simprocAttr]
          · have hall := wAll_F F1.w F1.g.ids (by omega)
            have his : isort (es.map fun e => e.v.id) = es.map fun e => e.v.id := isort_rising _ (List.pairwise_map.2 F1.ids)
            rw [his] at hall
            have F2 := F1.grow (Grows.app b1 [.cells [.om 0]])
            obtain ⟨b2, es2, F3, hid2, c2⟩ := true_loop2 l hl (es.map fun e => e.v.id) (by rw [List.length_map]; exact h6) go1 hgo (by omega) right go1 [] es _ rfl F2 rfl
            simp only [List.length_nil, Int.natCast_zero, layC] at c2
            have hnew := fun H => wgnew_F l H
            obtain ⟨say, b3, g3, o3, c3⟩ := wDetect_F hl F3.w F3.g
            have F4 := F3.grow g3
            obtain ⟨b4, g4, c4⟩ := true_loop4 l hl es2 say o3.locv es2 [] b3 rfl F4
            obtain ⟨b5, g5, c6⟩ := true_loop6 l hl es2 say l.parts [] b4 rfl (F4.grow g4) (o3.keep g4)
            rw [hid2] at c4 c6
            simp only [List.length_nil, Int.natCast_zero, layC] at c4 c6 hnew
            have hlv := o3.locv
            have hch := o3.chkV
            have hlen := o3.len
            rw [List.length_map] at hlen
            rw [l18_WorldTrue_F_eq]
            simp only [l18_WorldTrue_C, l18_enters_call, hen, r04_Small_call, hsF, ht, ht', hr, gt_iff_lt, r05_Full_call, hF, layC, world_New_call, N0, l18_WorldTrue_L0_eq, c0, world_World_All_call, hall, l18_WorldTrue_L2_eq, c2, graph_New_call, hnew, world_World_Detect_call, c3, hlv, hch, hlen, l18_WorldTrue_L4_eq, c4, l18_WorldTrue_L6_eq, c6, zy, simprocAttr]
end Go.Proofs.Ytfblegjbmhgepaa.Zt
end
