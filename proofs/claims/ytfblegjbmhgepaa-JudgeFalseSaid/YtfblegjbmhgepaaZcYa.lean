/- The law JudgeFalse, walked. No condition. -/
import Derived.Test.YtfblegjbmhgepaaZcNx
set_option linter.all false
namespace Go.Proofs.Ytfblegjbmhgepaa.Zt
open Go Go.Zc
set_option maxRecDepth 10000

theorem jsafeH_loop (l : Lay) (hl : Lens l) (a m : Nat) (es : List Ve) (hf : GoodE l es) (c : CV) (states : List Int) (hm : states.length ≤ 1000) : ∀ (S P : List Int) (b : List Blk), states = P ++ S → Held fU 1 b c states → Wld b a m l es →
    ∃ b', Grows b b' ∧ judge_Safe_R0 ([(0, .op (.blk a) 0), (7, c), (8, .int .i64 states.length), (9, .int .i64 P.length)], ⟨[], b⟩) =
      if safeFrom (insideE l es) P.length S = true then some (.norm, [], ⟨[], b'⟩) else some (.ret, [(4, .bool false)], ⟨[], b'⟩) := by
  intro S
  induction S with
  | nil =>
    intro P b hP hc hW
    have h1 : ¬ ((P.length : Int) < states.length) := by rw [hP]; simp
    refine ⟨b, Grows.refl b, ?_⟩
    rw [judge_Safe_R0_eq]
    simp only [judge_Safe_B0, judge_Safe_K0_a, h1, safeFrom, zy, simprocAttr]
  | cons x S ih =>
    intro P b hP hc hW
    have h1 : ((P.length : Int) < states.length) := by rw [hP]; simp; omega
    have hw := wrapN (n := P.length) (by rw [hP] at hm; unfold Zc.small; simp at hm; omega)
    obtain ⟨q, g1, g2, g3⟩ := Held.at1 flatU hc hP
    have g1' := g1 .i64
    have g3' : ∀ bx, loadC false 1 ⟨bx, b⟩ q = some (.int .u8 x) := g3
    have hch := hc.chkV
    by_cases hx : x = 0
    · obtain ⟨X, hX⟩ := wInside_F hl hW hf P.length
      cases hA : insideE l es P.length with
      | true =>
        rw [hA] at hX
        refine ⟨b ++ X, Grows.app _ _, ?_⟩
        rw [safe_hit hx hA, judge_Safe_R0_eq]
        simp only [judge_Safe_B0, judge_Safe_K0_a, h1, g1', g3', eq_true hx, world_World_Inside_call, hX, zy, simprocAttr]
      | false =>
        rw [hA] at hX
        obtain ⟨b', g, q⟩ := ih (P ++ [x]) (b ++ X) (by rw [hP]; simp) (hc.keep fun k z hz _ => Grows.app _ _ k z hz) (hW.keep (Grows.app _ _))
        rw [show (P ++ [x]).length = P.length + 1 by simp] at q
        refine ⟨b', (Grows.app _ _).trans g, ?_⟩
        rw [safe_miss (by simp [hA]), judge_Safe_R0_eq]
        simp only [judge_Safe_B0, judge_Safe_K0_a, h1, g1', g3', hw, eq_true hx, world_World_Inside_call, hX, hch, q, zy, simprocAttr]
    · obtain ⟨b', g, q⟩ := ih (P ++ [x]) b (by rw [hP]; simp) hc hW
      rw [show (P ++ [x]).length = P.length + 1 by simp] at q
      refine ⟨b', g, ?_⟩
      rw [safe_miss (by simp [hx]), judge_Safe_R0_eq]
      simp only [judge_Safe_B0, judge_Safe_K0_a, h1, g1', g3', hw, eq_false hx, hch, q, zy, simprocAttr]
theorem jsafeH_F (l : Lay) (hl : Lens l) (a m : Nat) (es : List Ve) (hf : GoodE l es) (c : CV) (states : List Int) (hm : states.length ≤ 1000) (b : List Blk) (hc : Held fU 1 b c states) (hW : Wld b a m l es) :
    ∃ b', Grows b b' ∧ ∀ bx, judge_Safe_F bx b [.op (.blk a) 0, c] = some (.bool (safeFrom (insideE l es) 0 states), ⟨bx, b'⟩) := by
  obtain ⟨b', g, q⟩ := jsafeH_loop l hl a m es hf c states hm states [] b rfl hc hW
  refine ⟨b', g, fun bx => ?_⟩
  have hch := hc.chkV
  have hlv := hc.locv
  have hlen := hc.len
  rw [List.length_nil] at q
  simp only [List.nil_append, List.length_nil, Int.natCast_zero] at q
  rw [judge_Safe_F_eq]
  cases h : safeFrom (insideE l es) 0 states with
  | true =>
    rw [h, if_pos rfl] at q
    simp only [judge_Safe_C, judge_Safe_L0_eq, q, hch, hlv, hlen, zy, simprocAttr]
  | false =>
    rw [h, if_neg (by decide)] at q
    simp only [judge_Safe_C, judge_Safe_L0_eq, q, hch, hlv, hlen, zy, simprocAttr]

/-- One row of numbers, written over. -/
theorem set_u8 {bl : List Blk} {m : Nat} {xs : List Int} (hm : bl[m]? = some (.cells (xs.flatMap fU))) {i : Nat} (hi : i < xs.length) (n : Int) (bx : List (Nat × List CV)) :
    stE 1 i (.int .u8 n) ⟨bx, bl⟩ (.blk m) (xs.flatMap fU) = some ⟨bx, bl.set m (.cells ((xs.set i n).flatMap fU))⟩ := by
  rw [st_cell bx bl m i _ _ rfl rfl rfl (by rw [flatU.length]; omega)]
  have h : (xs.flatMap fU).set i (.int .u8 n) = (xs.set i n).flatMap fU := by
    have : ∀ (l : List Int), l.flatMap fU = l.map fun x => CV.int .u8 x := by
      intro l
      induction l with
      | nil => rfl
      | cons x l ih => simp only [List.flatMap_cons, List.map_cons, ih]; rfl
    rw [this, this, List.map_set]
  rw [h]
def fillN (v : Int) : Nat → Nat → List Int → List Int
  | 0, _, xs => xs
  | n + 1, i, xs => fillN v n (i + 1) (xs.set i v)
theorem fillN_len (v : Int) : ∀ (n i : Nat) (xs : List Int), (fillN v n i xs).length = xs.length
  | 0, _, _ => rfl
  | n + 1, i, xs => by unfold fillN; rw [fillN_len v n (i + 1), List.length_set]
theorem fillN_get (v : Int) : ∀ (n i : Nat) (xs : List Int) (k : Nat), i ≤ k → k < i + n → k < xs.length → (fillN v n i xs)[k]? = some v
  | 0, i, xs, k, h1, h2, _ => by omega
  | n + 1, i, xs, k, h1, h2, h3 => by
    unfold fillN
    by_cases hk : k = i
    · subst hk
      have : ∀ (n i : Nat) (xs : List Int), k < i → (fillN v n i xs)[k]? = xs[k]? := by
        intro n
        induction n with
        | zero => intro i xs _; rfl
        | succ n ih =>
          intro i xs hi
          unfold fillN
          rw [ih (i + 1) _ (by omega), List.getElem?_set_ne (by omega)]
      rw [this n (k + 1) _ (by omega), List.getElem?_set_self h3]
    · exact fillN_get v n (i + 1) _ k (by omega) (by omega) (by rw [List.length_set]; exact h3)

theorem false_loop (at' : Int) (ha : 0 ≤ at' ∧ at' ≤ 255) (p5 v6 : CV) (h5 : p5.locv = false) (h6 : v6.locv = false) (m : Nat) (N : Nat) (hN : N ≤ 1000) : ∀ (n i : Nat) (xs : List Int) (b : List Blk), i + n = N → xs.length = N → b[m]? = some (.cells (xs.flatMap fU)) →
    l20_JudgeFalse_R0 ([(1, .int .u8 at'), (5, p5), (6, v6), (7, .os 1 (.blk m) 0 N), (8, .int .i64 i)], ⟨[], b⟩) =
      some (.norm, [(5, p5), (6, v6), (7, .os 1 (.blk m) 0 N)], ⟨[], if n = 0 then b else b.set m (.cells ((fillN (1 + at' % 3) n i xs).flatMap fU))⟩)
  | 0, i, xs, b, hi, hx, hb => by
    have h1 : ¬ ((i : Int) < N) := by omega
    have c5 := chkV_of h5
    have c6 := chkV_of h6
    rw [l20_JudgeFalse_R0_eq]
    simp only [l20_JudgeFalse_B0, l20_JudgeFalse_K0_a, h1, c5, c6, if_true, zy, simprocAttr]
  | n + 1, i, xs, b, hi, hx, hb => by
    have h1 : ((i : Int) < N) := by omega
    have hw := wrapN (n := i) (by unfold Zc.small; omega)
    have c5 := chkV_of h5
    have c6 := chkV_of h6
    have hmb : m < b.length := (List.getElem?_eq_some_iff.1 hb).1
    have hia : iaddrC 1 (.os 1 (.blk m) 0 N) (.int .i64 i) = some (.op (.blk m) i) := by
      unfold iaddrC iaddrN
      simp only [Int.toNat_natCast, Nat.zero_add, Nat.mul_one]
      rw [if_pos ⟨trivial, by omega, by omega⟩]
    have hg : ∀ bx, Heap.get ⟨bx, b⟩ (.blk m) = some (xs.flatMap fU) := fun bx => get_blk bx b _ _ hb
    have hst := fun bx => set_u8 hb (i := i) (by omega) (1 + at' % 3) bx
    have k1 : at'.tmod 3 = at' % 3 := Int.tmod_eq_emod_of_nonneg ha.1
    have k2 : IntKind.u8.wrap (1 + at' % 3) = 1 + at' % 3 := by rw [IntKind.wrap_u8]; omega
    have ih := false_loop at' ha p5 v6 h5 h6 m N hN n (i + 1) (xs.set i (1 + at' % 3)) (b.set m (.cells ((xs.set i (1 + at' % 3)).flatMap fU))) (by omega) (by rw [List.length_set]; exact hx) (by simp [hmb])
    have hres : (if n = 0 then b.set m (.cells ((xs.set i (1 + at' % 3)).flatMap fU)) else (b.set m (.cells ((xs.set i (1 + at' % 3)).flatMap fU))).set m (.cells ((fillN (1 + at' % 3) n (i + 1) (xs.set i (1 + at' % 3))).flatMap fU))) = b.set m (.cells ((fillN (1 + at' % 3) (n + 1) i xs).flatMap fU)) := by
      split
      · rename_i h0; subst h0; rfl
      · rw [List.set_set]; rfl
    rw [hres] at ih
    rw [if_neg (by omega), l20_JudgeFalse_R0_eq]
    simp only [l20_JudgeFalse_B0, l20_JudgeFalse_K0_a, h1, hia, hg, hst, k1, k2, hw, c5, c6, ih, zy, simprocAttr]

theorem safe_none {f : Int → Bool} : ∀ (i : Nat) (xs : List Int), (∀ x ∈ xs, x ≠ 0) → safeFrom f i xs = true
  | _, [], _ => rfl
  | i, x :: xs, h => by
    rw [safe_miss (fun h' => h x (by simp) h'.1)]
    exact safe_none (i + 1) xs fun y hy => h y (by simp [hy])
theorem safe_at {f : Int → Bool} : ∀ (k i : Nat) (xs : List Int), xs[k]? = some 0 → f ((i + k : Nat) : Int) = true → safeFrom f i xs = false
  | _, _, [], h, _ => by simp at h
  | 0, i, x :: xs, h, hf => by
    simp only [List.getElem?_cons_zero, Option.some.injEq] at h
    exact safe_hit h hf
  | k + 1, i, x :: xs, h, hf => by
    by_cases hx : x = 0 ∧ f i = true
    · exact safe_hit hx.1 hx.2
    · rw [safe_miss hx]
      exact safe_at k (i + 1) xs (by simpa using h) (by rw [show i + 1 + k = i + (k + 1) by omega]; exact hf)

set_option maxHeartbeats 4000000 in
theorem judgeFalse_F (s : Story) (hs : s.ok) (at' : Int) (ha : 0 ≤ at' ∧ at' ≤ 255) (H : Heap) : l20_JudgeFalse_F false H [.agg (storyC s), .int .u8 at'] = some (.bool true, H) := by
  have hn := nobody_F
  have hsm := fun st H => rsmall_F s hs st H
  cases hsmall : s.small with
  | false =>
    rw [hsmall] at hsm
    rw [l20_JudgeFalse_F_eq]
    simp only [l20_JudgeFalse_C, l20_nobody_call, hn, r18_Small_call, hsm, zy, simprocAttr]
  | true =>
    rw [hsmall] at hsm
    have hl := full_Lens s.d
    have hG := begin_good s
    obtain ⟨wv, w1, w2⟩ := begin_F s hs []
    simp only [List.nil_append, List.length_nil] at w2
    have hgp : ∀ bx, Heap.get ⟨bx, [Blk.cells (playC (begin s) wv .nils)]⟩ (.blk 0) = some (playC (begin s) wv .nils) := fun bx => rfl
    have hnk : nchkC (.op (.blk 0) 0) = some (.op (.blk 0) 0) := rfl
    have g2 := play_w (begin s) wv .nils (sl fB (begin s).right)
    have g1 := play_l (begin s) wv .nils (sl fB (begin s).right)
    have g3 := play_secs (begin s) wv .nils (sl fB (begin s).right)
    have hlen := w1.len
    by_cases h0 : (begin s).w = []
    · have h0' : (((begin s).w.length : Nat) : Int) = 0 := by rw [h0]; rfl
      rw [l20_JudgeFalse_F_eq]
      simp only [l20_JudgeFalse_C, l20_nobody_call, hn, r18_Small_call, hsm, r18_Begin_call, w2, hnk, hgp, g2, hlen, h0', zy, simprocAttr]
    · have hpos : 0 < (begin s).w.length := List.length_pos_iff.2 h0
      have h0' : ¬ (((begin s).w.length : Nat) : Int) = 0 := by omega
      have hwe := w1.ne h0
      subst hwe
      have k1 : IntKind.i64.wrap at' = at' := wrap64 (by omega) (by omega)
      have k2 : at'.tmod ((begin s).w.length : Int) = ((at' % (begin s).w.length).toNat : Nat) := by
        have h0 : 0 ≤ at' % ((begin s).w.length : Int) := Int.emod_nonneg _ (by omega)
        rw [Int.tmod_eq_emod_of_nonneg ha.1]; omega
      have hil : (at' % (begin s).w.length).toNat < (begin s).w.length := by
        have h0 : 0 ≤ at' % ((begin s).w.length : Int) := Int.emod_nonneg _ (by omega)
        have h3 : at' % ((begin s).w.length : Int) < (begin s).w.length := Int.emod_lt_of_pos _ (by omega)
        omega
      generalize (at' % ((begin s).w.length : Int)).toNat = i at k2 hil
      have hia := iaddr_atVh (k := .i64) hil
      have hvm := List.getElem_mem hil
      obtain ⟨hS, hF⟩ := hG.snd _ hvm
      have hU := fun st H => rUnder_F (begin s).l hl (begin s).w (by have := hG.few; unfold Zc.small; omega) (hG.fits hl) (begin s).w[i].id st H
      rw [underV_mem hG.once hvm] at hU
      obtain ⟨e, r, hway, _⟩ := hF
      obtain ⟨t, ht⟩ := underW_cons (l := (begin s).l) hway
      have hUL : underL (begin s).l (begin s).w[i] = e.s :: t.map Ed.s := by unfold underL; rw [ht]; rfl
      obtain ⟨⟨he0, he1⟩, _⟩ := hS.there e (by rw [hway]; simp)
      obtain ⟨k, hk⟩ := Int.eq_ofNat_of_zero_le he0
      have hkl : k < (begin s).l.secs.length := by omega
      have hN : (begin s).l.secs.length ≤ 12 := hl.few
      generalize hNN : (begin s).l.secs.length = N at hkl hN he1
      have hmk := fun bx bl => Own.mk flatU 0 N 1 (by omega) .i64 .i64 bx bl
      have hrep : [CV.int .u8 0] = fU 0 := rfl
      have hf := false_loop at' ha (.op (.blk 0) 0) (sl fI (e.s :: t.map Ed.s)) rfl rfl 1 N (by omega) N 0 (List.replicate N 0) [Blk.cells (playC (begin s) (sl fVh (begin s).w) .nils), Blk.cells ((List.replicate N (0 : Int)).flatMap fU)] (by omega) (by simp) rfl
      have hNpos : ¬ N = 0 := by omega
      rw [if_neg hNpos] at hf
      simp only [Int.natCast_zero, List.set_cons_succ, List.set_cons_zero] at hf
      generalize hst : fillN (1 + at' % 3) N 0 (List.replicate N 0) = states at hf
      have hsl : states.length = N := by rw [← hst, fillN_len]; simp
      have hsn : ∀ x ∈ states, x ≠ 0 := by
        intro x hx
        obtain ⟨j, hj, rfl⟩ := List.mem_iff_getElem.1 hx
        have := fillN_get (1 + at' % 3) N 0 (List.replicate N 0) j (by omega) (by omega) (by simp; omega)
        rw [hst, List.getElem?_eq_getElem hj] at this
        rw [Option.some.inj this]
        omega
      obtain ⟨b1, a, m, es, t1, t2, t3, t4⟩ := turned_F (begin s).l hl (begin s) rfl (sl fVh (begin s).w) hG (.inl rfl) [Blk.cells (playC (begin s) (sl fVh (begin s).w) .nils), Blk.cells (states.flatMap fU)] 0 rfl
      have hGE := goodE_of hl hG t3
      have hc1 : Held fU 1 b1 (.os 1 (.blk 1) 0 N) states := .inr (.inr ⟨1, [], [], by rw [hsl]; rfl, by simpa using t4 1 _ rfl⟩)
      obtain ⟨b2, g, e1⟩ := jsafeH_F (begin s).l hl a m es hGE (.os 1 (.blk 1) 0 N) states (by omega) b1 hc1 t2
      rw [safe_none 0 states hsn] at e1
      have hb2 : b2[1]? = some (.cells (states.flatMap fU)) := (t4.trans g) 1 _ rfl
      have hm2 : 1 < b2.length := (List.getElem?_eq_some_iff.1 hb2).1
      have hW2 := t2.keep g
      have hget2 : ∀ bx, Heap.get ⟨bx, b2⟩ (.blk 1) = some (states.flatMap fU) := fun bx => get_blk bx b2 _ _ hb2
      have hst2 := fun bx => set_u8 hb2 (i := k) (by omega) 0 bx
      have hia2 : iaddrC 1 (.os 1 (.blk 1) 0 N) (.int .i64 k) = some (.op (.blk 1) k) := by
        unfold iaddrC iaddrN
        simp only [Int.toNat_natCast, Nat.zero_add, Nat.mul_one]
        rw [if_pos ⟨trivial, by omega, by omega⟩]
      have hi0 : iaddrC 1 (sl fI (e.s :: t.map Ed.s)) (.int .i64 0) = some (.vp (.int .i64 e.s :: (t.map Ed.s).flatMap fI)) := iaddr_midI .i64 [] _ _
      have hother : ∀ (j : Nat) (X : List CV), b2[j]? = some (.cells X) → (∃ c ∈ X, ∀ n, c ≠ .int .u8 n) → j ≠ 1 := by
        rintro j X hX ⟨c, hc, hcn⟩ rfl
        rw [hb2] at hX
        cases hX
        obtain ⟨x, _, hx⟩ := List.mem_flatMap.1 hc
        simp only [fU, List.mem_singleton] at hx
        exact hcn x hx
      have hset : ∀ (j : Nat) (b : Blk), b2[j]? = some b → j ≠ 1 → (b2.set 1 (.cells ((states.set k 0).flatMap fU)))[j]? = some b := fun j b hb hne => by
        rw [List.getElem?_set_ne (Ne.symm hne)]; exact hb
      have hW3 : Wld (b2.set 1 (.cells ((states.set k 0).flatMap fU))) a m (begin s).l es := by
        refine ⟨hset _ _ hW2.top (hother a _ hW2.top ⟨_, List.mem_cons_self, by simp [sl]⟩), hset _ _ hW2.map (fun e => by have := hW2.map; rw [e, hb2] at this; cases this), fun x hx => hset _ _ (hW2.cell x hx) (hother _ _ (hW2.cell x hx) ⟨_, List.mem_cons_self, by simp⟩), fun x hx => ?_⟩
        have hw := hW2.way x hx
        rcases hw with hw | hw | ⟨m', pre, rest, hw, h2⟩
        · exact .inl hw
        · exact .inr (.inl hw)
        · refine .inr (.inr ⟨m', pre, rest, hw, hset _ _ h2 (hother _ _ h2 ?_)⟩)
          have hxv : x.v ∈ es.map Ve.v := List.mem_map_of_mem hx
          rw [t3] at hxv
          obtain ⟨v, hv, hve⟩ := List.mem_map.1 hxv
          obtain ⟨e', r', hw', _⟩ := (hG.snd v hv).2
          obtain ⟨t', ht'⟩ := underW_cons (l := (begin s).l) hw'
          refine ⟨.int .i64 e'.s, ?_, by simp⟩
          rw [← hve]
          simp only [turnV, ht', List.flatMap_cons, fE, List.mem_append, List.mem_cons]
          simp
      have hc3 : Held fU 1 (b2.set 1 (.cells ((states.set k 0).flatMap fU))) (.os 1 (.blk 1) 0 N) (states.set k 0) := .inr (.inr ⟨1, [], [], by rw [List.length_set, hsl]; rfl, by rw [List.getElem?_set_self hm2]; simp⟩)
      obtain ⟨b3, _, e2⟩ := jsafeH_F (begin s).l hl a m es hGE (.os 1 (.blk 1) 0 N) (states.set k 0) (by rw [List.length_set]; omega) _ hc3 hW3
      have hbad : safeFrom (insideE (begin s).l es) 0 (states.set k 0) = false := by
        refine safe_at k 0 _ (List.getElem?_set_self (by omega)) ?_
        rw [inside_same (begin s).l (begin s).w hG.once es t3, Nat.zero_add, ← hk]
        unfold insideV
        rw [List.any_eq_true]
        refine ⟨_, hvm, ?_⟩
        rw [underV_mem hG.once hvm, hUL]
        simp
      rw [hbad] at e2
      rw [hUL] at hU
      have hlenS : lenC (sl fS (begin s).l.secs) = some (.int .i64 N) := by rw [lenC_sl, hNN]
      have hmk1 := fun bx bl => (hmk bx bl).1
      have hwv := hG.few
      rw [← hrep] at hmk1
      rw [hk] at hf hi0 hU
      rw [l20_JudgeFalse_F_eq]
      simp only [l20_JudgeFalse_C, l20_nobody_call, hn, r18_Small_call, hsm, r18_Begin_call, w2, hnk, hgp, g1, g2, g3, hlen, h0', k1, k2, hia, r18_Under_call, hU, hlenS, hmk1, l20_JudgeFalse_L0_eq, hf, l20_turned_call, t1, judge_Safe_call, e1, hi0, hk, hia2, hget2, hst2, e2, zy, simprocAttr]
end Go.Proofs.Ytfblegjbmhgepaa.Zt
