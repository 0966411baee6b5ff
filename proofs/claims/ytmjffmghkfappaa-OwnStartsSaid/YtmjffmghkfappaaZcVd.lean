/- Walks: views, by numbers. -/
import Derived.Test.YtmjffmghkfappaaZcVc
set_option linter.all false
namespace Go.Proofs.Ytmjffmghkfappaa.Zt
open Go Go.Zc
set_option maxRecDepth 10000

/-- The rows of a list that holds lists, in memory. -/
theorem fV_len (x : Vw) : (fV x).length = 3 := rfl
theorem Cells.row {bl : List Blk} {cs : List CV} {p s : List Vw} {x : Vw} (h : Cells bl cs ((p ++ x :: s).flatMap fV)) : ∃ c, cs.drop (p.length * 3) = .int .i64 x.id :: .bool x.sure :: c :: cs.drop (p.length * 3 + 3) ∧ c.one = true ∧ c.locv = false ∧ c.cells = [c] ∧ c.und? = false := by
  induction p generalizing cs with
  | nil =>
    simp only [List.nil_append, List.flatMap_cons, fV, List.cons_append] at h
    match cs, h with
    | c0 :: c1 :: c2 :: r, ⟨h0, h1, h2, _⟩ =>
      have e0 : c0 = .int .i64 x.id := by
        rcases h0 with ⟨e, _⟩ | ⟨l, _, e⟩
        · exact e
        · cases e
      have e1 : c1 = .bool x.sure := by
        rcases h1 with ⟨e, _⟩ | ⟨l, _, e⟩
        · exact e
        · cases e
      subst e0 e1
      refine ⟨c2, rfl, h2.one, h2.locv, ?_, ?_⟩
      · rcases h2 with ⟨e, _⟩ | ⟨l, h, _⟩
        · subst e; rfl
        · exact h.cells
      · rcases h2 with ⟨e, _⟩ | ⟨l, h, _⟩
        · subst e; rfl
        · exact h.und
  | cons y p ih =>
    simp only [List.cons_append, List.flatMap_cons, fV] at h
    match cs, h with
    | c0 :: c1 :: c2 :: r, ⟨_, _, _, h⟩ =>
      obtain ⟨c, e, h1⟩ := ih (cs := r) h
      refine ⟨c, ?_, h1⟩
      have e1 : (y :: p).length * 3 = p.length * 3 + 3 := by simp only [List.length_cons]; omega
      rw [e1]
      simp only [List.drop_succ_cons]
      exact e

theorem dfind_loop (id : Int) (bl : List Blk) (v : CV) (vs : List Vw) (hm : vs.length ≤ Zc.small) (hD : Deep fV 3 bl v vs) : ∀ (s p : List Vw), p ++ s = vs →
    match s.find? (fun v => decide (v.id = id)) with
    | some y => ∃ c, r12_Find_R0 ([(0, v), (1, .int .i64 id), (4, .op (.loc 4) 0), (6, .int .i64 p.length)], ⟨[(4, [.int .i64 0, .bool false, .nils])], bl⟩) = some (.ret, [(4, .op (.loc 4) 0), (5, .bool true)], ⟨[(4, [.int .i64 y.id, .bool y.sure, c])], bl⟩) ∧ c.one = true ∧ c.locv = false ∧ c.cells = [c] ∧ c.und? = false
    | none => r12_Find_R0 ([(0, v), (1, .int .i64 id), (4, .op (.loc 4) 0), (6, .int .i64 p.length)], ⟨[(4, [.int .i64 0, .bool false, .nils])], bl⟩) = some (.norm, [(4, .op (.loc 4) 0)], ⟨[(4, [.int .i64 0, .bool false, .nils])], bl⟩)
  | [], p, hp => by
    have h1 : ¬ ((p.length : Int) < vs.length) := by rw [← hp]; simp
    simp only [List.find?_nil]
    rw [r12_Find_R0_eq]
    simp only [r12_Find_B0, r12_Find_K0_norm, r12_Find_K0_ret, r12_Find_K0_exit, hD.len, hD.chkV, h1, y1, y2, y3, y4, y5, y6, y7, y8, y9, keepE, keepB, chk, CV.locs, CV.locv, CV.refs, CV.ref, pureOp, repC, takeN, resV, enterC, Nat.reduceAdd, Nat.reduceSub, Nat.reduceMul, Nat.reduceLeDiff, Nat.reduceLT, Nat.reduceBEq, Nat.reduceBNe, Nat.reduceEqDiff, ↓reduceIte, Int.reduceAdd, Int.reduceSub, Int.reduceMul, Int.reduceLT, Int.reduceLE, Int.reduceEq, Int.reduceNeg, Int.reduceToNat]
  | x :: s, p, hp => by
    have hpl : p.length + 1 + s.length = vs.length := by rw [← hp]; simp; omega
    have h4 : ((p.length : Int) < vs.length) := by omega
    have hw := wrapN (n := p.length) (by omega)
    have hcv := hD.chkV
    have hln := hD.len
    rcases hD with ⟨rfl, rfl⟩ | ⟨m, cs, rfl, h2, h3, h5⟩
    · simp at hp
    have hD' : Deep fV 3 bl (.os 3 (.blk m) 0 vs.length) vs := .inr ⟨m, cs, rfl, h2, h3, h5⟩
    have hia : iaddrC 3 (.os 3 (.blk m) 0 vs.length) (.int .i64 p.length) = some (.op (.blk m) (p.length * 3)) := by
      unfold iaddrC iaddrN
      simp only [Int.toNat_natCast, Nat.zero_add]
      rw [if_pos ⟨trivial, by omega, by omega⟩]
    have hg : ∀ bx, Heap.get ⟨bx, bl⟩ (.blk m) = some cs := fun bx => get_blk bx bl m _ h2
    rw [← hp] at h3
    obtain ⟨c, hdr, c1, c2, c3, c4⟩ := Cells.row h3
    have ih := dfind_loop id bl _ vs hm hD' s (p ++ [x]) (by simpa using hp)
    rw [show (p ++ [x]).length = p.length + 1 by simp] at ih
    by_cases h : x.id = id
    · simp only [List.find?_cons, eq_true h, decide_true]
      refine ⟨c, ?_, c1, c2, c3, c4⟩
      rw [r12_Find_R0_eq]
      simp only [r12_Find_B0, r12_Find_K0_norm, r12_Find_K0_ret, r12_Find_K0_exit, hln, h4, hia, hg, hdr, eq_true h, c1, c2, c3, c4, y1, y2, y3, y4, y5, y6, y7, y8, y9, keepE, keepB, chk, CV.locs, CV.locv, CV.refs, CV.ref, pureOp, repC, takeN, resV, enterC, Nat.reduceAdd, Nat.reduceSub, Nat.reduceMul, Nat.reduceLeDiff, Nat.reduceLT, Nat.reduceBEq, Nat.reduceBNe, Nat.reduceEqDiff, ↓reduceIte, Int.reduceAdd, Int.reduceSub, Int.reduceMul, Int.reduceLT, Int.reduceLE, Int.reduceEq, Int.reduceNeg, Int.reduceToNat]
    · simp only [List.find?_cons, eq_false h, decide_false]
      cases hf : s.find? (fun v => decide (v.id = id)) with
      | none =>
        simp only [hf] at ih
        rw [r12_Find_R0_eq]
        simp only [r12_Find_B0, r12_Find_K0_norm, r12_Find_K0_ret, r12_Find_K0_exit, hln, h4, hia, hg, hdr, eq_false h, hw, hcv, ih, y1, y2, y3, y4, y5, y6, y7, y8, y9, keepE, keepB, chk, CV.locs, CV.locv, CV.refs, CV.ref, pureOp, repC, takeN, resV, enterC, Nat.reduceAdd, Nat.reduceSub, Nat.reduceMul, Nat.reduceLeDiff, Nat.reduceLT, Nat.reduceBEq, Nat.reduceBNe, Nat.reduceEqDiff, ↓reduceIte, Int.reduceAdd, Int.reduceSub, Int.reduceMul, Int.reduceLT, Int.reduceLE, Int.reduceEq, Int.reduceNeg, Int.reduceToNat]
      | some y =>
        simp only [hf] at ih
        obtain ⟨c', e, e2⟩ := ih
        refine ⟨c', ?_, e2⟩
        rw [r12_Find_R0_eq]
        simp only [r12_Find_B0, r12_Find_K0_norm, r12_Find_K0_ret, r12_Find_K0_exit, hln, h4, hia, hg, hdr, eq_false h, hw, hcv, e, y1, y2, y3, y4, y5, y6, y7, y8, y9, keepE, keepB, chk, CV.locs, CV.locv, CV.refs, CV.ref, pureOp, repC, takeN, resV, enterC, Nat.reduceAdd, Nat.reduceSub, Nat.reduceMul, Nat.reduceLeDiff, Nat.reduceLT, Nat.reduceBEq, Nat.reduceBNe, Nat.reduceEqDiff, ↓reduceIte, Int.reduceAdd, Int.reduceSub, Int.reduceMul, Int.reduceLT, Int.reduceLE, Int.reduceEq, Int.reduceNeg, Int.reduceToNat]
theorem dfind_F (id : Int) (bl : List Blk) (v : CV) (vs : List Vw) (hm : vs.length ≤ Zc.small) (hD : Deep fV 3 bl v vs) : ∃ n b c, (∀ bx, r12_Find_F bx bl [v, .int .i64 id] = some (.tup [.agg [.int .i64 n, .bool b, c], .bool (findV vs id).isSome], ⟨bx, bl⟩)) ∧ c.one = true ∧ c.locv = false ∧ c.cells = [c] ∧ c.und? = false := by
  have e := dfind_loop id bl v vs hm hD vs [] rfl
  simp only [List.nil_append, List.length_nil, Int.natCast_zero] at e
  have hcv := hD.chkV
  cases hf : findV vs id with
  | none =>
    have hf' : vs.find? (fun v => decide (v.id = id)) = none := hf
    simp only [hf'] at e
    refine ⟨0, false, .nils, fun bx => ?_, rfl, rfl, rfl, rfl⟩
    rw [r12_Find_F_eq]
    simp only [r12_Find_C, r12_Find_L0_eq, hcv, e, y1, y2, y3, y4, y5, y6, y7, y8, y9, keepE, keepB, chk, CV.locs, CV.locv, CV.refs, CV.ref, pureOp, repC, takeN, resV, enterC, Nat.reduceAdd, Nat.reduceSub, Nat.reduceMul, Nat.reduceLeDiff, Nat.reduceLT, Nat.reduceBEq, Nat.reduceBNe, Nat.reduceEqDiff, ↓reduceIte, Int.reduceAdd, Int.reduceSub, Int.reduceMul, Int.reduceLT, Int.reduceLE, Int.reduceEq, Int.reduceNeg, Int.reduceToNat]
  | some x =>
    have hf' : vs.find? (fun v => decide (v.id = id)) = some x := hf
    simp only [hf'] at e
    obtain ⟨c, e, c1, c2, c3, c4⟩ := e
    refine ⟨x.id, x.sure, c, fun bx => ?_, c1, c2, c3, c4⟩
    rw [r12_Find_F_eq]
    simp only [r12_Find_C, r12_Find_L0_eq, hcv, e, c1, c2, c3, c4, y1, y2, y3, y4, y5, y6, y7, y8, y9, keepE, keepB, chk, CV.locs, CV.locv, CV.refs, CV.ref, pureOp, repC, takeN, resV, enterC, Nat.reduceAdd, Nat.reduceSub, Nat.reduceMul, Nat.reduceLeDiff, Nat.reduceLT, Nat.reduceBEq, Nat.reduceBNe, Nat.reduceEqDiff, ↓reduceIte, Int.reduceAdd, Int.reduceSub, Int.reduceMul, Int.reduceLT, Int.reduceLE, Int.reduceEq, Int.reduceNeg, Int.reduceToNat]

theorem views_in (l : Lay) (hl : l.ok) (hpos : 0 < l.secs.length) (f : Fld) (hf : f.ok) (n : Nat) (hn : n < f.views.length) (hsl : f.views[n].span.length ≤ 14) (c6 c7 c9 : CV) (h6 : c6.locv = false) (h7 : c7.locv = false) (h9 : c9.locv = false) (bl0 : List Blk) : ∀ (s pre out : List Int) (v : CV) (bl : List Blk), pre ++ s = f.views[n].span → out.length ≤ pre.length → Own fI 1 bl v out →
    (∀ (k : Nat) (b : Blk), bl0[k]? = some b → bl[k]? = some b) → (∀ k, blkOf v = some k → bl0.length ≤ k) →
    ∃ v' bl', l12_views_R2 ([(2, .op (.loc 2) 0), (3, .op (.loc 3) 0), (6, c6), (7, c7), (8, .int .i64 n), (9, c9), (12, v), (13, .int .i64 pre.length)], ⟨[(2, layC l), (3, fieldC f)], bl⟩) =
      some (.norm, [(2, .op (.loc 2) 0), (3, .op (.loc 3) 0), (6, c6), (7, c7), (8, .int .i64 n), (9, c9), (12, v')], ⟨[(2, layC l), (3, fieldC f)], bl'⟩) ∧ Own fI 1 bl' v' (spanL l.secs.length out s) ∧
      (∀ (k : Nat) (b : Blk), bl0[k]? = some b → bl'[k]? = some b) ∧ (∀ k, blkOf v' = some k → bl0.length ≤ k)
  | [], pre, out, v, bl, hp, ho, hO, hk, hb => by
    have q6 := chkV_of h6
    have q7 := chkV_of h7
    have q9 := chkV_of h9
    have h1 : ¬ ((pre.length : Int) < f.views[n].span.length) := by rw [← hp]; simp
    refine ⟨v, bl, ?_, hO, hk, hb⟩
    rw [l12_views_R2_eq]
    simp only [l12_views_B2, l12_views_K2_norm, l12_views_K2_ret, l12_views_K2_exit, q6, q7, q9, iaddr_atK hn, h1, hO.chkV, y1, y2, y3, y4, y5, y6, y7, y8, y9, keepE, keepB, chk, CV.locs, CV.locv, CV.refs, CV.ref, pureOp, repC, takeN, resV, enterC, Nat.reduceAdd, Nat.reduceSub, Nat.reduceMul, Nat.reduceLeDiff, Nat.reduceLT, Nat.reduceBEq, Nat.reduceBNe, Nat.reduceEqDiff, ↓reduceIte, Int.reduceAdd, Int.reduceSub, Int.reduceMul, Int.reduceLT, Int.reduceLE, Int.reduceEq, Int.reduceNeg, Int.reduceToNat]
  | x :: s, pre, out, v, bl, hp, ho, hO, hk, hb => by
    have q6 := chkV_of h6
    have q7 := chkV_of h7
    have q9 := chkV_of h9
    have hpl : pre.length + 1 + s.length = f.views[n].span.length := by rw [← hp]; simp; omega
    have h1 : ((pre.length : Int) < f.views[n].span.length) := by omega
    have hw := wrapN (n := pre.length) (by unfold Zc.small; omega)
    have hia : iaddrC 1 (sl fU f.views[n].span) (.int .i64 pre.length) = some (.vp (.int .u8 x :: s.flatMap fU)) := by rw [← hp]; exact iaddr_midU _ pre s x
    have hx := (hf.view _ (List.getElem_mem hn)).span x (by rw [← hp]; simp)
    have k1 : IntKind.i64.wrap x = x := wrap64 (by omega) (by omega)
    have k2 : x.tmod (l.secs.length : Int) = x % l.secs.length := Int.tmod_eq_emod_of_nonneg hx.1
    have k3 : ¬ ((l.secs.length : Int) = 0) := by omega
    have hsn := fun bx st => snapI_own hO bx st
    have hcF := fun st H => has_F out (x % l.secs.length) (by unfold Zc.small; omega) st H
    by_cases hx' : x % l.secs.length ∈ out
    · obtain ⟨v', bl', e, o⟩ := views_in l hl hpos f hf n hn hsl c6 c7 c9 h6 h7 h9 bl0 s (pre ++ [x]) out v bl (by simpa using hp) (by simp; omega) hO hk hb
      rw [show (pre ++ [x]).length = pre.length + 1 by simp] at e
      refine ⟨v', bl', ?_, by simpa only [spanL, if_pos hx'] using o⟩
      simp only [eq_true hx'] at hcF
      rw [l12_views_R2_eq]
      simp only [l12_views_B2, l12_views_K2_norm, l12_views_K2_ret, l12_views_K2_exit, q6, q7, q9, iaddr_atK hn, h1, hia, k1, k2, k3, hw, hO.chkV, hO.locv, hO.one, hO.cells, hsn, r01_Has_call, hcF, e, y1, y2, y3, y4, y5, y6, y7, y8, y9, keepE, keepB, chk, CV.locs, CV.locv, CV.refs, CV.ref, pureOp, repC, takeN, resV, enterC, Nat.reduceAdd, Nat.reduceSub, Nat.reduceMul, Nat.reduceLeDiff, Nat.reduceLT, Nat.reduceBEq, Nat.reduceBNe, Nat.reduceEqDiff, ↓reduceIte, Int.reduceAdd, Int.reduceSub, Int.reduceMul, Int.reduceLT, Int.reduceLE, Int.reduceEq, Int.reduceNeg, Int.reduceToNat]
    · obtain ⟨v1, bl1, e1, o1, hlen, f1, hbk⟩ := hO.app1 flatI (bytes := 8) (zero := [.int .i64 0]) (by decide) rfl rfl (x % l.secs.length) (by omega)
      have hle : bl0.length ≤ bl.length := by
        rcases Nat.lt_or_ge bl.length bl0.length with h | h
        · have := (List.getElem?_eq_some_iff.1 (hk bl.length _ (List.getElem?_eq_getElem h))).1
          omega
        · exact h
      obtain ⟨v', bl', e, o⟩ := views_in l hl hpos f hf n hn hsl c6 c7 c9 h6 h7 h9 bl0 s (pre ++ [x]) (out ++ [x % l.secs.length]) v1 bl1 (by simpa using hp) (by simp; omega) o1
        (fun k b h => f1 k b (hk k b h) fun e => by
          have := hb k e
          have := (List.getElem?_eq_some_iff.1 h).1
          omega)
        (fun k h => by
          rcases hbk with hbk | hbk
          · exact hb k (hbk ▸ h)
          · rw [hbk] at h; cases h; exact hle)
      rw [show (pre ++ [x]).length = pre.length + 1 by simp] at e
      refine ⟨v', bl', ?_, by simpa only [spanL, if_neg hx'] using o⟩
      simp only [eq_false hx'] at hcF
      simp only [fI] at e1
      rw [l12_views_R2_eq]
      simp only [l12_views_B2, l12_views_K2_norm, l12_views_K2_ret, l12_views_K2_exit, q6, q7, q9, iaddr_atK hn, h1, hia, k1, k2, k3, hw, hO.chkV, hO.locv, hO.one, hO.cells, hsn, r01_Has_call, hcF, e1, o1.chkV, e, y1, y2, y3, y4, y5, y6, y7, y8, y9, keepE, keepB, chk, CV.locs, CV.locv, CV.refs, CV.ref, pureOp, repC, takeN, resV, enterC, Nat.reduceAdd, Nat.reduceSub, Nat.reduceMul, Nat.reduceLeDiff, Nat.reduceLT, Nat.reduceBEq, Nat.reduceBNe, Nat.reduceEqDiff, ↓reduceIte, Int.reduceAdd, Int.reduceSub, Int.reduceMul, Int.reduceLT, Int.reduceLE, Int.reduceEq, Int.reduceNeg, Int.reduceToNat]

set_option maxHeartbeats 2000000 in
theorem views_out (l : Lay) (hl : l.ok) (hpos : 0 < l.secs.length) (f : Fld) (hf : f.ok) (hfew : f.few = true) : ∀ (s pre : List Look) (acc : List Vw) (va vb : CV) (bl : List Blk), pre ++ s = f.views → acc.length ≤ pre.length → Deep fV 3 bl va acc → Deep fV 3 bl vb acc →
    (∀ k, Deep.reach bl vb k → blkOf va ≠ some k) → (∀ k, Deep.reach bl va k → blkOf vb ≠ some k) →
    ∃ va' vb' bl', l12_views_R0 ([(2, .op (.loc 2) 0), (3, .op (.loc 3) 0), (6, va), (7, vb), (8, .int .i64 pre.length)], ⟨[(2, layC l), (3, fieldC f)], bl⟩) = some (.norm, [(6, va'), (7, vb')], ⟨[], bl'⟩) ∧
      Deep fV 3 bl' va' (viewsL l.secs.length s acc) ∧ Deep fV 3 bl' vb' (viewsL l.secs.length s acc)
  | [], pre, acc, va, vb, bl, hp, ho, hA, hB, hab, hba => by
    have h1 : ¬ ((pre.length : Int) < f.views.length) := by rw [← hp]; simp
    refine ⟨va, vb, bl, ?_, hA, hB⟩
    rw [l12_views_R0_eq]
    simp only [l12_views_B0, l12_views_K0_norm, l12_views_K0_ret, l12_views_K0_exit, h1, hA.chkV, hB.chkV, y1, y2, y3, y4, y5, y6, y7, y8, y9, keepE, keepB, chk, CV.locs, CV.locv, CV.refs, CV.ref, pureOp, repC, takeN, resV, enterC, Nat.reduceAdd, Nat.reduceSub, Nat.reduceMul, Nat.reduceLeDiff, Nat.reduceLT, Nat.reduceBEq, Nat.reduceBNe, Nat.reduceEqDiff, ↓reduceIte, Int.reduceAdd, Int.reduceSub, Int.reduceMul, Int.reduceLT, Int.reduceLE, Int.reduceEq, Int.reduceNeg, Int.reduceToNat]
  | x :: s, pre, acc, va, vb, bl, hp, ho, hA, hB, hab, hba => by
    have hfw : f.views.length ≤ 6 ∧ ∀ v ∈ f.views, v.span.length ≤ 14 := by
      simp only [Fld.few, Bool.and_eq_true, decide_eq_true_eq, List.all_eq_true] at hfew
      exact ⟨hfew.2, hfew.1⟩
    have hpl : pre.length + 1 + s.length = f.views.length := by rw [← hp]; simp; omega
    have h1 : ((pre.length : Int) < f.views.length) := by omega
    have hn : pre.length < f.views.length := by omega
    have hw := wrapN (n := pre.length) (by unfold Zc.small; omega)
    have hxe : f.views[pre.length] = x := by
      have : f.views[pre.length]? = some x := by rw [← hp]; simp
      rw [List.getElem?_eq_getElem hn] at this
      exact Option.some.inj this
    have hia := iaddr_atK (k := .i64) hn
    rw [hxe] at hia
    have hxo := hf.view x (by rw [← hp]; simp)
    have hxl := hfw.2 x (by rw [← hp]; simp)
    have hid := hxo.id
    have k1 : x.id.tmod 4 = x.id % 4 := Int.tmod_eq_emod_of_nonneg hid.1
    have k2 : IntKind.i64.wrap (x.id % 4) = x.id % 4 := wrap64 (by omega) (by omega)
    have hpos' : l.secs.length ≠ 0 := by omega
    obtain ⟨fn, fb, fc, hF, c1, c2, c3, c4⟩ := dfind_F (x.id % 4) bl vb acc (by unfold Zc.small; omega) hB
    cases hfd : findV acc (x.id % 4) with
    | some y =>
      simp only [hfd, Option.isSome_some] at hF
      obtain ⟨va', vb', bl', e, o⟩ := views_out l hl hpos f hf hfew s (pre ++ [x]) acc va vb bl (by simpa using hp) (by simp; omega) hA hB hab hba
      rw [show (pre ++ [x]).length = pre.length + 1 by simp] at e
      refine ⟨va', vb', bl', ?_, by simpa only [viewsL, hfd, Option.isSome_some, if_true] using o⟩
      rw [l12_views_R0_eq]
      simp only [l12_views_B0, l12_views_K0_norm, l12_views_K0_ret, l12_views_K0_exit, h1, hia, k1, k2, hw, hA.chkV, hB.chkV, hA.locv, hB.locv, r12_Find_call, hF, c1, c2, c3, c4, e, y1, y2, y3, y4, y5, y6, y7, y8, y9, keepE, keepB, chk, CV.locs, CV.locv, CV.refs, CV.ref, pureOp, repC, takeN, resV, enterC, Nat.reduceAdd, Nat.reduceSub, Nat.reduceMul, Nat.reduceLeDiff, Nat.reduceLT, Nat.reduceBEq, Nat.reduceBNe, Nat.reduceEqDiff, ↓reduceIte, Int.reduceAdd, Int.reduceSub, Int.reduceMul, Int.reduceLT, Int.reduceLE, Int.reduceEq, Int.reduceNeg, Int.reduceToNat]
    | none =>
      simp only [hfd, Option.isSome_none] at hF
      obtain ⟨v, bl1, e1, o1, kp, kb⟩ := views_in l hl hpos f hf pre.length hn (by rw [hxe]; exact hxl) va vb (.int .i64 (x.id % 4)) hA.locv hB.locv rfl bl f.views[pre.length].span [] [] .nils bl rfl (Nat.le_refl _) (Own.nil _ _ _) (fun _ _ h => h) (fun k h => by cases h)
      rw [hxe] at o1
      have hA1 : Deep fV 3 bl1 va acc := hA.keep fun m b hb _ => kp m b hb
      have hB1 : Deep fV 3 bl1 vb acc := hB.keep fun m b hb _ => kp m b hb
      have rA : ∀ k, Deep.reach bl1 va k → Deep.reach bl va k := fun k h => hA.reach_keep (fun m b hb _ => kp m b hb) h
      have rB : ∀ k, Deep.reach bl1 vb k → Deep.reach bl vb k := fun k h => hB.reach_keep (fun m b hb _ => kp m b hb) h
      have hle : bl.length ≤ bl1.length := by
        rcases Nat.lt_or_ge bl1.length bl.length with h | h
        · have := (List.getElem?_eq_some_iff.1 (kp bl1.length _ (List.getElem?_eq_getElem h))).1
          omega
        · exact h
      have hrow : Cells bl1 [.int .i64 (x.id % 4), .bool x.sure, v] (fV ⟨x.id % 4, x.sure, spanL l.secs.length [] x.span⟩) := ⟨cell_int _ _ _, cell_bool _ _, cell_own o1, trivial⟩
      have hvl : ∀ k, blkOf v = some k → k < bl1.length := fun k h => o1.lt h
      have hm : (acc.length + 1) * 40 ≤ 140737488355328 := by omega
      obtain ⟨va2, bl2, e2, hA2, f2, b2, r2⟩ := Deep.app fV_len (by decide) hA1 (bytes := 40) (zero := [.int .i64 0, .bool false, .nils]) (by decide) rfl rfl ⟨x.id % 4, x.sure, spanL l.secs.length [] x.span⟩ _ hrow
        (fun c hc k hk e => by
          simp only [List.mem_cons, List.not_mem_nil, or_false] at hc
          rcases hc with rfl | rfl | rfl
          · cases hk
          · cases hk
          · have := kb k hk
            have := hA.lt e
            omega) hm
      have hB2 : Deep fV 3 bl2 vb acc := hB1.keep fun m b hb hr => f2 m b hb (hab m (rB m hr))
      have o2 : Own fI 1 bl2 v (spanL l.secs.length [] x.span) := by
        rcases o1 with h | ⟨m, rfl, h2⟩
        · exact .inl h
        · exact .inr ⟨m, rfl, f2 m _ h2 fun e => by
            have := kb m rfl
            have := hA.lt e
            omega⟩
      have h2l : bl1.length + 1 < bl2.length := hA2.lt b2
      have hrow2 : Cells bl2 [.int .i64 (x.id % 4), .bool x.sure, v] (fV ⟨x.id % 4, x.sure, spanL l.secs.length [] x.span⟩) := ⟨cell_int _ _ _, cell_bool _ _, cell_own o2, trivial⟩
      obtain ⟨vb2, bl3, e3, hB3, f3, b3, r3⟩ := Deep.app fV_len (by decide) hB2 (bytes := 40) (zero := [.int .i64 0, .bool false, .nils]) (by decide) rfl rfl ⟨x.id % 4, x.sure, spanL l.secs.length [] x.span⟩ _ hrow2
        (fun c hc k hk e => by
          simp only [List.mem_cons, List.not_mem_nil, or_false] at hc
          rcases hc with rfl | rfl | rfl
          · cases hk
          · cases hk
          · have := kb k hk
            have := hB.lt e
            omega) hm
      have hspan : ∀ k, (∃ c ∈ [CV.int .i64 (x.id % 4), .bool x.sure, v], blkOf c = some k) → bl.length ≤ k ∧ k < bl1.length := fun k ⟨c, hc, hk⟩ => by
        simp only [List.mem_cons, List.not_mem_nil, or_false] at hc
        rcases hc with rfl | rfl | rfl
        · cases hk
        · cases hk
        · exact ⟨kb k hk, hvl k hk⟩
      have hA3 : Deep fV 3 bl3 va2 (acc ++ [⟨x.id % 4, x.sure, spanL l.secs.length [] x.span⟩]) := hA2.keep fun m b hb hr => f3 m b hb fun e => by
        have hbl := hB.lt e
        rcases r2 m hr with h | h | h
        · omega
        · exact hba m (rA m h) e
        · have := hspan m h; omega
      have rB2 : ∀ k, Deep.reach bl2 vb k → Deep.reach bl vb k := fun k h => rB k (hB1.reach_keep (fun m b hb hm => f2 m b hb (fun e => hab m (.inl hm) e)) h)
      obtain ⟨va', vb', bl', e, o⟩ := views_out l hl hpos f hf hfew s (pre ++ [x]) _ va2 vb2 bl3 (by simpa using hp) (by simp; omega) hA3 hB3
        (fun k h e => by
          rw [b2] at e; cases e
          rcases r3 _ h with h | h | h
          · omega
          · have := hB.reach_lt (rB2 _ h); omega
          · have := hspan _ h; omega)
        (fun k h e => by
          rw [b3] at e; cases e
          have h' := hA2.reach_keep (fun m b hb hm => f3 m b hb (fun e => by
            have := hB.lt e
            rw [b2] at hm; cases hm
            omega)) h
          have := hA2.reach_lt h'
          omega)
      rw [show (pre ++ [x]).length = pre.length + 1 by simp] at e
      refine ⟨va', vb', bl', ?_, by simpa only [viewsL, hfd, Option.isSome_none, Bool.false_eq_true, if_false] using o⟩
      simp only [List.nil_append, List.length_nil, Int.natCast_zero] at e1
      rw [l12_views_R0_eq]
      simp only [l12_views_B0, l12_views_K0_norm, l12_views_K0_ret, l12_views_K0_exit, l12_views_L2_eq, h1, hia, k1, k2, hw, hA.chkV, hB.chkV, hA.locv, hB.locv, r12_Find_call, hF, c1, c2, c3, c4, e1, o1.chkV, o1.one, o1.locv, o1.cells, o1.und, e2, hA2.chkV, e3, hB3.chkV, e, y1, y2, y3, y4, y5, y6, y7, y8, y9, keepE, keepB, chk, CV.locs, CV.locv, CV.refs, CV.ref, pureOp, repC, takeN, resV, enterC, Nat.reduceAdd, Nat.reduceSub, Nat.reduceMul, Nat.reduceLeDiff, Nat.reduceLT, Nat.reduceBEq, Nat.reduceBNe, Nat.reduceEqDiff, ↓reduceIte, Int.reduceAdd, Int.reduceSub, Int.reduceMul, Int.reduceLT, Int.reduceLE, Int.reduceEq, Int.reduceNeg, Int.reduceToNat]

theorem views_F (l : Lay) (hl : l.ok) (hpos : 0 < l.secs.length) (f : Fld) (hf : f.ok) (hfew : f.few = true) (H : Heap) : l12_views_F false H [.agg (layC l), .agg (fieldC f)] = some (.tup [sl fV (viewsF l f), sl fV (viewsF l f)], H) := by
  obtain ⟨va, vb, bl, e, hA, hB⟩ := views_out l hl hpos f hf hfew f.views [] [] .nils .nils [] rfl (Nat.le_refl _) (Deep.nil _ _ _) (Deep.nil _ _ _) (fun k h => (Deep.reach_nils h).elim) (fun k h => (Deep.reach_nils h).elim)
  simp only [List.nil_append, List.length_nil, Int.natCast_zero] at e
  have sa := fun bx => hA.snapV fV_len bx false
  have sb := fun bx => hB.snapV fV_len bx false
  rw [l12_views_F_eq]
  simp only [l12_views_C, l12_views_L0_eq, e, hA.one, hA.locv, hA.cells, hB.one, hB.locv, hB.cells, sa, sb, viewsF, y1, y2, y3, y4, y5, y6, y7, y8, y9, keepE, keepB, chk, CV.locs, CV.locv, CV.refs, CV.ref, pureOp, repC, takeN, resV, enterC, Nat.reduceAdd, Nat.reduceSub, Nat.reduceMul, Nat.reduceLeDiff, Nat.reduceLT, Nat.reduceBEq, Nat.reduceBNe, Nat.reduceEqDiff, ↓reduceIte, Int.reduceAdd, Int.reduceSub, Int.reduceMul, Int.reduceLT, Int.reduceLE, Int.reduceEq, Int.reduceNeg, Int.reduceToNat]
end Go.Proofs.Ytmjffmghkfappaa.Zt
