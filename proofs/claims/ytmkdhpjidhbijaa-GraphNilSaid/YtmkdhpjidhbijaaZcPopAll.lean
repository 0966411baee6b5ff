/- Every operation that looks at its operands alone. No condition. -/
import Derived.Test.YtmkdhpjidhbijaaZcPop3
set_option linter.all false
namespace Go.Zc

section
variable {P : Program} {w : World} {F : Nat → Prop} {ι : IM} {env : Env} {a : Act}

theorem evs_nil : evs env [] = [] := rfl
theorem evs_cons (y : Opd) (r : List Opd) : evs env (y :: r) = ev env y :: evs env r := rfl
theorem evs_append : ∀ (l r : List Opd), evs env (l ++ r) = evs env l ++ evs env r
  | [], _ => rfl
  | x :: l, r => by simp [evs, evs_append l r]
theorem evs_length : ∀ (l : List Opd), (evs env l).length = l.length
  | [] => rfl
  | x :: l => by simp [evs, evs_length l]

theorem pop_ok {an : Ann} (he : EnvR w F ι env a) {o : Oper} {p : POp} {ys : List Opd} {v : CV} (hc : comp1 P an o.dst o.op = some (.p p, ys)) (h : pureOp p (evs env ys) = some v) : POk P w F ι a o v := by
  cases ho : o.op with
  | move x =>
    simp only [ho, comp1, Option.map_eq_some_iff, Prod.mk.injEq, COp.p.injEq] at hc
    obtain ⟨y, hx, rfl, rfl⟩ := hc
    simp only [evs, pureOp, Option.some.injEq] at h
    subst h
    exact mov_ok he (.inl ho) hx
  | assign x =>
    simp only [ho, comp1, Option.map_eq_some_iff, Prod.mk.injEq, COp.p.injEq] at hc
    obtain ⟨y, hx, rfl, rfl⟩ := hc
    simp only [evs, pureOp, Option.some.injEq] at h
    subst h
    exact mov_ok he (.inr ho) hx
  | pick c x y =>
    simp only [ho, comp1, Option.map_eq_some_iff, Prod.mk.injEq, COp.p.injEq] at hc
    obtain ⟨l, hl, rfl, rfl⟩ := hc
    obtain ⟨c', x', y', h1, h2, h3, rfl⟩ := opds3 hl
    simp only [evs, pureOp] at h
    unfold pickC at h
    split at h <;> (try cases h)
    rename_i b p q heq
    have hb := opd_ok he h1
    rw [heq] at hb
    exact pick_ok ho hb (opd_ok he h2) (opd_ok he h3)
  | alloc e =>
    simp only [ho, comp1] at hc
    split at hc <;> (try cases hc)
    split at hc <;> (try cases hc)
  | box e x =>
    simp only [ho, comp1] at hc
    split at hc <;> (try cases hc)
  | build t parts => exact build_ok he ho hc h
  | buildSlice t len parts =>
    simp only [ho, comp1] at hc
    split at hc <;> (try cases hc)
    split at hc <;> (try cases hc)
    split at hc <;> (try cases hc)
    simp only [Option.map_eq_some_iff, Prod.mk.injEq, reduceCtorEq, false_and, and_false, exists_false] at hc
  | load t x =>
    simp only [ho, comp1, Option.map_eq_some_iff, Option.bind_eq_some_iff, Prod.mk.injEq, reduceCtorEq, false_and, and_false, exists_false] at hc
  | store t x y =>
    simp only [ho, comp1, Option.map_eq_some_iff, Option.bind_eq_some_iff, Prod.mk.injEq, reduceCtorEq, false_and, and_false, exists_false] at hc
  | nilCheck x =>
    simp only [ho, comp1, Option.map_eq_some_iff, Prod.mk.injEq, COp.p.injEq] at hc
    obtain ⟨y, hx, rfl, rfl⟩ := hc
    exact nchk_ok ho (opd_ok he hx) (by simpa [evs, pureOp] using h)
  | binOp op t x y yt =>
    have key : ∀ {e : EqT}, ((op = .eql ∨ op = .neq) → e = (eqT P 20 t).getD .ifc) → ((opds [x, y]).map fun l => (COp.p (.bin op e), l)) = some (.p p, ys) → POk P w F ι a o v := by
      intro e hee hc
      simp only [Option.map_eq_some_iff, Prod.mk.injEq, COp.p.injEq] at hc
      obtain ⟨l, hl, rfl, rfl⟩ := hc
      obtain ⟨x', y', h1, h2, rfl⟩ := opds2 hl
      exact bin_ok ho hee (opd_ok he h1) (opd_ok he h2) (by simpa [evs, pureOp] using h)
    rw [ho] at hc
    cases op <;> simp only [comp1] at hc <;> first
      | exact key (fun _ => rfl) hc
      | exact key (fun hh => by simp at hh) hc
  | unOp op t x =>
    simp only [ho, comp1, Option.map_eq_some_iff, Prod.mk.injEq, COp.p.injEq] at hc
    obtain ⟨y, hx, rfl, rfl⟩ := hc
    exact un_ok ho (opd_ok he hx) (by simpa [evs, pureOp] using h)
  | convert s t x =>
    simp only [ho, comp1] at hc
    split at hc <;> (try cases hc)
    · rename_i d k hs ht
      simp only [Option.map_eq_some_iff, Prod.mk.injEq, COp.p.injEq] at hc
      obtain ⟨y, hx, rfl, rfl⟩ := hc
      exact toInt_ok ho hs ht (opd_ok he hx) (by simpa [evs, pureOp] using h)
    · rename_i d k hs ht
      simp only [Option.map_eq_some_iff, Prod.mk.injEq, COp.p.injEq] at hc
      obtain ⟨y, hx, rfl, rfl⟩ := hc
      exact toFloat_ok ho hs ht (opd_ok he hx) (by simpa [evs, pureOp] using h)
  | makeInterface t x =>
    simp only [ho, comp1] at hc
    cases ht : P.underlying t with
    | none => simp [ht] at hc
    | some d =>
      by_cases hd : ∃ m, d = .interface m
      · obtain ⟨m, rfl⟩ := hd
        simp [ht] at hc
      · have hc' : ((opd x).map fun y => (COp.p (.mkif t), [y])) = some (.p p, ys) := by
          rw [ht] at hc
          cases d <;> first | exact hc | exact (hd ⟨_, rfl⟩).elim
        simp only [Option.map_eq_some_iff, Prod.mk.injEq, COp.p.injEq] at hc'
        obtain ⟨y, hx, rfl, rfl⟩ := hc'
        simp only [evs, pureOp] at h
        split at h
        · cases h
        · cases h
          exact mkif_ok ho ht (fun m e => hd ⟨m, e⟩) (opd_ok he hx)
  | makeFunc f xs ys' =>
    simp only [ho, comp1, Option.map_eq_some_iff, Option.bind_eq_some_iff, Prod.mk.injEq, COp.p.injEq] at hc
    obtain ⟨x, hx, y, hy, rfl, rfl⟩ := hc
    simp only [pureOp, Option.some.injEq] at h
    subst h
    rw [evs_append]
    have hl : (evs env x).length = x.length := evs_length x
    rw [List.take_append_of_le_length (by omega), List.drop_append_of_le_length (by omega), List.take_of_length_le (by omega), List.drop_of_length_le (by omega)]
    refine ⟨.func f (xs.map a.eval) (ys'.map a.eval), by simp [execOp, ho, Instr.makeFunc], ?_⟩
    simp only [VR]
    exact ⟨_, _, rfl, by simpa using opds_ok he hx, by simpa using opds_ok he hy⟩
  | makeMap t r =>
    cases r <;> simp [ho, comp1] at hc
  | makeChan t s => simp [ho, comp1] at hc
  | makeSlice t l c =>
    simp only [ho, comp1] at hc
    split at hc <;> (try cases hc)
    split at hc <;> (try cases hc)
    split at hc <;> (try cases hc)
    simp only [Option.map_eq_some_iff, Prod.mk.injEq, reduceCtorEq, false_and, and_false, exists_false] at hc
  | slice t x lo hi mx =>
    cases mx with
    | some m => simp [ho, comp1] at hc
    | none =>
      simp only [ho, comp1] at hc
      split at hc <;> (try cases hc)
      rename_i e ht
      simp only [Option.map_eq_some_iff, Option.bind_eq_some_iff, Prod.mk.injEq, COp.p.injEq] at hc
      obtain ⟨n, hn, y, hx, l, hl, h', hh, rfl, rfl⟩ := hc
      have hx' := opd_ok he hx
      rcases oopd_ok he hl with ⟨rfl, rfl⟩ | ⟨lo', yl, rfl, rfl, hlo⟩ <;> rcases oopd_ok he hh with ⟨rfl, rfl⟩ | ⟨hi', yh, rfl, rfl, hhi⟩ <;>
        simp only [List.nil_append, List.append_nil, List.cons_append, evs, Option.isSome_none, Option.isSome_some, pureOp] at h
      · exact slc_ok ho ht hn hx' (.inl ⟨rfl, rfl⟩) (.inl ⟨rfl, rfl⟩) h
      · exact slc_ok ho ht hn hx' (.inl ⟨rfl, rfl⟩) (.inr ⟨_, _, rfl, rfl, hhi⟩) h
      · exact slc_ok ho ht hn hx' (.inr ⟨_, _, rfl, rfl, hlo⟩) (.inl ⟨rfl, rfl⟩) h
      · exact slc_ok ho ht hn hx' (.inr ⟨_, _, rfl, rfl, hlo⟩) (.inr ⟨_, _, rfl, rfl, hhi⟩) h
  | fieldAddr s x f =>
    simp only [ho, comp1] at hc
    split at hc <;> (try cases hc)
    rename_i fs hs
    simp only [Option.bind_eq_some_iff] at hc
    obtain ⟨fd, hf, hc⟩ := hc
    split at hc <;> (try cases hc)
    rename_i n hn
    simp only [Option.map_eq_some_iff, Prod.mk.injEq, COp.p.injEq] at hc
    obtain ⟨y, hx, rfl, rfl⟩ := hc
    exact faddr_ok ho hs hf hn (opd_ok he hx) (by simpa [evs, pureOp] using h)
  | field t x f =>
    simp only [ho, comp1] at hc
    split at hc <;> (try cases hc)
    rename_i fs hs
    simp only [Option.bind_eq_some_iff, Option.map_eq_some_iff, Prod.mk.injEq, COp.p.injEq] at hc
    obtain ⟨fd, hf, s, hsh, y, hx, rfl, rfl⟩ := hc
    exact fld_ok ho hs hf hsh (opd_ok he hx) (by simpa [evs, pureOp] using h)
  | indexAddr t x i =>
    simp only [ho, comp1] at hc
    split at hc <;> (try cases hc)
    · rename_i e ht
      simp only [Option.bind_eq_some_iff, Option.map_eq_some_iff, Prod.mk.injEq, COp.p.injEq] at hc
      obtain ⟨n, hn, l, hl, rfl, rfl⟩ := hc
      obtain ⟨x', y', h1, h2, rfl⟩ := opds2 hl
      exact iaddr_ok ho ht hn (opd_ok he h1) (opd_ok he h2) (by simpa [evs, pureOp] using h)
    · rename_i len e ht
      simp only [Option.bind_eq_some_iff, Option.map_eq_some_iff, Prod.mk.injEq, COp.p.injEq] at hc
      obtain ⟨n, hn, l, hl, rfl, rfl⟩ := hc
      obtain ⟨x', y', h1, h2, rfl⟩ := opds2 hl
      exact iaddrA_ok ho ht hn (opd_ok he h1) (opd_ok he h2) (by simpa [evs, pureOp] using h)
  | index t x i =>
    simp only [ho, comp1] at hc
    split at hc <;> (try cases hc)
    · rename_i len e ht
      simp only [Option.bind_eq_some_iff, Option.map_eq_some_iff, Prod.mk.injEq, COp.p.injEq] at hc
      obtain ⟨n, hn, l, hl, rfl, rfl⟩ := hc
      obtain ⟨x', y', h1, h2, rfl⟩ := opds2 hl
      exact idxA_ok ho ht hn (opd_ok he h1) (opd_ok he h2) (by simpa [evs, pureOp] using h)
    · rename_i ht
      simp only [Option.map_eq_some_iff, Prod.mk.injEq, COp.p.injEq] at hc
      obtain ⟨l, hl, rfl, rfl⟩ := hc
      obtain ⟨x', y', h1, h2, rfl⟩ := opds2 hl
      exact idxS_ok ho ht (opd_ok he h1) (opd_ok he h2) (by simpa [evs, pureOp] using h)
  | lookup t m k ok =>
    simp only [ho, comp1] at hc
    split at hc <;> (try cases hc)
    simp only [Option.map_eq_some_iff, Option.bind_eq_some_iff, Prod.mk.injEq, reduceCtorEq, false_and, and_false, exists_false] at hc
  | mapUpdate t m k x =>
    simp only [ho, comp1] at hc
    split at hc <;> (try cases hc)
    simp only [Option.map_eq_some_iff, Option.bind_eq_some_iff, Prod.mk.injEq, reduceCtorEq, false_and, and_false, exists_false] at hc
  | extract x i =>
    simp only [ho, comp1, Option.map_eq_some_iff, Prod.mk.injEq, COp.p.injEq] at hc
    obtain ⟨y, hx, rfl, rfl⟩ := hc
    exact ext_ok ho (opd_ok he hx) (by simpa [evs, pureOp] using h)
  | call c =>
    obtain ⟨cal, args, ats⟩ := c
    cases cal with
    | value f => simp only [ho, comp1, Option.map_eq_some_iff, Option.bind_eq_some_iff, Prod.mk.injEq, reduceCtorEq, false_and, and_false, exists_false] at hc
    | invoke r m => simp [ho, comp1] at hc
    | builtin b =>
      simp only [ho, comp1] at hc
      split at hc <;> (try cases hc)
      · rename_i t x h1 h2
        obtain rfl : ats = #[t] := by apply Array.ext'; simpa using h1
        obtain rfl : args = #[x] := by apply Array.ext'; simpa using h2
        split at hc <;> (try cases hc)
        · rename_i ht
          simp only [Option.map_eq_some_iff, Prod.mk.injEq, COp.p.injEq] at hc
          obtain ⟨y, hx, rfl, rfl⟩ := hc
          exact lenS_ok ho ht (opd_ok he hx) (by simpa [evs, pureOp] using h)
        · rename_i e ht
          simp only [Option.map_eq_some_iff, Prod.mk.injEq, COp.p.injEq] at hc
          obtain ⟨y, hx, rfl, rfl⟩ := hc
          exact len_ok ho ht (opd_ok he hx) (by simpa [evs, pureOp] using h)
        · rename_i n e ht
          simp only [Option.map_eq_some_iff, Prod.mk.injEq, COp.p.injEq] at hc
          obtain ⟨y, hx, rfl, rfl⟩ := hc
          simp only [evs, pureOp, Option.some.injEq] at h
          subst h
          exact lenK_ok ho ht
        · simp only [Option.map_eq_some_iff, Prod.mk.injEq, reduceCtorEq, false_and, and_false, exists_false] at hc
      · split at hc <;> (try cases hc)
        all_goals
          split at hc <;> (try cases hc)
          simp only [Option.map_eq_some_iff, Prod.mk.injEq, reduceCtorEq, false_and, and_false, exists_false] at hc
      · split at hc <;> (try cases hc)
        simp only [Option.map_eq_some_iff, Option.bind_eq_some_iff, Prod.mk.injEq, reduceCtorEq, false_and, and_false, exists_false] at hc
      · split at hc <;> (try cases hc)
        split at hc <;> (try cases hc)
        simp only [Option.map_eq_some_iff, Prod.mk.injEq, reduceCtorEq, false_and, and_false, exists_false] at hc
      · split at hc <;> (try cases hc)
        simp only [Option.map_eq_some_iff, Option.bind_eq_some_iff, Prod.mk.injEq, reduceCtorEq, false_and, and_false, exists_false] at hc
      · rename_i x y h2
        obtain rfl : args = #[x, y] := by apply Array.ext'; simpa using h2
        simp only [Option.map_eq_some_iff, Prod.mk.injEq, COp.p.injEq] at hc
        obtain ⟨l, hl, rfl, rfl⟩ := hc
        obtain ⟨x', y', h1, h2, rfl⟩ := opds2 hl
        exact cplx_ok ho (opd_ok he h1) (opd_ok he h2) (by simpa [evs, pureOp] using h)
      · rename_i x h2
        obtain rfl : args = #[x] := by apply Array.ext'; simpa using h2
        simp only [Option.map_eq_some_iff, Prod.mk.injEq, COp.p.injEq] at hc
        obtain ⟨l, hl, rfl, rfl⟩ := hc
        obtain ⟨x', h1, rfl⟩ := opds1 hl
        exact re_ok ho (opd_ok he h1) (by simpa [evs, pureOp] using h)
      · rename_i x h2
        obtain rfl : args = #[x] := by apply Array.ext'; simpa using h2
        simp only [Option.map_eq_some_iff, Prod.mk.injEq, COp.p.injEq] at hc
        obtain ⟨l, hl, rfl, rfl⟩ := hc
        obtain ⟨x', h1, rfl⟩ := opds1 hl
        exact im_ok ho (opd_ok he h1) (by simpa [evs, pureOp] using h)
      · simp only [Option.map_eq_some_iff, Prod.mk.injEq, COp.p.injEq] at hc
        obtain ⟨l, hl, rfl, rfl⟩ := hc
        exact minmax_ok ho (.inl ⟨rfl, rfl⟩) (opds_ok he hl) h
      · simp only [Option.map_eq_some_iff, Prod.mk.injEq, COp.p.injEq] at hc
        obtain ⟨l, hl, rfl, rfl⟩ := hc
        exact minmax_ok ho (.inr ⟨rfl, rfl⟩) (opds_ok he hl) h
      · rename_i t x h1 h2
        obtain rfl : ats = #[t] := by apply Array.ext'; simpa using h1
        obtain rfl : args = #[x] := by apply Array.ext'; simpa using h2
        split at hc <;> (try cases hc)
        rename_i e ht
        simp only [Option.map_eq_some_iff, Prod.mk.injEq, COp.p.injEq] at hc
        obtain ⟨y, hx, rfl, rfl⟩ := hc
        exact cap_ok ho ht (opd_ok he hx) (by simpa [evs, pureOp] using h)
  | _ => simp [ho, comp1] at hc
end
end Go.Zc
