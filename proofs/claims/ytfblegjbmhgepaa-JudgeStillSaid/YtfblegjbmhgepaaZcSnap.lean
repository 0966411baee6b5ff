/- What 'snap' gives is the same value, seen by one who may not write. -/
import Derived.Test.YtfblegjbmhgepaaZcCode
set_option linter.all false
namespace Go.Zc

theorem VR.glob {w : World} {F : Nat → Prop} {ι : IM} {i : Id} {c : CV} {v : Value} (h : VR w F (ι.of i) c v) : VR w F ι c v :=
  VR.mono ⟨⟨fun _ h => h, fun _ _ => rfl⟩, ι.of_le i, fun _ _ h => h⟩ c v h

theorem BRc.of_map {w : World} {F G : Nat → Prop} {ι : IM} {f : CV → Option CV} {b : Nat} {c : Array Value} {e : TypeId} {fz : Nat × Nat} (hb : w.heap[b]? = some (.cells c e fz))
    (hf : ∀ x x' u, f x = some x' → VR w F ι x u → BR w G x' u) :
    ∀ (cs cs' : List CV) (o : Nat), mapC f cs = some cs' → (∀ (j : Nat) (x : CV), cs[j]? = some x → ∃ u, c[o + j]? = some u ∧ VR w F ι x u) → BRc w G cs' b o
  | [], cs', o, h, _ => by
    simp only [mapC, Option.some.injEq] at h
    subst h; simp [BRc]
  | x :: cs, cs', o, h, hc => by
    simp only [mapC, Option.bind_eq_some_iff, Option.map_eq_some_iff] at h
    obtain ⟨x', h1, r, h2, rfl⟩ := h
    obtain ⟨u, h3, h4⟩ := hc 0 x rfl
    simp only [BRc]
    refine ⟨⟨u, ?_, hf _ _ _ h1 h4⟩, BRc.of_map hb hf cs r (o + 1) h2 fun j y hy => ?_⟩
    · simp only [World.cell?, hb]
      simpa using h3
    · have := hc (j + 1) y (by simpa using hy)
      rwa [show o + (j + 1) = o + 1 + j by omega] at this

section
variable {w : World} {F G : Nat → Prop} {ι : IM} {H : Heap} {st kn : Bool} {f : CV → Option CV}

/-- What the lemmas ask. -/
structure SnapOk (w : World) (F G : Nat → Prop) (ι : IM) (H : Heap) (st : Bool) (f : CV → Option CV) : Prop where
  f : ∀ x x' u, f x = some x' → VR w F ι x u → BR w G x' u
  cells : ∀ i cs, H.get i = some cs → ∃ b c e, ι.get i = some b ∧ w.heap[b]? = some (.cells c e (0, 0)) ∧ CR w F (ι.of i) cs c
  g : ∀ i b cs, H.get i = some cs → ι.get i = some b → G b
  fg : st = true ∨ ∀ b, F b → G b

mutual
theorem snapV_ok (h : SnapOk w F G ι H st f) : ∀ (v v' : CV) (u : Value), snapV H st kn f v = some v' → VR w F ι v u → BR w G v' u
  | .op i off, v', u, hs, hv => by
    simp only [snapV, Option.bind_eq_some_iff] at hs
    obtain ⟨cs, h1, h2⟩ := hs
    split at h2
    · simp only [Option.map_eq_some_iff] at h2
      obtain ⟨r, h3, rfl⟩ := h2
      simp only [VR] at hv
      obtain ⟨b, h4, rfl⟩ := hv
      obtain ⟨b', c, e, h5, h6, h7⟩ := h.cells i cs h1
      rw [h4] at h5; cases h5
      simp only [BR]
      refine ⟨b, off, rfl, h.g i b cs h1 h4, BRc.of_map h6 h.f _ r off h3 fun j x hx => ?_⟩
      rw [List.getElem?_drop] at hx
      obtain ⟨y, hy1, hy2⟩ := h7 _ x hx
      exact ⟨y, hy1, hy2.glob⟩
    · cases h2
  | .os sz i off n, v', u, hs, hv => by
    simp only [snapV] at hs
    simp only [VR] at hv
    obtain ⟨base, cap, rfl, h2, h3⟩ := hv
    split at hs
    · rename_i hn
      simp only [Option.some.injEq] at hs
      subst hs
      simp only [BR]
      exact ⟨base, cap, by rw [hn], by omega, .inl trivial⟩
    · rename_i hn
      simp only [Option.bind_eq_some_iff] at hs
      obtain ⟨cs, h4, h5⟩ := hs
      split at h5
      · simp only [Option.map_eq_some_iff] at h5
        obtain ⟨r, h6, rfl⟩ := h5
        simp only [BR]
        rcases h3 with h3 | ⟨b, m, h7, h8, _, _⟩
        · omega
        · obtain ⟨b', c, e, h9, h10, h11⟩ := h.cells i cs h4
          rw [h7] at h9; cases h9
          refine ⟨base, cap, rfl, h2, .inr ⟨b, off, h8, h.g i b cs h4 h7, BRc.of_map h10 h.f _ r off h6 fun j x hx => ?_⟩⟩
          rw [List.getElem?_take] at hx
          split at hx
          · rw [List.getElem?_drop] at hx
            obtain ⟨y, hy1, hy2⟩ := h11 _ x hx
            exact ⟨y, hy1, hy2.glob⟩
          · cases hx
      · cases h5
  | .om n, v', u, hs, _ => by simp [snapV] at hs
  | .nils, v', u, hs, hv => by
    simp only [snapV, Option.some.injEq] at hs
    simp only [VR, BR] at hv
    subst hv
    subst hs
    cases kn <;> simp [BR]
  | .vp cs, v', u, hs, hv => by
    simp only [snapV] at hs
    split at hs
    · cases hs
    · simp only [Option.some.injEq] at hs
      subst hs
      simp only [VR] at hv
      exact BR.mono ⟨h.fg.resolve_left (by assumption), fun _ _ => rfl⟩ _ _ hv
  | .vs cs n, v', u, hs, hv => by
    simp only [snapV] at hs
    split at hs
    · cases hs
    · rename_i hc
      simp only [Option.some.injEq] at hs
      subst hs
      simp only [VR] at hv
      rcases h.fg with hst | hfg
      · subst hst
        have : cs = [] := by simpa using hc
        subst this
        simp only [BR] at hv ⊢
        obtain ⟨base, cap, h1, h2, _⟩ := hv
        exact ⟨base, cap, h1, h2, .inl trivial⟩
      · exact BR.mono ⟨hfg, fun _ _ => rfl⟩ _ _ hv
  | .fn g a c, v', u, hs, hv => by
    simp only [snapV, Option.bind_eq_some_iff, Option.map_eq_some_iff] at hs
    obtain ⟨a', h1, c', h2, rfl⟩ := hs
    simp only [VR] at hv
    obtain ⟨x, y, rfl, h3, h4⟩ := hv
    simp only [BR]
    exact ⟨x, y, rfl, snapVs_ok h a a' _ h1 h3, snapVs_ok h c c' _ h2 h4⟩
  | .ifc t x, v', u, hs, hv => by
    simp only [snapV, Option.map_eq_some_iff] at hs
    obtain ⟨x', h1, rfl⟩ := hs
    simp only [VR] at hv
    obtain ⟨y, rfl, h3⟩ := hv
    simp only [BR]
    exact ⟨y, rfl, snapV_ok h x x' y h1 h3⟩
  | .agg cs, v', u, hs, hv => by
    simp only [snapV, Option.map_eq_some_iff] at hs
    obtain ⟨x', h1, rfl⟩ := hs
    simp only [VR] at hv
    obtain ⟨y, rfl, h3⟩ := hv
    simp only [BR]
    exact ⟨y, rfl, snapVs_ok h cs x' _ h1 h3⟩
  | .tup cs, v', u, hs, hv => by
    simp only [snapV, Option.map_eq_some_iff] at hs
    obtain ⟨x', h1, rfl⟩ := hs
    simp only [VR] at hv
    obtain ⟨y, rfl, h3⟩ := hv
    simp only [BR]
    exact ⟨y, rfl, snapVs_ok h cs x' _ h1 h3⟩
  | .und, v', u, hs, hv => by simp only [snapV, Option.some.injEq] at hs; subst hs; simp [BR]
  | .bool b, v', u, hs, hv => by simp only [snapV, Option.some.injEq] at hs; subst hs; simpa [VR, BR] using hv
  | .int k n, v', u, hs, hv => by simp only [snapV, Option.some.injEq] at hs; subst hs; simpa [VR, BR] using hv
  | .float k n, v', u, hs, hv => by simp only [snapV, Option.some.injEq] at hs; subst hs; simpa [VR, BR] using hv
  | .cplx k a b, v', u, hs, hv => by simp only [snapV, Option.some.injEq] at hs; subst hs; simpa [VR, BR] using hv
  | .str s, v', u, hs, hv => by simp only [snapV, Option.some.injEq] at hs; subst hs; simpa [VR, BR] using hv
  | .nilp, v', u, hs, hv => by simp only [snapV, Option.some.injEq] at hs; subst hs; simpa [VR, BR] using hv
  | .nilm, v', u, hs, hv => by simp only [snapV, Option.some.injEq] at hs; subst hs; simpa [VR, BR] using hv
  | .nilf, v', u, hs, hv => by simp only [snapV, Option.some.injEq] at hs; subst hs; simpa [VR, BR] using hv
  | .nili, v', u, hs, hv => by simp only [snapV, Option.some.injEq] at hs; subst hs; simpa [VR, BR] using hv
theorem snapVs_ok (h : SnapOk w F G ι H st f) : ∀ (cs cs' : List CV) (us : List Value), snapVs H st kn f cs = some cs' → VRl w F ι cs us → BRl w G cs' us
  | [], cs', us, hs, hv => by
    simp only [snapVs, Option.some.injEq] at hs; subst hs
    simpa only [VRl, BRl] using hv
  | c :: cs, cs', us, hs, hv => by
    simp only [snapVs, Option.bind_eq_some_iff, Option.map_eq_some_iff] at hs
    obtain ⟨c', h1, r, h2, rfl⟩ := hs
    simp only [VRl] at hv
    obtain ⟨u, us', rfl, h3, h4⟩ := hv
    simp only [BRl]
    exact ⟨u, us', rfl, snapV_ok h c c' u h1 h3, snapVs_ok h cs r us' h2 h4⟩
end
end

section
variable {w : World} {F G : Nat → Prop} {ι : IM} {H : Heap} {st kn : Bool}

theorem snapN_ok (hc : ∀ i cs, H.get i = some cs → ∃ b c e, ι.get i = some b ∧ w.heap[b]? = some (.cells c e (0, 0)) ∧ CR w F (ι.of i) cs c)
    (hg : ∀ i b cs, H.get i = some cs → ι.get i = some b → G b) (hfg : st = true ∨ ∀ b, F b → G b) :
    ∀ (n : Nat) (v v' : CV) (u : Value), snapN H st kn n v = some v' → VR w F ι v u → BR w G v' u
  | 0, _, _, _, h, _ => by simp [snapN] at h
  | n + 1, v, v', u, h, hv => snapV_ok ⟨snapN_ok hc hg hfg n, hc, hg, hfg⟩ v v' u h hv

theorem mapC_ok {f : CV → Option CV} (hf : ∀ x x' u, f x = some x' → VR w F ι x u → BR w G x' u) :
    ∀ (l l' : List CV) (us : List Value), mapC f l = some l' → VRl w F ι l us → BRl w G l' us
  | [], l', us, h, hv => by
    simp only [mapC, Option.some.injEq] at h; subst h
    simpa only [VRl, BRl] using hv
  | c :: l, l', us, h, hv => by
    simp only [mapC, Option.bind_eq_some_iff, Option.map_eq_some_iff] at h
    obtain ⟨c', h1, r, h2, rfl⟩ := h
    simp only [VRl] at hv
    obtain ⟨u, us', rfl, h3, h4⟩ := hv
    simp only [BRl]
    exact ⟨u, us', rfl, hf _ _ _ h1 h3, mapC_ok hf l r us' h2 h4⟩

theorem mapC_length {f : CV → Option CV} : ∀ (l l' : List CV), mapC f l = some l' → l'.length = l.length
  | [], l', h => by simp only [mapC, Option.some.injEq] at h; subst h; rfl
  | c :: l, l', h => by
    simp only [mapC, Option.bind_eq_some_iff, Option.map_eq_some_iff] at h
    obtain ⟨c', h1, r, h2, rfl⟩ := h
    simp [mapC_length l r h2]

theorem mapC_get {f : CV → Option CV} : ∀ (l l' : List CV), mapC f l = some l' → ∀ (j : Nat) (x : CV), l'[j]? = some x → ∃ y, l[j]? = some y ∧ f y = some x
  | [], l', h, j, x, hx => by simp only [mapC, Option.some.injEq] at h; subst h; simp at hx
  | c :: l, l', h, j, x, hx => by
    simp only [mapC, Option.bind_eq_some_iff, Option.map_eq_some_iff] at h
    obtain ⟨c', h1, r, h2, rfl⟩ := h
    cases j with
    | zero => simp at hx; subst hx; exact ⟨c, rfl, h1⟩
    | succ j => simpa using mapC_get l r h2 j x (by simpa using hx)

theorem Inv.get_live {i : Id} {cs : List CV} (h : H.get i = some cs) : H.live i := by
  cases i with
  | loc s => exact ⟨cs, h⟩
  | blk n =>
    simp only [Heap.get] at h
    split at h
    · rename_i c hc; exact ⟨_, hc, rfl⟩
    · cases h

theorem Inv.snap (hi : Inv w F ι H) (hg : ∀ b, Live ι H b → G b) (hfg : st = true ∨ ∀ b, F b → G b) {v v' : CV} {u : Value}
    (h : snap H st kn v = some v') (hv : VR w F ι v u) : BR w G v' u :=
  snapN_ok (fun i cs h => let ⟨b, c, e, h1, h2, h3, _⟩ := hi.cells i cs h; ⟨b, c, e, h1, h2, h3⟩)
    (fun i b _ h1 h2 => hg b ⟨i, Inv.get_live h1, h2⟩) hfg _ _ _ _ h hv

theorem Inv.snapL (hi : Inv w F ι H) (hg : ∀ b, Live ι H b → G b) (hfg : st = true ∨ ∀ b, F b → G b) {l l' : List CV} {us : List Value}
    (h : snapL H st kn l = some l') (hv : VRl w F ι l us) : BRl w G l' us :=
  mapC_ok (fun _ _ _ h hv => hi.snap hg hfg h hv) l l' us h hv

end
end Go.Zc
