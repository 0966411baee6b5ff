/- What comes in, in the law's words: drafts, acts. No condition. -/
import Derived.Test.YtfblegjbmhgepaaZcTrack
set_option linter.all false
namespace Go.Zc

theorem wf_u8 {n : Int} (h : (Lit.int .u8 n).wf = true) : 0 ≤ n ∧ n ≤ 255 := by
  simp only [Lit.wf, Bool.and_eq_true, decide_eq_true_eq] at h
  exact h
theorem wf_u16 {n : Int} (h : (Lit.int .u16 n).wf = true) : 0 ≤ n ∧ n ≤ 65535 := by
  simp only [Lit.wf, Bool.and_eq_true, decide_eq_true_eq] at h
  exact h
theorem wf_i64 {n : Int} (h : (Lit.int .i64 n).wf = true) : -9223372036854775808 ≤ n ∧ n ≤ 9223372036854775807 := by
  simp only [Lit.wf, Bool.and_eq_true, decide_eq_true_eq] at h
  exact h

theorem rows_of {α : Type} {f : α → List CV} {Q : α → Prop} {T : Ty} (h : ∀ r, HasTy T r → ∃ x, r = f x ∧ Q x) : ∀ rows : List (List CV), (∀ r ∈ rows, HasTy T r) → ∃ l : List α, rows = l.map f ∧ ∀ x ∈ l, Q x
  | [], _ => ⟨[], rfl, by simp⟩
  | r :: rows, hr => by
    obtain ⟨x, rfl, hx⟩ := h r (hr r (by simp))
    obtain ⟨l, rfl, hl⟩ := rows_of h rows fun r' h' => hr r' (by simp [h'])
    exact ⟨x :: l, rfl, fun y hy => by
      rcases List.mem_cons.1 hy with rfl | hy
      · exact hx
      · exact hl y hy⟩
theorem slice_of {α : Type} {f : α → List CV} {Q : α → Prop} {T : Ty} (h : ∀ r, HasTy T r → ∃ x, r = f x ∧ Q x) {cs : List CV} (hs : HasTy (.slice T) cs) : ∃ l : List α, cs = [sl f l] ∧ l.length ≤ maxLen ∧ ∀ x ∈ l, Q x := by
  simp only [HasTy] at hs
  obtain ⟨rows, rfl, hm, hr⟩ := hs
  obtain ⟨l, rfl, hl⟩ := rows_of h rows hr
  exact ⟨l, by simp [sl, List.flatMap], by simpa using hm, hl⟩

theorem u8_of (r : List CV) (h : HasTy (.int .u8) r) : ∃ x : Int, r = fU x ∧ (0 ≤ x ∧ x ≤ 255) := by
  simp only [HasTy] at h
  obtain ⟨n, rfl, hw⟩ := h
  exact ⟨n, rfl, wf_u8 hw⟩
theorem u16_of (r : List CV) (h : HasTy (.int .u16) r) : ∃ x : Int, r = [.int .u16 x] ∧ (0 ≤ x ∧ x ≤ 65535) := by
  simp only [HasTy] at h
  obtain ⟨n, rfl, hw⟩ := h
  exact ⟨n, rfl, wf_u16 hw⟩
theorem i64_of (r : List CV) (h : HasTy (.int .i64) r) : ∃ x : Int, r = fI x ∧ (-9223372036854775808 ≤ x ∧ x ≤ 9223372036854775807) := by
  simp only [HasTy] at h
  obtain ⟨n, rfl, hw⟩ := h
  exact ⟨n, rfl, wf_i64 hw⟩
theorem bool_of (r : List CV) (h : HasTy .bool r) : ∃ x : Bool, r = fB x ∧ True := by
  simp only [HasTy] at h
  obtain ⟨n, rfl⟩ := h
  exact ⟨n, rfl, trivial⟩
theorem u8s_of (r : List CV) (h : HasTy (.slice (.int .u8)) r) : ∃ l : List Int, r = fUL l ∧ (l.length ≤ maxLen ∧ ∀ t ∈ l, 0 ≤ t ∧ t ≤ 255) := by
  obtain ⟨l, h1, h2, h3⟩ := slice_of u8_of h
  exact ⟨l, h1, h2, h3⟩

def tDraft : Ty := .struct [.int .u8, .int .u8, .int .u8, .int .u16, .int .u16, .int .u8, .int .u8, .int .u8, .slice (.slice (.int .u8))]
def tDeed : Ty := .struct [.int .u8, .int .u8, .int .u8, .int .u8, .slice (.int .u8), .int .u16, .bool, .int .u8]

theorem draft_of {c : CV} (h : HasArg tDraft c) : ∃ d : Draft, c = .agg (draftC d) ∧ d.ok := by
  obtain ⟨cs, rfl, h⟩ := h
  simp only [HasTys] at h
  obtain ⟨a1, _, rfl, h1, a2, _, rfl, h2, a3, _, rfl, h3, a4, _, rfl, h4, a5, _, rfl, h5, a6, _, rfl, h6, a7, _, rfl, h7, a8, _, rfl, h8, a9, _, rfl, h9, rfl⟩ := h
  obtain ⟨x1, rfl, q1⟩ := u8_of _ h1
  obtain ⟨x2, rfl, q2⟩ := u8_of _ h2
  obtain ⟨x3, rfl, q3⟩ := u8_of _ h3
  obtain ⟨x4, rfl, q4⟩ := u16_of _ h4
  obtain ⟨x5, rfl, q5⟩ := u16_of _ h5
  obtain ⟨x6, rfl, q6⟩ := u8_of _ h6
  obtain ⟨x7, rfl, q7⟩ := u8_of _ h7
  obtain ⟨x8, rfl, q8⟩ := u8_of _ h8
  obtain ⟨l, rfl, hl, hq⟩ := slice_of u8s_of h9
  exact ⟨⟨x1, x2, x3, x4, x5, x6, x7, x8, l⟩, rfl, q1, q2, q3, q4, q5, q6, q7, q8, hl, hq⟩
theorem deed_of {c : CV} (h : HasArg tDeed c) : ∃ a : Deed, c = .agg (actC a) ∧ a.ok := by
  obtain ⟨cs, rfl, h⟩ := h
  simp only [HasTys] at h
  obtain ⟨a1, _, rfl, h1, a2, _, rfl, h2, a3, _, rfl, h3, a4, _, rfl, h4, a5, _, rfl, h5, a6, _, rfl, h6, a7, _, rfl, h7, a8, _, rfl, h8, rfl⟩ := h
  obtain ⟨x1, rfl, q1⟩ := u8_of _ h1
  obtain ⟨x2, rfl, q2⟩ := u8_of _ h2
  obtain ⟨x3, rfl, q3⟩ := u8_of _ h3
  obtain ⟨x4, rfl, q4⟩ := u8_of _ h4
  obtain ⟨l, rfl, hl, hq⟩ := u8s_of _ h5
  obtain ⟨x6, rfl, q6⟩ := u16_of _ h6
  obtain ⟨x7, rfl, _⟩ := bool_of _ h7
  obtain ⟨x8, rfl, q8⟩ := u8_of _ h8
  exact ⟨⟨x1, x2, x3, x4, l, x6, x7, x8⟩, rfl, q2, q4, hl, hq, q6, q8⟩
end Go.Zc
