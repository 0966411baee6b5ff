/- 'balise/baliselaw19.CenterNil' returns true, whatever the input; its arguments read behind the call as they read before. Condition: the variable balise/state.kinds holds what the program's text lays (the card ties it). -/
import Derived.Test.YtkpechngfcaiiaaGreatDoorCards
import Derived.Test.YtkpechngfcaiiaaGreatDoorTie
import Derived.Test.YtkpechngfcaiiaaGreatDoorZcLay
import Derived.Test.YtkpechngfcaiiaaGreatDoorZcCd
set_option linter.all false
namespace Go.Proofs.YtkpechngfcaiiaaGreatDoor
namespace CenterNilLaw
open Go.Zc
set_option maxRecDepth 100000

theorem law : ∀ cs, HasArgs [.int .i64, .slice (.int .u8)] cs → ∃ H', call Zt.ctx (.fn (.func 4) [] []) cs ⟨[], []⟩ = some (.bool true, H') := by
  rintro cs ⟨c0, r0, rfl, h0, c1, r1, rfl, h1, rfl⟩
  obtain ⟨n, hn, qn⟩ := i64_of _ h0
  obtain ⟨d, hd, qd⟩ := u8s_of _ h1
  cases hn
  cases hd
  refine ⟨⟨[], []⟩, ?_⟩
  have := Zt.centerNil_F n d false ⟨[], []⟩
  simp only [Zt.l19_CenterNil_call, zy, simprocAttr, this]

open Go.RowKit

/-- What the variable holds. -/
def kinds : List (List Int) := [[0, 2, 3, 1], [6, 0, 8, 7], [9, 11, 0, 10], [4, 12, 5, 0]]
theorem laid_is : (Rows.laid_balise_state_kinds : DataW Unit) = .agg (kinds.map fun r => .agg (r.map fun x => .lit (.int .u8 x))) := by unfold Rows.laid_balise_state_kinds kinds; rfl
theorem globs_ok (W : World) (h : laidMetH Tryz.prog [("balise/state.kinds", Rows.laid_balise_state_kinds)] W) : GlobOk W (Old W) := by
  rw [laid_is] at h
  obtain ⟨h1, h2⟩ := laid_table (P := Tryz.prog) (n := "balise/state.kinds") (g := 0) (t := 307) (t1 := 306) (t2 := 5) (k := 4) (m := 4) (rows := kinds) (by kernel_rfl) (by kernel_rfl) Tryz.underlying307 Tryz.underlying306 Tryz.underlying5 (by kernel_rfl) (by kernel_rfl) (by kernel_rfl) h
  intro g cs e
  have e' : Zc.look [(0, kinds.flatMap fun r => r.map (CV.int .u8))] g = some cs := e
  simp only [Zc.look, cond_eq_ite, Nat.beq_eq_true_eq] at e'
  split at e'
  · rename_i hg
    have hg' := Nat.eq_of_beq_eq_true hg
    subst hg'
    cases e'
    exact ⟨h1, h2 _⟩
  · cases e'

theorem door_met (os : Os) (args : Array Value) : laidMetH Tryz.prog [("balise/state.kinds", Rows.laid_balise_state_kinds)] ((World.doorLaid Tryz.prog 400 os).forCall (fun _ _ => 0) ⟨#[], args, []⟩).memory :=
  laidMetH_of_parts3 (fuel := 8) (laidMet_of_run' 8 (by kernel_rfl) (by kernel_rfl)) (by kernel_rfl) (by kernel_rfl)

theorem lifted (os : Os) (started : os.Started) (H : Type) (enc : TypeId × Value → H) :
    ReturnsInHanded {} Tryz.checked os 4 .any (fun w args => (Rows.centerNilSpec.pre enc Tryz.prog Tryz.f4 [] false w args ∧ laidMetH Tryz.prog [("balise/state.kinds", Rows.laid_balise_state_kinds)] w) ∧ sizedMet enc Tryz.prog Tryz.f4 (OpenSpec.ofChange Rows.centerNilSpec) false w args)
      (Rows.centerNilSpec.post enc Tryz.prog Tryz.f4 false true false false) :=
  law_laid (C := Tryz.checked) Zt.ctx_ok (n := 9) (Ts := [.int .i64, .slice (.int .u8)]) (tb := 4) (by kernel_rfl) (by kernel_rfl) (by kernel_rfl) Tryz.func4 (by kernel_rfl) Tryz.underlying4 rfl (by kernel_rfl)
    (by
      intro H ds h
      match ds, h with
      | [_, _], _ => rfl)
    globs_ok law os started H enc
    (ChangeSpec.witness_shaped (enc := enc) (C := Tryz.checked) (os := os) (X := fun w _ => laidMetH Tryz.prog [("balise/state.kinds", Rows.laid_balise_state_kinds)] w) false (World.doorLaid Tryz.prog 400 os) #[.int .i64 0,  .slice none 0 0] 8 rfl (World.shaped_of_RefB (by kernel_rfl) (by kernel_rfl)) (by kernel_rfl) (by kernel_rfl) (by kernel_rfl) (door_met os _))

theorem lifted' (os : Os) (started : os.Started) (H : Type) (enc : TypeId × Value → H) :
    ReturnsInHanded Rows.centerNilRow.assume Tryz.pinned.checked os 4 .any (Rows.centerNilRow.pre enc Tryz.pinned.checked.prog Tryz.f4 (OpenSpec.ofChange Rows.centerNilSpec))
      (Rows.centerNilSpec.post enc Tryz.pinned.checked.prog Tryz.f4 Rows.centerNilRow.apart Rows.centerNilRow.fresh Rows.centerNilRow.handsOn Rows.centerNilRow.again) := by
  exact lifted os started H enc
theorem c1 : Tryz.prog.funcNamed Rows.centerNilRow.func = some 4 := by kernel_rfl
theorem c2 : joinedFacts Tryz.prog 4 Tryz.f4 Rows.centerNilSpec Rows.centerNilRow = true := by kernel_rfl
theorem c3 : Tryz.f4.isInstance Tryz.prog Rows.centerNilRow.origin Rows.centerNilRow.targs := of_decide_eq_true (by kernel_rfl)
theorem c4 : Tryz.f4.isWrapper Tryz.prog Rows.centerNilRow.wrapper Rows.centerNilRow.mainSum := by unfold Func.isWrapper; rw [if_neg (of_decide_eq_false (by kernel_rfl))]; exact ⟨rfl, rfl⟩

theorem over : Rows.CenterNilSaid :=
  OpenClaim.holds_of_wide 4 Tryz.f4 rfl rfl rfl rfl rfl rfl rfl ⟨rfl, rfl, rfl, rfl, rfl⟩ rfl rfl rfl rfl rfl c1 Tryz.func4 c2 c3 c4
    (fun os st H enc _ => lifted' os st H enc)

theorem stands (t : TypeId) (h : t ∈ Tryz.f4.params.toList) : Tryz.prog.wantsStandIn t = false := by
  have hall : (Tryz.f4.params.toList.all fun u => !Tryz.prog.wantsStandIn u) = true := by kernel_rfl
  have := List.all_eq_true.1 hall t h
  simpa using this

theorem card : Rows.CenterNilCardSaid :=
  Claim7.holds_tied_plain_at .later [] [.data] true (true, "31d6eab89d395297d14ad8bdfe428dd1f95062b7dc5d961dd34468d3aa7addea") false
    over (fun _ h => by cases h) (by kernel_rfl) (fun _ h => by cases h) centerNil_row_tie rfl ⟨rfl, rfl⟩ (by kernel_rfl) rfl
    (fun f fn hf hfn => by
      obtain rfl : f = 4 := Option.some.inj ((show Tryz.prog.funcNamed "balise/baliselaw19.CenterNil" = some 4 by kernel_rfl).symm.trans hf) |>.symm
      obtain rfl : fn = Tryz.f4 := (Option.some.inj (Tryz.func4.symm.trans hfn)).symm
      exact ⟨by kernel_rfl, fun j t ht => stands t (by simpa using Array.mem_of_getElem? ht)⟩)
    (by kernel_rfl)
end CenterNilLaw

theorem centerNil : Rows.CenterNilCardSaid := CenterNilLaw.card
#print axioms centerNil
end Go.Proofs.YtkpechngfcaiiaaGreatDoor
