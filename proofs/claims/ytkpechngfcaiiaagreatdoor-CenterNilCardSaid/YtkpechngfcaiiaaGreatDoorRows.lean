/-
  NARROWER THAN 'FOR EVERY INPUT', by the rows' own cells (each row's printed sentence says how): CenterFails: laid · CenterNil: laid.
  DERIVED. THE GIVEN ROWS OF THIS SEAT. 2 by the template 'for every input the law returns true; each argument reads behind the call as it read before'; 0 by the template 'total and deterministic' (their statements: YtkpechngfcaiiaaGreatDoorTotals.lean).
  GIVEN WITH THE SEED: the statements are not yours to turn. If you find one false, say at which input.
  Laid BY PROGRAM, IN A SANDBOX (cutbox-rows.mjs): the forced cells as the released guide's own fill.sh prints them over the translation 627a458eca8e9df6… (all of the seat's roots in one cut). By AI agents, Wed Nov 11 2026. No macro, syntax, notation, axiom, sorry.
-/
import Derived.Test.YtkpechngfcaiiaaGreatDoorChecked
import GoSem.Claim
import GoSem.ClaimJoined
import GoSem.ClaimMapViews
import Derived.JoinedTies
import Derived.KernelRfl
namespace Go.Proofs.YtkpechngfcaiiaaGreatDoor
/- THE CELL 'sum', in the pinned program and in every row, IS THE sha256 OF THE DUMP (.gsa) THAT YtkpechngfcaiiaaGreatDoorProg.lean LOADS. Nothing in Lean hashes anything: it is a label: what it is worth is what the hold of that sum in a sandbox is worth. -/
noncomputable def Tryz.pinned : Pinned := { name := "ytkpechngfcaiiaagreatdoor", sum := "627a458eca8e9df60193e0d059d660b5f80e9ecf63a7bca4418d9e77a7def255", checked := Tryz.checked }
namespace Rows
def none {H : Type} : Left H := { results := [], args := [] }

/- WHAT THE LISTED PACKAGE-LEVEL VARIABLES READ AS WHEN THE CALL BEGINS. Each datum BY PROGRAM (the guide's laid-datum.mjs) off the statement by which the dump's own 'gosem.cut.vars' lays the variable. In a bare row this is a premise. The card (YtkpechngfcaiiaaGreatDoorCards.lean) ties it to the program's text. -/
def laid_balise_state_kinds {H : Type} : DataW H := .agg [.agg [.lit (.int .u8 0), .lit (.int .u8 2), .lit (.int .u8 3), .lit (.int .u8 1)], .agg [.lit (.int .u8 6), .lit (.int .u8 0), .lit (.int .u8 8), .lit (.int .u8 7)], .agg [.lit (.int .u8 9), .lit (.int .u8 11), .lit (.int .u8 0), .lit (.int .u8 10)], .agg [.lit (.int .u8 4), .lit (.int .u8 12), .lit (.int .u8 5), .lit (.int .u8 0)]]

/-- 'baliselaw19.CenterFails': WHATEVER THE INPUT: true; the input reads as it did. -/
def centerFailsSpec : ChangeSpec := { name := "centerFails", fn := fun _ => fun
  | [d1, d2, d3, d4, d5, d6] => { results := [.lit (.bool true)], args := [d1, d2, d3, d4, d5, d6] }
  | _ => none }
def centerFailsRow : OpenClaim := { program := "ytkpechngfcaiiaagreatdoor", sum := "627a458eca8e9df60193e0d059d660b5f80e9ecf63a7bca4418d9e77a7def255", func := "balise/baliselaw19.CenterFails", spec := "centerFails", inPlace := ["math.archTrunc", "math.Float64bits", "math.Float64frombits", "slices.overlaps[int]"], unfollowed := true, recurses := true, named := ["balise/state.kinds"], apart := false, laid := [("balise/state.kinds", laid_balise_state_kinds)] }
def CenterFailsSaid : Prop := centerFailsRow.holds Tryz.pinned (OpenSpec.ofChange centerFailsSpec)

/-- ITS FALSE NEIGHBOUR: 'it returns false'. Refute it at one input. -/
def centerFailsWrong : ChangeSpec := { name := "centerFails", fn := fun _ => fun
  | [d1, d2, d3, d4, d5, d6] => { results := [.lit (.bool false)], args := [d1, d2, d3, d4, d5, d6] }
  | _ => none }
def CenterFailsWrongFalsely : Prop := centerFailsRow.holds Tryz.pinned (OpenSpec.ofChange centerFailsWrong)

/-- 'baliselaw19.CenterNil': WHATEVER THE INPUT: true; the input reads as it did. -/
def centerNilSpec : ChangeSpec := { name := "centerNil", fn := fun _ => fun
  | [d1, d2] => { results := [.lit (.bool true)], args := [d1, d2] }
  | _ => none }
def centerNilRow : OpenClaim := { program := "ytkpechngfcaiiaagreatdoor", sum := "627a458eca8e9df60193e0d059d660b5f80e9ecf63a7bca4418d9e77a7def255", func := "balise/baliselaw19.CenterNil", spec := "centerNil", inPlace := ["slices.overlaps[int]", "math.archTrunc", "math.Float64bits", "math.Float64frombits"], unfollowed := true, recurses := true, named := ["balise/state.kinds"], apart := false, laid := [("balise/state.kinds", laid_balise_state_kinds)] }
def CenterNilSaid : Prop := centerNilRow.holds Tryz.pinned (OpenSpec.ofChange centerNilSpec)

/-- ITS FALSE NEIGHBOUR: 'it returns false'. Refute it at one input. -/
def centerNilWrong : ChangeSpec := { name := "centerNil", fn := fun _ => fun
  | [d1, d2] => { results := [.lit (.bool false)], args := [d1, d2] }
  | _ => none }
def CenterNilWrongFalsely : Prop := centerNilRow.holds Tryz.pinned (OpenSpec.ofChange centerNilWrong)

/- THE SECOND FORM. 'bulk': how many values and letters a reading holds, each counted each time it is reached (what is shared counts as often as it is met; a slice's spare places count too). A statement '..UptoSaid' is the law's where the arguments, and the package variables that the reading takes, are together of bulk at most 1048576: NARROWER than '..Said'. Prove '..Said' where nothing that the law and all that it calls make is longer than what came in: it says more and counts as full. Else prove '..UptoSaid'. A law counts once. -/
mutual
def uptoBulk {H : Type} : DataW H → Nat
  | .lit (.string bytes) => bytes.length + 1
  | .lit _ => 1
  | .nil => 1
  | .ptr d => uptoBulk d + 1
  | .slice elems spare => uptoBulkAll elems + uptoBulkAll spare + 1
  | .agg parts => uptoBulkAll parts + 1
  | .iface _ d => uptoBulk d + 1
  | .map entries => uptoBulkEntries entries + 1
  | .held _ => 1
def uptoBulkAll {H : Type} : List (DataW H) → Nat
  | [] => 0
  | d :: r => uptoBulk d + uptoBulkAll r
def uptoBulkEntries {H : Type} : List (Lit × DataW H) → Nat
  | [] => 0
  | x :: r => uptoBulkEntry x + uptoBulkEntries r
def uptoBulkEntry {H : Type} : Lit × DataW H → Nat
  | (.string bytes, d) => bytes.length + uptoBulk d + 1
  | (_, d) => uptoBulk d + 1
 end
def uptoSmall : (H : Type) → List (DataW H) → Bool := fun _ ds => decide (uptoBulkAll ds ≤ 1048576)
def OpenSpec.upto (s : _root_.Go.ChangeSpec) : _root_.Go.OpenSpec := { _root_.Go.OpenSpec.ofChange s with cond := some uptoSmall }

/-- 'baliselaw19.CenterFails', WHERE WHAT IT READS IS OF BULK AT MOST 1048576: true; the input reads as it did. -/
def centerFailsUptoRow : OpenClaim := { program := "ytkpechngfcaiiaagreatdoor", sum := "627a458eca8e9df60193e0d059d660b5f80e9ecf63a7bca4418d9e77a7def255", func := "balise/baliselaw19.CenterFails", spec := "centerFails", inPlace := ["math.archTrunc", "math.Float64bits", "math.Float64frombits", "slices.overlaps[int]"], unfollowed := true, recurses := true, named := ["balise/state.kinds"], apart := false, laid := [("balise/state.kinds", laid_balise_state_kinds)], narrowed := true }
def CenterFailsUptoSaid : Prop := centerFailsUptoRow.holds Tryz.pinned (OpenSpec.upto centerFailsSpec)

/-- 'baliselaw19.CenterNil', WHERE WHAT IT READS IS OF BULK AT MOST 1048576: true; the input reads as it did. -/
def centerNilUptoRow : OpenClaim := { program := "ytkpechngfcaiiaagreatdoor", sum := "627a458eca8e9df60193e0d059d660b5f80e9ecf63a7bca4418d9e77a7def255", func := "balise/baliselaw19.CenterNil", spec := "centerNil", inPlace := ["slices.overlaps[int]", "math.archTrunc", "math.Float64bits", "math.Float64frombits"], unfollowed := true, recurses := true, named := ["balise/state.kinds"], apart := false, laid := [("balise/state.kinds", laid_balise_state_kinds)], narrowed := true }
def CenterNilUptoSaid : Prop := centerNilUptoRow.holds Tryz.pinned (OpenSpec.upto centerNilSpec)

end Rows
end Go.Proofs.YtkpechngfcaiiaaGreatDoor
