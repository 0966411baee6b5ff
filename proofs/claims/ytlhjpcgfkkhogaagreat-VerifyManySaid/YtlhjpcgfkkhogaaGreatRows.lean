/-
  No cell of these rows narrows 'for every input' (looked for: loops, veiled, ifaces, maps, wideKeys, modest, calm, conditions, laid).
  DERIVED. THE GIVEN ROWS OF THIS SEAT. 6 by the template 'for every input the law returns true; each argument reads behind the call as it read before'; 0 by the template 'total and deterministic' (their statements: YtlhjpcgfkkhogaaGreatTotals.lean).
  GIVEN WITH THE SEED: the statements are not yours to turn. If you find one false, say at which input.
  Laid BY PROGRAM, IN A SANDBOX (cutbox-rows.mjs): the forced cells as the released guide's own fill.sh prints them over the translation a33466e4ec5adb42… (all of the seat's roots in one cut). By AI agents, Wed Nov 11 2026. No macro, syntax, notation, axiom, sorry.
-/
import Derived.Test.YtlhjpcgfkkhogaaGreatChecked
import GoSem.Claim
import GoSem.ClaimJoined
import GoSem.ClaimMapViews
import Derived.JoinedTies
import Derived.KernelRfl
namespace Go.Proofs.YtlhjpcgfkkhogaaGreat
/- THE CELL 'sum', in the pinned program and in every row, IS THE sha256 OF THE DUMP (.gsa) THAT YtlhjpcgfkkhogaaGreatProg.lean LOADS. Nothing in Lean hashes anything: it is a label: what it is worth is what the hold of that sum in a sandbox is worth. -/
noncomputable def Tryz.pinned : Pinned := { name := "ytlhjpcgfkkhogaagreat", sum := "a33466e4ec5adb42bac322b5f2c7fe64fa960e6cac7611aa49acc2a6c1ac69d5", checked := Tryz.checked }
namespace Rows
def none {H : Type} : Left H := { results := [], args := [] }

/-- 'baliselaw06.VerifyDrafts': WHATEVER THE INPUT: true; the input reads as it did. -/
def verifyDraftsSpec : ChangeSpec := { name := "verifyDrafts", fn := fun _ => fun
  | [d] => { results := [.lit (.bool true)], args := [d] }
  | _ => none }
def verifyDraftsRow : OpenClaim := { program := "ytlhjpcgfkkhogaagreat", sum := "a33466e4ec5adb42bac322b5f2c7fe64fa960e6cac7611aa49acc2a6c1ac69d5", func := "balise/baliselaw06.VerifyDrafts", spec := "verifyDrafts", inPlace := ["math.archTrunc", "math.Float64bits", "math.Float64frombits"], unfollowed := true, recurses := true, apart := false }
def VerifyDraftsSaid : Prop := verifyDraftsRow.holds Tryz.pinned (OpenSpec.ofChange verifyDraftsSpec)

/-- ITS FALSE NEIGHBOUR: 'it returns false'. Refute it at one input. -/
def verifyDraftsWrong : ChangeSpec := { name := "verifyDrafts", fn := fun _ => fun
  | [d] => { results := [.lit (.bool false)], args := [d] }
  | _ => none }
def VerifyDraftsWrongFalsely : Prop := verifyDraftsRow.holds Tryz.pinned (OpenSpec.ofChange verifyDraftsWrong)

/-- 'baliselaw06.VerifyOne': WHATEVER THE INPUT: true; the input reads as it did. -/
def verifyOneSpec : ChangeSpec := { name := "verifyOne", fn := fun _ => fun
  | [d1, d2, d3, d4] => { results := [.lit (.bool true)], args := [d1, d2, d3, d4] }
  | _ => none }
def verifyOneRow : OpenClaim := { program := "ytlhjpcgfkkhogaagreat", sum := "a33466e4ec5adb42bac322b5f2c7fe64fa960e6cac7611aa49acc2a6c1ac69d5", func := "balise/baliselaw06.VerifyOne", spec := "verifyOne", inPlace := ["math.archTrunc", "math.Float64bits", "math.Float64frombits"], unfollowed := true, recurses := true, apart := false }
def VerifyOneSaid : Prop := verifyOneRow.holds Tryz.pinned (OpenSpec.ofChange verifyOneSpec)

/-- ITS FALSE NEIGHBOUR: 'it returns false'. Refute it at one input. -/
def verifyOneWrong : ChangeSpec := { name := "verifyOne", fn := fun _ => fun
  | [d1, d2, d3, d4] => { results := [.lit (.bool false)], args := [d1, d2, d3, d4] }
  | _ => none }
def VerifyOneWrongFalsely : Prop := verifyOneRow.holds Tryz.pinned (OpenSpec.ofChange verifyOneWrong)

/-- 'baliselaw06.VerifyMany': WHATEVER THE INPUT: true; the input reads as it did. -/
def verifyManySpec : ChangeSpec := { name := "verifyMany", fn := fun _ => fun
  | [d1, d2] => { results := [.lit (.bool true)], args := [d1, d2] }
  | _ => none }
def verifyManyRow : OpenClaim := { program := "ytlhjpcgfkkhogaagreat", sum := "a33466e4ec5adb42bac322b5f2c7fe64fa960e6cac7611aa49acc2a6c1ac69d5", func := "balise/baliselaw06.VerifyMany", spec := "verifyMany", inPlace := ["math.archTrunc", "math.Float64bits", "math.Float64frombits"], unfollowed := true, recurses := true, apart := false }
def VerifyManySaid : Prop := verifyManyRow.holds Tryz.pinned (OpenSpec.ofChange verifyManySpec)

/-- ITS FALSE NEIGHBOUR: 'it returns false'. Refute it at one input. -/
def verifyManyWrong : ChangeSpec := { name := "verifyMany", fn := fun _ => fun
  | [d1, d2] => { results := [.lit (.bool false)], args := [d1, d2] }
  | _ => none }
def VerifyManyWrongFalsely : Prop := verifyManyRow.holds Tryz.pinned (OpenSpec.ofChange verifyManyWrong)

/-- 'baliselaw06.VerifyRoutes': WHATEVER THE INPUT: true; the input reads as it did. -/
def verifyRoutesSpec : ChangeSpec := { name := "verifyRoutes", fn := fun _ => fun
  | [d1, d2, d3, d4] => { results := [.lit (.bool true)], args := [d1, d2, d3, d4] }
  | _ => none }
def verifyRoutesRow : OpenClaim := { program := "ytlhjpcgfkkhogaagreat", sum := "a33466e4ec5adb42bac322b5f2c7fe64fa960e6cac7611aa49acc2a6c1ac69d5", func := "balise/baliselaw06.VerifyRoutes", spec := "verifyRoutes", inPlace := ["math.archTrunc", "math.Float64bits", "math.Float64frombits"], unfollowed := true, recurses := true, apart := false }
def VerifyRoutesSaid : Prop := verifyRoutesRow.holds Tryz.pinned (OpenSpec.ofChange verifyRoutesSpec)

/-- ITS FALSE NEIGHBOUR: 'it returns false'. Refute it at one input. -/
def verifyRoutesWrong : ChangeSpec := { name := "verifyRoutes", fn := fun _ => fun
  | [d1, d2, d3, d4] => { results := [.lit (.bool false)], args := [d1, d2, d3, d4] }
  | _ => none }
def VerifyRoutesWrongFalsely : Prop := verifyRoutesRow.holds Tryz.pinned (OpenSpec.ofChange verifyRoutesWrong)

/-- 'baliselaw06.VerifyTurns': WHATEVER THE INPUT: true; the input reads as it did. -/
def verifyTurnsSpec : ChangeSpec := { name := "verifyTurns", fn := fun _ => fun
  | [d1, d2, d3] => { results := [.lit (.bool true)], args := [d1, d2, d3] }
  | _ => none }
def verifyTurnsRow : OpenClaim := { program := "ytlhjpcgfkkhogaagreat", sum := "a33466e4ec5adb42bac322b5f2c7fe64fa960e6cac7611aa49acc2a6c1ac69d5", func := "balise/baliselaw06.VerifyTurns", spec := "verifyTurns", inPlace := ["math.archTrunc", "math.Float64bits", "math.Float64frombits"], unfollowed := true, recurses := true, apart := false }
def VerifyTurnsSaid : Prop := verifyTurnsRow.holds Tryz.pinned (OpenSpec.ofChange verifyTurnsSpec)

/-- ITS FALSE NEIGHBOUR: 'it returns false'. Refute it at one input. -/
def verifyTurnsWrong : ChangeSpec := { name := "verifyTurns", fn := fun _ => fun
  | [d1, d2, d3] => { results := [.lit (.bool false)], args := [d1, d2, d3] }
  | _ => none }
def VerifyTurnsWrongFalsely : Prop := verifyTurnsRow.holds Tryz.pinned (OpenSpec.ofChange verifyTurnsWrong)

/-- 'baliselaw06.VerifyParts': WHATEVER THE INPUT: true; the input reads as it did. -/
def verifyPartsSpec : ChangeSpec := { name := "verifyParts", fn := fun _ => fun
  | [d1, d2] => { results := [.lit (.bool true)], args := [d1, d2] }
  | _ => none }
def verifyPartsRow : OpenClaim := { program := "ytlhjpcgfkkhogaagreat", sum := "a33466e4ec5adb42bac322b5f2c7fe64fa960e6cac7611aa49acc2a6c1ac69d5", func := "balise/baliselaw06.VerifyParts", spec := "verifyParts", inPlace := ["math.archTrunc", "math.Float64bits", "math.Float64frombits"], unfollowed := true, recurses := true, apart := false }
def VerifyPartsSaid : Prop := verifyPartsRow.holds Tryz.pinned (OpenSpec.ofChange verifyPartsSpec)

/-- ITS FALSE NEIGHBOUR: 'it returns false'. Refute it at one input. -/
def verifyPartsWrong : ChangeSpec := { name := "verifyParts", fn := fun _ => fun
  | [d1, d2] => { results := [.lit (.bool false)], args := [d1, d2] }
  | _ => none }
def VerifyPartsWrongFalsely : Prop := verifyPartsRow.holds Tryz.pinned (OpenSpec.ofChange verifyPartsWrong)

/- THE SECOND FORM. 'bulk': how many values and letters a reading holds, each counted each time it is reached (what is shared counts as often as it is met; a slice's spare places count too). A statement '..UptoSaid' is the law's where the arguments, and the package variables that the reading takes, are together of bulk at most 1048576: NARROWER than '..Said'. Prove '..Said' where nothing that the law and all that it calls make is longer than what came in: it says more and counts as full. Else prove '..UptoSaid'. A law counts once. -/
mutual
def uptoBulk {H : Type} : DataW H → Nat
  | .lit (.string bytes) => bytes.length + 1
  | .lit _ => 1
  | .nil => 1
  | .ptr d => uptoBulk d + 1
  | .slice elems spare => uptoBulkAll elems + uptoBulkAll spare + 1
  | .agg parts => uptoBulkAll parts + 1
  | .iface _ d => uptoBulk d + 1
  | .map entries => uptoBulkEntries entries + 1
  | .held _ => 1
def uptoBulkAll {H : Type} : List (DataW H) → Nat
  | [] => 0
  | d :: r => uptoBulk d + uptoBulkAll r
def uptoBulkEntries {H : Type} : List (Lit × DataW H) → Nat
  | [] => 0
  | x :: r => uptoBulkEntry x + uptoBulkEntries r
def uptoBulkEntry {H : Type} : Lit × DataW H → Nat
  | (.string bytes, d) => bytes.length + uptoBulk d + 1
  | (_, d) => uptoBulk d + 1
 end
def uptoSmall : (H : Type) → List (DataW H) → Bool := fun _ ds => decide (uptoBulkAll ds ≤ 1048576)
def OpenSpec.upto (s : _root_.Go.ChangeSpec) : _root_.Go.OpenSpec := { _root_.Go.OpenSpec.ofChange s with cond := some uptoSmall }

/-- 'baliselaw06.VerifyDrafts', WHERE WHAT IT READS IS OF BULK AT MOST 1048576: true; the input reads as it did. -/
def verifyDraftsUptoRow : OpenClaim := { program := "ytlhjpcgfkkhogaagreat", sum := "a33466e4ec5adb42bac322b5f2c7fe64fa960e6cac7611aa49acc2a6c1ac69d5", func := "balise/baliselaw06.VerifyDrafts", spec := "verifyDrafts", inPlace := ["math.archTrunc", "math.Float64bits", "math.Float64frombits"], unfollowed := true, recurses := true, apart := false, narrowed := true }
def VerifyDraftsUptoSaid : Prop := verifyDraftsUptoRow.holds Tryz.pinned (OpenSpec.upto verifyDraftsSpec)

/-- 'baliselaw06.VerifyOne', WHERE WHAT IT READS IS OF BULK AT MOST 1048576: true; the input reads as it did. -/
def verifyOneUptoRow : OpenClaim := { program := "ytlhjpcgfkkhogaagreat", sum := "a33466e4ec5adb42bac322b5f2c7fe64fa960e6cac7611aa49acc2a6c1ac69d5", func := "balise/baliselaw06.VerifyOne", spec := "verifyOne", inPlace := ["math.archTrunc", "math.Float64bits", "math.Float64frombits"], unfollowed := true, recurses := true, apart := false, narrowed := true }
def VerifyOneUptoSaid : Prop := verifyOneUptoRow.holds Tryz.pinned (OpenSpec.upto verifyOneSpec)

/-- 'baliselaw06.VerifyMany', WHERE WHAT IT READS IS OF BULK AT MOST 1048576: true; the input reads as it did. -/
def verifyManyUptoRow : OpenClaim := { program := "ytlhjpcgfkkhogaagreat", sum := "a33466e4ec5adb42bac322b5f2c7fe64fa960e6cac7611aa49acc2a6c1ac69d5", func := "balise/baliselaw06.VerifyMany", spec := "verifyMany", inPlace := ["math.archTrunc", "math.Float64bits", "math.Float64frombits"], unfollowed := true, recurses := true, apart := false, narrowed := true }
def VerifyManyUptoSaid : Prop := verifyManyUptoRow.holds Tryz.pinned (OpenSpec.upto verifyManySpec)

/-- 'baliselaw06.VerifyRoutes', WHERE WHAT IT READS IS OF BULK AT MOST 1048576: true; the input reads as it did. -/
def verifyRoutesUptoRow : OpenClaim := { program := "ytlhjpcgfkkhogaagreat", sum := "a33466e4ec5adb42bac322b5f2c7fe64fa960e6cac7611aa49acc2a6c1ac69d5", func := "balise/baliselaw06.VerifyRoutes", spec := "verifyRoutes", inPlace := ["math.archTrunc", "math.Float64bits", "math.Float64frombits"], unfollowed := true, recurses := true, apart := false, narrowed := true }
def VerifyRoutesUptoSaid : Prop := verifyRoutesUptoRow.holds Tryz.pinned (OpenSpec.upto verifyRoutesSpec)

/-- 'baliselaw06.VerifyTurns', WHERE WHAT IT READS IS OF BULK AT MOST 1048576: true; the input reads as it did. -/
def verifyTurnsUptoRow : OpenClaim := { program := "ytlhjpcgfkkhogaagreat", sum := "a33466e4ec5adb42bac322b5f2c7fe64fa960e6cac7611aa49acc2a6c1ac69d5", func := "balise/baliselaw06.VerifyTurns", spec := "verifyTurns", inPlace := ["math.archTrunc", "math.Float64bits", "math.Float64frombits"], unfollowed := true, recurses := true, apart := false, narrowed := true }
def VerifyTurnsUptoSaid : Prop := verifyTurnsUptoRow.holds Tryz.pinned (OpenSpec.upto verifyTurnsSpec)

/-- 'baliselaw06.VerifyParts', WHERE WHAT IT READS IS OF BULK AT MOST 1048576: true; the input reads as it did. -/
def verifyPartsUptoRow : OpenClaim := { program := "ytlhjpcgfkkhogaagreat", sum := "a33466e4ec5adb42bac322b5f2c7fe64fa960e6cac7611aa49acc2a6c1ac69d5", func := "balise/baliselaw06.VerifyParts", spec := "verifyParts", inPlace := ["math.archTrunc", "math.Float64bits", "math.Float64frombits"], unfollowed := true, recurses := true, apart := false, narrowed := true }
def VerifyPartsUptoSaid : Prop := verifyPartsUptoRow.holds Tryz.pinned (OpenSpec.upto verifyPartsSpec)

end Rows
end Go.Proofs.YtlhjpcgfkkhogaaGreat
