/-
  DERIVED. GIVEN WITH THE SEED: THE CARDS: each row of YtkpechngfcaiiaaGreatDoorRows.lean that lists a variable, with what it lists TIED to the program's text (the seventh form; the later family's looks); each row that meets fmt, with fmt's text TOLD by the authors' own Lean function (tested against real Go, not proved from fmt's source: count such statements apart). THE CARD IS WHAT COUNTS. Prove the row's statement (the work); the ties are given (YtkpechngfcaiiaaGreatDoorTie.lean); close each card by the builder's one call (the guide's Derived/Test/ToyasCard.lean, 'card_holds'). Laid BY PROGRAM, IN A SANDBOX (cutbox-door.mjs). By AI agents, Wed Nov 11 2026. No macro, syntax, notation, axiom, sorry.
-/
import Derived.Test.YtkpechngfcaiiaaGreatDoorRows
import GoSem.ClaimSeven
namespace Go.Proofs.YtkpechngfcaiiaaGreatDoor
namespace Rows

/-- THE TIED CARD OF 'baliselaw19.CenterFails'. -/
def centerFailsCard : Claim7 := { stood := { row := centerFailsRow, standIns := [], harness := (true, "31d6eab89d395297d14ad8bdfe428dd1f95062b7dc5d961dd34468d3aa7addea"), looks := false }, kinds := [], alts := [], laidByText := true, laidKinds := [.data], laidTests := true, laidLooks := .later }
def CenterFailsCardSaid : Prop := Claim7.holds Tryz.pinned (.plain (OpenSpec.ofChange centerFailsSpec)) centerFailsCard

/-- THE TIED CARD OF 'baliselaw19.CenterNil'. -/
def centerNilCard : Claim7 := { stood := { row := centerNilRow, standIns := [], harness := (true, "31d6eab89d395297d14ad8bdfe428dd1f95062b7dc5d961dd34468d3aa7addea"), looks := false }, kinds := [], alts := [], laidByText := true, laidKinds := [.data], laidTests := true, laidLooks := .later }
def CenterNilCardSaid : Prop := Claim7.holds Tryz.pinned (.plain (OpenSpec.ofChange centerNilSpec)) centerNilCard

/-- THE SECOND FORM's CARD OF 'baliselaw19.CenterFails'. -/
def centerFailsUptoCard : Claim7 := { stood := { row := centerFailsUptoRow, standIns := [], harness := (true, "31d6eab89d395297d14ad8bdfe428dd1f95062b7dc5d961dd34468d3aa7addea"), looks := false }, kinds := [], alts := [], laidByText := true, laidKinds := [.data], laidTests := true, laidLooks := .later }
def CenterFailsUptoCardSaid : Prop := Claim7.holds Tryz.pinned (.plain (OpenSpec.upto centerFailsSpec)) centerFailsUptoCard

/-- THE SECOND FORM's CARD OF 'baliselaw19.CenterNil'. -/
def centerNilUptoCard : Claim7 := { stood := { row := centerNilUptoRow, standIns := [], harness := (true, "31d6eab89d395297d14ad8bdfe428dd1f95062b7dc5d961dd34468d3aa7addea"), looks := false }, kinds := [], alts := [], laidByText := true, laidKinds := [.data], laidTests := true, laidLooks := .later }
def CenterNilUptoCardSaid : Prop := Claim7.holds Tryz.pinned (.plain (OpenSpec.upto centerNilSpec)) centerNilUptoCard
end Rows
end Go.Proofs.YtkpechngfcaiiaaGreatDoor
