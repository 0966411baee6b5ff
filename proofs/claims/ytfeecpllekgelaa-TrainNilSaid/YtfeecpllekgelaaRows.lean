/-
  No cell of these rows narrows 'for every input' (looked for: loops, veiled, ifaces, maps, wideKeys, modest, calm, conditions, laid).
  DERIVED. THE GIVEN ROWS OF THIS SEAT. 6 by the template 'for every input the law returns true; each argument reads behind the call as it read before'; 0 by the template 'total and deterministic' (their statements: YtfeecpllekgelaaTotals.lean).
  GIVEN WITH THE SEED: the statements are not yours to turn. If you find one false, say at which input.
  Laid BY PROGRAM, IN A SANDBOX (cutbox-rows.mjs): the forced cells as the released guide's own fill.sh prints them over the translation ad8025592f1e1ff8… (all of the seat's roots in one cut). By AI agents, Wed Nov 11 2026. No macro, syntax, notation, axiom, sorry.
-/
import Derived.Test.YtfeecpllekgelaaChecked
import GoSem.Claim
import GoSem.ClaimJoined
import GoSem.ClaimMapViews
import Derived.JoinedTies
import Derived.KernelRfl
namespace Go.Proofs.Ytfeecpllekgelaa
/- THE CELL 'sum', in the pinned program and in every row, IS THE sha256 OF THE DUMP (.gsa) THAT YtfeecpllekgelaaProg.lean LOADS. Nothing in Lean hashes anything: it is a label: what it is worth is what the hold of that sum in a sandbox is worth. -/
noncomputable def Try.pinned : Pinned := { name := "ytfeecpllekgelaa", sum := "ad8025592f1e1ff8f379b355579cc023ddc2d1bbd0a480d714652973ea04ed2f", checked := Try.checked }
namespace Rows
def none {H : Type} : Left H := { results := [], args := [] }

/-- 'baliselaw10.TrainFits': WHATEVER THE INPUT: true; the input reads as it did. -/
def trainFitsSpec : ChangeSpec := { name := "trainFits", fn := fun _ => fun
  | [d1, d2, d3, d4] => { results := [.lit (.bool true)], args := [d1, d2, d3, d4] }
  | _ => none }
def trainFitsRow : OpenClaim := { program := "ytfeecpllekgelaa", sum := "ad8025592f1e1ff8f379b355579cc023ddc2d1bbd0a480d714652973ea04ed2f", func := "balise/baliselaw10.TrainFits", spec := "trainFits", unfollowed := true, recurses := true, apart := false }
def TrainFitsSaid : Prop := trainFitsRow.holds Try.pinned (OpenSpec.ofChange trainFitsSpec)

/-- ITS FALSE NEIGHBOUR: 'it returns false'. Refute it at one input. -/
def trainFitsWrong : ChangeSpec := { name := "trainFits", fn := fun _ => fun
  | [d1, d2, d3, d4] => { results := [.lit (.bool false)], args := [d1, d2, d3, d4] }
  | _ => none }
def TrainFitsWrongFalsely : Prop := trainFitsRow.holds Try.pinned (OpenSpec.ofChange trainFitsWrong)

/-- 'baliselaw10.TrainStale': WHATEVER THE INPUT: true; the input reads as it did. -/
def trainStaleSpec : ChangeSpec := { name := "trainStale", fn := fun _ => fun
  | [d1, d2, d3, d4] => { results := [.lit (.bool true)], args := [d1, d2, d3, d4] }
  | _ => none }
def trainStaleRow : OpenClaim := { program := "ytfeecpllekgelaa", sum := "ad8025592f1e1ff8f379b355579cc023ddc2d1bbd0a480d714652973ea04ed2f", func := "balise/baliselaw10.TrainStale", spec := "trainStale", unfollowed := true, recurses := true, apart := false }
def TrainStaleSaid : Prop := trainStaleRow.holds Try.pinned (OpenSpec.ofChange trainStaleSpec)

/-- ITS FALSE NEIGHBOUR: 'it returns false'. Refute it at one input. -/
def trainStaleWrong : ChangeSpec := { name := "trainStale", fn := fun _ => fun
  | [d1, d2, d3, d4] => { results := [.lit (.bool false)], args := [d1, d2, d3, d4] }
  | _ => none }
def TrainStaleWrongFalsely : Prop := trainStaleRow.holds Try.pinned (OpenSpec.ofChange trainStaleWrong)

/-- 'baliselaw10.TrainWhole': WHATEVER THE INPUT: true; the input reads as it did. -/
def trainWholeSpec : ChangeSpec := { name := "trainWhole", fn := fun _ => fun
  | [d1, d2, d3] => { results := [.lit (.bool true)], args := [d1, d2, d3] }
  | _ => none }
def trainWholeRow : OpenClaim := { program := "ytfeecpllekgelaa", sum := "ad8025592f1e1ff8f379b355579cc023ddc2d1bbd0a480d714652973ea04ed2f", func := "balise/baliselaw10.TrainWhole", spec := "trainWhole", unfollowed := true, recurses := true, apart := false }
def TrainWholeSaid : Prop := trainWholeRow.holds Try.pinned (OpenSpec.ofChange trainWholeSpec)

/-- ITS FALSE NEIGHBOUR: 'it returns false'. Refute it at one input. -/
def trainWholeWrong : ChangeSpec := { name := "trainWhole", fn := fun _ => fun
  | [d1, d2, d3] => { results := [.lit (.bool false)], args := [d1, d2, d3] }
  | _ => none }
def TrainWholeWrongFalsely : Prop := trainWholeRow.holds Try.pinned (OpenSpec.ofChange trainWholeWrong)

/-- 'baliselaw10.TrainFull': WHATEVER THE INPUT: true; the input reads as it did. -/
def trainFullSpec : ChangeSpec := { name := "trainFull", fn := fun _ => fun
  | [d1, d2] => { results := [.lit (.bool true)], args := [d1, d2] }
  | _ => none }
def trainFullRow : OpenClaim := { program := "ytfeecpllekgelaa", sum := "ad8025592f1e1ff8f379b355579cc023ddc2d1bbd0a480d714652973ea04ed2f", func := "balise/baliselaw10.TrainFull", spec := "trainFull", unfollowed := true, recurses := true, apart := false }
def TrainFullSaid : Prop := trainFullRow.holds Try.pinned (OpenSpec.ofChange trainFullSpec)

/-- ITS FALSE NEIGHBOUR: 'it returns false'. Refute it at one input. -/
def trainFullWrong : ChangeSpec := { name := "trainFull", fn := fun _ => fun
  | [d1, d2] => { results := [.lit (.bool false)], args := [d1, d2] }
  | _ => none }
def TrainFullWrongFalsely : Prop := trainFullRow.holds Try.pinned (OpenSpec.ofChange trainFullWrong)

/-- 'baliselaw10.TrainSilent': WHATEVER THE INPUT: true; the input reads as it did. -/
def trainSilentSpec : ChangeSpec := { name := "trainSilent", fn := fun _ => fun
  | [d1, d2, d3] => { results := [.lit (.bool true)], args := [d1, d2, d3] }
  | _ => none }
def trainSilentRow : OpenClaim := { program := "ytfeecpllekgelaa", sum := "ad8025592f1e1ff8f379b355579cc023ddc2d1bbd0a480d714652973ea04ed2f", func := "balise/baliselaw10.TrainSilent", spec := "trainSilent", unfollowed := true, recurses := true, apart := false }
def TrainSilentSaid : Prop := trainSilentRow.holds Try.pinned (OpenSpec.ofChange trainSilentSpec)

/-- ITS FALSE NEIGHBOUR: 'it returns false'. Refute it at one input. -/
def trainSilentWrong : ChangeSpec := { name := "trainSilent", fn := fun _ => fun
  | [d1, d2, d3] => { results := [.lit (.bool false)], args := [d1, d2, d3] }
  | _ => none }
def TrainSilentWrongFalsely : Prop := trainSilentRow.holds Try.pinned (OpenSpec.ofChange trainSilentWrong)

/-- 'baliselaw10.TrainNil': WHATEVER THE INPUT: true; the input reads as it did. -/
def trainNilSpec : ChangeSpec := { name := "trainNil", fn := fun _ => fun
  | [d1, d2] => { results := [.lit (.bool true)], args := [d1, d2] }
  | _ => none }
def trainNilRow : OpenClaim := { program := "ytfeecpllekgelaa", sum := "ad8025592f1e1ff8f379b355579cc023ddc2d1bbd0a480d714652973ea04ed2f", func := "balise/baliselaw10.TrainNil", spec := "trainNil", unfollowed := true, recurses := true, apart := false }
def TrainNilSaid : Prop := trainNilRow.holds Try.pinned (OpenSpec.ofChange trainNilSpec)

/-- ITS FALSE NEIGHBOUR: 'it returns false'. Refute it at one input. -/
def trainNilWrong : ChangeSpec := { name := "trainNil", fn := fun _ => fun
  | [d1, d2] => { results := [.lit (.bool false)], args := [d1, d2] }
  | _ => none }
def TrainNilWrongFalsely : Prop := trainNilRow.holds Try.pinned (OpenSpec.ofChange trainNilWrong)

/- THE SECOND FORM. 'bulk': how many values and letters a reading holds, each counted each time it is reached (what is shared counts as often as it is met; a slice's spare places count too). A statement '..UptoSaid' is the law's where the arguments, and the package variables that the reading takes, are together of bulk at most 1048576: NARROWER than '..Said'. Prove '..Said' where nothing that the law and all that it calls make is longer than what came in: it says more and counts as full. Else prove '..UptoSaid'. A law counts once. -/
mutual
def uptoBulk {H : Type} : DataW H → Nat
  | .lit (.string bytes) => bytes.length + 1
  | .lit _ => 1
  | .nil => 1
  | .ptr d => uptoBulk d + 1
  | .slice elems spare => uptoBulkAll elems + uptoBulkAll spare + 1
  | .agg parts => uptoBulkAll parts + 1
  | .iface _ d => uptoBulk d + 1
  | .map entries => uptoBulkEntries entries + 1
  | .held _ => 1
def uptoBulkAll {H : Type} : List (DataW H) → Nat
  | [] => 0
  | d :: r => uptoBulk d + uptoBulkAll r
def uptoBulkEntries {H : Type} : List (Lit × DataW H) → Nat
  | [] => 0
  | x :: r => uptoBulkEntry x + uptoBulkEntries r
def uptoBulkEntry {H : Type} : Lit × DataW H → Nat
  | (.string bytes, d) => bytes.length + uptoBulk d + 1
  | (_, d) => uptoBulk d + 1
 end
def uptoSmall : (H : Type) → List (DataW H) → Bool := fun _ ds => decide (uptoBulkAll ds ≤ 1048576)
def OpenSpec.upto (s : _root_.Go.ChangeSpec) : _root_.Go.OpenSpec := { _root_.Go.OpenSpec.ofChange s with cond := some uptoSmall }

/-- 'baliselaw10.TrainFits', WHERE WHAT IT READS IS OF BULK AT MOST 1048576: true; the input reads as it did. -/
def trainFitsUptoRow : OpenClaim := { program := "ytfeecpllekgelaa", sum := "ad8025592f1e1ff8f379b355579cc023ddc2d1bbd0a480d714652973ea04ed2f", func := "balise/baliselaw10.TrainFits", spec := "trainFits", unfollowed := true, recurses := true, apart := false, narrowed := true }
def TrainFitsUptoSaid : Prop := trainFitsUptoRow.holds Try.pinned (OpenSpec.upto trainFitsSpec)

/-- 'baliselaw10.TrainStale', WHERE WHAT IT READS IS OF BULK AT MOST 1048576: true; the input reads as it did. -/
def trainStaleUptoRow : OpenClaim := { program := "ytfeecpllekgelaa", sum := "ad8025592f1e1ff8f379b355579cc023ddc2d1bbd0a480d714652973ea04ed2f", func := "balise/baliselaw10.TrainStale", spec := "trainStale", unfollowed := true, recurses := true, apart := false, narrowed := true }
def TrainStaleUptoSaid : Prop := trainStaleUptoRow.holds Try.pinned (OpenSpec.upto trainStaleSpec)

/-- 'baliselaw10.TrainWhole', WHERE WHAT IT READS IS OF BULK AT MOST 1048576: true; the input reads as it did. -/
def trainWholeUptoRow : OpenClaim := { program := "ytfeecpllekgelaa", sum := "ad8025592f1e1ff8f379b355579cc023ddc2d1bbd0a480d714652973ea04ed2f", func := "balise/baliselaw10.TrainWhole", spec := "trainWhole", unfollowed := true, recurses := true, apart := false, narrowed := true }
def TrainWholeUptoSaid : Prop := trainWholeUptoRow.holds Try.pinned (OpenSpec.upto trainWholeSpec)

/-- 'baliselaw10.TrainFull', WHERE WHAT IT READS IS OF BULK AT MOST 1048576: true; the input reads as it did. -/
def trainFullUptoRow : OpenClaim := { program := "ytfeecpllekgelaa", sum := "ad8025592f1e1ff8f379b355579cc023ddc2d1bbd0a480d714652973ea04ed2f", func := "balise/baliselaw10.TrainFull", spec := "trainFull", unfollowed := true, recurses := true, apart := false, narrowed := true }
def TrainFullUptoSaid : Prop := trainFullUptoRow.holds Try.pinned (OpenSpec.upto trainFullSpec)

/-- 'baliselaw10.TrainSilent', WHERE WHAT IT READS IS OF BULK AT MOST 1048576: true; the input reads as it did. -/
def trainSilentUptoRow : OpenClaim := { program := "ytfeecpllekgelaa", sum := "ad8025592f1e1ff8f379b355579cc023ddc2d1bbd0a480d714652973ea04ed2f", func := "balise/baliselaw10.TrainSilent", spec := "trainSilent", unfollowed := true, recurses := true, apart := false, narrowed := true }
def TrainSilentUptoSaid : Prop := trainSilentUptoRow.holds Try.pinned (OpenSpec.upto trainSilentSpec)

/-- 'baliselaw10.TrainNil', WHERE WHAT IT READS IS OF BULK AT MOST 1048576: true; the input reads as it did. -/
def trainNilUptoRow : OpenClaim := { program := "ytfeecpllekgelaa", sum := "ad8025592f1e1ff8f379b355579cc023ddc2d1bbd0a480d714652973ea04ed2f", func := "balise/baliselaw10.TrainNil", spec := "trainNil", unfollowed := true, recurses := true, apart := false, narrowed := true }
def TrainNilUptoSaid : Prop := trainNilUptoRow.holds Try.pinned (OpenSpec.upto trainNilSpec)

end Rows
end Go.Proofs.Ytfeecpllekgelaa
