/-
  No cell of these rows narrows 'for every input' (looked for: loops, veiled, ifaces, maps, wideKeys, modest, calm, conditions, laid).
  DERIVED. THE GIVEN ROWS OF THIS SEAT. 12 by the template 'for every input the law returns true; each argument reads behind the call as it read before'; 0 by the template 'total and deterministic' (their statements: YtmkdhpjidhbijaaTotals.lean).
  GIVEN WITH THE SEED: the statements are not yours to turn. If you find one false, say at which input.
  Laid BY PROGRAM, IN A SANDBOX (cutbox-rows.mjs): the forced cells as the released guide's own fill.sh prints them over the translation 723dd95d5b6fd87f… (all of the seat's roots in one cut). By AI agents, Wed Nov 11 2026. No macro, syntax, notation, axiom, sorry.
-/
import Derived.Test.YtmkdhpjidhbijaaChecked
import GoSem.Claim
import GoSem.ClaimJoined
import GoSem.ClaimMapViews
import Derived.JoinedTies
import Derived.KernelRfl
namespace Go.Proofs.Ytmkdhpjidhbijaa
/- THE CELL 'sum', in the pinned program and in every row, IS THE sha256 OF THE DUMP (.gsa) THAT YtmkdhpjidhbijaaProg.lean LOADS. Nothing in Lean hashes anything: it is a label: what it is worth is what the hold of that sum in a sandbox is worth. -/
noncomputable def Try.pinned : Pinned := { name := "ytmkdhpjidhbijaa", sum := "723dd95d5b6fd87f5a00c121cb18b02ed5975679b5bc6e164725457e469871c6", checked := Try.checked }
namespace Rows
def none {H : Type} : Left H := { results := [], args := [] }

/-- 'baliselaw10.TrainFits': WHATEVER THE INPUT: true; the input reads as it did. -/
def trainFitsSpec : ChangeSpec := { name := "trainFits", fn := fun _ => fun
  | [d1, d2, d3, d4] => { results := [.lit (.bool true)], args := [d1, d2, d3, d4] }
  | _ => none }
def trainFitsRow : OpenClaim := { program := "ytmkdhpjidhbijaa", sum := "723dd95d5b6fd87f5a00c121cb18b02ed5975679b5bc6e164725457e469871c6", func := "balise/baliselaw10.TrainFits", spec := "trainFits", unfollowed := true, recurses := true, apart := false }
def TrainFitsSaid : Prop := trainFitsRow.holds Try.pinned (OpenSpec.ofChange trainFitsSpec)

/-- ITS FALSE NEIGHBOUR: 'it returns false'. Refute it at one input. -/
def trainFitsWrong : ChangeSpec := { name := "trainFits", fn := fun _ => fun
  | [d1, d2, d3, d4] => { results := [.lit (.bool false)], args := [d1, d2, d3, d4] }
  | _ => none }
def TrainFitsWrongFalsely : Prop := trainFitsRow.holds Try.pinned (OpenSpec.ofChange trainFitsWrong)

/-- 'baliselaw10.TrainStale': WHATEVER THE INPUT: true; the input reads as it did. -/
def trainStaleSpec : ChangeSpec := { name := "trainStale", fn := fun _ => fun
  | [d1, d2, d3, d4] => { results := [.lit (.bool true)], args := [d1, d2, d3, d4] }
  | _ => none }
def trainStaleRow : OpenClaim := { program := "ytmkdhpjidhbijaa", sum := "723dd95d5b6fd87f5a00c121cb18b02ed5975679b5bc6e164725457e469871c6", func := "balise/baliselaw10.TrainStale", spec := "trainStale", unfollowed := true, recurses := true, apart := false }
def TrainStaleSaid : Prop := trainStaleRow.holds Try.pinned (OpenSpec.ofChange trainStaleSpec)

/-- ITS FALSE NEIGHBOUR: 'it returns false'. Refute it at one input. -/
def trainStaleWrong : ChangeSpec := { name := "trainStale", fn := fun _ => fun
  | [d1, d2, d3, d4] => { results := [.lit (.bool false)], args := [d1, d2, d3, d4] }
  | _ => none }
def TrainStaleWrongFalsely : Prop := trainStaleRow.holds Try.pinned (OpenSpec.ofChange trainStaleWrong)

/-- 'baliselaw10.TrainWhole': WHATEVER THE INPUT: true; the input reads as it did. -/
def trainWholeSpec : ChangeSpec := { name := "trainWhole", fn := fun _ => fun
  | [d1, d2, d3] => { results := [.lit (.bool true)], args := [d1, d2, d3] }
  | _ => none }
def trainWholeRow : OpenClaim := { program := "ytmkdhpjidhbijaa", sum := "723dd95d5b6fd87f5a00c121cb18b02ed5975679b5bc6e164725457e469871c6", func := "balise/baliselaw10.TrainWhole", spec := "trainWhole", unfollowed := true, recurses := true, apart := false }
def TrainWholeSaid : Prop := trainWholeRow.holds Try.pinned (OpenSpec.ofChange trainWholeSpec)

/-- ITS FALSE NEIGHBOUR: 'it returns false'. Refute it at one input. -/
def trainWholeWrong : ChangeSpec := { name := "trainWhole", fn := fun _ => fun
  | [d1, d2, d3] => { results := [.lit (.bool false)], args := [d1, d2, d3] }
  | _ => none }
def TrainWholeWrongFalsely : Prop := trainWholeRow.holds Try.pinned (OpenSpec.ofChange trainWholeWrong)

/-- 'baliselaw18.WorldGoes': WHATEVER THE INPUT: true; the input reads as it did. -/
def worldGoesSpec : ChangeSpec := { name := "worldGoes", fn := fun _ => fun
  | [d1, d2, d3, d4, d5] => { results := [.lit (.bool true)], args := [d1, d2, d3, d4, d5] }
  | _ => none }
def worldGoesRow : OpenClaim := { program := "ytmkdhpjidhbijaa", sum := "723dd95d5b6fd87f5a00c121cb18b02ed5975679b5bc6e164725457e469871c6", func := "balise/baliselaw18.WorldGoes", spec := "worldGoes", inPlace := ["slices.overlaps[balise/api.End]"], unfollowed := true, recurses := true, apart := false }
def WorldGoesSaid : Prop := worldGoesRow.holds Try.pinned (OpenSpec.ofChange worldGoesSpec)

/-- ITS FALSE NEIGHBOUR: 'it returns false'. Refute it at one input. -/
def worldGoesWrong : ChangeSpec := { name := "worldGoes", fn := fun _ => fun
  | [d1, d2, d3, d4, d5] => { results := [.lit (.bool false)], args := [d1, d2, d3, d4, d5] }
  | _ => none }
def WorldGoesWrongFalsely : Prop := worldGoesRow.holds Try.pinned (OpenSpec.ofChange worldGoesWrong)

/-- 'baliselaw10.TrainFull': WHATEVER THE INPUT: true; the input reads as it did. -/
def trainFullSpec : ChangeSpec := { name := "trainFull", fn := fun _ => fun
  | [d1, d2] => { results := [.lit (.bool true)], args := [d1, d2] }
  | _ => none }
def trainFullRow : OpenClaim := { program := "ytmkdhpjidhbijaa", sum := "723dd95d5b6fd87f5a00c121cb18b02ed5975679b5bc6e164725457e469871c6", func := "balise/baliselaw10.TrainFull", spec := "trainFull", unfollowed := true, recurses := true, apart := false }
def TrainFullSaid : Prop := trainFullRow.holds Try.pinned (OpenSpec.ofChange trainFullSpec)

/-- ITS FALSE NEIGHBOUR: 'it returns false'. Refute it at one input. -/
def trainFullWrong : ChangeSpec := { name := "trainFull", fn := fun _ => fun
  | [d1, d2] => { results := [.lit (.bool false)], args := [d1, d2] }
  | _ => none }
def TrainFullWrongFalsely : Prop := trainFullRow.holds Try.pinned (OpenSpec.ofChange trainFullWrong)

/-- 'baliselaw10.TrainSilent': WHATEVER THE INPUT: true; the input reads as it did. -/
def trainSilentSpec : ChangeSpec := { name := "trainSilent", fn := fun _ => fun
  | [d1, d2, d3] => { results := [.lit (.bool true)], args := [d1, d2, d3] }
  | _ => none }
def trainSilentRow : OpenClaim := { program := "ytmkdhpjidhbijaa", sum := "723dd95d5b6fd87f5a00c121cb18b02ed5975679b5bc6e164725457e469871c6", func := "balise/baliselaw10.TrainSilent", spec := "trainSilent", unfollowed := true, recurses := true, apart := false }
def TrainSilentSaid : Prop := trainSilentRow.holds Try.pinned (OpenSpec.ofChange trainSilentSpec)

/-- ITS FALSE NEIGHBOUR: 'it returns false'. Refute it at one input. -/
def trainSilentWrong : ChangeSpec := { name := "trainSilent", fn := fun _ => fun
  | [d1, d2, d3] => { results := [.lit (.bool false)], args := [d1, d2, d3] }
  | _ => none }
def TrainSilentWrongFalsely : Prop := trainSilentRow.holds Try.pinned (OpenSpec.ofChange trainSilentWrong)

/-- 'baliselaw05.GraphBack': WHATEVER THE INPUT: true; the input reads as it did. -/
def graphBackSpec : ChangeSpec := { name := "graphBack", fn := fun _ => fun
  | [d] => { results := [.lit (.bool true)], args := [d] }
  | _ => none }
def graphBackRow : OpenClaim := { program := "ytmkdhpjidhbijaa", sum := "723dd95d5b6fd87f5a00c121cb18b02ed5975679b5bc6e164725457e469871c6", func := "balise/baliselaw05.GraphBack", spec := "graphBack", unfollowed := true, recurses := true, apart := false }
def GraphBackSaid : Prop := graphBackRow.holds Try.pinned (OpenSpec.ofChange graphBackSpec)

/-- ITS FALSE NEIGHBOUR: 'it returns false'. Refute it at one input. -/
def graphBackWrong : ChangeSpec := { name := "graphBack", fn := fun _ => fun
  | [d] => { results := [.lit (.bool false)], args := [d] }
  | _ => none }
def GraphBackWrongFalsely : Prop := graphBackRow.holds Try.pinned (OpenSpec.ofChange graphBackWrong)

/-- 'baliselaw05.GraphEnds': WHATEVER THE INPUT: true; the input reads as it did. -/
def graphEndsSpec : ChangeSpec := { name := "graphEnds", fn := fun _ => fun
  | [d] => { results := [.lit (.bool true)], args := [d] }
  | _ => none }
def graphEndsRow : OpenClaim := { program := "ytmkdhpjidhbijaa", sum := "723dd95d5b6fd87f5a00c121cb18b02ed5975679b5bc6e164725457e469871c6", func := "balise/baliselaw05.GraphEnds", spec := "graphEnds", unfollowed := true, recurses := true, apart := false }
def GraphEndsSaid : Prop := graphEndsRow.holds Try.pinned (OpenSpec.ofChange graphEndsSpec)

/-- ITS FALSE NEIGHBOUR: 'it returns false'. Refute it at one input. -/
def graphEndsWrong : ChangeSpec := { name := "graphEnds", fn := fun _ => fun
  | [d] => { results := [.lit (.bool false)], args := [d] }
  | _ => none }
def GraphEndsWrongFalsely : Prop := graphEndsRow.holds Try.pinned (OpenSpec.ofChange graphEndsWrong)

/-- 'baliselaw05.GraphPaths': WHATEVER THE INPUT: true; the input reads as it did. -/
def graphPathsSpec : ChangeSpec := { name := "graphPaths", fn := fun _ => fun
  | [d1, d2, d3, d4, d5, d6] => { results := [.lit (.bool true)], args := [d1, d2, d3, d4, d5, d6] }
  | _ => none }
def graphPathsRow : OpenClaim := { program := "ytmkdhpjidhbijaa", sum := "723dd95d5b6fd87f5a00c121cb18b02ed5975679b5bc6e164725457e469871c6", func := "balise/baliselaw05.GraphPaths", spec := "graphPaths", unfollowed := true, recurses := true, apart := false }
def GraphPathsSaid : Prop := graphPathsRow.holds Try.pinned (OpenSpec.ofChange graphPathsSpec)

/-- ITS FALSE NEIGHBOUR: 'it returns false'. Refute it at one input. -/
def graphPathsWrong : ChangeSpec := { name := "graphPaths", fn := fun _ => fun
  | [d1, d2, d3, d4, d5, d6] => { results := [.lit (.bool false)], args := [d1, d2, d3, d4, d5, d6] }
  | _ => none }
def GraphPathsWrongFalsely : Prop := graphPathsRow.holds Try.pinned (OpenSpec.ofChange graphPathsWrong)

/-- 'baliselaw05.GraphTracks': WHATEVER THE INPUT: true; the input reads as it did. -/
def graphTracksSpec : ChangeSpec := { name := "graphTracks", fn := fun _ => fun
  | [d1, d2] => { results := [.lit (.bool true)], args := [d1, d2] }
  | _ => none }
def graphTracksRow : OpenClaim := { program := "ytmkdhpjidhbijaa", sum := "723dd95d5b6fd87f5a00c121cb18b02ed5975679b5bc6e164725457e469871c6", func := "balise/baliselaw05.GraphTracks", spec := "graphTracks", unfollowed := true, recurses := true, apart := false }
def GraphTracksSaid : Prop := graphTracksRow.holds Try.pinned (OpenSpec.ofChange graphTracksSpec)

/-- ITS FALSE NEIGHBOUR: 'it returns false'. Refute it at one input. -/
def graphTracksWrong : ChangeSpec := { name := "graphTracks", fn := fun _ => fun
  | [d1, d2] => { results := [.lit (.bool false)], args := [d1, d2] }
  | _ => none }
def GraphTracksWrongFalsely : Prop := graphTracksRow.holds Try.pinned (OpenSpec.ofChange graphTracksWrong)

/-- 'baliselaw05.GraphNeeds': WHATEVER THE INPUT: true; the input reads as it did. -/
def graphNeedsSpec : ChangeSpec := { name := "graphNeeds", fn := fun _ => fun
  | [d1, d2, d3] => { results := [.lit (.bool true)], args := [d1, d2, d3] }
  | _ => none }
def graphNeedsRow : OpenClaim := { program := "ytmkdhpjidhbijaa", sum := "723dd95d5b6fd87f5a00c121cb18b02ed5975679b5bc6e164725457e469871c6", func := "balise/baliselaw05.GraphNeeds", spec := "graphNeeds", unfollowed := true, recurses := true, apart := false }
def GraphNeedsSaid : Prop := graphNeedsRow.holds Try.pinned (OpenSpec.ofChange graphNeedsSpec)

/-- ITS FALSE NEIGHBOUR: 'it returns false'. Refute it at one input. -/
def graphNeedsWrong : ChangeSpec := { name := "graphNeeds", fn := fun _ => fun
  | [d1, d2, d3] => { results := [.lit (.bool false)], args := [d1, d2, d3] }
  | _ => none }
def GraphNeedsWrongFalsely : Prop := graphNeedsRow.holds Try.pinned (OpenSpec.ofChange graphNeedsWrong)

/-- 'baliselaw05.GraphNil': WHATEVER THE INPUT: true; the input reads as it did. -/
def graphNilSpec : ChangeSpec := { name := "graphNil", fn := fun _ => fun
  | [d1, d2, d3] => { results := [.lit (.bool true)], args := [d1, d2, d3] }
  | _ => none }
def graphNilRow : OpenClaim := { program := "ytmkdhpjidhbijaa", sum := "723dd95d5b6fd87f5a00c121cb18b02ed5975679b5bc6e164725457e469871c6", func := "balise/baliselaw05.GraphNil", spec := "graphNil", unfollowed := true, recurses := true, apart := false }
def GraphNilSaid : Prop := graphNilRow.holds Try.pinned (OpenSpec.ofChange graphNilSpec)

/-- ITS FALSE NEIGHBOUR: 'it returns false'. Refute it at one input. -/
def graphNilWrong : ChangeSpec := { name := "graphNil", fn := fun _ => fun
  | [d1, d2, d3] => { results := [.lit (.bool false)], args := [d1, d2, d3] }
  | _ => none }
def GraphNilWrongFalsely : Prop := graphNilRow.holds Try.pinned (OpenSpec.ofChange graphNilWrong)

/- THE SECOND FORM. 'bulk': how many values and letters a reading holds, each counted each time it is reached (what is shared counts as often as it is met; a slice's spare places count too). A statement '..UptoSaid' is the law's where the arguments, and the package variables that the reading takes, are together of bulk at most 1048576: NARROWER than '..Said'. Prove '..Said' where nothing that the law and all that it calls make is longer than what came in: it says more and counts as full. Else prove '..UptoSaid'. A law counts once. -/
mutual
def uptoBulk {H : Type} : DataW H → Nat
  | .lit (.string bytes) => bytes.length + 1
  | .lit _ => 1
  | .nil => 1
  | .ptr d => uptoBulk d + 1
  | .slice elems spare => uptoBulkAll elems + uptoBulkAll spare + 1
  | .agg parts => uptoBulkAll parts + 1
  | .iface _ d => uptoBulk d + 1
  | .map entries => uptoBulkEntries entries + 1
  | .held _ => 1
def uptoBulkAll {H : Type} : List (DataW H) → Nat
  | [] => 0
  | d :: r => uptoBulk d + uptoBulkAll r
def uptoBulkEntries {H : Type} : List (Lit × DataW H) → Nat
  | [] => 0
  | x :: r => uptoBulkEntry x + uptoBulkEntries r
def uptoBulkEntry {H : Type} : Lit × DataW H → Nat
  | (.string bytes, d) => bytes.length + uptoBulk d + 1
  | (_, d) => uptoBulk d + 1
 end
def uptoSmall : (H : Type) → List (DataW H) → Bool := fun _ ds => decide (uptoBulkAll ds ≤ 1048576)
def OpenSpec.upto (s : _root_.Go.ChangeSpec) : _root_.Go.OpenSpec := { _root_.Go.OpenSpec.ofChange s with cond := some uptoSmall }

/-- 'baliselaw10.TrainFits', WHERE WHAT IT READS IS OF BULK AT MOST 1048576: true; the input reads as it did. -/
def trainFitsUptoRow : OpenClaim := { program := "ytmkdhpjidhbijaa", sum := "723dd95d5b6fd87f5a00c121cb18b02ed5975679b5bc6e164725457e469871c6", func := "balise/baliselaw10.TrainFits", spec := "trainFits", unfollowed := true, recurses := true, apart := false, narrowed := true }
def TrainFitsUptoSaid : Prop := trainFitsUptoRow.holds Try.pinned (OpenSpec.upto trainFitsSpec)

/-- 'baliselaw10.TrainStale', WHERE WHAT IT READS IS OF BULK AT MOST 1048576: true; the input reads as it did. -/
def trainStaleUptoRow : OpenClaim := { program := "ytmkdhpjidhbijaa", sum := "723dd95d5b6fd87f5a00c121cb18b02ed5975679b5bc6e164725457e469871c6", func := "balise/baliselaw10.TrainStale", spec := "trainStale", unfollowed := true, recurses := true, apart := false, narrowed := true }
def TrainStaleUptoSaid : Prop := trainStaleUptoRow.holds Try.pinned (OpenSpec.upto trainStaleSpec)

/-- 'baliselaw10.TrainWhole', WHERE WHAT IT READS IS OF BULK AT MOST 1048576: true; the input reads as it did. -/
def trainWholeUptoRow : OpenClaim := { program := "ytmkdhpjidhbijaa", sum := "723dd95d5b6fd87f5a00c121cb18b02ed5975679b5bc6e164725457e469871c6", func := "balise/baliselaw10.TrainWhole", spec := "trainWhole", unfollowed := true, recurses := true, apart := false, narrowed := true }
def TrainWholeUptoSaid : Prop := trainWholeUptoRow.holds Try.pinned (OpenSpec.upto trainWholeSpec)

/-- 'baliselaw18.WorldGoes', WHERE WHAT IT READS IS OF BULK AT MOST 1048576: true; the input reads as it did. -/
def worldGoesUptoRow : OpenClaim := { program := "ytmkdhpjidhbijaa", sum := "723dd95d5b6fd87f5a00c121cb18b02ed5975679b5bc6e164725457e469871c6", func := "balise/baliselaw18.WorldGoes", spec := "worldGoes", inPlace := ["slices.overlaps[balise/api.End]"], unfollowed := true, recurses := true, apart := false, narrowed := true }
def WorldGoesUptoSaid : Prop := worldGoesUptoRow.holds Try.pinned (OpenSpec.upto worldGoesSpec)

/-- 'baliselaw10.TrainFull', WHERE WHAT IT READS IS OF BULK AT MOST 1048576: true; the input reads as it did. -/
def trainFullUptoRow : OpenClaim := { program := "ytmkdhpjidhbijaa", sum := "723dd95d5b6fd87f5a00c121cb18b02ed5975679b5bc6e164725457e469871c6", func := "balise/baliselaw10.TrainFull", spec := "trainFull", unfollowed := true, recurses := true, apart := false, narrowed := true }
def TrainFullUptoSaid : Prop := trainFullUptoRow.holds Try.pinned (OpenSpec.upto trainFullSpec)

/-- 'baliselaw10.TrainSilent', WHERE WHAT IT READS IS OF BULK AT MOST 1048576: true; the input reads as it did. -/
def trainSilentUptoRow : OpenClaim := { program := "ytmkdhpjidhbijaa", sum := "723dd95d5b6fd87f5a00c121cb18b02ed5975679b5bc6e164725457e469871c6", func := "balise/baliselaw10.TrainSilent", spec := "trainSilent", unfollowed := true, recurses := true, apart := false, narrowed := true }
def TrainSilentUptoSaid : Prop := trainSilentUptoRow.holds Try.pinned (OpenSpec.upto trainSilentSpec)

/-- 'baliselaw05.GraphBack', WHERE WHAT IT READS IS OF BULK AT MOST 1048576: true; the input reads as it did. -/
def graphBackUptoRow : OpenClaim := { program := "ytmkdhpjidhbijaa", sum := "723dd95d5b6fd87f5a00c121cb18b02ed5975679b5bc6e164725457e469871c6", func := "balise/baliselaw05.GraphBack", spec := "graphBack", unfollowed := true, recurses := true, apart := false, narrowed := true }
def GraphBackUptoSaid : Prop := graphBackUptoRow.holds Try.pinned (OpenSpec.upto graphBackSpec)

/-- 'baliselaw05.GraphEnds', WHERE WHAT IT READS IS OF BULK AT MOST 1048576: true; the input reads as it did. -/
def graphEndsUptoRow : OpenClaim := { program := "ytmkdhpjidhbijaa", sum := "723dd95d5b6fd87f5a00c121cb18b02ed5975679b5bc6e164725457e469871c6", func := "balise/baliselaw05.GraphEnds", spec := "graphEnds", unfollowed := true, recurses := true, apart := false, narrowed := true }
def GraphEndsUptoSaid : Prop := graphEndsUptoRow.holds Try.pinned (OpenSpec.upto graphEndsSpec)

/-- 'baliselaw05.GraphPaths', WHERE WHAT IT READS IS OF BULK AT MOST 1048576: true; the input reads as it did. -/
def graphPathsUptoRow : OpenClaim := { program := "ytmkdhpjidhbijaa", sum := "723dd95d5b6fd87f5a00c121cb18b02ed5975679b5bc6e164725457e469871c6", func := "balise/baliselaw05.GraphPaths", spec := "graphPaths", unfollowed := true, recurses := true, apart := false, narrowed := true }
def GraphPathsUptoSaid : Prop := graphPathsUptoRow.holds Try.pinned (OpenSpec.upto graphPathsSpec)

/-- 'baliselaw05.GraphTracks', WHERE WHAT IT READS IS OF BULK AT MOST 1048576: true; the input reads as it did. -/
def graphTracksUptoRow : OpenClaim := { program := "ytmkdhpjidhbijaa", sum := "723dd95d5b6fd87f5a00c121cb18b02ed5975679b5bc6e164725457e469871c6", func := "balise/baliselaw05.GraphTracks", spec := "graphTracks", unfollowed := true, recurses := true, apart := false, narrowed := true }
def GraphTracksUptoSaid : Prop := graphTracksUptoRow.holds Try.pinned (OpenSpec.upto graphTracksSpec)

/-- 'baliselaw05.GraphNeeds', WHERE WHAT IT READS IS OF BULK AT MOST 1048576: true; the input reads as it did. -/
def graphNeedsUptoRow : OpenClaim := { program := "ytmkdhpjidhbijaa", sum := "723dd95d5b6fd87f5a00c121cb18b02ed5975679b5bc6e164725457e469871c6", func := "balise/baliselaw05.GraphNeeds", spec := "graphNeeds", unfollowed := true, recurses := true, apart := false, narrowed := true }
def GraphNeedsUptoSaid : Prop := graphNeedsUptoRow.holds Try.pinned (OpenSpec.upto graphNeedsSpec)

/-- 'baliselaw05.GraphNil', WHERE WHAT IT READS IS OF BULK AT MOST 1048576: true; the input reads as it did. -/
def graphNilUptoRow : OpenClaim := { program := "ytmkdhpjidhbijaa", sum := "723dd95d5b6fd87f5a00c121cb18b02ed5975679b5bc6e164725457e469871c6", func := "balise/baliselaw05.GraphNil", spec := "graphNil", unfollowed := true, recurses := true, apart := false, narrowed := true }
def GraphNilUptoSaid : Prop := graphNilUptoRow.holds Try.pinned (OpenSpec.upto graphNilSpec)

end Rows
end Go.Proofs.Ytmkdhpjidhbijaa
