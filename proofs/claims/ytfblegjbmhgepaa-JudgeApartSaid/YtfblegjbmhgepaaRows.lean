/-
  No cell of these rows narrows 'for every input' (looked for: loops, veiled, ifaces, maps, wideKeys, modest, calm, conditions, laid).
  DERIVED. THE GIVEN ROWS OF THIS SEAT. 11 by the template 'for every input the law returns true; each argument reads behind the call as it read before'; 0 by the template 'total and deterministic' (their statements: YtfblegjbmhgepaaTotals.lean).
  GIVEN WITH THE SEED: the statements are not yours to turn. If you find one false, say at which input.
  Laid BY PROGRAM, IN A SANDBOX (cutbox-rows.mjs): the forced cells as the released guide's own fill.sh prints them over the translation e576ddf5c3ec790b… (all of the seat's roots in one cut). By AI agents, Wed Nov 11 2026. No macro, syntax, notation, axiom, sorry.
-/
import Derived.Test.YtfblegjbmhgepaaChecked
import GoSem.Claim
import GoSem.ClaimJoined
import GoSem.ClaimMapViews
import Derived.JoinedTies
import Derived.KernelRfl
namespace Go.Proofs.Ytfblegjbmhgepaa
/- THE CELL 'sum', in the pinned program and in every row, IS THE sha256 OF THE DUMP (.gsa) THAT YtfblegjbmhgepaaProg.lean LOADS. Nothing in Lean hashes anything: it is a label: what it is worth is what the hold of that sum in a sandbox is worth. -/
noncomputable def Try.pinned : Pinned := { name := "ytfblegjbmhgepaa", sum := "e576ddf5c3ec790b47f0126e194456197cd8ee8aeedb3a6cb4a694676615a1b1", checked := Try.checked }
namespace Rows
def none {H : Type} : Left H := { results := [], args := [] }

/-- 'baliselaw20.JudgeSafe': WHATEVER THE INPUT: true; the input reads as it did. -/
def judgeSafeSpec : ChangeSpec := { name := "judgeSafe", fn := fun _ => fun
  | [d1, d2] => { results := [.lit (.bool true)], args := [d1, d2] }
  | _ => none }
def judgeSafeRow : OpenClaim := { program := "ytfblegjbmhgepaa", sum := "e576ddf5c3ec790b47f0126e194456197cd8ee8aeedb3a6cb4a694676615a1b1", func := "balise/baliselaw20.JudgeSafe", spec := "judgeSafe", unfollowed := true, recurses := true, apart := false }
def JudgeSafeSaid : Prop := judgeSafeRow.holds Try.pinned (OpenSpec.ofChange judgeSafeSpec)

/-- ITS FALSE NEIGHBOUR: 'it returns false'. Refute it at one input. -/
def judgeSafeWrong : ChangeSpec := { name := "judgeSafe", fn := fun _ => fun
  | [d1, d2] => { results := [.lit (.bool false)], args := [d1, d2] }
  | _ => none }
def JudgeSafeWrongFalsely : Prop := judgeSafeRow.holds Try.pinned (OpenSpec.ofChange judgeSafeWrong)

/-- 'baliselaw20.JudgeFalse': WHATEVER THE INPUT: true; the input reads as it did. -/
def judgeFalseSpec : ChangeSpec := { name := "judgeFalse", fn := fun _ => fun
  | [d1, d2] => { results := [.lit (.bool true)], args := [d1, d2] }
  | _ => none }
def judgeFalseRow : OpenClaim := { program := "ytfblegjbmhgepaa", sum := "e576ddf5c3ec790b47f0126e194456197cd8ee8aeedb3a6cb4a694676615a1b1", func := "balise/baliselaw20.JudgeFalse", spec := "judgeFalse", unfollowed := true, recurses := true, apart := false }
def JudgeFalseSaid : Prop := judgeFalseRow.holds Try.pinned (OpenSpec.ofChange judgeFalseSpec)

/-- ITS FALSE NEIGHBOUR: 'it returns false'. Refute it at one input. -/
def judgeFalseWrong : ChangeSpec := { name := "judgeFalse", fn := fun _ => fun
  | [d1, d2] => { results := [.lit (.bool false)], args := [d1, d2] }
  | _ => none }
def JudgeFalseWrongFalsely : Prop := judgeFalseRow.holds Try.pinned (OpenSpec.ofChange judgeFalseWrong)

/-- 'baliselaw20.JudgeSole': WHATEVER THE INPUT: true; the input reads as it did. -/
def judgeSoleSpec : ChangeSpec := { name := "judgeSole", fn := fun _ => fun
  | [d1, d2, d3, d4] => { results := [.lit (.bool true)], args := [d1, d2, d3, d4] }
  | _ => none }
def judgeSoleRow : OpenClaim := { program := "ytfblegjbmhgepaa", sum := "e576ddf5c3ec790b47f0126e194456197cd8ee8aeedb3a6cb4a694676615a1b1", func := "balise/baliselaw20.JudgeSole", spec := "judgeSole", unfollowed := true, recurses := true, apart := false }
def JudgeSoleSaid : Prop := judgeSoleRow.holds Try.pinned (OpenSpec.ofChange judgeSoleSpec)

/-- ITS FALSE NEIGHBOUR: 'it returns false'. Refute it at one input. -/
def judgeSoleWrong : ChangeSpec := { name := "judgeSole", fn := fun _ => fun
  | [d1, d2, d3, d4] => { results := [.lit (.bool false)], args := [d1, d2, d3, d4] }
  | _ => none }
def JudgeSoleWrongFalsely : Prop := judgeSoleRow.holds Try.pinned (OpenSpec.ofChange judgeSoleWrong)

/-- 'baliselaw20.JudgeStill': WHATEVER THE INPUT: true; the input reads as it did. -/
def judgeStillSpec : ChangeSpec := { name := "judgeStill", fn := fun _ => fun
  | [d1, d2, d3, d4, d5] => { results := [.lit (.bool true)], args := [d1, d2, d3, d4, d5] }
  | _ => none }
def judgeStillRow : OpenClaim := { program := "ytfblegjbmhgepaa", sum := "e576ddf5c3ec790b47f0126e194456197cd8ee8aeedb3a6cb4a694676615a1b1", func := "balise/baliselaw20.JudgeStill", spec := "judgeStill", unfollowed := true, recurses := true, apart := false }
def JudgeStillSaid : Prop := judgeStillRow.holds Try.pinned (OpenSpec.ofChange judgeStillSpec)

/-- ITS FALSE NEIGHBOUR: 'it returns false'. Refute it at one input. -/
def judgeStillWrong : ChangeSpec := { name := "judgeStill", fn := fun _ => fun
  | [d1, d2, d3, d4, d5] => { results := [.lit (.bool false)], args := [d1, d2, d3, d4, d5] }
  | _ => none }
def JudgeStillWrongFalsely : Prop := judgeStillRow.holds Try.pinned (OpenSpec.ofChange judgeStillWrong)

/-- 'baliselaw20.JudgeApart': WHATEVER THE INPUT: true; the input reads as it did. -/
def judgeApartSpec : ChangeSpec := { name := "judgeApart", fn := fun _ => fun
  | [d] => { results := [.lit (.bool true)], args := [d] }
  | _ => none }
def judgeApartRow : OpenClaim := { program := "ytfblegjbmhgepaa", sum := "e576ddf5c3ec790b47f0126e194456197cd8ee8aeedb3a6cb4a694676615a1b1", func := "balise/baliselaw20.JudgeApart", spec := "judgeApart", unfollowed := true, recurses := true, apart := false }
def JudgeApartSaid : Prop := judgeApartRow.holds Try.pinned (OpenSpec.ofChange judgeApartSpec)

/-- ITS FALSE NEIGHBOUR: 'it returns false'. Refute it at one input. -/
def judgeApartWrong : ChangeSpec := { name := "judgeApart", fn := fun _ => fun
  | [d] => { results := [.lit (.bool false)], args := [d] }
  | _ => none }
def JudgeApartWrongFalsely : Prop := judgeApartRow.holds Try.pinned (OpenSpec.ofChange judgeApartWrong)

/-- 'baliselaw18.WorldGoes': WHATEVER THE INPUT: true; the input reads as it did. -/
def worldGoesSpec : ChangeSpec := { name := "worldGoes", fn := fun _ => fun
  | [d1, d2, d3, d4, d5] => { results := [.lit (.bool true)], args := [d1, d2, d3, d4, d5] }
  | _ => none }
def worldGoesRow : OpenClaim := { program := "ytfblegjbmhgepaa", sum := "e576ddf5c3ec790b47f0126e194456197cd8ee8aeedb3a6cb4a694676615a1b1", func := "balise/baliselaw18.WorldGoes", spec := "worldGoes", inPlace := ["slices.overlaps[balise/api.End]"], unfollowed := true, recurses := true, apart := false }
def WorldGoesSaid : Prop := worldGoesRow.holds Try.pinned (OpenSpec.ofChange worldGoesSpec)

/-- ITS FALSE NEIGHBOUR: 'it returns false'. Refute it at one input. -/
def worldGoesWrong : ChangeSpec := { name := "worldGoes", fn := fun _ => fun
  | [d1, d2, d3, d4, d5] => { results := [.lit (.bool false)], args := [d1, d2, d3, d4, d5] }
  | _ => none }
def WorldGoesWrongFalsely : Prop := worldGoesRow.holds Try.pinned (OpenSpec.ofChange worldGoesWrong)

/-- 'baliselaw18.WorldSplits': WHATEVER THE INPUT: true; the input reads as it did. -/
def worldSplitsSpec : ChangeSpec := { name := "worldSplits", fn := fun _ => fun
  | [d1, d2, d3, d4, d5] => { results := [.lit (.bool true)], args := [d1, d2, d3, d4, d5] }
  | _ => none }
def worldSplitsRow : OpenClaim := { program := "ytfblegjbmhgepaa", sum := "e576ddf5c3ec790b47f0126e194456197cd8ee8aeedb3a6cb4a694676615a1b1", func := "balise/baliselaw18.WorldSplits", spec := "worldSplits", inPlace := ["slices.overlaps[balise/api.End]"], unfollowed := true, recurses := true, apart := false }
def WorldSplitsSaid : Prop := worldSplitsRow.holds Try.pinned (OpenSpec.ofChange worldSplitsSpec)

/-- ITS FALSE NEIGHBOUR: 'it returns false'. Refute it at one input. -/
def worldSplitsWrong : ChangeSpec := { name := "worldSplits", fn := fun _ => fun
  | [d1, d2, d3, d4, d5] => { results := [.lit (.bool false)], args := [d1, d2, d3, d4, d5] }
  | _ => none }
def WorldSplitsWrongFalsely : Prop := worldSplitsRow.holds Try.pinned (OpenSpec.ofChange worldSplitsWrong)

/-- 'baliselaw18.WorldErrs': WHATEVER THE INPUT: true; the input reads as it did. -/
def worldErrsSpec : ChangeSpec := { name := "worldErrs", fn := fun _ => fun
  | [d1, d2, d3] => { results := [.lit (.bool true)], args := [d1, d2, d3] }
  | _ => none }
def worldErrsRow : OpenClaim := { program := "ytfblegjbmhgepaa", sum := "e576ddf5c3ec790b47f0126e194456197cd8ee8aeedb3a6cb4a694676615a1b1", func := "balise/baliselaw18.WorldErrs", spec := "worldErrs", inPlace := ["slices.overlaps[balise/api.End]"], unfollowed := true, recurses := true, apart := false }
def WorldErrsSaid : Prop := worldErrsRow.holds Try.pinned (OpenSpec.ofChange worldErrsSpec)

/-- ITS FALSE NEIGHBOUR: 'it returns false'. Refute it at one input. -/
def worldErrsWrong : ChangeSpec := { name := "worldErrs", fn := fun _ => fun
  | [d1, d2, d3] => { results := [.lit (.bool false)], args := [d1, d2, d3] }
  | _ => none }
def WorldErrsWrongFalsely : Prop := worldErrsRow.holds Try.pinned (OpenSpec.ofChange worldErrsWrong)

/-- 'baliselaw18.WorldStays': WHATEVER THE INPUT: true; the input reads as it did. -/
def worldStaysSpec : ChangeSpec := { name := "worldStays", fn := fun _ => fun
  | [d1, d2, d3, d4, d5, d6] => { results := [.lit (.bool true)], args := [d1, d2, d3, d4, d5, d6] }
  | _ => none }
def worldStaysRow : OpenClaim := { program := "ytfblegjbmhgepaa", sum := "e576ddf5c3ec790b47f0126e194456197cd8ee8aeedb3a6cb4a694676615a1b1", func := "balise/baliselaw18.WorldStays", spec := "worldStays", inPlace := ["slices.overlaps[balise/api.End]"], unfollowed := true, recurses := true, apart := false }
def WorldStaysSaid : Prop := worldStaysRow.holds Try.pinned (OpenSpec.ofChange worldStaysSpec)

/-- ITS FALSE NEIGHBOUR: 'it returns false'. Refute it at one input. -/
def worldStaysWrong : ChangeSpec := { name := "worldStays", fn := fun _ => fun
  | [d1, d2, d3, d4, d5, d6] => { results := [.lit (.bool false)], args := [d1, d2, d3, d4, d5, d6] }
  | _ => none }
def WorldStaysWrongFalsely : Prop := worldStaysRow.holds Try.pinned (OpenSpec.ofChange worldStaysWrong)

/-- 'baliselaw18.WorldTrue': WHATEVER THE INPUT: true; the input reads as it did. -/
def worldTrueSpec : ChangeSpec := { name := "worldTrue", fn := fun _ => fun
  | [d1, d2, d3, d4] => { results := [.lit (.bool true)], args := [d1, d2, d3, d4] }
  | _ => none }
def worldTrueRow : OpenClaim := { program := "ytfblegjbmhgepaa", sum := "e576ddf5c3ec790b47f0126e194456197cd8ee8aeedb3a6cb4a694676615a1b1", func := "balise/baliselaw18.WorldTrue", spec := "worldTrue", inPlace := ["slices.overlaps[balise/api.End]"], unfollowed := true, recurses := true, apart := false }
def WorldTrueSaid : Prop := worldTrueRow.holds Try.pinned (OpenSpec.ofChange worldTrueSpec)

/-- ITS FALSE NEIGHBOUR: 'it returns false'. Refute it at one input. -/
def worldTrueWrong : ChangeSpec := { name := "worldTrue", fn := fun _ => fun
  | [d1, d2, d3, d4] => { results := [.lit (.bool false)], args := [d1, d2, d3, d4] }
  | _ => none }
def WorldTrueWrongFalsely : Prop := worldTrueRow.holds Try.pinned (OpenSpec.ofChange worldTrueWrong)

/-- 'baliselaw18.WorldNil': WHATEVER THE INPUT: true; the input reads as it did. -/
def worldNilSpec : ChangeSpec := { name := "worldNil", fn := fun _ => fun
  | [d1, d2] => { results := [.lit (.bool true)], args := [d1, d2] }
  | _ => none }
def worldNilRow : OpenClaim := { program := "ytfblegjbmhgepaa", sum := "e576ddf5c3ec790b47f0126e194456197cd8ee8aeedb3a6cb4a694676615a1b1", func := "balise/baliselaw18.WorldNil", spec := "worldNil", inPlace := ["slices.overlaps[balise/api.End]"], unfollowed := true, recurses := true, apart := false }
def WorldNilSaid : Prop := worldNilRow.holds Try.pinned (OpenSpec.ofChange worldNilSpec)

/-- ITS FALSE NEIGHBOUR: 'it returns false'. Refute it at one input. -/
def worldNilWrong : ChangeSpec := { name := "worldNil", fn := fun _ => fun
  | [d1, d2] => { results := [.lit (.bool false)], args := [d1, d2] }
  | _ => none }
def WorldNilWrongFalsely : Prop := worldNilRow.holds Try.pinned (OpenSpec.ofChange worldNilWrong)

/- THE SECOND FORM. 'bulk': how many values and letters a reading holds, each counted each time it is reached (what is shared counts as often as it is met; a slice's spare places count too). A statement '..UptoSaid' is the law's where the arguments, and the package variables that the reading takes, are together of bulk at most 1048576: NARROWER than '..Said'. Prove '..Said' where nothing that the law and all that it calls make is longer than what came in: it says more and counts as full. Else prove '..UptoSaid'. A law counts once. -/
mutual
def uptoBulk {H : Type} : DataW H → Nat
  | .lit (.string bytes) => bytes.length + 1
  | .lit _ => 1
  | .nil => 1
  | .ptr d => uptoBulk d + 1
  | .slice elems spare => uptoBulkAll elems + uptoBulkAll spare + 1
  | .agg parts => uptoBulkAll parts + 1
  | .iface _ d => uptoBulk d + 1
  | .map entries => uptoBulkEntries entries + 1
  | .held _ => 1
def uptoBulkAll {H : Type} : List (DataW H) → Nat
  | [] => 0
  | d :: r => uptoBulk d + uptoBulkAll r
def uptoBulkEntries {H : Type} : List (Lit × DataW H) → Nat
  | [] => 0
  | x :: r => uptoBulkEntry x + uptoBulkEntries r
def uptoBulkEntry {H : Type} : Lit × DataW H → Nat
  | (.string bytes, d) => bytes.length + uptoBulk d + 1
  | (_, d) => uptoBulk d + 1
 end
def uptoSmall : (H : Type) → List (DataW H) → Bool := fun _ ds => decide (uptoBulkAll ds ≤ 1048576)
def OpenSpec.upto (s : _root_.Go.ChangeSpec) : _root_.Go.OpenSpec := { _root_.Go.OpenSpec.ofChange s with cond := some uptoSmall }

/-- 'baliselaw20.JudgeSafe', WHERE WHAT IT READS IS OF BULK AT MOST 1048576: true; the input reads as it did. -/
def judgeSafeUptoRow : OpenClaim := { program := "ytfblegjbmhgepaa", sum := "e576ddf5c3ec790b47f0126e194456197cd8ee8aeedb3a6cb4a694676615a1b1", func := "balise/baliselaw20.JudgeSafe", spec := "judgeSafe", unfollowed := true, recurses := true, apart := false, narrowed := true }
def JudgeSafeUptoSaid : Prop := judgeSafeUptoRow.holds Try.pinned (OpenSpec.upto judgeSafeSpec)

/-- 'baliselaw20.JudgeFalse', WHERE WHAT IT READS IS OF BULK AT MOST 1048576: true; the input reads as it did. -/
def judgeFalseUptoRow : OpenClaim := { program := "ytfblegjbmhgepaa", sum := "e576ddf5c3ec790b47f0126e194456197cd8ee8aeedb3a6cb4a694676615a1b1", func := "balise/baliselaw20.JudgeFalse", spec := "judgeFalse", unfollowed := true, recurses := true, apart := false, narrowed := true }
def JudgeFalseUptoSaid : Prop := judgeFalseUptoRow.holds Try.pinned (OpenSpec.upto judgeFalseSpec)

/-- 'baliselaw20.JudgeSole', WHERE WHAT IT READS IS OF BULK AT MOST 1048576: true; the input reads as it did. -/
def judgeSoleUptoRow : OpenClaim := { program := "ytfblegjbmhgepaa", sum := "e576ddf5c3ec790b47f0126e194456197cd8ee8aeedb3a6cb4a694676615a1b1", func := "balise/baliselaw20.JudgeSole", spec := "judgeSole", unfollowed := true, recurses := true, apart := false, narrowed := true }
def JudgeSoleUptoSaid : Prop := judgeSoleUptoRow.holds Try.pinned (OpenSpec.upto judgeSoleSpec)

/-- 'baliselaw20.JudgeStill', WHERE WHAT IT READS IS OF BULK AT MOST 1048576: true; the input reads as it did. -/
def judgeStillUptoRow : OpenClaim := { program := "ytfblegjbmhgepaa", sum := "e576ddf5c3ec790b47f0126e194456197cd8ee8aeedb3a6cb4a694676615a1b1", func := "balise/baliselaw20.JudgeStill", spec := "judgeStill", unfollowed := true, recurses := true, apart := false, narrowed := true }
def JudgeStillUptoSaid : Prop := judgeStillUptoRow.holds Try.pinned (OpenSpec.upto judgeStillSpec)

/-- 'baliselaw20.JudgeApart', WHERE WHAT IT READS IS OF BULK AT MOST 1048576: true; the input reads as it did. -/
def judgeApartUptoRow : OpenClaim := { program := "ytfblegjbmhgepaa", sum := "e576ddf5c3ec790b47f0126e194456197cd8ee8aeedb3a6cb4a694676615a1b1", func := "balise/baliselaw20.JudgeApart", spec := "judgeApart", unfollowed := true, recurses := true, apart := false, narrowed := true }
def JudgeApartUptoSaid : Prop := judgeApartUptoRow.holds Try.pinned (OpenSpec.upto judgeApartSpec)

/-- 'baliselaw18.WorldGoes', WHERE WHAT IT READS IS OF BULK AT MOST 1048576: true; the input reads as it did. -/
def worldGoesUptoRow : OpenClaim := { program := "ytfblegjbmhgepaa", sum := "e576ddf5c3ec790b47f0126e194456197cd8ee8aeedb3a6cb4a694676615a1b1", func := "balise/baliselaw18.WorldGoes", spec := "worldGoes", inPlace := ["slices.overlaps[balise/api.End]"], unfollowed := true, recurses := true, apart := false, narrowed := true }
def WorldGoesUptoSaid : Prop := worldGoesUptoRow.holds Try.pinned (OpenSpec.upto worldGoesSpec)

/-- 'baliselaw18.WorldSplits', WHERE WHAT IT READS IS OF BULK AT MOST 1048576: true; the input reads as it did. -/
def worldSplitsUptoRow : OpenClaim := { program := "ytfblegjbmhgepaa", sum := "e576ddf5c3ec790b47f0126e194456197cd8ee8aeedb3a6cb4a694676615a1b1", func := "balise/baliselaw18.WorldSplits", spec := "worldSplits", inPlace := ["slices.overlaps[balise/api.End]"], unfollowed := true, recurses := true, apart := false, narrowed := true }
def WorldSplitsUptoSaid : Prop := worldSplitsUptoRow.holds Try.pinned (OpenSpec.upto worldSplitsSpec)

/-- 'baliselaw18.WorldErrs', WHERE WHAT IT READS IS OF BULK AT MOST 1048576: true; the input reads as it did. -/
def worldErrsUptoRow : OpenClaim := { program := "ytfblegjbmhgepaa", sum := "e576ddf5c3ec790b47f0126e194456197cd8ee8aeedb3a6cb4a694676615a1b1", func := "balise/baliselaw18.WorldErrs", spec := "worldErrs", inPlace := ["slices.overlaps[balise/api.End]"], unfollowed := true, recurses := true, apart := false, narrowed := true }
def WorldErrsUptoSaid : Prop := worldErrsUptoRow.holds Try.pinned (OpenSpec.upto worldErrsSpec)

/-- 'baliselaw18.WorldStays', WHERE WHAT IT READS IS OF BULK AT MOST 1048576: true; the input reads as it did. -/
def worldStaysUptoRow : OpenClaim := { program := "ytfblegjbmhgepaa", sum := "e576ddf5c3ec790b47f0126e194456197cd8ee8aeedb3a6cb4a694676615a1b1", func := "balise/baliselaw18.WorldStays", spec := "worldStays", inPlace := ["slices.overlaps[balise/api.End]"], unfollowed := true, recurses := true, apart := false, narrowed := true }
def WorldStaysUptoSaid : Prop := worldStaysUptoRow.holds Try.pinned (OpenSpec.upto worldStaysSpec)

/-- 'baliselaw18.WorldTrue', WHERE WHAT IT READS IS OF BULK AT MOST 1048576: true; the input reads as it did. -/
def worldTrueUptoRow : OpenClaim := { program := "ytfblegjbmhgepaa", sum := "e576ddf5c3ec790b47f0126e194456197cd8ee8aeedb3a6cb4a694676615a1b1", func := "balise/baliselaw18.WorldTrue", spec := "worldTrue", inPlace := ["slices.overlaps[balise/api.End]"], unfollowed := true, recurses := true, apart := false, narrowed := true }
def WorldTrueUptoSaid : Prop := worldTrueUptoRow.holds Try.pinned (OpenSpec.upto worldTrueSpec)

/-- 'baliselaw18.WorldNil', WHERE WHAT IT READS IS OF BULK AT MOST 1048576: true; the input reads as it did. -/
def worldNilUptoRow : OpenClaim := { program := "ytfblegjbmhgepaa", sum := "e576ddf5c3ec790b47f0126e194456197cd8ee8aeedb3a6cb4a694676615a1b1", func := "balise/baliselaw18.WorldNil", spec := "worldNil", inPlace := ["slices.overlaps[balise/api.End]"], unfollowed := true, recurses := true, apart := false, narrowed := true }
def WorldNilUptoSaid : Prop := worldNilUptoRow.holds Try.pinned (OpenSpec.upto worldNilSpec)

end Rows
end Go.Proofs.Ytfblegjbmhgepaa
