/-
  No cell of these rows narrows 'for every input' (looked for: loops, veiled, ifaces, maps, wideKeys, modest, calm, conditions, laid).
  DERIVED. THE GIVEN ROWS OF THIS SEAT. 12 by the template 'for every input the law returns true; each argument reads behind the call as it read before'; 0 by the template 'total and deterministic' (their statements: YtmjffmghkfappaaTotals.lean).
  GIVEN WITH THE SEED: the statements are not yours to turn. If you find one false, say at which input.
  Laid BY PROGRAM, IN A SANDBOX (cutbox-rows.mjs): the forced cells as the released guide's own fill.sh prints them over the translation 6d28a4a673daaf84… (all of the seat's roots in one cut). By AI agents, Wed Nov 11 2026. No macro, syntax, notation, axiom, sorry.
-/
import Derived.Test.YtmjffmghkfappaaChecked
import GoSem.Claim
import GoSem.ClaimJoined
import GoSem.ClaimMapViews
import Derived.JoinedTies
import Derived.KernelRfl
namespace Go.Proofs.Ytmjffmghkfappaa
/- THE CELL 'sum', in the pinned program and in every row, IS THE sha256 OF THE DUMP (.gsa) THAT YtmjffmghkfappaaProg.lean LOADS. Nothing in Lean hashes anything: it is a label: what it is worth is what the hold of that sum in a sandbox is worth. -/
noncomputable def Try.pinned : Pinned := { name := "ytmjffmghkfappaa", sum := "6d28a4a673daaf8426d0366c4681a569574f5e405bddd352fa8a09483fae9432", checked := Try.checked }
namespace Rows
def none {H : Type} : Left H := { results := [], args := [] }

/-- 'baliselaw12.OwnNext': WHATEVER THE INPUT: true; the input reads as it did. -/
def ownNextSpec : ChangeSpec := { name := "ownNext", fn := fun _ => fun
  | [d1, d2] => { results := [.lit (.bool true)], args := [d1, d2] }
  | _ => none }
def ownNextRow : OpenClaim := { program := "ytmjffmghkfappaa", sum := "6d28a4a673daaf8426d0366c4681a569574f5e405bddd352fa8a09483fae9432", func := "balise/baliselaw12.OwnNext", spec := "ownNext", unfollowed := true, recurses := true, apart := false }
def OwnNextSaid : Prop := ownNextRow.holds Try.pinned (OpenSpec.ofChange ownNextSpec)

/-- ITS FALSE NEIGHBOUR: 'it returns false'. Refute it at one input. -/
def ownNextWrong : ChangeSpec := { name := "ownNext", fn := fun _ => fun
  | [d1, d2] => { results := [.lit (.bool false)], args := [d1, d2] }
  | _ => none }
def OwnNextWrongFalsely : Prop := ownNextRow.holds Try.pinned (OpenSpec.ofChange ownNextWrong)

/-- 'baliselaw12.OwnRuns': WHATEVER THE INPUT: true; the input reads as it did. -/
def ownRunsSpec : ChangeSpec := { name := "ownRuns", fn := fun _ => fun
  | [d1, d2, d3] => { results := [.lit (.bool true)], args := [d1, d2, d3] }
  | _ => none }
def ownRunsRow : OpenClaim := { program := "ytmjffmghkfappaa", sum := "6d28a4a673daaf8426d0366c4681a569574f5e405bddd352fa8a09483fae9432", func := "balise/baliselaw12.OwnRuns", spec := "ownRuns", unfollowed := true, recurses := true, apart := false }
def OwnRunsSaid : Prop := ownRunsRow.holds Try.pinned (OpenSpec.ofChange ownRunsSpec)

/-- ITS FALSE NEIGHBOUR: 'it returns false'. Refute it at one input. -/
def ownRunsWrong : ChangeSpec := { name := "ownRuns", fn := fun _ => fun
  | [d1, d2, d3] => { results := [.lit (.bool false)], args := [d1, d2, d3] }
  | _ => none }
def OwnRunsWrongFalsely : Prop := ownRunsRow.holds Try.pinned (OpenSpec.ofChange ownRunsWrong)

/-- 'baliselaw12.OwnSure': WHATEVER THE INPUT: true; the input reads as it did. -/
def ownSureSpec : ChangeSpec := { name := "ownSure", fn := fun _ => fun
  | [d1, d2] => { results := [.lit (.bool true)], args := [d1, d2] }
  | _ => none }
def ownSureRow : OpenClaim := { program := "ytmjffmghkfappaa", sum := "6d28a4a673daaf8426d0366c4681a569574f5e405bddd352fa8a09483fae9432", func := "balise/baliselaw12.OwnSure", spec := "ownSure", unfollowed := true, recurses := true, apart := false }
def OwnSureSaid : Prop := ownSureRow.holds Try.pinned (OpenSpec.ofChange ownSureSpec)

/-- ITS FALSE NEIGHBOUR: 'it returns false'. Refute it at one input. -/
def ownSureWrong : ChangeSpec := { name := "ownSure", fn := fun _ => fun
  | [d1, d2] => { results := [.lit (.bool false)], args := [d1, d2] }
  | _ => none }
def OwnSureWrongFalsely : Prop := ownSureRow.holds Try.pinned (OpenSpec.ofChange ownSureWrong)

/-- 'baliselaw12.OwnFinds': WHATEVER THE INPUT: true; the input reads as it did. -/
def ownFindsSpec : ChangeSpec := { name := "ownFinds", fn := fun _ => fun
  | [d1, d2] => { results := [.lit (.bool true)], args := [d1, d2] }
  | _ => none }
def ownFindsRow : OpenClaim := { program := "ytmjffmghkfappaa", sum := "6d28a4a673daaf8426d0366c4681a569574f5e405bddd352fa8a09483fae9432", func := "balise/baliselaw12.OwnFinds", spec := "ownFinds", unfollowed := true, recurses := true, apart := false }
def OwnFindsSaid : Prop := ownFindsRow.holds Try.pinned (OpenSpec.ofChange ownFindsSpec)

/-- ITS FALSE NEIGHBOUR: 'it returns false'. Refute it at one input. -/
def ownFindsWrong : ChangeSpec := { name := "ownFinds", fn := fun _ => fun
  | [d1, d2] => { results := [.lit (.bool false)], args := [d1, d2] }
  | _ => none }
def OwnFindsWrongFalsely : Prop := ownFindsRow.holds Try.pinned (OpenSpec.ofChange ownFindsWrong)

/-- 'baliselaw12.OwnClear': WHATEVER THE INPUT: true; the input reads as it did. -/
def ownClearSpec : ChangeSpec := { name := "ownClear", fn := fun _ => fun
  | [d1, d2] => { results := [.lit (.bool true)], args := [d1, d2] }
  | _ => none }
def ownClearRow : OpenClaim := { program := "ytmjffmghkfappaa", sum := "6d28a4a673daaf8426d0366c4681a569574f5e405bddd352fa8a09483fae9432", func := "balise/baliselaw12.OwnClear", spec := "ownClear", unfollowed := true, recurses := true, apart := false }
def OwnClearSaid : Prop := ownClearRow.holds Try.pinned (OpenSpec.ofChange ownClearSpec)

/-- ITS FALSE NEIGHBOUR: 'it returns false'. Refute it at one input. -/
def ownClearWrong : ChangeSpec := { name := "ownClear", fn := fun _ => fun
  | [d1, d2] => { results := [.lit (.bool false)], args := [d1, d2] }
  | _ => none }
def OwnClearWrongFalsely : Prop := ownClearRow.holds Try.pinned (OpenSpec.ofChange ownClearWrong)

/-- 'baliselaw12.OwnStarts': WHATEVER THE INPUT: true; the input reads as it did. -/
def ownStartsSpec : ChangeSpec := { name := "ownStarts", fn := fun _ => fun
  | [d1, d2, d3] => { results := [.lit (.bool true)], args := [d1, d2, d3] }
  | _ => none }
def ownStartsRow : OpenClaim := { program := "ytmjffmghkfappaa", sum := "6d28a4a673daaf8426d0366c4681a569574f5e405bddd352fa8a09483fae9432", func := "balise/baliselaw12.OwnStarts", spec := "ownStarts", unfollowed := true, recurses := true, apart := false }
def OwnStartsSaid : Prop := ownStartsRow.holds Try.pinned (OpenSpec.ofChange ownStartsSpec)

/-- ITS FALSE NEIGHBOUR: 'it returns false'. Refute it at one input. -/
def ownStartsWrong : ChangeSpec := { name := "ownStarts", fn := fun _ => fun
  | [d1, d2, d3] => { results := [.lit (.bool false)], args := [d1, d2, d3] }
  | _ => none }
def OwnStartsWrongFalsely : Prop := ownStartsRow.holds Try.pinned (OpenSpec.ofChange ownStartsWrong)

/-- 'baliselaw12.OwnDeclares': WHATEVER THE INPUT: true; the input reads as it did. -/
def ownDeclaresSpec : ChangeSpec := { name := "ownDeclares", fn := fun _ => fun
  | [d1, d2, d3, d4, d5] => { results := [.lit (.bool true)], args := [d1, d2, d3, d4, d5] }
  | _ => none }
def ownDeclaresRow : OpenClaim := { program := "ytmjffmghkfappaa", sum := "6d28a4a673daaf8426d0366c4681a569574f5e405bddd352fa8a09483fae9432", func := "balise/baliselaw12.OwnDeclares", spec := "ownDeclares", unfollowed := true, recurses := true, apart := false }
def OwnDeclaresSaid : Prop := ownDeclaresRow.holds Try.pinned (OpenSpec.ofChange ownDeclaresSpec)

/-- ITS FALSE NEIGHBOUR: 'it returns false'. Refute it at one input. -/
def ownDeclaresWrong : ChangeSpec := { name := "ownDeclares", fn := fun _ => fun
  | [d1, d2, d3, d4, d5] => { results := [.lit (.bool false)], args := [d1, d2, d3, d4, d5] }
  | _ => none }
def OwnDeclaresWrongFalsely : Prop := ownDeclaresRow.holds Try.pinned (OpenSpec.ofChange ownDeclaresWrong)

/-- 'baliselaw18.WorldErrs': WHATEVER THE INPUT: true; the input reads as it did. -/
def worldErrsSpec : ChangeSpec := { name := "worldErrs", fn := fun _ => fun
  | [d1, d2, d3] => { results := [.lit (.bool true)], args := [d1, d2, d3] }
  | _ => none }
def worldErrsRow : OpenClaim := { program := "ytmjffmghkfappaa", sum := "6d28a4a673daaf8426d0366c4681a569574f5e405bddd352fa8a09483fae9432", func := "balise/baliselaw18.WorldErrs", spec := "worldErrs", inPlace := ["slices.overlaps[balise/api.End]"], unfollowed := true, recurses := true, apart := false }
def WorldErrsSaid : Prop := worldErrsRow.holds Try.pinned (OpenSpec.ofChange worldErrsSpec)

/-- ITS FALSE NEIGHBOUR: 'it returns false'. Refute it at one input. -/
def worldErrsWrong : ChangeSpec := { name := "worldErrs", fn := fun _ => fun
  | [d1, d2, d3] => { results := [.lit (.bool false)], args := [d1, d2, d3] }
  | _ => none }
def WorldErrsWrongFalsely : Prop := worldErrsRow.holds Try.pinned (OpenSpec.ofChange worldErrsWrong)

/-- 'baliselaw18.WorldNil': WHATEVER THE INPUT: true; the input reads as it did. -/
def worldNilSpec : ChangeSpec := { name := "worldNil", fn := fun _ => fun
  | [d1, d2] => { results := [.lit (.bool true)], args := [d1, d2] }
  | _ => none }
def worldNilRow : OpenClaim := { program := "ytmjffmghkfappaa", sum := "6d28a4a673daaf8426d0366c4681a569574f5e405bddd352fa8a09483fae9432", func := "balise/baliselaw18.WorldNil", spec := "worldNil", inPlace := ["slices.overlaps[balise/api.End]"], unfollowed := true, recurses := true, apart := false }
def WorldNilSaid : Prop := worldNilRow.holds Try.pinned (OpenSpec.ofChange worldNilSpec)

/-- ITS FALSE NEIGHBOUR: 'it returns false'. Refute it at one input. -/
def worldNilWrong : ChangeSpec := { name := "worldNil", fn := fun _ => fun
  | [d1, d2] => { results := [.lit (.bool false)], args := [d1, d2] }
  | _ => none }
def WorldNilWrongFalsely : Prop := worldNilRow.holds Try.pinned (OpenSpec.ofChange worldNilWrong)

/-- 'baliselaw18.WorldSplits': WHATEVER THE INPUT: true; the input reads as it did. -/
def worldSplitsSpec : ChangeSpec := { name := "worldSplits", fn := fun _ => fun
  | [d1, d2, d3, d4, d5] => { results := [.lit (.bool true)], args := [d1, d2, d3, d4, d5] }
  | _ => none }
def worldSplitsRow : OpenClaim := { program := "ytmjffmghkfappaa", sum := "6d28a4a673daaf8426d0366c4681a569574f5e405bddd352fa8a09483fae9432", func := "balise/baliselaw18.WorldSplits", spec := "worldSplits", inPlace := ["slices.overlaps[balise/api.End]"], unfollowed := true, recurses := true, apart := false }
def WorldSplitsSaid : Prop := worldSplitsRow.holds Try.pinned (OpenSpec.ofChange worldSplitsSpec)

/-- ITS FALSE NEIGHBOUR: 'it returns false'. Refute it at one input. -/
def worldSplitsWrong : ChangeSpec := { name := "worldSplits", fn := fun _ => fun
  | [d1, d2, d3, d4, d5] => { results := [.lit (.bool false)], args := [d1, d2, d3, d4, d5] }
  | _ => none }
def WorldSplitsWrongFalsely : Prop := worldSplitsRow.holds Try.pinned (OpenSpec.ofChange worldSplitsWrong)

/-- 'baliselaw18.WorldStays': WHATEVER THE INPUT: true; the input reads as it did. -/
def worldStaysSpec : ChangeSpec := { name := "worldStays", fn := fun _ => fun
  | [d1, d2, d3, d4, d5, d6] => { results := [.lit (.bool true)], args := [d1, d2, d3, d4, d5, d6] }
  | _ => none }
def worldStaysRow : OpenClaim := { program := "ytmjffmghkfappaa", sum := "6d28a4a673daaf8426d0366c4681a569574f5e405bddd352fa8a09483fae9432", func := "balise/baliselaw18.WorldStays", spec := "worldStays", inPlace := ["slices.overlaps[balise/api.End]"], unfollowed := true, recurses := true, apart := false }
def WorldStaysSaid : Prop := worldStaysRow.holds Try.pinned (OpenSpec.ofChange worldStaysSpec)

/-- ITS FALSE NEIGHBOUR: 'it returns false'. Refute it at one input. -/
def worldStaysWrong : ChangeSpec := { name := "worldStays", fn := fun _ => fun
  | [d1, d2, d3, d4, d5, d6] => { results := [.lit (.bool false)], args := [d1, d2, d3, d4, d5, d6] }
  | _ => none }
def WorldStaysWrongFalsely : Prop := worldStaysRow.holds Try.pinned (OpenSpec.ofChange worldStaysWrong)

/-- 'baliselaw20.JudgeStill': WHATEVER THE INPUT: true; the input reads as it did. -/
def judgeStillSpec : ChangeSpec := { name := "judgeStill", fn := fun _ => fun
  | [d1, d2, d3, d4, d5] => { results := [.lit (.bool true)], args := [d1, d2, d3, d4, d5] }
  | _ => none }
def judgeStillRow : OpenClaim := { program := "ytmjffmghkfappaa", sum := "6d28a4a673daaf8426d0366c4681a569574f5e405bddd352fa8a09483fae9432", func := "balise/baliselaw20.JudgeStill", spec := "judgeStill", unfollowed := true, recurses := true, apart := false }
def JudgeStillSaid : Prop := judgeStillRow.holds Try.pinned (OpenSpec.ofChange judgeStillSpec)

/-- ITS FALSE NEIGHBOUR: 'it returns false'. Refute it at one input. -/
def judgeStillWrong : ChangeSpec := { name := "judgeStill", fn := fun _ => fun
  | [d1, d2, d3, d4, d5] => { results := [.lit (.bool false)], args := [d1, d2, d3, d4, d5] }
  | _ => none }
def JudgeStillWrongFalsely : Prop := judgeStillRow.holds Try.pinned (OpenSpec.ofChange judgeStillWrong)

/- THE SECOND FORM. 'bulk': how many values and letters a reading holds, each counted each time it is reached (what is shared counts as often as it is met; a slice's spare places count too). A statement '..UptoSaid' is the law's where the arguments, and the package variables that the reading takes, are together of bulk at most 1048576: NARROWER than '..Said'. Prove '..Said' where nothing that the law and all that it calls make is longer than what came in: it says more and counts as full. Else prove '..UptoSaid'. A law counts once. -/
mutual
def uptoBulk {H : Type} : DataW H → Nat
  | .lit (.string bytes) => bytes.length + 1
  | .lit _ => 1
  | .nil => 1
  | .ptr d => uptoBulk d + 1
  | .slice elems spare => uptoBulkAll elems + uptoBulkAll spare + 1
  | .agg parts => uptoBulkAll parts + 1
  | .iface _ d => uptoBulk d + 1
  | .map entries => uptoBulkEntries entries + 1
  | .held _ => 1
def uptoBulkAll {H : Type} : List (DataW H) → Nat
  | [] => 0
  | d :: r => uptoBulk d + uptoBulkAll r
def uptoBulkEntries {H : Type} : List (Lit × DataW H) → Nat
  | [] => 0
  | x :: r => uptoBulkEntry x + uptoBulkEntries r
def uptoBulkEntry {H : Type} : Lit × DataW H → Nat
  | (.string bytes, d) => bytes.length + uptoBulk d + 1
  | (_, d) => uptoBulk d + 1
 end
def uptoSmall : (H : Type) → List (DataW H) → Bool := fun _ ds => decide (uptoBulkAll ds ≤ 1048576)
def OpenSpec.upto (s : _root_.Go.ChangeSpec) : _root_.Go.OpenSpec := { _root_.Go.OpenSpec.ofChange s with cond := some uptoSmall }

/-- 'baliselaw12.OwnNext', WHERE WHAT IT READS IS OF BULK AT MOST 1048576: true; the input reads as it did. -/
def ownNextUptoRow : OpenClaim := { program := "ytmjffmghkfappaa", sum := "6d28a4a673daaf8426d0366c4681a569574f5e405bddd352fa8a09483fae9432", func := "balise/baliselaw12.OwnNext", spec := "ownNext", unfollowed := true, recurses := true, apart := false, narrowed := true }
def OwnNextUptoSaid : Prop := ownNextUptoRow.holds Try.pinned (OpenSpec.upto ownNextSpec)

/-- 'baliselaw12.OwnRuns', WHERE WHAT IT READS IS OF BULK AT MOST 1048576: true; the input reads as it did. -/
def ownRunsUptoRow : OpenClaim := { program := "ytmjffmghkfappaa", sum := "6d28a4a673daaf8426d0366c4681a569574f5e405bddd352fa8a09483fae9432", func := "balise/baliselaw12.OwnRuns", spec := "ownRuns", unfollowed := true, recurses := true, apart := false, narrowed := true }
def OwnRunsUptoSaid : Prop := ownRunsUptoRow.holds Try.pinned (OpenSpec.upto ownRunsSpec)

/-- 'baliselaw12.OwnSure', WHERE WHAT IT READS IS OF BULK AT MOST 1048576: true; the input reads as it did. -/
def ownSureUptoRow : OpenClaim := { program := "ytmjffmghkfappaa", sum := "6d28a4a673daaf8426d0366c4681a569574f5e405bddd352fa8a09483fae9432", func := "balise/baliselaw12.OwnSure", spec := "ownSure", unfollowed := true, recurses := true, apart := false, narrowed := true }
def OwnSureUptoSaid : Prop := ownSureUptoRow.holds Try.pinned (OpenSpec.upto ownSureSpec)

/-- 'baliselaw12.OwnFinds', WHERE WHAT IT READS IS OF BULK AT MOST 1048576: true; the input reads as it did. -/
def ownFindsUptoRow : OpenClaim := { program := "ytmjffmghkfappaa", sum := "6d28a4a673daaf8426d0366c4681a569574f5e405bddd352fa8a09483fae9432", func := "balise/baliselaw12.OwnFinds", spec := "ownFinds", unfollowed := true, recurses := true, apart := false, narrowed := true }
def OwnFindsUptoSaid : Prop := ownFindsUptoRow.holds Try.pinned (OpenSpec.upto ownFindsSpec)

/-- 'baliselaw12.OwnClear', WHERE WHAT IT READS IS OF BULK AT MOST 1048576: true; the input reads as it did. -/
def ownClearUptoRow : OpenClaim := { program := "ytmjffmghkfappaa", sum := "6d28a4a673daaf8426d0366c4681a569574f5e405bddd352fa8a09483fae9432", func := "balise/baliselaw12.OwnClear", spec := "ownClear", unfollowed := true, recurses := true, apart := false, narrowed := true }
def OwnClearUptoSaid : Prop := ownClearUptoRow.holds Try.pinned (OpenSpec.upto ownClearSpec)

/-- 'baliselaw12.OwnStarts', WHERE WHAT IT READS IS OF BULK AT MOST 1048576: true; the input reads as it did. -/
def ownStartsUptoRow : OpenClaim := { program := "ytmjffmghkfappaa", sum := "6d28a4a673daaf8426d0366c4681a569574f5e405bddd352fa8a09483fae9432", func := "balise/baliselaw12.OwnStarts", spec := "ownStarts", unfollowed := true, recurses := true, apart := false, narrowed := true }
def OwnStartsUptoSaid : Prop := ownStartsUptoRow.holds Try.pinned (OpenSpec.upto ownStartsSpec)

/-- 'baliselaw12.OwnDeclares', WHERE WHAT IT READS IS OF BULK AT MOST 1048576: true; the input reads as it did. -/
def ownDeclaresUptoRow : OpenClaim := { program := "ytmjffmghkfappaa", sum := "6d28a4a673daaf8426d0366c4681a569574f5e405bddd352fa8a09483fae9432", func := "balise/baliselaw12.OwnDeclares", spec := "ownDeclares", unfollowed := true, recurses := true, apart := false, narrowed := true }
def OwnDeclaresUptoSaid : Prop := ownDeclaresUptoRow.holds Try.pinned (OpenSpec.upto ownDeclaresSpec)

/-- 'baliselaw18.WorldErrs', WHERE WHAT IT READS IS OF BULK AT MOST 1048576: true; the input reads as it did. -/
def worldErrsUptoRow : OpenClaim := { program := "ytmjffmghkfappaa", sum := "6d28a4a673daaf8426d0366c4681a569574f5e405bddd352fa8a09483fae9432", func := "balise/baliselaw18.WorldErrs", spec := "worldErrs", inPlace := ["slices.overlaps[balise/api.End]"], unfollowed := true, recurses := true, apart := false, narrowed := true }
def WorldErrsUptoSaid : Prop := worldErrsUptoRow.holds Try.pinned (OpenSpec.upto worldErrsSpec)

/-- 'baliselaw18.WorldNil', WHERE WHAT IT READS IS OF BULK AT MOST 1048576: true; the input reads as it did. -/
def worldNilUptoRow : OpenClaim := { program := "ytmjffmghkfappaa", sum := "6d28a4a673daaf8426d0366c4681a569574f5e405bddd352fa8a09483fae9432", func := "balise/baliselaw18.WorldNil", spec := "worldNil", inPlace := ["slices.overlaps[balise/api.End]"], unfollowed := true, recurses := true, apart := false, narrowed := true }
def WorldNilUptoSaid : Prop := worldNilUptoRow.holds Try.pinned (OpenSpec.upto worldNilSpec)

/-- 'baliselaw18.WorldSplits', WHERE WHAT IT READS IS OF BULK AT MOST 1048576: true; the input reads as it did. -/
def worldSplitsUptoRow : OpenClaim := { program := "ytmjffmghkfappaa", sum := "6d28a4a673daaf8426d0366c4681a569574f5e405bddd352fa8a09483fae9432", func := "balise/baliselaw18.WorldSplits", spec := "worldSplits", inPlace := ["slices.overlaps[balise/api.End]"], unfollowed := true, recurses := true, apart := false, narrowed := true }
def WorldSplitsUptoSaid : Prop := worldSplitsUptoRow.holds Try.pinned (OpenSpec.upto worldSplitsSpec)

/-- 'baliselaw18.WorldStays', WHERE WHAT IT READS IS OF BULK AT MOST 1048576: true; the input reads as it did. -/
def worldStaysUptoRow : OpenClaim := { program := "ytmjffmghkfappaa", sum := "6d28a4a673daaf8426d0366c4681a569574f5e405bddd352fa8a09483fae9432", func := "balise/baliselaw18.WorldStays", spec := "worldStays", inPlace := ["slices.overlaps[balise/api.End]"], unfollowed := true, recurses := true, apart := false, narrowed := true }
def WorldStaysUptoSaid : Prop := worldStaysUptoRow.holds Try.pinned (OpenSpec.upto worldStaysSpec)

/-- 'baliselaw20.JudgeStill', WHERE WHAT IT READS IS OF BULK AT MOST 1048576: true; the input reads as it did. -/
def judgeStillUptoRow : OpenClaim := { program := "ytmjffmghkfappaa", sum := "6d28a4a673daaf8426d0366c4681a569574f5e405bddd352fa8a09483fae9432", func := "balise/baliselaw20.JudgeStill", spec := "judgeStill", unfollowed := true, recurses := true, apart := false, narrowed := true }
def JudgeStillUptoSaid : Prop := judgeStillUptoRow.holds Try.pinned (OpenSpec.upto judgeStillSpec)

end Rows
end Go.Proofs.Ytmjffmghkfappaa
