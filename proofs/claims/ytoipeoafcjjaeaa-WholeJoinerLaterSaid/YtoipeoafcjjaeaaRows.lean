/-
  No cell of these rows narrows 'for every input' (looked for: loops, veiled, ifaces, maps, wideKeys, modest, calm, conditions, laid).
  DERIVED. THE GIVEN ROWS OF THIS SEAT. 8 by the template 'for every input the law returns true; each argument reads behind the call as it read before'; 0 by the template 'total and deterministic' (their statements: YtoipeoafcjjaeaaTotals.lean).
  GIVEN WITH THE SEED: the statements are not yours to turn. If you find one false, say at which input.
  Laid BY PROGRAM, IN A SANDBOX (cutbox-rows.mjs): the forced cells as the released guide's own fill.sh prints them over the translation 73d3b741685367f5… (all of the seat's roots in one cut). By AI agents, Wed Nov 11 2026. No macro, syntax, notation, axiom, sorry.
-/
import Derived.Test.YtoipeoafcjjaeaaChecked
import GoSem.Claim
import GoSem.ClaimJoined
import GoSem.ClaimMapViews
import Derived.JoinedTies
import Derived.KernelRfl
namespace Go.Proofs.Ytoipeoafcjjaeaa
/- THE CELL 'sum', in the pinned program and in every row, IS THE sha256 OF THE DUMP (.gsa) THAT YtoipeoafcjjaeaaProg.lean LOADS. Nothing in Lean hashes anything: it is a label: what it is worth is what the hold of that sum in a sandbox is worth. -/
noncomputable def Try.pinned : Pinned := { name := "ytoipeoafcjjaeaa", sum := "73d3b741685367f54749d58efc7377140c4cc6aa4a822a4679e4e0a4152ef34b", checked := Try.checked }
namespace Rows
def none {H : Type} : Left H := { results := [], args := [] }

/-- 'fingerposttop.WholeNumbersLater': WHATEVER THE INPUT: true; the input reads as it did. -/
def wholeNumbersLaterSpec : ChangeSpec := { name := "wholeNumbersLater", fn := fun _ => fun
  | [d1, d2, d3] => { results := [.lit (.bool true)], args := [d1, d2, d3] }
  | _ => none }
def wholeNumbersLaterRow : OpenClaim := { program := "ytoipeoafcjjaeaa", sum := "73d3b741685367f54749d58efc7377140c4cc6aa4a822a4679e4e0a4152ef34b", func := "fingerpost/fingerposttop.WholeNumbersLater", spec := "wholeNumbersLater", unfollowed := true, recurses := true, apart := false }
def WholeNumbersLaterSaid : Prop := wholeNumbersLaterRow.holds Try.pinned (OpenSpec.ofChange wholeNumbersLaterSpec)

/-- ITS FALSE NEIGHBOUR: 'it returns false'. Refute it at one input. -/
def wholeNumbersLaterWrong : ChangeSpec := { name := "wholeNumbersLater", fn := fun _ => fun
  | [d1, d2, d3] => { results := [.lit (.bool false)], args := [d1, d2, d3] }
  | _ => none }
def WholeNumbersLaterWrongFalsely : Prop := wholeNumbersLaterRow.holds Try.pinned (OpenSpec.ofChange wholeNumbersLaterWrong)

/-- 'fingerposttop.WholeSectorsExchanged': WHATEVER THE INPUT: true; the input reads as it did. -/
def wholeSectorsExchangedSpec : ChangeSpec := { name := "wholeSectorsExchanged", fn := fun _ => fun
  | [d1, d2, d3] => { results := [.lit (.bool true)], args := [d1, d2, d3] }
  | _ => none }
def wholeSectorsExchangedRow : OpenClaim := { program := "ytoipeoafcjjaeaa", sum := "73d3b741685367f54749d58efc7377140c4cc6aa4a822a4679e4e0a4152ef34b", func := "fingerpost/fingerposttop.WholeSectorsExchanged", spec := "wholeSectorsExchanged", unfollowed := true, recurses := true, apart := false }
def WholeSectorsExchangedSaid : Prop := wholeSectorsExchangedRow.holds Try.pinned (OpenSpec.ofChange wholeSectorsExchangedSpec)

/-- ITS FALSE NEIGHBOUR: 'it returns false'. Refute it at one input. -/
def wholeSectorsExchangedWrong : ChangeSpec := { name := "wholeSectorsExchanged", fn := fun _ => fun
  | [d1, d2, d3] => { results := [.lit (.bool false)], args := [d1, d2, d3] }
  | _ => none }
def WholeSectorsExchangedWrongFalsely : Prop := wholeSectorsExchangedRow.holds Try.pinned (OpenSpec.ofChange wholeSectorsExchangedWrong)

/-- 'fingerposttop.WholeGroveHalved': WHATEVER THE INPUT: true; the input reads as it did. -/
def wholeGroveHalvedSpec : ChangeSpec := { name := "wholeGroveHalved", fn := fun _ => fun
  | [d1, d2, d3] => { results := [.lit (.bool true)], args := [d1, d2, d3] }
  | _ => none }
def wholeGroveHalvedRow : OpenClaim := { program := "ytoipeoafcjjaeaa", sum := "73d3b741685367f54749d58efc7377140c4cc6aa4a822a4679e4e0a4152ef34b", func := "fingerpost/fingerposttop.WholeGroveHalved", spec := "wholeGroveHalved", unfollowed := true, recurses := true, apart := false }
def WholeGroveHalvedSaid : Prop := wholeGroveHalvedRow.holds Try.pinned (OpenSpec.ofChange wholeGroveHalvedSpec)

/-- ITS FALSE NEIGHBOUR: 'it returns false'. Refute it at one input. -/
def wholeGroveHalvedWrong : ChangeSpec := { name := "wholeGroveHalved", fn := fun _ => fun
  | [d1, d2, d3] => { results := [.lit (.bool false)], args := [d1, d2, d3] }
  | _ => none }
def WholeGroveHalvedWrongFalsely : Prop := wholeGroveHalvedRow.holds Try.pinned (OpenSpec.ofChange wholeGroveHalvedWrong)

/-- 'fingerposttop.WholeTollScaled': WHATEVER THE INPUT: true; the input reads as it did. -/
def wholeTollScaledSpec : ChangeSpec := { name := "wholeTollScaled", fn := fun _ => fun
  | [d1, d2, d3, d4] => { results := [.lit (.bool true)], args := [d1, d2, d3, d4] }
  | _ => none }
def wholeTollScaledRow : OpenClaim := { program := "ytoipeoafcjjaeaa", sum := "73d3b741685367f54749d58efc7377140c4cc6aa4a822a4679e4e0a4152ef34b", func := "fingerpost/fingerposttop.WholeTollScaled", spec := "wholeTollScaled", unfollowed := true, recurses := true, apart := false }
def WholeTollScaledSaid : Prop := wholeTollScaledRow.holds Try.pinned (OpenSpec.ofChange wholeTollScaledSpec)

/-- ITS FALSE NEIGHBOUR: 'it returns false'. Refute it at one input. -/
def wholeTollScaledWrong : ChangeSpec := { name := "wholeTollScaled", fn := fun _ => fun
  | [d1, d2, d3, d4] => { results := [.lit (.bool false)], args := [d1, d2, d3, d4] }
  | _ => none }
def WholeTollScaledWrongFalsely : Prop := wholeTollScaledRow.holds Try.pinned (OpenSpec.ofChange wholeTollScaledWrong)

/-- 'fingerposttop.WholeJoinerLater': WHATEVER THE INPUT: true; the input reads as it did. -/
def wholeJoinerLaterSpec : ChangeSpec := { name := "wholeJoinerLater", fn := fun _ => fun
  | [d1, d2] => { results := [.lit (.bool true)], args := [d1, d2] }
  | _ => none }
def wholeJoinerLaterRow : OpenClaim := { program := "ytoipeoafcjjaeaa", sum := "73d3b741685367f54749d58efc7377140c4cc6aa4a822a4679e4e0a4152ef34b", func := "fingerpost/fingerposttop.WholeJoinerLater", spec := "wholeJoinerLater", unfollowed := true, recurses := true, apart := false }
def WholeJoinerLaterSaid : Prop := wholeJoinerLaterRow.holds Try.pinned (OpenSpec.ofChange wholeJoinerLaterSpec)

/-- ITS FALSE NEIGHBOUR: 'it returns false'. Refute it at one input. -/
def wholeJoinerLaterWrong : ChangeSpec := { name := "wholeJoinerLater", fn := fun _ => fun
  | [d1, d2] => { results := [.lit (.bool false)], args := [d1, d2] }
  | _ => none }
def WholeJoinerLaterWrongFalsely : Prop := wholeJoinerLaterRow.holds Try.pinned (OpenSpec.ofChange wholeJoinerLaterWrong)

/-- 'fingerposttop.WholeRibStruck': WHATEVER THE INPUT: true; the input reads as it did. -/
def wholeRibStruckSpec : ChangeSpec := { name := "wholeRibStruck", fn := fun _ => fun
  | [d1, d2, d3, d4] => { results := [.lit (.bool true)], args := [d1, d2, d3, d4] }
  | _ => none }
def wholeRibStruckRow : OpenClaim := { program := "ytoipeoafcjjaeaa", sum := "73d3b741685367f54749d58efc7377140c4cc6aa4a822a4679e4e0a4152ef34b", func := "fingerpost/fingerposttop.WholeRibStruck", spec := "wholeRibStruck", unfollowed := true, recurses := true, apart := false }
def WholeRibStruckSaid : Prop := wholeRibStruckRow.holds Try.pinned (OpenSpec.ofChange wholeRibStruckSpec)

/-- ITS FALSE NEIGHBOUR: 'it returns false'. Refute it at one input. -/
def wholeRibStruckWrong : ChangeSpec := { name := "wholeRibStruck", fn := fun _ => fun
  | [d1, d2, d3, d4] => { results := [.lit (.bool false)], args := [d1, d2, d3, d4] }
  | _ => none }
def WholeRibStruckWrongFalsely : Prop := wholeRibStruckRow.holds Try.pinned (OpenSpec.ofChange wholeRibStruckWrong)

/-- 'fingerposttop.WholeFieldsJoined': WHATEVER THE INPUT: true; the input reads as it did. -/
def wholeFieldsJoinedSpec : ChangeSpec := { name := "wholeFieldsJoined", fn := fun _ => fun
  | [d1, d2] => { results := [.lit (.bool true)], args := [d1, d2] }
  | _ => none }
def wholeFieldsJoinedRow : OpenClaim := { program := "ytoipeoafcjjaeaa", sum := "73d3b741685367f54749d58efc7377140c4cc6aa4a822a4679e4e0a4152ef34b", func := "fingerpost/fingerposttop.WholeFieldsJoined", spec := "wholeFieldsJoined", unfollowed := true, recurses := true, apart := false }
def WholeFieldsJoinedSaid : Prop := wholeFieldsJoinedRow.holds Try.pinned (OpenSpec.ofChange wholeFieldsJoinedSpec)

/-- ITS FALSE NEIGHBOUR: 'it returns false'. Refute it at one input. -/
def wholeFieldsJoinedWrong : ChangeSpec := { name := "wholeFieldsJoined", fn := fun _ => fun
  | [d1, d2] => { results := [.lit (.bool false)], args := [d1, d2] }
  | _ => none }
def WholeFieldsJoinedWrongFalsely : Prop := wholeFieldsJoinedRow.holds Try.pinned (OpenSpec.ofChange wholeFieldsJoinedWrong)

/-- 'fingerposttop.WholeSnapshots': WHATEVER THE INPUT: true; the input reads as it did. -/
def wholeSnapshotsSpec : ChangeSpec := { name := "wholeSnapshots", fn := fun _ => fun
  | [d1, d2] => { results := [.lit (.bool true)], args := [d1, d2] }
  | _ => none }
def wholeSnapshotsRow : OpenClaim := { program := "ytoipeoafcjjaeaa", sum := "73d3b741685367f54749d58efc7377140c4cc6aa4a822a4679e4e0a4152ef34b", func := "fingerpost/fingerposttop.WholeSnapshots", spec := "wholeSnapshots", unfollowed := true, recurses := true, apart := false }
def WholeSnapshotsSaid : Prop := wholeSnapshotsRow.holds Try.pinned (OpenSpec.ofChange wholeSnapshotsSpec)

/-- ITS FALSE NEIGHBOUR: 'it returns false'. Refute it at one input. -/
def wholeSnapshotsWrong : ChangeSpec := { name := "wholeSnapshots", fn := fun _ => fun
  | [d1, d2] => { results := [.lit (.bool false)], args := [d1, d2] }
  | _ => none }
def WholeSnapshotsWrongFalsely : Prop := wholeSnapshotsRow.holds Try.pinned (OpenSpec.ofChange wholeSnapshotsWrong)

/- THE SECOND FORM. 'bulk': how many values and letters a reading holds, each counted each time it is reached (what is shared counts as often as it is met; a slice's spare places count too). A statement '..UptoSaid' is the law's where the arguments, and the package variables that the reading takes, are together of bulk at most 1048576: NARROWER than '..Said'. Prove '..Said' where nothing that the law and all that it calls make is longer than what came in: it says more and counts as full. Else prove '..UptoSaid'. A law counts once. -/
mutual
def uptoBulk {H : Type} : DataW H → Nat
  | .lit (.string bytes) => bytes.length + 1
  | .lit _ => 1
  | .nil => 1
  | .ptr d => uptoBulk d + 1
  | .slice elems spare => uptoBulkAll elems + uptoBulkAll spare + 1
  | .agg parts => uptoBulkAll parts + 1
  | .iface _ d => uptoBulk d + 1
  | .map entries => uptoBulkEntries entries + 1
  | .held _ => 1
def uptoBulkAll {H : Type} : List (DataW H) → Nat
  | [] => 0
  | d :: r => uptoBulk d + uptoBulkAll r
def uptoBulkEntries {H : Type} : List (Lit × DataW H) → Nat
  | [] => 0
  | x :: r => uptoBulkEntry x + uptoBulkEntries r
def uptoBulkEntry {H : Type} : Lit × DataW H → Nat
  | (.string bytes, d) => bytes.length + uptoBulk d + 1
  | (_, d) => uptoBulk d + 1
 end
def uptoSmall : (H : Type) → List (DataW H) → Bool := fun _ ds => decide (uptoBulkAll ds ≤ 1048576)
def OpenSpec.upto (s : _root_.Go.ChangeSpec) : _root_.Go.OpenSpec := { _root_.Go.OpenSpec.ofChange s with cond := some uptoSmall }

/-- 'fingerposttop.WholeNumbersLater', WHERE WHAT IT READS IS OF BULK AT MOST 1048576: true; the input reads as it did. -/
def wholeNumbersLaterUptoRow : OpenClaim := { program := "ytoipeoafcjjaeaa", sum := "73d3b741685367f54749d58efc7377140c4cc6aa4a822a4679e4e0a4152ef34b", func := "fingerpost/fingerposttop.WholeNumbersLater", spec := "wholeNumbersLater", unfollowed := true, recurses := true, apart := false, narrowed := true }
def WholeNumbersLaterUptoSaid : Prop := wholeNumbersLaterUptoRow.holds Try.pinned (OpenSpec.upto wholeNumbersLaterSpec)

/-- 'fingerposttop.WholeSectorsExchanged', WHERE WHAT IT READS IS OF BULK AT MOST 1048576: true; the input reads as it did. -/
def wholeSectorsExchangedUptoRow : OpenClaim := { program := "ytoipeoafcjjaeaa", sum := "73d3b741685367f54749d58efc7377140c4cc6aa4a822a4679e4e0a4152ef34b", func := "fingerpost/fingerposttop.WholeSectorsExchanged", spec := "wholeSectorsExchanged", unfollowed := true, recurses := true, apart := false, narrowed := true }
def WholeSectorsExchangedUptoSaid : Prop := wholeSectorsExchangedUptoRow.holds Try.pinned (OpenSpec.upto wholeSectorsExchangedSpec)

/-- 'fingerposttop.WholeGroveHalved', WHERE WHAT IT READS IS OF BULK AT MOST 1048576: true; the input reads as it did. -/
def wholeGroveHalvedUptoRow : OpenClaim := { program := "ytoipeoafcjjaeaa", sum := "73d3b741685367f54749d58efc7377140c4cc6aa4a822a4679e4e0a4152ef34b", func := "fingerpost/fingerposttop.WholeGroveHalved", spec := "wholeGroveHalved", unfollowed := true, recurses := true, apart := false, narrowed := true }
def WholeGroveHalvedUptoSaid : Prop := wholeGroveHalvedUptoRow.holds Try.pinned (OpenSpec.upto wholeGroveHalvedSpec)

/-- 'fingerposttop.WholeTollScaled', WHERE WHAT IT READS IS OF BULK AT MOST 1048576: true; the input reads as it did. -/
def wholeTollScaledUptoRow : OpenClaim := { program := "ytoipeoafcjjaeaa", sum := "73d3b741685367f54749d58efc7377140c4cc6aa4a822a4679e4e0a4152ef34b", func := "fingerpost/fingerposttop.WholeTollScaled", spec := "wholeTollScaled", unfollowed := true, recurses := true, apart := false, narrowed := true }
def WholeTollScaledUptoSaid : Prop := wholeTollScaledUptoRow.holds Try.pinned (OpenSpec.upto wholeTollScaledSpec)

/-- 'fingerposttop.WholeJoinerLater', WHERE WHAT IT READS IS OF BULK AT MOST 1048576: true; the input reads as it did. -/
def wholeJoinerLaterUptoRow : OpenClaim := { program := "ytoipeoafcjjaeaa", sum := "73d3b741685367f54749d58efc7377140c4cc6aa4a822a4679e4e0a4152ef34b", func := "fingerpost/fingerposttop.WholeJoinerLater", spec := "wholeJoinerLater", unfollowed := true, recurses := true, apart := false, narrowed := true }
def WholeJoinerLaterUptoSaid : Prop := wholeJoinerLaterUptoRow.holds Try.pinned (OpenSpec.upto wholeJoinerLaterSpec)

/-- 'fingerposttop.WholeRibStruck', WHERE WHAT IT READS IS OF BULK AT MOST 1048576: true; the input reads as it did. -/
def wholeRibStruckUptoRow : OpenClaim := { program := "ytoipeoafcjjaeaa", sum := "73d3b741685367f54749d58efc7377140c4cc6aa4a822a4679e4e0a4152ef34b", func := "fingerpost/fingerposttop.WholeRibStruck", spec := "wholeRibStruck", unfollowed := true, recurses := true, apart := false, narrowed := true }
def WholeRibStruckUptoSaid : Prop := wholeRibStruckUptoRow.holds Try.pinned (OpenSpec.upto wholeRibStruckSpec)

/-- 'fingerposttop.WholeFieldsJoined', WHERE WHAT IT READS IS OF BULK AT MOST 1048576: true; the input reads as it did. -/
def wholeFieldsJoinedUptoRow : OpenClaim := { program := "ytoipeoafcjjaeaa", sum := "73d3b741685367f54749d58efc7377140c4cc6aa4a822a4679e4e0a4152ef34b", func := "fingerpost/fingerposttop.WholeFieldsJoined", spec := "wholeFieldsJoined", unfollowed := true, recurses := true, apart := false, narrowed := true }
def WholeFieldsJoinedUptoSaid : Prop := wholeFieldsJoinedUptoRow.holds Try.pinned (OpenSpec.upto wholeFieldsJoinedSpec)

/-- 'fingerposttop.WholeSnapshots', WHERE WHAT IT READS IS OF BULK AT MOST 1048576: true; the input reads as it did. -/
def wholeSnapshotsUptoRow : OpenClaim := { program := "ytoipeoafcjjaeaa", sum := "73d3b741685367f54749d58efc7377140c4cc6aa4a822a4679e4e0a4152ef34b", func := "fingerpost/fingerposttop.WholeSnapshots", spec := "wholeSnapshots", unfollowed := true, recurses := true, apart := false, narrowed := true }
def WholeSnapshotsUptoSaid : Prop := wholeSnapshotsUptoRow.holds Try.pinned (OpenSpec.upto wholeSnapshotsSpec)

end Rows
end Go.Proofs.Ytoipeoafcjjaeaa
