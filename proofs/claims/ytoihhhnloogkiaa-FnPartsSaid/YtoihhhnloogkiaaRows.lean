/-
  No cell of these rows narrows 'for every input' (looked for: loops, veiled, ifaces, maps, wideKeys, modest, calm, conditions, laid).
  DERIVED. THE GIVEN ROWS OF THIS SEAT. 13 by the template 'for every input the law returns true; each argument reads behind the call as it read before'; 0 by the template 'total and deterministic' (their statements: YtoihhhnloogkiaaTotals.lean).
  GIVEN WITH THE SEED: the statements are not yours to turn. If you find one false, say at which input.
  Laid BY PROGRAM, IN A SANDBOX (cutbox-rows.mjs): the forced cells as the released guide's own fill.sh prints them over the translation 9cc9d19c782337b9… (all of the seat's roots in one cut). By AI agents, Wed Nov 11 2026. No macro, syntax, notation, axiom, sorry.
-/
import Derived.Test.YtoihhhnloogkiaaChecked
import GoSem.Claim
import GoSem.ClaimJoined
import GoSem.ClaimMapViews
import Derived.JoinedTies
import Derived.KernelRfl
namespace Go.Proofs.Ytoihhhnloogkiaa
/- THE CELL 'sum', in the pinned program and in every row, IS THE sha256 OF THE DUMP (.gsa) THAT YtoihhhnloogkiaaProg.lean LOADS. Nothing in Lean hashes anything: it is a label: what it is worth is what the hold of that sum in a sandbox is worth. -/
noncomputable def Try.pinned : Pinned := { name := "ytoihhhnloogkiaa", sum := "9cc9d19c782337b9af2e83d2601758239e3947c52db6f37962f95056d1ffc899", checked := Try.checked }
namespace Rows
def none {H : Type} : Left H := { results := [], args := [] }

/-- 'meanderlaw05.BagSorts': WHATEVER THE INPUT: true; the input reads as it did. -/
def bagSortsSpec : ChangeSpec := { name := "bagSorts", fn := fun _ => fun
  | [d1, d2, d3] => { results := [.lit (.bool true)], args := [d1, d2, d3] }
  | _ => none }
def bagSortsRow : OpenClaim := { program := "ytoihhhnloogkiaa", sum := "9cc9d19c782337b9af2e83d2601758239e3947c52db6f37962f95056d1ffc899", func := "meander/meanderlaw05.BagSorts", spec := "bagSorts", unfollowed := true, recurses := true, plainKeys := false, apart := false }
def BagSortsSaid : Prop := bagSortsRow.holds Try.pinned (OpenSpec.ofChange bagSortsSpec)

/-- ITS FALSE NEIGHBOUR: 'it returns false'. Refute it at one input. -/
def bagSortsWrong : ChangeSpec := { name := "bagSorts", fn := fun _ => fun
  | [d1, d2, d3] => { results := [.lit (.bool false)], args := [d1, d2, d3] }
  | _ => none }
def BagSortsWrongFalsely : Prop := bagSortsRow.holds Try.pinned (OpenSpec.ofChange bagSortsWrong)

/-- 'meanderlaw05.BagKeys': WHATEVER THE INPUT: true; the input reads as it did. -/
def bagKeysSpec : ChangeSpec := { name := "bagKeys", fn := fun _ => fun
  | [d] => { results := [.lit (.bool true)], args := [d] }
  | _ => none }
def bagKeysRow : OpenClaim := { program := "ytoihhhnloogkiaa", sum := "9cc9d19c782337b9af2e83d2601758239e3947c52db6f37962f95056d1ffc899", func := "meander/meanderlaw05.BagKeys", spec := "bagKeys", unfollowed := true, recurses := true, plainKeys := false, apart := false }
def BagKeysSaid : Prop := bagKeysRow.holds Try.pinned (OpenSpec.ofChange bagKeysSpec)

/-- ITS FALSE NEIGHBOUR: 'it returns false'. Refute it at one input. -/
def bagKeysWrong : ChangeSpec := { name := "bagKeys", fn := fun _ => fun
  | [d] => { results := [.lit (.bool false)], args := [d] }
  | _ => none }
def BagKeysWrongFalsely : Prop := bagKeysRow.holds Try.pinned (OpenSpec.ofChange bagKeysWrong)

/-- 'meanderlaw05.BagLaws': WHATEVER THE INPUT: true; the input reads as it did. -/
def bagLawsSpec : ChangeSpec := { name := "bagLaws", fn := fun _ => fun
  | [d1, d2, d3] => { results := [.lit (.bool true)], args := [d1, d2, d3] }
  | _ => none }
def bagLawsRow : OpenClaim := { program := "ytoihhhnloogkiaa", sum := "9cc9d19c782337b9af2e83d2601758239e3947c52db6f37962f95056d1ffc899", func := "meander/meanderlaw05.BagLaws", spec := "bagLaws", unfollowed := true, recurses := true, plainKeys := false, apart := false }
def BagLawsSaid : Prop := bagLawsRow.holds Try.pinned (OpenSpec.ofChange bagLawsSpec)

/-- ITS FALSE NEIGHBOUR: 'it returns false'. Refute it at one input. -/
def bagLawsWrong : ChangeSpec := { name := "bagLaws", fn := fun _ => fun
  | [d1, d2, d3] => { results := [.lit (.bool false)], args := [d1, d2, d3] }
  | _ => none }
def BagLawsWrongFalsely : Prop := bagLawsRow.holds Try.pinned (OpenSpec.ofChange bagLawsWrong)

/-- 'meanderlaw05.BagCounts': WHATEVER THE INPUT: true; the input reads as it did. -/
def bagCountsSpec : ChangeSpec := { name := "bagCounts", fn := fun _ => fun
  | [d1, d2] => { results := [.lit (.bool true)], args := [d1, d2] }
  | _ => none }
def bagCountsRow : OpenClaim := { program := "ytoihhhnloogkiaa", sum := "9cc9d19c782337b9af2e83d2601758239e3947c52db6f37962f95056d1ffc899", func := "meander/meanderlaw05.BagCounts", spec := "bagCounts", unfollowed := true, recurses := true, plainKeys := false, apart := false }
def BagCountsSaid : Prop := bagCountsRow.holds Try.pinned (OpenSpec.ofChange bagCountsSpec)

/-- ITS FALSE NEIGHBOUR: 'it returns false'. Refute it at one input. -/
def bagCountsWrong : ChangeSpec := { name := "bagCounts", fn := fun _ => fun
  | [d1, d2] => { results := [.lit (.bool false)], args := [d1, d2] }
  | _ => none }
def BagCountsWrongFalsely : Prop := bagCountsRow.holds Try.pinned (OpenSpec.ofChange bagCountsWrong)

/-- 'meanderlaw05.BagTwo': WHATEVER THE INPUT: true; the input reads as it did. -/
def bagTwoSpec : ChangeSpec := { name := "bagTwo", fn := fun _ => fun
  | [d1, d2] => { results := [.lit (.bool true)], args := [d1, d2] }
  | _ => none }
def bagTwoRow : OpenClaim := { program := "ytoihhhnloogkiaa", sum := "9cc9d19c782337b9af2e83d2601758239e3947c52db6f37962f95056d1ffc899", func := "meander/meanderlaw05.BagTwo", spec := "bagTwo", unfollowed := true, recurses := true, plainKeys := false, apart := false }
def BagTwoSaid : Prop := bagTwoRow.holds Try.pinned (OpenSpec.ofChange bagTwoSpec)

/-- ITS FALSE NEIGHBOUR: 'it returns false'. Refute it at one input. -/
def bagTwoWrong : ChangeSpec := { name := "bagTwo", fn := fun _ => fun
  | [d1, d2] => { results := [.lit (.bool false)], args := [d1, d2] }
  | _ => none }
def BagTwoWrongFalsely : Prop := bagTwoRow.holds Try.pinned (OpenSpec.ofChange bagTwoWrong)

/-- 'meanderlaw06.FnParts': WHATEVER THE INPUT: true; the input reads as it did. -/
def fnPartsSpec : ChangeSpec := { name := "fnParts", fn := fun _ => fun
  | [d1, d2] => { results := [.lit (.bool true)], args := [d1, d2] }
  | _ => none }
def fnPartsRow : OpenClaim := { program := "ytoihhhnloogkiaa", sum := "9cc9d19c782337b9af2e83d2601758239e3947c52db6f37962f95056d1ffc899", func := "meander/meanderlaw06.FnParts", spec := "fnParts", unfollowed := true, recurses := true, plainKeys := false, apart := false }
def FnPartsSaid : Prop := fnPartsRow.holds Try.pinned (OpenSpec.ofChange fnPartsSpec)

/-- ITS FALSE NEIGHBOUR: 'it returns false'. Refute it at one input. -/
def fnPartsWrong : ChangeSpec := { name := "fnParts", fn := fun _ => fun
  | [d1, d2] => { results := [.lit (.bool false)], args := [d1, d2] }
  | _ => none }
def FnPartsWrongFalsely : Prop := fnPartsRow.holds Try.pinned (OpenSpec.ofChange fnPartsWrong)

/-- 'meanderlaw06.FnTwice': WHATEVER THE INPUT: true; the input reads as it did. -/
def fnTwiceSpec : ChangeSpec := { name := "fnTwice", fn := fun _ => fun
  | [d1, d2] => { results := [.lit (.bool true)], args := [d1, d2] }
  | _ => none }
def fnTwiceRow : OpenClaim := { program := "ytoihhhnloogkiaa", sum := "9cc9d19c782337b9af2e83d2601758239e3947c52db6f37962f95056d1ffc899", func := "meander/meanderlaw06.FnTwice", spec := "fnTwice", unfollowed := true, recurses := true, plainKeys := false, apart := false }
def FnTwiceSaid : Prop := fnTwiceRow.holds Try.pinned (OpenSpec.ofChange fnTwiceSpec)

/-- ITS FALSE NEIGHBOUR: 'it returns false'. Refute it at one input. -/
def fnTwiceWrong : ChangeSpec := { name := "fnTwice", fn := fun _ => fun
  | [d1, d2] => { results := [.lit (.bool false)], args := [d1, d2] }
  | _ => none }
def FnTwiceWrongFalsely : Prop := fnTwiceRow.holds Try.pinned (OpenSpec.ofChange fnTwiceWrong)

/-- 'meanderlaw06.FnOnes': WHATEVER THE INPUT: true; the input reads as it did. -/
def fnOnesSpec : ChangeSpec := { name := "fnOnes", fn := fun _ => fun
  | [d] => { results := [.lit (.bool true)], args := [d] }
  | _ => none }
def fnOnesRow : OpenClaim := { program := "ytoihhhnloogkiaa", sum := "9cc9d19c782337b9af2e83d2601758239e3947c52db6f37962f95056d1ffc899", func := "meander/meanderlaw06.FnOnes", spec := "fnOnes", unfollowed := true, recurses := true, plainKeys := false, apart := false }
def FnOnesSaid : Prop := fnOnesRow.holds Try.pinned (OpenSpec.ofChange fnOnesSpec)

/-- ITS FALSE NEIGHBOUR: 'it returns false'. Refute it at one input. -/
def fnOnesWrong : ChangeSpec := { name := "fnOnes", fn := fun _ => fun
  | [d] => { results := [.lit (.bool false)], args := [d] }
  | _ => none }
def FnOnesWrongFalsely : Prop := fnOnesRow.holds Try.pinned (OpenSpec.ofChange fnOnesWrong)

/-- 'meanderlaw06.FnGroups': WHATEVER THE INPUT: true; the input reads as it did. -/
def fnGroupsSpec : ChangeSpec := { name := "fnGroups", fn := fun _ => fun
  | [d1, d2] => { results := [.lit (.bool true)], args := [d1, d2] }
  | _ => none }
def fnGroupsRow : OpenClaim := { program := "ytoihhhnloogkiaa", sum := "9cc9d19c782337b9af2e83d2601758239e3947c52db6f37962f95056d1ffc899", func := "meander/meanderlaw06.FnGroups", spec := "fnGroups", unfollowed := true, recurses := true, plainKeys := false, apart := false }
def FnGroupsSaid : Prop := fnGroupsRow.holds Try.pinned (OpenSpec.ofChange fnGroupsSpec)

/-- ITS FALSE NEIGHBOUR: 'it returns false'. Refute it at one input. -/
def fnGroupsWrong : ChangeSpec := { name := "fnGroups", fn := fun _ => fun
  | [d1, d2] => { results := [.lit (.bool false)], args := [d1, d2] }
  | _ => none }
def FnGroupsWrongFalsely : Prop := fnGroupsRow.holds Try.pinned (OpenSpec.ofChange fnGroupsWrong)

/-- 'meanderlaw06.FnReduces': WHATEVER THE INPUT: true; the input reads as it did. -/
def fnReducesSpec : ChangeSpec := { name := "fnReduces", fn := fun _ => fun
  | [d1, d2, d3] => { results := [.lit (.bool true)], args := [d1, d2, d3] }
  | _ => none }
def fnReducesRow : OpenClaim := { program := "ytoihhhnloogkiaa", sum := "9cc9d19c782337b9af2e83d2601758239e3947c52db6f37962f95056d1ffc899", func := "meander/meanderlaw06.FnReduces", spec := "fnReduces", unfollowed := true, recurses := true, plainKeys := false, apart := false }
def FnReducesSaid : Prop := fnReducesRow.holds Try.pinned (OpenSpec.ofChange fnReducesSpec)

/-- ITS FALSE NEIGHBOUR: 'it returns false'. Refute it at one input. -/
def fnReducesWrong : ChangeSpec := { name := "fnReduces", fn := fun _ => fun
  | [d1, d2, d3] => { results := [.lit (.bool false)], args := [d1, d2, d3] }
  | _ => none }
def FnReducesWrongFalsely : Prop := fnReducesRow.holds Try.pinned (OpenSpec.ofChange fnReducesWrong)

/-- 'meanderlaw06.FnOne': WHATEVER THE INPUT: true; the input reads as it did. -/
def fnOneSpec : ChangeSpec := { name := "fnOne", fn := fun _ => fun
  | [d1, d2, d3] => { results := [.lit (.bool true)], args := [d1, d2, d3] }
  | _ => none }
def fnOneRow : OpenClaim := { program := "ytoihhhnloogkiaa", sum := "9cc9d19c782337b9af2e83d2601758239e3947c52db6f37962f95056d1ffc899", func := "meander/meanderlaw06.FnOne", spec := "fnOne", unfollowed := true, recurses := true, plainKeys := false, apart := false }
def FnOneSaid : Prop := fnOneRow.holds Try.pinned (OpenSpec.ofChange fnOneSpec)

/-- ITS FALSE NEIGHBOUR: 'it returns false'. Refute it at one input. -/
def fnOneWrong : ChangeSpec := { name := "fnOne", fn := fun _ => fun
  | [d1, d2, d3] => { results := [.lit (.bool false)], args := [d1, d2, d3] }
  | _ => none }
def FnOneWrongFalsely : Prop := fnOneRow.holds Try.pinned (OpenSpec.ofChange fnOneWrong)

/-- 'meanderlaw06.FnHolds': WHATEVER THE INPUT: true; the input reads as it did. -/
def fnHoldsSpec : ChangeSpec := { name := "fnHolds", fn := fun _ => fun
  | [d1, d2, d3] => { results := [.lit (.bool true)], args := [d1, d2, d3] }
  | _ => none }
def fnHoldsRow : OpenClaim := { program := "ytoihhhnloogkiaa", sum := "9cc9d19c782337b9af2e83d2601758239e3947c52db6f37962f95056d1ffc899", func := "meander/meanderlaw06.FnHolds", spec := "fnHolds", unfollowed := true, recurses := true, plainKeys := false, apart := false }
def FnHoldsSaid : Prop := fnHoldsRow.holds Try.pinned (OpenSpec.ofChange fnHoldsSpec)

/-- ITS FALSE NEIGHBOUR: 'it returns false'. Refute it at one input. -/
def fnHoldsWrong : ChangeSpec := { name := "fnHolds", fn := fun _ => fun
  | [d1, d2, d3] => { results := [.lit (.bool false)], args := [d1, d2, d3] }
  | _ => none }
def FnHoldsWrongFalsely : Prop := fnHoldsRow.holds Try.pinned (OpenSpec.ofChange fnHoldsWrong)

/-- 'meanderlaw06.FnSplits': WHATEVER THE INPUT: true; the input reads as it did. -/
def fnSplitsSpec : ChangeSpec := { name := "fnSplits", fn := fun _ => fun
  | [d1, d2] => { results := [.lit (.bool true)], args := [d1, d2] }
  | _ => none }
def fnSplitsRow : OpenClaim := { program := "ytoihhhnloogkiaa", sum := "9cc9d19c782337b9af2e83d2601758239e3947c52db6f37962f95056d1ffc899", func := "meander/meanderlaw06.FnSplits", spec := "fnSplits", unfollowed := true, recurses := true, plainKeys := false, apart := false }
def FnSplitsSaid : Prop := fnSplitsRow.holds Try.pinned (OpenSpec.ofChange fnSplitsSpec)

/-- ITS FALSE NEIGHBOUR: 'it returns false'. Refute it at one input. -/
def fnSplitsWrong : ChangeSpec := { name := "fnSplits", fn := fun _ => fun
  | [d1, d2] => { results := [.lit (.bool false)], args := [d1, d2] }
  | _ => none }
def FnSplitsWrongFalsely : Prop := fnSplitsRow.holds Try.pinned (OpenSpec.ofChange fnSplitsWrong)

/- THE SECOND FORM. 'bulk': how many values and letters a reading holds, each counted each time it is reached (what is shared counts as often as it is met; a slice's spare places count too). A statement '..UptoSaid' is the law's where the arguments, and the package variables that the reading takes, are together of bulk at most 1048576: NARROWER than '..Said'. Prove '..Said' where nothing that the law and all that it calls make is longer than what came in: it says more and counts as full. Else prove '..UptoSaid'. A law counts once. -/
mutual
def uptoBulk {H : Type} : DataW H → Nat
  | .lit (.string bytes) => bytes.length + 1
  | .lit _ => 1
  | .nil => 1
  | .ptr d => uptoBulk d + 1
  | .slice elems spare => uptoBulkAll elems + uptoBulkAll spare + 1
  | .agg parts => uptoBulkAll parts + 1
  | .iface _ d => uptoBulk d + 1
  | .map entries => uptoBulkEntries entries + 1
  | .held _ => 1
def uptoBulkAll {H : Type} : List (DataW H) → Nat
  | [] => 0
  | d :: r => uptoBulk d + uptoBulkAll r
def uptoBulkEntries {H : Type} : List (Lit × DataW H) → Nat
  | [] => 0
  | x :: r => uptoBulkEntry x + uptoBulkEntries r
def uptoBulkEntry {H : Type} : Lit × DataW H → Nat
  | (.string bytes, d) => bytes.length + uptoBulk d + 1
  | (_, d) => uptoBulk d + 1
 end
def uptoSmall : (H : Type) → List (DataW H) → Bool := fun _ ds => decide (uptoBulkAll ds ≤ 1048576)
def OpenSpec.upto (s : _root_.Go.ChangeSpec) : _root_.Go.OpenSpec := { _root_.Go.OpenSpec.ofChange s with cond := some uptoSmall }

/-- 'meanderlaw05.BagSorts', WHERE WHAT IT READS IS OF BULK AT MOST 1048576: true; the input reads as it did. -/
def bagSortsUptoRow : OpenClaim := { program := "ytoihhhnloogkiaa", sum := "9cc9d19c782337b9af2e83d2601758239e3947c52db6f37962f95056d1ffc899", func := "meander/meanderlaw05.BagSorts", spec := "bagSorts", unfollowed := true, recurses := true, plainKeys := false, apart := false, narrowed := true }
def BagSortsUptoSaid : Prop := bagSortsUptoRow.holds Try.pinned (OpenSpec.upto bagSortsSpec)

/-- 'meanderlaw05.BagKeys', WHERE WHAT IT READS IS OF BULK AT MOST 1048576: true; the input reads as it did. -/
def bagKeysUptoRow : OpenClaim := { program := "ytoihhhnloogkiaa", sum := "9cc9d19c782337b9af2e83d2601758239e3947c52db6f37962f95056d1ffc899", func := "meander/meanderlaw05.BagKeys", spec := "bagKeys", unfollowed := true, recurses := true, plainKeys := false, apart := false, narrowed := true }
def BagKeysUptoSaid : Prop := bagKeysUptoRow.holds Try.pinned (OpenSpec.upto bagKeysSpec)

/-- 'meanderlaw05.BagLaws', WHERE WHAT IT READS IS OF BULK AT MOST 1048576: true; the input reads as it did. -/
def bagLawsUptoRow : OpenClaim := { program := "ytoihhhnloogkiaa", sum := "9cc9d19c782337b9af2e83d2601758239e3947c52db6f37962f95056d1ffc899", func := "meander/meanderlaw05.BagLaws", spec := "bagLaws", unfollowed := true, recurses := true, plainKeys := false, apart := false, narrowed := true }
def BagLawsUptoSaid : Prop := bagLawsUptoRow.holds Try.pinned (OpenSpec.upto bagLawsSpec)

/-- 'meanderlaw05.BagCounts', WHERE WHAT IT READS IS OF BULK AT MOST 1048576: true; the input reads as it did. -/
def bagCountsUptoRow : OpenClaim := { program := "ytoihhhnloogkiaa", sum := "9cc9d19c782337b9af2e83d2601758239e3947c52db6f37962f95056d1ffc899", func := "meander/meanderlaw05.BagCounts", spec := "bagCounts", unfollowed := true, recurses := true, plainKeys := false, apart := false, narrowed := true }
def BagCountsUptoSaid : Prop := bagCountsUptoRow.holds Try.pinned (OpenSpec.upto bagCountsSpec)

/-- 'meanderlaw05.BagTwo', WHERE WHAT IT READS IS OF BULK AT MOST 1048576: true; the input reads as it did. -/
def bagTwoUptoRow : OpenClaim := { program := "ytoihhhnloogkiaa", sum := "9cc9d19c782337b9af2e83d2601758239e3947c52db6f37962f95056d1ffc899", func := "meander/meanderlaw05.BagTwo", spec := "bagTwo", unfollowed := true, recurses := true, plainKeys := false, apart := false, narrowed := true }
def BagTwoUptoSaid : Prop := bagTwoUptoRow.holds Try.pinned (OpenSpec.upto bagTwoSpec)

/-- 'meanderlaw06.FnParts', WHERE WHAT IT READS IS OF BULK AT MOST 1048576: true; the input reads as it did. -/
def fnPartsUptoRow : OpenClaim := { program := "ytoihhhnloogkiaa", sum := "9cc9d19c782337b9af2e83d2601758239e3947c52db6f37962f95056d1ffc899", func := "meander/meanderlaw06.FnParts", spec := "fnParts", unfollowed := true, recurses := true, plainKeys := false, apart := false, narrowed := true }
def FnPartsUptoSaid : Prop := fnPartsUptoRow.holds Try.pinned (OpenSpec.upto fnPartsSpec)

/-- 'meanderlaw06.FnTwice', WHERE WHAT IT READS IS OF BULK AT MOST 1048576: true; the input reads as it did. -/
def fnTwiceUptoRow : OpenClaim := { program := "ytoihhhnloogkiaa", sum := "9cc9d19c782337b9af2e83d2601758239e3947c52db6f37962f95056d1ffc899", func := "meander/meanderlaw06.FnTwice", spec := "fnTwice", unfollowed := true, recurses := true, plainKeys := false, apart := false, narrowed := true }
def FnTwiceUptoSaid : Prop := fnTwiceUptoRow.holds Try.pinned (OpenSpec.upto fnTwiceSpec)

/-- 'meanderlaw06.FnOnes', WHERE WHAT IT READS IS OF BULK AT MOST 1048576: true; the input reads as it did. -/
def fnOnesUptoRow : OpenClaim := { program := "ytoihhhnloogkiaa", sum := "9cc9d19c782337b9af2e83d2601758239e3947c52db6f37962f95056d1ffc899", func := "meander/meanderlaw06.FnOnes", spec := "fnOnes", unfollowed := true, recurses := true, plainKeys := false, apart := false, narrowed := true }
def FnOnesUptoSaid : Prop := fnOnesUptoRow.holds Try.pinned (OpenSpec.upto fnOnesSpec)

/-- 'meanderlaw06.FnGroups', WHERE WHAT IT READS IS OF BULK AT MOST 1048576: true; the input reads as it did. -/
def fnGroupsUptoRow : OpenClaim := { program := "ytoihhhnloogkiaa", sum := "9cc9d19c782337b9af2e83d2601758239e3947c52db6f37962f95056d1ffc899", func := "meander/meanderlaw06.FnGroups", spec := "fnGroups", unfollowed := true, recurses := true, plainKeys := false, apart := false, narrowed := true }
def FnGroupsUptoSaid : Prop := fnGroupsUptoRow.holds Try.pinned (OpenSpec.upto fnGroupsSpec)

/-- 'meanderlaw06.FnReduces', WHERE WHAT IT READS IS OF BULK AT MOST 1048576: true; the input reads as it did. -/
def fnReducesUptoRow : OpenClaim := { program := "ytoihhhnloogkiaa", sum := "9cc9d19c782337b9af2e83d2601758239e3947c52db6f37962f95056d1ffc899", func := "meander/meanderlaw06.FnReduces", spec := "fnReduces", unfollowed := true, recurses := true, plainKeys := false, apart := false, narrowed := true }
def FnReducesUptoSaid : Prop := fnReducesUptoRow.holds Try.pinned (OpenSpec.upto fnReducesSpec)

/-- 'meanderlaw06.FnOne', WHERE WHAT IT READS IS OF BULK AT MOST 1048576: true; the input reads as it did. -/
def fnOneUptoRow : OpenClaim := { program := "ytoihhhnloogkiaa", sum := "9cc9d19c782337b9af2e83d2601758239e3947c52db6f37962f95056d1ffc899", func := "meander/meanderlaw06.FnOne", spec := "fnOne", unfollowed := true, recurses := true, plainKeys := false, apart := false, narrowed := true }
def FnOneUptoSaid : Prop := fnOneUptoRow.holds Try.pinned (OpenSpec.upto fnOneSpec)

/-- 'meanderlaw06.FnHolds', WHERE WHAT IT READS IS OF BULK AT MOST 1048576: true; the input reads as it did. -/
def fnHoldsUptoRow : OpenClaim := { program := "ytoihhhnloogkiaa", sum := "9cc9d19c782337b9af2e83d2601758239e3947c52db6f37962f95056d1ffc899", func := "meander/meanderlaw06.FnHolds", spec := "fnHolds", unfollowed := true, recurses := true, plainKeys := false, apart := false, narrowed := true }
def FnHoldsUptoSaid : Prop := fnHoldsUptoRow.holds Try.pinned (OpenSpec.upto fnHoldsSpec)

/-- 'meanderlaw06.FnSplits', WHERE WHAT IT READS IS OF BULK AT MOST 1048576: true; the input reads as it did. -/
def fnSplitsUptoRow : OpenClaim := { program := "ytoihhhnloogkiaa", sum := "9cc9d19c782337b9af2e83d2601758239e3947c52db6f37962f95056d1ffc899", func := "meander/meanderlaw06.FnSplits", spec := "fnSplits", unfollowed := true, recurses := true, plainKeys := false, apart := false, narrowed := true }
def FnSplitsUptoSaid : Prop := fnSplitsUptoRow.holds Try.pinned (OpenSpec.upto fnSplitsSpec)

end Rows
end Go.Proofs.Ytoihhhnloogkiaa
