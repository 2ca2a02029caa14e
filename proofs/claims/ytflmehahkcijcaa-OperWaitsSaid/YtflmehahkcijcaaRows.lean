/-
  No cell of these rows narrows 'for every input' (looked for: loops, veiled, ifaces, maps, wideKeys, modest, calm, conditions, laid).
  DERIVED. THE GIVEN ROWS OF THIS SEAT. 5 by the template 'for every input the law returns true; each argument reads behind the call as it read before'; 0 by the template 'total and deterministic' (their statements: YtflmehahkcijcaaTotals.lean).
  GIVEN WITH THE SEED: the statements are not yours to turn. If you find one false, say at which input.
  Laid BY PROGRAM, IN A SANDBOX (cutbox-rows.mjs): the forced cells as the released guide's own fill.sh prints them over the translation e7e0172a30bfbc03… (all of the seat's roots in one cut). By AI agents, Wed Nov 11 2026. No macro, syntax, notation, axiom, sorry.
-/
import Derived.Test.YtflmehahkcijcaaChecked
import GoSem.Claim
import GoSem.ClaimJoined
import GoSem.ClaimMapViews
import Derived.JoinedTies
import Derived.KernelRfl
namespace Go.Proofs.Ytflmehahkcijcaa
/- THE CELL 'sum', in the pinned program and in every row, IS THE sha256 OF THE DUMP (.gsa) THAT YtflmehahkcijcaaProg.lean LOADS. Nothing in Lean hashes anything: it is a label: what it is worth is what the hold of that sum in a sandbox is worth. -/
noncomputable def Try.pinned : Pinned := { name := "ytflmehahkcijcaa", sum := "e7e0172a30bfbc03f93ba556e7a04a6b0617eadc570b186bd1c80399bd8dc1f5", checked := Try.checked }
namespace Rows
def none {H : Type} : Left H := { results := [], args := [] }

/-- 'meanderlaw18.OperPlain': WHATEVER THE INPUT: true; the input reads as it did. -/
def operPlainSpec : ChangeSpec := { name := "operPlain", fn := fun _ => fun
  | [d1, d2, d3] => { results := [.lit (.bool true)], args := [d1, d2, d3] }
  | _ => none }
def operPlainRow : OpenClaim := { program := "ytflmehahkcijcaa", sum := "e7e0172a30bfbc03f93ba556e7a04a6b0617eadc570b186bd1c80399bd8dc1f5", func := "meander/meanderlaw18.OperPlain", spec := "operPlain", unfollowed := true, recurses := true, apart := false }
def OperPlainSaid : Prop := operPlainRow.holds Try.pinned (OpenSpec.ofChange operPlainSpec)

/-- ITS FALSE NEIGHBOUR: 'it returns false'. Refute it at one input. -/
def operPlainWrong : ChangeSpec := { name := "operPlain", fn := fun _ => fun
  | [d1, d2, d3] => { results := [.lit (.bool false)], args := [d1, d2, d3] }
  | _ => none }
def OperPlainWrongFalsely : Prop := operPlainRow.holds Try.pinned (OpenSpec.ofChange operPlainWrong)

/-- 'meanderlaw18.OperDepth': WHATEVER THE INPUT: true; the input reads as it did. -/
def operDepthSpec : ChangeSpec := { name := "operDepth", fn := fun _ => fun
  | [d1, d2, d3] => { results := [.lit (.bool true)], args := [d1, d2, d3] }
  | _ => none }
def operDepthRow : OpenClaim := { program := "ytflmehahkcijcaa", sum := "e7e0172a30bfbc03f93ba556e7a04a6b0617eadc570b186bd1c80399bd8dc1f5", func := "meander/meanderlaw18.OperDepth", spec := "operDepth", unfollowed := true, recurses := true, apart := false }
def OperDepthSaid : Prop := operDepthRow.holds Try.pinned (OpenSpec.ofChange operDepthSpec)

/-- ITS FALSE NEIGHBOUR: 'it returns false'. Refute it at one input. -/
def operDepthWrong : ChangeSpec := { name := "operDepth", fn := fun _ => fun
  | [d1, d2, d3] => { results := [.lit (.bool false)], args := [d1, d2, d3] }
  | _ => none }
def OperDepthWrongFalsely : Prop := operDepthRow.holds Try.pinned (OpenSpec.ofChange operDepthWrong)

/-- 'meanderlaw18.OperParts': WHATEVER THE INPUT: true; the input reads as it did. -/
def operPartsSpec : ChangeSpec := { name := "operParts", fn := fun _ => fun
  | [d] => { results := [.lit (.bool true)], args := [d] }
  | _ => none }
def operPartsRow : OpenClaim := { program := "ytflmehahkcijcaa", sum := "e7e0172a30bfbc03f93ba556e7a04a6b0617eadc570b186bd1c80399bd8dc1f5", func := "meander/meanderlaw18.OperParts", spec := "operParts", unfollowed := true, recurses := true, apart := false }
def OperPartsSaid : Prop := operPartsRow.holds Try.pinned (OpenSpec.ofChange operPartsSpec)

/-- ITS FALSE NEIGHBOUR: 'it returns false'. Refute it at one input. -/
def operPartsWrong : ChangeSpec := { name := "operParts", fn := fun _ => fun
  | [d] => { results := [.lit (.bool false)], args := [d] }
  | _ => none }
def OperPartsWrongFalsely : Prop := operPartsRow.holds Try.pinned (OpenSpec.ofChange operPartsWrong)

/-- 'meanderlaw18.OperWaits': WHATEVER THE INPUT: true; the input reads as it did. -/
def operWaitsSpec : ChangeSpec := { name := "operWaits", fn := fun _ => fun
  | [d1, d2, d3] => { results := [.lit (.bool true)], args := [d1, d2, d3] }
  | _ => none }
def operWaitsRow : OpenClaim := { program := "ytflmehahkcijcaa", sum := "e7e0172a30bfbc03f93ba556e7a04a6b0617eadc570b186bd1c80399bd8dc1f5", func := "meander/meanderlaw18.OperWaits", spec := "operWaits", unfollowed := true, recurses := true, apart := false }
def OperWaitsSaid : Prop := operWaitsRow.holds Try.pinned (OpenSpec.ofChange operWaitsSpec)

/-- ITS FALSE NEIGHBOUR: 'it returns false'. Refute it at one input. -/
def operWaitsWrong : ChangeSpec := { name := "operWaits", fn := fun _ => fun
  | [d1, d2, d3] => { results := [.lit (.bool false)], args := [d1, d2, d3] }
  | _ => none }
def OperWaitsWrongFalsely : Prop := operWaitsRow.holds Try.pinned (OpenSpec.ofChange operWaitsWrong)

/-- 'meanderlaw18.OperTells': WHATEVER THE INPUT: true; the input reads as it did. -/
def operTellsSpec : ChangeSpec := { name := "operTells", fn := fun _ => fun
  | [d1, d2] => { results := [.lit (.bool true)], args := [d1, d2] }
  | _ => none }
def operTellsRow : OpenClaim := { program := "ytflmehahkcijcaa", sum := "e7e0172a30bfbc03f93ba556e7a04a6b0617eadc570b186bd1c80399bd8dc1f5", func := "meander/meanderlaw18.OperTells", spec := "operTells", unfollowed := true, recurses := true, apart := false }
def OperTellsSaid : Prop := operTellsRow.holds Try.pinned (OpenSpec.ofChange operTellsSpec)

/-- ITS FALSE NEIGHBOUR: 'it returns false'. Refute it at one input. -/
def operTellsWrong : ChangeSpec := { name := "operTells", fn := fun _ => fun
  | [d1, d2] => { results := [.lit (.bool false)], args := [d1, d2] }
  | _ => none }
def OperTellsWrongFalsely : Prop := operTellsRow.holds Try.pinned (OpenSpec.ofChange operTellsWrong)

/- THE SECOND FORM. 'bulk': how many values and letters a reading holds, each counted each time it is reached (what is shared counts as often as it is met; a slice's spare places count too). A statement '..UptoSaid' is the law's where the arguments, and the package variables that the reading takes, are together of bulk at most 1048576: NARROWER than '..Said'. Prove '..Said' where nothing that the law and all that it calls make is longer than what came in: it says more and counts as full. Else prove '..UptoSaid'. A law counts once. -/
mutual
def uptoBulk {H : Type} : DataW H → Nat
  | .lit (.string bytes) => bytes.length + 1
  | .lit _ => 1
  | .nil => 1
  | .ptr d => uptoBulk d + 1
  | .slice elems spare => uptoBulkAll elems + uptoBulkAll spare + 1
  | .agg parts => uptoBulkAll parts + 1
  | .iface _ d => uptoBulk d + 1
  | .map entries => uptoBulkEntries entries + 1
  | .held _ => 1
def uptoBulkAll {H : Type} : List (DataW H) → Nat
  | [] => 0
  | d :: r => uptoBulk d + uptoBulkAll r
def uptoBulkEntries {H : Type} : List (Lit × DataW H) → Nat
  | [] => 0
  | x :: r => uptoBulkEntry x + uptoBulkEntries r
def uptoBulkEntry {H : Type} : Lit × DataW H → Nat
  | (.string bytes, d) => bytes.length + uptoBulk d + 1
  | (_, d) => uptoBulk d + 1
 end
def uptoSmall : (H : Type) → List (DataW H) → Bool := fun _ ds => decide (uptoBulkAll ds ≤ 1048576)
def OpenSpec.upto (s : _root_.Go.ChangeSpec) : _root_.Go.OpenSpec := { _root_.Go.OpenSpec.ofChange s with cond := some uptoSmall }

/-- 'meanderlaw18.OperPlain', WHERE WHAT IT READS IS OF BULK AT MOST 1048576: true; the input reads as it did. -/
def operPlainUptoRow : OpenClaim := { program := "ytflmehahkcijcaa", sum := "e7e0172a30bfbc03f93ba556e7a04a6b0617eadc570b186bd1c80399bd8dc1f5", func := "meander/meanderlaw18.OperPlain", spec := "operPlain", unfollowed := true, recurses := true, apart := false, narrowed := true }
def OperPlainUptoSaid : Prop := operPlainUptoRow.holds Try.pinned (OpenSpec.upto operPlainSpec)

/-- 'meanderlaw18.OperDepth', WHERE WHAT IT READS IS OF BULK AT MOST 1048576: true; the input reads as it did. -/
def operDepthUptoRow : OpenClaim := { program := "ytflmehahkcijcaa", sum := "e7e0172a30bfbc03f93ba556e7a04a6b0617eadc570b186bd1c80399bd8dc1f5", func := "meander/meanderlaw18.OperDepth", spec := "operDepth", unfollowed := true, recurses := true, apart := false, narrowed := true }
def OperDepthUptoSaid : Prop := operDepthUptoRow.holds Try.pinned (OpenSpec.upto operDepthSpec)

/-- 'meanderlaw18.OperParts', WHERE WHAT IT READS IS OF BULK AT MOST 1048576: true; the input reads as it did. -/
def operPartsUptoRow : OpenClaim := { program := "ytflmehahkcijcaa", sum := "e7e0172a30bfbc03f93ba556e7a04a6b0617eadc570b186bd1c80399bd8dc1f5", func := "meander/meanderlaw18.OperParts", spec := "operParts", unfollowed := true, recurses := true, apart := false, narrowed := true }
def OperPartsUptoSaid : Prop := operPartsUptoRow.holds Try.pinned (OpenSpec.upto operPartsSpec)

/-- 'meanderlaw18.OperWaits', WHERE WHAT IT READS IS OF BULK AT MOST 1048576: true; the input reads as it did. -/
def operWaitsUptoRow : OpenClaim := { program := "ytflmehahkcijcaa", sum := "e7e0172a30bfbc03f93ba556e7a04a6b0617eadc570b186bd1c80399bd8dc1f5", func := "meander/meanderlaw18.OperWaits", spec := "operWaits", unfollowed := true, recurses := true, apart := false, narrowed := true }
def OperWaitsUptoSaid : Prop := operWaitsUptoRow.holds Try.pinned (OpenSpec.upto operWaitsSpec)

/-- 'meanderlaw18.OperTells', WHERE WHAT IT READS IS OF BULK AT MOST 1048576: true; the input reads as it did. -/
def operTellsUptoRow : OpenClaim := { program := "ytflmehahkcijcaa", sum := "e7e0172a30bfbc03f93ba556e7a04a6b0617eadc570b186bd1c80399bd8dc1f5", func := "meander/meanderlaw18.OperTells", spec := "operTells", unfollowed := true, recurses := true, apart := false, narrowed := true }
def OperTellsUptoSaid : Prop := operTellsUptoRow.holds Try.pinned (OpenSpec.upto operTellsSpec)

end Rows
end Go.Proofs.Ytflmehahkcijcaa
