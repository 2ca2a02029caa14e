/-
  No cell of these rows narrows 'for every input' (looked for: loops, veiled, ifaces, maps, wideKeys, modest, calm, conditions, laid).
  DERIVED. THE GIVEN ROWS OF THIS SEAT. 8 by the template 'for every input the law returns true; each argument reads behind the call as it read before'; 0 by the template 'total and deterministic' (their statements: YtjnihfmmmadlhaaTotals.lean).
  GIVEN WITH THE SEED: the statements are not yours to turn. If you find one false, say at which input.
  Laid BY PROGRAM, IN A SANDBOX (cutbox-rows.mjs): the forced cells as the released guide's own fill.sh prints them over the translation adac531df1dce2b7… (all of the seat's roots in one cut). By AI agents, Wed Nov 11 2026. No macro, syntax, notation, axiom, sorry.
-/
import Derived.Test.YtjnihfmmmadlhaaChecked
import GoSem.Claim
import GoSem.ClaimJoined
import GoSem.ClaimMapViews
import Derived.JoinedTies
import Derived.KernelRfl
namespace Go.Proofs.Ytjnihfmmmadlhaa
/- THE CELL 'sum', in the pinned program and in every row, IS THE sha256 OF THE DUMP (.gsa) THAT YtjnihfmmmadlhaaProg.lean LOADS. Nothing in Lean hashes anything: it is a label: what it is worth is what the hold of that sum in a sandbox is worth. -/
noncomputable def Try.pinned : Pinned := { name := "ytjnihfmmmadlhaa", sum := "adac531df1dce2b74cbaeffd18b358463f5c63458c1a8fbe571bbe2661076ac0", checked := Try.checked }
namespace Rows
def none {H : Type} : Left H := { results := [], args := [] }

/-- 'meanderlaw02.SummaryNodes': WHATEVER THE INPUT: true; the input reads as it did. -/
def summaryNodesSpec : ChangeSpec := { name := "summaryNodes", fn := fun _ => fun
  | [d1, d2] => { results := [.lit (.bool true)], args := [d1, d2] }
  | _ => none }
def summaryNodesRow : OpenClaim := { program := "ytjnihfmmmadlhaa", sum := "adac531df1dce2b74cbaeffd18b358463f5c63458c1a8fbe571bbe2661076ac0", func := "meander/meanderlaw02.SummaryNodes", spec := "summaryNodes", apart := false }
def SummaryNodesSaid : Prop := summaryNodesRow.holds Try.pinned (OpenSpec.ofChange summaryNodesSpec)

/-- ITS FALSE NEIGHBOUR: 'it returns false'. Refute it at one input. -/
def summaryNodesWrong : ChangeSpec := { name := "summaryNodes", fn := fun _ => fun
  | [d1, d2] => { results := [.lit (.bool false)], args := [d1, d2] }
  | _ => none }
def SummaryNodesWrongFalsely : Prop := summaryNodesRow.holds Try.pinned (OpenSpec.ofChange summaryNodesWrong)

/-- 'meanderlaw02.SummaryApplies': WHATEVER THE INPUT: true; the input reads as it did. -/
def summaryAppliesSpec : ChangeSpec := { name := "summaryApplies", fn := fun _ => fun
  | [d1, d2, d3] => { results := [.lit (.bool true)], args := [d1, d2, d3] }
  | _ => none }
def summaryAppliesRow : OpenClaim := { program := "ytjnihfmmmadlhaa", sum := "adac531df1dce2b74cbaeffd18b358463f5c63458c1a8fbe571bbe2661076ac0", func := "meander/meanderlaw02.SummaryApplies", spec := "summaryApplies", apart := false }
def SummaryAppliesSaid : Prop := summaryAppliesRow.holds Try.pinned (OpenSpec.ofChange summaryAppliesSpec)

/-- ITS FALSE NEIGHBOUR: 'it returns false'. Refute it at one input. -/
def summaryAppliesWrong : ChangeSpec := { name := "summaryApplies", fn := fun _ => fun
  | [d1, d2, d3] => { results := [.lit (.bool false)], args := [d1, d2, d3] }
  | _ => none }
def SummaryAppliesWrongFalsely : Prop := summaryAppliesRow.holds Try.pinned (OpenSpec.ofChange summaryAppliesWrong)

/-- 'meanderlaw02.SummaryThen': WHATEVER THE INPUT: true; the input reads as it did. -/
def summaryThenSpec : ChangeSpec := { name := "summaryThen", fn := fun _ => fun
  | [d1, d2, d3] => { results := [.lit (.bool true)], args := [d1, d2, d3] }
  | _ => none }
def summaryThenRow : OpenClaim := { program := "ytjnihfmmmadlhaa", sum := "adac531df1dce2b74cbaeffd18b358463f5c63458c1a8fbe571bbe2661076ac0", func := "meander/meanderlaw02.SummaryThen", spec := "summaryThen", apart := false }
def SummaryThenSaid : Prop := summaryThenRow.holds Try.pinned (OpenSpec.ofChange summaryThenSpec)

/-- ITS FALSE NEIGHBOUR: 'it returns false'. Refute it at one input. -/
def summaryThenWrong : ChangeSpec := { name := "summaryThen", fn := fun _ => fun
  | [d1, d2, d3] => { results := [.lit (.bool false)], args := [d1, d2, d3] }
  | _ => none }
def SummaryThenWrongFalsely : Prop := summaryThenRow.holds Try.pinned (OpenSpec.ofChange summaryThenWrong)

/-- 'meanderlaw02.SummaryLoops': WHATEVER THE INPUT: true; the input reads as it did. -/
def summaryLoopsSpec : ChangeSpec := { name := "summaryLoops", fn := fun _ => fun
  | [d1, d2] => { results := [.lit (.bool true)], args := [d1, d2] }
  | _ => none }
def summaryLoopsRow : OpenClaim := { program := "ytjnihfmmmadlhaa", sum := "adac531df1dce2b74cbaeffd18b358463f5c63458c1a8fbe571bbe2661076ac0", func := "meander/meanderlaw02.SummaryLoops", spec := "summaryLoops", apart := false }
def SummaryLoopsSaid : Prop := summaryLoopsRow.holds Try.pinned (OpenSpec.ofChange summaryLoopsSpec)

/-- ITS FALSE NEIGHBOUR: 'it returns false'. Refute it at one input. -/
def summaryLoopsWrong : ChangeSpec := { name := "summaryLoops", fn := fun _ => fun
  | [d1, d2] => { results := [.lit (.bool false)], args := [d1, d2] }
  | _ => none }
def SummaryLoopsWrongFalsely : Prop := summaryLoopsRow.holds Try.pinned (OpenSpec.ofChange summaryLoopsWrong)

/-- 'meanderlaw02.SummaryAssoc': WHATEVER THE INPUT: true; the input reads as it did. -/
def summaryAssocSpec : ChangeSpec := { name := "summaryAssoc", fn := fun _ => fun
  | [d1, d2, d3] => { results := [.lit (.bool true)], args := [d1, d2, d3] }
  | _ => none }
def summaryAssocRow : OpenClaim := { program := "ytjnihfmmmadlhaa", sum := "adac531df1dce2b74cbaeffd18b358463f5c63458c1a8fbe571bbe2661076ac0", func := "meander/meanderlaw02.SummaryAssoc", spec := "summaryAssoc", apart := false }
def SummaryAssocSaid : Prop := summaryAssocRow.holds Try.pinned (OpenSpec.ofChange summaryAssocSpec)

/-- ITS FALSE NEIGHBOUR: 'it returns false'. Refute it at one input. -/
def summaryAssocWrong : ChangeSpec := { name := "summaryAssoc", fn := fun _ => fun
  | [d1, d2, d3] => { results := [.lit (.bool false)], args := [d1, d2, d3] }
  | _ => none }
def SummaryAssocWrongFalsely : Prop := summaryAssocRow.holds Try.pinned (OpenSpec.ofChange summaryAssocWrong)

/-- 'meanderlaw02.SummaryLess': WHATEVER THE INPUT: true; the input reads as it did. -/
def summaryLessSpec : ChangeSpec := { name := "summaryLess", fn := fun _ => fun
  | [d1, d2, d3] => { results := [.lit (.bool true)], args := [d1, d2, d3] }
  | _ => none }
def summaryLessRow : OpenClaim := { program := "ytjnihfmmmadlhaa", sum := "adac531df1dce2b74cbaeffd18b358463f5c63458c1a8fbe571bbe2661076ac0", func := "meander/meanderlaw02.SummaryLess", spec := "summaryLess", unfollowed := true, recurses := true, apart := false }
def SummaryLessSaid : Prop := summaryLessRow.holds Try.pinned (OpenSpec.ofChange summaryLessSpec)

/-- ITS FALSE NEIGHBOUR: 'it returns false'. Refute it at one input. -/
def summaryLessWrong : ChangeSpec := { name := "summaryLess", fn := fun _ => fun
  | [d1, d2, d3] => { results := [.lit (.bool false)], args := [d1, d2, d3] }
  | _ => none }
def SummaryLessWrongFalsely : Prop := summaryLessRow.holds Try.pinned (OpenSpec.ofChange summaryLessWrong)

/-- 'meanderlaw02.SummaryOrders': WHATEVER THE INPUT: true; the input reads as it did. -/
def summaryOrdersSpec : ChangeSpec := { name := "summaryOrders", fn := fun _ => fun
  | [d1, d2] => { results := [.lit (.bool true)], args := [d1, d2] }
  | _ => none }
def summaryOrdersRow : OpenClaim := { program := "ytjnihfmmmadlhaa", sum := "adac531df1dce2b74cbaeffd18b358463f5c63458c1a8fbe571bbe2661076ac0", func := "meander/meanderlaw02.SummaryOrders", spec := "summaryOrders", unfollowed := true, recurses := true, apart := false }
def SummaryOrdersSaid : Prop := summaryOrdersRow.holds Try.pinned (OpenSpec.ofChange summaryOrdersSpec)

/-- ITS FALSE NEIGHBOUR: 'it returns false'. Refute it at one input. -/
def summaryOrdersWrong : ChangeSpec := { name := "summaryOrders", fn := fun _ => fun
  | [d1, d2] => { results := [.lit (.bool false)], args := [d1, d2] }
  | _ => none }
def SummaryOrdersWrongFalsely : Prop := summaryOrdersRow.holds Try.pinned (OpenSpec.ofChange summaryOrdersWrong)

/-- 'meanderlaw02.SummaryTotal': WHATEVER THE INPUT: true; the input reads as it did. -/
def summaryTotalSpec : ChangeSpec := { name := "summaryTotal", fn := fun _ => fun
  | [d1, d2, d3] => { results := [.lit (.bool true)], args := [d1, d2, d3] }
  | _ => none }
def summaryTotalRow : OpenClaim := { program := "ytjnihfmmmadlhaa", sum := "adac531df1dce2b74cbaeffd18b358463f5c63458c1a8fbe571bbe2661076ac0", func := "meander/meanderlaw02.SummaryTotal", spec := "summaryTotal", unfollowed := true, recurses := true, apart := false }
def SummaryTotalSaid : Prop := summaryTotalRow.holds Try.pinned (OpenSpec.ofChange summaryTotalSpec)

/-- ITS FALSE NEIGHBOUR: 'it returns false'. Refute it at one input. -/
def summaryTotalWrong : ChangeSpec := { name := "summaryTotal", fn := fun _ => fun
  | [d1, d2, d3] => { results := [.lit (.bool false)], args := [d1, d2, d3] }
  | _ => none }
def SummaryTotalWrongFalsely : Prop := summaryTotalRow.holds Try.pinned (OpenSpec.ofChange summaryTotalWrong)

/- THE SECOND FORM. 'bulk': how many values and letters a reading holds, each counted each time it is reached (what is shared counts as often as it is met; a slice's spare places count too). A statement '..UptoSaid' is the law's where the arguments, and the package variables that the reading takes, are together of bulk at most 1048576: NARROWER than '..Said'. Prove '..Said' where nothing that the law and all that it calls make is longer than what came in: it says more and counts as full. Else prove '..UptoSaid'. A law counts once. -/
mutual
def uptoBulk {H : Type} : DataW H → Nat
  | .lit (.string bytes) => bytes.length + 1
  | .lit _ => 1
  | .nil => 1
  | .ptr d => uptoBulk d + 1
  | .slice elems spare => uptoBulkAll elems + uptoBulkAll spare + 1
  | .agg parts => uptoBulkAll parts + 1
  | .iface _ d => uptoBulk d + 1
  | .map entries => uptoBulkEntries entries + 1
  | .held _ => 1
def uptoBulkAll {H : Type} : List (DataW H) → Nat
  | [] => 0
  | d :: r => uptoBulk d + uptoBulkAll r
def uptoBulkEntries {H : Type} : List (Lit × DataW H) → Nat
  | [] => 0
  | x :: r => uptoBulkEntry x + uptoBulkEntries r
def uptoBulkEntry {H : Type} : Lit × DataW H → Nat
  | (.string bytes, d) => bytes.length + uptoBulk d + 1
  | (_, d) => uptoBulk d + 1
 end
def uptoSmall : (H : Type) → List (DataW H) → Bool := fun _ ds => decide (uptoBulkAll ds ≤ 1048576)
def OpenSpec.upto (s : _root_.Go.ChangeSpec) : _root_.Go.OpenSpec := { _root_.Go.OpenSpec.ofChange s with cond := some uptoSmall }

/-- 'meanderlaw02.SummaryNodes', WHERE WHAT IT READS IS OF BULK AT MOST 1048576: true; the input reads as it did. -/
def summaryNodesUptoRow : OpenClaim := { program := "ytjnihfmmmadlhaa", sum := "adac531df1dce2b74cbaeffd18b358463f5c63458c1a8fbe571bbe2661076ac0", func := "meander/meanderlaw02.SummaryNodes", spec := "summaryNodes", apart := false, narrowed := true }
def SummaryNodesUptoSaid : Prop := summaryNodesUptoRow.holds Try.pinned (OpenSpec.upto summaryNodesSpec)

/-- 'meanderlaw02.SummaryApplies', WHERE WHAT IT READS IS OF BULK AT MOST 1048576: true; the input reads as it did. -/
def summaryAppliesUptoRow : OpenClaim := { program := "ytjnihfmmmadlhaa", sum := "adac531df1dce2b74cbaeffd18b358463f5c63458c1a8fbe571bbe2661076ac0", func := "meander/meanderlaw02.SummaryApplies", spec := "summaryApplies", apart := false, narrowed := true }
def SummaryAppliesUptoSaid : Prop := summaryAppliesUptoRow.holds Try.pinned (OpenSpec.upto summaryAppliesSpec)

/-- 'meanderlaw02.SummaryThen', WHERE WHAT IT READS IS OF BULK AT MOST 1048576: true; the input reads as it did. -/
def summaryThenUptoRow : OpenClaim := { program := "ytjnihfmmmadlhaa", sum := "adac531df1dce2b74cbaeffd18b358463f5c63458c1a8fbe571bbe2661076ac0", func := "meander/meanderlaw02.SummaryThen", spec := "summaryThen", apart := false, narrowed := true }
def SummaryThenUptoSaid : Prop := summaryThenUptoRow.holds Try.pinned (OpenSpec.upto summaryThenSpec)

/-- 'meanderlaw02.SummaryLoops', WHERE WHAT IT READS IS OF BULK AT MOST 1048576: true; the input reads as it did. -/
def summaryLoopsUptoRow : OpenClaim := { program := "ytjnihfmmmadlhaa", sum := "adac531df1dce2b74cbaeffd18b358463f5c63458c1a8fbe571bbe2661076ac0", func := "meander/meanderlaw02.SummaryLoops", spec := "summaryLoops", apart := false, narrowed := true }
def SummaryLoopsUptoSaid : Prop := summaryLoopsUptoRow.holds Try.pinned (OpenSpec.upto summaryLoopsSpec)

/-- 'meanderlaw02.SummaryAssoc', WHERE WHAT IT READS IS OF BULK AT MOST 1048576: true; the input reads as it did. -/
def summaryAssocUptoRow : OpenClaim := { program := "ytjnihfmmmadlhaa", sum := "adac531df1dce2b74cbaeffd18b358463f5c63458c1a8fbe571bbe2661076ac0", func := "meander/meanderlaw02.SummaryAssoc", spec := "summaryAssoc", apart := false, narrowed := true }
def SummaryAssocUptoSaid : Prop := summaryAssocUptoRow.holds Try.pinned (OpenSpec.upto summaryAssocSpec)

/-- 'meanderlaw02.SummaryLess', WHERE WHAT IT READS IS OF BULK AT MOST 1048576: true; the input reads as it did. -/
def summaryLessUptoRow : OpenClaim := { program := "ytjnihfmmmadlhaa", sum := "adac531df1dce2b74cbaeffd18b358463f5c63458c1a8fbe571bbe2661076ac0", func := "meander/meanderlaw02.SummaryLess", spec := "summaryLess", unfollowed := true, recurses := true, apart := false, narrowed := true }
def SummaryLessUptoSaid : Prop := summaryLessUptoRow.holds Try.pinned (OpenSpec.upto summaryLessSpec)

/-- 'meanderlaw02.SummaryOrders', WHERE WHAT IT READS IS OF BULK AT MOST 1048576: true; the input reads as it did. -/
def summaryOrdersUptoRow : OpenClaim := { program := "ytjnihfmmmadlhaa", sum := "adac531df1dce2b74cbaeffd18b358463f5c63458c1a8fbe571bbe2661076ac0", func := "meander/meanderlaw02.SummaryOrders", spec := "summaryOrders", unfollowed := true, recurses := true, apart := false, narrowed := true }
def SummaryOrdersUptoSaid : Prop := summaryOrdersUptoRow.holds Try.pinned (OpenSpec.upto summaryOrdersSpec)

/-- 'meanderlaw02.SummaryTotal', WHERE WHAT IT READS IS OF BULK AT MOST 1048576: true; the input reads as it did. -/
def summaryTotalUptoRow : OpenClaim := { program := "ytjnihfmmmadlhaa", sum := "adac531df1dce2b74cbaeffd18b358463f5c63458c1a8fbe571bbe2661076ac0", func := "meander/meanderlaw02.SummaryTotal", spec := "summaryTotal", unfollowed := true, recurses := true, apart := false, narrowed := true }
def SummaryTotalUptoSaid : Prop := summaryTotalUptoRow.holds Try.pinned (OpenSpec.upto summaryTotalSpec)

end Rows
end Go.Proofs.Ytjnihfmmmadlhaa
