/-
  No cell of these rows narrows 'for every input' (looked for: loops, veiled, ifaces, maps, wideKeys, modest, calm, conditions, laid).
  DERIVED. THE GIVEN ROWS OF THIS SEAT. 6 by the template 'for every input the law returns true; each argument reads behind the call as it read before'; 0 by the template 'total and deterministic' (their statements: YtkdfdbjcfhmkaaaTotals.lean).
  GIVEN WITH THE SEED: the statements are not yours to turn. If you find one false, say at which input.
  Laid BY PROGRAM, IN A SANDBOX (cutbox-rows.mjs): the forced cells as the released guide's own fill.sh prints them over the translation 8291fb6a0a3d768f… (all of the seat's roots in one cut). By AI agents, Wed Nov 11 2026. No macro, syntax, notation, axiom, sorry.
-/
import Derived.Test.YtkdfdbjcfhmkaaaChecked
import GoSem.Claim
import GoSem.ClaimJoined
import GoSem.ClaimMapViews
import Derived.JoinedTies
import Derived.KernelRfl
namespace Go.Proofs.Ytkdfdbjcfhmkaaa
/- THE CELL 'sum', in the pinned program and in every row, IS THE sha256 OF THE DUMP (.gsa) THAT YtkdfdbjcfhmkaaaProg.lean LOADS. Nothing in Lean hashes anything: it is a label: what it is worth is what the hold of that sum in a sandbox is worth. -/
noncomputable def Try.pinned : Pinned := { name := "ytkdfdbjcfhmkaaa", sum := "8291fb6a0a3d768f28476e2c6be896e337a067deb8c378c5f0e4cd75087f6669", checked := Try.checked }
namespace Rows
def none {H : Type} : Left H := { results := [], args := [] }

/-- 'meanderlaw14.PacketSums': WHATEVER THE INPUT: true; the input reads as it did. -/
def packetSumsSpec : ChangeSpec := { name := "packetSums", fn := fun _ => fun
  | [d1, d2, d3] => { results := [.lit (.bool true)], args := [d1, d2, d3] }
  | _ => none }
def packetSumsRow : OpenClaim := { program := "ytkdfdbjcfhmkaaa", sum := "8291fb6a0a3d768f28476e2c6be896e337a067deb8c378c5f0e4cd75087f6669", func := "meander/meanderlaw14.PacketSums", spec := "packetSums", apart := false }
def PacketSumsSaid : Prop := packetSumsRow.holds Try.pinned (OpenSpec.ofChange packetSumsSpec)

/-- ITS FALSE NEIGHBOUR: 'it returns false'. Refute it at one input. -/
def packetSumsWrong : ChangeSpec := { name := "packetSums", fn := fun _ => fun
  | [d1, d2, d3] => { results := [.lit (.bool false)], args := [d1, d2, d3] }
  | _ => none }
def PacketSumsWrongFalsely : Prop := packetSumsRow.holds Try.pinned (OpenSpec.ofChange packetSumsWrong)

/-- 'meanderlaw14.PacketPuts': WHATEVER THE INPUT: true; the input reads as it did. -/
def packetPutsSpec : ChangeSpec := { name := "packetPuts", fn := fun _ => fun
  | [d1, d2] => { results := [.lit (.bool true)], args := [d1, d2] }
  | _ => none }
def packetPutsRow : OpenClaim := { program := "ytkdfdbjcfhmkaaa", sum := "8291fb6a0a3d768f28476e2c6be896e337a067deb8c378c5f0e4cd75087f6669", func := "meander/meanderlaw14.PacketPuts", spec := "packetPuts", unfollowed := true, recurses := true, apart := false }
def PacketPutsSaid : Prop := packetPutsRow.holds Try.pinned (OpenSpec.ofChange packetPutsSpec)

/-- ITS FALSE NEIGHBOUR: 'it returns false'. Refute it at one input. -/
def packetPutsWrong : ChangeSpec := { name := "packetPuts", fn := fun _ => fun
  | [d1, d2] => { results := [.lit (.bool false)], args := [d1, d2] }
  | _ => none }
def PacketPutsWrongFalsely : Prop := packetPutsRow.holds Try.pinned (OpenSpec.ofChange packetPutsWrong)

/-- 'meanderlaw14.PacketSizes': WHATEVER THE INPUT: true; the input reads as it did. -/
def packetSizesSpec : ChangeSpec := { name := "packetSizes", fn := fun _ => fun
  | [d1, d2] => { results := [.lit (.bool true)], args := [d1, d2] }
  | _ => none }
def packetSizesRow : OpenClaim := { program := "ytkdfdbjcfhmkaaa", sum := "8291fb6a0a3d768f28476e2c6be896e337a067deb8c378c5f0e4cd75087f6669", func := "meander/meanderlaw14.PacketSizes", spec := "packetSizes", unfollowed := true, recurses := true, apart := false }
def PacketSizesSaid : Prop := packetSizesRow.holds Try.pinned (OpenSpec.ofChange packetSizesSpec)

/-- ITS FALSE NEIGHBOUR: 'it returns false'. Refute it at one input. -/
def packetSizesWrong : ChangeSpec := { name := "packetSizes", fn := fun _ => fun
  | [d1, d2] => { results := [.lit (.bool false)], args := [d1, d2] }
  | _ => none }
def PacketSizesWrongFalsely : Prop := packetSizesRow.holds Try.pinned (OpenSpec.ofChange packetSizesWrong)

/-- 'meanderlaw14.PacketTakes': WHATEVER THE INPUT: true; the input reads as it did. -/
def packetTakesSpec : ChangeSpec := { name := "packetTakes", fn := fun _ => fun
  | [d1, d2] => { results := [.lit (.bool true)], args := [d1, d2] }
  | _ => none }
def packetTakesRow : OpenClaim := { program := "ytkdfdbjcfhmkaaa", sum := "8291fb6a0a3d768f28476e2c6be896e337a067deb8c378c5f0e4cd75087f6669", func := "meander/meanderlaw14.PacketTakes", spec := "packetTakes", unfollowed := true, recurses := true, apart := false }
def PacketTakesSaid : Prop := packetTakesRow.holds Try.pinned (OpenSpec.ofChange packetTakesSpec)

/-- ITS FALSE NEIGHBOUR: 'it returns false'. Refute it at one input. -/
def packetTakesWrong : ChangeSpec := { name := "packetTakes", fn := fun _ => fun
  | [d1, d2] => { results := [.lit (.bool false)], args := [d1, d2] }
  | _ => none }
def PacketTakesWrongFalsely : Prop := packetTakesRow.holds Try.pinned (OpenSpec.ofChange packetTakesWrong)

/-- 'meanderlaw14.PacketBack': WHATEVER THE INPUT: true; the input reads as it did. -/
def packetBackSpec : ChangeSpec := { name := "packetBack", fn := fun _ => fun
  | [d1, d2] => { results := [.lit (.bool true)], args := [d1, d2] }
  | _ => none }
def packetBackRow : OpenClaim := { program := "ytkdfdbjcfhmkaaa", sum := "8291fb6a0a3d768f28476e2c6be896e337a067deb8c378c5f0e4cd75087f6669", func := "meander/meanderlaw14.PacketBack", spec := "packetBack", unfollowed := true, recurses := true, apart := false }
def PacketBackSaid : Prop := packetBackRow.holds Try.pinned (OpenSpec.ofChange packetBackSpec)

/-- ITS FALSE NEIGHBOUR: 'it returns false'. Refute it at one input. -/
def packetBackWrong : ChangeSpec := { name := "packetBack", fn := fun _ => fun
  | [d1, d2] => { results := [.lit (.bool false)], args := [d1, d2] }
  | _ => none }
def PacketBackWrongFalsely : Prop := packetBackRow.holds Try.pinned (OpenSpec.ofChange packetBackWrong)

/-- 'meanderlaw14.PacketTurned': WHATEVER THE INPUT: true; the input reads as it did. -/
def packetTurnedSpec : ChangeSpec := { name := "packetTurned", fn := fun _ => fun
  | [d1, d2, d3] => { results := [.lit (.bool true)], args := [d1, d2, d3] }
  | _ => none }
def packetTurnedRow : OpenClaim := { program := "ytkdfdbjcfhmkaaa", sum := "8291fb6a0a3d768f28476e2c6be896e337a067deb8c378c5f0e4cd75087f6669", func := "meander/meanderlaw14.PacketTurned", spec := "packetTurned", unfollowed := true, recurses := true, apart := false }
def PacketTurnedSaid : Prop := packetTurnedRow.holds Try.pinned (OpenSpec.ofChange packetTurnedSpec)

/-- ITS FALSE NEIGHBOUR: 'it returns false'. Refute it at one input. -/
def packetTurnedWrong : ChangeSpec := { name := "packetTurned", fn := fun _ => fun
  | [d1, d2, d3] => { results := [.lit (.bool false)], args := [d1, d2, d3] }
  | _ => none }
def PacketTurnedWrongFalsely : Prop := packetTurnedRow.holds Try.pinned (OpenSpec.ofChange packetTurnedWrong)

/- THE SECOND FORM. 'bulk': how many values and letters a reading holds, each counted each time it is reached (what is shared counts as often as it is met; a slice's spare places count too). A statement '..UptoSaid' is the law's where the arguments, and the package variables that the reading takes, are together of bulk at most 1048576: NARROWER than '..Said'. Prove '..Said' where nothing that the law and all that it calls make is longer than what came in: it says more and counts as full. Else prove '..UptoSaid'. A law counts once. -/
mutual
def uptoBulk {H : Type} : DataW H → Nat
  | .lit (.string bytes) => bytes.length + 1
  | .lit _ => 1
  | .nil => 1
  | .ptr d => uptoBulk d + 1
  | .slice elems spare => uptoBulkAll elems + uptoBulkAll spare + 1
  | .agg parts => uptoBulkAll parts + 1
  | .iface _ d => uptoBulk d + 1
  | .map entries => uptoBulkEntries entries + 1
  | .held _ => 1
def uptoBulkAll {H : Type} : List (DataW H) → Nat
  | [] => 0
  | d :: r => uptoBulk d + uptoBulkAll r
def uptoBulkEntries {H : Type} : List (Lit × DataW H) → Nat
  | [] => 0
  | x :: r => uptoBulkEntry x + uptoBulkEntries r
def uptoBulkEntry {H : Type} : Lit × DataW H → Nat
  | (.string bytes, d) => bytes.length + uptoBulk d + 1
  | (_, d) => uptoBulk d + 1
 end
def uptoSmall : (H : Type) → List (DataW H) → Bool := fun _ ds => decide (uptoBulkAll ds ≤ 1048576)
def OpenSpec.upto (s : _root_.Go.ChangeSpec) : _root_.Go.OpenSpec := { _root_.Go.OpenSpec.ofChange s with cond := some uptoSmall }

/-- 'meanderlaw14.PacketSums', WHERE WHAT IT READS IS OF BULK AT MOST 1048576: true; the input reads as it did. -/
def packetSumsUptoRow : OpenClaim := { program := "ytkdfdbjcfhmkaaa", sum := "8291fb6a0a3d768f28476e2c6be896e337a067deb8c378c5f0e4cd75087f6669", func := "meander/meanderlaw14.PacketSums", spec := "packetSums", apart := false, narrowed := true }
def PacketSumsUptoSaid : Prop := packetSumsUptoRow.holds Try.pinned (OpenSpec.upto packetSumsSpec)

/-- 'meanderlaw14.PacketPuts', WHERE WHAT IT READS IS OF BULK AT MOST 1048576: true; the input reads as it did. -/
def packetPutsUptoRow : OpenClaim := { program := "ytkdfdbjcfhmkaaa", sum := "8291fb6a0a3d768f28476e2c6be896e337a067deb8c378c5f0e4cd75087f6669", func := "meander/meanderlaw14.PacketPuts", spec := "packetPuts", unfollowed := true, recurses := true, apart := false, narrowed := true }
def PacketPutsUptoSaid : Prop := packetPutsUptoRow.holds Try.pinned (OpenSpec.upto packetPutsSpec)

/-- 'meanderlaw14.PacketSizes', WHERE WHAT IT READS IS OF BULK AT MOST 1048576: true; the input reads as it did. -/
def packetSizesUptoRow : OpenClaim := { program := "ytkdfdbjcfhmkaaa", sum := "8291fb6a0a3d768f28476e2c6be896e337a067deb8c378c5f0e4cd75087f6669", func := "meander/meanderlaw14.PacketSizes", spec := "packetSizes", unfollowed := true, recurses := true, apart := false, narrowed := true }
def PacketSizesUptoSaid : Prop := packetSizesUptoRow.holds Try.pinned (OpenSpec.upto packetSizesSpec)

/-- 'meanderlaw14.PacketTakes', WHERE WHAT IT READS IS OF BULK AT MOST 1048576: true; the input reads as it did. -/
def packetTakesUptoRow : OpenClaim := { program := "ytkdfdbjcfhmkaaa", sum := "8291fb6a0a3d768f28476e2c6be896e337a067deb8c378c5f0e4cd75087f6669", func := "meander/meanderlaw14.PacketTakes", spec := "packetTakes", unfollowed := true, recurses := true, apart := false, narrowed := true }
def PacketTakesUptoSaid : Prop := packetTakesUptoRow.holds Try.pinned (OpenSpec.upto packetTakesSpec)

/-- 'meanderlaw14.PacketBack', WHERE WHAT IT READS IS OF BULK AT MOST 1048576: true; the input reads as it did. -/
def packetBackUptoRow : OpenClaim := { program := "ytkdfdbjcfhmkaaa", sum := "8291fb6a0a3d768f28476e2c6be896e337a067deb8c378c5f0e4cd75087f6669", func := "meander/meanderlaw14.PacketBack", spec := "packetBack", unfollowed := true, recurses := true, apart := false, narrowed := true }
def PacketBackUptoSaid : Prop := packetBackUptoRow.holds Try.pinned (OpenSpec.upto packetBackSpec)

/-- 'meanderlaw14.PacketTurned', WHERE WHAT IT READS IS OF BULK AT MOST 1048576: true; the input reads as it did. -/
def packetTurnedUptoRow : OpenClaim := { program := "ytkdfdbjcfhmkaaa", sum := "8291fb6a0a3d768f28476e2c6be896e337a067deb8c378c5f0e4cd75087f6669", func := "meander/meanderlaw14.PacketTurned", spec := "packetTurned", unfollowed := true, recurses := true, apart := false, narrowed := true }
def PacketTurnedUptoSaid : Prop := packetTurnedUptoRow.holds Try.pinned (OpenSpec.upto packetTurnedSpec)

end Rows
end Go.Proofs.Ytkdfdbjcfhmkaaa
