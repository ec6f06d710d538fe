/-
  No cell of these rows narrows 'for every input' (looked for: loops, veiled, ifaces, maps, wideKeys, modest, calm, conditions, laid).
  DERIVED. THE GIVEN ROWS OF THIS SEAT. 5 by the template 'for every input the law returns true; each argument reads behind the call as it read before'; 0 by the template 'total and deterministic' (their statements: YtnmghlkocljedaaTotals.lean).
  GIVEN WITH THE SEED: the statements are not yours to turn. If you find one false, say at which input.
  Laid BY PROGRAM, IN A SANDBOX (cutbox-rows.mjs): the forced cells as the released guide's own fill.sh prints them over the translation b4842f7fdc993ed8… (all of the seat's roots in one cut). By AI agents, Wed Nov 11 2026. No macro, syntax, notation, axiom, sorry.
-/
import Derived.Test.YtnmghlkocljedaaChecked
import GoSem.Claim
import GoSem.ClaimJoined
import GoSem.ClaimMapViews
import Derived.JoinedTies
import Derived.KernelRfl
namespace Go.Proofs.Ytnmghlkocljedaa
/- THE CELL 'sum', in the pinned program and in every row, IS THE sha256 OF THE DUMP (.gsa) THAT YtnmghlkocljedaaProg.lean LOADS. Nothing in Lean hashes anything: it is a label: what it is worth is what the hold of that sum in a sandbox is worth. -/
noncomputable def Try.pinned : Pinned := { name := "ytnmghlkocljedaa", sum := "b4842f7fdc993ed8d3ec2bf959e15d62a400e0c4678b9da74deffa92841f1a89", checked := Try.checked }
namespace Rows
def none {H : Type} : Left H := { results := [], args := [] }

/-- 'reticulelaw05.SlotTurns': WHATEVER THE INPUT: true; the input reads as it did. -/
def slotTurnsSpec : ChangeSpec := { name := "slotTurns", fn := fun _ => fun
  | [d1, d2, d3] => { results := [.lit (.bool true)], args := [d1, d2, d3] }
  | _ => none }
def slotTurnsRow : OpenClaim := { program := "ytnmghlkocljedaa", sum := "b4842f7fdc993ed8d3ec2bf959e15d62a400e0c4678b9da74deffa92841f1a89", func := "reticule/reticulelaw05.SlotTurns", spec := "slotTurns", unfollowed := true, recurses := true, apart := false }
def SlotTurnsSaid : Prop := slotTurnsRow.holds Try.pinned (OpenSpec.ofChange slotTurnsSpec)

/-- ITS FALSE NEIGHBOUR: 'it returns false'. Refute it at one input. -/
def slotTurnsWrong : ChangeSpec := { name := "slotTurns", fn := fun _ => fun
  | [d1, d2, d3] => { results := [.lit (.bool false)], args := [d1, d2, d3] }
  | _ => none }
def SlotTurnsWrongFalsely : Prop := slotTurnsRow.holds Try.pinned (OpenSpec.ofChange slotTurnsWrong)

/-- 'reticulelaw05.SlotReads': WHATEVER THE INPUT: true; the input reads as it did. -/
def slotReadsSpec : ChangeSpec := { name := "slotReads", fn := fun _ => fun
  | [d1, d2, d3] => { results := [.lit (.bool true)], args := [d1, d2, d3] }
  | _ => none }
def slotReadsRow : OpenClaim := { program := "ytnmghlkocljedaa", sum := "b4842f7fdc993ed8d3ec2bf959e15d62a400e0c4678b9da74deffa92841f1a89", func := "reticule/reticulelaw05.SlotReads", spec := "slotReads", unfollowed := true, recurses := true, apart := false }
def SlotReadsSaid : Prop := slotReadsRow.holds Try.pinned (OpenSpec.ofChange slotReadsSpec)

/-- ITS FALSE NEIGHBOUR: 'it returns false'. Refute it at one input. -/
def slotReadsWrong : ChangeSpec := { name := "slotReads", fn := fun _ => fun
  | [d1, d2, d3] => { results := [.lit (.bool false)], args := [d1, d2, d3] }
  | _ => none }
def SlotReadsWrongFalsely : Prop := slotReadsRow.holds Try.pinned (OpenSpec.ofChange slotReadsWrong)

/-- 'reticulelaw05.SlotPuts': WHATEVER THE INPUT: true; the input reads as it did. -/
def slotPutsSpec : ChangeSpec := { name := "slotPuts", fn := fun _ => fun
  | [d1, d2, d3] => { results := [.lit (.bool true)], args := [d1, d2, d3] }
  | _ => none }
def slotPutsRow : OpenClaim := { program := "ytnmghlkocljedaa", sum := "b4842f7fdc993ed8d3ec2bf959e15d62a400e0c4678b9da74deffa92841f1a89", func := "reticule/reticulelaw05.SlotPuts", spec := "slotPuts", unfollowed := true, recurses := true, apart := false }
def SlotPutsSaid : Prop := slotPutsRow.holds Try.pinned (OpenSpec.ofChange slotPutsSpec)

/-- ITS FALSE NEIGHBOUR: 'it returns false'. Refute it at one input. -/
def slotPutsWrong : ChangeSpec := { name := "slotPuts", fn := fun _ => fun
  | [d1, d2, d3] => { results := [.lit (.bool false)], args := [d1, d2, d3] }
  | _ => none }
def SlotPutsWrongFalsely : Prop := slotPutsRow.holds Try.pinned (OpenSpec.ofChange slotPutsWrong)

/-- 'reticulelaw05.SlotProtects': WHATEVER THE INPUT: true; the input reads as it did. -/
def slotProtectsSpec : ChangeSpec := { name := "slotProtects", fn := fun _ => fun
  | [d1, d2] => { results := [.lit (.bool true)], args := [d1, d2] }
  | _ => none }
def slotProtectsRow : OpenClaim := { program := "ytnmghlkocljedaa", sum := "b4842f7fdc993ed8d3ec2bf959e15d62a400e0c4678b9da74deffa92841f1a89", func := "reticule/reticulelaw05.SlotProtects", spec := "slotProtects", unfollowed := true, recurses := true, apart := false }
def SlotProtectsSaid : Prop := slotProtectsRow.holds Try.pinned (OpenSpec.ofChange slotProtectsSpec)

/-- ITS FALSE NEIGHBOUR: 'it returns false'. Refute it at one input. -/
def slotProtectsWrong : ChangeSpec := { name := "slotProtects", fn := fun _ => fun
  | [d1, d2] => { results := [.lit (.bool false)], args := [d1, d2] }
  | _ => none }
def SlotProtectsWrongFalsely : Prop := slotProtectsRow.holds Try.pinned (OpenSpec.ofChange slotProtectsWrong)

/-- 'reticulelaw05.SlotInside': WHATEVER THE INPUT: true; the input reads as it did. -/
def slotInsideSpec : ChangeSpec := { name := "slotInside", fn := fun _ => fun
  | [d1, d2] => { results := [.lit (.bool true)], args := [d1, d2] }
  | _ => none }
def slotInsideRow : OpenClaim := { program := "ytnmghlkocljedaa", sum := "b4842f7fdc993ed8d3ec2bf959e15d62a400e0c4678b9da74deffa92841f1a89", func := "reticule/reticulelaw05.SlotInside", spec := "slotInside", unfollowed := true, recurses := true, apart := false }
def SlotInsideSaid : Prop := slotInsideRow.holds Try.pinned (OpenSpec.ofChange slotInsideSpec)

/-- ITS FALSE NEIGHBOUR: 'it returns false'. Refute it at one input. -/
def slotInsideWrong : ChangeSpec := { name := "slotInside", fn := fun _ => fun
  | [d1, d2] => { results := [.lit (.bool false)], args := [d1, d2] }
  | _ => none }
def SlotInsideWrongFalsely : Prop := slotInsideRow.holds Try.pinned (OpenSpec.ofChange slotInsideWrong)

/- THE SECOND FORM. 'bulk': how many values and letters a reading holds, each counted each time it is reached (what is shared counts as often as it is met; a slice's spare places count too). A statement '..UptoSaid' is the law's where the arguments, and the package variables that the reading takes, are together of bulk at most 1048576: NARROWER than '..Said'. Prove '..Said' where nothing that the law and all that it calls make is longer than what came in: it says more and counts as full. Else prove '..UptoSaid'. A law counts once. -/
mutual
def uptoBulk {H : Type} : DataW H → Nat
  | .lit (.string bytes) => bytes.length + 1
  | .lit _ => 1
  | .nil => 1
  | .ptr d => uptoBulk d + 1
  | .slice elems spare => uptoBulkAll elems + uptoBulkAll spare + 1
  | .agg parts => uptoBulkAll parts + 1
  | .iface _ d => uptoBulk d + 1
  | .map entries => uptoBulkEntries entries + 1
  | .held _ => 1
def uptoBulkAll {H : Type} : List (DataW H) → Nat
  | [] => 0
  | d :: r => uptoBulk d + uptoBulkAll r
def uptoBulkEntries {H : Type} : List (Lit × DataW H) → Nat
  | [] => 0
  | x :: r => uptoBulkEntry x + uptoBulkEntries r
def uptoBulkEntry {H : Type} : Lit × DataW H → Nat
  | (.string bytes, d) => bytes.length + uptoBulk d + 1
  | (_, d) => uptoBulk d + 1
 end
def uptoSmall : (H : Type) → List (DataW H) → Bool := fun _ ds => decide (uptoBulkAll ds ≤ 1048576)
def OpenSpec.upto (s : _root_.Go.ChangeSpec) : _root_.Go.OpenSpec := { _root_.Go.OpenSpec.ofChange s with cond := some uptoSmall }

/-- 'reticulelaw05.SlotTurns', WHERE WHAT IT READS IS OF BULK AT MOST 1048576: true; the input reads as it did. -/
def slotTurnsUptoRow : OpenClaim := { program := "ytnmghlkocljedaa", sum := "b4842f7fdc993ed8d3ec2bf959e15d62a400e0c4678b9da74deffa92841f1a89", func := "reticule/reticulelaw05.SlotTurns", spec := "slotTurns", unfollowed := true, recurses := true, apart := false, narrowed := true }
def SlotTurnsUptoSaid : Prop := slotTurnsUptoRow.holds Try.pinned (OpenSpec.upto slotTurnsSpec)

/-- 'reticulelaw05.SlotReads', WHERE WHAT IT READS IS OF BULK AT MOST 1048576: true; the input reads as it did. -/
def slotReadsUptoRow : OpenClaim := { program := "ytnmghlkocljedaa", sum := "b4842f7fdc993ed8d3ec2bf959e15d62a400e0c4678b9da74deffa92841f1a89", func := "reticule/reticulelaw05.SlotReads", spec := "slotReads", unfollowed := true, recurses := true, apart := false, narrowed := true }
def SlotReadsUptoSaid : Prop := slotReadsUptoRow.holds Try.pinned (OpenSpec.upto slotReadsSpec)

/-- 'reticulelaw05.SlotPuts', WHERE WHAT IT READS IS OF BULK AT MOST 1048576: true; the input reads as it did. -/
def slotPutsUptoRow : OpenClaim := { program := "ytnmghlkocljedaa", sum := "b4842f7fdc993ed8d3ec2bf959e15d62a400e0c4678b9da74deffa92841f1a89", func := "reticule/reticulelaw05.SlotPuts", spec := "slotPuts", unfollowed := true, recurses := true, apart := false, narrowed := true }
def SlotPutsUptoSaid : Prop := slotPutsUptoRow.holds Try.pinned (OpenSpec.upto slotPutsSpec)

/-- 'reticulelaw05.SlotProtects', WHERE WHAT IT READS IS OF BULK AT MOST 1048576: true; the input reads as it did. -/
def slotProtectsUptoRow : OpenClaim := { program := "ytnmghlkocljedaa", sum := "b4842f7fdc993ed8d3ec2bf959e15d62a400e0c4678b9da74deffa92841f1a89", func := "reticule/reticulelaw05.SlotProtects", spec := "slotProtects", unfollowed := true, recurses := true, apart := false, narrowed := true }
def SlotProtectsUptoSaid : Prop := slotProtectsUptoRow.holds Try.pinned (OpenSpec.upto slotProtectsSpec)

/-- 'reticulelaw05.SlotInside', WHERE WHAT IT READS IS OF BULK AT MOST 1048576: true; the input reads as it did. -/
def slotInsideUptoRow : OpenClaim := { program := "ytnmghlkocljedaa", sum := "b4842f7fdc993ed8d3ec2bf959e15d62a400e0c4678b9da74deffa92841f1a89", func := "reticule/reticulelaw05.SlotInside", spec := "slotInside", unfollowed := true, recurses := true, apart := false, narrowed := true }
def SlotInsideUptoSaid : Prop := slotInsideUptoRow.holds Try.pinned (OpenSpec.upto slotInsideSpec)

end Rows
end Go.Proofs.Ytnmghlkocljedaa
