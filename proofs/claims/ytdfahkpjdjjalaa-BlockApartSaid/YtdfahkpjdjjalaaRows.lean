/-
  No cell of these rows narrows 'for every input' (looked for: loops, veiled, ifaces, maps, wideKeys, modest, calm, conditions, laid).
  DERIVED. THE GIVEN ROWS OF THIS SEAT. 5 by the template 'for every input the law returns true; each argument reads behind the call as it read before'; 0 by the template 'total and deterministic' (their statements: YtdfahkpjdjjalaaTotals.lean).
  GIVEN WITH THE SEED: the statements are not yours to turn. If you find one false, say at which input.
  Laid BY PROGRAM, IN A SANDBOX (cutbox-rows.mjs): the forced cells as the released guide's own fill.sh prints them over the translation a78029e92f201e91… (all of the seat's roots in one cut). By AI agents, Wed Nov 11 2026. No macro, syntax, notation, axiom, sorry.
-/
import Derived.Test.YtdfahkpjdjjalaaChecked
import GoSem.Claim
import GoSem.ClaimJoined
import GoSem.ClaimMapViews
import Derived.JoinedTies
import Derived.KernelRfl
namespace Go.Proofs.Ytdfahkpjdjjalaa
/- THE CELL 'sum', in the pinned program and in every row, IS THE sha256 OF THE DUMP (.gsa) THAT YtdfahkpjdjjalaaProg.lean LOADS. Nothing in Lean hashes anything: it is a label: what it is worth is what the hold of that sum in a sandbox is worth. -/
noncomputable def Try.pinned : Pinned := { name := "ytdfahkpjdjjalaa", sum := "a78029e92f201e9153ebfa78e7ed4020e1f44b74670bcedfef9549367e07cedd", checked := Try.checked }
namespace Rows
def none {H : Type} : Left H := { results := [], args := [] }

/-- 'reticulelaw02.BlockReads': WHATEVER THE INPUT: true; the input reads as it did. -/
def blockReadsSpec : ChangeSpec := { name := "blockReads", fn := fun _ => fun
  | [d1, d2, d3] => { results := [.lit (.bool true)], args := [d1, d2, d3] }
  | _ => none }
def blockReadsRow : OpenClaim := { program := "ytdfahkpjdjjalaa", sum := "a78029e92f201e9153ebfa78e7ed4020e1f44b74670bcedfef9549367e07cedd", func := "reticule/reticulelaw02.BlockReads", spec := "blockReads", apart := false }
def BlockReadsSaid : Prop := blockReadsRow.holds Try.pinned (OpenSpec.ofChange blockReadsSpec)

/-- ITS FALSE NEIGHBOUR: 'it returns false'. Refute it at one input. -/
def blockReadsWrong : ChangeSpec := { name := "blockReads", fn := fun _ => fun
  | [d1, d2, d3] => { results := [.lit (.bool false)], args := [d1, d2, d3] }
  | _ => none }
def BlockReadsWrongFalsely : Prop := blockReadsRow.holds Try.pinned (OpenSpec.ofChange blockReadsWrong)

/-- 'reticulelaw02.BlockWrites': WHATEVER THE INPUT: true; the input reads as it did. -/
def blockWritesSpec : ChangeSpec := { name := "blockWrites", fn := fun _ => fun
  | [d1, d2, d3] => { results := [.lit (.bool true)], args := [d1, d2, d3] }
  | _ => none }
def blockWritesRow : OpenClaim := { program := "ytdfahkpjdjjalaa", sum := "a78029e92f201e9153ebfa78e7ed4020e1f44b74670bcedfef9549367e07cedd", func := "reticule/reticulelaw02.BlockWrites", spec := "blockWrites", apart := false }
def BlockWritesSaid : Prop := blockWritesRow.holds Try.pinned (OpenSpec.ofChange blockWritesSpec)

/-- ITS FALSE NEIGHBOUR: 'it returns false'. Refute it at one input. -/
def blockWritesWrong : ChangeSpec := { name := "blockWrites", fn := fun _ => fun
  | [d1, d2, d3] => { results := [.lit (.bool false)], args := [d1, d2, d3] }
  | _ => none }
def BlockWritesWrongFalsely : Prop := blockWritesRow.holds Try.pinned (OpenSpec.ofChange blockWritesWrong)

/-- 'reticulelaw02.BlockMakes': WHATEVER THE INPUT: true; the input reads as it did. -/
def blockMakesSpec : ChangeSpec := { name := "blockMakes", fn := fun _ => fun
  | [d1, d2] => { results := [.lit (.bool true)], args := [d1, d2] }
  | _ => none }
def blockMakesRow : OpenClaim := { program := "ytdfahkpjdjjalaa", sum := "a78029e92f201e9153ebfa78e7ed4020e1f44b74670bcedfef9549367e07cedd", func := "reticule/reticulelaw02.BlockMakes", spec := "blockMakes", apart := false }
def BlockMakesSaid : Prop := blockMakesRow.holds Try.pinned (OpenSpec.ofChange blockMakesSpec)

/-- ITS FALSE NEIGHBOUR: 'it returns false'. Refute it at one input. -/
def blockMakesWrong : ChangeSpec := { name := "blockMakes", fn := fun _ => fun
  | [d1, d2] => { results := [.lit (.bool false)], args := [d1, d2] }
  | _ => none }
def BlockMakesWrongFalsely : Prop := blockMakesRow.holds Try.pinned (OpenSpec.ofChange blockMakesWrong)

/-- 'reticulelaw02.BlockBack': WHATEVER THE INPUT: true; the input reads as it did. -/
def blockBackSpec : ChangeSpec := { name := "blockBack", fn := fun _ => fun
  | [d1, d2, d3] => { results := [.lit (.bool true)], args := [d1, d2, d3] }
  | _ => none }
def blockBackRow : OpenClaim := { program := "ytdfahkpjdjjalaa", sum := "a78029e92f201e9153ebfa78e7ed4020e1f44b74670bcedfef9549367e07cedd", func := "reticule/reticulelaw02.BlockBack", spec := "blockBack", apart := false }
def BlockBackSaid : Prop := blockBackRow.holds Try.pinned (OpenSpec.ofChange blockBackSpec)

/-- ITS FALSE NEIGHBOUR: 'it returns false'. Refute it at one input. -/
def blockBackWrong : ChangeSpec := { name := "blockBack", fn := fun _ => fun
  | [d1, d2, d3] => { results := [.lit (.bool false)], args := [d1, d2, d3] }
  | _ => none }
def BlockBackWrongFalsely : Prop := blockBackRow.holds Try.pinned (OpenSpec.ofChange blockBackWrong)

/-- 'reticulelaw02.BlockApart': WHATEVER THE INPUT: true; the input reads as it did. -/
def blockApartSpec : ChangeSpec := { name := "blockApart", fn := fun _ => fun
  | [d1, d2, d3] => { results := [.lit (.bool true)], args := [d1, d2, d3] }
  | _ => none }
def blockApartRow : OpenClaim := { program := "ytdfahkpjdjjalaa", sum := "a78029e92f201e9153ebfa78e7ed4020e1f44b74670bcedfef9549367e07cedd", func := "reticule/reticulelaw02.BlockApart", spec := "blockApart", apart := false }
def BlockApartSaid : Prop := blockApartRow.holds Try.pinned (OpenSpec.ofChange blockApartSpec)

/-- ITS FALSE NEIGHBOUR: 'it returns false'. Refute it at one input. -/
def blockApartWrong : ChangeSpec := { name := "blockApart", fn := fun _ => fun
  | [d1, d2, d3] => { results := [.lit (.bool false)], args := [d1, d2, d3] }
  | _ => none }
def BlockApartWrongFalsely : Prop := blockApartRow.holds Try.pinned (OpenSpec.ofChange blockApartWrong)

/- THE SECOND FORM. 'bulk': how many values and letters a reading holds, each counted each time it is reached (what is shared counts as often as it is met; a slice's spare places count too). A statement '..UptoSaid' is the law's where the arguments, and the package variables that the reading takes, are together of bulk at most 1048576: NARROWER than '..Said'. Prove '..Said' where nothing that the law and all that it calls make is longer than what came in: it says more and counts as full. Else prove '..UptoSaid'. A law counts once. -/
mutual
def uptoBulk {H : Type} : DataW H → Nat
  | .lit (.string bytes) => bytes.length + 1
  | .lit _ => 1
  | .nil => 1
  | .ptr d => uptoBulk d + 1
  | .slice elems spare => uptoBulkAll elems + uptoBulkAll spare + 1
  | .agg parts => uptoBulkAll parts + 1
  | .iface _ d => uptoBulk d + 1
  | .map entries => uptoBulkEntries entries + 1
  | .held _ => 1
def uptoBulkAll {H : Type} : List (DataW H) → Nat
  | [] => 0
  | d :: r => uptoBulk d + uptoBulkAll r
def uptoBulkEntries {H : Type} : List (Lit × DataW H) → Nat
  | [] => 0
  | x :: r => uptoBulkEntry x + uptoBulkEntries r
def uptoBulkEntry {H : Type} : Lit × DataW H → Nat
  | (.string bytes, d) => bytes.length + uptoBulk d + 1
  | (_, d) => uptoBulk d + 1
 end
def uptoSmall : (H : Type) → List (DataW H) → Bool := fun _ ds => decide (uptoBulkAll ds ≤ 1048576)
def OpenSpec.upto (s : _root_.Go.ChangeSpec) : _root_.Go.OpenSpec := { _root_.Go.OpenSpec.ofChange s with cond := some uptoSmall }

/-- 'reticulelaw02.BlockReads', WHERE WHAT IT READS IS OF BULK AT MOST 1048576: true; the input reads as it did. -/
def blockReadsUptoRow : OpenClaim := { program := "ytdfahkpjdjjalaa", sum := "a78029e92f201e9153ebfa78e7ed4020e1f44b74670bcedfef9549367e07cedd", func := "reticule/reticulelaw02.BlockReads", spec := "blockReads", apart := false, narrowed := true }
def BlockReadsUptoSaid : Prop := blockReadsUptoRow.holds Try.pinned (OpenSpec.upto blockReadsSpec)

/-- 'reticulelaw02.BlockWrites', WHERE WHAT IT READS IS OF BULK AT MOST 1048576: true; the input reads as it did. -/
def blockWritesUptoRow : OpenClaim := { program := "ytdfahkpjdjjalaa", sum := "a78029e92f201e9153ebfa78e7ed4020e1f44b74670bcedfef9549367e07cedd", func := "reticule/reticulelaw02.BlockWrites", spec := "blockWrites", apart := false, narrowed := true }
def BlockWritesUptoSaid : Prop := blockWritesUptoRow.holds Try.pinned (OpenSpec.upto blockWritesSpec)

/-- 'reticulelaw02.BlockMakes', WHERE WHAT IT READS IS OF BULK AT MOST 1048576: true; the input reads as it did. -/
def blockMakesUptoRow : OpenClaim := { program := "ytdfahkpjdjjalaa", sum := "a78029e92f201e9153ebfa78e7ed4020e1f44b74670bcedfef9549367e07cedd", func := "reticule/reticulelaw02.BlockMakes", spec := "blockMakes", apart := false, narrowed := true }
def BlockMakesUptoSaid : Prop := blockMakesUptoRow.holds Try.pinned (OpenSpec.upto blockMakesSpec)

/-- 'reticulelaw02.BlockBack', WHERE WHAT IT READS IS OF BULK AT MOST 1048576: true; the input reads as it did. -/
def blockBackUptoRow : OpenClaim := { program := "ytdfahkpjdjjalaa", sum := "a78029e92f201e9153ebfa78e7ed4020e1f44b74670bcedfef9549367e07cedd", func := "reticule/reticulelaw02.BlockBack", spec := "blockBack", apart := false, narrowed := true }
def BlockBackUptoSaid : Prop := blockBackUptoRow.holds Try.pinned (OpenSpec.upto blockBackSpec)

/-- 'reticulelaw02.BlockApart', WHERE WHAT IT READS IS OF BULK AT MOST 1048576: true; the input reads as it did. -/
def blockApartUptoRow : OpenClaim := { program := "ytdfahkpjdjjalaa", sum := "a78029e92f201e9153ebfa78e7ed4020e1f44b74670bcedfef9549367e07cedd", func := "reticule/reticulelaw02.BlockApart", spec := "blockApart", apart := false, narrowed := true }
def BlockApartUptoSaid : Prop := blockApartUptoRow.holds Try.pinned (OpenSpec.upto blockApartSpec)

end Rows
end Go.Proofs.Ytdfahkpjdjjalaa
