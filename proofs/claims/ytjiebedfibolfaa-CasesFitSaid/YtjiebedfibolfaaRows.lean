/-
  No cell of these rows narrows 'for every input' (looked for: loops, veiled, ifaces, maps, wideKeys, modest, calm, conditions, laid).
  DERIVED. THE GIVEN ROWS OF THIS SEAT. 5 by the template 'for every input the law returns true; each argument reads behind the call as it read before'; 0 by the template 'total and deterministic' (their statements: YtjiebedfibolfaaTotals.lean).
  GIVEN WITH THE SEED: the statements are not yours to turn. If you find one false, say at which input.
  Laid BY PROGRAM, IN A SANDBOX (cutbox-rows.mjs): the forced cells as the released guide's own fill.sh prints them over the translation 66e53fd4d360e343… (all of the seat's roots in one cut). By AI agents, Wed Nov 11 2026. No macro, syntax, notation, axiom, sorry.
-/
import Derived.Test.YtjiebedfibolfaaChecked
import GoSem.Claim
import GoSem.ClaimJoined
import GoSem.ClaimMapViews
import Derived.JoinedTies
import Derived.KernelRfl
namespace Go.Proofs.Ytjiebedfibolfaa
/- THE CELL 'sum', in the pinned program and in every row, IS THE sha256 OF THE DUMP (.gsa) THAT YtjiebedfibolfaaProg.lean LOADS. Nothing in Lean hashes anything: it is a label: what it is worth is what the hold of that sum in a sandbox is worth. -/
noncomputable def Try.pinned : Pinned := { name := "ytjiebedfibolfaa", sum := "66e53fd4d360e3432e1f54791b456941d369d249ea4a13db39e75c623b000738", checked := Try.checked }
namespace Rows
def none {H : Type} : Left H := { results := [], args := [] }

/-- 'reticulelaw20.CasesOf': WHATEVER THE INPUT: true; the input reads as it did. -/
def casesOfSpec : ChangeSpec := { name := "casesOf", fn := fun _ => fun
  | [d1, d2] => { results := [.lit (.bool true)], args := [d1, d2] }
  | _ => none }
def casesOfRow : OpenClaim := { program := "ytjiebedfibolfaa", sum := "66e53fd4d360e3432e1f54791b456941d369d249ea4a13db39e75c623b000738", func := "reticule/reticulelaw20.CasesOf", spec := "casesOf", apart := false }
def CasesOfSaid : Prop := casesOfRow.holds Try.pinned (OpenSpec.ofChange casesOfSpec)

/-- ITS FALSE NEIGHBOUR: 'it returns false'. Refute it at one input. -/
def casesOfWrong : ChangeSpec := { name := "casesOf", fn := fun _ => fun
  | [d1, d2] => { results := [.lit (.bool false)], args := [d1, d2] }
  | _ => none }
def CasesOfWrongFalsely : Prop := casesOfRow.holds Try.pinned (OpenSpec.ofChange casesOfWrong)

/-- 'reticulelaw20.CasesPlan': WHATEVER THE INPUT: true; the input reads as it did. -/
def casesPlanSpec : ChangeSpec := { name := "casesPlan", fn := fun _ => fun
  | [d1, d2] => { results := [.lit (.bool true)], args := [d1, d2] }
  | _ => none }
def casesPlanRow : OpenClaim := { program := "ytjiebedfibolfaa", sum := "66e53fd4d360e3432e1f54791b456941d369d249ea4a13db39e75c623b000738", func := "reticule/reticulelaw20.CasesPlan", spec := "casesPlan", apart := false }
def CasesPlanSaid : Prop := casesPlanRow.holds Try.pinned (OpenSpec.ofChange casesPlanSpec)

/-- ITS FALSE NEIGHBOUR: 'it returns false'. Refute it at one input. -/
def casesPlanWrong : ChangeSpec := { name := "casesPlan", fn := fun _ => fun
  | [d1, d2] => { results := [.lit (.bool false)], args := [d1, d2] }
  | _ => none }
def CasesPlanWrongFalsely : Prop := casesPlanRow.holds Try.pinned (OpenSpec.ofChange casesPlanWrong)

/-- 'reticulelaw20.CasesPhase': WHATEVER THE INPUT: true; the input reads as it did. -/
def casesPhaseSpec : ChangeSpec := { name := "casesPhase", fn := fun _ => fun
  | [d1, d2, d3] => { results := [.lit (.bool true)], args := [d1, d2, d3] }
  | _ => none }
def casesPhaseRow : OpenClaim := { program := "ytjiebedfibolfaa", sum := "66e53fd4d360e3432e1f54791b456941d369d249ea4a13db39e75c623b000738", func := "reticule/reticulelaw20.CasesPhase", spec := "casesPhase", apart := false }
def CasesPhaseSaid : Prop := casesPhaseRow.holds Try.pinned (OpenSpec.ofChange casesPhaseSpec)

/-- ITS FALSE NEIGHBOUR: 'it returns false'. Refute it at one input. -/
def casesPhaseWrong : ChangeSpec := { name := "casesPhase", fn := fun _ => fun
  | [d1, d2, d3] => { results := [.lit (.bool false)], args := [d1, d2, d3] }
  | _ => none }
def CasesPhaseWrongFalsely : Prop := casesPhaseRow.holds Try.pinned (OpenSpec.ofChange casesPhaseWrong)

/-- 'reticulelaw20.CasesFit': WHATEVER THE INPUT: true; the input reads as it did. -/
def casesFitSpec : ChangeSpec := { name := "casesFit", fn := fun _ => fun
  | [d1, d2, d3] => { results := [.lit (.bool true)], args := [d1, d2, d3] }
  | _ => none }
def casesFitRow : OpenClaim := { program := "ytjiebedfibolfaa", sum := "66e53fd4d360e3432e1f54791b456941d369d249ea4a13db39e75c623b000738", func := "reticule/reticulelaw20.CasesFit", spec := "casesFit", apart := false }
def CasesFitSaid : Prop := casesFitRow.holds Try.pinned (OpenSpec.ofChange casesFitSpec)

/-- ITS FALSE NEIGHBOUR: 'it returns false'. Refute it at one input. -/
def casesFitWrong : ChangeSpec := { name := "casesFit", fn := fun _ => fun
  | [d1, d2, d3] => { results := [.lit (.bool false)], args := [d1, d2, d3] }
  | _ => none }
def CasesFitWrongFalsely : Prop := casesFitRow.holds Try.pinned (OpenSpec.ofChange casesFitWrong)

/-- 'reticulelaw20.CasesEach': WHATEVER THE INPUT: true; the input reads as it did. -/
def casesEachSpec : ChangeSpec := { name := "casesEach", fn := fun _ => fun
  | [d1, d2, d3] => { results := [.lit (.bool true)], args := [d1, d2, d3] }
  | _ => none }
def casesEachRow : OpenClaim := { program := "ytjiebedfibolfaa", sum := "66e53fd4d360e3432e1f54791b456941d369d249ea4a13db39e75c623b000738", func := "reticule/reticulelaw20.CasesEach", spec := "casesEach", apart := false }
def CasesEachSaid : Prop := casesEachRow.holds Try.pinned (OpenSpec.ofChange casesEachSpec)

/-- ITS FALSE NEIGHBOUR: 'it returns false'. Refute it at one input. -/
def casesEachWrong : ChangeSpec := { name := "casesEach", fn := fun _ => fun
  | [d1, d2, d3] => { results := [.lit (.bool false)], args := [d1, d2, d3] }
  | _ => none }
def CasesEachWrongFalsely : Prop := casesEachRow.holds Try.pinned (OpenSpec.ofChange casesEachWrong)

/- THE SECOND FORM. 'bulk': how many values and letters a reading holds, each counted each time it is reached (what is shared counts as often as it is met; a slice's spare places count too). A statement '..UptoSaid' is the law's where the arguments, and the package variables that the reading takes, are together of bulk at most 1048576: NARROWER than '..Said'. Prove '..Said' where nothing that the law and all that it calls make is longer than what came in: it says more and counts as full. Else prove '..UptoSaid'. A law counts once. -/
mutual
def uptoBulk {H : Type} : DataW H → Nat
  | .lit (.string bytes) => bytes.length + 1
  | .lit _ => 1
  | .nil => 1
  | .ptr d => uptoBulk d + 1
  | .slice elems spare => uptoBulkAll elems + uptoBulkAll spare + 1
  | .agg parts => uptoBulkAll parts + 1
  | .iface _ d => uptoBulk d + 1
  | .map entries => uptoBulkEntries entries + 1
  | .held _ => 1
def uptoBulkAll {H : Type} : List (DataW H) → Nat
  | [] => 0
  | d :: r => uptoBulk d + uptoBulkAll r
def uptoBulkEntries {H : Type} : List (Lit × DataW H) → Nat
  | [] => 0
  | x :: r => uptoBulkEntry x + uptoBulkEntries r
def uptoBulkEntry {H : Type} : Lit × DataW H → Nat
  | (.string bytes, d) => bytes.length + uptoBulk d + 1
  | (_, d) => uptoBulk d + 1
 end
def uptoSmall : (H : Type) → List (DataW H) → Bool := fun _ ds => decide (uptoBulkAll ds ≤ 1048576)
def OpenSpec.upto (s : _root_.Go.ChangeSpec) : _root_.Go.OpenSpec := { _root_.Go.OpenSpec.ofChange s with cond := some uptoSmall }

/-- 'reticulelaw20.CasesOf', WHERE WHAT IT READS IS OF BULK AT MOST 1048576: true; the input reads as it did. -/
def casesOfUptoRow : OpenClaim := { program := "ytjiebedfibolfaa", sum := "66e53fd4d360e3432e1f54791b456941d369d249ea4a13db39e75c623b000738", func := "reticule/reticulelaw20.CasesOf", spec := "casesOf", apart := false, narrowed := true }
def CasesOfUptoSaid : Prop := casesOfUptoRow.holds Try.pinned (OpenSpec.upto casesOfSpec)

/-- 'reticulelaw20.CasesPlan', WHERE WHAT IT READS IS OF BULK AT MOST 1048576: true; the input reads as it did. -/
def casesPlanUptoRow : OpenClaim := { program := "ytjiebedfibolfaa", sum := "66e53fd4d360e3432e1f54791b456941d369d249ea4a13db39e75c623b000738", func := "reticule/reticulelaw20.CasesPlan", spec := "casesPlan", apart := false, narrowed := true }
def CasesPlanUptoSaid : Prop := casesPlanUptoRow.holds Try.pinned (OpenSpec.upto casesPlanSpec)

/-- 'reticulelaw20.CasesPhase', WHERE WHAT IT READS IS OF BULK AT MOST 1048576: true; the input reads as it did. -/
def casesPhaseUptoRow : OpenClaim := { program := "ytjiebedfibolfaa", sum := "66e53fd4d360e3432e1f54791b456941d369d249ea4a13db39e75c623b000738", func := "reticule/reticulelaw20.CasesPhase", spec := "casesPhase", apart := false, narrowed := true }
def CasesPhaseUptoSaid : Prop := casesPhaseUptoRow.holds Try.pinned (OpenSpec.upto casesPhaseSpec)

/-- 'reticulelaw20.CasesFit', WHERE WHAT IT READS IS OF BULK AT MOST 1048576: true; the input reads as it did. -/
def casesFitUptoRow : OpenClaim := { program := "ytjiebedfibolfaa", sum := "66e53fd4d360e3432e1f54791b456941d369d249ea4a13db39e75c623b000738", func := "reticule/reticulelaw20.CasesFit", spec := "casesFit", apart := false, narrowed := true }
def CasesFitUptoSaid : Prop := casesFitUptoRow.holds Try.pinned (OpenSpec.upto casesFitSpec)

/-- 'reticulelaw20.CasesEach', WHERE WHAT IT READS IS OF BULK AT MOST 1048576: true; the input reads as it did. -/
def casesEachUptoRow : OpenClaim := { program := "ytjiebedfibolfaa", sum := "66e53fd4d360e3432e1f54791b456941d369d249ea4a13db39e75c623b000738", func := "reticule/reticulelaw20.CasesEach", spec := "casesEach", apart := false, narrowed := true }
def CasesEachUptoSaid : Prop := casesEachUptoRow.holds Try.pinned (OpenSpec.upto casesEachSpec)

end Rows
end Go.Proofs.Ytjiebedfibolfaa
