/- The law SlotTurns holds: any slot that is filled, emptied, kept, switched, flushed, or loses its power, is the document's, and what was handed in stays. No condition. -/
import Derived.Test.YtnmghlkocljedaaWSL
import Derived.Test.YtnmghlkocljedaaWY
set_option linter.unusedSimpArgs false
set_option linter.unusedVariables false
namespace Go.Proofs.Ytnmghlkocljedaa
open Go.RowKit Vc W Go.ChangeShapes

set_option maxRecDepth 100000 in
theorem slotTurns_lifted (os : Os) (started : os.Started) (H : Type) (enc : TypeId × Value → H) :
    ReturnsInHanded {} Try.checked os 3 .any (Rows.slotTurnsSpec.pre6 enc Try.prog Try.f3 Rows.slotTurnsRow.domain false) (Rows.slotTurnsSpec.post enc Try.prog Try.f3 false true false false) := by
  refine law_lifted (C := Try.checked) (tb := 4) (by kernel_rfl) started (by kernel_rfl) Try.func3
    (ChangeSpec.witness6 (enc := enc) (C := Try.checked) false ⟨#[], #[.agg #[.slice none 0 0, .slice none 0 0, .bool false, .bool false, .bool false], .bool false, .int .u64 0], []⟩ 8 (by kernel_rfl) (by kernel_rfl) (by kernel_rfl) (by kernel_rfl))
    (by kernel_rfl) (by kernel_rfl) rfl Try.underlying4 rfl (fun ds h => by match ds, h with | [_, _, _], _ => rfl) ?_
  intro W args ds p hA hsz hval
  exact law_fun (n := 9) hL5Turns (by kernel_rfl) (fun _ h => h) W args ds p hA (fun j t v h1 h2 => hval j t v (by simpa using h1) h2)
theorem slotTurns_holds : Rows.SlotTurnsSaid :=
  OpenClaim.holds_of_wide 3 Try.f3 rfl rfl rfl rfl rfl rfl rfl ⟨rfl, rfl, rfl, rfl, rfl⟩ rfl rfl rfl rfl rfl (by kernel_rfl) Try.func3 (by kernel_rfl)
    (of_decide_eq_true (by kernel_rfl)) (by unfold Func.isWrapper; rw [if_neg (of_decide_eq_false (by kernel_rfl))]; exact ⟨rfl, rfl⟩)
    (fun os started H enc _ => slotTurns_lifted os started H enc)
#print axioms slotTurns_holds
end Go.Proofs.Ytnmghlkocljedaa
