/- The law SlotInside holds: a medium that is taken out, and put in again, shows what it showed. No condition. -/
import Derived.Test.YtnmghlkocljedaaWSM
import Derived.Test.YtnmghlkocljedaaWY
set_option linter.unusedSimpArgs false
set_option linter.unusedVariables false
namespace Go.Proofs.Ytnmghlkocljedaa
open Go.RowKit Vc W Go.ChangeShapes

set_option maxRecDepth 100000 in
theorem slotInside_lifted (os : Os) (started : os.Started) (H : Type) (enc : TypeId × Value → H) :
    ReturnsInHanded {} Try.checked os 7 .any (Rows.slotInsideSpec.pre6 enc Try.prog Try.f7 Rows.slotInsideRow.domain false) (Rows.slotInsideSpec.post enc Try.prog Try.f7 false true false false) := by
  refine law_lifted (C := Try.checked) (tb := 4) (by kernel_rfl) started (by kernel_rfl) Try.func7
    (ChangeSpec.witness6 (enc := enc) (C := Try.checked) false ⟨#[], #[.agg #[.slice none 0 0, .slice none 0 0, .bool false, .bool false, .bool false], .bool false], []⟩ 8 (by kernel_rfl) (by kernel_rfl) (by kernel_rfl) (by kernel_rfl))
    (by kernel_rfl) (by kernel_rfl) rfl Try.underlying4 rfl (fun ds h => by match ds, h with | [_, _], _ => rfl) ?_
  intro W args ds p hA hsz hval
  exact law_fun (n := 9) hL5Inside (by kernel_rfl) (fun _ h => h) W args ds p hA (fun j t v h1 h2 => hval j t v (by simpa using h1) h2)
theorem slotInside_holds : Rows.SlotInsideSaid :=
  OpenClaim.holds_of_wide 7 Try.f7 rfl rfl rfl rfl rfl rfl rfl ⟨rfl, rfl, rfl, rfl, rfl⟩ rfl rfl rfl rfl rfl (by kernel_rfl) Try.func7 (by kernel_rfl)
    (of_decide_eq_true (by kernel_rfl)) (by unfold Func.isWrapper; rw [if_neg (of_decide_eq_false (by kernel_rfl))]; exact ⟨rfl, rfl⟩)
    (fun os started H enc _ => slotInside_lifted os started H enc)
#print axioms slotInside_holds
end Go.Proofs.Ytnmghlkocljedaa
