/- The law CacheLoses holds: whenever the power goes, each block is what lasted at the last flush, or one of the writes behind it. No condition. -/
import Derived.Test.YtoiacgfhjikddaaWLD
import Derived.Test.YtoiacgfhjikddaaWY
set_option linter.unusedSimpArgs false
set_option linter.unusedVariables false
namespace Go.Proofs.Ytoiacgfhjikddaa
open Go.RowKit Vc W Go.ChangeShapes

set_option maxRecDepth 100000 in
theorem cacheLoses_lifted (os : Os) (started : os.Started) (H : Type) (enc : TypeId × Value → H) :
    ReturnsInHanded {} Try.checked os 6 .any (Rows.cacheLosesSpec.pre6 enc Try.prog Try.f6 Rows.cacheLosesRow.domain false) (Rows.cacheLosesSpec.post enc Try.prog Try.f6 false true false false) := by
  refine law_lifted (C := Try.checked) (tb := 4) (by kernel_rfl) started (by kernel_rfl) Try.func6
    (ChangeSpec.witness6 (enc := enc) (C := Try.checked) false ⟨#[], #[.agg #[.slice none 0 0, .slice none 0 0], .int .u64 0, .slice none 0 0], []⟩ 8 (by kernel_rfl) (by kernel_rfl) (by kernel_rfl) (by kernel_rfl))
    (by kernel_rfl) (by kernel_rfl) rfl Try.underlying4 rfl (fun ds h => by match ds, h with | [_, _, _], _ => rfl) ?_
  intro W args ds p hA hsz hval
  exact law_fun (n := 9) hL3Loses (by kernel_rfl) (fun _ h => h) W args ds p hA (fun j t v h1 h2 => hval j t v (by simpa using h1) h2)
theorem cacheLoses_holds : Rows.CacheLosesSaid :=
  OpenClaim.holds_of_wide 6 Try.f6 rfl rfl rfl rfl rfl rfl rfl ⟨rfl, rfl, rfl, rfl, rfl⟩ rfl rfl rfl rfl rfl (by kernel_rfl) Try.func6 (by kernel_rfl)
    (of_decide_eq_true (by kernel_rfl)) (by unfold Func.isWrapper; rw [if_neg (of_decide_eq_false (by kernel_rfl))]; exact ⟨rfl, rfl⟩)
    (fun os started H enc _ => cacheLoses_lifted os started H enc)
#print axioms cacheLoses_holds
end Go.Proofs.Ytoiacgfhjikddaa
