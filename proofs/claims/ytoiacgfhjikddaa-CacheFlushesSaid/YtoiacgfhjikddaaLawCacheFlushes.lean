/- The law CacheFlushes holds: any blocks that are flushed, and what is lost when the power goes, are the document's, or refused. No condition. -/
import Derived.Test.YtoiacgfhjikddaaWLA
import Derived.Test.YtoiacgfhjikddaaWY
namespace Go.Proofs.Ytoiacgfhjikddaa
open Go.RowKit Vc W Go.ChangeShapes

set_option maxRecDepth 100000 in
theorem cacheFlushes_lifted (os : Os) (started : os.Started) (H : Type) (enc : TypeId × Value → H) :
    ReturnsInHanded {} Try.checked os 4 .any (Rows.cacheFlushesSpec.pre6 enc Try.prog Try.f4 Rows.cacheFlushesRow.domain false) (Rows.cacheFlushesSpec.post enc Try.prog Try.f4 false true false false) := by
  refine law_lifted (C := Try.checked) (tb := 4) (by kernel_rfl) started (by kernel_rfl) Try.func4
    (ChangeSpec.witness6 (enc := enc) (C := Try.checked) false ⟨#[], #[.agg #[.slice none 0 0, .slice none 0 0], .agg #[.int .i64 0, .int .i64 0], .int .u64 0], []⟩ 8 (by kernel_rfl) (by kernel_rfl) (by kernel_rfl) (by kernel_rfl))
    (by kernel_rfl) (by kernel_rfl) rfl Try.underlying4 rfl (fun ds h => by match ds, h with | [_, _, _], _ => rfl) ?_
  intro W args ds p hA hsz hval
  exact law_fun (n := 9) hL3Flushes (by kernel_rfl) (fun _ h => h) W args ds p hA (fun j t v h1 h2 => hval j t v (by simpa using h1) h2)
theorem cacheFlushes_holds : Rows.CacheFlushesSaid :=
  OpenClaim.holds_of_wide 4 Try.f4 rfl rfl rfl rfl rfl rfl rfl ⟨rfl, rfl, rfl, rfl, rfl⟩ rfl rfl rfl rfl rfl (by kernel_rfl) Try.func4 (by kernel_rfl)
    (of_decide_eq_true (by kernel_rfl)) (by unfold Func.isWrapper; rw [if_neg (of_decide_eq_false (by kernel_rfl))]; exact ⟨rfl, rfl⟩)
    (fun os started H enc _ => cacheFlushes_lifted os started H enc)
#print axioms cacheFlushes_holds
end Go.Proofs.Ytoiacgfhjikddaa
