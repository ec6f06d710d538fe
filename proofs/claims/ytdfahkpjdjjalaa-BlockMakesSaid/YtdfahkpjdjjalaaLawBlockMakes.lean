/- The law BlockMakes holds: any store that is made is the document's, or refused. -/
import Derived.Test.YtdfahkpjdjjalaaBN
import Derived.Test.YtdfahkpjdjjalaaVcArg
namespace Go.Proofs.Ytdfahkpjdjjalaa
open Go.RowKit Vc Go.ChangeShapes

set_option maxRecDepth 100000 in
theorem blockMakes_lifted (os : Os) (started : os.Started) (H : Type) (enc : TypeId × Value → H) :
    ReturnsInHanded {} Try.checked os 5 .any (Rows.blockMakesSpec.pre6 enc Try.prog Try.f5 Rows.blockMakesRow.domain false) (Rows.blockMakesSpec.post enc Try.prog Try.f5 false true false false) := by
  refine law_lifted (C := Try.checked) (tb := 4) (by kernel_rfl) started (by kernel_rfl) Try.func5
    (ChangeSpec.witness6 (enc := enc) (C := Try.checked) false ⟨#[], #[.int .i64 0, .int .u8 0], []⟩ 8 (by kernel_rfl) (by kernel_rfl) (by kernel_rfl) (by kernel_rfl))
    (by kernel_rfl) (by kernel_rfl) rfl Try.underlying4 rfl (fun ds h => by match ds, h with | [_, _], _ => rfl) ?_
  intro W args ds p hA hsz hval
  rw [Try.params5] at hA hval
  have hA : DataW.TrodAll enc Try.prog W 0 (fun _ => true) true [3, 5] args ds p := hA
  obtain ⟨v0, vs0, d0, ds0, p0, q0, rfl, rfl, rfl, g0, r0⟩ := trodAll_cons hA
  obtain ⟨v1, vs1, d1, ds1, p1, q1, rfl, rfl, rfl, g1, r1⟩ := trodAll_cons r0
  obtain ⟨rfl, rfl, rfl⟩ := trodAll_nil r1
  obtain ⟨x0, rfl, a_x0, b_x0⟩ := arg_int Try.underlying3 (hval 0 _ _ rfl rfl) g0
  obtain ⟨y0, rfl, a_y0, b_y0⟩ := arg_int Try.underlying5 (hval 1 _ _ rfl rfl) g1
  simp only [mn_u8, mx_u8, mn_u16, mx_u16, mn_u32, mx_u32, mn_u64, mx_u64, mn_i64, mx_i64] at *
  exact (blockMakes_ok (by omega) (by omega)).law
theorem blockMakes_holds : Rows.BlockMakesSaid :=
  OpenClaim.holds_of_wide 5 Try.f5 rfl rfl rfl rfl rfl rfl rfl ⟨rfl, rfl, rfl, rfl, rfl⟩ rfl rfl rfl rfl rfl (by kernel_rfl) Try.func5 (by kernel_rfl)
    (of_decide_eq_true (by kernel_rfl)) (by unfold Func.isWrapper; rw [if_neg (of_decide_eq_false (by kernel_rfl))]; exact ⟨rfl, rfl⟩)
    (fun os started H enc _ => blockMakes_lifted os started H enc)
#print axioms blockMakes_holds
end Go.Proofs.Ytdfahkpjdjjalaa
