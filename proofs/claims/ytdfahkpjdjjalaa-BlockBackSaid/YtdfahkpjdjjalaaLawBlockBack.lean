/- The law BlockBack holds: what is written is read, and all other blocks stay. -/
import Derived.Test.YtdfahkpjdjjalaaBP
import Derived.Test.YtdfahkpjdjjalaaVcArg
namespace Go.Proofs.Ytdfahkpjdjjalaa
open Go.RowKit Vc Go.ChangeShapes

set_option maxRecDepth 100000 in
theorem blockBack_lifted (os : Os) (started : os.Started) (H : Type) (enc : TypeId × Value → H) :
    ReturnsInHanded {} Try.checked os 6 .any (Rows.blockBackSpec.pre6 enc Try.prog Try.f6 Rows.blockBackRow.domain false) (Rows.blockBackSpec.post enc Try.prog Try.f6 false true false false) := by
  refine law_lifted (C := Try.checked) (tb := 4) (by kernel_rfl) started (by kernel_rfl) Try.func6
    (ChangeSpec.witness6 (enc := enc) (C := Try.checked) false ⟨#[], #[.slice none 0 0, .int .u64 0, .slice none 0 0], []⟩ 8 (by kernel_rfl) (by kernel_rfl) (by kernel_rfl) (by kernel_rfl))
    (by kernel_rfl) (by kernel_rfl) rfl Try.underlying4 rfl (fun ds h => by match ds, h with | [_, _, _], _ => rfl) ?_
  intro W args ds p hA hsz hval
  rw [Try.params6] at hA hval
  have hA : DataW.TrodAll enc Try.prog W 0 (fun _ => true) true [22, 23, 22] args ds p := hA
  obtain ⟨v0, vs0, d0, ds0, p0, q0, rfl, rfl, rfl, g0, r0⟩ := trodAll_cons hA
  obtain ⟨v1, vs1, d1, ds1, p1, q1, rfl, rfl, rfl, g1, r1⟩ := trodAll_cons r0
  obtain ⟨v2, vs2, d2, ds2, p2, q2, rfl, rfl, rfl, g2, r2⟩ := trodAll_cons r1
  obtain ⟨rfl, rfl, rfl⟩ := trodAll_nil r2
  obtain ⟨x, hx, bx⟩ := arg_arrays (w := 64) Try.underlying22 (by kernel_rfl) (by omega) (by kernel_rfl) (hval 0 _ _ rfl rfl) g0
  obtain ⟨y0, rfl, a_y0, b_y0⟩ := arg_int Try.underlying23 (hval 1 _ _ rfl rfl) g1
  obtain ⟨z, hz, bz⟩ := arg_arrays (w := 64) Try.underlying22 (by kernel_rfl) (by omega) (by kernel_rfl) (hval 2 _ _ rfl rfl) g2
  simp only [mn_u8, mx_u8, mn_u16, mx_u16, mn_u32, mx_u32, mn_u64, mx_u64, mn_i64, mx_i64] at *
  exact (blockBack_ok hx hz (by omega) (by omega)).law
theorem blockBack_holds : Rows.BlockBackSaid :=
  OpenClaim.holds_of_wide 6 Try.f6 rfl rfl rfl rfl rfl rfl rfl ⟨rfl, rfl, rfl, rfl, rfl⟩ rfl rfl rfl rfl rfl (by kernel_rfl) Try.func6 (by kernel_rfl)
    (of_decide_eq_true (by kernel_rfl)) (by unfold Func.isWrapper; rw [if_neg (of_decide_eq_false (by kernel_rfl))]; exact ⟨rfl, rfl⟩)
    (fun os started H enc _ => blockBack_lifted os started H enc)
#print axioms blockBack_holds
end Go.Proofs.Ytdfahkpjdjjalaa
