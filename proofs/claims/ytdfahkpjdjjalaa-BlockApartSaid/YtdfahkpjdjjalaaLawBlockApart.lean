/- The law BlockApart holds: two blocks that are written in either order are the same. -/
import Derived.Test.YtdfahkpjdjjalaaBQ
import Derived.Test.YtdfahkpjdjjalaaVcArg
namespace Go.Proofs.Ytdfahkpjdjjalaa
open Go.RowKit Vc Go.ChangeShapes

set_option maxRecDepth 100000 in
theorem blockApart_lifted (os : Os) (started : os.Started) (H : Type) (enc : TypeId × Value → H) :
    ReturnsInHanded {} Try.checked os 7 .any (Rows.blockApartSpec.pre6 enc Try.prog Try.f7 Rows.blockApartRow.domain false) (Rows.blockApartSpec.post enc Try.prog Try.f7 false true false false) := by
  refine law_lifted (C := Try.checked) (tb := 4) (by kernel_rfl) started (by kernel_rfl) Try.func7
    (ChangeSpec.witness6 (enc := enc) (C := Try.checked) false ⟨#[], #[.slice none 0 0, .agg #[.int .u8 0, .int .u8 0], .agg #[.int .u8 0, .int .u8 0]], []⟩ 8 (by kernel_rfl) (by kernel_rfl) (by kernel_rfl) (by kernel_rfl))
    (by kernel_rfl) (by kernel_rfl) rfl Try.underlying4 rfl (fun ds h => by match ds, h with | [_, _, _], _ => rfl) ?_
  intro W args ds p hA hsz hval
  rw [Try.params7] at hA hval
  have hA : DataW.TrodAll enc Try.prog W 0 (fun _ => true) true [22, 43, 43] args ds p := hA
  obtain ⟨v0, vs0, d0, ds0, p0, q0, rfl, rfl, rfl, g0, r0⟩ := trodAll_cons hA
  obtain ⟨v1, vs1, d1, ds1, p1, q1, rfl, rfl, rfl, g1, r1⟩ := trodAll_cons r0
  obtain ⟨v2, vs2, d2, ds2, p2, q2, rfl, rfl, rfl, g2, r2⟩ := trodAll_cons r1
  obtain ⟨rfl, rfl, rfl⟩ := trodAll_nil r2
  obtain ⟨x, hx, kx⟩ := arg_arrays (w := 64) Try.underlying22 (by kernel_rfl) (by omega) (by kernel_rfl) (hval 0 _ _ rfl rfl) g0
  obtain ⟨y, rfl, hy, ky⟩ := arg_array (n := 2) Try.underlying43 (by kernel_rfl) (hval 1 _ _ rfl rfl) g1
  obtain ⟨z, rfl, hz, kz⟩ := arg_array (n := 2) Try.underlying43 (by kernel_rfl) (hval 2 _ _ rfl rfl) g2
  simp only [mn_u8, mx_u8, mn_u16, mx_u16, mn_u32, mx_u32, mn_u64, mx_u64, mn_i64, mx_i64] at *
  obtain ⟨p, q, rfl⟩ := two hy
  obtain ⟨r, s, rfl⟩ := two hz
  exact (blockApart_ok hx (ky p (by simp)) (ky q (by simp))).law
theorem blockApart_holds : Rows.BlockApartSaid :=
  OpenClaim.holds_of_wide 7 Try.f7 rfl rfl rfl rfl rfl rfl rfl ⟨rfl, rfl, rfl, rfl, rfl⟩ rfl rfl rfl rfl rfl (by kernel_rfl) Try.func7 (by kernel_rfl)
    (of_decide_eq_true (by kernel_rfl)) (by unfold Func.isWrapper; rw [if_neg (of_decide_eq_false (by kernel_rfl))]; exact ⟨rfl, rfl⟩)
    (fun os started H enc _ => blockApart_lifted os started H enc)
#print axioms blockApart_holds
end Go.Proofs.Ytdfahkpjdjjalaa
