/- The law BlockReads of the layer block holds: whatever the blocks, what is read of them is the document's. No condition. -/
import Derived.Test.YtdfahkpjdjjalaaBM
import Derived.Test.YtdfahkpjdjjalaaVcArg
namespace Go.Proofs.Ytdfahkpjdjjalaa
open Go.RowKit Vc Go.ChangeShapes

set_option maxRecDepth 100000 in
theorem blockReads_lifted (os : Os) (started : os.Started) (H : Type) (enc : TypeId × Value → H) :
    ReturnsInHanded {} Try.checked os 3 .any (Rows.blockReadsSpec.pre6 enc Try.prog Try.f3 Rows.blockReadsRow.domain false) (Rows.blockReadsSpec.post enc Try.prog Try.f3 false true false false) := by
  refine law_lifted (C := Try.checked) (tb := 4) (by kernel_rfl) started (by kernel_rfl) Try.func3
    (ChangeSpec.witness6 (enc := enc) (C := Try.checked) false ⟨#[], #[.slice none 0 0, .int .u64 0, .int .i64 0], []⟩ 8 (by kernel_rfl) (by kernel_rfl) (by kernel_rfl) (by kernel_rfl))
    (by kernel_rfl) (by kernel_rfl) rfl Try.underlying4 rfl (fun ds h => by match ds, h with | [_, _, _], _ => rfl) ?_
  intro W args ds p hA hsz hval
  rw [Try.params3] at hA hval
  have hA : DataW.TrodAll enc Try.prog W 0 (fun _ => true) true [22, 23, 3] args ds p := hA
  obtain ⟨v0, vs0, d0, ds0, p0, q0, rfl, rfl, rfl, g0, r0⟩ := trodAll_cons hA
  obtain ⟨v1, vs1, d1, ds1, p1, q1, rfl, rfl, rfl, g1, r1⟩ := trodAll_cons r0
  obtain ⟨v2, vs2, d2, ds2, p2, q2, rfl, rfl, rfl, g2, r2⟩ := trodAll_cons r1
  obtain ⟨rfl, rfl, rfl⟩ := trodAll_nil r2
  obtain ⟨x, hx, bx⟩ := arg_arrays (w := 64) Try.underlying22 (by kernel_rfl) (by omega) (by kernel_rfl) (hval 0 _ _ rfl rfl) g0
  obtain ⟨y0, rfl, a_y0, b_y0⟩ := arg_int Try.underlying23 (hval 1 _ _ rfl rfl) g1
  obtain ⟨z0, rfl, a_z0, b_z0⟩ := arg_int Try.underlying3 (hval 2 _ _ rfl rfl) g2
  simp only [mn_u8, mx_u8, mn_u16, mx_u16, mn_u32, mx_u32, mn_u64, mx_u64, mn_i64, mx_i64] at *
  exact (blockReads_ok hx (by omega) (by omega) (by omega) (by omega)).law
theorem blockReads_holds : Rows.BlockReadsSaid :=
  OpenClaim.holds_of_wide 3 Try.f3 rfl rfl rfl rfl rfl rfl rfl ⟨rfl, rfl, rfl, rfl, rfl⟩ rfl rfl rfl rfl rfl (by kernel_rfl) Try.func3 (by kernel_rfl)
    (of_decide_eq_true (by kernel_rfl)) (by unfold Func.isWrapper; rw [if_neg (of_decide_eq_false (by kernel_rfl))]; exact ⟨rfl, rfl⟩)
    (fun os started H enc _ => blockReads_lifted os started H enc)
#print axioms blockReads_holds
end Go.Proofs.Ytdfahkpjdjjalaa
