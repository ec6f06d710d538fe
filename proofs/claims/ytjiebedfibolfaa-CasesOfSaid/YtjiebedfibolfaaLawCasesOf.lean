/- The law CasesOf of the layer cases holds: whatever the wrapper and the intent, the case is the document's. No condition. -/
import Derived.Test.YtjiebedfibolfaaCC
import Derived.Test.YtjiebedfibolfaaVcLaw
namespace Go.Proofs.Ytjiebedfibolfaa
open Go.RowKit Vc Go.ChangeShapes

set_option maxRecDepth 100000 in
theorem casesOf_lifted (os : Os) (started : os.Started) (H : Type) (enc : TypeId × Value → H) :
    ReturnsInHanded {} Try.checked os 3 .any (Rows.casesOfSpec.pre6 enc Try.prog Try.f3 Rows.casesOfRow.domain false) (Rows.casesOfSpec.post enc Try.prog Try.f3 false true false false) := by
  refine law_lifted (C := Try.checked) (tb := 4) (by kernel_rfl) started (by kernel_rfl) Try.func3
    (ChangeSpec.witness6 (enc := enc) (C := Try.checked) false ⟨#[], #[.agg #[.int .u32 0, .int .u32 0, .bool false, .int .i64 0, .slice none 0 0], .agg #[.int .i64 0, .int .i64 0, .slice none 0 0, .int .i64 0, .int .u64 0, .int .i64 0, .int .i64 0, .int .i64 0, .int .i64 0, .int .i64 0, .slice none 0 0, .int .i64 0, .int .i64 0, .int .i64 0, .int .i64 0, .int .i64 0, .int .i64 0]], []⟩ 8 (by kernel_rfl) (by kernel_rfl) (by kernel_rfl) (by kernel_rfl))
    (by kernel_rfl) (by kernel_rfl) rfl Try.underlying4 rfl (fun ds h => by match ds, h with | [_, _], _ => rfl) ?_
  intro W args ds p hA hsz hval
  rw [Try.params3] at hA hval
  have hA : DataW.TrodAll enc Try.prog W 0 (fun _ => true) true [25, 34] args ds p := hA
  obtain ⟨v0, vs0, d0, ds0, p0, q0, rfl, rfl, rfl, g0, r0⟩ := trodAll_cons hA
  obtain ⟨v1, vs1, d1, ds1, p1, q1, rfl, rfl, rfl, g1, r1⟩ := trodAll_cons r0
  obtain ⟨rfl, rfl, rfl⟩ := trodAll_nil r1
  obtain ⟨l0, rfl, e0⟩ := arg_agg 8 [.int .u32, .int .u32, .bool, .int .i64, .slice 5] (by kernel_rfl) Try.underlying25 (hval 0 _ _ rfl rfl) g0
  obtain ⟨_, _, rfl, ⟨x0, rfl, a_x0, b_x0⟩, e0z0⟩ := e0.cons
  obtain ⟨_, _, rfl, ⟨x1, rfl, a_x1, b_x1⟩, e0z1⟩ := e0z0.cons
  obtain ⟨_, _, rfl, ⟨x2, rfl⟩, e0z2⟩ := e0z1.cons
  obtain ⟨_, _, rfl, ⟨x3, rfl, a_x3, b_x3⟩, e0z3⟩ := e0z2.cons
  obtain ⟨_, _, rfl, ⟨A_x4, n_x4, k_x4, rfl, s_x4⟩, e0z4⟩ := e0z3.cons
  obtain rfl := e0z4.nil
  obtain ⟨l1, rfl, e1⟩ := arg_agg 8 [.int .i64, .int .i64, .slice 5, .int .i64, .int .u64, .int .i64, .int .i64, .int .i64, .int .i64, .int .i64, .slice 5, .int .i64, .int .i64, .int .i64, .int .i64, .int .i64, .int .i64] (by kernel_rfl) Try.underlying34 (hval 1 _ _ rfl rfl) g1
  obtain ⟨_, _, rfl, ⟨y0, rfl, a_y0, b_y0⟩, e1z0⟩ := e1.cons
  obtain ⟨_, _, rfl, ⟨y1, rfl, a_y1, b_y1⟩, e1z1⟩ := e1z0.cons
  obtain ⟨_, _, rfl, ⟨A_y2, n_y2, k_y2, rfl, s_y2⟩, e1z2⟩ := e1z1.cons
  obtain ⟨_, _, rfl, ⟨y3, rfl, a_y3, b_y3⟩, e1z3⟩ := e1z2.cons
  obtain ⟨_, _, rfl, ⟨y4, rfl, a_y4, b_y4⟩, e1z4⟩ := e1z3.cons
  obtain ⟨_, _, rfl, ⟨y5, rfl, a_y5, b_y5⟩, e1z5⟩ := e1z4.cons
  obtain ⟨_, _, rfl, ⟨y6, rfl, a_y6, b_y6⟩, e1z6⟩ := e1z5.cons
  obtain ⟨_, _, rfl, ⟨y7, rfl, a_y7, b_y7⟩, e1z7⟩ := e1z6.cons
  obtain ⟨_, _, rfl, ⟨y8, rfl, a_y8, b_y8⟩, e1z8⟩ := e1z7.cons
  obtain ⟨_, _, rfl, ⟨y9, rfl, a_y9, b_y9⟩, e1z9⟩ := e1z8.cons
  obtain ⟨_, _, rfl, ⟨A_y10, n_y10, k_y10, rfl, s_y10⟩, e1z10⟩ := e1z9.cons
  obtain ⟨_, _, rfl, ⟨y11, rfl, a_y11, b_y11⟩, e1z11⟩ := e1z10.cons
  obtain ⟨_, _, rfl, ⟨y12, rfl, a_y12, b_y12⟩, e1z12⟩ := e1z11.cons
  obtain ⟨_, _, rfl, ⟨y13, rfl, a_y13, b_y13⟩, e1z13⟩ := e1z12.cons
  obtain ⟨_, _, rfl, ⟨y14, rfl, a_y14, b_y14⟩, e1z14⟩ := e1z13.cons
  obtain ⟨_, _, rfl, ⟨y15, rfl, a_y15, b_y15⟩, e1z15⟩ := e1z14.cons
  obtain ⟨_, _, rfl, ⟨y16, rfl, a_y16, b_y16⟩, e1z16⟩ := e1z15.cons
  obtain rfl := e1z16.nil
  simp only [mn_u8, mx_u8, mn_u16, mx_u16, mn_u32, mx_u32, mn_u64, mx_u64, mn_i64, mx_i64] at *
  exact ((casesOf_ok _ _ _ _ _ _ _ _ _ _ _ _ _ _ _ _ _ _ _ _ _ _ (by omega) (by omega) (by omega)).run _).mono fun _ _ _ h => h.2
theorem casesOf_holds : Rows.CasesOfSaid :=
  OpenClaim.holds_of_wide 3 Try.f3 rfl rfl rfl rfl rfl rfl rfl ⟨rfl, rfl, rfl, rfl, rfl⟩ rfl rfl rfl rfl rfl (by kernel_rfl) Try.func3 (by kernel_rfl)
    (of_decide_eq_true (by kernel_rfl)) (by unfold Func.isWrapper; rw [if_neg (of_decide_eq_false (by kernel_rfl))]; exact ⟨rfl, rfl⟩)
    (fun os started H enc _ => casesOf_lifted os started H enc)
#print axioms casesOf_holds
end Go.Proofs.Ytjiebedfibolfaa
