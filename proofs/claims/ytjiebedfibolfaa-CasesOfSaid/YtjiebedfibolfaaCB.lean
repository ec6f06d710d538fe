/- Contracts of the reference's cases and of both plans. -/
import Derived.Test.YtjiebedfibolfaaCA
import Derived.Test.YtjiebedfibolfaaVcAny
namespace Go.Proofs.Ytjiebedfibolfaa
open Go.RowKit Vc

def thanF (clen ilen : Int) : Int := if ilen < clen then 0 else if ilen = clen then 1 else 2
theorem dir_ok (c0 c1 : Int) (c2 c3 c4 c5 c6 c7 c8 c9 c10 c11 c12 c13 c14 c15 c16 : Value) :
    PureF Try.prog 17 [.agg #[.int .i64 c0, .int .i64 c1, c2, c3, c4, c5, c6, c7, c8, c9, c10, c11, c12, c13, c14, c15, c16]] (.int .i64 (meansF c0 c1)) := by
  refine PureF.body Try.func17 rfl (by kernel_rfl) fun B G hm hG => ?_
  refine H.sr (by kernel_rfl) ?_
  refine H.seq ?_
  refine H.seq (H.region (HOp.ev 4 ?_))
  refine HOp.ifd 6 (c1 ≤ 0) (by kernel_rfl) (fun t1 => ?_) (fun t1 => ?_)
  refine HOp.ev 9 ?_
  refine HOp.done (by kernel_rfl) ?_
  refine H.condT (by kernel_rfl) ?_
  refine H.sr (by kernel_rfl) ?_
  refine H.ret ?_
  refine ⟨.v (.int .i64 0), by kernel_rfl, ?_⟩
  rotate_left
  refine HOp.ev 4 ?_
  refine HOp.ifn 10 c0 1 (by kernel_rfl) (fun t2 => ?_) (fun t2 => ?_)
  refine HOp.ev 5 ?_
  refine HOp.done (by kernel_rfl) ?_
  refine H.ifn c0 2 (by kernel_rfl) (fun t3 => ?_) (fun t3 => ?_)
  refine H.sr (by kernel_rfl) ?_
  refine H.ret ?_
  refine ⟨.v (.int .i64 0), by kernel_rfl, ?_⟩
  rotate_left
  refine H.skip ?_
  refine H.sr (by kernel_rfl) ?_
  refine H.ret ?_
  refine ⟨.v (.int .i64 c0), by kernel_rfl, ?_⟩
  rotate_left
  refine HOp.ev 5 ?_
  refine HOp.done (by kernel_rfl) ?_
  refine H.condF (by kernel_rfl) ?_
  refine H.skip ?_
  refine H.sr (by kernel_rfl) ?_
  refine H.ret ?_
  refine ⟨.v (.int .i64 c0), by kernel_rfl, ?_⟩
  rotate_left
  all_goals (refine ret_i ?_; unfold meansF; (repeat' split) <;> omega)

theorem than_ok (c1 d1 : Int) (c0 c2 c3 c4 d0 d2 d3 d4 d5 d6 d7 d8 d9 d10 d11 d12 d13 d14 d15 d16 : Value) (hc : 0 ≤ c1) (hc2 : c1 < 4294967296) :
    PureF Try.prog 18 [.agg #[c0, .int .u32 c1, c2, c3, c4], .agg #[d0, .int .i64 d1, d2, d3, d4, d5, d6, d7, d8, d9, d10, d11, d12, d13, d14, d15, d16]] (.int .i64 (thanF c1 d1)) := by
  refine PureF.body Try.func18 rfl (by kernel_rfl) fun B G hm hG => ?_
  have e2 := wrap_i64 (x := c1) (by omega) (by omega)
  refine H.sr (by kernel_rfl) ?_
  refine H.seq ?_
  refine H.sr (by kernel_rfl) ?_
  refine H.ifd (d1 < IntKind.i64.wrap c1) (by kernel_rfl) (fun t1 => ?_) (fun t1 => ?_)
  refine H.sr (by kernel_rfl) ?_
  refine H.ret ?_
  refine ⟨.v (.int .i64 0), by kernel_rfl, ?_⟩
  rotate_left
  refine H.skip ?_
  refine H.seq ?_
  refine H.sr (by kernel_rfl) ?_
  refine H.ife d1 (IntKind.i64.wrap c1) (by kernel_rfl) (fun t2 => ?_) (fun t2 => ?_)
  refine H.sr (by kernel_rfl) ?_
  refine H.ret ?_
  refine ⟨.v (.int .i64 1), by kernel_rfl, ?_⟩
  rotate_left
  refine H.skip ?_
  refine H.sr (by kernel_rfl) ?_
  refine H.ret ?_
  refine ⟨.v (.int .i64 2), by kernel_rfl, ?_⟩
  rotate_left
  all_goals (refine ret_i ?_; unfold thanF; split <;> (try split) <;> omega)

theorem refOf_ok (c1 d0 d1 : Int) (c2 : Bool) (c0 c3 c4 d2 d3 d4 d5 d6 d7 d8 d9 d10 d11 d12 d13 d14 d15 d16 : Value) (hc : 0 ≤ c1) (hc2 : c1 < 4294967296) :
    PureF Try.prog 10 [.agg #[c0, .int .u32 c1, .bool c2, c3, c4], .agg #[.int .i64 d0, .int .i64 d1, d2, d3, d4, d5, d6, d7, d8, d9, d10, d11, d12, d13, d14, d15, d16]] (.int .i64 (ofF c1 c2 d0 d1)) := by
  refine PureF.body Try.func10 rfl (by kernel_rfl) fun B G hm hG => ?_
  have h0 := means_lo d0 d1
  have h1 := means_hi d0 d1
  have e1 := wrap_i64 (x := 1 + meansF d0 d1) (by omega) (by omega)
  have h2 : 0 ≤ thanF c1 d1 ∧ thanF c1 d1 ≤ 2 := by unfold thanF; split <;> (try split) <;> omega
  have e2 := wrap_i64 (x := 5 + thanF c1 d1) (by omega) (by omega)
  have e3 := wrap_i64 (x := 11 + thanF c1 d1) (by omega) (by omega)
  have e4 : thirdF 5 c1 d1 = 5 + thanF c1 d1 := by unfold thirdF thanF; split <;> (try split) <;> (try split) <;> omega
  have e5 : thirdF 11 c1 d1 = 11 + thanF c1 d1 := by unfold thirdF thanF; split <;> (try split) <;> (try split) <;> omega
  refine H.sr (by kernel_rfl) ?_
  refine H.seq (H.region (HOp.ev 1 ?_))
  refine HOp.pure 17 [.agg #[.int .i64 d0, .int .i64 d1, d2, d3, d4, d5, d6, d7, d8, d9, d10, d11, d12, d13, d14, d15, d16]] (by kernel_rfl) (by kernel_rfl) (dir_ok ..) ?_
  refine HOp.ev 1 ?_
  refine HOp.done (by kernel_rfl) ?_
  refine H.seq ?_
  refine H.sr (by kernel_rfl) ?_
  refine H.ife c1 0 (by kernel_rfl) (fun t1 => ?_) (fun t1 => ?_)
  refine H.sr (by kernel_rfl) ?_
  refine H.ret ?_
  refine ⟨.v (.int .i64 (IntKind.i64.wrap (1 + meansF d0 d1))), by kernel_rfl, ?_⟩
  rotate_left
  refine H.skip ?_
  refine H.seq ?_
  refine H.sr (by kernel_rfl) ?_
  refine H.cond c2 (by kernel_rfl) (fun t2 => ?_) (fun t2 => ?_)
  refine H.seq ?_
  refine H.sr (by kernel_rfl) ?_
  refine H.block ?_
  refine H.sr (by kernel_rfl) ?_
  refine H.ife (meansF d0 d1) 0 (by kernel_rfl) (fun t3 => ?_) (fun t3 => ?_)
  refine H.sr (by kernel_rfl) ?_
  refine H.ret ?_
  refine ⟨.v (.int .i64 4), by kernel_rfl, ?_⟩
  rotate_left
  refine H.sr (by kernel_rfl) ?_
  refine H.ife (meansF d0 d1) 1 (by kernel_rfl) (fun t4 => ?_) (fun t4 => ?_)
  refine H.seq (H.region (HOp.ev 2 ?_))
  refine HOp.pure 18 [.agg #[c0, .int .u32 c1, .bool c2, c3, c4], .agg #[.int .i64 d0, .int .i64 d1, d2, d3, d4, d5, d6, d7, d8, d9, d10, d11, d12, d13, d14, d15, d16]] (by kernel_rfl) (by kernel_rfl) (than_ok (hc := hc) (hc2 := hc2) ..) ?_
  refine HOp.ev 2 ?_
  refine HOp.done (by kernel_rfl) ?_
  refine H.ret ?_
  refine ⟨.v (.int .i64 (IntKind.i64.wrap (5 + thanF c1 d1))), by kernel_rfl, ?_⟩
  rotate_left
  refine H.skip ?_
  refine H.sr (by kernel_rfl) ?_
  refine H.ret ?_
  refine ⟨.v (.int .i64 8), by kernel_rfl, ?_⟩
  rotate_left
  refine H.skip ?_
  refine H.seq ?_
  refine H.sr (by kernel_rfl) ?_
  refine H.block ?_
  refine H.sr (by kernel_rfl) ?_
  refine H.ife (meansF d0 d1) 0 (by kernel_rfl) (fun t5 => ?_) (fun t5 => ?_)
  refine H.sr (by kernel_rfl) ?_
  refine H.ret ?_
  refine ⟨.v (.int .i64 9), by kernel_rfl, ?_⟩
  rotate_left
  refine H.sr (by kernel_rfl) ?_
  refine H.ife (meansF d0 d1) 1 (by kernel_rfl) (fun t6 => ?_) (fun t6 => ?_)
  refine H.sr (by kernel_rfl) ?_
  refine H.ret ?_
  refine ⟨.v (.int .i64 10), by kernel_rfl, ?_⟩
  rotate_left
  refine H.skip ?_
  refine H.seq (H.region (HOp.ev 2 ?_))
  refine HOp.pure 18 [.agg #[c0, .int .u32 c1, .bool c2, c3, c4], .agg #[.int .i64 d0, .int .i64 d1, d2, d3, d4, d5, d6, d7, d8, d9, d10, d11, d12, d13, d14, d15, d16]] (by kernel_rfl) (by kernel_rfl) (than_ok (hc := hc) (hc2 := hc2) ..) ?_
  refine HOp.ev 2 ?_
  refine HOp.done (by kernel_rfl) ?_
  refine H.ret ?_
  refine ⟨.v (.int .i64 (IntKind.i64.wrap (11 + thanF c1 d1))), by kernel_rfl, ?_⟩
  rotate_left
  all_goals (refine ret_i ?_; unfold ofF; simp [*]; try omega)

/-- What comes of a case. -/
def planStage (k : Int) (stall : Bool) : Int :=
  if k = 1 ∨ k = 2 ∨ k = 3 ∨ k = 8 ∨ k = 10 then 3 else if k = 4 then (if stall = true then 3 else 1) else if k = 5 ∨ k = 6 ∨ k = 7 then 1
  else if k = 9 then (if stall = true then 3 else 2) else if k = 11 ∨ k = 12 ∨ k = 13 then 2 else 0
def planEp (k : Int) (stall : Bool) : Int :=
  if k = 8 then 1 else if k = 10 then 2 else if k = 4 then (if stall = true then 1 else 0) else if k = 9 then (if stall = true then 2 else 0) else 0
def planJob (k : Int) : Bool := decide (k = 11 ∨ k = 12 ∨ k = 13)
def planPhase (k : Int) : Bool := decide (k = 2 ∨ k = 3 ∨ k = 7 ∨ k = 8 ∨ k = 10 ∨ k = 13)
def planV (k : Int) (stall : Bool) : Value := .agg #[.int .i64 (planStage k stall), .int .i64 (planEp k stall), .bool (planJob k), .bool (planPhase k)]
theorem ret_plan {k : Int} {stall : Bool} {a b : Int} {c d : Bool} (h1 : a = planStage k stall) (h2 : b = planEp k stall) (h3 : c = planJob k) (h4 : d = planPhase k) :
    SV.pl (.ag [.v (.int .i64 a), .v (.int .i64 b), .v (.bool c), .v (.bool d)]) = some (planV k stall) := by rw [h1, h2, h3, h4]; rfl

theorem refPlan_ok (k : Int) (stall : Bool) : PureF Try.prog 12 [.int .i64 k, .bool stall] (planV k stall) := by
  refine PureF.body Try.func12 rfl (by kernel_rfl) fun B G hm hG => ?_
  refine H.sr (by kernel_rfl) ?_
  refine H.seq ?_
  refine H.sr (by kernel_rfl) ?_
  refine H.block ?_
  refine H.sr (by kernel_rfl) ?_
  refine H.ife k 1 (by kernel_rfl) (fun t1 => ?_) (fun t1 => ?_)
  refine H.sr (by kernel_rfl) ?_
  refine H.ret ?_
  refine ⟨.ag [.v (.int .i64 3), .v (.int .i64 0), .v (.bool false), .v (.bool false)], by kernel_rfl, ?_⟩
  rotate_left
  refine H.seq ?_
  refine H.sr (by kernel_rfl) ?_
  refine H.ife k 2 (by kernel_rfl) (fun t2 => ?_) (fun t2 => ?_)
  refine H.skip ?_
  refine H.ife k 2 (by kernel_rfl) (fun t3 => ?_) (fun t3 => ?_)
  refine H.sr (by kernel_rfl) ?_
  refine H.ret ?_
  refine ⟨.ag [.v (.int .i64 3), .v (.int .i64 0), .v (.bool false), .v (.bool true)], by kernel_rfl, ?_⟩
  rotate_left
  omega
  refine H.reg (by kernel_rfl) ?_
  refine H.ife k 3 (by kernel_rfl) (fun t4 => ?_) (fun t4 => ?_)
  refine H.sr (by kernel_rfl) ?_
  refine H.ret ?_
  refine ⟨.ag [.v (.int .i64 3), .v (.int .i64 0), .v (.bool false), .v (.bool true)], by kernel_rfl, ?_⟩
  rotate_left
  refine H.sr (by kernel_rfl) ?_
  refine H.ife k 4 (by kernel_rfl) (fun t5 => ?_) (fun t5 => ?_)
  refine H.seq ?_
  refine H.sr (by kernel_rfl) ?_
  refine H.cond stall (by kernel_rfl) (fun t6 => ?_) (fun t6 => ?_)
  refine H.sr (by kernel_rfl) ?_
  refine H.ret ?_
  refine ⟨.ag [.v (.int .i64 3), .v (.int .i64 1), .v (.bool false), .v (.bool false)], by kernel_rfl, ?_⟩
  rotate_left
  refine H.skip ?_
  refine H.sr (by kernel_rfl) ?_
  refine H.ret ?_
  refine ⟨.ag [.v (.int .i64 1), .v (.int .i64 0), .v (.bool false), .v (.bool false)], by kernel_rfl, ?_⟩
  rotate_left
  refine H.seq ?_
  refine H.sr (by kernel_rfl) ?_
  refine H.ife k 5 (by kernel_rfl) (fun t7 => ?_) (fun t7 => ?_)
  refine H.skip ?_
  refine H.ife k 5 (by kernel_rfl) (fun t8 => ?_) (fun t8 => ?_)
  refine H.sr (by kernel_rfl) ?_
  refine H.ret ?_
  refine ⟨.ag [.v (.int .i64 1), .v (.int .i64 0), .v (.bool false), .v (.bool false)], by kernel_rfl, ?_⟩
  rotate_left
  omega
  refine H.reg (by kernel_rfl) ?_
  refine H.ife k 6 (by kernel_rfl) (fun t9 => ?_) (fun t9 => ?_)
  refine H.sr (by kernel_rfl) ?_
  refine H.ret ?_
  refine ⟨.ag [.v (.int .i64 1), .v (.int .i64 0), .v (.bool false), .v (.bool false)], by kernel_rfl, ?_⟩
  rotate_left
  refine H.sr (by kernel_rfl) ?_
  refine H.ife k 7 (by kernel_rfl) (fun t10 => ?_) (fun t10 => ?_)
  refine H.sr (by kernel_rfl) ?_
  refine H.ret ?_
  refine ⟨.ag [.v (.int .i64 1), .v (.int .i64 0), .v (.bool false), .v (.bool true)], by kernel_rfl, ?_⟩
  rotate_left
  refine H.sr (by kernel_rfl) ?_
  refine H.ife k 8 (by kernel_rfl) (fun t11 => ?_) (fun t11 => ?_)
  refine H.sr (by kernel_rfl) ?_
  refine H.ret ?_
  refine ⟨.ag [.v (.int .i64 3), .v (.int .i64 1), .v (.bool false), .v (.bool true)], by kernel_rfl, ?_⟩
  rotate_left
  refine H.sr (by kernel_rfl) ?_
  refine H.ife k 9 (by kernel_rfl) (fun t12 => ?_) (fun t12 => ?_)
  refine H.seq ?_
  refine H.sr (by kernel_rfl) ?_
  refine H.cond stall (by kernel_rfl) (fun t13 => ?_) (fun t13 => ?_)
  refine H.sr (by kernel_rfl) ?_
  refine H.ret ?_
  refine ⟨.ag [.v (.int .i64 3), .v (.int .i64 2), .v (.bool false), .v (.bool false)], by kernel_rfl, ?_⟩
  rotate_left
  refine H.skip ?_
  refine H.sr (by kernel_rfl) ?_
  refine H.ret ?_
  refine ⟨.ag [.v (.int .i64 2), .v (.int .i64 0), .v (.bool false), .v (.bool false)], by kernel_rfl, ?_⟩
  rotate_left
  refine H.sr (by kernel_rfl) ?_
  refine H.ife k 10 (by kernel_rfl) (fun t14 => ?_) (fun t14 => ?_)
  refine H.sr (by kernel_rfl) ?_
  refine H.ret ?_
  refine ⟨.ag [.v (.int .i64 3), .v (.int .i64 2), .v (.bool false), .v (.bool true)], by kernel_rfl, ?_⟩
  rotate_left
  refine H.seq ?_
  refine H.sr (by kernel_rfl) ?_
  refine H.ife k 11 (by kernel_rfl) (fun t15 => ?_) (fun t15 => ?_)
  refine H.skip ?_
  refine H.ife k 11 (by kernel_rfl) (fun t16 => ?_) (fun t16 => ?_)
  refine H.sr (by kernel_rfl) ?_
  refine H.ret ?_
  refine ⟨.ag [.v (.int .i64 2), .v (.int .i64 0), .v (.bool true), .v (.bool false)], by kernel_rfl, ?_⟩
  rotate_left
  omega
  refine H.reg (by kernel_rfl) ?_
  refine H.ife k 12 (by kernel_rfl) (fun t17 => ?_) (fun t17 => ?_)
  refine H.sr (by kernel_rfl) ?_
  refine H.ret ?_
  refine ⟨.ag [.v (.int .i64 2), .v (.int .i64 0), .v (.bool true), .v (.bool false)], by kernel_rfl, ?_⟩
  rotate_left
  refine H.sr (by kernel_rfl) ?_
  refine H.ife k 13 (by kernel_rfl) (fun t18 => ?_) (fun t18 => ?_)
  refine H.sr (by kernel_rfl) ?_
  refine H.ret ?_
  refine ⟨.ag [.v (.int .i64 2), .v (.int .i64 0), .v (.bool true), .v (.bool true)], by kernel_rfl, ?_⟩
  rotate_left
  refine H.skip ?_
  refine H.sr (by kernel_rfl) ?_
  refine H.ret ?_
  refine ⟨.ag [.v (.int .i64 0), .v (.int .i64 0), .v (.bool false), .v (.bool false)], by kernel_rfl, ?_⟩
  rotate_left
  all_goals (refine ret_plan ?_ ?_ ?_ ?_ <;> simp [planStage, planEp, planJob, planPhase, *])

theorem plan_1 (stall : Bool) : PureF Try.prog 11 [.int .i64 1, .bool stall] (planV 1 stall) := by
  refine PureF.body Try.func11 rfl (by kernel_rfl) fun B G hm hG => ?_
  refine H.sr (by kernel_rfl) ?_
  refine H.seq ?_
  refine H.sr (by kernel_rfl) ?_
  refine H.condF (by kernel_rfl) ?_
  refine H.skip ?_
  refine H.sr (by kernel_rfl) ?_
  refine H.seq ?_
  refine H.sr (by kernel_rfl) ?_
  refine H.block ?_
  refine H.seq ?_
  refine H.sr (by kernel_rfl) ?_
  refine H.condF (by kernel_rfl) ?_
  refine H.sr (by kernel_rfl) ?_
  refine H.condF (by kernel_rfl) ?_
  refine H.sr (by kernel_rfl) ?_
  refine H.condF (by kernel_rfl) ?_
  refine H.sr (by kernel_rfl) ?_
  refine H.condF (by kernel_rfl) ?_
  refine H.sr (by kernel_rfl) ?_
  refine H.condF (by kernel_rfl) ?_
  refine H.reg (by kernel_rfl) ?_
  refine H.condF (by kernel_rfl) ?_
  refine H.skip ?_
  refine H.seq ?_
  refine H.block ?_
  refine H.sr (by kernel_rfl) ?_
  refine H.condF (by kernel_rfl) ?_
  refine H.sr (by kernel_rfl) ?_
  refine H.condF (by kernel_rfl) ?_
  refine H.sr (by kernel_rfl) ?_
  refine H.condF (by kernel_rfl) ?_
  refine H.sr (by kernel_rfl) ?_
  refine H.condF (by kernel_rfl) ?_
  refine H.skip ?_
  refine H.sr (by kernel_rfl) ?_
  refine H.ret ?_
  refine ⟨.ag [.v (.int .i64 3), .v (.int .i64 0), .v (.bool false), .v (.bool false)], by kernel_rfl, ?_⟩
  rotate_left
  all_goals (refine ret_plan ?_ ?_ ?_ ?_ <;> simp [planStage, planEp, planJob, planPhase, *])

theorem plan_2 (stall : Bool) : PureF Try.prog 11 [.int .i64 2, .bool stall] (planV 2 stall) := by
  refine PureF.body Try.func11 rfl (by kernel_rfl) fun B G hm hG => ?_
  refine H.sr (by kernel_rfl) ?_
  refine H.seq ?_
  refine H.sr (by kernel_rfl) ?_
  refine H.condF (by kernel_rfl) ?_
  refine H.skip ?_
  refine H.sr (by kernel_rfl) ?_
  refine H.seq ?_
  refine H.sr (by kernel_rfl) ?_
  refine H.block ?_
  refine H.seq ?_
  refine H.sr (by kernel_rfl) ?_
  refine H.condT (by kernel_rfl) ?_
  refine H.skip ?_
  refine H.condT (by kernel_rfl) ?_
  refine H.reg (by kernel_rfl) ?_
  refine H.seq ?_
  refine H.block ?_
  refine H.sr (by kernel_rfl) ?_
  refine H.condF (by kernel_rfl) ?_
  refine H.sr (by kernel_rfl) ?_
  refine H.condF (by kernel_rfl) ?_
  refine H.sr (by kernel_rfl) ?_
  refine H.condF (by kernel_rfl) ?_
  refine H.sr (by kernel_rfl) ?_
  refine H.condF (by kernel_rfl) ?_
  refine H.skip ?_
  refine H.sr (by kernel_rfl) ?_
  refine H.ret ?_
  refine ⟨.ag [.v (.int .i64 3), .v (.int .i64 0), .v (.bool false), .v (.bool true)], by kernel_rfl, ?_⟩
  rotate_left
  all_goals (refine ret_plan ?_ ?_ ?_ ?_ <;> simp [planStage, planEp, planJob, planPhase, *])

theorem plan_3 (stall : Bool) : PureF Try.prog 11 [.int .i64 3, .bool stall] (planV 3 stall) := by
  refine PureF.body Try.func11 rfl (by kernel_rfl) fun B G hm hG => ?_
  refine H.sr (by kernel_rfl) ?_
  refine H.seq ?_
  refine H.sr (by kernel_rfl) ?_
  refine H.condF (by kernel_rfl) ?_
  refine H.skip ?_
  refine H.sr (by kernel_rfl) ?_
  refine H.seq ?_
  refine H.sr (by kernel_rfl) ?_
  refine H.block ?_
  refine H.seq ?_
  refine H.sr (by kernel_rfl) ?_
  refine H.condF (by kernel_rfl) ?_
  refine H.sr (by kernel_rfl) ?_
  refine H.condT (by kernel_rfl) ?_
  refine H.skip ?_
  refine H.condT (by kernel_rfl) ?_
  refine H.reg (by kernel_rfl) ?_
  refine H.seq ?_
  refine H.block ?_
  refine H.sr (by kernel_rfl) ?_
  refine H.condF (by kernel_rfl) ?_
  refine H.sr (by kernel_rfl) ?_
  refine H.condF (by kernel_rfl) ?_
  refine H.sr (by kernel_rfl) ?_
  refine H.condF (by kernel_rfl) ?_
  refine H.sr (by kernel_rfl) ?_
  refine H.condF (by kernel_rfl) ?_
  refine H.skip ?_
  refine H.sr (by kernel_rfl) ?_
  refine H.ret ?_
  refine ⟨.ag [.v (.int .i64 3), .v (.int .i64 0), .v (.bool false), .v (.bool true)], by kernel_rfl, ?_⟩
  rotate_left
  all_goals (refine ret_plan ?_ ?_ ?_ ?_ <;> simp [planStage, planEp, planJob, planPhase, *])

theorem plan_4 (stall : Bool) : PureF Try.prog 11 [.int .i64 4, .bool stall] (planV 4 stall) := by
  refine PureF.body Try.func11 rfl (by kernel_rfl) fun B G hm hG => ?_
  refine H.sr (by kernel_rfl) ?_
  refine H.seq ?_
  refine H.sr (by kernel_rfl) ?_
  refine H.condF (by kernel_rfl) ?_
  refine H.skip ?_
  refine H.sr (by kernel_rfl) ?_
  refine H.seq ?_
  refine H.sr (by kernel_rfl) ?_
  refine H.block ?_
  refine H.seq ?_
  refine H.sr (by kernel_rfl) ?_
  refine H.condF (by kernel_rfl) ?_
  refine H.sr (by kernel_rfl) ?_
  refine H.condF (by kernel_rfl) ?_
  refine H.sr (by kernel_rfl) ?_
  refine H.condF (by kernel_rfl) ?_
  refine H.sr (by kernel_rfl) ?_
  refine H.condF (by kernel_rfl) ?_
  refine H.sr (by kernel_rfl) ?_
  refine H.condF (by kernel_rfl) ?_
  refine H.reg (by kernel_rfl) ?_
  refine H.condF (by kernel_rfl) ?_
  refine H.skip ?_
  refine H.seq ?_
  refine H.block ?_
  refine H.sr (by kernel_rfl) ?_
  refine H.cond stall (by kernel_rfl) (fun t1 => ?_) (fun t1 => ?_)
  refine H.reg (by kernel_rfl) ?_
  refine H.sr (by kernel_rfl) ?_
  refine H.ret ?_
  refine ⟨.ag [.v (.int .i64 3), .v (.int .i64 1), .v (.bool false), .v (.bool false)], by kernel_rfl, ?_⟩
  rotate_left
  refine H.sr (by kernel_rfl) ?_
  refine H.condF (by kernel_rfl) ?_
  refine H.sr (by kernel_rfl) ?_
  refine H.condT (by kernel_rfl) ?_
  refine H.reg (by kernel_rfl) ?_
  refine H.sr (by kernel_rfl) ?_
  refine H.ret ?_
  refine ⟨.ag [.v (.int .i64 1), .v (.int .i64 0), .v (.bool false), .v (.bool false)], by kernel_rfl, ?_⟩
  rotate_left
  all_goals (refine ret_plan ?_ ?_ ?_ ?_ <;> simp [planStage, planEp, planJob, planPhase, *])

theorem plan_5 (stall : Bool) : PureF Try.prog 11 [.int .i64 5, .bool stall] (planV 5 stall) := by
  refine PureF.body Try.func11 rfl (by kernel_rfl) fun B G hm hG => ?_
  refine H.sr (by kernel_rfl) ?_
  refine H.seq ?_
  refine H.sr (by kernel_rfl) ?_
  refine H.condF (by kernel_rfl) ?_
  refine H.skip ?_
  refine H.sr (by kernel_rfl) ?_
  refine H.seq ?_
  refine H.sr (by kernel_rfl) ?_
  refine H.block ?_
  refine H.seq ?_
  refine H.sr (by kernel_rfl) ?_
  refine H.condF (by kernel_rfl) ?_
  refine H.sr (by kernel_rfl) ?_
  refine H.condF (by kernel_rfl) ?_
  refine H.sr (by kernel_rfl) ?_
  refine H.condF (by kernel_rfl) ?_
  refine H.sr (by kernel_rfl) ?_
  refine H.condF (by kernel_rfl) ?_
  refine H.sr (by kernel_rfl) ?_
  refine H.condF (by kernel_rfl) ?_
  refine H.reg (by kernel_rfl) ?_
  refine H.condF (by kernel_rfl) ?_
  refine H.skip ?_
  refine H.seq ?_
  refine H.block ?_
  refine H.sr (by kernel_rfl) ?_
  refine H.condF (by kernel_rfl) ?_
  refine H.sr (by kernel_rfl) ?_
  refine H.condF (by kernel_rfl) ?_
  refine H.sr (by kernel_rfl) ?_
  refine H.condT (by kernel_rfl) ?_
  refine H.reg (by kernel_rfl) ?_
  refine H.sr (by kernel_rfl) ?_
  refine H.ret ?_
  refine ⟨.ag [.v (.int .i64 1), .v (.int .i64 0), .v (.bool false), .v (.bool false)], by kernel_rfl, ?_⟩
  rotate_left
  all_goals (refine ret_plan ?_ ?_ ?_ ?_ <;> simp [planStage, planEp, planJob, planPhase, *])

theorem plan_6 (stall : Bool) : PureF Try.prog 11 [.int .i64 6, .bool stall] (planV 6 stall) := by
  refine PureF.body Try.func11 rfl (by kernel_rfl) fun B G hm hG => ?_
  refine H.sr (by kernel_rfl) ?_
  refine H.seq ?_
  refine H.sr (by kernel_rfl) ?_
  refine H.condF (by kernel_rfl) ?_
  refine H.skip ?_
  refine H.sr (by kernel_rfl) ?_
  refine H.seq ?_
  refine H.sr (by kernel_rfl) ?_
  refine H.block ?_
  refine H.seq ?_
  refine H.sr (by kernel_rfl) ?_
  refine H.condF (by kernel_rfl) ?_
  refine H.sr (by kernel_rfl) ?_
  refine H.condF (by kernel_rfl) ?_
  refine H.sr (by kernel_rfl) ?_
  refine H.condF (by kernel_rfl) ?_
  refine H.sr (by kernel_rfl) ?_
  refine H.condF (by kernel_rfl) ?_
  refine H.sr (by kernel_rfl) ?_
  refine H.condF (by kernel_rfl) ?_
  refine H.reg (by kernel_rfl) ?_
  refine H.condF (by kernel_rfl) ?_
  refine H.skip ?_
  refine H.seq ?_
  refine H.block ?_
  refine H.sr (by kernel_rfl) ?_
  refine H.condF (by kernel_rfl) ?_
  refine H.sr (by kernel_rfl) ?_
  refine H.condF (by kernel_rfl) ?_
  refine H.sr (by kernel_rfl) ?_
  refine H.condT (by kernel_rfl) ?_
  refine H.reg (by kernel_rfl) ?_
  refine H.sr (by kernel_rfl) ?_
  refine H.ret ?_
  refine ⟨.ag [.v (.int .i64 1), .v (.int .i64 0), .v (.bool false), .v (.bool false)], by kernel_rfl, ?_⟩
  rotate_left
  all_goals (refine ret_plan ?_ ?_ ?_ ?_ <;> simp [planStage, planEp, planJob, planPhase, *])

theorem plan_7 (stall : Bool) : PureF Try.prog 11 [.int .i64 7, .bool stall] (planV 7 stall) := by
  refine PureF.body Try.func11 rfl (by kernel_rfl) fun B G hm hG => ?_
  refine H.sr (by kernel_rfl) ?_
  refine H.seq ?_
  refine H.sr (by kernel_rfl) ?_
  refine H.condF (by kernel_rfl) ?_
  refine H.skip ?_
  refine H.sr (by kernel_rfl) ?_
  refine H.seq ?_
  refine H.sr (by kernel_rfl) ?_
  refine H.block ?_
  refine H.seq ?_
  refine H.sr (by kernel_rfl) ?_
  refine H.condF (by kernel_rfl) ?_
  refine H.sr (by kernel_rfl) ?_
  refine H.condF (by kernel_rfl) ?_
  refine H.sr (by kernel_rfl) ?_
  refine H.condT (by kernel_rfl) ?_
  refine H.skip ?_
  refine H.condT (by kernel_rfl) ?_
  refine H.reg (by kernel_rfl) ?_
  refine H.seq ?_
  refine H.block ?_
  refine H.sr (by kernel_rfl) ?_
  refine H.condF (by kernel_rfl) ?_
  refine H.sr (by kernel_rfl) ?_
  refine H.condF (by kernel_rfl) ?_
  refine H.sr (by kernel_rfl) ?_
  refine H.condT (by kernel_rfl) ?_
  refine H.reg (by kernel_rfl) ?_
  refine H.sr (by kernel_rfl) ?_
  refine H.ret ?_
  refine ⟨.ag [.v (.int .i64 1), .v (.int .i64 0), .v (.bool false), .v (.bool true)], by kernel_rfl, ?_⟩
  rotate_left
  all_goals (refine ret_plan ?_ ?_ ?_ ?_ <;> simp [planStage, planEp, planJob, planPhase, *])

theorem plan_8 (stall : Bool) : PureF Try.prog 11 [.int .i64 8, .bool stall] (planV 8 stall) := by
  refine PureF.body Try.func11 rfl (by kernel_rfl) fun B G hm hG => ?_
  refine H.sr (by kernel_rfl) ?_
  refine H.seq ?_
  refine H.sr (by kernel_rfl) ?_
  refine H.condF (by kernel_rfl) ?_
  refine H.skip ?_
  refine H.sr (by kernel_rfl) ?_
  refine H.seq ?_
  refine H.sr (by kernel_rfl) ?_
  refine H.block ?_
  refine H.seq ?_
  refine H.sr (by kernel_rfl) ?_
  refine H.condF (by kernel_rfl) ?_
  refine H.sr (by kernel_rfl) ?_
  refine H.condF (by kernel_rfl) ?_
  refine H.sr (by kernel_rfl) ?_
  refine H.condF (by kernel_rfl) ?_
  refine H.sr (by kernel_rfl) ?_
  refine H.condT (by kernel_rfl) ?_
  refine H.skip ?_
  refine H.condT (by kernel_rfl) ?_
  refine H.reg (by kernel_rfl) ?_
  refine H.seq ?_
  refine H.block ?_
  refine H.sr (by kernel_rfl) ?_
  refine H.condT (by kernel_rfl) ?_
  refine H.reg (by kernel_rfl) ?_
  refine H.sr (by kernel_rfl) ?_
  refine H.ret ?_
  refine ⟨.ag [.v (.int .i64 3), .v (.int .i64 1), .v (.bool false), .v (.bool true)], by kernel_rfl, ?_⟩
  rotate_left
  all_goals (refine ret_plan ?_ ?_ ?_ ?_ <;> simp [planStage, planEp, planJob, planPhase, *])

theorem plan_9 (stall : Bool) : PureF Try.prog 11 [.int .i64 9, .bool stall] (planV 9 stall) := by
  refine PureF.body Try.func11 rfl (by kernel_rfl) fun B G hm hG => ?_
  refine H.sr (by kernel_rfl) ?_
  refine H.seq ?_
  refine H.sr (by kernel_rfl) ?_
  refine H.condF (by kernel_rfl) ?_
  refine H.skip ?_
  refine H.sr (by kernel_rfl) ?_
  refine H.seq ?_
  refine H.sr (by kernel_rfl) ?_
  refine H.block ?_
  refine H.seq ?_
  refine H.sr (by kernel_rfl) ?_
  refine H.condF (by kernel_rfl) ?_
  refine H.sr (by kernel_rfl) ?_
  refine H.condF (by kernel_rfl) ?_
  refine H.sr (by kernel_rfl) ?_
  refine H.condF (by kernel_rfl) ?_
  refine H.sr (by kernel_rfl) ?_
  refine H.condF (by kernel_rfl) ?_
  refine H.sr (by kernel_rfl) ?_
  refine H.condF (by kernel_rfl) ?_
  refine H.reg (by kernel_rfl) ?_
  refine H.condF (by kernel_rfl) ?_
  refine H.skip ?_
  refine H.seq ?_
  refine H.block ?_
  refine H.sr (by kernel_rfl) ?_
  refine H.condF (by kernel_rfl) ?_
  refine H.sr (by kernel_rfl) ?_
  refine H.cond stall (by kernel_rfl) (fun t1 => ?_) (fun t1 => ?_)
  refine H.reg (by kernel_rfl) ?_
  refine H.sr (by kernel_rfl) ?_
  refine H.ret ?_
  refine ⟨.ag [.v (.int .i64 3), .v (.int .i64 2), .v (.bool false), .v (.bool false)], by kernel_rfl, ?_⟩
  rotate_left
  refine H.sr (by kernel_rfl) ?_
  refine H.condF (by kernel_rfl) ?_
  refine H.sr (by kernel_rfl) ?_
  refine H.condT (by kernel_rfl) ?_
  refine H.sr (by kernel_rfl) ?_
  refine H.reg (by kernel_rfl) ?_
  refine H.sr (by kernel_rfl) ?_
  refine H.ret ?_
  refine ⟨.ag [.v (.int .i64 2), .v (.int .i64 0), .v (.bool false), .v (.bool false)], by kernel_rfl, ?_⟩
  rotate_left
  all_goals (refine ret_plan ?_ ?_ ?_ ?_ <;> simp [planStage, planEp, planJob, planPhase, *])

theorem plan_10 (stall : Bool) : PureF Try.prog 11 [.int .i64 10, .bool stall] (planV 10 stall) := by
  refine PureF.body Try.func11 rfl (by kernel_rfl) fun B G hm hG => ?_
  refine H.sr (by kernel_rfl) ?_
  refine H.seq ?_
  refine H.sr (by kernel_rfl) ?_
  refine H.condF (by kernel_rfl) ?_
  refine H.skip ?_
  refine H.sr (by kernel_rfl) ?_
  refine H.seq ?_
  refine H.sr (by kernel_rfl) ?_
  refine H.block ?_
  refine H.seq ?_
  refine H.sr (by kernel_rfl) ?_
  refine H.condF (by kernel_rfl) ?_
  refine H.sr (by kernel_rfl) ?_
  refine H.condF (by kernel_rfl) ?_
  refine H.sr (by kernel_rfl) ?_
  refine H.condF (by kernel_rfl) ?_
  refine H.sr (by kernel_rfl) ?_
  refine H.condF (by kernel_rfl) ?_
  refine H.sr (by kernel_rfl) ?_
  refine H.condT (by kernel_rfl) ?_
  refine H.skip ?_
  refine H.condT (by kernel_rfl) ?_
  refine H.reg (by kernel_rfl) ?_
  refine H.seq ?_
  refine H.block ?_
  refine H.sr (by kernel_rfl) ?_
  refine H.condF (by kernel_rfl) ?_
  refine H.sr (by kernel_rfl) ?_
  refine H.condT (by kernel_rfl) ?_
  refine H.reg (by kernel_rfl) ?_
  refine H.sr (by kernel_rfl) ?_
  refine H.ret ?_
  refine ⟨.ag [.v (.int .i64 3), .v (.int .i64 2), .v (.bool false), .v (.bool true)], by kernel_rfl, ?_⟩
  rotate_left
  all_goals (refine ret_plan ?_ ?_ ?_ ?_ <;> simp [planStage, planEp, planJob, planPhase, *])

theorem plan_11 (stall : Bool) : PureF Try.prog 11 [.int .i64 11, .bool stall] (planV 11 stall) := by
  refine PureF.body Try.func11 rfl (by kernel_rfl) fun B G hm hG => ?_
  refine H.sr (by kernel_rfl) ?_
  refine H.seq ?_
  refine H.sr (by kernel_rfl) ?_
  refine H.condF (by kernel_rfl) ?_
  refine H.skip ?_
  refine H.sr (by kernel_rfl) ?_
  refine H.seq ?_
  refine H.sr (by kernel_rfl) ?_
  refine H.block ?_
  refine H.seq ?_
  refine H.sr (by kernel_rfl) ?_
  refine H.condF (by kernel_rfl) ?_
  refine H.sr (by kernel_rfl) ?_
  refine H.condF (by kernel_rfl) ?_
  refine H.sr (by kernel_rfl) ?_
  refine H.condF (by kernel_rfl) ?_
  refine H.sr (by kernel_rfl) ?_
  refine H.condF (by kernel_rfl) ?_
  refine H.sr (by kernel_rfl) ?_
  refine H.condF (by kernel_rfl) ?_
  refine H.reg (by kernel_rfl) ?_
  refine H.condF (by kernel_rfl) ?_
  refine H.skip ?_
  refine H.seq ?_
  refine H.block ?_
  refine H.sr (by kernel_rfl) ?_
  refine H.condF (by kernel_rfl) ?_
  refine H.sr (by kernel_rfl) ?_
  refine H.condF (by kernel_rfl) ?_
  refine H.sr (by kernel_rfl) ?_
  refine H.condF (by kernel_rfl) ?_
  refine H.sr (by kernel_rfl) ?_
  refine H.condT (by kernel_rfl) ?_
  refine H.sr (by kernel_rfl) ?_
  refine H.reg (by kernel_rfl) ?_
  refine H.sr (by kernel_rfl) ?_
  refine H.ret ?_
  refine ⟨.ag [.v (.int .i64 2), .v (.int .i64 0), .v (.bool true), .v (.bool false)], by kernel_rfl, ?_⟩
  rotate_left
  all_goals (refine ret_plan ?_ ?_ ?_ ?_ <;> simp [planStage, planEp, planJob, planPhase, *])

theorem plan_12 (stall : Bool) : PureF Try.prog 11 [.int .i64 12, .bool stall] (planV 12 stall) := by
  refine PureF.body Try.func11 rfl (by kernel_rfl) fun B G hm hG => ?_
  refine H.sr (by kernel_rfl) ?_
  refine H.seq ?_
  refine H.sr (by kernel_rfl) ?_
  refine H.condF (by kernel_rfl) ?_
  refine H.skip ?_
  refine H.sr (by kernel_rfl) ?_
  refine H.seq ?_
  refine H.sr (by kernel_rfl) ?_
  refine H.block ?_
  refine H.seq ?_
  refine H.sr (by kernel_rfl) ?_
  refine H.condF (by kernel_rfl) ?_
  refine H.sr (by kernel_rfl) ?_
  refine H.condF (by kernel_rfl) ?_
  refine H.sr (by kernel_rfl) ?_
  refine H.condF (by kernel_rfl) ?_
  refine H.sr (by kernel_rfl) ?_
  refine H.condF (by kernel_rfl) ?_
  refine H.sr (by kernel_rfl) ?_
  refine H.condF (by kernel_rfl) ?_
  refine H.reg (by kernel_rfl) ?_
  refine H.condF (by kernel_rfl) ?_
  refine H.skip ?_
  refine H.seq ?_
  refine H.block ?_
  refine H.sr (by kernel_rfl) ?_
  refine H.condF (by kernel_rfl) ?_
  refine H.sr (by kernel_rfl) ?_
  refine H.condF (by kernel_rfl) ?_
  refine H.sr (by kernel_rfl) ?_
  refine H.condF (by kernel_rfl) ?_
  refine H.sr (by kernel_rfl) ?_
  refine H.condT (by kernel_rfl) ?_
  refine H.sr (by kernel_rfl) ?_
  refine H.reg (by kernel_rfl) ?_
  refine H.sr (by kernel_rfl) ?_
  refine H.ret ?_
  refine ⟨.ag [.v (.int .i64 2), .v (.int .i64 0), .v (.bool true), .v (.bool false)], by kernel_rfl, ?_⟩
  rotate_left
  all_goals (refine ret_plan ?_ ?_ ?_ ?_ <;> simp [planStage, planEp, planJob, planPhase, *])

theorem plan_13 (stall : Bool) : PureF Try.prog 11 [.int .i64 13, .bool stall] (planV 13 stall) := by
  refine PureF.body Try.func11 rfl (by kernel_rfl) fun B G hm hG => ?_
  refine H.sr (by kernel_rfl) ?_
  refine H.seq ?_
  refine H.sr (by kernel_rfl) ?_
  refine H.condF (by kernel_rfl) ?_
  refine H.skip ?_
  refine H.sr (by kernel_rfl) ?_
  refine H.seq ?_
  refine H.sr (by kernel_rfl) ?_
  refine H.block ?_
  refine H.seq ?_
  refine H.sr (by kernel_rfl) ?_
  refine H.condF (by kernel_rfl) ?_
  refine H.sr (by kernel_rfl) ?_
  refine H.condF (by kernel_rfl) ?_
  refine H.sr (by kernel_rfl) ?_
  refine H.condF (by kernel_rfl) ?_
  refine H.sr (by kernel_rfl) ?_
  refine H.condF (by kernel_rfl) ?_
  refine H.sr (by kernel_rfl) ?_
  refine H.condF (by kernel_rfl) ?_
  refine H.reg (by kernel_rfl) ?_
  refine H.condT (by kernel_rfl) ?_
  refine H.reg (by kernel_rfl) ?_
  refine H.seq ?_
  refine H.block ?_
  refine H.sr (by kernel_rfl) ?_
  refine H.condF (by kernel_rfl) ?_
  refine H.sr (by kernel_rfl) ?_
  refine H.condF (by kernel_rfl) ?_
  refine H.sr (by kernel_rfl) ?_
  refine H.condF (by kernel_rfl) ?_
  refine H.sr (by kernel_rfl) ?_
  refine H.condT (by kernel_rfl) ?_
  refine H.sr (by kernel_rfl) ?_
  refine H.reg (by kernel_rfl) ?_
  refine H.sr (by kernel_rfl) ?_
  refine H.ret ?_
  refine ⟨.ag [.v (.int .i64 2), .v (.int .i64 0), .v (.bool true), .v (.bool true)], by kernel_rfl, ?_⟩
  rotate_left
  all_goals (refine ret_plan ?_ ?_ ?_ ?_ <;> simp [planStage, planEp, planJob, planPhase, *])

theorem plan_out (k : Int) (stall : Bool) (h : k < 1 ∨ 13 < k) : PureF Try.prog 11 [.int .i64 k, .bool stall] (planV k stall) := by
  refine PureF.body Try.func11 rfl (by kernel_rfl) fun B G hm hG => ?_
  refine H.sr (by kernel_rfl) ?_
  refine H.seq ?_
  refine H.seq (H.region (HOp.ev 3 ?_))
  refine HOp.ifd 8 (k < 1) (by kernel_rfl) (fun t1 => ?_) (fun t1 => ?_)
  refine HOp.ev 3 ?_
  refine HOp.done (by kernel_rfl) ?_
  refine H.condT (by kernel_rfl) ?_
  refine H.sr (by kernel_rfl) ?_
  refine H.ret ?_
  refine ⟨.ag [.v (.int .i64 0), .v (.int .i64 0), .v (.bool false), .v (.bool false)], by kernel_rfl, ?_⟩
  rotate_left
  refine HOp.ev 3 ?_
  refine HOp.done (by kernel_rfl) ?_
  refine H.ifd (k > 13) (by kernel_rfl) (fun t2 => ?_) (fun t2 => ?_)
  refine H.sr (by kernel_rfl) ?_
  refine H.ret ?_
  refine ⟨.ag [.v (.int .i64 0), .v (.int .i64 0), .v (.bool false), .v (.bool false)], by kernel_rfl, ?_⟩
  rotate_left
  omega
  all_goals (refine ret_plan ?_ ?_ ?_ ?_ <;> simp only [planStage, planEp, planJob, planPhase] <;> (repeat' split) <;> first | rfl | omega | (simp; omega))

theorem plan_ok (k : Int) (stall : Bool) : PureF Try.prog 11 [.int .i64 k, .bool stall] (planV k stall) := by
  by_cases h : k < 1 ∨ 13 < k
  · exact plan_out k stall h
  · obtain rfl | rfl | rfl | rfl | rfl | rfl | rfl | rfl | rfl | rfl | rfl | rfl | rfl : k = 1 ∨ k = 2 ∨ k = 3 ∨ k = 4 ∨ k = 5 ∨ k = 6 ∨ k = 7 ∨ k = 8 ∨ k = 9 ∨ k = 10 ∨ k = 11 ∨ k = 12 ∨ k = 13 := by omega
    all_goals first | exact plan_1 _ | exact plan_2 _ | exact plan_3 _ | exact plan_4 _ | exact plan_5 _ | exact plan_6 _ | exact plan_7 _ | exact plan_8 _ | exact plan_9 _ | exact plan_10 _ | exact plan_11 _ | exact plan_12 _ | exact plan_13 _
end Go.Proofs.Ytjiebedfibolfaa
