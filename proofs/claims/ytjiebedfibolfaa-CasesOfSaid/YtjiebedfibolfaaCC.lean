/- The laws of the cases: each answers true. -/
import Derived.Test.YtjiebedfibolfaaCB
import Derived.Test.YtjiebedfibolfaaVcAny
namespace Go.Proofs.Ytjiebedfibolfaa
open Go.RowKit Vc

theorem alive_ok : PureF Try.prog 8 [] (.bool true) := by
  refine PureF.body Try.func8 rfl (by kernel_rfl) fun B G hm hG => ?_
  refine H.sr (by kernel_rfl) ?_
  refine H.sr (by kernel_rfl) ?_
  refine H.seq ?_
  refine H.seq (H.region (HOp.ev 2 ?_))
  refine HOp.pure 9 [.agg #[.int .u32 0, .int .u32 64, .bool true, .int .i64 0, .slice none 0 0], .agg #[.int .i64 1, .int .i64 36, .slice none 0 0, .int .i64 0, .int .u64 0, .int .i64 0, .int .i64 0, .int .i64 0, .int .i64 0, .int .i64 0, .slice none 0 0, .int .i64 0, .int .i64 0, .int .i64 0, .int .i64 0, .int .i64 0, .int .i64 0]] (by kernel_rfl) (by kernel_rfl) (of_ok (hc := by omega) (hc2 := by omega) (hd2 := by omega) ..) ?_
  refine HOp.ev 4 ?_
  refine HOp.pure 9 [.agg #[.int .u32 0, .int .u32 64, .bool true, .int .i64 0, .slice none 0 0], .agg #[.int .i64 0, .int .i64 0, .slice none 0 0, .int .i64 0, .int .u64 0, .int .i64 0, .int .i64 0, .int .i64 0, .int .i64 0, .int .i64 0, .slice none 0 0, .int .i64 0, .int .i64 0, .int .i64 0, .int .i64 0, .int .i64 0, .int .i64 0]] (by kernel_rfl) (by kernel_rfl) (of_ok (hc := by omega) (hc2 := by omega) (hd2 := by omega) ..) ?_
  refine HOp.ev 5 ?_
  refine HOp.pure 9 [.agg #[.int .u32 0, .int .u32 0, .bool false, .int .i64 0, .slice none 0 0], .agg #[.int .i64 2, .int .i64 1, .slice none 0 0, .int .i64 0, .int .u64 0, .int .i64 0, .int .i64 0, .int .i64 0, .int .i64 0, .int .i64 0, .slice none 0 0, .int .i64 0, .int .i64 0, .int .i64 0, .int .i64 0, .int .i64 0, .int .i64 0]] (by kernel_rfl) (by kernel_rfl) (of_ok (hc := by omega) (hc2 := by omega) (hd2 := by omega) ..) ?_
  refine HOp.ev 2 ?_
  refine HOp.done (by kernel_rfl) ?_
  refine H.condF (by kernel_rfl) ?_
  refine H.skip ?_
  refine H.seq (H.region ?_)
  refine HOp.pure 11 [.int .i64 4, .bool true] (by kernel_rfl) (by kernel_rfl) (plan_ok ..) ?_
  refine HOp.ev 3 ?_
  refine HOp.pure 11 [.int .i64 4, .bool false] (by kernel_rfl) (by kernel_rfl) (plan_ok ..) ?_
  refine HOp.ev 4 ?_
  refine HOp.pure 11 [.int .i64 13, .bool false] (by kernel_rfl) (by kernel_rfl) (plan_ok ..) ?_
  refine HOp.ev 4 ?_
  refine HOp.done (by kernel_rfl) ?_
  refine H.ret ?_
  refine ⟨.v (.bool true), by kernel_rfl, ?_⟩
  rotate_left
  all_goals rfl
theorem casesOf_ok (c1 d0 d1 : Int) (c2 : Bool) (c0 c3 c4 d2 d3 d4 d5 d6 d7 d8 d9 d10 d11 d12 d13 d14 d15 d16 : Value) (hc : 0 ≤ c1) (hc2 : c1 < 4294967296) (hd2 : d1 < 9223372036854775808) :
    PureF Try.prog 3 [.agg #[c0, .int .u32 c1, .bool c2, c3, c4], .agg #[.int .i64 d0, .int .i64 d1, d2, d3, d4, d5, d6, d7, d8, d9, d10, d11, d12, d13, d14, d15, d16]] (.bool true) := by
  refine PureF.body Try.func3 rfl (by kernel_rfl) fun B G hm hG => ?_
  refine H.sr (by kernel_rfl) ?_
  refine H.seq ?_
  refine H.seq (H.region ?_)
  refine HOp.pure 8 [] (by kernel_rfl) (by kernel_rfl) alive_ok ?_
  refine HOp.ev 1 ?_
  refine HOp.done (by kernel_rfl) ?_
  refine H.condF (by kernel_rfl) ?_
  refine H.skip ?_
  refine H.seq (Vir.draw [0, 1, 3, 4, 6, 7] (by kernel_rfl) (by kernel_rfl) ?_)
  refine Vir.ev (by kernel_rfl) [0, 1, 3, 4] ?_
  refine Vir.pure (by kernel_rfl) 2 9 [.agg #[c0, .int .u32 c1, .bool c2, c3, c4], .agg #[.int .i64 d0, .int .i64 d1, d2, d3, d4, d5, d6, d7, d8, d9, d10, d11, d12, d13, d14, d15, d16]] (by kernel_rfl) (by kernel_rfl) (by kernel_rfl) (of_ok (hc := hc) (hc2 := hc2) (hd2 := hd2) ..) (by kernel_rfl) (by kernel_rfl) ?_
  refine Vir.pure (by kernel_rfl) 5 10 [.agg #[c0, .int .u32 c1, .bool c2, c3, c4], .agg #[.int .i64 d0, .int .i64 d1, d2, d3, d4, d5, d6, d7, d8, d9, d10, d11, d12, d13, d14, d15, d16]] (by kernel_rfl) (by kernel_rfl) (by kernel_rfl) (refOf_ok (hc := hc) (hc2 := hc2) ..) (by kernel_rfl) (by kernel_rfl) ?_
  refine Vir.ev (by kernel_rfl) [6, 7] ?_
  refine Vir.fin (by kernel_rfl) (by kernel_rfl) ?_
  refine H.ret ?_
  refine ⟨.v (.bool (ofF c1 c2 d0 d1 == ofF c1 c2 d0 d1)), by kernel_rfl, ?_⟩
  rotate_left
  all_goals simp [SV.pl]

theorem ret_b {b : Bool} (h : b = true) : SV.pl (.v (.bool b)) = some (.bool true) := by rw [h]; rfl

theorem casesPlan_ok (k : Int) (stall : Bool) (h1 : -9223372036854775808 ≤ k) (h2 : k ≤ 9223372036854775807) : PureF Try.prog 4 [.int .i64 k, .bool stall] (.bool true) := by
  refine PureF.body Try.func4 rfl (by kernel_rfl) fun B G hm hG => ?_
  refine H.sr (by kernel_rfl) ?_
  refine H.seq ?_
  refine H.seq (H.region ?_)
  refine HOp.pure 8 [] (by kernel_rfl) (by kernel_rfl) alive_ok ?_
  refine HOp.ev 1 ?_
  refine HOp.done (by kernel_rfl) ?_
  refine H.condF (by kernel_rfl) ?_
  refine H.skip ?_
  refine H.seq ?_
  refine H.sr (by kernel_rfl) ?_
  refine H.block ?_
  -- LOOP from ⟨26, [(5, .v (.int .i64 -1)), (7, .v (.bool false)), (6, .v (.bool true)), (4, .v (.bool false)), (0, .v (.int .i64 k)), (1, .v (.bool stall))], []⟩
  rotate_left
  refine H.loop (fun n : Int => ⟨26, [(5, .v (.int .i64 n)), (4, .v (.bool false)), (0, .v (.int .i64 k)), (1, .v (.bool stall))], []⟩) (fun n G' => G' = G ∧ -1 ≤ n ∧ n ≤ 16) (fun n => (16 - n).toNat) (-1) (le_of (by kernel_rfl)) ⟨rfl, by omega, by omega⟩ (fun _ => by rw [hm]; exact Nat.zero_le _) ?_
  rintro n _ ⟨rfl, hn1, hn2⟩
  have e1 := wrap_i64 (x := n + 1) (by omega) (by omega)
  refine H.seq ?_
  refine H.sr (by kernel_rfl) ?_
  refine H.ifd (n ≤ 15) (by kernel_rfl) (fun t1 => ?_) (fun t1 => ?_)
  refine H.skip ?_
  refine H.seq ?_
  refine H.block ?_
  refine H.seq (H.region (HOp.ev 2 ?_))
  refine HOp.pure 11 [.int .i64 n, .bool stall] (by kernel_rfl) (by kernel_rfl) (plan_ok ..) ?_
  refine HOp.ev 2 ?_
  refine HOp.pure 12 [.int .i64 n, .bool stall] (by kernel_rfl) (by kernel_rfl) (refPlan_ok ..) ?_
  refine HOp.ev 1 ?_
  refine HOp.done (by kernel_rfl) ?_
  refine H.cond (!(planStage n stall == planStage n stall && (planEp n stall == planEp n stall && (planJob n == planJob n && (planPhase n == planPhase n && true))))) (by kernel_rfl) (fun t2 => ?_) (fun t2 => ?_)
  simp at t2
  refine H.skip ?_
  refine H.reg (by kernel_rfl) ?_
  -- END ⟨26, [(5, .v (.int .i64 (IntKind.i64.wrap (n + 1)))), (11, .v (.int .i64 (IntKind.i64.wrap (n + 1)))), (10, .v (.int .i64 n)), (18, .v (.bool (!(planStage n stall == planStage n stall && (planEp n stall == planEp n stall && (planJob n == planJob n && (planPhase n == planPhase n && true))))))), (17, .v (.agg #[.int .i64 (planStage n stall), .int .i64 (planEp n stall), .bool (planJob n), .bool (planPhase n)])), (16, .v (.bool stall)), (15, .v (.int .i64 n)), (14, .v (.agg #[.int .i64 (planStage n stall), .int .i64 (planEp n stall), .bool (planJob n), .bool (planPhase n)])), (13, .v (.bool stall)), (12, .v (.int .i64 n)), (9, .v (.bool (decide (n ≤ 15)))), (8, .v (.int .i64 n)), (4, .v (.bool false)), (0, .v (.int .i64 k)), (1, .v (.bool stall))], []⟩
  rotate_left
  refine H.exit ?_
  refine H.seq (H.region (HOp.ev 2 ?_))
  refine HOp.pure 11 [.int .i64 k, .bool stall] (by kernel_rfl) (by kernel_rfl) (plan_ok ..) ?_
  refine HOp.ev 2 ?_
  refine HOp.pure 12 [.int .i64 k, .bool stall] (by kernel_rfl) (by kernel_rfl) (refPlan_ok ..) ?_
  refine HOp.ev 2 ?_
  refine HOp.done (by kernel_rfl) ?_
  refine H.ret ?_
  refine ⟨.v (.bool (planStage k stall == planStage k stall && (planEp k stall == planEp k stall && (planJob k == planJob k && (planPhase k == planPhase k && true))))), by kernel_rfl, ?_⟩
  rotate_left
  · exact ⟨IntKind.i64.wrap (n + 1), le_of (by kernel_rfl), ⟨rfl, by omega, by omega⟩, by omega⟩
  · refine ret_b ?_; simp
end Go.Proofs.Ytjiebedfibolfaa
