/- The laws of the cases' phase errors and of what fits. -/
import Derived.Test.YtjiebedfibolfaaCC
import Derived.Test.YtjiebedfibolfaaVcAny
namespace Go.Proofs.Ytjiebedfibolfaa
open Go.RowKit Vc

/-- The thirteen cases, each with the tests that lead to it. -/
theorem of_elim {M : Int → Prop} (c1 d0 d1 : Int) (c2 : Bool) (hc : 0 ≤ c1)
    (m1 : c1 = 0 → (0 < d1 → d0 ≠ 1 ∧ d0 ≠ 2) → M 1) (m2 : c1 = 0 → d0 = 1 → 0 < d1 → M 2) (m3 : c1 = 0 → d0 = 2 → 0 < d1 → M 3)
    (m4 : 0 < c1 → c2 = true → (0 < d1 → d0 ≠ 1 ∧ d0 ≠ 2) → M 4) (m5 : 0 < c1 → c2 = true → d0 = 1 → 0 < d1 → d1 < c1 → M 5) (m6 : 0 < c1 → c2 = true → d0 = 1 → 0 < d1 → d1 = c1 → M 6)
    (m7 : 0 < c1 → c2 = true → d0 = 1 → 0 < d1 → c1 < d1 → M 7) (m8 : 0 < c1 → c2 = true → d0 = 2 → 0 < d1 → M 8)
    (m9 : 0 < c1 → c2 = false → (0 < d1 → d0 ≠ 1 ∧ d0 ≠ 2) → M 9) (m10 : 0 < c1 → c2 = false → d0 = 1 → 0 < d1 → M 10) (m11 : 0 < c1 → c2 = false → d0 = 2 → 0 < d1 → d1 < c1 → M 11)
    (m12 : 0 < c1 → c2 = false → d0 = 2 → 0 < d1 → d1 = c1 → M 12) (m13 : 0 < c1 → c2 = false → d0 = 2 → 0 < d1 → c1 < d1 → M 13) : M (ofF c1 c2 d0 d1) := by
  have hm : meansF d0 d1 = 0 ∧ (0 < d1 → d0 ≠ 1 ∧ d0 ≠ 2) ∨ meansF d0 d1 = 1 ∧ 0 < d1 ∧ d0 = 1 ∨ meansF d0 d1 = 2 ∧ 0 < d1 ∧ d0 = 2 := by
    unfold meansF; split <;> (try split) <;> (try split) <;> omega
  unfold ofF
  by_cases h0 : c1 = 0
  · rw [if_pos h0]
    obtain ⟨h, h1⟩ | ⟨h, h1, h2⟩ | ⟨h, h1, h2⟩ := hm <;> rw [h]
    · exact m1 h0 h1
    · exact m2 h0 h2 h1
    · exact m3 h0 h2 h1
  rw [if_neg h0]
  have h0 : 0 < c1 := by omega
  have ht : d1 < c1 ∨ d1 = c1 ∨ c1 < d1 := by omega
  cases c2
  · rw [if_neg (by simp)]
    obtain ⟨h, h1⟩ | ⟨h, h1, h2⟩ | ⟨h, h1, h2⟩ := hm <;> rw [h]
    · exact m9 h0 rfl h1
    · exact m10 h0 rfl h2 h1
    · rw [if_pos rfl]; unfold thirdF
      obtain ht | ht | ht := ht
      · rw [if_pos ht]; exact m11 h0 rfl h2 h1 ht
      · rw [if_neg (by omega), if_neg (by omega)]; exact m12 h0 rfl h2 h1 ht
      · rw [if_neg (by omega), if_pos ht]; exact m13 h0 rfl h2 h1 ht
  · rw [if_pos rfl]
    obtain ⟨h, h1⟩ | ⟨h, h1, h2⟩ | ⟨h, h1, h2⟩ := hm <;> rw [h]
    · exact m4 h0 rfl h1
    · rw [if_pos rfl]; unfold thirdF
      obtain ht | ht | ht := ht
      · rw [if_pos ht]; exact m5 h0 rfl h2 h1 ht
      · rw [if_neg (by omega), if_neg (by omega)]; exact m6 h0 rfl h2 h1 ht
      · rw [if_neg (by omega), if_pos ht]; exact m7 h0 rfl h2 h1 ht
    · exact m8 h0 rfl h2 h1

/-- A phase error: the unit means data that the host does not. -/
theorem phase_eq (c1 d0 d1 : Int) (c2 : Bool) (hc : 0 ≤ c1) :
    planPhase (ofF c1 c2 d0 d1) = (!(decide (d1 ≤ 0) || (!decide (d0 = 1) && !decide (d0 = 2))) && (decide (c1 = 0) || (c2 != decide (d0 = 1)) || decide (d1 > c1))) := by
  refine of_elim (M := fun k => planPhase k = _) c1 d0 d1 c2 hc ?_ ?_ ?_ ?_ ?_ ?_ ?_ ?_ ?_ ?_ ?_ ?_ ?_ <;> intros <;> rw [Bool.eq_iff_iff] <;> simp [planPhase, *] <;> omega

/-- What fits, of every case. -/
theorem fit_eq (c1 d0 d1 : Int) (c2 : Bool) (stall : Bool) (hc : 0 ≤ c1) : (planStage (ofF c1 c2 d0 d1) stall = 1 → 0 < c1 ∧ c2 = true ∧ ¬ (d0 = 2 ∧ 0 < d1)) ∧
    (planStage (ofF c1 c2 d0 d1) stall = 2 → 0 < c1 ∧ c2 = false ∧ ¬ (d0 = 1 ∧ 0 < d1)) ∧ (planJob (ofF c1 c2 d0 d1) = true → planStage (ofF c1 c2 d0 d1) stall = 2 ∧ d0 = 2 ∧ 0 < d1) ∧
    (planEp (ofF c1 c2 d0 d1) stall = 1 → 0 < c1 ∧ c2 = true) ∧ (planEp (ofF c1 c2 d0 d1) stall = 2 → 0 < c1 ∧ c2 = false) ∧ 0 ≤ planEp (ofF c1 c2 d0 d1) stall ∧ planEp (ofF c1 c2 d0 d1) stall ≤ 2 ∧
    (planEp (ofF c1 c2 d0 d1) stall = 0 ∨ planStage (ofF c1 c2 d0 d1) stall = 3) := by
  refine of_elim (M := fun k => (planStage k stall = 1 → _) ∧ (planStage k stall = 2 → _) ∧ (planJob k = true → planStage k stall = 2 ∧ _) ∧ (planEp k stall = 1 → _) ∧ (planEp k stall = 2 → _) ∧ 0 ≤ planEp k stall ∧ planEp k stall ≤ 2 ∧ (planEp k stall = 0 ∨ planStage k stall = 3)) c1 d0 d1 c2 hc ?_ ?_ ?_ ?_ ?_ ?_ ?_ ?_ ?_ ?_ ?_ ?_ ?_ <;> intros <;> cases stall <;> simp [planStage, planEp, planJob, *] <;> omega

section
variable (c1 d0 d1 : Int) (c2 : Bool) (stall : Bool) (c0 c3 c4 d2 d3 d4 d5 d6 d7 d8 d9 d10 d11 d12 d13 d14 d15 d16 : Value)

theorem casesPhase_ok (hc : 0 ≤ c1) (hc2 : c1 < 4294967296) (hd2 : d1 < 9223372036854775808) :
    PureF Try.prog 5 [.agg #[c0, .int .u32 c1, .bool c2, c3, c4], .agg #[.int .i64 d0, .int .i64 d1, d2, d3, d4, d5, d6, d7, d8, d9, d10, d11, d12, d13, d14, d15, d16], .bool stall] (.bool true) := by
  refine PureF.body Try.func5 rfl (by kernel_rfl) fun B G hm hG => ?_
  have e1 := wrap_i64 (x := c1) (by omega) (by omega)
  have hp := phase_eq c1 d0 d1 c2 hc
  generalize hk : ofF c1 c2 d0 d1 = k at hp
  refine H.sr (by kernel_rfl) ?_
  refine H.seq ?_
  refine H.seq (H.region ?_)
  refine HOp.pure 8 [] (by kernel_rfl) (by kernel_rfl) alive_ok ?_
  refine HOp.ev 1 ?_
  refine HOp.done (by kernel_rfl) ?_
  refine H.condF (by kernel_rfl) ?_
  refine H.skip ?_
  refine H.seq (H.region (HOp.ev 2 ?_))
  refine HOp.pure 9 [.agg #[c0, .int .u32 c1, .bool c2, c3, c4], .agg #[.int .i64 d0, .int .i64 d1, d2, d3, d4, d5, d6, d7, d8, d9, d10, d11, d12, d13, d14, d15, d16]] (by kernel_rfl) (by kernel_rfl) (hk ▸ of_ok (hc := hc) (hc2 := hc2) (hd2 := hd2) ..) ?_
  refine HOp.ev 1 ?_
  refine HOp.pure 11 [.int .i64 k, .bool stall] (by kernel_rfl) (by kernel_rfl) (plan_ok ..) ?_
  refine HOp.ev 2 ?_
  refine HOp.done (by kernel_rfl) ?_
  refine H.seq (H.region (HOp.ev 4 ?_))
  refine HOp.ifd 20 (d1 ≤ 0) (by kernel_rfl) (fun t1 => ?_) (fun t1 => ?_)
  refine HOp.ev 10 ?_
  refine HOp.done (by kernel_rfl) ?_
  refine H.seq (H.region (HOp.ev 4 ?_))
  refine HOp.ife 33 c1 0 (by kernel_rfl) (fun t2 => ?_) (fun t2 => ?_)
  refine HOp.ev 8 ?_
  refine HOp.done (by kernel_rfl) ?_
  refine H.sr (by kernel_rfl) ?_
  refine H.ret ?_
  refine ⟨.v (.bool (planPhase k == false)), by kernel_rfl, ?_⟩
  rotate_left
  refine HOp.ev 8 ?_
  refine HOp.done (by kernel_rfl) ?_
  refine H.sr (by kernel_rfl) ?_
  refine H.ret ?_
  refine ⟨.v (.bool (planPhase k == false)), by kernel_rfl, ?_⟩
  rotate_left
  refine HOp.ev 4 ?_
  refine HOp.ifn 24 d0 1 (by kernel_rfl) (fun t3 => ?_) (fun t3 => ?_)
  refine HOp.ev 6 ?_
  refine HOp.done (by kernel_rfl) ?_
  refine H.seq (H.region (HOp.ev 4 ?_))
  refine HOp.ife 33 c1 0 (by kernel_rfl) (fun t4 => ?_) (fun t4 => ?_)
  refine HOp.ev 8 ?_
  refine HOp.done (by kernel_rfl) ?_
  refine H.seq (H.region (HOp.ev 5 ?_))
  refine HOp.guard 45 (!d0 != 2) (by kernel_rfl) (fun t5 => ?_) (fun t5 => ?_)
  refine HOp.ev 12 ?_
  refine HOp.done (by kernel_rfl) ?_
  refine H.ret ?_
  refine ⟨.v (.bool (planPhase k == true)), by kernel_rfl, ?_⟩
  rotate_left
  refine HOp.ev 12 ?_
  refine HOp.done (by kernel_rfl) ?_
  refine H.ret ?_
  refine ⟨.v (.bool (planPhase k == false)), by kernel_rfl, ?_⟩
  rotate_left
  refine HOp.ev 8 ?_
  refine HOp.done (by kernel_rfl) ?_
  refine H.seq (H.region (HOp.ev 5 ?_))
  refine HOp.guard 45 (!d0 != 2) (by kernel_rfl) (fun t6 => ?_) (fun t6 => ?_)
  refine HOp.ev 2 ?_
  refine HOp.guard 47 (!c2 == (d0 == 1)) (by kernel_rfl) (fun t7 => ?_) (fun t7 => ?_)
  refine HOp.ev 10 ?_
  refine HOp.done (by kernel_rfl) ?_
  refine H.ret ?_
  refine ⟨.v (.bool (planPhase k == true)), by kernel_rfl, ?_⟩
  rotate_left
  refine HOp.ev 10 ?_
  refine HOp.done (by kernel_rfl) ?_
  refine H.ret ?_
  refine ⟨.v (.bool (planPhase k == decide (d1 > IntKind.i64.wrap c1))), by kernel_rfl, ?_⟩
  rotate_left
  refine HOp.ev 12 ?_
  refine HOp.done (by kernel_rfl) ?_
  refine H.ret ?_
  refine ⟨.v (.bool (planPhase k == false)), by kernel_rfl, ?_⟩
  rotate_left
  refine HOp.ev 6 ?_
  refine HOp.done (by kernel_rfl) ?_
  refine H.seq (H.region (HOp.ev 4 ?_))
  refine HOp.ife 33 c1 0 (by kernel_rfl) (fun t8 => ?_) (fun t8 => ?_)
  refine HOp.ev 8 ?_
  refine HOp.done (by kernel_rfl) ?_
  refine H.sr (by kernel_rfl) ?_
  refine H.ret ?_
  refine ⟨.v (.bool (planPhase k == true)), by kernel_rfl, ?_⟩
  rotate_left
  refine HOp.ev 8 ?_
  refine HOp.done (by kernel_rfl) ?_
  refine H.seq (H.region (HOp.ev 7 ?_))
  refine HOp.guard 47 (!c2 == (d0 == 1)) (by kernel_rfl) (fun t9 => ?_) (fun t9 => ?_)
  refine HOp.ev 10 ?_
  refine HOp.done (by kernel_rfl) ?_
  refine H.ret ?_
  refine ⟨.v (.bool (planPhase k == true)), by kernel_rfl, ?_⟩
  rotate_left
  refine HOp.ev 10 ?_
  refine HOp.done (by kernel_rfl) ?_
  refine H.ret ?_
  refine ⟨.v (.bool (planPhase k == decide (d1 > IntKind.i64.wrap c1))), by kernel_rfl, ?_⟩
  rotate_left
  all_goals (refine ret_b ?_; rw [hp]; cases c2 <;> simp_all <;> omega)
theorem casesFit_ok (hc : 0 ≤ c1) (hc2 : c1 < 4294967296) (hd2 : d1 < 9223372036854775808) :
    PureF Try.prog 6 [.agg #[c0, .int .u32 c1, .bool c2, c3, c4], .agg #[.int .i64 d0, .int .i64 d1, d2, d3, d4, d5, d6, d7, d8, d9, d10, d11, d12, d13, d14, d15, d16], .bool stall] (.bool true) := by
  refine PureF.body Try.func6 rfl (by kernel_rfl) fun B G hm hG => ?_
  obtain ⟨f1, f2, f3, f4, f5, f6, f7, f8⟩ := fit_eq c1 d0 d1 c2 stall hc
  generalize hk : ofF c1 c2 d0 d1 = k at *
  have pl := plan_ok k stall
  unfold planV at pl
  generalize planStage k stall = ps at *
  generalize planEp k stall = pe at *
  generalize planJob k = pj at *
  cases c2 <;> cases pj
  · simp only [Bool.true_eq_false, Bool.false_eq_true, false_implies, true_implies, and_true, and_false, true_and, forall_const] at f1 f2 f3 f4 f5
    refine H.sr (by kernel_rfl) ?_
    refine H.seq ?_
    refine H.seq (H.region ?_)
    refine HOp.pure 8 [] (by kernel_rfl) (by kernel_rfl) alive_ok ?_
    refine HOp.ev 1 ?_
    refine HOp.done (by kernel_rfl) ?_
    refine H.condF (by kernel_rfl) ?_
    refine H.skip ?_
    refine H.seq (H.region (HOp.ev 2 ?_))
    refine HOp.pure 9 [.agg #[c0, .int .u32 c1, .bool false, c3, c4], .agg #[.int .i64 d0, .int .i64 d1, d2, d3, d4, d5, d6, d7, d8, d9, d10, d11, d12, d13, d14, d15, d16]] (by kernel_rfl) (by kernel_rfl) (hk ▸ of_ok (hc := hc) (hc2 := hc2) (hd2 := hd2) ..) ?_
    refine HOp.ev 1 ?_
    refine HOp.pure 11 [.int .i64 k, .bool stall] (by kernel_rfl) (by kernel_rfl) pl ?_
    refine HOp.ev 2 ?_
    refine HOp.done (by kernel_rfl) ?_
    refine H.seq ?_
    refine H.seq (H.region (HOp.ev 4 ?_))
    refine HOp.ife 18 ps 1 (by kernel_rfl) (fun t1 => ?_) (fun t1 => ?_)
    refine HOp.ev 4 ?_
    refine HOp.ife 22 c1 0 (by kernel_rfl) (fun t2 => ?_) (fun t2 => ?_)
    omega
    refine HOp.ev 15 ?_
    refine HOp.done (by kernel_rfl) ?_
    refine H.condT (by kernel_rfl) ?_
    refine H.sr (by kernel_rfl) ?_
    refine H.ret ?_
    refine ⟨.v (.bool false), by kernel_rfl, ?_⟩
    rotate_left
    refine HOp.ev 19 ?_
    refine HOp.done (by kernel_rfl) ?_
    refine H.condF (by kernel_rfl) ?_
    refine H.skip ?_
    refine H.seq ?_
    refine H.seq (H.region (HOp.ev 4 ?_))
    refine HOp.ife 41 ps 2 (by kernel_rfl) (fun t3 => ?_) (fun t3 => ?_)
    refine HOp.ev 4 ?_
    refine HOp.ife 45 c1 0 (by kernel_rfl) (fun t4 => ?_) (fun t4 => ?_)
    omega
    refine HOp.ev 8 ?_
    refine HOp.ife 53 d0 1 (by kernel_rfl) (fun t5 => ?_) (fun t5 => ?_)
    refine HOp.ev 6 ?_
    refine HOp.done (by kernel_rfl) ?_
    refine H.ifd (d1 > 0) (by kernel_rfl) (fun t6 => ?_) (fun t6 => ?_)
    omega
    refine H.skip ?_
    refine H.seq ?_
    refine H.sr (by kernel_rfl) ?_
    refine H.condF (by kernel_rfl) ?_
    refine H.skip ?_
    refine H.seq ?_
    refine H.seq (H.region (HOp.ev 4 ?_))
    refine HOp.ife 80 pe 1 (by kernel_rfl) (fun t7 => ?_) (fun t7 => ?_)
    omega
    refine HOp.ev 14 ?_
    refine HOp.ife 94 pe 2 (by kernel_rfl) (fun t8 => ?_) (fun t8 => ?_)
    omega
    refine HOp.ev 9 ?_
    refine HOp.done (by kernel_rfl) ?_
    refine H.condF (by kernel_rfl) ?_
    refine H.skip ?_
    refine H.seq (H.region (HOp.ev 4 ?_))
    refine HOp.ifd 107 (pe ≥ 0) (by kernel_rfl) (fun t9 => ?_) (fun t9 => ?_)
    refine HOp.ev 5 ?_
    refine HOp.ifd 112 (pe ≤ 2) (by kernel_rfl) (fun t10 => ?_) (fun t10 => ?_)
    refine HOp.ev 4 ?_
    refine HOp.ife 116 pe 0 (by kernel_rfl) (fun t11 => ?_) (fun t11 => ?_)
    refine HOp.ev 6 ?_
    refine HOp.done (by kernel_rfl) ?_
    refine H.ret ?_
    refine ⟨.v (.bool true), by kernel_rfl, ?_⟩
    rotate_left
    omega
    omega
    omega
    refine HOp.ev 6 ?_
    refine HOp.done (by kernel_rfl) ?_
    refine H.condF (by kernel_rfl) ?_
    refine H.skip ?_
    refine H.seq ?_
    refine H.sr (by kernel_rfl) ?_
    refine H.condF (by kernel_rfl) ?_
    refine H.skip ?_
    refine H.seq ?_
    refine H.seq (H.region (HOp.ev 4 ?_))
    refine HOp.ife 80 pe 1 (by kernel_rfl) (fun t12 => ?_) (fun t12 => ?_)
    omega
    refine HOp.ev 14 ?_
    refine HOp.ife 94 pe 2 (by kernel_rfl) (fun t13 => ?_) (fun t13 => ?_)
    omega
    refine HOp.ev 9 ?_
    refine HOp.done (by kernel_rfl) ?_
    refine H.condF (by kernel_rfl) ?_
    refine H.skip ?_
    refine H.seq (H.region (HOp.ev 4 ?_))
    refine HOp.ifd 107 (pe ≥ 0) (by kernel_rfl) (fun t14 => ?_) (fun t14 => ?_)
    refine HOp.ev 5 ?_
    refine HOp.ifd 112 (pe ≤ 2) (by kernel_rfl) (fun t15 => ?_) (fun t15 => ?_)
    refine HOp.ev 4 ?_
    refine HOp.ife 116 pe 0 (by kernel_rfl) (fun t16 => ?_) (fun t16 => ?_)
    refine HOp.ev 6 ?_
    refine HOp.done (by kernel_rfl) ?_
    refine H.ret ?_
    refine ⟨.v (.bool true), by kernel_rfl, ?_⟩
    rotate_left
    omega
    omega
    omega
    refine HOp.ev 18 ?_
    refine HOp.done (by kernel_rfl) ?_
    refine H.condF (by kernel_rfl) ?_
    refine H.skip ?_
    refine H.seq ?_
    refine H.sr (by kernel_rfl) ?_
    refine H.condF (by kernel_rfl) ?_
    refine H.skip ?_
    refine H.seq ?_
    refine H.seq (H.region (HOp.ev 4 ?_))
    refine HOp.ife 80 pe 1 (by kernel_rfl) (fun t17 => ?_) (fun t17 => ?_)
    refine HOp.ev 23 ?_
    refine HOp.done (by kernel_rfl) ?_
    refine H.condT (by kernel_rfl) ?_
    refine H.sr (by kernel_rfl) ?_
    refine H.ret ?_
    refine ⟨.v (.bool false), by kernel_rfl, ?_⟩
    rotate_left
    refine HOp.ev 14 ?_
    refine HOp.ife 94 pe 2 (by kernel_rfl) (fun t18 => ?_) (fun t18 => ?_)
    refine HOp.ev 9 ?_
    refine HOp.done (by kernel_rfl) ?_
    refine H.ife c1 0 (by kernel_rfl) (fun t19 => ?_) (fun t19 => ?_)
    omega
    refine H.skip ?_
    refine H.seq (H.region (HOp.ev 4 ?_))
    refine HOp.ifd 107 (pe ≥ 0) (by kernel_rfl) (fun t20 => ?_) (fun t20 => ?_)
    refine HOp.ev 5 ?_
    refine HOp.ifd 112 (pe ≤ 2) (by kernel_rfl) (fun t21 => ?_) (fun t21 => ?_)
    refine HOp.ev 4 ?_
    refine HOp.ife 116 pe 0 (by kernel_rfl) (fun t22 => ?_) (fun t22 => ?_)
    omega
    refine HOp.ev 6 ?_
    refine HOp.done (by kernel_rfl) ?_
    refine H.ret ?_
    refine ⟨.v (.bool (ps == 3)), by kernel_rfl, ?_⟩
    rotate_left
    omega
    omega
    refine HOp.ev 9 ?_
    refine HOp.done (by kernel_rfl) ?_
    refine H.condF (by kernel_rfl) ?_
    refine H.skip ?_
    refine H.seq (H.region (HOp.ev 4 ?_))
    refine HOp.ifd 107 (pe ≥ 0) (by kernel_rfl) (fun t23 => ?_) (fun t23 => ?_)
    refine HOp.ev 5 ?_
    refine HOp.ifd 112 (pe ≤ 2) (by kernel_rfl) (fun t24 => ?_) (fun t24 => ?_)
    refine HOp.ev 4 ?_
    refine HOp.ife 116 pe 0 (by kernel_rfl) (fun t25 => ?_) (fun t25 => ?_)
    refine HOp.ev 6 ?_
    refine HOp.done (by kernel_rfl) ?_
    refine H.ret ?_
    refine ⟨.v (.bool true), by kernel_rfl, ?_⟩
    rotate_left
    omega
    omega
    omega
    all_goals (refine ret_b ?_; simp [*] <;> omega)
  · simp only [Bool.true_eq_false, Bool.false_eq_true, false_implies, true_implies, and_true, and_false, true_and, forall_const] at f1 f2 f3 f4 f5
    refine H.sr (by kernel_rfl) ?_
    refine H.seq ?_
    refine H.seq (H.region ?_)
    refine HOp.pure 8 [] (by kernel_rfl) (by kernel_rfl) alive_ok ?_
    refine HOp.ev 1 ?_
    refine HOp.done (by kernel_rfl) ?_
    refine H.condF (by kernel_rfl) ?_
    refine H.skip ?_
    refine H.seq (H.region (HOp.ev 2 ?_))
    refine HOp.pure 9 [.agg #[c0, .int .u32 c1, .bool false, c3, c4], .agg #[.int .i64 d0, .int .i64 d1, d2, d3, d4, d5, d6, d7, d8, d9, d10, d11, d12, d13, d14, d15, d16]] (by kernel_rfl) (by kernel_rfl) (hk ▸ of_ok (hc := hc) (hc2 := hc2) (hd2 := hd2) ..) ?_
    refine HOp.ev 1 ?_
    refine HOp.pure 11 [.int .i64 k, .bool stall] (by kernel_rfl) (by kernel_rfl) pl ?_
    refine HOp.ev 2 ?_
    refine HOp.done (by kernel_rfl) ?_
    refine H.seq ?_
    refine H.seq (H.region (HOp.ev 4 ?_))
    refine HOp.ife 18 ps 1 (by kernel_rfl) (fun t1 => ?_) (fun t1 => ?_)
    omega
    refine HOp.ev 19 ?_
    refine HOp.done (by kernel_rfl) ?_
    refine H.condF (by kernel_rfl) ?_
    refine H.skip ?_
    refine H.seq ?_
    refine H.seq (H.region (HOp.ev 4 ?_))
    refine HOp.ife 41 ps 2 (by kernel_rfl) (fun t2 => ?_) (fun t2 => ?_)
    refine HOp.ev 4 ?_
    refine HOp.ife 45 c1 0 (by kernel_rfl) (fun t3 => ?_) (fun t3 => ?_)
    omega
    refine HOp.ev 8 ?_
    refine HOp.ife 53 d0 1 (by kernel_rfl) (fun t4 => ?_) (fun t4 => ?_)
    omega
    refine HOp.ev 6 ?_
    refine HOp.done (by kernel_rfl) ?_
    refine H.condF (by kernel_rfl) ?_
    refine H.skip ?_
    refine H.seq ?_
    refine H.seq (H.region (HOp.ev 7 ?_))
    refine HOp.ifn 66 ps 2 (by kernel_rfl) (fun t5 => ?_) (fun t5 => ?_)
    omega
    refine HOp.ev 5 ?_
    refine HOp.ifn 71 d0 2 (by kernel_rfl) (fun t6 => ?_) (fun t6 => ?_)
    omega
    refine HOp.ev 5 ?_
    refine HOp.done (by kernel_rfl) ?_
    refine H.ifd (d1 ≤ 0) (by kernel_rfl) (fun t7 => ?_) (fun t7 => ?_)
    omega
    refine H.skip ?_
    refine H.seq ?_
    refine H.seq (H.region (HOp.ev 4 ?_))
    refine HOp.ife 80 pe 1 (by kernel_rfl) (fun t8 => ?_) (fun t8 => ?_)
    omega
    refine HOp.ev 14 ?_
    refine HOp.ife 94 pe 2 (by kernel_rfl) (fun t9 => ?_) (fun t9 => ?_)
    omega
    refine HOp.ev 9 ?_
    refine HOp.done (by kernel_rfl) ?_
    refine H.condF (by kernel_rfl) ?_
    refine H.skip ?_
    refine H.seq (H.region (HOp.ev 4 ?_))
    refine HOp.ifd 107 (pe ≥ 0) (by kernel_rfl) (fun t10 => ?_) (fun t10 => ?_)
    refine HOp.ev 5 ?_
    refine HOp.ifd 112 (pe ≤ 2) (by kernel_rfl) (fun t11 => ?_) (fun t11 => ?_)
    refine HOp.ev 4 ?_
    refine HOp.ife 116 pe 0 (by kernel_rfl) (fun t12 => ?_) (fun t12 => ?_)
    refine HOp.ev 6 ?_
    refine HOp.done (by kernel_rfl) ?_
    refine H.ret ?_
    refine ⟨.v (.bool true), by kernel_rfl, ?_⟩
    rotate_left
    omega
    omega
    omega
    omega
    all_goals (refine ret_b ?_; simp [*] <;> omega)
  · simp only [Bool.true_eq_false, Bool.false_eq_true, false_implies, true_implies, and_true, and_false, true_and, forall_const] at f1 f2 f3 f4 f5
    refine H.sr (by kernel_rfl) ?_
    refine H.seq ?_
    refine H.seq (H.region ?_)
    refine HOp.pure 8 [] (by kernel_rfl) (by kernel_rfl) alive_ok ?_
    refine HOp.ev 1 ?_
    refine HOp.done (by kernel_rfl) ?_
    refine H.condF (by kernel_rfl) ?_
    refine H.skip ?_
    refine H.seq (H.region (HOp.ev 2 ?_))
    refine HOp.pure 9 [.agg #[c0, .int .u32 c1, .bool true, c3, c4], .agg #[.int .i64 d0, .int .i64 d1, d2, d3, d4, d5, d6, d7, d8, d9, d10, d11, d12, d13, d14, d15, d16]] (by kernel_rfl) (by kernel_rfl) (hk ▸ of_ok (hc := hc) (hc2 := hc2) (hd2 := hd2) ..) ?_
    refine HOp.ev 1 ?_
    refine HOp.pure 11 [.int .i64 k, .bool stall] (by kernel_rfl) (by kernel_rfl) pl ?_
    refine HOp.ev 2 ?_
    refine HOp.done (by kernel_rfl) ?_
    refine H.seq ?_
    refine H.seq (H.region (HOp.ev 4 ?_))
    refine HOp.ife 18 ps 1 (by kernel_rfl) (fun t1 => ?_) (fun t1 => ?_)
    refine HOp.ev 4 ?_
    refine HOp.ife 22 c1 0 (by kernel_rfl) (fun t2 => ?_) (fun t2 => ?_)
    omega
    refine HOp.ev 9 ?_
    refine HOp.ife 31 d0 2 (by kernel_rfl) (fun t3 => ?_) (fun t3 => ?_)
    refine HOp.ev 6 ?_
    refine HOp.done (by kernel_rfl) ?_
    refine H.ifd (d1 > 0) (by kernel_rfl) (fun t4 => ?_) (fun t4 => ?_)
    omega
    refine H.skip ?_
    refine H.seq ?_
    refine H.seq (H.region (HOp.ev 4 ?_))
    refine HOp.ife 41 ps 2 (by kernel_rfl) (fun t5 => ?_) (fun t5 => ?_)
    omega
    refine HOp.ev 18 ?_
    refine HOp.done (by kernel_rfl) ?_
    refine H.condF (by kernel_rfl) ?_
    refine H.skip ?_
    refine H.seq ?_
    refine H.sr (by kernel_rfl) ?_
    refine H.condF (by kernel_rfl) ?_
    refine H.skip ?_
    refine H.seq ?_
    refine H.seq (H.region (HOp.ev 4 ?_))
    refine HOp.ife 80 pe 1 (by kernel_rfl) (fun t6 => ?_) (fun t6 => ?_)
    omega
    refine HOp.ev 14 ?_
    refine HOp.ife 94 pe 2 (by kernel_rfl) (fun t7 => ?_) (fun t7 => ?_)
    omega
    refine HOp.ev 9 ?_
    refine HOp.done (by kernel_rfl) ?_
    refine H.condF (by kernel_rfl) ?_
    refine H.skip ?_
    refine H.seq (H.region (HOp.ev 4 ?_))
    refine HOp.ifd 107 (pe ≥ 0) (by kernel_rfl) (fun t8 => ?_) (fun t8 => ?_)
    refine HOp.ev 5 ?_
    refine HOp.ifd 112 (pe ≤ 2) (by kernel_rfl) (fun t9 => ?_) (fun t9 => ?_)
    refine HOp.ev 4 ?_
    refine HOp.ife 116 pe 0 (by kernel_rfl) (fun t10 => ?_) (fun t10 => ?_)
    refine HOp.ev 6 ?_
    refine HOp.done (by kernel_rfl) ?_
    refine H.ret ?_
    refine ⟨.v (.bool true), by kernel_rfl, ?_⟩
    rotate_left
    omega
    omega
    omega
    refine HOp.ev 6 ?_
    refine HOp.done (by kernel_rfl) ?_
    refine H.condF (by kernel_rfl) ?_
    refine H.skip ?_
    refine H.seq ?_
    refine H.seq (H.region (HOp.ev 4 ?_))
    refine HOp.ife 41 ps 2 (by kernel_rfl) (fun t11 => ?_) (fun t11 => ?_)
    omega
    refine HOp.ev 18 ?_
    refine HOp.done (by kernel_rfl) ?_
    refine H.condF (by kernel_rfl) ?_
    refine H.skip ?_
    refine H.seq ?_
    refine H.sr (by kernel_rfl) ?_
    refine H.condF (by kernel_rfl) ?_
    refine H.skip ?_
    refine H.seq ?_
    refine H.seq (H.region (HOp.ev 4 ?_))
    refine HOp.ife 80 pe 1 (by kernel_rfl) (fun t12 => ?_) (fun t12 => ?_)
    omega
    refine HOp.ev 14 ?_
    refine HOp.ife 94 pe 2 (by kernel_rfl) (fun t13 => ?_) (fun t13 => ?_)
    omega
    refine HOp.ev 9 ?_
    refine HOp.done (by kernel_rfl) ?_
    refine H.condF (by kernel_rfl) ?_
    refine H.skip ?_
    refine H.seq (H.region (HOp.ev 4 ?_))
    refine HOp.ifd 107 (pe ≥ 0) (by kernel_rfl) (fun t14 => ?_) (fun t14 => ?_)
    refine HOp.ev 5 ?_
    refine HOp.ifd 112 (pe ≤ 2) (by kernel_rfl) (fun t15 => ?_) (fun t15 => ?_)
    refine HOp.ev 4 ?_
    refine HOp.ife 116 pe 0 (by kernel_rfl) (fun t16 => ?_) (fun t16 => ?_)
    refine HOp.ev 6 ?_
    refine HOp.done (by kernel_rfl) ?_
    refine H.ret ?_
    refine ⟨.v (.bool true), by kernel_rfl, ?_⟩
    rotate_left
    omega
    omega
    omega
    refine HOp.ev 19 ?_
    refine HOp.done (by kernel_rfl) ?_
    refine H.condF (by kernel_rfl) ?_
    refine H.skip ?_
    refine H.seq ?_
    refine H.seq (H.region (HOp.ev 4 ?_))
    refine HOp.ife 41 ps 2 (by kernel_rfl) (fun t17 => ?_) (fun t17 => ?_)
    refine HOp.ev 4 ?_
    refine HOp.ife 45 c1 0 (by kernel_rfl) (fun t18 => ?_) (fun t18 => ?_)
    omega
    refine HOp.ev 14 ?_
    refine HOp.done (by kernel_rfl) ?_
    refine H.condT (by kernel_rfl) ?_
    refine H.sr (by kernel_rfl) ?_
    refine H.ret ?_
    refine ⟨.v (.bool false), by kernel_rfl, ?_⟩
    rotate_left
    refine HOp.ev 18 ?_
    refine HOp.done (by kernel_rfl) ?_
    refine H.condF (by kernel_rfl) ?_
    refine H.skip ?_
    refine H.seq ?_
    refine H.sr (by kernel_rfl) ?_
    refine H.condF (by kernel_rfl) ?_
    refine H.skip ?_
    refine H.seq ?_
    refine H.seq (H.region (HOp.ev 4 ?_))
    refine HOp.ife 80 pe 1 (by kernel_rfl) (fun t19 => ?_) (fun t19 => ?_)
    refine HOp.ev 10 ?_
    refine HOp.ife 90 c1 0 (by kernel_rfl) (fun t20 => ?_) (fun t20 => ?_)
    omega
    refine HOp.ev 4 ?_
    refine HOp.ife 94 pe 2 (by kernel_rfl) (fun t21 => ?_) (fun t21 => ?_)
    omega
    refine HOp.ev 9 ?_
    refine HOp.done (by kernel_rfl) ?_
    refine H.condF (by kernel_rfl) ?_
    refine H.skip ?_
    refine H.seq (H.region (HOp.ev 4 ?_))
    refine HOp.ifd 107 (pe ≥ 0) (by kernel_rfl) (fun t22 => ?_) (fun t22 => ?_)
    refine HOp.ev 5 ?_
    refine HOp.ifd 112 (pe ≤ 2) (by kernel_rfl) (fun t23 => ?_) (fun t23 => ?_)
    refine HOp.ev 4 ?_
    refine HOp.ife 116 pe 0 (by kernel_rfl) (fun t24 => ?_) (fun t24 => ?_)
    omega
    refine HOp.ev 6 ?_
    refine HOp.done (by kernel_rfl) ?_
    refine H.ret ?_
    refine ⟨.v (.bool (ps == 3)), by kernel_rfl, ?_⟩
    rotate_left
    omega
    omega
    refine HOp.ev 14 ?_
    refine HOp.ife 94 pe 2 (by kernel_rfl) (fun t25 => ?_) (fun t25 => ?_)
    refine HOp.ev 9 ?_
    refine HOp.done (by kernel_rfl) ?_
    refine H.condT (by kernel_rfl) ?_
    refine H.sr (by kernel_rfl) ?_
    refine H.ret ?_
    refine ⟨.v (.bool false), by kernel_rfl, ?_⟩
    rotate_left
    refine HOp.ev 9 ?_
    refine HOp.done (by kernel_rfl) ?_
    refine H.condF (by kernel_rfl) ?_
    refine H.skip ?_
    refine H.seq (H.region (HOp.ev 4 ?_))
    refine HOp.ifd 107 (pe ≥ 0) (by kernel_rfl) (fun t26 => ?_) (fun t26 => ?_)
    refine HOp.ev 5 ?_
    refine HOp.ifd 112 (pe ≤ 2) (by kernel_rfl) (fun t27 => ?_) (fun t27 => ?_)
    refine HOp.ev 4 ?_
    refine HOp.ife 116 pe 0 (by kernel_rfl) (fun t28 => ?_) (fun t28 => ?_)
    refine HOp.ev 6 ?_
    refine HOp.done (by kernel_rfl) ?_
    refine H.ret ?_
    refine ⟨.v (.bool true), by kernel_rfl, ?_⟩
    rotate_left
    omega
    omega
    omega
    all_goals (refine ret_b ?_; simp [*] <;> omega)
  · simp only [Bool.true_eq_false, Bool.false_eq_true, false_implies, true_implies, and_true, and_false, true_and, forall_const] at f1 f2 f3 f4 f5
    refine H.sr (by kernel_rfl) ?_
    refine H.seq ?_
    refine H.seq (H.region ?_)
    refine HOp.pure 8 [] (by kernel_rfl) (by kernel_rfl) alive_ok ?_
    refine HOp.ev 1 ?_
    refine HOp.done (by kernel_rfl) ?_
    refine H.condF (by kernel_rfl) ?_
    refine H.skip ?_
    refine H.seq (H.region (HOp.ev 2 ?_))
    refine HOp.pure 9 [.agg #[c0, .int .u32 c1, .bool true, c3, c4], .agg #[.int .i64 d0, .int .i64 d1, d2, d3, d4, d5, d6, d7, d8, d9, d10, d11, d12, d13, d14, d15, d16]] (by kernel_rfl) (by kernel_rfl) (hk ▸ of_ok (hc := hc) (hc2 := hc2) (hd2 := hd2) ..) ?_
    refine HOp.ev 1 ?_
    refine HOp.pure 11 [.int .i64 k, .bool stall] (by kernel_rfl) (by kernel_rfl) pl ?_
    refine HOp.ev 2 ?_
    refine HOp.done (by kernel_rfl) ?_
    refine H.seq ?_
    refine H.seq (H.region (HOp.ev 4 ?_))
    refine HOp.ife 18 ps 1 (by kernel_rfl) (fun t1 => ?_) (fun t1 => ?_)
    omega
    refine HOp.ev 19 ?_
    refine HOp.done (by kernel_rfl) ?_
    refine H.condF (by kernel_rfl) ?_
    refine H.skip ?_
    refine H.seq ?_
    refine H.seq (H.region (HOp.ev 4 ?_))
    refine HOp.ife 41 ps 2 (by kernel_rfl) (fun t2 => ?_) (fun t2 => ?_)
    refine HOp.ev 4 ?_
    refine HOp.ife 45 c1 0 (by kernel_rfl) (fun t3 => ?_) (fun t3 => ?_)
    omega
    refine HOp.ev 14 ?_
    refine HOp.done (by kernel_rfl) ?_
    refine H.condT (by kernel_rfl) ?_
    refine H.sr (by kernel_rfl) ?_
    refine H.ret ?_
    refine ⟨.v (.bool false), by kernel_rfl, ?_⟩
    rotate_left
    omega
    all_goals (refine ret_b ?_; simp [*] <;> omega)
end
end Go.Proofs.Ytjiebedfibolfaa
