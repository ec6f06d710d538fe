/- The law of each case. -/
import Derived.Test.YtjiebedfibolfaaCD
import Derived.Test.YtjiebedfibolfaaVcAny
namespace Go.Proofs.Ytjiebedfibolfaa
open Go.RowKit Vc

theorem wrap_u32 {x : Int} (h0 : 0 ≤ x) (h1 : x < 4294967296) : IntKind.u32.wrap x = x := by simp only [IntKind.wrap, IntKind.bits, IntKind.signed]; simp; omega
theorem of_is {k c1 d0 d1 : Int} {c2 : Bool} (h : ofF c1 c2 d0 d1 = k) {c0 c3 c4 d2 d3 d4 d5 d6 d7 d8 d9 d10 d11 d12 d13 d14 d15 d16 : Value} (hc : 0 ≤ c1) (hc2 : c1 < 4294967296) (hd2 : d1 < 9223372036854775808) :
    PureF Try.prog 9 [.agg #[c0, .int .u32 c1, .bool c2, c3, c4], .agg #[.int .i64 d0, .int .i64 d1, d2, d3, d4, d5, d6, d7, d8, d9, d10, d11, d12, d13, d14, d15, d16]] (.int .i64 k) := h ▸ of_ok (hc := hc) (hc2 := hc2) (hd2 := hd2) ..
theorem in_ok (x : Int) : PureF Try.prog 13 [.int .i64 x] (.agg #[.int .i64 1, .int .i64 x, .slice none 0 0, .int .i64 0, .int .u64 0, .int .i64 0, .int .i64 0, .int .i64 0, .int .i64 0, .int .i64 0, .slice none 0 0, .int .i64 0, .int .i64 0, .int .i64 0, .int .i64 0, .int .i64 0, .int .i64 0]) := by
  refine PureF.body Try.func13 rfl (by kernel_rfl) fun B G hm hG => ?_
  refine H.sr (by kernel_rfl) ?_
  refine H.sr (by kernel_rfl) ?_
  refine H.ret ?_
  refine ⟨.ag [.v (.int .i64 1), .v (.int .i64 x), .v (.slice none 0 0), .v (.int .i64 0), .v (.int .u64 0), .v (.int .i64 0), .v (.int .i64 0), .v (.int .i64 0), .v (.int .i64 0), .v (.int .i64 0), .v (.slice none 0 0), .v (.int .i64 0), .v (.int .i64 0), .v (.int .i64 0), .v (.int .i64 0), .v (.int .i64 0), .v (.int .i64 0)], by kernel_rfl, ?_⟩
  rotate_left
  all_goals rfl
theorem out_ok (x : Int) : PureF Try.prog 14 [.int .i64 x] (.agg #[.int .i64 2, .int .i64 x, .slice none 0 0, .int .i64 0, .int .u64 0, .int .i64 0, .int .i64 0, .int .i64 0, .int .i64 0, .int .i64 0, .slice none 0 0, .int .i64 0, .int .i64 0, .int .i64 0, .int .i64 0, .int .i64 0, .int .i64 0]) := by
  refine PureF.body Try.func14 rfl (by kernel_rfl) fun B G hm hG => ?_
  refine H.sr (by kernel_rfl) ?_
  refine H.sr (by kernel_rfl) ?_
  refine H.ret ?_
  refine ⟨.ag [.v (.int .i64 2), .v (.int .i64 x), .v (.slice none 0 0), .v (.int .i64 0), .v (.int .u64 0), .v (.int .i64 0), .v (.int .i64 0), .v (.int .i64 0), .v (.int .i64 0), .v (.int .i64 0), .v (.slice none 0 0), .v (.int .i64 0), .v (.int .i64 0), .v (.int .i64 0), .v (.int .i64 0), .v (.int .i64 0), .v (.int .i64 0)], by kernel_rfl, ?_⟩
  rotate_left
  all_goals rfl
theorem casesEach_ok (k n m : Int) (hk1 : 0 ≤ k) (hk2 : k < 256) (h1 : 0 ≤ n) (h2 : n < 65536) (h3 : 0 ≤ m) (h4 : m < 65536) :
    PureF Try.prog 7 [.int .u8 k, .int .u16 n, .int .u16 m] (.bool true) := by
  refine PureF.body Try.func7 rfl (by kernel_rfl) fun B G hm hG => ?_
  refine H.sr (by kernel_rfl) ?_
  refine H.seq ?_
  refine H.seq (H.region ?_)
  refine HOp.pure 8 [] (by kernel_rfl) (by kernel_rfl) alive_ok ?_
  refine HOp.ev 1 ?_
  refine HOp.done (by kernel_rfl) ?_
  refine H.condF (by kernel_rfl) ?_
  refine H.skip ?_
  refine H.sr (by kernel_rfl) ?_
  refine H.sr (by kernel_rfl) ?_
  -- STATE ⟨124, [(10, .lp 1 0), (9, .lp 0 0), (24, .v (.agg #[.int .u32 0, .int .u32 (IntKind.u32.wrap (IntKind.i64.wrap (1 + IntKind.i64.wrap n))), .bool true, .int .i64 0, .slice none 0 0])), (23, .v (.int .u32 (IntKind.u32.wrap (IntKind.i64.wrap (1 + IntKind.i64.wrap n))))), (22, .v (.int .i64 (IntKind.i64.wrap (1 + IntKind.i64.wrap n)))), (21, .v (.agg #[.int .u32 0, .int .u32 (IntKind.u32.wrap (IntKind.i64.wrap (1 + IntKind.i64.wrap n))), .bool false, .int .i64 0, .slice none 0 0])), (20, .v (.int .u32 (IntKind.u32.wrap (IntKind.i64.wrap (1 + IntKind.i64.wrap n))))), (19, .v (.int .i64 (IntKind.i64.wrap (1 + IntKind.i64.wrap n)))), (8, .v (.int .i64 (IntKind.i64.wrap (1 + IntKind.i64.wrap m)))), (7, .v (.int .i64 (IntKind.i64.wrap (1 + IntKind.i64.wrap n)))), (18, .v (.int .i64 (IntKind.i64.wrap (1 + IntKind.i64.wrap m)))), (17, .v (.int .i64 (IntKind.i64.wrap m))), (16, .v (.int .u16 m)), (15, .v (.int .i64 (IntKind.i64.wrap (1 + IntKind.i64.wrap n)))), (14, .v (.int .i64 (IntKind.i64.wrap n))), (13, .v (.int .u16 n)), (12, .v (.bool false)), (11, .v (.bool true)), (6, .v (.bool false)), (0, .v (.int .u8 k)), (1, .v (.int .u16 n)), (2, .v (.int .u16 m))], [⟨[.v (.int .u32 0), .v (.int .u32 (IntKind.u32.wrap (IntKind.i64.wrap (1 + IntKind.i64.wrap n)))), .v (.bool false), .v (.int .i64 0), .v (.slice none 0 0)], 25⟩, ⟨[.v (.int .u32 0), .v (.int .u32 (IntKind.u32.wrap (IntKind.i64.wrap (1 + IntKind.i64.wrap n)))), .v (.bool true), .v (.int .i64 0), .v (.slice none 0 0)], 25⟩]⟩
  refine H.le ⟨124, [(0, .v (.int .u8 k)), (6, .v (.bool false)), (7, .v (.int .i64 (IntKind.i64.wrap (1 + IntKind.i64.wrap n)))), (8, .v (.int .i64 (IntKind.i64.wrap (1 + IntKind.i64.wrap m)))), (9, .lp 0 0), (10, .lp 1 0)], [⟨[.v (.int .u32 0), .v (.int .u32 (IntKind.u32.wrap (IntKind.i64.wrap (1 + IntKind.i64.wrap n)))), .v (.bool false), .v (.int .i64 0), .v (.slice none 0 0)], 25⟩, ⟨[.v (.int .u32 0), .v (.int .u32 (IntKind.u32.wrap (IntKind.i64.wrap (1 + IntKind.i64.wrap n)))), .v (.bool true), .v (.int .i64 0), .v (.slice none 0 0)], 25⟩]⟩ (by rw [hm]; exact Nat.zero_le _) (by kernel_rfl) ?_
  have w1 := wrap_i64 (x := n) (by omega) (by omega)
  have w2 := wrap_i64 (x := m) (by omega) (by omega)
  have a1 : IntKind.i64.wrap (1 + IntKind.i64.wrap n) = 1 + n := by rw [w1]; exact wrap_i64 (by omega) (by omega)
  have b1 : IntKind.i64.wrap (1 + IntKind.i64.wrap m) = 1 + m := by rw [w2]; exact wrap_i64 (by omega) (by omega)
  have u1 : IntKind.u32.wrap (IntKind.i64.wrap (1 + IntKind.i64.wrap n)) = 1 + n := by rw [a1]; exact wrap_u32 (by omega) (by omega)
  generalize IntKind.u32.wrap (IntKind.i64.wrap (1 + IntKind.i64.wrap n)) = A at *
  generalize IntKind.i64.wrap (1 + IntKind.i64.wrap n) = a at *
  generalize IntKind.i64.wrap (1 + IntKind.i64.wrap m) = b at *
  have s1 : IntKind.i64.wrap (a + b) = a + b := wrap_i64 (by omega) (by omega)
  have u2 : IntKind.u32.wrap (IntKind.i64.wrap (a + b)) = a + b := by rw [s1]; exact wrap_u32 (by omega) (by omega)
  have o1 : ofF 0 true 0 0 = 1 := rfl
  have o2 : ofF 0 false 1 a = 2 := by (try rw [u2]); (try rw [s1]); simp only [ofF, meansF, thirdF, if_true, Bool.false_eq_true, if_false]; (repeat' split) <;> omega
  have o3 : ofF 0 true 2 a = 3 := by (try rw [u2]); (try rw [s1]); simp only [ofF, meansF, thirdF, if_true, Bool.false_eq_true, if_false]; (repeat' split) <;> omega
  have o4 : ofF A true 0 0 = 4 := by (try rw [u2]); (try rw [s1]); simp only [ofF, meansF, thirdF, if_true, Bool.false_eq_true, if_false]; (repeat' split) <;> omega
  have o5 : ofF (IntKind.u32.wrap (IntKind.i64.wrap (a + b))) true 1 a = 5 := by (try rw [u2]); (try rw [s1]); simp only [ofF, meansF, thirdF, if_true, Bool.false_eq_true, if_false]; (repeat' split) <;> omega
  have o6 : ofF A true 1 a = 6 := by (try rw [u2]); (try rw [s1]); simp only [ofF, meansF, thirdF, if_true, Bool.false_eq_true, if_false]; (repeat' split) <;> omega
  have o7 : ofF A true 1 (IntKind.i64.wrap (a + b)) = 7 := by (try rw [u2]); (try rw [s1]); simp only [ofF, meansF, thirdF, if_true, Bool.false_eq_true, if_false]; (repeat' split) <;> omega
  have o8 : ofF A true 2 b = 8 := by (try rw [u2]); (try rw [s1]); simp only [ofF, meansF, thirdF, if_true, Bool.false_eq_true, if_false]; (repeat' split) <;> omega
  have o9 : ofF A false 0 0 = 9 := by (try rw [u2]); (try rw [s1]); simp only [ofF, meansF, thirdF, if_true, Bool.false_eq_true, if_false]; (repeat' split) <;> omega
  have o10 : ofF A false 1 b = 10 := by (try rw [u2]); (try rw [s1]); simp only [ofF, meansF, thirdF, if_true, Bool.false_eq_true, if_false]; (repeat' split) <;> omega
  have o11 : ofF (IntKind.u32.wrap (IntKind.i64.wrap (a + b))) false 2 a = 11 := by (try rw [u2]); (try rw [s1]); simp only [ofF, meansF, thirdF, if_true, Bool.false_eq_true, if_false]; (repeat' split) <;> omega
  have o12 : ofF A false 2 a = 12 := by (try rw [u2]); (try rw [s1]); simp only [ofF, meansF, thirdF, if_true, Bool.false_eq_true, if_false]; (repeat' split) <;> omega
  have o13 : ofF A false 2 (IntKind.i64.wrap (a + b)) = 13 := by (try rw [u2]); (try rw [s1]); simp only [ofF, meansF, thirdF, if_true, Bool.false_eq_true, if_false]; (repeat' split) <;> omega
  refine H.seq ?_
  refine H.seq (H.region (HOp.ev 4 ?_))
  refine HOp.ife 28 (k.tmod 2) 0 (by kernel_rfl) (fun t1 => ?_) (fun t1 => ?_)
  refine HOp.ev 2 ?_
  refine HOp.pure 9 [.agg #[.int .u32 0, .int .u32 0, .bool true, .int .i64 0, .slice none 0 0], .agg #[.int .i64 0, .int .i64 0, .slice none 0 0, .int .i64 0, .int .u64 0, .int .i64 0, .int .i64 0, .int .i64 0, .int .i64 0, .int .i64 0, .slice none 0 0, .int .i64 0, .int .i64 0, .int .i64 0, .int .i64 0, .int .i64 0, .int .i64 0]] (by kernel_rfl) (by kernel_rfl) (of_is o1 (by omega) (by omega) (by omega)) ?_
  refine HOp.ev 4 ?_
  refine HOp.pure 13 [.int .i64 a] (by kernel_rfl) (by kernel_rfl) (in_ok ..) ?_
  refine HOp.pure 9 [.agg #[.int .u32 0, .int .u32 0, .bool false, .int .i64 0, .slice none 0 0], .agg #[.int .i64 1, .int .i64 a, .slice none 0 0, .int .i64 0, .int .u64 0, .int .i64 0, .int .i64 0, .int .i64 0, .int .i64 0, .int .i64 0, .slice none 0 0, .int .i64 0, .int .i64 0, .int .i64 0, .int .i64 0, .int .i64 0, .int .i64 0]] (by kernel_rfl) (by kernel_rfl) (of_is o2 (by omega) (by omega) (by omega)) ?_
  refine HOp.ev 5 ?_
  refine HOp.pure 14 [.int .i64 a] (by kernel_rfl) (by kernel_rfl) (out_ok ..) ?_
  refine HOp.pure 9 [.agg #[.int .u32 0, .int .u32 0, .bool true, .int .i64 0, .slice none 0 0], .agg #[.int .i64 2, .int .i64 a, .slice none 0 0, .int .i64 0, .int .u64 0, .int .i64 0, .int .i64 0, .int .i64 0, .int .i64 0, .int .i64 0, .slice none 0 0, .int .i64 0, .int .i64 0, .int .i64 0, .int .i64 0, .int .i64 0, .int .i64 0]] (by kernel_rfl) (by kernel_rfl) (of_is o3 (by omega) (by omega) (by omega)) ?_
  refine HOp.ev 3 ?_
  refine HOp.done (by kernel_rfl) ?_
  refine H.condF (by kernel_rfl) ?_
  refine H.skip ?_
  refine H.seq ?_
  refine H.seq (Vir.draw [0, 1, 3, 4, 5, 6, 7, 8, 9, 10, 13, 14, 15, 16, 17, 20, 21, 22, 23, 24, 25, 26, 29, 30, 31, 32, 33, 36, 37] (by kernel_rfl) (by kernel_rfl) ?_)
  refine Vir.ev (by kernel_rfl) [0, 1] ?_
  refine Vir.pure (by kernel_rfl) 2 9 [.agg #[.int .u32 0, .int .u32 A, .bool true, .int .i64 0, .slice none 0 0], .agg #[.int .i64 0, .int .i64 0, .slice none 0 0, .int .i64 0, .int .u64 0, .int .i64 0, .int .i64 0, .int .i64 0, .int .i64 0, .int .i64 0, .slice none 0 0, .int .i64 0, .int .i64 0, .int .i64 0, .int .i64 0, .int .i64 0, .int .i64 0]] (by kernel_rfl) (by kernel_rfl) (by kernel_rfl) (of_is o4 (by omega) (by omega) (by omega)) (by kernel_rfl) (by kernel_rfl) ?_
  refine Vir.ev (by kernel_rfl) [3, 4, 5, 6, 7, 8, 9, 10] ?_
  refine Vir.pure (by kernel_rfl) 11 13 [.int .i64 a] (by kernel_rfl) (by kernel_rfl) (by kernel_rfl) (in_ok ..) (by kernel_rfl) (by kernel_rfl) ?_
  refine Vir.pure (by kernel_rfl) 12 9 [.agg #[.int .u32 0, .int .u32 (IntKind.u32.wrap (IntKind.i64.wrap (a + b))), .bool true, .int .i64 0, .slice none 0 0], .agg #[.int .i64 1, .int .i64 a, .slice none 0 0, .int .i64 0, .int .u64 0, .int .i64 0, .int .i64 0, .int .i64 0, .int .i64 0, .int .i64 0, .slice none 0 0, .int .i64 0, .int .i64 0, .int .i64 0, .int .i64 0, .int .i64 0, .int .i64 0]] (by kernel_rfl) (by kernel_rfl) (by kernel_rfl) (of_is o5 (by omega) (by omega) (by omega)) (by kernel_rfl) (by kernel_rfl) ?_
  refine Vir.ev (by kernel_rfl) [13, 14, 15, 16, 17] ?_
  refine Vir.pure (by kernel_rfl) 18 13 [.int .i64 a] (by kernel_rfl) (by kernel_rfl) (by kernel_rfl) (in_ok ..) (by kernel_rfl) (by kernel_rfl) ?_
  refine Vir.pure (by kernel_rfl) 19 9 [.agg #[.int .u32 0, .int .u32 A, .bool true, .int .i64 0, .slice none 0 0], .agg #[.int .i64 1, .int .i64 a, .slice none 0 0, .int .i64 0, .int .u64 0, .int .i64 0, .int .i64 0, .int .i64 0, .int .i64 0, .int .i64 0, .slice none 0 0, .int .i64 0, .int .i64 0, .int .i64 0, .int .i64 0, .int .i64 0, .int .i64 0]] (by kernel_rfl) (by kernel_rfl) (by kernel_rfl) (of_is o6 (by omega) (by omega) (by omega)) (by kernel_rfl) (by kernel_rfl) ?_
  refine Vir.ev (by kernel_rfl) [20, 21, 22, 23, 24, 25, 26] ?_
  refine Vir.pure (by kernel_rfl) 27 13 [.int .i64 (IntKind.i64.wrap (a + b))] (by kernel_rfl) (by kernel_rfl) (by kernel_rfl) (in_ok ..) (by kernel_rfl) (by kernel_rfl) ?_
  refine Vir.pure (by kernel_rfl) 28 9 [.agg #[.int .u32 0, .int .u32 A, .bool true, .int .i64 0, .slice none 0 0], .agg #[.int .i64 1, .int .i64 (IntKind.i64.wrap (a + b)), .slice none 0 0, .int .i64 0, .int .u64 0, .int .i64 0, .int .i64 0, .int .i64 0, .int .i64 0, .int .i64 0, .slice none 0 0, .int .i64 0, .int .i64 0, .int .i64 0, .int .i64 0, .int .i64 0, .int .i64 0]] (by kernel_rfl) (by kernel_rfl) (by kernel_rfl) (of_is o7 (by omega) (by omega) (by omega)) (by kernel_rfl) (by kernel_rfl) ?_
  refine Vir.ev (by kernel_rfl) [29, 30, 31, 32, 33] ?_
  refine Vir.pure (by kernel_rfl) 34 14 [.int .i64 b] (by kernel_rfl) (by kernel_rfl) (by kernel_rfl) (out_ok ..) (by kernel_rfl) (by kernel_rfl) ?_
  refine Vir.pure (by kernel_rfl) 35 9 [.agg #[.int .u32 0, .int .u32 A, .bool true, .int .i64 0, .slice none 0 0], .agg #[.int .i64 2, .int .i64 b, .slice none 0 0, .int .i64 0, .int .u64 0, .int .i64 0, .int .i64 0, .int .i64 0, .int .i64 0, .int .i64 0, .slice none 0 0, .int .i64 0, .int .i64 0, .int .i64 0, .int .i64 0, .int .i64 0, .int .i64 0]] (by kernel_rfl) (by kernel_rfl) (by kernel_rfl) (of_is o8 (by omega) (by omega) (by omega)) (by kernel_rfl) (by kernel_rfl) ?_
  refine Vir.ev (by kernel_rfl) [36, 37] ?_
  refine Vir.fin (by kernel_rfl) (by kernel_rfl) ?_
  refine H.condF (by kernel_rfl) ?_
  refine H.skip ?_
  refine H.seq (Vir.draw [0, 1, 3, 4, 5, 6, 9, 10, 11, 12, 13, 14, 15, 16, 17, 20, 21, 22, 23, 24, 27, 28, 29, 30, 31, 32, 33, 36, 37, 38] (by kernel_rfl) (by kernel_rfl) ?_)
  refine Vir.ev (by kernel_rfl) [0, 1] ?_
  refine Vir.pure (by kernel_rfl) 2 9 [.agg #[.int .u32 0, .int .u32 A, .bool false, .int .i64 0, .slice none 0 0], .agg #[.int .i64 0, .int .i64 0, .slice none 0 0, .int .i64 0, .int .u64 0, .int .i64 0, .int .i64 0, .int .i64 0, .int .i64 0, .int .i64 0, .slice none 0 0, .int .i64 0, .int .i64 0, .int .i64 0, .int .i64 0, .int .i64 0, .int .i64 0]] (by kernel_rfl) (by kernel_rfl) (by kernel_rfl) (of_is o9 (by omega) (by omega) (by omega)) (by kernel_rfl) (by kernel_rfl) ?_
  refine Vir.ev (by kernel_rfl) [3, 4, 5, 6] ?_
  refine Vir.pure (by kernel_rfl) 7 13 [.int .i64 b] (by kernel_rfl) (by kernel_rfl) (by kernel_rfl) (in_ok ..) (by kernel_rfl) (by kernel_rfl) ?_
  refine Vir.pure (by kernel_rfl) 8 9 [.agg #[.int .u32 0, .int .u32 A, .bool false, .int .i64 0, .slice none 0 0], .agg #[.int .i64 1, .int .i64 b, .slice none 0 0, .int .i64 0, .int .u64 0, .int .i64 0, .int .i64 0, .int .i64 0, .int .i64 0, .int .i64 0, .slice none 0 0, .int .i64 0, .int .i64 0, .int .i64 0, .int .i64 0, .int .i64 0, .int .i64 0]] (by kernel_rfl) (by kernel_rfl) (by kernel_rfl) (of_is o10 (by omega) (by omega) (by omega)) (by kernel_rfl) (by kernel_rfl) ?_
  refine Vir.ev (by kernel_rfl) [9, 10, 11, 12, 13, 14, 15, 16, 17] ?_
  refine Vir.pure (by kernel_rfl) 18 14 [.int .i64 a] (by kernel_rfl) (by kernel_rfl) (by kernel_rfl) (out_ok ..) (by kernel_rfl) (by kernel_rfl) ?_
  refine Vir.pure (by kernel_rfl) 19 9 [.agg #[.int .u32 0, .int .u32 (IntKind.u32.wrap (IntKind.i64.wrap (a + b))), .bool false, .int .i64 0, .slice none 0 0], .agg #[.int .i64 2, .int .i64 a, .slice none 0 0, .int .i64 0, .int .u64 0, .int .i64 0, .int .i64 0, .int .i64 0, .int .i64 0, .int .i64 0, .slice none 0 0, .int .i64 0, .int .i64 0, .int .i64 0, .int .i64 0, .int .i64 0, .int .i64 0]] (by kernel_rfl) (by kernel_rfl) (by kernel_rfl) (of_is o11 (by omega) (by omega) (by omega)) (by kernel_rfl) (by kernel_rfl) ?_
  refine Vir.ev (by kernel_rfl) [20, 21, 22, 23, 24] ?_
  refine Vir.pure (by kernel_rfl) 25 14 [.int .i64 a] (by kernel_rfl) (by kernel_rfl) (by kernel_rfl) (out_ok ..) (by kernel_rfl) (by kernel_rfl) ?_
  refine Vir.pure (by kernel_rfl) 26 9 [.agg #[.int .u32 0, .int .u32 A, .bool false, .int .i64 0, .slice none 0 0], .agg #[.int .i64 2, .int .i64 a, .slice none 0 0, .int .i64 0, .int .u64 0, .int .i64 0, .int .i64 0, .int .i64 0, .int .i64 0, .int .i64 0, .slice none 0 0, .int .i64 0, .int .i64 0, .int .i64 0, .int .i64 0, .int .i64 0, .int .i64 0]] (by kernel_rfl) (by kernel_rfl) (by kernel_rfl) (of_is o12 (by omega) (by omega) (by omega)) (by kernel_rfl) (by kernel_rfl) ?_
  refine Vir.ev (by kernel_rfl) [27, 28, 29, 30, 31, 32, 33] ?_
  refine Vir.pure (by kernel_rfl) 34 14 [.int .i64 (IntKind.i64.wrap (a + b))] (by kernel_rfl) (by kernel_rfl) (by kernel_rfl) (out_ok ..) (by kernel_rfl) (by kernel_rfl) ?_
  refine Vir.pure (by kernel_rfl) 35 9 [.agg #[.int .u32 0, .int .u32 A, .bool false, .int .i64 0, .slice none 0 0], .agg #[.int .i64 2, .int .i64 (IntKind.i64.wrap (a + b)), .slice none 0 0, .int .i64 0, .int .u64 0, .int .i64 0, .int .i64 0, .int .i64 0, .int .i64 0, .int .i64 0, .slice none 0 0, .int .i64 0, .int .i64 0, .int .i64 0, .int .i64 0, .int .i64 0, .int .i64 0]] (by kernel_rfl) (by kernel_rfl) (by kernel_rfl) (of_is o13 (by omega) (by omega) (by omega)) (by kernel_rfl) (by kernel_rfl) ?_
  refine Vir.ev (by kernel_rfl) [36, 37, 38] ?_
  refine Vir.fin (by kernel_rfl) (by kernel_rfl) ?_
  refine H.ret ?_
  refine ⟨.v (.bool true), by kernel_rfl, ?_⟩
  rotate_left
  refine HOp.ev 19 ?_
  refine HOp.done (by kernel_rfl) ?_
  refine H.condF (by kernel_rfl) ?_
  refine H.skip ?_
  refine H.seq ?_
  refine H.seq (Vir.draw [0, 1, 3, 4, 5, 6, 7, 8, 9, 10, 13, 14, 15, 16, 17, 20, 21, 22, 23, 24, 25, 26, 29, 30, 31, 32, 33, 36, 37] (by kernel_rfl) (by kernel_rfl) ?_)
  refine Vir.ev (by kernel_rfl) [0, 1] ?_
  refine Vir.pure (by kernel_rfl) 2 9 [.agg #[.int .u32 0, .int .u32 A, .bool true, .int .i64 0, .slice none 0 0], .agg #[.int .i64 0, .int .i64 0, .slice none 0 0, .int .i64 0, .int .u64 0, .int .i64 0, .int .i64 0, .int .i64 0, .int .i64 0, .int .i64 0, .slice none 0 0, .int .i64 0, .int .i64 0, .int .i64 0, .int .i64 0, .int .i64 0, .int .i64 0]] (by kernel_rfl) (by kernel_rfl) (by kernel_rfl) (of_is o4 (by omega) (by omega) (by omega)) (by kernel_rfl) (by kernel_rfl) ?_
  refine Vir.ev (by kernel_rfl) [3, 4, 5, 6, 7, 8, 9, 10] ?_
  refine Vir.pure (by kernel_rfl) 11 13 [.int .i64 a] (by kernel_rfl) (by kernel_rfl) (by kernel_rfl) (in_ok ..) (by kernel_rfl) (by kernel_rfl) ?_
  refine Vir.pure (by kernel_rfl) 12 9 [.agg #[.int .u32 0, .int .u32 (IntKind.u32.wrap (IntKind.i64.wrap (a + b))), .bool true, .int .i64 0, .slice none 0 0], .agg #[.int .i64 1, .int .i64 a, .slice none 0 0, .int .i64 0, .int .u64 0, .int .i64 0, .int .i64 0, .int .i64 0, .int .i64 0, .int .i64 0, .slice none 0 0, .int .i64 0, .int .i64 0, .int .i64 0, .int .i64 0, .int .i64 0, .int .i64 0]] (by kernel_rfl) (by kernel_rfl) (by kernel_rfl) (of_is o5 (by omega) (by omega) (by omega)) (by kernel_rfl) (by kernel_rfl) ?_
  refine Vir.ev (by kernel_rfl) [13, 14, 15, 16, 17] ?_
  refine Vir.pure (by kernel_rfl) 18 13 [.int .i64 a] (by kernel_rfl) (by kernel_rfl) (by kernel_rfl) (in_ok ..) (by kernel_rfl) (by kernel_rfl) ?_
  refine Vir.pure (by kernel_rfl) 19 9 [.agg #[.int .u32 0, .int .u32 A, .bool true, .int .i64 0, .slice none 0 0], .agg #[.int .i64 1, .int .i64 a, .slice none 0 0, .int .i64 0, .int .u64 0, .int .i64 0, .int .i64 0, .int .i64 0, .int .i64 0, .int .i64 0, .slice none 0 0, .int .i64 0, .int .i64 0, .int .i64 0, .int .i64 0, .int .i64 0, .int .i64 0]] (by kernel_rfl) (by kernel_rfl) (by kernel_rfl) (of_is o6 (by omega) (by omega) (by omega)) (by kernel_rfl) (by kernel_rfl) ?_
  refine Vir.ev (by kernel_rfl) [20, 21, 22, 23, 24, 25, 26] ?_
  refine Vir.pure (by kernel_rfl) 27 13 [.int .i64 (IntKind.i64.wrap (a + b))] (by kernel_rfl) (by kernel_rfl) (by kernel_rfl) (in_ok ..) (by kernel_rfl) (by kernel_rfl) ?_
  refine Vir.pure (by kernel_rfl) 28 9 [.agg #[.int .u32 0, .int .u32 A, .bool true, .int .i64 0, .slice none 0 0], .agg #[.int .i64 1, .int .i64 (IntKind.i64.wrap (a + b)), .slice none 0 0, .int .i64 0, .int .u64 0, .int .i64 0, .int .i64 0, .int .i64 0, .int .i64 0, .int .i64 0, .slice none 0 0, .int .i64 0, .int .i64 0, .int .i64 0, .int .i64 0, .int .i64 0, .int .i64 0]] (by kernel_rfl) (by kernel_rfl) (by kernel_rfl) (of_is o7 (by omega) (by omega) (by omega)) (by kernel_rfl) (by kernel_rfl) ?_
  refine Vir.ev (by kernel_rfl) [29, 30, 31, 32, 33] ?_
  refine Vir.pure (by kernel_rfl) 34 14 [.int .i64 b] (by kernel_rfl) (by kernel_rfl) (by kernel_rfl) (out_ok ..) (by kernel_rfl) (by kernel_rfl) ?_
  refine Vir.pure (by kernel_rfl) 35 9 [.agg #[.int .u32 0, .int .u32 A, .bool true, .int .i64 0, .slice none 0 0], .agg #[.int .i64 2, .int .i64 b, .slice none 0 0, .int .i64 0, .int .u64 0, .int .i64 0, .int .i64 0, .int .i64 0, .int .i64 0, .int .i64 0, .slice none 0 0, .int .i64 0, .int .i64 0, .int .i64 0, .int .i64 0, .int .i64 0, .int .i64 0]] (by kernel_rfl) (by kernel_rfl) (by kernel_rfl) (of_is o8 (by omega) (by omega) (by omega)) (by kernel_rfl) (by kernel_rfl) ?_
  refine Vir.ev (by kernel_rfl) [36, 37] ?_
  refine Vir.fin (by kernel_rfl) (by kernel_rfl) ?_
  refine H.condF (by kernel_rfl) ?_
  refine H.skip ?_
  refine H.seq (Vir.draw [0, 1, 3, 4, 5, 6, 9, 10, 11, 12, 13, 14, 15, 16, 17, 20, 21, 22, 23, 24, 27, 28, 29, 30, 31, 32, 33, 36, 37, 38] (by kernel_rfl) (by kernel_rfl) ?_)
  refine Vir.ev (by kernel_rfl) [0, 1] ?_
  refine Vir.pure (by kernel_rfl) 2 9 [.agg #[.int .u32 0, .int .u32 A, .bool false, .int .i64 0, .slice none 0 0], .agg #[.int .i64 0, .int .i64 0, .slice none 0 0, .int .i64 0, .int .u64 0, .int .i64 0, .int .i64 0, .int .i64 0, .int .i64 0, .int .i64 0, .slice none 0 0, .int .i64 0, .int .i64 0, .int .i64 0, .int .i64 0, .int .i64 0, .int .i64 0]] (by kernel_rfl) (by kernel_rfl) (by kernel_rfl) (of_is o9 (by omega) (by omega) (by omega)) (by kernel_rfl) (by kernel_rfl) ?_
  refine Vir.ev (by kernel_rfl) [3, 4, 5, 6] ?_
  refine Vir.pure (by kernel_rfl) 7 13 [.int .i64 b] (by kernel_rfl) (by kernel_rfl) (by kernel_rfl) (in_ok ..) (by kernel_rfl) (by kernel_rfl) ?_
  refine Vir.pure (by kernel_rfl) 8 9 [.agg #[.int .u32 0, .int .u32 A, .bool false, .int .i64 0, .slice none 0 0], .agg #[.int .i64 1, .int .i64 b, .slice none 0 0, .int .i64 0, .int .u64 0, .int .i64 0, .int .i64 0, .int .i64 0, .int .i64 0, .int .i64 0, .slice none 0 0, .int .i64 0, .int .i64 0, .int .i64 0, .int .i64 0, .int .i64 0, .int .i64 0]] (by kernel_rfl) (by kernel_rfl) (by kernel_rfl) (of_is o10 (by omega) (by omega) (by omega)) (by kernel_rfl) (by kernel_rfl) ?_
  refine Vir.ev (by kernel_rfl) [9, 10, 11, 12, 13, 14, 15, 16, 17] ?_
  refine Vir.pure (by kernel_rfl) 18 14 [.int .i64 a] (by kernel_rfl) (by kernel_rfl) (by kernel_rfl) (out_ok ..) (by kernel_rfl) (by kernel_rfl) ?_
  refine Vir.pure (by kernel_rfl) 19 9 [.agg #[.int .u32 0, .int .u32 (IntKind.u32.wrap (IntKind.i64.wrap (a + b))), .bool false, .int .i64 0, .slice none 0 0], .agg #[.int .i64 2, .int .i64 a, .slice none 0 0, .int .i64 0, .int .u64 0, .int .i64 0, .int .i64 0, .int .i64 0, .int .i64 0, .int .i64 0, .slice none 0 0, .int .i64 0, .int .i64 0, .int .i64 0, .int .i64 0, .int .i64 0, .int .i64 0]] (by kernel_rfl) (by kernel_rfl) (by kernel_rfl) (of_is o11 (by omega) (by omega) (by omega)) (by kernel_rfl) (by kernel_rfl) ?_
  refine Vir.ev (by kernel_rfl) [20, 21, 22, 23, 24] ?_
  refine Vir.pure (by kernel_rfl) 25 14 [.int .i64 a] (by kernel_rfl) (by kernel_rfl) (by kernel_rfl) (out_ok ..) (by kernel_rfl) (by kernel_rfl) ?_
  refine Vir.pure (by kernel_rfl) 26 9 [.agg #[.int .u32 0, .int .u32 A, .bool false, .int .i64 0, .slice none 0 0], .agg #[.int .i64 2, .int .i64 a, .slice none 0 0, .int .i64 0, .int .u64 0, .int .i64 0, .int .i64 0, .int .i64 0, .int .i64 0, .int .i64 0, .slice none 0 0, .int .i64 0, .int .i64 0, .int .i64 0, .int .i64 0, .int .i64 0, .int .i64 0]] (by kernel_rfl) (by kernel_rfl) (by kernel_rfl) (of_is o12 (by omega) (by omega) (by omega)) (by kernel_rfl) (by kernel_rfl) ?_
  refine Vir.ev (by kernel_rfl) [27, 28, 29, 30, 31, 32, 33] ?_
  refine Vir.pure (by kernel_rfl) 34 14 [.int .i64 (IntKind.i64.wrap (a + b))] (by kernel_rfl) (by kernel_rfl) (by kernel_rfl) (out_ok ..) (by kernel_rfl) (by kernel_rfl) ?_
  refine Vir.pure (by kernel_rfl) 35 9 [.agg #[.int .u32 0, .int .u32 A, .bool false, .int .i64 0, .slice none 0 0], .agg #[.int .i64 2, .int .i64 (IntKind.i64.wrap (a + b)), .slice none 0 0, .int .i64 0, .int .u64 0, .int .i64 0, .int .i64 0, .int .i64 0, .int .i64 0, .int .i64 0, .slice none 0 0, .int .i64 0, .int .i64 0, .int .i64 0, .int .i64 0, .int .i64 0, .int .i64 0]] (by kernel_rfl) (by kernel_rfl) (by kernel_rfl) (of_is o13 (by omega) (by omega) (by omega)) (by kernel_rfl) (by kernel_rfl) ?_
  refine Vir.ev (by kernel_rfl) [36, 37, 38] ?_
  refine Vir.fin (by kernel_rfl) (by kernel_rfl) ?_
  refine H.ret ?_
  refine ⟨.v (.bool true), by kernel_rfl, ?_⟩
  rotate_left
  all_goals rfl
end Go.Proofs.Ytjiebedfibolfaa
