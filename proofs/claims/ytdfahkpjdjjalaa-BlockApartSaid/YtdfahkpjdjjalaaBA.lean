/- Contracts of the layer block: which blocks there are, and when stores are alike. -/
import Derived.Test.YtdfahkpjdjjalaaRows
import Derived.Test.YtdfahkpjdjjalaaVcRow
namespace Go.Proofs.Ytdfahkpjdjjalaa
open Go.RowKit Vc
theorem wrap_i64 {x : Int} (h0 : -9223372036854775808 ≤ x) (h1 : x < 9223372036854775808) : IntKind.i64.wrap x = x := by simp only [IntKind.wrap, IntKind.bits, IntKind.signed]; simp; omega
theorem wrap_u64 {x : Int} (h0 : 0 ≤ x) (h1 : x < 18446744073709551616) : IntKind.u64.wrap x = x := by simp only [IntKind.wrap, IntKind.bits, IntKind.signed]; simp; omega
theorem ret_b {b c : Bool} (h : b = c) : SV.pl (.v (.bool b)) = some (.bool c) := by rw [h]; rfl
/-- Are there such blocks? -/
def within (c a n : Int) : Bool := decide (0 ≤ n ∧ n ≤ c ∧ a ≤ c - n)

theorem within_ok (c a n : Int) (hc : c < 9223372036854775808) (hc0 : -9223372036854775808 ≤ c) :
    PureF Try.prog 11 [.int .i64 c, .int .u64 a, .int .i64 n] (.bool (within c a n)) := by
  refine PureF.body Try.func11 rfl (by kernel_rfl) fun B G hm hG => ?_
  by_cases h : 0 ≤ n ∧ n ≤ c
  · have e1 := wrap_i64 (x := c - n) (by omega) (by omega)
    have e2 := wrap_u64 (x := c - n) (by omega) (by omega)
    have e3 : IntKind.u64.wrap (IntKind.i64.wrap (c - n)) = c - n := by rw [e1, e2]
    refine H.sr (by kernel_rfl) ?_
    refine H.seq (H.region (HOp.ev 3 ?_))
    refine HOp.ifd 9 (n ≥ 0) (by kernel_rfl) (fun t1 => ?_) (fun t1 => ?_)
    refine HOp.ev 5 ?_
    refine HOp.ifd 14 (n ≤ c) (by kernel_rfl) (fun t2 => ?_) (fun t2 => ?_)
    refine HOp.ev 8 ?_
    refine HOp.done (by kernel_rfl) ?_
    refine H.ret ?_
    refine ⟨.v (.bool (decide (a ≤ IntKind.u64.wrap (IntKind.i64.wrap (c - n))))), by kernel_rfl, ?_⟩
    rotate_left
    omega
    omega
    all_goals (refine ret_b ?_; unfold within; simp [*])
  · refine H.sr (by kernel_rfl) ?_
    refine H.seq (H.region (HOp.ev 3 ?_))
    refine HOp.ifd 9 (n ≥ 0) (by kernel_rfl) (fun t1 => ?_) (fun t1 => ?_)
    refine HOp.ev 5 ?_
    refine HOp.ifd 14 (n ≤ c) (by kernel_rfl) (fun t2 => ?_) (fun t2 => ?_)
    omega
    refine HOp.ev 8 ?_
    refine HOp.done (by kernel_rfl) ?_
    refine H.ret ?_
    refine ⟨.v (.bool false), by kernel_rfl, ?_⟩
    rotate_left
    refine HOp.ev 13 ?_
    refine HOp.done (by kernel_rfl) ?_
    refine H.ret ?_
    refine ⟨.v (.bool false), by kernel_rfl, ?_⟩
    rotate_left
    all_goals (refine ret_b ?_; unfold within; simp; omega)
theorem refWithin_ok (c a n : Int) (hc : c < 9223372036854775808) (hc0 : -9223372036854775808 ≤ c) :
    PureF Try.prog 12 [.int .i64 c, .int .u64 a, .int .i64 n] (.bool (within c a n)) := by
  refine PureF.body Try.func12 rfl (by kernel_rfl) fun B G hm hG => ?_
  by_cases h : 0 ≤ n ∧ n ≤ c
  · have e1 := wrap_i64 (x := c - n) (by omega) (by omega)
    have e2 := wrap_u64 (x := c - n) (by omega) (by omega)
    have e3 : IntKind.u64.wrap (IntKind.i64.wrap (c - n)) = c - n := by rw [e1, e2]
    refine H.sr (by kernel_rfl) ?_
    refine H.seq ?_
    refine H.seq (H.region (HOp.ev 3 ?_))
    refine HOp.ifd 9 (n < 0) (by kernel_rfl) (fun t1 => ?_) (fun t1 => ?_)
    omega
    refine HOp.ev 4 ?_
    refine HOp.done (by kernel_rfl) ?_
    refine H.ifd (c < n) (by kernel_rfl) (fun t2 => ?_) (fun t2 => ?_)
    omega
    refine H.skip ?_
    refine H.sr (by kernel_rfl) ?_
    refine H.ret ?_
    refine ⟨.v (.bool (decide (a ≤ IntKind.u64.wrap (IntKind.i64.wrap (c - n))))), by kernel_rfl, ?_⟩
    rotate_left
    all_goals (refine ret_b ?_; unfold within; simp [*])
  · refine H.sr (by kernel_rfl) ?_
    refine H.seq ?_
    refine H.seq (H.region (HOp.ev 3 ?_))
    refine HOp.ifd 9 (n < 0) (by kernel_rfl) (fun t1 => ?_) (fun t1 => ?_)
    refine HOp.ev 4 ?_
    refine HOp.done (by kernel_rfl) ?_
    refine H.condT (by kernel_rfl) ?_
    refine H.sr (by kernel_rfl) ?_
    refine H.ret ?_
    refine ⟨.v (.bool false), by kernel_rfl, ?_⟩
    rotate_left
    refine HOp.ev 4 ?_
    refine HOp.done (by kernel_rfl) ?_
    refine H.ifd (c < n) (by kernel_rfl) (fun t2 => ?_) (fun t2 => ?_)
    refine H.sr (by kernel_rfl) ?_
    refine H.ret ?_
    refine ⟨.v (.bool false), by kernel_rfl, ?_⟩
    rotate_left
    omega
    all_goals (refine ret_b ?_; unfold within; simp; omega)

theorem refSame_ok (v1 v2 : Value) (n1 n2 : Nat) (xs ys : List Int) {G : GH} (h1 : Row G v1 64 n1 (bts xs)) (h2 : Row G v2 64 n2 (bts ys)) (hb : n1 < 1000) :
    PureG Try.prog 19 [v1, v2] G (.bool (decide (n1 = n2 ∧ xs = ys))) := by
  refine PureG.body Try.func19 rfl (by kernel_rfl) fun B hm hG => ?_
  subst hG
  have hl1 := h1.len
  have hl2 := h2.len
  rw [bts_length] at hl1 hl2
  refine H.sr (by kernel_rfl) ?_
  refine H.seq ?_
  refine H.seq (H.region (HOp.ev 1 ?_))
  refine HOp.rd (.len 22 (v1)) (by kernel_rfl) (qlen h1) ?_
  refine HOp.ev 1 ?_
  refine HOp.rd (.len 22 (v2)) (by kernel_rfl) (qlen h2) ?_
  refine HOp.ev 1 ?_
  refine HOp.done (by kernel_rfl) ?_
  refine H.ifn ((↑n1 : Int)) ((↑n2 : Int)) (by kernel_rfl) (fun t1 => ?_) (fun t1 => ?_)
  refine H.sr (by kernel_rfl) ?_
  refine H.ret ?_
  refine ⟨.v (.bool false), by kernel_rfl, ?_⟩
  rotate_left
  refine H.skip ?_
  refine H.seq ?_
  refine H.sr (by kernel_rfl) ?_
  refine H.block ?_
  -- LOOP from ⟨26, [(5, .v (.int .i64 0)), (10, .v (.bool ((↑n1 : Int) != (↑n2 : Int)))), (9, .v (.int .i64 ((↑n2 : Int)))), (8, .v (v2)), (7, .v (.int .i64 ((↑n1 : Int)))), (6, .v (v1)), (4, .v (.bool false)), (0, .v (v1)), (1, .v (v2))], [], []⟩
  rotate_left
  · refine ret_b ?_
    have : n1 ≠ n2 := by omega
    simp [this]
  have hn : n1 = n2 := by omega
  refine H.loop (fun i : Int => ⟨26, [(5, .v (.int .i64 i)), (4, .v (.bool false)), (0, .v v1), (1, .v v2)], [], []⟩) (fun i G' => G' = B.G0 ∧ 0 ≤ i ∧ i ≤ n1 ∧ xs.take (i.toNat * 64) = ys.take (i.toNat * 64)) (fun i => (n1 + 1 - i).toNat) 0 (le_of (by kernel_rfl)) ⟨rfl, by omega, by omega, by simp⟩ (fun _ => by rw [hm]; exact Nat.zero_le _) ?_
  rintro i _ ⟨rfl, hi0, hi1, hpre⟩
  have e1 := wrap_i64 (x := i + 1) (by omega) (by omega)
  have p1 := fun h => h1.ptr (i := i) hi0 h
  have p2 := fun h => h2.ptr (i := i) hi0 h
  simp only [bts_drop, bts_take] at p1 p2
  refine H.seq ?_
  refine H.seq (H.region (HOp.ev 2 ?_))
  refine HOp.rd (.len 22 (v1)) (by kernel_rfl) (qlen h1) ?_
  refine HOp.ev 1 ?_
  refine HOp.done (by kernel_rfl) ?_
  refine H.ifd (i < (↑n1 : Int)) (by kernel_rfl) (fun t1 => ?_) (fun t1 => ?_)
  refine H.skip ?_
  refine H.seq ?_
  refine H.block ?_
  refine H.seq (Vir.draw [0, 1, 2, 3, 4, 5, 6, 7, 8] (by kernel_rfl) (by kernel_rfl) ?_)
  refine Vir.ev (by kernel_rfl) [0, 1, 4, 5] ?_
  refine Vir.rd (by kernel_rfl) 2 (.idx 22 (v1) (.int .i64 i)) (by kernel_rfl) (qidx h1 (by omega) (by omega)) ?_
  refine Vir.rd (by kernel_rfl) 3 (.load 41 (ptrAt (v1) 64 i)) (by kernel_rfl) (qloadA 64 (p1 (by omega)) (by rw [bts_length, List.length_take, List.length_drop]; omega)) ?_
  refine Vir.rd (by kernel_rfl) 6 (.idx 22 (v2) (.int .i64 i)) (by kernel_rfl) (qidx h2 (by omega) (by omega)) ?_
  refine Vir.rd (by kernel_rfl) 7 (.load 41 (ptrAt (v2) 64 i)) (by kernel_rfl) (qloadA 64 (p2 (by omega)) (by rw [bts_length, List.length_take, List.length_drop]; omega)) ?_
  refine Vir.rd (by kernel_rfl) 8 (.bin BinOp.neq 41 (.agg ({ toList := bts (List.take 64 (List.drop (i.toNat * 64) xs)) })) (.agg ({ toList := bts (List.take 64 (List.drop (i.toNat * 64) ys)) }))) (by kernel_rfl) (qneB 64 (by rw [List.length_take, List.length_drop]; omega) (by rw [List.length_take, List.length_drop]; omega)) ?_
  refine Vir.fin (by kernel_rfl) (by kernel_rfl) ?_
  refine H.cond (!decide (List.take 64 (List.drop (i.toNat * 64) xs) = List.take 64 (List.drop (i.toNat * 64) ys))) (by kernel_rfl) (fun t2 => ?_) (fun t2 => ?_)
  refine H.sr (by kernel_rfl) ?_
  refine H.ret ?_
  refine ⟨.v (.bool false), by kernel_rfl, ?_⟩
  rotate_left
  refine H.skip ?_
  refine H.reg (by kernel_rfl) ?_
  refine ex_st ⟨26, [(5, .v (.int .i64 (IntKind.i64.wrap (i + 1)))), (4, .v (.bool false)), (0, .v (v1)), (1, .v (v2))], [], []⟩ (by kernel_rfl) ?_
  rotate_left
  refine H.exit ?_
  refine H.sr (by kernel_rfl) ?_
  refine H.ret ?_
  refine ⟨.v (.bool true), by kernel_rfl, ?_⟩
  rotate_left
  · refine ret_b ?_
    have : ¬ (n1 = n2 ∧ xs = ys) := fun h => by rw [h.2] at t2; simp at t2
    simp only [this, decide_false]
  · refine ⟨IntKind.i64.wrap (i + 1), le_of (by kernel_rfl), ⟨rfl, by omega, by omega, ?_⟩, by omega⟩
    have e : (IntKind.i64.wrap (i + 1)).toNat * 64 = i.toNat * 64 + 64 := by rw [e1]; omega
    simp only [Bool.not_eq_false', decide_eq_true_eq] at t2
    rw [e, List.take_add, List.take_add, hpre, t2]
  · refine ret_b ?_
    have e : i.toNat * 64 = n1 * 64 := by omega
    rw [e, List.take_of_length_le (by omega), List.take_of_length_le (by omega)] at hpre
    simp [hpre, hn]
theorem equal_ok (v1 v2 : Value) (n1 n2 : Nat) (xs ys : List Int) {G : GH} (h1 : Row G v1 64 n1 (bts xs)) (h2 : Row G v2 64 n2 (bts ys)) (hb : n1 < 1000) :
    PureG Try.prog 26 [v1, v2] G (.bool (decide (n1 = n2 ∧ xs = ys))) := by
  refine PureG.body Try.func26 rfl (by kernel_rfl) fun B hm hG => ?_
  subst hG
  have hl1 := h1.len
  have hl2 := h2.len
  rw [bts_length] at hl1 hl2
  refine H.sr (by kernel_rfl) ?_
  refine H.seq ?_
  refine H.seq (H.region (HOp.ev 1 ?_))
  refine HOp.rd (.len 22 (v1)) (by kernel_rfl) (qlen h1) ?_
  refine HOp.ev 1 ?_
  refine HOp.rd (.len 22 (v2)) (by kernel_rfl) (qlen h2) ?_
  refine HOp.ev 1 ?_
  refine HOp.done (by kernel_rfl) ?_
  refine H.ifn ((↑n1 : Int)) ((↑n2 : Int)) (by kernel_rfl) (fun t1 => ?_) (fun t1 => ?_)
  refine H.sr (by kernel_rfl) ?_
  refine H.ret ?_
  refine ⟨.v (.bool false), by kernel_rfl, ?_⟩
  rotate_left
  refine H.skip ?_
  refine H.seq ?_
  refine H.seq (H.region (HOp.ev 1 ?_))
  refine HOp.rd (.len 22 (v1)) (by kernel_rfl) (qlen h1) ?_
  refine HOp.ev 1 ?_
  refine HOp.done (by kernel_rfl) ?_
  refine H.block ?_
  -- LOOP from ⟨26, [(13, .v (.int .i64 0)), (12, .v (.int .i64 ((↑n1 : Int)))), (11, .v (v1)), (10, .v (.bool ((↑n1 : Int) != (↑n2 : Int)))), (9, .v (.int .i64 ((↑n2 : Int)))), (8, .v (v2)), (7, .v (.int .i64 ((↑n1 : Int)))), (6, .v (v1)), (4, .v (.bool false)), (0, .v (v1)), (1, .v (v2))], [], []⟩
  rotate_left
  · refine ret_b ?_
    have : n1 ≠ n2 := by omega
    simp [this]
  have hn : n1 = n2 := by omega
  refine H.loop (fun i : Int => ⟨26, [(13, .v (.int .i64 i)), (12, .v (.int .i64 n1)), (4, .v (.bool false)), (0, .v v1), (1, .v v2)], [], []⟩) (fun i G' => G' = B.G0 ∧ 0 ≤ i ∧ i ≤ n1 ∧ xs.take (i.toNat * 64) = ys.take (i.toNat * 64)) (fun i => (n1 + 1 - i).toNat) 0 (le_of (by kernel_rfl)) ⟨rfl, by omega, by omega, by simp⟩ (fun _ => by rw [hm]; exact Nat.zero_le _) ?_
  rintro i _ ⟨rfl, hi0, hi1, hpre⟩
  have e1 := wrap_i64 (x := i + 1) (by omega) (by omega)
  have p1 := fun h => h1.ptr (i := i) hi0 h
  have p2 := fun h => h2.ptr (i := i) hi0 h
  simp only [bts_drop, bts_take] at p1 p2
  refine H.sr (by kernel_rfl) ?_
  refine H.seq ?_
  refine H.ifd (i < (↑n1 : Int)) (by kernel_rfl) (fun t1 => ?_) (fun t1 => ?_)
  refine H.skip ?_
  refine H.seq ?_
  refine H.block ?_
  refine H.sr (by kernel_rfl) ?_
  refine H.seq (Vir.draw [0, 1, 2, 3, 4, 5, 6, 7, 8] (by kernel_rfl) (by kernel_rfl) ?_)
  refine Vir.ev (by kernel_rfl) [0, 1, 4, 5] ?_
  refine Vir.rd (by kernel_rfl) 2 (.idx 22 (v1) (.int .i64 i)) (by kernel_rfl) (qidx h1 (by omega) (by omega)) ?_
  refine Vir.rd (by kernel_rfl) 3 (.load 41 (ptrAt (v1) 64 i)) (by kernel_rfl) (qloadA 64 (p1 (by omega)) (by rw [bts_length, List.length_take, List.length_drop]; omega)) ?_
  refine Vir.rd (by kernel_rfl) 6 (.idx 22 (v2) (.int .i64 i)) (by kernel_rfl) (qidx h2 (by omega) (by omega)) ?_
  refine Vir.rd (by kernel_rfl) 7 (.load 41 (ptrAt (v2) 64 i)) (by kernel_rfl) (qloadA 64 (p2 (by omega)) (by rw [bts_length, List.length_take, List.length_drop]; omega)) ?_
  refine Vir.rd (by kernel_rfl) 8 (.bin BinOp.neq 41 (.agg ({ toList := bts (List.take 64 (List.drop (i.toNat * 64) xs)) })) (.agg ({ toList := bts (List.take 64 (List.drop (i.toNat * 64) ys)) }))) (by kernel_rfl) (qneB 64 (by rw [List.length_take, List.length_drop]; omega) (by rw [List.length_take, List.length_drop]; omega)) ?_
  refine Vir.fin (by kernel_rfl) (by kernel_rfl) ?_
  refine H.cond (!decide (List.take 64 (List.drop (i.toNat * 64) xs) = List.take 64 (List.drop (i.toNat * 64) ys))) (by kernel_rfl) (fun t2 => ?_) (fun t2 => ?_)
  refine H.sr (by kernel_rfl) ?_
  refine H.ret ?_
  refine ⟨.v (.bool false), by kernel_rfl, ?_⟩
  rotate_left
  refine H.skip ?_
  refine H.reg (by kernel_rfl) ?_
  refine ex_st ⟨26, [(13, .v (.int .i64 (IntKind.i64.wrap (i + 1)))), (12, .v (.int .i64 ((↑n1 : Int)))), (4, .v (.bool false)), (0, .v (v1)), (1, .v (v2))], [], []⟩ (by kernel_rfl) ?_
  rotate_left
  refine H.exit ?_
  refine H.sr (by kernel_rfl) ?_
  refine H.ret ?_
  refine ⟨.v (.bool true), by kernel_rfl, ?_⟩
  rotate_left
  · refine ret_b ?_
    have : ¬ (n1 = n2 ∧ xs = ys) := fun h => by rw [h.2] at t2; simp at t2
    simp only [this, decide_false]
  · refine ⟨IntKind.i64.wrap (i + 1), le_of (by kernel_rfl), ⟨rfl, by omega, by omega, ?_⟩, by omega⟩
    have e : (IntKind.i64.wrap (i + 1)).toNat * 64 = i.toNat * 64 + 64 := by rw [e1]; omega
    simp only [Bool.not_eq_false', decide_eq_true_eq] at t2
    rw [e, List.take_add, List.take_add, hpre, t2]
  · refine ret_b ?_
    have e : i.toNat * 64 = n1 * 64 := by omega
    rw [e, List.take_of_length_le (by omega), List.take_of_length_le (by omega)] at hpre
    simp [hpre, hn]

theorem same_ok (v1 v2 : Value) (n1 n2 : Nat) (xs ys : List Int) {G : GH} (h1 : Row G v1 64 n1 (bts xs)) (h2 : Row G v2 64 n2 (bts ys)) (hb : n1 < 1000) :
    PureG Try.prog 18 [v1, v2] G (.bool (decide (n1 = n2 ∧ xs = ys))) := by
  refine PureG.body Try.func18 rfl (by kernel_rfl) fun B hm hG => ?_
  subst hG
  refine H.sr (by kernel_rfl) ?_
  refine H.seq (H.region (HOp.ev 2 ?_))
  -- HOp CALL 26 [v1, v2] (place 2)
  refine HOp.pureG 26 [v1, v2] (by kernel_rfl) (by kernel_rfl) (.inl rfl) (equal_ok v1 v2 n1 n2 xs ys h1 h2 hb) ?_
  refine HOp.ev 1 ?_
  refine HOp.done (by kernel_rfl) ?_
  refine H.ret ?_
  refine ⟨.v (.bool (decide (n1 = n2 ∧ xs = ys))), by kernel_rfl, ?_⟩
  rfl
  all_goals rfl
end Go.Proofs.Ytdfahkpjdjjalaa
