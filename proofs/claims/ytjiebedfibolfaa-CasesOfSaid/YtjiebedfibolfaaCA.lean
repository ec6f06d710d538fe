/- Contracts of the package cases and of its reference: what Of and Plan return, for every wrapper, intent and number. -/
import Derived.Test.YtjiebedfibolfaaRows
import Derived.Test.YtjiebedfibolfaaVcAny
namespace Go.Proofs.Ytjiebedfibolfaa
open Go.RowKit Vc
def meansF (dir len : Int) : Int := if 0 < len then (if dir = 1 then 1 else if dir = 2 then 2 else 0) else 0
def thirdF (first clen ilen : Int) : Int := if ilen < clen then first else if clen < ilen then first + 2 else first + 1
def ofF (clen : Int) (cin : Bool) (dir len : Int) : Int :=
  if clen = 0 then 1 + meansF dir len
  else if cin = true then (if meansF dir len = 1 then thirdF 5 clen len else if meansF dir len = 2 then 8 else 4)
  else (if meansF dir len = 2 then thirdF 11 clen len else 9 + meansF dir len)
theorem ret_i {k : IntKind} {a b : Int} (h : a = b) : SV.pl (.v (.int k a)) = some (.int k b) := by rw [h]; rfl
theorem wrap_u64 {x : Int} (h0 : 0 ≤ x) (h1 : x < 18446744073709551616) : IntKind.u64.wrap x = x := by simp only [IntKind.wrap, IntKind.bits, IntKind.signed]; simp; omega
theorem wrap_i64 {x : Int} (h0 : -9223372036854775808 ≤ x) (h1 : x < 9223372036854775808) : IntKind.i64.wrap x = x := by simp only [IntKind.wrap, IntKind.bits, IntKind.signed]; simp; omega
theorem means_lo (d0 d1 : Int) : 0 ≤ meansF d0 d1 := by unfold meansF; split <;> (try split) <;> (try split) <;> omega
theorem means_hi (d0 d1 : Int) : meansF d0 d1 ≤ 2 := by unfold meansF; split <;> (try split) <;> (try split) <;> omega
theorem means_len {d0 d1 : Int} (h : 0 < meansF d0 d1) : 0 < d1 := by unfold meansF at h; split at h <;> omega

theorem means_ok (c0 c1 : Int) (c2 c3 c4 c5 c6 c7 c8 c9 c10 c11 c12 c13 c14 c15 c16 : Value) :
    PureF Try.prog 15 [.agg #[.int .i64 c0, .int .i64 c1, c2, c3, c4, c5, c6, c7, c8, c9, c10, c11, c12, c13, c14, c15, c16]] (.int .i64 (meansF c0 c1)) := by
  refine PureF.body Try.func15 rfl (by kernel_rfl) fun B G hm hG => ?_
  refine H.sr (by kernel_rfl) ?_
  refine H.seq ?_
  refine H.seq (H.region (HOp.ev 4 ?_))
  refine HOp.ifd 6 (c1 > 0) (by kernel_rfl) (fun t1 => ?_) (fun t1 => ?_)
  refine HOp.ev 4 ?_
  refine HOp.ife 10 c0 1 (by kernel_rfl) (fun t2 => ?_) (fun t2 => ?_)
  refine HOp.ev 5 ?_
  refine HOp.done (by kernel_rfl) ?_
  refine H.condT (by kernel_rfl) ?_
  refine H.sr (by kernel_rfl) ?_
  refine H.ret ?_
  refine ⟨.v (.int .i64 c0), by kernel_rfl, ?_⟩
  rotate_left
  refine HOp.ev 5 ?_
  refine HOp.done (by kernel_rfl) ?_
  refine H.ife c0 2 (by kernel_rfl) (fun t3 => ?_) (fun t3 => ?_)
  refine H.sr (by kernel_rfl) ?_
  refine H.ret ?_
  refine ⟨.v (.int .i64 c0), by kernel_rfl, ?_⟩
  rotate_left
  refine H.skip ?_
  refine H.sr (by kernel_rfl) ?_
  refine H.ret ?_
  refine ⟨.v (.int .i64 0), by kernel_rfl, ?_⟩
  rotate_left
  refine HOp.ev 9 ?_
  refine HOp.done (by kernel_rfl) ?_
  refine H.condF (by kernel_rfl) ?_
  refine H.skip ?_
  refine H.sr (by kernel_rfl) ?_
  refine H.ret ?_
  refine ⟨.v (.int .i64 0), by kernel_rfl, ?_⟩
  rotate_left
  all_goals (refine ret_i ?_; unfold meansF; simp [*])

theorem third_ok (a c1 d1 : Int) (c0 c2 c3 c4 d0 d2 d3 d4 d5 d6 d7 d8 d9 d10 d11 d12 d13 d14 d15 d16 : Value) (ha : 0 ≤ a) (ha2 : a ≤ 100) (hc : 0 ≤ c1) (hc2 : c1 < 4294967296) (hd : 0 < d1) (hd2 : d1 < 9223372036854775808) :
    PureF Try.prog 16 [.int .i64 a, .agg #[c0, .int .u32 c1, c2, c3, c4], .agg #[d0, .int .i64 d1, d2, d3, d4, d5, d6, d7, d8, d9, d10, d11, d12, d13, d14, d15, d16]] (.int .i64 (thirdF a c1 d1)) := by
  refine PureF.body Try.func16 rfl (by kernel_rfl) fun B G hm hG => ?_
  have e1 := wrap_u64 (x := d1) (by omega) (by omega)
  have e2 := wrap_u64 (x := c1) (by omega) (by omega)
  have e3 := wrap_i64 (x := a + 1) (by omega) (by omega)
  have e4 := wrap_i64 (x := a + 2) (by omega) (by omega)
  refine H.sr (by kernel_rfl) ?_
  refine H.seq ?_
  refine H.sr (by kernel_rfl) ?_
  refine H.block ?_
  refine H.sr (by kernel_rfl) ?_
  refine H.ifd (IntKind.u64.wrap d1 < IntKind.u64.wrap c1) (by kernel_rfl) (fun t1 => ?_) (fun t1 => ?_)
  refine H.sr (by kernel_rfl) ?_
  refine H.ret ?_
  refine ⟨.v (.int .i64 a), by kernel_rfl, ?_⟩
  rotate_left
  refine H.sr (by kernel_rfl) ?_
  refine H.ifd (IntKind.u64.wrap d1 > IntKind.u64.wrap c1) (by kernel_rfl) (fun t2 => ?_) (fun t2 => ?_)
  refine H.sr (by kernel_rfl) ?_
  refine H.ret ?_
  refine ⟨.v (.int .i64 (IntKind.i64.wrap (a + 2))), by kernel_rfl, ?_⟩
  rotate_left
  refine H.skip ?_
  refine H.sr (by kernel_rfl) ?_
  refine H.ret ?_
  refine ⟨.v (.int .i64 (IntKind.i64.wrap (a + 1))), by kernel_rfl, ?_⟩
  rotate_left
  all_goals (refine ret_i ?_; unfold thirdF; split <;> (try split) <;> omega)

theorem of_ok (c1 d0 d1 : Int) (c2 : Bool) (c0 c3 c4 d2 d3 d4 d5 d6 d7 d8 d9 d10 d11 d12 d13 d14 d15 d16 : Value) (hc : 0 ≤ c1) (hc2 : c1 < 4294967296) (hd2 : d1 < 9223372036854775808) :
    PureF Try.prog 9 [.agg #[c0, .int .u32 c1, .bool c2, c3, c4], .agg #[.int .i64 d0, .int .i64 d1, d2, d3, d4, d5, d6, d7, d8, d9, d10, d11, d12, d13, d14, d15, d16]] (.int .i64 (ofF c1 c2 d0 d1)) := by
  refine PureF.body Try.func9 rfl (by kernel_rfl) fun B G hm hG => ?_
  have h0 := means_lo d0 d1
  have h1 := means_hi d0 d1
  have e1 := wrap_i64 (x := 1 + meansF d0 d1) (by omega) (by omega)
  have e2 := wrap_i64 (x := 9 + meansF d0 d1) (by omega) (by omega)
  refine H.sr (by kernel_rfl) ?_
  refine H.seq (H.region (HOp.ev 1 ?_))
  refine HOp.pure 15 [.agg #[.int .i64 d0, .int .i64 d1, d2, d3, d4, d5, d6, d7, d8, d9, d10, d11, d12, d13, d14, d15, d16]] (by kernel_rfl) (by kernel_rfl) (means_ok ..) ?_
  refine HOp.ev 1 ?_
  refine HOp.done (by kernel_rfl) ?_
  refine H.seq ?_
  refine H.block ?_
  refine H.sr (by kernel_rfl) ?_
  refine H.ife c1 0 (by kernel_rfl) (fun t1 => ?_) (fun t1 => ?_)
  refine H.sr (by kernel_rfl) ?_
  refine H.ret ?_
  refine ⟨.v (.int .i64 (IntKind.i64.wrap (1 + meansF d0 d1))), by kernel_rfl, ?_⟩
  rotate_left
  refine H.seq (H.region (HOp.ev 3 ?_))
  refine HOp.guard 17 c2 (by kernel_rfl) (fun t2 => ?_) (fun t2 => ?_)
  refine HOp.ev 4 ?_
  refine HOp.done (by kernel_rfl) ?_
  refine H.ife (meansF d0 d1) 1 (by kernel_rfl) (fun t3 => ?_) (fun t3 => ?_)
  refine H.seq (H.region (HOp.ev 2 ?_))
  refine HOp.pure 16 [.int .i64 5, .agg #[c0, .int .u32 c1, .bool c2, c3, c4], .agg #[.int .i64 d0, .int .i64 d1, d2, d3, d4, d5, d6, d7, d8, d9, d10, d11, d12, d13, d14, d15, d16]] (by kernel_rfl) (by kernel_rfl) (third_ok (ha := by omega) (ha2 := by omega) (hc := hc) (hc2 := hc2) (hd := means_len (d0 := d0) (by omega)) (hd2 := hd2) ..) ?_
  refine HOp.ev 1 ?_
  refine HOp.done (by kernel_rfl) ?_
  refine H.ret ?_
  refine ⟨.v (.int .i64 (thirdF 5 c1 d1)), by kernel_rfl, ?_⟩
  rotate_left
  refine H.seq (H.region (HOp.ev 3 ?_))
  refine HOp.guard 27 c2 (by kernel_rfl) (fun _ => ?_) (fun t4 => Bool.noConfusion (t2.symm.trans t4))
  refine HOp.ev 4 ?_
  refine HOp.done (by kernel_rfl) ?_
  refine H.ife (meansF d0 d1) 2 (by kernel_rfl) (fun t5 => ?_) (fun t5 => ?_)
  refine H.sr (by kernel_rfl) ?_
  refine H.ret ?_
  refine ⟨.v (.int .i64 8), by kernel_rfl, ?_⟩
  rotate_left
  refine H.sr (by kernel_rfl) ?_
  refine H.cond c2 (by kernel_rfl) (fun _ => ?_) (fun t6 => Bool.noConfusion (t2.symm.trans t6))
  refine H.sr (by kernel_rfl) ?_
  refine H.ret ?_
  refine ⟨.v (.int .i64 4), by kernel_rfl, ?_⟩
  rotate_left
  refine HOp.ev 4 ?_
  refine HOp.done (by kernel_rfl) ?_
  refine H.condF (by kernel_rfl) ?_
  refine H.seq (H.region (HOp.ev 3 ?_))
  refine HOp.guard 27 c2 (by kernel_rfl) (fun t7 => Bool.noConfusion (t2.symm.trans t7)) (fun _ => ?_)
  refine HOp.ev 4 ?_
  refine HOp.done (by kernel_rfl) ?_
  refine H.condF (by kernel_rfl) ?_
  refine H.sr (by kernel_rfl) ?_
  refine H.cond c2 (by kernel_rfl) (fun t8 => Bool.noConfusion (t2.symm.trans t8)) (fun _ => ?_)
  refine H.sr (by kernel_rfl) ?_
  refine H.ife (meansF d0 d1) 2 (by kernel_rfl) (fun t9 => ?_) (fun t9 => ?_)
  refine H.seq (H.region (HOp.ev 2 ?_))
  refine HOp.pure 16 [.int .i64 11, .agg #[c0, .int .u32 c1, .bool c2, c3, c4], .agg #[.int .i64 d0, .int .i64 d1, d2, d3, d4, d5, d6, d7, d8, d9, d10, d11, d12, d13, d14, d15, d16]] (by kernel_rfl) (by kernel_rfl) (third_ok (ha := by omega) (ha2 := by omega) (hc := hc) (hc2 := hc2) (hd := means_len (d0 := d0) (by omega)) (hd2 := hd2) ..) ?_
  refine HOp.ev 1 ?_
  refine HOp.done (by kernel_rfl) ?_
  refine H.ret ?_
  refine ⟨.v (.int .i64 (thirdF 11 c1 d1)), by kernel_rfl, ?_⟩
  rotate_left
  refine H.skip ?_
  refine H.sr (by kernel_rfl) ?_
  refine H.ret ?_
  refine ⟨.v (.int .i64 (IntKind.i64.wrap (9 + meansF d0 d1))), by kernel_rfl, ?_⟩
  rotate_left
  all_goals (refine ret_i ?_; unfold ofF; simp [*])
end Go.Proofs.Ytjiebedfibolfaa
