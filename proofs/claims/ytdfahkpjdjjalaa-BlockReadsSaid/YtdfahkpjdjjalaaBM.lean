/- The law BlockReads of the layer block: its body always comes to true. -/
import Derived.Test.YtdfahkpjdjjalaaBL
import Derived.Test.YtdfahkpjdjjalaaVcRow
namespace Go.Proofs.Ytdfahkpjdjjalaa
open Go.RowKit Vc

theorem blockReads_ok {v : Value} {bs : List (List Int)} {a k : Int} {G : GH} (h1 : RowC G v 64 bts bs) (ha : 0 ≤ a) (ha2 : a ≤ 18446744073709551615) (hk : -9223372036854775808 ≤ k) (hk2 : k ≤ 9223372036854775807) :
    PureG Try.prog 3 [v, .int .u64 a, .int .i64 k] G (.bool true) := by
  refine PureG.body Try.func3 rfl (by kernel_rfl) fun B hm hG => ?_
  subst hG
  refine H.sr (by kernel_rfl) ?_
  refine H.seq ?_
  refine H.seq (H.region ?_)
  -- HOp CALL 8 [] (place 0)
  refine HOp.un (Stp.pureG 8 [] (by kernel_rfl) (by kernel_rfl) (GExt.refl _) (alive_ok)) ?_
  refine HOp.ev 1 ?_
  refine HOp.done (by kernel_rfl) ?_
  refine H.condF (by kernel_rfl) ?_
  refine H.skip ?_
  refine H.seq ?_
  refine H.seq (H.region (HOp.ev 1 ?_))
  refine HOp.rd (.len 22 (v)) (by kernel_rfl) (qlen h1.row) ?_
  refine HOp.ev 1 ?_
  refine HOp.done (by kernel_rfl) ?_
  refine H.ifd ((↑bs.length : Int) > 70) (by kernel_rfl) (fun t1 => ?_) (fun t1 => ?_)
  refine H.sr (by kernel_rfl) ?_
  refine H.ret ?_
  refine ⟨.v (.bool true), by kernel_rfl, ?_⟩
  rfl
  refine H.skip ?_
  refine H.seq (H.region (HOp.ev 3 ?_))
  -- HOp CALL 9 [v, .int .u64 a, .int .i64 k] (place 3)
  refine HOp.nu (Stp.funN 9 [v, .int .u64 a, .int .i64 k] (by kernel_rfl) (by kernel_rfl) fun Gx gx => (read_ok (h1.mono gx) (by omega) (by omega))) fun v2 => ?_
  refine HOp.ev 5 ?_
  refine HOp.done (by kernel_rfl) ?_
  refine H.seq (H.region (HOp.ev 3 ?_))
  -- HOp CALL 10 [v, .int .u64 a, .int .i64 k] (place 3)
  refine HOp.nu (Stp.funN 10 [v, .int .u64 a, .int .i64 k] (by kernel_rfl) (by kernel_rfl) fun Gx gx => (refRead_ok (h1.mono gx) (by omega) (by omega))) fun v3 => ?_
  refine HOp.ev 5 ?_
  refine HOp.done (by kernel_rfl) ?_
  refine H.seq (H.region (HOp.ev 1 ?_))
  refine HOp.rdo 0 (v2) 5 1 ((readL bs a k).flatten.length) (bts (readL bs a k).flatten) (.conv 25 9 (v2)) (by kernel_rfl) (by kernel_rfl) (fun Gx gx o => (cstr o.row)) ?_
  refine HOp.ev 1 ?_
  refine HOp.rdo 1 (v3) 5 1 ((readL bs a k).flatten.length) (bts (readL bs a k).flatten) (.conv 25 9 (v3)) (by kernel_rfl) (by kernel_rfl) (fun Gx gx o => (cstr o.row)) ?_
  refine HOp.ev 2 ?_
  refine HOp.guard 35 ((strOf (readL bs a k).flatten).toList == (strOf (readL bs a k).flatten).toList) (by kernel_rfl) (fun t4 => ?_) (fun t4 => ?_)
  refine HOp.ev 5 ?_
  refine HOp.ife 40 (readE bs.length a k) (readE bs.length a k) (by kernel_rfl) (fun t5 => ?_) (fun t5 => ?_)
  refine HOp.ev 1 ?_
  refine HOp.rd (.len 22 (v)) (by kernel_rfl) (qlen h1.row) ?_
  refine HOp.ev 2 ?_
  -- HOp CALL 11 [.int .i64 ((↑bs.length : Int)), .int .u64 a, .int .i64 k] (place 15)
  refine HOp.un (Stp.pureF 11 [.int .i64 ((↑bs.length : Int)), .int .u64 a, .int .i64 k] (by kernel_rfl) (by kernel_rfl) (within_ok _ _ _ (by omega) (by omega))) ?_
  refine HOp.ev 1 ?_
  refine HOp.rd (.len 22 (v)) (by kernel_rfl) (qlen h1.row) ?_
  refine HOp.ev 2 ?_
  -- HOp CALL 12 [.int .i64 ((↑bs.length : Int)), .int .u64 a, .int .i64 k] (place 20)
  refine HOp.un (Stp.pureF 12 [.int .i64 ((↑bs.length : Int)), .int .u64 a, .int .i64 k] (by kernel_rfl) (by kernel_rfl) (refWithin_ok _ _ _ (by omega) (by omega))) ?_
  refine HOp.ev 3 ?_
  refine HOp.guard 53 (within (↑bs.length : Int) a k == within (↑bs.length : Int) a k) (by kernel_rfl) (fun t6 => ?_) (fun t6 => ?_)
  refine HOp.ev 3 ?_
  refine HOp.rd (.len 22 (v)) (by kernel_rfl) (qlen h1.row) ?_
  -- HOp CALL 11 [.int .i64 k, .int .u64 a, .int .i64 ((↑bs.length : Int))] (place 28)
  refine HOp.un (Stp.pureF 11 [.int .i64 k, .int .u64 a, .int .i64 ((↑bs.length : Int))] (by kernel_rfl) (by kernel_rfl) (within_ok _ _ _ (by omega) (by omega))) ?_
  refine HOp.ev 3 ?_
  refine HOp.rd (.len 22 (v)) (by kernel_rfl) (qlen h1.row) ?_
  -- HOp CALL 12 [.int .i64 k, .int .u64 a, .int .i64 ((↑bs.length : Int))] (place 33)
  refine HOp.un (Stp.pureF 12 [.int .i64 k, .int .u64 a, .int .i64 ((↑bs.length : Int))] (by kernel_rfl) (by kernel_rfl) (refWithin_ok _ _ _ (by omega) (by omega))) ?_
  refine HOp.ev 3 ?_
  refine HOp.done (by kernel_rfl) ?_
  refine H.ret ?_
  refine ⟨.v (.bool (within k a (↑bs.length : Int) == within k a (↑bs.length : Int))), by kernel_rfl, ?_⟩
  rotate_left
  simp at t6
  omega
  simp at t4
  exact ret_b (by simp)
end Go.Proofs.Ytdfahkpjdjjalaa
