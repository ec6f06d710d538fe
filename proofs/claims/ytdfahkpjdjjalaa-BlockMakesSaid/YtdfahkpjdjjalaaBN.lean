/- The law BlockMakes of the layer block: its body always comes to true. -/
import Derived.Test.YtdfahkpjdjjalaaBL
import Derived.Test.YtdfahkpjdjjalaaVcRow
namespace Go.Proofs.Ytdfahkpjdjjalaa
open Go.RowKit Vc

theorem blockMakes_ok {n f : Int} {G : GH} (hn : -9223372036854775808 ≤ n) (hn2 : n ≤ 9223372036854775807) :
    PureG Try.prog 5 [.int .i64 n, .int .u8 f] G (.bool true) := by
  refine PureG.body Try.func5 rfl (by kernel_rfl) fun B hm hG => ?_
  subst hG
  have hl : (makeL n f).length < 1000 := by
    by_cases h : n < 0 ∨ 64 < n
    · rw [makeL_no h]; simp
    · rw [makeL_in (by omega) (by omega)]; simp; omega
  have hw : ∀ b ∈ makeL n f, (bts b).length = 64 := fun b hb => by
    rw [makeL] at hb; split at hb
    · simp at hb; rw [bts_length, hb.2]; simp
    · simp at hb
  refine H.sr (by kernel_rfl) ?_
  refine H.seq ?_
  refine H.seq (H.region ?_)
  -- HOp CALL 8 [] (place 0)
  refine HOp.un (Stp.pureG 8 [] (by kernel_rfl) (by kernel_rfl) (GExt.refl _) (alive_ok)) ?_
  refine HOp.ev 1 ?_
  refine HOp.done (by kernel_rfl) ?_
  refine H.condF (by kernel_rfl) ?_
  refine H.skip ?_
  refine H.seq (H.region (HOp.ev 2 ?_))
  -- HOp CALL 20 [.int .i64 n, .int .u8 f] (place 2)
  refine HOp.nu (Stp.funN 20 [.int .i64 n, .int .u8 f] (by kernel_rfl) (by kernel_rfl) fun Gx gx => (make_ok)) fun v1 => ?_
  refine HOp.ev 5 ?_
  refine HOp.done (by kernel_rfl) ?_
  refine H.seq (H.region (HOp.ev 2 ?_))
  -- HOp CALL 21 [.int .i64 n, .int .u8 f] (place 2)
  refine HOp.nu (Stp.funN 21 [.int .i64 n, .int .u8 f] (by kernel_rfl) (by kernel_rfl) fun Gx gx => (refMake_ok)) fun v2 => ?_
  refine HOp.ev 5 ?_
  refine HOp.done (by kernel_rfl) ?_
  refine H.seq (H.region (HOp.ev 2 ?_))
  -- HOp CALL 19 [v1, v2] (place 2)
  refine HOp.un (Stp.pureY 19 [v1, v2] [⟨v1, 41, 64, (makeL n f).length, List.flatMap bts (makeL n f)⟩, ⟨v2, 41, 64, (makeL n f).length, List.flatMap bts (makeL n f)⟩] (by kernel_rfl) (by kernel_rfl) (by kernel_rfl) fun Gx gx ox => (refSameE_ok (ox.1.rowc (by assumption)) (ox.2.1.rowc (by assumption)) (by omega))) ?_
  refine HOp.ev 6 ?_
  refine HOp.done (by kernel_rfl) ?_
  refine H.ret ?_
  refine ⟨.v (.bool (makeE n == makeE n)), by kernel_rfl, ?_⟩
  rotate_left
  exact ret_b (by simp)
end Go.Proofs.Ytdfahkpjdjjalaa
