/- Contracts of the layer block: copies of a store, of bytes, and some blocks of a store. -/
import Derived.Test.YtdfahkpjdjjalaaBA
import Derived.Test.YtdfahkpjdjjalaaVcRow
namespace Go.Proofs.Ytdfahkpjdjjalaa
open Go.RowKit Vc

theorem ret_v {v : Value} : SV.pl (.v v) = some v := rfl
theorem cloneB_ok {v : Value} {n : Nat} {l : List Value} {G : GH} (h1 : Row G v 64 n l) (ho : ∀ u ∈ l, u.oneCell' = true) (hb : n < 1000) :
    FunO Try.prog 23 [v] G (fun v => v) 41 64 n l := by
  refine FunO.body Try.func23 rfl (by kernel_rfl) fun B hm hG => ?_
  subst hG
  refine H.sr (by kernel_rfl) ?_
  refine H.seq ?_
  refine H.seq (H.region (HOp.ev 1 ?_))
  refine HOp.rd (.bin BinOp.eql 22 (v) (.slice none 0 0)) (by kernel_rfl) (qnil h1) ?_
  refine HOp.done (by kernel_rfl) ?_
  refine H.cond (nilS v) (by kernel_rfl) (fun t1 => ?_) (fun t1 => ?_)
  refine H.sr (by kernel_rfl) ?_
  refine H.ret ?_
  refine ⟨.slice none 0 0, resOk_of (s := .v (.slice none 0 0)) (by kernel_rfl) (by kernel_rfl), ?_⟩
  rotate_left
  refine H.skip ?_
  refine H.seq (H.region ?_)
  refine HOp.nu (Stp.buildS 22 0 [] (.int .u8 0) 41 64 64 [] (by kernel_rfl) rfl rfl (by omega) (by kernel_rfl)) fun v2 => ?_
  refine HOp.ev 1 ?_
  refine HOp.nu (Stp.append 0 22 (v2) (v) 41 64 0 64 (by kernel_rfl) (by kernel_rfl) h1 (ho) (by omega) (by kernel_rfl)) fun v3 => ?_
  refine HOp.ev 1 ?_
  refine HOp.done (by kernel_rfl) ?_
  refine H.ret ?_
  refine ⟨v3, resOk_of (s := .v (v3)) (by kernel_rfl) (by kernel_rfl), .inl ⟨0, v3, rfl, ow_at (n' := 0 + n) (l' := [] ++ l) (by kernel_rfl) ?_ ?_⟩⟩
  omega
  rfl
  · exact .inr ⟨rfl, h1.nil_empty t1⟩
theorem clone8_ok {v : Value} {n : Nat} {l : List Value} {G : GH} (h1 : Row G v 1 n l) (ho : ∀ u ∈ l, u.oneCell' = true) (hb : n < 100000) :
    FunO Try.prog 25 [v] G (fun v => v) 5 1 n l := by
  refine FunO.body Try.func25 rfl (by kernel_rfl) fun B hm hG => ?_
  subst hG
  refine H.sr (by kernel_rfl) ?_
  refine H.seq ?_
  refine H.seq (H.region (HOp.ev 1 ?_))
  refine HOp.rd (.bin BinOp.eql 25 (v) (.slice none 0 0)) (by kernel_rfl) (qnil h1) ?_
  refine HOp.done (by kernel_rfl) ?_
  refine H.cond (nilS v) (by kernel_rfl) (fun t1 => ?_) (fun t1 => ?_)
  refine H.sr (by kernel_rfl) ?_
  refine H.ret ?_
  refine ⟨.slice none 0 0, resOk_of (s := .v (.slice none 0 0)) (by kernel_rfl) (by kernel_rfl), ?_⟩
  rotate_left
  refine H.skip ?_
  refine H.seq (H.region ?_)
  refine HOp.nu (Stp.buildS 25 0 [] (.int .u8 0) 5 1 1 [] (by kernel_rfl) rfl rfl (by omega) (by kernel_rfl)) fun v2 => ?_
  refine HOp.ev 1 ?_
  refine HOp.nu (Stp.append 0 25 (v2) (v) 5 1 0 1 (by kernel_rfl) (by kernel_rfl) h1 (ho) (by omega) (by kernel_rfl)) fun v3 => ?_
  refine HOp.ev 1 ?_
  refine HOp.done (by kernel_rfl) ?_
  refine H.ret ?_
  refine ⟨v3, resOk_of (s := .v (v3)) (by kernel_rfl) (by kernel_rfl), .inl ⟨0, v3, rfl, ow_at (n' := 0 + n) (l' := [] ++ l) (by kernel_rfl) ?_ ?_⟩⟩
  omega
  rfl
  · exact .inr ⟨rfl, h1.nil_empty t1⟩
theorem copy_ok {v : Value} {n : Nat} {l : List Value} {G : GH} (h1 : Row G v 64 n l) (ho : ∀ u ∈ l, u.oneCell' = true) (hb : n < 1000) :
    FunO Try.prog 13 [v] G (fun v => v) 41 64 n l := by
  refine FunO.body Try.func13 rfl (by kernel_rfl) fun B hm hG => ?_
  subst hG
  refine H.sr (by kernel_rfl) ?_
  refine H.seq (H.region ?_)
  refine HOp.nu (Stp.buildS 22 0 [] (.int .u8 0) 41 64 64 [] (by kernel_rfl) rfl rfl (by omega) (by kernel_rfl)) fun v1 => ?_
  refine HOp.ev 1 ?_
  refine HOp.nu (Stp.append 0 22 (v1) (v) 41 64 0 64 (by kernel_rfl) (by kernel_rfl) h1 (ho) (by omega) (by kernel_rfl)) fun v2 => ?_
  refine HOp.ev 1 ?_
  refine HOp.done (by kernel_rfl) ?_
  refine H.ret ?_
  refine ⟨v2, resOk_of (s := .v (v2)) (by kernel_rfl) (by kernel_rfl), .inl ⟨0, v2, rfl, ow_at (n' := 0 + n) (l' := [] ++ l) (by kernel_rfl) ?_ ?_⟩⟩
  omega
  rfl
/-- Some blocks, or the reason. -/
noncomputable def someV (v : Value) (n : Nat) (a k : Int) : Value :=
  if 64 < n then .tuple #[.slice none 0 0, .int .i64 4] else if within n a k = true then .tuple #[subAt (subAt v 64 a.toNat n) 64 0 k.toNat, .int .i64 0] else .tuple #[.slice none 0 0, .int .i64 5]
theorem some_ok {v : Value} {n : Nat} {l : List Value} {a k : Int} {G : GH} (h1 : Row G v 64 n l) (hb : n < 1000) (ha : 0 ≤ a) :
    PureG Try.prog 22 [v, .int .u64 a, .int .i64 k] G (someV v n a k) := by
  refine PureG.body Try.func22 rfl (by kernel_rfl) fun B hm hG => ?_
  subst hG
  have hw : (!within n a k) = false → 0 ≤ k ∧ k ≤ n ∧ a ≤ n - k := fun h => by simpa [within] using h
  refine H.sr (by kernel_rfl) ?_
  refine H.seq ?_
  refine H.block ?_
  refine H.seq (H.region (HOp.ev 1 ?_))
  refine HOp.rd (.len 22 (v)) (by kernel_rfl) (qlen h1) ?_
  refine HOp.ev 2 ?_
  refine HOp.done (by kernel_rfl) ?_
  refine H.ifd ((↑n : Int) > 64) (by kernel_rfl) (fun t1 => ?_) (fun t1 => ?_)
  refine H.sr (by kernel_rfl) ?_
  refine H.ret ?_
  refine ⟨.tup [.v (.slice none 0 0), .v (.int .i64 4)], by kernel_rfl, ?_⟩
  rotate_left
  refine H.seq (H.region (HOp.ev 1 ?_))
  refine HOp.rd (.len 22 (v)) (by kernel_rfl) (qlen h1) ?_
  refine HOp.ev 2 ?_
  -- HOp CALL 11 [.int .i64 ((↑n : Int)), .int .u64 a, .int .i64 k] (place 4)
  refine HOp.un (Stp.pureF 11 [.int .i64 ((↑n : Int)), .int .u64 a, .int .i64 k] (by kernel_rfl) (by kernel_rfl) ((within_ok n a k (by omega) (by omega)))) ?_
  refine HOp.ev 2 ?_
  refine HOp.done (by kernel_rfl) ?_
  refine H.cond (!within (↑n : Int) a k) (by kernel_rfl) (fun t2 => ?_) (fun t2 => ?_)
  refine H.sr (by kernel_rfl) ?_
  refine H.ret ?_
  refine ⟨.tup [.v (.slice none 0 0), .v (.int .i64 5)], by kernel_rfl, ?_⟩
  rotate_left
  refine H.skip ?_
  refine H.seq (H.region (HOp.ev 2 ?_))
  refine HOp.rd (.slice 22 (v) (some (.int .u64 a)) none) (by kernel_rfl) (qsliceL h1 (by omega) (by have := hw (by assumption); omega)) ?_
  refine HOp.ev 1 ?_
  refine HOp.rd (.slice 22 (subAt (v) 64 a.toNat n) none (some (.int .i64 k))) (by kernel_rfl) (qsliceH (h1.sub (lo := a.toNat) (hi := n) (by have := hw (by assumption); omega) (by omega)) (by have := hw (by assumption); omega) (by have := hw (by assumption); omega)) ?_
  refine HOp.ev 2 ?_
  refine HOp.done (by kernel_rfl) ?_
  refine H.ret ?_
  refine ⟨.tup [.v (subAt (subAt (v) 64 a.toNat n) 64 0 k.toNat), .v (.int .i64 0)], by kernel_rfl, ?_⟩
  rotate_left
  · have h : 64 < n := by omega
    simp [SV.pl, SV.pls, someV, h]
  · have h : ¬ 64 < n := by omega
    have h2 : ¬ within n a k = true := by simpa using t2
    simp only [SV.pl, SV.pls, someV, if_neg h, if_neg h2]
  · have h : ¬ 64 < n := by omega
    have h2 : within n a k = true := by simpa using t2
    simp only [SV.pl, SV.pls, someV, if_neg h, if_pos h2]
end Go.Proofs.Ytdfahkpjdjjalaa
