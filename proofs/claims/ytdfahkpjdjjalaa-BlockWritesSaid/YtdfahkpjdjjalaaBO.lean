/- The law BlockWrites of the layer block: its body always comes to true. -/
import Derived.Test.YtdfahkpjdjjalaaBL
import Derived.Test.YtdfahkpjdjjalaaVcRow
namespace Go.Proofs.Ytdfahkpjdjjalaa
open Go.RowKit Vc

theorem writeL_len {bs : List (List Int)} {a : Int} {xs : List Int} (hb : bs.length < 1000) (ha : 0 ≤ a) : (writeL bs a xs).length < 1000 := by
  by_cases h : writeE bs.length a xs.length = 0
  · have hw : within bs.length a (xs.length / 64 : Nat) = true := by
      unfold writeE at h; split at h
      · omega
      · split at h
        · omega
        · split at h
          · assumption
          · omega
    have hq := within_iff.1 hw
    rw [writeL_in h, over_len]
    · exact hb
    · rw [cut64_len]; omega
  · rw [writeL_no h]; simp
theorem copyC_ok {v : Value} {bs : List (List Int)} {G : GH} (h1 : RowC G v 64 bts bs) (hb : bs.length < 1000) : FunO Try.prog 13 [v] G (fun v => v) 41 64 bs.length (bs.flatMap bts) :=
  copy_ok h1.row (RowC.one fun _ _ _ => bts_one) hb
theorem blockWrites_ok {v b : Value} {bs : List (List Int)} {xs : List Int} {a : Int} {n : Nat} {G : GH} (h1 : RowC G v 64 bts bs) (h2 : Row G b 1 n (bts xs)) (ha : 0 ≤ a) (ha2 : a ≤ 18446744073709551615) :
    PureG Try.prog 4 [v, .int .u64 a, b] G (.bool true) := by
  refine PureG.body Try.func4 rfl (by kernel_rfl) fun B hm hG => ?_
  subst hG
  have hwd := h1.wd
  have hx := h2.len
  rw [bts_length, Nat.mul_one] at hx
  have hwl := @writeL_len bs a xs
  have hcl := cut64_len xs (xs.length / 64)
  refine H.sr (by kernel_rfl) ?_
  refine H.seq ?_
  refine H.seq (H.region ?_)
  -- HOp CALL 8 [] (place 0)
  refine HOp.un (Stp.pureG 8 [] (by kernel_rfl) (by kernel_rfl) (GExt.refl _) (alive_ok)) ?_
  refine HOp.ev 1 ?_
  refine HOp.done (by kernel_rfl) ?_
  refine H.condF (by kernel_rfl) ?_
  refine H.skip ?_
  refine H.seq ?_
  refine H.seq (H.region (HOp.ev 1 ?_))
  refine HOp.rd (.len 22 (v)) (by kernel_rfl) (qlen h1.row) ?_
  refine HOp.ev 2 ?_
  refine HOp.ifd 21 ((↑bs.length : Int) > 70) (by kernel_rfl) (fun t1 => ?_) (fun t1 => ?_)
  refine HOp.ev 4 ?_
  refine HOp.done (by kernel_rfl) ?_
  refine H.condT (by kernel_rfl) ?_
  refine H.sr (by kernel_rfl) ?_
  refine H.ret ?_
  refine ⟨.v (.bool true), by kernel_rfl, ?_⟩
  rfl
  refine HOp.ev 1 ?_
  refine HOp.rd (.len 25 (b)) (by kernel_rfl) (qlen h2) ?_
  refine HOp.ev 2 ?_
  refine HOp.done (by kernel_rfl) ?_
  refine H.ifd ((↑n : Int) > 5000) (by kernel_rfl) (fun t2 => ?_) (fun t2 => ?_)
  refine H.sr (by kernel_rfl) ?_
  refine H.ret ?_
  refine ⟨.v (.bool true), by kernel_rfl, ?_⟩
  rfl
  refine H.skip ?_
  refine H.seq (H.region (HOp.ev 1 ?_))
  -- HOp CALL 13 [v] (place 1)
  refine HOp.nu (Stp.funN 13 [v] (by kernel_rfl) (by kernel_rfl) fun Gx gx => (copyC_ok (h1.mono gx) (by omega))) fun v3 => ?_
  refine HOp.ev 1 ?_
  refine HOp.done (by kernel_rfl) ?_
  refine H.seq (H.region (HOp.ev 3 ?_))
  -- HOp CALL 14 [v3, .int .u64 a, b] (place 3)
  refine HOp.freeze 0 (v3) 41 64 bs.length (List.flatMap bts bs) (by kernel_rfl) fun G4 g4 o4 => ?_
  -- HOp CALL 14 [v3, .int .u64 a, b] (place 3)
  refine HOp.fr (Stp.funR 14 [v3, .int .u64 a, b] (by kernel_rfl) (by kernel_rfl) (GExt.refl _) (write_ok (o4.rowc (by assumption)) (h2.mono g4) (by omega) (by omega) (by omega))) ?_
  rintro v5 H5 G5 g5 f5 ⟨l5, rfl, hl5⟩
  refine HOp.ev 5 ?_
  refine HOp.done (by kernel_rfl) ?_
  refine H.seq (H.region (HOp.ev 3 ?_))
  -- HOp CALL 15 [v, .int .u64 a, b] (place 3)
  refine HOp.fr (Stp.funR 15 [v, .int .u64 a, b] (by kernel_rfl) (by kernel_rfl) (GExt.refl _) (refWrite_ok (h1.mono (g4.trans g5)) (h2.mono (g4.trans g5)) (by omega) (by omega) (by omega))) ?_
  rintro v6 H6 G6 g6 f6 ⟨l6, rfl, hl6⟩
  refine HOp.ev 5 ?_
  refine HOp.done (by kernel_rfl) ?_
  refine H.seq (H.region (HOp.ev 1 ?_))
  -- HOp CALL 16 [b] (place 1)
  refine HOp.fr (Stp.funR 16 [b] (by kernel_rfl) (by kernel_rfl) (GExt.refl _) (split_ok (h2.mono ((g4.trans g5).trans g6)) (by omega))) ?_
  rintro v7 H7 G7 g7 f7 ⟨l7, s7, rfl, hl7, hs7⟩
  refine HOp.ev 5 ?_
  refine HOp.done (by kernel_rfl) ?_
  refine H.seq (H.region (HOp.ev 1 ?_))
  -- HOp CALL 17 [b] (place 1)
  refine HOp.fr (Stp.funR 17 [b] (by kernel_rfl) (by kernel_rfl) (GExt.refl _) (refSplit_ok (h2.mono (((g4.trans g5).trans g6).trans g7)) (by omega))) ?_
  rintro v8 H8 G8 g8 f8 ⟨l8, s8, rfl, hl8, hs8⟩
  refine HOp.ev 5 ?_
  refine HOp.done (by kernel_rfl) ?_
  refine H.seq (H.region (HOp.ev 2 ?_))
  -- HOp CALL 18 [l5, l6] (place 2)
  refine HOp.un (Stp.pureG 18 [l5, l6] (by kernel_rfl) (by kernel_rfl) (GExt.refl _) (sameE_ok (hl5.mono (((f5.trans g6).trans g7).trans g8)) (hl6.mono ((f6.trans g7).trans g8)) (by omega))) ?_
  refine HOp.ev 2 ?_
  -- HOp CALL 19 [l5, l6] (place 5)
  refine HOp.un (Stp.pureG 19 [l5, l6] (by kernel_rfl) (by kernel_rfl) (GExt.refl _) (refSameE_ok (hl5.mono (((f5.trans g6).trans g7).trans g8)) (hl6.mono ((f6.trans g7).trans g8)) (by omega))) ?_
  refine HOp.ev 4 ?_
  -- HOp CALL 19 [l5, l6] (place 10)
  refine HOp.un (Stp.pureG 19 [l5, l6] (by kernel_rfl) (by kernel_rfl) (GExt.refl _) (refSameE_ok (hl5.mono (((f5.trans g6).trans g7).trans g8)) (hl6.mono ((f6.trans g7).trans g8)) (by omega))) ?_
  refine HOp.ev 7 ?_
  refine HOp.ife 69 (writeE bs.length a xs.length) (writeE bs.length a xs.length) (by kernel_rfl) (fun t9 => ?_) (fun t9 => ?_)
  refine HOp.ev 2 ?_
  -- HOp CALL 19 [v3, v] (place 20)
  refine HOp.un (Stp.pureG 19 [v3, v] (by kernel_rfl) (by kernel_rfl) (GExt.refl _) (refSameE_ok ((o4.rowc (by assumption)).mono (((g5.trans g6).trans g7).trans g8)) (h1.mono ((((g4.trans g5).trans g6).trans g7).trans g8)) (by omega))) ?_
  refine HOp.ev 4 ?_
  -- HOp CALL 19 [l7, l8] (place 25)
  refine HOp.un (Stp.pureG 19 [l7, l8] (by kernel_rfl) (by kernel_rfl) (GExt.refl _) (refSameE_ok (hl7.mono (f7.trans g8)) (hl8.mono f8) (by omega))) ?_
  refine HOp.ev 3 ?_
  refine HOp.rd (.conv 25 9 (s7)) (by kernel_rfl) (cstr (hs7.mono (f7.trans g8))) ?_
  refine HOp.ev 1 ?_
  refine HOp.rd (.conv 25 9 (s8)) (by kernel_rfl) (cstr (hs8.mono f8)) ?_
  refine HOp.ev 3 ?_
  refine HOp.done (by kernel_rfl) ?_
  refine H.ret ?_
  refine ⟨.v (.bool ((strOf (List.drop (64 * (xs.length / 64)) xs)).toList == (strOf (List.drop (64 * (xs.length / 64)) xs)).toList)), by kernel_rfl, ?_⟩
  rotate_left
  omega
  exact ret_b (by simp)
end Go.Proofs.Ytdfahkpjdjjalaa
