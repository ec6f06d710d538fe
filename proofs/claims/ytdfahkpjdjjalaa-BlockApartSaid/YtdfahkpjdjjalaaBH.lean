/- Contracts of the layer block: writing. -/
import Derived.Test.YtdfahkpjdjjalaaBG
import Derived.Test.YtdfahkpjdjjalaaVcRow
namespace Go.Proofs.Ytdfahkpjdjjalaa
open Go.RowKit Vc

/-- The error of a writing of this many bytes: too long a store, no whole blocks, no such blocks, or none. -/
def writeE (n : Nat) (a : Int) (m : Nat) : Int := if 64 < n then 4 else if 0 < m % 64 then 3 else if within n a (m / 64 : Nat) = true then 0 else 5
/-- Some blocks, others over them. -/
def over (bs : List (List Int)) (a : Nat) (own : List (List Int)) : List (List Int) := bs.take a ++ own ++ bs.drop (a + own.length)
def writeL (bs : List (List Int)) (a : Int) (xs : List Int) : List (List Int) := if writeE bs.length a xs.length = 0 then over bs a.toNat (cut64 xs (xs.length / 64)) else []
theorem writeE_long {n m : Nat} {a : Int} (h : 64 < n) : writeE n a m = 4 := if_pos h
theorem writeE_form {n m : Nat} {a : Int} (h : ¬ 64 < n) (h1 : 0 < m % 64) : writeE n a m = 3 := by rw [writeE, if_neg h, if_pos h1]
theorem writeE_out {n m : Nat} {a : Int} (h : ¬ 64 < n) (h1 : ¬ 0 < m % 64) (hw : within n a (m / 64 : Nat) = false) : writeE n a m = 5 := by rw [writeE, if_neg h, if_neg h1, hw]; rfl
theorem writeE_in {n m : Nat} {a : Int} (h : ¬ 64 < n) (h1 : ¬ 0 < m % 64) (hw : within n a (m / 64 : Nat) = true) : writeE n a m = 0 := by rw [writeE, if_neg h, if_neg h1, hw]; rfl
theorem writeL_no {bs : List (List Int)} {a : Int} {xs : List Int} (h : writeE bs.length a xs.length ≠ 0) : writeL bs a xs = [] := if_neg h
theorem writeL_in {bs : List (List Int)} {a : Int} {xs : List Int} (h : writeE bs.length a xs.length = 0) : writeL bs a xs = over bs a.toNat (cut64 xs (xs.length / 64)) := if_pos h
def WriteK (bs : List (List Int)) (a : Int) (xs : List Int) (G : GH) (r : Value) : Prop := ∃ u, r = .tuple #[u, .int .i64 (writeE bs.length a xs.length)] ∧ RowC G u 64 bts (writeL bs a xs)
theorem writeK_no {bs : List (List Int)} {a : Int} {xs : List Int} {G : GH} {e : Int} (he : writeE bs.length a xs.length = e) (h0 : e ≠ 0) : WriteK bs a xs G (.tuple #[.slice none 0 0, .int .i64 e]) :=
  ⟨.slice none 0 0, by rw [he], by rw [writeL_no (by rw [he]; exact h0)]; exact RowC.nil _ _ _⟩

theorem some_inO {v : Value} {N e n : Nat} {l : List Value} {a k : Int} {G : GH} (h1 : Own G N v e 64 n l) (hb : n < 1000) (ha : 0 ≤ a) (hL : ¬ 64 < n) (hw : within n a k = true) :
    PureG Try.prog 22 [v, .int .u64 a, .int .i64 k] G (.tuple #[subAt v 64 a.toNat (a.toNat + k.toNat), .int .i64 0]) := by
  have := some_ok (a := a) (k := k) h1.row hb ha
  have hq := within_iff.1 hw
  rwa [someV, if_neg hL, if_pos hw, h1.sub_sub (by omega) (by omega)] at this
theorem some_out {v : Value} {n : Nat} {l : List Value} {a k : Int} {G : GH} (h1 : Row G v 64 n l) (hb : n < 1000) (ha : 0 ≤ a) (hL : ¬ 64 < n) (hw : ¬ within n a k = true) :
    PureG Try.prog 22 [v, .int .u64 a, .int .i64 k] G (.tuple #[.slice none 0 0, .int .i64 5]) := by
  have := some_ok (a := a) (k := k) h1 hb ha
  rwa [someV, if_neg hL, if_neg hw] at this
theorem over_len {bs own : List (List Int)} {a : Nat} (h : a + own.length ≤ bs.length) : (over bs a own).length = bs.length := by
  simp only [over, List.length_append, List.length_take, List.length_drop]; omega
/-- The cells of a store, others over them. -/
theorem over_cells {bs own : List (List Int)} {a : Nat} (hb : ∀ b ∈ bs, (bts b).length = 64) (ho : ∀ b ∈ own, (bts b).length = 64) (h : a + own.length ≤ bs.length) : wrAt (bs.flatMap bts) (a * 64) (own.flatMap bts) = (over bs a own).flatMap bts := by
  rw [wrAt, flat_take hb, flat_length ho, ← Nat.add_mul, flat_drop hb, over, List.flatMap_append, List.flatMap_append]
theorem write_ok {v b : Value} {m : Nat} {bs : List (List Int)} {xs : List Int} {a : Int} {G : GH} (h1 : RowC G v 64 bts bs) (h2 : Row G b 1 m (bts xs)) (hb : bs.length < 1000) (hm2 : m < 100000) (ha : 0 ≤ a) :
    FunR Try.prog 14 [v, .int .u64 a, b] G (WriteK bs a xs) := by
  refine FunR.body Try.func14 rfl (by kernel_rfl) fun B hm hG => ?_
  subst hG
  have hx := h2.len
  rw [bts_length, Nat.mul_one] at hx
  have hql := cut64_len xs (xs.length / 64)
  by_cases hw : within bs.length a (cut64 xs (xs.length / 64)).length = true
  · have hq := within_iff.1 hw
    refine H.sr (by kernel_rfl) ?_
    refine H.seq (H.region (HOp.ev 1 ?_))
    -- HOp CALL 16 [b] (place 1)
    refine HOp.fr (Stp.funR 16 [b] (by kernel_rfl) (by kernel_rfl) (GExt.refl _) (split_ok h2 (by omega))) ?_
    rintro v1 H1 G1 g1 f1 ⟨l1, s1, rfl, hl1, hs1⟩
    refine HOp.ev 5 ?_
    refine HOp.done (by kernel_rfl) ?_
    refine H.seq ?_
    refine H.block ?_
    refine H.seq (H.region (HOp.ev 1 ?_))
    refine HOp.rd (.len 22 (v)) (by kernel_rfl) (qlen h1.row) ?_
    refine HOp.ev 2 ?_
    refine HOp.done (by kernel_rfl) ?_
    refine H.ifd ((↑bs.length : Int) > 64) (by kernel_rfl) (fun t2 => ?_) (fun t2 => ?_)
    refine H.sr (by kernel_rfl) ?_
    refine H.ret ?_
    refine bodyK_end (.tuple #[.slice none 0 0, .int .i64 4]) [] (resOk_of (s := .tup [.v (.slice none 0 0), .v (.int .i64 4)]) (by kernel_rfl) (by kernel_rfl)) (by kernel_rfl) fun G3 g3 _ => ?_
    rotate_left
    refine H.seq (H.region (HOp.ev 1 ?_))
    refine HOp.rd (.len 25 (s1)) (by kernel_rfl) (qlen hs1) ?_
    refine HOp.ev 2 ?_
    refine HOp.done (by kernel_rfl) ?_
    refine H.ifd ((↑(xs.length % 64) : Int) > 0) (by kernel_rfl) (fun t4 => ?_) (fun t4 => ?_)
    refine H.sr (by kernel_rfl) ?_
    refine H.ret ?_
    refine bodyK_end (.tuple #[.slice none 0 0, .int .i64 3]) [] (resOk_of (s := .tup [.v (.slice none 0 0), .v (.int .i64 3)]) (by kernel_rfl) (by kernel_rfl)) (by kernel_rfl) fun G5 g5 _ => ?_
    rotate_left
    refine H.skip ?_
    refine H.seq (H.region (HOp.ev 1 ?_))
    -- HOp CALL 23 [v] (place 1)
    refine HOp.nu (Stp.funN 23 [v] (by kernel_rfl) (by kernel_rfl) fun Gx gx => (cloneB_ok (h1.mono (g1.trans gx)).row (RowC.one fun _ _ _ => bts_one) (by omega))) fun v6 => ?_
    refine HOp.ev 1 ?_
    refine HOp.done (by kernel_rfl) ?_
    refine H.seq (H.region (HOp.ev 3 ?_))
    refine HOp.rd (.len 22 (l1)) (by kernel_rfl) (qlen hl1.row) ?_
    -- HOp CALL 22 [v6, .int .u64 a, .int .i64 ((↑(cut64 xs (xs.length / 64)).length : Int))] (place 4)
    refine HOp.un (Stp.pureY 22 [v6, .int .u64 a, .int .i64 ((↑(cut64 xs (xs.length / 64)).length : Int))] [⟨v6, 41, 64, bs.length, List.flatMap bts bs⟩] (by kernel_rfl) (by kernel_rfl) (by kernel_rfl) fun Gx gx ox => (some_inO ox.1 (by omega) (by omega) (by omega) hw)) ?_
    refine HOp.ev 5 ?_
    refine HOp.done (by kernel_rfl) ?_
    refine H.seq ?_
    refine H.sr (by kernel_rfl) ?_
    refine H.condF (by kernel_rfl) ?_
    refine H.skip ?_
    refine H.seq (H.region (HOp.ev 2 ?_))
    refine HOp.un (Stp.copy 0 22 22 (v6) (l1) 41 64 bs.length a.toNat (a.toNat + (↑(cut64 xs (xs.length / 64)).length : Int).toNat) (by kernel_rfl) (by kernel_rfl) (by omega) (by omega) (hl1.mono f1).row (by omega) (RowC.one fun _ _ _ => bts_one) (by kernel_rfl)) ?_
    refine HOp.done (by kernel_rfl) ?_
    refine H.sr (by kernel_rfl) ?_
    refine H.ret ?_
    refine bodyK_end (.tuple #[v6, .int .i64 0]) [⟨v6, 41, 64, bs.length, wrAt (List.flatMap bts bs) (a.toNat * 64) (List.flatMap bts (cut64 xs (xs.length / 64)))⟩] (resOk_of (s := .tup [.v (v6), .v (.int .i64 0)]) (by kernel_rfl) (by kernel_rfl)) (by kernel_rfl) fun G8 g8 ⟨p8a, _⟩ => ?_
    rotate_left
    · exact writeK_no (writeE_long (by omega)) (by omega)
    · exact writeK_no (writeE_form (by omega) (by omega)) (by omega)
    · refine ⟨v6, by rw [writeE_in (by omega) (by omega) (by rw [← hql]; exact hw)], ?_⟩
      rw [writeL_in (writeE_in (by omega) (by omega) (by rw [← hql]; exact hw))]
      have hwd := cut64_wd (xs := xs) (q := xs.length / 64) (by omega)
      have h := p8a
      rw [over_cells h1.wd hwd (by omega), ← over_len (a := a.toNat) (by omega : a.toNat + (cut64 xs (xs.length / 64)).length ≤ bs.length)] at h
      refine h.rowc fun b hb => ?_
      simp only [over, List.mem_append] at hb
      rcases hb with (hb | hb) | hb
      · exact h1.wd b (List.mem_of_mem_take hb)
      · exact hwd b hb
      · exact h1.wd b (List.mem_of_mem_drop hb)
  · refine H.sr (by kernel_rfl) ?_
    refine H.seq (H.region (HOp.ev 1 ?_))
    -- HOp CALL 16 [b] (place 1)
    refine HOp.fr (Stp.funR 16 [b] (by kernel_rfl) (by kernel_rfl) (GExt.refl _) (split_ok h2 (by omega))) ?_
    rintro v1 H1 G1 g1 f1 ⟨l1, s1, rfl, hl1, hs1⟩
    refine HOp.ev 5 ?_
    refine HOp.done (by kernel_rfl) ?_
    refine H.seq ?_
    refine H.block ?_
    refine H.seq (H.region (HOp.ev 1 ?_))
    refine HOp.rd (.len 22 (v)) (by kernel_rfl) (qlen h1.row) ?_
    refine HOp.ev 2 ?_
    refine HOp.done (by kernel_rfl) ?_
    refine H.ifd ((↑bs.length : Int) > 64) (by kernel_rfl) (fun t2 => ?_) (fun t2 => ?_)
    refine H.sr (by kernel_rfl) ?_
    refine H.ret ?_
    refine bodyK_end (.tuple #[.slice none 0 0, .int .i64 4]) [] (resOk_of (s := .tup [.v (.slice none 0 0), .v (.int .i64 4)]) (by kernel_rfl) (by kernel_rfl)) (by kernel_rfl) fun G3 g3 _ => ?_
    rotate_left
    refine H.seq (H.region (HOp.ev 1 ?_))
    refine HOp.rd (.len 25 (s1)) (by kernel_rfl) (qlen hs1) ?_
    refine HOp.ev 2 ?_
    refine HOp.done (by kernel_rfl) ?_
    refine H.ifd ((↑(xs.length % 64) : Int) > 0) (by kernel_rfl) (fun t4 => ?_) (fun t4 => ?_)
    refine H.sr (by kernel_rfl) ?_
    refine H.ret ?_
    refine bodyK_end (.tuple #[.slice none 0 0, .int .i64 3]) [] (resOk_of (s := .tup [.v (.slice none 0 0), .v (.int .i64 3)]) (by kernel_rfl) (by kernel_rfl)) (by kernel_rfl) fun G5 g5 _ => ?_
    rotate_left
    refine H.skip ?_
    refine H.seq (H.region (HOp.ev 1 ?_))
    -- HOp CALL 23 [v] (place 1)
    refine HOp.nu (Stp.funN 23 [v] (by kernel_rfl) (by kernel_rfl) fun Gx gx => (cloneB_ok (h1.mono (g1.trans gx)).row (RowC.one fun _ _ _ => bts_one) (by omega))) fun v6 => ?_
    refine HOp.ev 1 ?_
    refine HOp.done (by kernel_rfl) ?_
    refine H.seq (H.region (HOp.ev 3 ?_))
    refine HOp.rd (.len 22 (l1)) (by kernel_rfl) (qlen hl1.row) ?_
    -- HOp CALL 22 [v6, .int .u64 a, .int .i64 ((↑(cut64 xs (xs.length / 64)).length : Int))] (place 4)
    refine HOp.un (Stp.pureY 22 [v6, .int .u64 a, .int .i64 ((↑(cut64 xs (xs.length / 64)).length : Int))] [⟨v6, 41, 64, bs.length, List.flatMap bts bs⟩] (by kernel_rfl) (by kernel_rfl) (by kernel_rfl) fun Gx gx ox => (some_out ox.1.row (by omega) (by omega) (by omega) (by omega))) ?_
    refine HOp.ev 5 ?_
    refine HOp.done (by kernel_rfl) ?_
    refine H.seq ?_
    refine H.sr (by kernel_rfl) ?_
    refine H.condT (by kernel_rfl) ?_
    refine H.sr (by kernel_rfl) ?_
    refine H.ret ?_
    refine bodyK_end (.tuple #[.slice none 0 0, .int .i64 5]) [⟨v6, 41, 64, bs.length, List.flatMap bts bs⟩] (resOk_of (s := .tup [.v (.slice none 0 0), .v (.int .i64 5)]) (by kernel_rfl) (by kernel_rfl)) (by kernel_rfl) fun G7 g7 ⟨p7a, _⟩ => ?_
    rotate_left
    · exact writeK_no (writeE_long (by omega)) (by omega)
    · exact writeK_no (writeE_form (by omega) (by omega)) (by omega)
    · exact writeK_no (writeE_out (by omega) (by omega) (by rw [← hql]; simpa using hw)) (by omega)
end Go.Proofs.Ytdfahkpjdjjalaa
