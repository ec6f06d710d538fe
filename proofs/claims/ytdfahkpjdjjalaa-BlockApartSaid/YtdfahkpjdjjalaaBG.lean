/- Contracts of the layer block: the reference's whole blocks, and what is behind them. -/
import Derived.Test.YtdfahkpjdjjalaaBF
import Derived.Test.YtdfahkpjdjjalaaVcRow
namespace Go.Proofs.Ytdfahkpjdjjalaa
open Go.RowKit Vc

theorem refSplit_ok {v : Value} {n : Nat} {xs : List Int} {G : GH} (h1 : Row G v 1 n (bts xs)) (hb : n < 100000) :
    FunR Try.prog 17 [v] G (SplitK xs) := by
  refine FunR.body Try.func17 rfl (by kernel_rfl) fun B hm hG => ?_
  subst hG
  have hx := h1.len
  rw [bts_length, Nat.mul_one] at hx
  refine H.sr (by kernel_rfl) ?_
  refine H.sr (by kernel_rfl) ?_
  refine H.sr (by kernel_rfl) ?_
  refine H.seq ?_
  refine H.block ?_
  -- LOOP from ⟨25, [(5, .v (.int .i64 0)), (4, .v (.slice none 0 0)), (3, .v (.slice none 0 0)), (2, .v (.slice none 0 0)), (0, .v (v))], [], []⟩
  rotate_left
  refine H.own0 41 64 ?_
  refine H.loop (X := Nat × Value) (fun x => ⟨25, [(5, .v (.int .i64 ((64 * x.1 : Nat) : Int))), (4, .v x.2), (0, .v v)], [], [⟨x.2, 41, 64, (cut64 xs x.1).length, (cut64 xs x.1).flatMap bts⟩]⟩)
    (fun x G' => 64 * x.1 ≤ n ∧ GExt B.G0 G') (fun x => n - 64 * x.1) (0, .slice none 0 0) (le_of (by kernel_rfl)) ⟨by simp, GExt.refl _⟩ (fun _ => by rw [hm]; exact Nat.zero_le _) ?_
  rintro ⟨q, l⟩ G3 ⟨hq, g3⟩
  dsimp only at hq ⊢
  generalize hi : ((64 * q : Nat) : Int) = i
  have hwd := cut64_wd (xs := xs) (q := q) (by omega)
  have hql := cut64_len xs q
  have ei := wrap_i64 (x := i + 64) (by omega) (by omega)
  have ht : i.toNat = 64 * q := by omega
  refine H.seq ?_
  refine H.seq (H.region (HOp.ev 3 ?_))
  refine HOp.rd (.len 25 (v)) (by kernel_rfl) (qlen h1) ?_
  refine HOp.ev 1 ?_
  refine HOp.done (by kernel_rfl) ?_
  refine H.ifd (IntKind.i64.wrap (i + 64) ≤ (↑n : Int)) (by kernel_rfl) (fun t20 => ?_) (fun t20 => ?_)
  -- STATE ⟨25, [(10, .v (.bool (decide (IntKind.i64.wrap (i + 64) ≤ (↑n : Int))))), (9, .v (.int .i64 ((↑n : Int)))), (8, .v (v)), (7, .v (.int .i64 (IntKind.i64.wrap (i + 64)))), (6, .v (.int .i64 i)), (5, .v (.int .i64 i)), (4, .v (l)), (0, .v (v))], [], [⟨l, 41, 64, (cut64 xs q).length, List.flatMap bts (cut64 xs q)⟩]⟩
  -- STATE ⟨25, [(10, .v (.bool (decide (IntKind.i64.wrap (i + 64) ≤ (↑n : Int))))), (9, .v (.int .i64 ((↑n : Int)))), (8, .v (v)), (7, .v (.int .i64 (IntKind.i64.wrap (i + 64)))), (6, .v (.int .i64 i)), (5, .v (.int .i64 i)), (4, .v (l)), (0, .v (v))], [], [⟨l, 41, 64, (cut64 xs q).length, List.flatMap bts (cut64 xs q)⟩]⟩
  · have hl : (bts ((xs.drop i.toNat).take 64)).length = 64 := by rw [bts_length, List.length_take, List.length_drop]; omega
    refine H.skip ?_
    refine H.block ?_
    refine H.seq (H.region (HOp.ev 3 ?_))
    -- HOp CALL 24 [v, .int .i64 i] (place 3)
    refine HOp.un (Stp.pureG 24 [v, .int .i64 i] (by kernel_rfl) (by kernel_rfl) (GExt.refl _) (of_ok (h1.mono g3) (by omega) (by omega) (by omega))) ?_
    refine HOp.ex (Stp.buildF 22 1 [(0, .agg ({ toList := bts (List.take 64 (List.drop i.toNat xs)) }))] (.int .u8 0) 41 64 64 (bts (List.take 64 (List.drop i.toNat xs))) (by kernel_rfl) (fill_one (by assumption)) (by rw [Nat.one_mul]; exact (by assumption)) (by omega) (by kernel_rfl)) fun v30 G30 g30 k30 => ?_
    refine HOp.nu (Stp.appendC (xs := cut64 xs q) (c := bts) 0 22 (l) (v30) 41 64 64 (by kernel_rfl) (by kernel_rfl) (RowC.lit k30) (fun _ _ _ => bts_one) (by simp only [List.length_cons, List.length_nil, List.length_append]; omega) (by kernel_rfl)) fun v31 => ?_
    refine HOp.ev 1 ?_
    refine HOp.done (by kernel_rfl) ?_
    refine H.reg (by kernel_rfl) ?_
    refine ex_st ⟨25, [(5, .v (.int .i64 (IntKind.i64.wrap (i + 64)))), (4, .v (v31)), (0, .v (v))], [], [⟨v31, 41, 64, (cut64 xs q ++ [List.take 64 (List.drop i.toNat xs)]).length, List.flatMap bts (cut64 xs q ++ [List.take 64 (List.drop i.toNat xs)])⟩]⟩ (by kernel_rfl) ?_
    rotate_left
    rw [ei, show i + 64 = ((64 * (q + 1) : Nat) : Int) by omega]
    refine ex_le (q + 1, v31) (by kernel_rfl) ?_ ⟨⟨by dsimp only; omega, g3.trans g30⟩, by dsimp only; omega⟩
    dsimp only
    rw [cut64_succ, ht]
  · refine H.exit ?_
    refine H.seq (H.region (HOp.ev 1 ?_))
    refine HOp.nu (Stp.buildS 25 0 [] (.int .u8 0) 5 1 1 [] (by kernel_rfl) rfl rfl (by omega) (by kernel_rfl)) fun v40 => ?_
    refine HOp.ev 2 ?_
    refine HOp.rd (.slice 25 (v) (some (.int .i64 i)) none) (by kernel_rfl) (qsliceL h1 (by omega) (by omega)) ?_
    refine HOp.nu (Stp.append 1 25 (v40) (subAt (v) 1 i.toNat n) 5 1 0 1 (by kernel_rfl) (by kernel_rfl) ((h1.mono g3).subB (by omega) (by omega)) (fun _ => bts_one) (by omega) (by kernel_rfl)) fun v41 => ?_
    refine HOp.ev 2 ?_
    refine HOp.done (by kernel_rfl) ?_
    refine H.ret ?_
    refine bodyK_end (.tuple #[l, v41]) [⟨l, 41, 64, (cut64 xs q).length, List.flatMap bts (cut64 xs q)⟩, ⟨v41, 5, 1, 0 + (n - i.toNat), [] ++ bts (List.take (n - i.toNat) (List.drop i.toNat xs))⟩] (resOk_of (s := .tup [.v (l), .v (v41)]) (by kernel_rfl) (by kernel_rfl)) (by kernel_rfl) fun G42 g42 ⟨p42a, p42b, _⟩ => ?_
    rotate_left
    have e1 : xs.length / 64 = q := by omega
    have e2 : xs.length % 64 = n - 64 * q := by omega
    refine ⟨l, v41, rfl, ?_, ?_⟩
    · rw [e1]; exact p42a.rowc hwd
    · rw [e1, e2]
      have h := p42b.row
      rw [Nat.zero_add, List.nil_append, ht, List.take_of_length_le (by rw [List.length_drop]; omega)] at h
      exact h
end Go.Proofs.Ytdfahkpjdjjalaa
