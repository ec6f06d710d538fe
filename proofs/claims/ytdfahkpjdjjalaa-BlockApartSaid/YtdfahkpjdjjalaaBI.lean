/- Contracts of the layer block: the reference's writing. -/
import Derived.Test.YtdfahkpjdjjalaaBH
import Derived.Test.YtdfahkpjdjjalaaVcRow
namespace Go.Proofs.Ytdfahkpjdjjalaa
open Go.RowKit Vc

theorem over_nil (bs : List (List Int)) (a : Nat) : over bs a [] = bs := by simp [over]
theorem over_set {bs : List (List Int)} {xs : List Int} {a i : Nat} (h : a + i < bs.length) : (over bs a (cut64 xs i)).set (a + i) ((xs.drop (64 * i)).take 64) = over bs a (cut64 xs (i + 1)) := by
  have hl : (cut64 xs i).length = i := cut64_len xs i
  have h1 : (bs.take a ++ cut64 xs i).length = a + i := by rw [List.length_append, List.length_take, hl]; omega
  rw [over, List.set_append_right _ _ (by omega), h1, Nat.sub_self, hl, List.drop_eq_getElem_cons h, List.set_cons_zero, over, cut64_succ]
  simp [hl, Nat.add_assoc]
theorem over_wd {bs own : List (List Int)} {a : Nat} (hb : ∀ b ∈ bs, (bts b).length = 64) (ho : ∀ b ∈ own, (bts b).length = 64) : ∀ b ∈ over bs a own, (bts b).length = 64 := fun b hb' => by
  simp only [over, List.mem_append] at hb'
  rcases hb' with (h | h) | h
  · exact hb b (List.mem_of_mem_take h)
  · exact ho b h
  · exact hb b (List.mem_of_mem_drop h)
theorem refWrite_ok {v b : Value} {m : Nat} {bs : List (List Int)} {xs : List Int} {a : Int} {G : GH} (h1 : RowC G v 64 bts bs) (h2 : Row G b 1 m (bts xs)) (hb : bs.length < 1000) (hm2 : m < 100000) (ha : 0 ≤ a) :
    FunR Try.prog 15 [v, .int .u64 a, b] G (WriteK bs a xs) := by
  refine FunR.body Try.func15 rfl (by kernel_rfl) fun B hm hG => ?_
  subst hG
  have hx := h2.len
  rw [bts_length, Nat.mul_one] at hx
  have hr : Int.tmod (m : Int) 64 = ((xs.length % 64 : Nat) : Int) := by rw [Int.tmod_eq_emod_of_nonneg (by omega)]; omega
  have hd : Int.tdiv (m : Int) 64 = ((xs.length / 64 : Nat) : Int) := by rw [Int.tdiv_eq_ediv_of_nonneg (by omega)]; omega
  have hk : IntKind.i64.wrap ((m : Int).tdiv 64) = ((xs.length / 64 : Nat) : Int) := by rw [hd]; exact wrap_i64 (by omega) (by omega)
  refine H.sr (by kernel_rfl) ?_
  refine H.seq ?_
  refine H.seq (H.region (HOp.ev 1 ?_))
  refine HOp.rd (.len 22 (v)) (by kernel_rfl) (qlen h1.row) ?_
  refine HOp.ev 1 ?_
  refine HOp.done (by kernel_rfl) ?_
  refine H.ifd ((↑bs.length : Int) > 64) (by kernel_rfl) (fun t1 => ?_) (fun t1 => ?_)
  refine H.sr (by kernel_rfl) ?_
  refine H.ret ?_
  refine bodyK_end (.tuple #[.slice none 0 0, .int .i64 4]) [] (resOk_of (s := .tup [.v (.slice none 0 0), .v (.int .i64 4)]) (by kernel_rfl) (by kernel_rfl)) (by kernel_rfl) fun G2 g2 _ => ?_
  rotate_left
  refine H.skip ?_
  refine H.seq ?_
  refine H.seq (H.region (HOp.ev 1 ?_))
  refine HOp.rd (.len 25 (b)) (by kernel_rfl) (qlen h2) ?_
  refine HOp.ev 2 ?_
  refine HOp.done (by kernel_rfl) ?_
  refine H.ifn ((↑m : Int).tmod 64) 0 (by kernel_rfl) (fun t3 => ?_) (fun t3 => ?_)
  refine H.sr (by kernel_rfl) ?_
  refine H.ret ?_
  refine bodyK_end (.tuple #[.slice none 0 0, .int .i64 3]) [] (resOk_of (s := .tup [.v (.slice none 0 0), .v (.int .i64 3)]) (by kernel_rfl) (by kernel_rfl)) (by kernel_rfl) fun G4 g4 _ => ?_
  rotate_left
  refine H.skip ?_
  refine H.seq (H.region (HOp.ev 1 ?_))
  refine HOp.rd (.len 25 (b)) (by kernel_rfl) (qlen h2) ?_
  refine HOp.ev 2 ?_
  refine HOp.done (by kernel_rfl) ?_
  refine H.seq ?_
  refine H.seq (H.region (HOp.ev 1 ?_))
  refine HOp.rd (.len 22 (v)) (by kernel_rfl) (qlen h1.row) ?_
  refine HOp.ev 2 ?_
  -- HOp CALL 12 [.int .i64 ((↑bs.length : Int)), .int .u64 a, .int .i64 (IntKind.i64.wrap ((↑m : Int).tdiv 64))] (place 4)
  refine HOp.un (Stp.pureF 12 [.int .i64 ((↑bs.length : Int)), .int .u64 a, .int .i64 (IntKind.i64.wrap ((↑m : Int).tdiv 64))] (by kernel_rfl) (by kernel_rfl) (refWithin_ok _ _ _ (by omega) (by omega))) ?_
  refine HOp.ev 1 ?_
  refine HOp.done (by kernel_rfl) ?_
  refine H.cond (!within (↑bs.length : Int) a (IntKind.i64.wrap ((↑m : Int).tdiv 64))) (by kernel_rfl) (fun t5 => ?_) (fun t5 => ?_)
  refine H.sr (by kernel_rfl) ?_
  refine H.ret ?_
  refine bodyK_end (.tuple #[.slice none 0 0, .int .i64 5]) [] (resOk_of (s := .tup [.v (.slice none 0 0), .v (.int .i64 5)]) (by kernel_rfl) (by kernel_rfl)) (by kernel_rfl) fun G6 g6 _ => ?_
  rotate_left
  refine H.skip ?_
  refine H.seq (H.region (HOp.ev 1 ?_))
  -- HOp CALL 13 [v] (place 1)
  refine HOp.nu (Stp.funN 13 [v] (by kernel_rfl) (by kernel_rfl) fun Gx gx => (copy_ok (h1.mono gx).row (RowC.one fun _ _ _ => bts_one) (by omega))) fun v7 => ?_
  refine HOp.ev 1 ?_
  refine HOp.done (by kernel_rfl) ?_
  refine H.seq ?_
  refine H.sr (by kernel_rfl) ?_
  refine H.block ?_
  -- LOOP from ⟨45, [(10, .v (.int .i64 0)), (9, .v (v7)), (28, .v (v7)), (27, .v (v)), (26, .v (.bool (!within (↑bs.length : Int) a (IntKind.i64.wrap ((↑m : Int).tdiv 64))))), (25, .v (.bool (within (↑bs.length : Int) a (IntKind.i64.wrap ((↑m : Int).tdiv 64))))), (24, .v (.int .i64 (IntKind.i64.wrap ((↑m : Int).tdiv 64)))), (23, .v (.int .u64 a)), (22, .v (.int .i64 ((↑bs.length : Int)))), (21, .v (v)), (8, .v (.int .i64 (IntKind.i64.wrap ((↑m : Int).tdiv 64)))), (20, .v (.int .i64 (IntKind.i64.wrap ((↑m : Int).tdiv 64)))), (19, .v (.int .i64 ((↑m : Int)))), (18, .v (b)), (17, .v (.bool ((↑m : Int).tmod 64 != 0))), (16, .v (.int .i64 ((↑m : Int).tmod 64))), (15, .v (.int .i64 ((↑m : Int)))), (14, .v (b)), (13, .v (.bool (decide ((↑bs.length : Int) > 64)))), (12, .v (.int .i64 ((↑bs.length : Int)))), (11, .v (v)), (7, .v (.int .i64 0)), (6, .v (.slice none 0 0)), (0, .v (v)), (1, .v (.int .u64 a)), (2, .v (b))], [], [⟨v7, 41, 64, bs.length, List.flatMap bts bs⟩]⟩
  rotate_left
  · exact writeK_no (writeE_long (by omega)) (by omega)
  · exact writeK_no (writeE_form (by omega) (by omega)) (by omega)
  · exact writeK_no (writeE_out (by omega) (by omega) (by rw [hk] at t5; simpa using t5)) (by omega)
  have hw : within bs.length a (xs.length / 64 : Nat) = true := by rw [hk] at t5; simpa using t5
  have hq := within_iff.1 hw
  have hE := writeE_in (by omega) (by omega) hw
  have ea := wrap_i64 (x := a) (by omega) (by omega)
  refine H.loop (X := Nat) (fun i => ⟨45, [(10, .v (.int .i64 i)), (9, .v v7), (8, .v (.int .i64 (IntKind.i64.wrap ((m : Int).tdiv 64)))), (0, .v v), (1, .v (.int .u64 a)), (2, .v b)], [], [⟨v7, 41, 64, (over bs a.toNat (cut64 xs i)).length, (over bs a.toNat (cut64 xs i)).flatMap bts⟩]⟩)
    (fun i G' => i ≤ xs.length / 64 ∧ GExt B.G0 G') (fun i => xs.length / 64 + 1 - i) 0 (le_k [⟨v7, 41, 64, bs.length, bs.flatMap bts⟩] (by kernel_rfl) (by simp [cut64, over_nil])) ⟨by simp, GExt.refl _⟩ (fun _ => by rw [hm]; exact Nat.zero_le _) ?_
  rintro i G1 ⟨hi, g1⟩
  have eb : IntKind.i64.wrap (IntKind.i64.wrap a + (i : Int)) = a + i := by rw [ea]; exact wrap_i64 (by omega) (by omega)
  have e64 : IntKind.i64.wrap (64 * (i : Int)) = ((64 * i : Nat) : Int) := by rw [wrap_i64 (by omega) (by omega)]; omega
  have hwd := over_wd (a := a.toNat) h1.wd (cut64_wd (xs := xs) (q := i) (by omega))
  have hol := over_len (bs := bs) (own := cut64 xs i) (a := a.toNat) (by rw [cut64_len]; omega)
  refine H.seq ?_
  refine H.sr (by kernel_rfl) ?_
  refine H.ifd ((↑i : Int) < IntKind.i64.wrap ((↑m : Int).tdiv 64)) (by kernel_rfl) (fun t20 => ?_) (fun t20 => ?_)
  refine H.skip ?_
  refine H.seq ?_
  refine H.block ?_
  -- STATE ⟨45, [(31, .v (.bool (decide ((↑i : Int) < IntKind.i64.wrap ((↑m : Int).tdiv 64))))), (30, .v (.int .i64 (IntKind.i64.wrap ((↑m : Int).tdiv 64)))), (29, .v (.int .i64 ((↑i : Int)))), (10, .v (.int .i64 ((↑i : Int)))), (9, .v (v7)), (8, .v (.int .i64 (IntKind.i64.wrap ((↑m : Int).tdiv 64)))), (0, .v (v)), (1, .v (.int .u64 a)), (2, .v (b))], [], [⟨v7, 41, 64, (over bs a.toNat (cut64 xs i)).length, List.flatMap bts (over bs a.toNat (cut64 xs i))⟩]⟩
  -- STATE ⟨45, [(31, .v (.bool (decide ((↑i : Int) < IntKind.i64.wrap ((↑m : Int).tdiv 64))))), (30, .v (.int .i64 (IntKind.i64.wrap ((↑m : Int).tdiv 64)))), (29, .v (.int .i64 ((↑i : Int)))), (10, .v (.int .i64 ((↑i : Int)))), (9, .v (v7)), (8, .v (.int .i64 (IntKind.i64.wrap ((↑m : Int).tdiv 64)))), (0, .v (v)), (1, .v (.int .u64 a)), (2, .v (b))], [], [⟨v7, 41, 64, (over bs a.toNat (cut64 xs i)).length, List.flatMap bts (over bs a.toNat (cut64 xs i))⟩]⟩
  · have hl : (bts ((xs.drop (IntKind.i64.wrap (64 * (i : Int))).toNat).take 64)).length = 64 := by rw [bts_length, List.length_take, List.length_drop]; omega
    refine H.region (HOp.ev 8 ?_)
    -- HOp CALL 24 [b, .int .i64 (IntKind.i64.wrap (64 * (↑i : Int)))] (place 8)
    refine HOp.un (Stp.pureG 24 [b, .int .i64 (IntKind.i64.wrap (64 * (↑i : Int)))] (by kernel_rfl) (by kernel_rfl) (GExt.refl _) (of_ok (h2.mono g1) (by omega) (by omega) (by omega))) ?_
    refine HOp.rdo 0 (v7) 41 64 ((over bs a.toNat (cut64 xs i)).length) (List.flatMap bts (over bs a.toNat (cut64 xs i))) (.idx 22 (v7) (.int .i64 (IntKind.i64.wrap (IntKind.i64.wrap a + (↑i : Int))))) (by kernel_rfl) (by kernel_rfl) (fun Gx gx o => (qidx o.row (by omega) (by omega))) ?_
    -- STORES 41 at ptrAt (v7) 64 (IntKind.i64.wrap (IntKind.i64.wrap a + (↑i : Int))) of .agg ({ toList := bts (List.take 64 (List.drop (IntKind.i64.wrap (64 * (↑i : Int))).toNat xs)) })
    refine HOp.un (Stp.storeC (xs := over bs a.toNat (cut64 xs i)) (c := bts) (y := List.take 64 (List.drop (IntKind.i64.wrap (64 * (↑i : Int))).toNat xs)) 0 41 (v7) 41 64 (IntKind.i64.wrap (IntKind.i64.wrap a + (↑i : Int))) (by kernel_rfl) (by kernel_rfl) (by assumption) (by omega) (by omega) (by assumption) (fun _ => bts_one) (by kernel_rfl)) ?_
    refine HOp.done (by kernel_rfl) ?_
    refine H.reg (by kernel_rfl) ?_
    refine ex_st ⟨45, [(10, .v (.int .i64 (IntKind.i64.wrap ((↑i : Int) + 1)))), (9, .v (v7)), (8, .v (.int .i64 (IntKind.i64.wrap ((↑m : Int).tdiv 64)))), (0, .v (v)), (1, .v (.int .u64 a)), (2, .v (b))], [], [⟨v7, 41, 64, ((over bs a.toNat (cut64 xs i)).set (IntKind.i64.wrap (IntKind.i64.wrap a + (↑i : Int))).toNat (List.take 64 (List.drop (IntKind.i64.wrap (64 * (↑i : Int))).toNat xs))).length, List.flatMap bts ((over bs a.toNat (cut64 xs i)).set (IntKind.i64.wrap (IntKind.i64.wrap a + (↑i : Int))).toNat (List.take 64 (List.drop (IntKind.i64.wrap (64 * (↑i : Int))).toNat xs)))⟩]⟩ (by kernel_rfl) ?_
    rotate_left
    rw [nat_wrap (i := i) (by omega)]
    refine ex_le (i + 1) (by kernel_rfl) ?_ ⟨⟨by omega, g1⟩, by omega⟩
    dsimp only
    rw [eb, e64, Int.toNat_natCast, show (a + (i : Int)).toNat = a.toNat + i by omega, over_set (by omega)]
  · refine H.exit ?_
    refine H.sr (by kernel_rfl) ?_
    refine H.ret ?_
    refine bodyK_end (.tuple #[v7, .int .i64 0]) [⟨v7, 41, 64, (over bs a.toNat (cut64 xs i)).length, List.flatMap bts (over bs a.toNat (cut64 xs i))⟩] (resOk_of (s := .tup [.v (v7), .v (.int .i64 0)]) (by kernel_rfl) (by kernel_rfl)) (by kernel_rfl) fun G40 g40 ⟨p40a, _⟩ => ?_
    rotate_left
    have e : i = xs.length / 64 := by omega
    subst e
    exact ⟨v7, by rw [hE], by rw [writeL_in hE]; exact p40a.rowc hwd⟩
end Go.Proofs.Ytdfahkpjdjjalaa
