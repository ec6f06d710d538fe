/- The law BlockApart of the layer block: its body always comes to true. -/
import Derived.Test.YtdfahkpjdjjalaaBP
import Derived.Test.YtdfahkpjdjjalaaVcRow
namespace Go.Proofs.Ytdfahkpjdjjalaa
open Go.RowKit Vc

theorem over_one {bs : List (List Int)} {i : Nat} {A : List Int} (h : i < bs.length) : over bs i [A] = bs.set i A := by
  rw [over, List.set_eq_take_append_cons_drop, if_pos h]; simp
/-- One block is written. -/
theorem wr_one {v b : Value} {bs : List (List Int)} {A : List Int} {a : Int} {X m : Nat} {G : GH} (h1 : RowC G v 64 bts bs) (h2 : Row G b 1 m (bts A)) (hX : a = (X : Int)) (hl : X < bs.length) (hb : bs.length ≤ 64) (hA : A.length = 64) :
    FunR Try.prog 14 [v, .int .u64 a, b] G (fun G' r => ∃ u, r = .tuple #[u, .int .i64 0] ∧ RowC G' u 64 bts (bs.set X A)) := by
  have := back_in (os := [A]) (a := a) (b := b) (m := m) h1 (by simpa using h2) (by simp [bts_length, hA]) hb (by simp) (by omega) (within_iff.2 ⟨by simp, by simp; omega, by simp; omega⟩)
  rwa [hX, Int.toNat_natCast, over_one hl, ← hX] at this
theorem same_q {v u : Value} {xs ys : List (List Int)} {G : GH} (h1 : RowC G v 64 bts xs) (h2 : RowC G u 64 bts ys) (he : xs = ys) (hb : xs.length < 1000) :
    PureG Try.prog 19 [v, u] G (.bool true) := by subst he; exact refSameE_ok h1 h2 hb
theorem set_wd {bs : List (List Int)} {i : Nat} {A : List Int} (h : ∀ b ∈ bs, (bts b).length = 64) (hA : A.length = 64) : ∀ b ∈ bs.set i A, (bts b).length = 64 := fun b hb => by
  rcases List.mem_or_eq_of_mem_set hb with h' | rfl
  · exact h b h'
  · rw [bts_length]; exact hA
theorem two {α : Type} : ∀ {l : List α}, l.length = 2 → ∃ a b, l = [a, b]
  | [a, b], _ => ⟨a, b, rfl⟩
  | [], h => by simp at h
  | [_], h => by simp at h
  | _ :: _ :: _ :: _, h => by simp at h
theorem tmod_nat {p : Int} {n : Nat} (h0 : 0 ≤ p) (hn : (n : Int) ≠ 0) : ∃ X : Nat, p.tmod n = (X : Int) ∧ X < n := by
  have h1 := Int.emod_nonneg p hn
  have h2 := Int.emod_lt_of_pos p (show (0 : Int) < n by omega)
  rw [Int.tmod_eq_emod_of_nonneg h0]
  exact ⟨(p % (n : Int)).toNat, by omega, by omega⟩
def fl (r : Int) (k : Nat) : List Int := List.replicate k r ++ List.replicate (64 - k) 0
theorem fl_len {r : Int} {k : Nat} (h : k ≤ 64) : (fl r k).length = 64 := by simp [fl]; omega
theorem fl_set {r : Int} {k : Nat} (h : k < 64) : (fl r k).set k r = fl r (k + 1) := set_rep h
theorem fl_zero (r : Int) : List.replicate 64 (Value.int .u8 0) = bts (fl r 0) := by simp [fl, bts_zero]
theorem blockApart_ok {v : Value} {bs : List (List Int)} {p q r s : Int} {G : GH} (h1 : RowC G v 64 bts bs) (hp : 0 ≤ p ∧ p ≤ 255) (hq : 0 ≤ q ∧ q ≤ 255) :
    PureG Try.prog 7 [v, .agg #[.int .u8 p, .int .u8 q], .agg #[.int .u8 r, .int .u8 s]] G (.bool true) := by
  refine PureG.body Try.func7 rfl (by kernel_rfl) fun B hm hG => ?_
  subst hG
  have hwd := h1.wd
  have ep : IntKind.i64.wrap p = p := wrap_i64 (by omega) (by omega)
  have eq : IntKind.i64.wrap q = q := wrap_i64 (by omega) (by omega)
  refine H.seq (H.region ?_)
  refine HOp.ex (Stp.boxF 43 (.agg #[.int .u8 p, .int .u8 q]) _ (by kernel_rfl) rfl) fun v1 G1 g1 k1 => ?_
  refine HOp.ex (Stp.boxF 43 (.agg #[.int .u8 r, .int .u8 s]) _ (by kernel_rfl) rfl) fun v2 G2 g2 k2 => ?_
  refine HOp.ev 1 ?_
  refine HOp.done (by kernel_rfl) ?_
  refine H.seq ?_
  refine H.seq (H.region ?_)
  -- HOp CALL 8 [] (place 0)
  refine HOp.un (Stp.pureG 8 [] (by kernel_rfl) (by kernel_rfl) (GExt.refl _) (alive_ok)) ?_
  refine HOp.ev 1 ?_
  refine HOp.done (by kernel_rfl) ?_
  refine H.condF (by kernel_rfl) ?_
  refine H.skip ?_
  refine H.seq ?_
  refine H.seq (H.region (HOp.ev 1 ?_))
  refine HOp.rd (.len 22 (v)) (by kernel_rfl) (qlen h1.row) ?_
  refine HOp.ev 2 ?_
  refine HOp.ife 23 ((↑bs.length : Int)) 0 (by kernel_rfl) (fun t3 => ?_) (fun t3 => ?_)
  refine HOp.ev 4 ?_
  refine HOp.done (by kernel_rfl) ?_
  refine H.condT (by kernel_rfl) ?_
  refine H.sr (by kernel_rfl) ?_
  refine H.ret ?_
  refine ⟨.v (.bool true), by kernel_rfl, ?_⟩
  rfl
  refine HOp.ev 1 ?_
  refine HOp.rd (.len 22 (v)) (by kernel_rfl) (qlen h1.row) ?_
  refine HOp.ev 2 ?_
  refine HOp.done (by kernel_rfl) ?_
  refine H.ifd ((↑bs.length : Int) > 64) (by kernel_rfl) (fun t4 => ?_) (fun t4 => ?_)
  refine H.sr (by kernel_rfl) ?_
  refine H.ret ?_
  refine ⟨.v (.bool true), by kernel_rfl, ?_⟩
  rfl
  refine H.skip ?_
  refine H.seq (Vir.draw [0, 1, 2, 3, 4, 5, 6, 7, 8, 9, 10, 11, 12, 13] (by kernel_rfl) (by kernel_rfl) ?_)
  refine Vir.ev (by kernel_rfl) [3, 9] ?_
  refine Vir.rd (by kernel_rfl) 0 (.idx 43 (v1) (.int .i64 0)) (by kernel_rfl) (qidxA 2 1 k1 (by omega) (by omega)) ?_
  refine Vir.rd (by kernel_rfl) 1 (.load 5 (ptrOff (v1) 1 0)) (by kernel_rfl) (cload (PAt.off (k1.mono g2) 1 0) rfl) ?_
  refine Vir.ev (by kernel_rfl) [2] ?_
  refine Vir.rd (by kernel_rfl) 4 (.len 22 (v)) (by kernel_rfl) (qlen h1.row) ?_
  refine Vir.rd (by kernel_rfl) 5 (.bin BinOp.rem 3 (.int .i64 (IntKind.i64.wrap p)) (.int .i64 ((↑bs.length : Int)))) (by kernel_rfl) (crem (by omega)) ?_
  refine Vir.ev (by kernel_rfl) [12] ?_
  refine Vir.rd (by kernel_rfl) 6 (.idx 43 (v1) (.int .i64 1)) (by kernel_rfl) (qidxA 2 1 k1 (by omega) (by omega)) ?_
  refine Vir.rd (by kernel_rfl) 7 (.load 5 (ptrOff (v1) 1 1)) (by kernel_rfl) (cload (PAt.off (k1.mono g2) 1 1) rfl) ?_
  refine Vir.ev (by kernel_rfl) [8] ?_
  refine Vir.rd (by kernel_rfl) 10 (.len 22 (v)) (by kernel_rfl) (qlen h1.row) ?_
  refine Vir.rd (by kernel_rfl) 11 (.bin BinOp.rem 3 (.int .i64 (IntKind.i64.wrap q)) (.int .i64 ((↑bs.length : Int)))) (by kernel_rfl) (crem (by omega)) ?_
  refine Vir.ev (by kernel_rfl) [13] ?_
  refine Vir.fin (by kernel_rfl) (by kernel_rfl) ?_
  refine H.seq ?_
  refine H.sr (by kernel_rfl) ?_
  refine H.ife ((IntKind.i64.wrap p).tmod (↑bs.length : Int)) ((IntKind.i64.wrap q).tmod (↑bs.length : Int)) (by kernel_rfl) (fun t5 => ?_) (fun t5 => ?_)
  refine H.sr (by kernel_rfl) ?_
  refine H.ret ?_
  refine ⟨.v (.bool true), by kernel_rfl, ?_⟩
  rfl
  refine H.skip ?_
  refine H.seq (Vir.draw [2, 3] (by kernel_rfl) (by kernel_rfl) ?_)
  refine Vir.loud (by kernel_rfl) [0, 1] (by kernel_rfl) ⟨?_, ?_, trivial⟩
  refine LStep.mf (Stp.makeF 25 .i64 .i64 64 (.int .u8 0) 5 1 1 (by kernel_rfl) (by omega) (by omega) (by kernel_rfl)) fun v6 fu6 => ?_
  refine ⟨ag_all [] [] (by kernel_rfl) (by kernel_rfl) trivial, ?_⟩
  refine Vir.ev (by kernel_rfl) [2] ?_
  refine Vir.loud (by kernel_rfl) [1] (by kernel_rfl) ⟨?_, trivial⟩
  refine LStep.mf (Stp.makeF 25 .i64 .i64 64 (.int .u8 0) 5 1 1 (by kernel_rfl) (by omega) (by omega) (by kernel_rfl)) fun v7 fu7 => ?_
  refine ⟨ag_all [2] [] (by kernel_rfl) (by kernel_rfl) trivial, ?_⟩
  refine Vir.ev (by kernel_rfl) [3] ?_
  refine Vir.fin (by kernel_rfl) (by kernel_rfl) ?_
  refine H.seq ?_
  refine H.sr (by kernel_rfl) ?_
  refine H.block ?_
  -- LOOP from ⟨135, [(11, .v (.int .i64 0)), (10, .v (v7)), (44, .v (v7)), (9, .v (v6)), (43, .v (v6)), (42, .v (.bool ((IntKind.i64.wrap p).tmod (↑bs.length : Int) == (IntKind.i64.wrap q).tmod (↑bs.length : Int)))), (41, .v (.int .i64 ((IntKind.i64.wrap q).tmod (↑bs.length : Int)))), (40, .v (.int .i64 ((IntKind.i64.wrap p).tmod (↑bs.length : Int)))), (8, .v (.int .i64 ((IntKind.i64.wrap q).tmod (↑bs.length : Int)))), (39, .v (.int .i64 ((IntKind.i64.wrap q).tmod (↑bs.length : Int)))), (38, .v (.int .i64 ((↑bs.length : Int)))), (36, .v (.int .i64 (IntKind.i64.wrap q))), (35, .v (.int .u8 q)), (34, .v (ptrOff (v1) 1 1)), (7, .v (.int .i64 ((IntKind.i64.wrap p).tmod (↑bs.length : Int)))), (33, .v (.int .i64 ((IntKind.i64.wrap p).tmod (↑bs.length : Int)))), (32, .v (.int .i64 ((↑bs.length : Int)))), (30, .v (.int .i64 (IntKind.i64.wrap p))), (29, .v (.int .u8 p)), (28, .v (ptrOff (v1) 1 0)), (37, .v (v)), (31, .v (v)), (27, .v (.bool (decide ((↑bs.length : Int) > 64)))), (26, .v (.bool (decide ((↑bs.length : Int) > 64)))), (25, .v (.int .i64 ((↑bs.length : Int)))), (24, .v (v)), (23, .v (.bool false)), (22, .v (.bool ((↑bs.length : Int) == 0))), (21, .v (.int .i64 ((↑bs.length : Int)))), (20, .v (v)), (19, .v (.bool false)), (18, .v (.bool true)), (6, .v (.bool false)), (5, .v (v2)), (4, .v (v1)), (0, .v (v)), (1, .v (.agg #[.int .u8 p, .int .u8 q])), (2, .v (.agg #[.int .u8 r, .int .u8 s]))], [], [⟨v6, 5, 1, 64, List.replicate (Int.toNat 64 * 1) (Value.int IntKind.u8 0)⟩, ⟨v7, 5, 1, 64, List.replicate (Int.toNat 64 * 1) (Value.int IntKind.u8 0)⟩]⟩
  rotate_left
  refine LStep.mf (Stp.makeF 25 .i64 .i64 64 (.int .u8 0) 5 1 1 (by kernel_rfl) (by omega) (by omega) (by kernel_rfl)) fun v8 fu8 => ?_
  refine ⟨ag_all [] [] (by kernel_rfl) (by kernel_rfl) trivial, ?_⟩
  refine Vir.loud (by kernel_rfl) [0] (by kernel_rfl) ⟨?_, trivial⟩
  refine LStep.mf (Stp.makeF 25 .i64 .i64 64 (.int .u8 0) 5 1 1 (by kernel_rfl) (by omega) (by omega) (by kernel_rfl)) fun v9 fu9 => ?_
  refine ⟨ag_all [] [] (by kernel_rfl) (by kernel_rfl) trivial, ?_⟩
  refine Vir.ev (by kernel_rfl) [2, 3] ?_
  refine Vir.fin (by kernel_rfl) (by kernel_rfl) ?_
  refine H.seq ?_
  refine H.sr (by kernel_rfl) ?_
  refine H.block ?_
  -- LOOP from ⟨135, [(11, .v (.int .i64 0)), (10, .v (v8)), (9, .v (v9)), (43, .v (v9)), (44, .v (v8)), (42, .v (.bool ((IntKind.i64.wrap p).tmod (↑bs.length : Int) == (IntKind.i64.wrap q).tmod (↑bs.length : Int)))), (41, .v (.int .i64 ((IntKind.i64.wrap q).tmod (↑bs.length : Int)))), (40, .v (.int .i64 ((IntKind.i64.wrap p).tmod (↑bs.length : Int)))), (8, .v (.int .i64 ((IntKind.i64.wrap q).tmod (↑bs.length : Int)))), (39, .v (.int .i64 ((IntKind.i64.wrap q).tmod (↑bs.length : Int)))), (38, .v (.int .i64 ((↑bs.length : Int)))), (36, .v (.int .i64 (IntKind.i64.wrap q))), (35, .v (.int .u8 q)), (34, .v (ptrOff (v1) 1 1)), (7, .v (.int .i64 ((IntKind.i64.wrap p).tmod (↑bs.length : Int)))), (33, .v (.int .i64 ((IntKind.i64.wrap p).tmod (↑bs.length : Int)))), (32, .v (.int .i64 ((↑bs.length : Int)))), (30, .v (.int .i64 (IntKind.i64.wrap p))), (29, .v (.int .u8 p)), (28, .v (ptrOff (v1) 1 0)), (37, .v (v)), (31, .v (v)), (27, .v (.bool (decide ((↑bs.length : Int) > 64)))), (26, .v (.bool (decide ((↑bs.length : Int) > 64)))), (25, .v (.int .i64 ((↑bs.length : Int)))), (24, .v (v)), (23, .v (.bool false)), (22, .v (.bool ((↑bs.length : Int) == 0))), (21, .v (.int .i64 ((↑bs.length : Int)))), (20, .v (v)), (19, .v (.bool false)), (18, .v (.bool true)), (6, .v (.bool false)), (5, .v (v2)), (4, .v (v1)), (0, .v (v)), (1, .v (.agg #[.int .u8 p, .int .u8 q])), (2, .v (.agg #[.int .u8 r, .int .u8 s]))], [], [⟨v8, 5, 1, 64, List.replicate (Int.toNat 64 * 1) (Value.int IntKind.u8 0)⟩, ⟨v9, 5, 1, 64, List.replicate (Int.toNat 64 * 1) (Value.int IntKind.u8 0)⟩]⟩
  rotate_left
  · obtain ⟨X, hX, hXl⟩ := tmod_nat (p := IntKind.i64.wrap p) (n := bs.length) (by omega) (by omega)
    obtain ⟨Y, hY, hYl⟩ := tmod_nat (p := IntKind.i64.wrap q) (n := bs.length) (by omega) (by omega)
    have hXu : IntKind.u64.wrap ((IntKind.i64.wrap p).tmod (bs.length : Int)) = (X : Int) := by rw [hX]; exact wrap_u64 (by omega) (by omega)
    have hYu : IntKind.u64.wrap ((IntKind.i64.wrap q).tmod (bs.length : Int)) = (Y : Int) := by rw [hY]; exact wrap_u64 (by omega) (by omega)
    have hXY : X ≠ Y := by omega
    refine H.loop (X := Nat) (fun k => ⟨135, [(11, .v (.int .i64 k)), (5, .v v2), (9, .v v6), (10, .v v7), (7, .v (.int .i64 ((IntKind.i64.wrap p).tmod (bs.length : Int)))), (8, .v (.int .i64 ((IntKind.i64.wrap q).tmod (bs.length : Int)))), (0, .v v)], [], [⟨v6, 5, 1, (fl r k).length, bts (fl r k)⟩, ⟨v7, 5, 1, (fl s k).length, bts (fl s k)⟩]⟩)
      (fun k G' => k ≤ 64 ∧ GExt G2 G') (fun k => 65 - k) 0 (le_k [⟨v6, 5, 1, 64, List.replicate (Int.toNat 64 * 1) (Value.int IntKind.u8 0)⟩, ⟨v7, 5, 1, 64, List.replicate (Int.toNat 64 * 1) (Value.int IntKind.u8 0)⟩] (by kernel_rfl) (by simp only [show Int.toNat 64 * 1 = 64 from rfl, fl_len (Nat.zero_le 64)]; rw [← fl_zero r, ← fl_zero s])) ⟨by simp, GExt.refl _⟩ (fun _ => by rw [hm]; exact Nat.zero_le _) ?_
    rintro k G3 ⟨hk, g3⟩
    have hl1 := fl_len (r := r) hk
    have hl2 := fl_len (r := s) hk
    refine H.seq ?_
    refine H.sr (by kernel_rfl) ?_
    refine H.ifd ((↑k : Int) < 64) (by kernel_rfl) (fun t100 => ?_) (fun t100 => ?_)
    refine H.skip ?_
    -- STATE ⟨135, [(46, .v (.bool (decide ((↑k : Int) < 64)))), (45, .v (.int .i64 ((↑k : Int)))), (11, .v (.int .i64 ((↑k : Int)))), (5, .v (v2)), (9, .v (v6)), (10, .v (v7)), (7, .v (.int .i64 ((IntKind.i64.wrap p).tmod (↑bs.length : Int)))), (8, .v (.int .i64 ((IntKind.i64.wrap q).tmod (↑bs.length : Int)))), (0, .v (v))], [], [⟨v6, 5, 1, (fl r k).length, bts (fl r k)⟩, ⟨v7, 5, 1, (fl s k).length, bts (fl s k)⟩]⟩
    · refine H.seq ?_
      refine H.block ?_
      refine Vir.draw [0, 1, 2, 3, 4, 5, 6, 7, 8, 10] (by kernel_rfl) (by kernel_rfl) ?_
      refine Vir.ev (by kernel_rfl) [0, 1, 2, 3] ?_
      refine Vir.rd (by kernel_rfl) 4 (.idx 43 (v2) (.int .i64 0)) (by kernel_rfl) (qidxA 2 1 k2 (by omega) (by omega)) ?_
      refine Vir.rd (by kernel_rfl) 5 (.load 5 (ptrOff (v2) 1 0)) (by kernel_rfl) (cload (PAt.off (k2.mono g3) 1 0) rfl) ?_
      refine Vir.rd (by kernel_rfl) 6 (.idx 43 (v2) (.int .i64 1)) (by kernel_rfl) (qidxA 2 1 k2 (by omega) (by omega)) ?_
      refine Vir.rd (by kernel_rfl) 7 (.load 5 (ptrOff (v2) 1 1)) (by kernel_rfl) (cload (PAt.off (k2.mono g3) 1 1) rfl) ?_
      refine VirP.hd 0 (v := v6) (e := 5) (w := 1) (n := (fl r k).length) (by kernel_rfl) fun hd110 => ?_
      refine Vir.rd (by kernel_rfl) 8 (.idx 25 (v6) (.int .i64 ((↑k : Int)))) (by kernel_rfl) (hidx 1 hd110 (by omega) (by omega)) ?_
      refine Vir.loud (by kernel_rfl) [9] (by kernel_rfl) ⟨?_, trivial⟩
      -- STORES 5 at ptrAt (v6) 1 ((↑k : Int)) of .int .u8 r
      refine LStep.un (Stp.storeB (xs := fl r k) (z := r) 0 5 (v6) 5 ((↑k : Int)) (by kernel_rfl) (by kernel_rfl) (by omega) (by omega) (by kernel_rfl)) ?_
      refine ⟨ag_all [3, 2] [7, 6] (by kernel_rfl) (by kernel_rfl) ⟨?_, ?_, trivial⟩, ?_⟩
      refine Again.rd (.load 5 (ptrOff (v2) 1 1)) (by kernel_rfl) (cload (PAt.off (k2.mono g3) 1 1) rfl)
      refine Again.rd (.idx 43 (v2) (.int .i64 1)) (by kernel_rfl) (qidxA 2 1 k2 (by omega) (by omega))
      refine VirP.hd 1 (v := v7) (e := 5) (w := 1) (n := (fl s k).length) (by kernel_rfl) fun hd111 => ?_
      refine Vir.rd (by kernel_rfl) 10 (.idx 25 (v7) (.int .i64 ((↑k : Int)))) (by kernel_rfl) (hidx 1 hd111 (by omega) (by omega)) ?_
      refine Vir.loud (by kernel_rfl) [11] (by kernel_rfl) ⟨?_, trivial⟩
      -- STORES 5 at ptrAt (v7) 1 ((↑k : Int)) of .int .u8 s
      refine LStep.un (Stp.storeB (xs := fl s k) (z := s) 1 5 (v7) 5 ((↑k : Int)) (by kernel_rfl) (by kernel_rfl) (by omega) (by omega) (by kernel_rfl)) ?_
      refine ⟨ag_all [] [] (by kernel_rfl) (by kernel_rfl) trivial, ?_⟩
      refine Vir.fin (by kernel_rfl) (by kernel_rfl) ?_
      refine H.reg (by kernel_rfl) ?_
      refine ex_st ⟨135, [(11, .v (.int .i64 (IntKind.i64.wrap ((↑k : Int) + 1)))), (5, .v (v2)), (9, .v (v6)), (10, .v (v7)), (7, .v (.int .i64 ((IntKind.i64.wrap p).tmod (↑bs.length : Int)))), (8, .v (.int .i64 ((IntKind.i64.wrap q).tmod (↑bs.length : Int)))), (0, .v (v))], [], [⟨v6, 5, 1, ((fl r k).set (↑k : Int).toNat r).length, bts ((fl r k).set (↑k : Int).toNat r)⟩, ⟨v7, 5, 1, ((fl s k).set (↑k : Int).toNat s).length, bts ((fl s k).set (↑k : Int).toNat s)⟩]⟩ (by kernel_rfl) ?_
      rotate_left
      all_goals
        rw [nat_wrap (i := k) (by omega)]
        refine ex_le (k + 1) (by kernel_rfl) ?_ ⟨⟨by omega, g3⟩, by omega⟩
        dsimp only
        rw [Int.toNat_natCast, fl_set (by omega), fl_set (by omega)]
    · have e : k = 64 := by omega
      subst e
      generalize hA : fl r 64 = A at *
      generalize hD : fl s 64 = D at *
      have hAl : (bts A).length = 64 := by rw [bts_length]; exact hl1
      have hDl : (bts D).length = 64 := by rw [bts_length]; exact hl2
      have hs1 : (bs.set X A).length = bs.length := List.length_set
      have hs2 : (bs.set Y D).length = bs.length := List.length_set
      have hs3 : ((bs.set X A).set Y D).length = bs.length := by rw [List.length_set, List.length_set]
      have hc : (bs.set X A).set Y D = (bs.set Y D).set X A := List.set_comm _ _ hXY
      have hmx : ((bs.set X A).set Y D)[((IntKind.i64.wrap p).tmod (bs.length : Int)).toNat]? = some A := by rw [hX, Int.toNat_natCast, List.getElem?_set_ne (fun h => hXY h.symm), List.getElem?_set_self hXl]
      have hmy : ((bs.set X A).set Y D)[((IntKind.i64.wrap q).tmod (bs.length : Int)).toNat]? = some D := by rw [hY, Int.toNat_natCast, List.getElem?_set_self (by omega)]
      refine H.exit ?_
      refine H.seq (H.region (HOp.ev 4 ?_))
      -- HOp CALL 14 [v, .int .u64 (IntKind.u64.wrap ((IntKind.i64.wrap p).tmod (↑bs.length : Int))), v6] (place 4)
      refine HOp.freeze 0 (v6) 5 1 A.length (bts A) (by kernel_rfl) fun G120 g120 o120 => ?_
      -- HOp CALL 14 [v, .int .u64 (IntKind.u64.wrap ((IntKind.i64.wrap p).tmod (↑bs.length : Int))), v6] (place 4)
      refine HOp.fr (Stp.funR 14 [v, .int .u64 (IntKind.u64.wrap ((IntKind.i64.wrap p).tmod (↑bs.length : Int))), v6] (by kernel_rfl) (by kernel_rfl) (GExt.refl _) (wr_one (h1.mono (((g1.trans g2).trans g3).trans g120)) o120.row hXu (by omega) (by omega) hl1)) ?_
      rintro v121 H121 G121 g121 f121 ⟨l121, rfl, hl121⟩
      refine HOp.ev 5 ?_
      refine HOp.done (by kernel_rfl) ?_
      refine H.seq (H.region (HOp.ev 4 ?_))
      -- HOp CALL 14 [l121, .int .u64 (IntKind.u64.wrap ((IntKind.i64.wrap q).tmod (↑bs.length : Int))), v7] (place 4)
      refine HOp.freeze 0 (v7) 5 1 D.length (bts D) (by kernel_rfl) fun G122 g122 o122 => ?_
      -- HOp CALL 14 [l121, .int .u64 (IntKind.u64.wrap ((IntKind.i64.wrap q).tmod (↑bs.length : Int))), v7] (place 4)
      refine HOp.fr (Stp.funR 14 [l121, .int .u64 (IntKind.u64.wrap ((IntKind.i64.wrap q).tmod (↑bs.length : Int))), v7] (by kernel_rfl) (by kernel_rfl) (GExt.refl _) (wr_one (hl121.mono (f121.trans g122)) o122.row hYu (by omega) (by omega) hl2)) ?_
      rintro v123 H123 G123 g123 f123 ⟨l123, rfl, hl123⟩
      refine HOp.ev 5 ?_
      refine HOp.done (by kernel_rfl) ?_
      refine H.seq (H.region (HOp.ev 4 ?_))
      -- HOp CALL 14 [v, .int .u64 (IntKind.u64.wrap ((IntKind.i64.wrap q).tmod (↑bs.length : Int))), v7] (place 4)
      refine HOp.fr (Stp.funR 14 [v, .int .u64 (IntKind.u64.wrap ((IntKind.i64.wrap q).tmod (↑bs.length : Int))), v7] (by kernel_rfl) (by kernel_rfl) (GExt.refl _) (wr_one (h1.mono ((((((g1.trans g2).trans g3).trans g120).trans g121).trans g122).trans g123)) (o122.row.mono g123) hYu (by omega) (by omega) hl2)) ?_
      rintro v124 H124 G124 g124 f124 ⟨l124, rfl, hl124⟩
      refine HOp.ev 5 ?_
      refine HOp.done (by kernel_rfl) ?_
      refine H.seq (H.region (HOp.ev 4 ?_))
      -- HOp CALL 14 [l124, .int .u64 (IntKind.u64.wrap ((IntKind.i64.wrap p).tmod (↑bs.length : Int))), v6] (place 4)
      refine HOp.fr (Stp.funR 14 [l124, .int .u64 (IntKind.u64.wrap ((IntKind.i64.wrap p).tmod (↑bs.length : Int))), v6] (by kernel_rfl) (by kernel_rfl) (GExt.refl _) (wr_one (hl124.mono f124) (o120.row.mono (((g121.trans g122).trans g123).trans g124)) hXu (by omega) (by omega) hl1)) ?_
      rintro v125 H125 G125 g125 f125 ⟨l125, rfl, hl125⟩
      refine HOp.ev 5 ?_
      refine HOp.done (by kernel_rfl) ?_
      refine H.seq ?_
      refine H.seq (H.region (HOp.ev 16 ?_))
      refine HOp.rd (.len 22 (l123)) (by kernel_rfl) (qlen hl123.row) ?_
      refine HOp.ev 1 ?_
      refine HOp.rd (.len 22 (v)) (by kernel_rfl) (qlen h1.row) ?_
      refine HOp.ev 2 ?_
      refine HOp.done (by kernel_rfl) ?_
      refine H.ifn ((↑((bs.set X A).set Y D).length : Int)) ((↑bs.length : Int)) (by kernel_rfl) (fun t126 => ?_) (fun t126 => ?_)
      omega
      refine H.skip ?_
      refine H.seq (Vir.draw [0, 1, 3, 4, 5, 6, 7, 8, 9, 10, 11, 12, 13, 14, 15, 16, 17, 18, 19, 20, 21, 22, 23] (by kernel_rfl) (by kernel_rfl) ?_)
      refine Vir.ev (by kernel_rfl) [0, 1] ?_
      refine Vir.loud (by kernel_rfl) [2] (by kernel_rfl) ⟨?_, trivial⟩
      -- LStep CALL 19 [l123, l125] (place 2)
      refine LStep.un (Stp.pureG 19 [l123, l125] (by kernel_rfl) (by kernel_rfl) (GExt.refl _) (same_q (hl123.mono ((f123.trans g124).trans g125)) (hl125.mono f125) hc (by omega))) ?_
      refine ⟨ag_all [] [] (by kernel_rfl) (by kernel_rfl) trivial, ?_⟩
      refine Vir.ev (by kernel_rfl) [3, 4, 5, 9] ?_
      refine Vir.rd (by kernel_rfl) 6 (.idx 22 (l123) (.int .i64 ((IntKind.i64.wrap p).tmod (↑bs.length : Int)))) (by kernel_rfl) (qidx hl123.row (by omega) (by omega)) ?_
      refine Vir.rd (by kernel_rfl) 7 (.slice 41 (ptrAt (l123) 64 ((IntKind.i64.wrap p).tmod (↑bs.length : Int))) none none) (by kernel_rfl) (qsliceA 64 1 (hl123.ptr (by omega) hmx)) ?_
      refine Vir.rd (by kernel_rfl) 8 (.conv 25 9 (sliceOf (ptrAt (l123) 64 ((IntKind.i64.wrap p).tmod (↑bs.length : Int))) 64)) (by kernel_rfl) (cstr (((hl123.mono ((f123.trans g124).trans g125)).ptr (by omega) hmx).row 1 64 (by omega))) ?_
      refine Vir.rd (by kernel_rfl) 10 (.conv 25 9 (v6)) (by kernel_rfl) (cstr (o120.row.mono ((((g121.trans g122).trans g123).trans g124).trans g125))) ?_
      refine Vir.ev (by kernel_rfl) [11, 12, 13] ?_
      refine VirP.guard 125 ((strOf A).toList == (strOf A).toList) (by kernel_rfl) (fun t127 => ?_) (fun t127 => ?_)
      refine Vir.ev (by kernel_rfl) [14, 15, 19] ?_
      refine Vir.rd (by kernel_rfl) 16 (.idx 22 (l123) (.int .i64 ((IntKind.i64.wrap q).tmod (↑bs.length : Int)))) (by kernel_rfl) (qidx hl123.row (by omega) (by omega)) ?_
      refine Vir.rd (by kernel_rfl) 17 (.slice 41 (ptrAt (l123) 64 ((IntKind.i64.wrap q).tmod (↑bs.length : Int))) none none) (by kernel_rfl) (qsliceA 64 1 (hl123.ptr (by omega) hmy)) ?_
      refine Vir.rd (by kernel_rfl) 18 (.conv 25 9 (sliceOf (ptrAt (l123) 64 ((IntKind.i64.wrap q).tmod (↑bs.length : Int))) 64)) (by kernel_rfl) (cstr (((hl123.mono ((f123.trans g124).trans g125)).ptr (by omega) hmy).row 1 64 (by omega))) ?_
      refine Vir.rd (by kernel_rfl) 20 (.conv 25 9 (v7)) (by kernel_rfl) (cstr (o122.row.mono ((g123.trans g124).trans g125))) ?_
      refine Vir.ev (by kernel_rfl) [21, 22, 23] ?_
      refine Vir.fin (by kernel_rfl) (by kernel_rfl) ?_
      refine H.ret ?_
      refine ⟨.v (.bool ((strOf D).toList == (strOf D).toList)), by kernel_rfl, ?_⟩
      rotate_left
      simp at t127
      exact ret_b (by simp)
  · obtain ⟨X, hX, hXl⟩ := tmod_nat (p := IntKind.i64.wrap p) (n := bs.length) (by omega) (by omega)
    obtain ⟨Y, hY, hYl⟩ := tmod_nat (p := IntKind.i64.wrap q) (n := bs.length) (by omega) (by omega)
    have hXu : IntKind.u64.wrap ((IntKind.i64.wrap p).tmod (bs.length : Int)) = (X : Int) := by rw [hX]; exact wrap_u64 (by omega) (by omega)
    have hYu : IntKind.u64.wrap ((IntKind.i64.wrap q).tmod (bs.length : Int)) = (Y : Int) := by rw [hY]; exact wrap_u64 (by omega) (by omega)
    have hXY : X ≠ Y := by omega
    refine H.loop (X := Nat) (fun k => ⟨135, [(11, .v (.int .i64 k)), (5, .v v2), (9, .v v9), (10, .v v8), (7, .v (.int .i64 ((IntKind.i64.wrap p).tmod (bs.length : Int)))), (8, .v (.int .i64 ((IntKind.i64.wrap q).tmod (bs.length : Int)))), (0, .v v)], [], [⟨v8, 5, 1, (fl s k).length, bts (fl s k)⟩, ⟨v9, 5, 1, (fl r k).length, bts (fl r k)⟩]⟩)
      (fun k G' => k ≤ 64 ∧ GExt G2 G') (fun k => 65 - k) 0 (le_k [⟨v8, 5, 1, 64, List.replicate (Int.toNat 64 * 1) (Value.int IntKind.u8 0)⟩, ⟨v9, 5, 1, 64, List.replicate (Int.toNat 64 * 1) (Value.int IntKind.u8 0)⟩] (by kernel_rfl) (by simp only [show Int.toNat 64 * 1 = 64 from rfl, fl_len (Nat.zero_le 64)]; rw [← fl_zero r, ← fl_zero s])) ⟨by simp, GExt.refl _⟩ (fun _ => by rw [hm]; exact Nat.zero_le _) ?_
    rintro k G3 ⟨hk, g3⟩
    have hl1 := fl_len (r := r) hk
    have hl2 := fl_len (r := s) hk
    refine H.seq ?_
    refine H.sr (by kernel_rfl) ?_
    refine H.ifd ((↑k : Int) < 64) (by kernel_rfl) (fun t200 => ?_) (fun t200 => ?_)
    refine H.skip ?_
    -- STATE ⟨135, [(46, .v (.bool (decide ((↑k : Int) < 64)))), (45, .v (.int .i64 ((↑k : Int)))), (11, .v (.int .i64 ((↑k : Int)))), (5, .v (v2)), (9, .v (v9)), (10, .v (v8)), (7, .v (.int .i64 ((IntKind.i64.wrap p).tmod (↑bs.length : Int)))), (8, .v (.int .i64 ((IntKind.i64.wrap q).tmod (↑bs.length : Int)))), (0, .v (v))], [], [⟨v8, 5, 1, (fl s k).length, bts (fl s k)⟩, ⟨v9, 5, 1, (fl r k).length, bts (fl r k)⟩]⟩
    · refine H.seq ?_
      refine H.block ?_
      refine Vir.draw [0, 1, 2, 3, 4, 5, 6, 7, 8, 10] (by kernel_rfl) (by kernel_rfl) ?_
      refine Vir.ev (by kernel_rfl) [0, 1, 2, 3] ?_
      refine Vir.rd (by kernel_rfl) 4 (.idx 43 (v2) (.int .i64 0)) (by kernel_rfl) (qidxA 2 1 k2 (by omega) (by omega)) ?_
      refine Vir.rd (by kernel_rfl) 5 (.load 5 (ptrOff (v2) 1 0)) (by kernel_rfl) (cload (PAt.off (k2.mono g3) 1 0) rfl) ?_
      refine Vir.rd (by kernel_rfl) 6 (.idx 43 (v2) (.int .i64 1)) (by kernel_rfl) (qidxA 2 1 k2 (by omega) (by omega)) ?_
      refine Vir.rd (by kernel_rfl) 7 (.load 5 (ptrOff (v2) 1 1)) (by kernel_rfl) (cload (PAt.off (k2.mono g3) 1 1) rfl) ?_
      refine VirP.hd 1 (v := v9) (e := 5) (w := 1) (n := (fl r k).length) (by kernel_rfl) fun hd210 => ?_
      refine Vir.rd (by kernel_rfl) 8 (.idx 25 (v9) (.int .i64 ((↑k : Int)))) (by kernel_rfl) (hidx 1 hd210 (by omega) (by omega)) ?_
      refine Vir.loud (by kernel_rfl) [9] (by kernel_rfl) ⟨?_, trivial⟩
      -- STORES 5 at ptrAt (v9) 1 ((↑k : Int)) of .int .u8 r
      refine LStep.un (Stp.storeB (xs := fl r k) (z := r) 1 5 (v9) 5 ((↑k : Int)) (by kernel_rfl) (by kernel_rfl) (by omega) (by omega) (by kernel_rfl)) ?_
      refine ⟨ag_all [3, 2] [7, 6] (by kernel_rfl) (by kernel_rfl) ⟨?_, ?_, trivial⟩, ?_⟩
      refine Again.rd (.load 5 (ptrOff (v2) 1 1)) (by kernel_rfl) (cload (PAt.off (k2.mono g3) 1 1) rfl)
      refine Again.rd (.idx 43 (v2) (.int .i64 1)) (by kernel_rfl) (qidxA 2 1 k2 (by omega) (by omega))
      refine VirP.hd 0 (v := v8) (e := 5) (w := 1) (n := (fl s k).length) (by kernel_rfl) fun hd211 => ?_
      refine Vir.rd (by kernel_rfl) 10 (.idx 25 (v8) (.int .i64 ((↑k : Int)))) (by kernel_rfl) (hidx 1 hd211 (by omega) (by omega)) ?_
      refine Vir.loud (by kernel_rfl) [11] (by kernel_rfl) ⟨?_, trivial⟩
      -- STORES 5 at ptrAt (v8) 1 ((↑k : Int)) of .int .u8 s
      refine LStep.un (Stp.storeB (xs := fl s k) (z := s) 0 5 (v8) 5 ((↑k : Int)) (by kernel_rfl) (by kernel_rfl) (by omega) (by omega) (by kernel_rfl)) ?_
      refine ⟨ag_all [] [] (by kernel_rfl) (by kernel_rfl) trivial, ?_⟩
      refine Vir.fin (by kernel_rfl) (by kernel_rfl) ?_
      refine H.reg (by kernel_rfl) ?_
      refine ex_st ⟨135, [(11, .v (.int .i64 (IntKind.i64.wrap ((↑k : Int) + 1)))), (5, .v (v2)), (9, .v (v9)), (10, .v (v8)), (7, .v (.int .i64 ((IntKind.i64.wrap p).tmod (↑bs.length : Int)))), (8, .v (.int .i64 ((IntKind.i64.wrap q).tmod (↑bs.length : Int)))), (0, .v (v))], [], [⟨v8, 5, 1, ((fl s k).set (↑k : Int).toNat s).length, bts ((fl s k).set (↑k : Int).toNat s)⟩, ⟨v9, 5, 1, ((fl r k).set (↑k : Int).toNat r).length, bts ((fl r k).set (↑k : Int).toNat r)⟩]⟩ (by kernel_rfl) ?_
      rotate_left
      all_goals
        rw [nat_wrap (i := k) (by omega)]
        refine ex_le (k + 1) (by kernel_rfl) ?_ ⟨⟨by omega, g3⟩, by omega⟩
        dsimp only
        rw [Int.toNat_natCast, fl_set (by omega), fl_set (by omega)]
    · have e : k = 64 := by omega
      subst e
      generalize hA : fl r 64 = A at *
      generalize hD : fl s 64 = D at *
      have hAl : (bts A).length = 64 := by rw [bts_length]; exact hl1
      have hDl : (bts D).length = 64 := by rw [bts_length]; exact hl2
      have hs1 : (bs.set X A).length = bs.length := List.length_set
      have hs2 : (bs.set Y D).length = bs.length := List.length_set
      have hs3 : ((bs.set X A).set Y D).length = bs.length := by rw [List.length_set, List.length_set]
      have hc : (bs.set X A).set Y D = (bs.set Y D).set X A := List.set_comm _ _ hXY
      have hmx : ((bs.set X A).set Y D)[((IntKind.i64.wrap p).tmod (bs.length : Int)).toNat]? = some A := by rw [hX, Int.toNat_natCast, List.getElem?_set_ne (fun h => hXY h.symm), List.getElem?_set_self hXl]
      have hmy : ((bs.set X A).set Y D)[((IntKind.i64.wrap q).tmod (bs.length : Int)).toNat]? = some D := by rw [hY, Int.toNat_natCast, List.getElem?_set_self (by omega)]
      refine H.exit ?_
      refine H.seq (H.region (HOp.ev 4 ?_))
      -- HOp CALL 14 [v, .int .u64 (IntKind.u64.wrap ((IntKind.i64.wrap p).tmod (↑bs.length : Int))), v9] (place 4)
      refine HOp.freeze 1 (v9) 5 1 A.length (bts A) (by kernel_rfl) fun G220 g220 o220 => ?_
      -- HOp CALL 14 [v, .int .u64 (IntKind.u64.wrap ((IntKind.i64.wrap p).tmod (↑bs.length : Int))), v9] (place 4)
      refine HOp.fr (Stp.funR 14 [v, .int .u64 (IntKind.u64.wrap ((IntKind.i64.wrap p).tmod (↑bs.length : Int))), v9] (by kernel_rfl) (by kernel_rfl) (GExt.refl _) (wr_one (h1.mono (((g1.trans g2).trans g3).trans g220)) o220.row hXu (by omega) (by omega) hl1)) ?_
      rintro v221 H221 G221 g221 f221 ⟨l221, rfl, hl221⟩
      refine HOp.ev 5 ?_
      refine HOp.done (by kernel_rfl) ?_
      refine H.seq (H.region (HOp.ev 4 ?_))
      -- HOp CALL 14 [l221, .int .u64 (IntKind.u64.wrap ((IntKind.i64.wrap q).tmod (↑bs.length : Int))), v8] (place 4)
      refine HOp.freeze 0 (v8) 5 1 D.length (bts D) (by kernel_rfl) fun G222 g222 o222 => ?_
      -- HOp CALL 14 [l221, .int .u64 (IntKind.u64.wrap ((IntKind.i64.wrap q).tmod (↑bs.length : Int))), v8] (place 4)
      refine HOp.fr (Stp.funR 14 [l221, .int .u64 (IntKind.u64.wrap ((IntKind.i64.wrap q).tmod (↑bs.length : Int))), v8] (by kernel_rfl) (by kernel_rfl) (GExt.refl _) (wr_one (hl221.mono (f221.trans g222)) o222.row hYu (by omega) (by omega) hl2)) ?_
      rintro v223 H223 G223 g223 f223 ⟨l223, rfl, hl223⟩
      refine HOp.ev 5 ?_
      refine HOp.done (by kernel_rfl) ?_
      refine H.seq (H.region (HOp.ev 4 ?_))
      -- HOp CALL 14 [v, .int .u64 (IntKind.u64.wrap ((IntKind.i64.wrap q).tmod (↑bs.length : Int))), v8] (place 4)
      refine HOp.fr (Stp.funR 14 [v, .int .u64 (IntKind.u64.wrap ((IntKind.i64.wrap q).tmod (↑bs.length : Int))), v8] (by kernel_rfl) (by kernel_rfl) (GExt.refl _) (wr_one (h1.mono ((((((g1.trans g2).trans g3).trans g220).trans g221).trans g222).trans g223)) (o222.row.mono g223) hYu (by omega) (by omega) hl2)) ?_
      rintro v224 H224 G224 g224 f224 ⟨l224, rfl, hl224⟩
      refine HOp.ev 5 ?_
      refine HOp.done (by kernel_rfl) ?_
      refine H.seq (H.region (HOp.ev 4 ?_))
      -- HOp CALL 14 [l224, .int .u64 (IntKind.u64.wrap ((IntKind.i64.wrap p).tmod (↑bs.length : Int))), v9] (place 4)
      refine HOp.fr (Stp.funR 14 [l224, .int .u64 (IntKind.u64.wrap ((IntKind.i64.wrap p).tmod (↑bs.length : Int))), v9] (by kernel_rfl) (by kernel_rfl) (GExt.refl _) (wr_one (hl224.mono f224) (o220.row.mono (((g221.trans g222).trans g223).trans g224)) hXu (by omega) (by omega) hl1)) ?_
      rintro v225 H225 G225 g225 f225 ⟨l225, rfl, hl225⟩
      refine HOp.ev 5 ?_
      refine HOp.done (by kernel_rfl) ?_
      refine H.seq ?_
      refine H.seq (H.region (HOp.ev 16 ?_))
      refine HOp.rd (.len 22 (l223)) (by kernel_rfl) (qlen hl223.row) ?_
      refine HOp.ev 1 ?_
      refine HOp.rd (.len 22 (v)) (by kernel_rfl) (qlen h1.row) ?_
      refine HOp.ev 2 ?_
      refine HOp.done (by kernel_rfl) ?_
      refine H.ifn ((↑((bs.set X A).set Y D).length : Int)) ((↑bs.length : Int)) (by kernel_rfl) (fun t226 => ?_) (fun t226 => ?_)
      omega
      refine H.skip ?_
      refine H.seq (Vir.draw [0, 1, 3, 4, 5, 6, 7, 8, 9, 10, 11, 12, 13, 14, 15, 16, 17, 18, 19, 20, 21, 22, 23] (by kernel_rfl) (by kernel_rfl) ?_)
      refine Vir.ev (by kernel_rfl) [0, 1] ?_
      refine Vir.loud (by kernel_rfl) [2] (by kernel_rfl) ⟨?_, trivial⟩
      -- LStep CALL 19 [l223, l225] (place 2)
      refine LStep.un (Stp.pureG 19 [l223, l225] (by kernel_rfl) (by kernel_rfl) (GExt.refl _) (same_q (hl223.mono ((f223.trans g224).trans g225)) (hl225.mono f225) hc (by omega))) ?_
      refine ⟨ag_all [] [] (by kernel_rfl) (by kernel_rfl) trivial, ?_⟩
      refine Vir.ev (by kernel_rfl) [3, 4, 5, 9] ?_
      refine Vir.rd (by kernel_rfl) 6 (.idx 22 (l223) (.int .i64 ((IntKind.i64.wrap p).tmod (↑bs.length : Int)))) (by kernel_rfl) (qidx hl223.row (by omega) (by omega)) ?_
      refine Vir.rd (by kernel_rfl) 7 (.slice 41 (ptrAt (l223) 64 ((IntKind.i64.wrap p).tmod (↑bs.length : Int))) none none) (by kernel_rfl) (qsliceA 64 1 (hl223.ptr (by omega) hmx)) ?_
      refine Vir.rd (by kernel_rfl) 8 (.conv 25 9 (sliceOf (ptrAt (l223) 64 ((IntKind.i64.wrap p).tmod (↑bs.length : Int))) 64)) (by kernel_rfl) (cstr (((hl223.mono ((f223.trans g224).trans g225)).ptr (by omega) hmx).row 1 64 (by omega))) ?_
      refine Vir.rd (by kernel_rfl) 10 (.conv 25 9 (v9)) (by kernel_rfl) (cstr (o220.row.mono ((((g221.trans g222).trans g223).trans g224).trans g225))) ?_
      refine Vir.ev (by kernel_rfl) [11, 12, 13] ?_
      refine VirP.guard 125 ((strOf A).toList == (strOf A).toList) (by kernel_rfl) (fun t227 => ?_) (fun t227 => ?_)
      refine Vir.ev (by kernel_rfl) [14, 15, 19] ?_
      refine Vir.rd (by kernel_rfl) 16 (.idx 22 (l223) (.int .i64 ((IntKind.i64.wrap q).tmod (↑bs.length : Int)))) (by kernel_rfl) (qidx hl223.row (by omega) (by omega)) ?_
      refine Vir.rd (by kernel_rfl) 17 (.slice 41 (ptrAt (l223) 64 ((IntKind.i64.wrap q).tmod (↑bs.length : Int))) none none) (by kernel_rfl) (qsliceA 64 1 (hl223.ptr (by omega) hmy)) ?_
      refine Vir.rd (by kernel_rfl) 18 (.conv 25 9 (sliceOf (ptrAt (l223) 64 ((IntKind.i64.wrap q).tmod (↑bs.length : Int))) 64)) (by kernel_rfl) (cstr (((hl223.mono ((f223.trans g224).trans g225)).ptr (by omega) hmy).row 1 64 (by omega))) ?_
      refine Vir.rd (by kernel_rfl) 20 (.conv 25 9 (v8)) (by kernel_rfl) (cstr (o222.row.mono ((g223.trans g224).trans g225))) ?_
      refine Vir.ev (by kernel_rfl) [21, 22, 23] ?_
      refine Vir.fin (by kernel_rfl) (by kernel_rfl) ?_
      refine H.ret ?_
      refine ⟨.v (.bool ((strOf D).toList == (strOf D).toList)), by kernel_rfl, ?_⟩
      rotate_left
      simp at t227
      exact ret_b (by simp)
end Go.Proofs.Ytdfahkpjdjjalaa
