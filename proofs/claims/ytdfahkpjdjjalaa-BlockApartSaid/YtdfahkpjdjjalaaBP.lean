/- The law BlockBack of the layer block: its body always comes to true. -/
import Derived.Test.YtdfahkpjdjjalaaBL
import Derived.Test.YtdfahkpjdjjalaaVcRow
namespace Go.Proofs.Ytdfahkpjdjjalaa
open Go.RowKit Vc

theorem flat_at : ∀ {os : List (List Int)} (i : Nat), (∀ b ∈ os, (bts b).length = 64) → (hi : i < os.length) → (os.flatten.drop (64 * i)).take 64 = os[i]
  | b :: r, 0, h, _ => by
    have hb := h b (by simp)
    rw [bts_length] at hb
    simp [hb]
  | b :: r, i + 1, h, hi => by
    have hb := h b (by simp)
    rw [bts_length] at hb
    rw [List.flatten_cons, show 64 * (i + 1) = b.length + 64 * i by omega, ← List.drop_drop, List.drop_left]
    simpa using flat_at i (fun c hc => h c (by simp [hc])) (by simpa using hi)
theorem cut64_flat {os : List (List Int)} (h : ∀ b ∈ os, (bts b).length = 64) : cut64 os.flatten os.length = os := by
  apply List.ext_getElem?
  intro i
  by_cases hi : i < os.length
  · rw [cut64_get _ hi, List.getElem?_eq_getElem hi, flat_at i h hi]
  · rw [List.getElem?_eq_none (by rw [cut64_len]; omega), List.getElem?_eq_none (by omega)]
section
variable {v b : Value} {bs os : List (List Int)} {m : Nat} {a : Int} {G : GH}
theorem back_in (h1 : RowC G v 64 bts bs) (h2 : Row G b 1 m (bts os.flatten)) (ho : ∀ b ∈ os, (bts b).length = 64) (hb : bs.length ≤ 64) (ho2 : os.length ≤ 64) (ha : 0 ≤ a) (hw : within bs.length a os.length = true) :
    FunR Try.prog 14 [v, .int .u64 a, b] G (fun G' r => ∃ u, r = .tuple #[u, .int .i64 0] ∧ RowC G' u 64 bts (over bs a.toNat os)) := by
  have hl := flatten_len ho
  have hx := h2.len
  rw [bts_length, Nat.mul_one] at hx
  have := write_ok (a := a) h1 h2 (by omega) (by omega) ha
  have e : os.flatten.length / 64 = os.length := by omega
  have hE : writeE bs.length a os.flatten.length = 0 := writeE_in (by omega) (by omega) (by rw [e]; exact hw)
  unfold WriteK at this
  rwa [hE, writeL_in hE, e, cut64_flat ho] at this
theorem back_out (h1 : RowC G v 64 bts bs) (h2 : Row G b 1 m (bts os.flatten)) (ho : ∀ b ∈ os, (bts b).length = 64) (hb : bs.length ≤ 64) (ho2 : os.length ≤ 64) (ha : 0 ≤ a) (hw : within bs.length a os.length = false) :
    FunR Try.prog 14 [v, .int .u64 a, b] G (fun G' r => ∃ u, r = .tuple #[u, .int .i64 5] ∧ RowC G' u 64 bts ([] : List (List Int))) := by
  have hl := flatten_len ho
  have hx := h2.len
  rw [bts_length, Nat.mul_one] at hx
  have := write_ok (a := a) h1 h2 (by omega) (by omega) ha
  have e : os.flatten.length / 64 = os.length := by omega
  have hE : writeE bs.length a os.flatten.length = 5 := writeE_out (by omega) (by omega) (by rw [e]; exact hw)
  unfold WriteK at this
  rwa [hE, writeL_no (by rw [hE]; omega)] at this
theorem back_within {n k : Int} {t : Bool} (hw : within n a k = t) (hn : n < 9223372036854775808) (hn0 : -9223372036854775808 ≤ n) : PureF Try.prog 12 [.int .i64 n, .int .u64 a, .int .i64 k] (.bool t) := by
  have := refWithin_ok n a k hn hn0
  rwa [hw] at this
theorem over_mid (h : a.toNat + os.length ≤ bs.length) : ((over bs a.toNat os).drop a.toNat).take os.length = os := by
  have e : (bs.take a.toNat).length = a.toNat := by rw [List.length_take]; omega
  rw [over, List.append_assoc, ← e, List.drop_append_of_le_length (by simp), e]
  simp
theorem over_out {i : Nat} (h : a.toNat + os.length ≤ bs.length) (hi : i < a.toNat ∨ a.toNat + os.length ≤ i) : (over bs a.toNat os)[i]? = bs[i]? := by
  have e : (bs.take a.toNat).length = a.toNat := by rw [List.length_take]; omega
  rcases hi with hi | hi
  · rw [over, List.append_assoc, List.getElem?_append_left (by omega), List.getElem?_take, if_pos hi]
  · rw [over, List.getElem?_append_right (by rw [List.length_append]; omega), List.length_append, e, List.getElem?_drop]; congr 1; omega
theorem back_read (h1 : RowC G v 64 bts (over bs a.toNat os)) (hb : bs.length ≤ 64) (ha : 0 ≤ a) (hw : within bs.length a os.length = true) :
    FunO Try.prog 9 [v, .int .u64 a, .int .i64 os.length] G (fun u => .tuple #[u, .int .i64 0]) 5 1 os.flatten.length (bts os.flatten) := by
  have hq := within_iff.1 hw
  have hl : (over bs a.toNat os).length = bs.length := over_len (by omega)
  have := read_ok (a := a) (k := os.length) h1 (by omega) ha
  have hE : readE (over bs a.toNat os).length a os.length = 0 := by rw [hl]; exact readE_in (by omega) hw
  rwa [hE, readL_in hE, Int.toNat_natCast, over_mid (by omega)] at this
end
theorem blockBack_ok {v u : Value} {bs os : List (List Int)} {a : Int} {G : GH} (h1 : RowC G v 64 bts bs) (h2 : RowC G u 64 bts os) (ha : 0 ≤ a) (ha2 : a ≤ 18446744073709551615) :
    PureG Try.prog 6 [v, .int .u64 a, u] G (.bool true) := by
  refine PureG.body Try.func6 rfl (by kernel_rfl) fun B hm hG => ?_
  subst hG
  have hwd := h1.wd
  have hwo := h2.wd
  have hfl : ∀ i, ((os.take i).flatten).length = (os.take i).length * 64 := fun i => flatten_len fun b hb => hwo b (List.mem_of_mem_take hb)
  refine H.sr (by kernel_rfl) ?_
  refine H.seq ?_
  refine H.seq (H.region ?_)
  -- HOp CALL 8 [] (place 0)
  refine HOp.un (Stp.pureG 8 [] (by kernel_rfl) (by kernel_rfl) (GExt.refl _) (alive_ok)) ?_
  refine HOp.ev 1 ?_
  refine HOp.done (by kernel_rfl) ?_
  refine H.condF (by kernel_rfl) ?_
  refine H.skip ?_
  refine H.seq ?_
  refine H.seq (H.region (HOp.ev 1 ?_))
  refine HOp.rd (.len 22 (v)) (by kernel_rfl) (qlen h1.row) ?_
  refine HOp.ev 2 ?_
  refine HOp.ifd 20 ((↑bs.length : Int) > 64) (by kernel_rfl) (fun t1 => ?_) (fun t1 => ?_)
  refine HOp.ev 4 ?_
  refine HOp.done (by kernel_rfl) ?_
  refine H.condT (by kernel_rfl) ?_
  refine H.sr (by kernel_rfl) ?_
  refine H.ret ?_
  refine ⟨.v (.bool true), by kernel_rfl, ?_⟩
  rfl
  refine HOp.ev 1 ?_
  refine HOp.rd (.len 22 (u)) (by kernel_rfl) (qlen h2.row) ?_
  refine HOp.ev 2 ?_
  refine HOp.done (by kernel_rfl) ?_
  refine H.ifd ((↑os.length : Int) > 64) (by kernel_rfl) (fun t2 => ?_) (fun t2 => ?_)
  refine H.sr (by kernel_rfl) ?_
  refine H.ret ?_
  refine ⟨.v (.bool true), by kernel_rfl, ?_⟩
  rfl
  refine H.skip ?_
  refine H.sr (by kernel_rfl) ?_
  refine H.seq ?_
  refine H.sr (by kernel_rfl) ?_
  refine H.block ?_
  -- LOOP from ⟨123, [(8, .v (.int .i64 0)), (7, .v (.slice none 0 0)), (24, .v (.bool (decide ((↑os.length : Int) > 64)))), (23, .v (.bool (decide ((↑os.length : Int) > 64)))), (22, .v (.int .i64 ((↑os.length : Int)))), (21, .v (u)), (20, .v (.bool false)), (19, .v (.bool (decide ((↑bs.length : Int) > 64)))), (18, .v (.int .i64 ((↑bs.length : Int)))), (17, .v (v)), (16, .v (.bool false)), (15, .v (.bool true)), (6, .v (.bool false)), (0, .v (v)), (1, .v (.int .u64 a)), (2, .v (u))], [], []⟩
  rotate_left
  refine H.own0 5 1 ?_
  refine H.loop (X := Nat × Value) (fun x => ⟨123, [(8, .v (.int .i64 x.1)), (7, .v x.2), (0, .v v), (1, .v (.int .u64 a)), (2, .v u)], [], [⟨x.2, 5, 1, (os.take x.1).flatten.length, bts (os.take x.1).flatten⟩]⟩) (fun x G' => x.1 ≤ os.length ∧ GExt B.G0 G') (fun x => os.length + 1 - x.1) (0, .slice none 0 0) (le_of (by kernel_rfl)) ⟨by simp, GExt.refl _⟩ (fun _ => by rw [hm]; exact Nat.zero_le _) ?_
  rintro ⟨i, w⟩ G1 ⟨hi1, g0⟩
  dsimp only at hi1 ⊢
  have := hfl i
  have hil : (os.take i).length = i := by rw [List.length_take]; omega
  refine H.seq ?_
  refine H.seq (H.region (HOp.ev 2 ?_))
  refine HOp.rd (.len 22 (u)) (by kernel_rfl) (qlen h2.row) ?_
  refine HOp.ev 1 ?_
  refine HOp.done (by kernel_rfl) ?_
  refine H.ifd ((↑i : Int) < (↑os.length : Int)) (by kernel_rfl) (fun t20 => ?_) (fun t20 => ?_)
  -- STATE ⟨123, [(28, .v (.bool (decide ((↑i : Int) < (↑os.length : Int))))), (27, .v (.int .i64 ((↑os.length : Int)))), (26, .v (u)), (25, .v (.int .i64 ((↑i : Int)))), (8, .v (.int .i64 ((↑i : Int)))), (7, .v (w)), (0, .v (v)), (1, .v (.int .u64 a)), (2, .v (u))], [], [⟨w, 5, 1, (List.take i os).flatten.length, bts (List.take i os).flatten⟩]⟩
  -- STATE ⟨123, [(28, .v (.bool (decide ((↑i : Int) < (↑os.length : Int))))), (27, .v (.int .i64 ((↑os.length : Int)))), (26, .v (u)), (25, .v (.int .i64 ((↑i : Int)))), (8, .v (.int .i64 ((↑i : Int)))), (7, .v (w)), (0, .v (v)), (1, .v (.int .u64 a)), (2, .v (u))], [], [⟨w, 5, 1, (List.take i os).flatten.length, bts (List.take i os).flatten⟩]⟩
  · obtain ⟨x, hx⟩ : ∃ x, os[i]? = some x := ⟨_, List.getElem?_eq_getElem (by omega)⟩
    have hl := hwo x (List.mem_of_getElem? hx)
    have hl' : x.length = 64 := by rwa [bts_length] at hl
    have hx' : os[((i : Nat) : Int).toNat]? = some x := by rw [Int.toNat_natCast]; exact hx
    refine H.skip ?_
    refine H.seq ?_
    refine H.block ?_
    refine H.sr (by kernel_rfl) ?_
    refine H.block ?_
    -- LOOP from ⟨123, [(9, .v (.int .i64 0)), (28, .v (.bool (decide ((↑i : Int) < (↑os.length : Int))))), (27, .v (.int .i64 ((↑os.length : Int)))), (26, .v (u)), (25, .v (.int .i64 ((↑i : Int)))), (8, .v (.int .i64 ((↑i : Int)))), (7, .v (w)), (0, .v (v)), (1, .v (.int .u64 a)), (2, .v (u))], [], [⟨w, 5, 1, (List.take i os).flatten.length, bts (List.take i os).flatten⟩]⟩
    rotate_left
    refine H.loop (X := Nat × Value) (fun z => ⟨123, [(9, .v (.int .i64 z.1)), (8, .v (.int .i64 i)), (7, .v z.2), (0, .v v), (1, .v (.int .u64 a)), (2, .v u)], [], [⟨z.2, 5, 1, ((os.take i).flatten ++ x.take z.1).length, bts ((os.take i).flatten ++ x.take z.1)⟩]⟩)
      (fun z G' => z.1 ≤ 64 ∧ GExt B.G0 G') (fun z => 65 - z.1) (0, w) (le_k [⟨w, 5, 1, (os.take i).flatten.length, bts (os.take i).flatten⟩] (by kernel_rfl) (by simp)) ⟨by simp, g0⟩ (fun _ => by rw [hm]; exact Nat.zero_le _) ?_
    rintro ⟨j, z⟩ G2 ⟨hj, g2⟩
    dsimp only at hj ⊢
    have hlen : ((os.take i).flatten ++ x.take j).length ≤ 70000 := by rw [List.length_append, List.length_take]; omega
    refine H.seq ?_
    refine H.sr (by kernel_rfl) ?_
    refine H.ifd ((↑j : Int) < 64) (by kernel_rfl) (fun t40 => ?_) (fun t40 => ?_)
    refine H.skip ?_
    refine H.seq ?_
    -- STATE ⟨123, [(32, .v (.bool (decide ((↑j : Int) < 64)))), (31, .v (.int .i64 ((↑j : Int)))), (9, .v (.int .i64 ((↑j : Int)))), (8, .v (.int .i64 ((↑i : Int)))), (7, .v (z)), (0, .v (v)), (1, .v (.int .u64 a)), (2, .v (u))], [], [⟨z, 5, 1, ((List.take i os).flatten ++ List.take j x).length, bts ((List.take i os).flatten ++ List.take j x)⟩]⟩
    -- STATE ⟨123, [(32, .v (.bool (decide ((↑j : Int) < 64)))), (31, .v (.int .i64 ((↑j : Int)))), (9, .v (.int .i64 ((↑j : Int)))), (8, .v (.int .i64 ((↑i : Int)))), (7, .v (z)), (0, .v (v)), (1, .v (.int .u64 a)), (2, .v (u))], [], [⟨z, 5, 1, ((List.take i os).flatten ++ List.take j x).length, bts ((List.take i os).flatten ++ List.take j x)⟩]⟩
    · obtain ⟨y, hy⟩ : ∃ y, x[((j : Nat) : Int).toNat]? = some y := ⟨_, List.getElem?_eq_getElem (by rw [Int.toNat_natCast]; omega)⟩
      refine H.block ?_
      refine H.region (HOp.ev 4 ?_)
      refine HOp.rd (.idx 22 (u) (.int .i64 ((↑i : Int)))) (by kernel_rfl) (qidx h2.row (by omega) (by omega)) ?_
      refine HOp.rd (.idx 41 (ptrAt (u) 64 ((↑i : Int))) (.int .i64 ((↑j : Int)))) (by kernel_rfl) (qidxA 64 1 (h2.ptr (by omega) hx) (by omega) (by omega)) ?_
      refine HOp.rd (.load 5 (ptrOff (ptrAt (u) 64 ((↑i : Int))) 1 ((↑j : Int)))) (by kernel_rfl) (PAt.load8 ((h2.mono g2).ptr (by omega) hx) (by omega) hy) ?_
      refine HOp.ex (Stp.buildF 25 1 [(0, .int .u8 y)] (.int .u8 0) 5 1 1 (bts [y]) (by kernel_rfl) (by kernel_rfl) rfl (by omega) (by kernel_rfl)) fun v45 G45 g45 k45 => ?_
      refine HOp.nu (Stp.appendB (xs := (List.take i os).flatten ++ List.take j x) 0 25 (z) (v45) 5 1 (by kernel_rfl) (by kernel_rfl) k45 (by omega) (by kernel_rfl)) fun v46 => ?_
      refine HOp.ev 1 ?_
      refine HOp.done (by kernel_rfl) ?_
      refine H.reg (by kernel_rfl) ?_
      refine ex_st ⟨123, [(9, .v (.int .i64 (IntKind.i64.wrap ((↑j : Int) + 1)))), (7, .v (v46)), (8, .v (.int .i64 ((↑i : Int)))), (0, .v (v)), (1, .v (.int .u64 a)), (2, .v (u))], [], [⟨v46, 5, 1, ((List.take i os).flatten ++ List.take j x ++ [y]).length, bts ((List.take i os).flatten ++ List.take j x ++ [y])⟩]⟩ (by kernel_rfl) ?_
      rotate_left
      rw [nat_wrap (i := j) (by omega)]
      refine ex_le (j + 1, v46) (by kernel_rfl) ?_ ⟨⟨by dsimp only; omega, g2.trans g45⟩, by dsimp only; omega⟩
      dsimp only
      rw [Int.toNat_natCast] at hy
      rw [List.take_add_one, hy, ← List.append_assoc]; rfl
    · refine H.exit ?_
      refine H.reg (by kernel_rfl) ?_
      refine ex_st ⟨123, [(8, .v (.int .i64 (IntKind.i64.wrap ((↑i : Int) + 1)))), (7, .v (z)), (0, .v (v)), (1, .v (.int .u64 a)), (2, .v (u))], [], [⟨z, 5, 1, ((List.take i os).flatten ++ List.take j x).length, bts ((List.take i os).flatten ++ List.take j x)⟩]⟩ (by kernel_rfl) ?_
      rotate_left
      rw [nat_wrap (i := i) (by omega)]
      refine ex_le (i + 1, z) (by kernel_rfl) ?_ ⟨⟨by dsimp only; omega, g2⟩, by dsimp only; omega⟩
      dsimp only
      rw [flatten_take_succ hx, List.take_of_length_le (l := x) (by omega)]
  · have e : i = os.length := by omega
    subst e
    have ht : os.take os.length = os := List.take_length
    refine H.lek ⟨123, [(7, .v w), (0, .v v), (1, .v (.int .u64 a)), (2, .v u)], [], [⟨w, 5, 1, os.flatten.length, bts os.flatten⟩]⟩ (by rw [hm]; exact Nat.zero_le _) (le_k [⟨w, 5, 1, (os.take os.length).flatten.length, bts (os.take os.length).flatten⟩] (by kernel_rfl) (by rw [ht])) ?_
    rw [ht] at this
    clear hil
    cases hw : within bs.length a os.length with
    | false =>
      refine H.exit ?_
      refine H.seq (H.region (HOp.ev 3 ?_))
      -- HOp CALL 14 [v, .int .u64 a, w] (place 3)
      refine HOp.freeze 0 (w) 5 1 os.flatten.length (bts os.flatten) (by kernel_rfl) fun G50 g50 o50 => ?_
      -- HOp CALL 14 [v, .int .u64 a, w] (place 3)
      refine HOp.fr (Stp.funR 14 [v, .int .u64 a, w] (by kernel_rfl) (by kernel_rfl) (GExt.refl _) (back_out (h1.mono (g0.trans g50)) o50.row (by assumption) (by omega) (by omega) (by omega) hw)) ?_
      rintro v51 H51 G51 g51 f51 ⟨l51, rfl, hl51⟩
      refine HOp.ev 5 ?_
      refine HOp.done (by kernel_rfl) ?_
      refine H.seq ?_
      refine H.seq (H.region (HOp.ev 3 ?_))
      refine HOp.rd (.len 22 (v)) (by kernel_rfl) (qlen h1.row) ?_
      refine HOp.ev 2 ?_
      refine HOp.rd (.len 22 (u)) (by kernel_rfl) (qlen h2.row) ?_
      -- HOp CALL 12 [.int .i64 ((↑bs.length : Int)), .int .u64 a, .int .i64 ((↑os.length : Int))] (place 7)
      refine HOp.un (Stp.pureF 12 [.int .i64 ((↑bs.length : Int)), .int .u64 a, .int .i64 ((↑os.length : Int))] (by kernel_rfl) (by kernel_rfl) ((back_within hw) (by omega) (by omega))) ?_
      refine HOp.ev 1 ?_
      refine HOp.done (by kernel_rfl) ?_
      refine H.condF (by kernel_rfl) ?_
      refine H.skip ?_
      refine H.seq ?_
      refine H.sr (by kernel_rfl) ?_
      refine H.condT (by kernel_rfl) ?_
      refine H.seq (H.region (HOp.ev 4 ?_))
      refine HOp.rd (.len 22 (l51)) (by kernel_rfl) (qlen hl51.row) ?_
      refine HOp.ev 3 ?_
      refine HOp.done (by kernel_rfl) ?_
      refine H.ret ?_
      refine ⟨.v (.bool true), by kernel_rfl, ?_⟩
      rfl
    | true =>
      have hq := within_iff.1 hw
      have hol : (over bs a.toNat os).length = bs.length := over_len (by omega)
      have hwv := over_wd (a := a.toNat) hwd hwo
      have ea := wrap_i64 (x := a) (by omega) (by omega)
      have eb : IntKind.i64.wrap (IntKind.i64.wrap a + (os.length : Int)) = a + os.length := by rw [ea]; exact wrap_i64 (by omega) (by omega)
      refine H.exit ?_
      refine H.seq (H.region (HOp.ev 3 ?_))
      -- HOp CALL 14 [v, .int .u64 a, w] (place 3)
      refine HOp.freeze 0 (w) 5 1 os.flatten.length (bts os.flatten) (by kernel_rfl) fun G60 g60 o60 => ?_
      -- HOp CALL 14 [v, .int .u64 a, w] (place 3)
      refine HOp.fr (Stp.funR 14 [v, .int .u64 a, w] (by kernel_rfl) (by kernel_rfl) (GExt.refl _) (back_in (h1.mono (g0.trans g60)) o60.row (by assumption) (by omega) (by omega) (by omega) hw)) ?_
      rintro v61 H61 G61 g61 f61 ⟨l61, rfl, hl61⟩
      refine HOp.ev 5 ?_
      refine HOp.done (by kernel_rfl) ?_
      refine H.seq ?_
      refine H.seq (H.region (HOp.ev 3 ?_))
      refine HOp.rd (.len 22 (v)) (by kernel_rfl) (qlen h1.row) ?_
      refine HOp.ev 2 ?_
      refine HOp.rd (.len 22 (u)) (by kernel_rfl) (qlen h2.row) ?_
      -- HOp CALL 12 [.int .i64 ((↑bs.length : Int)), .int .u64 a, .int .i64 ((↑os.length : Int))] (place 7)
      refine HOp.un (Stp.pureF 12 [.int .i64 ((↑bs.length : Int)), .int .u64 a, .int .i64 ((↑os.length : Int))] (by kernel_rfl) (by kernel_rfl) ((back_within hw) (by omega) (by omega))) ?_
      refine HOp.ev 1 ?_
      refine HOp.done (by kernel_rfl) ?_
      refine H.condF (by kernel_rfl) ?_
      refine H.skip ?_
      refine H.seq ?_
      refine H.sr (by kernel_rfl) ?_
      refine H.condF (by kernel_rfl) ?_
      refine H.skip ?_
      refine H.seq (H.region (HOp.ev 3 ?_))
      refine HOp.rd (.len 22 (u)) (by kernel_rfl) (qlen h2.row) ?_
      -- HOp CALL 9 [l61, .int .u64 a, .int .i64 ((↑os.length : Int))] (place 4)
      refine HOp.nu (Stp.funN 9 [l61, .int .u64 a, .int .i64 ((↑os.length : Int))] (by kernel_rfl) (by kernel_rfl) fun Gx gx => (back_read (hl61.mono (f61.trans gx)) (by omega) (by omega) hw)) fun v62 => ?_
      refine HOp.ev 5 ?_
      refine HOp.done (by kernel_rfl) ?_
      refine H.seq ?_
      refine H.seq (H.region (HOp.ev 4 ?_))
      refine HOp.rdo 0 (v62) 5 1 os.flatten.length (bts os.flatten) (.conv 25 9 (v62)) (by kernel_rfl) (by kernel_rfl) (fun Gx gx o => (cstr o.row)) ?_
      refine HOp.ev 1 ?_
      refine HOp.rd (.conv 25 9 (w)) (by kernel_rfl) (cstr (o60.row.mono g61)) ?_
      refine HOp.ev 3 ?_
      refine HOp.guard 86 (!(strOf os.flatten).toList == (strOf os.flatten).toList) (by kernel_rfl) (fun t63 => ?_) (fun t63 => ?_)
      simp at t63
      refine HOp.ev 1 ?_
      refine HOp.rd (.len 22 (l61)) (by kernel_rfl) (qlen hl61.row) ?_
      refine HOp.ev 1 ?_
      refine HOp.rd (.len 22 (v)) (by kernel_rfl) (qlen h1.row) ?_
      refine HOp.ev 2 ?_
      refine HOp.done (by kernel_rfl) ?_
      refine H.ifn ((↑(over bs a.toNat os).length : Int)) ((↑bs.length : Int)) (by kernel_rfl) (fun t64 => ?_) (fun t64 => ?_)
      omega
      refine H.skip ?_
      refine H.seq ?_
      refine H.sr (by kernel_rfl) ?_
      refine H.block ?_
      -- LOOP from ⟨123, [(14, .v (.int .i64 0)), (92, .v (.bool ((↑(over bs a.toNat os).length : Int) != (↑bs.length : Int)))), (91, .v (.bool ((↑(over bs a.toNat os).length : Int) != (↑bs.length : Int)))), (90, .v (.int .i64 ((↑bs.length : Int)))), (89, .v (v)), (88, .v (.int .i64 ((↑(over bs a.toNat os).length : Int)))), (87, .v (l61)), (86, .v (.bool false)), (85, .v (.bool (!(strOf os.flatten).toList == (strOf os.flatten).toList))), (84, .v (.bool (!(strOf os.flatten).toList == (strOf os.flatten).toList))), (83, .v (.string (strOf os.flatten))), (82, .v (w)), (81, .v (.string (strOf os.flatten))), (80, .v (v62)), (79, .v (.bool false)), (78, .v (.bool false)), (77, .v (.int .i64 0)), (13, .v (.int .i64 0)), (12, .v (v62)), (76, .v (.int .i64 0)), (75, .v (v62)), (69, .v (.tuple #[v62, .int .i64 0])), (74, .v (.tuple #[v62, .int .i64 0])), (73, .v (.int .i64 ((↑os.length : Int)))), (72, .v (u)), (71, .v (.int .u64 a)), (70, .v (l61)), (61, .v (.bool false)), (60, .v (.int .i64 0)), (59, .v (.bool false)), (58, .v (.bool true)), (57, .v (.int .i64 ((↑os.length : Int)))), (56, .v (u)), (55, .v (.int .u64 a)), (54, .v (.int .i64 ((↑bs.length : Int)))), (53, .v (v)), (52, .v (.bool true)), (51, .v (.int .i64 0)), (11, .v (.int .i64 0)), (10, .v (l61)), (50, .v (.int .i64 0)), (49, .v (l61)), (44, .v (.tuple #[l61, .int .i64 0])), (48, .v (.tuple #[l61, .int .i64 0])), (47, .v (w)), (46, .v (.int .u64 a)), (45, .v (v)), (7, .v (w)), (0, .v (v)), (1, .v (.int .u64 a)), (2, .v (u))], [], [⟨v62, 5, 1, os.flatten.length, bts os.flatten⟩]⟩
      rotate_left
      refine H.loop (X := Nat) (fun i => ⟨123, [(14, .v (.int .i64 i)), (10, .v l61), (0, .v v), (1, .v (.int .u64 a)), (2, .v u)], [], []⟩) (fun i G' => i ≤ bs.length ∧ GExt G61 G') (fun i => bs.length + 1 - i) 0 (le_of (by kernel_rfl)) ⟨by simp, GExt.refl _⟩ (fun _ => by rw [hm]; exact Nat.zero_le _) ?_
      rintro i G4 ⟨hi, g4⟩
      refine H.seq ?_
      refine H.seq (H.region (HOp.ev 2 ?_))
      refine HOp.rd (.len 22 (v)) (by kernel_rfl) (qlen h1.row) ?_
      refine HOp.ev 1 ?_
      refine HOp.done (by kernel_rfl) ?_
      refine H.ifd ((↑i : Int) < (↑bs.length : Int)) (by kernel_rfl) (fun t70 => ?_) (fun t70 => ?_)
      -- STATE ⟨123, [(96, .v (.bool (decide ((↑i : Int) < (↑bs.length : Int))))), (95, .v (.int .i64 ((↑bs.length : Int)))), (94, .v (v)), (93, .v (.int .i64 ((↑i : Int)))), (14, .v (.int .i64 ((↑i : Int)))), (10, .v (l61)), (0, .v (v)), (1, .v (.int .u64 a)), (2, .v (u))], [], []⟩
      -- STATE ⟨123, [(96, .v (.bool (decide ((↑i : Int) < (↑bs.length : Int))))), (95, .v (.int .i64 ((↑bs.length : Int)))), (94, .v (v)), (93, .v (.int .i64 ((↑i : Int)))), (14, .v (.int .i64 ((↑i : Int)))), (10, .v (l61)), (0, .v (v)), (1, .v (.int .u64 a)), (2, .v (u))], [], []⟩
      · obtain ⟨x, hx⟩ : ∃ x, bs[((i : Nat) : Int).toNat]? = some x := ⟨_, List.getElem?_eq_getElem (by rw [Int.toNat_natCast]; omega)⟩
        have hxl := hwd x (List.mem_of_getElem? hx)
        have hxl' : x.length = 64 := by rwa [bts_length] at hxl
        by_cases hin : (i : Int) < a ∨ a + os.length ≤ i
        · have hxo : (over bs a.toNat os)[((i : Nat) : Int).toNat]? = some x := by rw [Int.toNat_natCast, over_out (by omega) (by omega)]; rw [Int.toNat_natCast] at hx; exact hx
          refine H.skip ?_
          refine H.seq ?_
          refine H.block ?_
          refine H.seq (Vir.draw [0, 1, 2, 3, 4, 5, 6, 7, 8, 9, 10, 11, 12, 13, 14, 15, 16, 17, 18, 19, 20, 21, 22, 23] (by kernel_rfl) (by kernel_rfl) ?_)
          refine Vir.ev (by kernel_rfl) [0, 1, 2, 3, 4] ?_
          refine VirP.ifd 103 ((↑i : Int) < IntKind.i64.wrap a) (by kernel_rfl) (fun t80 => ?_) (fun t80 => ?_)
          refine Vir.ev (by kernel_rfl) [5, 6, 7, 8, 9, 10, 11, 12, 13, 14, 15, 18, 19] ?_
          refine Vir.rd (by kernel_rfl) 16 (.idx 22 (l61) (.int .i64 ((↑i : Int)))) (by kernel_rfl) (qidx hl61.row (by omega) (by omega)) ?_
          refine Vir.rd (by kernel_rfl) 17 (.load 41 (ptrAt (l61) 64 ((↑i : Int)))) (by kernel_rfl) (RowC.loadA (hl61.mono (f61.trans g4)) (by omega) hxo) ?_
          refine Vir.rd (by kernel_rfl) 20 (.idx 22 (v) (.int .i64 ((↑i : Int)))) (by kernel_rfl) (qidx h1.row (by omega) (by omega)) ?_
          refine Vir.rd (by kernel_rfl) 21 (.load 41 (ptrAt (v) 64 ((↑i : Int)))) (by kernel_rfl) (RowC.loadA (h1.mono (((g0.trans g60).trans g61).trans g4)) (by omega) hx) ?_
          refine Vir.rd (by kernel_rfl) 22 (.bin BinOp.neq 41 (.agg ({ toList := bts x })) (.agg ({ toList := bts x }))) (by kernel_rfl) (qneB 64 hxl' hxl') ?_
          refine Vir.ev (by kernel_rfl) [23] ?_
          refine Vir.fin (by kernel_rfl) (by kernel_rfl) ?_
          refine H.cond (!decide (x = x)) (by kernel_rfl) (fun t81 => ?_) (fun t81 => ?_)
          simp at t81
          refine H.skip ?_
          refine H.reg (by kernel_rfl) ?_
          refine ex_st ⟨123, [(14, .v (.int .i64 (IntKind.i64.wrap ((↑i : Int) + 1)))), (10, .v (l61)), (0, .v (v)), (1, .v (.int .u64 a)), (2, .v (u))], [], []⟩ (by kernel_rfl) ?_
          rotate_left
          refine Vir.ev (by kernel_rfl) [5, 6, 7, 8] ?_
          refine Vir.rd (by kernel_rfl) 9 (.len 22 (u)) (by kernel_rfl) (qlen h2.row) ?_
          refine Vir.ev (by kernel_rfl) [10, 11, 12, 13] ?_
          refine VirP.ifd 112 ((↑i : Int) ≥ IntKind.i64.wrap (IntKind.i64.wrap a + (↑os.length : Int))) (by kernel_rfl) (fun t82 => ?_) (fun t82 => ?_)
          refine Vir.ev (by kernel_rfl) [14, 15, 18, 19] ?_
          refine Vir.rd (by kernel_rfl) 16 (.idx 22 (l61) (.int .i64 ((↑i : Int)))) (by kernel_rfl) (qidx hl61.row (by omega) (by omega)) ?_
          refine Vir.rd (by kernel_rfl) 17 (.load 41 (ptrAt (l61) 64 ((↑i : Int)))) (by kernel_rfl) (RowC.loadA (hl61.mono (f61.trans g4)) (by omega) hxo) ?_
          refine Vir.rd (by kernel_rfl) 20 (.idx 22 (v) (.int .i64 ((↑i : Int)))) (by kernel_rfl) (qidx h1.row (by omega) (by omega)) ?_
          refine Vir.rd (by kernel_rfl) 21 (.load 41 (ptrAt (v) 64 ((↑i : Int)))) (by kernel_rfl) (RowC.loadA (h1.mono (((g0.trans g60).trans g61).trans g4)) (by omega) hx) ?_
          refine Vir.rd (by kernel_rfl) 22 (.bin BinOp.neq 41 (.agg ({ toList := bts x })) (.agg ({ toList := bts x }))) (by kernel_rfl) (qneB 64 hxl' hxl') ?_
          refine Vir.ev (by kernel_rfl) [23] ?_
          refine Vir.fin (by kernel_rfl) (by kernel_rfl) ?_
          refine H.cond (!decide (x = x)) (by kernel_rfl) (fun t83 => ?_) (fun t83 => ?_)
          simp at t83
          refine H.skip ?_
          refine H.reg (by kernel_rfl) ?_
          refine ex_st ⟨123, [(14, .v (.int .i64 (IntKind.i64.wrap ((↑i : Int) + 1)))), (10, .v (l61)), (0, .v (v)), (1, .v (.int .u64 a)), (2, .v (u))], [], []⟩ (by kernel_rfl) ?_
          rotate_left
          omega
          all_goals (rw [nat_wrap (i := i) (by omega)]; exact ex_le (i + 1) (by kernel_rfl) rfl ⟨⟨by omega, g4⟩, by omega⟩)
        · refine H.skip ?_
          refine H.seq ?_
          refine H.block ?_
          refine H.seq (Vir.draw [0, 1, 2, 3, 4, 5, 6, 7, 8, 9, 10, 11, 12, 13, 14, 15, 16, 17, 18, 19, 20, 21, 22, 23] (by kernel_rfl) (by kernel_rfl) ?_)
          refine Vir.ev (by kernel_rfl) [0, 1, 2, 3, 4] ?_
          refine VirP.ifd 103 ((↑i : Int) < IntKind.i64.wrap a) (by kernel_rfl) (fun t90 => ?_) (fun t90 => ?_)
          omega
          refine Vir.ev (by kernel_rfl) [5, 6, 7, 8] ?_
          refine Vir.rd (by kernel_rfl) 9 (.len 22 (u)) (by kernel_rfl) (qlen h2.row) ?_
          refine Vir.ev (by kernel_rfl) [10, 11, 12, 13] ?_
          refine VirP.ifd 112 ((↑i : Int) ≥ IntKind.i64.wrap (IntKind.i64.wrap a + (↑os.length : Int))) (by kernel_rfl) (fun t91 => ?_) (fun t91 => ?_)
          omega
          refine Vir.ev (by kernel_rfl) [14, 15, 16, 17, 18, 19, 20, 21, 22, 23] ?_
          refine Vir.fin (by kernel_rfl) (by kernel_rfl) ?_
          refine H.condF (by kernel_rfl) ?_
          refine H.skip ?_
          refine H.reg (by kernel_rfl) ?_
          refine ex_st ⟨123, [(14, .v (.int .i64 (IntKind.i64.wrap ((↑i : Int) + 1)))), (10, .v (l61)), (0, .v (v)), (1, .v (.int .u64 a)), (2, .v (u))], [], []⟩ (by kernel_rfl) ?_
          rotate_left
          all_goals (rw [nat_wrap (i := i) (by omega)]; exact ex_le (i + 1) (by kernel_rfl) rfl ⟨⟨by omega, g4⟩, by omega⟩)
      · refine H.exit ?_
        refine H.sr (by kernel_rfl) ?_
        refine H.ret ?_
        refine ⟨.v (.bool true), by kernel_rfl, ?_⟩
        rfl
end Go.Proofs.Ytdfahkpjdjjalaa
