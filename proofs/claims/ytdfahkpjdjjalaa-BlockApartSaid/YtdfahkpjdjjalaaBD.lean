/- Contracts of the layer block: the reference's reading. -/
import Derived.Test.YtdfahkpjdjjalaaBC
import Derived.Test.YtdfahkpjdjjalaaVcRow
namespace Go.Proofs.Ytdfahkpjdjjalaa
open Go.RowKit Vc

theorem nat_wrap {i : Nat} (h : i < 4611686018427387904) : IntKind.i64.wrap ((i : Int) + 1) = ((i + 1 : Nat) : Int) := by rw [wrap_i64 (by omega) (by omega)]; rfl
theorem refRead_ok {v : Value} {bs : List (List Int)} {a k : Int} {G : GH} (h1 : RowC G v 64 bts bs) (hb : bs.length < 1000) (ha : 0 ≤ a) :
    FunO Try.prog 10 [v, .int .u64 a, .int .i64 k] G (fun u => .tuple #[u, .int .i64 (readE bs.length a k)]) 5 1 (readL bs a k).flatten.length (bts (readL bs a k).flatten) := by
  refine FunO.body Try.func10 rfl (by kernel_rfl) fun B hm hG => ?_
  subst hG
  have hw : (!within bs.length a k) = false → 0 ≤ k ∧ k ≤ bs.length ∧ a ≤ bs.length - k := fun h => within_iff.1 (by simpa using h)
  refine H.sr (by kernel_rfl) ?_
  refine H.seq ?_
  refine H.seq (H.region (HOp.ev 1 ?_))
  refine HOp.rd (.len 22 (v)) (by kernel_rfl) (qlen h1.row) ?_
  refine HOp.ev 1 ?_
  refine HOp.done (by kernel_rfl) ?_
  refine H.ifd ((↑bs.length : Int) > 64) (by kernel_rfl) (fun t1 => ?_) (fun t1 => ?_)
  refine H.sr (by kernel_rfl) ?_
  refine H.ret ?_
  refine ⟨.tuple #[.slice none 0 0, .int .i64 4], resOk_of (s := .tup [.v (.slice none 0 0), .v (.int .i64 4)]) (by kernel_rfl) (by kernel_rfl), ?_⟩
  rotate_left
  refine H.skip ?_
  refine H.seq ?_
  refine H.seq (H.region (HOp.ev 1 ?_))
  refine HOp.rd (.len 22 (v)) (by kernel_rfl) (qlen h1.row) ?_
  refine HOp.ev 2 ?_
  -- HOp CALL 12 [.int .i64 ((↑bs.length : Int)), .int .u64 a, .int .i64 k] (place 4)
  refine HOp.un (Stp.pureF 12 [.int .i64 ((↑bs.length : Int)), .int .u64 a, .int .i64 k] (by kernel_rfl) (by kernel_rfl) ((refWithin_ok bs.length a k (by omega) (by omega)))) ?_
  refine HOp.ev 1 ?_
  refine HOp.done (by kernel_rfl) ?_
  refine H.cond (!within (↑bs.length : Int) a k) (by kernel_rfl) (fun t2 => ?_) (fun t2 => ?_)
  refine H.sr (by kernel_rfl) ?_
  refine H.ret ?_
  refine ⟨.tuple #[.slice none 0 0, .int .i64 5], resOk_of (s := .tup [.v (.slice none 0 0), .v (.int .i64 5)]) (by kernel_rfl) (by kernel_rfl), ?_⟩
  rotate_left
  refine H.skip ?_
  refine H.sr (by kernel_rfl) ?_
  refine H.seq ?_
  refine H.sr (by kernel_rfl) ?_
  refine H.block ?_
  -- LOOP from ⟨44, [(9, .v (.int .i64 0)), (8, .v (.slice none 0 0)), (20, .v (.bool (!within (↑bs.length : Int) a k))), (19, .v (.bool (within (↑bs.length : Int) a k))), (18, .v (.int .i64 k)), (17, .v (.int .u64 a)), (16, .v (.int .i64 ((↑bs.length : Int)))), (15, .v (v)), (14, .v (.bool (decide ((↑bs.length : Int) > 64)))), (13, .v (.int .i64 ((↑bs.length : Int)))), (12, .v (v)), (7, .v (.int .i64 0)), (6, .v (.slice none 0 0)), (0, .v (v)), (1, .v (.int .u64 a)), (2, .v (.int .i64 k))], [], []⟩
  rotate_left
  · have he : readE bs.length a k = 4 := readE_long (by omega)
    exact .inr ⟨by rw [he], by rw [readL_no (by omega)]; rfl, by rw [readL_no (by omega)]; rfl⟩
  · have he : readE bs.length a k = 5 := readE_out (by omega) (by simpa using t2)
    exact .inr ⟨by rw [he], by rw [readL_no (by omega)]; rfl, by rw [readL_no (by omega)]; rfl⟩
  have hq := hw t2
  have hE : readE bs.length a k = 0 := readE_in (by omega) (by simpa using t2)
  rw [hE, readL_in hE]
  generalize hy : (bs.drop a.toNat).take k.toNat = ys
  have hyl : ys.length = k.toNat := by rw [← hy, List.length_take, List.length_drop]; omega
  have hget : ∀ i : Nat, i < ys.length → bs[(a + i).toNat]? = ys[i]? := fun i hi => by
    rw [← hy, List.getElem?_take, if_pos (by omega), List.getElem?_drop]; congr 1; omega
  have hwd : ∀ b ∈ ys, (bts b).length = 64 := fun b hb => h1.wd b (List.mem_of_mem_drop (List.mem_of_mem_take (hy ▸ hb)))
  have hfl : ∀ i, ((ys.take i).flatten).length ≤ 64000 := fun i => by
    rw [flatten_len fun b hb => hwd b (List.mem_of_mem_take hb), List.length_take]; omega
  refine H.own0 5 1 ?_
  refine H.loop (X := Nat × Value) (fun x => ⟨44, [(9, .v (.int .i64 x.1)), (8, .v x.2), (0, .v v), (1, .v (.int .u64 a)), (2, .v (.int .i64 k))], [], [⟨x.2, 5, 1, (ys.take x.1).flatten.length, bts (ys.take x.1).flatten⟩]⟩) (fun x G' => x.1 ≤ ys.length ∧ GExt B.G0 G') (fun x => ys.length + 1 - x.1) (0, .slice none 0 0) (le_of (by kernel_rfl)) ⟨by simp, GExt.refl _⟩ (fun _ => by rw [hm]; exact Nat.zero_le _) ?_
  rintro ⟨i, u⟩ G1 ⟨hi1, g0⟩
  dsimp only at hi1 ⊢
  have ea := wrap_i64 (x := a) (by omega) (by omega)
  have eb : IntKind.i64.wrap (IntKind.i64.wrap a + (i : Int)) = a + i := by rw [ea]; exact wrap_i64 (by omega) (by omega)
  have hx : (i : Int) < k → ∃ x, ys[i]? = some x := fun h => ⟨_, List.getElem?_eq_getElem (by omega)⟩
  have := hfl i
  refine H.seq ?_
  refine H.sr (by kernel_rfl) ?_
  refine H.ifd ((↑i : Int) < k) (by kernel_rfl) (fun t20 => ?_) (fun t20 => ?_)
  refine H.skip ?_
  refine H.seq ?_
  -- STATE ⟨44, [(23, .v (.bool (decide ((↑i : Int) < k)))), (22, .v (.int .i64 k)), (21, .v (.int .i64 ((↑i : Int)))), (9, .v (.int .i64 ((↑i : Int)))), (8, .v (u)), (0, .v (v)), (1, .v (.int .u64 a)), (2, .v (.int .i64 k))], [], [⟨u, 5, 1, (List.take i ys).flatten.length, bts (List.take i ys).flatten⟩]⟩
  -- STATE ⟨44, [(23, .v (.bool (decide ((↑i : Int) < k)))), (22, .v (.int .i64 k)), (21, .v (.int .i64 ((↑i : Int)))), (9, .v (.int .i64 ((↑i : Int)))), (8, .v (u)), (0, .v (v)), (1, .v (.int .u64 a)), (2, .v (.int .i64 k))], [], [⟨u, 5, 1, (List.take i ys).flatten.length, bts (List.take i ys).flatten⟩]⟩
  · obtain ⟨x, hx⟩ := hx t20
    have hx' : bs[(IntKind.i64.wrap (IntKind.i64.wrap a + (i : Int))).toNat]? = some x := by rw [eb, hget i (by omega)]; exact hx
    have hl := h1.wd x (List.mem_of_getElem? hx')
    have hl' : x.length = 64 := by rwa [bts_length] at hl
    refine H.block ?_
    refine H.seq (H.region (HOp.ev 5 ?_))
    refine HOp.rd (.idx 22 (v) (.int .i64 (IntKind.i64.wrap (IntKind.i64.wrap a + (↑i : Int))))) (by kernel_rfl) (qidx h1.row (by omega) (by omega)) ?_
    refine HOp.rd (.load 41 (ptrAt (v) 64 (IntKind.i64.wrap (IntKind.i64.wrap a + (↑i : Int))))) (by kernel_rfl) (RowC.loadA (h1.mono g0) (by omega) hx') ?_
    refine HOp.nu (Stp.alloc 41 64 64 (.int .u8 0) (by kernel_rfl) (by kernel_rfl)) fun v30 => ?_
    -- STORES 41 at ptrAt (v30) 64 0 of .agg ({ toList := bts x })
    refine HOp.un (Stp.storeW 1 41 (v30) (.agg ({ toList := bts x })) 41 64 (List.replicate 64 (Value.int IntKind.u8 0)) _ (by kernel_rfl) (by kernel_rfl) rfl (by assumption) (fun _ => bts_one) (by kernel_rfl)) ?_
    refine HOp.done (by kernel_rfl) ?_
    refine H.sr (by kernel_rfl) ?_
    refine H.block ?_
    -- LOOP from ⟨44, [(11, .v (.int .i64 0)), (10, .v (ptrAt (v30) 64 0)), (32, .v (.agg ({ toList := bts x }))), (31, .v (ptrAt (v) 64 (IntKind.i64.wrap (IntKind.i64.wrap a + (↑i : Int))))), (30, .v (.int .i64 (IntKind.i64.wrap (IntKind.i64.wrap a + (↑i : Int))))), (29, .v (.int .i64 ((↑i : Int)))), (28, .v (.int .i64 (IntKind.i64.wrap a))), (27, .v (.int .u64 a)), (26, .v (v)), (23, .v (.bool (decide ((↑i : Int) < k)))), (22, .v (.int .i64 k)), (21, .v (.int .i64 ((↑i : Int)))), (9, .v (.int .i64 ((↑i : Int)))), (8, .v (u)), (0, .v (v)), (1, .v (.int .u64 a)), (2, .v (.int .i64 k))], [], [⟨u, 5, 1, (List.take i ys).flatten.length, bts (List.take i ys).flatten⟩, ⟨v30, 41, 64, 1, bts x⟩]⟩
    rotate_left
    refine H.loop (X := Nat × Value) (fun z => ⟨44, [(11, .v (.int .i64 z.1)), (10, .v (ptrAt v30 64 0)), (9, .v (.int .i64 i)), (8, .v z.2), (0, .v v), (1, .v (.int .u64 a)), (2, .v (.int .i64 k))], [], [⟨z.2, 5, 1, ((ys.take i).flatten ++ x.take z.1).length, bts ((ys.take i).flatten ++ x.take z.1)⟩, ⟨v30, 41, 64, 1, bts x⟩]⟩)
      (fun z G' => z.1 ≤ 64 ∧ GExt B.G0 G') (fun z => 65 - z.1) (0, u) (le_k [⟨u, 5, 1, (ys.take i).flatten.length, bts (ys.take i).flatten⟩, ⟨v30, 41, 64, 1, bts x⟩] (by kernel_rfl) (by simp)) ⟨by simp, g0⟩ (fun _ => by rw [hm]; exact Nat.zero_le _) ?_
    rintro ⟨j, w⟩ G2 ⟨hj, g2⟩
    dsimp only at hj ⊢
    have hlen : ((ys.take i).flatten ++ x.take j).length ≤ 70000 := by rw [List.length_append, List.length_take]; omega
    refine H.seq ?_
    refine H.sr (by kernel_rfl) ?_
    refine H.ifd ((↑j : Int) < 64) (by kernel_rfl) (fun t40 => ?_) (fun t40 => ?_)
    refine H.skip ?_
    refine H.seq ?_
    refine H.block ?_
    refine H.region (HOp.ev 2 ?_)
    refine HOp.rdo 1 (v30) 41 64 1 (bts x) (.idx 41 (ptrAt (v30) 64 0) (.int .i64 ((↑j : Int)))) (by kernel_rfl) (by kernel_rfl) (fun Gx gx o => (qidxA 64 1 o.pat (by omega) (by omega))) ?_
    obtain ⟨x41, hx41⟩ : ∃ x41, x[j]? = some x41 := ⟨_, List.getElem?_eq_getElem (by omega)⟩
    refine HOp.rdo 1 (v30) 41 64 1 (bts x) (.load 5 (ptrOff (ptrAt (v30) 64 0) 1 ((↑j : Int)))) (by kernel_rfl) (by kernel_rfl) (fun Gx gx o => (PAt.load8 o.pat (by omega) hx41)) ?_
    refine HOp.ex (Stp.buildF 25 1 [(0, .int .u8 x41)] (.int .u8 0) 5 1 1 (bts [x41]) (by kernel_rfl) (by kernel_rfl) rfl (by omega) (by kernel_rfl)) fun v42 G42 g42 k42 => ?_
    refine HOp.nu (Stp.appendB (xs := (List.take i ys).flatten ++ List.take j x) 0 25 (w) (v42) 5 1 (by kernel_rfl) (by kernel_rfl) k42 (by omega) (by kernel_rfl)) fun v43 => ?_
    refine HOp.ev 1 ?_
    refine HOp.done (by kernel_rfl) ?_
    refine H.reg (by kernel_rfl) ?_
    refine ex_st ⟨44, [(11, .v (.int .i64 (IntKind.i64.wrap ((↑j : Int) + 1)))), (8, .v (v43)), (10, .v (ptrAt (v30) 64 0)), (9, .v (.int .i64 ((↑i : Int)))), (0, .v (v)), (1, .v (.int .u64 a)), (2, .v (.int .i64 k))], [], [⟨v43, 5, 1, ((List.take i ys).flatten ++ List.take j x ++ [x41]).length, bts ((List.take i ys).flatten ++ List.take j x ++ [x41])⟩, ⟨v30, 41, 64, 1, bts x⟩]⟩ (by kernel_rfl) ?_
    rotate_left
    refine H.exit ?_
    refine H.reg (by kernel_rfl) ?_
    refine ex_st ⟨44, [(9, .v (.int .i64 (IntKind.i64.wrap ((↑i : Int) + 1)))), (8, .v (w)), (0, .v (v)), (1, .v (.int .u64 a)), (2, .v (.int .i64 k))], [], [⟨w, 5, 1, ((List.take i ys).flatten ++ List.take j x).length, bts ((List.take i ys).flatten ++ List.take j x)⟩]⟩ (by kernel_rfl) ?_
    rotate_left
    · rw [nat_wrap (i := j) (by omega)]
      refine ex_le (j + 1, v43) (by kernel_rfl) ?_ ⟨⟨by dsimp only; omega, g2.trans g42⟩, by dsimp only; omega⟩
      dsimp only
      rw [List.take_add_one, hx41, ← List.append_assoc]; rfl
    · rw [nat_wrap (i := i) (by omega)]
      refine ex_le (i + 1, w) (by kernel_rfl) ?_ ⟨⟨by dsimp only; omega, g2⟩, by dsimp only; omega⟩
      dsimp only
      rw [flatten_take_succ hx, List.take_of_length_le (l := x) (by omega)]
  · refine H.exit ?_
    refine H.sr (by kernel_rfl) ?_
    refine H.ret ?_
    refine ⟨.tuple #[u, .int .i64 0], resOk_of (s := .tup [.v (u), .v (.int .i64 0)]) (by kernel_rfl) (by kernel_rfl), .inl ⟨0, u, rfl, ow_at (n' := (List.take i ys).flatten.length) (l' := bts (List.take i ys).flatten) (by kernel_rfl) ?_ ?_⟩⟩
    rotate_left
    rotate_left
    · rw [List.take_of_length_le (by omega)]
    · rw [List.take_of_length_le (by omega)]
end Go.Proofs.Ytdfahkpjdjjalaa
