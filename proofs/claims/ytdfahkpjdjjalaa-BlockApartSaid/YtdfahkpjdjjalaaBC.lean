/- Contracts of the layer block: reading. -/
import Derived.Test.YtdfahkpjdjjalaaBB
import Derived.Test.YtdfahkpjdjjalaaVcRow
namespace Go.Proofs.Ytdfahkpjdjjalaa
open Go.RowKit Vc

/-- The error of a reading: too long a store, no such blocks, or none. -/
def readE (n : Nat) (a k : Int) : Int := if 64 < n then 4 else if within n a k = true then 0 else 5
/-- The blocks that are read. -/
def readL (bs : List (List Int)) (a k : Int) : List (List Int) := if readE bs.length a k = 0 then (bs.drop a.toNat).take k.toNat else []
theorem readE_long {n : Nat} {a k : Int} (h : 64 < n) : readE n a k = 4 := if_pos h
theorem readE_out {n : Nat} {a k : Int} (h : ¬ 64 < n) (hw : within n a k = false) : readE n a k = 5 := by rw [readE, if_neg h, hw]; rfl
theorem readE_in {n : Nat} {a k : Int} (h : ¬ 64 < n) (hw : within n a k = true) : readE n a k = 0 := by rw [readE, if_neg h, hw]; rfl
theorem readL_no {bs : List (List Int)} {a k : Int} (h : readE bs.length a k ≠ 0) : readL bs a k = [] := if_neg h
theorem readL_in {bs : List (List Int)} {a k : Int} (h : readE bs.length a k = 0) : readL bs a k = (bs.drop a.toNat).take k.toNat := if_pos h
theorem within_iff {c a n : Int} : within c a n = true ↔ 0 ≤ n ∧ n ≤ c ∧ a ≤ c - n := by simp [within]
theorem some_row {v : Value} {bs : List (List Int)} {a k : Int} {G : GH} (h1 : RowC G v 64 bts bs) (hb : bs.length < 1000) (ha : 0 ≤ a) :
    ∃ pv, PureG Try.prog 22 [v, .int .u64 a, .int .i64 k] G (.tuple #[pv, .int .i64 (readE bs.length a k)]) ∧ RowC G pv 64 bts (readL bs a k) ∧ (readL bs a k).length ≤ 64 := by
  have hs := some_ok (a := a) (k := k) h1.row hb ha
  by_cases hL : 64 < bs.length
  · refine ⟨.slice none 0 0, ?_, ?_, ?_⟩
    · rw [readE_long hL]; rwa [someV, if_pos hL] at hs
    · rw [readL_no (by rw [readE_long hL]; omega)]; exact RowC.nil _ _ _
    · rw [readL_no (by rw [readE_long hL]; omega)]; simp
  by_cases hw : within bs.length a k = true
  · have hq := within_iff.1 hw
    have hp := (h1.sub (lo := a.toNat) (hi := bs.length) (by omega) (by omega)).sub (lo := 0) (hi := k.toNat) (by omega) (by rw [List.length_take, List.length_drop]; omega)
    have e0 := readE_in hL hw
    refine ⟨subAt (subAt v 64 a.toNat bs.length) 64 0 k.toNat, ?_, ?_, ?_⟩
    · rw [e0]; rwa [someV, if_neg hL, if_pos hw] at hs
    · rw [readL_in e0]
      rwa [List.drop_zero, Nat.sub_zero, List.take_of_length_le (l := bs.drop a.toNat) (by rw [List.length_drop]; omega)] at hp
    · rw [readL_in e0, List.length_take]; omega
  · have e5 := readE_out hL (by simpa using hw)
    refine ⟨.slice none 0 0, ?_, ?_, ?_⟩
    · rw [e5]; rwa [someV, if_neg hL, if_neg hw] at hs
    · rw [readL_no (by rw [e5]; omega)]; exact RowC.nil _ _ _
    · rw [readL_no (by rw [e5]; omega)]; simp
theorem flatten_take_succ {bs : List (List Int)} {i : Nat} {x : List Int} (h : bs[i]? = some x) : (bs.take (i + 1)).flatten = (bs.take i).flatten ++ x := by
  rw [List.take_add_one, h]; simp
theorem flatten_len {bs : List (List Int)} (h : ∀ b ∈ bs, (bts b).length = 64) : bs.flatten.length = bs.length * 64 := by
  induction bs with
  | nil => rfl
  | cons b r ih =>
    have := h b (by simp)
    rw [bts_length] at this
    rw [List.flatten_cons, List.length_append, this, ih fun c hc => h c (by simp [hc]), List.length_cons, Nat.add_mul]; omega
theorem read_ok {v : Value} {bs : List (List Int)} {a k : Int} {G : GH} (h1 : RowC G v 64 bts bs) (hb : bs.length < 1000) (ha : 0 ≤ a) :
    FunO Try.prog 9 [v, .int .u64 a, .int .i64 k] G (fun u => .tuple #[u, .int .i64 (readE bs.length a k)]) 5 1 (readL bs a k).flatten.length (bts (readL bs a k).flatten) := by
  refine FunO.body Try.func9 rfl (by kernel_rfl) fun B hm hG => ?_
  subst hG
  obtain ⟨pv, hsome, hp, hm64⟩ := some_row (k := k) h1 hb ha
  generalize he : readE bs.length a k = er at hsome
  generalize hy : readL bs a k = ys at hp hm64
  have hwd : ∀ i, ((ys.take i).flatten).length ≤ 4096 := fun i => by
    rw [flatten_len fun b hb => hp.wd b (List.mem_of_mem_take hb), List.length_take]; omega
  refine H.sr (by kernel_rfl) ?_
  refine H.seq (H.region (HOp.ev 3 ?_))
  -- HOp CALL 22 [v, .int .u64 a, .int .i64 k] (place 3)
  refine HOp.un (Stp.pureG 22 [v, .int .u64 a, .int .i64 k] (by kernel_rfl) (by kernel_rfl) (GExt.refl _) (hsome)) ?_
  refine HOp.ev 5 ?_
  refine HOp.done (by kernel_rfl) ?_
  refine H.seq ?_
  refine H.seq (H.region (HOp.ev 1 ?_))
  refine HOp.rd (.len 22 (pv)) (by kernel_rfl) (qlen hp.row) ?_
  refine HOp.ev 1 ?_
  refine HOp.done (by kernel_rfl) ?_
  refine H.block ?_
  -- LOOP from ⟨30, [(20, .v (.int .i64 0)), (19, .v (.int .i64 ((↑ys.length : Int)))), (18, .v (pv)), (7, .v (.int .i64 er)), (8, .v (pv)), (17, .v (.int .i64 er)), (16, .v (pv)), (11, .v (.tuple #[pv, .int .i64 er])), (15, .v (.tuple #[pv, .int .i64 er])), (14, .v (.int .i64 k)), (13, .v (.int .u64 a)), (12, .v (v)), (6, .v (.slice none 0 0)), (0, .v (v)), (1, .v (.int .u64 a)), (2, .v (.int .i64 k))], [], []⟩
  rotate_left
  refine H.own0 5 1 ?_
  refine H.loop (X := Nat × Value) (fun x => ⟨30, [(20, .v (.int .i64 x.1)), (19, .v (.int .i64 ys.length)), (18, .v pv), (7, .v (.int .i64 er)), (6, .v x.2)], [], [⟨x.2, 5, 1, (ys.take x.1).flatten.length, bts (ys.take x.1).flatten⟩]⟩) (fun x G' => x.1 ≤ ys.length ∧ GExt B.G0 G') (fun x => ys.length + 1 - x.1) (0, .slice none 0 0) (le_of (by kernel_rfl)) ⟨by simp, GExt.refl _⟩ (fun _ => by rw [hm]; exact Nat.zero_le _) ?_
  rintro ⟨i, u⟩ G1 ⟨hi1, g0⟩
  dsimp only at hi1 ⊢
  have e1 := wrap_i64 (x := (i : Int) + 1) (by omega) (by omega)
  have := hwd i
  refine H.sr (by kernel_rfl) ?_
  refine H.seq ?_
  refine H.ifd ((↑i : Int) < (↑ys.length : Int)) (by kernel_rfl) (fun t20 => ?_) (fun t20 => ?_)
  refine H.skip ?_
  refine H.seq ?_
  refine H.block ?_
  refine H.seq (H.region ?_)
  refine HOp.rd (.idx 22 (pv) (.int .i64 ((↑i : Int)))) (by kernel_rfl) (qidx hp.row (by omega) (by omega)) ?_
  (obtain ⟨x21, hx21⟩ : ∃ x21, ys[i]? = some x21 := ⟨_, List.getElem?_eq_getElem (by omega)⟩; have hl21 := hp.wd x21 (List.mem_of_getElem? hx21))
  refine HOp.rd (.load 41 (ptrAt (pv) 64 ((↑i : Int)))) (by kernel_rfl) (RowC.loadA (hp.mono g0) (by omega) hx21) ?_
  refine HOp.nu (Stp.alloc 41 64 64 (.int .u8 0) (by kernel_rfl) (by kernel_rfl)) fun v22 => ?_
  -- STORES 41 at ptrAt (v22) 64 0 of .agg ({ toList := bts x21 })
  refine HOp.un (Stp.storeW 1 41 (v22) (.agg ({ toList := bts x21 })) 41 64 (List.replicate 64 (Value.int IntKind.u8 0)) _ (by kernel_rfl) (by kernel_rfl) rfl (by assumption) (fun _ => bts_one) (by kernel_rfl)) ?_
  refine HOp.done (by kernel_rfl) ?_
  refine H.region (HOp.ev 1 ?_)
  refine HOp.rdo 1 (v22) 41 64 1 (bts x21) (.slice 41 (ptrAt (v22) 64 0) none none) (by kernel_rfl) (by kernel_rfl) (fun Gx gx o => (qsliceA 64 1 o.pat)) ?_
  refine HOp.freeze 1 (v22) 41 64 1 (bts x21) (by kernel_rfl) fun G23 g23 o23 => ?_
  refine HOp.nu (Stp.appendB (xs := (List.take i ys).flatten) 0 25 (u) (sliceOf (ptrAt (v22) 64 0) 64) 5 1 (by kernel_rfl) (by kernel_rfl) (o23.pat.row 1 64 (by omega)) (by omega) (by kernel_rfl)) fun v24 => ?_
  refine HOp.ev 1 ?_
  refine HOp.done (by kernel_rfl) ?_
  refine H.reg (by kernel_rfl) ?_
  refine ex_st ⟨30, [(20, .v (.int .i64 (IntKind.i64.wrap ((↑i : Int) + 1)))), (6, .v (v24)), (19, .v (.int .i64 ((↑ys.length : Int)))), (18, .v (pv)), (7, .v (.int .i64 er))], [], [⟨v24, 5, 1, ((List.take i ys).flatten ++ x21).length, bts ((List.take i ys).flatten ++ x21)⟩]⟩ (by kernel_rfl) ?_
  rotate_left
  refine H.exit ?_
  refine H.sr (by kernel_rfl) ?_
  refine H.ret ?_
  refine ⟨.tuple #[u, .int .i64 er], resOk_of (s := .tup [.v (u), .v (.int .i64 er)]) (by kernel_rfl) (by kernel_rfl), .inl ⟨0, u, rfl, ow_at (n' := (List.take i ys).flatten.length) (l' := bts (List.take i ys).flatten) (by kernel_rfl) ?_ ?_⟩⟩
  rotate_left
  rotate_left
  · have e2 : IntKind.i64.wrap ((i : Int) + 1) = ((i + 1 : Nat) : Int) := by omega
    rw [e2]
    refine ex_le (i + 1, v24) (by kernel_rfl) ?_ ⟨⟨by dsimp only; omega, g0.trans g23⟩, by dsimp only; omega⟩
    dsimp only
    rw [flatten_take_succ hx21, ← bts_append, List.length_append]
  · rw [List.take_of_length_le (by omega)]
  · rw [List.take_of_length_le (by omega)]
end Go.Proofs.Ytdfahkpjdjjalaa
