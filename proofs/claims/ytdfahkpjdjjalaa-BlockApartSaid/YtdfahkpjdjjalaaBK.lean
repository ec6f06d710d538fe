/- Contracts of the layer block: stores that are made, by the program and by the reference. -/
import Derived.Test.YtdfahkpjdjjalaaBJ
import Derived.Test.YtdfahkpjdjjalaaVcRow
namespace Go.Proofs.Ytdfahkpjdjjalaa
open Go.RowKit Vc

def makeE (n : Int) : Int := if n < 0 ∨ 64 < n then 1 else 0
def makeL (n fill : Int) : List (List Int) := if makeE n = 0 then List.replicate n.toNat (List.replicate 64 fill) else []
theorem makeE_no {n : Int} (h : n < 0 ∨ 64 < n) : makeE n = 1 := if_pos h
theorem makeE_in {n : Int} (h0 : 0 ≤ n) (h1 : n ≤ 64) : makeE n = 0 := if_neg (by omega)
theorem makeL_no {n fill : Int} (h : n < 0 ∨ 64 < n) : makeL n fill = [] := by rw [makeL, makeE_no h, if_neg (by omega)]
theorem makeL_in {n fill : Int} (h0 : 0 ≤ n) (h1 : n ≤ 64) : makeL n fill = List.replicate n.toNat (List.replicate 64 fill) := by rw [makeL, makeE_in h0 h1, if_pos rfl]
theorem set_rep {k m : Nat} {z : Int} (hk : k < m) : (List.replicate k z ++ List.replicate (m - k) 0).set k z = List.replicate (k + 1) z ++ List.replicate (m - (k + 1)) 0 := by
  have e : m - k = (m - (k + 1)) + 1 := by omega
  rw [List.set_append_right _ _ (by simp), List.length_replicate, Nat.sub_self, e, List.replicate_succ, List.set_cons_zero, List.replicate_succ' (n := k)]; simp
theorem make_ok {n fill : Int} {G : GH} : FunO Try.prog 20 [.int .i64 n, .int .u8 fill] G (fun v => .tuple #[v, .int .i64 (makeE n)]) 41 64 (makeL n fill).length ((makeL n fill).flatMap bts) := by
  refine FunO.body Try.func20 rfl (by kernel_rfl) fun B hm hG => ?_
  subst hG
  refine H.sr (by kernel_rfl) ?_
  refine H.seq ?_
  refine H.seq (H.region (HOp.ev 3 ?_))
  refine HOp.ifd 10 (n < 0) (by kernel_rfl) (fun t1 => ?_) (fun t1 => ?_)
  refine HOp.ev 3 ?_
  refine HOp.done (by kernel_rfl) ?_
  refine H.condT (by kernel_rfl) ?_
  refine H.sr (by kernel_rfl) ?_
  refine H.ret ?_
  refine ⟨.tuple #[.slice none 0 0, .int .i64 1], resOk_of (s := .tup [.v (.slice none 0 0), .v (.int .i64 1)]) (by kernel_rfl) (by kernel_rfl), ?_⟩
  rotate_left
  refine HOp.ev 3 ?_
  refine HOp.done (by kernel_rfl) ?_
  refine H.ifd (n > 64) (by kernel_rfl) (fun t2 => ?_) (fun t2 => ?_)
  refine H.sr (by kernel_rfl) ?_
  refine H.ret ?_
  refine ⟨.tuple #[.slice none 0 0, .int .i64 1], resOk_of (s := .tup [.v (.slice none 0 0), .v (.int .i64 1)]) (by kernel_rfl) (by kernel_rfl), ?_⟩
  rotate_left
  refine H.skip ?_
  refine H.seq (H.region ?_)
  refine HOp.nu (Stp.alloc 41 64 64 (.int .u8 0) (by kernel_rfl) (by kernel_rfl)) fun v3 => ?_
  refine HOp.done (by kernel_rfl) ?_
  refine H.seq ?_
  refine H.sr (by kernel_rfl) ?_
  refine H.block ?_
  -- LOOP from ⟨25, [(14, .v (.int .i64 0)), (6, .v (ptrAt (v3) 64 0)), (13, .v (.bool (decide (n > 64)))), (12, .v (.bool (decide (n > 64)))), (11, .v (.int .i64 n)), (10, .v (.bool false)), (9, .v (.bool (decide (n < 0)))), (8, .v (.int .i64 n)), (5, .v (.int .i64 0)), (4, .v (.slice none 0 0)), (0, .v (.int .i64 n)), (1, .v (.int .u8 fill))], [], [⟨v3, 41, 64, 1, List.replicate 64 (Value.int IntKind.u8 0)⟩]⟩
  rotate_left
  · exact .inr ⟨by rw [makeE_no (.inl t1)], by rw [makeL_no (.inl t1)]; rfl, by rw [makeL_no (.inl t1)]; rfl⟩
  · exact .inr ⟨by rw [makeE_no (.inr t2)], by rw [makeL_no (.inr t2)]; rfl, by rw [makeL_no (.inr t2)]; rfl⟩
  refine H.loop (X := Nat) (fun k => ⟨25, [(14, .v (.int .i64 k)), (6, .v (ptrAt v3 64 0)), (0, .v (.int .i64 n)), (1, .v (.int .u8 fill))], [], [⟨v3, 41, 64, 1, bts (List.replicate k fill ++ List.replicate (64 - k) 0)⟩]⟩)
    (fun k G' => k ≤ 64 ∧ GExt B.G0 G') (fun k => 65 - k) 0 (le_k [⟨v3, 41, 64, 1, List.replicate 64 (Value.int IntKind.u8 0)⟩] (by kernel_rfl) (by simp [bts_zero])) ⟨by simp, GExt.refl _⟩ (fun _ => by rw [hm]; exact Nat.zero_le _) ?_
  rintro k G1 ⟨hk, g1⟩
  have hl : (List.replicate k fill ++ List.replicate (64 - k) 0).length = 64 := by simp; omega
  refine H.sr (by kernel_rfl) ?_
  refine H.seq ?_
  refine H.ifd ((↑k : Int) < 64) (by kernel_rfl) (fun t20 => ?_) (fun t20 => ?_)
  refine H.skip ?_
  refine H.seq ?_
  refine H.block ?_
  refine H.sr (by kernel_rfl) ?_
  refine H.region (HOp.ev 2 ?_)
  refine HOp.rdo 0 (v3) 41 64 1 (bts (List.replicate k fill ++ List.replicate (64 - k) 0)) (.idx 41 (ptrAt (v3) 64 0) (.int .i64 ((↑k : Int)))) (by kernel_rfl) (by kernel_rfl) (fun Gx gx o => (qidxA 64 1 o.pat (by omega) (by omega))) ?_
  -- STORES 5 at ptrOff (ptrAt (v3) 64 0) 1 ((↑k : Int)) of .int .u8 fill
  refine HOp.un (Stp.storeA (xs := List.replicate k fill ++ List.replicate (64 - k) 0) (z := fill) 0 5 (v3) 41 64 ((↑k : Int)) (by kernel_rfl) (by kernel_rfl) (by omega) (by omega) (by omega) (by kernel_rfl)) ?_
  refine HOp.done (by kernel_rfl) ?_
  refine H.reg (by kernel_rfl) ?_
  refine ex_st ⟨25, [(14, .v (.int .i64 (IntKind.i64.wrap ((↑k : Int) + 1)))), (6, .v (ptrAt (v3) 64 0)), (0, .v (.int .i64 n)), (1, .v (.int .u8 fill))], [], [⟨v3, 41, 64, 1, bts ((List.replicate k fill ++ List.replicate (64 - k) 0).set (↑k : Int).toNat fill)⟩]⟩ (by kernel_rfl) ?_
  rotate_left
  refine H.exit ?_
  refine H.seq (H.region ?_)
  refine HOp.rdo 0 (v3) 41 64 1 (bts (List.replicate k fill ++ List.replicate (64 - k) 0)) (.load 41 (ptrAt (v3) 64 0)) (by kernel_rfl) (by kernel_rfl) (fun Gx gx o => (Own.loadW o)) ?_
  refine HOp.ex (Stp.buildF 22 1 [(0, .agg ({ toList := bts (List.replicate k fill ++ List.replicate (64 - k) 0) }))] (.int .u8 0) 41 64 64 (bts (List.replicate k fill ++ List.replicate (64 - k) 0)) (by kernel_rfl) (fill_one (by rw [bts_length]; omega)) (by rw [Nat.one_mul]; exact (by rw [bts_length]; omega)) (by omega) (by kernel_rfl)) fun v21 G21 g21 k21 => ?_
  refine HOp.ev 1 ?_
  -- HOp CALL 27 [v21, .int .i64 n] (place 3)
  refine HOp.nu (Stp.funN 27 [v21, .int .i64 n] (by kernel_rfl) (by kernel_rfl) fun Gx gx => (repeat_ok (k21.mono gx) (by omega) (by omega))) fun v22 => ?_
  refine HOp.ev 2 ?_
  refine HOp.done (by kernel_rfl) ?_
  refine H.ret ?_
  refine ⟨.tuple #[v22, .int .i64 0], resOk_of (s := .tup [.v (v22), .v (.int .i64 0)]) (by kernel_rfl) (by kernel_rfl), ?_⟩
  rotate_left
  · rw [nat_wrap (i := k) (by omega)]
    refine ex_le (k + 1) (by kernel_rfl) ?_ ⟨⟨by omega, g1⟩, by omega⟩
    dsimp only
    rw [Int.toNat_natCast, set_rep (by omega)]
  · have e : k = 64 := by omega
    subst e
    refine .inl ⟨1, v22, by rw [makeE_in (by omega) (by omega)], ow_at (n' := n.toNat) (l' := (List.replicate n.toNat (List.replicate 64 fill ++ List.replicate (64 - 64) 0)).flatMap bts) (by kernel_rfl) ?_ ?_⟩
    · rw [makeL_in (by omega) (by omega)]; simp
    · rw [makeL_in (by omega) (by omega)]; simp
theorem filled_get {x : List Int} {n i : Nat} (h : i < n) : (filled x n i)[i]? = some (List.replicate 64 0) := by
  rw [filled, List.getElem?_append_right (by simp), List.length_replicate, Nat.sub_self, List.getElem?_replicate, if_pos (by omega)]
theorem filled_set {x : List Int} {n i : Nat} (h : i < n) : (filled x n i).set i x = filled x n (i + 1) := by
  have e : n - i = (n - (i + 1)) + 1 := by omega
  rw [filled, List.set_append_right _ _ (by simp), List.length_replicate, Nat.sub_self, e, List.replicate_succ, List.set_cons_zero, filled, List.replicate_succ' (n := i)]; simp
theorem set_same {bs : List (List Int)} {i : Nat} {b : List Int} (h : bs[i]? = some b) : bs.set i b = bs := by
  apply List.ext_getElem?; intro j
  rw [List.getElem?_set]
  by_cases e : i = j
  · subst e; rw [if_pos rfl, if_pos (List.getElem?_eq_some_iff.1 h).1, h]
  · simp [e]
theorem refMake_ok {n fill : Int} {G : GH} : FunO Try.prog 21 [.int .i64 n, .int .u8 fill] G (fun v => .tuple #[v, .int .i64 (makeE n)]) 41 64 (makeL n fill).length ((makeL n fill).flatMap bts) := by
  refine FunO.body Try.func21 rfl (by kernel_rfl) fun B hm hG => ?_
  subst hG
  refine H.sr (by kernel_rfl) ?_
  refine H.seq ?_
  refine H.seq (H.region (HOp.ev 3 ?_))
  refine HOp.ifd 11 (n < 0) (by kernel_rfl) (fun t1 => ?_) (fun t1 => ?_)
  refine HOp.ev 3 ?_
  refine HOp.done (by kernel_rfl) ?_
  refine H.condT (by kernel_rfl) ?_
  refine H.sr (by kernel_rfl) ?_
  refine H.ret ?_
  refine ⟨.tuple #[.slice none 0 0, .int .i64 1], resOk_of (s := .tup [.v (.slice none 0 0), .v (.int .i64 1)]) (by kernel_rfl) (by kernel_rfl), ?_⟩
  rotate_left
  refine HOp.ev 3 ?_
  refine HOp.done (by kernel_rfl) ?_
  refine H.ifd (n > 64) (by kernel_rfl) (fun t2 => ?_) (fun t2 => ?_)
  refine H.sr (by kernel_rfl) ?_
  refine H.ret ?_
  refine ⟨.tuple #[.slice none 0 0, .int .i64 1], resOk_of (s := .tup [.v (.slice none 0 0), .v (.int .i64 1)]) (by kernel_rfl) (by kernel_rfl), ?_⟩
  rotate_left
  refine H.skip ?_
  refine H.seq (H.region (HOp.ev 1 ?_))
  refine HOp.mf (Stp.makeF 22 .i64 .i64 n (.int .u8 0) 41 64 64 (by kernel_rfl) (by omega) (by omega) (by kernel_rfl)) fun v3 fu3 => ?_
  refine HOp.ev 1 ?_
  refine HOp.done (by kernel_rfl) ?_
  refine H.seq ?_
  refine H.sr (by kernel_rfl) ?_
  refine H.block ?_
  -- LOOP from ⟨33, [(7, .v (.int .i64 0)), (6, .v (v3)), (16, .v (v3)), (15, .v (.int .i64 n)), (14, .v (.bool (decide (n > 64)))), (13, .v (.bool (decide (n > 64)))), (12, .v (.int .i64 n)), (11, .v (.bool false)), (10, .v (.bool (decide (n < 0)))), (9, .v (.int .i64 n)), (5, .v (.int .i64 0)), (4, .v (.slice none 0 0)), (0, .v (.int .i64 n)), (1, .v (.int .u8 fill))], [], [⟨v3, 41, 64, n.toNat, List.replicate (n.toNat * 64) (Value.int IntKind.u8 0)⟩]⟩
  rotate_left
  · exact .inr ⟨by rw [makeE_no (.inl t1)], by rw [makeL_no (.inl t1)]; rfl, by rw [makeL_no (.inl t1)]; rfl⟩
  · exact .inr ⟨by rw [makeE_no (.inr t2)], by rw [makeL_no (.inr t2)]; rfl, by rw [makeL_no (.inr t2)]; rfl⟩
  have hfl : (List.replicate 64 fill).length = 64 := by simp
  refine H.loop (X := Nat) (fun i => ⟨33, [(7, .v (.int .i64 i)), (6, .v v3), (0, .v (.int .i64 n)), (1, .v (.int .u8 fill))], [], [⟨v3, 41, 64, (filled (List.replicate 64 fill) n.toNat i).length, (filled (List.replicate 64 fill) n.toNat i).flatMap bts⟩]⟩)
    (fun i G' => i ≤ n.toNat ∧ GExt B.G0 G') (fun i => n.toNat + 1 - i) 0 (le_k [⟨v3, 41, 64, n.toNat, List.replicate (n.toNat * 64) (Value.int IntKind.u8 0)⟩] (by kernel_rfl) (by rw [rep_flat]; simp [filled])) ⟨by simp, GExt.refl _⟩ (fun _ => by rw [hm]; exact Nat.zero_le _) ?_
  rintro i G1 ⟨hi, g1⟩
  have hln := filled_len (x := List.replicate 64 fill) hi
  refine H.seq ?_
  refine H.sr (by kernel_rfl) ?_
  refine H.ifd ((↑i : Int) < n) (by kernel_rfl) (fun t20 => ?_) (fun t20 => ?_)
  refine H.skip ?_
  refine H.seq ?_
  refine H.block ?_
  refine H.sr (by kernel_rfl) ?_
  refine H.block ?_
  -- STATE ⟨33, [(8, .v (.int .i64 0)), (19, .v (.bool (decide ((↑i : Int) < n)))), (18, .v (.int .i64 n)), (17, .v (.int .i64 ((↑i : Int)))), (7, .v (.int .i64 ((↑i : Int)))), (6, .v (v3)), (0, .v (.int .i64 n)), (1, .v (.int .u8 fill))], [], [⟨v3, 41, 64, (filled (List.replicate 64 fill) n.toNat i).length, List.flatMap bts (filled (List.replicate 64 fill) n.toNat i)⟩]⟩
  -- STATE ⟨33, [(19, .v (.bool (decide ((↑i : Int) < n)))), (18, .v (.int .i64 n)), (17, .v (.int .i64 ((↑i : Int)))), (7, .v (.int .i64 ((↑i : Int)))), (6, .v (v3)), (0, .v (.int .i64 n)), (1, .v (.int .u8 fill))], [], [⟨v3, 41, 64, (filled (List.replicate 64 fill) n.toNat i).length, List.flatMap bts (filled (List.replicate 64 fill) n.toNat i)⟩]⟩
  · have hwd : ∀ k, k ≤ 64 → ∀ b ∈ (filled (List.replicate 64 fill) n.toNat i).set i (List.replicate k fill ++ List.replicate (64 - k) 0), (bts b).length = 64 := fun k hk b hb => by
      rcases List.mem_or_eq_of_mem_set hb with h | rfl
      · exact filled_wd hfl b h
      · rw [bts_length]; simp; omega
    -- LOOP from ⟨33, [(8, .v (.int .i64 0)), (19, .v (.bool (decide ((↑i : Int) < n)))), (18, .v (.int .i64 n)), (17, .v (.int .i64 ((↑i : Int)))), (7, .v (.int .i64 ((↑i : Int)))), (6, .v (v3)), (0, .v (.int .i64 n)), (1, .v (.int .u8 fill))], [], [⟨v3, 41, 64, (filled (List.replicate 64 fill) n.toNat i).length, List.flatMap bts (filled (List.replicate 64 fill) n.toNat i)⟩]⟩
    rotate_left
    refine H.loop (X := Nat) (fun k => ⟨33, [(8, .v (.int .i64 k)), (7, .v (.int .i64 i)), (6, .v v3), (0, .v (.int .i64 n)), (1, .v (.int .u8 fill))], [], [⟨v3, 41, 64, ((filled (List.replicate 64 fill) n.toNat i).set i (List.replicate k fill ++ List.replicate (64 - k) 0)).length, ((filled (List.replicate 64 fill) n.toNat i).set i (List.replicate k fill ++ List.replicate (64 - k) 0)).flatMap bts⟩]⟩)
      (fun k G' => k ≤ 64 ∧ GExt B.G0 G') (fun k => 65 - k) 0 (le_k [⟨v3, 41, 64, (filled (List.replicate 64 fill) n.toNat i).length, (filled (List.replicate 64 fill) n.toNat i).flatMap bts⟩] (by kernel_rfl) ?_) ⟨by simp, g1⟩ (fun _ => by rw [hm]; exact Nat.zero_le _) ?_
    · have := set_same (filled_get (x := List.replicate 64 fill) (n := n.toNat) (i := i) (by omega))
      dsimp only
      rw [show List.replicate 0 fill ++ List.replicate (64 - 0) (0 : Int) = List.replicate 64 0 by simp, this]
    rintro k G2 ⟨hk, g2⟩
    have hwk := hwd k hk
    have hsl : ((filled (List.replicate 64 fill) n.toNat i).set i (List.replicate k fill ++ List.replicate (64 - k) 0)).length = n.toNat := by rw [List.length_set]; exact hln
    have hgk : ((filled (List.replicate 64 fill) n.toNat i).set i (List.replicate k fill ++ List.replicate (64 - k) 0))[i]? = some (List.replicate k fill ++ List.replicate (64 - k) 0) := by rw [List.getElem?_set, if_pos rfl, if_pos (by omega)]
    refine H.seq ?_
    refine H.sr (by kernel_rfl) ?_
    refine H.ifd ((↑k : Int) < 64) (by kernel_rfl) (fun t40 => ?_) (fun t40 => ?_)
    refine H.skip ?_
    refine H.seq ?_
    refine H.block ?_
    refine H.region (HOp.ev 4 ?_)
    refine HOp.rdo 0 (v3) 41 64 (((filled (List.replicate 64 fill) n.toNat i).set i (List.replicate k fill ++ List.replicate (64 - k) 0)).length) (List.flatMap bts ((filled (List.replicate 64 fill) n.toNat i).set i (List.replicate k fill ++ List.replicate (64 - k) 0))) (.idx 22 (v3) (.int .i64 ((↑i : Int)))) (by kernel_rfl) (by kernel_rfl) (fun Gx gx o => (qidx o.row (by omega) (by omega))) ?_
    refine HOp.rdo 0 (v3) 41 64 (((filled (List.replicate 64 fill) n.toNat i).set i (List.replicate k fill ++ List.replicate (64 - k) 0)).length) (List.flatMap bts ((filled (List.replicate 64 fill) n.toNat i).set i (List.replicate k fill ++ List.replicate (64 - k) 0))) (.idx 41 (ptrAt (v3) 64 ((↑i : Int))) (.int .i64 ((↑k : Int)))) (by kernel_rfl) (by kernel_rfl) (fun Gx gx o => (qidxA 64 1 ((o.rowc (by assumption)).ptr (by omega) hgk) (by omega) (by omega))) ?_
    -- STORES 5 at ptrOff (ptrAt (v3) 64 ((↑i : Int))) 1 ((↑k : Int)) of .int .u8 fill
    refine HOp.un (Stp.storeCB (bs := (filled (List.replicate 64 fill) n.toNat i).set i (List.replicate k fill ++ List.replicate (64 - k) 0)) (z := fill) 0 5 (v3) 41 64 ((↑i : Int)) ((↑k : Int)) (by kernel_rfl) (by kernel_rfl) (by assumption) (by omega) hgk (by omega) (by omega) (by kernel_rfl)) ?_
    refine HOp.done (by kernel_rfl) ?_
    refine H.reg (by kernel_rfl) ?_
    refine ex_st ⟨33, [(8, .v (.int .i64 (IntKind.i64.wrap ((↑k : Int) + 1)))), (7, .v (.int .i64 ((↑i : Int)))), (6, .v (v3)), (0, .v (.int .i64 n)), (1, .v (.int .u8 fill))], [], [⟨v3, 41, 64, (((filled (List.replicate 64 fill) n.toNat i).set i (List.replicate k fill ++ List.replicate (64 - k) 0)).set (↑i : Int).toNat ((List.replicate k fill ++ List.replicate (64 - k) 0).set (↑k : Int).toNat fill)).length, List.flatMap bts (((filled (List.replicate 64 fill) n.toNat i).set i (List.replicate k fill ++ List.replicate (64 - k) 0)).set (↑i : Int).toNat ((List.replicate k fill ++ List.replicate (64 - k) 0).set (↑k : Int).toNat fill))⟩]⟩ (by kernel_rfl) ?_
    rotate_left
    refine H.exit ?_
    refine H.reg (by kernel_rfl) ?_
    refine ex_st ⟨33, [(7, .v (.int .i64 (IntKind.i64.wrap ((↑i : Int) + 1)))), (6, .v (v3)), (0, .v (.int .i64 n)), (1, .v (.int .u8 fill))], [], [⟨v3, 41, 64, ((filled (List.replicate 64 fill) n.toNat i).set i (List.replicate k fill ++ List.replicate (64 - k) 0)).length, List.flatMap bts ((filled (List.replicate 64 fill) n.toNat i).set i (List.replicate k fill ++ List.replicate (64 - k) 0))⟩]⟩ (by kernel_rfl) ?_
    rotate_left
    · rw [nat_wrap (i := k) (by omega)]
      refine ex_le (k + 1) (by kernel_rfl) ?_ ⟨⟨by omega, g2⟩, by omega⟩
      dsimp only
      rw [Int.toNat_natCast, Int.toNat_natCast, set_rep (by omega), List.set_set]
    · rw [nat_wrap (i := i) (by omega)]
      have e : k = 64 := by omega
      subst e
      refine ex_le (i + 1) (by kernel_rfl) ?_ ⟨⟨by omega, g2⟩, by omega⟩
      dsimp only
      rw [Nat.sub_self, List.replicate_zero, List.append_nil, filled_set (by omega)]
  · refine H.exit ?_
    refine H.sr (by kernel_rfl) ?_
    refine H.ret ?_
    refine ⟨.tuple #[v3, .int .i64 0], resOk_of (s := .tup [.v (v3), .v (.int .i64 0)]) (by kernel_rfl) (by kernel_rfl), ?_⟩
    rotate_left
    refine .inl ⟨0, v3, by rw [makeE_in (by omega) (by omega)], ow_at (n' := (filled (List.replicate 64 fill) n.toNat i).length) (l' := (filled (List.replicate 64 fill) n.toNat i).flatMap bts) (by kernel_rfl) ?_ ?_⟩
    · rw [makeL_in (by omega) (by omega), hln]; simp
    · rw [makeL_in (by omega) (by omega), show i = n.toNat by omega, filled, Nat.sub_self]; simp
end Go.Proofs.Ytdfahkpjdjjalaa
