/- Contracts of the layer block: stores that are made. -/
import Derived.Test.YtdfahkpjdjjalaaBI
import Derived.Test.YtdfahkpjdjjalaaVcRow
namespace Go.Proofs.Ytdfahkpjdjjalaa
open Go.RowKit Vc

theorem ret2 {a b c d : Int} {k k' : IntKind} (h1 : a = c) (h2 : b = d) : SV.pl (.tup [.v (.int k a), .v (.int k' b)]) = some (.tuple #[.int k c, .int k' d]) := by rw [h1, h2]; rfl
theorem mul_high (k : Fin 65) : IntKind.u64.wrap (IntKind.u64.wrap (IntKind.u64.wrap (0 * (k.1 : Int).fdiv 4294967296) + (IntKind.u64.wrap (IntKind.u64.wrap (0 * IntKind.u64.wrap (↑(BitVec.ofInt 64 (k.1 : Int) &&& BitVec.ofInt 64 4294967295).toNat : Int)) + (IntKind.u64.wrap (1 * IntKind.u64.wrap (↑(BitVec.ofInt 64 (k.1 : Int) &&& BitVec.ofInt 64 4294967295).toNat : Int))).fdiv 4294967296)).fdiv 4294967296) + (IntKind.u64.wrap (IntKind.u64.wrap (↑(BitVec.ofInt 64 (IntKind.u64.wrap (IntKind.u64.wrap (0 * IntKind.u64.wrap (↑(BitVec.ofInt 64 (k.1 : Int) &&& BitVec.ofInt 64 4294967295).toNat : Int)) + (IntKind.u64.wrap (1 * IntKind.u64.wrap (↑(BitVec.ofInt 64 (k.1 : Int) &&& BitVec.ofInt 64 4294967295).toNat : Int))).fdiv 4294967296)) &&& BitVec.ofInt 64 4294967295).toNat : Int) + IntKind.u64.wrap (1 * (k.1 : Int).fdiv 4294967296))).fdiv 4294967296) = 0 := by revert k; decide +kernel
theorem mul64_ok {n : Int} (h0 : 0 ≤ n) (h1 : n ≤ 64) : PureF Try.prog 30 [.int .u64 1, .int .u64 n] (.tuple #[.int .u64 0, .int .u64 n]) := by
  refine PureF.body Try.func30 rfl (by kernel_rfl) fun B G hm hG => ?_
  refine H.sr (by kernel_rfl) ?_
  refine H.sr (by kernel_rfl) ?_
  refine H.sr (by kernel_rfl) ?_
  refine H.sr (by kernel_rfl) ?_
  refine H.sr (by kernel_rfl) ?_
  refine H.sr (by kernel_rfl) ?_
  refine H.sr (by kernel_rfl) ?_
  refine H.sr (by kernel_rfl) ?_
  refine H.sr (by kernel_rfl) ?_
  refine H.sr (by kernel_rfl) ?_
  refine H.sr (by kernel_rfl) ?_
  refine H.sr (by kernel_rfl) ?_
  refine H.ret ?_
  refine ⟨.tup [.v (.int .u64 (IntKind.u64.wrap (IntKind.u64.wrap (IntKind.u64.wrap (0 * n.fdiv 4294967296) + (IntKind.u64.wrap (IntKind.u64.wrap (0 * IntKind.u64.wrap (↑(BitVec.ofInt 64 n &&& BitVec.ofInt 64 4294967295).toNat : Int)) + (IntKind.u64.wrap (1 * IntKind.u64.wrap (↑(BitVec.ofInt 64 n &&& BitVec.ofInt 64 4294967295).toNat : Int))).fdiv 4294967296)).fdiv 4294967296) + (IntKind.u64.wrap (IntKind.u64.wrap (↑(BitVec.ofInt 64 (IntKind.u64.wrap (IntKind.u64.wrap (0 * IntKind.u64.wrap (↑(BitVec.ofInt 64 n &&& BitVec.ofInt 64 4294967295).toNat : Int)) + (IntKind.u64.wrap (1 * IntKind.u64.wrap (↑(BitVec.ofInt 64 n &&& BitVec.ofInt 64 4294967295).toNat : Int))).fdiv 4294967296)) &&& BitVec.ofInt 64 4294967295).toNat : Int) + IntKind.u64.wrap (1 * n.fdiv 4294967296))).fdiv 4294967296))), .v (.int .u64 (IntKind.u64.wrap (1 * n)))], by kernel_rfl, ?_⟩
  rotate_left
  obtain ⟨k, rfl⟩ := Int.eq_ofNat_of_zero_le h0
  exact ret2 (mul_high ⟨k, by omega⟩) (by rw [Int.one_mul]; exact wrap_u64 (by omega) (by omega))
theorem mul_ok {n : Int} (h0 : 0 ≤ n) (h1 : n ≤ 64) : PureF Try.prog 28 [.int .u64 1, .int .u64 n] (.tuple #[.int .u64 0, .int .u64 n]) := by
  refine PureF.body Try.func28 rfl (by kernel_rfl) fun B G hm hG => ?_
  refine H.sr (by kernel_rfl) ?_
  refine H.seq ?_
  refine H.condF (by kernel_rfl) ?_
  refine H.skip ?_
  refine H.seq (H.region (HOp.ev 2 ?_))
  -- HOp CALL 30 [.int .u64 1, .int .u64 n] (place 2)
  refine HOp.un (Stp.pureF 30 [.int .u64 1, .int .u64 n] (by kernel_rfl) (by kernel_rfl) (mul64_ok (by omega) (by omega))) ?_
  refine HOp.ev 5 ?_
  refine HOp.done (by kernel_rfl) ?_
  refine H.sr (by kernel_rfl) ?_
  refine H.ret ?_
  refine ⟨.tup [.v (.int .u64 0), .v (.int .u64 n)], by kernel_rfl, ?_⟩
  rfl
theorem rep_flat (n : Nat) : List.replicate (n * 64) (Value.int .u8 0) = (List.replicate n (List.replicate 64 (0 : Int))).flatMap bts := by
  induction n with
  | zero => simp
  | succ n ih => rw [Nat.succ_mul, Nat.add_comm, ← List.replicate_append_replicate, ih, show List.replicate (n + 1) (List.replicate 64 (0 : Int)) = List.replicate 64 0 :: List.replicate n (List.replicate 64 0) from rfl, List.flatMap_cons, bts_zero]
/-- So many blocks are written. -/
def filled (x : List Int) (n i : Nat) : List (List Int) := List.replicate i x ++ List.replicate (n - i) (List.replicate 64 0)
theorem filled_len {x : List Int} {n i : Nat} (h : i ≤ n) : (filled x n i).length = n := by simp [filled]; omega
theorem filled_wd {x : List Int} {n i : Nat} (hx : x.length = 64) : ∀ b ∈ filled x n i, (bts b).length = 64 := fun b hb => by
  simp only [filled, List.mem_append, List.mem_replicate] at hb
  rw [bts_length]
  rcases hb with ⟨_, rfl⟩ | ⟨_, rfl⟩
  · exact hx
  · simp
theorem filled_more {x : List Int} {n i j : Nat} (hx : x.length = 64) (h : i + j ≤ n) : wrAt ((filled x n i).flatMap bts) (i * 64) ((List.replicate j x).flatMap bts) = (filled x n (i + j)).flatMap bts := by
  have hl : ∀ b ∈ List.replicate j x, (bts b).length = 64 := fun b hb => by rw [(List.mem_replicate.1 hb).2, bts_length]; exact hx
  rw [wrAt, flat_take (filled_wd hx), flat_length hl, ← Nat.add_mul, flat_drop (filled_wd hx), ← List.flatMap_append, ← List.flatMap_append]
  congr 1
  simp only [filled, List.length_replicate]
  rw [List.take_left' (by simp), List.drop_append, List.drop_of_length_le (by simp), List.length_replicate, List.nil_append, List.drop_replicate, ← List.replicate_append_replicate]
  congr 2; omega
def Nn (n : Int) : Nat := (IntKind.i64.wrap (IntKind.u64.wrap n)).toNat
theorem repeat_ok {v : Value} {x : List Int} {n : Int} {G : GH} (h1 : Row G v 64 1 (bts x)) (h0 : 0 ≤ n) (hn : n ≤ 64) :
    FunO Try.prog 27 [v, .int .i64 n] G (fun v => v) 41 64 n.toNat ((List.replicate n.toNat x).flatMap bts) := by
  refine FunO.body Try.func27 rfl (by kernel_rfl) fun B hm hG => ?_
  subst hG
  have hx := h1.len
  rw [bts_length] at hx
  have e1 := wrap_u64 (x := n) (by omega) (by omega)
  have e2 := wrap_i64 (x := n) (by omega) (by omega)
  rw [← e1] at e2
  have hN : Nn n = n.toNat := by unfold Nn; rw [e2, e1]
  have hNe : IntKind.i64.wrap (IntKind.u64.wrap n) = (Nn n : Int) := by omega
  refine H.sr (by kernel_rfl) ?_
  refine H.seq ?_
  refine H.sr (by kernel_rfl) ?_
  refine H.ifd (n < 0) (by kernel_rfl) (fun t1 => ?_) (fun t1 => ?_)
  omega
  refine H.skip ?_
  refine H.seq (H.region (HOp.ev 1 ?_))
  refine HOp.rd (.len 22 (v)) (by kernel_rfl) (qlen h1) ?_
  refine HOp.ev 3 ?_
  -- HOp CALL 28 [.int .u64 1, .int .u64 (IntKind.u64.wrap n)] (place 5)
  refine HOp.un (Stp.pureF 28 [.int .u64 1, .int .u64 (IntKind.u64.wrap n)] (by kernel_rfl) (by kernel_rfl) (mul_ok (by omega) (by omega))) ?_
  refine HOp.ev 5 ?_
  refine HOp.done (by kernel_rfl) ?_
  refine H.seq ?_
  refine H.sr (by kernel_rfl) ?_
  refine H.ifd (IntKind.u64.wrap n > 9223372036854775807) (by kernel_rfl) (fun t2 => ?_) (fun t2 => ?_)
  omega
  refine H.skip ?_
  refine H.seq (H.region (HOp.ev 2 ?_))
  refine HOp.mf (Stp.makeF 22 .i64 .i64 (IntKind.i64.wrap (IntKind.u64.wrap n)) (.int .u8 0) 41 64 64 (by kernel_rfl) (by omega) (by omega) (by kernel_rfl)) fun v3 fu3 => ?_
  refine HOp.ev 1 ?_
  refine HOp.done (by kernel_rfl) ?_
  refine H.seq (H.region (HOp.ev 2 ?_))
  refine HOp.un (Stp.copyW 0 22 22 (v3) (v) 41 64 ((IntKind.i64.wrap (IntKind.u64.wrap n)).toNat) _ (by kernel_rfl) (by kernel_rfl) h1 rfl (fun _ => bts_one) (by kernel_rfl)) ?_
  refine HOp.ev 1 ?_
  refine HOp.done (by kernel_rfl) ?_
  refine H.seq ?_
  refine H.block ?_
  -- LOOP from ⟨48, [(8, .v (.int .i64 ((↑(min 1 (IntKind.i64.wrap (IntKind.u64.wrap n)).toNat) : Int)))), (33, .v (.int .i64 ((↑(min 1 (IntKind.i64.wrap (IntKind.u64.wrap n)).toNat) : Int)))), (32, .v (v)), (31, .v (v3)), (7, .v (v3)), (30, .v (v3)), (29, .v (.int .i64 (IntKind.i64.wrap (IntKind.u64.wrap n)))), (28, .v (.int .u64 (IntKind.u64.wrap n))), (26, .v (.bool (decide (IntKind.u64.wrap n > 9223372036854775807)))), (25, .v (.bool (decide (IntKind.u64.wrap n > 9223372036854775807)))), (24, .v (.int .u64 (IntKind.u64.wrap n))), (23, .v (.bool false)), (22, .v (.bool false)), (21, .v (.int .u64 0)), (6, .v (.int .u64 (IntKind.u64.wrap n))), (5, .v (.int .u64 0)), (20, .v (.int .u64 (IntKind.u64.wrap n))), (19, .v (.int .u64 0)), (12, .v (.tuple #[.int .u64 0, .int .u64 (IntKind.u64.wrap n)])), (18, .v (.tuple #[.int .u64 0, .int .u64 (IntKind.u64.wrap n)])), (17, .v (.int .u64 (IntKind.u64.wrap n))), (16, .v (.int .i64 n)), (15, .v (.int .u64 1)), (14, .v (.int .i64 1)), (13, .v (v)), (10, .v (.bool (decide (n < 0)))), (9, .v (.int .i64 n)), (4, .v (.slice none 0 0)), (0, .v (v)), (1, .v (.int .i64 n))], [], [⟨v3, 41, 64, (IntKind.i64.wrap (IntKind.u64.wrap n)).toNat, wrAt (List.replicate ((IntKind.i64.wrap (IntKind.u64.wrap n)).toNat * 64) (Value.int IntKind.u8 0)) 0 (List.take (min 1 (IntKind.i64.wrap (IntKind.u64.wrap n)).toNat * 64) (bts x))⟩]⟩
  rotate_left
  refine H.loop (X := Nat) (fun i => ⟨48, [(8, .v (.int .i64 i)), (7, .v v3)], [], [⟨v3, 41, 64, Nn n, (filled x (Nn n) i).flatMap bts⟩]⟩)
    (fun i G' => i ≤ Nn n ∧ (0 < Nn n → 0 < i) ∧ GExt B.G0 G') (fun i => Nn n - i) (min 1 (Nn n)) (le_k [⟨v3, 41, 64, Nn n, wrAt (List.replicate (Nn n * 64) (.int .u8 0)) 0 ((bts x).take (min 1 (Nn n) * 64))⟩] (by kernel_rfl) ?_) ⟨by omega, by omega, GExt.refl _⟩ (fun _ => by rw [hm]; exact Nat.zero_le _) ?_
  · have hf := filled_more (x := x) (n := Nn n) (i := 0) (j := min 1 (Nn n)) (by omega) (by omega)
    rw [Nat.zero_mul, Nat.zero_add] at hf
    have e0 : filled x (Nn n) 0 = List.replicate (Nn n) (List.replicate 64 0) := by simp [filled]
    have e3 : (bts x).take (min 1 (Nn n) * 64) = (List.replicate (min 1 (Nn n)) x).flatMap bts := by
      rcases Nat.eq_zero_or_pos (Nn n) with h | h
      · rw [h]; simp
      · rw [Nat.min_eq_left h, List.take_of_length_le (by rw [bts_length]; omega)]; simp
    dsimp only
    rw [← hf, rep_flat, e0, e3]
  rintro i G1 ⟨hi, hi0, g1⟩
  have hl := filled_len (x := x) hi
  refine H.seq ?_
  refine H.seq (H.region (HOp.ev 2 ?_))
  refine HOp.rdo 0 (v3) 41 64 (Nn n) (List.flatMap bts (filled x (Nn n) i)) (.len 22 (v3)) (by kernel_rfl) (by kernel_rfl) (fun Gx gx o => (qlen o.row)) ?_
  refine HOp.ev 1 ?_
  refine HOp.done (by kernel_rfl) ?_
  refine H.ifd ((↑i : Int) < (↑(Nn n) : Int)) (by kernel_rfl) (fun t20 => ?_) (fun t20 => ?_)
  refine H.skip ?_
  refine H.block ?_
  refine Vir.draw [0, 1, 2, 3, 4, 5, 6, 8] (by kernel_rfl) (by kernel_rfl) ?_
  refine Vir.ev (by kernel_rfl) [0, 1, 2, 4, 5] ?_
  refine VirP.hd 0 (v := v3) (e := 41) (w := 64) (n := Nn n) (by kernel_rfl) fun hd21 => ?_
  refine Vir.rd (by kernel_rfl) 3 (.slice 22 (v3) (some (.int .i64 ((↑i : Int)))) none) (by kernel_rfl) (hsliceL 64 hd21 (by omega) (by omega)) ?_
  refine Vir.rd (by kernel_rfl) 6 (.slice 22 (v3) none (some (.int .i64 ((↑i : Int))))) (by kernel_rfl) (hsliceH 64 hd21 (by omega) (by omega)) ?_
  refine Vir.loud (by kernel_rfl) [7] (by kernel_rfl) ⟨?_, trivial⟩
  refine LStep.un (Stp.copyS 0 22 22 (v3) 41 64 (Nn n) (List.flatMap bts (filled x (Nn n) i)) 0 ((↑i : Int).toNat) ((↑i : Int).toNat) (Nn n) (min ((↑i : Int).toNat - 0) (Nn n - (↑i : Int).toNat)) (by kernel_rfl) (by kernel_rfl) (by omega) (by omega) (by omega) (by omega) rfl (RowC.one fun _ _ _ => bts_one) (by kernel_rfl)) ?_
  refine ⟨ag_all [5, 4, 2, 1, 0] [] (by kernel_rfl) (by kernel_rfl) trivial, ?_⟩
  refine Vir.ev (by kernel_rfl) [8] ?_
  refine Vir.lev (by kernel_rfl) 9 (by kernel_rfl) (by kernel_rfl) ?_
  refine Vir.fin (by kernel_rfl) (by kernel_rfl) ?_
  refine ex_st ⟨48, [(8, .v (.int .i64 (IntKind.i64.wrap ((↑i : Int) + (↑(min ((↑i : Int).toNat - 0) (Nn n - (↑i : Int).toNat)) : Int))))), (7, .v (v3))], [], [⟨v3, 41, 64, Nn n, wrAt (List.flatMap bts (filled x (Nn n) i)) ((↑i : Int).toNat * 64) (List.take (min ((↑i : Int).toNat - 0) (Nn n - (↑i : Int).toNat) * 64) (List.take (((↑i : Int).toNat - 0) * 64) (List.drop (0 * 64) (List.flatMap bts (filled x (Nn n) i)))))⟩]⟩ (by kernel_rfl) ?_
  rotate_left
  refine H.exit ?_
  refine H.sr (by kernel_rfl) ?_
  refine H.ret ?_
  refine ⟨v3, resOk_of (s := .v (v3)) (by kernel_rfl) (by kernel_rfl), .inl ⟨0, v3, rfl, ow_at (n' := Nn n) (l' := List.flatMap bts (filled x (Nn n) i)) (by kernel_rfl) ?_ ?_⟩⟩
  omega
  rotate_left
  · have ej : ((i : Int).toNat - 0) = i := by omega
    have ei : (i : Int).toNat = i := by omega
    rw [ej, ei, Nat.zero_mul, List.drop_zero, wrap_i64 (by omega) (by omega)]
    have hxl : x.length = 64 := by omega
    have e4 : ((filled x (Nn n) i).flatMap bts).take (i * 64) = (List.replicate i x).flatMap bts := by
      rw [flat_take (filled_wd hxl), filled, List.take_left' (by simp)]
    have e5 : ((List.replicate i x).flatMap bts).take (min i (Nn n - i) * 64) = (List.replicate (min i (Nn n - i)) x).flatMap bts := by
      rw [flat_take (fun b hb => by rw [(List.mem_replicate.1 hb).2, bts_length]; exact hxl), List.take_replicate]
      congr 2; omega
    rw [e4, e5, filled_more hxl (by omega), show ((i : Int) + ((min i (Nn n - i) : Nat) : Int)) = ((i + min i (Nn n - i) : Nat) : Int) by omega]
    exact ex_le (i + min i (Nn n - i)) (by kernel_rfl) rfl ⟨⟨by omega, by omega, g1⟩, by omega⟩
  · have e : i = Nn n := by omega
    rw [e, ← hN, filled, Nat.sub_self]; simp
end Go.Proofs.Ytdfahkpjdjjalaa
