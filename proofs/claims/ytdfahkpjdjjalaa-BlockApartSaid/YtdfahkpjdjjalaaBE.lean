/- Contracts of the layer block: a block of a text. -/
import Derived.Test.YtdfahkpjdjjalaaBD
import Derived.Test.YtdfahkpjdjjalaaVcRow
namespace Go.Proofs.Ytdfahkpjdjjalaa
open Go.RowKit Vc

/-- The list is written place by place. -/
theorem set_next {ys : List Int} {k m : Nat} {z : Int} (hk : k < m) (hz : ys[k]? = some z) : (ys.take k ++ List.replicate (m - k) 0).set k z = ys.take (k + 1) ++ List.replicate (m - (k + 1)) 0 := by
  have hl : k < ys.length := (List.getElem?_eq_some_iff.1 hz).1
  have h1 : (ys.take k).length = k := by rw [List.length_take]; omega
  have e : m - k = (m - (k + 1)) + 1 := by omega
  rw [List.set_append_right _ _ (by omega), h1, Nat.sub_self, e, List.replicate_succ, List.set_cons_zero, List.take_add_one, hz]; simp
theorem bts_zero (n : Nat) : List.replicate n (Value.int .u8 0) = bts (List.replicate n 0) := by simp [bts]
theorem of_ok {v : Value} {n : Nat} {xs : List Int} {a : Int} {G : GH} (h1 : Row G v 1 n (bts xs)) (hb : n < 100000) (ha : 0 ≤ a) (hn : a + 64 ≤ n) :
    PureG Try.prog 24 [v, .int .i64 a] G (.agg ⟨bts ((xs.drop a.toNat).take 64)⟩) := by
  refine PureG.bodyR Try.func24 rfl (by kernel_rfl) fun B hm hG => ?_
  subst hG
  have hx := h1.len
  rw [bts_length] at hx
  refine H.seq (H.region ?_)
  refine HOp.nu (Stp.alloc 41 64 64 (.int .u8 0) (by kernel_rfl) (by kernel_rfl)) fun v1 => ?_
  refine HOp.done (by kernel_rfl) ?_
  refine H.seq (H.region ?_)
  refine HOp.nu (Stp.alloc 41 64 64 (.int .u8 0) (by kernel_rfl) (by kernel_rfl)) fun v2 => ?_
  refine HOp.done (by kernel_rfl) ?_
  refine H.seq ?_
  refine H.sr (by kernel_rfl) ?_
  refine H.block ?_
  -- LOOP from ⟨20, [(6, .v (.int .i64 0)), (5, .v (ptrAt (v2) 64 0)), (4, .v (ptrAt (v1) 64 0)), (0, .v (v)), (1, .v (.int .i64 a))], [], [⟨v1, 41, 64, 1, List.replicate 64 (Value.int IntKind.u8 0)⟩, ⟨v2, 41, 64, 1, List.replicate 64 (Value.int IntKind.u8 0)⟩]⟩
  rotate_left
  generalize hy : (xs.drop a.toNat).take 64 = ys
  have hyl : ys.length = 64 := by rw [← hy, List.length_take, List.length_drop]; omega
  refine H.loop (fun k : Nat => ⟨20, [(6, .v (.int .i64 k)), (5, .v (ptrAt v2 64 0)), (4, .v (ptrAt v1 64 0)), (0, .v v), (1, .v (.int .i64 a))], [], [⟨v1, 41, 64, 1, List.replicate 64 (.int .u8 0)⟩, ⟨v2, 41, 64, 1, bts (ys.take k ++ List.replicate (64 - k) 0)⟩]⟩)
    (fun k G' => k ≤ 64 ∧ GExt B.G0 G') (fun k => 65 - k) 0 (le_k [⟨v1, 41, 64, 1, List.replicate 64 (.int .u8 0)⟩, ⟨v2, 41, 64, 1, List.replicate 64 (.int .u8 0)⟩] (by kernel_rfl) (by simp [bts_zero])) ⟨by simp, GExt.refl _⟩ (fun _ => by rw [hm]; exact Nat.zero_le _) ?_
  rintro k G3 ⟨hk1, g3⟩
  have ea := wrap_i64 (x := a + (k : Int)) (by omega) (by omega)
  have hl : (ys.take k ++ List.replicate (64 - k) 0).length = 64 := by rw [List.length_append, List.length_take, List.length_replicate]; omega
  refine H.seq ?_
  refine H.sr (by kernel_rfl) ?_
  refine H.ifd ((↑k : Int) < 64) (by kernel_rfl) (fun t20 => ?_) (fun t20 => ?_)
  refine H.skip ?_
  refine H.seq ?_
  refine H.block ?_
  refine H.region (HOp.ev 5 ?_)
  refine HOp.rd (.idx 25 (v) (.int .i64 (IntKind.i64.wrap (a + (↑k : Int))))) (by kernel_rfl) (qidx h1 (by omega) (by omega)) ?_
  obtain ⟨x21, hx21⟩ : ∃ x21, xs[(IntKind.i64.wrap (a + (↑k : Int))).toNat]? = some x21 := ⟨_, List.getElem?_eq_getElem (by omega)⟩
  refine HOp.rd (.load 5 (ptrAt (v) 1 (IntKind.i64.wrap (a + (↑k : Int))))) (by kernel_rfl) (Row.load8 (h1.mono g3) (by omega) hx21) ?_
  refine HOp.rdo 1 (v2) 41 64 1 (bts (List.take k ys ++ List.replicate (64 - k) 0)) (.idx 41 (ptrAt (v2) 64 0) (.int .i64 ((↑k : Int)))) (by kernel_rfl) (by kernel_rfl) (fun Gx gx o => (qidxA 64 1 o.pat (by omega) (by omega))) ?_
  -- STORES 5 at ptrOff (ptrAt (v2) 64 0) 1 ((↑k : Int)) of .int .u8 x21
  refine HOp.un (Stp.storeA (xs := List.take k ys ++ List.replicate (64 - k) 0) (z := x21) 1 5 (v2) 41 64 ((↑k : Int)) (by kernel_rfl) (by kernel_rfl) (by omega) (by omega) (by omega) (by kernel_rfl)) ?_
  refine HOp.done (by kernel_rfl) ?_
  refine H.reg (by kernel_rfl) ?_
  refine ex_st ⟨20, [(6, .v (.int .i64 (IntKind.i64.wrap ((↑k : Int) + 1)))), (5, .v (ptrAt (v2) 64 0)), (4, .v (ptrAt (v1) 64 0)), (0, .v (v)), (1, .v (.int .i64 a))], [], [⟨v1, 41, 64, 1, List.replicate 64 (Value.int IntKind.u8 0)⟩, ⟨v2, 41, 64, 1, bts ((List.take k ys ++ List.replicate (64 - k) 0).set (↑k : Int).toNat x21)⟩]⟩ (by kernel_rfl) ?_
  rotate_left
  refine H.exit ?_
  refine H.seq (H.region ?_)
  refine HOp.rdo 1 (v2) 41 64 1 (bts (List.take k ys ++ List.replicate (64 - k) 0)) (.load 41 (ptrAt (v2) 64 0)) (by kernel_rfl) (by kernel_rfl) (fun Gx gx o => (Own.loadW o)) ?_
  -- STORES 41 at ptrAt (v1) 64 0 of .agg ({ toList := bts (List.take k ys ++ List.replicate (64 - k) 0) })
  refine HOp.un (Stp.storeW 0 41 (v1) (.agg ({ toList := bts (List.take k ys ++ List.replicate (64 - k) 0) })) 41 64 (List.replicate 64 (Value.int IntKind.u8 0)) _ (by kernel_rfl) (by kernel_rfl) rfl (by rw [bts_length]; omega) (fun _ => bts_one) (by kernel_rfl)) ?_
  refine HOp.done (by kernel_rfl) ?_
  refine H.ret ?_
  refine ⟨.agg ⟨bts (List.take k ys ++ List.replicate (64 - k) 0)⟩, resOk_L (vs := [.agg ⟨bts (List.take k ys ++ List.replicate (64 - k) 0)⟩]) rfl (.cons (.own 0 (v1) 41 64 (bts (List.take k ys ++ List.replicate (64 - k) 0)) (by kernel_rfl) (by kernel_rfl) (by kernel_rfl) (by kernel_rfl)) .nil), ?_⟩
  rotate_left
  · rw [nat_wrap (i := k) (by omega)]
    have hz : ys[k]? = some x21 := by
      rw [← hy, List.getElem?_take, if_pos (by omega), List.getElem?_drop, ← hx21, ea]; congr 1; omega
    refine ex_le (k + 1) (by kernel_rfl) ?_ ⟨⟨by omega, g3⟩, by omega⟩
    dsimp only
    rw [show ((k : Int)).toNat = k from rfl, set_next (by omega) hz]
  · have e : k = 64 := by omega
    subst e
    rw [List.take_of_length_le (by omega), Nat.sub_self, List.replicate_zero, List.append_nil]
end Go.Proofs.Ytdfahkpjdjjalaa
