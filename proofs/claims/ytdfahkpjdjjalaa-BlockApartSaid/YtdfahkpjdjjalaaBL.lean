/- Contracts of the layer block: the laws' fixed fact. -/
import Derived.Test.YtdfahkpjdjjalaaBK
import Derived.Test.YtdfahkpjdjjalaaBS
import Derived.Test.YtdfahkpjdjjalaaVcRow
namespace Go.Proofs.Ytdfahkpjdjjalaa
open Go.RowKit Vc

/-- What the fixed fact is told of: two stores and what is read. -/
structure Alive (L M : List (List Int)) (N C p q : List Int) : Prop where
  l : makeL 3 7 = L
  le : L.length = 3
  lw : ∀ b ∈ L, (bts b).length = 64
  l1 : L[(1 : Int).toNat]? = some p
  l15   : p[(5 : Int).toNat]? = some 7
  l1l : (bts p).length = 64
  n : N = (List.replicate 64 0).set (5 : Int).toNat 9
  nl : N.length = 64
  n5 : N[(5 : Int).toNat]? = some 9
  m : writeL L 1 N = M
  me : M.length = 3
  mw : ∀ b ∈ M, (bts b).length = 64
  m1 : M[(1 : Int).toNat]? = some q
  m15  : q[(5 : Int).toNat]? = some 9
  m16  : q[(6 : Int).toNat]? = some 0
  m1l : (bts q).length = 64
  c : (readL M 1 2).flatten = C
  ce : C.length = 128
  c5 : C[(5 : Int).toNat]? = some 9
  c64 : C[(64 : Int).toNat]? = some 7
  lm : L.flatten ≠ M.flatten
theorem alive_is : ∃ L M N C l1 m1, Alive L M N C l1 m1 :=
  ⟨makeL 3 7, writeL (makeL 3 7) 1 ((List.replicate 64 0).set 5 9), (List.replicate 64 0).set 5 9, (readL (writeL (makeL 3 7) 1 ((List.replicate 64 0).set 5 9)) 1 2).flatten, List.replicate 64 7, (List.replicate 64 0).set 5 9,
    by constructor <;> decide +kernel⟩
section
variable {L M : List (List Int)} {N C l1 m1 : List Int} (h : Alive L M N C l1 m1) {G : GH}
include h
theorem alive_make : FunO Try.prog 20 [.int .i64 3, .int .u8 7] G (fun v => .tuple #[v, .int .i64 0]) 41 64 L.length (L.flatMap bts) := by
  have := make_ok (n := 3) (fill := 7) (G := G)
  rwa [h.l, makeE_in (by omega) (by omega)] at this
theorem alive_write {v b : Value} (h1 : RowC G v 64 bts L) (h2 : Row G b 1 N.length (bts N)) : FunR Try.prog 14 [v, .int .u64 1, b] G (fun G' r => ∃ u, r = .tuple #[u, .int .i64 0] ∧ RowC G' u 64 bts M) := by
  have := write_ok (a := 1) h1 h2 (by have := h.le; omega) (by have := h.nl; omega) (by omega)
  have e : writeE L.length 1 N.length = 0 := by rw [h.le, h.nl]; decide
  unfold WriteK at this; rwa [h.m, e] at this
theorem alive_read {v : Value} (h1 : RowC G v 64 bts M) : FunO Try.prog 9 [v, .int .u64 1, .int .i64 2] G (fun u => .tuple #[u, .int .i64 0]) 5 1 C.length (bts C) := by
  have := read_ok (a := 1) (k := 2) h1 (by have := h.me; omega) (by omega)
  have e : readE M.length 1 2 = 0 := by rw [h.me]; decide
  rwa [h.c, e] at this
theorem alive_read' {v : Value} (h1 : RowC G v 64 bts M) : FunO Try.prog 9 [v, .int .u64 2, .int .i64 2] G (fun u => .tuple #[u, .int .i64 5]) 5 1 (readL M 2 2).flatten.length (bts (readL M 2 2).flatten) := by
  have := read_ok (a := 2) (k := 2) h1 (by have := h.me; omega) (by omega)
  have e : readE M.length 2 2 = 5 := by rw [h.me]; decide
  rwa [e] at this
theorem alive_write' {v b : Value} {ns : List Int} (h1 : RowC G v 64 bts L) (h2 : Row G b 1 63 (bts ns)) : FunR Try.prog 14 [v, .int .u64 0, b] G (fun G' r => ∃ u, r = .tuple #[u, .int .i64 3] ∧ RowC G' u 64 bts (writeL L 0 ns)) := by
  have := write_ok (a := 0) h1 h2 (by have := h.le; omega) (by have := h.nl; omega) (by omega)
  have e : writeE L.length 0 ns.length = 3 := by have := h2.len; rw [bts_length] at this; rw [h.le, this]; decide
  unfold WriteK at this; rwa [e] at this
theorem alive_split {v : Value} (h1 : Row G v 1 (N.length + 2) (bts N ++ bts [1, 2])) : FunR Try.prog 16 [v] G (fun G' r => ∃ l s, r = .tuple #[l, s] ∧ RowC G' l 64 bts [N] ∧ Row G' s 1 2 (bts [1, 2])) := by
  have hn := h.nl
  rw [bts_append] at h1
  have := split_ok h1 (by omega)
  have e : (N ++ [1, 2]).length = 66 := by simp [hn]
  have e1 : cut64 (N ++ [1, 2]) 1 = [N] := by simp [cut64, hn]
  have e2 : (N ++ [1, 2]).drop 64 = [1, 2] := by rw [← hn]; exact List.drop_left
  unfold SplitK at this
  rw [e] at this
  simp only [Nat.reduceDiv, Nat.reduceMod, Nat.mul_one, e1, e2] at this
  exact this
theorem alive_same {v : Value} (h1 : RowC G v 64 bts L) : PureG Try.prog 18 [v, v] G (.bool true) := by
  have := same_ok v v _ _ L.flatten L.flatten (by rw [bts_flatten]; exact h1.row) (by rw [bts_flatten]; exact h1.row) (by have := h.le; omega)
  simpa using this
theorem alive_same' {v u : Value} (h1 : RowC G v 64 bts L) (h2 : RowC G u 64 bts M) : PureG Try.prog 18 [v, u] G (.bool false) := by
  have := same_ok v u _ _ L.flatten M.flatten (by rw [bts_flatten]; exact h1.row) (by rw [bts_flatten]; exact h2.row) (by have := h.le; omega)
  simpa [h.lm] using this
end
theorem within330 : PureF Try.prog 11 [.int .i64 3, .int .u64 3, .int .i64 0] (.bool true) := within_ok 3 3 0 (by omega) (by omega)
theorem within331 : PureF Try.prog 11 [.int .i64 3, .int .u64 3, .int .i64 1] (.bool false) := within_ok 3 3 1 (by omega) (by omega)
theorem alive_gen {L M : List (List Int)} {N C l1 m1 : List Int} (h : Alive L M N C l1 m1) {G : GH} : PureG Try.prog 8 [] G (.bool true) := by
  refine PureG.body Try.func8 rfl (by kernel_rfl) fun B hm hG => ?_
  subst hG
  have ⟨hl, hle, hlw, hl1, hl15, hl1l, hn, hnl, hn5, hm', hme, hmw, hm1, hm15, hm16, hm1l, hc, hce, hc5, hc64, hlm⟩ := h
  obtain ⟨Z, hZ, hZl⟩ : ∃ Z : List Int, List.replicate 64 0 = Z ∧ Z.length = 64 := ⟨_, rfl, by simp⟩
  rw [hZ] at hn
  refine H.sr (by kernel_rfl) ?_
  refine H.seq (H.region ?_)
  -- HOp CALL 20 [.int .i64 3, .int .u8 7] (place 0)
  refine HOp.nu (Stp.funN 20 [.int .i64 3, .int .u8 7] (by kernel_rfl) (by kernel_rfl) fun Gx gx => ((alive_make h))) fun v1 => ?_
  refine HOp.ev 5 ?_
  refine HOp.done (by kernel_rfl) ?_
  refine H.seq (H.region ?_)
  refine HOp.mf (Stp.makeF 25 .i64 .i64 64 (.int .u8 0) 5 1 1 (by kernel_rfl) (by omega) (by omega) (by kernel_rfl)) fun v2 fu2 => ?_
  refine HOp.ev 1 ?_
  refine HOp.done (by kernel_rfl) ?_
  refine H.lek ⟨150, [(3, .v v2), (1, .v v1), (2, .v (.int .i64 0))], [], [⟨v1, 41, 64, L.length, L.flatMap bts⟩, ⟨v2, 5, 1, Z.length, bts Z⟩]⟩ (by rw [hm]; exact Nat.zero_le _)
    (le_k [⟨v1, 41, 64, L.length, L.flatMap bts⟩, ⟨v2, 5, 1, 64, List.replicate (Int.toNat 64 * 1) (Value.int IntKind.u8 0)⟩] (by kernel_rfl) (by rw [bts_zero, show Int.toNat 64 * 1 = 64 from rfl, hZ, hZl])) ?_
  refine H.seq (H.region (HOp.ev 1 ?_))
  refine HOp.rdo 1 (v2) 5 1 Z.length (bts Z) (.idx 25 (v2) (.int .i64 5)) (by kernel_rfl) (by kernel_rfl) (fun Gx gx o => (qidx o.row (by omega) (by omega))) ?_
  -- STORES 5 at ptrAt (v2) 1 5 of .int .u8 9
  refine HOp.un (Stp.storeB (xs := Z) (z := 9) 1 5 (v2) 5 5 (by kernel_rfl) (by kernel_rfl) (by omega) (by omega) (by kernel_rfl)) ?_
  refine HOp.done (by kernel_rfl) ?_
  refine H.lek ⟨150, [(3, .v v2), (1, .v v1), (2, .v (.int .i64 0))], [], [⟨v1, 41, 64, L.length, L.flatMap bts⟩, ⟨v2, 5, 1, N.length, bts N⟩]⟩ (by rw [hm]; exact Nat.zero_le _)
    (le_k [⟨v1, 41, 64, L.length, L.flatMap bts⟩, ⟨v2, 5, 1, (Z.set (Int.toNat 5) 9).length, bts (Z.set (Int.toNat 5) 9)⟩] (by kernel_rfl) (by rw [hn])) ?_
  clear hn hZ hZl
  have hN0 : [N][Int.toNat 0]? = some N := rfl
  have hNl : (bts N).length = 64 := by rw [bts_length]; exact hnl
  refine H.seq (H.region (HOp.ev 2 ?_))
  -- HOp CALL 14 [v1, .int .u64 1, v2] (place 2)
  refine HOp.freeze 0 (v1) 41 64 L.length (List.flatMap bts L) (by kernel_rfl) fun G20 g20 o20 => ?_
  -- HOp CALL 14 [v1, .int .u64 1, v2] (place 2)
  refine HOp.freeze 0 (v2) 5 1 N.length (bts N) (by kernel_rfl) fun G21 g21 o21 => ?_
  -- HOp CALL 14 [v1, .int .u64 1, v2] (place 2)
  refine HOp.fr (Stp.funR 14 [v1, .int .u64 1, v2] (by kernel_rfl) (by kernel_rfl) (GExt.refl _) ((alive_write h) ((o20.rowc (by assumption)).mono g21) o21.row)) ?_
  rintro v22 H22 G22 g22 f22 ⟨l22, rfl, hl22⟩
  refine HOp.ev 5 ?_
  refine HOp.done (by kernel_rfl) ?_
  refine H.seq (H.region (HOp.ev 1 ?_))
  -- HOp CALL 9 [l22, .int .u64 1, .int .i64 2] (place 1)
  refine HOp.nu (Stp.funN 9 [l22, .int .u64 1, .int .i64 2] (by kernel_rfl) (by kernel_rfl) fun Gx gx => ((alive_read h) (hl22.mono (f22.trans gx)))) fun v23 => ?_
  refine HOp.ev 5 ?_
  refine HOp.done (by kernel_rfl) ?_
  refine H.seq (H.region (HOp.ev 1 ?_))
  -- HOp CALL 9 [l22, .int .u64 2, .int .i64 2] (place 1)
  refine HOp.nu (Stp.funN 9 [l22, .int .u64 2, .int .i64 2] (by kernel_rfl) (by kernel_rfl) fun Gx gx => ((alive_read' h) (hl22.mono (f22.trans gx)))) fun v24 => ?_
  refine HOp.ev 5 ?_
  refine HOp.done (by kernel_rfl) ?_
  refine H.seq (H.region (HOp.ev 2 ?_))
  refine HOp.rd (.slice 25 (v2) none (some (.int .i64 63))) (by kernel_rfl) (qsliceH o21.row (by omega) (by omega)) ?_
  -- HOp CALL 14 [v1, .int .u64 0, subAt (v2) 1 0 63] (place 3)
  refine HOp.fr (Stp.funR 14 [v1, .int .u64 0, subAt (v2) 1 0 63] (by kernel_rfl) (by kernel_rfl) (GExt.refl _) ((alive_write' h) ((o20.rowc (by assumption)).mono (g21.trans g22)) ((o21.row.mono g22).subB (by omega) (by omega)))) ?_
  rintro v25 H25 G25 g25 f25 ⟨l25, rfl, hl25⟩
  refine HOp.ev 5 ?_
  refine HOp.done (by kernel_rfl) ?_
  refine H.seq (H.region (HOp.ev 1 ?_))
  refine HOp.ex (Stp.buildF 25 2 [(0, .int .u8 1), (1, .int .u8 2)] (.int .u8 0) 5 1 1 (bts [1, 2]) (by kernel_rfl) (by kernel_rfl) rfl (by omega) (by kernel_rfl)) fun v26 G26 g26 k26 => ?_
  refine HOp.nu (Stp.appendF 25 (v2) (v26) 5 1 1 (by kernel_rfl) (o21.row.mono ((g22.trans g25).trans g26)) fu2 k26 (by omega) (by omega) (by kernel_rfl)) fun v27 => ?_
  -- HOp CALL 16 [v27] (place 3)
  refine HOp.freeze 2 (v27) 5 1 (N.length + 2) (bts N ++ bts [1, 2]) (by kernel_rfl) fun G28 g28 o28 => ?_
  -- HOp CALL 16 [v27] (place 3)
  refine HOp.fr (Stp.funR 16 [v27] (by kernel_rfl) (by kernel_rfl) (GExt.refl _) ((alive_split h) o28.row)) ?_
  rintro v29 H29 G29 g29 f29 ⟨l29, s29, rfl, hl29, hs29⟩
  refine HOp.ev 5 ?_
  refine HOp.done (by kernel_rfl) ?_
  refine H.seq ?_
  refine H.seq (H.region (HOp.ev 1 ?_))
  refine HOp.rd (.len 22 (v1)) (by kernel_rfl) (qlen o20.row) ?_
  refine HOp.ev 2 ?_
  refine HOp.ifn 54 ((↑L.length : Int)) 3 (by kernel_rfl) (fun t30 => ?_) (fun t30 => ?_)
  omega
  refine HOp.ev 1 ?_
  refine HOp.rd (.len 22 (l22)) (by kernel_rfl) (qlen hl22.row) ?_
  refine HOp.ev 3 ?_
  refine HOp.ifn 59 ((↑M.length : Int)) 3 (by kernel_rfl) (fun t31 => ?_) (fun t31 => ?_)
  omega
  refine HOp.ev 1 ?_
  refine HOp.rdo 0 (v23) 5 1 C.length (bts C) (.len 25 (v23)) (by kernel_rfl) (by kernel_rfl) (fun Gx gx o => (qlen o.row)) ?_
  refine HOp.ev 3 ?_
  refine HOp.ifn 64 ((↑C.length : Int)) 128 (by kernel_rfl) (fun t32 => ?_) (fun t32 => ?_)
  omega
  refine HOp.ev 1 ?_
  refine HOp.rd (.len 22 (l29)) (by kernel_rfl) (qlen hl29.row) ?_
  refine HOp.ev 2 ?_
  refine HOp.done (by kernel_rfl) ?_
  refine H.condF (by kernel_rfl) ?_
  refine H.skip ?_
  refine H.seq (H.region (HOp.ev 20 ?_))
  refine HOp.rd (.idx 22 (v1) (.int .i64 1)) (by kernel_rfl) (qidx o20.row (by omega) (by omega)) ?_
  refine HOp.rd (.idx 41 (ptrAt (v1) 64 1) (.int .i64 5)) (by kernel_rfl) (qidxA 64 1 ((o20.rowc (by assumption)).ptr (by omega) hl1) (by omega) (by omega)) ?_
  refine HOp.rd (.load 5 (ptrOff (ptrAt (v1) 64 1) 1 5)) (by kernel_rfl) (PAt.load8 (((o20.rowc (by assumption)).mono (((((g21.trans g22).trans g25).trans g26).trans g28).trans g29)).ptr (by omega) hl1) (by omega) hl15) ?_
  refine HOp.ev 4 ?_
  refine HOp.rd (.idx 22 (l22) (.int .i64 1)) (by kernel_rfl) (qidx hl22.row (by omega) (by omega)) ?_
  refine HOp.rd (.idx 41 (ptrAt (l22) 64 1) (.int .i64 5)) (by kernel_rfl) (qidxA 64 1 (hl22.ptr (by omega) hm1) (by omega) (by omega)) ?_
  refine HOp.rd (.load 5 (ptrOff (ptrAt (l22) 64 1) 1 5)) (by kernel_rfl) (PAt.load8 ((hl22.mono ((((f22.trans g25).trans g26).trans g28).trans g29)).ptr (by omega) hm1) (by omega) hm15) ?_
  refine HOp.ev 4 ?_
  refine HOp.rd (.idx 22 (l22) (.int .i64 1)) (by kernel_rfl) (qidx hl22.row (by omega) (by omega)) ?_
  refine HOp.rd (.idx 41 (ptrAt (l22) 64 1) (.int .i64 6)) (by kernel_rfl) (qidxA 64 1 (hl22.ptr (by omega) hm1) (by omega) (by omega)) ?_
  refine HOp.rd (.load 5 (ptrOff (ptrAt (l22) 64 1) 1 6)) (by kernel_rfl) (PAt.load8 ((hl22.mono ((((f22.trans g25).trans g26).trans g28).trans g29)).ptr (by omega) hm1) (by omega) hm16) ?_
  refine HOp.ev 4 ?_
  refine HOp.rdo 0 (v23) 5 1 C.length (bts C) (.idx 25 (v23) (.int .i64 5)) (by kernel_rfl) (by kernel_rfl) (fun Gx gx o => (qidx o.row (by omega) (by omega))) ?_
  refine HOp.rdo 0 (v23) 5 1 C.length (bts C) (.load 5 (ptrAt (v23) 1 5)) (by kernel_rfl) (by kernel_rfl) (fun Gx gx o => (Row.load8 o.row (by omega) hc5)) ?_
  refine HOp.ev 4 ?_
  refine HOp.rdo 0 (v23) 5 1 C.length (bts C) (.idx 25 (v23) (.int .i64 64)) (by kernel_rfl) (by kernel_rfl) (fun Gx gx o => (qidx o.row (by omega) (by omega))) ?_
  refine HOp.rdo 0 (v23) 5 1 C.length (bts C) (.load 5 (ptrAt (v23) 1 64)) (by kernel_rfl) (by kernel_rfl) (fun Gx gx o => (Row.load8 o.row (by omega) hc64)) ?_
  refine HOp.ev 4 ?_
  refine HOp.rd (.idx 22 (l29) (.int .i64 0)) (by kernel_rfl) (qidx hl29.row (by omega) (by simp only [List.length_cons, List.length_nil, List.length_append, List.length_set, maxLen]; omega)) ?_
  refine HOp.rd (.idx 41 (ptrAt (l29) 64 0) (.int .i64 5)) (by kernel_rfl) (qidxA 64 1 (hl29.ptr (by omega) hN0) (by omega) (by omega)) ?_
  refine HOp.rd (.load 5 (ptrOff (ptrAt (l29) 64 0) 1 5)) (by kernel_rfl) (PAt.load8 ((hl29.mono f29).ptr (by omega) hN0) (by omega) hn5) ?_
  refine HOp.ev 4 ?_
  refine HOp.rd (.conv 25 9 (s29)) (by kernel_rfl) (cstr (hs29.mono f29)) ?_
  refine HOp.ev 3 ?_
  -- HOp CALL 11 [.int .i64 3, .int .u64 3, .int .i64 0] (place 64)
  refine HOp.un (Stp.pureF 11 [.int .i64 3, .int .u64 3, .int .i64 0] (by kernel_rfl) (by kernel_rfl) (within330)) ?_
  refine HOp.ev 2 ?_
  -- HOp CALL 11 [.int .i64 3, .int .u64 3, .int .i64 1] (place 67)
  refine HOp.un (Stp.pureF 11 [.int .i64 3, .int .u64 3, .int .i64 1] (by kernel_rfl) (by kernel_rfl) (within331)) ?_
  refine HOp.ev 5 ?_
  -- HOp CALL 18 [v1, v1] (place 73)
  refine HOp.un (Stp.pureG 18 [v1, v1] (by kernel_rfl) (by kernel_rfl) (GExt.refl _) ((alive_same h) ((o20.rowc (by assumption)).mono (((((g21.trans g22).trans g25).trans g26).trans g28).trans g29)))) ?_
  refine HOp.ev 4 ?_
  -- HOp CALL 18 [v1, l22] (place 78)
  refine HOp.un (Stp.pureG 18 [v1, l22] (by kernel_rfl) (by kernel_rfl) (GExt.refl _) ((alive_same' h) ((o20.rowc (by assumption)).mono (((((g21.trans g22).trans g25).trans g26).trans g28).trans g29)) (hl22.mono ((((f22.trans g25).trans g26).trans g28).trans g29)))) ?_
  refine HOp.ev 3 ?_
  refine HOp.done (by kernel_rfl) ?_
  refine H.ret ?_
  refine ⟨.v (.bool true), by kernel_rfl, ?_⟩
  rfl
theorem alive_ok {G : GH} : PureG Try.prog 8 [] G (.bool true) :=
  let ⟨_, _, _, _, _, _, h⟩ := alive_is; alive_gen h
end Go.Proofs.Ytdfahkpjdjjalaa
