/- Contracts of the layer block: whole blocks, and what is behind them. -/
import Derived.Test.YtdfahkpjdjjalaaBE
import Derived.Test.YtdfahkpjdjjalaaVcRow
namespace Go.Proofs.Ytdfahkpjdjjalaa
open Go.RowKit Vc

/-- The first so many blocks of bytes. -/
def cut64 (xs : List Int) (q : Nat) : List (List Int) := (List.range q).map fun i => (xs.drop (64 * i)).take 64
theorem cut64_len (xs : List Int) (q : Nat) : (cut64 xs q).length = q := by simp [cut64]
theorem cut64_succ (xs : List Int) (q : Nat) : cut64 xs (q + 1) = cut64 xs q ++ [(xs.drop (64 * q)).take 64] := by simp [cut64, List.range_succ]
theorem cut64_get (xs : List Int) {q i : Nat} (h : i < q) : (cut64 xs q)[i]? = some ((xs.drop (64 * i)).take 64) := by simp [cut64, h]
theorem cut64_wd {xs : List Int} {q : Nat} (h : 64 * q ≤ xs.length) : ∀ b ∈ cut64 xs q, (bts b).length = 64 := fun b hb => by
  simp only [cut64, List.mem_map, List.mem_range] at hb
  obtain ⟨i, hi, rfl⟩ := hb
  rw [bts_length, List.length_take, List.length_drop]; omega
theorem cut64_flatten {xs : List Int} {q : Nat} (h : 64 * q ≤ xs.length) : (cut64 xs q).flatten = xs.take (64 * q) := by
  induction q with
  | zero => simp [cut64]
  | succ q ih => rw [cut64_succ, List.flatten_append, ih (by omega), List.flatten_singleton, ← List.take_add]; congr 1
def SplitK (xs : List Int) (G : GH) (r : Value) : Prop := ∃ l s, r = .tuple #[l, s] ∧ RowC G l 64 bts (cut64 xs (xs.length / 64)) ∧ Row G s 1 (xs.length % 64) (bts (xs.drop (64 * (xs.length / 64))))

theorem split_ok {v : Value} {n : Nat} {xs : List Int} {G : GH} (h1 : Row G v 1 n (bts xs)) (hb : n < 100000) :
    FunR Try.prog 16 [v] G (SplitK xs) := by
  refine FunR.body Try.func16 rfl (by kernel_rfl) fun B hm hG => ?_
  subst hG
  have hx := h1.len
  rw [bts_length, Nat.mul_one] at hx
  refine H.sr (by kernel_rfl) ?_
  refine H.seq ?_
  refine H.block ?_
  -- LOOP from ⟨19, [(3, .v (.slice none 0 0)), (2, .v (.slice none 0 0)), (0, .v (v))], [], []⟩
  rotate_left
  refine H.own0 41 64 ?_
  refine H.loop (X := Nat × Value × Value) (fun x => ⟨19, [(2, .v x.2.1), (0, .v x.2.2)], [], [⟨x.2.1, 41, 64, (cut64 xs x.1).length, (cut64 xs x.1).flatMap bts⟩]⟩)
    (fun x G' => 64 * x.1 ≤ n ∧ GExt B.G0 G' ∧ Row B.G0 x.2.2 1 (n - 64 * x.1) (bts (xs.drop (64 * x.1)))) (fun x => n - 64 * x.1) (0, .slice none 0 0, v) (le_of (by kernel_rfl)) ⟨by simp, GExt.refl _, by simpa using h1⟩ (fun _ => by rw [hm]; exact Nat.zero_le _) ?_
  rintro ⟨q, l, b⟩ G3 ⟨hq, g3, hr⟩
  dsimp only at hq hr ⊢
  have hwd := cut64_wd (xs := xs) (q := q) (by omega)
  have hql := cut64_len xs q
  refine H.seq ?_
  refine H.seq (H.region (HOp.ev 1 ?_))
  refine HOp.rd (.len 25 (b)) (by kernel_rfl) (qlen hr) ?_
  refine HOp.ev 1 ?_
  refine HOp.done (by kernel_rfl) ?_
  refine H.ifd ((↑(n - 64 * q) : Int) ≥ 64) (by kernel_rfl) (fun t20 => ?_) (fun t20 => ?_)
  -- STATE ⟨19, [(6, .v (.bool (decide ((↑(n - 64 * q) : Int) ≥ 64)))), (5, .v (.int .i64 ((↑(n - 64 * q) : Int)))), (4, .v (b)), (2, .v (l)), (0, .v (b))], [], [⟨l, 41, 64, (cut64 xs q).length, List.flatMap bts (cut64 xs q)⟩]⟩
  -- STATE ⟨19, [(6, .v (.bool (decide ((↑(n - 64 * q) : Int) ≥ 64)))), (5, .v (.int .i64 ((↑(n - 64 * q) : Int)))), (4, .v (b)), (2, .v (l)), (0, .v (b))], [], [⟨l, 41, 64, (cut64 xs q).length, List.flatMap bts (cut64 xs q)⟩]⟩
  · have hl : ((xs.drop (64 * q)).take 64).length = 64 := by rw [List.length_take, List.length_drop]; omega
    have hs : Row B.G0 (subAt b 1 0 64) 1 64 (bts ((xs.drop (64 * q)).take 64)) := by
      have := hr.sub (lo := 0) (hi := 64) (by omega) (by omega)
      simpa [bts_take] using this
    refine H.skip ?_
    refine H.block ?_
    refine H.seq (H.region (HOp.ev 2 ?_))
    refine HOp.rd (.slice 25 (b) none (some (.int .i64 64))) (by kernel_rfl) (qsliceH hr (by omega) (by omega)) ?_
    refine HOp.rd (.toArr 41 (subAt (b) 1 0 64)) (by kernel_rfl) (qtoArr 64 hs (by omega) (by omega)) ?_
    refine HOp.rd (.load 41 (basePtr (subAt (b) 1 0 64))) (by kernel_rfl) (cloadP 64 ((hs.mono g3).base (by omega)) (by rw [bts_length]; omega)) ?_
    refine HOp.ex (Stp.buildF 22 1 [(0, .agg ({ toList := bts (List.take 64 (List.drop (64 * q) xs)) }))] (.int .u8 0) 41 64 64 (bts (List.take 64 (List.drop (64 * q) xs))) (by kernel_rfl) (fill_one (by rw [bts_length]; omega)) (by rw [Nat.one_mul]; exact (by rw [bts_length]; omega)) (by omega) (by kernel_rfl)) fun v30 G30 g30 k30 => ?_
    refine HOp.nu (Stp.appendC (xs := cut64 xs q) (c := bts) 0 22 (l) (v30) 41 64 64 (by kernel_rfl) (by kernel_rfl) (RowC.lit k30) (fun _ _ _ => bts_one) (by simp only [List.length_cons, List.length_nil, List.length_append]; omega) (by kernel_rfl)) fun v31 => ?_
    refine HOp.ev 1 ?_
    refine HOp.done (by kernel_rfl) ?_
    refine H.region (HOp.ev 1 ?_)
    refine HOp.rd (.slice 25 (b) (some (.int .i64 64)) none) (by kernel_rfl) (qsliceL hr (by omega) (by omega)) ?_
    refine HOp.ev 1 ?_
    refine HOp.done (by kernel_rfl) ?_
    refine ex_st ⟨19, [(0, .v (subAt (b) 1 64 (n - 64 * q))), (2, .v (v31))], [], [⟨v31, 41, 64, (cut64 xs q ++ [List.take 64 (List.drop (64 * q) xs)]).length, List.flatMap bts (cut64 xs q ++ [List.take 64 (List.drop (64 * q) xs)])⟩]⟩ (by kernel_rfl) ?_
    rotate_left
    refine ex_le (q + 1, v31, subAt b 1 64 (n - 64 * q)) (by kernel_rfl) ?_ ⟨⟨by dsimp only; omega, g3.trans g30, ?_⟩, by dsimp only; omega⟩
    · dsimp only
      rw [cut64_succ]
    · dsimp only
      have h := hr.sub (lo := 64) (hi := n - 64 * q) (by omega) (by omega)
      rw [bts_drop, bts_take, List.drop_drop, List.take_of_length_le (by rw [List.length_drop]; omega)] at h
      rw [show n - 64 * (q + 1) = n - 64 * q - 64 by omega, show 64 * (q + 1) = 64 * q + 64 * 1 by omega]; exact h
  · refine H.exit ?_
    refine H.seq (H.region (HOp.ev 2 ?_))
    -- HOp CALL 25 [b] (place 2)
    refine HOp.nu (Stp.funN 25 [b] (by kernel_rfl) (by kernel_rfl) fun Gx gx => (clone8_ok (hr.mono (g3.trans gx)) (fun _ => bts_one) (by omega))) fun v40 => ?_
    refine HOp.ev 2 ?_
    refine HOp.done (by kernel_rfl) ?_
    refine H.ret ?_
    refine bodyK_end (.tuple #[l, v40]) [⟨l, 41, 64, (cut64 xs q).length, List.flatMap bts (cut64 xs q)⟩, ⟨v40, 5, 1, n - 64 * q, bts (List.drop (64 * q) xs)⟩] (resOk_of (s := .tup [.v (l), .v (v40)]) (by kernel_rfl) (by kernel_rfl)) (by kernel_rfl) fun G41 g41 ⟨p41a, p41b, _⟩ => ?_
    rotate_left
    have e1 : xs.length / 64 = q := by omega
    have e2 : xs.length % 64 = n - 64 * q := by omega
    refine ⟨l, v40, rfl, ?_, ?_⟩
    · rw [e1]; exact p41a.rowc hwd
    · rw [e1, e2]; exact p41b.row
end Go.Proofs.Ytdfahkpjdjjalaa
