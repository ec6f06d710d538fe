/- The calculus: arguments that are slices, as rows; and a law's row from a contract that reads memory. -/
import Derived.Test.YtoiacgfhjikddaaVcLaw
import Derived.Test.YtoiacgfhjikddaaVcRow
namespace Go.Proofs.Ytoiacgfhjikddaa.Vc
open Go.RowKit

theorem PureG.law {P : Program} {f : Nat} {vs : List Value} {G : GH} {r : Value} (h : PureG P f vs G r) : Fun P f vs G fun _ _ v => v = r := by
  refine ⟨fun W hW => Calls.mono (h.run W hW) ?_⟩
  rintro e W' ⟨rfl, hk⟩
  refine ⟨r, G, rfl, hk, fun k o hg => ?_, fun _ _ => rfl, rfl⟩
  have h1 := hW k o hg
  have hlt : k < W.heap.size := (Array.getElem?_eq_some_iff.1 h1).1
  rw [hk.block k hlt (fun i hi => absurd hi (Nat.not_lt_zero i))]; exact h1

theorem chunks {T : Type} (c : T → List Value) (w : Nat) (p : T → Prop) : ∀ (n : Nat) (l : List Value), l.length = n * w → (∀ i, i < n → ∃ x, (l.drop (i * w)).take w = c x ∧ p x) →
    ∃ xs : List T, xs.length = n ∧ l = xs.flatMap c ∧ ∀ x ∈ xs, (c x).length = w ∧ p x
  | 0, l, hl, _ => ⟨[], rfl, by simpa using hl, by simp⟩
  | n + 1, l, hl, h => by
    rw [Nat.succ_mul] at hl
    obtain ⟨x, hx, hp⟩ := h 0 (by omega)
    rw [Nat.zero_mul, List.drop_zero] at hx
    obtain ⟨xs, h1, h2, h3⟩ := chunks c w p n (l.drop w) (by rw [List.length_drop]; omega) fun i hi => by
      obtain ⟨y, hy, hq⟩ := h (i + 1) (by omega)
      exact ⟨y, by rw [List.drop_drop, ← hy, Nat.succ_mul, Nat.add_comm], hq⟩
    refine ⟨x :: xs, by simp [h1], ?_, fun y hy => ?_⟩
    · rw [List.flatMap_cons, ← h2, ← hx, List.take_append_drop]
    · rcases List.mem_cons.1 hy with rfl | hy
      · exact ⟨by rw [← hx, List.length_take]; omega, hp⟩
      · exact h3 y hy

section
variable {H : Type} {enc : TypeId × Value → H} {P : Program} {W : World} {e len cap w : Nat} {A : Option Addr}
theorem slice_row (h : SlOk enc P W e A len cap) (hw : P.cellsOf e = w) (h0 : 0 < w) :
    ∃ l, Row (fun k => W.heap[k]?) (.slice A len cap) w len l ∧ ∀ i, i < len → ∃ fuel x, DataW.trod enc P W 0 (fun _ => true) true fuel e ((l.drop (i * w)).take w) = some x := by
  subst hw
  rcases h with ⟨rfl, rfl, rfl⟩ | ⟨a, rfl, hlc, hcm, h⟩
  · exact ⟨[], Row.nil _ _, fun i hi => absurd hi (Nat.not_lt_zero i)⟩
  rcases Nat.eq_zero_or_pos len with rfl | hl
  · exact ⟨[], ⟨by simp, .inl ⟨_, _, rfl, rfl⟩⟩, fun i hi => absurd hi (Nat.not_lt_zero i)⟩
  have hcell : ∀ i, i < len → ∀ j, j < P.cellsOf e → ∃ u, W.cell? ((a.add (i * P.cellsOf e)).add j) = some u := fun i hi j hj => by
    obtain ⟨cs, _, _, hc, _⟩ := h i (by omega)
    obtain ⟨_, hcl, hc⟩ := World.cells?_some hc
    exact ⟨_, (hc j hj).trans (List.getElem?_eq_getElem (by omega))⟩
  -- the block
  obtain ⟨u0, hu0⟩ := hcell 0 hl 0 h0
  have hb : ∃ c ty fr, W.heap[a.block]? = some (.cells c ty fr) ∧ a.spot = none := by
    simp only [Nat.zero_mul, Addr.add, if_true] at hu0
    unfold World.cell? at hu0
    split at hu0
    · rename_i c ty fr hc
      refine ⟨c, ty, fr, hc, ?_⟩
      cases hs : a.spot with
      | none => rfl
      | some s => simp [hs] at hu0
    · cases hu0
  obtain ⟨c, ty, fr, hc, hs⟩ := hb
  have hcl : ∀ k, W.cell? (a.add k) = c.toList[a.off + k]? := fun k => by
    rw [add_eq hs]; unfold World.cell?; simp only [hc]; simp
  have hadd : ∀ i j, (a.add (i * P.cellsOf e)).add j = a.add (i * P.cellsOf e + j) := fun i j => by
    rw [add_eq hs, add_eq hs, add_eq rfl, Nat.add_assoc]
  have hlen : a.off + len * P.cellsOf e ≤ c.toList.length := by
    obtain ⟨u, hu⟩ := hcell (len - 1) (by omega) (P.cellsOf e - 1) (by omega)
    rw [hadd, hcl] at hu
    have := (List.getElem?_eq_some_iff.1 hu).1
    have e2 : len * P.cellsOf e = (len - 1) * P.cellsOf e + P.cellsOf e := by rw [← Nat.succ_mul]; congr 1; omega
    omega
  have hll : ((c.toList.drop a.off).take (len * P.cellsOf e)).length = len * P.cellsOf e := by rw [List.length_take, List.length_drop]; omega
  refine ⟨(c.toList.drop a.off).take (len * P.cellsOf e), ⟨hll, .inr ⟨a, cap, rfl, hlc, hs, c.toList, ty, fr, by simpa using hc, by rw [hll]⟩⟩, fun i hi => ?_⟩
  obtain ⟨cs, fuel, x, h1, h2⟩ := h i (by omega)
  obtain ⟨_, hcl', hcs⟩ := World.cells?_some h1
  refine ⟨fuel, x, ?_⟩
  have : ((c.toList.drop a.off).take (len * P.cellsOf e)).drop (i * P.cellsOf e) |>.take (P.cellsOf e) |> (· = cs) := by
    apply List.ext_getElem?
    intro j
    have hm : (i + 1) * P.cellsOf e ≤ len * P.cellsOf e := Nat.mul_le_mul_right _ hi
    rw [Nat.succ_mul] at hm
    by_cases hj : j < P.cellsOf e
    · rw [List.getElem?_take, if_pos hj, List.getElem?_drop, List.getElem?_take, if_pos (by omega), List.getElem?_drop, ← hcs j hj, hadd, hcl]
    · rw [List.getElem?_eq_none (by rw [List.length_take]; omega), List.getElem?_eq_none (by omega)]
  rw [this]; exact h2

theorem CsOk.bytes : ∀ {n : Nat} {cs : List Value}, CsOk enc P W (List.replicate n (.int .u8)) cs → ∃ zs, cs = bts zs ∧ ∀ z ∈ zs, 0 ≤ z ∧ z ≤ 255
  | 0, cs, h => ⟨[], h.nil, by simp⟩
  | n + 1, cs, h => by
    rw [List.replicate_succ] at h
    obtain ⟨_, r, rfl, ⟨z, rfl, h1, h2⟩, h3⟩ := h.cons
    obtain ⟨zs, rfl, hz⟩ := h3.bytes
    rw [mn_u8] at h1; rw [mx_u8] at h2
    exact ⟨z :: zs, rfl, fun y hy => (List.mem_cons.1 hy).elim (fun e => by subst e; exact ⟨h1, h2⟩) (hz y)⟩

theorem slice_arrays (h : SlOk enc P W e A len cap) (hw : P.cellsOf e = w) (h0 : 0 < w) (hf : flat P 8 e = some (List.replicate w (.int .u8))) :
    ∃ xs : List (List Int), RowC (fun k => W.heap[k]?) (.slice A len cap) w bts xs ∧ ∀ x ∈ xs, ∀ z ∈ x, 0 ≤ z ∧ z ≤ 255 := by
  obtain ⟨l, h1, h2⟩ := slice_row h hw h0
  obtain ⟨xs, h3, rfl, h4⟩ := chunks bts w (fun x => ∀ z ∈ x, 0 ≤ z ∧ z ≤ 255) len l h1.len fun i hi => by
    obtain ⟨fuel, x, hx⟩ := h2 i hi
    exact (flat_ok 8 e _ fuel x _ hx hf).bytes
  subst h3
  exact ⟨xs, ⟨h1, fun x hx => (h4 x hx).1⟩, fun x hx => (h4 x hx).2⟩
theorem slice_bytes (h : SlOk enc P W e A len cap) (hu : P.underlying e = some (.int .u8)) (hw : P.cellsOf e = 1) :
    ∃ xs : List Int, Row (fun k => W.heap[k]?) (.slice A len cap) 1 xs.length (bts xs) ∧ ∀ z ∈ xs, 0 ≤ z ∧ z ≤ 255 := by
  obtain ⟨l, h1, h2⟩ := slice_row h hw (by omega)
  obtain ⟨xs, h3, rfl, h4⟩ := chunks (fun z => [Value.int .u8 z]) 1 (fun z => 0 ≤ z ∧ z ≤ 255) len l h1.len fun i hi => by
    obtain ⟨fuel, x, hx⟩ := h2 i hi
    obtain ⟨c, r, hl, ⟨z, rfl, ha, hb⟩, hr⟩ := (flat_ok 1 e _ fuel x [.int .u8] hx (by simp [flat, hu])).cons
    have := hr.nil; subst this
    rw [mn_u8] at ha; rw [mx_u8] at hb
    exact ⟨z, hl, ha, hb⟩
  subst h3
  rw [← bts_flat] at h1
  exact ⟨xs, h1, fun x hx => (h4 x hx).2⟩
theorem arg_slice {t e : Nat} {v : Value} {d : DataW H} {p : List MemPlace} (hu : P.underlying t = some (.slice e)) (hw : ∃ base, Value.okWide P W .any base t v) (h : DataW.Trod enc P W 0 (fun _ => true) true t v d p) :
    ∃ A len cap, v = .slice A len cap ∧ SlOk enc P W e A len cap := by
  obtain ⟨base, hw⟩ := hw
  obtain ⟨A, len, cap, rfl⟩ := WideShapes.okWide_slice hu hw
  obtain ⟨_, _, hl, ⟨A', len', cap', h1, h2⟩, _⟩ := (arg_cells 1 (ks := [.slice e]) (by simp [flat, hu]) h).cons
  simp only [Value.cells, List.cons.injEq] at hl
  obtain ⟨rfl, _⟩ := hl
  cases h1
  exact ⟨A, len, cap, rfl, h2⟩
theorem arg_arrays {t e : Nat} {v : Value} {d : DataW H} {p : List MemPlace} (hu : P.underlying t = some (.slice e)) (hc : P.cellsOf e = w) (h0 : 0 < w) (hf : flat P 8 e = some (List.replicate w (.int .u8))) (hw : ∃ base, Value.okWide P W .any base t v) (h : DataW.Trod enc P W 0 (fun _ => true) true t v d p) :
    ∃ xs : List (List Int), RowC (fun k => W.heap[k]?) v w bts xs ∧ ∀ x ∈ xs, ∀ z ∈ x, 0 ≤ z ∧ z ≤ 255 := by
  obtain ⟨A, len, cap, rfl, hs⟩ := arg_slice hu hw h
  exact slice_arrays hs hc h0 hf
theorem arg_bytes {t e : Nat} {v : Value} {d : DataW H} {p : List MemPlace} (hu : P.underlying t = some (.slice e)) (he : P.underlying e = some (.int .u8)) (hc : P.cellsOf e = 1) (hw : ∃ base, Value.okWide P W .any base t v) (h : DataW.Trod enc P W 0 (fun _ => true) true t v d p) :
    ∃ xs : List Int, Row (fun k => W.heap[k]?) v 1 xs.length (bts xs) ∧ ∀ z ∈ xs, 0 ≤ z ∧ z ≤ 255 := by
  obtain ⟨A, len, cap, rfl, hs⟩ := arg_slice hu hw h
  exact slice_bytes hs he hc
theorem arg_array {t e n : Nat} {v : Value} {d : DataW H} {p : List MemPlace} (hu : P.underlying t = some (.array n e)) (hf : flat P 8 t = some (List.replicate n (.int .u8))) (hw : ∃ base, Value.okWide P W .any base t v) (h : DataW.Trod enc P W 0 (fun _ => true) true t v d p) :
    ∃ zs, v = .agg ⟨bts zs⟩ ∧ zs.length = n ∧ ∀ z ∈ zs, 0 ≤ z ∧ z ≤ 255 := by
  obtain ⟨base, hw⟩ := hw
  simp only [Value.okWide, hu] at hw
  obtain ⟨cs, rfl, _⟩ := hw
  have h1 := arg_cells 8 hf h
  obtain ⟨zs, h2, h3⟩ := h1.bytes
  have hl := h1.length
  refine ⟨zs, ?_, by rw [h2] at hl; simpa [bts] using hl, h3⟩
  rw [← h2]; simp [Value.cells]
end
end Go.Proofs.Ytoiacgfhjikddaa.Vc
