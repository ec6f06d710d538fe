/- Layer 3: what a block shows: the range over what was written, backward. -/
import Derived.Test.YtoiacgfhjikddaaWXD
import Derived.Test.YtoiacgfhjikddaaWZ
set_option linter.unusedSimpArgs false
set_option linter.unusedVariables false
namespace Go.Proofs.Ytoiacgfhjikddaa
open Go.RowKit Vc W

abbrev yl (l : Nat) : Value := .func (.yield l) #[] #[]
abbrev pB (b : Nat) : Value := .pointer (some ⟨b, 0, none⟩)
abbrev bK : Nat := 42
def dz : DirtyE := (0, List.replicate 64 0)
def fit (l : List Int) : List Int := (l ++ List.replicate 64 0).take 64
theorem fit_len (l : List Int) : (fit l).length = 64 := by simp [fit]
theorem fit_eq {l : List Int} (h : l.length = 64) : fit l = l := by simp [fit, ← h]
/-- What comes, round by round. -/
def bItem (ds : List DirtyE) (k : Nat) : Int × DirtyE := ((ds.length : Int) - 1 - k, ds.getD (ds.length - 1 - k) dz)
def bItems (ds : List DirtyE) (k : Nat) : List (Int × DirtyE) := (List.range k).map (bItem ds)
theorem bItems_len (ds : List DirtyE) (k : Nat) : (bItems ds k).length = k := by simp [bItems]
theorem bItems_succ (ds : List DirtyE) (k : Nat) : bItems ds (k + 1) = bItems ds k ++ [bItem ds k] := by simp [bItems, List.range_succ]
def bCells (d : DirtyE) : List Value := .int .i64 d.1 :: bts (fit d.2)
def bEnc (x : Int × DirtyE) : Array Value := #[.int .i64 x.1, .agg ⟨bCells x.2⟩]
/-- A pointer to a variable that holds what was written, in whatever world. -/
def PtD (G0 : GH) (ds : List DirtyE) (v : Value) : Prop := ∀ W, Rep (cxG W G0) (.fp 1 (.sl kDirty) ds 0) v
theorem PtD.of {G0 : GH} {ds : List DirtyE} {v : Value} {W : World} (h : Rep (cxG W G0) (.fp 1 (.sl kDirty) ds 0) v) : PtD G0 ds v := fun W' => by
  simp only [Rep] at h ⊢
  obtain ⟨vs, h1, h2⟩ := h
  exact ⟨vs, VC.free (k := .sl kDirty) rfl h1, h2⟩
/-- The iterator's frame between two rounds. -/
structure It (l : Nat) (G0 : GH) (ds : List DirtyE) (z : Int) (a : Act) : Prop where
  size : a.tmps.size = 19
  df : a.defers = []
  t0 : a.tmps[0]? = some (yl l)
  t1 : ∃ v, a.tmps[1]? = some v ∧ PtD G0 ds v
  t3 : a.tmps[3]? = some (.int .i64 z)
def t3Of (a : Act) : Nat := match a.tmps[3]? with | some (Value.int _ z) => (z + 1).toNat | _ => 0
theorem It.rel {l : Nat} {G0 : GH} {ds : List DirtyE} {z : Int} {a : Act} (h : It l G0 ds z a) {W : World} (hs : SubH G0 W) :
    RelA (baseG W G0 hs) (cxG W G0) [] [] (asG 19 [(0, .v (yl l)), (1, .fp 1 (.sl kDirty) ds 0), (3, .v (.int .i64 z))]) a [] W := by
  obtain ⟨v, h1, h2⟩ := h.t1
  exact relG hs h.size h.df (.cons h.t0 (by simp [Rep]) (.cons h1 (h2 W) (.cons h.t3 (by simp [Rep]) .nil)))
theorem vOf {C : Cx} {v x : Value} (h : Rep C (.v x) v) : v = x := by simpa [Rep] using h

section
variable {F : Fence} {n n₀ : Nat} {G0 : GH} {p : Value} {ds : List DirtyE}
structure BK (G0 : GH) (p : Value) (n₀ : Nat) (ds : List DirtyE) : Prop where
  cell : ∃ sv, PAt G0 p [sv] ∧ ∀ Gb, SLv G0 (VC Gb G0 kDirty) 65 ds sv
  lt : ∀ k o, G0 k = some o → k < n₀
  len : ds.length ≤ 1000000
theorem BK.fp (h : BK G0 p n₀ ds) (W : World) : Rep (cxG W G0) (.fp 1 (.sl kDirty) ds 0) p := by
  obtain ⟨sv, h1, h2⟩ := h.cell
  simp only [Rep]
  exact ⟨[sv], ⟨sv, rfl, h2 _⟩, h1⟩
theorem BK.dlen (h : BK G0 p n₀ ds) {d : DirtyE} (hd : d ∈ ds) : d.2.length = 64 := by
  obtain ⟨sv, h1, h2⟩ := h.cell
  obtain ⟨L, _, h4⟩ := h2 (fun _ => none)
  obtain ⟨i, hi, rfl⟩ := List.getElem_of_mem hd
  obtain ⟨us, ws, _, _, h5⟩ := h4 i hi
  exact h5.1
theorem BK.dget (h : BK G0 p n₀ ds) (k : Nat) : (ds.getD k dz).2.length = 64 := by
  rw [List.getD_eq_getElem?_getD]
  by_cases hk : k < ds.length
  · rw [List.getElem?_eq_getElem hk]; exact h.dlen (List.getElem_mem hk)
  · rw [List.getElem?_eq_none (by omega)]; rfl

theorem back_in (hF : ∀ f, F.fn f) (hro : F.round = none) (hd : F.depth = none) (hk : BK G0 p n₀ ds) (l : Nat) (J Jx : List (Int × DirtyE) → World → Prop) (W : World) (hsub : SubH G0 W) (hn₀ : n₀ ≤ W.heap.size)
    (hY : ∀ pre x W1, J pre W1 → pre.length < ds.length → YieldAt F (n - 1) Try.prog l (bEnc x) W1 fun e W' =>
      (e = .returned (.bool true) ∧ J (pre ++ [x]) W' ∧ Below n₀ W1 W') ∨ (e = .returned (.bool false) ∧ Jx (pre ++ [x]) W')) (h0 : J [] W) :
    CallsIn F n Try.prog bK #[yl l, p] W fun e W' => (∃ v, e = .returned v) ∧ ((∃ ys, ys = bItems ds ds.length ∧ J ys W') ∨ (∃ pre, (∃ k, k < ds.length ∧ pre = bItems ds (k + 1)) ∧ Jx pre W')) := by
  refine callsIn_of_wp Try.func42 rfl (hF _) ?_ hro
  refine wpIn_seq (wpIn_region ?_)
  have h1 : RepL (cxG W G0) [.v (yl l), .fp 1 (.sl kDirty) ds 0] [yl l, p] := ⟨_, _, rfl, by simp [Rep], _, _, rfl, hk.fp W, rfl⟩
  have hz : (act0 Try.f42 [yl l, p]).tmps.size = 19 := act0_size (Nat.le_of_ble_eq_true (by kernel_rfl))
  have R0 := relG (W := W) hsub (n := 19) (a := act0 Try.f42 [yl l, p]) hz rfl (act0_tm h1)
  refine quiet0 (l := [0, 1, 2, 3]) (r := []) hF rfl R0 [true, true, true, true] (by kernel_rfl) (by simp) ?_
  intro a1 R1
  obtain ⟨v0, e0, r0⟩ := R1.tm 0 (.v (yl l)) (by kernel_rfl)
  obtain ⟨v1, e1, r1⟩ := R1.tm 1 (.fp 1 (.sl kDirty) ds 0) (by kernel_rfl)
  obtain ⟨v3, e3, r3⟩ := R1.tm 3 (.v (.int .i64 (IntKind.i64.wrap ((ds.length : Int) - 1)))) (by kernel_rfl)
  have hlen := hk.len
  rw [w64 (by omega) (by omega)] at r3
  have I1 : It l G0 ds ((ds.length : Int) - 1 - (0 : Nat)) a1 := ⟨R1.rel.size, R1.rel.df, by rw [e0, vOf r0], ⟨v1, e1, PtD.of r1⟩, by rw [e3, vOf r3]; simp⟩
  refine wpIn_block (wpIn_loop (fun a W' => ∃ k, k ≤ ds.length ∧ It l G0 ds ((ds.length : Int) - 1 - (k : Nat)) a ∧ J (bItems ds k) W' ∧ Below n₀ W W') (fun a _ => t3Of a) ⟨0, Nat.zero_le _, I1, h0, Below.refl _ _⟩ ?_)
  rintro a W' ⟨k, hkl, hI, hJ, hB⟩
  have hs' : SubH G0 W' := fun i o h => by rw [hB.block i (hk.lt i o h)]; exact hsub i o h
  have hmu : t3Of a = ds.length - k := by simp only [t3Of, hI.t3]; omega
  refine wpIn_seq (wpIn_seq (wpIn_region ?_))
  refine quiet0 (l := [0, 1]) (r := []) hF rfl (hI.rel hs') [true, true] (by kernel_rfl) (by simp) ?_
  intro a2 R2
  obtain ⟨v8, e8, r8⟩ := R2.tm 8 (.v (.bool (decide ((ds.length : Int) - 1 - k ≥ 0)))) (by kernel_rfl)
  have c8 : a2.eval (.tmp 8) = .bool (decide ((ds.length : Int) - 1 - k ≥ 0)) := by simp [Act.eval, Array.getD_eq_getD_getElem?, e8, vOf r8]
  obtain ⟨v0', e0', r0'⟩ := R2.tm 0 (.v (yl l)) (by kernel_rfl)
  obtain ⟨v1', e1', r1'⟩ := R2.tm 1 (.fp 1 (.sl kDirty) ds 0) (by kernel_rfl)
  obtain ⟨v3', e3', r3'⟩ := R2.tm 3 (.v (.int .i64 ((ds.length : Int) - 1 - k))) (by kernel_rfl)
  have I2 : It l G0 ds ((ds.length : Int) - 1 - k) a2 := ⟨R2.rel.size, R2.rel.df, by rw [e0', vOf r0'], ⟨v1', e1', PtD.of r1'⟩, by rw [e3', vOf r3']⟩
  refine wpIn_cond_split c8 (fun h => ?_) (fun h => ?_)
  · refine wpIn_skip ?_
    have hlt : k < ds.length := by have := of_decide_eq_true h; omega
    obtain ⟨fn, tmps, assign, body, hy, hR⟩ := hY _ (bItem ds k) W' hJ (by rw [bItems_len]; exact hlt)
    refine wpIn_seq (wpIn_block (wpIn_seq (wpIn_region ?_)))
    have hz : ((ds.length : Int) - 1 - k).toNat = ds.length - 1 - k := by omega
    refine quiet0 (l := [0, 1, 2, 3, 4, 5]) (r := [6, 7]) hF rfl (I2.rel hs') [true, true, true, true, decide (0 ≤ (ds.length : Int) - 1 - k) && decide ((ds.length : Int) - 1 - k < ds.length), true] (by kernel_rfl) ?_ ?_
    · simp; omega
    intro a3 R3
    obtain ⟨v11, e11, r11⟩ := R3.tm 11 (.v (yl l)) (by kernel_rfl)
    obtain ⟨v12, e12, r12⟩ := R3.tm 12 (.v (.int .i64 ((ds.length : Int) - 1 - k))) (by kernel_rfl)
    obtain ⟨v16, e16, r16⟩ := R3.tm 16 (.ag [.v (.int .i64 (ds.getD ((ds.length : Int) - 1 - k).toNat dz).1), .by_ 64 (ds.getD ((ds.length : Int) - 1 - k).toNat dz).2]) (by kernel_rfl)
    obtain ⟨w0, f0, q0⟩ := R3.tm 0 (.v (yl l)) (by kernel_rfl)
    obtain ⟨w1, f1, q1⟩ := R3.tm 1 (.fp 1 (.sl kDirty) ds 0) (by kernel_rfl)
    obtain ⟨w3, f3, q3⟩ := R3.tm 3 (.v (.int .i64 ((ds.length : Int) - 1 - k))) (by kernel_rfl)
    have I3 : It l G0 ds ((ds.length : Int) - 1 - k) a3 := ⟨R3.rel.size, R3.rel.df, by rw [f0, vOf q0], ⟨w1, f1, PtD.of q1⟩, by rw [f3, vOf q3]⟩
    have c16 : v16 = .agg ⟨bCells (ds.getD (ds.length - 1 - k) dz)⟩ := by
      rw [hz] at r16
      simp only [Rep, RepC] at r16
      obtain ⟨vs, rfl, v, us, rfl, _, hv, us2, h5, rfl, rfl⟩ := r16
      rw [hv, List.append_nil, bCells, fit_eq h5]
    refine opIn hF (o := _) rfl rfl (fun c hc => by cases hc) ?_
    rw [yield_run (l := l) rfl rfl (by simp [Act.eval, Array.getD_eq_getD_getElem?, e11, vOf r11])]
    have hargs : (#[Operand.tmp 12, Operand.tmp 16] : Array Operand).map a3.eval = bEnc (bItem ds k) := by
      simp [Act.eval, Array.getD_eq_getD_getElem?, e12, vOf r12, e16, c16, bEnc, bItem]
    rw [hargs, hy]
    refine ⟨fun h => (by rw [hd] at h; cases h), hR.mono ?_⟩
    rintro e W3 (⟨rfl, hJ3, hk3⟩ | ⟨rfl, hJx3⟩)
    · have hB3 : Below n₀ W W3 := hB.trans hk3
      have hs3 : SubH G0 W3 := fun i o h => by rw [hB3.block i (hk.lt i o h)]; exact hsub i o h
      have R4 := (I3.rel hs3).put (some 17) (x := .v (.bool true)) (v := .bool true) (by simp [Rep])
      refine quiet0 (l := [7]) (r := []) hF rfl R4 [true] (by kernel_rfl) (by simp) ?_
      intro a5 R5
      obtain ⟨v18, e18, r18⟩ := R5.tm 18 (.v (.bool false)) (by kernel_rfl)
      have c18 : a5.eval (.tmp 18) = .bool false := by simp [Act.eval, Array.getD_eq_getD_getElem?, e18, vOf r18]
      refine wpIn_cond_false c18 (wpIn_skip ?_)
      refine wpIn_region ?_
      refine quiet0 (l := [0, 1, 2]) (r := []) hF rfl R5 [true, true, true] (by kernel_rfl) (by simp) ?_
      intro a6 R6
      obtain ⟨x0, g0, p0⟩ := R6.tm 0 (.v (yl l)) (by kernel_rfl)
      obtain ⟨x1, g1, p1⟩ := R6.tm 1 (.fp 1 (.sl kDirty) ds 0) (by kernel_rfl)
      obtain ⟨x3, g3, p3⟩ := R6.tm 3 (.v (.int .i64 (IntKind.i64.wrap ((ds.length : Int) - 1 - k - 1)))) (by kernel_rfl)
      rw [w64 (by omega) (by omega)] at p3
      have I6 : It l G0 ds ((ds.length : Int) - 1 - (k + 1 : Nat)) a6 := ⟨R6.rel.size, R6.rel.df, by rw [g0, vOf p0], ⟨x1, g1, PtD.of p1⟩, by rw [g3, vOf p3]; congr 2; omega⟩
      refine ⟨⟨k + 1, by omega, I6, by rw [bItems_succ]; exact hJ3, hB3⟩, ?_⟩
      rw [hmu]; simp only [t3Of, I6.t3]; omega
    · have hz3 : (a3.put (some 17) (.bool false)).tmps.size = 19 := by simp [Act.put, I3.size]
      have R4 := relG (W := W3) (G := fun _ => none) (fun _ _ h => by cases h) (n := 19) (a := a3.put (some 17) (.bool false)) (tm := [(17, .v (.bool false))]) hz3 (by show a3.defers = []; exact I3.df) (.cons (v := .bool false) (by simp [Act.put, I3.size]) (by simp [Rep]) .nil)
      refine quiet0 (l := [7]) (r := []) hF rfl R4 [true] (by kernel_rfl) (by simp) ?_
      intro a5 R5
      obtain ⟨v18, e18, r18⟩ := R5.tm 18 (.v (.bool true)) (by kernel_rfl)
      have c18 : a5.eval (.tmp 18) = .bool true := by simp [Act.eval, Array.getD_eq_getD_getElem?, e18, vOf r18]
      refine wpIn_cond_true c18 (wpIn_ret ?_)
      refine ⟨R5.rel.df, _, results_none (fn := Try.f42) rfl _ _ _, ⟨_, rfl⟩, .inr ⟨_, ⟨k, hlt, (bItems_succ _ _).symm⟩, hJx3⟩⟩
  · refine wpIn_exit ?_
    have hlt : k = ds.length := by have := of_decide_eq_false h; omega
    subst hlt
    refine ⟨I2.df, _, results_none (fn := Try.f42) rfl _ _ _, ⟨_, rfl⟩, .inl ⟨_, rfl, hJ⟩⟩
/-- The contract of the iterator. -/
theorem back_stops (hF : ∀ f, F.fn f) (hro : F.round = none) (hd : F.depth = none) (hk : BK G0 p n₀ ds) (w : World) (hsub : SubH G0 w) (hn₀ : n₀ ≤ w.heap.size) :
    SeqStopsK F n Try.prog bK #[p] bEnc (Below n₀) (fun ys => ys = bItems ds ds.length) (fun pre => ∃ k, k < ds.length ∧ pre = bItems ds (k + 1)) ds.length w := fun l J Jx W hW _ _ hY h0 =>
  back_in hF hro hd hk l J Jx W (fun i o h => by rw [hW.block i (Nat.lt_of_lt_of_le (hk.lt i o h) hn₀)]; exact hsub i o h) (Nat.le_trans hn₀ hW.size) hY h0
end
end Go.Proofs.Ytoiacgfhjikddaa
