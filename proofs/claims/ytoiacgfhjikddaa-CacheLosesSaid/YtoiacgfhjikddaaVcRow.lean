/- The calculus, ninth part: slices of elements that are more than one cell; steps in regions of several orders. -/
import Derived.Test.YtoiacgfhjikddaaVcOwn
namespace Go.Proofs.Ytoiacgfhjikddaa.Vc
open Go.RowKit

section
variable {B : Base} {E : Env} {st st' : St} {G G' G1 : GH} {a : Act} {W W' : World} {P : Program} {ops : Array Oper} {Q : Post} {qs : List Nat}

/-! ### Elements of several cells -/
section
variable {T : Type} {c : T → List Value} {w : Nat} {xs : List T}
theorem flat_length (h : ∀ x ∈ xs, (c x).length = w) : (xs.flatMap c).length = xs.length * w := by
  induction xs with
  | nil => simp
  | cons x r ih =>
    rw [List.flatMap_cons, List.length_append, h x (by simp), ih fun y hy => h y (by simp [hy]), List.length_cons, Nat.add_mul]; omega
theorem flat_drop (h : ∀ x ∈ xs, (c x).length = w) (i : Nat) : (xs.flatMap c).drop (i * w) = (xs.drop i).flatMap c := by
  induction i generalizing xs with
  | zero => simp
  | succ i ih =>
    cases xs with
    | nil => simp
    | cons x r =>
      rw [List.flatMap_cons, List.drop_append, List.drop_of_length_le (by rw [h x (by simp), Nat.succ_mul]; omega), h x (by simp), Nat.succ_mul, Nat.add_sub_cancel, List.nil_append, ih fun y hy => h y (by simp [hy])]; rfl
theorem flat_take (h : ∀ x ∈ xs, (c x).length = w) (i : Nat) : (xs.flatMap c).take (i * w) = (xs.take i).flatMap c := by
  induction i generalizing xs with
  | zero => simp
  | succ i ih =>
    cases xs with
    | nil => simp
    | cons x r =>
      rw [List.flatMap_cons, List.take_append, List.take_of_length_le (by rw [h x (by simp), Nat.succ_mul]; omega), h x (by simp), Nat.succ_mul, Nat.add_sub_cancel, ih fun y hy => h y (by simp [hy])]; simp
theorem flat_get (h : ∀ x ∈ xs, (c x).length = w) {i : Nat} {x : T} (hi : xs[i]? = some x) : ((xs.flatMap c).drop (i * w)).take w = c x := by
  have hlt : i < xs.length := (List.getElem?_eq_some_iff.1 hi).1
  have e : xs[i] = x := (List.getElem?_eq_some_iff.1 hi).2
  rw [flat_drop h, List.drop_eq_getElem_cons hlt, List.flatMap_cons, e, List.take_append_of_le_length (by rw [h x (List.mem_of_getElem? hi)]; exact Nat.le_refl _), List.take_of_length_le (by rw [h x (List.mem_of_getElem? hi)]; exact Nat.le_refl _)]
/-- Some cells of an element, written anew. -/
theorem flat_set (h : ∀ x ∈ xs, (c x).length = w) {i k : Nat} {x y : T} {ys : List Value} (hi : xs[i]? = some x) (hk : k + ys.length ≤ w) (hy : wrAt (c x) k ys = c y) : wrAt (xs.flatMap c) (i * w + k) ys = (xs.set i y).flatMap c := by
  have hlt : i < xs.length := (List.getElem?_eq_some_iff.1 hi).1
  have e : xs[i] = x := (List.getElem?_eq_some_iff.1 hi).2
  have hx := h x (List.mem_of_getElem? hi)
  have hlen := flat_length h
  have hiw : (i + 1) * w ≤ xs.length * w := Nat.mul_le_mul_right _ hlt
  rw [Nat.succ_mul] at hiw
  have h1 : (xs.flatMap c).take (i * w + k) = (xs.take i).flatMap c ++ (c x).take k := by
    rw [List.take_add, flat_take h, flat_drop h, List.drop_eq_getElem_cons hlt, List.flatMap_cons, e, List.take_append_of_le_length (by omega)]
  have h2 : (xs.flatMap c).drop (i * w + k + ys.length) = (c x).drop (k + ys.length) ++ (xs.drop (i + 1)).flatMap c := by
    rw [Nat.add_assoc, ← List.drop_drop, flat_drop h, List.drop_eq_getElem_cons hlt, List.flatMap_cons, e, List.drop_append_of_le_length (by omega)]
  rw [wrAt, h1, h2, List.set_eq_take_append_cons_drop, if_pos hlt, List.flatMap_append, List.flatMap_cons, ← hy, wrAt]
  simp [List.append_assoc]
/-- The whole element. -/
theorem flat_put (h : ∀ x ∈ xs, (c x).length = w) {i : Nat} {y : T} (hi : i < xs.length) (hy : (c y).length = w) : wrAt (xs.flatMap c) (i * w) (c y) = (xs.set i y).flatMap c := by
  have hx := h _ (List.getElem_mem hi)
  have := flat_set h (i := i) (k := 0) (x := xs[i]) (y := y) (ys := c y) (by simp [hi]) (by omega) (by simp [wrAt, hx, hy])
  rwa [Nat.add_zero] at this
theorem flat_ap {ys : List T} : xs.flatMap c ++ ys.flatMap c = (xs ++ ys).flatMap c := by simp
theorem flat_one {y : T} : xs.flatMap c ++ c y = (xs ++ [y]).flatMap c := by simp
end
theorem bts_flat (xs : List Int) : bts xs = xs.flatMap fun x => [Value.int .u8 x] := by
  induction xs with
  | nil => rfl
  | cons x r ih => simp [bts, List.flatMap_cons] at ih ⊢; exact ih
/-- A slice of elements, each of w cells. -/
structure RowC {T : Type} (G : GH) (v : Value) (w : Nat) (c : T → List Value) (xs : List T) : Prop where
  row : Row G v w xs.length (xs.flatMap c)
  wd : ∀ x ∈ xs, (c x).length = w
section
variable {T : Type} {c : T → List Value} {w : Nat} {xs : List T} {v : Value}
theorem RowC.mono (h : RowC G v w c xs) (g : GExt G G') : RowC G' v w c xs := ⟨h.row.mono g, h.wd⟩
theorem RowC.nil (G : GH) (w : Nat) (c : T → List Value) : RowC G (.slice none 0 0) w c [] := ⟨by simpa using Row.nil G w, by simp⟩
theorem RowC.ptr (h : RowC G v w c xs) {i : Int} {x : T} (h0 : 0 ≤ i) (hx : xs[i.toNat]? = some x) : PAt G (ptrAt v w i) (c x) := by
  have hlt : i.toNat < xs.length := (List.getElem?_eq_some_iff.1 hx).1
  have := h.row.ptr h0 (show i < xs.length by omega)
  rwa [flat_get h.wd hx] at this
theorem RowC.sub (h : RowC G v w c xs) {lo hi : Nat} (h1 : lo ≤ hi) (h2 : hi ≤ xs.length) : RowC G (subAt v w lo hi) w c ((xs.drop lo).take (hi - lo)) := by
  have hwd : ∀ x ∈ xs.drop lo, (c x).length = w := fun x hx => h.wd x (List.mem_of_mem_drop hx)
  refine ⟨?_, fun x hx => hwd x (List.mem_of_mem_take hx)⟩
  have := h.row.sub h1 h2
  rw [flat_drop h.wd, flat_take hwd] at this
  rwa [show ((xs.drop lo).take (hi - lo)).length = hi - lo by rw [List.length_take, List.length_drop]; omega]
theorem Own.rowc {N : Nat} {e : TypeId} (h : Own G N v e w xs.length (xs.flatMap c)) (hw : ∀ x ∈ xs, (c x).length = w) : RowC G v w c xs := ⟨h.row, hw⟩
theorem RowC.one (h1 : ∀ x ∈ xs, ∀ u ∈ c x, u.oneCell' = true) : ∀ u ∈ xs.flatMap c, u.oneCell' = true := fun u hu => by
  obtain ⟨x, hx, hu⟩ := List.mem_flatMap.1 hu; exact h1 x hx u hu
end
theorem Row.rowB {v : Value} {n : Nat} {xs : List Int} (h : Row G v 1 n (bts xs)) : RowC G v 1 (fun x => [Value.int .u8 x]) xs := by
  have := h.len
  rw [bts_length, Nat.mul_one] at this
  subst this
  exact ⟨by rw [← bts_flat]; exact h, fun _ _ => rfl⟩

theorem Row.subB {v : Value} {n lo hi : Nat} {xs : List Int} (h : Row G v 1 n (bts xs)) (h1 : lo ≤ hi) (h2 : hi ≤ n) : Row G (subAt v 1 lo hi) 1 (hi - lo) (bts ((xs.drop lo).take (hi - lo))) := by
  have := h.sub h1 h2
  rwa [Nat.mul_one, Nat.mul_one, bts_drop, bts_take] at this
/-- Some of some of one's own. -/
theorem Own.sub_sub {N e w n lo hi hi' : Nat} {v : Value} {l : List Value} (h : Own G N v e w n l) (h1 : lo ≤ hi) (h2 : hi ≤ n) : subAt (subAt v w lo hi) w 0 hi' = subAt v w lo (lo + hi') := by
  rw [subAt_eq]
  rcases h.at_ with ⟨oa, rfl, hn⟩ | ⟨b, c, L, rfl, hc0, _, _, hnc, _⟩
  · have e1 : lo = 0 := by omega
    have e2 : hi = 0 := by omega
    subst e1; subst e2
    cases oa <;> simp [subAtD]
  · simp only [subAtD, Nat.sub_zero, Nat.zero_mul, add_none, Nat.add_sub_cancel_left, Nat.add_zero, Nat.zero_add]
    congr 2
    split <;> (try split) <;> rfl
/-! ### One's own, by its place in the state -/
def ovOf (p : List Nat × St) (i : Nat) : Option (Value × TypeId × Nat × Nat) := match p.2.ow[i]? with | some o => some (o.v, o.e, o.w, o.n) | none => none
def lOf (p : List Nat × St) (i : Nat) : List Value := match p.2.ow[i]? with | some o => o.l | none => []
theorem ovOf_spec {p : List Nat × St} {i : Nat} {v : Value} {e : TypeId} {w n : Nat} (h : ovOf p i = some (v, e, w, n)) : p.2.ow[i]? = some ⟨v, e, w, n, lOf p i⟩ := by
  unfold ovOf at h
  cases ho : p.2.ow[i]? with
  | none => simp [ho] at h
  | some o =>
    simp only [ho, Option.some.injEq, Prod.mk.injEq] at h
    obtain ⟨rfl, rfl, rfl, rfl⟩ := h
    simp only [lOf, ho]
/-- A step that makes a new value for one's own. -/
def StpN (B : Base) (P : Program) (ops : Array Oper) (p : List Nat × St) (G : GH) (f : Value → Value) (ow : Value → List OwnV) : Prop := Stp B P ops p G fun s ow' G' => ∃ v, s = .v (f v) ∧ ow' = ow v ∧ G' = G
/-- A step that makes something new of which something is known. -/
def StpM (B : Base) (P : Program) (ops : Array Oper) (p : List Nat × St) (G : GH) (C : Value → Prop) (f : Value → Value) (ow : Value → List OwnV) : Prop := Stp B P ops p G fun s ow' G' => ∃ v, C v ∧ s = .v (f v) ∧ ow' = ow v ∧ G' = G
/-- A step whose value is known. -/
def StpU (B : Base) (P : Program) (ops : Array Oper) (p : List Nat × St) (G : GH) (r : Value) (ow : List OwnV) : Prop := Stp B P ops p G fun s ow' G' => s = .v r ∧ ow' = ow ∧ G' = G
/-- A step behind which more is seen. -/
def StpE (B : Base) (P : Program) (ops : Array Oper) (p : List Nat × St) (G : GH) (K : Value → GH → Prop) : Prop := Stp B P ops p G fun s ow' G' => ∃ v, s = .v v ∧ ow' = p.2.ow ∧ GExt G G' ∧ K v G'
theorem HOp.nu {p : List Nat × St} {f : Value → Value} {ow : Value → List OwnV} (h : StpN B P ops p G f ow) (k : ∀ v, HOp B P ops (nxtO ops p (ow v) (.v (f v))) Q G) : HOp B P ops p Q G :=
  HOp.stp (Stp.mono h fun s ow' G' ⟨v, h1, h2, h3⟩ => by subst h1; subst h2; subst h3; exact k v)
theorem HOp.mf {p : List Nat × St} {C : Value → Prop} {f : Value → Value} {ow : Value → List OwnV} (h : StpM B P ops p G C f ow) (k : ∀ v, C v → HOp B P ops (nxtO ops p (ow v) (.v (f v))) Q G) : HOp B P ops p Q G :=
  HOp.stp (Stp.mono h fun s ow' G' ⟨v, h0, h1, h2, h3⟩ => by subst h1; subst h2; subst h3; exact k v h0)
theorem HOp.un {p : List Nat × St} {r : Value} {ow : List OwnV} (h : StpU B P ops p G r ow) (k : HOp B P ops (nxtO ops p ow (.v r)) Q G) : HOp B P ops p Q G :=
  HOp.stp (Stp.mono h fun s ow' G' ⟨h1, h2, h3⟩ => by subst h1; subst h2; subst h3; exact k)
theorem HOp.ex {p : List Nat × St} {K : Value → GH → Prop} (h : StpE B P ops p G K) (k : ∀ v G', GExt G G' → K v G' → HOp B P ops (nxtO ops p p.2.ow (.v v)) Q G') : HOp B P ops p Q G :=
  HOp.stp (Stp.mono h fun s ow' G' ⟨v, h1, h2, h3, h4⟩ => by subst h1; subst h2; exact k v G' h3 h4)

theorem size_ok {n b : Nat} (h : n * (b + 1) ≤ 140737488355328) : n ≤ maxLen ∧ n * b ≤ 140737488355328 := by
  rw [Nat.mul_succ] at h
  have : maxLen = 9223372036854775807 := rfl
  constructor <;> omega
def apT (P : Program) (t e w bytes : Nat) : Bool := (match P.underlying t with | some (.slice e') => Nat.beq e' e | _ => false) && elemB P e w bytes && Nat.blt 0 w
theorem apT_spec {t e w bytes : Nat} (h : apT P t e w bytes = true) : P.underlying t = some (.slice e) ∧ elemB P e w bytes = true ∧ 0 < w := by
  unfold apT at h
  simp only [Bool.and_eq_true] at h
  obtain ⟨⟨h1, h2⟩, h3⟩ := h
  split at h1
  · rename_i e' hu
    have := Nat.eq_of_beq_eq_true h1; subst this
    exact ⟨hu, h2, blt_iff.1 h3⟩
  · cases h1
def nwT (P : Program) (t e w bytes : Nat) (x : Value) : Bool := (match P.underlying t with | some (.slice e') => Nat.beq e' e | _ => false) && zeroB P e w bytes x && Nat.blt 0 w
theorem nwT_spec {t e w bytes : Nat} {x : Value} (h : nwT P t e w bytes x = true) : P.underlying t = some (.slice e) ∧ zeroB P e w bytes x = true ∧ 0 < w := by
  unfold nwT at h
  simp only [Bool.and_eq_true] at h
  obtain ⟨⟨h1, h2⟩, h3⟩ := h
  split at h1
  · rename_i e' hu
    have := Nat.eq_of_beq_eq_true h1; subst this
    exact ⟨hu, h2, blt_iff.1 h3⟩
  · cases h1
def ceT (P : Program) (t e w : Nat) : Bool := (match P.underlying t with | some (.slice e') => Nat.beq e' e | _ => false) && cellsW P e w
theorem ceT_spec {t e w : Nat} (h : ceT P t e w = true) : P.underlying t = some (.slice e) ∧ cellsW P e w = true := by
  unfold ceT at h
  simp only [Bool.and_eq_true] at h
  obtain ⟨h1, h2⟩ := h
  split at h1
  · rename_i e' hu
    have := Nat.eq_of_beq_eq_true h1; subst this
    exact ⟨hu, h2⟩
  · cases h1
/-! ### A slice that is full: what is appended to it lies anew -/
/-- As long as it may be. -/
def Full (v : Value) : Prop := ∃ oa n, v = .slice oa n n
theorem append_full {W : World} {G1 G2 : GH} {t ty e : TypeId} {w bytes n m : Nat} {v x : Value} {l lx : List Value} (hu : P.underlying t = some (.slice e)) (he : ElemT P e w bytes)
    (hv : Row G1 v w n l) (hf : Full v) (hx : Row G2 x w m lx) (hs1 : ∀ k o, G1 k = some o → W.heap[k]? = some o) (hs2 : ∀ k o, G2 k = some o → W.heap[k]? = some o) (hm : 0 < m) (h63 : n + m ≤ maxLen) (hby : (n + m) * bytes ≤ 140737488355328)
    (hs : Sees B G W) (hsz : B.n0 ≤ W.heap.size) :
    ∃ v' W' G', (Builtin.append_ #[t, t] ty #[v, x]).run P W = .ok v' W' ∧ Grew B G G' W W' ∧ Made B G G' (.slice none 0 0) v' e w (n + m) (l ++ lx) := by
  obtain ⟨i, z, hi, hz, hiw, hib, hzw⟩ := he.info
  subst hiw; subst hib
  have hlen : (l ++ lx).length = (n + m) * i.size := by rw [List.length_append, hv.len, hx.len, Nat.add_mul]
  obtain ⟨xa, xc, rfl, hxc, hxat⟩ : ∃ a c, x = .slice (some a) m c ∧ m ≤ c ∧ At G2 a lx := by
    rcases hx.at_ with ⟨_, _, h0⟩ | h
    · exact absurd h0.2 (by omega)
    · exact h
  have hnews : ∀ j u, lx[j]? = some u → W.cell? (xa.add j) = some u := fun j u hj => hxat.cell hs2 hj
  have grown : ∀ old, old < n + m → ∃ v' W' G', (∀ o, o = W.drew.alloc (.cells (l.toArray ++ lx.toArray ++ Builtin.zeroCells z.cells (grownCap W (n + m) old e - (n + m))) e) → W' = o) ∧ v' = .slice (some ⟨W.heap.size, 0, none⟩) (n + m) (grownCap W (n + m) old e) ∧ Grew B G G' W W' ∧ Made B G G' (.slice none 0 0) v' e i.size (n + m) (l ++ lx) := by
    intro old ho
    have hge := grownCap_ge W (n + m) old e
    have hcm : grownCap W (n + m) old e ≤ maxLen := grownCap_le_maxLen W (n + m) old e h63
    refine ⟨_, W.drew.alloc (.cells (l.toArray ++ lx.toArray ++ Builtin.zeroCells z.cells (grownCap W (n + m) old e - (n + m))) e), _, fun o h => h.symm, rfl, Grew.new hs hsz _ rfl rfl rfl rfl, ⟨⟨hlen, .inr ⟨W.heap.size, _, l ++ lx ++ (Builtin.zeroCells z.cells (grownCap W (n + m) old e - (n + m))).toList, rfl, by omega, hsz, ?_, hge, hcm, ?_, ?_⟩⟩, fun k o hk _ => ?_, .inr fun b hb => ?_⟩⟩
    · simp only [if_true, Option.some.injEq]; congr 1; apply Array.ext'; simp
    · rw [List.length_append, hlen, Array.length_toList, size_zeroCells, hzw, ← Nat.add_mul]; congr 1; omega
    · rw [← hlen, List.take_left]
    · have : k ≠ W.heap.size := fun e => by subst e; rw [hs.fresh] at hk; cases hk
      rw [if_neg this]; exact hk
    · rw [blk_of hb]; exact hs.fresh
  have h63' : n + m ≤ 9223372036854775807 := by simp only [maxLen] at h63; omega
  obtain ⟨oa, n', rfl⟩ := hf
  rcases hv.at_ with ⟨oa', c, he, rfl⟩ | ⟨a, c, he, hnc, hat⟩
  · cases he
    have hl0 : l = [] := List.eq_nil_of_length_eq_zero (by simpa using hv.len)
    subst hl0
    cases oa with
    | some oa =>
      have hr := run_append_grow (P := P) W t ty e i z hu hi hz oa 0 0 [] (by simp) (fun j v h => by simp at h) xa m xc lx hx.len hnews (by omega) (by omega) (growslice_fits (by omega) hby)
      obtain ⟨v', W', G', hW, hv', g1, g2⟩ := grown 0 (by omega)
      refine ⟨v', W', G', ?_, g1, g2⟩
      rw [hr, hv', hW _ rfl]
    | none =>
    have hr := run_append_nil (P := P) W t ty e i z hu hi hz xa m xc lx hx.len hnews (by omega) (by omega) (by have hb := hby; simp only [Nat.zero_add] at hb; omega)
    obtain ⟨v', W', G', hW, hv', g1, g2⟩ := grown 0 (by omega)
    refine ⟨v', W', G', ?_, g1, g2⟩
    rw [hr, hv', hW _ rfl]; simp
  · cases he
    have hr := run_append_grow (P := P) W t ty e i z hu hi hz a n n l hv.len (fun j u hj => hat.cell hs1 hj) xa m xc lx hx.len hnews (by omega) (by omega) (growslice_fits (by omega) hby)
    obtain ⟨v', W', G', hW, hv', g1, g2⟩ := grown n (by omega)
    refine ⟨v', W', G', ?_, g1, g2⟩
    rw [hr, hv', hW _ rfl]
theorem ef_appendF {G1 : GH} {t e : TypeId} {w bytes n m : Nat} {v x : Value} {l lx : List Value} (hv : Row G1 v w n l) (hf : Full v) (hx : Row G1 x w m lx) (hs1 : Sb B G G1) (hm : 0 < m) (h63 : n + m ≤ maxLen) (hby : (n + m) * bytes ≤ 140737488355328)
    (hu : P.underlying t = some (.slice e)) (he : elemB P e w bytes = true) : Ef P B G (.append t v x) fun v' G' => Made B G G' (.slice none 0 0) v' e w (n + m) (l ++ lx) :=
  ⟨fun W hs hsz => append_full (ty := 0) hu (elem_of he) hv hf hx (hs.of hs1) (hs.of hs1) hm h63 hby hs hsz⟩
theorem ef_makeF {t e : TypeId} {w bytes : Nat} {k k' : IntKind} {n : Int} {x : Value} (h0 : 0 ≤ n) (h1 : bytes * n ≤ 281474976710656) (h2 : n.toNat ≤ maxLen) (hu : P.underlying t = some (.slice e)) (hz : zeroB P e w bytes x = true) (hw : 0 < w) :
    Ef P B G (.make t (.int k n) (.int k' n)) fun v' G' => Full v' ∧ Made B G G' (.slice none 0 0) v' e w n.toNat (List.replicate (n.toNat * w) x) := by
  refine ⟨fun W hs hsz => ?_⟩
  obtain ⟨i, z, hi, hzz, hiw, hib, hzw, hall⟩ := zero_spec hz
  subst hiw; subst hib
  have h63 : n ≤ 9223372036854775807 := by have : maxLen = 9223372036854775807 := rfl; omega
  have hr := run_make (P := P) W t e i z hu hi hzz k k' n n h0 (Int.le_refl _) h1 h63
  rw [made_list (by omega) hall] at hr
  obtain ⟨g, m⟩ := own_new (e := e) (w := i.size) (L := List.replicate (n.toNat * i.size) x) hs hsz (Nat.le_refl n.toNat) h2 (by simp)
  rw [List.take_of_length_le (by simp)] at m
  exact ⟨_, _, _, hr, g, ⟨_, _, rfl⟩, m⟩
theorem fill_any {w : Nat} {A0 : Array Value} {L : List Value} (hL : L.length = w) (hA : A0.size = w) : Instr.fill (fun i => some (i * w, w)) A0 [(0, .agg ⟨L⟩)] = some ⟨L⟩ := by
  subst hL
  have key : ∀ (M : List Value) (k : Nat) (A : Array Value), k + M.length = A.size → (M.toArray.zipIdx k).foldl (fun cs (c, j) => cs.setIfInBounds (0 + j) c) A = ⟨A.toList.take k ++ M⟩ := by
    intro M
    induction M with
    | nil => intro k A h; simp only [List.length_nil, Nat.add_zero] at h; rw [← Array.foldl_toList]; apply Array.ext'; simp [h, List.take_of_length_le]
    | cons y r ih =>
      intro k A h
      simp only [List.length_cons] at h
      have := ih (k + 1) (A.setIfInBounds (0 + k) y) (by simp; omega)
      rw [← Array.foldl_toList] at this ⊢
      simp only [Array.toList_zipIdx, List.zipIdx_cons, List.foldl_cons] at this ⊢
      rw [this]
      apply Array.ext'
      simp only [Array.toList_setIfInBounds, Nat.zero_add]
      rw [List.take_set, List.take_add_one]
      have hk : k < A.toList.length := by simp; omega
      rw [List.set_append_right _ _ (by simp; omega)]
      have hk2 : k < A.size := by omega
      simp [hk2, Nat.min_eq_left (Nat.le_of_lt hk2)]
  simp only [Instr.fill]
  have h1 : (Value.agg ⟨L⟩).cells.size = L.length := rfl
  rw [if_neg (by simp [h1]; omega)]
  have := key L 0 A0 (by omega)
  simp only [Nat.zero_mul]
  show some _ = _
  simpa [Value.cells] using this

theorem ef_build0 {t e : TypeId} {w bytes : Nat} (hu : P.underlying t = some (.slice e)) (he : elemB P e w bytes = true) :
    Ef P B G (.buildS t 0 []) fun v' G' => Made B G G' (.slice none 0 0) v' e w 0 [] := by
  refine ⟨fun W hs hsz => ?_⟩
  obtain ⟨i, z, hi, hz, hiw, hib, hzw⟩ := (elem_of he).info
  subst hiw; subst hib
  obtain ⟨g, m⟩ := own_new (e := e) (w := i.size) (n := 0) (c := 0) (L := []) hs hsz (Nat.le_refl 0) (Nat.zero_le _) (by simp)
  rw [List.take_of_length_le (by simp)] at m
  refine ⟨_, _, _, ?_, g, m⟩
  show (Instr.buildSlice t 0 ⟨[]⟩).run P W = _
  have e0 : (Array.map (fun _ => (default : Value)) (Array.range 0)) = (⟨[]⟩ : Array Value) := by apply Array.ext'; simp
  simp [Instr.buildSlice, run_underlying hu, sizeOf, typeInfo, hi, newRow, Instr.fill]
  rw [e0]
theorem ef_build1 {t e : TypeId} {w bytes : Nat} {L : List Value} (hL : L.length = w) (hw : 0 < w) (hw2 : w ≤ 16777216) (hu : P.underlying t = some (.slice e)) (he : elemB P e w bytes = true) :
    Ef P B G (.buildS t 1 [(0, .agg ⟨L⟩)]) fun v' G' => Made B G G' (.slice none 0 0) v' e w 1 L := by
  refine ⟨fun W hs hsz => ?_⟩
  obtain ⟨i, z, hi, hzz, hiw, hib, hzw⟩ := (elem_of he).info
  subst hiw; subst hib
  obtain ⟨g, m⟩ := own_new (e := e) (w := i.size) (n := 1) (c := 1) (L := L) hs hsz (Nat.le_refl 1) (by simp [maxLen]) (by omega)
  rw [List.take_of_length_le (by omega)] at m
  refine ⟨_, _, _, ?_, g, m⟩
  have h0 : ¬ i.size = 0 := by omega
  have hlim : ¬ (16777216 < i.size) := by omega
  show (Instr.buildSlice t 1 ⟨[(0, .agg ⟨L⟩)]⟩).run P W = _
  have hf := fill_any (A0 := (Array.range i.size).map (z.cells[· % z.cells.size]!)) hL (by simp)
  simp [Instr.buildSlice, run_underlying hu, sizeOf, typeInfo, zeroValue, hi, hzz, h0, hlim]
  rw [hf]
  simp [newRow]
section
variable {p : List Nat × St} {v x : Value} {e t w n m bytes : Nat} {l lx L : List Value}
/-- a literal that stays as it is -/
theorem Stp.buildF (t n : Nat) (ps : List (Nat × Value)) (x : Value) (e w bytes : Nat) (L : List Value) (h : eqAt ops p = some (.buildS t n ps)) (hf : Instr.fill (fun i => some (i * w, w)) ⟨List.replicate (n * w) x⟩ ps = some ⟨L⟩) (hL : L.length = n * w) (hn : n * w ≤ 16777216) (hT : nwT P t e w bytes x = true) :
    StpE B P ops p G fun v' G' => Row G' v' w n L := by
  obtain ⟨hu, he, hw⟩ := nwT_spec hT
  have hm : n ≤ maxLen := by
    have : n * 1 ≤ n * w := Nat.mul_le_mul_left _ hw
    simp only [maxLen]; omega
  exact Stp.mono (Stp.ef _ h (ef_buildS hn hm hf hL hu he hw)) fun s ow G' ⟨v, h1, h2, h3⟩ => ⟨v, h1, h2, h3.gext, h3.own.row⟩
/-- a variable that stays as it is -/
theorem Stp.boxF (t : Nat) (x : Value) (L : List Value) (h : eqAt ops p = some (.box t x)) (hx : x.cells = ⟨L⟩) : StpE B P ops p G fun v' G' => PAt G' v' L :=
  Stp.mono (Stp.ef _ h (ef_boxF hx)) fun s ow G' ⟨v, h1, h2, h3⟩ => ⟨v, h1, h2, h3.1, h3.2⟩
/-- elements copied into one's own -/
theorem Own.sub_all {N e w n : Nat} {v : Value} {l : List Value} (h : Own G N v e w n l) : subAt v w 0 n = v := by
  rw [subAt_eq]
  rcases h.at_ with ⟨oa, rfl, rfl⟩ | ⟨b, c, L, rfl, hc0, _⟩
  · cases oa <;> simp [subAtD]
  · simp only [subAtD, Nat.sub_zero, Nat.zero_mul, add_none, Nat.add_zero, ite_self]
end
theorem Stp.funN {p : List Nat × St} {g : Value → Value} {e : TypeId} {w n : Nat} {l : List Value} (f : Nat) (vs : List Value) (h : callV ops p = some (f, vs)) (hk : okCallee P f = true) (hF : ∀ Gx, GExt G Gx → FunO P f vs Gx g e w n l) :
    StpN B P ops p G g fun v => p.2.ow ++ [⟨v, e, w, n, l⟩] := Stp.funO f vs h hk fun Gx gx _ => hF Gx gx
theorem Stp.funX {p : List Nat × St} {g : Value → Value} {e : TypeId} {w n : Nat} {l : List Value} (f : Nat) (vs : List Value) (ow : List OwnV) (h : callV ops p = some (f, vs)) (hk : okCallee P f = true) (ho : p.2.ow = ow) (hF : ∀ Gx, GExt G Gx → Owned Gx B.n0 ow → FunO P f vs Gx g e w n l) :
    StpN B P ops p G g fun v => p.2.ow ++ [⟨v, e, w, n, l⟩] := Stp.funO f vs h hk (by rw [ho]; exact hF)
theorem Stp.pureY {p : List Nat × St} {r : Value} (f : Nat) (vs : List Value) (ow : List OwnV) (h : callV ops p = some (f, vs)) (hk : okCallee P f = true) (ho : p.2.ow = ow) (hF : ∀ Gx, GExt G Gx → Owned Gx B.n0 ow → PureG P f vs Gx r) :
    StpU B P ops p G r p.2.ow := Stp.pureX f vs h hk (by rw [ho]; exact hF)
theorem HOp.fr {p : List Nat × St} {K : GH → Value → Prop} (h : Stp B P ops p G fun s ow G2 => ∃ v G', s = .v v ∧ ow = p.2.ow ∧ GExt G G2 ∧ GExt G' G2 ∧ K G' v) (k : ∀ v G' G2, GExt G G2 → GExt G' G2 → K G' v → HOp B P ops (nxtO ops p p.2.ow (.v v)) Q G2) : HOp B P ops p Q G :=
  HOp.stp (Stp.mono h fun s ow' G2 ⟨v, G', h1, h2, h3, h4, h5⟩ => by subst h1; subst h2; exact k v G' G2 h3 h4 h5)
/-! elements of one's own -/
theorem wrAt_bts {xs : List Int} {k : Nat} {z : Int} (hk : k < xs.length) : wrAt (bts xs) k [.int .u8 z] = bts (xs.set k z) := by
  rw [List.set_eq_take_append_cons_drop, if_pos hk]
  simp [wrAt, bts, List.map_take, List.map_drop]
section
variable {p : List Nat × St} {T : Type} {c : T → List Value} {xs ys : List T} {y : T}
theorem RowC.lit {v : Value} {w : Nat} (h : Row G v w 1 (c y)) : RowC G v w c [y] := ⟨by simpa using h, fun x hx => by rw [List.mem_singleton.1 hx, h.len]; omega⟩
end
section
variable {p : List Nat × St} {xs ys : List Int} {z : Int} {m : Nat}
end
theorem Le.trans {S1 S2 S3 : St} (h : Le S1 S2) (k : Le S2 S3) : Le S1 S3 := by
  obtain ⟨r, hr⟩ := h.lo
  obtain ⟨r', hr'⟩ := k.lo
  exact ⟨h.n.trans k.n, fun j s hj => k.tm j s (h.tm j s hj), ⟨r ++ r', by rw [hr', hr, List.append_assoc]⟩, h.ow.trans k.ow⟩
/-- The state at a round's end, written out. -/
theorem ex_st {X : Type} {S : X → St} {C : X → Prop} {s : St} (s2 : St) (h : (s2.n, want s2.tm, s2.lo, s2.ow) = (s.n, look s s2.tm, s.lo.take s2.lo.length, s.ow.take s2.ow.length)) (k : ∃ x, Le (S x) s2 ∧ C x) : ∃ x, Le (S x) s ∧ C x :=
  let ⟨x, h1, h2⟩ := k; ⟨x, h1.trans (le_of h), h2⟩
theorem ex_le {X : Type} {S : X → St} {C : X → Prop} {s : St} (x : X) (h : ((S x).n, want (S x).tm, (S x).lo) = (s.n, look s (S x).tm, s.lo.take (S x).lo.length)) (ho : (S x).ow = s.ow) (hc : C x) : ∃ x, Le (S x) s ∧ C x :=
  ⟨x, le_sub h (by rw [ho]; exact List.Sublist.refl _), hc⟩
theorem H.lek {c : Code} (S : St) (hm : B.m0 ≤ S.lo.length) (hl : Le S st) (h : H B P c Q S G) : H B P c Q st G :=
  ⟨fun E a W R => h.run E a W (R.le hl hm)⟩
/-- A slice that is nil is one's own. -/
theorem Rel.own0 (R : Rel B E st G a W) (e w : Nat) (he : e < objMark) : Rel B E { st with ow := st.ow ++ [⟨.slice none 0 0, e, w, 0, []⟩] } G a W := by
  have key : ∀ o ∈ st.ow ++ [(⟨.slice none 0 0, e, w, 0, []⟩ : OwnV)], o ∈ st.ow ∨ o = ⟨.slice none 0 0, e, w, 0, []⟩ := fun o ho => by
    rcases List.mem_append.1 ho with h | h
    · exact .inl h
    · exact .inr (by simpa using h)
  refine { R with ows := ⟨fun o ho => ?_, fun o ho b hb => ?_, fun o ho b hb => ?_, List.pairwise_append.2 ⟨R.ows.apart, by simp, fun o ho o' ho' b hb hb' => ?_⟩⟩ }
  · rcases key o ho with h | rfl
    · exact R.ows.at_ o h
    · exact ⟨by simp, .inl ⟨he, .inl ⟨none, rfl, rfl⟩⟩⟩
  · rcases key o ho with h | rfl
    · exact R.ows.hid o h b hb
    · cases hb
  · rcases key o ho with h | rfl
    · exact R.ows.loc o h b hb
    · cases hb
  · have : o' = ⟨.slice none 0 0, e, w, 0, []⟩ := by simpa using ho'
    subst this; cases hb'
/-- What is a slice of so many elements, whatever they are. -/
def Hd (v : Value) (n : Nat) : Prop := (∃ oa c, v = .slice oa 0 c ∧ n = 0) ∨ ∃ a c, v = .slice (some a) n c ∧ n ≤ c
theorem OwnW.hd {N : Nat} {o : OwnV} (h : OwnW W N o) (he : o.e < objMark) : Hd o.v o.n := h.2.elim (fun h => h.2.imp (fun ⟨oa, h1, h2⟩ => ⟨oa, 0, h1, h2⟩) fun ⟨b, c, L, h1, _, _, _, h2, _⟩ => ⟨_, c, h1, h2⟩) fun h => absurd h.1 (Nat.not_le.2 he)
/-- A guard that is not known, in a region without order: both ways. -/
theorem Rel.same {d : Nat} {b : Bool} {a : Act} (R : Rel B E st G a W) (hg : st.get d = some (.v (.bool b))) : Rel B E (st.put (some d) (.v (.bool b))) G a W := by
  have ha : a.put (some d) (.bool b) = a := by
    have := R.tm d _ hg
    cases a with
    | mk tm df =>
      simp only [Act.put, Act.mk.injEq, and_true]
      apply Array.ext_getElem?; intro i
      rw [Array.getElem?_setIfInBounds]
      by_cases e : d = i
      · subst e
        simp only [SV.den] at this
        have hlt : d < tm.size := by
          rcases Nat.lt_or_ge d tm.size with h | h
          · exact h
          · rw [Array.getElem?_eq_none h] at this; cases this
        rw [this]; simp [hlt]
      · simp [e]
  have := R.put (some d) (s := .v (.bool b)) (x := .bool b) rfl
  rwa [ha] at this
theorem VirP.guard {p : List Nat × St} (d : Nat) (b : Bool) (h : p.2.get d = some (.v (.bool b)))
    (ht : b = true → VirP B P ops Q qs (p.1, p.2.put (some d) (.v (.bool true))) G) (hf : b = false → VirP B P ops Q qs (p.1, p.2.put (some d) (.v (.bool false))) G) : VirP B P ops Q qs p G := by
  refine ⟨⟨fun fuel listed a ap E W hf' C => ?_⟩⟩
  cases hb : b with
  | true => exact (ht hb).run.run fuel listed a ap E W hf' { C with rel := by have := C.rel.same h; rwa [hb] at this }
  | false => exact (hf hb).run.run fuel listed a ap E W hf' { C with rel := by have := C.rel.same h; rwa [hb] at this }
theorem VirP.ifd {p : List Nat × St} (d : Nat) (c : Prop) [Decidable c] (h : p.2.get d = some (.v (.bool (decide c))))
    (ht : c → VirP B P ops Q qs (p.1, p.2.put (some d) (.v (.bool true))) G) (hf : ¬c → VirP B P ops Q qs (p.1, p.2.put (some d) (.v (.bool false))) G) : VirP B P ops Q qs p G :=
  VirP.guard d _ h (fun h => ht (of_decide_eq_true h)) (fun h => hf (of_decide_eq_false h))
theorem VirP.ife {p : List Nat × St} (d : Nat) (u v : Int) (h : p.2.get d = some (.v (.bool (u == v))))
    (ht : u = v → VirP B P ops Q qs (p.1, p.2.put (some d) (.v (.bool true))) G) (hf : u ≠ v → VirP B P ops Q qs (p.1, p.2.put (some d) (.v (.bool false))) G) : VirP B P ops Q qs p G :=
  VirP.guard d _ h (fun h => ht (beq_iff_eq.1 h)) (fun h => hf (beq_eq_false_iff_ne.1 h))
theorem VirP.ifn {p : List Nat × St} (d : Nat) (u v : Int) (h : p.2.get d = some (.v (.bool (u != v))))
    (ht : u ≠ v → VirP B P ops Q qs (p.1, p.2.put (some d) (.v (.bool true))) G) (hf : u = v → VirP B P ops Q qs (p.1, p.2.put (some d) (.v (.bool false))) G) : VirP B P ops Q qs p G :=
  VirP.guard d _ h (fun h => ht (bne_iff_ne.1 h)) (fun h => hf (by simpa using h))
theorem hlen {v : Value} {n t : Nat} (w : Nat) (h : Hd v n) (hu : slT P t w = true := by kernel_rfl) : Rd P B G (.len t v) (.int .i64 n) := by
  obtain ⟨e, hu, _⟩ := slT_spec hu
  refine ⟨fun W hW => ?_⟩
  rcases h with ⟨oa, c, rfl, rfl⟩ | ⟨a, c, rfl, _⟩ <;> simp [MQ.sem, Builtin.len_, run_underlying hu, goInt]
theorem hidx {v : Value} {n t : Nat} {k : IntKind} {i : Int} (w : Nat) (h : Hd v n) (h0 : 0 ≤ i) (h1 : i < n) (hu : slT P t w = true := by kernel_rfl) : Rd P B G (.idx t v (.int k i)) (ptrAt v w i) := by
  obtain ⟨e, hu, hw⟩ := slT_spec hu
  refine ⟨fun W hW => ?_⟩
  rcases h with ⟨_, _, _, rfl⟩ | ⟨a, c, rfl, _⟩
  · omega
  · simp [MQ.sem, Instr.indexAt, asIntOf, run_underlying hu, size_run hw, h0, h1, ptrAt_eq, ptrAtD]

/-! ### Results in variables of one's own -/
def Res1 (P : Program) (B : Base) (st : St) (G : GH) (r : ResultVar) (v : Value) : Prop := ∀ E a W, Rel B E st G a W → (resF a.tmps r).run P W = .ok v W
def ResL (P : Program) (B : Base) (st : St) (G : GH) (l : List ResultVar) (vs : List Value) : Prop := ∀ E a W, Rel B E st G a W → (l.mapM (resF a.tmps)).run P W = .ok vs W
theorem ResL.nil : ResL P B st G [] [] := fun _ _ _ _ => rfl
theorem ResL.cons {r : ResultVar} {v : Value} {l : List ResultVar} {vs : List Value} (h : Res1 P B st G r v) (k : ResL P B st G l vs) : ResL P B st G (r :: l) (v :: vs) := fun E a W R => mapM_cons_run (h E a W R) (k E a W R)
theorem Res1.kern {r : ResultVar} {v : Value} (s : SV) (h : resS P st [r] = some [s]) (hp : s.pl = some v) : Res1 P B st G r v := fun E a W R => by
  have := resS_run R h
  rw [List.mapM_cons] at this
  have h2 : (Sem.bind (resF a.tmps r) fun y => (Sem.bind ([].mapM (resF a.tmps)) fun q => pure (y :: q))).run P W = .ok (SV.dens E [s]) W := this
  rw [Sem.run_bind'] at h2
  cases hq : (resF a.tmps r).run P W with
  | ok x W' =>
    rw [hq] at h2
    simp only [Result.andThen_ok] at h2
    have h3 : Result.ok (x :: []) W' = .ok (SV.dens E [s]) W := h2
    simp only [Result.ok.injEq, SV.dens, List.cons.injEq, and_true] at h3
    rw [h3.1, h3.2, SV.pl_den hp]
  | _ => rw [hq] at h2; simp [Result.andThen] at h2
def oneV : List Value → Value
  | [v] => v
  | l => .tuple ⟨l⟩
theorem resOk_L {fn : Func} {l : List ResultVar} {vs : List Value} (hl : fn.results.toList = l) (h : ResL P B st G l vs) : resOk P B fn st G (oneV vs) := fun E a W R => by
  have hm := h E a W R
  have e2 : fn.results.mapM (resF a.tmps) = List.toArray <$> fn.results.toList.mapM (resF a.tmps) := by
    conv => lhs; rw [show fn.results = fn.results.toList.toArray by simp]
    rw [List.mapM_toArray]
  have e3 : (fn.results.mapM (resF a.tmps)).run P W = .ok ⟨vs⟩ W := by
    rw [e2, hl]; simp only [Sem.run_map, hm, Result.andThen_ok]
  show (Sem.bind (fn.results.mapM (resF a.tmps)) _).run P W = _
  rw [run_bind e3]
  match vs with
  | [] => rfl
  | [x] => rfl
  | x :: y :: r => rfl

theorem hslice_run {t e : TypeId} {v : Value} {w n lo hi : Nat} {ol oh : Option Value} {W : World} (h : Hd v n) (hu : P.underlying t = some (.slice e)) (hw : cellsW P e w = true)
    (hb : ∀ c, n ≤ c → (Instr.sliceBounds true n c ol oh none).run P W = .ok (lo, hi, c) W) (h1 : lo ≤ hi) (h2 : hi ≤ n) :
    (Instr.sliceAt t v ol oh none).run P W = .ok (subAt v w lo hi) W := by
  rw [subAt_eq]
  unfold Instr.sliceAt
  show (Sem.bind (underlying t) _).run P W = _
  rw [run_bind (run_underlying hu W)]
  show (Instr.slice t v ol oh none).run P W = _
  unfold Instr.slice
  show (Sem.bind (underlying t) _).run P W = _
  rw [run_bind (run_underlying hu W)]
  rcases h with ⟨oa, c, rfl, rfl⟩ | ⟨a, c, rfl, hc⟩
  · show (Sem.bind (Instr.sliceBounds true 0 c ol oh none) _).run P W = _
    rw [run_bind (hb c (Nat.zero_le _))]
    show (Sem.bind (sizeOf e) _).run P W = _
    rw [run_bind (size_run hw W)]
    have e1 : hi = 0 := by omega
    have e2 : lo = 0 := by omega
    subst e1; subst e2
    show Result.ok _ W = _
    cases oa with
    | none => simp only [subAtD, Option.map_none, ite_self, Nat.sub_zero]
    | some a =>
      simp only [subAtD]
      congr 2
      split <;> rfl
  · show (Sem.bind (Instr.sliceBounds true n c ol oh none) _).run P W = _
    rw [run_bind (hb c hc)]
    show (Sem.bind (sizeOf e) _).run P W = _
    rw [run_bind (size_run hw W)]
    show Result.ok _ W = _
    simp only [subAtD]
    congr 2
    split <;> rfl
section
variable {t n : Nat} {v : Value} {k k' : IntKind} {i j : Int}
theorem hslice (w : Nat) (h : Hd v n) (hu : slT P t w = true := by kernel_rfl) : Rd P B G (.slice t v none none) (subAt v w 0 n) := let ⟨_, hu, hw⟩ := slT_spec hu; ⟨fun W _ => hslice_run h hu hw (fun c _ => bounds_none true n c W) (Nat.zero_le _) (Nat.le_refl _)⟩
theorem hsliceL (w : Nat) (h : Hd v n) (h0 : 0 ≤ i) (h1 : i ≤ n) (hu : slT P t w = true := by kernel_rfl) : Rd P B G (.slice t v (some (.int k i)) none) (subAt v w i.toNat n) := let ⟨_, hu, hw⟩ := slT_spec hu; ⟨fun W _ => hslice_run h hu hw (fun c _ => bounds_lo true h0 h1 W) (by omega) (Nat.le_refl _)⟩
theorem hsliceH (w : Nat) (h : Hd v n) (h0 : 0 ≤ i) (h1 : i ≤ n) (hu : slT P t w = true := by kernel_rfl) : Rd P B G (.slice t v none (some (.int k i))) (subAt v w 0 i.toNat) := let ⟨_, hu, hw⟩ := slT_spec hu; ⟨fun W _ => hslice_run h hu hw (fun c hc => bounds_hi true h0 (by omega) W) (Nat.zero_le _) (by omega)⟩
theorem hsliceLH (w : Nat) (h : Hd v n) (h0 : 0 ≤ i) (h1 : i ≤ j) (h2 : j ≤ n) (hu : slT P t w = true := by kernel_rfl) : Rd P B G (.slice t v (some (.int k i)) (some (.int k' j))) (subAt v w i.toNat j.toNat) := let ⟨_, hu, hw⟩ := slT_spec hu; ⟨fun W _ => hslice_run h hu hw (fun c hc => bounds_lohi true h0 h1 (by omega) W) (by omega) (by omega)⟩
end

/-! ### Regions of several orders -/
def stO (ops : Array Oper) (i : Nat) (p : List Nat × St) (ow : List OwnV) (s : SV) : St := ({ p.2 with ow := ow } : St).put (dstOf ops ([i], p.2)) s
theorem LStep.stp {i : Nat} {K : St → GH → Prop} (h : Stp B P ops ([i], st) G fun s ow G' => K (({ st with ow := ow } : St).put (dstOf ops ([i], st)) s) G') : LStep B P ops st G i K := by
  intro E a W R
  obtain ⟨o, ho, hu⟩ := h.run E a W R
  have hd : dstOf ops ([i], st) = o.dst := by unfold dstOf; rw [ho]
  have ho' : ops[i]? = some o ∧ wantS ops st o = some true := by
    unfold cur at ho
    dsimp only at ho
    split at ho
    · rename_i o' ho'
      split at ho
      · rename_i hw; simp only [Option.some.injEq] at ho; subst ho; exact ⟨ho', hw⟩
      · cases ho
    · cases ho
  refine ⟨o, ho'.1, .inl ⟨wantS_ok R ho'.2, ?_⟩⟩
  rw [hd] at hu
  unfold uponV at hu ⊢
  split at hu
  · obtain ⟨E', s, ow, G', h1, h2, R'⟩ := hu; exact ⟨E', _, G', h1, R'.put o.dst h2.symm⟩
  · obtain ⟨E', s, ow, G', h1, h2, R'⟩ := hu; exact ⟨E', _, G', h1, R'.put o.dst h2.symm⟩
  · exact Calls.mono hu fun e w'' ⟨v, he, E', s, ow, G', h1, h2, R'⟩ => ⟨v, he, E', _, G', h1, R'.put o.dst h2.symm⟩
  · exact hu.elim

/-- All of some quiet operations are as they were foreseen. -/
def AgAll (B : Base) (P : Program) (ops : Array Oper) (st : St) (G : GH) : List Nat → Prop
  | [] => True
  | k :: r => Again B P ops st G k ∧ AgAll B P ops st G r
theorem AgAll.mem : ∀ {l : List Nat}, AgAll B P ops st G l → ∀ k ∈ l, Again B P ops st G k
  | x :: r, h, k, hk => by
    rcases List.mem_cons.1 hk with rfl | hk
    · exact h.1
    · exact AgAll.mem h.2 k hk
def agQ (P : Program) (ops : Array Oper) (st : St) (k : Nat) : Option (MQ × SV) :=
  match ops[k]? with
  | some o => (match wantS ops st o, mqOf P st o, o.dst with
    | some true, some q, some d => bif allPlain st o.op.operands.toList then (match st.get d with | some s => some (q, s) | none => none) else none
    | _, _, _ => none)
  | none => none
theorem Again.rd {k : Nat} {x : Value} (q : MQ) (h : agQ P ops st k = some (q, .v x)) (hr : Rd P B G q x) : Again B P ops st G k := by
  unfold agQ at h
  cases ho : ops[k]? with
  | none => simp [ho] at h
  | some o =>
    simp only [ho] at h
    split at h
    · rename_i q' d hw hq hd
      cases hp : allPlain st o.op.operands.toList with
      | false => simp [hp] at h
      | true =>
        simp only [hp, cond_true] at h
        split at h
        · rename_i s hs
          simp only [Option.some.injEq, Prod.mk.injEq] at h
          obtain ⟨rfl, rfl⟩ := h
          refine ⟨o, ho, .inr ⟨hw, .v x, fun d' hd' => ?_, .inr ⟨x, rfl, hp, fun W hs' => mq_run hq (hr.run W hs')⟩⟩⟩
          rw [hd] at hd'; simp only [Option.some.injEq] at hd'; subst hd'; exact hs
        · cases h
    · cases h
/-- Some that the kernel evaluates, the others by what memory tells. -/
theorem ag_all {l : List Nat} (l1 l2 : List Nat) (hl : (subB l (l1 ++ l2) && agB P ops st l1) = true) (h1 : l1.map (agE P ops st) = l1.map (agS P ops st)) (h2 : AgAll B P ops st G l2) : ∀ k ∈ l, Again B P ops st G k := by
  intro k hk
  simp only [Bool.and_eq_true] at hl
  rcases List.mem_append.1 (subB_iff.1 hl.1 k hk) with h | h
  · exact ag_of hl.2 h1 k h
  · exact h2.mem k h

/-- Whatever stands next, of those that aren't quiet. -/
def LAll (B : Base) (P : Program) (ops : Array Oper) (Q : Post) (qs : List Nat) (p : List Nat × St) (G : GH) : List Nat → Prop
  | [] => True
  | i :: r => LStep B P ops p.2 G i (fun st' G' => (∀ k ∈ agL ops qs p.1 i, Again B P ops st' G' k) ∧ VirP B P ops Q qs (i :: p.1, st') G') ∧ LAll B P ops Q qs p G r
theorem LAll.mem {p : List Nat × St} : ∀ {l : List Nat}, LAll B P ops Q qs p G l → ∀ i ∈ l, LStep B P ops p.2 G i (fun st' G' => (∀ k ∈ agL ops qs p.1 i, Again B P ops st' G' k) ∧ VirP B P ops Q qs (i :: p.1, st') G')
  | x :: r, h, k, hk => by
    rcases List.mem_cons.1 hk with rfl | hk
    · exact h.1
    · exact LAll.mem h.2 k hk
theorem Vir.loud (hq : okQ ops qs = true) {p : List Nat × St} (l : List Nat) (hr : (readyL ops p.1, l.isEmpty) = (l, false)) (h : LAll B P ops Q qs p G l) : VirP B P ops Q qs p G := by
  simp only [Prod.mk.injEq] at hr
  obtain ⟨hr, hne⟩ := hr
  refine ⟨Vir.stop hq (fun hall => ?_) fun j hj hjV hjp => ?_⟩
  · cases l with
    | nil => simp at hne
    | cons i r =>
      have : i ∈ readyL ops p.1 := by rw [hr]; simp
      obtain ⟨h1, h2⟩ := List.mem_filter.1 this
      simp only [Bool.and_eq_true, Bool.not_eq_true'] at h2
      rw [memB_iff.2 (hall i (List.mem_range.1 h1))] at h2; cases h2.1
  · have hm := readyL_mem hj hjV hjp
    rw [hr] at hm
    have h := LAll.mem h j hm
    intro E a W R
    obtain ⟨o, ho, hs⟩ := h E a W R
    have conv : ∀ st' G', ((∀ k ∈ agL ops qs p.1 j, Again B P ops st' G' k) ∧ VirP B P ops Q qs (j :: p.1, st') G') → ((∀ k ∈ p.1, k ∈ qs → k ∉ preds ops j → Again B P ops st' G' k) ∧ Vir B P ops Q qs (j :: p.1) st' G') := fun st' G' ⟨h1, h2⟩ =>
      ⟨fun k hk hkq hkp => h1 k (List.mem_filter.2 ⟨hk, by
        simp only [Bool.and_eq_true, Bool.not_eq_true']
        exact ⟨memB_iff.2 hkq, by cases h : memB k (preds ops j) with | false => rfl | true => exact absurd (memB_iff.1 h) hkp⟩⟩), h2.run⟩
    refine ⟨o, ho, ?_⟩
    rcases hs with ⟨hw, hu⟩ | ⟨hw, st', hK, R'⟩
    · refine .inl ⟨hw, ?_⟩
      unfold uponV at hu ⊢
      split at hu
      · obtain ⟨E', st', G', hK, R'⟩ := hu; exact ⟨E', st', G', conv _ _ hK, R'⟩
      · obtain ⟨E', st', G', hK, R'⟩ := hu; exact ⟨E', st', G', conv _ _ hK, R'⟩
      · exact Calls.mono hu fun e w'' ⟨v, he, E', st', G', hK, R'⟩ => ⟨v, he, E', st', G', conv _ _ hK, R'⟩
      · exact hu.elim
    · exact .inr ⟨hw, st', conv _ _ hK, R'⟩

def stS (ops : Array Oper) (i : Nat) (st : St) (ow : List OwnV) (s : SV) : St := ({ st with ow := ow } : St).put (dstOf ops ([i], st)) s
section
variable {i : Nat} {K : St → GH → Prop}
theorem LStep.nu {f : Value → Value} {ow : Value → List OwnV} (h : StpN B P ops ([i], st) G f ow) (k : ∀ v, K (stS ops i st (ow v) (.v (f v))) G) : LStep B P ops st G i K :=
  LStep.stp (Stp.mono h fun s ow' G' ⟨v, h1, h2, h3⟩ => by subst h1; subst h2; subst h3; exact k v)
theorem LStep.mf {C : Value → Prop} {f : Value → Value} {ow : Value → List OwnV} (h : StpM B P ops ([i], st) G C f ow) (k : ∀ v, C v → K (stS ops i st (ow v) (.v (f v))) G) : LStep B P ops st G i K :=
  LStep.stp (Stp.mono h fun s ow' G' ⟨v, h0, h1, h2, h3⟩ => by subst h1; subst h2; subst h3; exact k v h0)
theorem LStep.un {r : Value} {ow : List OwnV} (h : StpU B P ops ([i], st) G r ow) (k : K (stS ops i st ow (.v r)) G) : LStep B P ops st G i K :=
  LStep.stp (Stp.mono h fun s ow' G' ⟨h1, h2, h3⟩ => by subst h1; subst h2; subst h3; exact k)
theorem LStep.ex {K0 : Value → GH → Prop} (h : StpE B P ops ([i], st) G K0) (k : ∀ v G', GExt G G' → K0 v G' → K (stS ops i st st.ow (.v v)) G') : LStep B P ops st G i K :=
  LStep.stp (Stp.mono h fun s ow' G' ⟨v, h1, h2, h3, h4⟩ => by subst h1; subst h2; exact k v G' h3 h4)
theorem LStep.fr {K0 : GH → Value → Prop} (h : Stp B P ops ([i], st) G fun s ow G2 => ∃ v G', s = .v v ∧ ow = st.ow ∧ GExt G G2 ∧ GExt G' G2 ∧ K0 G' v) (k : ∀ v G' G2, GExt G G2 → GExt G' G2 → K0 G' v → K (stS ops i st st.ow (.v v)) G2) : LStep B P ops st G i K :=
  LStep.stp (Stp.mono h fun s ow' G2 ⟨v, G', h1, h2, h3, h4, h5⟩ => by subst h1; subst h2; exact k v G' G2 h3 h4 h5)
def levS (P : Program) (ops : Array Oper) (i : Nat) (st : St) : St := match stepS P ops i st with | some st' => st' | none => st
theorem LStep.lev (h : ((stepS P ops i st).isSome && (ops[i]?).isSome) = true) (k : K (levS P ops i st) G) : LStep B P ops st G i K := by
  simp only [Bool.and_eq_true] at h
  obtain ⟨st', hs⟩ := Option.isSome_iff_exists.1 h.1
  have e : levS P ops i st = st' := by unfold levS; rw [hs]
  rw [e] at k
  exact LStep.ev hs h.2 k
end

/-! ### The answers about elements -/
section
variable {T : Type} {c : T → List Value} {w : Nat} {xs : List T} {t f : Nat} {v x : Value} {k k' : IntKind} {i j : Int}
theorem clen (h : RowC G1 v w c xs) (hu : slT P t w = true := by kernel_rfl) : Rd P B G (.len t v) (.int .i64 xs.length) := qlen h.row hu
theorem cidx (h : RowC G1 v w c xs) (h0 : 0 ≤ i) (h1 : i < xs.length) (hu : slT P t w = true := by kernel_rfl) : Rd P B G (.idx t v (.int k i)) (ptrAt v w i) := qidx h.row h0 h1 hu
theorem cslice (h : RowC G1 v w c xs) (hu : slT P t w = true := by kernel_rfl) : Rd P B G (.slice t v none none) (subAt v w 0 xs.length) := qslice h.row hu
theorem csliceL (h : RowC G1 v w c xs) (h0 : 0 ≤ i) (h1 : i ≤ xs.length) (hu : slT P t w = true := by kernel_rfl) : Rd P B G (.slice t v (some (.int k i)) none) (subAt v w i.toNat xs.length) := qsliceL h.row h0 h1 hu
theorem csliceH (h : RowC G1 v w c xs) (h0 : 0 ≤ i) (h1 : i ≤ xs.length) (hu : slT P t w = true := by kernel_rfl) : Rd P B G (.slice t v none (some (.int k i))) (subAt v w 0 i.toNat) := qsliceH h.row h0 h1 hu
theorem csliceLH (h : RowC G1 v w c xs) (h0 : 0 ≤ i) (h1 : i ≤ j) (h2 : j ≤ xs.length) (hu : slT P t w = true := by kernel_rfl) : Rd P B G (.slice t v (some (.int k i)) (some (.int k' j))) (subAt v w i.toNat j.toNat) := qsliceLH h.row h0 h1 h2 hu
theorem cnil (h : RowC G1 v w c xs) (hu : slT P t w = true := by kernel_rfl) : Rd P B G (.bin .eql t v (.slice none 0 0)) (.bool (nilS v)) := qnil h.row hu
/-- An element that is many cells, or one. -/
theorem RowC.loadA {y : T} (h : RowC G v w c xs) (h0 : 0 ≤ i) (hx : xs[i.toNat]? = some y) (ha : aggT P t = some true := by kernel_rfl) (hw : cellsW P t w = true := by kernel_rfl) : Rd P B G (.load t (ptrAt v w i)) (.agg ⟨c y⟩) :=
  rd_loadA (h.ptr h0 hx) (.inl rfl) (h.wd y (List.mem_of_getElem? hx)) ha hw
theorem RowC.load1 {y : T} (h : RowC G v w c xs) (h0 : 0 ≤ i) (hx : xs[i.toNat]? = some y) (hc : (c y)[0]? = some x) (ha : aggT P t = some false := by kernel_rfl) : Rd P B G (.load t (ptrAt v w i)) x :=
  rd_load1 (h.ptr h0 hx) (.inl rfl) hc ha
theorem Row.load8 {n : Nat} {ns : List Int} {z : Int} (h : Row G v 1 n (bts ns)) (h0 : 0 ≤ i) (hx : ns[i.toNat]? = some z) (ha : aggT P t = some false := by kernel_rfl) : Rd P B G (.load t (ptrAt v 1 i)) (.int .u8 z) :=
  h.rowB.load1 h0 hx rfl ha
theorem PAt.load8 {ns : List Int} {z : Int} {p : Value} (h : PAt G p (bts ns)) (h0 : 0 ≤ i) (hx : ns[i.toNat]? = some z) (ha : aggT P t = some false := by kernel_rfl) : Rd P B G (.load t (ptrOff p 1 i)) (.int .u8 z) := by
  have hlt : i.toNat < ns.length := (List.getElem?_eq_some_iff.1 hx).1
  refine rd_load1 (h.off 1 i) (.inl rfl) ?_ ha
  rw [List.getElem?_take, if_pos (by omega), List.getElem?_drop, bts_get, Nat.mul_one, Nat.add_zero, hx]; rfl
theorem cloadP {l : List Value} (w : Nat) (h : PAt G v l) (hl : l.length = w) (ha : aggT P t = some true := by kernel_rfl) (hw : cellsW P t w = true := by kernel_rfl) : Rd P B G (.load t v) (.agg ⟨l⟩) := rd_loadA h (.inl rfl) hl ha hw
/-- A variable of one's own, whole. -/
theorem Own.loadW {N e : Nat} {l : List Value} (h : Own G N v e w 1 l) (ha : aggT P t = some true := by kernel_rfl) (hw : cellsW P t w = true := by kernel_rfl) : Rd P B G (.load t (ptrAt v w 0)) (.agg ⟨l⟩) :=
  rd_loadA h.pat (.inl rfl) (by have := h.len; omega) ha hw
/-- An array or a struct, from where it lies. -/
theorem cloadA {l r : List Value} (w : Nat) (h : PAt G v l) (hr : l.take w = r) (hw' : r.length = w) (ha : aggT P t = some true := by kernel_rfl) (hw : cellsW P t w = true := by kernel_rfl) : Rd P B G (.load t v) (.agg ⟨r⟩) :=
  rd_loadA (hr ▸ h.pre w) (.inl rfl) hw' ha hw
theorem cload {l : List Value} (h : PAt G v l) (hx : l[0]? = some x) (ha : aggT P t = some false := by kernel_rfl) : Rd P B G (.load t v) x := rd_load1 h (.inl rfl) hx ha
theorem cfaddr {l : List Value} (off w : Nat) (b : Bool) (h : PAt G1 v l) (hu : fieldAt? P t f = some (off, w + 1, b) := by kernel_rfl) : Rd P B G (.faddr t v f) (pAdd v off) := rd_faddr h hu
theorem cstr {n s d : Nat} {ns : List Int} (h : Row G v 1 n (bts ns)) (hu : stT P s d = true := by kernel_rfl) : Rd P B G (.conv s d v) (.string (strOf ns)) := qstr h (.inl rfl) hu
theorem crem {t : Nat} {k : IntKind} {x y : Int} (hy : y ≠ 0) : Rd P B G (.bin .rem t (.int k x) (.int k y)) (.int k (x.tmod y)) := by
  refine ⟨fun W _ => ?_⟩
  show (Go.binOp .rem t (.int k x) (.int k y)).run P W = _
  simp [Go.binOp, Op.intDiv, hy]
theorem cquo {t : Nat} {k : IntKind} {x y : Int} (hy : y ≠ 0) : Rd P B G (.bin .quo t (.int k x) (.int k y)) (.int k (k.wrap (x.tdiv y))) := by
  refine ⟨fun W _ => ?_⟩
  show (Go.binOp .quo t (.int k x) (.int k y)).run P W = _
  simp [Go.binOp, Op.intDiv, hy]
theorem cnilck {l : List Value} (h : PAt G1 v l) : Rd P B G (.nilck v) v := rd_nilck h
theorem cfieldA {l r : List Value} (off w : Nat) (hr : (l.drop off).take w = r) (hu : fieldAt? P t f = some (off, w, true) := by kernel_rfl) : Rd P B G (.field t (.agg ⟨l⟩) f) (.agg ⟨r⟩) := rd_fieldA hu hr
theorem cfield1 {l : List Value} (off w : Nat) (hr : l[off]? = some x) (hu : fieldAt? P t f = some (off, w, false) := by kernel_rfl) : Rd P B G (.field t (.agg ⟨l⟩) f) x := rd_field1 hu hr
end

end
end Go.Proofs.Ytoiacgfhjikddaa.Vc
