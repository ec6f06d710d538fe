/- The interpreter is right, first part: what abstract values stand for. -/
import Derived.Test.YtoiacgfhjikddaaWC
set_option linter.unusedSimpArgs false
set_option linter.unusedVariables false
namespace Go.Proofs.Ytoiacgfhjikddaa.W
open Go.RowKit Vc

def SLv {α : Type} (G : GH) (R : α → List Value → Prop) (w : Nat) (l : List α) (v : Value) : Prop :=
  ∃ L, Row G v w l.length L ∧ ∀ i (h : i < l.length), R l[i] ((L.drop (i * w)).take w)
/-- The cells of a value of a kind. -/
def VC (Gb G : GH) : (k : K) → El k → List Value → Prop
  | .b, x, vs => vs = [.bool x]
  | .i k, x, vs => vs = [.int k x]
  | .s, x, vs => vs = [.string x]
  | .a8 n, l, vs => l.length = n ∧ vs = bts l
  | .sl k, l, vs => ∃ v, vs = [v] ∧ SLv G (VC Gb G k) (wd k) l v
  | .sb k, l, vs => ∃ v, vs = [v] ∧ SLv Gb (VC Gb Gb k) (wd k) l v
  | .sn _ k, l, vs => ∃ v, vs = [v] ∧ SLv G (VC Gb G k) (wd k) l v
  | .u, _, vs => vs = []
  | .p x y, z, vs => ∃ us ws, vs = us ++ ws ∧ VC Gb G x z.1 us ∧ VC Gb G y z.2 ws

structure Cx where
  E : Env
  N : Nat
  M : Nat
  hd : Nat → Value
  ln : Nat → Nat
  wo : Nat → Nat
  Gb : GH
  G : GH
def Cx.g (C : Cx) (q : Nat) : GH := match q with | 0 => C.Gb | _ => C.G
def isBy : AV → Bool
  | .by_ _ _ => true
  | _ => false
mutual
def Rep (C : Cx) : AV → Value → Prop
  | .v x, v => v = x
  | .by_ _ _, _ => False
  | .sl q k l, v => SLv (C.g q) (VC C.Gb (C.g q) k) (wd k) l v ∧ (q = 2 → Full v)
  | .fp q k x off, v => ∃ vs, VC C.Gb (C.g q) k x vs ∧ PAt (C.g q) v (vs.drop off)
  | .lp i off, v => i < C.N ∧ v = .pointer (some ⟨C.E.id i, (C.E.pre i).length + off, none⟩)
  | .lb i off _ j, v => i < C.N ∧ 0 ≤ j ∧ v = .pointer (some ⟨C.E.id i, (C.E.pre i).length + (off + j.toNat), none⟩)
  | .ls i off n, v => i < C.N ∧ v = .slice (some ⟨C.E.id i, (C.E.pre i).length + off, none⟩) n n
  | .ov m, v => m < C.M ∧ v = C.hd m
  | .os m w lo hi, v => m < C.M ∧ lo ≤ hi ∧ hi ≤ C.ln m ∧ w = C.wo m ∧ v = subAt (C.hd m) w lo hi
  | .op m w j off, v => m < C.M ∧ w = C.wo m ∧ InOwn (C.hd m) v (j * w + off)
  | .fn f c, v => ∃ vs, v = .func (.func f) #[] ⟨vs⟩ ∧ RepL C c vs
  | .ag c, v => ∃ vs, v = .agg ⟨vs⟩ ∧ RepC C c vs
  | .tup c, v => ∃ vs, v = .tuple ⟨vs⟩ ∧ RepL C c vs
  | .bad, _ => True
def RepL (C : Cx) : List AV → List Value → Prop
  | [], vs => vs = []
  | a :: r, vs => ∃ v us, vs = v :: us ∧ Rep C a v ∧ RepL C r us
def RepC (C : Cx) : List AV → List Value → Prop
  | [], vs => vs = []
  | a :: r, vs => match a with
    | .by_ n l => ∃ us, l.length = n ∧ vs = bts l ++ us ∧ RepC C r us
    | a => ∃ v us, vs = v :: us ∧ oneC v = true ∧ Rep C a v ∧ RepC C r us
end
theorem RepC.cons {C : Cx} {a : AV} {r : List AV} {vs : List Value} (h : isBy a = false) : RepC C (a :: r) vs ↔ ∃ v us, vs = v :: us ∧ oneC v = true ∧ Rep C a v ∧ RepC C r us := by
  cases a <;> first | (simp [isBy] at h; done) | simp [RepC]
theorem RepC.by_ {C : Cx} {n : Nat} {l : List Int} {r : List AV} {vs : List Value} : RepC C (.by_ n l :: r) vs ↔ ∃ us, l.length = n ∧ vs = bts l ++ us ∧ RepC C r us := by simp [RepC]
theorem isBy_of {a : AV} (h : isBy a = true) : ∃ n l, a = .by_ n l := by cases a <;> simp [isBy] at h; exact ⟨_, _, rfl⟩

section
variable {Gb G G' : GH} {C C' : Cx}

theorem SLv.mono {α : Type} {R R' : α → List Value → Prop} {w : Nat} {l : List α} {v : Value} (h : SLv G R w l v) (g : GExt G G') (hr : ∀ x vs, R x vs → R' x vs) : SLv G' R' w l v := by
  obtain ⟨L, h1, h2⟩ := h
  exact ⟨L, h1.mono g, fun i hi => hr _ _ (h2 i hi)⟩
theorem VC.mono2 : ∀ {k : K} {Gb Gb' G G' : GH} {x : El k} {vs : List Value} (_ : GExt Gb Gb') (_ : GExt G G'), VC Gb G k x vs → VC Gb' G' k x vs := by
  intro k
  induction k with
  | b => intro Gb Gb' G G' x vs gb g h; exact h
  | i k => intro Gb Gb' G G' x vs gb g h; exact h
  | s => intro Gb Gb' G G' x vs gb g h; exact h
  | a8 n => intro Gb Gb' G G' x vs gb g h; exact h
  | sl k ih => rintro Gb Gb' G G' x vs gb g ⟨v, rfl, h⟩; exact ⟨v, rfl, h.mono g fun _ _ h => ih gb g h⟩
  | sb k ih => rintro Gb Gb' G G' x vs gb g ⟨v, rfl, h⟩; exact ⟨v, rfl, h.mono gb fun _ _ h => ih gb gb h⟩
  | sn e k ih => rintro Gb Gb' G G' x vs gb g ⟨v, rfl, h⟩; exact ⟨v, rfl, h.mono g fun _ _ h => ih gb g h⟩
  | u => intro Gb Gb' G G' x vs gb g h; exact h
  | p x y ih1 ih2 => rintro Gb Gb' G G' z vs gb g ⟨us, ws, rfl, h1, h2⟩; exact ⟨us, ws, rfl, ih1 gb g h1, ih2 gb g h2⟩
theorem VC.mono (g : GExt G G') {k : K} {x : El k} {vs : List Value} (h : VC Gb G k x vs) : VC Gb G' k x vs := VC.mono2 (GExt.refl _) g h
theorem VC.len : ∀ {k : K} {x : El k} {vs : List Value}, VC Gb G k x vs → vs.length = wd k := by
  intro k
  induction k with
  | b => intro x vs h; rw [show vs = _ from h]; rfl
  | i k => intro x vs h; rw [show vs = _ from h]; rfl
  | s => intro x vs h; rw [show vs = _ from h]; rfl
  | a8 n => rintro x vs ⟨h1, rfl⟩; rw [bts_length]; exact h1
  | sl k ih => rintro x vs ⟨v, rfl, h⟩; rfl
  | sb k ih => rintro x vs ⟨v, rfl, h⟩; rfl
  | sn e k ih => rintro x vs ⟨v, rfl, h⟩; rfl
  | u => intro x vs h; rw [show vs = _ from h]; rfl
  | p x y ih1 ih2 => rintro z vs ⟨us, ws, rfl, h1, h2⟩; rw [List.length_append, ih1 h1, ih2 h2]; rfl

/-- More is known. -/
structure CLe (C C' : Cx) : Prop where
  N : C.N ≤ C'.N
  M : C.M ≤ C'.M
  id : ∀ i, i < C.N → C'.E.id i = C.E.id i ∧ C'.E.pre i = C.E.pre i
  ow : ∀ m, m < C.M → C'.hd m = C.hd m ∧ C'.ln m = C.ln m ∧ C'.wo m = C.wo m
  Gb : GExt C.Gb C'.Gb
  G : GExt C.G C'.G
theorem CLe.refl (C : Cx) : CLe C C := ⟨Nat.le_refl _, Nat.le_refl _, fun _ _ => ⟨rfl, rfl⟩, fun _ _ => ⟨rfl, rfl, rfl⟩, GExt.refl _, GExt.refl _⟩
theorem CLe.g (h : CLe C C') (q : Nat) : GExt (C.g q) (C'.g q) := by
  cases q with
  | zero => exact h.Gb
  | succ q => exact h.G
theorem CLe.vc (h : CLe C C') (q : Nat) {k : K} {x : El k} {vs : List Value} (hv : VC C.Gb (C.g q) k x vs) : VC C'.Gb (C'.g q) k x vs := by
  exact hv.mono2 h.Gb (h.g q)
mutual
theorem Rep.mono (h : CLe C C') : ∀ {a : AV} {v : Value}, Rep C a v → Rep C' a v
  | .v x, v, hr => by simpa [Rep] using hr
  | .by_ _ _, v, hr => by simp [Rep] at hr
  | .sl q k l, v, hr => by
    simp only [Rep] at hr ⊢
    exact ⟨hr.1.mono (h.g q) fun _ _ hv => h.vc q hv, hr.2⟩
  | .fp q k x off, v, hr => by
    simp only [Rep] at hr ⊢
    obtain ⟨vs, h1, h2⟩ := hr
    exact ⟨vs, h.vc q h1, h2.mono (h.g q)⟩
  | .lp i off, v, hr => by
    simp only [Rep] at hr ⊢
    rw [(h.id i hr.1).1, (h.id i hr.1).2]; exact ⟨Nat.lt_of_lt_of_le hr.1 h.N, hr.2⟩
  | .lb i off n j, v, hr => by
    simp only [Rep] at hr ⊢
    rw [(h.id i hr.1).1, (h.id i hr.1).2]; exact ⟨Nat.lt_of_lt_of_le hr.1 h.N, hr.2⟩
  | .ls i off n, v, hr => by
    simp only [Rep] at hr ⊢
    rw [(h.id i hr.1).1, (h.id i hr.1).2]; exact ⟨Nat.lt_of_lt_of_le hr.1 h.N, hr.2⟩
  | .ov m, v, hr => by
    simp only [Rep] at hr ⊢
    have := h.ow m hr.1
    rw [this.1]; exact ⟨Nat.lt_of_lt_of_le hr.1 h.M, hr.2⟩
  | .os m w lo hi, v, hr => by
    simp only [Rep] at hr ⊢
    have := h.ow m hr.1
    rw [this.1, this.2.1, this.2.2]; exact ⟨Nat.lt_of_lt_of_le hr.1 h.M, hr.2⟩
  | .op m w j off, v, hr => by
    simp only [Rep] at hr ⊢
    have := h.ow m hr.1
    rw [this.1, this.2.2]; exact ⟨Nat.lt_of_lt_of_le hr.1 h.M, hr.2⟩
  | .fn f c, v, hr => by
    simp only [Rep] at hr ⊢
    obtain ⟨vs, h1, h2⟩ := hr
    exact ⟨vs, h1, RepL.mono h h2⟩
  | .ag c, v, hr => by
    simp only [Rep] at hr ⊢
    obtain ⟨vs, h1, h2⟩ := hr
    exact ⟨vs, h1, RepC.mono h h2⟩
  | .tup c, v, hr => by
    simp only [Rep] at hr ⊢
    obtain ⟨vs, h1, h2⟩ := hr
    exact ⟨vs, h1, RepL.mono h h2⟩
  | .bad, v, hr => by simp [Rep]
theorem RepL.mono (h : CLe C C') : ∀ {l : List AV} {vs : List Value}, RepL C l vs → RepL C' l vs
  | [], vs, hr => by simpa [RepL] using hr
  | a :: r, vs, hr => by
    simp only [RepL] at hr ⊢
    obtain ⟨v, us, h1, h2, h3⟩ := hr
    exact ⟨v, us, h1, Rep.mono h h2, RepL.mono h h3⟩
theorem RepC.mono (h : CLe C C') : ∀ {l : List AV} {vs : List Value}, RepC C l vs → RepC C' l vs
  | [], vs, hr => by simpa [RepC] using hr
  | a :: r, vs, hr => by
    cases ha : isBy a with
    | true =>
      obtain ⟨n, l, rfl⟩ := isBy_of ha
      rw [RepC.by_] at hr ⊢
      obtain ⟨us, h1, h2, h3⟩ := hr
      exact ⟨us, h1, h2, RepC.mono h h3⟩
    | false =>
      rw [RepC.cons ha] at hr ⊢
      obtain ⟨v, us, h1, h2, h3, h4⟩ := hr
      exact ⟨v, us, h1, h2, Rep.mono h h3, RepC.mono h h4⟩
end

/-! ### Cells -/
theorem cw_by {n : Nat} {l : List Int} : cw (.by_ n l) = n := rfl
theorem cw_one {a : AV} (h : isBy a = false) : cw a = 1 := by cases a <;> first | rfl | simp [isBy] at h
theorem RepC.head {a : AV} {r : List AV} {vs : List Value} (h : RepC C (a :: r) vs) : ∃ us ws, vs = us ++ ws ∧ us.length = cw a ∧ RepC C [a] us ∧ RepC C r ws := by
  cases ha : isBy a with
  | true =>
    obtain ⟨n, l, rfl⟩ := isBy_of ha
    rw [RepC.by_] at h
    obtain ⟨us, h1, h2, h3⟩ := h
    exact ⟨bts l, us, h2, by rw [bts_length, h1]; rfl, by rw [RepC.by_]; exact ⟨[], h1, by simp, by simp [RepC]⟩, h3⟩
  | false =>
    rw [RepC.cons ha] at h
    obtain ⟨v, us, h1, h2, h3, h4⟩ := h
    exact ⟨[v], us, h1, by rw [cw_one ha]; rfl, by rw [RepC.cons ha]; exact ⟨v, [], rfl, h2, h3, by simp [RepC]⟩, h4⟩
theorem RepC.join {l r : List AV} {us ws : List Value} (h1 : RepC C l us) (h2 : RepC C r ws) : RepC C (l ++ r) (us ++ ws) := by
  induction l generalizing us with
  | nil => simp only [RepC] at h1; subst h1; simpa using h2
  | cons a l ih =>
    cases ha : isBy a with
    | true =>
      obtain ⟨n, b, rfl⟩ := isBy_of ha
      rw [RepC.by_] at h1
      obtain ⟨u, e1, rfl, e3⟩ := h1
      rw [List.cons_append, RepC.by_]
      exact ⟨u ++ ws, e1, by simp, ih e3⟩
    | false =>
      rw [RepC.cons ha] at h1
      obtain ⟨v, u, rfl, e2, e3, e4⟩ := h1
      rw [List.cons_append, RepC.cons ha]
      exact ⟨v, u ++ ws, by simp, e2, e3, ih e4⟩
theorem RepC.len {l : List AV} : ∀ {vs : List Value}, RepC C l vs → vs.length = widths l := by
  induction l with
  | nil => intro vs h; simp only [RepC] at h; subst h; rfl
  | cons a r ih =>
    intro vs h
    obtain ⟨us, ws, rfl, h1, _, h2⟩ := h.head
    rw [List.length_append, h1, ih h2]; rfl
theorem RepC.one {l : List AV} : ∀ {vs : List Value}, RepC C l vs → ∀ u ∈ vs, oneC u = true := by
  induction l with
  | nil => intro vs h; simp only [RepC] at h; subst h; simp
  | cons a r ih =>
    intro vs h u hu
    cases ha : isBy a with
    | true =>
      obtain ⟨n, b, rfl⟩ := isBy_of ha
      rw [RepC.by_] at h
      obtain ⟨us, e1, rfl, e3⟩ := h
      rcases List.mem_append.1 hu with hu | hu
      · simp only [bts, List.mem_map] at hu; obtain ⟨n, _, rfl⟩ := hu; rfl
      · exact ih e3 u hu
    | false =>
      rw [RepC.cons ha] at h
      obtain ⟨v, us, rfl, e2, e3, e4⟩ := h
      rcases List.mem_cons.1 hu with rfl | hu
      · exact e2
      · exact ih e4 u hu
theorem skip_ok : ∀ {cs : List AV} {n : Nat} {r : List AV} {vs : List Value}, skip cs n = some r → RepC C cs vs → RepC C r (vs.drop n) ∧ n ≤ vs.length
  | cs, 0, r, vs, h, hr => by
    have : cs = r := by cases cs <;> simpa [skip] using h
    subst this; exact ⟨hr, Nat.zero_le _⟩
  | [], n + 1, r, vs, h, hr => by simp [skip] at h
  | a :: q, n + 1, r, vs, h, hr => by
    simp only [skip] at h
    cases hb : Nat.ble (cw a) (n + 1) with
    | false => simp [hb] at h
    | true =>
      simp only [hb, cond_true] at h
      have hb' : cw a ≤ n + 1 := Nat.le_of_ble_eq_true hb
      obtain ⟨us, ws, rfl, h1, _, h2⟩ := hr.head
      have := skip_ok h h2
      refine ⟨?_, by rw [List.length_append]; omega⟩
      rw [List.drop_append, List.drop_of_length_le (by omega), List.nil_append, h1]; exact this.1
theorem takeW_ok : ∀ {cs : List AV} {n : Nat} {r : List AV} {vs : List Value}, takeW cs n = some r → RepC C cs vs → RepC C r (vs.take n) ∧ n ≤ vs.length
  | cs, 0, r, vs, h, hr => by
    have : r = [] := by cases cs <;> simpa [takeW] using h.symm
    subst this; simp [RepC]
  | [], n + 1, r, vs, h, hr => by simp [takeW] at h
  | a :: q, n + 1, r, vs, h, hr => by
    simp only [takeW] at h
    cases hb : Nat.ble (cw a) (n + 1) with
    | false => simp [hb] at h
    | true =>
      simp only [hb, cond_true] at h
      have hb' : cw a ≤ n + 1 := Nat.le_of_ble_eq_true hb
      split at h
      · rename_i l hl
        simp only [Option.some.injEq] at h; subst h
        obtain ⟨us, ws, rfl, h1, h0, h2⟩ := hr.head
        have := takeW_ok hl h2
        refine ⟨?_, by rw [List.length_append]; omega⟩
        rw [List.take_append, List.take_of_length_le (by omega), h1]
        exact RepC.join h0 this.1
      · cases h
theorem seg_ok {cs : List AV} {off n : Nat} {r : List AV} {vs : List Value} (h : seg cs off n = some r) (hr : RepC C cs vs) : RepC C r ((vs.drop off).take n) ∧ off + n ≤ vs.length := by
  unfold seg at h
  split at h
  · rename_i l hl
    obtain ⟨h1, h2⟩ := skip_ok hl hr
    obtain ⟨h3, h4⟩ := takeW_ok h h1
    rw [List.length_drop] at h4
    exact ⟨h3, by omega⟩
  · cases h
theorem cell_ok : ∀ {cs : List AV} {j : Nat} {a : AV} {vs : List Value}, cell cs j = some a → RepC C cs vs → ∃ v, vs[j]? = some v ∧ Rep C a v ∧ oneC v = true
  | [], j, a, vs, h, hr => by simp [cell] at h
  | b :: r, j, a, vs, h, hr => by
    cases hb : isBy b with
    | true =>
      obtain ⟨n, l, rfl⟩ := isBy_of hb
      rw [RepC.by_] at hr
      obtain ⟨us, rfl, rfl, h3⟩ := hr
      simp only [cell] at h
      cases hlt : Nat.blt j l.length with
      | true =>
        simp only [hlt, cond_true, Option.some.injEq] at h; subst h
        have hj : j < l.length := blt_iff.1 hlt
        refine ⟨.int .u8 (l.getD j 0), ?_, by simp [Rep], rfl⟩
        rw [List.getElem?_append_left (by rw [bts_length]; exact hj), bts_get, List.getElem?_eq_getElem hj]
        simp [List.getD_eq_getElem?_getD, List.getElem?_eq_getElem hj]
      | false =>
        simp only [hlt, cond_false] at h
        have hj : ¬ j < l.length := fun e => by rw [blt_iff.2 e] at hlt; cases hlt
        obtain ⟨v, h1, h2, h4⟩ := cell_ok h h3
        refine ⟨v, ?_, h2, h4⟩
        rw [List.getElem?_append_right (by rw [bts_length]; omega), bts_length]; exact h1
    | false =>
      rw [RepC.cons hb] at hr
      obtain ⟨v, us, rfl, h2, h3, h4⟩ := hr
      cases j with
      | zero =>
        have : cell (b :: r) 0 = some b := by cases b <;> first | rfl | simp [isBy] at hb
        rw [this] at h; simp only [Option.some.injEq] at h; subst h
        exact ⟨v, rfl, h3, h2⟩
      | succ j =>
        have : cell (b :: r) (j + 1) = cell r j := by cases b <;> first | rfl | simp [isBy] at hb
        rw [this] at h
        obtain ⟨w, h5, h6, h7⟩ := cell_ok h h4
        exact ⟨w, by simpa using h5, h6, h7⟩
theorem setAll_all {α : Type} (xs : List α) : ∀ (l : List α), xs.length ≤ l.length → setAll l 0 xs = xs ++ l.drop xs.length := by
  have key : ∀ (xs l : List α) (k : Nat), k + xs.length ≤ l.length → setAll l k xs = l.take k ++ xs ++ l.drop (k + xs.length) := by
    intro xs
    induction xs with
    | nil => intro l k h; simp [setAll]
    | cons x r ih =>
      intro l k h
      simp only [List.length_cons] at h
      rw [setAll, ih _ _ (by simp; omega), List.take_set, List.take_add_one, List.drop_set, if_pos (by omega), List.getElem?_eq_getElem (by omega), List.set_append_right _ _ (by simp; omega)]
      simp [Nat.min_eq_left (show k ≤ l.length by omega), Nat.add_assoc, Nat.add_comm, Nat.add_left_comm]
  intro l h
  rw [key xs l 0 (by omega)]; simp
theorem wrW_ok : ∀ {cs : List AV} {off n : Nat} {xs r : List AV} {vs us : List Value}, wrW cs off xs n = some r → RepC C cs vs → RepC C xs us → us.length = n → RepC C r (setAll vs off us) ∧ off + n ≤ vs.length
  | cs, 0, n, xs, r, vs, us, h, hr, hx, hl => by
    have h : (match skip cs n with | some r => some (xs ++ r) | none => none) = some r := by cases cs <;> (simp only [wrW] at h; exact h)
    split at h
    · rename_i q hq
      simp only [Option.some.injEq] at h; subst h
      obtain ⟨h1, h2⟩ := skip_ok hq hr
      rw [setAll_all us vs (by omega), hl]
      exact ⟨RepC.join hx h1, by omega⟩
    · cases h
  | [], o + 1, n, xs, r, vs, us, h, hr, hx, hl => by simp [wrW] at h
  | a :: q, o + 1, n, xs, r, vs, us, h, hr, hx, hl => by
    simp only [wrW] at h
    cases hb : Nat.ble (cw a) (o + 1) with
    | false => simp [hb] at h
    | true =>
      simp only [hb, cond_true] at h
      have hb' : cw a ≤ o + 1 := Nat.le_of_ble_eq_true hb
      split at h
      · rename_i l hl'
        simp only [Option.some.injEq] at h; subst h
        obtain ⟨ps, ws, rfl, h1, h0, h2⟩ := hr.head
        obtain ⟨h3, h4⟩ := wrW_ok hl' h2 hx hl
        have e : setAll (ps ++ ws) (o + 1) us = ps ++ setAll ws (o + 1 - cw a) us := by
          have := setAll_mid ps [] us ws (o + 1 - cw a) (by omega)
          simp only [List.append_nil] at this
          rw [← this]; congr 1; omega
        rw [e]
        exact ⟨RepC.join h0 h3, by rw [List.length_append]; omega⟩
      · cases h
theorem wrB_ok : ∀ {cs : List AV} {j : Nat} {z : Int} {r : List AV} {vs : List Value}, wrB cs j z = some r → RepC C cs vs → RepC C r (vs.set j (.int .u8 z)) ∧ j < vs.length
  | [], j, z, r, vs, h, hr => by simp [wrB] at h
  | b :: q, j, z, r, vs, h, hr => by
    cases hb : isBy b with
    | true =>
      obtain ⟨n, l, rfl⟩ := isBy_of hb
      rw [RepC.by_] at hr
      obtain ⟨us, rfl, rfl, h3⟩ := hr
      simp only [wrB] at h
      cases hlt : Nat.blt j l.length with
      | true =>
        simp only [hlt, cond_true, Option.some.injEq] at h; subst h
        have hj : j < l.length := blt_iff.1 hlt
        rw [RepC.by_, List.set_append_left _ _ (by rw [bts_length]; exact hj)]
        refine ⟨⟨us, by simp, ?_, h3⟩, by rw [List.length_append, bts_length]; omega⟩
        simp [bts, List.map_set]
      | false =>
        simp only [hlt, cond_false] at h
        have hj : ¬ j < l.length := fun e => by rw [blt_iff.2 e] at hlt; cases hlt
        split at h
        · rename_i q' hq
          simp only [Option.some.injEq] at h; subst h
          obtain ⟨h1, h2⟩ := wrB_ok hq h3
          rw [RepC.by_, List.set_append_right _ _ (by rw [bts_length]; omega), bts_length]
          exact ⟨⟨_, rfl, rfl, h1⟩, by rw [List.length_append, bts_length]; omega⟩
        · cases h
    | false =>
      rw [RepC.cons hb] at hr
      obtain ⟨v, us, rfl, h2, h3, h4⟩ := hr
      cases j with
      | zero =>
        have : wrB (b :: q) 0 z = none := by cases b <;> first | rfl | simp [isBy] at hb
        rw [this] at h; cases h
      | succ j =>
        have : wrB (b :: q) (j + 1) z = (match wrB q j z with | some p => some (b :: p) | none => none) := by cases b <;> first | rfl | simp [isBy] at hb
        rw [this] at h
        split at h
        · rename_i q' hq
          simp only [Option.some.injEq] at h; subst h
          obtain ⟨h5, h6⟩ := wrB_ok hq h4
          rw [RepC.cons hb]
          exact ⟨⟨v, _, rfl, h2, h3, h5⟩, by simp; omega⟩
        · cases h

theorem RepC.val {x : Value} (h : oneC x = true) : RepC C [.v x] [x] := by
  rw [RepC.cons rfl]; exact ⟨x, [], rfl, h, by simp [Rep], by simp [RepC]⟩
theorem SLv.one {α : Type} {R : α → List Value → Prop} {w : Nat} {l : List α} {v : Value} (h : SLv G R w l v) : oneC v = true := by
  obtain ⟨L, h1, _⟩ := h
  rcases h1.at_ with ⟨oa, c, rfl, _⟩ | ⟨a, c, rfl, _⟩ <;> rfl
theorem enc_ok : ∀ {k : K} {x : El k} {vs : List Value} {q : Nat}, q ≠ 0 → VC C.Gb C.G k x vs → RepC C (enc k x) vs := by
  intro k
  induction k with
  | b => intro x vs q hq h; rw [show vs = _ from h]; exact RepC.val rfl
  | i k => intro x vs q hq h; rw [show vs = _ from h]; exact RepC.val rfl
  | s => intro x vs q hq h; rw [show vs = _ from h]; exact RepC.val rfl
  | a8 n => rintro x vs q hq ⟨h1, rfl⟩; simp only [enc]; rw [RepC.by_]; exact ⟨[], h1, by simp, by simp [RepC]⟩
  | sl k ih =>
    rintro x vs q hq ⟨v, rfl, h⟩
    simp only [enc]
    rw [RepC.cons rfl]
    exact ⟨v, [], rfl, h.one, by simp only [Rep]; exact ⟨h, by simp⟩, by simp [RepC]⟩
  | sb k ih =>
    rintro x vs q hq ⟨v, rfl, h⟩
    simp only [enc]
    rw [RepC.cons rfl]
    exact ⟨v, [], rfl, h.one, by simp only [Rep]; exact ⟨h, by simp⟩, by simp [RepC]⟩
  | sn e k ih =>
    rintro x vs q hq ⟨v, rfl, h⟩
    simp only [enc]
    rw [RepC.cons rfl]
    exact ⟨v, [], rfl, h.one, by simp only [Rep]; exact ⟨h, by omega⟩, by simp [RepC]⟩
  | u => intro x vs q hq h; rw [show vs = _ from h]; simp [enc, RepC]
  | p x y ih1 ih2 => rintro z vs q hq ⟨us, ws, rfl, h1, h2⟩; exact RepC.join (ih1 hq h1) (ih2 hq h2)
theorem enc0_ok : ∀ {k : K} {x : El k} {vs : List Value}, VC C.Gb C.Gb k x vs → RepC C ((enc k x).map lend) vs := by
  intro k
  induction k with
  | b => intro x vs h; rw [show vs = _ from h]; exact RepC.val rfl
  | i k => intro x vs h; rw [show vs = _ from h]; exact RepC.val rfl
  | s => intro x vs h; rw [show vs = _ from h]; exact RepC.val rfl
  | a8 n => rintro x vs ⟨h1, rfl⟩; simp only [enc, List.map_cons, List.map_nil, lend]; rw [RepC.by_]; exact ⟨[], h1, by simp, by simp [RepC]⟩
  | sl k ih =>
    rintro x vs ⟨v, rfl, h⟩
    simp only [enc, List.map_cons, List.map_nil, lend]
    rw [RepC.cons rfl]
    exact ⟨v, [], rfl, h.one, by simp only [Rep]; exact ⟨h, by simp⟩, by simp [RepC]⟩
  | sb k ih =>
    rintro x vs ⟨v, rfl, h⟩
    simp only [enc, List.map_cons, List.map_nil, lend]
    rw [RepC.cons rfl]
    exact ⟨v, [], rfl, h.one, by simp only [Rep]; exact ⟨h, by simp⟩, by simp [RepC]⟩
  | sn e k ih =>
    rintro x vs ⟨v, rfl, h⟩
    simp only [enc, List.map_cons, List.map_nil, lend]
    rw [RepC.cons rfl]
    exact ⟨v, [], rfl, h.one, by simp only [Rep]; exact ⟨h, by simp⟩, by simp [RepC]⟩
  | u => intro x vs h; rw [show vs = _ from h]; simp [enc, RepC]
  | p x y ih1 ih2 => rintro z vs ⟨us, ws, rfl, h1, h2⟩; simp only [enc, List.map_append]; exact RepC.join (ih1 h1) (ih2 h2)
theorem encQ_ok {k : K} {x : El k} {vs : List Value} {q : Nat} (h : VC C.Gb (C.g q) k x vs) : RepC C (encQ q k x) vs := by
  unfold encQ
  cases q with
  | zero => exact enc0_ok h
  | succ q =>
    have : Nat.beq (q + 1) 0 = false := rfl
    rw [this]; exact enc_ok (q := 1) (by simp) h
end
end Go.Proofs.Ytoiacgfhjikddaa.W
