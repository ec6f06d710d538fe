/- The interpreter is right, second part: states, and what cells tell of kinds. -/
import Derived.Test.YtoiacgfhjikddaaWE
set_option linter.unusedSimpArgs false
set_option linter.unusedVariables false
namespace Go.Proofs.Ytoiacgfhjikddaa.W
open Go.RowKit Vc

def view (W : World) : GH := fun k => W.heap[k]?
theorem view_sub (W : World) : ∀ k o, view W k = some o → W.heap[k]? = some o := fun _ _ h => h
/-- In all worlds that hold what this one holds. -/
def Yd {α : Type} (P : Program) (W : World) (m : Sem α) (v : α) : Prop := ∀ W', GExt (view W) (view W') → m.run P W' = .ok v W'
theorem Yd.run {α : Type} {P : Program} {W : World} {m : Sem α} {v : α} (h : Yd P W m v) : m.run P W = .ok v W := h W (GExt.refl _)
theorem Yd.val {P : Program} {W : World} {m : Sem Value} {v : Value} (h : Yd P W m v) : Yd P W (m.bind fun y => .pure (Next.value y)) (.value v) := fun W' g => bind_val (h W' g)
theorem nilS_of {x : Value} (h : isNilS x = true) : x = .slice none 0 0 := by
  unfold isNilS at h; split at h
  · rfl
  · cases h
theorem isNilA_of {a : AV} (h : isNilA a = true) : a = .v (.slice none 0 0) := by
  cases a <;> simp [isNilA] at h
  rw [nilS_of h]

section
variable {Gb G G' : GH} {C C' : Cx} {B : Base} {E : Env} {s : AS} {a : Act} {W W' : World} {P : Program}

theorem SLv.nil {α : Type} {R : α → List Value → Prop} {w : Nat} : SLv G R w [] (.slice none 0 0) :=
  ⟨[], Row.nil G w, fun i h => by simp at h⟩
theorem so {α β : Type} {x x' : α} {y y' : β} (h : some (x, y) = some (x', y')) : x = x' ∧ y = y' := by injection h with h; injection h with h1 h2; exact ⟨h1, h2⟩
theorem castL_rfl {k : K} (l : List (El k)) : castL rfl l = l := rfl
theorem SLv.sub {α : Type} {R : α → List Value → Prop} {w : Nat} {l : List α} {v : Value} (h : SLv G R w l v) {lo hi : Nat} (h1 : lo ≤ hi) (h2 : hi ≤ l.length) : SLv G R w ((l.drop lo).take (hi - lo)) (subAt v w lo hi) := by
  obtain ⟨L, h3, h4⟩ := h
  have hlen : ((l.drop lo).take (hi - lo)).length = hi - lo := by rw [List.length_take, List.length_drop]; omega
  refine ⟨_, by rw [hlen]; exact h3.sub h1 h2, fun i hi' => ?_⟩
  rw [hlen] at hi'
  have := h4 (lo + i) (by omega)
  rw [List.getElem_take, List.getElem_drop]
  rw [List.drop_take, List.drop_drop, List.take_take, Nat.min_eq_left, ← Nat.add_mul]
  · exact this
  · rw [← Nat.sub_mul]
    exact Nat.le_mul_of_pos_left _ (by omega)

/-- What cells tell of a kind. -/
theorem dc_ok {ow : List OA} (hsb : ∀ m o, findO ow m = some o → SLv C.Gb (VC C.Gb C.Gb o.k) (wd o.k) o.l (C.hd m) ∧ C.ln m = o.l.length ∧ C.wo m = wd o.k) :
    ∀ {k : K} {cs r : List AV} {x : El k} {vs : List Value}, noSn k = true → (okK k = true ∨ GExt C.G C.Gb) → dc ow k cs = some (x, r) → RepC C cs vs → ∃ us ws, vs = us ++ ws ∧ VC C.Gb C.G k x us ∧ RepC C r ws := by
  intro k
  induction k with
  | b =>
    intro cs r x vs _ _ h hr
    replace h : dcB cs = some (x, r) := h
    unfold dcB at h
    split at h
    · obtain ⟨rfl, rfl⟩ := so h
      rw [RepC.cons rfl] at hr
      obtain ⟨v, us, rfl, _, h2, h3⟩ := hr
      simp only [Rep] at h2; subst h2
      exact ⟨[_], us, rfl, rfl, h3⟩
    · cases h
  | i k =>
    intro cs r x vs _ _ h hr
    replace h : dcI k cs = some (x, r) := h
    unfold dcI at h
    split at h
    · split at h
      · rename_i e; subst e
        obtain ⟨rfl, rfl⟩ := so h
        rw [RepC.cons rfl] at hr
        obtain ⟨v, us, rfl, _, h2, h3⟩ := hr
        simp only [Rep] at h2; subst h2
        exact ⟨[_], us, rfl, rfl, h3⟩
      · cases h
    · cases h
  | s =>
    intro cs r x vs _ _ h hr
    replace h : dcS cs = some (x, r) := h
    unfold dcS at h
    split at h
    · obtain ⟨rfl, rfl⟩ := so h
      rw [RepC.cons rfl] at hr
      obtain ⟨v, us, rfl, _, h2, h3⟩ := hr
      simp only [Rep] at h2; subst h2
      exact ⟨[_], us, rfl, rfl, h3⟩
    · cases h
  | a8 n =>
    intro cs r x vs _ _ h hr
    replace h : dcA n cs = some (x, r) := h
    cases cs with
    | nil => cases h
    | cons a r' =>
    cases a with
    | by_ n' l =>
      simp only [dcA] at h
      cases hb : Nat.beq n n' with
      | false => simp [hb] at h
      | true =>
        simp only [hb, cond_true] at h
        obtain ⟨rfl, rfl⟩ := so h
        have := Nat.eq_of_beq_eq_true hb; subst this
        rw [RepC.by_] at hr
        obtain ⟨us, h1, rfl, h3⟩ := hr
        exact ⟨bts l, us, rfl, ⟨h1, rfl⟩, h3⟩
    | _ => cases h
  | sl k ih =>
    intro cs r x vs _ _ h hr
    replace h : dcL k cs = some (x, r) := h
    cases cs with
    | nil => cases h
    | cons a r' =>
    cases a with
    | sl q k' l =>
      simp only [dcL] at h
      cases hq : Nat.blt 0 q with
      | false => simp [hq] at h
      | true =>
        simp only [hq, cond_true] at h
        split at h
        · rename_i e; subst e
          obtain ⟨rfl, rfl⟩ := so h
          rw [RepC.cons rfl] at hr
          obtain ⟨v, us, rfl, _, h2, h3⟩ := hr
          simp only [Rep] at h2
          obtain ⟨q', rfl⟩ : ∃ q', q = q' + 1 := ⟨q - 1, by have := blt_iff.1 hq; omega⟩
          exact ⟨[v], us, rfl, ⟨v, rfl, h2.1⟩, h3⟩
        · cases h
    | v y =>
      simp only [dcL, isNilA] at h
      cases hn : isNilS y with
      | false => simp [hn] at h
      | true =>
        simp only [hn, cond_true] at h
        obtain ⟨rfl, rfl⟩ := so h
        have := nilS_of hn; subst this
        rw [RepC.cons rfl] at hr
        obtain ⟨v, us, rfl, _, h2, h3⟩ := hr
        simp only [Rep] at h2; subst h2
        exact ⟨[_], us, rfl, ⟨_, rfl, SLv.nil⟩, h3⟩
    | _ => simp [dcL, isNilA] at h
  | sb k ih =>
    intro cs r x vs _ hg h hr
    have hgq : ∀ q, GExt (C.g q) C.Gb := fun q => by cases q with | zero => exact GExt.refl _ | succ q => exact hg.resolve_left (by simp [okK])
    replace h : dcQ ow k cs = some (x, r) := h
    cases cs with
    | nil => cases h
    | cons a r' =>
    cases a with
    | sl q k' l =>
      simp only [dcQ] at h
      split at h
      · rename_i e; subst e
        obtain ⟨rfl, rfl⟩ := so h
        rw [RepC.cons rfl] at hr
        obtain ⟨v, us, rfl, _, h2, h3⟩ := hr
        simp only [Rep] at h2
        exact ⟨[v], us, rfl, ⟨v, rfl, h2.1.mono (hgq q) fun _ _ h => h.mono2 (GExt.refl _) (hgq q)⟩, h3⟩
      · cases h
    | ov m =>
      simp only [dcQ] at h
      split at h
      · rename_i o ho
        split at h
        · rename_i e; subst e
          obtain ⟨rfl, rfl⟩ := so h
          rw [RepC.cons rfl] at hr
          obtain ⟨v, us, rfl, _, h2, h3⟩ := hr
          simp only [Rep] at h2
          obtain ⟨_, rfl⟩ := h2
          exact ⟨[_], us, rfl, ⟨_, rfl, (hsb m o ho).1⟩, h3⟩
        · cases h
      · cases h
    | os m w lo hi =>
      simp only [dcQ] at h
      split at h
      · rename_i o ho
        split at h
        · rename_i e; subst e
          obtain ⟨rfl, rfl⟩ := so h
          rw [RepC.cons rfl] at hr
          obtain ⟨v, us, rfl, _, h2, h3⟩ := hr
          simp only [Rep] at h2
          obtain ⟨_, h4, h5, rfl, rfl⟩ := h2
          obtain ⟨h6, h7, h8⟩ := hsb m o ho
          rw [h8]
          exact ⟨[_], us, rfl, ⟨_, rfl, h6.sub h4 (by omega)⟩, h3⟩
        · cases h
      · cases h
    | v y =>
      simp only [dcQ, isNilA] at h
      cases hn : isNilS y with
      | false => simp [hn] at h
      | true =>
        simp only [hn, cond_true] at h
        obtain ⟨rfl, rfl⟩ := so h
        have := nilS_of hn; subst this
        rw [RepC.cons rfl] at hr
        obtain ⟨v, us, rfl, _, h2, h3⟩ := hr
        simp only [Rep] at h2; subst h2
        exact ⟨[_], us, rfl, ⟨_, rfl, SLv.nil⟩, h3⟩
    | _ => simp [dcQ, isNilA] at h
  | sn e k ih => intro cs r x vs hn; simp [noSn] at hn
  | u =>
    intro cs r x vs _ _ h hr
    have h : some ((), cs) = some (x, r) := h
    simp only [Option.some.injEq, Prod.mk.injEq] at h; obtain ⟨_, rfl⟩ := h
    exact ⟨[], vs, rfl, rfl, hr⟩
  | p k1 k2 ih1 ih2 =>
    intro cs r x vs hn hg h hr
    simp only [noSn, Bool.and_eq_true] at hn
    simp only [okK, Bool.and_eq_true] at hg
    simp only [dc] at h
    split at h
    · rename_i a r1 h1
      split at h
      · rename_i b r2 h2
        simp only [Option.some.injEq, Prod.mk.injEq] at h; obtain ⟨rfl, rfl⟩ := h
        obtain ⟨us, ws, rfl, h3, h4⟩ := ih1 hn.1 (hg.imp (·.1) id) h1 hr
        obtain ⟨us2, ws2, rfl, h5, h6⟩ := ih2 hn.2 (hg.imp (·.2) id) h2 h4
        exact ⟨us ++ us2, ws2, by simp, ⟨us, us2, rfl, h3, h5⟩, h6⟩
      · cases h
    · cases h

/-! ### States -/
def bor (W : World) : GH := view W
def tmR (C : Cx) (tm : List (Nat × AV)) (t : Array Value) : Prop := ∀ k x, lookA tm k = some x → ∃ v, t[k]? = some v ∧ Rep C x v
def FrR (C : Cx) : List (Nat × List (Nat × AV)) → List Act → Prop
  | [], sus => sus = []
  | f :: r, sus => ∃ a q, sus = a :: q ∧ a.tmps.size = f.1 ∧ tmR C f.2 a.tmps ∧ FrR C r q
def LoR (C : Cx) : List LO → List Vc.Loc → Prop
  | [], L => L = []
  | l :: r, L => ∃ vs q, L = ⟨vs.map .v, l.e⟩ :: q ∧ RepC C l.cs vs ∧ LoR C r q
def PC (C : Cx) (k : K) (l : List (El k)) (L : List Value) : Prop := ∀ i (h : i < l.length), VC C.Gb C.G k l[i] ((L.drop (i * wd k)).take (wd k))
/-- What goes over a map tells whose map it is. -/
def ERel (C : Cx) (oe Oe : Nat) : Prop := (oe ≤ iterMark ∧ Oe = oe) ∨ (iterMark < oe ∧ oe - iterMark - 1 < C.M ∧ ∃ b, C.hd (oe - iterMark - 1) = .map (some b) ∧ Oe = iterMark + (b + 1))
theorem ERel.of {C : Cx} {e : Nat} (h : e ≤ iterMark) : ERel C e e := .inl ⟨h, rfl⟩
theorem ERel.ofS {C : Cx} {e : Nat} (h : e < objMark) : ERel C e e := .inl ⟨Nat.le_trans (Nat.le_of_lt h) (by decide), rfl⟩
theorem ERel.eq {C : Cx} {oe Oe : Nat} (h : ERel C oe Oe) (he : oe ≤ iterMark) : Oe = oe := by
  rcases h with ⟨_, h⟩ | ⟨h, _⟩
  · exact h
  · exact absurd he (Nat.not_le.2 h)
theorem ERel.eqS {C : Cx} {oe Oe : Nat} (h : ERel C oe Oe) (he : oe < objMark) : Oe = oe := h.eq (Nat.le_trans (Nat.le_of_lt he) (by decide))
structure OwR1 (C : Cx) (o : OA) (O : OwnV) : Prop where
  v : O.v = C.hd o.m
  e : ERel C o.e O.e
  w : O.w = wd o.k
  n : O.n = o.l.length
  ln : o.e < objMark → C.ln o.m = o.l.length
  wo : C.wo o.m = wd o.k
  m : o.m < C.M
  pc : PC C o.k o.l O.l
def OwR (C : Cx) : List OA → List OwnV → Prop
  | [], L => L = []
  | o :: r, L => ∃ O q, L = O :: q ∧ OwR1 C o O ∧ (∀ o' ∈ r, o'.m ≠ o.m) ∧ OwR C r q
/-- The own headers are slices. -/
def HdOk (C : Cx) : Prop := ∀ m, m < C.M → Vc.oneC (C.hd m) = true
structure RelA (B : Base) (C : Cx) (LO : List Vc.Loc) (OW : List OwnV) (s : AS) (a : Act) (sus : List Act) (W : World) : Prop where
  rel : Rel B C.E ⟨s.n, [], LO, OW⟩ C.G a W
  m0 : B.m0 = 0
  N : C.N = s.lo.length
  M : C.M = s.nx
  gb : C.Gb = bor B.W0
  hh : HdOk C
  tm : tmR C s.tm a.tmps
  fr : FrR C s.fr sus
  lo : LoR C s.lo LO
  ow : OwR C s.ow OW

theorem tmR.mono (h : CLe C C') {tm : List (Nat × AV)} {t : Array Value} (hr : tmR C tm t) : tmR C' tm t := fun k x hk => by
  obtain ⟨v, h1, h2⟩ := hr k x hk; exact ⟨v, h1, h2.mono h⟩
theorem FrR.mono (h : CLe C C') : ∀ {f : List (Nat × List (Nat × AV))} {sus : List Act}, FrR C f sus → FrR C' f sus
  | [], _, hr => hr
  | f :: r, sus, hr => by
    obtain ⟨a, q, h1, h2, h3, h4⟩ := hr
    exact ⟨a, q, h1, h2, h3.mono h, FrR.mono h h4⟩
theorem LoR.mono (h : CLe C C') : ∀ {l : List LO} {L : List Vc.Loc}, LoR C l L → LoR C' l L
  | [], _, hr => hr
  | l :: r, L, hr => by
    obtain ⟨vs, q, h1, h2, h3⟩ := hr
    exact ⟨vs, q, h1, h2.mono h, LoR.mono h h3⟩
theorem PC.mono (h : CLe C C') {k : K} {l : List (El k)} {L : List Value} (hr : PC C k l L) : PC C' k l L := fun i hi => (hr i hi).mono2 h.Gb h.G
theorem ERel.mono (h : CLe C C') {oe Oe : Nat} (hr : ERel C oe Oe) : ERel C' oe Oe := hr.imp id fun ⟨h1, h2, b, h3, h4⟩ => ⟨h1, Nat.lt_of_lt_of_le h2 h.M, b, by rw [(h.ow _ h2).1]; exact h3, h4⟩
theorem OwR1.mono (h : CLe C C') {o : OA} {O : OwnV} (hr : OwR1 C o O) : OwR1 C' o O := by
  have := h.ow o.m hr.m
  exact ⟨by rw [this.1]; exact hr.v, hr.e.mono h, hr.w, hr.n, fun he => by rw [this.2.1]; exact hr.ln he, by rw [this.2.2]; exact hr.wo, Nat.lt_of_lt_of_le hr.m h.M, hr.pc.mono h⟩
theorem OwR.mono (h : CLe C C') : ∀ {o : List OA} {O : List OwnV}, OwR C o O → OwR C' o O
  | [], _, hr => hr
  | l :: r, L, hr => by
    obtain ⟨O, q, h1, h2, h3, h4⟩ := hr
    exact ⟨O, q, h1, h2.mono h, h3, OwR.mono h h4⟩
theorem LoR.len : ∀ {l : List LO} {L : List Vc.Loc}, LoR C l L → L.length = l.length
  | [], _, hr => by rw [show _ = _ from hr]; rfl
  | l :: r, L, hr => by
    obtain ⟨vs, q, rfl, _, h3⟩ := hr
    simp [LoR.len h3]
theorem LoR.get : ∀ {l : List LO} {L : List Vc.Loc} {i : Nat} {x : LO}, LoR C l L → l[i]? = some x → ∃ vs, L[i]? = some ⟨vs.map .v, x.e⟩ ∧ RepC C x.cs vs
  | l :: r, L, 0, x, hr, hi => by
    obtain ⟨vs, q, rfl, h2, h3⟩ := hr
    simp at hi; subst hi; exact ⟨vs, rfl, h2⟩
  | l :: r, L, i + 1, x, hr, hi => by
    obtain ⟨vs, q, rfl, h2, h3⟩ := hr
    obtain ⟨vs', h4, h5⟩ := LoR.get h3 (by simpa using hi)
    exact ⟨vs', by simpa using h4, h5⟩
theorem OwR.get : ∀ {o : List OA} {O : List OwnV} {m : Nat} {x : OA}, OwR C o O → findA o m = some x → x.m = m ∧ ∃ (i : Nat) (X : OwnV), O[i]? = some X ∧ o[i]? = some x ∧ OwR1 C x X
  | y :: r, L, m, x, hr, hm => by
    obtain ⟨O, q, rfl, h2, h3, h4⟩ := hr
    simp only [findA] at hm
    cases hb : Nat.beq y.m m with
    | true =>
      simp only [hb, cond_true, Option.some.injEq] at hm; subst hm
      exact ⟨Nat.eq_of_beq_eq_true hb, 0, O, rfl, rfl, h2⟩
    | false =>
      simp only [hb, cond_false] at hm
      obtain ⟨h5, i, X, h6, h7, h8⟩ := OwR.get h4 hm
      exact ⟨h5, i + 1, X, by simpa using h6, by simpa using h7, h8⟩

theorem lookA_cons {k j : Nat} {x : AV} {l : List (Nat × AV)} : lookA ((k, x) :: l) j = if k = j then some x else lookA l j := by
  simp only [lookA]
  by_cases e : k = j
  · subst e; simp
  · simp [beq_ne e, e]
theorem Rel.act {LO : List Vc.Loc} {OW : List OwnV} {G : GH} {n n' : Nat} (R : Rel B E ⟨n, [], LO, OW⟩ G a W) {a' : Act} (h1 : a'.tmps.size = n') (h2 : a'.defers = []) : Rel B E ⟨n', [], LO, OW⟩ G a' W :=
  { R with size := h1, df := h2, tm := fun k s hk => by simp [St.get, lookup] at hk }
theorem put_sz {d : Option Nat} {v : Value} : (a.put d v).tmps.size = a.tmps.size := by cases d <;> simp [Act.put]
/-- A temporary is written. -/
theorem RelA.put {LO : List Vc.Loc} {OW : List OwnV} {sus : List Act} (R : RelA B C LO OW s a sus W) (d : Option Nat) {x : AV} {v : Value} (h : Rep C x v) : RelA B C LO OW (s.put d x) (a.put d v) sus W := by
  cases d with
  | none => rw [AS.put_none]; exact R
  | some d =>
    have hsz : a.tmps.size = s.n := R.rel.size
    by_cases hd : d < s.n
    · have e : s.put (some d) x = { s with tm := (d, x) :: s.tm } := by simp only [AS.put_some, blt_iff.2 hd, cond_true]
      rw [e]
      refine ⟨Rel.act R.rel (by rw [put_sz]; exact hsz) (by simp only [Act.put]; exact R.rel.df), R.m0, R.N, R.M, R.gb, R.hh, fun k y hk => ?_, R.fr, R.lo, R.ow⟩
      rw [lookA_cons] at hk
      simp only [Act.put, Array.getElem?_setIfInBounds]
      by_cases e : d = k
      · subst e
        rw [if_pos rfl] at hk ⊢
        simp only [Option.some.injEq] at hk; subst hk
        rw [if_pos (by omega)]; exact ⟨v, rfl, h⟩
      · rw [if_neg e] at hk ⊢; exact R.tm k y hk
    · have e : s.put (some d) x = s := by
        have : Nat.blt d s.n = false := by
          cases h : Nat.blt d s.n with
          | false => rfl
          | true => exact absurd (blt_iff.1 h) hd
        simp only [AS.put_some, this, cond_false]
      have e2 : a.put (some d) v = a := by
        cases a with
        | mk tm df =>
          simp only [Act.put, Act.mk.injEq, and_true]
          apply Array.ext_getElem?; intro i
          rw [Array.getElem?_setIfInBounds]
          by_cases e : d = i
          · subst e; rw [if_pos rfl]; have : ¬ d < tm.size := by simpa [hsz] using (show ¬ d < s.n from hd)
            rw [if_neg this]; exact (Array.getElem?_eq_none (by omega)).symm
          · rw [if_neg e]
      rw [e, e2]; exact R
theorem RelA.ev {LO : List Vc.Loc} {OW : List OwnV} {sus : List Act} (R : RelA B C LO OW s a sus W) {x : Operand} {y : AV} (h : s.ev x = some y) : Rep C y (a.eval x) := by
  cases x with
  | tmp t =>
    obtain ⟨v, h1, h2⟩ := R.tm t y h
    simpa [Act.eval, Array.getD_eq_getD_getElem?, h1] using h2
  | const v => simp only [AS.ev, Option.some.injEq] at h; subst h; simp [Act.eval, Rep]
  | global g => simp only [AS.ev, Option.some.injEq] at h; subst h; simp [Act.eval, Rep]
  | func f => simp only [AS.ev, Option.some.injEq] at h; subst h; simp [Act.eval, Rep, RepL]
theorem RelA.plain {LO : List Vc.Loc} {OW : List OwnV} {sus : List Act} (R : RelA B C LO OW s a sus W) {x : Operand} {y : Value} (h : s.plain x = some y) : a.eval x = y := by
  unfold AS.plain at h
  split at h
  · rename_i z hz; simp only [Option.some.injEq] at h; subst h
    have := R.ev hz; simpa [Rep] using this
  · cases h
theorem RelA.evs {LO : List Vc.Loc} {OW : List OwnV} {sus : List Act} (R : RelA B C LO OW s a sus W) : ∀ {l : List Operand} {r : List AV}, s.evs l = some r → RepL C r (l.map a.eval)
  | [], r, h => by simp only [AS.evs, Option.some.injEq] at h; subst h; simp [RepL]
  | x :: l, r, h => by
    simp only [AS.evs] at h
    split at h
    · rename_i y hy
      split at h
      · rename_i q hq
        simp only [Option.some.injEq] at h; subst h
        simp only [List.map_cons, RepL]
        exact ⟨_, _, rfl, R.ev hy, R.evs hq⟩
      · cases h
    · cases h
theorem allPlainA_mem : ∀ {l : List Operand}, s.allPlain l = true → ∀ x ∈ l, ∃ y, s.plain x = some y
  | [], _, x, hx => by cases hx
  | z :: r, h, x, hx => by
    simp only [AS.allPlain, Bool.and_eq_true] at h
    rcases List.mem_cons.1 hx with rfl | hx
    · exact Option.isSome_iff_exists.1 h.1
    · exact allPlainA_mem h.2 x hx
theorem pureA_ok {LO : List Vc.Loc} {OW : List OwnV} {sus : List Act} (R : RelA B C LO OW s a sus W) {o : Oper} {x : AV} (h : pureA P s o = some x) : ∃ v, Yd P W (execOp a.eval o) (.value v) ∧ Rep C x v := by
  unfold pureA at h
  cases hsel : isSelect o.op with
  | true => simp [hsel] at h
  | false =>
    cases hall : s.allPlain o.op.operands.toList with
    | false => simp [hsel, hall] at h
    | true =>
      simp only [hsel, hall, cond_true, cond_false] at h
      have e : execOp a.eval o = execOp s.rho o := by
        refine execOp_congr o (fun cs b e => by simp [e, isSelect] at hsel) fun x hx => ?_
        obtain ⟨y, hy⟩ := allPlainA_mem hall x (by simpa using hx)
        rw [R.plain hy]; simp [AS.rho, hy]
      rw [e]
      split at h
      · rename_i y hy; simp only [Option.some.injEq] at h; subst h; exact ⟨y, fun W' _ => pv_run W' hy, by simp [Rep]⟩
      · cases h
end
end Go.Proofs.Ytoiacgfhjikddaa.W
