/- The interpreter is right, seventh part: how states change. -/
import Derived.Test.YtoiacgfhjikddaaWJ
set_option linter.unusedSimpArgs false
set_option linter.unusedVariables false
namespace Go.Proofs.Ytoiacgfhjikddaa.W
open Go.RowKit Vc

section
variable {C C' : Cx} {B : Base} {s : AS} {a : Act} {W W' : World} {P : Program} {LO : List Vc.Loc} {OW : List OwnV} {sus : List Act} {o : Oper} {G : GH}

theorem scs_v (n : Nat) : ∀ vs : List Value, SV.scs n (vs.map .v) = true
  | [] => rfl
  | v :: vs => by simp [SV.scs, SV.sc, scs_v n vs]
theorem LoR.sc (n : Nat) : ∀ {l : List Box} {L : List Vc.Loc}, LoR C l L → scL n L = true
  | [], _, h => by rw [show _ = _ from h]; rfl
  | l :: r, L, h => by
    obtain ⟨vs, q, rfl, _, h3⟩ := h
    simp only [scL, Bool.and_eq_true]; exact ⟨scs_v n vs, LoR.sc n h3⟩
theorem LoR.snoc : ∀ {l : List Box} {L : List Vc.Loc} {x : Box} {vs : List Value}, LoR C l L → RepC C x.cs vs → LoR C (l ++ [x]) (L ++ [⟨vs.map .v, x.e⟩])
  | [], _, x, vs, h, hx => by rw [show _ = _ from h]; exact ⟨vs, [], rfl, hx, rfl⟩
  | l :: r, L, x, vs, h, hx => by
    obtain ⟨us, q, rfl, h2, h3⟩ := h
    exact ⟨us, _, rfl, h2, LoR.snoc h3 hx⟩
theorem LoR.set : ∀ {l : List Box} {L : List Vc.Loc} {i : Nat} {x : Box} {vs : List Value}, LoR C l L → RepC C x.cs vs → LoR C (l.set i x) (L.set i ⟨vs.map .v, x.e⟩)
  | [], _, i, x, vs, h, hx => by rw [show _ = _ from h]; rfl
  | l :: r, L, 0, x, vs, h, hx => by
    obtain ⟨us, q, rfl, h2, h3⟩ := h
    exact ⟨vs, q, rfl, hx, h3⟩
  | l :: r, L, i + 1, x, vs, h, hx => by
    obtain ⟨us, q, rfl, h2, h3⟩ := h
    exact ⟨us, _, rfl, h2, LoR.set h3 hx⟩

/-- A new variable. -/
theorem RelA.newBox (R : RelA B C LO OW s a sus W) {cs : List AV} {vs : List Value} {t : Nat} (hr : RepC C cs vs) :
    ∃ C', CLe C C' ∧ RelA B C' (LO ++ [⟨vs.map .v, t⟩]) OW { s with lo := s.lo ++ [⟨cs, t⟩] } a sus { W with heap := W.heap.push (.cells ⟨vs⟩ t) } ∧ Rep C' (.lp s.lo.length 0) (.pointer (some ⟨W.heap.size, 0, none⟩)) := by
  have hL : LO.length = s.lo.length := R.lo.len
  have hs : (⟨s.n, [], LO, OW⟩ : St).sc = true := by
    simp only [St.sc, scT, Bool.true_and]; exact R.lo.sc _
  have R' := R.rel.newLoc hs (cs := vs.map .v) (t := t) (scs_v _ vs)
  simp only [dens_v] at R'
  let C' : Cx := { C with E := C.E.upd LO.length W.heap.size, N := C.N + 1 }
  have hle : CLe C C' := ⟨Nat.le_succ _, Nat.le_refl _, fun i hi => by
    have : i ≠ LO.length := by have := R.N; omega
    simp [C', Env.upd, this], fun _ _ => ⟨rfl, rfl, rfl⟩, GExt.refl _, GExt.refl _⟩
  refine ⟨C', hle, ⟨R', R.m0, by simp [C', R.N], R.M, R.gb, R.hh, R.tm.mono hle, R.fr.mono hle, (R.lo.mono hle).snoc (x := ⟨cs, t⟩) (hr.mono hle), R.ow.mono hle⟩, ?_⟩
  simp only [Rep]
  refine ⟨by have := R.N; show _ < C.N + 1; omega, ?_⟩
  simp [C', Env.upd, hL]

/-- A variable is written. -/
theorem RelA.wrote (R : RelA B C LO OW s a sus W) {i : Nat} {l : Box} {vs : List Value} (hl : s.lo[i]? = some l) (hv : LO[i]? = some ⟨vs.map .v, l.e⟩) {off : Nat} {us : List Value} {cs : List AV} (hle : off + us.length ≤ vs.length) (h1 : ∀ u ∈ us, oneC u = true) (hr : RepC C cs (setAll vs off us)) :
    ∃ W', (storeCells ⟨C.E.id i, (C.E.pre i).length + off, none⟩ us).run P W = .ok () W' ∧ RelA B C (LO.set i ⟨(setAll vs off us).map .v, l.e⟩) OW { s with lo := s.lo.set i ⟨cs, l.e⟩ } a sus W' := by
  have h0 := R.rel.lo i _ hv
  simp only [dens_v] at h0
  obtain ⟨W', hrun, hw⟩ := run_storeCells (P := P) (b := C.E.id i) (o := (C.E.pre i).length + off) (t := l.e) us 0 W _ h0 (by simp; omega) h1
  rw [Nat.add_zero, setAll_mid _ _ _ _ _ hle] at hw
  have R' := R.rel.wrote hv (cs := (setAll vs off us).map .v) (W' := W') (by simp only [dens_v]; exact hw)
  exact ⟨W', hrun, ⟨R', R.m0, by simpa using R.N, R.M, R.gb, R.hh, R.tm, R.fr, R.lo.set (x := ⟨cs, l.e⟩) hr, R.ow⟩⟩

/-! ### What is forgotten, and what is handed over -/
mutual
theorem Rep.pg {m : Nat} (hN : C'.N = C.N) (hE : C'.E = C.E) (hM : C'.M = C.M) (hb : C'.Gb = C.Gb) (hG : C'.G = C.G) (ho : ∀ j, j ≠ m → C'.hd j = C.hd j ∧ C'.ln j = C.ln j ∧ C'.wo j = C.wo j) : ∀ {x : AV} {v : Value}, Rep C x v → Rep C' (pg m x) v
  | .v x, v, h => by simpa [W.pg, Rep] using h
  | .by_ _ _, v, h => by simp [Rep] at h
  | .sl q k l, v, h => by
    have hg : ∀ q, C'.g q = C.g q := fun q => by cases q; exact hb; exact hG
    simp only [W.pg, Rep] at h ⊢; rw [hg, hb]; exact h
  | .fp q k x off, v, h => by
    have hg : ∀ q, C'.g q = C.g q := fun q => by cases q; exact hb; exact hG
    simp only [W.pg, Rep] at h ⊢; rw [hg, hb]; exact h
  | .lp i off, v, h => by simp only [W.pg, Rep] at h ⊢; rw [hN, hE]; exact h
  | .lb i off n j, v, h => by simp only [W.pg, Rep] at h ⊢; rw [hN, hE]; exact h
  | .ls i off n, v, h => by simp only [W.pg, Rep] at h ⊢; rw [hN, hE]; exact h
  | .ov j, v, h => by
    simp only [W.pg]
    cases hj : Nat.beq m j with
    | true => simp [Rep]
    | false =>
      have hne : j ≠ m := fun e => by subst e; simp at hj
      simp only [cond_false, Rep] at h ⊢; rw [hM, (ho j hne).1]; exact h
  | .os j w lo hi, v, h => by
    simp only [W.pg]
    cases hj : Nat.beq m j with
    | true => simp [Rep]
    | false =>
      have hne : j ≠ m := fun e => by subst e; simp at hj
      simp only [cond_false, Rep] at h ⊢; rw [hM, (ho j hne).1, (ho j hne).2.1, (ho j hne).2.2]; exact h
  | .op j w i off, v, h => by
    simp only [W.pg]
    cases hj : Nat.beq m j with
    | true => simp [Rep]
    | false =>
      have hne : j ≠ m := fun e => by subst e; simp at hj
      simp only [cond_false, Rep] at h ⊢; rw [hM, (ho j hne).1, (ho j hne).2.2]; exact h
  | .fn f c, v, h => by
    simp only [W.pg, Rep] at h ⊢
    obtain ⟨vs, h1, h2⟩ := h
    exact ⟨vs, h1, RepL.pg hN hE hM hb hG ho h2⟩
  | .ag c, v, h => by
    simp only [W.pg, Rep] at h ⊢
    obtain ⟨vs, h1, h2⟩ := h
    exact ⟨vs, h1, RepC.pg hN hE hM hb hG ho h2⟩
  | .tup c, v, h => by
    simp only [W.pg, Rep] at h ⊢
    obtain ⟨vs, h1, h2⟩ := h
    exact ⟨vs, h1, RepL.pg hN hE hM hb hG ho h2⟩
  | .bad, v, h => by simp [W.pg, Rep]
theorem RepL.pg {m : Nat} (hN : C'.N = C.N) (hE : C'.E = C.E) (hM : C'.M = C.M) (hb : C'.Gb = C.Gb) (hG : C'.G = C.G) (ho : ∀ j, j ≠ m → C'.hd j = C.hd j ∧ C'.ln j = C.ln j ∧ C'.wo j = C.wo j) : ∀ {l : List AV} {vs : List Value}, RepL C l vs → RepL C' (pgs m l) vs
  | [], vs, h => by simpa [pgs, RepL] using h
  | x :: r, vs, h => by
    simp only [pgs, RepL] at h ⊢
    obtain ⟨v, us, h1, h2, h3⟩ := h
    exact ⟨v, us, h1, Rep.pg hN hE hM hb hG ho h2, RepL.pg hN hE hM hb hG ho h3⟩
theorem RepC.pg {m : Nat} (hN : C'.N = C.N) (hE : C'.E = C.E) (hM : C'.M = C.M) (hb : C'.Gb = C.Gb) (hG : C'.G = C.G) (ho : ∀ j, j ≠ m → C'.hd j = C.hd j ∧ C'.ln j = C.ln j ∧ C'.wo j = C.wo j) : ∀ {l : List AV} {vs : List Value}, RepC C l vs → RepC C' (pgs m l) vs
  | [], vs, h => by simpa [pgs, RepC] using h
  | x :: r, vs, h => by
    cases hx : isBy x with
    | true =>
      obtain ⟨n, l, rfl⟩ := isBy_of hx
      simp only [pgs, W.pg]
      rw [RepC.by_] at h ⊢
      obtain ⟨us, h1, h2, h3⟩ := h
      exact ⟨us, h1, h2, RepC.pg hN hE hM hb hG ho h3⟩
    | false =>
      have hx' : isBy (W.pg m x) = false := by
        cases x <;> simp only [W.pg] <;> first | rfl | (generalize Nat.beq _ _ = b; cases b <;> rfl) | (simp [isBy] at hx)
      simp only [pgs]
      rw [RepC.cons hx] at h
      rw [RepC.cons hx']
      obtain ⟨v, us, h1, h2, h3, h4⟩ := h
      exact ⟨v, us, h1, h2, Rep.pg hN hE hM hb hG ho h3, RepC.pg hN hE hM hb hG ho h4⟩
end
/-- What is known when a slice is handed over. -/
structure Fz (C C' : Cx) (o : OA) : Prop where
  N : C'.N = C.N
  E : C'.E = C.E
  M : C'.M = C.M
  hd : C'.hd = C.hd
  ln : C'.ln = C.ln
  wo : C'.wo = C.wo
  Gb : C'.Gb = C.Gb
  G : GExt C.G C'.G
  lno : C.ln o.m = o.l.length
  woo : C.wo o.m = wd o.k
  slv : SLv C'.G (VC C'.Gb C'.G o.k) (wd o.k) o.l (C.hd o.m)
theorem Fz.le {ob : OA} (f : Fz C C' ob) : CLe C C' := ⟨by rw [f.N]; exact Nat.le_refl _, by rw [f.M]; exact Nat.le_refl _, fun i _ => by rw [f.E]; exact ⟨rfl, rfl⟩, fun m _ => by rw [f.hd, f.ln, f.wo]; exact ⟨rfl, rfl, rfl⟩, by rw [f.Gb]; exact GExt.refl _, f.G⟩
mutual
theorem Rep.fz {ob : OA} (f : Fz C C' ob) : ∀ {x : AV} {v : Value}, Rep C x v → Rep C' (fz ob x) v
  | .v x, v, h => h.mono f.le
  | .by_ _ _, v, h => by simp [Rep] at h
  | .sl q k l, v, h => h.mono f.le
  | .fp q k x off, v, h => h.mono f.le
  | .lp i off, v, h => h.mono f.le
  | .lb i off n j, v, h => h.mono f.le
  | .ls i off n, v, h => h.mono f.le
  | .ov j, v, h => by
    simp only [W.fz]
    cases hj : Nat.beq ob.m j with
    | true =>
      have := Nat.eq_of_beq_eq_true hj; subst this
      simp only [cond_true, Rep] at h ⊢
      rw [h.2]; exact ⟨f.slv, by simp⟩
    | false => exact h.mono f.le
  | .os j w lo hi, v, h => by
    simp only [W.fz]
    cases hj : Nat.beq ob.m j with
    | true =>
      have := Nat.eq_of_beq_eq_true hj; subst this
      simp only [cond_true, Rep] at h ⊢
      obtain ⟨h0, h1, h2, rfl, rfl⟩ := h
      rw [f.woo]
      exact ⟨f.slv.sub h1 (by rw [← f.lno]; exact h2), by simp⟩
    | false => exact h.mono f.le
  | .op j w i off, v, h => by
    simp only [W.fz]
    cases hj : Nat.beq ob.m j with
    | true => simp [Rep]
    | false => exact h.mono f.le
  | .fn g c, v, h => by
    simp only [W.fz, Rep] at h ⊢
    obtain ⟨vs, h1, h2⟩ := h
    exact ⟨vs, h1, RepL.fz f h2⟩
  | .ag c, v, h => by
    simp only [W.fz, Rep] at h ⊢
    obtain ⟨vs, h1, h2⟩ := h
    exact ⟨vs, h1, RepC.fz f h2⟩
  | .tup c, v, h => by
    simp only [W.fz, Rep] at h ⊢
    obtain ⟨vs, h1, h2⟩ := h
    exact ⟨vs, h1, RepL.fz f h2⟩
  | .bad, v, h => by simp [W.fz, Rep]
theorem RepL.fz {ob : OA} (f : Fz C C' ob) : ∀ {l : List AV} {vs : List Value}, RepL C l vs → RepL C' (fzs ob l) vs
  | [], vs, h => by simpa [fzs, RepL] using h
  | x :: r, vs, h => by
    simp only [fzs, RepL] at h ⊢
    obtain ⟨v, us, h1, h2, h3⟩ := h
    exact ⟨v, us, h1, Rep.fz f h2, RepL.fz f h3⟩
theorem RepC.fz {ob : OA} (f : Fz C C' ob) : ∀ {l : List AV} {vs : List Value}, RepC C l vs → RepC C' (fzs ob l) vs
  | [], vs, h => by simpa [fzs, RepC] using h
  | x :: r, vs, h => by
    cases hx : isBy x with
    | true =>
      obtain ⟨n, l, rfl⟩ := isBy_of hx
      simp only [fzs, W.fz]
      rw [RepC.by_] at h ⊢
      obtain ⟨us, h1, h2, h3⟩ := h
      exact ⟨us, h1, h2, RepC.fz f h3⟩
    | false =>
      have hx' : isBy (W.fz ob x) = false := by
        cases x <;> simp only [W.fz] <;> first | rfl | (generalize Nat.beq _ _ = b; cases b <;> rfl) | (simp [isBy] at hx)
      simp only [fzs]
      rw [RepC.cons hx] at h
      rw [RepC.cons hx']
      obtain ⟨v, us, h1, h2, h3, h4⟩ := h
      exact ⟨v, us, h1, h2, Rep.fz f h3, RepC.fz f h4⟩
end
theorem lookA_on {g : AV → AV} : ∀ {l : List (Nat × AV)} {k : Nat}, lookA (onTm g l) k = (lookA l k).map g
  | [], k => rfl
  | (j, x) :: r, k => by
    simp only [onTm, lookA]
    cases Nat.beq j k with
    | true => rfl
    | false => exact lookA_on
theorem tmR.on {g : AV → AV} (hg : ∀ x v, Rep C x v → Rep C' (g x) v) {tm : List (Nat × AV)} {t : Array Value} (h : tmR C tm t) : tmR C' (onTm g tm) t := fun k x hk => by
  rw [lookA_on, Option.map_eq_some_iff] at hk
  obtain ⟨y, hy, rfl⟩ := hk
  obtain ⟨v, h1, h2⟩ := h k y hy
  exact ⟨v, h1, hg y v h2⟩
theorem FrR.on {g : AV → AV} (hg : ∀ x v, Rep C x v → Rep C' (g x) v) : ∀ {f : List (Nat × List (Nat × AV))} {sus : List Act}, FrR C f sus → FrR C' (onFr g f) sus
  | [], _, h => h
  | f :: r, sus, h => by
    obtain ⟨a, q, h1, h2, h3, h4⟩ := h
    exact ⟨a, q, h1, h2, h3.on hg, FrR.on hg h4⟩
theorem LoR.on {g : List AV → List AV} (hg : ∀ x v, RepC C x v → RepC C' (g x) v) : ∀ {l : List Box} {L : List Vc.Loc}, LoR C l L → LoR C' (onLo g l) L
  | [], _, h => h
  | l :: r, L, h => by
    obtain ⟨vs, q, h1, h2, h3⟩ := h
    exact ⟨vs, q, h1, hg _ _ h2, LoR.on hg h3⟩
theorem onLo_len {g : List AV → List AV} : ∀ {l : List Box}, (onLo g l).length = l.length
  | [] => rfl
  | l :: r => by simp [onLo, onLo_len (l := r)]

theorem OwR.del : ∀ {o : List OA} {O : List OwnV} {m i : Nat}, OwR C o O → (∃ x, findA o m = some x) → (∀ (j : Nat) (x : OA), o[j]? = some x → x.m = m → j = i) → OwR C (delO o m) (O.eraseIdx i)
  | [], O, m, i, h, ⟨x, hx⟩, _ => by simp [findA] at hx
  | y :: r, L, m, i, h, ⟨x, hx⟩, hi => by
    obtain ⟨O, q, rfl, h2, h3, h4⟩ := h
    simp only [delO]
    simp only [findA] at hx
    cases hb : Nat.beq y.m m with
    | true =>
      have := hi 0 y rfl (Nat.eq_of_beq_eq_true hb)
      subst this
      simpa using h4
    | false =>
      simp only [hb, cond_false] at hx
      simp only [cond_false]
      cases i with
      | zero =>
        exfalso
        have hfind : ∀ {r : List OA}, findA r m = some x → ∃ j : Nat, r[j]? = some x ∧ x.m = m := by
          intro r
          induction r with
          | nil => intro h; simp [findA] at h
          | cons z r ih =>
            intro h
            simp only [findA] at h
            cases hz : Nat.beq z.m m with
            | true => simp only [hz, cond_true, Option.some.injEq] at h; subst h; exact ⟨0, rfl, Nat.eq_of_beq_eq_true hz⟩
            | false =>
              simp only [hz, cond_false] at h
              obtain ⟨j, h5, h6⟩ := ih h
              exact ⟨j + 1, by simpa using h5, h6⟩
        obtain ⟨j, h5, h6⟩ := hfind hx
        have := hi (j + 1) x (by simpa using h5) h6
        omega
      | succ i =>
        refine ⟨O, q.eraseIdx i, rfl, h2, fun o' ho' => ?_, OwR.del h4 ⟨x, hx⟩ fun j z hj hz => ?_⟩
        · refine h3 o' ?_
          have : ∀ {r : List OA}, o' ∈ delO r m → o' ∈ r := by
            intro r
            induction r with
            | nil => intro h; simp [delO] at h
            | cons z r ih =>
              intro h
              simp only [delO] at h
              cases hz : Nat.beq z.m m with
              | true => simp only [hz, cond_true] at h; exact List.mem_cons_of_mem _ h
              | false =>
                simp only [hz, cond_false] at h
                rcases List.mem_cons.1 h with rfl | h
                · simp
                · exact List.mem_cons_of_mem _ (ih h)
          exact this ho'
        · have := hi (j + 1) z (by simpa using hj) hz
          omega
theorem OwR.uniq : ∀ {o : List OA} {O : List OwnV} {i j : Nat} {x y : OA}, OwR C o O → o[i]? = some x → o[j]? = some y → x.m = y.m → i = j
  | z :: r, L, 0, 0, x, y, h, hi, hj, e => rfl
  | z :: r, L, 0, j + 1, x, y, h, hi, hj, e => by
    obtain ⟨O, q, rfl, h2, h3, h4⟩ := h
    simp at hi hj
    exact absurd e.symm (by rw [← hi]; exact h3 y (List.mem_of_getElem? hj))
  | z :: r, L, i + 1, 0, x, y, h, hi, hj, e => by
    obtain ⟨O, q, rfl, h2, h3, h4⟩ := h
    simp at hi hj
    exact absurd e (by rw [← hj]; exact h3 x (List.mem_of_getElem? hi))
  | z :: r, L, i + 1, j + 1, x, y, h, hi, hj, e => by
    obtain ⟨O, q, rfl, h2, h3, h4⟩ := h
    have := OwR.uniq (i := i) (j := j) h4 (by simpa using hi) (by simpa using hj) e
    omega

/-- A slice of one's own is handed over. -/
theorem RelA.freeze (R : RelA B C LO OW s a sus W) {m : Nat} {s' : AS} (h : s.freeze m = some s') : ∃ C' OW' ob, findO s.ow m = some ob ∧ Fz C C' ob ∧ RelA B C' LO OW' s' a sus W := by
  unfold AS.freeze at h
  split at h
  · rename_i ob ho
    simp only [Option.some.injEq] at h; subst h
    obtain ⟨e1, i, X, h1, h2, h3⟩ := R.ow.get (findO_A ho).1
    have hXe : X.e < objMark := by rw [h3.e.eqS (findO_A ho).2]; exact (findO_A ho).2
    obtain ⟨G', g, hown, R'⟩ := R.rel.freeze (i := i) (o := X) h1 hXe
    let C' : Cx := { C with G := G' }
    have fzz : Fz C C' ob := by
      refine ⟨rfl, rfl, rfl, rfl, rfl, rfl, rfl, g, h3.ln (findO_A ho).2, h3.wo, ?_⟩
      have hr := hown.row
      rw [h3.v, h3.w, h3.n] at hr
      exact ⟨X.l, hr, fun i hi => (h3.pc i hi).mono g⟩
    refine ⟨C', _, ob, ho, fzz, ⟨R', R.m0, by rw [onLo_len]; exact R.N, R.M, R.gb, R.hh, R.tm.on fun x v h => h.fz fzz, R.fr.on fun x v h => h.fz fzz, R.lo.on fun x v h => h.fz fzz, ?_⟩⟩
    exact OwR.del (R.ow.mono fzz.le) ⟨ob, (findO_A ho).1⟩ fun j x hj hx => R.ow.uniq hj h2 (by rw [hx, e1])
  · cases h
theorem RelA.freezes : ∀ {l : List Nat} {C : Cx} {OW : List OwnV} {s : AS} (_ : RelA B C LO OW s a sus W), ∃ C' OW', CLe C C' ∧ RelA B C' LO OW' (s.freezes l) a sus W
  | [], C, OW, s, R => ⟨C, OW, CLe.refl C, R⟩
  | m :: r, C, OW, s, R => by
    simp only [AS.freezes]
    split
    · rename_i s' hs
      obtain ⟨C1, OW1, ob, _, f, R1⟩ := R.freeze hs
      obtain ⟨C2, OW2, h2, R2⟩ := RelA.freezes (l := r) R1
      refine ⟨C2, OW2, ⟨Nat.le_trans f.le.N h2.N, Nat.le_trans f.le.M h2.M, fun i hi => ?_, fun m hm => ?_, f.le.Gb.trans h2.Gb, f.le.G.trans h2.G⟩, R2⟩
      · have a1 := f.le.id i hi; have a2 := h2.id i (Nat.lt_of_lt_of_le hi f.le.N)
        exact ⟨a2.1.trans a1.1, a2.2.trans a1.2⟩
      · have a1 := f.le.ow m hm; have a2 := h2.ow m (Nat.lt_of_lt_of_le hm f.le.M)
        exact ⟨a2.1.trans a1.1, a2.2.1.trans a1.2.1, a2.2.2.trans a1.2.2⟩
    · exact RelA.freezes R
end
end Go.Proofs.Ytoiacgfhjikddaa.W
