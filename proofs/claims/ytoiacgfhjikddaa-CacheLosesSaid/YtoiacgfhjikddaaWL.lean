/- The interpreter is right, eighth part: one's own, written anew. -/
import Derived.Test.YtoiacgfhjikddaaWK
set_option linter.unusedSimpArgs false
set_option linter.unusedVariables false
namespace Go.Proofs.Ytoiacgfhjikddaa.W
open Go.RowKit Vc

section
variable {C C' : Cx} {B : Base} {s : AS} {a : Act} {W W' : World} {P : Program} {LO : List Vc.Loc} {OW : List OwnV} {sus : List Act} {o : Oper} {G' : GH}

theorem OwR.setO {m : Nat} {y : OA} {Y : OwnV} (hy : y.m = m) (h1 : OwR1 C' y Y) (ho : ∀ x X, x.m ≠ m → OwR1 C x X → OwR1 C' x X) : ∀ {l : List OA} {O : List OwnV} {i : Nat} {x : OA}, OwR C l O → findA l m = some x → (∀ (j : Nat) (z : OA), l[j]? = some z → z.m = m → j = i) → OwR C' (setO l m y) (O.set i Y)
  | z :: r, L, i, x, h, hx, hi => by
    obtain ⟨O, q, rfl, h2, h3, h4⟩ := h
    simp only [findA] at hx
    simp only [W.setO]
    have rest : ∀ {r : List OA} {q : List OwnV}, OwR C r q → (∀ w ∈ r, w.m ≠ m) → OwR C' r q := by
      intro r
      induction r with
      | nil => intro q h _; exact h
      | cons w r ih =>
        intro q h hm
        obtain ⟨O', q', rfl, e2, e3, e4⟩ := h
        exact ⟨O', q', rfl, ho _ _ (hm w (by simp)) e2, e3, ih e4 fun u hu => hm u (by simp [hu])⟩
    cases hb : Nat.beq z.m m with
    | true =>
      have hz := Nat.eq_of_beq_eq_true hb
      have := hi 0 z rfl hz
      subst this
      exact ⟨Y, q, rfl, h1, fun w hw => by rw [hy, ← hz]; exact h3 w hw, rest h4 fun w hw => by rw [← hz]; exact h3 w hw⟩
    | false =>
      have hz : z.m ≠ m := fun e => by rw [e] at hb; simp at hb
      simp only [hb, cond_false] at hx ⊢
      have hfind : ∀ {r : List OA}, findA r m = some x → ∃ j : Nat, r[j]? = some x ∧ x.m = m := by
        intro r
        induction r with
        | nil => intro h; simp [findA] at h
        | cons w r ih =>
          intro h
          simp only [findA] at h
          cases hw : Nat.beq w.m m with
          | true => simp only [hw, cond_true, Option.some.injEq] at h; subst h; exact ⟨0, rfl, Nat.eq_of_beq_eq_true hw⟩
          | false =>
            simp only [hw, cond_false] at h
            obtain ⟨j, h5, h6⟩ := ih h
            exact ⟨j + 1, by simpa using h5, h6⟩
      obtain ⟨j, h5, h6⟩ := hfind hx
      have hji := hi (j + 1) x (by simpa using h5) h6
      subst hji
      refine ⟨O, q.set j Y, rfl, ho _ _ hz h2, fun w hw => ?_, OwR.setO hy h1 ho h4 hx fun j' z' hj' hz' => ?_⟩
      · have key : ∀ {r : List OA}, w ∈ W.setO r m y → w ∈ r ∨ w.m = m := by
          intro r
          induction r with
          | nil => intro h; simp [W.setO] at h
          | cons u r ih =>
            intro h
            simp only [W.setO] at h
            cases hu : Nat.beq u.m m with
            | true =>
              simp only [hu, cond_true] at h
              rcases List.mem_cons.1 h with rfl | h
              · exact .inr hy
              · exact .inl (List.mem_cons_of_mem _ h)
            | false =>
              simp only [hu, cond_false] at h
              rcases List.mem_cons.1 h with rfl | h
              · exact .inl (by simp)
              · exact (ih h).imp (List.mem_cons_of_mem _) id
        rcases key hw with h | h
        · exact h3 w h
        · rw [h]; exact fun e => hz e.symm
      · have := hi (j' + 1) z' (by simpa using hj') hz'
        omega
theorem OwR.snoc {y : OA} {Y : OwnV} (h1 : OwR1 C y Y) : ∀ {l : List OA} {O : List OwnV}, OwR C l O → (∀ w ∈ l, w.m ≠ y.m) → OwR C (l ++ [y]) (O ++ [Y])
  | [], O, h, hm => by rw [show O = [] from h]; exact ⟨Y, [], rfl, h1, by simp, rfl⟩
  | z :: r, L, h, hm => by
    obtain ⟨O, q, rfl, h2, h3, h4⟩ := h
    refine ⟨O, _, rfl, h2, fun w hw => ?_, OwR.snoc h1 h4 fun w hw => hm w (by simp [hw])⟩
    rcases List.mem_append.1 hw with hw | hw
    · exact h3 w hw
    · have : w = y := by simpa using hw
      subst this; exact fun e => hm z (by simp) e.symm
theorem OwR.lt : ∀ {l : List OA} {O : List OwnV}, OwR C l O → ∀ w ∈ l, w.m < C.M
  | z :: r, L, h, w, hw => by
    obtain ⟨O, q, rfl, h2, h3, h4⟩ := h
    rcases List.mem_cons.1 hw with rfl | hw
    · exact h2.m
    · exact OwR.lt h4 w hw
theorem own_one {G : GH} {N n w : Nat} {v : Value} {e : TypeId} {l : List Value} (h : Own G N v e w n l) : oneC v = true := by
  rcases h.at_ with ⟨oa, rfl, _⟩ | ⟨b, c, L, rfl, _⟩ <;> rfl
theorem own_of (R : RelA B C LO OW s a sus W) {m : Nat} {x : OA} (h : findO s.ow m = some x) : x.m = m ∧ ∃ (i : Nat) (X : OwnV), OW[i]? = some X ∧ OwR1 C x X ∧ Own (gx W OW C.G) B.n0 X.v X.e X.w X.n X.l ∧ (∀ (j : Nat) (z : OA), s.ow[j]? = some z → z.m = m → j = i) := by
  obtain ⟨h1, i, X, h2, h3, h4⟩ := R.ow.get (findO_A h).1
  exact ⟨h1, i, X, h2, h4, R.rel.gx_owned.get h2 (by rw [h4.e.eqS (findO_A h).2]; exact (findO_A h).2), fun j z hj hz => R.ow.uniq hj h3 (by rw [hz, h1])⟩

/-- One's own lies anew. -/
theorem RelA.renewed (R : RelA B C LO OW s a sus W) {m : Nat} {ob : OA} (ho : findO s.ow m = some ob) {i : Nat} {X : OwnV} (hX : OW[i]? = some X) (hi : ∀ (j : Nat) (z : OA), s.ow[j]? = some z → z.m = m → j = i) {k : K} {lst : List (El k)} {v' : Value} {e : TypeId} {l' : List Value} (he : e < objMark) (hk : wd k = wd ob.k)
    (g : Grew B (gx W OW C.G) G' W W') (md : Made B (gx W OW C.G) G' X.v v' e (wd k) lst.length l') (pc : PC C k lst l') :
    ∃ C', RelA B C' LO (OW.set i ⟨v', e, wd k, lst.length, l'⟩) (s.renew m ⟨m, e, k, lst⟩) a sus W' ∧ Rep C' (.ov m) v' := by
  have R' := R.rel.madeSet he hX g md
  obtain ⟨e1, i2, X2, h1, h2, hown2, _⟩ := own_of R ho
  have hnm : ∀ b, C.hd m ≠ .map (some b) := fun b hb => by
    have := h2.v; rw [e1, hb] at this; rw [this] at hown2
    rcases hown2.at_ with ⟨_, h, _⟩ | ⟨_, _, _, h, _⟩ <;> cases h
  let C' : Cx := { C with hd := fun j => if j = m then v' else C.hd j, ln := fun j => if j = m then lst.length else C.ln j }
  have hne : ∀ j, j ≠ m → C'.hd j = C.hd j ∧ C'.ln j = C.ln j ∧ C'.wo j = C.wo j := fun j hj => ⟨if_neg hj, if_neg hj, rfl⟩
  have hm : m < C.M := by rw [← e1]; exact h2.m
  refine ⟨C', ⟨R', R.m0, by rw [show (s.renew m ⟨m, e, k, lst⟩).lo = onLo (pgs m) s.lo from rfl, onLo_len]; exact R.N, R.M, R.gb, fun j hj => ?_, ?_, ?_, ?_, ?_⟩, ?_⟩
  · by_cases e : j = m
    · show oneC (if j = m then v' else C.hd j) = true
      rw [if_pos e]; exact own_one md.own
    · show oneC (if j = m then v' else C.hd j) = true
      rw [if_neg e]; exact R.hh j hj
  · have hg : ∀ x v, Rep C x v → Rep C' (pg m x) v := fun x v h => Rep.pg (C := C) (C' := C') rfl rfl rfl rfl rfl hne h
    exact R.tm.on hg
  · have hg : ∀ x v, Rep C x v → Rep C' (pg m x) v := fun x v h => Rep.pg (C := C) (C' := C') rfl rfl rfl rfl rfl hne h
    exact R.fr.on hg
  · have hg : ∀ x v, RepC C x v → RepC C' (pgs m x) v := fun x v h => RepC.pg (C := C) (C' := C') rfl rfl rfl rfl rfl hne h
    exact R.lo.on hg
  · refine OwR.setO (C := C) (C' := C') (m := m) rfl ⟨(if_pos rfl).symm, ERel.ofS he, rfl, rfl, fun _ => if_pos rfl, ?_, hm, show PC C' k lst l' from pc⟩ (fun x X hx h => ⟨by rw [(hne _ hx).1]; exact h.v, h.e.imp id fun ⟨h1, h2, b, h3, h4⟩ => ⟨h1, h2, b, by rw [(hne _ fun e => hnm b (by rw [← e]; exact h3)).1]; exact h3, h4⟩, h.w, h.n, by intro he; rw [(hne _ hx).2.1]; exact h.ln he, h.wo, h.m, h.pc⟩) R.ow (findO_A ho).1 hi
    show C.wo m = wd k
    rw [hk, ← h2.wo, e1]
  · simp only [Rep]; exact ⟨hm, (if_pos rfl).symm⟩
/-- What is new is one's own. -/
theorem RelA.made (R : RelA B C LO OW s a sus W) {k : K} {lst : List (El k)} {v' : Value} {e : TypeId} {l' : List Value} (he : e < objMark)
    (g : Grew B (gx W OW C.G) G' W W') (md : Made B (gx W OW C.G) G' (.slice none 0 0) v' e (wd k) lst.length l') (pc : PC C k lst l') :
    ∃ C', CLe C C' ∧ RelA B C' LO (OW ++ [⟨v', e, wd k, lst.length, l'⟩]) (s.fresh e k lst) a sus W' ∧ Rep C' (.ov s.nx) v' := by
  have R' := R.rel.madeNew he g md
  let C' : Cx := { C with M := C.M + 1, hd := fun j => if j = C.M then v' else C.hd j, ln := fun j => if j = C.M then lst.length else C.ln j, wo := fun j => if j = C.M then wd k else C.wo j }
  have hle : CLe C C' := ⟨Nat.le_refl _, Nat.le_succ _, fun _ _ => ⟨rfl, rfl⟩, fun j hj => ⟨if_neg (by omega), if_neg (by omega), if_neg (by omega)⟩, GExt.refl _, GExt.refl _⟩
  have hnx : s.nx = C.M := R.M.symm
  refine ⟨C', hle, ⟨R', R.m0, R.N, by show C.M + 1 = s.nx + 1; omega, R.gb, fun j hj => ?_, R.tm.mono hle, R.fr.mono hle, R.lo.mono hle, ?_⟩, ?_⟩
  · show oneC (if j = C.M then v' else C.hd j) = true
    by_cases e : j = C.M
    · rw [if_pos e]; exact own_one md.own
    · rw [if_neg e]; exact R.hh j (by have : j < C.M + 1 := hj; omega)
  · refine OwR.snoc ?_ (R.ow.mono hle) fun w hw => ?_
    · rw [hnx]
      exact ⟨(if_pos rfl).symm, ERel.ofS he, rfl, rfl, fun _ => if_pos rfl, if_pos rfl, Nat.lt_succ_self _, pc.mono hle⟩
    · have := R.ow.lt w hw
      show w.m ≠ s.nx
      omega
  · simp only [Rep]; rw [hnx]; exact ⟨Nat.lt_succ_self _, (if_pos rfl).symm⟩
/-- One's own is written where it lies. -/
theorem RelA.rewritten (R : RelA B C LO OW s a sus W) {m : Nat} {ob : OA} (ho : findO s.ow m = some ob) {i : Nat} {X : OwnV} (hX : OW[i]? = some X) (hi : ∀ (j : Nat) (z : OA), s.ow[j]? = some z → z.m = m → j = i) {k : K} {lst : List (El k)} {l' : List Value} (hk : wd k = wd ob.k) (hlen : lst.length = ob.l.length) (hXr : OwR1 C ob X)
    (g : Grew B (gx W OW C.G) G' W W') (md : Made B (gx W OW C.G) G' X.v X.v X.e X.w X.n l') (pc : PC C k lst l') :
    RelA B C LO (OW.set i ⟨X.v, X.e, X.w, X.n, l'⟩) (s.rewrite m ⟨m, ob.e, k, lst⟩) a sus W' := by
  have R' := R.rel.madeSet (by rw [hXr.e.eqS (findO_A ho).2]; exact (findO_A ho).2) hX g md
  have e1 : ob.m = m := (own_of R ho).1
  refine ⟨R', R.m0, R.N, R.M, R.gb, R.hh, R.tm, R.fr, R.lo, ?_⟩
  refine OwR.setO (m := m) rfl ?_ (fun x X hx h => h) R.ow (findO_A ho).1 hi
  exact ⟨by rw [hXr.v, e1], hXr.e, by rw [hXr.w, hk], by rw [hXr.n, hlen], (by intro he; rw [hlen, ← e1]; exact hXr.ln he), by rw [hk, ← e1]; exact hXr.wo, by rw [← e1]; exact hXr.m, pc⟩
end
end Go.Proofs.Ytoiacgfhjikddaa.W
