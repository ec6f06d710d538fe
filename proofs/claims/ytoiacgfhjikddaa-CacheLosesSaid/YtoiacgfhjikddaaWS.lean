/- The interpreter is right, fifteenth part: loops. -/
import Derived.Test.YtoiacgfhjikddaaWR
set_option linter.unusedSimpArgs false
set_option linter.unusedVariables false
namespace Go.Proofs.Ytoiacgfhjikddaa.W
open Go.RowKit Vc

section
variable {C C' : Cx} {B : Base} {s s' : AS} {a : Act} {W W' : World} {P : Program} {LO : List Vc.Loc} {OW : List OwnV} {sus : List Act} {o : Oper} {Rt : Type} {Q : Rt → Prop} {c : Cf} {X : Exit → Act → World → Prop}

/-! ### Slots -/
theorem FrR.get : ∀ {f : List (Nat × List (Nat × AV))} {sus : List Act} {d : Nat} {g : Nat × List (Nat × AV)}, FrR C f sus → f[d]? = some g → ∃ t, sus[d]? = some t ∧ t.tmps.size = g.1 ∧ tmR C g.2 t.tmps
  | x :: r, sus, 0, g, h, hd => by
    obtain ⟨t, q, rfl, h1, h2, _⟩ := h
    simp at hd; subst hd; exact ⟨t, rfl, h1, h2⟩
  | x :: r, sus, d + 1, g, h, hd => by
    obtain ⟨t, q, rfl, _, _, h3⟩ := h
    obtain ⟨t', h4, h5⟩ := FrR.get h3 (by simpa using hd)
    exact ⟨t', by simpa using h4, h5⟩
theorem FrR.set {l : List (Nat × AV)} {n : Nat} {t : Act} (h1 : t.tmps.size = n) (h2 : tmR C l t.tmps) : ∀ {f : List (Nat × List (Nat × AV))} {sus : List Act} {d : Nat}, FrR C f sus → sus[d]? = some t → FrR C (f.set d (n, l)) sus
  | [], sus, d, h, _ => h
  | x :: r, sus, 0, h, hd => by
    obtain ⟨t', q, rfl, _, _, h3⟩ := h
    simp at hd; subst hd; exact ⟨t', q, rfl, h1, h2, h3⟩
  | x :: r, sus, d + 1, h, hd => by
    obtain ⟨t', q, rfl, h4, h5, h3⟩ := h
    exact ⟨t', q, rfl, h4, h5, FrR.set h1 h2 h3 (by simpa using hd)⟩
theorem dropA_of : ∀ {l : List (Nat × AV)} {k j : Nat} {x : AV}, k ≠ j → lookA (dropA l k) j = some x → lookA l j = some x
  | [], k, j, x, _, h => h
  | (i, y) :: r, k, j, x, hne, h => by
    simp only [dropA] at h
    rw [lookA_cons]
    cases hb : Nat.beq i k with
    | true =>
      have := Nat.eq_of_beq_eq_true hb; subst this
      simp only [hb, cond_true] at h
      rw [if_neg hne]; exact h
    | false =>
      simp only [hb, cond_false, lookA_cons] at h
      by_cases e : i = j
      · rw [if_pos e] at h ⊢; exact h
      · rw [if_neg e] at h ⊢; exact dropA_of hne h
theorem tmR.slot {l : List (Nat × AV)} {t : Array Value} (h : tmR C l t) {k : Nat} {x : AV} {v : Value} (hv : t[k]? = some v) (hr : Rep C x v) : tmR C ((k, x) :: dropA l k) t := fun j y hj => by
  rw [lookA_cons] at hj
  by_cases e : k = j
  · subst e
    rw [if_pos rfl] at hj; injection hj with hj; subst hj; exact ⟨v, hv, hr⟩
  · rw [if_neg e] at hj
    exact h j y (dropA_of e hj)
theorem slot_at (R : RelA B C LO OW s a sus W) {d k : Nat} {x : AV} (h : slotA s d k = some x) : ∃ v, Rep C x v ∧ ∀ (C' : Cx) (OW' : List OwnV) (s' : AS) (y : AV), s'.tm = s.tm → s'.fr = s.fr → RelA B C' LO OW' s' a sus W → Rep C' y v → RelA B C' LO OW' (setSlot s' d k y) a sus W := by
  unfold slotA at h
  cases d with
  | zero =>
    simp only [frame] at h
    obtain ⟨v, h1, h2⟩ := R.tm k x h
    refine ⟨v, h2, fun C' OW' s' y _ _ R' hy => ?_⟩
    exact ⟨R'.rel, R'.m0, R'.N, R'.M, R'.gb, R'.hh, R'.tm.slot h1 hy, R'.fr, R'.lo, R'.ow⟩
  | succ d =>
    simp only [frame] at h
    split at h
    · rename_i l hl
      split at hl
      · rename_i f hf
        simp only [Option.some.injEq] at hl; subst hl
        obtain ⟨t, h1, h2, h3⟩ := R.fr.get hf
        obtain ⟨v, h4, h5⟩ := h3 k x h
        refine ⟨v, h5, fun C' OW' s' y _ e R' hy => ?_⟩
        have hf' : s'.fr[d]? = some f := by rw [e]; exact hf
        obtain ⟨t', h6, h7, h8⟩ := R'.fr.get hf'
        rw [h1] at h6; injection h6 with h6; subst h6
        simp only [setSlot, hf']
        exact ⟨R'.rel, R'.m0, R'.N, R'.M, R'.gb, R'.hh, R'.tm, FrR.set h7 (h8.slot h4 hy) R'.fr h1, R'.lo, R'.ow⟩
      · cases hl
    · cases h
theorem LoR.setA : ∀ {l : List Box} {L : List Vc.Loc} {i : Nat} {x : Box} {vs : List Value}, LoR C l L → L[i]? = some ⟨vs.map .v, x.e⟩ → RepC C x.cs vs → LoR C (l.set i x) L
  | [], _, i, x, vs, h, _, hx => h
  | l :: r, L, 0, x, vs, h, hi, hx => by
    obtain ⟨us, q, rfl, h2, h3⟩ := h
    simp only [List.getElem?_cons_zero, Option.some.injEq, Vc.Loc.mk.injEq] at hi
    exact ⟨vs, q, by rw [← hi.1, hi.2], hx, h3⟩
  | l :: r, L, i + 1, x, vs, h, hi, hx => by
    obtain ⟨us, q, rfl, h2, h3⟩ := h
    exact ⟨us, q, rfl, h2, LoR.setA h3 (by simpa using hi) hx⟩
/-- A place, whose cells are said in other words. -/
theorem plSet_ok (R : RelA B C LO OW s a sus W) {p : Pl} {cs : List AV} (h : plCells s p = some cs) : ∃ vs, RepC C cs vs ∧ ∀ (C' : Cx) (OW' : List OwnV) (s' : AS) (cs' : List AV), s'.tm = s.tm → s'.fr = s.fr → s'.lo = s.lo → RelA B C' LO OW' s' a sus W → RepC C' cs' vs → RelA B C' LO OW' (plSet s' p cs') a sus W := by
  have hsl : ∀ {s' : AS} {d k : Nat}, s'.tm = s.tm → s'.fr = s.fr → slotA s' d k = slotA s d k := fun e1 e2 => by
    unfold slotA; congr 1
    rename_i d _
    cases d with
    | zero => simp [frame, e1]
    | succ d => simp [frame, e2]
  cases p with
  | t d k =>
    simp only [plCells] at h
    split at h
    · rename_i x hx
      obtain ⟨v, h1, h2⟩ := slot_at R hx
      obtain ⟨vs, h3, h4⟩ := cellsA_ok R.hh h h1
      refine ⟨vs, h4, fun C' OW' s' cs' e1 e2 e3 R' hr => ?_⟩
      simp only [plSet, hsl e1 e2, hx]
      split
      · rename_i cs0 hag
        simp only [Option.some.injEq] at hag; subst hag
        simp only [Rep] at h1
        obtain ⟨ws, rfl, _⟩ := h1
        have : ws = vs := by injection h3
        subst this
        exact h2 C' OW' s' _ e1 e2 R' (by simp only [Rep]; exact ⟨ws, rfl, hr⟩)
      · rename_i hna
        split
        · exact R'
        · rename_i y hy
          have hb : isBy y = false := by cases y <;> first | rfl | (exact absurd rfl (hy _ _))
          rw [RepC.cons hb] at hr
          obtain ⟨u, us, rfl, h5, h6, h7⟩ := hr
          simp only [RepC] at h7; subst h7
          have hxa : isAg x = false := by cases x <;> first | rfl | exact absurd rfl (hna _)
          have hv : v = u := by
            rcases isAg_of h h1 h3 R.hh with ⟨e, _⟩ | ⟨_, e⟩
            · rw [hxa] at e; cases e
            · injection e with e; exact e.symm
          subst hv
          exact h2 C' OW' s' _ e1 e2 R' h6
        · exact R'
    · cases h
  | x d k =>
    simp only [plCells] at h
    split at h
    · rename_i i hx
      unfold cellsOf at h
      split at h
      · rename_i l hl
        simp only [Option.some.injEq] at h; subst h
        obtain ⟨vs, h1, h2⟩ := R.lo.get hl
        refine ⟨vs, h2, fun C' OW' s' cs' e1 e2 e3 R' hr => ?_⟩
        have hl' : s'.lo[i]? = some l := by rw [e3]; exact hl
        simp only [plSet, hsl e1 e2, hx, hl']
        exact ⟨R'.rel, R'.m0, by simpa using R'.N, R'.M, R'.gb, R'.hh, R'.tm, R'.fr, R'.lo.setA (x := ⟨cs', l.e⟩) h1 hr, R'.ow⟩
      · cases h
    · cases h

/-! ### What is forgotten at a loop's head -/
theorem keepT_of {d : Nat} : ∀ {l : List (Nat × Nat)} {k : Nat} {x : AV}, lookA (keepT s d l) k = some x → slotA s d k = some x
  | [], k, x, h => by cases h
  | (d', j) :: r, k, x, h => by
    simp only [keepT] at h
    cases hb : Nat.beq d d' with
    | false => simp only [hb, cond_false] at h; exact keepT_of h
    | true =>
      simp only [hb, cond_true] at h
      split at h
      · rename_i y hy
        rw [lookA_cons] at h
        by_cases e : j = k
        · subst e; rw [if_pos rfl] at h; injection h with h; subst h; exact hy
        · rw [if_neg e] at h; exact keepT_of h
      · exact keepT_of h
theorem keepFr_ok (l : List (Nat × Nat)) : ∀ {f : List (Nat × List (Nat × AV))} {sus : List Act} {d : Nat}, FrR C f sus → (∀ i x, f[i]? = some x → ∀ k y, slotA s (d + i) k = some y → lookA x.2 k = some y) → FrR C (keepFr s l d f) sus
  | [], sus, d, h, _ => h
  | x :: r, sus, d, h, hs => by
    obtain ⟨t, q, rfl, h1, h2, h3⟩ := h
    exact ⟨t, q, rfl, h1, fun k y hk => h2 k y (hs 0 x rfl k y (keepT_of hk)), keepFr_ok l h3 fun i z hi k y hy => hs (i + 1) z (by simpa using hi) k y (by rw [show d + (i + 1) = d + 1 + i by omega]; exact hy)⟩
theorem blanks_ok : ∀ {cs : List AV} {vs : List Value}, RepC C cs vs → RepC C (blanks cs) vs
  | [], vs, h => h
  | x :: r, vs, h => by
    have bad : ∀ {n : Nat} {us ws : List Value}, us.length = n → (∀ u ∈ us, oneC u = true) → RepC C (blanks r) ws → RepC C (List.replicate n .bad ++ blanks r) (us ++ ws) := by
      intro n
      induction n with
      | zero => intro us ws hl _ h; have := List.eq_nil_of_length_eq_zero hl; subst this; simpa using h
      | succ n ih =>
        intro us ws hl h1 h
        cases us with
        | nil => simp at hl
        | cons u us =>
          rw [List.replicate_succ, List.cons_append, RepC.cons rfl]
          exact ⟨u, us ++ ws, rfl, h1 u (by simp), by simp [Rep], ih (by simpa using hl) (fun u hu => h1 u (by simp [hu])) h⟩
    cases hx : isBy x with
    | true =>
      obtain ⟨n, l, rfl⟩ := isBy_of hx
      rw [RepC.by_] at h
      obtain ⟨us, h1, rfl, h3⟩ := h
      exact bad (by rw [bts_length]; exact h1) (fun u hu => by
        obtain ⟨i, hi⟩ := List.getElem?_of_mem hu
        rw [bts_get] at hi
        cases hl : l[i]? with
        | none => simp [hl] at hi
        | some z => simp [hl] at hi; rw [← hi]; rfl) (blanks_ok h3)
    | false =>
      rw [RepC.cons hx] at h
      obtain ⟨v, us, rfl, h1, h2, h3⟩ := h
      have e : blanks (x :: r) = .bad :: blanks r := by cases x <;> first | rfl | simp [isBy] at hx
      rw [e, RepC.cons rfl]
      exact ⟨v, us, rfl, h1, by simp [Rep], blanks_ok h3⟩
theorem blankLo_ok {S : List Nat} : ∀ {l : List Box} {L : List Vc.Loc} {i : Nat}, LoR C l L → LoR C (blankLo S i l) L
  | [], L, i, h => h
  | x :: r, L, i, h => by
    obtain ⟨vs, q, rfl, h2, h3⟩ := h
    simp only [blankLo]
    cases memB i S with
    | true => exact ⟨vs, q, rfl, h2, blankLo_ok h3⟩
    | false => exact ⟨vs, q, rfl, blanks_ok h2, blankLo_ok h3⟩
theorem blankLo_len {S : List Nat} : ∀ {l : List Box} {i : Nat}, (blankLo S i l).length = l.length
  | [], i => rfl
  | x :: r, i => by simp [blankLo, blankLo_len (l := r)]
theorem keepO_ok {S : List Nat} : ∀ {l : List OA} {L : List OwnV}, OwR C l L → ∃ L', L'.Sublist L ∧ OwR C (keepO S l) L' ∧ ∀ x ∈ keepO S l, x ∈ l
  | [], L, h => ⟨[], List.nil_sublist _, rfl, by simp [keepO]⟩
  | o :: r, L, h => by
    obtain ⟨O, q, rfl, h2, h3, h4⟩ := h
    obtain ⟨L', h5, h6, h7⟩ := keepO_ok (S := S) h4
    simp only [keepO]
    cases memB o.m S with
    | true => exact ⟨O :: L', h5.cons_cons O, ⟨O, L', rfl, h2, fun y hy => h3 y (h7 y hy), h6⟩, fun y hy => by
        rcases List.mem_cons.1 hy with rfl | hy
        · simp
        · exact List.mem_cons_of_mem _ (h7 y hy)⟩
    | false => exact ⟨L', h5.cons O, h6, fun y hy => List.mem_cons_of_mem _ (h7 y hy)⟩
theorem RelA.trim (R : RelA B C LO OW s a sus W) : ∃ OW', RelA B C LO OW' (trim s) a sus W := by
  obtain ⟨OW', h1, h2, _⟩ := keepO_ok (S := inTm oas s.tm ++ inFr oas s.fr ++ inLo oass (reach s.lo 4 (join2 (inTm bxs s.tm ++ inFr bxs s.fr) [])) 0 s.lo) R.ow
  exact ⟨OW', Rel.take R.rel h1, R.m0, by have := R.N; show C.N = (blankLo _ 0 s.lo).length; rw [blankLo_len]; exact this, R.M, R.gb, R.hh, R.tm, R.fr, blankLo_ok R.lo, h2⟩
theorem RelA.head (R : RelA B C LO OW s a sus W) (l : List (Nat × Nat)) : ∃ OW', RelA B C LO OW' (head s l) a sus W := by
  have R1 : RelA B C LO OW { s with tm := keepT s 0 l, fr := keepFr s l 1 s.fr } a sus W :=
    ⟨R.rel, R.m0, R.N, R.M, R.gb, R.hh, fun k x hk => R.tm k x (keepT_of hk), keepFr_ok l R.fr fun i x hi k y hy => by
      unfold slotA at hy
      rw [show 1 + i = i + 1 by omega] at hy
      simp only [frame, hi] at hy; exact hy, R.lo, R.ow⟩
  exact R1.trim

/-! ### What is nil becomes one's own -/
theorem RepC.split : ∀ {l r : List AV} {vs : List Value}, RepC C (l ++ r) vs → ∃ us ws, vs = us ++ ws ∧ RepC C l us ∧ RepC C r ws
  | [], r, vs, h => ⟨[], vs, rfl, by simp [RepC], h⟩
  | x :: l, r, vs, h => by
    obtain ⟨us, ws, rfl, _, h1, h2⟩ := RepC.head (show RepC C (x :: (l ++ r)) vs from h)
    obtain ⟨u2, w2, rfl, h3, h4⟩ := RepC.split h2
    exact ⟨us ++ u2, w2, by simp, by rw [← List.singleton_append]; exact RepC.join h1 h3, h4⟩
theorem owned_ok : ∀ {k : K} {cs : List AV} {vs : List Value} {C : Cx} {OW : List OwnV} {s : AS}, RelA B C LO OW s a sus W → RepC C cs vs →
    ∃ C' OW', CLe C C' ∧ RelA B C' LO OW' (owned k cs s).2.2 a sus W ∧ RepC C' ((owned k cs s).1 ++ (owned k cs s).2.1) vs ∧ (owned k cs s).2.2.tm = s.tm ∧ (owned k cs s).2.2.fr = s.fr ∧ (owned k cs s).2.2.lo = s.lo := by
  intro k
  have keep : ∀ {k : K}, (∀ x r s, owned k (x :: r) s = ([x], r, s)) → (∀ s, owned k [] s = ([], [], s)) → ∀ {cs : List AV} {vs : List Value} {C : Cx} {OW : List OwnV} {s : AS}, RelA B C LO OW s a sus W → RepC C cs vs →
      ∃ C' OW', CLe C C' ∧ RelA B C' LO OW' (owned k cs s).2.2 a sus W ∧ RepC C' ((owned k cs s).1 ++ (owned k cs s).2.1) vs ∧ (owned k cs s).2.2.tm = s.tm ∧ (owned k cs s).2.2.fr = s.fr ∧ (owned k cs s).2.2.lo = s.lo := fun {k} h1 h2 {cs vs C OW s} R h => by
    cases cs with
    | nil => rw [h2]; exact ⟨C, OW, CLe.refl C, R, h, rfl, rfl, rfl⟩
    | cons x r => rw [h1]; exact ⟨C, OW, CLe.refl C, R, h, rfl, rfl, rfl⟩
  induction k with
  | sn e k ih =>
    intro cs vs C OW s R h
    cases cs with
    | nil => exact ⟨C, OW, CLe.refl C, R, h, rfl, rfl, rfl⟩
    | cons x r =>
      simp only [owned]
      cases hn : (isNilA x && Nat.blt e objMark) with
      | false => exact ⟨C, OW, CLe.refl C, R, h, rfl, rfl, rfl⟩
      | true =>
        simp only [Bool.and_eq_true] at hn
        have hx := isNilA_of hn.1; subst hx
        simp only [cond_true]
        rw [RepC.cons rfl] at h
        obtain ⟨v, us, rfl, h1, h2, h3⟩ := h
        simp only [Rep] at h2; subst h2
        obtain ⟨C', c1, _, _, _, R', hr⟩ := R.adopt1 (k := k) (l := []) (e := e) (R.rel.own0 e (wd k) (blt_iff.1 hn.2)) rfl (Nat.le_trans (Nat.le_of_lt (blt_iff.1 hn.2)) (by decide)) (PC.nil)
        exact ⟨C', _, c1, R', by rw [List.singleton_append, RepC.cons rfl]; exact ⟨_, us, rfl, rfl, hr, h3.mono c1⟩, rfl, rfl, rfl⟩
  | u =>
    intro cs vs C OW s R h
    exact ⟨C, OW, CLe.refl C, R, h, rfl, rfl, rfl⟩
  | p x y ih1 ih2 =>
    intro cs vs C OW s R h
    simp only [owned]
    obtain ⟨C1, OW1, c1, R1, h1, e1, e2, e3⟩ := ih1 R h
    obtain ⟨p, q, rfl, h2, h3⟩ := RepC.split h1
    obtain ⟨C2, OW2, c2, R2, h4, e4, e5, e6⟩ := ih2 R1 h3
    exact ⟨C2, OW2, c1.trans c2, R2, by rw [List.append_assoc]; exact RepC.join (h2.mono c2) h4, e4.trans e1, e5.trans e2, e6.trans e3⟩
  | _ => exact keep (fun _ _ _ => rfl) (fun _ => rfl)
theorem plOwn_ok : ∀ {l : List (Pl × K)} {C : Cx} {OW : List OwnV} {s : AS}, RelA B C LO OW s a sus W → ∃ C' OW', RelA B C' LO OW' (plOwn l s) a sus W
  | [], C, OW, s, R => ⟨C, OW, R⟩
  | (p, k) :: r, C, OW, s, R => by
    simp only [plOwn]
    split
    · rename_i cs hcs
      obtain ⟨vs, h1, h2⟩ := plSet_ok R hcs
      obtain ⟨C1, OW1, c1, R1, h3, e1, e2, e3⟩ := owned_ok (k := k) R h1
      split
      · rename_i hnil
        rw [hnil, List.append_nil] at h3
        exact plOwn_ok (h2 C1 OW1 _ _ e1 e2 e3 R1 h3)
      · exact plOwn_ok R
    · exact plOwn_ok R

/-! ### States of which the same is said -/
def AllP (l : List Prop) : Prop := ∀ p ∈ l, p
theorem AllP.one {p : Prop} (h : AllP [p]) : p := h p (by simp)
theorem AllP.app {l r : List Prop} (h : AllP (l ++ r)) : AllP l ∧ AllP r := ⟨fun p hp => h p (List.mem_append_left _ hp), fun p hp => h p (List.mem_append_right _ hp)⟩
theorem AllP.cons {p : Prop} {r : List Prop} (h : AllP (p :: r)) : p ∧ AllP r := ⟨h p (by simp), fun q hq => h q (List.mem_cons_of_mem _ hq)⟩
theorem conj_all : ∀ {l : List Prop}, conj l → AllP l
  | [], _ => fun _ h => by cases h
  | [p], h => fun q hq => by simp only [List.mem_singleton] at hq; subst hq; exact h
  | p :: q :: r, h => fun x hx => by
    obtain ⟨h1, h2⟩ : p ∧ conj (q :: r) := h
    rcases List.mem_cons.1 hx with rfl | hx
    · exact h1
    · exact conj_all h2 x hx
structure SC (C C' : Cx) (N M : Nat) : Prop where
  E : C'.E = C.E
  N : C'.N = N
  M : C'.M = M
  hd : C'.hd = C.hd
  ln : C'.ln = C.ln
  wo : C'.wo = C.wo
  Gb : C'.Gb = C.Gb
  G : C'.G = C.G
theorem SC.g {N M : Nat} (f : SC C C' N M) (q : Nat) : C'.g q = C.g q := by cases q; exact f.Gb; exact f.G
mutual
theorem same_ok {N M : Nat} (f : SC C C' N M) : ∀ {x y : AV} {p : List Prop} {v : Value}, same N M x y = some p → AllP p → Rep C x v → Rep C' y v
  | .v x, y, p, v, h, hp, hr => by
    cases y with
    | v z =>
      simp only [Rep] at hr ⊢
      subst hr
      simp only [same] at h
      split at h
      · split at h
        · rename_i k a k' b e
          subst e
          injection h with h; subst h; rw [AllP.one hp]
        · cases h
      · injection h with h; subst h; rw [AllP.one hp]
      · injection h with h; subst h; rw [AllP.one hp]
      · injection h with h; subst h; exact AllP.one hp
    | bad => simp [Rep]
    | _ => cases h
  | .by_ n l, y, p, v, h, hp, hr => by simp [Rep] at hr
  | .sl q k l, y, p, v, h, hp, hr => by
    cases y with
    | sl q' k' l' =>
      simp only [same] at h
      cases hb : Nat.beq q q' with
      | false => simp [hb] at h
      | true =>
        have := Nat.eq_of_beq_eq_true hb; subst this
        simp only [hb, cond_true] at h
        split at h
        · rename_i e; subst e
          injection h with h; subst h
          simp only [Rep] at hr ⊢
          have hp := AllP.one hp; rw [castL_rfl] at hp; subst hp
          rw [f.g, f.Gb]; exact hr
        · cases h
    | bad => simp [Rep]
    | _ => cases h
  | .lp i o, y, p, v, h, hp, hr => by
    cases y with
    | lp i' o' =>
      simp only [same] at h
      cases hb : (Nat.beq i i' && Nat.beq o o' && Nat.blt i N) with
      | false => simp [hb] at h
      | true =>
        simp only [Bool.and_eq_true] at hb
        have e1 := Nat.eq_of_beq_eq_true hb.1.1; have e2 := Nat.eq_of_beq_eq_true hb.1.2; subst e1; subst e2
        simp only [Rep] at hr ⊢
        rw [f.E, f.N]; exact ⟨blt_iff.1 hb.2, hr.2⟩
    | bad => simp [Rep]
    | _ => cases h
  | .ov m, y, p, v, h, hp, hr => by
    cases y with
    | ov m' =>
      simp only [same] at h
      cases hb : (Nat.beq m m' && Nat.blt m M) with
      | false => simp [hb] at h
      | true =>
        simp only [Bool.and_eq_true] at hb
        have e1 := Nat.eq_of_beq_eq_true hb.1; subst e1
        simp only [Rep] at hr ⊢
        rw [f.hd, f.M]; exact ⟨blt_iff.1 hb.2, hr.2⟩
    | bad => simp [Rep]
    | _ => cases h
  | .fn g cs, y, p, v, h, hp, hr => by
    cases y with
    | fn g' cs' =>
      simp only [same] at h
      cases hb : Nat.beq g g' with
      | false => simp [hb] at h
      | true =>
        have e1 := Nat.eq_of_beq_eq_true hb; subst e1
        simp only [hb, cond_true] at h
        simp only [Rep] at hr ⊢
        obtain ⟨vs, h1, h2⟩ := hr
        exact ⟨vs, h1, samesL_ok f h hp h2⟩
    | bad => simp [Rep]
    | _ => cases h
  | .ag cs, y, p, v, h, hp, hr => by
    cases y with
    | ag cs' =>
      simp only [same] at h
      simp only [Rep] at hr ⊢
      obtain ⟨vs, h1, h2⟩ := hr
      exact ⟨vs, h1, sames_ok f h hp h2⟩
    | bad => simp [Rep]
    | _ => cases h
  | .fp q k z off, y, p, v, h, hp, hr => by cases y <;> first | (simp [Rep]; done) | cases h
  | .lb i off n j, y, p, v, h, hp, hr => by cases y <;> first | (simp [Rep]; done) | cases h
  | .ls i off n, y, p, v, h, hp, hr => by cases y <;> first | (simp [Rep]; done) | cases h
  | .os m w lo hi, y, p, v, h, hp, hr => by cases y <;> first | (simp [Rep]; done) | cases h
  | .op m w j off, y, p, v, h, hp, hr => by cases y <;> first | (simp [Rep]; done) | cases h
  | .tup cs, y, p, v, h, hp, hr => by cases y <;> first | (simp [Rep]; done) | cases h
  | .bad, y, p, v, h, hp, hr => by cases y <;> first | (simp [Rep]; done) | cases h
theorem samesL_ok {N M : Nat} (f : SC C C' N M) : ∀ {x y : List AV} {p : List Prop} {vs : List Value}, samesL N M x y = some p → AllP p → RepL C x vs → RepL C' y vs
  | [], [], p, vs, h, hp, hr => by simpa [RepL] using hr
  | x :: r, y :: q, p, vs, h, hp, hr => by
    simp only [samesL] at h
    split at h
    · rename_i p1 p2 h1 h2
      injection h with h; subst h
      simp only [RepL] at hr ⊢
      obtain ⟨v, us, rfl, h3, h4⟩ := hr
      exact ⟨v, us, rfl, same_ok f h1 (AllP.app hp).1 h3, samesL_ok f h2 (AllP.app hp).2 h4⟩
    · cases h
  | [], _ :: _, p, vs, h, _, _ => by cases h
  | _ :: _, [], p, vs, h, _, _ => by cases h
theorem sames_ok {N M : Nat} (f : SC C C' N M) : ∀ {x y : List AV} {p : List Prop} {vs : List Value}, sames N M x y = some p → AllP p → RepC C x vs → RepC C' y vs
  | [], [], p, vs, h, hp, hr => by simpa [RepC] using hr
  | x :: r, y :: q, p, vs, h, hp, hr => by
    cases hx : isBy x with
    | true =>
      obtain ⟨n, l, rfl⟩ := isBy_of hx
      cases hy : isBy y with
      | true =>
        obtain ⟨n', l', rfl⟩ := isBy_of hy
        simp only [sames] at h
        cases hb : Nat.beq n n' with
        | false => simp [hb] at h
        | true =>
          have e1 := Nat.eq_of_beq_eq_true hb; subst e1
          simp only [hb, cond_true] at h
          split at h
          · rename_i p2 h2
            injection h with h; subst h
            rw [RepC.by_] at hr ⊢
            obtain ⟨us, h3, h4, h5⟩ := hr
            obtain ⟨e, hp2⟩ := AllP.cons hp
            subst e
            exact ⟨us, h3, h4, sames_ok f h2 hp2 h5⟩
          · cases h
      | false => cases y <;> first | (simp [isBy] at hy; done) | cases h
    | false =>
      cases hy : isBy y with
      | true => cases y <;> first | (simp [isBy] at hy; done) | (cases x <;> first | (simp [isBy] at hx; done) | cases h)
      | false =>
        have e : sames N M (x :: r) (y :: q) = (match same N M x y, sames N M r q with | some a, some b => some (a ++ b) | _, _ => none) := by
          cases x <;> first | (simp [isBy] at hx; done) | (cases y <;> first | (simp [isBy] at hy; done) | rfl)
        rw [e] at h
        split at h
        · rename_i p1 p2 h1 h2
          injection h with h; subst h
          rw [RepC.cons hx] at hr
          rw [RepC.cons hy]
          obtain ⟨v, us, rfl, h3, h4, h5⟩ := hr
          exact ⟨v, us, rfl, h3, same_ok f h1 (AllP.app hp).1 h4, sames_ok f h2 (AllP.app hp).2 h5⟩
        · cases h
  | [], _ :: _, p, vs, h, _, _ => by cases h
  | x :: _, [], p, vs, h, _, _ => by cases x <;> cases h
end
theorem sameTm_ok {N M : Nat} (f : SC C C' N M) {l : List (Nat × AV)} {t : Array Value} (hr : tmR C l t) : ∀ {q : List (Nat × AV)} {p : List Prop}, sameTm N M l q = some p → AllP p → tmR C' q t
  | [], p, h, hp => fun k x hk => by cases hk
  | (j, y) :: q, p, h, hp => by
    simp only [sameTm] at h
    split at h
    · rename_i b hb
      split at h
      · rename_i p1 p2 h1 h2
        injection h with h; subst h
        intro k x hk
        rw [lookA_cons] at hk
        by_cases e : j = k
        · subst e
          rw [if_pos rfl] at hk; injection hk with hk; subst hk
          obtain ⟨v, h3, h4⟩ := hr j b hb
          exact ⟨v, h3, same_ok f h1 (AllP.app hp).1 h4⟩
        · rw [if_neg e] at hk
          exact sameTm_ok f hr h2 (AllP.app hp).2 k x hk
      · cases h
    · cases h
theorem sameFr_ok {N M : Nat} (f : SC C C' N M) : ∀ {l q : List (Nat × List (Nat × AV))} {sus : List Act} {p : List Prop}, sameFr N M l q = some p → AllP p → FrR C l sus → FrR C' q sus
  | [], [], sus, p, h, hp, hr => hr
  | x :: r, y :: q, sus, p, h, hp, hr => by
    simp only [sameFr] at h
    cases hb : Nat.beq x.1 y.1 with
    | false => simp [hb] at h
    | true =>
      simp only [hb, cond_true] at h
      split at h
      · rename_i p1 p2 h1 h2
        injection h with h; subst h
        obtain ⟨t, q', rfl, h3, h4, h5⟩ := hr
        exact ⟨t, q', rfl, by rw [h3]; exact Nat.eq_of_beq_eq_true hb, sameTm_ok f h4 h1 (AllP.app hp).1, sameFr_ok f h2 (AllP.app hp).2 h5⟩
      · cases h
  | [], _ :: _, sus, p, h, _, _ => by cases h
  | _ :: _, [], sus, p, h, _, _ => by cases h
theorem allBad_ok : ∀ {cs : List AV} {vs : List Value}, allBad cs = true → vs.length = cs.length → (∀ u ∈ vs, oneC u = true) → RepC C cs vs
  | [], vs, _, hl, _ => by simp only [RepC]; exact List.eq_nil_of_length_eq_zero hl
  | x :: r, vs, h, hl, h1 => by
    cases x with
    | bad =>
      cases vs with
      | nil => simp at hl
      | cons v us =>
        rw [RepC.cons rfl]
        exact ⟨v, us, rfl, h1 v (by simp), by simp [Rep], allBad_ok h (by simpa using hl) fun u hu => h1 u (by simp [hu])⟩
    | _ => simp [allBad] at h
theorem sameLo_ok {N M : Nat} (f : SC C C' N M) : ∀ {l q : List Box} {L : List Vc.Loc} {p : List Prop}, sameLo N M l q = some p → AllP p → LoR C l L → q.length ≤ L.length ∧ LoR C' q (L.take q.length)
  | l, [], L, p, h, hp, hr => ⟨Nat.zero_le _, by simp [LoR]⟩
  | x :: r, y :: q, L, p, h, hp, hr => by
    simp only [sameLo] at h
    cases hb : Nat.beq x.e y.e with
    | false => simp [hb] at h
    | true =>
      have e := Nat.eq_of_beq_eq_true hb
      simp only [hb, cond_true] at h
      cases hbd : (allBad y.cs && Nat.beq (widths x.cs) y.cs.length) with
      | true =>
        simp only [hbd, cond_true] at h
        simp only [Bool.and_eq_true] at hbd
        obtain ⟨vs, q', rfl, h4, h5⟩ := hr
        obtain ⟨h6, h7⟩ := sameLo_ok f h hp h5
        exact ⟨by simp; exact h6, vs, _, by rw [← e]; rfl, allBad_ok hbd.1 (by rw [h4.len]; exact Nat.eq_of_beq_eq_true hbd.2) h4.one, h7⟩
      | false =>
      simp only [hbd, cond_false] at h
      split at h
      · rename_i p1 p2 h1 h2
        injection h with h; subst h
        obtain ⟨vs, q', rfl, h4, h5⟩ := hr
        obtain ⟨h6, h7⟩ := sameLo_ok f h2 (AllP.app hp).2 h5
        exact ⟨by simp; exact h6, vs, _, by rw [← e]; rfl, sames_ok f h1 (AllP.app hp).1 h4, h7⟩
      · cases h
  | [], _ :: _, L, p, h, _, _ => by cases h
theorem sameOw_ok {N M : Nat} (f : SC C C' N M) : ∀ {l q : List OA} {L : List OwnV} {p : List Prop}, sameOw M l q = some p → AllP p → OwR C l L → ∃ L', L'.Sublist L ∧ OwR C' q L' ∧ ∀ x ∈ q, ∃ y ∈ l, y.m = x.m
  | l, [], L, p, h, hp, hr => ⟨[], List.nil_sublist _, rfl, by simp⟩
  | o :: r, x :: q, L, p, h, hp, hr => by
    obtain ⟨O, L1, rfl, h1, h2, h3⟩ := hr
    simp only [sameOw] at h
    cases hb : Nat.beq o.m x.m with
    | false =>
      simp only [hb, cond_false] at h
      obtain ⟨L', h4, h5, h6⟩ := sameOw_ok f h hp h3
      exact ⟨L', h4.cons O, h5, fun y hy => by obtain ⟨z, hz, e⟩ := h6 y hy; exact ⟨z, List.mem_cons_of_mem _ hz, e⟩⟩
    | true =>
      have em := Nat.eq_of_beq_eq_true hb
      simp only [hb, cond_true] at h
      cases hb2 : (Nat.beq o.e x.e && Nat.blt o.m M && (Nat.ble o.e iterMark || Nat.blt (o.e - iterMark - 1) M)) with
      | false => simp [hb2] at h
      | true =>
        simp only [hb2, cond_true] at h
        simp only [Bool.and_eq_true, Bool.or_eq_true] at hb2
        have ee := Nat.eq_of_beq_eq_true hb2.1.1
        split at h
        · rename_i ek
          split at h
          · rename_i p2 hp2
            injection h with h; subst h
            obtain ⟨L', h4, h5, h6⟩ := sameOw_ok f hp2 (AllP.cons hp).2 h3
            refine ⟨O :: L', h4.cons_cons O, ⟨O, L', rfl, ?_, fun y hy => ?_, h5⟩, fun y hy => ?_⟩
            · obtain ⟨om, oe, ok, ol⟩ := o
              obtain ⟨xm, xe, xk, xl⟩ := x
              dsimp only at em ee ek hp
              subst em; subst ee; subst ek
              obtain ⟨e, _⟩ := AllP.cons hp
              rw [castL_rfl] at e; subst e
              exact ⟨by rw [f.hd]; exact h1.v, (by
                rcases h1.e with h | ⟨h7, h8, b, h9, h10⟩
                · exact .inl h
                · rcases hb2.2 with h | h
                  · exact absurd h7 (Nat.not_lt.2 (Nat.le_of_ble_eq_true h))
                  · exact .inr ⟨h7, by rw [f.M]; exact blt_iff.1 h, b, by rw [f.hd]; exact h9, h10⟩), h1.w, h1.n, (by intro he; rw [f.ln]; exact h1.ln he), by rw [f.wo]; exact h1.wo, by rw [f.M]; exact blt_iff.1 hb2.1.2, fun i hi => by rw [f.Gb, f.G]; exact h1.pc i hi⟩
            · obtain ⟨z, hz, e⟩ := h6 y hy
              rw [← e, ← em]; exact h2 z hz
            · rcases List.mem_cons.1 hy with rfl | hy
              · exact ⟨o, by simp, em⟩
              · obtain ⟨z, hz, e⟩ := h6 y hy; exact ⟨z, List.mem_cons_of_mem _ hz, e⟩
          · cases h
        · cases h
  | [], _ :: _, L, p, h, _, _ => by cases h
/-- A state of which less, or the same in other words, is said. -/
theorem sameS_ok (R : RelA B C LO OW s a sus W) {h : AS} {p : List Prop} (hs : sameS s h = some p) (hp : AllP p) : ∃ C' LO' OW', RelA B C' LO' OW' h a sus W := by
  unfold sameS at hs
  cases hb : (Nat.beq s.n h.n && Nat.ble h.nx s.nx) with
  | false => simp [hb] at hs
  | true =>
    simp only [hb, cond_true] at hs
    simp only [Bool.and_eq_true] at hb
    have en := Nat.eq_of_beq_eq_true hb.1
    have ex := Nat.le_of_ble_eq_true hb.2
    split at hs
    · rename_i p1 p2 p3 p4 h1 h2 h3 h4
      injection hs with hs; subst hs
      let C' : Cx := { C with N := h.lo.length, M := h.nx }
      have f : SC C C' h.lo.length h.nx := ⟨rfl, rfl, rfl, rfl, rfl, rfl, rfl, rfl⟩
      obtain ⟨h5, h6⟩ := sameLo_ok f h3 (AllP.app (AllP.app hp).1).2 R.lo
      obtain ⟨OW', h7, h8, _⟩ := sameOw_ok f h4 (AllP.app hp).2 R.ow
      refine ⟨C', LO.take h.lo.length, OW', ⟨?_, R.m0, rfl, rfl, R.gb, fun m hm => R.hh m (by have := R.M; have : m < h.nx := hm; omega), sameTm_ok f R.tm h1 (AllP.app (AllP.app (AllP.app hp).1).1).1, sameFr_ok f h2 (AllP.app (AllP.app (AllP.app hp).1).1).2 R.fr, h6, h8⟩⟩
      refine Rel.le R.rel ⟨by exact en.symm, fun k s hk => hk, ⟨LO.drop h.lo.length, by simp⟩, h7⟩ (by rw [R.m0]; exact Nat.zero_le _)
    · cases hs

/-! ### Loops -/
theorem nilOne_ok (R : RelA B C LO OW s a sus W) (s0 : AS) (p : Pl) (k : K) : ∃ C' OW', RelA B C' LO OW' (nilOne s0 p k s) a sus W := by
  unfold nilOne
  split
  · rename_i j e k
    split
    · rename_i m x h0 hx
      cases hn : isNilA x with
      | false => exact ⟨C, OW, R⟩
      | true =>
        simp only [cond_true]
        split
        · rename_i o ho
          cases hw : (Nat.beq (wd k) (wd o.k) && Nat.blt e objMark) with
          | false => exact ⟨C, OW, R⟩
          | true =>
            simp only [cond_true]
            simp only [Bool.and_eq_true] at hw
            obtain ⟨e1, i, X, h1, h2, h3, h4⟩ := own_of R ho
            obtain ⟨C', R', hr⟩ := R.renewed (G' := gx W OW C.G) (W' := W) ho h1 h4 (k := k) (lst := []) (v' := .slice none 0 0) (e := e) (l' := []) (blt_iff.1 hw.2) (Nat.eq_of_beq_eq_true hw.1)
              ⟨fun _ _ _ => rfl, fun _ _ h => h, fun k o h => R.rel.gx_sub k o h, fun _ _ => rfl, fun _ _ => rfl, rfl, rfl, rfl, Nat.le_refl _⟩ ⟨Own.nil _ _ _ _, fun _ _ h _ => h, .inr fun b hb => by cases hb⟩ PC.nil
            obtain ⟨v, hv, hrv⟩ := R.tm j x hx
            rw [isNilA_of hn] at hrv
            have hv' : v = .slice none 0 0 := by simpa [Rep] using hrv
            subst hv'
            refine ⟨C', _, { R' with tm := fun q y hq => ?_ }⟩
            rw [lookA_cons] at hq
            by_cases e : j = q
            · subst e
              rw [if_pos rfl] at hq; injection hq with hq; subst hq
              exact ⟨_, hv, hr⟩
            · rw [if_neg e] at hq; exact R'.tm q y hq
        · exact ⟨C, OW, R⟩
    · exact ⟨C, OW, R⟩
  · exact ⟨C, OW, R⟩
theorem plNil_ok (s0 : AS) : ∀ (l : List (Pl × K)) {C : Cx} {OW : List OwnV} {s : AS}, RelA B C LO OW s a sus W → ∃ C' OW', RelA B C' LO OW' (plNil s0 l s) a sus W
  | [], C, OW, s, R => ⟨C, OW, R⟩
  | (p, k) :: r, C, OW, s, R => by
    obtain ⟨C1, OW1, R1⟩ := nilOne_ok R s0 p k
    exact plNil_ok s0 r R1
theorem trOne_ok (R : RelA B C LO OW s a sus W) (p : Pl) (k : K) : ∃ C' OW', RelA B C' LO OW' (trOne p k s) a sus W := by
  unfold trOne
  split
  · rename_i j e k
    split
    · rename_i m w lo hi hx
      split
      · rename_i o ho
        cases hw : (Nat.beq lo 0 && Nat.ble hi o.l.length && Nat.beq o.e e) with
        | false => exact ⟨C, OW, R⟩
        | true =>
          simp only [cond_true]
          simp only [Bool.and_eq_true] at hw
          have hlo := Nat.eq_of_beq_eq_true hw.1.1; subst hlo
          have hhi := Nat.le_of_ble_eq_true hw.1.2
          have hoe := Nat.eq_of_beq_eq_true hw.2
          split
          · rename_i hk
            subst hk; subst hoe
            obtain ⟨e1, i, X, h1, h2, h3, h4⟩ := own_of R ho
            obtain ⟨v, hv, hrv⟩ := R.tm j _ hx
            simp only [Rep] at hrv
            obtain ⟨_, _, hln, hwo, rfl⟩ := hrv
            have hwd : w = wd o.k := by rw [hwo, ← e1]; exact h2.wo
            have hXv : X.v = C.hd m := by rw [h2.v, e1]
            have hem := (findO_A ho).2
            have hown : Own (gx W OW C.G) B.n0 (subAt (C.hd m) w 0 hi) o.e (wd o.k) hi (X.l.take (hi * wd o.k)) := by
              rw [hXv, h2.w, h2.n] at h3
              rw [subAt_eq]
              have hlen := h3.len
              refine ⟨by rw [List.length_take, hlen]; exact Nat.min_eq_left (Nat.mul_le_mul_right _ hhi), ?_⟩
              rcases h3.at_ with ⟨oa, h5, h6⟩ | ⟨b, c, L, h5, h6, h7, h8, h9, h10, h11, h12⟩
              · refine .inl ⟨oa, ?_, by omega⟩
                rw [h5]; have : hi = 0 := by omega
                subst this
                cases oa <;> simp [subAtD]
              · refine .inr ⟨b, c, L, ?_, h6, h7, by rw [h8, h2.e.eqS hem], by omega, h10, h11, ?_⟩
                · rw [h5]; simp [subAtD, add_none]
                · rw [h12, List.take_take, Nat.min_eq_left (Nat.mul_le_mul_right _ hhi)]
            have hlt : (o.l.take hi).length = hi := by rw [List.length_take]; omega
            obtain ⟨C', R', hr⟩ := R.renewed (G' := gx W OW C.G) (W' := W) ho h1 h4 (k := o.k) (lst := o.l.take hi) (v' := subAt (C.hd m) w 0 hi) (e := o.e) (l' := X.l.take (hi * wd o.k)) hem rfl
              ⟨fun _ _ _ => rfl, fun _ _ h => h, fun k o h => R.rel.gx_sub k o h, fun _ _ => rfl, fun _ _ => rfl, rfl, rfl, rfl, Nat.le_refl _⟩ ⟨by rw [hlt]; exact hown, fun _ _ h _ => h, .inl (by
                rcases h3.at_ with ⟨oa, h5, h6⟩ | ⟨b, c, L, h5, h6, _⟩
                · rw [← hXv, h5, subAt_eq]; cases oa <;> simp [subAtD, blk] <;> (split <;> simp_all <;> omega)
                · rw [← hXv, h5, subAt_eq]
                  simp only [subAtD, Nat.sub_zero, Nat.zero_mul, add_none, Nat.add_zero, ite_self]
                  rw [blk_some h6, blk_some h6])⟩ (by
                have := h2.pc.sub (lo := 0) (hi := hi) (Nat.zero_le _) hhi
                simpa using this)
            refine ⟨C', _, { R' with tm := fun q y hq => ?_ }⟩
            rw [lookA_cons] at hq
            by_cases e : j = q
            · subst e
              rw [if_pos rfl] at hq; injection hq with hq; subst hq
              exact ⟨_, hv, hr⟩
            · rw [if_neg e] at hq; exact R'.tm q y hq
          · exact ⟨C, OW, R⟩
      · exact ⟨C, OW, R⟩
    · exact ⟨C, OW, R⟩
  · exact ⟨C, OW, R⟩
theorem plTr_ok : ∀ (l : List (Pl × K)) {C : Cx} {OW : List OwnV} {s : AS}, RelA B C LO OW s a sus W → ∃ C' OW', RelA B C' LO OW' (plTr l s) a sus W
  | [], C, OW, s, R => ⟨C, OW, R⟩
  | (p, k) :: r, C, OW, s, R => by
    obtain ⟨C1, OW1, R1⟩ := trOne_ok R p k
    exact plTr_ok r R1
theorem evLoop_ok {A : Ann} {body : AS → (Exit → AS → T Rt) → T Rt} {x : Code} {k : Exit → AS → T Rt}
    (hbody : ∀ (kk : Exit → AS → T Rt) (Y : Exit → Act → World → Prop), (∀ e C LO OW s a W, RelA B C LO OW s a sus W → (kk e s).ok Q → Y e a W) → ∀ C LO OW s a W, RelA B C LO OW s a sus W → (body s kk).ok Q → x.wp P Y a W)
    (hK : ∀ e C LO OW s a W, RelA B C LO OW s a sus W → (k e s).ok Q → X e a W) (R : RelA B C LO OW s a sus W) (h : (evLoop A s body k).ok Q) : (Code.loop x).wp P X a W := by
  unfold evLoop at h
  obtain ⟨Ct, OWt, Rt⟩ := plTr_ok A.pl R
  obtain ⟨OWh, Rh⟩ := Rt.head (plSlots A.pl ++ A.keep)
  obtain ⟨C0, OW0, R0⟩ := plOwn_ok (l := A.pl) Rh
  generalize plOwn A.pl (head (plTr A.pl s) (plSlots A.pl ++ A.keep)) = s0 at h R0
  unfold loop1 at h
  split at h
  · rename_i cs hcs
    split at h
    · rename_i x0 hdc
      split at h
      · rename_i p hp
        obtain ⟨hp1, hinv, h⟩ := h
        obtain ⟨C1, LO1, OW1, R1⟩ := sameS_ok R0 hp (conj_all hp1)
        let S : El (tupK (plKs A.pl)) → AS := fun x => plPut A.pl x s0
        let D : Act → World → Nat → Prop := fun a W n => ∃ x C LO OW, RelA B C LO OW (S x) a sus W ∧ A.inv x0 x ∧ A.mu x0 x ≤ n
        let μ' : Act → World → Nat := fun a W => Classical.epsilon fun n => D a W n ∧ ∀ m, D a W m → n ≤ m
        have hmin : ∀ a W n, D a W n → D a W (μ' a W) ∧ ∀ m, D a W m → μ' a W ≤ m := by
          intro a W n hn
          have : ∃ n, D a W n ∧ ∀ m, D a W m → n ≤ m := by
            induction n using Nat.strongRecOn with
            | _ n ih =>
              by_cases h : ∃ m, m < n ∧ D a W m
              · obtain ⟨m, hm, hd⟩ := h; exact ih m hm hd
              · refine ⟨n, hn, fun m hd => ?_⟩
                rcases Nat.lt_or_ge m n with hlt | hge
                · exact absurd ⟨m, hlt, hd⟩ h
                · exact hge
          exact Classical.epsilon_spec this
        refine wp_loop (fun a W => ∃ x C LO OW, RelA B C LO OW (S x) a sus W ∧ A.inv x0 x) μ' ⟨x0, C1, LO1, OW1, R1, hinv⟩ ?_
        rintro a W ⟨x1, C1, LO1, OW1, R1, i1⟩
        obtain ⟨⟨x2, C2, LO2, OW2, R2, i2, l2⟩, _⟩ := hmin a W _ ⟨x1, C1, LO1, OW1, R1, i1, Nat.le_refl _⟩
        refine hbody _ _ ?_ C2 LO2 OW2 (S x2) a W R2 (h x2 i2)
        intro e C LO OW s' a' W' R' hk
        cases e with
        | normal =>
          replace hk : (backG A s0 x0 x2 (plNil s0 A.pl (plTr A.pl s'))).ok Q := hk
          obtain ⟨C, OW, R'⟩ := plTr_ok A.pl R'
          obtain ⟨C, OW, R'⟩ := plNil_ok s0 A.pl R'
          generalize plNil s0 A.pl (plTr A.pl s') = s' at hk R'
          unfold backG at hk
          split at hk
          · rename_i cs' hcs'
            split at hk
            · rename_i x' hdc'
              split at hk
              · rename_i p' hp'
                obtain ⟨hp1', ⟨hi', hmu⟩, _⟩ := hk
                obtain ⟨C3, LO3, OW3, R3⟩ := sameS_ok R' hp' (conj_all hp1')
                refine ⟨⟨x', C3, LO3, OW3, R3, hi'⟩, ?_⟩
                have := (hmin a' W' _ ⟨x', C3, LO3, OW3, R3, hi', Nat.le_refl _⟩).2 _ ⟨x', C3, LO3, OW3, R3, hi', Nat.le_refl _⟩
                omega
              · exact hk.elim
            · exact hk.elim
          · exact hk.elim
        | _ => exact hK _ C LO OW s' a' W' R' hk
      · exact h.elim
    · exact h.elim
  · exact h.elim
theorem ready0_ok (J : Jn) (R : RelA B C LO OW s a sus W) : ∃ C' OW', RelA B C' LO OW' (ready0 J s) a sus W := by
  obtain ⟨C1, OW1, _, R1⟩ := R.freezes (l := plFz J.pl s)
  exact plTr_ok J.pl R1
theorem evJoin_ok {J : Jn} {body : (Exit → AS → T Rt) → T Rt} {x y : Code} {ls : Option AS} {kn : AS → T Rt} {k : Exit → AS → T Rt}
    (hbody : ∀ (kk : Exit → AS → T Rt) (Y : Exit → Act → World → Prop), (∀ e C LO OW s a W, RelA B C LO OW s a sus W → (kk e s).ok Q → Y e a W) → (body kk).ok Q → x.wp P Y a W)
    (hy : ∀ C LO OW s a W, RelA B C LO OW s a sus W → (kn s).ok Q → y.wp P X a W)
    (hK : ∀ e C LO OW s a W, RelA B C LO OW s a sus W → (k e s).ok Q → X e a W) (h : (evJoin J s body ls kn k).ok Q) : (x.seq y).wp P X a W := by
  unfold evJoin at h
  split at h
  · exact h.elim
  · rename_i s1
    split at h
    · rename_i cs hcs
      split at h
      · rename_i x0 hdc
        obtain ⟨h1, h2⟩ := h
        refine wp_seq (hbody _ _ ?_ h1)
        intro e C LO OW s' a' W' R' hk
        cases e with
        | normal =>
          replace hk : (backJ J (head0 J s1) x0 (plNil (head0 J s1) J.pl (ready0 J s'))).ok Q := hk
          obtain ⟨C, OW, R'⟩ := ready0_ok J R'
          obtain ⟨C, OW, R'⟩ := plNil_ok (head0 J s1) J.pl R'
          generalize plNil (head0 J s1) J.pl (ready0 J s') = s' at hk R'
          unfold backJ at hk
          split at hk
          · rename_i cs' hcs'
            split at hk
            · rename_i x' hdc'
              split at hk
              · rename_i p' hp'
                obtain ⟨hp1', hi', _⟩ := hk
                obtain ⟨C3, LO3, OW3, R3⟩ := sameS_ok R' hp' (conj_all hp1')
                exact hy C3 LO3 OW3 _ a' W' R3 (h2 x' hi')
              · exact hk.elim
            · exact hk.elim
          · exact hk.elim
        | _ => exact hK _ C LO OW s' a' W' R' hk
      · exact h.elim
    · exact h.elim
end
end Go.Proofs.Ytoiacgfhjikddaa.W
