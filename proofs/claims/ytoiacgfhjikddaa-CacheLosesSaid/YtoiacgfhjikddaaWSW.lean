/- The interpreter is right: variables that change places. -/
import Derived.Test.YtoiacgfhjikddaaWQ
set_option linter.unusedSimpArgs false
set_option linter.unusedVariables false
namespace Go.Proofs.Ytoiacgfhjikddaa.W
open Go.RowKit Vc

section
variable {C C' : Cx} {B : Base} {s : AS} {a : Act} {W W' : World} {P : Program} {LO : List Vc.Loc} {OW : List OwnV} {sus : List Act} {o : Oper}

theorem swN_eq (i j n : Nat) : swN i j n = if n = i then j else if n = j then i else n := by
  unfold swN
  by_cases h1 : n = i
  · subst h1; simp
  · rw [beq_ne h1, if_neg h1]
    by_cases h2 : n = j
    · subst h2; simp
    · rw [beq_ne h2, if_neg h2]; rfl
theorem swN_lt {i j n N : Nat} (hi : i < N) (hj : j < N) (hn : n < N) : swN i j n < N := by
  rw [swN_eq]; split <;> first | exact hj | (split <;> assumption)
theorem swN_swN (i j n : Nat) : swN i j (swN i j n) = n := by
  simp only [swN_eq]
  by_cases h1 : n = i
  · subst h1; simp
  · by_cases h2 : n = j
    · subst h2; simp [h1]
    · simp [h1, h2]
def swE (i j : Nat) (E : Env) : Env := ⟨fun n => E.id (swN i j n), fun n => E.pre (swN i j n), fun n => E.post (swN i j n)⟩
def swC (i j : Nat) (C : Cx) : Cx := { C with E := swE i j C.E }
mutual
theorem Rep.sw {i j : Nat} (hi : i < C.N) (hj : j < C.N) : ∀ {x : AV} {v : Value}, Rep C x v → Rep (swC i j C) (sw i j x) v
  | .v x, v, h => by simpa [W.sw, Rep] using h
  | .by_ _ _, v, h => by simp [Rep] at h
  | .sl q k l, v, h => by simp only [W.sw, Rep] at h ⊢; exact h
  | .fp q k x off, v, h => by simp only [W.sw, Rep] at h ⊢; exact h
  | .lp n off, v, h => by
    simp only [W.sw, Rep] at h ⊢
    refine ⟨swN_lt hi hj h.1, ?_⟩
    show v = .pointer (some ⟨C.E.id (swN i j (swN i j n)), (C.E.pre (swN i j (swN i j n))).length + off, none⟩)
    rw [swN_swN]; exact h.2
  | .lb n off m z, v, h => by
    simp only [W.sw, Rep] at h ⊢
    refine ⟨swN_lt hi hj h.1, h.2.1, ?_⟩
    show v = .pointer (some ⟨C.E.id (swN i j (swN i j n)), (C.E.pre (swN i j (swN i j n))).length + (off + z.toNat), none⟩)
    rw [swN_swN]; exact h.2.2
  | .ls n off m, v, h => by
    simp only [W.sw, Rep] at h ⊢
    refine ⟨swN_lt hi hj h.1, ?_⟩
    show v = .slice (some ⟨C.E.id (swN i j (swN i j n)), (C.E.pre (swN i j (swN i j n))).length + off, none⟩) m m
    rw [swN_swN]; exact h.2
  | .ov m, v, h => by simp only [W.sw, Rep] at h ⊢; exact h
  | .os m w lo hi, v, h => by simp only [W.sw, Rep] at h ⊢; exact h
  | .op m w q off, v, h => by simp only [W.sw, Rep] at h ⊢; exact h
  | .fn f c, v, h => by
    simp only [W.sw, Rep] at h ⊢
    obtain ⟨vs, h1, h2⟩ := h
    exact ⟨vs, h1, RepL.sw hi hj h2⟩
  | .ag c, v, h => by
    simp only [W.sw, Rep] at h ⊢
    obtain ⟨vs, h1, h2⟩ := h
    exact ⟨vs, h1, RepC.sw hi hj h2⟩
  | .tup c, v, h => by
    simp only [W.sw, Rep] at h ⊢
    obtain ⟨vs, h1, h2⟩ := h
    exact ⟨vs, h1, RepL.sw hi hj h2⟩
  | .bad, v, h => by simp [W.sw, Rep]
theorem RepL.sw {i j : Nat} (hi : i < C.N) (hj : j < C.N) : ∀ {l : List AV} {vs : List Value}, RepL C l vs → RepL (swC i j C) (sws i j l) vs
  | [], vs, h => by simpa [sws, RepL] using h
  | x :: r, vs, h => by
    simp only [sws, RepL] at h ⊢
    obtain ⟨v, us, h1, h2, h3⟩ := h
    exact ⟨v, us, h1, Rep.sw hi hj h2, RepL.sw hi hj h3⟩
theorem RepC.sw {i j : Nat} (hi : i < C.N) (hj : j < C.N) : ∀ {l : List AV} {vs : List Value}, RepC C l vs → RepC (swC i j C) (sws i j l) vs
  | [], vs, h => by simpa [sws, RepC] using h
  | x :: r, vs, h => by
    cases hx : isBy x with
    | true =>
      obtain ⟨n, l, rfl⟩ := isBy_of hx
      simp only [sws, W.sw]
      rw [RepC.by_] at h ⊢
      obtain ⟨us, h1, h2, h3⟩ := h
      exact ⟨us, h1, h2, RepC.sw hi hj h3⟩
    | false =>
      have hx' : isBy (W.sw i j x) = false := by
        cases x <;> simp only [W.sw] <;> first | rfl | (simp [isBy] at hx)
      simp only [sws]
      rw [RepC.cons hx] at h
      rw [RepC.cons hx']
      obtain ⟨v, us, h1, h2, h3, h4⟩ := h
      exact ⟨v, us, h1, h2, Rep.sw hi hj h3, RepC.sw hi hj h4⟩
end
theorem swL_get {α : Type} {i j : Nat} {l : List α} (hi : i < l.length) (hj : j < l.length) (n : Nat) : (swL i j l)[n]? = if n < l.length then l[swN i j n]? else none := by
  unfold swL
  rw [List.getElem?_eq_getElem hi, List.getElem?_eq_getElem hj]
  simp only
  by_cases hn : n < l.length
  · rw [if_pos hn, swN_eq, List.getElem?_set, List.getElem?_set]
    by_cases h1 : n = i
    · subst h1
      rw [if_pos rfl]
      by_cases h2 : j = n
      · subst h2; simp [hn]
      · rw [if_neg h2, if_pos rfl, List.getElem?_eq_getElem hj]; simp [hn]
    · rw [if_neg h1]
      by_cases h2 : n = j
      · subst h2; rw [if_pos rfl, if_pos rfl, List.getElem?_eq_getElem hi]; simp [hn]
      · rw [if_neg h2, if_neg (fun e => h2 e.symm), if_neg (fun e => h1 e.symm)]
  · rw [if_neg hn, List.getElem?_eq_none (by simp; omega)]
theorem swL_len {α : Type} {i j : Nat} {l : List α} : (swL i j l).length = l.length := by
  unfold swL; split <;> simp
theorem LoR_iff : ∀ {l : List Box} {L : List Vc.Loc}, LoR C l L ↔ l.length = L.length ∧ ∀ (n : Nat) (x : Box) (y : Vc.Loc), l[n]? = some x → L[n]? = some y → ∃ vs, y = ⟨vs.map .v, x.e⟩ ∧ RepC C x.cs vs
  | [], L => by
    cases L with
    | nil => exact ⟨fun _ => ⟨rfl, by simp⟩, fun _ => rfl⟩
    | cons y q => exact ⟨fun h => (by cases h), fun h => (by simp at h)⟩
  | x :: r, L => by
    constructor
    · rintro ⟨vs, q, rfl, h1, h2⟩
      obtain ⟨h3, h4⟩ := LoR_iff.1 h2
      refine ⟨by simp [h3], fun n x' y' hx hy => ?_⟩
      cases n with
      | zero => simp at hx hy; subst hx; subst hy; exact ⟨vs, rfl, h1⟩
      | succ n => exact h4 n x' y' (by simpa using hx) (by simpa using hy)
    · rintro ⟨h1, h2⟩
      cases L with
      | nil => simp at h1
      | cons y q =>
        obtain ⟨vs, rfl, h3⟩ := h2 0 x y rfl rfl
        exact ⟨vs, q, rfl, h3, LoR_iff.2 ⟨by simpa using h1, fun n x' y' hx hy => h2 (n + 1) x' y' (by simpa using hx) (by simpa using hy)⟩⟩
theorem RelA.swap (R : RelA B C LO OW s a sus W) (i j : Nat) : ∃ C' LO', RelA B C' LO' OW (s.swap i j) a sus W := by
  unfold AS.swap
  cases hb : (Nat.blt i s.lo.length && Nat.blt j s.lo.length) with
  | false => exact ⟨C, LO, R⟩
  | true =>
    simp only [cond_true]
    simp only [Bool.and_eq_true] at hb
    have hi := blt_iff.1 hb.1
    have hj := blt_iff.1 hb.2
    have hN : C.N = s.lo.length := R.N
    have hL : LO.length = s.lo.length := R.lo.len
    have hi' : i < C.N := by omega
    have hj' : j < C.N := by omega
    have hiL : i < LO.length := by omega
    have hjL : j < LO.length := by omega
    have hlt : ∀ n, n < LO.length → swN i j n < LO.length := fun n hn => swN_lt hiL hjL hn
    have hdv : ∀ (l : List Value), SV.dens (swE i j C.E) (l.map .v) = SV.dens C.E (l.map .v) := fun l => by rw [dens_v, dens_v]
    refine ⟨swC i j C, swL i j LO, ⟨?_, R.m0, ?_, R.M, R.gb, R.hh, R.tm.on fun x v h => h.sw hi' hj', R.fr.on fun x v h => h.sw hi' hj', ?_, ?_⟩⟩
    · refine { R.rel with tm := fun k s hk => (by simp [St.get, lookup] at hk), ml := by rw [R.m0]; exact Nat.zero_le _, lo := fun n l hn => ?_, hid := fun n hn => ?_, inj := fun n m hn hm e => ?_, own := fun n h1 h2 => ?_, agr := fun n hn => ?_, ows := ⟨R.rel.ows.at_, R.rel.ows.hid, fun o ho b hb' n hn => ?_, R.rel.ows.apart⟩ }
      · have hn : (swL i j LO)[n]? = some l := hn
        rw [swL_get hiL hjL] at hn
        split at hn
        · rename_i hnl
          obtain ⟨x, hx⟩ : ∃ x, s.lo[swN i j n]? = some x := ⟨_, List.getElem?_eq_getElem (by rw [← hL]; exact hlt n hnl)⟩
          obtain ⟨vs, h1, _⟩ := R.lo.get hx
          rw [h1] at hn; cases hn
          have := R.rel.lo (swN i j n) _ h1
          show W.heap[C.E.id (swN i j n)]? = some (.cells ⟨C.E.pre (swN i j n) ++ SV.dens (swE i j C.E) (vs.map .v) ++ C.E.post (swN i j n)⟩ _ (0, 0))
          rw [hdv]; exact this
        · cases hn
      · exact R.rel.hid _ (hlt n (by simpa [swL_len] using hn))
      · have h1 := R.rel.inj _ _ (hlt n (by simpa [swL_len] using hn)) (hlt m (by simpa [swL_len] using hm)) e
        have := congrArg (swN i j) h1
        rwa [swN_swN, swN_swN] at this
      · exact R.rel.own _ (by rw [R.m0]; exact Nat.zero_le _) (hlt n (by simpa [swL_len] using h2))
      · rw [R.m0] at hn; exact absurd hn (Nat.not_lt_zero _)
      · exact R.rel.ows.loc o ho b hb' _ (hlt n (by simpa [swL_len] using hn))
    · show C.N = (swL i j (onLo (sws i j) s.lo)).length
      rw [swL_len, onLo_len]; exact hN
    · obtain ⟨h1, h2⟩ := LoR_iff.1 (R.lo.on (C' := swC i j C) (g := sws i j) fun x v h => h.sw hi' hj')
      refine LoR_iff.2 ⟨by rw [swL_len, swL_len]; exact h1, fun n x y hx hy => ?_⟩
      rw [swL_get (by rw [onLo_len]; exact hi) (by rw [onLo_len]; exact hj)] at hx
      rw [swL_get hiL hjL] at hy
      split at hx
      · split at hy
        · exact h2 _ x y hx hy
        · cases hy
      · cases hx
    · have each : ∀ {l : List OA} {O : List OwnV}, OwR C l O → OwR (swC i j C) l O := by
        intro l
        induction l with
        | nil => intro O h; exact h
        | cons x r ih =>
          rintro O ⟨y, q, rfl, h1, h2, h3⟩
          exact ⟨y, q, rfl, ⟨h1.v, h1.e, h1.w, h1.n, h1.ln, h1.wo, h1.m, h1.pc⟩, h2, ih h3⟩
      exact each R.ow
theorem canon1_ok (d : Nat) : ∀ (l : List Nat) {C : Cx} {LO : List Vc.Loc} {s : AS}, RelA B C LO OW s a sus W → ∃ C' LO', RelA B C' LO' OW (canon1 d l s) a sus W
  | [], C, LO, s, R => ⟨C, LO, R⟩
  | e :: r, C, LO, s, R => by
    simp only [canon1]
    split
    · rename_i p q _ _
      cases hb : Nat.blt q p with
      | false => exact canon1_ok d r R
      | true =>
        obtain ⟨C1, LO1, R1⟩ := R.swap p q
        exact canon1_ok d r R1
    · exact canon1_ok d r R
theorem canonA_ok : ∀ (l : List Nat) {C : Cx} {LO : List Vc.Loc} {s : AS}, RelA B C LO OW s a sus W → ∃ C' LO', RelA B C' LO' OW (canonA l s) a sus W
  | [], C, LO, s, R => ⟨C, LO, R⟩
  | d :: r, C, LO, s, R => by
    obtain ⟨C1, LO1, R1⟩ := canon1_ok d r R
    exact canonA_ok r R1
end
end Go.Proofs.Ytoiacgfhjikddaa.W
