/- The interpreter is right, fourth part: slices, comparisons, structs; any operation that leaves all as it is. -/
import Derived.Test.YtoiacgfhjikddaaWG
set_option linter.unusedSimpArgs false
set_option linter.unusedVariables false
namespace Go.Proofs.Ytoiacgfhjikddaa.W
open Go.RowKit Vc

section
variable {C : Cx} {B : Base} {s : AS} {a : Act} {W : World} {P : Program} {LO : List Vc.Loc} {OW : List OwnV} {sus : List Act} {o : Oper}

def intO (k : IntKind) : Option Int → Option Value
  | none => none
  | some n => some (.int k n)
theorem numO_ev (R : RelA B C LO OW s a sus W) {x : Option Operand} {r : Option Int} (h : numO s x = some r) : ∃ k, x.map a.eval = intO k r := by
  cases x with
  | none => simp only [numO, Option.some.injEq] at h; subst h; exact ⟨.i64, rfl⟩
  | some y =>
    simp only [numO] at h
    split at h
    · rename_i n hn
      simp only [Option.some.injEq] at h; subst h
      obtain ⟨k, hk⟩ := num_ev R hn
      exact ⟨k, by simp [intO, hk]⟩
    · cases h
theorem sub_eq {α : Type} {l : List α} {lo hi : Option Int} (h : (bnds l.length lo hi none).1 = true) : (bnds l.length lo hi none).2.1 ≤ (bnds l.length lo hi none).2.2 ∧ (bnds l.length lo hi none).2.2 ≤ l.length ∧
    sub l lo hi = (l.drop (bnds l.length lo hi none).2.1).take ((bnds l.length lo hi none).2.2 - (bnds l.length lo hi none).2.1) := by
  cases lo <;> cases hi <;> simp only [bnds, Bool.and_eq_true, decide_eq_true_eq] at h ⊢
  · simp [sub]
  · rename_i b
    refine ⟨by omega, by omega, ?_⟩
    simp [sub]
  · rename_i b
    refine ⟨by omega, by omega, ?_⟩
    simp only [sub]
    rw [List.take_of_length_le (by simp)]
  · rename_i x y
    refine ⟨by omega, by omega, ?_⟩
    simp only [sub, List.drop_take]
theorem bnds_run {n : Nat} {lo hi : Option Int} {k k' : IntKind} (h : (bnds n lo hi none).1 = true) (c : Nat) (hc : n ≤ c) : (Instr.sliceBounds true n c (intO k lo) (intO k' hi) none).run P W = .ok ((bnds n lo hi none).2.1, (bnds n lo hi none).2.2, c) W := by
  cases lo <;> cases hi <;> simp only [bnds, Bool.and_eq_true, decide_eq_true_eq] at h ⊢ <;> simp only [intO]
  · exact bounds_none true n c W
  · exact bounds_hi true h.1 (by omega) W
  · exact bounds_lo true h.1 (by omega) W
  · exact bounds_lohi true h.1.1 h.1.2 (by omega) W
theorem run_slice {t e w n : Nat} {v : Value} {lo hi : Option Int} {k k' : IntKind} (hv : Hd v n) (hu : P.underlying t = some (.slice e)) (hw : cellsW P e w = true) (h : (bnds n lo hi none).1 = true) (h1 : (bnds n lo hi none).2.1 ≤ (bnds n lo hi none).2.2) (h2 : (bnds n lo hi none).2.2 ≤ n) :
    (Instr.sliceAt t v (intO k lo) (intO k' hi) none).run P W = .ok (subAt v w (bnds n lo hi none).2.1 (bnds n lo hi none).2.2) W :=
  hslice_run hv hu hw (fun c hc => bnds_run h c hc) h1 h2
theorem run_slice3 {G : GH} {α : Type} {R : α → List Value → Prop} {t e w : Nat} {l : List α} {v : Value} {b c : Int} {k k' : IntKind} (hv : SLv G R w l v) (hu : P.underlying t = some (.slice e)) (hw : cellsW P e w = true) (h0 : 0 ≤ b) (h1 : b ≤ l.length) (h2 : c = b) :
    ∃ v', (∀ W, (Instr.sliceAt t v none (some (.int k b)) (some (.int k' c))).run P W = .ok v' W) ∧ SLv G R w (l.take b.toNat) v' ∧ Full v' := by
  subst h2
  obtain ⟨L, h3, h4⟩ := hv
  have hlen : (l.take c.toNat).length = c.toNat := by rw [List.length_take]; omega
  have key : ∀ oa n cp, v = .slice oa n cp → c.toNat ≤ cp → ∀ W, (Instr.sliceAt t v none (some (.int k c)) (some (.int k' c))).run P W = .ok (.slice (if c.toNat = 0 then oa else oa.map (·.add (0 * w))) c.toNat c.toNat) W := by
    rintro oa n cp rfl hle W
    unfold Instr.sliceAt
    show (Sem.bind (underlying t) _).run P W = _
    rw [run_bind (run_underlying hu W)]
    show (Instr.slice t _ _ _ _).run P W = _
    unfold Instr.slice
    show (Sem.bind (underlying t) _).run P W = _
    rw [run_bind (run_underlying hu W)]
    have hb : (Instr.sliceBounds true n cp none (some (.int k c)) (some (.int k' c))).run P W = .ok (0, c.toNat, c.toNat) W := by
      have e : ((c.toNat : Nat) : Int) = c := Int.toNat_of_nonneg h0
      simp [Instr.sliceBounds, bound_run h0 (show c ≤ (cp : Int) by omega), bound_run (y := c.toNat) h0 (by omega)]
    show (Sem.bind (Instr.sliceBounds true n cp none _ _) _).run P W = _
    rw [run_bind hb]
    show (Sem.bind (sizeOf e) _).run P W = _
    rw [run_bind (size_run hw W)]
    rfl
  have hp : ∀ i (h : i < (l.take c.toNat).length), R (l.take c.toNat)[i] (((L.take (c.toNat * w)).drop (i * w)).take w) := fun i hi => by
    rw [hlen] at hi
    have := h4 i (by omega)
    rw [List.getElem_take, List.drop_take, List.take_take, Nat.min_eq_left]
    · exact this
    · rw [← Nat.sub_mul]; exact Nat.le_mul_of_pos_left _ (by omega)
  have hL : (L.take (c.toNat * w)).length = c.toNat * w := by
    rw [List.length_take, h3.len]; exact Nat.min_eq_left (Nat.mul_le_mul_right _ (by omega))
  rcases h3.at_ with ⟨oa, cp, hv, hn⟩ | ⟨x, cp, hv, hn, hat⟩
  · have hc : c.toNat = 0 := by omega
    refine ⟨_, key _ _ _ hv (by omega), ⟨_, ⟨by rw [hlen]; exact hL, .inl ⟨oa, 0, ?_, by rw [hlen]; omega⟩⟩, hp⟩, ⟨_, _, rfl⟩⟩
    simp [hc]
  · refine ⟨_, key _ _ _ hv (by omega), ⟨_, ⟨by rw [hlen]; exact hL, ?_⟩, hp⟩, ⟨_, _, rfl⟩⟩
    by_cases hc : c.toNat = 0
    · exact .inl ⟨some x, 0, by simp [hc], by rw [hlen]; exact hc⟩
    · refine .inr ⟨x.add (0 * w), c.toNat, by rw [if_neg hc, hlen]; rfl, by rw [hlen]; exact Nat.le_refl _, ?_⟩
      have := hat.sub 0 (c.toNat * w)
      simpa using this
theorem slv_bytes {l : List Int} {p : Value} {G Gb : GH} {us : List Value} (h : PAt G p (bts l ++ us)) : SLv G (VC Gb G (.i .u8)) 1 l (sliceOf p l.length) := by
  have h1 := (h.pre l.length)
  rw [List.take_append_of_le_length (by rw [bts_length]; exact Nat.le_refl _), List.take_of_length_le (by rw [bts_length]; exact Nat.le_refl _)] at h1
  refine ⟨bts l, h1.row 1 l.length (by simp [bts_length]), fun i hi => ?_⟩
  show _ = _
  rw [Nat.mul_one]
  have : (bts l)[i]? = some (.int .u8 l[i]) := by rw [bts_get, List.getElem?_eq_getElem hi]; rfl
  rw [← List.head?_drop] at this
  obtain ⟨r, hr⟩ : ∃ r, (bts l).drop i = .int .u8 l[i] :: r := by
    cases hd : (bts l).drop i with
    | nil => rw [hd] at this; cases this
    | cons x r => rw [hd] at this; simp only [List.head?_cons, Option.some.injEq] at this; subst this; exact ⟨r, rfl⟩
  rw [hr]; rfl
theorem slQ_g {q : Nat} {mx : Option Int} : C.g (slQ q mx) = C.g q := by
  cases q with
  | zero => rfl
  | succ q => cases mx <;> rfl
theorem evSlice_ok (R : RelA B C LO OW s a sus W) {t : Nat} {lo hi mx : Option Int} {k1 k2 k3 : IntKind} {p : AV} {pv : Value} (hp : Rep C p pv) {b : Bool} {x : AV} (h : evSlice P s t lo hi mx p = some (b, x)) (hb : b = true) :
    ∃ v, Yd P W (Instr.sliceAt t pv (intO k1 lo) (intO k2 hi) (intO k3 mx)) v ∧ Rep C x v := by
  subst hb
  cases p with
  | sl q kd l =>
    simp only [evSlice] at h
    cases ht : slT P t (wd kd) with
    | false => simp [ht] at h
    | true =>
      simp only [ht, cond_true, Option.some.injEq, Prod.mk.injEq] at h
      obtain ⟨h0, rfl⟩ := h
      obtain ⟨e, hu, hw⟩ := slT_spec ht
      simp only [Rep] at hp ⊢
      rw [slQ_g]
      cases mx with
      | none =>
        obtain ⟨h1, h2, h3⟩ := sub_eq h0
        refine ⟨_, fun _ _ => run_slice hp.1.hd hu hw h0 h1 h2, ?_, fun e => ?_⟩
        · rw [h3]; exact hp.1.sub h1 h2
        · cases q with
          | zero => exact absurd (show (0 : Nat) = 2 from e) (by decide)
          | succ q => exact absurd (show (1 : Nat) = 2 from e) (by decide)
      | some m =>
        cases lo with
        | some _ => simp [bnds] at h0
        | none =>
          cases hi with
          | none => simp [bnds] at h0
          | some y =>
            simp only [bnds, Bool.and_eq_true, decide_eq_true_eq] at h0
            obtain ⟨v', h1, h2, h3⟩ := run_slice3 (P := P) (k := k2) (k' := k3) hp.1 hu hw h0.1.1 h0.1.2 h0.2
            exact ⟨v', fun W' _ => h1 W', h2, fun _ => h3⟩
  | ov m =>
    simp only [evSlice] at h
    split at h
    · rename_i ob ho
      cases ht : slT P t (wd ob.k) with
      | false => simp [ht] at h
      | true =>
        simp only [ht, cond_true, Option.some.injEq, Prod.mk.injEq] at h
        obtain ⟨h0, rfl⟩ := h
        obtain ⟨e, hu, hw⟩ := slT_spec ht
        obtain ⟨h1, h2, h3⟩ := sub_eq h0
        simp only [Rep] at hp ⊢
        obtain ⟨hm, rfl⟩ := hp
        obtain ⟨e1, X, h4, _⟩ := own_at R ho
        subst e1
        refine ⟨_, fun _ _ => run_slice (own_hd R ho) hu hw h0 h1 h2, hm, h1, by rw [h4.ln (findO_A ho).2]; exact h2, h4.wo.symm, rfl⟩
    · cases h
  | lp i off =>
    simp only [evSlice] at h
    split at h
    · rename_i cs len e hcs hu
      split at h
      · rename_i n l hl
        cases hn : (Nat.beq n len && cellsW P e 1) with
        | false => simp [hn] at h
        | true =>
          simp only [hn, cond_true, Option.some.injEq, Prod.mk.injEq, true_and] at h; subst h
          simp only [Bool.and_eq_true] at hn
          have := Nat.eq_of_beq_eq_true hn.1; subst this
          obtain ⟨vs, h2, h3⟩ := lp_at R hcs
          simp only [Rep] at hp ⊢
          obtain ⟨hi, rfl⟩ := hp
          refine ⟨_, fun W' g => (rd_sliceA (P := P) (B := B) (G := view W) (h3 off) hu hn.2).run W' (R.seesX g), hi, ?_⟩
          rw [sliceOf_eq]; rfl
      · cases h
    · cases h
  | fp q kd z off =>
    simp only [evSlice] at h
    split at h
    · rename_i len e hu
      split at h
      · rename_i n l hl
        cases hn : (Nat.beq n len && cellsW P e 1) with
        | false => simp [hn] at h
        | true =>
          simp only [hn, cond_true, Option.some.injEq, Prod.mk.injEq, true_and] at h; subst h
          simp only [Bool.and_eq_true] at hn
          have := Nat.eq_of_beq_eq_true hn.1; subst this
          simp only [Rep] at hp ⊢
          obtain ⟨vs, h1, h2⟩ := hp
          obtain ⟨rfl, us, h5⟩ := bytesAt_ok hl (encQ_ok h1)
          rw [h5] at h2
          refine ⟨_, fun W' g => (rd_sliceA (P := P) (B := B) (G := view W) (h2.mono (R.gview q)) hu hn.2).run W' (R.seesX g), ?_, fun e => ?_⟩
          · rw [slQ_g]; exact slv_bytes h2
          · cases q with
          | zero => exact absurd (show (0 : Nat) = 2 from e) (by decide)
          | succ q => exact absurd (show (1 : Nat) = 2 from e) (by decide)
      · cases h
    · cases h
  | v y =>
    simp only [evSlice] at h
    cases hn : (isNilS y && slT P t 1) with
    | false => simp [hn] at h
    | true =>
      simp only [hn, cond_true] at h
      simp only [Bool.and_eq_true] at hn
      have := nilS_of hn.1; subst this
      split at h
      · simp only [Option.some.injEq, Prod.mk.injEq, true_and] at h; subst h
        obtain ⟨e, hu, hw⟩ := slT_spec hn.2
        simp only [Rep] at hp ⊢
        subst hp
        refine ⟨_, fun W' _ => hslice_run (n := 0) (w := 1) (lo := 0) (hi := 0) (.inl ⟨none, 0, rfl, rfl⟩) hu hw (fun c _ => bounds_none true 0 c W') (Nat.le_refl _) (Nat.le_refl _), ?_⟩
        rw [subAt_eq]; rfl
      · cases h
  | _ => simp [evSlice] at h
theorem run_len {t e n : Nat} {v : Value} (h : Hd v n) (hu : P.underlying t = some (.slice e)) : (Builtin.len_ #[t] 0 #[v]).run P W = .ok (.int .i64 n) W := by
  rcases h with ⟨oa, c, rfl, rfl⟩ | ⟨a, c, rfl, _⟩ <;> simp [Builtin.len_, run_underlying hu, goInt]
theorem evLen_ok (R : RelA B C LO OW s a sus W) {t : Nat} {p : AV} {pv : Value} (hp : Rep C p pv) {x : AV} {b : Bool} (hpure : ∀ y, p = .v y → ∀ x, pureA P s o = some x → ∃ v, Yd P W (Builtin.len_ #[t] 0 #[pv]) v ∧ Rep C x v) (h : evLen P s t o p = some (b, x)) : ∃ v, Yd P W (Builtin.len_ #[t] 0 #[pv]) v ∧ Rep C x v := by
  cases p with
  | sl q kd l =>
    simp only [evLen] at h
    cases ht : slT P t (wd kd) with
    | false => simp [ht] at h
    | true =>
      simp only [ht, cond_true, Option.some.injEq, Prod.mk.injEq] at h; obtain ⟨_, rfl⟩ := h
      obtain ⟨e, hu, hw⟩ := slT_spec ht
      simp only [Rep] at hp ⊢
      exact ⟨_, fun _ _ => run_len hp.1.hd hu, rfl⟩
  | ov m =>
    simp only [evLen] at h
    split at h
    · rename_i ob ho
      cases ht : slT P t (wd ob.k) with
      | false => simp [ht] at h
      | true =>
        simp only [ht, cond_true, Option.some.injEq, Prod.mk.injEq] at h; obtain ⟨_, rfl⟩ := h
        obtain ⟨e, hu, hw⟩ := slT_spec ht
        simp only [Rep] at hp ⊢
        obtain ⟨_, rfl⟩ := hp
        exact ⟨_, fun _ _ => run_len (own_hd R ho) hu, rfl⟩
    · cases h
  | os m w lo hi =>
    simp only [evLen] at h
    split at h
    · rename_i ob ho
      cases ht : slT P t w with
      | false => simp [ht] at h
      | true =>
        simp only [ht, cond_true, Option.some.injEq, Prod.mk.injEq] at h; obtain ⟨_, rfl⟩ := h
        obtain ⟨e, hu, hw⟩ := slT_spec ht
        simp only [Rep] at hp ⊢
        obtain ⟨_, h2, h3, rfl, rfl⟩ := hp
        refine ⟨_, fun _ _ => run_len (n := hi - lo) ?_ hu, rfl⟩
        rw [subAt_eq]
        rcases own_owhd R ho with ⟨oa, h4, h5⟩ | ⟨bb, c, h4, h5, h6⟩
        · rw [h4]
          have : hi - lo = 0 := by omega
          rw [this]
          cases oa with
          | none => exact .inl ⟨none, 0 - lo, by simp only [subAtD, this], rfl⟩
          | some x => exact .inl ⟨_, 0 - lo, by simp only [subAtD, this]; rfl, rfl⟩
        · rw [h4]; exact .inr ⟨_, _, rfl, by omega⟩
    · cases h
  | ls i off n =>
    simp only [evLen] at h
    cases ht : slT P t 1 with
    | false => simp [ht] at h
    | true =>
      simp only [ht, cond_true, Option.some.injEq, Prod.mk.injEq] at h; obtain ⟨_, rfl⟩ := h
      obtain ⟨e, hu, hw⟩ := slT_spec ht
      simp only [Rep] at hp ⊢
      obtain ⟨_, rfl⟩ := hp
      exact ⟨_, fun _ _ => run_len (n := n) (.inr ⟨_, n, rfl, Nat.le_refl _⟩) hu, rfl⟩
  | v y =>
    simp only [evLen] at h
    split at h
    · rename_i z hz
      simp only [Option.some.injEq, Prod.mk.injEq] at h; obtain ⟨_, rfl⟩ := h
      exact hpure y rfl _ hz
    · cases h
  | _ => simp [evLen] at h

/-! ### Comparisons -/
theorem loadC_part {t off : Nat} {cs : List AV} {x : AV} {vs : List Value} (h : loadC P t cs off = some x) (hr : RepC C cs vs) : ∃ v, partV P t ⟨vs⟩ off = some v ∧ Rep C x v := by
  unfold loadC at h
  unfold partV
  split at h
  · rename_i d hd
    simp only [hd]
    cases ha : isAggD d with
    | true =>
      simp only [ha, cond_true] at h ⊢
      split at h
      · rename_i i hi
        simp only [hi]
        split at h
        · rename_i l hl
          simp only [Option.some.injEq] at h; subst h
          obtain ⟨h1, h2⟩ := seg_ok hl hr
          refine ⟨_, rfl, ?_⟩
          simp only [Rep]
          refine ⟨_, ?_, h1⟩
          congr 1
          apply Array.ext'
          simp [List.extract_eq_take_drop]
        · cases h
      · cases h
    | false =>
      simp only [ha, cond_false] at h ⊢
      obtain ⟨v, h1, h2, _⟩ := cell_ok h hr
      exact ⟨v, by simpa using h1, h2⟩
  · cases h
theorem eqT_ok : ∀ (d t : Nat) (x y : AV) (u v : Value) (b : Bool), Rep C x u → Rep C y v → eqT P d t x y = some b → eqV P d t u v = some b
  | 0, _, _, _, _, _, _, _, _, h => by simp [eqT] at h
  | d + 1, t, x, y, u, v, b, hx, hy, h => by
    unfold eqT at h
    unfold eqV
    split at h
    · rename_i hu
      simp only [hu]
      split at h
      · simp only [Rep] at hx hy; subst hx; subst hy; exact h
      · cases h
    · rename_i hu
      simp only [hu]
      split at h
      · simp only [Rep] at hx hy; subst hx; subst hy; exact h
      · cases h
    · rename_i fs hu
      simp only [hu]
      split at h
      · rename_i xs ys
        simp only [Rep] at hx hy
        obtain ⟨us, rfl, hx⟩ := hx
        obtain ⟨ws, rfl, hy⟩ := hy
        simp only
        cases hs : P.stoodInHeld t with
        | true => simp [hs] at h
        | false =>
          simp only [hs, cond_false] at h ⊢
          generalize fs.toList = l at h ⊢
          induction l generalizing b with
          | nil => exact h
          | cons f r ih =>
            simp only [eqFsT] at h
            simp only [eqFs]
            cases hn : f.name == "_" with
            | true => simp only [hn, cond_true] at h ⊢; exact ih b h
            | false =>
              simp only [hn, cond_false] at h ⊢
              split at h
              · rename_i a1 b1 h1 h2
                split at h
                · rename_i p q h3 h4
                  obtain ⟨v1, e1, e2⟩ := loadC_part h1 hx
                  obtain ⟨v2, e3, e4⟩ := loadC_part h2 hy
                  rw [e1, e3]
                  simp only
                  rw [eqT_ok d f.type a1 b1 v1 v2 p e2 e4 h3, ih q h4]
                  exact h
                · cases h
              · cases h
      · cases h
    · rename_i n el hu
      simp only [hu]
      split at h
      · rename_i n1 l1 n2 l2 d'
        simp only [Rep] at hx hy
        obtain ⟨us, rfl, hx⟩ := hx
        obtain ⟨ws, rfl, hy⟩ := hy
        rw [RepC.by_] at hx hy
        obtain ⟨us', h1, h2, h3⟩ := hx
        obtain ⟨ws', h4, h5, h6⟩ := hy
        simp only [RepC] at h3 h6
        subst h3; subst h6
        rw [List.append_nil] at h2 h5
        subst h2; subst h5
        cases hn : (Nat.beq n1 n && Nat.beq n2 n && u8T P el && cellsW P el 1) with
        | false => simp [hn] at h
        | true =>
          simp only [hn, cond_true] at h
          simp only [Bool.and_eq_true] at hn
          obtain ⟨⟨⟨e1, e2⟩, e3⟩, e4⟩ := hn
          have e1 := Nat.eq_of_beq_eq_true e1
          have e2 := Nat.eq_of_beq_eq_true e2
          have hu8 := u8T_spec e3
          unfold cellsW at e4
          split at e4
          · rename_i i hi
            simp only [hi]
            have := eqEl_bytes (P := P) (d := d') (i := i) hu8 (Nat.eq_of_beq_eq_true e4) n 0 l1 l2 (by omega) (by omega)
            simp only [List.drop_zero] at this
            rw [this]; exact h
          · cases e4
      · cases h
    · cases h
end
end Go.Proofs.Ytoiacgfhjikddaa.W
