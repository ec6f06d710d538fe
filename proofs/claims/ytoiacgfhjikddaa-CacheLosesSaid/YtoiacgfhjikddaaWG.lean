/- The interpreter is right, third part: operations that leave all as it is. -/
import Derived.Test.YtoiacgfhjikddaaWF
set_option linter.unusedSimpArgs false
set_option linter.unusedVariables false
namespace Go.Proofs.Ytoiacgfhjikddaa.W
open Go.RowKit Vc

section
variable {C : Cx} {B : Base} {s : AS} {a : Act} {W : World} {P : Program} {LO : List Vc.Loc} {OW : List OwnV} {sus : List Act} {o : Oper}

theorem RelA.sees (R : RelA B C LO OW s a sus W) : Sees B (view W) W := ⟨view_sub W, R.rel.sees.2⟩
theorem RelA.seesX (R : RelA B C LO OW s a sus W) {W' : World} (g : GExt (view W) (view W')) : Sees B (view W) W' := ⟨g, fun k o h => g k o (R.rel.sees.2 k o h)⟩
theorem RelA.gview (R : RelA B C LO OW s a sus W) (q : Nat) : GExt (C.g q) (view W) := by
  cases q with
  | zero =>
    intro k o h
    have h' : C.Gb k = some o := h
    rw [R.gb] at h'
    have hk : k < B.n0 := (Array.getElem?_eq_some_iff.1 h').1
    show W.heap[k]? = some o
    rw [R.rel.ext k hk (fun i hi => by rw [R.m0] at hi; omega)]; exact h'
  | succ q => exact R.rel.sub
theorem lp_at (R : RelA B C LO OW s a sus W) {i : Nat} {cs : List AV} (h : cellsOf s i = some cs) : ∃ vs, RepC C cs vs ∧ ∀ off, PAt (view W) (.pointer (some ⟨C.E.id i, (C.E.pre i).length + off, none⟩)) (vs.drop off) := by
  unfold cellsOf at h
  split at h
  · rename_i l hl
    simp only [Option.some.injEq] at h; subst h
    obtain ⟨vs, h1, h2⟩ := R.lo.get hl
    refine ⟨vs, h2, fun off => ⟨_, rfl, rfl, _, _, _, R.rel.lo i _ h1, ?_⟩⟩
    simp only [dens_v]
    rw [List.append_assoc, ← List.drop_drop, List.drop_left]
    by_cases hle : off ≤ vs.length
    · rw [List.drop_append_of_le_length hle, List.take_left]
    · rw [List.drop_of_length_le (show vs.length ≤ off by omega)]; simp
  · cases h
theorem own_at (R : RelA B C LO OW s a sus W) {m : Nat} {x : OA} (h : findO s.ow m = some x) : x.m = m ∧ ∃ X : OwnV, OwR1 C x X ∧ Own (view W) B.n0 X.v X.e X.w X.n X.l ∧ X ∈ OW := by
  obtain ⟨h1, i, X, h2, _, h3⟩ := R.ow.get (findO_A h).1
  have hm : X ∈ OW := List.mem_of_getElem? h2
  exact ⟨h1, X, h3, Own.ofW (R.rel.ows.at_ X hm) (fun b _ => rfl) (by rw [h3.e.eqS (findO_A h).2]; exact (findO_A h).2), hm⟩
theorem own_slv (R : RelA B C LO OW s a sus W) {m : Nat} {x : OA} (h : findO s.ow m = some x) : SLv (view W) (VC (view W) (view W) x.k) (wd x.k) x.l (C.hd m) := by
  obtain ⟨h1, X, h2, h3, _⟩ := own_at R h
  refine ⟨X.l, ?_, fun i hi => (h2.pc i hi).mono2 ?_ (R.gview 1)⟩
  · have := h3.row
    rw [h2.v, h2.w, h2.n, h1] at this; exact this
  · exact R.gview 0
theorem op_at (R : RelA B C LO OW s a sus W) {m w j off : Nat} {v : Value} {x : OA} (h : findO s.ow m = some x) (hv : Rep C (.op m w j off) v) (hj : j < x.l.length) : ∃ vs, VC C.Gb C.G x.k x.l[j] vs ∧ PAt (view W) v (vs.drop off) := by
  obtain ⟨h1, X, h2, h3, _⟩ := own_at R h
  simp only [Rep] at hv
  obtain ⟨_, rfl, b, n, c, h4, h5, rfl⟩ := hv
  refine ⟨_, h2.pc j hj, ?_⟩
  have hX := h2.v
  rw [h1, h4] at hX
  have hw := h2.wo
  rw [h1] at hw
  rcases h3.row.at_ with ⟨oa, c', e1, e2⟩ | ⟨a', c', e1, e2, e3⟩
  · have := h2.n; omega
  · rw [hX] at e1; injection e1 with e1 e1' e1''; injection e1 with e1
    subst e1
    refine ⟨_, rfl, ?_⟩
    have := e3.sub (j * wd x.k + off) (wd x.k - off)
    rw [add_none, Nat.zero_add] at this
    rw [hw, List.drop_take, List.drop_drop]; exact this

theorem loadC_ok (R : RelA B C LO OW s a sus W) {t off : Nat} {cs : List AV} {x : AV} {vs : List Value} {p : Value} (h : loadC P t cs off = some x) (hr : RepC C cs vs) (hp : PAt (view W) p (vs.drop off)) :
    ∃ v, Yd P W (Instr.loadAt t p) v ∧ Rep C x v := by
  unfold loadC at h
  split at h
  · rename_i d hd
    cases ha : isAggD d with
    | true =>
      simp only [ha, cond_true] at h
      split at h
      · rename_i i hi
        split at h
        · rename_i l hl
          simp only [Option.some.injEq] at h; subst h
          obtain ⟨h1, h2⟩ := seg_ok hl hr
          refine ⟨.agg ⟨(vs.drop off).take i.size⟩, ?_, by simp only [Rep]; exact ⟨_, rfl, h1⟩⟩
          exact fun W' g => (rd_loadA (P := P) (B := B) (hp.pre i.size) (.inl rfl) (by rw [List.length_take, List.length_drop, Nat.min_eq_left (by omega)]) (by simp [aggT, hd, ha]) (by simp [cellsW, hi])).run W' (R.seesX g)
        · cases h
      · cases h
    | false =>
      simp only [ha, cond_false] at h
      obtain ⟨v, h1, h2, _⟩ := cell_ok h hr
      exact ⟨v, fun W' g => (rd_load1 (P := P) (B := B) hp (.inl rfl) (by rw [List.getElem?_drop]; exact h1) (by simp [aggT, hd, ha])).run W' (R.seesX g), h2⟩
  · cases h
theorem bytesAt_ok {cs : List AV} {off n : Nat} {l : List Int} {vs : List Value} (h : bytesAt cs off = some (n, l)) (hr : RepC C cs vs) : l.length = n ∧ ∃ us, vs.drop off = bts l ++ us := by
  unfold bytesAt at h
  split at h
  · rename_i n' l' r hs
    simp only [Option.some.injEq, Prod.mk.injEq] at h; obtain ⟨rfl, rfl⟩ := h
    obtain ⟨h1, _⟩ := skip_ok hs hr
    rw [RepC.by_] at h1
    obtain ⟨us, h2, h3, _⟩ := h1
    exact ⟨h2, us, h3⟩
  · cases h
theorem getD_eq {α : Type} {l : List α} {j : Nat} {d : α} (h : j < l.length) : l.getD j d = l[j] := by simp [List.getD_eq_getElem?_getD, h]
theorem evLoad_ok (R : RelA B C LO OW s a sus W) {t : Nat} {p : AV} {pv : Value} (hp : Rep C p pv) {b : Bool} {x : AV} (h : evLoad P s t p = some (b, x)) (hb : b = true) : ∃ v, Yd P W (Instr.loadAt t pv) v ∧ Rep C x v := by
  subst hb
  cases p with
  | lp i off =>
    simp only [evLoad] at h
    split at h
    · rename_i cs hcs
      split at h
      · rename_i y hy
        simp only [Option.some.injEq, Prod.mk.injEq, true_and] at h; subst h
        obtain ⟨vs, h1, h2⟩ := lp_at R hcs
        simp only [Rep] at hp
        rw [hp.2]; exact loadC_ok R hy h1 (h2 off)
      · cases h
    · cases h
  | fp q k z off =>
    simp only [evLoad] at h
    split at h
    · rename_i y hy
      simp only [Option.some.injEq, Prod.mk.injEq, true_and] at h; subst h
      simp only [Rep] at hp
      obtain ⟨vs, h1, h2⟩ := hp
      exact loadC_ok R hy (encQ_ok h1) (h2.mono (R.gview q))
    · cases h
  | op m w j off =>
    simp only [evLoad] at h
    split at h
    · rename_i z hz
      split at h
      · rename_i y hy
        simp only [Option.some.injEq, Prod.mk.injEq] at h; obtain ⟨h1, rfl⟩ := h
        have hj : j < z.l.length := blt_iff.1 h1
        obtain ⟨vs, h2, h3⟩ := op_at R hz hp hj
        rw [getD_eq hj] at hy
        exact loadC_ok R hy (enc_ok (q := 1) (by simp) h2) h3
      · cases h
    · cases h
  | lb i off n j =>
    simp only [evLoad] at h
    split at h
    · rename_i hag hcs
      rename_i cs
      split at h
      · rename_i n' l hl
        cases hn : Nat.beq n n' with
        | false => simp [hn] at h
        | true =>
          simp only [hn, cond_true, Option.some.injEq, Prod.mk.injEq, decide_eq_true_eq] at h; obtain ⟨h1, rfl⟩ := h
          have := Nat.eq_of_beq_eq_true hn; subst this
          obtain ⟨vs, h2, h3⟩ := lp_at R hcs
          obtain ⟨h4, us, h5⟩ := bytesAt_ok hl h2
          simp only [Rep] at hp
          obtain ⟨_, h6, rfl⟩ := hp
          have hjl : j.toNat < l.length := by omega
          refine ⟨.int .u8 (l.getD j.toNat 0), fun W' g => (rd_load1 (P := P) (B := B) (h3 (off + j.toNat)) (.inl rfl) ?_ hag).run W' (R.seesX g), by simp [Rep]⟩
          rw [← List.drop_drop, h5, List.getElem?_drop, Nat.add_zero, List.getElem?_append_left (by rw [bts_length]; exact hjl), bts_get, getD_eq hjl, List.getElem?_eq_getElem hjl]; rfl
      · cases h
    · cases h
  | _ => simp [evLoad] at h

theorem run_faddr {t f off w b k : Nat} {ag : Bool} (h : fieldAt? P t f = some (off, w + 1, ag)) : (Instr.fieldAt t (.pointer (some ⟨b, k, none⟩)) f).run P W = .ok (.pointer (some ⟨b, k + off, none⟩)) W := by
  obtain ⟨fs, fd, i, d, h1, h2, h3, h4, rfl, h6, rfl⟩ := fieldAt_spec h
  unfold Instr.fieldAt
  show (Sem.bind (underlying t) _).run P W = _
  rw [run_bind (run_underlying h1 W)]
  simp only [h2]
  show (Sem.bind (Sem.bind (sizeOf fd.type) _) _).run P W = _
  rw [Sem.bind_assoc', run_bind (sizeOf_run h3), h6]
  show Result.ok (Value.pointer (some (Addr.add ⟨b, k, none⟩ fd.offset))) W = _
  rw [add_none]
theorem evFAddr_ok (R : RelA B C LO OW s a sus W) {t f off w : Nat} {ag : Bool} (hf : fieldAt? P t f = some (off, w + 1, ag)) {p : AV} {pv : Value} (hp : Rep C p pv) {b : Bool} {x : AV} (h : evFAddr off p = some (b, x)) : ∃ v, Yd P W (Instr.fieldAt t pv f) v ∧ Rep C x v := by
  cases p with
  | lp i o =>
    simp only [evFAddr, Option.some.injEq, Prod.mk.injEq] at h; obtain ⟨_, rfl⟩ := h
    simp only [Rep] at hp
    obtain ⟨h1, rfl⟩ := hp
    exact ⟨_, fun _ _ => run_faddr hf, by simp only [Rep]; exact ⟨h1, by rw [Nat.add_assoc]⟩⟩
  | fp q k z o =>
    simp only [evFAddr, Option.some.injEq, Prod.mk.injEq] at h; obtain ⟨_, rfl⟩ := h
    simp only [Rep] at hp
    obtain ⟨vs, h1, h2⟩ := hp
    refine ⟨pAdd pv off, ?_, by simp only [Rep]; exact ⟨vs, h1, by rw [← List.drop_drop]; exact h2.add off⟩⟩
    exact fun W' g => (rd_faddr (P := P) (B := B) (G := view W) h2 hf).run W' (R.seesX g)
  | op m w' j o =>
    simp only [evFAddr, Option.some.injEq, Prod.mk.injEq] at h; obtain ⟨_, rfl⟩ := h
    simp only [Rep] at hp
    obtain ⟨h0, h1, bb, n, c, h2, h3, rfl⟩ := hp
    exact ⟨_, fun _ _ => run_faddr hf, by simp only [Rep]; exact ⟨h0, h1, bb, n, c, h2, h3, by rw [Nat.add_assoc]⟩⟩
  | _ => simp [evFAddr] at h

theorem run_idx {t e w n : Nat} {k : IntKind} {v : Value} {i : Int} (h : Hd v n) (h0 : 0 ≤ i) (h1 : i < n) (hu : P.underlying t = some (.slice e)) (hw : cellsW P e w = true) : (Instr.indexAt t v (.int k i)).run P W = .ok (ptrAt v w i) W := by
  rcases h with ⟨_, _, _, rfl⟩ | ⟨a, c, rfl, _⟩
  · omega
  · simp [Instr.indexAt, asIntOf, run_underlying hu, size_run hw, h0, h1, ptrAt_eq, ptrAtD]
theorem SLv.hd {G : GH} {α : Type} {R : α → List Value → Prop} {w : Nat} {l : List α} {v : Value} (h : SLv G R w l v) : Hd v l.length := by
  obtain ⟨L, h1, _⟩ := h
  exact h1.at_.imp id fun ⟨a, c, h2, h3, _⟩ => ⟨a, c, h2, h3⟩
theorem SLv.ptr {G : GH} {α : Type} {R : α → List Value → Prop} {w : Nat} {l : List α} {v : Value} (h : SLv G R w l v) {i : Int} (h0 : 0 ≤ i) (h1 : i < l.length) : ∃ vs, R (l[i.toNat]'(by omega)) vs ∧ PAt G (ptrAt v w i) vs := by
  obtain ⟨L, h2, h3⟩ := h
  exact ⟨_, h3 i.toNat (by omega), h2.ptr h0 h1⟩
theorem numV_of {x : Option AV} {n : Int} (h : numV x = some n) : ∃ k, x = some (.v (.int k n)) := by
  unfold numV at h
  split at h
  · simp only [Option.some.injEq] at h; subst h; exact ⟨_, rfl⟩
  · cases h
theorem num_ev (R : RelA B C LO OW s a sus W) {x : Operand} {n : Int} (h : numV (s.ev x) = some n) : ∃ k, a.eval x = .int k n := by
  obtain ⟨k, hk⟩ := numV_of h
  have := R.ev hk
  simp only [Rep] at this
  exact ⟨k, this⟩
def OwHd (C : Cx) (m : Nat) : Prop := (∃ oa, C.hd m = .slice oa 0 0 ∧ C.ln m = 0) ∨ ∃ b c, C.hd m = .slice (some ⟨b, 0, none⟩) (C.ln m) c ∧ 0 < c ∧ C.ln m ≤ c
theorem own_owhd (R : RelA B C LO OW s a sus W) {m : Nat} {x : OA} (h : findO s.ow m = some x) : OwHd C m := by
  obtain ⟨h1, X, h2, h3, _⟩ := own_at R h
  subst h1
  unfold OwHd
  rw [← h2.v, h2.ln (findO_A h).2, ← h2.n]
  rcases h3.at_ with ⟨oa, e1, e2⟩ | ⟨b', c', L, e1, e2, e3, e4, e5, e6, e7, e8⟩
  · exact .inl ⟨oa, e1, e2⟩
  · exact .inr ⟨b', c', e1, e2, e5⟩
theorem own_hd (R : RelA B C LO OW s a sus W) {m : Nat} {x : OA} (h : findO s.ow m = some x) : Hd (C.hd m) x.l.length := (own_slv R h).hd
theorem own_ptr (R : RelA B C LO OW s a sus W) {m : Nat} {x : OA} (h : findO s.ow m = some x) {i : Int} (h0 : 0 ≤ i) (h1 : i < x.l.length) : m < C.M ∧ wd x.k = C.wo m ∧ InOwn (C.hd m) (ptrAt (C.hd m) (wd x.k) i) (i.toNat * wd x.k) := by
  obtain ⟨h2, X, h3, h4, _⟩ := own_at R h
  have := h4.ptr (i := i) h0 (by rw [h3.n]; exact h1)
  rw [h3.v, h3.w, h2] at this
  exact ⟨by rw [← h2]; exact h3.m, by rw [← h2, h3.wo], this⟩
theorem os_idx (R : RelA B C LO OW s a sus W) {t e m lo hi : Nat} {n : Int} {k : IntKind} (hm : m < C.M) (h2 : lo ≤ hi) (h3 : hi ≤ C.ln m) (hu : P.underlying t = some (.slice e)) (hw : cellsW P e (C.wo m) = true) (h0 : 0 ≤ n) (h1 : n < (hi - lo : Nat)) (hr : OwHd C m) :
    ∃ v, Yd P W (Instr.indexAt t (subAt (C.hd m) (C.wo m) lo hi) (.int k n)) v ∧ Rep C (.op m (C.wo m) (lo + n.toNat) 0) v := by
  rcases hr with ⟨oa, h4, h5⟩ | ⟨b, c, h4, h5, h6⟩
  · omega
  · have hc : ¬ c = lo := by omega
    refine ⟨_, fun _ _ => run_idx (n := hi - lo) ?_ h0 h1 hu hw, ?_⟩
    · rw [h4, subAt_eq]; exact .inr ⟨_, _, rfl, by omega⟩
    · simp only [Rep]
      refine ⟨hm, True.intro, b, _, c, h4, h5, ?_⟩
      rw [h4, subAt_eq, ptrAt_eq]
      simp only [subAtD, hc, if_false, ptrAtD, add_none]
      simp [Nat.add_mul]
theorem evIdx_ok (R : RelA B C LO OW s a sus W) {t : Nat} {n : Int} {k : IntKind} {p : AV} {pv : Value} (hp : Rep C p pv) {b : Bool} {x : AV} (h : evIdx P s t n p = some (b, x)) (hb : b = true) : ∃ v, Yd P W (Instr.indexAt t pv (.int k n)) v ∧ Rep C x v := by
  subst hb
  cases p with
  | sl q kd l =>
    simp only [evIdx] at h
    cases ht : slT P t (wd kd) with
    | false => simp [ht] at h
    | true =>
      simp only [ht, cond_true, Option.some.injEq, Prod.mk.injEq, Bool.and_eq_true, decide_eq_true_eq] at h
      obtain ⟨⟨h0, h1⟩, rfl⟩ := h
      obtain ⟨e, hu, hw⟩ := slT_spec ht
      simp only [Rep] at hp
      obtain ⟨vs, h2, h3⟩ := hp.1.ptr h0 h1
      exact ⟨_, fun _ _ => run_idx hp.1.hd h0 h1 hu hw, by simp only [Rep, List.drop_zero]; exact ⟨vs, by rw [getD_eq (by omega)]; exact h2, h3⟩⟩
  | ov m =>
    simp only [evIdx] at h
    split at h
    · rename_i ob ho
      cases ht : slT P t (wd ob.k) with
      | false => simp [ht] at h
      | true =>
        simp only [ht, cond_true, Option.some.injEq, Prod.mk.injEq, Bool.and_eq_true, decide_eq_true_eq] at h
        obtain ⟨⟨h0, h1⟩, rfl⟩ := h
        obtain ⟨e, hu, hw⟩ := slT_spec ht
        simp only [Rep] at hp
        obtain ⟨_, rfl⟩ := hp
        exact ⟨_, fun _ _ => run_idx (own_hd R ho) h0 h1 hu hw, by simp only [Rep, Nat.add_zero]; exact own_ptr R ho h0 h1⟩
    · cases h
  | os m w lo hi =>
    simp only [evIdx] at h
    split at h
    · rename_i ob ho
      cases ht : slT P t w with
      | false => simp [ht] at h
      | true =>
        simp only [ht, cond_true, Option.some.injEq, Prod.mk.injEq, Bool.and_eq_true, decide_eq_true_eq] at h
        obtain ⟨⟨h0, h1⟩, rfl⟩ := h
        obtain ⟨e, hu, hw⟩ := slT_spec ht
        simp only [Rep] at hp
        obtain ⟨hm, h2, h3, rfl, rfl⟩ := hp
        exact os_idx R hm h2 h3 hu hw h0 h1 (own_owhd R ho)
    · cases h
  | lp i off =>
    simp only [evIdx] at h
    split at h
    · rename_i len e hu
      split at h
      · rename_i cs hcs
        simp only [Rep] at hp
        obtain ⟨hi, rfl⟩ := hp
        obtain ⟨vs, h2, h3⟩ := lp_at R hcs
        split at h
        · rename_i n' l hl
          cases hn : (Nat.beq len n' && cellsW P e 1) with
          | false => simp [hn] at h
          | true =>
            simp only [hn, cond_true, Option.some.injEq, Prod.mk.injEq, Bool.and_eq_true, decide_eq_true_eq] at h
            obtain ⟨⟨h0, h1⟩, rfl⟩ := h
            simp only [Bool.and_eq_true] at hn
            refine ⟨_, fun W' g => (rd_idxA (P := P) (B := B) (G := view W) (k := k) (h3 off) h0 h1 hu hn.2).run W' (R.seesX g), ?_⟩
            simp only [Rep]
            refine ⟨hi, h0, ?_⟩
            rw [ptrOff_eq]; simp only [ptrOffD, add_none, Nat.mul_one, Nat.add_assoc]
        · split at h
          · rename_i inf hinf
            simp only [Option.some.injEq, Prod.mk.injEq, Bool.and_eq_true, decide_eq_true_eq] at h
            obtain ⟨⟨h0, h1⟩, rfl⟩ := h
            refine ⟨_, fun W' g => (rd_idxA (P := P) (B := B) (G := view W) (k := k) (w := inf.size) (h3 off) h0 h1 hu (by simp [cellsW, hinf])).run W' (R.seesX g), ?_⟩
            simp only [Rep]
            refine ⟨hi, ?_⟩
            rw [ptrOff_eq]; simp only [ptrOffD, add_none, Nat.add_assoc]
          · cases h
      · cases h
    · cases h
  | _ => simp [evIdx] at h
end
end Go.Proofs.Ytoiacgfhjikddaa.W
