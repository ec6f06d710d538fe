/- The interpreter is right, tenth part: append, copy, make, literals. -/
import Derived.Test.YtoiacgfhjikddaaWM
set_option linter.unusedSimpArgs false
set_option linter.unusedVariables false
namespace Go.Proofs.Ytoiacgfhjikddaa.W
open Go.RowKit Vc

section
variable {C C' : Cx} {B : Base} {s : AS} {a : Act} {W W' : World} {P : Program} {LO : List Vc.Loc} {OW : List OwnV} {sus : List Act} {o : Oper} {Rt : Type} {Q : Rt → Prop} {kk : AS → T Rt}

theorem PC.nil {k : K} : PC C k [] [] := fun i h => by simp at h
theorem PC.app {k : K} {l r : List (El k)} {L R : List Value} (hl : L.length = l.length * wd k) (h1 : PC C k l L) (h2 : PC C k r R) : PC C k (l ++ r) (L ++ R) := fun i hi => by
  rw [List.length_append] at hi
  rw [List.getElem_append]
  split
  · rename_i h
    have := h1 i h
    have hle : (i + 1) * wd k ≤ l.length * wd k := Nat.mul_le_mul_right _ h
    rw [Nat.add_mul, Nat.one_mul] at hle
    rwa [List.drop_append_of_le_length (by omega), List.take_append_of_le_length (by rw [List.length_drop]; omega)]
  · rename_i h
    have := h2 (i - l.length) (by omega)
    have e : (L ++ R).drop (i * wd k) = R.drop ((i - l.length) * wd k) := by
      rw [List.drop_append, List.drop_of_length_le (by rw [hl]; exact Nat.mul_le_mul_right _ (by omega)), List.nil_append, hl, Nat.sub_mul]
    rw [e]; exact this
theorem PC.sub {k : K} {l : List (El k)} {L : List Value} (h : PC C k l L) {lo hi : Nat} (h1 : lo ≤ hi) (h2 : hi ≤ l.length) : PC C k ((l.drop lo).take (hi - lo)) ((L.drop (lo * wd k)).take ((hi - lo) * wd k)) := fun i hi' => by
  rw [List.length_take, List.length_drop] at hi'
  have := h (lo + i) (by omega)
  rw [List.getElem_take, List.getElem_drop, List.drop_take, List.drop_drop, List.take_take, Nat.min_eq_left, ← Nat.add_mul]
  · exact this
  · rw [← Nat.sub_mul]; exact Nat.le_mul_of_pos_left _ (by omega)
theorem PC.one {k : K} (hw : 0 < wd k) {l : List (El k)} {L : List Value} (h : PC C k l L) (hL : L.length = l.length * wd k) : ∀ u ∈ L, oneC u = true := by
  intro u hu
  obtain ⟨p, hp⟩ := List.getElem?_of_mem hu
  have hlt : p < L.length := (List.getElem?_eq_some_iff.1 hp).1
  have hi : p / wd k < l.length := Nat.div_lt_of_lt_mul (by rw [Nat.mul_comm]; omega)
  have h1 := h (p / wd k) hi
  have h2 := RepC.one (enc_ok (C := C) (q := 1) (by simp) h1)
  refine h2 u ?_
  refine List.mem_of_getElem? (i := p % wd k) ?_
  rw [List.getElem?_take, if_pos (Nat.mod_lt _ hw), List.getElem?_drop, Nat.mul_comm, Nat.div_add_mod]; exact hp
/-- What a slice is, that is read. -/
structure Src (C : Cx) (W : World) (k : K) (ys : List (El k)) (v : Value) : Prop where
  row : ∃ L, Row (view W) v (wd k) ys.length L ∧ PC C k ys L
theorem slv_pc {G : GH} {k : K} {l : List (El k)} {v : Value} {R : El k → List Value → Prop} (h : SLv G R (wd k) l v) (g : GExt G (view W)) (hr : ∀ x vs, R x vs → VC C.Gb C.G k x vs) : Src C W k l v := by
  obtain ⟨L, h1, h2⟩ := h
  exact ⟨L, h1.mono g, fun i hi => hr _ _ (h2 i hi)⟩
theorem listOf_ok (R : RelA B C LO OW s a sus W) {k : K} {x : AV} {v : Value} {ys : List (El k)} (h : listOf s k x = some ys) (hv : Rep C x v) : Src C W k ys v := by
  cases x with
  | sl q k' l =>
    simp only [listOf] at h
    cases hq : Nat.blt 0 q with
    | true =>
      simp only [hq, cond_true] at h
      split at h
      · rename_i e; subst e
        simp only [Option.some.injEq, castL_rfl] at h; subst h
        simp only [Rep] at hv
        obtain ⟨q', rfl⟩ : ∃ q', q = q' + 1 := ⟨q - 1, by have := blt_iff.1 hq; omega⟩
        exact slv_pc hv.1 (R.gview _) fun x vs h => h
      · cases h
    | false =>
      simp only [hq, cond_false] at h
      split at h
      · rename_i e; subst e
        simp only [Rep] at hv
        split at h
        · simp only [Option.some.injEq, castL_rfl] at h; subst h
          exact slv_pc hv.1 (R.gview _) fun x vs h => h
        · simp only [Option.some.injEq, castL_rfl] at h; subst h
          exact slv_pc hv.1 (R.gview _) fun x vs h => h
        · simp only [Option.some.injEq, castL_rfl] at h; subst h
          exact slv_pc hv.1 (R.gview _) fun x vs h => h
        · cases h
      · cases h
  | ov m =>
    simp only [listOf] at h
    split at h
    · rename_i ob ho
      split at h
      · rename_i e; subst e
        simp only [Option.some.injEq, castL_rfl] at h; subst h
        simp only [Rep] at hv
        obtain ⟨_, rfl⟩ := hv
        obtain ⟨e1, X, h1, h2, _⟩ := own_at R ho
        have := h2.row
        rw [h1.v, h1.w, h1.n, e1] at this
        exact ⟨X.l, this, h1.pc⟩
      · cases h
    · cases h
  | os m w lo hi =>
    simp only [listOf] at h
    split at h
    · rename_i ob ho
      split at h
      · rename_i e; subst e
        simp only [Option.some.injEq, castL_rfl] at h; subst h
        simp only [Rep] at hv
        obtain ⟨_, h3, h4, rfl, rfl⟩ := hv
        obtain ⟨e1, X, h1, h2, _⟩ := own_at R ho
        have := h2.row
        rw [h1.v, h1.w, h1.n, e1] at this
        have hle : hi ≤ ob.l.length := by rw [← h1.ln (findO_A (by assumption)).2, e1]; exact h4
        have hwo : C.wo m = wd ob.k := by rw [← e1]; exact h1.wo
        rw [hwo]
        have hlen : ((ob.l.drop lo).take (hi - lo)).length = hi - lo := by rw [List.length_take, List.length_drop]; omega
        exact ⟨_, by rw [hlen]; exact this.sub h3 hle, h1.pc.sub h3 hle⟩
      · cases h
    · cases h
  | ls i off n =>
    simp only [listOf] at h
    have hk : k = .i .u8 := by
      cases k with
      | i k => cases k <;> first | rfl | simp [lsOf] at h
      | _ => simp [lsOf] at h
    subst hk
    simp only [lsOf] at h
    split at h
    · rename_i cs hcs
      split at h
      · rename_i n' l hb
        cases hn : Nat.beq n n' with
        | false => simp [hn] at h
        | true =>
          simp only [hn, cond_true, Option.some.injEq] at h; subst h
          have := Nat.eq_of_beq_eq_true hn; subst this
          simp only [Rep] at hv
          obtain ⟨_, rfl⟩ := hv
          obtain ⟨vs, h1, h2⟩ := lp_at R hcs
          obtain ⟨h3, us, h4⟩ := bytesAt_ok hb h1
          have h5 := h2 off
          rw [h4] at h5
          have h6 := slv_bytes (Gb := C.Gb) h5
          rw [sliceOf_eq, h3] at h6
          exact slv_pc (k := .i .u8) h6 (GExt.refl _) fun x vs h => h
      · cases h
    · cases h
  | v y =>
    simp only [listOf, isNilA] at h
    cases hn : isNilS y with
    | false => simp [hn] at h
    | true =>
      simp only [hn, cond_true, Option.some.injEq] at h; subst h
      have := nilS_of hn; subst this
      simp only [Rep] at hv; subst hv
      exact ⟨[], Row.nil _ _, PC.nil⟩
  | _ => simp [listOf, isNilA] at h
theorem elemT_ok {t e bytes : Nat} {k : K} (h : elemT P t = some (e, k, bytes)) : P.underlying t = some (.slice e) ∧ elemB P e (wd k) bytes = true ∧ 0 < wd k ∧ okK k = true ∧ cellsW P e (wd k) = true ∧ e < objMark := by
  unfold elemT at h
  split at h
  · rename_i e' hu
    split at h
    · rename_i k' i hk hi
      cases hb : (elemB P e' (wd k') i.bytes && Nat.blt 0 (wd k') && okK k' && Nat.blt e' objMark) with
      | false => simp [hb] at h
      | true =>
        simp only [hb, cond_true, Option.some.injEq, Prod.mk.injEq] at h
        obtain ⟨rfl, rfl, rfl⟩ := h
        simp only [Bool.and_eq_true] at hb
        refine ⟨hu, hb.1.1.1, blt_iff.1 hb.1.1.2, hb.1.2, ?_, blt_iff.1 hb.2⟩
        have := hb.1.1.1
        unfold elemB at this
        unfold cellsW
        rw [hi] at this ⊢
        simp only at this ⊢
        split at this
        · simp only [Bool.and_eq_true] at this; exact this.1.1
        · cases this
    · cases h
  · cases h
theorem br_true {b : Bool} {t f : T Rt} (h : (T.br b t f).ok Q) (hf : ¬ f.ok Q) : b = true ∧ t.ok Q := by
  cases b with
  | true => exact ⟨rfl, h⟩
  | false => exact absurd h hf
theorem run_append2 {c : Call} {x y : Operand} {t : Nat} {v : Value} (ho : o.op = .call c) (hc : c.callee = .builtin .append) (ha : c.args.toList = [x, y]) (ht : c.argTypes.toList = [t, t]) (h : (Builtin.append_ #[t, t] o.type #[a.eval x, a.eval y]).run P W = .ok v W') : (execOp a.eval o).run P W = .ok (.value v) W' := by
  have e1 : c.args = #[x, y] := by apply Array.ext'; simpa using ha
  have e2 : c.argTypes = #[t, t] := by apply Array.ext'; simpa using ht
  simp only [execOp, ho]
  show (Sem.bind (resolve a.eval c o.type) _).run P W = _
  unfold resolve
  rw [hc, e1, e2]
  simp only [List.map_toArray, List.map_cons, List.map_nil]
  exact bind_val h
theorem run_copy2 {c : Call} {x y : Operand} {t : Nat} {v : Value} (ho : o.op = .call c) (hc : c.callee = .builtin .copy) (ha : c.args.toList = [x, y]) (ht : c.argTypes.toList = [t, t]) (h : (Builtin.copy_ #[t, t] o.type #[a.eval x, a.eval y]).run P W = .ok v W') : (execOp a.eval o).run P W = .ok (.value v) W' := by
  have e1 : c.args = #[x, y] := by apply Array.ext'; simpa using ha
  have e2 : c.argTypes = #[t, t] := by apply Array.ext'; simpa using ht
  simp only [execOp, ho]
  show (Sem.bind (resolve a.eval c o.type) _).run P W = _
  unfold resolve
  rw [hc, e1, e2]
  simp only [List.map_toArray, List.map_cons, List.map_nil]
  exact bind_val h

theorem evAppend_ok (R : RelA B C LO OW s a sus W) {c : Call} {t : Nat} {x y : Operand} (ho : o.op = .call c) (hc : c.callee = .builtin .append) (ha : c.args.toList = [x, y]) (ht : c.argTypes.toList = [t, t]) (h : (evAppend P s o.dst t x y kk).ok Q) : Comes P B a sus W o fun s' => (kk s').ok Q := by
  unfold evAppend at h
  split at h
  · rename_i p q e kd bytes hp hq he
    obtain ⟨hu, hel, hw0, hok, hcw, hem⟩ := elemT_ok he
    split at h
    · rename_i ys hys
      obtain ⟨L, hrow, hpc⟩ := (listOf_ok R hys (R.ev hq)).row
      have hone : ∀ u ∈ L, u.oneCell' = true := fun u hu => one_one (hpc.one hw0 (by rw [hrow.len]) u hu)
      split at h
      · rename_i m
        split at h
        · rename_i ob hob
          cases hbe : Nat.beq ob.e e with
          | false => simp only [hbe, cond_false] at h; exact h.elim
          | true =>
            simp only [hbe, cond_true] at h
            split at h
            · rename_i ek; subst ek
              obtain ⟨hd, h⟩ := br_true h (fun h => h)
              rw [decide_eq_true_eq] at hd
              obtain ⟨hs1, hs2⟩ := size_ok hd
              obtain ⟨e1, i, X, hX, hXr, hown, huniq⟩ := own_of R hob
              have hpv := R.ev hp
              simp only [Rep] at hpv
              have hXv : X.v = a.eval x := by rw [hXr.v, e1, hpv.2]
              rw [hXr.e.eqS (findO_A hob).2, Nat.eq_of_beq_eq_true hbe, hXr.w, hXr.n] at hown
              obtain ⟨v', W', G', h1, h2, h3⟩ := append_eff (P := P) (t := t) (ty := o.type) hu (elem_of hel) hw0 hown hrow (view_sub W) hone hs1 hs2 R.rel.gx_sees R.rel.sz
              have hL : X.l.length = ob.l.length * wd ob.k := by have := hown.len; exact this
              have h3' : Made B (gx W OW C.G) G' X.v v' e (wd ob.k) (ob.l ++ ys).length (X.l ++ L) := by rw [List.length_append]; exact h3
              obtain ⟨C', R', hr⟩ := R.renewed hob hX huniq (k := ob.k) (lst := ob.l ++ ys) hem rfl h2 h3' (hXr.pc.app hL hpc)
              refine ⟨_, _, _, _, _, _, _, run_append2 ho hc ha ht (by rw [← hXv]; exact h1), .inl rfl, R'.put o.dst hr, ?_, fun e => by simp [newO, ho] at e⟩
              rw [castL_rfl] at h; exact h
            · exact h.elim
        · exact h.elim
      · rename_i k' l
        split at h
        · rename_i ek; subst ek
          obtain ⟨hd, h⟩ := br_true h (fun h => h)
          rw [Bool.and_eq_true, decide_eq_true_eq, decide_eq_true_eq] at hd
          obtain ⟨hs1, hs2⟩ := size_ok hd.2
          have hpv := R.ev hp
          simp only [Rep] at hpv
          obtain ⟨⟨Lx, hrx, hpx⟩, hfull⟩ := hpv
          obtain ⟨v', W', G', h1, h2, h3⟩ := append_full (P := P) (t := t) (ty := o.type) (G1 := C.G) (G2 := view W) hu (elem_of hel) hrx (hfull True.intro) hrow R.rel.sub (view_sub W) hd.1 hs1 hs2 R.rel.gx_sees R.rel.sz
          have h3' : Made B (gx W OW C.G) G' (.slice none 0 0) v' e (wd k') (l ++ ys).length (Lx ++ L) := by rw [List.length_append]; exact h3
          obtain ⟨C', _, R', hr⟩ := R.made (k := k') (lst := l ++ ys) hem h2 h3' (PC.app (by rw [hrx.len]) (fun i hi => hpx i hi) hpc)
          refine ⟨_, _, _, _, _, _, _, run_append2 ho hc ha ht h1, .inl rfl, R'.put o.dst hr, ?_, fun e => by simp [newO, ho] at e⟩
          rw [castL_rfl] at h; exact h
        · exact h.elim
      · cases hn : isNilA p with
        | false => simp only [hn, cond_false] at h; exact h.elim
        | true =>
          simp only [hn, cond_true] at h
          obtain ⟨hd, h⟩ := br_true h (fun h => h)
          rw [decide_eq_true_eq] at hd
          have hd' : (0 + ys.length) * (bytes + 1) ≤ 140737488355328 := by rw [Nat.zero_add]; exact hd
          obtain ⟨hs1, hs2⟩ := size_ok hd'
          have := isNilA_of hn; subst this
          have hpv := R.ev hp
          simp only [Rep] at hpv
          obtain ⟨v', W', G', h1, h2, h3⟩ := append_eff (P := P) (t := t) (ty := o.type) hu (elem_of hel) hw0 (Own.nil (gx W OW C.G) B.n0 e (wd kd)) hrow (view_sub W) hone hs1 hs2 R.rel.gx_sees R.rel.sz
          have h3' : Made B (gx W OW C.G) G' (.slice none 0 0) v' e (wd kd) ys.length L := by simpa using h3
          obtain ⟨C', _, R', hr⟩ := R.made (k := kd) (lst := ys) hem h2 h3' hpc
          exact ⟨_, _, _, _, _, _, _, run_append2 ho hc ha ht (by rw [hpv]; exact h1), .inl rfl, R'.put o.dst hr, h, fun e => by simp [newO, ho] at e⟩
    · exact h.elim
  · exact h.elim
theorem wr_pc {k : K} {l ys : List (El k)} {L Ly : List Value} {lo m' : Nat} (hL : L.length = l.length * wd k) (hLy : Ly.length = ys.length * wd k) (h1 : PC C k l L) (h2 : PC C k ys Ly) (hm : m' ≤ ys.length) (hle : lo + m' ≤ l.length) :
    PC C k (l.take lo ++ ys.take m' ++ l.drop (lo + m')) (wrAt L (lo * wd k) (Ly.take (m' * wd k))) := by
  have hlen : (Ly.take (m' * wd k)).length = m' * wd k := by rw [List.length_take, hLy]; exact Nat.min_eq_left (Nat.mul_le_mul_right _ hm)
  unfold wrAt
  rw [hlen, ← Nat.add_mul]
  have a1 : PC C k (l.take lo) (L.take (lo * wd k)) := by
    have := h1.sub (lo := 0) (hi := lo) (Nat.zero_le _) (by omega)
    simpa using this
  have a2 : PC C k (ys.take m') (Ly.take (m' * wd k)) := by
    have := h2.sub (lo := 0) (hi := m') (Nat.zero_le _) hm
    simpa using this
  have a3 : PC C k (l.drop (lo + m')) (L.drop ((lo + m') * wd k)) := by
    have := h1.sub (lo := lo + m') (hi := l.length) hle (Nat.le_refl _)
    rw [List.take_of_length_le (by rw [List.length_drop]; omega), List.take_of_length_le (by rw [List.length_drop, hL, Nat.sub_mul]; omega)] at this
    exact this
  have l1 : (L.take (lo * wd k)).length = (l.take lo).length * wd k := by
    rw [List.length_take, List.length_take, hL, Nat.min_eq_left (Nat.mul_le_mul_right _ (by omega)), Nat.min_eq_left (by omega)]
  refine PC.app ?_ (PC.app l1 a1 a2) a3
  rw [List.length_append, List.length_append, l1, hlen, List.length_take (i := m'), Nat.min_eq_left hm, Nat.add_mul]
theorem own_subAll {N e w n : Nat} {v : Value} {l : List Value} {G : GH} (h : Own G N v e w n l) : subAt v w 0 n = v := h.sub_all
theorem evCopy_ok (R : RelA B C LO OW s a sus W) {c : Call} {t : Nat} {x y : Operand} (ho : o.op = .call c) (hc : c.callee = .builtin .copy) (ha : c.args.toList = [x, y]) (ht : c.argTypes.toList = [t, t]) (h : (evCopy P s o.dst t x y kk).ok Q) : Comes P B a sus W o fun s' => (kk s').ok Q := by
  have key : ∀ {m : Nat} {ob : OA} {lo hi e : Nat} {ys : List (El ob.k)} {L : List Value} (hob : findO s.ow m = some ob) (hx : a.eval x = subAt (C.hd m) (wd ob.k) lo hi) (h1 : lo ≤ hi) (h2 : hi ≤ ob.l.length) (hrow : Row (view W) (a.eval y) (wd ob.k) ys.length L) (hpc : PC C ob.k ys L) (hw0 : 0 < wd ob.k) (hu : P.underlying t = some (.slice e)) (hcw : cellsW P e (wd ob.k) = true) (hee : ob.e = e),
      ∃ W' LO' OW', (execOp a.eval o).run P W = .ok (.value (.int .i64 (min ys.length (hi - lo) : Nat))) W' ∧ RelA B C LO' OW' (s.rewrite m ⟨m, ob.e, ob.k, ob.l.take lo ++ ys.take (min ys.length (hi - lo)) ++ ob.l.drop (lo + min ys.length (hi - lo))⟩) a sus W' := by
    intro m ob lo hi e ys L hob hx h1 h2 hrow hpc hw0 hu hcw hee
    obtain ⟨e1, i, X, hX, hXr, hown, huniq⟩ := own_of R hob
    have hone : ∀ u ∈ L, u.oneCell' = true := fun u hu => one_one (hpc.one hw0 (by rw [hrow.len]) u hu)
    rw [hXr.w, hXr.e.eqS (findO_A hob).2, hee] at hown
    obtain ⟨r, W', G', h3, h4, rfl, h5⟩ := copy_eff (P := P) (t := t) (u := t) (m' := min ys.length (hi - lo)) hown h1 (by rw [hXr.n]; exact h2) hrow (view_sub W) rfl hone hu hcw R.rel.gx_sees R.rel.sz
    have hL : X.l.length = ob.l.length * wd ob.k := by have := hown.len; rw [hXr.n] at this; exact this
    have hm1 : min ys.length (hi - lo) ≤ ys.length := Nat.min_le_left _ _
    have hm2 : min ys.length (hi - lo) ≤ hi - lo := Nat.min_le_right _ _
    have R' := R.rewritten hob hX huniq (k := ob.k) (lst := ob.l.take lo ++ ys.take (min ys.length (hi - lo)) ++ ob.l.drop (lo + min ys.length (hi - lo))) rfl (by simp only [List.length_append, List.length_take, List.length_drop]; omega) hXr h4 (by rw [hXr.w, hXr.e.eqS (findO_A hob).2, hee]; exact h5) (wr_pc hL hrow.len hXr.pc hpc hm1 (by omega))
    refine ⟨W', _, _, ?_, R'⟩
    refine run_copy2 ho hc ha ht ?_
    rw [hx, ← e1, ← hXr.v]
    exact h3
  unfold evCopy at h
  split at h
  · rename_i p q e kd bytes hp hq he
    obtain ⟨hu, hel, hw0, hok, hcw, hem⟩ := elemT_ok he
    split at h
    · rename_i ys hys
      obtain ⟨L, hrow, hpc⟩ := (listOf_ok R hys (R.ev hq)).row
      split at h
      · rename_i m
        split at h
        · rename_i ob hob
          split at h
          · rename_i ek; subst ek
            cases hbe : Nat.beq ob.e e with
            | false => simp only [hbe, Bool.not_false, cond_true] at h; exact h.elim
            | true =>
            simp only [hbe, Bool.not_true, cond_false] at h
            have hee := Nat.eq_of_beq_eq_true hbe
            have hpv := R.ev hp
            simp only [Rep] at hpv
            obtain ⟨e1, X, h1, h2, _⟩ := own_at R hob
            have hall : subAt (C.hd m) (wd ob.k) 0 ob.l.length = C.hd m := by
              have := h2.sub_all
              rw [h1.v, h1.w, h1.n, e1] at this; exact this
            obtain ⟨W', LO', OW', h3, R'⟩ := key hob (lo := 0) (hi := ob.l.length) (by rw [hpv.2, hall]) (Nat.zero_le _) (Nat.le_refl _) hrow hpc hw0 hu hcw hee
            refine ⟨_, _, _, _, _, _, _, h3, .inl rfl, R'.put o.dst (x := .v (.int .i64 (min ys.length ob.l.length : Nat))) (by simp [Rep]), ?_, fun e => by simp [newO, ho] at e⟩
            rw [castL_rfl] at h
            have e2 : ob.l.take 0 ++ ys.take (min ys.length (ob.l.length - 0)) ++ ob.l.drop (0 + min ys.length (ob.l.length - 0)) = ys.take ob.l.length ++ ob.l.drop ys.length := by
              rw [List.take_zero, List.nil_append, Nat.sub_zero, Nat.zero_add]
              by_cases hle : ys.length ≤ ob.l.length
              · rw [Nat.min_eq_left hle, List.take_of_length_le (Nat.le_refl _), List.take_of_length_le hle]
              · rw [Nat.min_eq_right (by omega), List.drop_of_length_le (Nat.le_refl _), List.drop_of_length_le (show ob.l.length ≤ ys.length by omega)]
            rw [e2]; exact h
          · exact h.elim
        · exact h.elim
      · rename_i m w lo hi
        split at h
        · rename_i ob hob
          split at h
          · rename_i ek; subst ek
            cases hbe : Nat.beq ob.e e with
            | false => simp only [hbe, Bool.not_false, cond_true] at h; exact h.elim
            | true =>
            simp only [hbe, Bool.not_true, cond_false] at h
            have hee := Nat.eq_of_beq_eq_true hbe
            have hpv := R.ev hp
            simp only [Rep] at hpv
            obtain ⟨_, h1, h2, h3, h4⟩ := hpv
            obtain ⟨e1, X, h5, _⟩ := own_at R hob
            have hwo : C.wo m = wd ob.k := by rw [← e1]; exact h5.wo
            obtain ⟨W', LO', OW', h6, R'⟩ := key hob (lo := lo) (hi := hi) (by rw [h4, h3, hwo]) h1 (by rw [← h5.ln (findO_A hob).2, e1]; exact h2) hrow hpc hw0 hu hcw hee
            refine ⟨_, _, _, _, _, _, _, h6, .inl rfl, R'.put o.dst (x := .v (.int .i64 (min ys.length (hi - lo) : Nat))) (by simp [Rep]), ?_, fun e => by simp [newO, ho] at e⟩
            rw [castL_rfl] at h
            have e2 : ys.take (min ys.length (hi - lo)) = ys.take (hi - lo) := by
              by_cases hle : ys.length ≤ hi - lo
              · rw [Nat.min_eq_left hle, List.take_of_length_le (Nat.le_refl _), List.take_of_length_le hle]
              · rw [Nat.min_eq_right (by omega)]
            rw [e2]; exact h
          · exact h.elim
        · exact h.elim
      · exact h.elim
    · exact h.elim
  · exact h.elim
end
end Go.Proofs.Ytoiacgfhjikddaa.W
