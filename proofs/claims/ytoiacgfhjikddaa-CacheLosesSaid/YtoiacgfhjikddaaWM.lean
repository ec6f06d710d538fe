/- The interpreter is right, ninth part: operations that change something. -/
import Derived.Test.YtoiacgfhjikddaaWL
set_option linter.unusedSimpArgs false
set_option linter.unusedVariables false
namespace Go.Proofs.Ytoiacgfhjikddaa.W
open Go.RowKit Vc

section
variable {C C' : Cx} {B : Base} {s : AS} {a : Act} {W W' : World} {P : Program} {LO : List Vc.Loc} {OW : List OwnV} {sus : List Act} {o : Oper} {Rt : Type} {Q : Rt → Prop} {kk : AS → T Rt}

/-- What an operation comes to. -/
def newO : Op → Bool
  | .box _ _ => true
  | .alloc _ => true
  | .makeSlice _ _ _ => true
  | .buildSlice _ _ _ => true
  | .binOp _ _ _ _ _ => true
  | _ => false
theorem view_push (W : World) (o : Obj) : GExt (view W) (view { W with heap := W.heap.push o }) := fun k x h => by
  have hk : k < W.heap.size := (Array.getElem?_eq_some_iff.1 h).1
  show (W.heap.push o)[k]? = some x
  rw [Array.getElem?_push, if_neg (by omega)]; exact h
def Comes (P : Program) (B : Base) (a : Act) (sus : List Act) (W : World) (o : Oper) (K : AS → Prop) : Prop :=
  ∃ nx u W' C' LO' OW' s', (execOp a.eval o).run P W = .ok nx W' ∧ (nx = .value u ∨ (nx = .skip ∧ u = undef)) ∧ RelA B C' LO' OW' s' (a.put o.dst u) sus W' ∧ K s' ∧ (newO o.op = true → GExt (view W) (view W'))
theorem one_one {u : Value} (h : oneC u = true) : u.oneCell' = true := by cases u <;> first | rfl | simp [oneC] at h
theorem setAll_get {α : Type} {xs l : List α} {k : Nat} (h : k + xs.length ≤ l.length) (p : Nat) : (setAll l k xs)[p]? = if k ≤ p ∧ p < k + xs.length then xs[p - k]? else l[p]? := by
  rw [setAll_wr xs l k h]
  by_cases h1 : p < k
  · rw [if_neg (by omega), List.append_assoc, List.getElem?_append_left (by rw [List.length_take]; omega), List.getElem?_take, if_pos h1]
  · by_cases h2 : p < k + xs.length
    · rw [if_pos (by omega), List.getElem?_append_left (by rw [List.length_append, List.length_take]; omega), List.getElem?_append_right (by rw [List.length_take]; omega), List.length_take, Nat.min_eq_left (by omega)]
    · rw [if_neg (by omega), List.getElem?_append_right (by rw [List.length_append, List.length_take]; omega), List.getElem?_drop]
      congr 1
      rw [List.length_append, List.length_take]; omega
theorem mul_lt_of {i j w p : Nat} (h : i < j) (hp : p < w) : i * w + p < j * w := by
  have : (i + 1) * w ≤ j * w := Nat.mul_le_mul_right _ h
  rw [Nat.add_mul, Nat.one_mul] at this; omega
theorem wr_piece {l us : List Value} {w n j off i : Nat} (hl : l.length = n * w) (hj : j < n) (hi : i < n) (h : off + us.length ≤ w) : ((setAll l (j * w + off) us).drop (i * w)).take w = if i = j then setAll ((l.drop (j * w)).take w) off us else (l.drop (i * w)).take w := by
  have hjn : (j + 1) * w ≤ n * w := Nat.mul_le_mul_right _ hj
  have hin : (i + 1) * w ≤ n * w := Nat.mul_le_mul_right _ hi
  rw [Nat.add_mul, Nat.one_mul] at hjn hin
  apply List.ext_getElem?
  intro p
  rw [List.getElem?_take, List.getElem?_drop]
  by_cases hp : p < w
  · rw [if_pos hp, setAll_get (by omega)]
    by_cases hij : i = j
    · subst hij
      rw [if_pos rfl, setAll_get (by rw [List.length_take, List.length_drop]; omega)]
      by_cases hc : off ≤ p ∧ p < off + us.length
      · rw [if_pos (by omega), if_pos hc]; congr 1; omega
      · rw [if_neg (by omega), if_neg hc, List.getElem?_take, if_pos hp, List.getElem?_drop]
    · rw [if_neg hij, List.getElem?_take, if_pos hp, List.getElem?_drop]
      rw [if_neg]
      rcases Nat.lt_or_gt_of_ne hij with hlt | hgt
      · have := mul_lt_of hlt hp; omega
      · have : j * w + w ≤ i * w := by have := Nat.mul_le_mul_right w (show j + 1 ≤ i from hgt); rw [Nat.add_mul, Nat.one_mul] at this; exact this
        omega
  · rw [if_neg hp]
    by_cases hij : i = j
    · rw [if_pos hij, List.getElem?_eq_none]; rw [setAll_length, List.length_take]; omega
    · rw [if_neg hij, List.getElem?_eq_none]; rw [List.length_take]; omega
theorem PC.set {k : K} {lst : List (El k)} {L us : List Value} {j off : Nat} {z : El k} (h : PC C k lst L) (hL : L.length = lst.length * wd k) (hj : j < lst.length) (ho : off + us.length ≤ wd k) (hz : VC C.Gb C.G k z (setAll ((L.drop (j * wd k)).take (wd k)) off us)) : PC C k (lst.set j z) (setAll L (j * wd k + off) us) := fun i hi => by
  rw [List.length_set] at hi
  rw [wr_piece hL hj hi ho, List.getElem_set]
  by_cases e : i = j
  · subst e; rw [if_pos rfl, if_pos rfl]; exact hz
  · rw [if_neg e, if_neg (fun e' => e e'.symm)]; exact h i hi
theorem wrAt_set {l us : List Value} {k : Nat} (h : k + us.length ≤ l.length) : wrAt l k us = setAll l k us := by rw [setAll_wr us l k h]; rfl
theorem wrC_ok {cs xs cs' : List AV} {off n : Nat} {vs us : List Value} (h : wrC cs off xs n = some cs') (hr : RepC C cs vs) (hx : RepC C xs us) (hl : us.length = n) : RepC C cs' (setAll vs off us) ∧ off + n ≤ vs.length := by
  unfold wrC at h
  split at h
  · rename_i l hl'
    simp only [Option.some.injEq] at h; subst h
    exact wrW_ok hl' hr hx hl
  · split at h
    · rename_i z
      cases hn : Nat.beq n 1 with
      | false => simp [hn] at h
      | true =>
        simp only [hn, cond_true] at h
        have := Nat.eq_of_beq_eq_true hn; subst this
        obtain ⟨h4, h5⟩ := wrB_ok h hr
        rw [RepC.cons rfl] at hx
        obtain ⟨v2, us2, rfl, _, h6, h7⟩ := hx
        simp only [Rep] at h6; subst h6
        simp only [RepC] at h7; subst h7
        exact ⟨h4, h5⟩
    · cases h
theorem okK_noSn : ∀ {k : K}, okK k = true → noSn k = true
  | .p x y, h => by
    simp only [okK, Bool.and_eq_true] at h
    simp only [noSn, Bool.and_eq_true]; exact ⟨okK_noSn h.1, okK_noSn h.2⟩
  | .sn e k, h => by simp [okK] at h
  | .b, _ => rfl
  | .i _, _ => rfl
  | .s, _ => rfl
  | .a8 _, _ => rfl
  | .sl _, _ => rfl
  | .sb _, _ => rfl
  | .u, _ => rfl
theorem dcK_ok (hh : HdOk C) {k : K} {x : AV} {y : El k} {v : Value} (h : dcK k x = some y) (hr : Rep C x v) : ∃ us, v.cells = ⟨us⟩ ∧ VC C.Gb C.G k y us := by
  unfold dcK at h
  cases hk : okK k with
  | false => simp [hk] at h
  | true =>
    simp only [hk, cond_true] at h
    split at h
    · rename_i cs hcs
      obtain ⟨us, h1, h2⟩ := cellsA_ok hh hcs hr
      split at h
      · rename_i z hz
        simp only [Option.some.injEq] at h; subst h
        have hn : noSn k = true := okK_noSn hk
        obtain ⟨p, q, h3, h4, h5⟩ := dc_ok (ow := []) (C := C) (by intro m o h; simp [findO, findA] at h) hn (.inl hk) hz h2
        simp only [RepC] at h5
        subst h5
        rw [List.append_nil] at h3; subst h3
        exact ⟨_, h1, h4⟩
      · cases h
    · cases h

/-! ### Variables -/
theorem evBox_ok (R : RelA B C LO OW s a sus W) {t : Nat} {x : Operand} (ho : o.op = .box t x) (h : (evBox s o.dst t x kk).ok Q) : Comes P B a sus W o fun s' => (kk s').ok Q := by
  unfold evBox at h
  split at h
  · rename_i y hy
    split at h
    · rename_i cs hcs
      obtain ⟨vs, h1, h2⟩ := cellsA_ok R.hh hcs (R.ev hy)
      obtain ⟨C', _, R', hp⟩ := R.newBox (t := t) h2
      refine ⟨_, _, _, _, _, _, _, ?_, .inl rfl, R'.put o.dst hp, h, fun _ => view_push W _⟩
      simp only [execOp, ho]
      show (Sem.bind (Instr.box t (a.eval x)) _).run P W = _
      have : (Instr.box t (a.eval x)).run P W = .ok (.pointer (some ⟨W.heap.size, 0, none⟩)) { W with heap := W.heap.push (.cells ⟨vs⟩ t) } := by
        rw [← h1]; rfl
      rw [run_bind this]; rfl
    · exact h.elim
  · exact h.elim
theorem evAlloc_ok (R : RelA B C LO OW s a sus W) {t : Nat} (ho : o.op = .alloc t) (h : (evAlloc P s o.dst t kk).ok Q) : Comes P B a sus W o fun s' => (kk s').ok Q := by
  unfold evAlloc at h
  split at h
  · rename_i cs hcs
    obtain ⟨i, z, hi, hz, hr⟩ := zeroA_ok (C := C) hcs
    obtain ⟨C', _, R', hp⟩ := R.newBox (t := t) hr
    refine ⟨_, _, _, _, _, _, _, ?_, .inl rfl, R'.put o.dst hp, h, fun _ => view_push W _⟩
    simp only [execOp, ho]
    show (Sem.bind (Sem.bind (Sem.bind (typeInfo t) _) _) _).run P W = _
    rw [Sem.bind_assoc', Sem.bind_assoc', run_bind (typeInfo_run hi)]
    simp only [hz]; rfl
  · exact h.elim
theorem run_storeAt {t : Nat} {inf : TypeInfo} {v : Value} {us : List Value} {ad : Addr} (hi : P.info? t = some inf) (hv : v.cells = ⟨us⟩) (hl : us.length = inf.size) (hr : (storeCells ad us).run P W = .ok () W') : (Instr.storeAt t (.pointer (some ad)) v).run P W = .ok () W' := by
  show (storeVar t ad v).run P W = _
  show (Sem.bind (sizeOf t) _).run P W = _
  rw [run_bind (sizeOf_run hi)]
  have : v.cells.size = inf.size := by rw [hv]; exact hl
  simp only [this, ne_eq, not_true_eq_false, if_false]
  rw [hv]; exact hr
theorem store_skip {t : Nat} {x y : Operand} (ho : o.op = .store t x y) (h : (Instr.storeAt t (a.eval x) (a.eval y)).run P W = .ok () W') : (execOp a.eval o).run P W = .ok .skip W' := by
  have hrun : (execOp a.eval o).run P W = ((Instr.storeAt t (a.eval x) (a.eval y)).bind (fun _ => .pure .skip)).run P W := by simp only [execOp, ho]; rfl
  rw [hrun]; exact (run_bind h).trans rfl
theorem evStL_ok (R : RelA B C LO OW s a sus W) {t i off : Nat} {x y : Operand} {inf : TypeInfo} {z : AV} (ho : o.op = .store t x y) (hi : P.info? t = some inf) (hx : Rep C (.lp i off) (a.eval x)) (hy : Rep C z (a.eval y)) (h : (evStL s o.dst inf.size i off z kk).ok Q) : Comes P B a sus W o fun s' => (kk s').ok Q := by
  unfold evStL at h
  split at h
  · rename_i l xs hl hxs
    cases hb : Nat.beq (widths xs) inf.size with
    | false => simp only [hb, cond_false] at h; exact h.elim
    | true =>
      simp only [hb, cond_true] at h
      split at h
      · rename_i cs hcs
        obtain ⟨us, h1, h2⟩ := cellsA_ok R.hh hxs hy
        obtain ⟨vs, h3, h4⟩ := R.lo.get hl
        have hlen : us.length = inf.size := by rw [h2.len]; exact Nat.eq_of_beq_eq_true hb
        obtain ⟨h5, h6⟩ := wrC_ok hcs h4 h2 hlen
        obtain ⟨W', h7, R'⟩ := R.wrote (P := P) hl h3 (by omega) h2.one h5
        simp only [Rep] at hx
        refine ⟨_, undef, _, _, _, _, _, store_skip ho ?_, .inr ⟨rfl, rfl⟩, R'.put o.dst (by simp [Rep]), h, fun e => by simp [newO, ho] at e⟩
        rw [hx.2]; exact run_storeAt hi h1 hlen h7
      · exact h.elim
  · exact h.elim
theorem evStB_ok (R : RelA B C LO OW s a sus W) {t i off n : Nat} {j z : Int} {x y : Operand} {inf : TypeInfo} (ho : o.op = .store t x y) (hi : P.info? t = some inf) (h1 : inf.size = 1) (hx : Rep C (.lb i off n j) (a.eval x)) (hy : a.eval y = .int .u8 z) (h : (evStB s o.dst i off n j z kk).ok Q) : Comes P B a sus W o fun s' => (kk s').ok Q := by
  unfold evStB at h
  split at h
  · rename_i l hl
    split at h
    · rename_i n' b hb
      cases hn : Nat.beq n n' with
      | false => simp only [hn, cond_false] at h; exact h.elim
      | true =>
        simp only [hn, cond_true] at h
        have := Nat.eq_of_beq_eq_true hn; subst this
        split at h
        · rename_i cs hcs
          simp only [T.ok] at h
          have hj : j < n := by
            cases hd : decide (j < n) with
            | true => exact of_decide_eq_true hd
            | false => rw [hd] at h; exact h.elim
          rw [decide_eq_true hj] at h
          have h : (kk (({ s with lo := s.lo.set i ⟨cs, l.e⟩ } : AS).put o.dst (.v undef))).ok Q := h
          simp only [Rep] at hx
          obtain ⟨_, h0, hxe⟩ := hx
          obtain ⟨vs, h3, h4⟩ := R.lo.get hl
          obtain ⟨h5, us, h6⟩ := bytesAt_ok hb h4
          have hjl : j.toNat < b.length := by omega
          have hbl : (bts (b.set j.toNat z)).length = n := by rw [bts_length, List.length_set]; exact h5
          obtain ⟨h7, h8⟩ := wrW_ok hcs h4 (us := bts (b.set j.toNat z)) (by rw [RepC.by_]; exact ⟨[], by rw [List.length_set]; exact h5, by simp, by simp [RepC]⟩) hbl
          have e : setAll vs off (bts (b.set j.toNat z)) = setAll vs (off + j.toNat) [.int .u8 z] := by
            apply List.ext_getElem?
            intro p
            rw [setAll_get (by omega), setAll_get (by simp; omega)]
            have hvs : ∀ q, q < b.length → vs[off + q]? = (bts b)[q]? := fun q hq => by
              rw [← List.getElem?_drop, h6, List.getElem?_append_left (by rw [bts_length]; exact hq)]
            by_cases hp : off ≤ p ∧ p < off + n
            · rw [if_pos (by rw [hbl]; exact hp)]
              by_cases hq : p = off + j.toNat
              · subst hq
                rw [if_pos (by simp), bts_get]
                simp [hjl]
              · rw [if_neg (by simp; omega), bts_get, List.getElem?_set_ne (by omega)]
                have := hvs (p - off) (by omega)
                rw [bts_get, show off + (p - off) = p by omega] at this
                exact this.symm
            · rw [if_neg (by rw [hbl]; exact hp), if_neg (by simp; omega)]
          rw [e] at h7
          obtain ⟨W', h9, R'⟩ := R.wrote (P := P) hl h3 (us := [.int .u8 z]) (by simp; omega) (by simp [oneC]) h7
          refine ⟨_, undef, _, _, _, _, _, store_skip ho ?_, .inr ⟨rfl, rfl⟩, R'.put o.dst (by simp [Rep]), h, fun e => by simp [newO, ho] at e⟩
          rw [hxe, hy]; exact run_storeAt hi (us := [.int .u8 z]) rfl (by rw [h1]; rfl) h9
        · exact h.elim
    · exact h.elim
  · exact h.elim
theorem evStO_ok (R : RelA B C LO OW s a sus W) {t m w j off : Nat} {x y : Operand} {inf : TypeInfo} {z : AV} (ho : o.op = .store t x y) (hi : P.info? t = some inf) (hx : Rep C (.op m w j off) (a.eval x)) (hy : Rep C z (a.eval y)) (h : (evStO s o.dst inf.size m j off z kk).ok Q) : Comes P B a sus W o fun s' => (kk s').ok Q := by
  unfold evStO at h
  split at h
  · rename_i ob xs hob hxs
    cases hb : (Nat.beq (widths xs) inf.size && okK ob.k) with
    | false => simp only [hb, cond_false] at h; exact h.elim
    | true =>
      simp only [hb, cond_true] at h
      simp only [Bool.and_eq_true] at hb
      split at h
      · rename_i cs hcs
        split at h
        · rename_i zz hzz
          simp only [T.ok] at h
          have hj : j < ob.l.length := by
            cases hd : Nat.blt j ob.l.length with
            | true => exact blt_iff.1 hd
            | false => rw [hd] at h; exact h.elim
          rw [blt_iff.2 hj] at h
          have h : (kk ((s.rewrite m ⟨m, ob.e, ob.k, ob.l.set j zz⟩).put o.dst (.v undef))).ok Q := h
          obtain ⟨us, h1, h2⟩ := cellsA_ok R.hh hxs hy
          have hlen : us.length = inf.size := by rw [h2.len]; exact Nat.eq_of_beq_eq_true hb.1
          obtain ⟨e1, i, X, hX, hXr, hown, huniq⟩ := own_of R hob
          rw [getD_eq hj] at hcs
          have hpj := hXr.pc j hj
          obtain ⟨h5, h6⟩ := wrC_ok hcs (enc_ok (q := 1) (by simp) hpj) h2 hlen
          have hwl : ((X.l.drop (j * wd ob.k)).take (wd ob.k)).length = wd ob.k := hpj.len
          rw [hwl] at h6
          have hn : noSn ob.k = true := okK_noSn hb.2
          obtain ⟨p, q, h7, h8, h9⟩ := dc_ok (ow := []) (C := C) (by intro m o h; simp [findO, findA] at h) hn (.inl hb.2) hzz h5
          simp only [RepC] at h9; subst h9
          rw [List.append_nil] at h7; subst h7
          simp only [Rep] at hx
          obtain ⟨_, hw, bb, n', c', h10, h11, h12⟩ := hx
          have hXv := hXr.v
          rw [e1, h10] at hXv
          have hL : X.l.length = ob.l.length * wd ob.k := by have := hown.len; rw [hXr.n, hXr.w] at this; exact this
          rcases hown.at_ with ⟨oa, e2, e3⟩ | ⟨b', c'', L, e2, hc0, hbN, hgb, hnc, hcm, hLc, hLt⟩
          · have := hXr.n; omega
          · rw [hXv] at e2; injection e2 with e2 e2' e2''; injection e2 with e2; injection e2 with e2
            subst e2
            have hwk : w = wd ob.k := by rw [hw, ← e1, hXr.wo]
            have hle : j * wd ob.k + wd ob.k ≤ ob.l.length * wd ob.k := by
              have := Nat.mul_le_mul_right (wd ob.k) (show j + 1 ≤ ob.l.length from hj)
              rw [Nat.add_mul, Nat.one_mul] at this; exact this
            obtain ⟨W', G', hr, hg, hmd⟩ := own_set (P := P) (k := j * w + off) (xs := us) R.rel.gx_sees hbN hgb hc0 hnc hcm hLc (by rw [hXr.n, hXr.w, hwk]; omega) (fun u hu => one_one (h2.one u hu))
            rw [e2', e2''] at hXv
            rw [← hLt, wrAt_set (by rw [hL, hwk]; omega), hwk, ← hXv] at hmd
            have R' := R.rewritten hob hX huniq (k := ob.k) (lst := ob.l.set j zz) rfl (by simp) hXr hg hmd (hXr.pc.set hL hj (by omega) h8)
            refine ⟨_, undef, _, _, _, _, _, store_skip ho ?_, .inr ⟨rfl, rfl⟩, R'.put o.dst (by simp [Rep]), h, fun e => by simp [newO, ho] at e⟩
            rw [h12]; exact run_storeAt hi h1 hlen hr
        · exact h.elim
      · exact h.elim
  · exact h.elim
theorem evStore_ok (R : RelA B C LO OW s a sus W) {t : Nat} {x y : Operand} (ho : o.op = .store t x y) (h : (evStore P s o.dst t x y kk).ok Q) : Comes P B a sus W o fun s' => (kk s').ok Q := by
  unfold evStore at h
  split at h
  · rename_i i off z inf hx hy hi
    exact evStL_ok R ho hi (R.ev hx) (R.ev hy) h
  · rename_i i off n j z inf hx hy hi
    cases hb : Nat.beq inf.size 1 with
    | false => simp only [hb, cond_false] at h; exact h.elim
    | true =>
      simp only [hb, cond_true] at h
      have := R.ev hy
      simp only [Rep] at this
      exact evStB_ok R ho hi (Nat.eq_of_beq_eq_true hb) (R.ev hx) this h
  · rename_i _ _ _ _ z inf hx hy hi
    obtain ⟨C1, OW1, _, R1⟩ := R.freezes (l := ovs z)
    unfold evStP at h
    split at h
    · rename_i m w j off a1 hx1 hy1
      exact evStO_ok R1 ho hi (R1.ev hx1) (R1.ev hy1) h
    · exact h.elim
  · exact h.elim
end
end Go.Proofs.Ytoiacgfhjikddaa.W
