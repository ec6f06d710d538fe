/- The interpreter is right, eleventh part: make, literals of slices, any operation that changes something. -/
import Derived.Test.YtoiacgfhjikddaaWOS
import Derived.Lib.AppendZeros
set_option linter.unusedSimpArgs false
set_option linter.unusedVariables false
namespace Go.Proofs.Ytoiacgfhjikddaa.W
open Go.RowKit Vc

section
variable {C C' : Cx} {B : Base} {s : AS} {a : Act} {W W' : World} {P : Program} {LO : List Vc.Loc} {OW : List OwnV} {sus : List Act} {o : Oper} {Rt : Type} {Q : Rt → Prop} {kk : AS → T Rt}

theorem made_get {z : Array Value} {n p : Nat} (hz : 0 < z.size) (hp : p < n) : (madeCells z n).toList[p]? = z.toList[p % z.size]? := by
  have hlt : p % z.size < z.size := Nat.mod_lt _ hz
  have h1 : (madeCells z n).toList[p]? = some z[p % z.size]! := by
    simp only [madeCells, Array.toList_map, Array.toList_range, List.getElem?_map, List.getElem?_range, hp]
    simp [List.getElem?_range hp]
  rw [h1, getElem!_pos z _ hlt]
  simp [hlt]
theorem made_piece {z : Array Value} {n i : Nat} (hz : 0 < z.size) (hi : i < n) : ((madeCells z (n * z.size)).toList.drop (i * z.size)).take z.size = z.toList := by
  have hin : (i + 1) * z.size ≤ n * z.size := Nat.mul_le_mul_right _ hi
  rw [Nat.add_mul, Nat.one_mul] at hin
  apply List.ext_getElem?
  intro p
  rw [List.getElem?_take, List.getElem?_drop]
  by_cases hp : p < z.size
  · rw [if_pos hp, made_get hz (by omega), Nat.add_comm, Nat.add_mul_mod_self_right, Nat.mod_eq_of_lt hp]
  · rw [if_neg hp, List.getElem?_eq_none (by simpa using hp)]
theorem zeroK_ok {e bytes : Nat} {k : K} {z : El k} (hok : okK k = true) (h : zeroK P e k = some z) (hel : elemB P e (wd k) bytes = true) : ∃ i zz, P.info? e = some i ∧ i.zero = some zz ∧ i.size = wd k ∧ i.bytes = bytes ∧ zz.cells.size = wd k ∧ VC C.Gb C.G k z zz.cells.toList := by
  unfold zeroK at h
  split at h
  · rename_i cs hcs
    obtain ⟨i, zz, hi, hz, hr⟩ := zeroA_ok (C := C) hcs
    split at h
    · rename_i x hx
      simp only [Option.some.injEq] at h; subst h
      obtain ⟨p, q, h3, h4, h5⟩ := dc_ok (ow := []) (C := C) (by intro m o h; simp [findO, findA] at h) (okK_noSn hok) (.inl hok) hx hr
      simp only [RepC] at h5; subst h5
      rw [List.append_nil] at h3; subst h3
      unfold elemB at hel
      simp only [hi, hz, Bool.and_eq_true] at hel
      exact ⟨i, zz, hi, hz, Nat.eq_of_beq_eq_true hel.1.1, Nat.eq_of_beq_eq_true hel.1.2, Nat.eq_of_beq_eq_true hel.2, h4⟩
    · cases h
  · cases h
theorem PC.rep {k : K} {n : Nat} {z : El k} {zz : Array Value} (hz : zz.size = wd k) (hw : 0 < wd k) (h : VC C.Gb C.G k z zz.toList) : PC C k (List.replicate n z) (madeCells zz (n * wd k)).toList := fun i hi => by
  rw [List.length_replicate] at hi
  have := made_piece (z := zz) (n := n) (i := i) (by omega) hi
  rw [hz] at this
  rw [this, List.getElem_replicate]; exact h
theorem RelA.made2 (R : RelA B C LO OW s a sus W) {G' : GH} {k : K} {lst : List (El k)} {v' : Value} {e n : Nat} {l' : List Value} (he : e < objMark)
    (g : Grew B (gx W OW C.G) G' W W') (md : Made B (gx W OW C.G) G' (.slice none 0 0) v' e (wd k) n l') (hn : n = lst.length) (pc : PC C k lst l') :
    ∃ C', CLe C C' ∧ RelA B C' LO (OW ++ [⟨v', e, wd k, lst.length, l'⟩]) (s.fresh e k lst) a sus W' ∧ Rep C' (.ov s.nx) v' := by
  subst hn; exact R.made he g md pc
theorem evMake_ok (R : RelA B C LO OW s a sus W) {t : Nat} {x y : Operand} (ho : o.op = .makeSlice t x y) (h : (evMake P s o.dst t x y kk).ok Q) : Comes P B a sus W o fun s' => (kk s').ok Q := by
  unfold evMake at h
  split at h
  · rename_i e kd bytes n c he hn hc
    obtain ⟨hu, hel, hw0, hok, hcw, hem⟩ := elemT_ok he
    split at h
    · rename_i z hz
      obtain ⟨hd, h⟩ := br_true h (fun h => h)
      rw [Bool.and_eq_true, Bool.and_eq_true, decide_eq_true_eq, decide_eq_true_eq, decide_eq_true_eq] at hd
      obtain ⟨⟨h0, rfl⟩, h1⟩ := hd
      obtain ⟨i, zz, hi, hzz, e1, e2, e3, hv⟩ := zeroK_ok (C := C) hok hz hel
      obtain ⟨k1, hk1⟩ := num_ev R hn
      obtain ⟨k2, hk2⟩ := num_ev R hc
      have hm : (bytes : Int) * c ≤ 281474976710656 ∧ c ≤ 140737488355328 := by
        rw [Int.add_mul, Int.one_mul] at h1
        have h2 : 0 ≤ (bytes : Int) * c := Int.mul_nonneg (by omega) h0
        omega
      have hr := run_make (P := P) W t e i zz hu hi hzz k1 k2 c c h0 (Int.le_refl _) (by rw [e2]; exact hm.1) (by omega)
      rw [e1] at hr
      obtain ⟨g, md⟩ := own_new (B := B) (e := e) (w := wd kd) (n := c.toNat) (c := c.toNat) (L := (madeCells zz.cells (c.toNat * wd kd)).toList) R.rel.gx_sees R.rel.sz (Nat.le_refl _) (by simp only [maxLen]; omega) (by rw [Array.length_toList, size_madeCells])
      rw [List.take_of_length_le (by rw [Array.length_toList, size_madeCells]; exact Nat.le_refl _)] at md
      obtain ⟨C', _, R', hrep⟩ := R.made2 (k := kd) (lst := List.replicate c.toNat z) hem g md (by simp) (PC.rep e3 hw0 hv)
      refine ⟨_, _, _, _, _, _, _, ?_, .inl rfl, R'.put o.dst hrep, h, fun _ => view_push W _⟩
      simp only [execOp, ho, hk1, hk2]; exact bind_val hr
    · exact h.elim
  · exact h.elim
theorem evAppZ_ok (R : RelA B C LO OW s a sus W) {c : Call} {t t' : Nat} {x y : Operand} (ho : o.op = .call c) (hc : c.callee = .builtin .append) (ha : c.args.toList = [x, y]) (ht : c.argTypes.toList = [t, t']) (h : (evAppZ P s o.dst t t' x y kk).ok Q) : Comes P B a sus W o fun s' => (kk s').ok Q := by
  unfold evAppZ at h
  split at h
  · rename_i p q n e kd bytes kn hp hq he hu'
    cases hn : isNilA p with
    | false => simp only [hn, cond_false] at h; exact h.elim
    | true =>
      simp only [hn, cond_true] at h
      obtain ⟨hu, hel, hw0, hok, hcw, hem⟩ := elemT_ok he
      split at h
      · rename_i z hz
        obtain ⟨hd, h⟩ := br_true h (fun h => h)
        rw [Bool.and_eq_true, decide_eq_true_eq, decide_eq_true_eq] at hd
        obtain ⟨h0, h1⟩ := hd
        obtain ⟨i, zz, hi, hzz, e1, e2, e3, hv⟩ := zeroK_ok (C := C) hok hz hel
        have hpv := R.ev hp
        rw [isNilA_of hn] at hpv
        have hpv : a.eval x = .slice none 0 0 := by simpa [Rep] using hpv
        have hqv : a.eval y = .int q n := by have := R.ev hq; simpa [Rep] using this
        obtain ⟨m, rfl⟩ : ∃ m : Nat, n = m := ⟨n.toNat, by omega⟩
        have hm0 : 0 < m := by omega
        have hb2 : m * bytes + m ≤ 140737488355328 := by
          rw [Int.mul_add, Int.mul_one, ← Int.natCast_mul] at h1
          omega
        have hr := Lib.run_append_nil_zeros (P := P) W t t' o.type e i zz q kn hu hu' hi hzz m hm0 (by omega) (by omega) (by rw [e2]; omega)
        have hge := grownCap_ge W m 0 e
        have hcm : grownCap W m 0 e ≤ maxLen := grownCap_le_maxLen W m 0 e (by simp only [maxLen]; omega)
        have hsz : ∀ k, (Builtin.zeroCells zz.cells k).size = k * wd kd := fun k => by rw [size_zeroCells, e3]
        obtain ⟨g, md⟩ := own_new (B := B) (W := W.drew) (G := gx W OW C.G) (e := e) (w := wd kd) (n := m) (c := grownCap W m 0 e) (L := (Builtin.zeroCells zz.cells m ++ Builtin.zeroCells zz.cells (grownCap W m 0 e - m)).toList) R.rel.gx_sees R.rel.sz hge hcm (by
          rw [Array.length_toList, Array.size_append, hsz, hsz, ← Nat.add_mul]; congr 1; omega)
        have htk : (Builtin.zeroCells zz.cells m ++ Builtin.zeroCells zz.cells (grownCap W m 0 e - m)).toList.take (m * wd kd) = (Builtin.zeroCells zz.cells m).toList := by
          rw [Array.toList_append, List.take_left' (by rw [Array.length_toList, hsz])]
        rw [htk] at md
        have hrep : (Builtin.zeroCells zz.cells m).toList = (madeCells zz.cells (m * wd kd)).toList := by
          show ((Array.range (m * zz.cells.size)).map _).toList = ((Array.range (m * wd kd)).map _).toList
          rw [e3]
        rw [hrep] at md
        obtain ⟨C', _, R', hrp⟩ := R.made2 (k := kd) (lst := List.replicate m z) hem (W' := W.drew.alloc (.cells (Builtin.zeroCells zz.cells m ++ Builtin.zeroCells zz.cells (grownCap W m 0 e - m)) e)) ⟨g.keep, g.hid, g.sub, g.old, g.ext, g.os, g.tape, g.output, g.size⟩ ⟨md.own, md.keep, md.sep⟩ (by simp) (PC.rep e3 hw0 hv)
        have e5 : c.args = #[x, y] := by apply Array.ext'; simpa using ha
        have e6 : c.argTypes = #[t, t'] := by apply Array.ext'; simpa using ht
        refine ⟨_, _, _, _, _, _, _, ?_, .inl rfl, R'.put o.dst hrp, by simpa using h, fun hn => by simp [newO, ho] at hn⟩
        simp only [execOp, ho]
        show (Sem.bind (resolve a.eval c o.type) _).run P W = _
        unfold resolve
        rw [hc, e5, e6]
        simp only [List.map_toArray, List.map_cons, List.map_nil, hpv, hqv]
        exact bind_val hr
      · exact h.elim
  · exact h.elim
theorem setL_len {α : Type} : ∀ {q : List (Nat × α)} {l : List α}, (setL l q).length = l.length
  | [], l => rfl
  | (i, x) :: r, l => by simp [setL, setL_len (q := r)]
theorem fillS_ok (hh : HdOk C) {k : K} {n : Nat} : ∀ {l : List (Nat × AV)} {q : List (Nat × El k)} {lst : List (El k)} {L : List Value} {lv : List (Nat × Value)}, dcs k l = some q → ltAll n l = true → PartsR C l lv → lst.length = n → L.length = n * wd k → PC C k lst L →
    ∃ L', Instr.fill (fun i => some (i * wd k, wd k)) ⟨L⟩ lv = some ⟨L'⟩ ∧ L'.length = n * wd k ∧ PC C k (setL lst q) L'
  | [], q, lst, L, lv, hq, hlt, hp, hn, hL, hpc => by
    simp only [dcs, Option.some.injEq] at hq; subst hq
    rw [show lv = [] from hp]
    exact ⟨L, rfl, hL, hpc⟩
  | (i, x) :: r, q, lst, L, lv, hq, hlt, hp, hn, hL, hpc => by
    obtain ⟨v, q', rfl, h1, h2⟩ := hp
    simp only [dcs] at hq
    split at hq
    · rename_i z q2 hz hq2
      simp only [Option.some.injEq] at hq; subst hq
      simp only [ltAll, Bool.and_eq_true] at hlt
      have hi : i < n := blt_iff.1 hlt.1
      obtain ⟨us, hus, hvc⟩ := dcK_ok hh hz h1
      have hin : (i + 1) * wd k ≤ n * wd k := Nat.mul_le_mul_right _ hi
      rw [Nat.add_mul, Nat.one_mul] at hin
      have hul : us.length = wd k := hvc.len
      rw [fill_cons rfl hus hul (by omega), wrAt_set (by omega)]
      have hset : PC C k (lst.set i z) (setAll L (i * wd k) us) := by
        have := PC.set (off := 0) hpc (by rw [hn]; exact hL) (by omega) (by omega) (z := z) (us := us) (j := i) (by
          rw [setAll_all us _ (by rw [List.length_take, List.length_drop]; omega), List.drop_of_length_le (by rw [List.length_take, List.length_drop]; omega), List.append_nil]; exact hvc)
        simpa using this
      show ∃ L', _ ∧ _ ∧ PC C k (setL (lst.set i z) q2) L'
      exact fillS_ok hh hq2 hlt.2 h2 (by rw [List.length_set]; exact hn) (by rw [setAll_length]; exact hL) hset
    · cases hq
theorem evBldP_ok (R : RelA B C LO OW s a sus W) {t n e bytes : Nat} {kd : K} {ps : List (Nat × Operand)} (hu : P.underlying t = some (.slice e)) (hel : elemB P e (wd kd) bytes = true) (hw0 : 0 < wd kd) (hok : okK kd = true) (hem : e < objMark) {psa : Array (Nat × Operand)} (hps : psa.toList = ps) (ho : o.op = .buildSlice t n psa) (h : (evBldP P s o.dst e kd n ps kk).ok Q) : Comes P B a sus W o fun s' => (kk s').ok Q := by
  unfold evBldP at h
  split at h
  · rename_i l z hl hz
    split at h
    · rename_i q hq
      cases hb : (ltAll n l && Nat.ble (n * wd kd) 16777216 && Nat.ble n 16777216) with
      | false => simp only [hb, cond_false] at h; exact h.elim
      | true =>
        simp only [hb, cond_true] at h
        simp only [Bool.and_eq_true] at hb
        obtain ⟨⟨hlt, h1⟩, h2⟩ := hb
        have h1 := Nat.le_of_ble_eq_true h1
        have h2 := Nat.le_of_ble_eq_true h2
        obtain ⟨i, zz, hi, hzz, e1, e2, e3, hv⟩ := zeroK_ok (C := C) hok hz hel
        obtain ⟨L', hf, hL', hpc⟩ := fillS_ok (n := n) R.hh hq hlt (parts_ok R hl) (lst := List.replicate n z) (L := (madeCells zz.cells (n * wd kd)).toList) (by simp) (by rw [Array.length_toList, size_madeCells]) (PC.rep e3 hw0 hv)
        obtain ⟨g, md⟩ := own_new (B := B) (e := e) (w := wd kd) (n := n) (c := n) (L := L') R.rel.gx_sees R.rel.sz (Nat.le_refl _) (by simp only [maxLen]; omega) hL'
        rw [List.take_of_length_le (by omega)] at md
        obtain ⟨C', _, R', hrep⟩ := R.made2 (k := kd) (lst := setL (List.replicate n z) q) hem g md (by rw [setL_len, List.length_replicate]) hpc
        refine ⟨_, _, _, _, _, _, _, ?_, .inl rfl, R'.put o.dst hrep, h, fun _ => view_push W _⟩
        have ep : psa.map (fun (i, x) => (i, a.eval x)) = ⟨ps.map fun (i, x) => (i, a.eval x)⟩ := by apply Array.ext'; simp [hps]
        simp only [execOp, ho, ep]
        refine bind_val ?_
        have hlim : ¬ (16777216 < n * wd kd) := by omega
        have hmc : ((Array.range (n * wd kd)).map (zz.cells[· % zz.cells.size]!) : Array Value) = ⟨(madeCells zz.cells (n * wd kd)).toList⟩ := rfl
        by_cases h0 : n * wd kd = 0
        · have hn0 : n = 0 := by rcases Nat.mul_eq_zero.1 h0 with h | h <;> omega
          subst hn0
          rw [Nat.zero_mul] at hf hmc
          have e0 : (Array.map (fun _ => default) (Array.range 0) : Array Value) = ⟨(madeCells zz.cells 0).toList⟩ := by apply Array.ext'; simp [madeCells]
          simp [Instr.buildSlice, run_underlying hu, sizeOf, typeInfo, hi, e1, newRow]
          have hf' : Instr.fill (fun i => some (i * wd kd, wd kd)) (Array.map (fun _ => default) (Array.range 0)) (List.map (fun x => (x.fst, a.eval x.snd)) ps) = some ⟨L'⟩ := by rw [e0]; exact hf
          rw [hf']
          simp [newRow]
        · simp [Instr.buildSlice, run_underlying hu, sizeOf, typeInfo, zeroValue, hi, hzz, e1, h0, hlim]
          have hf' : Instr.fill (fun i => some (i * wd kd, wd kd)) (Array.map (fun x => zz.cells[x % zz.cells.size]!) (Array.range (n * wd kd))) (ps.map fun (i, x) => (i, a.eval x)) = some ⟨L'⟩ := by rw [hmc]; exact hf
          rw [hf']
          simp [newRow]
    · exact h.elim
  · exact h.elim
theorem nil_run {t e n : Nat} {v : Value} (hv : Hd v n) (hu : P.underlying t = some (.slice e)) : ∃ b : Bool, (b = true → n = 0) ∧ (binOp .eql t v (.slice none 0 0)).run P W = .ok (.bool b) W ∧ (binOp .neq t v (.slice none 0 0)).run P W = .ok (.bool !b) W := by
  have key : ∀ oa n' c, v = .slice oa n' c → (binOp .eql t v (.slice none 0 0)).run P W = .ok (.bool oa.isNone) W ∧ (binOp .neq t v (.slice none 0 0)).run P W = .ok (.bool !oa.isNone) W := by
    rintro oa n' c rfl
    constructor
    · show (Sem.bind (Op.equal t (.slice oa n' c) (.slice none 0 0)) _).run P W = _
      rw [run_bind (run_equal_slice_nil W t e oa n' c hu)]; rfl
    · show (Sem.bind (Op.equal t (.slice oa n' c) (.slice none 0 0)) _).run P W = _
      rw [run_bind (run_equal_slice_nil W t e oa n' c hu)]; rfl
  rcases hv with ⟨oa, c, hv, rfl⟩ | ⟨x, c, hv, h⟩
  · exact ⟨_, fun _ => rfl, key _ _ _ hv⟩
  · exact ⟨_, fun h => by simp at h, key _ _ _ hv⟩
theorem upd_skip {t : Nat} {m x y : Operand} (ho : o.op = .mapUpdate t m x y ∨ o.op = .insert t m x y) (h : (Instr.mapUpdate t (a.eval m) (a.eval x) (a.eval y)).run P W = .ok () W') : (execOp a.eval o).run P W = .ok .skip W' := by
  have hrun : (execOp a.eval o).run P W = ((Instr.mapUpdate t (a.eval m) (a.eval x) (a.eval y)).bind (fun _ => .pure .skip)).run P W := by
    rcases ho with ho | ho <;> simp only [execOp, ho] <;> rfl
  rw [hrun, run_bind h]; rfl
theorem evL_ok (R : RelA B C LO OW s a sus W) (h : (evL P s o kk).ok Q) : Comes P B a sus W o fun s' => (kk s').ok Q := by
  unfold evL at h
  split at h
  · rename_i t x ho; exact evBox_ok R ho h
  · rename_i t ho; exact evAlloc_ok R ho h
  · rename_i t x y ho; exact evStore_ok R ho h
  · rename_i t x y ho; exact evMake_ok R ho h
  · rename_i t n ps ho
    unfold evBldS at h
    split at h
    · rename_i e kd bytes l he hl
      obtain ⟨hu, hel, hw0, hok, hcw, hem⟩ := elemT_ok he
      obtain ⟨C1, OW1, _, R1⟩ := R.freezes (l := ovP l)
      exact evBldP_ok R1 hu hel hw0 hok hem rfl ho h
    · exact h.elim
  · rename_i op t x y ty ho
    split at h
    · rename_i q kd l z hx hy
      cases hb : (isNilS z && slT P t (wd kd)) with
      | false => simp only [hb, cond_false] at h; exact h.elim
      | true =>
        simp only [hb, cond_true] at h
        simp only [Bool.and_eq_true] at hb
        have hz := nilS_of hb.1; subst hz
        obtain ⟨e, hu, hw⟩ := slT_spec hb.2
        have hxv := R.ev hx
        simp only [Rep] at hxv
        have hyv := R.ev hy
        simp only [Rep] at hyv
        obtain ⟨b, h1, h2, h3⟩ := nil_run (P := P) (W := W) hxv.1.hd hu
        have hk := h b (fun e => List.eq_nil_of_length_eq_zero (h1 e))
        have hg : ∀ op, (eqGuard op t x y (a.eval x) (.slice none 0 0)).run P W = .ok () W := fun op => by
          unfold eqGuard
          cases op <;> cases a.eval x <;> rfl
        have hrun : ∀ v, (binOp op t (a.eval x) (.slice none 0 0)).run P W = .ok v W → (execOp a.eval o).run P W = .ok (.value v) W := fun v hv => by
          simp only [execOp, ho, hyv]
          refine bind_val ?_
          show (Sem.bind (eqGuard op t x y (a.eval x) (.slice none 0 0)) _).run P W = _
          rw [run_bind (hg op)]; exact hv
        cases op with
        | eql =>
          refine ⟨_, _, _, _, _, _, _, hrun (.bool b) h2, .inl rfl, R.put o.dst (x := .v (.bool b)) (by simp [Rep]), hk, fun _ => GExt.refl _⟩
        | neq =>
          refine ⟨_, _, _, _, _, _, _, hrun (.bool !b) h3, .inl rfl, R.put o.dst (x := .v (.bool !b)) (by simp [Rep]), hk, fun _ => GExt.refl _⟩
        | _ => exact hk.elim
    · exact h.elim
  · rename_i c ho
    split at h
    · rename_i x y t t' hc ha ht
      cases hb : Nat.beq t t' with
      | false => simp only [hb, cond_false] at h; exact evAppZ_ok R ho hc ha ht h
      | true =>
        simp only [hb, cond_true] at h
        have := Nat.eq_of_beq_eq_true hb; subst this
        exact evAppend_ok R ho hc ha ht h
    · rename_i x y t t' hc ha ht
      cases hb : Nat.beq t t' with
      | false => simp only [hb, cond_false] at h; exact evCopyS_ok R ho hc ha ht h
      | true =>
        simp only [hb, cond_true] at h
        have := Nat.eq_of_beq_eq_true hb; subst this
        exact evCopy_ok R ho hc ha ht h
    · exact h.elim
  · rename_i t x i ho; exact evIdxV_ok R ho h
  · rename_i t1 t2 x ho; exact evS2B_ok R ho h
  · rename_i t r ho; exact evMakeM_ok R ho h
  · rename_i t m x y ho; exact evUpd_ok R (fun W' hr => upd_skip (.inl ho) hr) (by rw [ho]; rfl) h
  · rename_i t m x y ho; exact evUpd_ok R (fun W' hr => upd_skip (.inr ho) hr) (by rw [ho]; rfl) h
  · rename_i t m x ok ho; exact evLook_ok R ho h
  · rename_i t x ho; exact evRange_ok R ho h
  · rename_i it b ho; exact evNext_ok R ho h
  · rename_i it ho; exact evEntry_ok R ho h
  · exact h.elim
end
end Go.Proofs.Ytoiacgfhjikddaa.W
