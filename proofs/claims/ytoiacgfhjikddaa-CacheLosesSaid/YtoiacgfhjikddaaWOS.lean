/- The interpreter is right: elements of arrays, bytes of strings. -/
import Derived.Test.YtoiacgfhjikddaaWON
import Derived.Laws.IdiomStrings
import Derived.Lib.BufferWrite
set_option linter.unusedSimpArgs false
set_option linter.unusedVariables false
namespace Go.Proofs.Ytoiacgfhjikddaa.W
open Go.RowKit Vc

section
variable {C C' : Cx} {B : Base} {s : AS} {a : Act} {W W' : World} {P : Program} {LO : List Vc.Loc} {OW : List OwnV} {sus : List Act} {o : Oper} {Rt : Type} {Q : Rt → Prop} {kk : AS → T Rt}

theorem strBytes_len (z : ByteArray) : (strBytes z).length = z.size := by simp [strBytes]
theorem bts_str (z : ByteArray) : bts (strBytes z) = z.data.toList.map fun b => Value.int .u8 (b.toNat : Int) := by
  simp only [bts, strBytes, List.map_map]; rfl
theorem bts_vc {G1 G2 : GH} {l : List Int} {i : Nat} (h : i < l.length) : VC G1 G2 (.i .u8) l[i] (((bts l).drop (i * 1)).take 1) := by
  show _ = [Value.int .u8 l[i]]
  rw [Nat.mul_one, List.drop_eq_getElem_cons (by rw [bts_length]; exact h), List.take_succ_cons, List.take_zero]
  simp [bts]
theorem evIdxC_ok (R : RelA B C LO OW s a sus W) {t e len : Nat} {x i : Operand} {cs : List AV} {vs : List Value} {n : Int} {inf : TypeInfo} {q : IntKind} (ho : o.op = .index t x i) (hno : newO o.op = false) (hu : P.underlying t = some (.array len e)) (hi : P.info? e = some inf) (hx : a.eval x = .agg ⟨vs⟩) (hcs : RepC C cs vs) (hn : a.eval i = .int q n) :
    ∀ (c j : Nat), c + j = len → (evIdxC P s o.dst e inf.size cs n kk c j).ok Q → Comes P B a sus W o fun s' => (kk s').ok Q
  | 0, j, _, h => h.elim
  | c + 1, j, hl, h => by
    simp only [evIdxC] at h
    split at h
    · rename_i y hy
      have h : PIf (decide (n = j)) _ _ := h
      by_cases e1 : n = j
      · rw [decide_eq_true e1] at h
        obtain ⟨v, h1, h2⟩ := loadC_part hy hcs
        refine ⟨_, v, W, C, LO, OW, _, ?_, .inl rfl, R.put o.dst h2, h, fun hn => by rw [hno] at hn; cases hn⟩
        simp only [execOp, ho, hx, hn]
        refine bind_val ?_
        unfold Instr.index
        simp only [Sem.run_bind, asIntOf, Sem.run_pure, Result.andThen_ok, run_underlying hu, sizeOf_run hi]
        rw [if_pos (by omega), e1]
        simp only [Sem.run_bind, sizeOf_run hi, Result.andThen_ok, Int.toNat_natCast]
        exact part_run h1
      · rw [decide_eq_false e1] at h
        exact evIdxC_ok R ho hno hu hi hx hcs hn c (j + 1) (by omega) h
    · exact h.elim
theorem evIdxV_ok (R : RelA B C LO OW s a sus W) {t : Nat} {x i : Operand} (ho : o.op = .index t x i) (h : (evIdxV P s o.dst t x i kk).ok Q) : Comes P B a sus W o fun s' => (kk s').ok Q := by
  unfold evIdxV at h
  split at h
  · rename_i len e cs n hu hx hn
    split at h
    · rename_i inf hi
      obtain ⟨q, hq⟩ := num_ev R hn
      have hxv := R.ev hx
      simp only [Rep] at hxv
      obtain ⟨vs, h1, h2⟩ := hxv
      exact evIdxC_ok R ho (by rw [ho]; rfl) hu hi h1 h2 hq len 0 (by omega) h
    · exact h.elim
  · exact h.elim
theorem evS2B_ok (R : RelA B C LO OW s a sus W) {t1 t2 : Nat} {x : Operand} (ho : o.op = .convert t1 t2 x) (h : (evS2B P s o.dst t1 t2 x kk).ok Q) : Comes P B a sus W o fun s' => (kk s').ok Q := by
  unfold evS2B at h
  split at h
  · rename_i e z hu1 hu2 hx
    split at h
    · rename_i hu3
      have hxv := R.ev hx
      simp only [Rep] at hxv
      have hr := run_bytes_of_string (P := P) W t1 t2 e z hu1 hu2 hu3
      obtain ⟨fr, hfr⟩ : ∃ fr, fr = ((bytesRow z (grownCap W z.size 0 e)).size, (bytesRow z (grownCap W z.size 0 e)).size + 1) := ⟨_, rfl⟩
      have hge := grownCap_ge W z.size 0 e
      let G' : GH := fun k => if k = W.heap.size then some (.cells (bytesRow z (grownCap W z.size 0 e)) e fr) else C.G k
      have hfresh : C.G W.heap.size = none := by
        cases hg : C.G W.heap.size with
        | none => rfl
        | some y => have := (Array.getElem?_eq_some_iff.1 (R.rel.sub _ _ hg)).1; omega
      have g : Grew B C.G G' W (W.drew.alloc (.cells (bytesRow z (grownCap W z.size 0 e)) e fr)) := Grew.new R.rel.sees R.rel.sz _ rfl rfl rfl rfl
      have gx : GExt C.G G' := fun k y hk => by
        show (if k = W.heap.size then _ else _) = _
        rw [if_neg (fun e => by rw [e, hfresh] at hk; cases hk)]; exact hk
      let C' : Cx := { C with G := G' }
      have hle : CLe C C' := ⟨Nat.le_refl _, Nat.le_refl _, fun _ _ => ⟨rfl, rfl⟩, fun _ _ => ⟨rfl, rfl, rfl⟩, GExt.refl _, gx⟩
      have R' : RelA B C' LO OW s a sus (W.drew.alloc (.cells (bytesRow z (grownCap W z.size 0 e)) e fr)) := ⟨R.rel.grew g, R.m0, R.N, R.M, R.gb, R.hh, R.tm.mono hle, R.fr.mono hle, R.lo.mono hle, R.ow.mono hle⟩
      refine ⟨_, .slice (some ⟨W.heap.size, 0, none⟩) z.size (grownCap W z.size 0 e), _, C', LO, OW, _, ?_, .inl rfl, R'.put o.dst ?_, h, fun hn => by simp [newO, ho] at hn⟩
      · simp only [execOp, ho, hxv]
        refine bind_val ?_
        rw [hr, hfr]
      · simp only [Rep]
        refine ⟨⟨bts (strBytes z), ?_, fun i hi => ?_⟩, fun e => by cases e⟩
        · refine ⟨by rw [bts_length, strBytes_len]; show _ = _ * 1; omega, .inr ⟨_, _, by rw [strBytes_len], by rw [strBytes_len]; exact hge, rfl, (bytesRow z (grownCap W z.size 0 e)).toList, e, fr, ?_, ?_⟩⟩
          · show (if W.heap.size = W.heap.size then _ else _) = _
            rw [if_pos rfl]
          · rw [List.drop_zero, bts_length, strBytes_len, bts_str]
            show _ = (bytesRow z _).toList.take z.size
            rw [bytesRow, Array.toList_append, Array.toList_map, List.take_left' (by simp)]
        · exact bts_vc hi
    · exact h.elim
  · exact h.elim
/-- A string's bytes, copied into one's own. -/
theorem copyS_eff {G : GH} {t u e : TypeId} {n : Nat} {v : Value} {l : List Value} {z : ByteArray} (hv : Own G B.n0 v e 1 n l) (h2 : z.size ≤ n) (hu : P.underlying t = some (.slice e)) (hw : cellsW P e 1 = true) (hs : Sees B G W) (ty : TypeId) :
    ∃ W' G', (Builtin.copy_ #[t, u] ty #[v, .string z]).run P W = .ok (.int .i64 z.size) W' ∧ Grew B G G' W W' ∧ Made B G G' v v e 1 n (wrAt l 0 (bts (strBytes z))) := by
  have hmin : ∀ k, z.size ≤ k → Nat.min z.size k = z.size := fun k h => Nat.min_eq_left h
  have hf : (z.extract 0 z.size).data.map (fun b => Value.int .u8 (b.toNat : Int)) = ⟨bts (strBytes z)⟩ := by
    rw [bts_str]; apply Array.ext'; simp
  have hlen : (bts (strBytes z)).length = z.size := by rw [bts_length, strBytes_len]
  rcases hv.at_ with ⟨oa, rfl, rfl⟩ | ⟨b, c, L, rfl, hc0, hbN, hgb, hnc, hcm, hLc, hL⟩
  · have h0 : z.size = 0 := by omega
    have hl0 : l = [] := List.eq_nil_of_length_eq_zero (by simpa using hv.len)
    have hb0 : bts (strBytes z) = [] := List.eq_nil_of_length_eq_zero (by omega)
    subst hl0
    refine ⟨W, G, ?_, ⟨fun _ _ _ => rfl, fun _ _ h => h, hs.1, fun _ _ => rfl, fun _ _ => rfl, rfl, rfl, rfl, Nat.le_refl _⟩, ⟨by rw [hb0]; simpa [wrAt] using hv, fun _ _ h _ => h, .inl rfl⟩⟩
    have hsz := size_run (P := P) (W := W) hw
    cases oa with
    | none => simp [Builtin.copy_, run_underlying hu, Builtin.lenOf, Builtin.firstCells, hsz, h0, goInt]
    | some oa => simp [Builtin.copy_, run_underlying hu, Builtin.lenOf, Builtin.firstCells, hsz, h0, goInt, storeCells]
  · obtain ⟨W', G', hr, hg, hmd⟩ := own_set (P := P) (k := 0) (xs := bts (strBytes z)) hs hbN hgb hc0 hnc hcm hLc (by rw [hlen]; omega) (fun u hu => by obtain ⟨y, _, rfl⟩ := List.mem_map.1 hu; rfl)
    rw [← hL] at hmd
    refine ⟨W', G', ?_, hg, hmd⟩
    have hsz := size_run (P := P) (W := W) hw
    have hst : (storeCells (⟨b, 0, none⟩ : Addr) (List.map (fun b => Value.int .u8 (b.toNat : Int)) (z.extract 0 z.size).data.toList)).run P W = .ok () W' := by
      have := congrArg Array.toList hf
      rw [Array.toList_map] at this
      rw [this]; exact hr
    simp only [Builtin.copy_, Sem.run_bind]
    simp [run_underlying hu, Builtin.lenOf, Builtin.firstCells, hsz, hmin n h2, goInt]
    rw [← bts_str, List.take_of_length_le (by rw [hlen]; exact Nat.le_refl _), hr]
    rfl
theorem evCopyS_ok (R : RelA B C LO OW s a sus W) {c : Call} {t t' : Nat} {x y : Operand} (ho : o.op = .call c) (hc : c.callee = .builtin .copy) (ha : c.args.toList = [x, y]) (ht : c.argTypes.toList = [t, t']) (h : (evCopyS P s o.dst t x y kk).ok Q) : Comes P B a sus W o fun s' => (kk s').ok Q := by
  unfold evCopyS at h
  split at h
  · rename_i m z hx hy
    unfold evCopyS2 at h
    split at h
    · rename_i om oe l e hob hu
      cases hb : (Nat.beq oe e && cellsW P e 1) with
      | false => simp only [hb, cond_false] at h; exact h.elim
      | true =>
        simp only [hb, cond_true] at h
        simp only [Bool.and_eq_true] at hb
        have hoe := Nat.eq_of_beq_eq_true hb.1; subst hoe
        obtain ⟨hd, h⟩ := br_true h (fun h => h)
        have hd : z.size ≤ l.length := by simpa using hd
        obtain ⟨e1, i, X, hX, hXr, hown, huniq⟩ := own_of R hob
        dsimp only at e1; subst e1
        have hXe : X.e = oe := hXr.e.eqS (findO_A hob).2
        have hXw : X.w = 1 := hXr.w
        have hXn : X.n = l.length := hXr.n
        rw [hXe, hXw, hXn] at hown
        obtain ⟨W', G', h1, h2, h3⟩ := copyS_eff (P := P) (t := t) (u := t') hown hd hu hb.2 R.rel.gx_sees o.type
        have hXl : X.l = bts l := by
          apply List.ext_getElem?
          intro j
          have hlen : X.l.length = l.length := by have := hown.len; omega
          by_cases hj : j < l.length
          · have := hXr.pc j hj
            have h5 : ((X.l.drop (j * 1)).take 1) = [.int .u8 l[j]] := this
            rw [Nat.mul_one, List.drop_eq_getElem_cons (by omega), List.take_succ_cons, List.take_zero] at h5
            rw [List.getElem?_eq_getElem (by omega), List.getElem?_eq_getElem (by rw [bts_length]; exact hj)]
            simp only [List.cons.injEq, and_true] at h5
            rw [h5]; simp [bts]
          · rw [List.getElem?_eq_none (by omega), List.getElem?_eq_none (by rw [bts_length]; omega)]
        have hwr : wrAt X.l 0 (bts (strBytes z)) = bts (strBytes z ++ l.drop z.size) := by
          rw [hXl, wrAt, List.take_zero, List.nil_append, Nat.zero_add, bts_length, strBytes_len]
          simp [bts]
        rw [hwr] at h3
        have hnl : (strBytes z ++ l.drop z.size).length = l.length := by rw [List.length_append, strBytes_len, List.length_drop]; omega
        have R' := R.rewritten hob hX huniq (k := .i .u8) (lst := strBytes z ++ l.drop z.size) (l' := bts (strBytes z ++ l.drop z.size)) rfl hnl hXr h2 (by rw [hXe, hXw, hXn]; exact h3) (fun j hj => bts_vc hj)
        have hxv := R.ev hx
        simp only [Rep] at hxv
        have hxv2 : a.eval x = X.v := by rw [hXr.v]; exact hxv.2
        have hyv : a.eval y = .string z := by have := R.ev hy; simpa [Rep] using this
        refine ⟨_, .int .i64 z.size, W', C, LO, _, _, ?_, .inl rfl, R'.put o.dst (by simp [Rep]), h, fun hn => by simp [newO, ho] at hn⟩
        have e5 : c.args = #[x, y] := by apply Array.ext'; simpa using ha
        have e6 : c.argTypes = #[t, t'] := by apply Array.ext'; simpa using ht
        simp only [execOp, ho]
        show (Sem.bind (resolve a.eval c o.type) _).run P W = _
        unfold resolve
        rw [hc, e5, e6]
        simp only [List.map_toArray, List.map_cons, List.map_nil, hxv2, hyv]
        exact bind_val h1
    · exact h.elim
  · exact h.elim
end
end Go.Proofs.Ytoiacgfhjikddaa.W
