/- The interpreter is right: operations on maps. -/
import Derived.Test.YtoiacgfhjikddaaWOM
set_option linter.unusedSimpArgs false
set_option linter.unusedVariables false
namespace Go.Proofs.Ytoiacgfhjikddaa.W
open Go.RowKit Vc

section
variable {C C' : Cx} {B : Base} {s : AS} {a : Act} {W W' : World} {P : Program} {LO : List Vc.Loc} {OW : List OwnV} {sus : List Act} {o : Oper} {Rt : Type} {Q : Rt → Prop} {kk : AS → T Rt}

theorem mapT_ok {t kt et : Nat} {k v : K} (h : mapT P t = some (kt, et, k, v)) : P.underlying t = some (.map kt et) ∧ keyT P kt (wd k) = true ∧ agK k = true ∧ okK k = true ∧ okK v = true ∧ agK v = false ∧ wd v = 1 ∧ 0 < wd k ∧ wd k < objMark := by
  unfold mapT at h
  split at h
  · rename_i kt' et' hu
    split at h
    · rename_i k' v' hk hv
      cases hb : (keyT P kt' (wd k') && agK k' && okK k' && okK v' && !agK v' && Nat.beq (wd v') 1 && Nat.blt 0 (wd k') && Nat.blt (wd k') objMark) with
      | false => simp [hb] at h
      | true =>
        simp only [hb, cond_true, Option.some.injEq, Prod.mk.injEq] at h
        obtain ⟨rfl, rfl, rfl, rfl⟩ := h
        simp only [Bool.and_eq_true, Bool.not_eq_true'] at hb
        obtain ⟨⟨⟨⟨⟨⟨⟨h1, h2⟩, h3⟩, h4⟩, h5⟩, h6⟩, h7⟩, h8⟩ := hb
        exact ⟨hu, h1, h2, h3, h4, h5, Nat.eq_of_beq_eq_true h6, blt_iff.1 h7, blt_iff.1 h8⟩
    · cases h
  · cases h
theorem map_e {k : K} (h : wd k < objMark) : objMark ≤ objMark + wd k ∧ objMark + wd k < iterMark ∧ objMark + wd k ≤ iterMark := by
  simp only [objMark, iterMark] at *; omega
theorem makeMap_run {t : Nat} {r : Option Operand} {x : Option Int} {kt et : Nat} (R : RelA B C LO OW s a sus W) (hu : P.underlying t = some (.map kt et)) (hr : numO s r = some x) : (Instr.makeMap t (r.map a.eval)).run P W = .ok (.map (some W.heap.size)) { W with heap := W.heap.push (.map #[] 0) } := by
  obtain ⟨k, hk⟩ := numO_ev R hr
  cases r with
  | none => rfl
  | some y =>
    cases x with
    | none => simp [intO] at hk
    | some n =>
      simp only [Option.map_some, intO, Option.some.injEq] at hk
      rw [Option.map_some, hk]
      unfold Instr.makeMap
      simp only
      rw [Sem.run_bind]
      simp only [Sem.run_bind, run_underlying hu, Result.andThen_ok, asInt, Sem.run_pure]
      rfl
theorem evMakeM_ok (R : RelA B C LO OW s a sus W) {t : Nat} {r : Option Operand} (ho : o.op = .makeMap t r) (h : (evMakeM P s o.dst t r kk).ok Q) : Comes P B a sus W o fun s' => (kk s').ok Q := by
  unfold evMakeM at h
  split at h
  · rename_i kt et k v x hm hr
    obtain ⟨hu, hkt, hak, hok, hov, hav, hwv, hw0, hwm⟩ := mapT_ok hm
    obtain ⟨e1, e2, e3⟩ := map_e hwm
    obtain ⟨C', R', hrep⟩ := R.newObj (.map #[] 0) (k := .p k v) (l := []) (e := objMark + wd k) (O := ⟨.map (some W.heap.size), objMark + wd k, wd (.p k v), 0, []⟩) ⟨by simp, .inr ⟨e1, .inl ⟨e2, W.heap.size, #[], rfl, Nat.le_refl _, by simp, rfl, fun i hi => by simp at hi⟩⟩⟩ rfl rfl (ERel.of e3) rfl rfl PC.nil
    refine ⟨_, _, _, _, _, _, _, ?_, .inl rfl, R'.put o.dst hrep, h, fun hn => by simp [newO, ho] at hn⟩
    simp only [execOp, ho]; exact bind_val (makeMap_run R hu hr)
  · exact h.elim

theorem isAg_of {x : AV} {v : Value} {xs : List AV} {us : List Value} (h : cellsA x = some xs) (hr : Rep C x v) (hu : v.cells = ⟨us⟩) (hh : HdOk C) : (isAg x = true ∧ v = .agg ⟨us⟩) ∨ (isAg x = false ∧ us = [v]) := by
  cases hx : isAg x with
  | true =>
    cases x <;> simp [isAg] at hx
    simp only [Rep] at hr
    obtain ⟨ws, rfl, _⟩ := hr
    left; refine ⟨rfl, ?_⟩
    have : ws = us := by injection hu
    rw [this]
  | false =>
    right; refine ⟨rfl, ?_⟩
    obtain ⟨ws, h1, h2⟩ := cellsA_ok hh h hr
    rw [h1] at hu; injection hu with hu; subst hu
    have hv : oneC v = true := by
      have hxs : xs = [x] := by
        cases x with
        | v y => simp only [cellsA] at h; cases hy : oneC y <;> simp [hy] at h; exact h.symm
        | ag _ => simp [isAg] at hx
        | _ => simp only [cellsA, Option.some.injEq, reduceCtorEq] at h <;> exact h.symm
      subst hxs
      cases hb : isBy x with
      | true => obtain ⟨n, l, rfl⟩ := isBy_of hb; simp [Rep] at hr
      | false =>
        rw [RepC.cons hb] at h2
        obtain ⟨u, q, rfl, h3, _, h4⟩ := h2
        simp only [RepC] at h4; subst h4
        cases v <;> first | rfl | skip
        · rename_i cs
          exfalso
          cases x <;> simp only [Rep] at hr <;> first | (simp [isAg] at hx; done) | skip
          · subst hr
            simp only [cellsA] at h
            simp [oneC] at h
          · exact absurd hr.1.one (by simp [oneC])
          · obtain ⟨_, _, hp⟩ := hr; exact absurd (PAt.oneC hp) (by simp [oneC])
          · cases hr.2
          · cases hr.2.2
          · cases hr.2
          · exact absurd (hh _ hr.1) (by rw [← hr.2]; simp [oneC])
          · exact absurd (subAt_one (w := C.wo _) (hh _ hr.1)) (by rw [← hr.2.2.2.1, ← hr.2.2.2.2]; simp [oneC])
          · exact absurd (InOwn.oneC hr.2.2) (by simp [oneC])
          · obtain ⟨_, h5, _⟩ := hr; cases h5
          · obtain ⟨_, h5, _⟩ := hr; cases h5
          · simp [cellsA] at h
        · rename_i cs
          exfalso
          simp [Value.cells] at h1
          rw [← h1] at h3
          simp [oneC] at h3
    cases v <;> first | (simp only [Value.cells] at h1; injection h1 with h1; exact h1.symm) | simp [oneC] at hv
/-! ### What a key means -/
theorem eqT_a8 {t n : Nat} {x y : List Int} (h : a8T P t n = true) : eqT P Op.maxDepth t (.ag [.by_ n x]) (.ag [.by_ n y]) = some (decide (x = y)) := by
  unfold a8T at h
  split at h
  · rename_i n' el hu
    simp only [Bool.and_eq_true] at h
    have hn := Nat.eq_of_beq_eq_true h.1.1; subst hn
    show eqT P (9998 + 1 + 1) t _ _ = _
    unfold eqT
    simp only [hu, h.1.2, h.2, Nat.beq_refl, Bool.and_self, cond_true]
  · cases h
theorem eq_run {t : Nat} {k : K} {x y : El k} {us vs : List Value} {b : Bool} (hk : agK k = true) (hx : VC C.Gb C.G k x us) (hy : VC C.Gb C.G k y vs) (h : eqT P Op.maxDepth t (pack k x) (pack k y) = some b) : (Op.equal t (.agg ⟨us⟩) (.agg ⟨vs⟩)).run P W = .ok b W := by
  simp only [pack, hk, cond_true] at h
  refine eqV_run _ _ _ _ _ (eqT_ok (C := C) _ _ _ _ _ _ _ ?_ ?_ h)
  · simp only [Rep]; exact ⟨us, rfl, enc_ok (q := 1) (by decide) hx⟩
  · simp only [Rep]; exact ⟨vs, rfl, enc_ok (q := 1) (by decide) hy⟩
theorem hitsE_len {t : Nat} {k v : K} {x : El k} : ∀ {l : List (El k × El v)} {bs : List Bool}, hitsE P t k x l = some bs → bs.length = l.length ∧ ∀ (j : Nat) (e : El k × El v) (b : Bool), l[j]? = some e → bs[j]? = some b → eqT P Op.maxDepth t (pack k x) (pack k e.1) = some b
  | [], bs, h => by simp only [hitsE, Option.some.injEq] at h; subst h; exact ⟨rfl, fun j e b h => by simp at h⟩
  | e :: r, bs, h => by
    simp only [hitsE] at h
    split at h
    · rename_i b q hb hq
      simp only [Option.some.injEq] at h; subst h
      obtain ⟨h1, h2⟩ := hitsE_len hq
      refine ⟨by simp [h1], fun j e' b' he hb' => ?_⟩
      cases j with
      | zero => simp at he hb'; subst he; subst hb'; exact hb
      | succ j => exact h2 j e' b' (by simpa using he) (by simpa using hb')
    · cases h
theorem hits_len {t : Nat} {k v : K} {x : El k} {l : List (El k × El v)} {bs : List Bool} (h : hits P t k x l = some bs) : bs.length = l.length ∧ ∀ (j : Nat) (e : El k × El v) (b : Bool), l[j]? = some e → bs[j]? = some b → eqT P Op.maxDepth t (pack k x) (pack k e.1) = some b := by
  cases k with
  | a8 n =>
    simp only [hits] at h
    cases hb : a8T P t n with
    | false => simp [hb] at h
    | true =>
      simp only [hb, cond_true, Option.some.injEq] at h; subst h
      refine ⟨by simp, fun j e b he hb' => ?_⟩
      rw [List.getElem?_map, he] at hb'
      simp only [Option.map_some, Option.some.injEq] at hb'; subst hb'
      exact eqT_a8 hb
  | _ => exact hitsE_len h
theorem hits_a8 {t : Nat} {k v : K} {x : El k} {l : List (El k × El v)} {bs : List Bool} (h : hits P t k x l = some bs) (h8 : isA8 k = true) (j : Nat) (e : El k × El v) (he : l[j]? = some e) (hb : bs[j]? = some true) : e.1 = x := by
  cases k with
  | a8 n =>
    simp only [hits] at h
    cases hb' : a8T P t n with
    | false => simp [hb'] at h
    | true =>
      simp only [hb', cond_true, Option.some.injEq] at h; subst h
      rw [List.getElem?_map, he] at hb
      simp only [Option.map_some, Option.some.injEq, decide_eq_true_eq] at hb
      exact hb.symm
  | _ => simp [isA8] at h8
theorem key_wide {t n : Nat} (h : keyT P t n = true) : (match P.underlying t with | some (.array _ _) | some (.struct _) => true | _ => false) = true := by
  unfold keyT at h
  split at h <;> simp_all
/-- Which entry is meant. -/
theorem pick_cases {α β : Type} (x : α) (v : β) : ∀ (bs : List Bool) (l : List (α × β)) (es : List MapEntry) (i : Nat), bs.length = l.length → es.length = l.length →
    (pickE bs es i = none ∧ pickM bs l = none ∧ putM bs l x v = l ++ [(x, v)]) ∨ ∃ (j : Nat) (e : α × β) (en : MapEntry), l[j]? = some e ∧ es[j]? = some en ∧ bs[j]? = some true ∧ pickE bs es i = some (i + j, en.val) ∧ pickM bs l = some e.2 ∧ putM bs l x v = l.set j (x, v)
  | [], [], [], i, _, _ => .inl ⟨rfl, rfl, rfl⟩
  | b :: bs, e :: l, en :: es, i, h1, h2 => by
    cases b with
    | true => exact .inr ⟨0, e, en, rfl, rfl, rfl, rfl, rfl, rfl⟩
    | false =>
      rcases pick_cases x v bs l es (i + 1) (by simpa using h1) (by simpa using h2) with ⟨h3, h4, h5⟩ | ⟨j, e', en', h3, h4, h5, h6, h7, h8⟩
      · exact .inl ⟨h3, h4, by simp only [putM, cond_false, h5, List.cons_append]⟩
      · exact .inr ⟨j + 1, e', en', by simpa using h3, by simpa using h4, by simpa using h5, by simp only [pickE]; rw [h6]; congr 2; omega, by simp only [pickM, cond_false]; exact h7, by simp only [putM, cond_false, h8, List.set_cons_succ]⟩
  | [], _ :: _, _, _, h, _ => by simp at h
  | _ :: _, [], _, _, h, _ => by simp at h
  | [], [], _ :: _, _, _, h => by simp at h
  | _ :: _, _ :: _, [], _, _, h => by simp at h

/-! ### A map in memory -/
structure MapAt (C : Cx) (W : World) (N : Nat) (X : OwnV) (k v : K) (l : List (El k × El v)) (b : Nat) (es : Array MapEntry) : Prop where
  hv : X.v = .map (some b)
  N : N ≤ b
  at_ : W.heap[b]? = some (.map es es.size)
  size : es.size = l.length
  ent : ∀ i (h : i < es.size) (h' : i < l.length), es[i].born = i ∧ ∃ us, es[i].key = .agg ⟨us⟩ ∧ us = ((X.l.drop (i * X.w)).take X.w).take (wd k) ∧ ((X.l.drop (i * X.w)).take X.w).drop (wd k) = [es[i].val] ∧ VC C.Gb C.G k l[i].1 us ∧ VC C.Gb C.G v l[i].2 [es[i].val]
theorem map_at {k v : K} {m : Nat} {e : Nat} {l : List (El k × El v)} {N : Nat} {X : OwnV} (hX : OwR1 C ⟨m, e, .p k v, l⟩ X) (he : e = objMark + wd k) (hm : wd k < objMark) (hw : OwnW W N X) : ∃ b es, MapAt C W N X k v l b es := by
  subst he
  obtain ⟨e1, e2, e3⟩ := map_e hm
  have hXe : X.e = objMark + wd k := hX.e.eq e3
  have hXw : X.w = wd k + wd v := hX.w
  rcases hw.2 with ⟨h, _⟩ | ⟨_, ⟨_, b, es, h1, h2, h3, h4, h5⟩ | ⟨h, _⟩⟩
  · rw [hXe] at h; exact absurd e1 (Nat.not_le.2 h)
  · refine ⟨b, es, h1, h2, h3, by rw [h4]; exact hX.n, fun i hi hi' => ?_⟩
    obtain ⟨h6, h7, h8⟩ := h5 i hi
    rw [hXe, Nat.add_sub_cancel_left] at h7 h8
    obtain ⟨us, ws, h9, h10, h11⟩ := hX.pc i hi'
    have hc : (X.l.drop (i * X.w)).take X.w = us ++ ws := by rw [hXw]; exact h9
    have hl := h10.len
    refine ⟨h6, us, ?_, ?_, h8, h10, ?_⟩
    · rw [h7, hc, List.take_left' hl]
    · rw [hc, List.take_left' hl]
    · rw [hc, List.drop_left' hl] at h8; rw [← h8]; exact h11
  · rw [hXe] at h; exact absurd e2 (Nat.not_lt.2 h)
theorem MapAt.blk {N : Nat} {X : OwnV} {k v : K} {l : List (El k × El v)} {b : Nat} {es : Array MapEntry} (h : MapAt C W N X k v l b es) : blk X.v = some b := by rw [h.hv]; rfl
/-- The entry that is meant by a key. -/
theorem MapAt.find {N : Nat} {X : OwnV} {k v : K} {l : List (El k × El v)} {b : Nat} {es : Array MapEntry} (h : MapAt C W N X k v l b es) {kt : Nat} {x : El k} {us : List Value} {bs : List Bool} (hkt : keyT P kt (wd k) = true) (hak : agK k = true) (hx : VC C.Gb C.G k x us) (hb : hits P kt k x l = some bs) :
    bs.length = es.toList.length ∧ (Instr.findKey kt (.agg ⟨us⟩) es.toList).run P W = .ok (pickE bs es.toList 0) W := by
  obtain ⟨h1, h2⟩ := hits_len hb
  have hl : es.toList.length = l.length := by rw [Array.length_toList, h.size]
  refine ⟨by rw [h1, hl], fk_ok (key_wide hkt) (by rw [hl, h1]) fun j e bb he hbb => ?_⟩
  have hj : j < es.size := by have := (List.getElem?_eq_some_iff.1 he).1; simpa using this
  have hj' : j < l.length := by rw [← h.size]; exact hj
  obtain ⟨_, vs, e1, _, _, h3, _⟩ := h.ent j hj hj'
  have hee : e = es[j] := by have := (List.getElem?_eq_some_iff.1 he).2; rw [← this]; simp
  rw [hee, e1]
  exact eq_run hak hx h3 (h2 j _ bb (List.getElem?_eq_getElem hj') hbb)
theorem ck_run {kt : Nat} {k : K} {x : El k} {us : List Value} (hkt : keyT P kt (wd k) = true) (hx : VC C.Gb C.G k x us) (em : Bool) : (Instr.checkKey em 10000 kt (.agg ⟨us⟩)).run P W = .ok () W := by
  refine ck_ok (n := 9998) ?_ em
  have := hx.len
  show keyT P kt us.length = true
  rw [this]; exact hkt
theorem set_run {b : Nat} {es : Array MapEntry} {ck : Nat} (hb : W.heap[b]? = some (.map es ck)) (ob : Obj) : (setObj b ob).run P W = .ok () { W with heap := W.heap.setIfInBounds b ob } := by
  simp [setObj, Sem.run, hb, ChangeMaps.setBlock]
theorem setH (b : Nat) (ob : Obj) : (∀ k, k ≠ b → ({ W with heap := W.heap.setIfInBounds b ob } : World).heap[k]? = W.heap[k]?) ∧ (b < W.heap.size → ({ W with heap := W.heap.setIfInBounds b ob } : World).heap[b]? = some ob) ∧ W.heap.size ≤ ({ W with heap := W.heap.setIfInBounds b ob } : World).heap.size := by
  refine ⟨fun k hk => ?_, fun hb => ?_, ?_⟩
  · show (W.heap.setIfInBounds b ob)[k]? = _
    rw [Array.getElem?_setIfInBounds, if_neg (fun e => hk e.symm)]
  · show (W.heap.setIfInBounds b ob)[b]? = _
    rw [Array.getElem?_setIfInBounds, if_pos rfl, if_pos hb]
  · simp
theorem sameB {us : List Value} (h : ∀ u ∈ us, ∃ z, u = .int .u8 z) : Instr.sameBits 10000 (.agg ⟨us⟩) (.agg ⟨us⟩) = true := by
  show Instr.sameBits (9999 + 1) (.agg ⟨us⟩) (.agg ⟨us⟩) = true
  unfold Instr.sameBits
  simp only [BEq.rfl, Bool.true_and, List.all_eq_true]
  rintro ⟨u, v⟩ hm
  have : u = v := by
    clear h
    induction us with
    | nil => simp at hm
    | cons y r ih =>
      simp only [List.zip_cons_cons, List.mem_cons, Prod.mk.injEq] at hm
      rcases hm with ⟨rfl, rfl⟩ | hm
      · rfl
      · exact ih hm
  subst this
  obtain ⟨z, rfl⟩ := h u (List.of_mem_zip hm).1
  simp [Instr.sameBits]
theorem chunk_app {L R : List Value} {n w i : Nat} (hL : L.length = n * w) (hi : i < n) : ((L ++ R).drop (i * w)).take w = (L.drop (i * w)).take w := by
  have : (i + 1) * w ≤ n * w := Nat.mul_le_mul_right _ hi
  rw [Nat.add_mul, Nat.one_mul] at this
  rw [List.drop_append_of_le_length (by omega), List.take_append_of_le_length (by rw [List.length_drop]; omega)]
theorem chunk_end {L R : List Value} {n w : Nat} (hL : L.length = n * w) (hR : R.length = w) : ((L ++ R).drop (n * w)).take w = R := by
  rw [← hL, List.drop_left, ← hR, List.take_length]
theorem dcK2_ok (hh : HdOk C) {k : K} {x : AV} {y : El k} {v : Value} (h : dcK2 k x = some y) (hr : Rep C x v) : ∃ us, VC C.Gb C.G k y us ∧ ((agK k = true ∧ v = .agg ⟨us⟩) ∨ (agK k = false ∧ us = [v])) := by
  unfold dcK2 at h
  cases hb : (isAg x == agK k) with
  | false => simp [hb] at h
  | true =>
    simp only [hb, cond_true] at h
    have he : isAg x = agK k := by simpa using hb
    obtain ⟨us, h1, h2⟩ := dcK_ok hh h hr
    refine ⟨us, h2, ?_⟩
    unfold dcK at h
    cases hk : okK k with
    | false => simp [hk] at h
    | true =>
      simp only [hk, cond_true] at h
      split at h
      · rename_i cs hcs
        rw [← he]; exact isAg_of hcs hr h1 hh
      · cases h
theorem oneOf_VC {k : K} {y : El k} {v : Value} (hk : agK k = false) (h : VC C.Gb C.G k y [v]) : Rep C (pack k y) v ∧ oneC v = true := by
  have h1 := enc_ok (C := C) (q := 1) (by decide) h
  obtain ⟨z, e1, e2, e3⟩ : ∃ z, enc k y = [z] ∧ pack k y = z ∧ isBy z = false := by
    cases k <;> simp [agK] at hk <;> exact ⟨_, rfl, rfl, rfl⟩
  rw [e1, RepC.cons e3] at h1
  obtain ⟨v', us, e4, h2, h3, h4⟩ := h1
  simp only [List.cons.injEq] at e4
  rw [e2, e4.1]; exact ⟨h3, h2⟩
theorem packAg_VC {k : K} {y : El k} {us : List Value} (hk : agK k = true) (h : VC C.Gb C.G k y us) : Rep C (pack k y) (.agg ⟨us⟩) := by
  simp only [pack, hk, cond_true, Rep]
  exact ⟨us, rfl, enc_ok (q := 1) (by decide) h⟩
theorem setAll_full {us vs : List Value} (h : us.length = vs.length) : setAll us 0 vs = vs := by
  rw [setAll_wr vs us 0 (by omega), List.take_zero, List.nil_append, List.drop_of_length_le (by omega), List.append_nil]
theorem evUpd_ok (R : RelA B C LO OW s a sus W) {t : Nat} {m x y : Operand} (ho : ∀ W', (Instr.mapUpdate t (a.eval m) (a.eval x) (a.eval y)).run P W = .ok () W' → (execOp a.eval o).run P W = .ok .skip W') (hno : newO o.op = false) (h : (evUpd P s o.dst t m x y kk).ok Q) : Comes P B a sus W o fun s' => (kk s').ok Q := by
  unfold evUpd at h
  split at h
  · rename_i kt et k v j ka va hm hj ha hb
    obtain ⟨hu, hkt, hak, hok, hov, hav, hwv, hw0, hwm⟩ := mapT_ok hm
    split at h
    · rename_i ob hob
      cases he : Nat.beq ob.e (objMark + wd k) with
      | false => simp only [he, cond_false] at h; exact h.elim
      | true =>
        simp only [he, cond_true] at h
        have hoe := Nat.eq_of_beq_eq_true he
        split at h
        · rename_i hk
          split at h
          · rename_i xk xv hxk hxv
            obtain ⟨om, oe, ok, ol⟩ := ob
            dsimp only at hk hoe; subst hk; subst hoe
            rw [castL_rfl] at h
            obtain ⟨e1, i, X, hX, hXr, hXw, huniq⟩ := obj_of R hob
            dsimp only at e1; subst e1
            obtain ⟨b, es, M⟩ := map_at hXr rfl hwm hXw
            have hmv := R.ev hj
            simp only [Rep] at hmv
            have hmv2 : a.eval m = .map (some b) := by rw [hmv.2, ← hXr.v]; exact M.hv
            obtain ⟨us, hvx, hkey⟩ := dcK2_ok R.hh hxk (R.ev ha)
            have hkey : a.eval x = .agg ⟨us⟩ := by
              rcases hkey with ⟨_, h⟩ | ⟨h, _⟩
              · exact h
              · rw [hak] at h; cases h
            obtain ⟨ws, hvv, hval⟩ := dcK2_ok R.hh hxv (R.ev hb)
            have hval : ws = [a.eval y] := by
              rcases hval with ⟨h, _⟩ | ⟨_, h⟩
              · rw [hav] at h; cases h
              · exact h
            subst hval
            unfold evUpd2 at h
            split at h
            · rename_i bs hbs
              obtain ⟨hlen, hfind⟩ := M.find (W := W) hkt hak hvx hbs
              have hlt : b < W.heap.size := (Array.getElem?_eq_some_iff.1 M.at_).1
              have hXl : X.l.length = ol.length * X.w := by have := hXw.1; rw [hXr.n] at this; exact this
              have hXw' : X.w = wd k + 1 := by have := hXr.w; rw [this]; show wd k + wd v = _; rw [hwv]
              have hes : es.toList.length = ol.length := by rw [Array.length_toList, M.size]
              have hus : us.length = wd k := hvx.len
              have hXe : X.e = objMark + wd k := hXr.e.eq (map_e hwm).2.2
              have hck := fun em => ck_run (P := P) (W := W) hkt hvx em
              -- what the state says behind
              have fin : ∀ (es' : Array MapEntry) (L : List Value), (Instr.mapUpdate t (a.eval m) (a.eval x) (a.eval y)).run P W = .ok () { W with heap := W.heap.setIfInBounds b (.map es' es'.size) } → es'.size = (putM bs ol xk xv).length → L.length = (putM bs ol xk xv).length * X.w →
                  (∀ q (hq : q < es'.size), es'[q].born = q ∧ es'[q].key = .agg ⟨((L.drop (q * X.w)).take X.w).take (wd k)⟩ ∧ ((L.drop (q * X.w)).take X.w).drop (wd k) = [es'[q].val]) → PC C (.p k v) (putM bs ol xk xv) L →
                  (kk ((s.rewrite om ⟨om, objMark + wd k, .p k v, putM bs ol xk xv⟩).put o.dst (.v undef))).ok Q → Comes P B a sus W o fun s' => (kk s').ok Q := fun es' L hrun hsz hL hent hpc hk => by
                obtain ⟨hW1, hW2, hW3⟩ := setH (W := W) b (.map es' es'.size)
                have R' := R.turned (W' := { W with heap := W.heap.setIfInBounds b (.map es' es'.size) }) hob hX hXr huniq rfl (map_e hwm).1 (lst := putM bs ol xk xv) (L := L) M.blk hW1 hW3 rfl rfl rfl ⟨hL, .inr ⟨by show objMark ≤ X.e; rw [hXe]; exact (map_e hwm).1, .inl ⟨by show X.e < iterMark; rw [hXe]; exact (map_e hwm).2.1, b, es', M.hv, M.N, hW2 hlt, hsz, fun q hq => by
                  have := hent q hq
                  show _ ∧ es'[q].key = .agg ⟨((L.drop (q * X.w)).take X.w).take (X.e - objMark)⟩ ∧ ((L.drop (q * X.w)).take X.w).drop (X.e - objMark) = _
                  rw [hXe, Nat.add_sub_cancel_left]; exact this⟩⟩⟩ hpc
                exact ⟨_, undef, _, C, LO, _, _, ho _ hrun, .inr ⟨rfl, rfl⟩, R'.put o.dst (by simp [Rep]), hk, fun hn => by rw [hno] at hn; cases hn⟩
              rcases pick_cases xk xv bs ol es.toList 0 (hits_len hbs).1 hes with ⟨h1, h2, h3⟩ | ⟨q, e0, en, h1, h2, h3, h4, h5, h6⟩
              · -- a new entry
                rw [h1] at hfind
                have hkk : (kk ((s.rewrite om ⟨om, objMark + wd k, .p k v, putM bs ol xk xv⟩).put o.dst (.v undef))).ok Q := by
                  cases h8 : isA8 k with
                  | true => simpa only [h8, cond_true] using h
                  | false => simp only [h8, cond_false] at h; exact (br_true h fun h => h).2
                refine fin (es.push { key := .agg ⟨us⟩, val := a.eval y, born := es.size }) (X.l ++ (us ++ [a.eval y])) ?_ ?_ ?_ (fun q hq => ?_) ?_ hkk
                · rw [hmv2, hkey]
                  simp [Instr.mapUpdate, run_underlying hu, MapKept.run_getObj_map M.at_, hck, hfind, set_run M.at_]
                · rw [h3]; simp [M.size]
                · rw [h3]; simp only [List.length_append, List.length_cons, List.length_nil, hXl, hus, hXw', Nat.add_mul, Nat.one_mul]; omega
                · rw [Array.size_push] at hq
                  by_cases hqe : q = es.size
                  · subst hqe
                    rw [Array.getElem_push_eq]
                    have hc : ((X.l ++ (us ++ [a.eval y])).drop (es.size * X.w)).take X.w = us ++ [a.eval y] := by
                      rw [M.size]; exact chunk_end hXl (by simp [hus, hXw'])
                    rw [hc, List.take_left' hus, List.drop_left' hus]; exact ⟨rfl, rfl, rfl⟩
                  · have hq' : q < es.size := by omega
                    have hq2 : q < ol.length := by rw [← M.size]; exact hq'
                    obtain ⟨f1, us', f2, f3, f4, _⟩ := M.ent q hq' hq2
                    rw [Array.getElem_push_lt hq', chunk_app hXl hq2]
                    exact ⟨f1, by rw [f2, f3], f4⟩
                · rw [h3]
                  exact PC.app (by rw [hXl, hXr.w]) hXr.pc fun q hq => by
                    simp only [List.length_cons, List.length_nil] at hq
                    have : q = 0 := by omega
                    subst this
                    have hc : ((us ++ [a.eval y]).drop (0 * wd (.p k v))).take (wd (.p k v)) = us ++ [a.eval y] := by
                      rw [Nat.zero_mul, List.drop_zero, List.take_of_length_le]
                      show _ ≤ wd k + wd v
                      simp [hus, hwv]
                    rw [hc]; exact ⟨us, [a.eval y], rfl, hvx, hvv⟩
              · -- an entry that is there
                cases h8 : isA8 k with
                | false =>
                  simp only [h8, cond_false] at h
                  have := (br_true h fun h => h).1
                  rw [List.all_eq_true] at this
                  have := this true (List.mem_of_getElem? h3)
                  simp at this
                | true =>
                  simp only [h8, cond_true] at h
                  have hq : q < ol.length := (List.getElem?_eq_some_iff.1 h1).1
                  have hq' : q < es.size := by rw [M.size]; exact hq
                  have hex : e0.1 = xk := hits_a8 hbs h8 q e0 h1 h3
                  have hen : en = es[q] := by have := (List.getElem?_eq_some_iff.1 h2).2; rw [← this]; simp
                  rw [h4, Nat.zero_add] at hfind
                  obtain ⟨f1, us', f2, f3, f4, f5, f6⟩ := M.ent q hq' hq
                  have hol : ol[q] = e0 := (List.getElem?_eq_some_iff.1 h1).2
                  rw [hol, hex] at f5
                  have huu : us' = us ∧ ∀ u ∈ us, ∃ z, u = .int .u8 z := by
                    cases k with
                    | a8 n =>
                      obtain ⟨_, rfl⟩ := f5
                      obtain ⟨_, rfl⟩ := hvx
                      exact ⟨rfl, fun u hu => by obtain ⟨z, _, rfl⟩ := List.mem_map.1 hu; exact ⟨z, rfl⟩⟩
                    | _ => simp [isA8] at h8
                  refine fin (es.modify q fun e => { e with key := .agg ⟨us⟩, val := a.eval y }) (setAll X.l (q * X.w + 0) (us ++ [a.eval y])) ?_ ?_ ?_ (fun p hp => ?_) ?_ h
                  · rw [hmv2, hkey]
                    have hst : (Instr.keyThatStays (((es[q]?).map (·.key)).getD (.agg ⟨us⟩)) (.agg ⟨us⟩)).run P W = .ok (.agg ⟨us⟩) W := by
                      rw [Array.getElem?_eq_getElem hq', Option.map_some, Option.getD_some, f2, huu.1]
                      unfold Instr.keyThatStays
                      rw [if_pos (sameB huu.2)]; rfl
                    simp [Instr.mapUpdate, run_underlying hu, MapKept.run_getObj_map M.at_, hck, hfind, set_run M.at_, hst]
                  · rw [h6]; simp [M.size]
                  · rw [h6, setAll_length, List.length_set, hXl]
                  · rw [Array.size_modify] at hp
                    have hp2 : p < ol.length := by rw [← M.size]; exact hp
                    have hc := wr_piece (l := X.l) (us := us ++ [a.eval y]) (w := X.w) (n := ol.length) (j := q) (off := 0) (i := p) hXl hq hp2 (by simp [hus, hXw'])
                    rw [Nat.add_zero] at hc ⊢
                    rw [hc, Array.getElem_modify]
                    obtain ⟨g1, us'', g2, g3, g4, _⟩ := M.ent p hp hp2
                    by_cases hpq : q = p
                    · subst hpq
                      rw [if_pos rfl, if_pos rfl]
                      have hcl : ((X.l.drop (q * X.w)).take X.w).length = X.w := by
                        have : (q + 1) * X.w ≤ ol.length * X.w := Nat.mul_le_mul_right _ hq
                        rw [Nat.add_mul, Nat.one_mul] at this
                        rw [List.length_take, List.length_drop]; omega
                      rw [setAll_full (by rw [hcl, hXw']; simp [hus]), List.take_left' hus, List.drop_left' hus]
                      exact ⟨g1, rfl, rfl⟩
                    · rw [if_neg hpq, if_neg (fun e => hpq e.symm)]
                      exact ⟨g1, by rw [g2, g3], g4⟩
                  · rw [h6]
                    have := hXr.pc.set (L := X.l) (us := us ++ [a.eval y]) (j := q) (off := 0) (z := (xk, xv)) (by rw [hXl, hXr.w]) hq (by show 0 + _ ≤ wd k + wd v; simp [hus, hwv]) (by
                      have hcl : ((X.l.drop (q * wd (.p k v))).take (wd (.p k v))).length = (us ++ [a.eval y]).length := by
                        have hw : wd (.p k v) = X.w := by rw [hXr.w]
                        rw [hw]
                        have : (q + 1) * X.w ≤ ol.length * X.w := Nat.mul_le_mul_right _ hq
                        rw [Nat.add_mul, Nat.one_mul] at this
                        rw [List.length_take, List.length_drop]; simp [hus]; omega
                      rw [setAll_full hcl.symm.symm]
                      exact ⟨us, [a.eval y], rfl, hvx, hvv⟩)
                    rw [hXr.w]; exact this
            · exact h.elim
          · exact h.elim
        · exact h.elim
    · exact h.elim
  · exact h.elim
theorem zero1_ok {et : Nat} {v : K} {z : El v} (hok : okK v = true) (hav : agK v = false) (h : zeroK P et v = some z) (h1 : zero1 P et = true) : ∃ zz, (zeroValue et).run P W = .ok zz W ∧ VC C.Gb C.G v z [zz] := by
  unfold zeroK at h
  split at h
  · rename_i cs hcs
    obtain ⟨i, zz, hi, hz, hr⟩ := zeroA_ok (C := C) hcs
    split at h
    · rename_i x hx
      simp only [Option.some.injEq] at h; subst h
      obtain ⟨p, q, h3, h4, h5⟩ := dc_ok (ow := []) (C := C) (by intro m o h; simp [findO, findA] at h) (okK_noSn hok) (.inl hok) hx hr
      simp only [RepC] at h5; subst h5
      rw [List.append_nil] at h3
      unfold zero1 at h1
      simp only [hi, hz] at h1
      refine ⟨zz, ?_, ?_⟩
      · unfold zeroValue
        simp only [Sem.run_bind, typeInfo_run hi, Result.andThen_ok, hz]; rfl
      · have : zz.cells = #[zz] := by cases zz <;> first | rfl | simp [oneC] at h1
        rw [this] at h3
        have h3' : [zz] = p := h3
        rw [h3']; exact h4
    · cases h
  · cases h
theorem evLook_ok (R : RelA B C LO OW s a sus W) {t : Nat} {m x : Operand} {ok : Bool} (ho : o.op = .lookup t m x ok) (h : (evLook P s o.dst t m x ok kk).ok Q) : Comes P B a sus W o fun s' => (kk s').ok Q := by
  unfold evLook at h
  split at h
  · rename_i kt et k v j ka hm hj ha
    obtain ⟨hu, hkt, hak, hok, hov, hav, hwv, hw0, hwm⟩ := mapT_ok hm
    split at h
    · rename_i ob hob
      cases he : Nat.beq ob.e (objMark + wd k) with
      | false => simp only [he, cond_false] at h; exact h.elim
      | true =>
        simp only [he, cond_true] at h
        have hoe := Nat.eq_of_beq_eq_true he
        split at h
        · rename_i hk
          split at h
          · rename_i xk hxk
            obtain ⟨om, oe, okk, ol⟩ := ob
            dsimp only at hk hoe; subst hk; subst hoe
            rw [castL_rfl] at h
            obtain ⟨e1, i, X, hX, hXr, hXw, huniq⟩ := obj_of R hob
            dsimp only at e1; subst e1
            obtain ⟨b, es, M⟩ := map_at hXr rfl hwm hXw
            have hmv := R.ev hj
            simp only [Rep] at hmv
            have hmv2 : a.eval m = .map (some b) := by rw [hmv.2, ← hXr.v]; exact M.hv
            obtain ⟨us, hvx, hkey⟩ := dcK2_ok R.hh hxk (R.ev ha)
            have hkey : a.eval x = .agg ⟨us⟩ := by
              rcases hkey with ⟨_, h⟩ | ⟨h, _⟩
              · exact h
              · rw [hak] at h; cases h
            unfold evLook2 at h
            split at h
            · rename_i bs z hbs hz
              cases hz1 : zero1 P et with
              | false => simp only [hz1, Bool.not_false, cond_true] at h; exact h.elim
              | true =>
                simp only [hz1, Bool.not_true, cond_false] at h
                obtain ⟨hlen, hfind⟩ := M.find (W := W) hkt hak hvx hbs
                have hck := fun em => ck_run (P := P) (W := W) hkt hvx em
                obtain ⟨zz, hzr, hzv⟩ := zero1_ok (C := C) (W := W) (P := P) hov hav hz hz1
                have hes : es.toList.length = ol.length := by rw [Array.length_toList, M.size]
                have hrun := lookup_ok (c := ok) hu M.at_ hck hfind hzr
                -- what is found
                have key : ∃ (r : Value × Bool), fndE (pickE bs es.toList 0) zz = r ∧ r.2 = (pickM bs ol).isSome ∧ Rep C (pack v ((pickM bs ol).getD z)) r.1 := by
                  rcases pick_cases xk z bs ol es.toList 0 (hits_len hbs).1 hes with ⟨h1, h2, _⟩ | ⟨q, e0, en, h1, h2, h3, h4, h5, _⟩
                  · rw [h1, h2]; exact ⟨_, rfl, rfl, (oneOf_VC hav hzv).1⟩
                  · rw [h4, h5]
                    refine ⟨_, rfl, rfl, ?_⟩
                    have hq : q < ol.length := (List.getElem?_eq_some_iff.1 h1).1
                    have hq' : q < es.size := by rw [M.size]; exact hq
                    have hen : en = es[q] := by have := (List.getElem?_eq_some_iff.1 h2).2; rw [← this]; simp
                    obtain ⟨_, us', _, _, _, _, f6⟩ := M.ent q hq' hq
                    have hol : ol[q] = e0 := (List.getElem?_eq_some_iff.1 h1).2
                    rw [hol] at f6
                    rw [hen]; exact (oneOf_VC hav f6).1
                obtain ⟨r, hr1, hr2, hr3⟩ := key
                rw [hr1] at hrun
                have hex : ∀ vv, (Instr.lookup t (a.eval m) (a.eval x) ok).run P W = .ok vv W → (execOp a.eval o).run P W = .ok (.value vv) W := fun vv hv => by
                  simp only [execOp, ho]; exact bind_val hv
                cases ok with
                | false =>
                  simp only [cond_false] at h
                  refine ⟨_, r.1, W, C, LO, OW, _, hex _ (by rw [hmv2, hkey]; simpa using hrun), .inl rfl, R.put o.dst hr3, h, fun hn => by simp [newO, ho] at hn⟩
                | true =>
                  simp only [cond_true] at h
                  refine ⟨_, .tuple #[r.1, .bool r.2], W, C, LO, OW, _, hex _ (by rw [hmv2, hkey]; simpa using hrun), .inl rfl, R.put o.dst ?_, h, fun hn => by simp [newO, ho] at hn⟩
                  simp only [Rep, RepL]
                  exact ⟨[r.1, .bool r.2], rfl, _, _, rfl, hr3, _, _, rfl, by rw [hr2], rfl⟩
            · exact h.elim
          · exact h.elim
        · exact h.elim
    · exact h.elim
  · exact h.elim
/-! ### What goes over a map -/
theorem isMapE_ok {e : Nat} (h : isMapE e = true) : objMark ≤ e ∧ e < iterMark := by
  simp only [isMapE, Bool.and_eq_true] at h
  exact ⟨Nat.le_of_ble_eq_true h.1, blt_iff.1 h.2⟩
/-- A map, whatever is known of it. -/
theorem some_map {X : OwnV} {N : Nat} {x : OA} (hX : OwR1 C x X) (he : isMapE x.e = true) (hw : OwnW W N X) : ∃ b es, X.v = .map (some b) ∧ W.heap[b]? = some (.map es es.size) ∧ es.size = x.l.length ∧ (∀ i (h : i < es.size), es[i].born = i) ∧ b < W.heap.size := by
  obtain ⟨h1, h2⟩ := isMapE_ok he
  have hXe := hX.e.eq (Nat.le_of_lt h2)
  rcases hw.2 with ⟨h, _⟩ | ⟨_, ⟨_, b, es, h3, h4, h5, h6, h7⟩ | ⟨h, _⟩⟩
  · rw [hXe] at h; exact absurd h1 (Nat.not_le.2 h)
  · exact ⟨b, es, h3, h5, by rw [h6]; exact hX.n, fun i hi => (h7 i hi).1, (Array.getElem?_eq_some_iff.1 h5).1⟩
  · rw [hXe] at h; exact absurd h2 (Nat.not_lt.2 h)
theorem evRange_ok (R : RelA B C LO OW s a sus W) {t : Nat} {x : Operand} (ho : o.op = .range t x) (h : (evRange P s o.dst t x kk).ok Q) : Comes P B a sus W o fun s' => (kk s').ok Q := by
  have him : objMark ≤ iterMark := by decide
  unfold evRange at h
  split at h
  · rename_i kt et j hu hj
    split at h
    · rename_i ob hob
      cases he : isMapE ob.e with
      | false => simp only [he, cond_false] at h; exact h.elim
      | true =>
        simp only [he, cond_true] at h
        obtain ⟨e1, i, X, hX, hXr, hXw, huniq⟩ := obj_of R hob
        obtain ⟨b, es, h1, h2, h3, h4, hlt⟩ := some_map hXr he hXw
        have hmv := R.ev hj
        simp only [Rep] at hmv
        have hmv2 : a.eval x = .map (some b) := by rw [hmv.2, ← e1, ← hXr.v]; exact h1
        have hrun := run_range_map (P := P) W t kt et b es es.size hu h2
        obtain ⟨C', R', hrep⟩ := R.newObj (.mapIter (some b) es.size #[] es.size) (k := .a8 ob.l.length) (l := List.replicate ob.l.length (List.replicate ob.l.length 0)) (e := iterMark + (j + 1))
          (O := ⟨.pointer (some ⟨W.heap.size, 0, none⟩), iterMark + (b + 1), ob.l.length, ob.l.length, bts (List.replicate (ob.l.length * ob.l.length) 0)⟩)
          ⟨by simp [bts_length], .inr ⟨by show objMark ≤ iterMark + (b + 1); omega, .inr ⟨by show iterMark ≤ iterMark + (b + 1); omega, W.heap.size, some b, #[], rfl, Nat.le_refl _, by rw [h3]; simp, fun k hk => (by cases hk; rfl), fun h => (by cases h), by simp, by simp, by simp⟩⟩⟩
          rfl rfl (.inr ⟨by omega, by
            have : iterMark + (j + 1) - iterMark - 1 = j := by omega
            rw [this]; exact hmv.1, b, by
            have : iterMark + (j + 1) - iterMark - 1 = j := by omega
            rw [this, ← e1, ← hXr.v]; exact h1, rfl⟩) rfl (by simp) (fun i hi => by
              rw [List.length_replicate] at hi
              rw [List.getElem_replicate]
              have hin : (i + 1) * ob.l.length ≤ ob.l.length * ob.l.length := Nat.mul_le_mul_right _ hi
              rw [Nat.add_mul, Nat.one_mul] at hin
              refine ⟨by simp, ?_⟩
              show ((bts (List.replicate (ob.l.length * ob.l.length) 0)).drop (i * ob.l.length)).take ob.l.length = _
              simp only [bts, List.map_replicate, List.drop_replicate, List.take_replicate]
              congr 1; omega)
        refine ⟨_, _, _, _, _, _, _, ?_, .inl rfl, R'.put o.dst hrep, h, fun hn => by simp [newO, ho] at hn⟩
        simp only [execOp, ho, hmv2]; exact bind_val hrun
    · exact h.elim
  · rename_i kt et hu hj
    have hmv := R.ev hj
    simp only [Rep] at hmv
    have hrun := run_range_nilMap (P := P) W t kt et hu
    obtain ⟨C', R', hrep⟩ := R.newObj (.mapIter none 0 #[] 0) (k := .a8 0) (l := []) (e := iterMark)
      (O := ⟨.pointer (some ⟨W.heap.size, 0, none⟩), iterMark, 0, 0, []⟩)
      ⟨rfl, .inr ⟨him, .inr ⟨Nat.le_refl _, W.heap.size, none, #[], rfl, Nat.le_refl _, by simp, fun k hk => (by cases hk), fun _ => rfl, rfl, by simp, by simp⟩⟩⟩
      rfl rfl (ERel.of (Nat.le_refl _)) rfl rfl PC.nil
    refine ⟨_, _, _, _, _, _, _, ?_, .inl rfl, R'.put o.dst hrep, h, fun hn => by simp [newO, ho] at hn⟩
    simp only [execOp, ho, hmv]; exact bind_val hrun
  · exact h.elim
theorem iterOf_ok {it : Operand} {i : Nat} {io mo : OA} (h : iterOf s it = some (i, io, mo)) : s.ev it = some (.ov i) ∧ findA s.ow i = some io ∧ iterMark < io.e ∧ findA s.ow (io.e - iterMark - 1) = some mo ∧ isMapE mo.e = true := by
  unfold iterOf at h
  split at h
  · rename_i i' hi
    split at h
    · rename_i io' hio
      cases hb : Nat.blt iterMark io'.e with
      | false => simp [hb] at h
      | true =>
        simp only [hb, cond_true] at h
        split at h
        · rename_i mo' hmo
          cases hm : isMapE mo'.e with
          | false => simp [hm] at h
          | true =>
            simp only [hm, cond_true, Option.some.injEq, Prod.mk.injEq] at h
            obtain ⟨rfl, rfl, rfl⟩ := h
            exact ⟨hi, hio, blt_iff.1 hb, hmo, hm⟩
        · cases h
    · cases h
  · cases h
/-- What goes over a map, in memory. -/
structure IterAt (W : World) (N : Nat) (X : OwnV) (r mb : Nat) (seen : Array Nat) : Prop where
  hv : X.v = .pointer (some ⟨r, 0, none⟩)
  N : N ≤ r
  at_ : W.heap[r]? = some (.mapIter (some mb) X.w seen X.w)
  size : seen.size + X.n = X.w
  nd : seen.toList.Nodup
  lt : ∀ x ∈ seen.toList, x < X.w
theorem iter_at {N mb : Nat} {X : OwnV} (hw : OwnW W N X) (he : X.e = iterMark + (mb + 1)) : ∃ r seen, IterAt W N X r mb seen := by
  have him : objMark ≤ iterMark := by decide
  rcases hw.2 with ⟨h, _⟩ | ⟨_, ⟨h, _⟩ | ⟨_, r, m, seen, h1, h2, h3, h4, h5, h6, h7, h8⟩⟩
  · rw [he] at h
    have h : iterMark + (mb + 1) < objMark := h
    omega
  · rw [he] at h
    have h : iterMark + (mb + 1) < iterMark := h
    omega
  · cases m with
    | none =>
      have := h5 rfl; rw [he] at this
      have : iterMark + (mb + 1) = iterMark := this
      omega
    | some k =>
      have := h4 k rfl
      rw [he] at this
      have : iterMark + (mb + 1) = iterMark + (k + 1) := this
      have : k = mb := by omega
      subst this
      exact ⟨r, seen, h1, h2, h3, h6, h7, h8⟩
theorem mem_left {es : Array MapEntry} {seen : Array Nat} {e : MapEntry} (h : e ∈ (leftOf es seen).toList) : e ∈ es.toList ∧ e.born ∉ seen.toList := by
  unfold leftOf at h
  rw [Array.mem_toList_iff, Array.mem_filter] at h
  refine ⟨Array.mem_toList_iff.2 h.1, fun hm => ?_⟩
  have := h.2
  simp only [Bool.not_eq_true'] at this
  rw [Array.contains_eq_any_beq] at this
  have h2 : seen.contains e.born = true := Array.contains_iff_mem.2 (Array.mem_toList_iff.1 hm)
  rw [Array.contains_eq_any_beq] at h2
  rw [h2] at this; cases this
theorem drew_same {w1 w : World} (h : w1 = w ∨ w1 = w.drew) : w1.heap = w.heap ∧ w1.os = w.os ∧ w1.tape = w.tape ∧ w1.output = w.output := by
  rcases h with rfl | rfl <;> exact ⟨rfl, rfl, rfl, rfl⟩
theorem evNext2_ok (R : RelA B C LO OW s a sus W) {it : Operand} {i : Nat} {io mo : OA} (ho : o.op = .next it false) (hi : iterOf s it = some (i, io, mo)) (h : (evNext2 s o.dst i io mo kk).ok Q) : Comes P B a sus W o fun s' => (kk s').ok Q := by
  obtain ⟨h1, h2, h3, h4, h5⟩ := iterOf_ok hi
  unfold evNext2 at h
  split at h
  · rename_i mm me k v l im ie S il
    cases hc : (Nat.beq me (objMark + wd k) && agK k && !agK v) with
    | false => simp only [hc, Bool.not_false, cond_true] at h; exact h.elim
    | true =>
      simp only [hc, Bool.not_true, cond_false] at h
      simp only [Bool.and_eq_true, Bool.not_eq_true'] at hc
      obtain ⟨⟨hc1, hak⟩, hav⟩ := hc
      have hme := Nat.eq_of_beq_eq_true hc1; subst hme
      obtain ⟨hS, h⟩ := br_true h (fun h => h)
      have hS := Nat.eq_of_beq_eq_true hS
      obtain ⟨hover, hent⟩ := h
      have hwm : wd k < objMark := by have := (isMapE_ok h5).2; simp only [objMark, iterMark] at *; omega
      obtain ⟨e1, p, Y, hY, hYr, hYw, _⟩ := obj_of R h4
      obtain ⟨b, es, M⟩ := map_at hYr rfl hwm hYw
      obtain ⟨f1, q, X, hX, hXr, hXw, huniq⟩ := obj_of R h2
      dsimp only at e1 f1 h3; subst f1
      have hXe : X.e = iterMark + (b + 1) := by
        rcases hXr.e with ⟨h, _⟩ | ⟨_, _, b', h6, h7⟩
        · exact absurd h3 (Nat.not_lt.2 h)
        · have : C.hd (ie - iterMark - 1) = .map (some b) := by rw [← e1, ← hYr.v]; exact M.hv
          rw [this] at h6; cases h6; exact h7
      obtain ⟨r, seen, I⟩ := iter_at hXw hXe
      have hw : X.w = es.size := by rw [hXr.w, M.size]; exact hS
      have hn : X.n = il.length := hXr.n
      have hmv := R.ev h1
      simp only [Rep] at hmv
      have hmv2 : a.eval it = .pointer (some ⟨r, 0, none⟩) := by rw [hmv.2, ← hXr.v]; exact I.hv
      have hat := I.at_
      have hold : ∀ x ∈ es.toList, x.born < X.w := fun x hx => by
        obtain ⟨j, hj, rfl⟩ := List.mem_iff_getElem.1 hx
        have hj' : j < es.size := by simpa using hj
        have := (M.ent j hj' (by rw [← M.size]; exact hj')).1
        rw [Array.getElem_toList, this, hw]; exact hj'
      have hexec : ∀ vv W', (Instr.next (a.eval it) false o.type).run P W = .ok vv W' → (execOp a.eval o).run P W = .ok (.value vv) W' := fun vv W' hv => by
        simp only [execOp, ho]; exact bind_val hv
      rcases run_next_at (P := P) W o.type r b X.w X.w seen es es.size hat M.at_ hold (Nat.le_refl _) with ⟨_, hrun⟩ | ⟨e, he, w1, hw1, hrun⟩
      · refine ⟨_, .tuple #[.bool false], W, C, LO, OW, _, hexec _ _ (by rw [hmv2]; exact hrun), .inl rfl, R.put o.dst ?_, hover, fun hn => by simp [newO, ho] at hn⟩
        simp only [Rep, RepL]; exact ⟨[.bool false], rfl, _, _, rfl, rfl, rfl⟩
      · obtain ⟨hm, hns⟩ := mem_left he
        obtain ⟨j, hj, rfl⟩ := List.mem_iff_getElem.1 hm
        have hj1 : j < es.size := by simpa using hj
        have hj2 : j < l.length := by rw [← M.size]; exact hj1
        rw [Array.getElem_toList] at hns hrun
        obtain ⟨g1, us, g2, _, _, g5, g6⟩ := M.ent j hj1 hj2
        rw [g1] at hns hrun
        have hpos : 0 < il.length := by
          have h6 : (j :: seen.toList).Nodup := List.nodup_cons.2 ⟨hns, I.nd⟩
          have h7 := nodup_le X.w (j :: seen.toList) h6 fun x hx => by
            rcases List.mem_cons.1 hx with rfl | hx
            · rw [hw]; exact hj1
            · exact I.lt x hx
          simp only [List.length_cons, Array.length_toList] at h7
          have := I.size; rw [hn] at this; omega
        have hent : PIf (Nat.blt 0 il.length) _ _ := hent
        rw [blt_iff.2 hpos] at hent
        have hk := hent j hj2
        have hil : il.tail.length + 1 = il.length := by rw [List.length_tail]; omega
        have hXl : X.l.length = il.length * X.w := by have := hXw.1; rw [hn] at this; exact this
        have hge : X.w ≤ X.l.length := by rw [hXl]; exact Nat.le_mul_of_pos_left _ hpos
        have hwh : ∀ k : Nat, w1.heap[k]? = W.heap[k]? ∧ w1.heap.size = W.heap.size ∧ w1.os = W.os ∧ w1.tape = W.tape ∧ w1.output = W.output := fun k => ⟨by rw [(drew_same hw1).1], by rw [(drew_same hw1).1], (drew_same hw1).2.1, (drew_same hw1).2.2.1, (drew_same hw1).2.2.2⟩
        have hlt : r < W.heap.size := (Array.getElem?_eq_some_iff.1 hat).1
        have hsb : ∀ k : Nat, (ChangeMaps.setBlock w1 r (.mapIter (some b) X.w (seen.push j) es.size)).heap[k]? = if r = k then (if r < w1.heap.size then some (.mapIter (some b) X.w (seen.push j) es.size) else none) else w1.heap[k]? := fun k => by
          show (w1.heap.setIfInBounds r _)[k]? = _
          rw [Array.getElem?_setIfInBounds]
        have hbl : blk X.v = some r := by rw [I.hv]; rfl
        have R' := R.turned (W' := ChangeMaps.setBlock w1 r (.mapIter (some b) X.w (seen.push j) es.size)) h2 hX hXr huniq rfl (Nat.le_trans (by decide) (Nat.le_of_lt h3)) (lst := il.tail) (L := X.l.drop X.w) hbl
          (fun k hk => by rw [hsb, if_neg (fun e => hk e.symm)]; exact (hwh k).1) (by show _ ≤ (w1.heap.setIfInBounds r _).size; simp [(hwh 0).2.1]) (hwh 0).2.2.1 (hwh 0).2.2.2.1 (hwh 0).2.2.2.2
          ⟨by
            show (X.l.drop X.w).length = il.tail.length * X.w
            rw [List.length_drop, hXl, ← hil, Nat.add_mul, Nat.one_mul, Nat.add_sub_cancel], .inr ⟨by show objMark ≤ X.e; rw [hXe]; exact Nat.le_trans (by decide) (Nat.le_add_right iterMark (b + 1)), .inr ⟨by show iterMark ≤ X.e; rw [hXe]; exact Nat.le_add_right _ _, r, some b, seen.push j, I.hv, I.N, by rw [hsb, if_pos rfl, (hwh 0).2.1, if_pos hlt]; show some (Obj.mapIter (some b) X.w (seen.push j) es.size) = some (Obj.mapIter (some b) X.w (seen.push j) X.w); rw [hw], fun k hk => (by have e := Option.some.inj hk; rw [← e]; exact hXe), fun h => absurd h (by simp), by
              show (seen.push j).size + il.tail.length = X.w
              rw [Array.size_push]; have := I.size; rw [hn] at this; omega, by
              rw [Array.toList_push]
              refine List.nodup_append.2 ⟨I.nd, by simp, fun x hx y hy => ?_⟩
              rw [List.mem_singleton.1 hy]; exact fun e => hns (by rw [← e]; exact hx), fun x hx => by
              rw [Array.toList_push] at hx
              rcases List.mem_append.1 hx with hx | hx
              · exact I.lt x hx
              · rw [List.mem_singleton.1 hx]; show j < X.w; rw [hw]; exact hj1⟩⟩⟩
          (fun y hy => by
            have hy2 : y + 1 < il.length := by have : y < il.tail.length := hy; omega
            have := hXr.pc (y + 1) hy2
            rw [List.getElem_tail, List.drop_drop]
            have e3 : X.w + y * wd (.a8 S) = (y + 1) * wd (.a8 S) := by rw [hXr.w]; show S + y * S = (y + 1) * S; rw [Nat.add_mul, Nat.one_mul, Nat.add_comm]
            rw [e3]; exact this)
        refine ⟨_, .tuple #[.bool true, es[j].key, es[j].val], _, C, LO, _, _, hexec _ _ (by rw [hmv2]; exact hrun), .inl rfl, R'.put o.dst ?_, hk, fun hn => by simp [newO, ho] at hn⟩
        have hgd : l.getD j (dft (.p k v)) = l[j] := by rw [List.getD_eq_getElem?_getD, List.getElem?_eq_getElem hj2]; rfl
        simp only [Rep, RepL]
        refine ⟨[.bool true, es[j].key, es[j].val], rfl, _, _, rfl, rfl, _, _, rfl, ?_, _, _, rfl, ?_, rfl⟩
        · rw [hgd, g2]; exact packAg_VC hak g5
        · rw [hgd]; exact (oneOf_VC hav g6).1
  · exact h.elim
theorem evNext_ok (R : RelA B C LO OW s a sus W) {it : Operand} {b : Bool} (ho : o.op = .next it b) (h : (evNext s o.dst it b kk).ok Q) : Comes P B a sus W o fun s' => (kk s').ok Q := by
  unfold evNext at h
  cases b with
  | true => exact h.elim
  | false =>
    simp only [cond_false] at h
    split at h
    · rename_i i io mo hi
      exact evNext2_ok R ho hi h
    · split at h
      · rename_i i h1
        split at h
        · rename_i io h2
          cases hb : Nat.beq io.e iterMark with
          | false => simp only [hb, cond_false] at h; exact h.elim
          | true =>
            simp only [hb, cond_true] at h
            have he := Nat.eq_of_beq_eq_true hb
            obtain ⟨f1, q, X, hX, hXr, hXw, huniq⟩ := obj_of R h2
            have hXe : X.e = iterMark := by rw [← he]; exact hXr.e.eq (by rw [he]; exact Nat.le_refl _)
            have hmv := R.ev h1
            simp only [Rep] at hmv
            rcases hXw.2 with ⟨h, _⟩ | ⟨_, ⟨h, _⟩ | ⟨_, r, m, seen, h3, _, h4, h5, _⟩⟩
            · rw [hXe] at h; exact absurd h (by decide)
            · rw [hXe] at h; exact absurd h (Nat.lt_irrefl _)
            · have hm : m = none := by
                cases m with
                | none => rfl
                | some k =>
                  have h7 := h5 k rfl
                  rw [hXe] at h7
                  have h7 : iterMark = iterMark + (k + 1) := h7
                  omega
              subst hm
              refine ⟨_, .tuple #[.bool false], W, C, LO, OW, _, ?_, .inl rfl, R.put o.dst ?_, h, fun hn => by simp [newO, ho] at hn⟩
              · have hmv2 : a.eval it = .pointer (some ⟨r, 0, none⟩) := by rw [hmv.2, ← f1, ← hXr.v]; exact h3
                simp only [execOp, ho, hmv2]
                refine bind_val ?_
                simp only [Instr.next, getObj, Sem.run_bind, Sem.run, h4, Result.andThen]
                rfl
              · simp only [Rep, RepL]; exact ⟨[.bool false], rfl, _, _, rfl, rfl, rfl⟩
        · exact h.elim
      · exact h.elim
theorem arr_push {x : Array Nat} (h : 0 < x.size) : ∃ (l : Array Nat) (y : Nat), x = l.push y := by
  rcases List.eq_nil_or_concat x.toList with e | ⟨l, y, e⟩
  · have := congrArg List.length e
    simp only [Array.length_toList, List.length_nil] at this; omega
  · exact ⟨l.toArray, y, by apply Array.ext'; rw [e, Array.toList_push]; simp⟩
theorem evEntry_ok (R : RelA B C LO OW s a sus W) {it : Operand} (ho : o.op = .entry it) (h : (evEntry s o.dst it kk).ok Q) : Comes P B a sus W o fun s' => (kk s').ok Q := by
  unfold evEntry at h
  split at h
  · rename_i i io mo hi
    obtain ⟨h1, h2, h3, h4, h5⟩ := iterOf_ok hi
    unfold evEntry2 at h
    split at h
    · rename_i mm me k v l im ie S il
      cases hc : (Nat.beq me (objMark + wd k) && agK k && !agK v) with
      | false => simp only [hc, Bool.not_false, cond_true] at h; exact h.elim
      | true =>
        simp only [hc, Bool.not_true, cond_false] at h
        simp only [Bool.and_eq_true, Bool.not_eq_true'] at hc
        obtain ⟨⟨hc1, hak⟩, hav⟩ := hc
        have hme := Nat.eq_of_beq_eq_true hc1; subst hme
        obtain ⟨hS, h⟩ := br_true h (fun h => h)
        simp only [Bool.and_eq_true] at hS
        have hlt := blt_iff.1 hS.2
        have hS := Nat.eq_of_beq_eq_true hS.1
        have hwm : wd k < objMark := by have := (isMapE_ok h5).2; simp only [objMark, iterMark] at *; omega
        obtain ⟨e1, p, Y, hY, hYr, hYw, _⟩ := obj_of R h4
        obtain ⟨b, es, M⟩ := map_at hYr rfl hwm hYw
        obtain ⟨f1, q, X, hX, hXr, hXw, huniq⟩ := obj_of R h2
        dsimp only at e1 f1 h3; subst f1
        have hXe : X.e = iterMark + (b + 1) := by
          rcases hXr.e with ⟨h, _⟩ | ⟨_, _, b', h6, h7⟩
          · exact absurd h3 (Nat.not_lt.2 h)
          · have : C.hd (ie - iterMark - 1) = .map (some b) := by rw [← e1, ← hYr.v]; exact M.hv
            rw [this] at h6; cases h6; exact h7
        obtain ⟨r, seen, I⟩ := iter_at hXw hXe
        have hw : X.w = es.size := by rw [hXr.w, M.size]; exact hS
        have hn : X.n = il.length := hXr.n
        have hwS : X.w = S := hXr.w
        have hmv := R.ev h1
        simp only [Rep] at hmv
        have hmv2 : a.eval it = .pointer (some ⟨r, 0, none⟩) := by rw [hmv.2, ← hXr.v]; exact I.hv
        have hpos : 0 < seen.size := by have := I.size; rw [hn] at this; omega
        obtain ⟨sn, x, hsx⟩ := arr_push hpos
        subst hsx
        have hx : x < es.size := by rw [← hw]; exact I.lt x (by rw [Array.toList_push]; simp)
        have hx2 : x < l.length := by rw [← M.size]; exact hx
        obtain ⟨g1, us, g2, _, _, g5, g6⟩ := M.ent x hx hx2
        have hat := I.at_
        rw [hw] at hat
        have hnd : (es.toList.map (·.born)).Nodup := by
          have : es.toList.map (·.born) = List.range es.size := by
            apply List.ext_getElem
            · simp
            · intro j hj hj2
              have hj3 : j < es.size := by simpa using hj
              rw [List.getElem_map, List.getElem_range, Array.getElem_toList]
              exact (M.ent j hj3 (by rw [← M.size]; exact hj3)).1
          rw [this]; exact List.nodup_range
        have hrun := run_entry_at (P := P) W r b es.size sn es es.size es[x] (by rw [g1]; exact hat) M.at_ (by simp) hnd
        refine ⟨_, .tuple #[es[x].key, es[x].val], W, C, LO, OW, _, ?_, .inl rfl, R.put o.dst ?_, h x hx2, fun hn => by simp [newO, ho] at hn⟩
        · simp only [execOp, ho, hmv2]; exact bind_val hrun
        · have hgd : l.getD x (dft (.p k v)) = l[x] := by rw [List.getD_eq_getElem?_getD, List.getElem?_eq_getElem hx2]; rfl
          simp only [Rep, RepL]
          refine ⟨[es[x].key, es[x].val], rfl, _, _, rfl, ?_, _, _, rfl, ?_, rfl⟩
          · rw [hgd, g2]; exact packAg_VC hak g5
          · rw [hgd]; exact (oneOf_VC hav g6).1
    · exact h.elim
  · exact h.elim
end
end Go.Proofs.Ytoiacgfhjikddaa.W
