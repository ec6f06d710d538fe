/- The interpreter is right, fifth part: any operation that leaves all as it is. -/
import Derived.Test.YtoiacgfhjikddaaWH
set_option linter.unusedSimpArgs false
set_option linter.unusedVariables false
namespace Go.Proofs.Ytoiacgfhjikddaa.W
open Go.RowKit Vc

section
variable {C : Cx} {B : Base} {s : AS} {a : Act} {W : World} {P : Program} {LO : List Vc.Loc} {OW : List OwnV} {sus : List Act} {o : Oper}

theorem setAll_wr {α : Type} : ∀ (xs l : List α) (k : Nat), k + xs.length ≤ l.length → setAll l k xs = l.take k ++ xs ++ l.drop (k + xs.length) := by
  intro xs
  induction xs with
  | nil => intro l k h; simp [setAll]
  | cons x r ih =>
    intro l k h
    simp only [List.length_cons] at h
    rw [setAll, ih _ _ (by simp; omega), List.take_set, List.take_add_one, List.drop_set, if_pos (by omega), List.getElem?_eq_getElem (by omega), List.set_append_right _ _ (by simp; omega)]
    simp [Nat.min_eq_left (show k ≤ l.length by omega), Nat.add_assoc, Nat.add_comm, Nat.add_left_comm]
theorem InOwn.oneC {v p : Value} {k : Nat} (h : InOwn v p k) : oneC p = true := by obtain ⟨_, _, _, _, _, rfl⟩ := h; rfl
theorem PAt.oneC {G : GH} {p : Value} {l : List Value} (h : PAt G p l) : oneC p = true := by obtain ⟨_, rfl, _⟩ := h; rfl
theorem subAt_one {v : Value} {w lo hi : Nat} (h : Vc.oneC v = true) : Vc.oneC (subAt v w lo hi) = true := by
  rw [subAt_eq]; unfold subAtD; split <;> first | rfl | exact h
theorem cellsA_ok (hh : HdOk C) {x : AV} {v : Value} {xs : List AV} (h : cellsA x = some xs) (hr : Rep C x v) : ∃ us, v.cells = ⟨us⟩ ∧ RepC C xs us := by
  have one : ∀ {y : AV}, isBy y = false → Rep C y v → Vc.oneC v = true → ∃ us, v.cells = ⟨us⟩ ∧ RepC C [y] us := fun {y} h1 h2 h3 =>
    ⟨[v], by cases v <;> first | rfl | simp [Vc.oneC] at h3, by rw [RepC.cons h1]; exact ⟨v, [], rfl, h3, h2, by simp [RepC]⟩⟩
  cases x with
  | ag cs =>
    simp only [cellsA, Option.some.injEq] at h; subst h
    simp only [Rep] at hr
    obtain ⟨vs, rfl, h1⟩ := hr
    exact ⟨vs, rfl, h1⟩
  | v y =>
    simp only [cellsA] at h
    cases hy : Vc.oneC y with
    | false => simp [hy] at h
    | true =>
      simp only [hy, cond_true, Option.some.injEq] at h; subst h
      have hr' := hr
      simp only [Rep] at hr; subst hr
      exact one rfl hr' hy
  | sl q k l =>
    simp only [cellsA, Option.some.injEq] at h; subst h
    refine one rfl hr ?_
    simp only [Rep] at hr; exact hr.1.one
  | fp q k x off =>
    simp only [cellsA, Option.some.injEq] at h; subst h
    refine one rfl hr ?_
    simp only [Rep] at hr; obtain ⟨_, _, h2⟩ := hr; exact PAt.oneC h2
  | lp i off =>
    simp only [cellsA, Option.some.injEq] at h; subst h
    refine one rfl hr ?_
    simp only [Rep] at hr; rw [hr.2]; rfl
  | lb i off n j =>
    simp only [cellsA, Option.some.injEq] at h; subst h
    refine one rfl hr ?_
    simp only [Rep] at hr; rw [hr.2.2]; rfl
  | ls i off n =>
    simp only [cellsA, Option.some.injEq] at h; subst h
    refine one rfl hr ?_
    simp only [Rep] at hr; rw [hr.2]; rfl
  | ov m =>
    simp only [cellsA, Option.some.injEq] at h; subst h
    refine one rfl hr ?_
    simp only [Rep] at hr; rw [hr.2]; exact hh m hr.1
  | os m w lo hi =>
    simp only [cellsA, Option.some.injEq] at h; subst h
    refine one rfl hr ?_
    simp only [Rep] at hr; rw [hr.2.2.2.2]; exact subAt_one (hh m hr.1)
  | op m w j off =>
    simp only [cellsA, Option.some.injEq] at h; subst h
    refine one rfl hr ?_
    simp only [Rep] at hr; exact InOwn.oneC hr.2.2
  | fn f c =>
    simp only [cellsA, Option.some.injEq] at h; subst h
    refine one rfl hr ?_
    simp only [Rep] at hr; obtain ⟨_, rfl, _⟩ := hr; rfl
  | _ => simp [cellsA] at h

theorem takeB_ok : ∀ {n : Nat} {vs r : List Value} {l : List Int}, takeB n vs = some (l, r) → l.length = n ∧ vs = bts l ++ r
  | 0, vs, r, l, h => by
    have h : some (([] : List Int), vs) = some (l, r) := by cases vs <;> exact h
    simp only [Option.some.injEq, Prod.mk.injEq] at h; obtain ⟨rfl, rfl⟩ := h; exact ⟨rfl, rfl⟩
  | n + 1, [], r, l, h => by simp [takeB] at h
  | n + 1, v :: vs, r, l, h => by
    simp only [takeB] at h
    split at h
    · split at h
      · rename_i l' r' hl
        simp only [Option.some.injEq, Prod.mk.injEq] at h; obtain ⟨rfl, rfl⟩ := h
        obtain ⟨h1, rfl⟩ := takeB_ok hl
        exact ⟨by simp [h1], rfl⟩
      · cases h
    · cases h
theorem segm_ok : ∀ {sh : List (Option Nat)} {vs : List Value} {cs : List AV}, segm sh vs = some cs → RepC C cs vs
  | [], [], cs, h => by simp only [segm, Option.some.injEq] at h; subst h; simp [RepC]
  | [], v :: vs, cs, h => by simp [segm] at h
  | none :: sh, [], cs, h => by simp [segm] at h
  | none :: sh, v :: vs, cs, h => by
    simp only [segm] at h
    cases hv : Vc.oneC v with
    | false => simp [hv] at h
    | true =>
      simp only [hv, cond_true] at h
      split at h
      · rename_i l hl
        simp only [Option.some.injEq] at h; subst h
        rw [RepC.cons rfl]; exact ⟨v, vs, rfl, hv, by simp [Rep], segm_ok hl⟩
      · cases h
  | some n :: sh, vs, cs, h => by
    have h : (match takeB n vs with | some (b, r) => (match segm sh r with | some l => some (.by_ n b :: l) | none => none) | none => none) = some cs := by cases vs <;> exact h
    split at h
    · rename_i b r hb
      split at h
      · rename_i l hl
        simp only [Option.some.injEq] at h; subst h
        obtain ⟨h1, rfl⟩ := takeB_ok hb
        rw [RepC.by_]; exact ⟨r, h1, rfl, segm_ok hl⟩
      · cases h
    · cases h
theorem zeroA_ok {d t : Nat} {cs : List AV} (h : zeroA P d t = some cs) : ∃ i z, P.info? t = some i ∧ i.zero = some z ∧ RepC C cs z.cells.toList := by
  unfold zeroA at h
  split at h
  · rename_i i hi
    split at h
    · rename_i z hz; exact ⟨i, z, hi, hz, segm_ok h⟩
    · cases h
  · cases h

/-- Parts, and what they stand for. -/
def PartsR (C : Cx) : List (Nat × AV) → List (Nat × Value) → Prop
  | [], l => l = []
  | (i, a) :: r, l => ∃ v q, l = (i, v) :: q ∧ Rep C a v ∧ PartsR C r q
theorem parts_ok (R : RelA B C LO OW s a sus W) : ∀ {ps : List (Nat × Operand)} {l : List (Nat × AV)}, partsA s ps = some l → PartsR C l (ps.map fun (i, x) => (i, a.eval x))
  | [], l, h => by simp only [partsA, Option.some.injEq] at h; subst h; rfl
  | (i, x) :: r, l, h => by
    simp only [partsA] at h
    split at h
    · rename_i y hy
      split at h
      · rename_i q hq
        simp only [Option.some.injEq] at h; subst h
        exact ⟨_, _, rfl, R.ev hy, parts_ok R hq⟩
      · cases h
    · cases h
theorem fillA_ok (hh : HdOk C) {pl : Nat → Option (Nat × Nat)} : ∀ {l : List (Nat × AV)} {cs cs' : List AV} {vs : List Value} {lv : List (Nat × Value)}, fillA pl cs l = some cs' → RepC C cs vs → PartsR C l lv → ∃ vs', Instr.fill pl ⟨vs⟩ lv = some ⟨vs'⟩ ∧ RepC C cs' vs'
  | [], cs, cs', vs, lv, h, hr, hl => by
    simp only [fillA, Option.some.injEq] at h; subst h
    rw [show lv = [] from hl]; exact ⟨vs, rfl, hr⟩
  | (i, x) :: r, cs, cs', vs, lv, h, hr, hl => by
    obtain ⟨v, q, rfl, h1, h2⟩ := hl
    simp only [fillA] at h
    split at h
    · rename_i off w xs hpl hxs
      obtain ⟨us, hus, hx⟩ := cellsA_ok hh hxs h1
      cases hb : Nat.beq (widths xs) w with
      | false => simp [hb] at h
      | true =>
        simp only [hb, cond_true] at h
        have hw : us.length = w := by rw [hx.len]; exact Nat.eq_of_beq_eq_true hb
        split at h
        · rename_i cs2 h3
          have key : RepC C cs2 (setAll vs off us) ∧ off + w ≤ vs.length := by
            split at h3
            · rename_i l2 hl2
              simp only [Option.some.injEq] at h3; subst h3
              exact wrW_ok hl2 hr hx hw
            · split at h3
              · rename_i z
                obtain ⟨h4, h5⟩ := wrB_ok h3 hr
                rw [RepC.cons rfl] at hx
                obtain ⟨v2, us2, rfl, _, h6, h7⟩ := hx
                simp only [Rep] at h6; subst h6
                simp only [RepC] at h7; subst h7
                subst hw
                exact ⟨h4, by simp; omega⟩
              · cases h3
          rw [fill_cons hpl hus hw key.2]
          have e : wrAt vs off us = setAll vs off us := by rw [setAll_wr us vs off (by omega)]; rfl
          rw [e]
          exact fillA_ok hh h key.1 h2
        · cases h
    · cases h
theorem evBuildS_ok (hh : HdOk C) (R : RelA B C LO OW s a sus W) {t : Nat} {ps : List (Nat × Operand)} {x : AV} (h : evBuildS P s t ps = some x) : ∃ v, (∀ W', (Instr.build t ⟨ps.map fun (i, x) => (i, a.eval x)⟩).run P W' = .ok v W') ∧ Rep C x v := by
  unfold evBuildS at h
  split at h
  · rename_i z Z pl l hz hb hl
    split at h
    · rename_i cs hcs
      simp only [Option.some.injEq] at h; subst h
      obtain ⟨i, z0, hi, hz0, hr⟩ := zeroA_ok (C := C) hz
      have hZ : Z = z0.cells := by
        unfold bldS at hb
        obtain ⟨z1, h1, h2⟩ := pv_bind hb
        obtain ⟨d, h3, h4⟩ := pv_bind h2
        have e : z1 = z0 := by
          have hq : pv P (zeroValue t) = some z0 := by
            show pv P (Sem.bind (typeInfo t) _) = _
            have : pv P (typeInfo t) = some i := by show pv P (match P.info? t with | some i => pure i | none => stuck "no such type") = _; rw [hi]; rfl
            show pv P (Sem.bind (typeInfo t) fun i => _) = _
            unfold typeInfo
            simp only [program, Sem.bind, bind]
            show pv P (Sem.bind (match P.info? t with | some i => pure i | none => stuck "no such type") _) = _
            rw [hi]
            show pv P (match i.zero with | some v => pure v | none => _) = _
            rw [hz0]; rfl
          rw [hq] at h1; simpa using h1.symm
        subst e
        cases d with
        | struct fields =>
          obtain ⟨p, hp, h5⟩ := pv_bind h4
          simp only [pv, Option.some.injEq, Prod.mk.injEq] at h5
          exact h5.1.symm
        | _ => cases h4
      subst hZ
      obtain ⟨vs', h1, h2⟩ := fillA_ok hh hcs hr (parts_ok R hl)
      exact ⟨_, fun _ => build_run hb (by simpa using h1), by simp only [Rep]; exact ⟨vs', rfl, h2⟩⟩
    · cases h
  · cases h

theorem evBuildA_ok (hh : HdOk C) (R : RelA B C LO OW s a sus W) {t n e : TypeId} {ps : List (Nat × Operand)} {x : AV} (hu : P.underlying t = some (.array n e)) (h : evBuildA P s t e ps = some x) : ∃ v, (∀ W', (Instr.build t ⟨ps.map fun (i, x) => (i, a.eval x)⟩).run P W' = .ok v W') ∧ Rep C x v := by
  unfold evBuildA at h
  split at h
  · rename_i z inf l hz hinf hl
    split at h
    · rename_i cs hcs
      simp only [Option.some.injEq] at h; subst h
      obtain ⟨i, z0, hi, hz0, hr⟩ := zeroA_ok (C := C) hz
      obtain ⟨vs', h1, h2⟩ := fillA_ok hh hcs hr (parts_ok R hl)
      refine ⟨.agg ⟨vs'⟩, fun W' => ?_, by simp only [Rep]; exact ⟨vs', rfl, h2⟩⟩
      have hzv : (zeroValue t).run P W' = .ok z0 W' := by
        show (Sem.bind (typeInfo t) _).run P W' = _
        rw [run_bind (typeInfo_run hi)]; simp only [hz0]; rfl
      show (Sem.bind (zeroValue t) _).run P W' = _
      rw [run_bind hzv]
      show (Sem.bind (underlying t) _).run P W' = _
      rw [run_bind (run_underlying hu W')]
      show (Sem.bind (sizeOf e) _).run P W' = _
      rw [run_bind (sizeOf_run hinf)]
      show (match Instr.fill (fun i => some (i * inf.size, inf.size)) z0.cells (ps.map fun (i, x) => (i, a.eval x)) with | some cells => pure (Value.agg cells) | _ => stuck _ : Sem Value).run P W' = _
      rw [show Instr.fill (fun i => some (i * inf.size, inf.size)) z0.cells (ps.map fun (i, x) => (i, a.eval x)) = some ⟨vs'⟩ from by simpa using h1]
      rfl
    · cases h
  · cases h
theorem evBuild_ok (hh : HdOk C) (R : RelA B C LO OW s a sus W) {t : Nat} {ps : List (Nat × Operand)} {x : AV} (h : evBuild P s t ps = some x) : ∃ v, (∀ W', (Instr.build t ⟨ps.map fun (i, x) => (i, a.eval x)⟩).run P W' = .ok v W') ∧ Rep C x v := by
  unfold evBuild at h
  split at h
  · rename_i n e hu; exact evBuildA_ok hh R hu h
  · exact evBuildS_ok hh R h
theorem evField_ok (R : RelA B C LO OW s a sus W) {t f : Nat} {x y : AV} {v : Value} (hx : Rep C x v) (h : evField P t f x = some y) : ∃ u, Yd P W (Instr.field t v f) u ∧ Rep C y u := by
  cases x with
  | ag cs =>
    simp only [Rep] at hx
    obtain ⟨vs, rfl, hr⟩ := hx
    simp only [evField] at h
    split at h
    · rename_i off w hf
      split at h
      · rename_i l hl
        simp only [Option.some.injEq] at h; subst h
        obtain ⟨h1, h2⟩ := seg_ok hl hr
        exact ⟨_, fun W' g => (rd_fieldA (P := P) (B := B) (G := view W) hf rfl).run W' (R.seesX g), by simp only [Rep]; exact ⟨_, rfl, h1⟩⟩
      · cases h
    · rename_i off w hf
      obtain ⟨u, h1, h2, _⟩ := cell_ok h hr
      exact ⟨u, fun W' g => (rd_field1 (P := P) (B := B) (G := view W) hf h1).run W' (R.seesX g), h2⟩
    · cases h
  | _ => simp [evField] at h
theorem RepL.get : ∀ {l : List AV} {vs : List Value} {k : Nat} {x : AV}, RepL C l vs → l[k]? = some x → ∃ v, vs[k]? = some v ∧ Rep C x v
  | y :: r, vs, 0, x, h, hk => by
    simp only [RepL] at h
    obtain ⟨v, us, rfl, h1, h2⟩ := h
    simp at hk; subst hk; exact ⟨v, rfl, h1⟩
  | y :: r, vs, k + 1, x, h, hk => by
    simp only [RepL] at h
    obtain ⟨v, us, rfl, h1, h2⟩ := h
    obtain ⟨u, h3, h4⟩ := RepL.get h2 (by simpa using hk)
    exact ⟨u, by simpa using h3, h4⟩
theorem evExt_ok {k : Nat} {x y : AV} {v : Value} (hx : Rep C x v) (h : evExt k x = some y) : ∃ u, Yd P W (Instr.extract v k) u ∧ Rep C y u := by
  cases x with
  | tup vs =>
    simp only [Rep] at hx
    obtain ⟨us, rfl, hr⟩ := hx
    obtain ⟨u, h1, h2⟩ := RepL.get hr h
    refine ⟨u, fun W' _ => ?_, h2⟩
    unfold Instr.extract
    simp only [List.getElem?_toArray, h1]; rfl
  | _ => simp [evExt] at h
theorem evExt_all {k : Nat} {x y : AV} {v : Value} (hx : Rep C x v) (h : evExt k x = some y) : ∃ u, (∀ W', (Instr.extract v k).run P W' = .ok u W') ∧ Rep C y u := by
  cases x with
  | tup vs =>
    simp only [Rep] at hx
    obtain ⟨us, rfl, hr⟩ := hx
    obtain ⟨u, h1, h2⟩ := RepL.get hr h
    refine ⟨u, fun W' => ?_, h2⟩
    unfold Instr.extract
    simp only [List.getElem?_toArray, h1]; rfl
  | _ => simp [evExt] at h
theorem slv_bts {G Gb : GH} {l : List Int} {v : Value} (h : SLv G (VC Gb G (.i .u8)) 1 l v) : Row G v 1 l.length (bts l) := by
  obtain ⟨L, h1, h2⟩ := h
  have : L = bts l := by
    apply List.ext_getElem?
    intro i
    rw [bts_get]
    by_cases hi : i < l.length
    · have h3 : (L.drop (i * 1)).take 1 = [.int .u8 l[i]] := h2 i hi
      rw [Nat.mul_one] at h3
      have : L[i]? = some (.int .u8 l[i]) := by
        rw [← List.head?_drop]
        cases hd : L.drop i with
        | nil => rw [hd] at h3; cases h3
        | cons x r => rw [hd] at h3; simp at h3; simp [h3]
      rw [this, List.getElem?_eq_getElem hi]; rfl
    · rw [List.getElem?_eq_none (show L.length ≤ i by rw [h1.len]; omega), List.getElem?_eq_none (show l.length ≤ i by omega)]; rfl
  rw [← this]; exact h1
theorem evConv_ok (R : RelA B C LO OW s a sus W) {t1 t2 : Nat} {x y : AV} {v : Value} (hx : Rep C x v) (hpure : ∀ z, x = .v z → ∀ y, pureA P s o = some y → ∃ u, Yd P W (convert t1 t2 v) u ∧ Rep C y u) (h : evConv P s o t1 t2 x = some y) : ∃ u, Yd P W (convert t1 t2 v) u ∧ Rep C y u := by
  cases x with
  | sl q k l =>
    cases k with
    | i k =>
      cases k with
      | u8 =>
        simp only [evConv] at h
        cases ht : stT P t1 t2 with
        | false => simp [ht] at h
        | true =>
          simp only [ht, cond_true, Option.some.injEq] at h; subst h
          simp only [Rep] at hx
          unfold stT at ht
          split at ht
          · rename_i e h1 h2
            exact ⟨_, fun W' g => (rd_str (P := P) (B := B) ((slv_bts hx.1).mono (R.gview q)) (.inl rfl) h1 (u8T_spec ht) h2).run W' (R.seesX g), by simp [Rep]⟩
          · cases ht
      | _ => simp [evConv] at h
    | _ => simp [evConv] at h
  | v z => exact hpure z rfl y h
  | _ => simp [evConv] at h
theorem evToArr_ok (R : RelA B C LO OW s a sus W) {t : Nat} {x y : AV} {v : Value} {b : Bool} (hx : Rep C x v) (h : evToArr P t x = some (b, y)) (hb : b = true) : ∃ u, Yd P W (Instr.arrayAt t v) u ∧ Rep C y u := by
  subst hb
  cases x with
  | sl q k l =>
    cases k with
    | i k =>
      cases k with
      | u8 =>
        simp only [evToArr] at h
        split at h
        · rename_i n e hu
          simp only [Option.some.injEq, Prod.mk.injEq, decide_eq_true_eq] at h; obtain ⟨h1, rfl⟩ := h
          simp only [Rep] at hx ⊢
          have hr := slv_bts hx.1
          refine ⟨_, fun W' g => (rd_toArr (P := P) (B := B) (G := view W) hr (by omega) h1 hu).run W' (R.seesX g), ?_⟩
          refine ⟨bts (l.take (n + 1)), ⟨by rw [List.length_take]; omega, rfl⟩, ?_⟩
          rw [List.drop_zero]
          have := (hr.base (by omega)).pre (n + 1)
          rwa [bts_take] at this
        · cases h
      | _ => simp [evToArr] at h
    | _ => simp [evToArr] at h
  | _ => simp [evToArr] at h
end
end Go.Proofs.Ytoiacgfhjikddaa.W
