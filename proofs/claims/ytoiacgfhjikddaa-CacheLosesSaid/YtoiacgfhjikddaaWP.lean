/- The interpreter is right, twelfth part: calls by contract. -/
import Derived.Test.YtoiacgfhjikddaaWO
set_option linter.unusedSimpArgs false
set_option linter.unusedVariables false
namespace Go.Proofs.Ytoiacgfhjikddaa.W
open Go.RowKit Vc

/-- A value of a kind. -/
def PV (Gb G : GH) (k : K) (x : El k) (v : Value) : Prop := ∃ us, VC Gb G k x us ∧ ((agK k = true ∧ v = .agg ⟨us⟩) ∨ (agK k = false ∧ us = [v]))
def ArgsR (Gb G : GH) : (ks : List K) → Els ks → List Value → Prop
  | [], _, vs => vs = []
  | k :: r, x, vs => match r, x with
    | [], x => ∃ v, vs = [v] ∧ PV Gb G k x v
    | k' :: r', x => ∃ v us, vs = v :: us ∧ PV Gb G k x.1 v ∧ ArgsR Gb G (k' :: r') x.2 us
/-- Pieces of a new slice. -/
def PCg (Gb G : GH) (k : K) (l : List (El k)) (L : List Value) : Prop := ∀ i (h : i < l.length), VC Gb G k l[i] ((L.drop (i * wd k)).take (wd k))
/-- The cells of a result of a kind, and what of it is new. -/
def RC (Gb G : GH) : (k : K) → El k → List Value → List OwnV → Prop
  | .sn e k, l, us, ow => ∃ v L, us = [v] ∧ ow = [⟨v, e, wd k, l.length, L⟩] ∧ PCg Gb G k l L
  | .p x y, z, us, ow => ∃ u1 u2 o1 o2, us = u1 ++ u2 ∧ ow = o1 ++ o2 ∧ RC Gb G x z.1 u1 o1 ∧ RC Gb G y z.2 u2 o2
  | .b, x, us, ow => ow = [] ∧ VC Gb G .b x us
  | .i k, x, us, ow => ow = [] ∧ VC Gb G (.i k) x us
  | .s, x, us, ow => ow = [] ∧ VC Gb G .s x us
  | .a8 n, x, us, ow => ow = [] ∧ VC Gb G (.a8 n) x us
  | .sl k, x, us, ow => ow = [] ∧ VC Gb G (.sl k) x us
  | .sb k, x, us, ow => ow = [] ∧ VC Gb G (.sb k) x us
  | .u, x, us, ow => ow = [] ∧ VC Gb G .u x us
def RV (Gb G : GH) (k : K) (x : El k) (v : Value) (ow : List OwnV) : Prop := ∃ us, RC Gb G k x us ow ∧ ((agK k = true ∧ v = .agg ⟨us⟩) ∨ (agK k = false ∧ us = [v]))
def ResR (Gb G : GH) : (ks : List K) → Els ks → List Value → List OwnV → Prop
  | [], _, vs, ow => vs = [] ∧ ow = []
  | k :: r, x, vs, ow => match r, x with
    | [], x => ∃ v, vs = [v] ∧ RV Gb G k x v ow
    | k' :: r', x => ∃ v us o1 o2, vs = v :: us ∧ ow = o1 ++ o2 ∧ RV Gb G k x.1 v o1 ∧ ResR Gb G (k' :: r') x.2 us o2
def oneVs : List Value → Value
  | [v] => v
  | l => .tuple ⟨l⟩
/-- What is new: each in a block of its own, that nobody else sees. -/
structure New (W' : World) (N : Nat) (G' : GH) (ow : List OwnV) : Prop where
  at_ : ∀ o ∈ ow, OwnW W' N o
  hid : ∀ o ∈ ow, ∀ b, blk o.v = some b → G' b = none
  apart : ow.Pairwise fun o o' => ∀ b, blk o.v = some b → blk o'.v ≠ some b
def Brings (P : Program) (f : Nat) (ks : List K) (x : Els ks) (rk : List K) (post : Els rk → Prop) : Prop :=
  ∀ (W : World) (G : GH) (vs : List Value), (∀ k o, G k = some o → W.heap[k]? = some o) → ArgsR (view W) G ks x vs →
    Calls P f ⟨vs⟩ W fun e W' => ∃ rs G' y ow, e = .returned (oneVs rs) ∧ Kept default_env 0 W W' ∧ GExt G G' ∧ (∀ k, k < W.heap.size → G' k = G k) ∧ (∀ k o, G' k = some o → W'.heap[k]? = some o) ∧ post y ∧ ResR (view W) G' rk y rs ow ∧ New W' W.heap.size G' ow
def Out.post {R : Type} : Out R → R → Prop
  | .val y => fun z => z = y
  | .rel p => p
/-- A contract of a function. -/
structure Holds (P : Program) (c : Ct) : Prop where
  callee : okCallee P c.f = true
  run : ∀ x : Els c.ks, (c.sp x).pre → Brings P c.f c.ks x (c.sp x).rk (c.sp x).out.post

section
variable {C C' : Cx} {B : Base} {s : AS} {a : Act} {W W' : World} {P : Program} {LO : List Vc.Loc} {OW : List OwnV} {sus : List Act} {o : Oper} {Rt : Type} {Q : Rt → Prop}

/-- All that lies in memory is lent. -/
def lent (C : Cx) (W : World) : Cx := { C with Gb := view W }
theorem RelA.lent_le (R : RelA B C LO OW s a sus W) : CLe C (lent C W) := ⟨Nat.le_refl _, Nat.le_refl _, fun _ _ => ⟨rfl, rfl⟩, fun _ _ => ⟨rfl, rfl, rfl⟩, R.gview 0, GExt.refl _⟩
theorem lendA_ok (R : RelA B C LO OW s a sus W) {x : AV} {v : Value} (h : Rep C x v) : Rep (lent C W) (lendA s x) v := by
  cases x with
  | ls i off n =>
    simp only [lendA]
    split
    · rename_i cs hcs
      split
      · rename_i n' l hb
        cases hn : Nat.beq n n' with
        | false => simp [Rep]
        | true =>
          have := Nat.eq_of_beq_eq_true hn; subst this
          simp only [Rep] at h
          obtain ⟨_, rfl⟩ := h
          obtain ⟨vs, h1, h2⟩ := lp_at R hcs
          obtain ⟨h3, us, h4⟩ := bytesAt_ok hb h1
          have h5 := h2 off
          rw [h4] at h5
          have h6 := slv_bytes (Gb := view W) h5
          rw [sliceOf_eq, h3] at h6
          simp only [cond_true, Rep]
          exact ⟨h6, by simp⟩
      · simp [Rep]
    · simp [Rep]
  | _ => exact h.mono R.lent_le
theorem dcP_ok {ow : List OA} (hh : HdOk C) (hg : GExt C.G C.Gb) (hsb : ∀ m o, findO ow m = some o → SLv C.Gb (VC C.Gb C.Gb o.k) (wd o.k) o.l (C.hd m) ∧ C.ln m = o.l.length ∧ C.wo m = wd o.k) {k : K} (hn : noSn k = true) {x : AV} {v : Value} {y : El k} (h : dcP ow k x = some y) (hr : Rep C x v) : PV C.Gb C.G k y v := by
  unfold dcP at h
  cases he : (isAg x == agK k) with
  | false => simp [he] at h
  | true =>
    simp only [he, cond_true] at h
    split at h
    · rename_i cs hcs
      split at h
      · rename_i z hz
        simp only [Option.some.injEq] at h; subst h
        obtain ⟨us, h1, h2⟩ := cellsA_ok hh hcs hr
        obtain ⟨p, q, rfl, h4, h5⟩ := dc_ok hsb hn (.inr hg) hz h2
        simp only [RepC] at h5; subst h5
        rw [List.append_nil] at h1 h2
        have e := beq_iff_eq.1 he
        refine ⟨p, h4, ?_⟩
        rw [← e]
        exact isAg_of hcs hr h1 hh
      · cases h
    · cases h
theorem dcArgs_ok {ow : List OA} (hh : HdOk C) (hg : GExt C.G C.Gb) (hsb : ∀ m o, findO ow m = some o → SLv C.Gb (VC C.Gb C.Gb o.k) (wd o.k) o.l (C.hd m) ∧ C.ln m = o.l.length ∧ C.wo m = wd o.k) : ∀ {ks : List K} {as : List AV} {vs : List Value} {x : Els ks}, noSns ks = true → dcArgs ow ks as = some x → RepL C as vs → ArgsR C.Gb C.G ks x vs
  | [], as, vs, x, _, h, hr => by
    cases as with
    | nil => simpa [RepL, ArgsR] using hr
    | cons a as => simp [dcArgs] at h
  | [k], as, vs, x, hn, h, hr => by
    simp only [noSns, Bool.and_eq_true] at hn
    cases as with
    | nil => simp [dcArgs] at h
    | cons a as =>
      cases as with
      | cons b as => simp [dcArgs] at h
      | nil =>
        have h : dcP ow k a = some x := h
        simp only [RepL] at hr
        obtain ⟨v, us, rfl, h1, h2⟩ := hr
        subst h2
        exact ⟨v, rfl, dcP_ok hh hg hsb hn.1 h h1⟩
  | k :: k' :: r, as, vs, x, hn, h, hr => by
    simp only [noSns, Bool.and_eq_true] at hn
    cases as with
    | nil => simp [dcArgs] at h
    | cons a as =>
      have h : (match dcP ow k a, dcArgs ow (k' :: r) as with | some x, some y => some (x, y) | _, _ => none) = some x := h
      split at h
      · rename_i y z hy hz
        have h : (y, z) = x := by injection h
        subst h
        simp only [RepL] at hr
        obtain ⟨v, us, rfl, h1, h2⟩ := hr
        exact ⟨v, us, rfl, dcP_ok hh hg hsb hn.1 hy h1, dcArgs_ok hh hg hsb (by simp only [noSns, Bool.and_eq_true]; exact hn.2) hz h2⟩
      · cases h

/-! ### What a call brought -/
theorem Rel.take {E : Env} {n : Nat} {G : GH} {O1 O2 : List OwnV} (R : Rel B E ⟨n, [], LO, O1⟩ G a W) (h : O2.Sublist O1) : Rel B E ⟨n, [], LO, O2⟩ G a W :=
  R.le ⟨rfl, fun k s hk => hk, ⟨[], by simp⟩, h⟩ R.ml
/-- Something new is one's own. -/
theorem RelA.adopt1 (R : RelA B C LO OW s a sus W) {k : K} {l : List (El k)} {e : TypeId} {v : Value} {L : List Value} (R1 : Rel B C.E ⟨s.n, [], LO, OW ++ [⟨v, e, wd k, l.length, L⟩]⟩ C.G a W) (hv : oneC v = true) (he : e ≤ iterMark) (pc : PC C k l L) :
    ∃ C', CLe C C' ∧ C'.E = C.E ∧ C'.G = C.G ∧ C'.Gb = C.Gb ∧ RelA B C' LO (OW ++ [⟨v, e, wd k, l.length, L⟩]) (s.fresh e k l) a sus W ∧ Rep C' (.ov s.nx) v := by
  let C' : Cx := { C with M := C.M + 1, hd := fun j => if j = C.M then v else C.hd j, ln := fun j => if j = C.M then l.length else C.ln j, wo := fun j => if j = C.M then wd k else C.wo j }
  have hle : CLe C C' := ⟨Nat.le_refl _, Nat.le_succ _, fun _ _ => ⟨rfl, rfl⟩, fun j hj => ⟨if_neg (by omega), if_neg (by omega), if_neg (by omega)⟩, GExt.refl _, GExt.refl _⟩
  have hnx : s.nx = C.M := R.M.symm
  refine ⟨C', hle, rfl, rfl, rfl, ⟨R1, R.m0, R.N, by show C.M + 1 = s.nx + 1; omega, R.gb, fun j hj => ?_, R.tm.mono hle, R.fr.mono hle, R.lo.mono hle, ?_⟩, ?_⟩
  · show oneC (if j = C.M then v else C.hd j) = true
    by_cases e : j = C.M
    · rw [if_pos e]; exact hv
    · rw [if_neg e]; exact R.hh j (by have : j < C.M + 1 := hj; omega)
  · refine OwR.snoc ?_ (R.ow.mono hle) fun w hw => ?_
    · rw [hnx]
      exact ⟨(if_pos rfl).symm, ERel.of he, rfl, rfl, fun _ => if_pos rfl, if_pos rfl, Nat.lt_succ_self _, pc.mono hle⟩
    · have := R.ow.lt w hw
      show w.m ≠ s.nx
      omega
  · simp only [Rep]; rw [hnx]; exact ⟨Nat.lt_succ_self _, (if_pos rfl).symm⟩
theorem adopts_app : ∀ (l r : List AV) (s : AS), adopts (l ++ r) s = ((adopts l s).1 ++ (adopts r (adopts l s).2).1, (adopts r (adopts l s).2).2)
  | [], r, s => rfl
  | x :: l, r, s => by simp only [List.cons_append, adopts, adopts_app l r]
theorem ownW_one {N : Nat} {o : OwnV} (h : OwnW W N o) : oneC o.v = true := by
  rcases h.2 with ⟨_, ⟨oa, h1, _⟩ | ⟨b, c, L, h1, _⟩⟩ | ⟨_, ⟨_, b, es, h1, _⟩ | ⟨_, b, mb, seen, h1, _⟩⟩ <;> rw [h1] <;> rfl
theorem adopts_noq {l : List AV} (h : ∀ x ∈ l, adopt x s = (x, s)) : adopts l s = (l, s) := by
  induction l with
  | nil => rfl
  | cons x r ih => simp only [adopts]; rw [h x (by simp)]; simp only; rw [ih fun y hy => h y (by simp [hy])]
theorem VC.free : ∀ {k : K} {Gb Gb' G : GH} {x : El k} {us : List Value}, dk k = true → VC Gb G k x us → VC Gb' G k x us := by
  intro k
  induction k with
  | b => intro Gb Gb' G x us _ h; exact h
  | i k => intro Gb Gb' G x us _ h; exact h
  | s => intro Gb Gb' G x us _ h; exact h
  | a8 n => intro Gb Gb' G x us _ h; exact h
  | sl k ih => rintro Gb Gb' G x us hd ⟨v, rfl, L, h1, h2⟩; exact ⟨v, rfl, L, h1, fun i hi => ih hd (h2 i hi)⟩
  | sb k ih => intro Gb Gb' G x us hd; simp [dk] at hd
  | sn e k ih => rintro Gb Gb' G x us hd ⟨v, rfl, L, h1, h2⟩; exact ⟨v, rfl, L, h1, fun i hi => ih (by simp only [dk, Bool.and_eq_true] at hd; exact hd.2) (h2 i hi)⟩
  | u => intro Gb Gb' G x us _ h; exact h
  | p x y ih1 ih2 =>
    rintro Gb Gb' G z us hd ⟨u1, u2, rfl, h1, h2⟩
    simp only [dk, Bool.and_eq_true] at hd
    exact ⟨u1, u2, rfl, ih1 hd.1 h1, ih2 hd.2 h2⟩
theorem adoptE : ∀ {k : K} {x : El k} {us : List Value} {ow rest : List OwnV} {C : Cx} {OW : List OwnV} {s : AS}, RC (view W') C.G k x us ow → RelA B C LO OW s a sus W → Rel B C.E ⟨s.n, [], LO, OW ++ (ow ++ rest)⟩ C.G a W → (∀ o ∈ ow, oneC o.v = true) → (hgb : dk k = true) →
    ∃ C', CLe C C' ∧ C'.E = C.E ∧ C'.G = C.G ∧ C'.Gb = C.Gb ∧ RelA B C' LO (OW ++ ow) (adopts (enc k x) s).2 a sus W ∧ RepC C' (adopts (enc k x) s).1 us ∧ (adopts (enc k x) s).2.n = s.n := by
  intro k
  have leaf : ∀ {k : K} {x : El k} {us : List Value} {ow rest : List OwnV} {C : Cx} {OW : List OwnV} {s : AS}, ow = [] ∧ VC (view W') C.G k x us → RelA B C LO OW s a sus W → (∀ y ∈ enc k x, adopt y s = (y, s)) → (hgb : dk k = true) →
      ∃ C', CLe C C' ∧ C'.E = C.E ∧ C'.G = C.G ∧ C'.Gb = C.Gb ∧ RelA B C' LO (OW ++ ow) (adopts (enc k x) s).2 a sus W ∧ RepC C' (adopts (enc k x) s).1 us ∧ (adopts (enc k x) s).2.n = s.n := by
    rintro k x us ow rest C OW s ⟨rfl, h⟩ R hq hgb
    rw [adopts_noq hq, List.append_nil]
    exact ⟨C, CLe.refl C, rfl, rfl, rfl, R, enc_ok (q := 1) (by simp) (h.free hgb), rfl⟩
  induction k with
  | b => intro x us ow rest C OW s h R _ _ hgb; exact leaf (rest := rest) h R (by simp [enc, adopt]) hgb
  | i k => intro x us ow rest C OW s h R _ _ hgb; exact leaf (rest := rest) h R (by simp [enc, adopt]) hgb
  | s => intro x us ow rest C OW s h R _ _ hgb; exact leaf (rest := rest) h R (by simp [enc, adopt]) hgb
  | a8 n => intro x us ow rest C OW s h R _ _ hgb; exact leaf (rest := rest) h R (by simp [enc, adopt]) hgb
  | sl k ih => intro x us ow rest C OW s h R _ _ hgb; exact leaf (rest := rest) h R (fun y hy => by simp only [enc, List.mem_singleton] at hy; subst hy; rfl) hgb
  | sb k ih => intro x us ow rest C OW s h R _ _ hgb; simp [dk] at hgb
  | u => intro x us ow rest C OW s h R _ _ hgb; exact leaf (rest := rest) h R (by simp [enc]) hgb
  | sn e k ih =>
    rintro x us ow rest C OW s ⟨v, L, rfl, rfl, hpc⟩ R R1 h1 hgb
    have R2 := Rel.take R1 (O2 := OW ++ [⟨v, e, wd k, x.length, L⟩]) (by
      rw [← List.append_assoc]; exact List.sublist_append_left _ _)
    have hv : oneC v = true := h1 ⟨v, e, wd k, x.length, L⟩ (by simp)
    obtain ⟨C', c1, c0, c2, c3, R', hr⟩ := R.adopt1 (k := k) (l := x) (e := e) R2 hv (by simp only [dk, Bool.and_eq_true] at hgb; exact Nat.le_of_ble_eq_true hgb.1) (fun i hi => (hpc i hi).free (by simp only [dk, Bool.and_eq_true] at hgb; exact hgb.2))
    have he : adopts (enc (.sn e k) x) s = ([.ov s.nx], s.fresh e k x) := by
      have hb : Nat.blt (e + 3) 3 = false := by
        cases hb : Nat.blt (e + 3) 3 with
        | false => rfl
        | true => have := blt_iff.1 hb; omega
      simp only [enc, adopts, adopt, hb, cond_false, Nat.add_sub_cancel]
    rw [he]
    exact ⟨C', c1, c0, c2, c3, R', by rw [RepC.cons rfl]; exact ⟨v, [], rfl, hv, hr, by simp [RepC]⟩, rfl⟩
  | p x y ih1 ih2 =>
    rintro z us ow rest C OW s ⟨u1, u2, o1, o2, rfl, rfl, h1, h2⟩ R R1 ho hgb
    simp only [dk, Bool.and_eq_true] at hgb
    simp only [enc, adopts_app]
    obtain ⟨C1, c1, c0, c2, c3, R2, h3, h4⟩ := ih1 (rest := o2 ++ rest) h1 R (by rw [List.append_assoc] at R1; exact R1) (fun o h => ho o (by simp [h])) hgb.1
    have R1' : Rel B C1.E ⟨(adopts (enc x z.1) s).2.n, [], LO, (OW ++ o1) ++ (o2 ++ rest)⟩ C1.G a W := by
      rw [h4, c2, c0, List.append_assoc]
      rw [List.append_assoc] at R1; exact R1
    obtain ⟨C2, d1, d0, d2, d3, R3, h5, h6⟩ := ih2 (rest := rest) (by rw [c2]; exact h2) R2 R1' (fun o h => ho o (by simp [h])) hgb.2
    refine ⟨C2, ⟨Nat.le_trans c1.N d1.N, Nat.le_trans c1.M d1.M, fun i hi => ?_, fun m hm => ?_, c1.Gb.trans d1.Gb, c1.G.trans d1.G⟩, d0.trans c0, d2.trans c2, d3.trans c3, by rw [← List.append_assoc]; exact R3, RepC.join (h3.mono d1) h5, h6.trans h4⟩
    · have a1 := c1.id i hi; have a2 := d1.id i (Nat.lt_of_lt_of_le hi c1.N)
      exact ⟨a2.1.trans a1.1, a2.2.trans a1.2⟩
    · have a1 := c1.ow m hm; have a2 := d1.ow m (Nat.lt_of_lt_of_le hm c1.M)
      exact ⟨a2.1.trans a1.1, a2.2.1.trans a1.2.1, a2.2.2.trans a1.2.2⟩
theorem CLe.trans {C1 C2 C3 : Cx} (c1 : CLe C1 C2) (d1 : CLe C2 C3) : CLe C1 C3 := ⟨Nat.le_trans c1.N d1.N, Nat.le_trans c1.M d1.M, fun i hi => by
  have a1 := c1.id i hi; have a2 := d1.id i (Nat.lt_of_lt_of_le hi c1.N)
  exact ⟨a2.1.trans a1.1, a2.2.trans a1.2⟩, fun m hm => by
  have a1 := c1.ow m hm; have a2 := d1.ow m (Nat.lt_of_lt_of_le hm c1.M)
  exact ⟨a2.1.trans a1.1, a2.2.1.trans a1.2.1, a2.2.2.trans a1.2.2⟩, c1.Gb.trans d1.Gb, c1.G.trans d1.G⟩
theorem pack_ag {k : K} {x : El k} (h : agK k = true) : pack k x = .ag (enc k x) := by simp only [pack, h, cond_true]
theorem enc_one {k : K} {x : El k} (h : agK k = false) : ∃ y, enc k x = [y] ∧ pack k x = y ∧ isBy y = false := by
  cases k <;> simp [agK] at h <;> exact ⟨_, rfl, rfl, rfl⟩
theorem adoptP {k : K} {x : El k} {v : Value} {ow rest : List OwnV} (h : RV (view W') C.G k x v ow) (R : RelA B C LO OW s a sus W) (R1 : Rel B C.E ⟨s.n, [], LO, OW ++ (ow ++ rest)⟩ C.G a W) (ho : ∀ o ∈ ow, oneC o.v = true) (hd : dk k = true) :
    ∃ C', CLe C C' ∧ C'.E = C.E ∧ C'.G = C.G ∧ RelA B C' LO (OW ++ ow) (adopt (pack k x) s).2 a sus W ∧ Rep C' (adopt (pack k x) s).1 v ∧ (adopt (pack k x) s).2.n = s.n := by
  obtain ⟨us, h1, h2⟩ := h
  obtain ⟨C', c1, c2, c3, _, R', hr, hn⟩ := adoptE (rest := rest) h1 R R1 ho hd
  rcases h2 with ⟨hk, rfl⟩ | ⟨hk, rfl⟩
  · rw [pack_ag hk]
    simp only [adopt]
    exact ⟨C', c1, c2, c3, R', by simp only [Rep]; exact ⟨us, rfl, hr⟩, hn⟩
  · obtain ⟨y, h3, h4, h5⟩ := enc_one (x := x) hk
    rw [h4]
    rw [h3] at R' hr hn
    simp only [adopts] at R' hr hn
    refine ⟨C', c1, c2, c3, R', ?_, hn⟩
    cases hb : isBy (adopt y s).1 with
    | true =>
      exfalso
      cases y with
      | sl q k l => simp only [adopt] at hb; generalize Nat.blt q 3 = bb at hb; cases bb <;> exact absurd hb (by simp [isBy])
      | by_ n l => simp [isBy] at h5
      | _ => simp [adopt, isBy] at hb
    | false =>
      rw [RepC.cons hb] at hr
      obtain ⟨u, q, he, _, h6, _⟩ := hr
      injection he with he
      rw [he]; exact h6
theorem adoptL : ∀ {ks : List K} {y : Els ks} {rs : List Value} {ow rest : List OwnV} {C : Cx} {OW : List OwnV} {s : AS}, ResR (view W') C.G ks y rs ow → RelA B C LO OW s a sus W → Rel B C.E ⟨s.n, [], LO, OW ++ (ow ++ rest)⟩ C.G a W → (∀ o ∈ ow, oneC o.v = true) → dks ks = true →
    ∃ C', CLe C C' ∧ C'.E = C.E ∧ C'.G = C.G ∧ RelA B C' LO (OW ++ ow) (adopts (packs ks y) s).2 a sus W ∧ RepL C' (adopts (packs ks y) s).1 rs ∧ (adopts (packs ks y) s).2.n = s.n
  | [], y, rs, ow, rest, C, OW, s, h, R, _, _, _ => by
    obtain ⟨rfl, rfl⟩ := h
    rw [List.append_nil]
    exact ⟨C, CLe.refl C, rfl, rfl, R, by simp [packs, adopts, RepL], rfl⟩
  | [k], y, rs, ow, rest, C, OW, s, h, R, R1, ho, hd => by
    obtain ⟨v, rfl, h⟩ := h
    simp only [dks, Bool.and_eq_true] at hd
    obtain ⟨C', c1, c2, c3, R', hr, hn⟩ := adoptP (rest := rest) h R R1 ho hd.1
    have e : adopts (packs [k] y) s = ([(adopt (pack k y) s).1], (adopt (pack k y) s).2) := rfl
    rw [e]
    exact ⟨C', c1, c2, c3, R', by simp only [RepL]; exact ⟨v, [], rfl, hr, rfl⟩, hn⟩
  | k :: k' :: r, y, rs, ow, rest, C, OW, s, h, R, R1, ho, hd => by
    obtain ⟨v, us, o1, o2, rfl, rfl, h1, h2⟩ := h
    have hd' := hd
    rw [dks, Bool.and_eq_true] at hd'
    obtain ⟨C1, c1, c2, c3, R2, hr, hn⟩ := adoptP (rest := o2 ++ rest) h1 R (by rw [List.append_assoc] at R1; exact R1) (fun o h => ho o (by simp [h])) hd'.1
    obtain ⟨C2, d1, d2, d3, R3, hr2, hn2⟩ := adoptL (ks := k' :: r) (rest := rest) (by rw [c3]; exact h2) R2 (by rw [hn, c2, c3, List.append_assoc]; rw [List.append_assoc] at R1; exact R1) (fun o h => ho o (by simp [h])) hd'.2
    have e : adopts (packs (k :: k' :: r) y) s = ((adopt (pack k y.1) s).1 :: (adopts (packs (k' :: r) y.2) (adopt (pack k y.1) s).2).1, (adopts (packs (k' :: r) y.2) (adopt (pack k y.1) s).2).2) := rfl
    rw [e]
    exact ⟨C2, c1.trans d1, d2.trans c2, d3.trans c3, by rw [← List.append_assoc]; exact R3, by simp only [RepL]; exact ⟨v, us, rfl, hr.mono d1, hr2⟩, hn2.trans hn⟩
theorem oneA_ok {l : List AV} {rs : List Value} (h : RepL C l rs) : Rep C (oneA l) (oneVs rs) := by
  cases l with
  | nil => simp only [RepL] at h; subst h; simp only [oneA, oneVs, Rep]; exact ⟨[], rfl, by simp [RepL]⟩
  | cons x r =>
    cases r with
    | nil =>
      simp only [RepL] at h
      obtain ⟨v, us, rfl, h1, rfl⟩ := h
      exact h1
    | cons y q =>
      have h' := h
      simp only [RepL] at h
      obtain ⟨v, us, rfl, h1, u, ws, rfl, h2, h3⟩ := h
      simp only [oneA, oneVs, Rep]
      exact ⟨_, rfl, h'⟩
theorem RepL.lend (R : RelA B C LO OW s a sus W) : ∀ {l : List AV} {vs : List Value}, RepL C l vs → RepL (lent C W) (l.map (lendA s)) vs
  | [], vs, h => by simpa [RepL] using h
  | x :: r, vs, h => by
    simp only [List.map_cons, RepL] at h ⊢
    obtain ⟨v, us, rfl, h1, h2⟩ := h
    exact ⟨v, us, rfl, lendA_ok R h1, RepL.lend R h2⟩
/-- What a call comes to. -/
def CallsTo (P : Program) (B : Base) (f : Nat) (vs : List Value) (a : Act) (sus : List Act) (W : World) (K : AV → AS → World → Prop) : Prop :=
  Calls P f ⟨vs⟩ W fun e W' => ∃ r C' LO' OW' s' x, e = .returned r ∧ RelA B C' LO' OW' s' a sus W' ∧ Rep C' x r ∧ K x s' W'
theorem evCD_ok (R : RelA B C LO OW s a sus W) {c : Ct} (hc : Holds P c) {as : List AV} {vs : List Value} (hr : RepL C as vs) (hn : noSns c.ks = true) {k : AV → AS → T Rt} (h : (evCD s c as k).ok Q) : CallsTo P B c.f vs a sus W fun x s' W' => (k x s').ok Q ∧ GExt (view W) (view W') := by
  unfold evCD at h
  split at h
  · rename_i x hx
    cases hd : dks (c.sp x).rk with
    | false => simp only [hd, Bool.not_false, cond_true] at h; exact h.elim
    | true =>
      simp only [hd, Bool.not_true, cond_false] at h
      obtain ⟨hpre, h⟩ := h
      have hargs := dcArgs_ok (C := lent C W) R.hh (R.gview 1) (fun m o hm => by
        obtain ⟨e1, X, h1, _⟩ := own_at R hm
        exact ⟨own_slv R hm, by rw [← e1]; exact h1.ln (findO_A hm).2, by rw [← e1]; exact h1.wo⟩) hn hx (hr.lend R)
      refine Calls.mono (hc.run x hpre W C.G vs R.rel.sub hargs) ?_
      rintro e W' ⟨rs, G', y, ow, rfl, hk, hg, hold, hsub, hpost, hres, hnew⟩
      have R1 := R.rel.kept hk hsub hold
      let C1 : Cx := { C with G := G' }
      have c1 : CLe C C1 := ⟨Nat.le_refl _, Nat.le_refl _, fun _ _ => ⟨rfl, rfl⟩, fun _ _ => ⟨rfl, rfl, rfl⟩, GExt.refl _, hg⟩
      have RA : RelA B C1 LO OW s a sus W' := ⟨R1, R.m0, R.N, R.M, R.gb, R.hh, R.tm.mono c1, R.fr.mono c1, R.lo.mono c1, R.ow.mono c1⟩
      have R2 : Rel B C1.E ⟨s.n, [], LO, OW ++ (ow ++ [])⟩ C1.G a W' := by
        rw [List.append_nil]
        exact Rel.addOwn R1 R.rel.sz hnew.at_ hnew.hid hnew.apart (fun i hi => R.rel.lt hi) fun o ho b hb => ((R.rel.ows.at_ o ho).lt hb).1
      obtain ⟨C2, c2, _, _, R3, hrep, _⟩ := adoptL (C := C1) (rest := []) hres RA R2 (fun o ho => ownW_one (hnew.at_ o ho)) hd
      have hgw : GExt (view W) (view W') := fun k o h => by
        have hlt : k < W.heap.size := (Array.getElem?_eq_some_iff.1 h).1
        show W'.heap[k]? = some o
        rw [hk.block k hlt (fun i hi => by omega)]; exact h
      refine ⟨_, C2, _, _, _, _, rfl, R3, oneA_ok hrep, ?_, hgw⟩
      generalize (c.sp x).out = out at h hpost
      cases out with
      | val z => have : y = z := hpost; subst this; exact h
      | rel post => exact h y hpost
  · exact h.elim
end
end Go.Proofs.Ytoiacgfhjikddaa.W
