/- Layer 3: what a block shows: the contract. -/
import Derived.Test.YtoiacgfhjikddaaWXS
set_option linter.unusedSimpArgs false
set_option linter.unusedVariables false
namespace Go.Proofs.Ytoiacgfhjikddaa.W
open Go.RowKit Vc

/-- A state at the normal end of a code. -/
def T.nrm {R : Type} : T (Exit × R) → Option R
  | .ret p => (match p.1 with | .normal => some p.2 | _ => none)
  | .br _ t f => (match t.nrm with | some s => some s | none => f.nrm)
  | .chk _ t => t.nrm
  | _ => none
def nrmS (t : T (Exit × AS)) : AS := match t.nrm with | some s => s | none => asG 0 []

section
variable {P : Program} {B : Base} {C C' : Cx} {LO LO' : List Vc.Loc} {OW : List OwnV} {s s' : AS} {a a' : Act} {sus : List Act} {W W' : World} {c : Cf}
/-- A code's walk, with what is to be shown of each end. -/
theorem aiP (hc : CfOK P c) {f d : Nat} (R : RelA B C LO OW s a sus W) {x : Code} {X : Exit → Act → World → Prop} (K : Exit × AS → Prop) (h : OKT K (aiC c f (aiF c d) x (Exit × AS) s fun e s => .ret (e, s)))
    (hX : ∀ e C LO OW s a W, RelA B C LO OW s a sus W → K (e, s) → X e a W) : x.wp P X a W :=
  aiC_ok (Q := K) hc (aiF_ok hc d) x (fun e s => .ret (e, s)) X (fun e C LO OW s a W R h => hX e C LO OW s a W R h) C LO OW s a W R h.ok

/-- .. where it comes to its end, and where it does not. -/
theorem aiK (hc : CfOK P c) (f d : Nat) (S' : AS) (R : RelA B C LO OW s a sus W) {x : Code} {X : Exit → Act → World → Prop} (N : Prop) (K : Exit → AS → Prop)
    (h : OKT (fun p : Exit × AS => match p.1 with | .normal => p.2 = S' ∧ N | e => K e p.2) (aiC c f (aiF c d) x (Exit × AS) s fun e s => .ret (e, s)))
    (h1 : ∀ C LO OW a W, RelA B C LO OW S' a sus W → N → X .normal a W)
    (h2 : ∀ e C LO OW s a W, e ≠ .normal → RelA B C LO OW s a sus W → K e s → X e a W) : x.wp P X a W := by
  refine aiP hc R _ h ?_
  intro e C LO OW s a W R hk
  cases e with
  | normal => obtain ⟨rfl, hn⟩ := hk; exact h1 _ _ _ _ _ R hn
  | _ => exact h2 _ _ _ _ _ _ _ (by simp) R hk

/-- Memory goes on: what is known stays. -/
theorem RelA.turn (R : RelA B C LO [] s a sus W) {row : Option Nat} (hg : W.grownBy W' row) (hr : ∀ r, row = some r → B.n0 ≤ r ∧ C.G r = none ∧ ∃ o : Obj, W.heap[r]? = some o ∧ o.isCells = false) : RelA B C LO [] s a sus W' := by
  have hblk : ∀ k o, W.heap[k]? = some o → some k ≠ row → W'.heap[k]? = some o := fun k o h hne => (hg.block k (Array.getElem?_eq_some_iff.1 h).1 hne).trans h
  have hsz := R.rel.sz
  refine { R with rel := { R.rel with lo := ?_, sub := ?_, ext := ?_, os := hg.os.trans R.rel.os, tape := hg.tape.trans R.rel.tape, output := hg.output.trans R.rel.output, sz := Nat.le_trans hsz hg.size, ows := Owns.nil } }
  · intro i l hi
    have := R.rel.lo i l hi
    refine hblk _ _ this fun e => ?_
    obtain ⟨_, _, o, ho, hc⟩ := hr _ e.symm
    rw [this] at ho; injection ho with ho; subst ho; cases hc
  · intro k o hk
    refine hblk _ _ (R.rel.sub k o hk) fun e => ?_
    obtain ⟨_, h, _⟩ := hr _ e.symm
    rw [h] at hk; cases hk
  · intro k hk hi
    rw [← R.rel.ext k hk hi]
    refine hg.block k (Nat.lt_of_lt_of_le hk hsz) fun e => ?_
    obtain ⟨h, _⟩ := hr _ e.symm
    omega
/-- A variable is written. -/
theorem RelA.wroteW (R : RelA B C LO OW s a sus W) {i : Nat} {l : Box} {vs : List Value} (hl : s.lo[i]? = some l) (hv : LO[i]? = some ⟨vs.map .v, l.e⟩) {off : Nat} {us : List Value} {cs : List AV} (hle : off + us.length ≤ vs.length) (hr : RepC C cs (setAll vs off us))
    (hw : Wrote W W' (C.E.id i) (.cells ⟨setAll (C.E.pre i ++ vs ++ C.E.post i) ((C.E.pre i).length + off) us⟩ l.e (0, 0))) :
    RelA B C (LO.set i ⟨(setAll vs off us).map .v, l.e⟩) OW { s with lo := s.lo.set i ⟨cs, l.e⟩ } a sus W' := by
  rw [setAll_mid _ _ _ _ _ hle] at hw
  have R' := R.rel.wrote hv (cs := (setAll vs off us).map .v) (W' := W') (by simp only [dens_v]; exact hw)
  exact ⟨R', R.m0, by simpa using R.N, R.M, R.gb, R.hh, R.tm, R.fr, R.lo.set (x := ⟨cs, l.e⟩) hr, R.ow⟩
/-- What a body brings, at its end. -/
theorem fin_ok {ct : Ct} {x : Els ct.ks} {fn : Func} {G : GH} {hsub : SubH G W} (R' : RelA (baseG W G hsub) C' LO' OW s' a' [] W') (h' : (aiR P fn (ct.sp x).rk s').ok (ct.sp x).out.post) :
    a'.defers = [] ∧ ∃ v, (results fn a'.tmps).run P W' = .ok v W' ∧ ∃ rs G' y ow, Ending.returned v = .returned (oneVs rs) ∧ Kept default_env 0 W W' ∧ GExt G G' ∧ (∀ k, k < W.heap.size → G' k = G k) ∧ (∀ k o, G' k = some o → W'.heap[k]? = some o) ∧ (ct.sp x).out.post y ∧ ResR (view W) G' (ct.sp x).rk y rs ow ∧ New W' W.heap.size G' ow := by
  unfold aiR at h'
  split at h'
  · rename_i l0 hl0
    obtain ⟨C2, OW2, _, R2⟩ := R'.freezes (l := given (ct.sp x).rk l0)
    unfold aiR2 at h'
    split at h'
    · rename_i l hl
      cases hok : (okRs (ct.sp x).rk && nodupB (nwsL (ct.sp x).rk l)) with
      | false => simp only [hok, cond_false] at h'; exact h'.elim
      | true =>
        simp only [hok, cond_true] at h'
        simp only [Bool.and_eq_true] at hok
        split at h'
        · rename_i y hy
          obtain ⟨rs, h1, h2⟩ := resA_ok R2 hl
          obtain ⟨ow, h3, h4⟩ := dcRes_ok R2 hok.1 hy h2
          rw [R2.gb] at h3
          have hkept : Kept default_env 0 W W' := ⟨fun k hk hi => R2.rel.ext k hk fun i hi' => (by have : i < 0 := hi'; omega), R2.rel.os, R2.rel.tape, R2.rel.output, R2.rel.sz⟩
          refine ⟨R2.rel.df, _, results_run h1, rs, C2.G, y, ow, rfl, hkept, fun k o hk' => ?_, R2.rel.old, R2.rel.sub, h', h3, NM.new R2 h4 hok.2⟩
          rw [R2.rel.old k (Array.getElem?_eq_some_iff.1 (hsub k o hk')).1]; exact hk'
        · exact h'.elim
    · exact h'.elim
  · exact h'.elim
end
end Go.Proofs.Ytoiacgfhjikddaa.W
namespace Go.Proofs.Ytoiacgfhjikddaa
open Go.RowKit Vc W
def cShow : Ct := ⟨13, [kMed, kInt], fun x => ⟨[kBlk, kInt], True, .val (showS x.1 x.2)⟩⟩
noncomputable def cfShow : Cf := ⟨Try.prog, [(31, Try.f31)], [cRight, cThere], [], []⟩
theorem cfShow_ok : CfOK Try.prog cfShow := ⟨rfl, mix, Inl.cons Try.func31 (by kernel_rfl) Inl.nil, Cts.cons hRight (Cts.cons hThere Cts.nil)⟩
def cdL : Code → Code
  | .seq a _ => a
  | c => c
def cdR : Code → Code
  | .seq _ a => a
  | c => c
def bd (f : Func) : Code := match f.body with | some c => c | none => .skip
noncomputable def shB : Code := bd Try.f13
noncomputable def S0 (m : MedE) (k : Int) : AS := asG 35 (initA 0 (packs [kMed, kInt] (m, k)))
noncomputable def S1 (m : MedE) (k : Int) : AS := nrmS (aiC cfShow 0 (aiF cfShow 9) (cdL shB) (Exit × AS) (S0 m k) fun e s => .ret (e, s))
noncomputable def S2 (m : MedE) (k : Int) : AS := nrmS (aiC cfShow 0 (aiF cfShow 9) (cdL (cdR shB)) (Exit × AS) (S1 m k) fun e s => .ret (e, s))
noncomputable def S3 (m : MedE) (k : Int) : AS := nrmS (aiC cfShow 0 (aiF cfShow 9) (cdL (cdL (cdR (cdR shB)))) (Exit × AS) (S2 m k) fun e s => .ret (e, s))
/-- What is known of a state where the range begins. -/
def At3S (s : AS) (m : MedE) (k : Int) : Prop := s.n = 35 ∧ lookA s.tm 21 = some (.fn bK [.lp 4 0]) ∧ lookA s.tm 2 = some (.lp 0 0) ∧ lookA s.tm 3 = some (.lp 1 0) ∧ lookA s.tm 4 = some (.lp 2 0) ∧ lookA s.tm 5 = some (.lp 3 0) ∧
  s.lo[0]? = some ⟨enc kMed m, 25⟩ ∧ s.lo[1]? = some ⟨[.v (.int .i64 k)], 3⟩ ∧ s.lo[2]? = some ⟨[.by_ 64 (List.replicate 64 0)], 27⟩ ∧ s.lo[3]? = some ⟨[.v (.int .i64 0)], 33⟩ ∧ s.lo[4]? = some ⟨[.sl 1 kDirty m.2], 23⟩ ∧ s.ow = []
/-- What stands where the range begins. -/
structure At3 (a : Act) (W : World) (m : MedE) (k : Int) (p v2 v3 : Value) (b4 o4 b5 o5 : Nat) (q4 r4 q5 r5 : List Value) (G0 : GH) : Prop where
  size : a.tmps.size = 35
  df : a.defers = []
  t21 : a.eval (.tmp 21) = .func (.func bK) #[] #[p]
  t2 : a.tmps[2]? = some v2
  p2 : ∀ W, Rep (cxG W G0) (.fp 1 kMed m 0) v2
  t3 : a.tmps[3]? = some v3
  t4 : a.tmps[4]? = some (.pointer (some ⟨b4, o4, none⟩))
  t5 : a.tmps[5]? = some (.pointer (some ⟨b5, o5, none⟩))
  sub : SubH G0 W
  bk : BK G0 p W.heap.size m.2
  p3 : PAt G0 v3 [.int .i64 k]
  g4 : G0 b4 = none
  g5 : G0 b5 = none
  h45 : b4 ≠ b5
  c4 : ∃ vs, vs.length = 64 ∧ W.heap[b4]? = some (.cells ⟨q4 ++ vs ++ r4⟩ 27 (0, 0))
  c5 : ∃ v, W.heap[b5]? = some (.cells ⟨q5 ++ [v] ++ r5⟩ 33 (0, 0))
  l4 : q4.length = o4
  l5 : q5.length = o5
theorem at3 {B : Base} {C : Cx} {LO : List Vc.Loc} {OW : List OwnV} {s : AS} {a : Act} {W : World} {m : MedE} {k : Int} (R : RelA B C LO OW s a [] W) (h : At3S s m k) (hm : rightS m = true) :
    ∃ p v2 v3, At3 a W m k p v2 v3 (C.E.id 2) (C.E.pre 2).length (C.E.id 3) (C.E.pre 3).length (C.E.pre 2) (C.E.post 2) (C.E.pre 3) (C.E.post 3) (fun j => if j = C.E.id 2 ∨ j = C.E.id 3 then none else W.heap[j]?) := by
  obtain ⟨hn, e21, e2, e3, e4, e5, l0, l1, l2, l3, l4, how⟩ := h
  obtain ⟨u21, t21, r21⟩ := R.tm 21 _ e21
  obtain ⟨u2, t2, r2⟩ := R.tm 2 _ e2
  obtain ⟨u3, t3, r3⟩ := R.tm 3 _ e3
  obtain ⟨u4, t4, r4⟩ := R.tm 4 _ e4
  obtain ⟨u5, t5, r5⟩ := R.tm 5 _ e5
  simp only [Rep, RepL] at r21 r2 r3 r4 r5
  obtain ⟨vs, rfl, p, us, rfl, ⟨hN, rfl⟩, rfl⟩ := r21
  obtain ⟨h2N, rfl⟩ := r2
  obtain ⟨h3N, rfl⟩ := r3
  obtain ⟨h4N, rfl⟩ := r4
  obtain ⟨h5N, rfl⟩ := r5
  have hlen : C.N = s.lo.length := R.N
  have hL : LO.length = s.lo.length := R.lo.len
  have hid : ∀ i, i < 5 → ∀ j, j < 5 → C.E.id i = C.E.id j → i = j := fun i hi j hj e => R.rel.inj i j (by show i < LO.length; omega) (by show j < LO.length; omega) e
  -- what lies at a place
  have cellAt : ∀ (i : Nat) (cs : List AV) (t : Nat), s.lo[i]? = some ⟨cs, t⟩ → ∃ vs, RepC C cs vs ∧ W.heap[C.E.id i]? = some (.cells ⟨C.E.pre i ++ vs ++ C.E.post i⟩ t (0, 0)) := fun i cs t hi => by
    obtain ⟨vs, h1, h2⟩ := R.lo.get hi
    have := R.rel.lo i _ h1
    simp only [dens_v] at this
    exact ⟨vs, h2, this⟩
  have hG : GExt C.G (fun j => if j = C.E.id 2 ∨ j = C.E.id 3 then none else W.heap[j]?) := fun j o hj => by
    show (if _ then _ else _) = _
    rw [if_neg]
    · exact R.rel.sub j o hj
    · rintro (e | e) <;> subst e
      · rw [R.rel.hid 2 (by show 2 < LO.length; omega)] at hj; cases hj
      · rw [R.rel.hid 3 (by show 3 < LO.length; omega)] at hj; cases hj
  have pat : ∀ (i : Nat) (cs : List AV) (t : Nat), s.lo[i]? = some ⟨cs, t⟩ → i ≠ 2 → i ≠ 3 → i < 5 → ∃ vs, RepC C cs vs ∧ PAt (fun j => if j = C.E.id 2 ∨ j = C.E.id 3 then none else W.heap[j]?) (.pointer (some ⟨C.E.id i, (C.E.pre i).length + 0, none⟩)) vs := fun i cs t hi n2 n3 h5 => by
    obtain ⟨vs, h1, h2⟩ := cellAt i cs t hi
    refine ⟨vs, h1, _, rfl, rfl, C.E.pre i ++ vs ++ C.E.post i, t, (0, 0), ?_, ?_⟩
    · show (if _ then _ else _) = _
      rw [if_neg]
      · exact h2
      · rintro (e | e)
        · exact n2 (hid i h5 2 (by omega) e)
        · exact n3 (hid i h5 3 (by omega) e)
    · show vs = ((C.E.pre i ++ vs ++ C.E.post i).drop ((C.E.pre i).length + 0)).take vs.length
      simp [List.append_assoc]
  obtain ⟨vs2, c2, p2⟩ := pat 0 _ _ l0 (by omega) (by omega) (by omega)
  obtain ⟨vs3, c3, p3⟩ := pat 1 _ _ l1 (by omega) (by omega) (by omega)
  obtain ⟨vs5, c5, p5⟩ := pat 4 _ _ l4 (by omega) (by omega) (by omega)
  have c2 : RepC C [.sl 1 kBlk m.1, .sl 1 kDirty m.2] vs2 := c2
  simp only [RepC, Rep] at c2
  obtain ⟨w1, _, rfl, _, g1, w2, _, rfl, _, g2, rfl⟩ := c2
  simp only [RepC] at c3 c5
  obtain ⟨_, _, rfl, _, rfl, rfl⟩ := c3
  obtain ⟨sv, _, rfl, _, hsl, rfl⟩ := c5
  obtain ⟨x4, y4, z4⟩ := cellAt 2 _ _ l2
  obtain ⟨x5, y5, z5⟩ := cellAt 3 _ _ l3
  refine ⟨_, _, _, ⟨by rw [R.rel.size, hn], R.rel.df, by simp [Act.eval, Array.getD_eq_getD_getElem?, t21], t2, fun W' => ?_, t3, t4, t5, ?_, ⟨⟨sv, p5, ?_⟩, ?_, ?_⟩, p3, by simp, by simp, ?_, ⟨x4, ?_, z4⟩, ?_, rfl, rfl⟩⟩
  · simp only [Rep]
    refine ⟨[w1, w2], ⟨[w1], [w2], rfl, ⟨w1, rfl, ?_⟩, w2, rfl, ?_⟩, p2⟩
    · exact SLv.mono (R' := VC _ _ kBlk) g1.1 hG fun _ _ h => VC.free rfl (h.mono hG)
    · exact SLv.mono (R' := VC _ _ kDirty) g2.1 hG fun _ _ h => VC.free rfl (h.mono hG)
  · intro j o hj
    have hj : (if _ then _ else _) = _ := hj
    split at hj
    · cases hj
    · exact hj
  · intro Gb
    exact SLv.mono (R' := VC Gb _ kDirty) hsl.1 hG fun _ _ h => VC.free rfl (h.mono hG)
  · intro j o hj
    have hj : (if _ then _ else _) = _ := hj
    split at hj
    · cases hj
    · exact (Array.getElem?_eq_some_iff.1 hj).1
  · have := (right_of hm).2.1; omega
  · exact fun e => absurd (hid 2 (by omega) 3 (by omega) e) (by omega)
  · simp only [RepC] at y4
    obtain ⟨us, h1, rfl, rfl⟩ := y4
    simp [bts, h1]
  · simp only [RepC] at y5
    obtain ⟨v, us, rfl, _, _, rfl⟩ := y5
    exact ⟨v, z5⟩
/-- Between two rounds. -/
def ShI (w : World) (k : Int) (pre : List (Int × DirtyE)) (W : World) : Prop := Below w.heap.size w W ∧ ∀ x ∈ pre, x.2.1 ≠ k
/-- Behind the round that leaves. -/
def ShX (w : World) (k : Int) (b4 b5 : Nat) (q4 r4 q5 r5 : List Value) (c : Code) (pre : List (Int × DirtyE)) (W : World) : Prop :=
  c = .ret ∧ ∃ x pre', pre = pre' ++ [x] ∧ x.2.1 = k ∧ (∀ y ∈ pre', y.2.1 ≠ k) ∧ (W.os = w.os ∧ W.tape = w.tape ∧ W.output = w.output ∧ w.heap.size ≤ W.heap.size) ∧ (∀ j, j < w.heap.size → j ≠ b4 → j ≠ b5 → W.heap[j]? = w.heap[j]?) ∧
    W.heap[b4]? = some (.cells ⟨q4 ++ bts (fit x.2.2) ++ r4⟩ 27 (0, 0)) ∧ W.heap[b5]? = some (.cells ⟨q5 ++ [.int .i64 0] ++ r5⟩ 33 (0, 0))
/-- A round's frame. -/
def ShA (w : World) (v3 v4 v5 : Value) (x : Int × DirtyE) (a : Act) (W : World) : Prop :=
  ∃ bx, w.heap.size ≤ bx ∧ W.heap[bx]? = some (.cells ⟨bCells x.2⟩ 53 (0, 0)) ∧ a.tmps.size = 35 ∧ a.defers = [] ∧ a.tmps[7]? = some (pB bx) ∧ a.tmps[3]? = some v3 ∧ a.tmps[4]? = some v4 ∧ a.tmps[5]? = some v5
theorem grown_other {W W' : World} {row : Option Nat} (hg : W.grownBy W' row) (hr : ∀ r, row = some r → ∃ o : Obj, W.heap[r]? = some o ∧ o.isCells = false) {b : Nat} {o : Obj} (h : W.heap[b]? = some o) (hc : o.isCells = true) : W'.heap[b]? = some o := by
  refine (hg.block b (Array.getElem?_eq_some_iff.1 h).1 fun e => ?_).trans h
  obtain ⟨o', h1, h2⟩ := hr b e.symm
  rw [h] at h1; injection h1 with h1; subst h1; rw [hc] at h2; cases h2
theorem ShI.own {w : World} {k : Int} : OwnFrom w.heap.size (ShI w k) := fun pre W W' row hs hg hr => by
  refine ⟨⟨hg.os.trans hs.1.os, hg.tape.trans hs.1.tape, hg.output.trans hs.1.output, Nat.le_trans hs.1.size hg.size, fun i hi => ?_⟩, hs.2⟩
  rw [← hs.1.block i hi]
  exact hg.block i (Nat.lt_of_lt_of_le hi hs.1.size) fun e => by have := (hr i e.symm).1; omega
theorem ShX.own {w : World} {k : Int} {b4 b5 : Nat} {q4 r4 q5 r5 : List Value} (c : Code) : OwnFrom w.heap.size (ShX w k b4 b5 q4 r4 q5 r5 c) := fun pre W W' row hs hg hr => by
  obtain ⟨hc, x, pre', h1, h2, h3, h4, h5, h6, h7⟩ := hs
  refine ⟨hc, x, pre', h1, h2, h3, ⟨hg.os.trans h4.1, hg.tape.trans h4.2.1, hg.output.trans h4.2.2.1, Nat.le_trans h4.2.2.2 hg.size⟩, fun j hj n4 n5 => ?_, grown_other hg (fun r e => (hr r e).2) h6 rfl, grown_other hg (fun r e => (hr r e).2) h7 rfl⟩
  rw [← h5 j hj n4 n5]
  exact hg.block j (Nat.lt_of_lt_of_le hj h4.2.2.2) fun e => by have := (hr j e.symm).1; omega
theorem ShA.own {w : World} {v3 v4 v5 : Value} (x : Int × DirtyE) (a : Act) : OwnFrom w.heap.size (fun (_ : Unit) W => ShA w v3 v4 v5 x a W) := fun _ W W' row hs hg hr => by
  obtain ⟨bx, h1, h2, h3⟩ := hs
  exact ⟨bx, h1, grown_other hg (fun r e => (hr r e).2) h2 rfl, h3⟩
theorem bCells_len (d : DirtyE) : (bCells d).length = 65 := by simp [bCells, bts, fit_len]
theorem bCells_one (d : DirtyE) : ∀ u ∈ bCells d, oneC u = true := by
  intro u hu
  rcases List.mem_cons.1 hu with rfl | hu
  · rfl
  · obtain ⟨z, _, rfl⟩ := List.mem_map.1 hu; rfl
theorem info53 : ∃ inf, Try.prog.info? 53 = some inf ∧ inf.size = 65 := by
  have h : (Try.prog.info? 53).map (·.size) = some 65 := by kernel_rfl
  cases e : Try.prog.info? 53 with
  | none => rw [e] at h; cases h
  | some i => rw [e] at h; injection h with h; exact ⟨i, rfl, h⟩
theorem info27 : ∃ inf, Try.prog.info? 27 = some inf ∧ inf.size = 64 := by
  have h : (Try.prog.info? 27).map (·.size) = some 64 := by kernel_rfl
  cases e : Try.prog.info? 27 with
  | none => rw [e] at h; cases h
  | some i => rw [e] at h; injection h with h; exact ⟨i, rfl, h⟩
theorem info33 : ∃ inf, Try.prog.info? 33 = some inf ∧ inf.size = 1 := by
  have h : (Try.prog.info? 33).map (·.size) = some 1 := by kernel_rfl
  cases e : Try.prog.info? 33 with
  | none => rw [e] at h; cases h
  | some i => rw [e] at h; injection h with h; exact ⟨i, rfl, h⟩
/-! What a block shows, in plain words -/
theorem right_all {m : MedE} (h : rightS m = true) : ∀ (i : Nat) (d : DirtyE), m.2[i]? = some d → 0 ≤ d.1 ∧ d.1 < m.1.length := fun i d => right_mem h
theorem all_none {s : Int → DirtyE → Bool} {m : MedE} (h : ∀ (i : Nat) (d : DirtyE), m.2[i]? = some d → 0 ≤ d.1) {k : Int} (hk : 0 ≤ k) : ∀ n, (∀ (i : Nat) (d : DirtyE), i < n → m.2[i]? = some d → d.1 ≠ k) → (doneN (fun _ _ => true) s m n).1[k.toNat]? = m.1[k.toNat]?
  | 0, _ => rfl
  | n + 1, hn => by
    have ih := all_none (s := s) h hk n fun i d hi => hn i d (by omega)
    unfold doneN
    split
    · rename_i d hd
      have h1 := hn n d (by omega) hd
      have h2 := h n d hd
      simp only [if_true]
      rw [List.getElem?_set_ne (by omega)]; exact ih
    · exact ih
theorem all_last {s : Int → DirtyE → Bool} {m : MedE} (h : ∀ (i : Nat) (d : DirtyE), m.2[i]? = some d → 0 ≤ d.1) {k : Int} (hk : 0 ≤ k) (hk1 : k < m.1.length) {j : Nat} {d : DirtyE} (hj : m.2[j]? = some d) (hd : d.1 = k) : ∀ n, j < n → (∀ (i : Nat) (d : DirtyE), j < i → i < n → m.2[i]? = some d → d.1 ≠ k) →
    (doneN (fun _ _ => true) s m n).1[k.toNat]? = some d.2
  | 0, hjn, _ => by omega
  | n + 1, hjn, hn => by
    unfold doneN
    by_cases e : j = n
    · subst e
      rw [hj]
      simp only [if_true, hd]
      rw [List.getElem?_set_self]
      rw [(doneN_len _ _ _ _).1]; omega
    · have ih := all_last (s := s) h hk hk1 hj hd n (by omega) fun i d' h1 h2 => hn i d' h1 (by omega)
      split
      · rename_i d' hd'
        have h1 := hn n d' (by omega) (by omega) hd'
        have h2 := h n d' hd'
        simp only [if_true]
        rw [List.getElem?_set_ne (by omega)]; exact ih
      · exact ih
theorem show_none {m : MedE} {k : Int} (hm : rightS m = true) (hk : thereS m k = true) (h : ∀ x ∈ bItems m.2 m.2.length, x.2.1 ≠ k) : (m.1.getD k.toNat (List.replicate 64 0), (0 : Int)) = showS m k := by
  simp only [thereS, Bool.and_eq_true, decide_eq_true_eq] at hk
  have h2 : (doneN (fun _ _ => true) (fun _ _ => true) m m.2.length).1[k.toNat]? = m.1[k.toNat]? := all_none (fun i d hd => (right_mem hm hd).1) hk.1 _ fun i d hi hd e => by
    refine h (bItem m.2 (m.2.length - 1 - i)) (List.mem_map.2 ⟨_, List.mem_range.2 (by omega), rfl⟩) ?_
    simp only [bItem, show m.2.length - 1 - (m.2.length - 1 - i) = i by omega, List.getD_eq_getElem?_getD, hd]
    exact e
  simp only [showS, hm, thereS, hk, allS, doneS, decide_true, Bool.and_self, Bool.true_eq_false, if_true, if_false, List.getD_eq_getElem?_getD, h2]
theorem show_last {m : MedE} {k : Int} {p : Value} {G0 : GH} {n₀ kk : Nat} (hb : BK G0 p n₀ m.2) (hm : rightS m = true) (hk : thereS m k = true) (hkk : kk < m.2.length) {x : Int × DirtyE} {pre : List (Int × DirtyE)} (he : bItems m.2 (kk + 1) = pre ++ [x]) (hx : x.2.1 = k) (h : ∀ y ∈ pre, y.2.1 ≠ k) : (fit x.2.2, (0 : Int)) = showS m k := by
  rw [bItems_succ] at he
  obtain ⟨rfl, h1⟩ := List.append_inj' he rfl
  have h1 : bItem m.2 kk = x := by simpa using h1
  subst h1
  have hl := hb.dget (m.2.length - 1 - kk)
  have hg : m.2[m.2.length - 1 - kk]? = some (m.2.getD (m.2.length - 1 - kk) dz) := by
    rw [List.getD_eq_getElem?_getD, List.getElem?_eq_getElem (by omega)]; rfl
  simp only [thereS, Bool.and_eq_true, decide_eq_true_eq] at hk
  have h2 : (doneN (fun _ _ => true) (fun _ _ => true) m m.2.length).1[k.toNat]? = some (m.2.getD (m.2.length - 1 - kk) dz).2 := all_last (fun i d hd => (right_mem hm hd).1) hk.1 hk.2 hg hx _ (by omega) fun i d hi hi2 hd e => by
    refine h (bItem m.2 (m.2.length - 1 - i)) (List.mem_map.2 ⟨_, List.mem_range.2 (by omega), rfl⟩) ?_
    simp only [bItem, show m.2.length - 1 - (m.2.length - 1 - i) = i by omega, List.getD_eq_getElem?_getD, hd]
    exact e
  simp only [showS, hm, thereS, hk, allS, doneS, decide_true, Bool.and_self, Bool.true_eq_false, if_true, if_false, List.getD_eq_getElem?_getD, h2]
  simp only [bItem, fit_eq hl]
  simp
theorem res_eq {t1 t2 : Array Value} (h4 : t1.getD 4 undef = t2.getD 4 undef) (h5 : t1.getD 5 undef = t2.getD 5 undef) : results Try.f13 t1 = results Try.f13 t2 := by
  have h : (Try.f13).results = #[.cell 4 27, .cell 5 33] := rfl
  simp only [results, h, List.mapM_toArray, List.mapM_cons, List.mapM_nil, h4, h5]
theorem wrote_ex {W : World} {b off e : Nat} {us l : List Value} (hb : W.heap[b]? = some (.cells ⟨l⟩ e (0, 0))) (hle : off + us.length ≤ l.length) (h1 : ∀ u ∈ us, oneC u = true) : ∃ W', Wrote W W' b (.cells ⟨setAll l off us⟩ e (0, 0)) := by
  obtain ⟨W', _, hw⟩ := run_storeCells (P := Try.prog) (b := b) (o := off) (t := e) us 0 W _ hb (by omega) h1
  rw [Nat.add_zero] at hw
  exact ⟨W', hw⟩
theorem set_whole {q r vs us : List Value} (h : us.length = vs.length) : setAll (q ++ vs ++ r) q.length us = q ++ us ++ r := by
  have := setAll_mid q r us vs 0 (by omega)
  rw [Nat.add_zero] at this
  rw [this, setAll_all _ _ (by omega), List.drop_of_length_le (by omega), List.append_nil]
theorem relWr {B : Base} {C : Cx} {LO : List Vc.Loc} {OW : List OwnV} {s : AS} {a : Act} {sus : List Act} {W W' : World} (R : RelA B C LO OW s a sus W) {i e : Nat} {cs0 cs : List AV} (hl : s.lo[i]? = some ⟨cs0, e⟩) {us : List Value} (hr : RepC C cs us)
    (hw : Wrote W W' (C.E.id i) (.cells ⟨C.E.pre i ++ us ++ C.E.post i⟩ e (0, 0))) : ∃ LO', RelA B C LO' OW { s with lo := s.lo.set i ⟨cs, e⟩ } a sus W' := by
  obtain ⟨vs, hv, _⟩ := R.lo.get hl
  have R' := R.rel.wrote hv (cs := us.map .v) (W' := W') (by simp only [dens_v]; exact hw)
  exact ⟨_, R', R.m0, by simpa using R.N, R.M, R.gb, R.hh, R.tm, R.fr, R.lo.set (x := ⟨cs, e⟩) hr, R.ow⟩
theorem fin_res {s : AS} {d : List Int} {m : MedE} {k : Int} (e4 : lookA s.tm 4 = some (.lp 2 0)) (e5 : lookA s.tm 5 = some (.lp 3 0)) (l2 : s.lo[2]? = some ⟨[.by_ 64 d], 27⟩) (l3 : s.lo[3]? = some ⟨[.v (.int .i64 0)], 33⟩) (h : (d, 0) = showS m k) :
    (aiR Try.prog Try.f13 (cShow.sp (m, k)).rk s).ok (cShow.sp (m, k)).out.post := by
  have h1 : loadC Try.prog 27 [.by_ 64 d] 0 = some (.ag [.by_ 64 d]) := by kernel_rfl
  have h2 : loadC Try.prog 33 [.v (.int .i64 0)] 0 = some (.v (.int .i64 0)) := by kernel_rfl
  have hres : resA Try.prog s [.cell 4 27, .cell 5 33] = some [.ag [.by_ 64 d], .v (.int .i64 0)] := by
    simp only [resA, AS.get, e4, e5, cellsOf, l2, l3, h1, h2]
  have hl : (Try.f13).results.toList = [.cell 4 27, .cell 5 33] := rfl
  unfold aiR
  rw [hl, hres]
  show (aiR2 Try.prog Try.f13 [kBlk, kInt] s).ok _
  unfold aiR2
  rw [hl, hres]
  exact h
theorem show_fin {W : World} {G : GH} {hsub : SubH G W} {C : Cx} {LO : List Vc.Loc} {OW : List OwnV} {s : AS} {a : Act} {W3 Wf : World} {m : MedE} {k : Int} {p v2 v3 : Value} (R : RelA (baseG W G hsub) C LO OW s a [] W3) (h3 : At3S s m k)
    (H : At3 a W3 m k p v2 v3 (C.E.id 2) (C.E.pre 2).length (C.E.id 3) (C.E.pre 3).length (C.E.pre 2) (C.E.post 2) (C.E.pre 3) (C.E.post 3) (fun j => if j = C.E.id 2 ∨ j = C.E.id 3 then none else W3.heap[j]?))
    {d : List Int} (hd : d.length = 64) (o1 : Wf.os = W3.os) (o2 : Wf.tape = W3.tape) (o3 : Wf.output = W3.output) (o4 : W3.heap.size ≤ Wf.heap.size) (hoth : ∀ j, j < W3.heap.size → j ≠ C.E.id 2 → j ≠ C.E.id 3 → Wf.heap[j]? = W3.heap[j]?)
    (h4 : Wf.heap[C.E.id 2]? = some (.cells ⟨C.E.pre 2 ++ bts d ++ C.E.post 2⟩ 27 (0, 0))) (h5 : Wf.heap[C.E.id 3]? = some (.cells ⟨C.E.pre 3 ++ [.int .i64 0] ++ C.E.post 3⟩ 33 (0, 0))) (hs : (d, (0 : Int)) = showS m k) :
    a.defers = [] ∧ ∃ v, (results Try.f13 a.tmps).run Try.prog Wf = .ok v Wf ∧ ∃ rs G' y ow, Ending.returned v = .returned (oneVs rs) ∧ Kept default_env 0 W Wf ∧ GExt G G' ∧ (∀ k, k < W.heap.size → G' k = G k) ∧ (∀ k o, G' k = some o → Wf.heap[k]? = some o) ∧ (cShow.sp (m, k)).out.post y ∧ ResR (view W) G' (cShow.sp (m, k)).rk y rs ow ∧ New Wf W.heap.size G' ow := by
  obtain ⟨_, _, e2, e3, e4, e5, l0, l1, l2, l3, l4, how⟩ := h3
  obtain rfl : OW = [] := by have := R.ow; rw [how] at this; exact this
  obtain ⟨x4, hx4, hc4⟩ := H.c4
  obtain ⟨x5, hc5⟩ := H.c5
  have hfit : (bts d).length = 64 := by simp [bts, hd]
  have hone : ∀ u ∈ bts d, oneC u = true := fun u hu => by obtain ⟨z, _, rfl⟩ := List.mem_map.1 hu; rfl
  obtain ⟨W5, hw5⟩ := wrote_ex (off := (C.E.pre 2).length) (us := bts d) hc4 (by simp [hx4, hfit]) hone
  rw [set_whole (by omega)] at hw5
  obtain ⟨LO5, R5⟩ := relWr R l2 (cs := [.by_ 64 d]) (us := bts d) (by simp only [RepC]; exact ⟨[], hd, by simp, rfl⟩) hw5
  have hne35 : C.E.id 3 ≠ C.E.id 2 := fun e => H.h45 e.symm
  obtain ⟨W6, hw6⟩ := wrote_ex (W := W5) (b := C.E.id 3) (off := (C.E.pre 3).length) (e := 33) (us := [.int .i64 0]) (l := C.E.pre 3 ++ [x5] ++ C.E.post 3) (by rw [hw5.other _ hne35]; exact hc5) (by simp) (by simp [oneC])
  rw [set_whole (by simp)] at hw6
  obtain ⟨LO6, R6⟩ := relWr R5 (i := 3) (e := 33) (cs0 := [.v (.int .i64 0)]) (cs := [.v (.int .i64 0)]) (us := [.int .i64 0]) (by show (s.lo.set 2 _)[3]? = _; rw [List.getElem?_set_ne (by omega)]; exact l3) (by simp only [RepC]; exact ⟨_, [], rfl, rfl, by simp [Rep], rfl⟩) hw6
  have hz6 : W6.heap.size = W3.heap.size := hw6.size.trans hw5.size
  have R7 := R6.turn (W' := Wf) (row := none) ⟨o1.trans (hw6.os.trans hw5.os).symm, o2.trans (hw6.tape.trans hw5.tape).symm, o3.trans (hw6.output.trans hw5.output).symm, by rw [hz6]; exact o4, fun j hj _ => by
    by_cases n5 : j = C.E.id 3
    · subst n5; rw [h5, hw6.at_]
    · rw [hw6.other j n5]
      by_cases n4 : j = C.E.id 2
      · subst n4; rw [h4, hw5.at_]
      · rw [hw5.other j n4]; exact hoth j (by omega) n4 n5⟩ (fun r h => by cases h)
  exact fin_ok (ct := cShow) (x := (m, k)) R7 (fin_res e4 e5 (by show ((s.lo.set 2 _).set 3 _)[2]? = _; rw [List.getElem?_set_ne (by omega), List.getElem?_set_self (List.getElem?_eq_some_iff.1 l2).1]) (by show ((s.lo.set 2 _).set 3 _)[3]? = _; rw [List.getElem?_set_self (by rw [List.length_set]; exact (List.getElem?_eq_some_iff.1 l3).1)]) hs)
set_option maxHeartbeats 4000000 in
theorem hShow : Holds Try.prog cShow := by
  refine ⟨okc Try.func13 (by kernel_rfl), fun x _ W G vs hsub hargs => ?_⟩
  obtain ⟨m, k⟩ := x
  have hr : RepL (cxG W G) (packs [kMed, kInt] (m, k)) vs := argsR_rep (C := cxG W G) hargs
  refine (callsIn_wide (n := 5)).1 ?_
  refine callsIn_of_wp_marks Try.func13 rfl trivial ?_ rfl
  have R0 := relG (W := W) hsub (n := 35) (a := act0 Try.f13 vs) (act0_size (by rw [hr.len]; exact Nat.le_of_ble_eq_true (by kernel_rfl))) rfl (act0_tm hr)
  refine wpIn_seq (wpIn_wide.2 (aiK cfShow_ok 0 9 (S1 m k) R0 True (fun _ _ => False) (vc_of (B := S1 m k = S1 m k ∧ True) (by kernel_rfl) ⟨rfl, trivial⟩) ?_ (fun _ _ _ _ _ _ _ _ _ h => h.elim)))
  intro C1 LO1 OW1 a1 W1 R1 _
  refine wpIn_seq (wpIn_wide.2 (aiK cfShow_ok 0 9 (S2 m k) R1 (rightS m = true ∧ thereS m k = true) (fun e s => e = .ret ∧ (aiR Try.prog Try.f13 [kBlk, kInt] s).ok (fun y => y = showS m k))
    (vc_of (B := True ∧ PIf (!rightS m) (Exit.ret = .ret ∧ (List.replicate 64 0, 1) = showS m k) (True ∧ PIf (!thereS m k) (Exit.ret = .ret ∧ (List.replicate 64 0, 5) = showS m k) (S2 m k = S2 m k ∧ rightS m = true ∧ thereS m k = true))) (by kernel_rfl) ?_) ?_ ?_))
  · simp only [PIf_iff, showS]
    cases h1 : rightS m <;> cases h2 : thereS m k <;> simp
  · intro C2 LO2 OW2 a2 W2 R2 ⟨hm, hk⟩
    refine wpIn_seq ?_
    refine wpIn_seq ?_
    refine wpIn_wide.2 ?_
    generalize hX : Exit.then _ _ = X
    refine aiP cfShow_ok (f := 0) (d := 9) R2 (fun p => p.1 = .normal ∧ At3S p.2 m k) (vc_of (B := Exit.normal = .normal ∧ 35 = 35 ∧ some (AV.fn bK [.lp 4 0]) = some (.fn bK [.lp 4 0]) ∧ some (AV.lp 0 0) = some (.lp 0 0) ∧ some (AV.lp 1 0) = some (.lp 1 0) ∧ some (AV.lp 2 0) = some (.lp 2 0) ∧ some (AV.lp 3 0) = some (.lp 3 0) ∧
        some (LO.mk (enc kMed m) 25) = some ⟨enc kMed m, 25⟩ ∧ some (LO.mk [.v (.int .i64 k)] 3) = some ⟨[.v (.int .i64 k)], 3⟩ ∧ some (LO.mk [.by_ 64 (List.replicate 64 0)] 27) = some ⟨[.by_ 64 (List.replicate 64 0)], 27⟩ ∧ some (LO.mk [.v (.int .i64 0)] 33) = some ⟨[.v (.int .i64 0)], 33⟩ ∧ some (LO.mk [.sl 1 kDirty m.2] 23) = some ⟨[.sl 1 kDirty m.2], 23⟩ ∧ ([] : List OA) = []) (by kernel_rfl) ⟨rfl, rfl, rfl, rfl, rfl, rfl, rfl, rfl, rfl, rfl, rfl, rfl, rfl⟩) ?_
    rintro e C3 LO3 OW3 s3 a3 W3 R3 ⟨rfl, h3⟩
    subst hX
    refine wpIn_block ?_
    obtain ⟨p, v2, v3, H⟩ := at3 R3 h3 hm
    refine wpIn_rangeFunc_ownH (F := Fence.wide) (n := 5) rfl (by omega) (gf := bK) (lb := #[p]) H.t21 trivial (fun args w => callFunc_run (okc Try.func42 (by kernel_rfl)))
      (back_stops (fun _ => trivial) rfl rfl H.bk W3 H.sub (Nat.le_refl _)) belowK_t (belowK_b (Nat.le_refl _)) (Below.refl _ _) (fun _ => rfl)
      (ShI W3 k) (ShX W3 k (C3.E.id 2) (C3.E.id 3) (C3.E.pre 2) (C3.E.post 2) (C3.E.pre 3) (C3.E.post 3)) ShI.own (fun c => ShX.own c) ⟨Below.refl _ _, by simp⟩ (ShA W3 v3 (.pointer (some ⟨C3.E.id 2, (C3.E.pre 2).length, none⟩)) (.pointer (some ⟨C3.E.id 3, (C3.E.pre 3).length, none⟩))) (fun x a' => ShA.own x a') ?assign ?body ?done ?stop
    case assign =>
      intro l pre x W' K hI hK
      refine wpIn_region ?_
      have hf : ((#[22, 23] : Array Nat).zip (bEnc x)).foldl (fun t (p, v) => t.setIfInBounds p v) a3.tmps = (a3.tmps.setIfInBounds 22 (.int .i64 x.1)).setIfInBounds 23 (.agg ⟨bCells x.2⟩) := by simp [bEnc]
      rw [hf]
      change wpOpsIn _ _ _ _ _ [0, 1] _ _
      refine allocIn (o := _) (t := 53) (cs := [.v (.int .i64 0), .by_ 64 (List.replicate 64 0)]) (fun _ => trivial) rfl rfl rfl (by kernel_rfl) ?_
      intro vs hvs
      obtain ⟨inf, hi, hs⟩ := info53
      have hz := H.size
      have hvs : vs.length = 65 := hvs
      refine storeIn (o := _) (t := 53) (us := bCells x.2) (l := vs) (b := W'.heap.size) (off := 0) (e := 53) (fun _ => trivial) rfl rfl rfl hi ?_ ?_ (by rw [hs, bCells_len]) (by simp) (by rw [hvs, bCells_len]; omega) (bCells_one _) ?_
      · simp [Act.eval, Act.put, Array.getD_eq_getD_getElem?, hz]
      · simp [Act.eval, Act.put, Array.getD_eq_getD_getElem?, hz, Value.cells]
      intro W2 hw
      have hset : setAll vs 0 (bCells x.2) = bCells x.2 := by
        rw [setAll_all _ _ (by simp [hvs, bCells_len]), List.drop_of_length_le (by simp [hvs, bCells_len]), List.append_nil]
      rw [hset] at hw
      have hblk : ∀ j, j < W'.heap.size → W2.heap[j]? = W'.heap[j]? := fun j hj => by
        rw [hw.other j (by omega)]
        show (W'.heap.push _)[j]? = _
        rw [Array.getElem?_push, if_neg (by omega)]
      have hsz : W2.heap.size = W'.heap.size + 1 := by rw [hw.size]; simp
      have hB : ∀ n, n ≤ W'.heap.size → Below n W' W2 := fun n hn => ⟨hw.os, hw.tape, hw.output, by omega, fun j hj => hblk j (by omega)⟩
      refine hK _ W2 ⟨by omega, fun j o _ hj _ => by rw [hblk j (Array.getElem?_eq_some_iff.1 hj).1]; exact hj⟩ (hB _ hI.1.size) ⟨hI.1.trans (hB _ hI.1.size), hI.2⟩ ⟨W'.heap.size, hI.1.size, hw.at_, ?_, rfl, ?_, ?_, ?_, ?_⟩
      · simp [Act.put, hz]
      · simp [Act.put, hz]
      · simp [Act.put, H.t3]
      · simp [Act.put, H.t4]
      · simp [Act.put, H.t5]
    case body =>
      rintro l pre x a' W' hl _ hI ⟨bx, hbx, hcx, hz, hdf, t7, t3, t4, t5⟩ _
      let G1 : GH := fun j => if j = bx ∨ j < W3.heap.size ∧ j ≠ C3.E.id 2 ∧ j ≠ C3.E.id 3 then W'.heap[j]? else none
      have hs1 : SubH G1 W' := fun j o hj => by
        have hj : (if _ then _ else _) = _ := hj
        split at hj
        · exact hj
        · cases hj
      have hp3 : PAt G1 v3 [.int .i64 k] := PAt.mono H.p3 fun j o hj => by
        have hj : (if _ then _ else _) = _ := hj
        split at hj
        · cases hj
        · rename_i hne
          have hlt := (Array.getElem?_eq_some_iff.1 hj).1
          show (if _ then _ else _) = _
          rw [if_pos (.inr ⟨hlt, fun e => hne (.inl e), fun e => hne (.inr e)⟩), hI.1.block j hlt]
          exact hj
      have hfx : Rep (cxG W' G1) (.fp 1 kDirty (x.2.1, fit x.2.2) 0) (pB bx) := by
        simp only [Rep]
        refine ⟨bCells x.2, ⟨[.int .i64 x.2.1], bts (fit x.2.2), rfl, rfl, fit_len _, rfl⟩, _, rfl, rfl, bCells x.2, 53, (0, 0), ?_, by simp⟩
        show (if _ then _ else _) = _
        rw [if_pos (.inl rfl)]; exact hcx
      have hf3 : Rep (cxG W' G1) (.fp 1 kInt k 0) v3 := by
        simp only [Rep]
        exact ⟨[.int .i64 k], rfl, hp3⟩
      have R4 := relG hs1 hz hdf (tm := [(7, .fp 1 kDirty (x.2.1, fit x.2.2) 0), (3, .fp 1 kInt k 0), (4, .v (.pointer (some ⟨C3.E.id 2, (C3.E.pre 2).length, none⟩))), (5, .v (.pointer (some ⟨C3.E.id 3, (C3.E.pre 3).length, none⟩)))])
        (.cons t7 hfx (.cons t3 hf3 (.cons t4 (by simp [Rep]) (.cons t5 (by simp [Rep]) .nil))))
      refine wpIn_block (wpIn_seq (wpIn_region ?_))
      refine quiet0 (l := [0, 1, 2, 3]) (r := []) (fun _ => trivial) rfl R4 [true, true, true, true] (by kernel_rfl) (by simp) ?_
      intro a5 R5
      obtain ⟨v27, e27, r27⟩ := R5.tm 27 (.v (.bool (x.2.1 == k))) (by kernel_rfl)
      have c27 : a5.eval (.tmp 27) = .bool (x.2.1 == k) := by simp [Act.eval, Array.getD_eq_getD_getElem?, e27, vOf r27]
      refine wpIn_cond_split c27 (fun h => ?_) (fun h => ?_)
      · refine wpIn_seq (wpIn_region ?_)
        refine quiet0 (l := [0, 1]) (r := [2, 3]) (fun _ => trivial) rfl R5 [true, true] (by kernel_rfl) (by simp) ?_
        intro a6 R6
        obtain ⟨v29, e29, r29⟩ := R6.tm 29 (.ag [.by_ 64 (fit x.2.2)]) (by kernel_rfl)
        obtain ⟨u4, f4, q4⟩ := R6.tm 4 (.v (.pointer (some ⟨C3.E.id 2, (C3.E.pre 2).length, none⟩))) (by kernel_rfl)
        obtain ⟨u5, f5, q5⟩ := R6.tm 5 (.v (.pointer (some ⟨C3.E.id 3, (C3.E.pre 3).length, none⟩))) (by kernel_rfl)
        have c29 : v29 = .agg ⟨bts (fit x.2.2)⟩ := by
          simp only [Rep, RepC] at r29
          obtain ⟨vs, rfl, us, _, rfl, rfl⟩ := r29
          rw [List.append_nil]
        obtain ⟨x4, hx4, hc4⟩ := H.c4
        obtain ⟨x5, hc5⟩ := H.c5
        have hl4 := (Array.getElem?_eq_some_iff.1 hc4).1
        have hl5 := (Array.getElem?_eq_some_iff.1 hc5).1
        obtain ⟨i27, hi27, hs27⟩ := info27
        obtain ⟨i33, hi33, hs33⟩ := info33
        have hb64 : (bts (fit x.2.2)).length = 64 := by simp [bts, fit_len]
        refine storeIn (o := _) (t := 27) (us := bts (fit x.2.2)) (l := C3.E.pre 2 ++ x4 ++ C3.E.post 2) (b := C3.E.id 2) (off := (C3.E.pre 2).length) (e := 27) (fun _ => trivial) rfl rfl rfl hi27 ?_ ?_ (by rw [hs27, hb64]) (by rw [hI.1.block _ hl4]; exact hc4) (by simp [hx4, hb64]) (fun u hu => (by obtain ⟨z, _, rfl⟩ := List.mem_map.1 hu; rfl)) ?_
        · simp [Act.eval, Array.getD_eq_getD_getElem?, f4, vOf q4]
        · simp [Act.eval, Array.getD_eq_getD_getElem?, e29, c29, Value.cells]
        intro W5 hw5
        have hne : C3.E.id 3 ≠ C3.E.id 2 := fun e => H.h45 e.symm
        refine storeIn (o := _) (t := 33) (us := [.int .i64 0]) (l := C3.E.pre 3 ++ [x5] ++ C3.E.post 3) (b := C3.E.id 3) (off := (C3.E.pre 3).length) (e := 33) (fun _ => trivial) rfl rfl rfl hi33 ?_ ?_ (by rw [hs33]; rfl) (by rw [hw5.other _ hne, hI.1.block _ hl5]; exact hc5) (by simp) (by simp [oneC]) ?_
        · simp [Act.eval, Act.put, Array.getD_eq_getD_getElem?, f5, vOf q5]
        · rfl
        intro W6 hw6
        refine wpIn_ret ?_
        have s4 : setAll (C3.E.pre 2 ++ x4 ++ C3.E.post 2) (C3.E.pre 2).length (bts (fit x.2.2)) = C3.E.pre 2 ++ bts (fit x.2.2) ++ C3.E.post 2 := by
          have := setAll_mid (C3.E.pre 2) (C3.E.post 2) (bts (fit x.2.2)) x4 0 (by omega)
          rw [Nat.add_zero] at this
          rw [this, setAll_all _ _ (by omega), List.drop_of_length_le (by omega), List.append_nil]
        have s5 : setAll (C3.E.pre 3 ++ [x5] ++ C3.E.post 3) (C3.E.pre 3).length [.int .i64 0] = C3.E.pre 3 ++ [.int .i64 0] ++ C3.E.post 3 := by
          have := setAll_mid (C3.E.pre 3) (C3.E.post 3) [.int .i64 0] [x5] 0 (by simp)
          rw [Nat.add_zero] at this
          rw [this, setAll_all _ _ (by simp)]; rfl
        rw [s4] at hw5
        rw [s5] at hw6
        have hoth : ∀ j, j ≠ C3.E.id 2 → j ≠ C3.E.id 3 → W6.heap[j]? = W'.heap[j]? := fun j n4 n5 => (hw6.other j n5).trans (hw5.other j n4)
        refine ⟨⟨by rw [hw6.size, hw5.size]; exact Nat.le_refl _, fun j o hj ho _ => ?_⟩, rfl, x, pre, rfl, by simpa using h, hI.2, ⟨hw6.os.trans (hw5.os.trans hI.1.os), hw6.tape.trans (hw5.tape.trans hI.1.tape), hw6.output.trans (hw5.output.trans hI.1.output), by rw [hw6.size, hw5.size]; exact hI.1.size⟩, fun j hj n4 n5 => (hoth j n4 n5).trans (hI.1.block j hj), ?_, hw6.at_⟩
        · rw [hoth j (by omega) (by omega)]; exact ho
        · rw [hw6.other _ H.h45]; exact hw5.at_
      · refine wpIn_skip ?_
        refine ⟨KeepsFrom.refl _ _, Below.refl _ _, hI.1, fun y hy => ?_⟩
        rcases List.mem_append.1 hy with hy | hy
        · exact hI.2 y hy
        · simp at hy; subst hy; simpa using h
    case done =>
      rintro D ys W' hD rfl hI hKD
      have hd := show_none hm hk hI.2
      have hkt : 0 ≤ k ∧ k < m.1.length := by simpa [thereS] using hk
      have hs1 : SubH (fun j => if j = C3.E.id 2 ∨ j = C3.E.id 3 then none else W3.heap[j]?) W' := fun j o hj => by
        rw [hI.1.block j (H.bk.lt j o hj)]; exact H.sub j o hj
      have R4 := relG hs1 (a := ⟨a3.tmps, []⟩) H.size rfl (tm := [(2, .fp 1 kMed m 0), (3, .fp 1 kInt k 0), (4, .v (.pointer (some ⟨C3.E.id 2, (C3.E.pre 2).length, none⟩))), (5, .v (.pointer (some ⟨C3.E.id 3, (C3.E.pre 3).length, none⟩)))])
        (.cons H.t2 (H.p2 W') (.cons H.t3 (by simp only [Rep]; exact ⟨[.int .i64 k], rfl, H.p3⟩) (.cons H.t4 (by simp [Rep]) (.cons H.t5 (by simp [Rep]) .nil))))
      refine (show Code.wpIn _ _ _ (Code.seq _ _) _ _ _ from wpIn_seq (wpIn_region ?_))
      refine quietAll (ds := { target := .collected D, args := #[] } :: a3.defers) (l := [0, 1, 2, 3, 4]) (r := [5, 6]) (fun _ => trivial) rfl _ rfl R4 [true, true, true, decide (0 ≤ k) && decide (k < m.1.length), true] (by kernel_rfl) (by simp [hkt]) ?_
      intro a6 R6
      obtain ⟨v34, e34, r34⟩ := R6.tm 34 (.ag [.by_ 64 (m.1.getD k.toNat (List.replicate 64 0))]) (by kernel_rfl)
      obtain ⟨u4, f4, q4⟩ := R6.tm 4 (.v (.pointer (some ⟨C3.E.id 2, (C3.E.pre 2).length, none⟩))) (by kernel_rfl)
      obtain ⟨u5, f5, q5⟩ := R6.tm 5 (.v (.pointer (some ⟨C3.E.id 3, (C3.E.pre 3).length, none⟩))) (by kernel_rfl)
      have c34 : v34 = .agg ⟨bts (m.1.getD k.toNat (List.replicate 64 0))⟩ ∧ (m.1.getD k.toNat (List.replicate 64 0)).length = 64 := by
        simp only [Rep, RepC] at r34
        obtain ⟨vs, rfl, us, hl, rfl, rfl⟩ := r34
        rw [List.append_nil]; exact ⟨rfl, hl⟩
      obtain ⟨x4, hx4, hc4⟩ := H.c4
      obtain ⟨x5, hc5⟩ := H.c5
      have hl4 := (Array.getElem?_eq_some_iff.1 hc4).1
      have hl5 := (Array.getElem?_eq_some_iff.1 hc5).1
      obtain ⟨i27, hi27, hs27⟩ := info27
      obtain ⟨i33, hi33, hs33⟩ := info33
      have hb64 : (bts (m.1.getD k.toNat (List.replicate 64 0))).length = 64 := by rw [bts, List.length_map]; exact c34.2
      refine storeIn (o := _) (t := 27) (us := bts (m.1.getD k.toNat (List.replicate 64 0))) (l := C3.E.pre 2 ++ x4 ++ C3.E.post 2) (b := C3.E.id 2) (off := (C3.E.pre 2).length) (e := 27) (fun _ => trivial) rfl rfl rfl hi27 ?_ ?_ (by rw [hs27, hb64]) (by rw [hI.1.block _ hl4]; exact hc4) (by rw [hb64, List.length_append, List.length_append, hx4]; omega) (fun u hu => (by obtain ⟨z, _, rfl⟩ := List.mem_map.1 hu; rfl)) ?_
      · simp [Act.eval, Array.getD_eq_getD_getElem?, f4, vOf q4]
      · simp [Act.eval, Array.getD_eq_getD_getElem?, e34, c34.1, Value.cells]
      intro W5 hw5
      rw [set_whole (by omega)] at hw5
      have hne : C3.E.id 3 ≠ C3.E.id 2 := fun e => H.h45 e.symm
      refine storeIn (o := _) (t := 33) (us := [.int .i64 0]) (l := C3.E.pre 3 ++ [x5] ++ C3.E.post 3) (b := C3.E.id 3) (off := (C3.E.pre 3).length) (e := 33) (fun _ => trivial) rfl rfl rfl hi33 ?_ ?_ (by rw [hs33]; rfl) (by rw [hw5.other _ hne, hI.1.block _ hl5]; exact hc5) (by simp) (by simp [oneC]) ?_
      · simp [Act.eval, Act.put, Array.getD_eq_getD_getElem?, f5, vOf q5]
      · rfl
      intro W6 hw6
      rw [set_whole (by simp)] at hw6
      have hKD6 : W6.heap[D]? = some (.deferred (some [])) := by rw [hw6.other D (by omega), hw5.other D (by omega)]; exact hKD
      obtain ⟨q1, v, q2, q3⟩ := show_fin R3 h3 H (Wf := W6.putObj D (.deferred none)) (d := m.1.getD k.toNat (List.replicate 64 0)) c34.2 (hw6.os.trans (hw5.os.trans hI.1.os)) (hw6.tape.trans (hw5.tape.trans hI.1.tape)) (hw6.output.trans (hw5.output.trans hI.1.output)) (by simp [hw6.size, hw5.size]; exact hI.1.size)
        (fun j hj n4 n5 => by rw [World.putObj_heap_other (by omega), hw6.other j n5, hw5.other j n4]; exact hI.1.block j hj)
        (by rw [World.putObj_heap_other (by omega), hw6.other _ H.h45]; exact hw5.at_) (by rw [World.putObj_heap_other (by omega)]; exact hw6.at_) hd
      refine wpIn_ret ?_
      refine (show LeavesInM _ _ _ _ _ _ _ _ _ from ?_)
      rw [H.df]
      refine ⟨by simp, .inl ⟨_, _, rfl, run_takeDeferred hKD6, v, ?_, q3⟩⟩
      rw [← q2, res_eq (t1 := a3.tmps) (t2 := a6.tmps)]
      · rfl
      · simp [Array.getD_eq_getD_getElem?, f4, vOf q4, H.t4]
      · simp [Array.getD_eq_getD_getElem?, f5, vOf q5, H.t5]
    case stop =>
      rintro D c pre W' hD ⟨kk, hkk, rfl⟩ ⟨rfl, x, pre', hpre, hxk, hne, hos, hoth, h4, h5⟩ hKD
      have hd : (fit x.2.2, (0 : Int)) = showS m k := show_last H.bk hm hk hkk hpre hxk hne
      obtain ⟨q1, v, q2, q3⟩ := show_fin R3 h3 H (Wf := W'.putObj D (.deferred none)) (d := fit x.2.2) (fit_len _) hos.1 hos.2.1 hos.2.2.1 (by simpa using hos.2.2.2) (fun j hj n4 n5 => by rw [World.putObj_heap_other (by omega)]; exact hoth j hj n4 n5)
        (by rw [World.putObj_heap_other (by have := (Array.getElem?_eq_some_iff.1 H.c4.choose_spec.2).1; omega)]; exact h4) (by rw [World.putObj_heap_other (by have := (Array.getElem?_eq_some_iff.1 H.c5.choose_spec).1; omega)]; exact h5) hd
      refine wpIn_ret ?_
      refine (show LeavesInM _ _ _ _ _ _ _ _ _ from ?_)
      rw [q1]
      exact ⟨by simp, .inl ⟨_, _, rfl, run_takeDeferred hKD, v, q2, q3⟩⟩
  · rintro e C2 LO2 OW2 s2 a2 W2 hne R2 ⟨rfl, hy⟩
    obtain ⟨h1, v, h2, h3⟩ := fin_ok (ct := cShow) (x := (m, k)) R2 hy
    show LeavesInM _ _ _ _ _ _ _ _ _
    rw [h1]
    exact ⟨v, h2, h3⟩
end Go.Proofs.Ytoiacgfhjikddaa
