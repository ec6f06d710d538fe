/- The calculus, eighth part: what a function made and nobody else holds stands in the state; all else that is seen of memory stays as it is. -/
import Derived.Test.YtoiacgfhjikddaaVcMem2
namespace Go.Proofs.Ytoiacgfhjikddaa.Vc
open Go.RowKit

section
variable {B : Base} {E : Env} {st st' : St} {G G' : GH} {a : Act} {W W' : World} {P : Program} {ops : Array Oper} {Q : Post}

/-- All that was made here, as seen. -/
def Owned (G : GH) (N : Nat) : List OwnV → Prop
  | [] => True
  | ⟨v, e, w, n, l⟩ :: r => (e < objMark → Own G N v e w n l) ∧ Owned G N r
theorem Owned.mk' {N : Nat} : ∀ {ow : List OwnV}, (∀ o ∈ ow, o.e < objMark → Own G N o.v o.e o.w o.n o.l) → Owned G N ow
  | [], _ => trivial
  | ⟨v, e, w, n, l⟩ :: r, h => ⟨h ⟨v, e, w, n, l⟩ (by simp), Owned.mk' fun o' ho => h o' (by simp [ho])⟩
theorem Owned.at_ {N : Nat} : ∀ {ow : List OwnV}, Owned G N ow → ∀ o ∈ ow, o.e < objMark → Own G N o.v o.e o.w o.n o.l
  | ⟨v, e, w, n, l⟩ :: r, h, o', ho => by
    rcases List.mem_cons.1 ho with rfl | ho
    · exact h.1
    · exact Owned.at_ h.2 o' ho
theorem Owned.get {N : Nat} {ow : List OwnV} (h : Owned G N ow) {i : Nat} {o : OwnV} (hi : ow[i]? = some o) (he : o.e < objMark) : Own G N o.v o.e o.w o.n o.l := h.at_ o (List.mem_of_getElem? hi) he

open Classical in
/-- What is seen, and what was made. -/
noncomputable def gx (W : World) (ow : List OwnV) (G : GH) : GH := fun k => if ∃ o ∈ ow, blk o.v = some k then W.heap[k]? else G k
theorem gx_own {ow : List OwnV} {k : Nat} (h : ∃ o ∈ ow, blk o.v = some k) : gx W ow G k = W.heap[k]? := by unfold gx; rw [if_pos h]
theorem gx_not {ow : List OwnV} {k : Nat} (h : ¬ ∃ o ∈ ow, blk o.v = some k) : gx W ow G k = G k := by unfold gx; rw [if_neg h]
theorem Own.ofW {N : Nat} {o : OwnV} (h : OwnW W N o) (hg : ∀ b, blk o.v = some b → G b = W.heap[b]?) (he : o.e < objMark) : Own G N o.v o.e o.w o.n o.l := by
  rcases h.2 with ⟨_, h2⟩ | ⟨h1, _⟩
  rotate_left 1
  · exact absurd h1 (Nat.not_le.2 he)
  refine ⟨h.1, h2.imp id ?_⟩
  rintro ⟨b, c, L, h1, h2, h3, h4, r⟩
  exact ⟨b, c, L, h1, h2, h3, by rw [hg b (by rw [h1]; exact blk_some h2)]; exact h4, r⟩
theorem Own.toW {N n w : Nat} {v : Value} {e : TypeId} {l : List Value} (h : Own G N v e w n l) (hs : ∀ k o, G k = some o → W.heap[k]? = some o) (he : e < objMark) : OwnW W N ⟨v, e, w, n, l⟩ :=
  ⟨h.len, .inl ⟨he, h.at_.imp id fun ⟨b, c, L, h1, h2, h3, h4, r⟩ => ⟨b, c, L, h1, h2, h3, hs _ _ h4, r⟩⟩⟩
theorem Rel.gx_ext (R : Rel B E st G a W) : GExt G (gx W st.ow G) := fun k o hk => by
  rw [gx_not]; exact hk
  rintro ⟨o', ho, hb⟩
  rw [R.ows.hid o' ho k hb] at hk; cases hk
theorem Rel.gx_owned (R : Rel B E st G a W) : Owned (gx W st.ow G) B.n0 st.ow := Owned.mk' fun o ho he => Own.ofW (R.ows.at_ o ho) (fun b hb => gx_own ⟨o, ho, hb⟩) he
theorem Rel.gx_sub (R : Rel B E st G a W) : ∀ k o, gx W st.ow G k = some o → W.heap[k]? = some o := fun k o hk => by
  by_cases h : ∃ o ∈ st.ow, blk o.v = some k
  · rwa [gx_own h] at hk
  · rw [gx_not h] at hk; exact R.sub k o hk
theorem Rel.gx_sees (R : Rel B E st G a W) : Sees B (gx W st.ow G) W := ⟨R.gx_sub, R.sees.2⟩
theorem gext_none {G1 G2 : GH} (h : GExt G1 G2) {k : Nat} (hk : G2 k = none) : G1 k = none := by
  cases hg : G1 k with
  | none => rfl
  | some o => rw [h k o hg] at hk; cases hk
theorem Rel.gx_lo (R : Rel B E st G a W) {i : Nat} (hi : i < st.lo.length) : gx W st.ow G (E.id i) = none := by
  rw [gx_not]; exact R.hid i hi
  rintro ⟨o, ho, hb⟩
  exact R.ows.loc o ho _ hb i hi rfl
theorem Rel.g0 (R : Rel B E st G a W) : GExt B.G0 G := fun k o hk => by rw [R.old k (B.h0 k o hk)]; exact hk

/-! ### What changes of one's own -/
section
variable {u v' : Value} {e : TypeId} {w n : Nat} {l : List Value}
theorem made_new (g : Grew B (gx W st.ow G) G' W W') (m : Made B (gx W st.ow G) G' u v' e w n l) {b : Nat} (hb : blk v' = some b) : blk u = some b ∨ (W.heap.size ≤ b ∧ gx W st.ow G b = none) := by
  rcases m.sep with h | h
  · exact .inl (by rw [← h]; exact hb)
  · refine .inr ⟨?_, h b hb⟩
    rcases Nat.lt_or_ge b W.heap.size with hlt | hge
    · obtain ⟨o, ho⟩ := m.own.at_blk hb
      rw [g.hid b hlt (h b hb)] at ho; cases ho
    · exact hge
theorem Rel.made (R : Rel B E st G a W) (he : e < objMark) (g : Grew B (gx W st.ow G) G' W W') (m : Made B (gx W st.ow G) G' u v' e w n l) (hu : ∀ b, blk u = some b → ∃ o ∈ st.ow, o.v = u) {ow : List OwnV}
    (h1 : ∀ o ∈ ow, o = ⟨v', e, w, n, l⟩ ∨ (o ∈ st.ow ∧ ∀ b, blk o.v = some b → blk u ≠ some b)) (h2 : ow.Pairwise fun o o' => ∀ b, blk o.v = some b → blk o'.v ≠ some b) : Rel B E { st with ow := ow } G a W' := by
  have hun : ∀ b, blk u = some b → G b = none ∧ B.n0 ≤ b ∧ ∀ i, i < st.lo.length → E.id i ≠ b := fun b hb => by
    obtain ⟨o, ho, rfl⟩ := hu b hb
    exact ⟨R.ows.hid o ho b hb, ((R.ows.at_ o ho).lt hb).2, R.ows.loc o ho b hb⟩
  have hW : ∀ o ∈ st.ow, (∀ b, blk o.v = some b → blk u ≠ some b) → ∀ b, blk o.v = some b → W'.heap[b]? = W.heap[b]? := fun o ho hap b hb => by
    have hlt := ((R.ows.at_ o ho).lt hb).1
    have e1 : gx W st.ow G b = W.heap[b]? := gx_own ⟨o, ho, hb⟩
    obtain ⟨x, hx⟩ : ∃ x, W.heap[b]? = some x := ⟨W.heap[b], Array.getElem?_eq_getElem hlt⟩
    rw [hx] at e1 ⊢
    exact g.sub _ _ (m.keep b x e1 fun e => hap b hb e.symm)
  exact { R with
    lo := fun i l hi => by
      have hlt := (List.getElem?_eq_some_iff.1 hi).1
      rw [g.keep _ (R.lt hlt) (R.gx_lo hlt)]; exact R.lo i l hi
    sub := fun k o hk => g.sub _ _ (m.keep k o (R.gx_ext k o hk) fun e => by rw [(hun k e.symm).1] at hk; cases hk)
    ext := fun k hk hn => (g.ext k hk).trans (R.ext k hk hn)
    os := g.os.trans R.os
    tape := g.tape.trans R.tape
    output := g.output.trans R.output
    sz := Nat.le_trans R.sz g.size
    ows := by
      refine ⟨fun o ho => ?_, fun o ho b hb => ?_, fun o ho b hb i hi => ?_, h2⟩
      · rcases h1 o ho with rfl | ⟨h, hap⟩
        · exact m.own.toW g.sub he
        · exact (R.ows.at_ o h).of (Nat.le_refl _) (hW o h hap)
      · rcases h1 o ho with rfl | ⟨h, hap⟩
        · rcases made_new g m hb with h | ⟨_, h⟩
          · exact (hun b h).1
          · exact gext_none R.gx_ext h
        · exact R.ows.hid o h b hb
      · rcases h1 o ho with rfl | ⟨h, hap⟩
        · rcases made_new g m hb with h | ⟨h, _⟩
          · exact (hun b h).2.2 i hi
          · have := R.lt hi; omega
        · exact R.ows.loc o h b hb i hi }
theorem Rel.madeSet (R : Rel B E st G a W) (he : e < objMark) {i : Nat} {o : OwnV} (hi : st.ow[i]? = some o) (g : Grew B (gx W st.ow G) G' W W') (m : Made B (gx W st.ow G) G' o.v v' e w n l) : Rel B E { st with ow := st.ow.set i ⟨v', e, w, n, l⟩ } G a W' := by
  have hlt := (List.getElem?_eq_some_iff.1 hi).1
  have hoi : st.ow[i] = o := (List.getElem?_eq_some_iff.1 hi).2
  have hap := List.pairwise_iff_getElem.1 R.ows.apart
  have hap' : ∀ j (hj : j < st.ow.length), j ≠ i → ∀ b, blk st.ow[j].v = some b → blk o.v ≠ some b := fun j hj hne b hb hb' => by
    rcases Nat.lt_or_gt_of_ne hne with h | h
    · exact hap j i hj hlt h b hb (by rw [hoi]; exact hb')
    · exact hap i j hlt hj h b (by rw [hoi]; exact hb') hb
  have hnew : ∀ j (hj : j < st.ow.length), j ≠ i → ∀ b, blk st.ow[j].v = some b → blk v' ≠ some b := fun j hj hne b hb hb' => by
    rcases made_new g m hb' with h | ⟨h, _⟩
    · exact hap' j hj hne b hb h
    · have := ((R.ows.at_ st.ow[j] (List.getElem_mem hj)).lt hb).1; omega
  refine R.made he g m (fun b hb => ⟨o, List.mem_of_getElem? hi, rfl⟩) (fun o' ho' => ?_) (List.pairwise_iff_getElem.2 fun j k hj hk hjk b hb => ?_)
  · obtain ⟨j, hj⟩ := List.getElem?_of_mem ho'
    rw [List.getElem?_set] at hj
    by_cases hij : i = j
    · subst hij; simp [hlt] at hj; exact .inl hj.symm
    · simp [hij] at hj
      have hj' := (List.getElem?_eq_some_iff.1 hj).1
      have e1 : st.ow[j] = o' := (List.getElem?_eq_some_iff.1 hj).2
      exact .inr ⟨List.mem_of_getElem? hj, fun b hb => hap' j hj' (Ne.symm hij) b (by rw [e1]; exact hb)⟩
  · simp only [List.length_set] at hj hk
    rw [List.getElem_set] at hb ⊢
    by_cases h1 : i = j
    · rw [if_pos h1] at hb; rw [if_neg (by omega)]
      intro h; exact hnew k hk (by omega) b h hb
    · rw [if_neg h1] at hb
      by_cases h2 : i = k
      · rw [if_pos h2]; exact hnew j hj (by omega) b hb
      · rw [if_neg h2]; exact hap j k hj hk hjk b hb
theorem Rel.madeNew (R : Rel B E st G a W) (he : e < objMark) (g : Grew B (gx W st.ow G) G' W W') (m : Made B (gx W st.ow G) G' (.slice none 0 0) v' e w n l) : Rel B E { st with ow := st.ow ++ [⟨v', e, w, n, l⟩] } G a W' := by
  refine R.made he g m (fun b hb => by cases hb) (fun o ho => ?_) (List.pairwise_append.2 ⟨R.ows.apart, by simp, fun o ho o' ho' b hb hb' => ?_⟩)
  · rcases List.mem_append.1 ho with h | h
    · exact .inr ⟨h, fun b _ hb => by cases hb⟩
    · exact .inl (by simpa using h)
  · have : o' = ⟨v', e, w, n, l⟩ := by simpa using ho'
    subst this
    rcases made_new g m hb' with h | ⟨h, _⟩
    · cases h
    · have := ((R.ows.at_ o ho).lt hb).1; omega
end
/-- One's own is handed over: nobody writes to it any more. -/
theorem Rel.freeze (R : Rel B E st G a W) {i : Nat} {o : OwnV} (hi : st.ow[i]? = some o) (he : o.e < objMark) : ∃ G', GExt G G' ∧ Own G' B.n0 o.v o.e o.w o.n o.l ∧ Rel B E { st with ow := st.ow.eraseIdx i } G' a W := by
  have hlt := (List.getElem?_eq_some_iff.1 hi).1
  have hoi : st.ow[i] = o := (List.getElem?_eq_some_iff.1 hi).2
  have hm : o ∈ st.ow := List.mem_of_getElem? hi
  have hap := List.pairwise_iff_getElem.1 R.ows.apart
  let G1 : GH := fun k => if blk o.v = some k then W.heap[k]? else G k
  have e1 : ∀ {k}, blk o.v = some k → G1 k = W.heap[k]? := fun h => if_pos h
  have e2 : ∀ {k}, blk o.v ≠ some k → G1 k = G k := fun h => if_neg h
  have g : GExt G G1 := fun k x hk => by
    rw [e2]; exact hk
    intro h; rw [R.ows.hid o hm k h] at hk; cases hk
  refine ⟨G1, g, Own.ofW (R.ows.at_ o hm) (fun b hb => e1 hb) he, { R with hid := fun j hj => ?_, sub := fun k x hk => ?_, old := fun k hk => ?_, ows := ⟨fun o' ho' => R.ows.at_ o' (List.mem_of_mem_eraseIdx ho'), fun o' ho' b hb => ?_, fun o' ho' => R.ows.loc o' (List.mem_of_mem_eraseIdx ho'), R.ows.apart.sublist (List.eraseIdx_sublist _ _)⟩ }⟩
  · rw [e2 (fun h => R.ows.loc o hm _ h j hj rfl)]; exact R.hid j hj
  · by_cases h : blk o.v = some k
    · rw [e1 h] at hk; exact hk
    · rw [e2 h] at hk; exact R.sub k x hk
  · rw [e2 (fun h => by have := ((R.ows.at_ o hm).lt h).2; omega)]; exact R.old k hk
  · rw [List.mem_eraseIdx_iff_getElem] at ho'
    obtain ⟨j, hj, hne, rfl⟩ := ho'
    rw [e2]; exact R.ows.hid _ (List.getElem_mem hj) b hb
    intro h
    rcases Nat.lt_or_gt_of_ne hne with h' | h'
    · exact hap j i hj hlt h' b hb (by rw [hoi]; exact h)
    · exact hap i j hlt hj h' b (by rw [hoi]; exact h) hb
theorem HOp.freeze {p : List Nat × St} (i : Nat) (v : Value) (e w n : Nat) (l : List Value) (hi : p.2.ow[i]? = some ⟨v, e, w, n, l⟩) (he : e < objMark) (k : ∀ G', GExt G G' → Own G' B.n0 v e w n l → HOp B P ops (p.1, { p.2 with ow := p.2.ow.eraseIdx i }) Q G') : HOp B P ops p Q G := by
  refine ⟨fun E a W R => ?_⟩
  obtain ⟨G', g, h, R'⟩ := R.freeze hi he
  exact (k G' g h).run E a W R'
theorem H.freeze {c : Code} (i : Nat) (v : Value) (e w n : Nat) (l : List Value) (hi : st.ow[i]? = some ⟨v, e, w, n, l⟩) (he : e < objMark) (k : ∀ G', GExt G G' → Own G' B.n0 v e w n l → H B P c Q { st with ow := st.ow.eraseIdx i } G') : H B P c Q st G := by
  refine ⟨fun E a W R => ?_⟩
  obtain ⟨G', g, h, R'⟩ := R.freeze hi he
  exact (k G' g h).run E a W R'
theorem VirP.freeze {qs : List Nat} {p : List Nat × St} (i : Nat) (v : Value) (e w n : Nat) (l : List Value) (hi : p.2.ow[i]? = some ⟨v, e, w, n, l⟩) (he : e < objMark) (k : ∀ G', GExt G G' → Own G' B.n0 v e w n l → VirP B P ops Q qs (p.1, { p.2 with ow := p.2.ow.eraseIdx i }) G') : VirP B P ops Q qs p G := by
  refine ⟨⟨fun fuel listed a ap E W hf C => ?_⟩⟩
  obtain ⟨G', g, h, R'⟩ := C.rel.freeze hi he
  exact (k G' g h).run.run fuel listed a ap E W hf { C with rel := R' }
/-- What was made, told in other words. -/
theorem HOp.ow {p : List Nat × St} (ow : List OwnV) (he : p.2.ow = ow) (k : HOp B P ops (p.1, { p.2 with ow := ow }) Q G) : HOp B P ops p Q G := by subst he; exact k
theorem H.ow {c : Code} (ow : List OwnV) (he : st.ow = ow) (k : H B P c Q { st with ow := ow } G) : H B P c Q st G := by subst he; exact k

/-! ### Questions -/
theorem Rd.lift {G1 : GH} {q : MQ} {x : Value} (g : GExt G1 G) (h : Rd P B G1 q x) : Rd P B G q x := ⟨fun W hs => h.run W ⟨fun k o hk => hs.1 k o (g k o hk), hs.2⟩⟩
theorem HOp.rdx {p : List Nat × St} {x : Value} (q : MQ) (s : SV) (h : mqAt P ops p = some q) (hs : s.pl = some x) (hr : ∀ Gx, GExt G Gx → Owned Gx B.n0 p.2.ow → Rd P B Gx q x) (k : HOp B P ops (nxt ops p s) Q G) : HOp B P ops p Q G := by
  unfold mqAt at h
  cases ho : cur ops p with
  | none => simp [ho] at h
  | some o =>
    simp only [ho] at h
    refine ⟨fun E a W R => ?_⟩
    refine wpOps_cur R rfl ho ?_
    unfold Oper.wp
    rw [mq_plain h (mq_nosel h) E a W R, mq_run h ((hr _ R.gx_ext R.gx_owned).run W R.gx_sees)]
    exact k.run E (a.put o.dst x) W (by
      have := R.put o.dst (s := s) (SV.pl_den hs)
      unfold nxt dstOf; rw [ho]; exact this)

/-! ### Steps, in a region of one order or of several -/
/-- The operation that stands next comes to a value, and to what was made. -/
structure Stp (B : Base) (P : Program) (ops : Array Oper) (p : List Nat × St) (G : GH) (K : SV → List OwnV → GH → Prop) : Prop where
  run : ∀ E a W, Rel B E p.2 G a W → ∃ o, cur ops p = some o ∧ uponV P (fun u W' => ∃ E' s ow G', K s ow G' ∧ u = s.den E' ∧ Rel B E' { p.2 with ow := ow } G' a W') ((execOp a.eval o).run P W)
def nxtO (ops : Array Oper) (p : List Nat × St) (ow : List OwnV) (s : SV) : List Nat × St := (p.1.tail, ({ p.2 with ow := ow } : St).put (dstOf ops p) s)
theorem HOp.stp {p : List Nat × St} (h : Stp B P ops p G fun s ow G' => HOp B P ops (nxtO ops p ow s) Q G') : HOp B P ops p Q G := by
  refine ⟨fun E a W R => ?_⟩
  obtain ⟨o, ho, hu⟩ := h.run E a W R
  refine wpOps_cur R rfl ho ?_
  unfold Oper.wp
  refine uponV_upon hu fun v w' ⟨E', s, ow, G', hk, hv, R'⟩ => ?_
  refine hk.run E' _ w' ?_
  have := R'.put o.dst (s := s) hv.symm
  unfold nxtO dstOf; rw [ho]; exact this

theorem Stp.mono {p : List Nat × St} {K K' : SV → List OwnV → GH → Prop} (h : Stp B P ops p G K) (hk : ∀ s ow G', K s ow G' → K' s ow G') : Stp B P ops p G K' := by
  refine ⟨fun E a W R => ?_⟩
  obtain ⟨o, ho, hu⟩ := h.run E a W R
  refine ⟨o, ho, ?_⟩
  unfold uponV at hu ⊢
  split at hu
  · obtain ⟨E', s, ow, G', h1, h2⟩ := hu; exact ⟨E', s, ow, G', hk _ _ _ h1, h2⟩
  · obtain ⟨E', s, ow, G', h1, h2⟩ := hu; exact ⟨E', s, ow, G', hk _ _ _ h1, h2⟩
  · exact Calls.mono hu fun e w'' ⟨v, he, E', s, ow, G', h1, h2⟩ => ⟨v, he, E', s, ow, G', hk _ _ _ h1, h2⟩
  · exact hu.elim
/-- An effect, of which something stays seen. -/
theorem Stp.ef {p : List Nat × St} {K : Value → GH → Prop} (q : EQ) (h : eqAt ops p = some q) (hr : Ef P B G q K) : Stp B P ops p G fun s ow G' => ∃ v, s = .v v ∧ ow = p.2.ow ∧ K v G' := by
  unfold eqAt at h
  cases ho : cur ops p with
  | none => simp [ho] at h
  | some o =>
    simp only [ho] at h
    refine ⟨fun E a W R => ⟨o, ho, ?_⟩⟩
    obtain ⟨v, W', G', hrun, g, hK⟩ := hr.run W R.sees R.sz
    rw [eq_run R h hrun]
    exact ⟨E, .v v, _, G', ⟨v, rfl, rfl, hK⟩, rfl, R.grew g⟩
/-! ### Calls -/
/-- A function that reads what is seen, and whose results are seen behind it. -/
structure FunR (P : Program) (f : Nat) (vs : List Value) (G1 : GH) (K : GH → Value → Prop) : Prop where
  run : ∀ W, (∀ k o, G1 k = some o → W.heap[k]? = some o) → Calls P f ⟨vs⟩ W fun e W' => ∃ v G', e = .returned v ∧ Kept default_env 0 W W' ∧ (∀ k o, G' k = some o → W'.heap[k]? = some o) ∧ GExt G1 G' ∧ (∀ k, k < W.heap.size → G' k = G1 k) ∧ K G' v
/-- A function that makes one thing, which is its caller's. -/
structure FunO (P : Program) (f : Nat) (vs : List Value) (G1 : GH) (g : Value → Value) (e : TypeId) (w n : Nat) (l : List Value) : Prop where
  run : ∀ W, (∀ k o, G1 k = some o → W.heap[k]? = some o) → Calls P f ⟨vs⟩ W fun r W' => ∃ v, r = .returned (g v) ∧ Kept default_env 0 W W' ∧ OwnW W' W.heap.size ⟨v, e, w, n, l⟩
theorem FunR.mono {f : Nat} {vs : List Value} {G1 : GH} {K K' : GH → Value → Prop} (h : FunR P f vs G1 K) (hk : ∀ G' v, GExt G1 G' → K G' v → K' G' v) : FunR P f vs G1 K' :=
  ⟨fun W hW => Calls.mono (h.run W hW) fun _ _ ⟨v, G', h1, h2, h3, h4, h5, h6⟩ => ⟨v, G', h1, h2, h3, h4, h5, hk _ _ h4 h6⟩⟩

theorem callStep {p : List Nat × St} {f : Nat} {vs : List Value} {K : SV → List OwnV → GH → Prop} (h : callV ops p = some (f, vs)) (hk : okCallee P f = true)
    (hF : ∀ E a W, Rel B E p.2 G a W → Calls P f ⟨vs⟩ W fun e W' => ∃ v, e = .returned v ∧ ∃ E' s ow G', K s ow G' ∧ v = s.den E' ∧ Rel B E' { p.2 with ow := ow } G' a W') : Stp B P ops p G K := by
  obtain ⟨as, h1, h2⟩ := callV_spec h
  obtain ⟨o, ho⟩ : ∃ o, cur ops p = some o := by
    unfold callOf at h1
    cases hc : cur ops p with
    | none => simp [hc] at h1
    | some o => exact ⟨o, rfl⟩
  refine ⟨fun E a W R => ⟨o, ho, ?_⟩⟩
  rw [callOf_run R rfl ho h1 hk, SV.pls_den h2]
  exact hF E a W R
theorem Rel.kept (R : Rel B E st G a W) (hk : Kept default_env 0 W W') {G2 : GH} (hs : ∀ k o, G2 k = some o → W'.heap[k]? = some o) (ho : ∀ k, k < W.heap.size → G2 k = G k) : Rel B E st G2 a W' := by
  have hkb : ∀ k, k < W.heap.size → W'.heap[k]? = W.heap[k]? := fun k hk' => hk.block k hk' (fun i hi => by omega)
  exact { R with
    lo := fun i l hi => by
      have hlt := (List.getElem?_eq_some_iff.1 hi).1
      rw [hkb _ (R.lt hlt)]; exact R.lo i l hi
    hid := fun i hi => by rw [ho _ (R.lt hi)]; exact R.hid i hi
    sub := hs
    old := fun k hk' => by rw [ho k (Nat.lt_of_lt_of_le hk' R.sz)]; exact R.old k hk'
    ext := fun k hk' hn => (hkb k (Nat.lt_of_lt_of_le hk' R.sz)).trans (R.ext k hk' hn)
    os := hk.os.trans R.os
    tape := hk.tape.trans R.tape
    output := hk.output.trans R.output
    sz := Nat.le_trans R.sz hk.size
    ows := R.ows.of (Nat.le_refl _) (fun o ho' b hb => hkb b ((R.ows.at_ o ho').lt hb).1) (fun o ho' b hb => by rw [ho b ((R.ows.at_ o ho').lt hb).1]; exact R.ows.hid o ho' b hb) R.ows.loc }
theorem Stp.pureF {p : List Nat × St} {r : Value} (f : Nat) (vs : List Value) (h : callV ops p = some (f, vs)) (hk : okCallee P f = true) (hF : PureF P f vs r) :
    Stp B P ops p G fun s ow G' => s = .v r ∧ ow = p.2.ow ∧ G' = G :=
  callStep h hk fun E a W R => Calls.mono ((hF.run G).run W R.sub) fun e W' ⟨v, G', h1, h2, h3, h4, h5, h6⟩ => ⟨v, h1, E, .v v, _, G, ⟨by rw [h6], rfl, rfl⟩, rfl, R.kept h2 (by rw [← h5]; exact h3) fun _ _ => rfl⟩
theorem Stp.pureG {p : List Nat × St} {r : Value} {G1 : GH} (f : Nat) (vs : List Value) (h : callV ops p = some (f, vs)) (hk : okCallee P f = true) (hs : GExt G1 G) (hF : PureG P f vs G1 r) :
    Stp B P ops p G fun s ow G' => s = .v r ∧ ow = p.2.ow ∧ G' = G :=
  callStep h hk fun E a W R => Calls.mono (hF.run W fun k o hk => R.sub k o (hs k o hk)) fun e W' ⟨h1, h2⟩ => ⟨r, h1, E, .v r, _, G, ⟨rfl, rfl, rfl⟩, rfl, R.kept h2 (fun k o hk => by
    have hlt : k < W.heap.size := (Array.getElem?_eq_some_iff.1 (R.sub k o hk)).1
    rw [h2.block k hlt (fun i hi => by omega)]; exact R.sub k o hk) fun _ _ => rfl⟩
/-- The same where one's own is read too. -/
theorem Stp.pureX {p : List Nat × St} {r : Value} (f : Nat) (vs : List Value) (h : callV ops p = some (f, vs)) (hk : okCallee P f = true) (hF : ∀ Gx, GExt G Gx → Owned Gx B.n0 p.2.ow → PureG P f vs Gx r) :
    Stp B P ops p G fun s ow G' => s = .v r ∧ ow = p.2.ow ∧ G' = G :=
  callStep h hk fun E a W R => Calls.mono ((hF _ R.gx_ext R.gx_owned).run W R.gx_sub) fun e W' ⟨h1, h2⟩ => ⟨r, h1, E, .v r, _, G, ⟨rfl, rfl, rfl⟩, rfl, R.kept h2 (fun k o hk => by
    have hlt : k < W.heap.size := (Array.getElem?_eq_some_iff.1 (R.sub k o hk)).1
    rw [h2.block k hlt (fun i hi => by omega)]; exact R.sub k o hk) fun _ _ => rfl⟩
theorem Stp.funR {p : List Nat × St} {K : GH → Value → Prop} {G1 : GH} (f : Nat) (vs : List Value) (h : callV ops p = some (f, vs)) (hk : okCallee P f = true) (hs : GExt G1 G) (hF : FunR P f vs G1 K) :
    Stp B P ops p G fun s ow G2 => ∃ v G', s = .v v ∧ ow = p.2.ow ∧ GExt G G2 ∧ GExt G' G2 ∧ K G' v := by
  refine callStep h hk fun E a W R => Calls.mono (hF.run W fun k o hk => R.sub k o (hs k o hk)) ?_
  rintro e W' ⟨v, G', rfl, hkept, hsub, hg1, hold, hK⟩
  have hlt : ∀ k o, G k = some o → k < W.heap.size := fun k o hk => (Array.getElem?_eq_some_iff.1 (R.sub k o hk)).1
  let G2 : GH := fun k => if k < W.heap.size then G k else G' k
  have e1 : ∀ {k}, k < W.heap.size → G2 k = G k := fun h => if_pos h
  have e2 : ∀ {k}, ¬ k < W.heap.size → G2 k = G' k := fun h => if_neg h
  refine ⟨v, rfl, E, .v v, _, G2, ⟨v, G', rfl, rfl, fun k o hk => by rw [e1 (hlt k o hk)]; exact hk, fun k o hk => ?_, hK⟩, rfl, R.kept hkept (fun k o hk => ?_) fun k hk => e1 hk⟩
  · by_cases h : k < W.heap.size
    · rw [e1 h]; rw [hold k h] at hk; exact hs k o hk
    · rw [e2 h]; exact hk
  · by_cases h : k < W.heap.size
    · rw [e1 h] at hk; rw [hkept.block k h (fun i hi => by omega)]; exact R.sub k o hk
    · rw [e2 h] at hk; exact hsub k o hk
theorem Stp.funO {p : List Nat × St} {g : Value → Value} {e : TypeId} {w n : Nat} {l : List Value} (f : Nat) (vs : List Value) (h : callV ops p = some (f, vs)) (hk : okCallee P f = true) (hF : ∀ Gx, GExt G Gx → Owned Gx B.n0 p.2.ow → FunO P f vs Gx g e w n l) :
    Stp B P ops p G fun s ow G' => ∃ v, s = .v (g v) ∧ ow = p.2.ow ++ [⟨v, e, w, n, l⟩] ∧ G' = G := by
  refine callStep h hk fun E a W R => Calls.mono ((hF _ R.gx_ext R.gx_owned).run W R.gx_sub) ?_
  rintro r W' ⟨v, rfl, hkept, how⟩
  have R' := R.kept hkept (G2 := G) (fun k o hk => by
    have hlt : k < W.heap.size := (Array.getElem?_eq_some_iff.1 (R.sub k o hk)).1
    rw [hkept.block k hlt (fun i hi => by omega)]; exact R.sub k o hk) fun _ _ => rfl
  refine ⟨_, rfl, E, .v (g v), _, G, ⟨v, rfl, rfl, rfl⟩, rfl, { R' with ows := ⟨fun o ho => ?_, fun o ho b hb => ?_, fun o ho b hb i hi => ?_, List.pairwise_append.2 ⟨R'.ows.apart, by simp, fun o ho o' ho' b hb hb' => ?_⟩⟩ }⟩
  · rcases List.mem_append.1 ho with h | h
    · exact R'.ows.at_ o h
    · have : o = ⟨v, e, w, n, l⟩ := by simpa using h
      subst this; exact how.of R.sz (fun _ _ => rfl)
  · rcases List.mem_append.1 ho with h | h
    · exact R'.ows.hid o h b hb
    · have : o = ⟨v, e, w, n, l⟩ := by simpa using h
      subst this
      cases hg : G b with
      | none => rfl
      | some x => have := (Array.getElem?_eq_some_iff.1 (R.sub b x hg)).1; have := (how.lt hb).2; omega
  · rcases List.mem_append.1 ho with h | h
    · exact R'.ows.loc o h b hb i hi
    · have : o = ⟨v, e, w, n, l⟩ := by simpa using h
      subst this
      have := R.lt hi; have := (how.lt hb).2; omega
  · have : o' = ⟨v, e, w, n, l⟩ := by simpa using ho'
    subst this
    have := ((R.ows.at_ o ho).lt hb).1; have := (how.lt hb').2; omega

/-! ### Bodies -/
def bodyK (P : Program) (fn : Func) (K : GH → Value → Prop) (B : Base) : Post := fun e st G =>
  match e with
  | .normal | .ret => ∃ v, resOk P B fn st G v ∧ ∀ G', GExt G G' → Owned G' B.n0 st.ow → K G' v
  | _ => False
def bodyO (P : Program) (fn : Func) (g : Value → Value) (e : TypeId) (w n : Nat) (l : List Value) (B : Base) : Post := fun x st G =>
  match x with
  | .normal | .ret => ∃ r, resOk P B fn st G r ∧ ((∃ (i : Nat) (v : Value), r = g v ∧ st.ow[i]? = some (OwnV.mk v e w n l)) ∨ (r = g (.slice none 0 0) ∧ n = 0 ∧ l = []))
  | _ => False
theorem ow_at {i n n' : Nat} {v : Value} {e w : Nat} {l l' : List Value} (h : st.ow[i]? = some ⟨v, e, w, n', l'⟩) (hn : n' = n) (hl : l' = l) : st.ow[i]? = some (OwnV.mk v e w n l) := by subst hn; subst hl; exact h
theorem bodyK_end {fn : Func} {K : GH → Value → Prop} (v : Value) (ow : List OwnV) (hr : resOk P B fn st G v) (ho : st.ow = ow) (k : ∀ G', GExt G G' → Owned G' B.n0 ow → K G' v) : ∃ v, resOk P B fn st G v ∧ ∀ G', GExt G G' → Owned G' B.n0 st.ow → K G' v := ⟨v, hr, fun G' g o => k G' g (ho ▸ o)⟩
theorem resOk_of {fn : Func} {s : SV} {v : Value} (h : resOf P fn st = some s) (hp : s.pl = some v) : resOk P B fn st G v := fun E a W R => by
  rw [resOf_run R h, SV.pl_den hp]

theorem body_calls {f : Nat} {fn : Func} {c : Code} {vs : List Value} {K : Value → Prop} {Q : World → World → Ending → Prop} (hf : P.funcs[f]? = some fn) (hb : fn.body = some c) (hn : Nat.ble (vs.map SV.v).length fn.ntmps = true) {R0 : Base → Post}
    (h : ∀ B : Base, B.m0 = 0 → B.G0 = G → H B P c (R0 B) (St0 fn (vs.map .v) []) G)
    (hQ : ∀ (B : Base) E e st G' a W', B.G0 = G → Rel B E st G' a W' → R0 B e st G' → (e = .normal ∨ e = .ret) ∧ ∃ v, (results fn a.tmps).run P W' = .ok v W' ∧ Q B.W0 W' (.returned v)) :
    ∀ W, (∀ k o, G k = some o → W.heap[k]? = some o) → Calls P f ⟨vs⟩ W fun e W' => Q W W' e := by
  intro W hW
  have hn' : (vs.map SV.v).length ≤ fn.ntmps := Nat.le_of_ble_eq_true hn
  refine calls_of_wp hf hb ?_
  let B : Base := ⟨W, G, default_env, 0, fun k o h => (Array.getElem?_eq_some_iff.1 (hW k o h)).1⟩
  have R : Rel B default_env (St0 fn (vs.map .v) []) G { tmps := (⟨vs⟩ : Array Value) ++ Array.replicate (fn.ntmps - (⟨vs⟩ : Array Value).size) undef, defers := [] } W := by
    refine ⟨?_, rfl, ?_, Nat.le_refl _, fun i l hi => by simp [St0] at hi, fun i hi => by simp [St0] at hi, fun i j hi => by simp [St0] at hi, fun i h1 h2 => by simp [St0] at h2, fun i hi => absurd hi (Nat.not_lt_zero _), hW, fun _ _ => rfl, fun _ _ _ => rfl, rfl, rfl, rfl, Nat.le_refl _, Owns.nil⟩
    · simp only [Array.size_append, Array.size_replicate, St0, List.size_toArray, List.length_map] at hn' ⊢; omega
    · intro k s hk
      obtain ⟨_, h2⟩ := initT_get (vs.map .v) 0 hk
      simp only [Nat.sub_zero, List.getElem?_map, Option.map_eq_some_iff] at h2
      obtain ⟨x, hx, rfl⟩ := h2
      have hlt : k < vs.length := (List.getElem?_eq_some_iff.1 hx).1
      rw [Array.getElem?_append_left (by simpa using hlt)]
      simpa [SV.den] using hx
  refine wp_mono ((h B rfl rfl).run default_env _ W R) ?_
  rintro e a' W' ⟨E', st', G', R', hq⟩
  obtain ⟨he, v, hv, hK⟩ := hQ B E' e st' G' a' W' rfl R' hq
  rcases he with rfl | rfl
  · exact ⟨R'.df, v, hv, hK⟩
  · exact ⟨R'.df, v, hv, hK⟩

theorem FunR.body {f : Nat} {fn : Func} {c : Code} {vs : List Value} {K : GH → Value → Prop} (hf : P.funcs[f]? = some fn) (hb : fn.body = some c) (hn : Nat.ble (vs.map SV.v).length fn.ntmps = true)
    (h : ∀ B : Base, B.m0 = 0 → B.G0 = G → H B P c (bodyK P fn K B) (St0 fn (vs.map .v) []) G) : FunR P f vs G K := by
  refine ⟨fun W hW => ?_⟩
  refine Calls.mono (body_calls (K := fun _ => True) (Q := fun W W' e => (∀ k o, G k = some o → k < W.heap.size) → ∃ v G', e = .returned v ∧ Kept default_env 0 W W' ∧ (∀ k o, G' k = some o → W'.heap[k]? = some o) ∧ GExt G G' ∧ (∀ k, k < W.heap.size → G' k = G k) ∧ K G' v) hf hb hn (R0 := fun B e st G' => B.m0 = 0 ∧ bodyK P fn K B e st G')
    (fun B h1 h2 => H.mono (h B h1 h2) fun _ _ _ hq => And.intro h1 hq) (fun B E e st G' a W' h2 R hq => ?_) W hW) fun e W' hq => hq fun k o hk => (Array.getElem?_eq_some_iff.1 (hW k o hk)).1
  obtain ⟨hm, hq⟩ := hq
  have fin : (∃ v, resOk P B fn st G' v ∧ ∀ G'', GExt G' G'' → Owned G'' B.n0 st.ow → K G'' v) → ∃ v, (results fn a.tmps).run P W' = .ok v W' ∧ ((∀ k o, G k = some o → k < B.W0.heap.size) → ∃ v' G'', Ending.returned v = .returned v' ∧ Kept default_env 0 B.W0 W' ∧ (∀ k o, G'' k = some o → W'.heap[k]? = some o) ∧ GExt G G'' ∧ (∀ k, k < B.W0.heap.size → G'' k = G k) ∧ K G'' v') := by
    rintro ⟨v, hv, hk⟩
    have hold : ∀ k, k < B.W0.heap.size → gx W' st.ow G' k = G k := fun k hk' => by
      rw [gx_not, R.old k hk', h2]
      rintro ⟨o, ho, hb'⟩
      have h5 := ((R.ows.at_ o ho).lt hb').2
      have h6 : B.n0 = B.W0.heap.size := rfl
      omega
    refine ⟨v, hv _ _ _ R, fun hG => ⟨v, gx W' st.ow G', rfl, ⟨fun k hk' hn => R.ext k hk' fun i hi => absurd hi (by rw [hm]; exact Nat.not_lt_zero _), R.os, R.tape, R.output, R.sz⟩, R.gx_sub, fun k o hk' => ?_, hold, hk _ R.gx_ext R.gx_owned⟩⟩
    rw [hold k (hG k o hk')]; exact hk'
  cases e with
  | normal => exact ⟨.inl rfl, fin hq⟩
  | ret => exact ⟨.inr rfl, fin hq⟩
  | _ => exact hq.elim
theorem FunO.funR {f : Nat} {vs : List Value} {G1 : GH} {g : Value → Value} {e : TypeId} {w n : Nat} {l : List Value} (h : FunO P f vs G1 g e w n l) (he : e < objMark) : FunR P f vs G1 fun G' r => ∃ v, r = g v ∧ Row G' v w n l := by
  refine ⟨fun W hW => Calls.mono (h.run W hW) ?_⟩
  rintro r W' ⟨v, rfl, hk, ho⟩
  have hlt : ∀ k o, G1 k = some o → k < W.heap.size := fun k o hk' => (Array.getElem?_eq_some_iff.1 (hW k o hk')).1
  let G2 : GH := fun k => if k < W.heap.size then G1 k else W'.heap[k]?
  have e1 : ∀ {k}, k < W.heap.size → G2 k = G1 k := fun h => if_pos h
  have e2 : ∀ {k}, ¬ k < W.heap.size → G2 k = W'.heap[k]? := fun h => if_neg h
  refine ⟨_, G2, rfl, hk, fun k o hk' => ?_, fun k o hk' => by rw [e1 (hlt k o hk')]; exact hk', fun k hk' => e1 hk', v, rfl, (Own.ofW (G := G2) ho (fun b hb => e2 (by have := (ho.lt hb).2; omega)) he).row⟩
  by_cases h : k < W.heap.size
  · rw [e1 h] at hk'; rw [hk.block k h (fun i hi => by omega)]; exact hW k o hk'
  · rw [e2 h] at hk'; exact hk'
theorem FunG.funR {f : Nat} {vs : List Value} {G1 : GH} {K : Nat → GH → Value → Prop} {K' : GH → Value → Prop} (h : FunG P f vs G1 K) (hk : ∀ N G' G2 v, GExt G' G2 → GExt G1 G2 → K N G' v → K' G2 v) : FunR P f vs G1 K' := by
  refine ⟨fun W hW => Calls.mono (h.run W hW) ?_⟩
  rintro r W' ⟨v, G', rfl, hkept, hsub, hnew, hK⟩
  have hlt : ∀ k o, G1 k = some o → k < W.heap.size := fun k o hk' => (Array.getElem?_eq_some_iff.1 (hW k o hk')).1
  let G2 : GH := fun k => if k < W.heap.size then G1 k else G' k
  have e1 : ∀ {k}, k < W.heap.size → G2 k = G1 k := fun h => if_pos h
  have e2 : ∀ {k}, ¬ k < W.heap.size → G2 k = G' k := fun h => if_neg h
  have g1 : GExt G1 G2 := fun k o hk' => by rw [e1 (hlt k o hk')]; exact hk'
  have g2 : GExt G' G2 := fun k o hk' => by
    by_cases h : k < W.heap.size
    · rw [hnew k h] at hk'; cases hk'
    · rw [e2 h]; exact hk'
  refine ⟨v, G2, rfl, hkept, fun k o hk' => ?_, g1, fun k hk' => e1 hk', hk _ _ _ _ g2 g1 hK⟩
  by_cases h : k < W.heap.size
  · rw [e1 h] at hk'; rw [hkept.block k h (fun i hi => by omega)]; exact hW k o hk'
  · rw [e2 h] at hk'; exact hsub k o hk'
theorem PureG.lift {f : Nat} {vs : List Value} {G1 : GH} {r : Value} (g : GExt G1 G) (h : PureG P f vs G1 r) : PureG P f vs G r := ⟨fun W hW => h.run W fun k o hk => hW k o (g k o hk)⟩

/-! ### What is made and stays as it is -/
theorem Made.gext {v' : Value} {e : TypeId} {w n : Nat} {l : List Value} (m : Made B G G' (.slice none 0 0) v' e w n l) : GExt G G' := fun k o hk => m.keep k o hk fun e => by cases e
theorem Own.pat {N w : Nat} {v : Value} {e : TypeId} {l : List Value} (h : Own G N v e w 1 l) : PAt G (ptrAt v w 0) l := by
  have := h.row.ptr (i := 0) (by omega) (by omega)
  rwa [show (0 : Int).toNat * w = 0 by simp, List.drop_zero, List.take_of_length_le (by rw [h.len]; omega)] at this
theorem ef_boxF {t : TypeId} {x : Value} {L : List Value} (hx : x.cells = ⟨L⟩) : Ef P B G (.box t x) fun p G' => GExt G G' ∧ PAt G' p L := by
  refine ⟨fun W hs hsz => ?_⟩
  obtain ⟨v, W', G', h1, h2, v', rfl, m⟩ := (ef_box (P := P) (B := B) (G := G) (t := t) (w := L.length) hx rfl).run W hs hsz
  exact ⟨_, W', G', h1, h2, m.gext, m.own.pat⟩

theorem InOwn.add {v p : Value} {k : Nat} (h : InOwn v p k) (j : Nat) : InOwn v (pAdd p j) (k + j) := by
  obtain ⟨b, n, c, rfl, h0, rfl⟩ := h
  exact ⟨b, n, c, rfl, h0, by simp [pAdd_eq, pAddD, add_none]⟩

end
end Go.Proofs.Ytoiacgfhjikddaa.Vc
