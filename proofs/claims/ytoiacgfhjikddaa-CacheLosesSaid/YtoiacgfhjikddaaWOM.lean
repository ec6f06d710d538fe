/- The interpreter is right: maps, and what goes over them. -/
import Derived.Test.YtoiacgfhjikddaaWN
set_option linter.unusedSimpArgs false
set_option linter.unusedVariables false
namespace Go.Proofs.Ytoiacgfhjikddaa.W
open Go.RowKit Vc

section
variable {C C' : Cx} {B : Base} {s : AS} {a : Act} {W W' : World} {P : Program} {LO : List Vc.Loc} {OW : List OwnV} {sus : List Act} {o : Oper} {Rt : Type} {Q : Rt → Prop} {kk : AS → T Rt}

theorem Rel.addOwn {E : Env} {n : Nat} {G : GH} {N : Nat} {ow : List OwnV} (R : Rel B E ⟨n, [], LO, OW⟩ G a W) (hN : B.n0 ≤ N) (hnew : ∀ o ∈ ow, OwnW W N o) (hhid : ∀ o ∈ ow, ∀ b, blk o.v = some b → G b = none) (hap : ow.Pairwise fun o o' => ∀ b, blk o.v = some b → blk o'.v ≠ some b)
    (hlo : ∀ i, i < LO.length → E.id i < N) (how : ∀ o ∈ OW, ∀ b, blk o.v = some b → b < N) : Rel B E ⟨n, [], LO, OW ++ ow⟩ G a W :=
  { R with
    size := R.size, df := R.df, tm := R.tm, ml := R.ml, lo := R.lo, hid := R.hid, inj := R.inj, own := R.own
    ows := by
      refine ⟨fun o ho => ?_, fun o ho b hb => ?_, fun o ho b hb i hi => ?_, List.pairwise_append.2 ⟨R.ows.apart, hap, fun o ho o' ho' b hb hb' => ?_⟩⟩
      · rcases List.mem_append.1 ho with h | h
        · exact R.ows.at_ o h
        · exact (hnew o h).of hN fun _ _ => rfl
      · rcases List.mem_append.1 ho with h | h
        · exact R.ows.hid o h b hb
        · exact hhid o h b hb
      · rcases List.mem_append.1 ho with h | h
        · exact R.ows.loc o h b hb i hi
        · have := hlo i hi; have := ((hnew o h).lt hb).2; omega
      · have := how o ho b hb; have := ((hnew o' ho').lt hb').2; omega }

theorem Rel.push {E : Env} {st : St} {G : GH} (R : Rel B E st G a W) (ob : Obj) : Rel B E st G a { W with heap := W.heap.push ob } := by
  have hp : ∀ k, k < W.heap.size → (W.heap.push ob)[k]? = W.heap[k]? := fun k hk => by rw [Array.getElem?_push, if_neg (by omega)]
  exact R.grew ⟨fun k hk _ => hp k hk, fun _ _ h => h, fun k o h => view_push W ob k o (R.sub k o h), fun k hk => rfl, fun k hk => hp k (Nat.lt_of_lt_of_le hk R.sz), rfl, rfl, rfl, by simp⟩
theorem RelA.push (R : RelA B C LO OW s a sus W) (ob : Obj) : RelA B C LO OW s a sus { W with heap := W.heap.push ob } := ⟨Rel.push R.rel ob, R.m0, R.N, R.M, R.gb, R.hh, R.tm, R.fr, R.lo, R.ow⟩
/-- Something new, that is no slice. -/
theorem RelA.newObj (R : RelA B C LO OW s a sus W) (ob : Obj) {k : K} {l : List (El k)} {e : Nat} {O : OwnV} (hO : OwnW { W with heap := W.heap.push ob } W.heap.size O) (hb : blk O.v = some W.heap.size) (hv : oneC O.v = true) (he : ERel C e O.e) (hw : O.w = wd k) (hn : O.n = l.length) (pc : PC C k l O.l) :
    ∃ C', RelA B C' LO (OW ++ [O]) (s.fresh e k l) a sus { W with heap := W.heap.push ob } ∧ Rep C' (.ov s.nx) O.v := by
  have R1 := R.push ob
  have R2 : Rel B C.E ⟨s.n, [], LO, OW ++ [O]⟩ C.G a { W with heap := W.heap.push ob } := by
    refine Rel.addOwn R1.rel R.rel.sz (fun o ho => by rw [List.mem_singleton.1 ho]; exact hO) (fun o ho b hb' => ?_) (List.pairwise_singleton _ _) (fun i hi => R.rel.lt hi) fun o ho b hb' => ((R.rel.ows.at_ o ho).lt hb').1
    rw [List.mem_singleton.1 ho, hb] at hb'; cases hb'
    cases hg : C.G W.heap.size with
    | none => rfl
    | some x => have := (Array.getElem?_eq_some_iff.1 (R.rel.sub _ _ hg)).1; omega
  let C' : Cx := { C with M := C.M + 1, hd := fun j => if j = C.M then O.v else C.hd j, ln := fun j => if j = C.M then l.length else C.ln j, wo := fun j => if j = C.M then wd k else C.wo j }
  have hle : CLe C C' := ⟨Nat.le_refl _, Nat.le_succ _, fun _ _ => ⟨rfl, rfl⟩, fun j hj => ⟨if_neg (by omega), if_neg (by omega), if_neg (by omega)⟩, GExt.refl _, GExt.refl _⟩
  have hnx : s.nx = C.M := R.M.symm
  refine ⟨C', ⟨R2, R.m0, R.N, by show C.M + 1 = s.nx + 1; omega, R.gb, fun j hj => ?_, R.tm.mono hle, R.fr.mono hle, R.lo.mono hle, ?_⟩, ?_⟩
  · show oneC (if j = C.M then O.v else C.hd j) = true
    by_cases e : j = C.M
    · rw [if_pos e]; exact hv
    · rw [if_neg e]; exact R.hh j (by have : j < C.M + 1 := hj; omega)
  · refine OwR.snoc ?_ (R.ow.mono hle) fun w hw => ?_
    · rw [hnx]
      exact ⟨(if_pos rfl).symm, he.mono hle, hw, hn, fun _ => if_pos rfl, if_pos rfl, Nat.lt_succ_self _, pc.mono hle⟩
    · have := R.ow.lt w hw
      show w.m ≠ s.nx
      omega
  · simp only [Rep]; rw [hnx]; exact ⟨Nat.lt_succ_self _, (if_pos rfl).symm⟩
/-- What is one's own, and no slice, in the state. -/
theorem obj_of (R : RelA B C LO OW s a sus W) {m : Nat} {x : OA} (h : findA s.ow m = some x) : x.m = m ∧ ∃ (i : Nat) (X : OwnV), OW[i]? = some X ∧ OwR1 C x X ∧ OwnW W B.n0 X ∧ (∀ (j : Nat) (z : OA), s.ow[j]? = some z → z.m = m → j = i) := by
  obtain ⟨h1, i, X, h2, h3, h4⟩ := R.ow.get h
  exact ⟨h1, i, X, h2, h4, R.rel.ows.at_ X (List.mem_of_getElem? h2), fun j z hj hz => R.ow.uniq hj h3 (by rw [hz, h1])⟩
/-- What is one's own turns, where it lies. -/
theorem Rel.turned {E : Env} {st : St} {G : GH} (R : Rel B E st G a W) {i b : Nat} {O O' : OwnV} (hi : st.ow[i]? = some O) (hb : blk O.v = some b) (hv : O'.v = O.v) (hW : ∀ k, k ≠ b → W'.heap[k]? = W.heap[k]?) (hsz : W.heap.size ≤ W'.heap.size) (hos : W'.os = W.os) (hta : W'.tape = W.tape) (hou : W'.output = W.output) (hnew : OwnW W' B.n0 O') :
    Rel B E { st with ow := st.ow.set i O' } G a W' := by
  have hm := List.mem_of_getElem? hi
  have hlt := (List.getElem?_eq_some_iff.1 hi).1
  have hoi : st.ow[i] = O := (List.getElem?_eq_some_iff.1 hi).2
  have hg : G b = none := R.ows.hid O hm b hb
  have hn0 := ((R.ows.at_ O hm).lt hb).2
  have hap := List.pairwise_iff_getElem.1 R.ows.apart
  have hne : ∀ j (hj : j < st.ow.length), j ≠ i → blk st.ow[j].v ≠ some b := fun j hj hji hjb => by
    rcases Nat.lt_or_gt_of_ne hji with h | h
    · exact hap j i hj hlt h b hjb (by rw [hoi]; exact hb)
    · exact hap i j hlt hj h b (by rw [hoi]; exact hb) hjb
  have each : ∀ o ∈ st.ow.set i O', o = O' ∨ ∃ (j : Nat) (hj : j < st.ow.length), j ≠ i ∧ o = st.ow[j] := fun o ho => by
    obtain ⟨j, hj⟩ := List.getElem?_of_mem ho
    rw [List.getElem?_set] at hj
    by_cases hij : i = j
    · subst hij; simp [hlt] at hj; exact .inl hj.symm
    · simp [hij] at hj
      have hj' := (List.getElem?_eq_some_iff.1 hj)
      exact .inr ⟨j, hj'.1, Ne.symm hij, hj'.2.symm⟩
  exact { R with
    lo := fun j l hj => by
      rw [hW _ (fun e => by have := R.ows.loc O hm b hb j (List.getElem?_eq_some_iff.1 hj).1; exact this e)]; exact R.lo j l hj
    sub := fun k o hk => by
      rw [hW k (fun e => by rw [e, hg] at hk; cases hk)]; exact R.sub k o hk
    ext := fun k hk hn => by
      rw [hW k (by omega)]; exact R.ext k hk hn
    os := hos.trans R.os
    tape := hta.trans R.tape
    output := hou.trans R.output
    sz := Nat.le_trans R.sz hsz
    ows := by
      refine ⟨fun o ho => ?_, fun o ho k hk => ?_, fun o ho k hk j hj => ?_, List.pairwise_iff_getElem.2 fun j k hj hk hjk c hc => ?_⟩
      · rcases each o ho with rfl | ⟨j, hj, hji, rfl⟩
        · exact hnew
        · exact (R.ows.at_ _ (List.getElem_mem hj)).of (Nat.le_refl _) fun c hc => hW c fun e => hne j hj hji (by rw [← e]; exact hc)
      · rcases each o ho with rfl | ⟨j, hj, hji, rfl⟩
        · rw [hv] at hk; exact R.ows.hid O hm k hk
        · exact R.ows.hid _ (List.getElem_mem hj) k hk
      · rcases each o ho with rfl | ⟨q, hq, hqi, rfl⟩
        · rw [hv] at hk; exact R.ows.loc O hm k hk j hj
        · exact R.ows.loc _ (List.getElem_mem hq) k hk j hj
      · simp only [List.length_set] at hj hk
        rw [List.getElem_set] at hc ⊢
        by_cases h1 : i = j
        · rw [if_pos h1, hv, hb] at hc; cases hc
          rw [if_neg (by omega)]; exact hne k hk (by omega)
        · rw [if_neg h1] at hc
          by_cases h2 : i = k
          · rw [if_pos h2, hv, hb]
            intro e; cases e; exact hne j hj (Ne.symm h1) hc
          · rw [if_neg h2]; exact hap j k hj hk hjk c hc }
theorem RelA.turned (R : RelA B C LO OW s a sus W) {m : Nat} {ob : OA} (ho : findA s.ow m = some ob) {i b : Nat} {X : OwnV} (hX : OW[i]? = some X) (hXr : OwR1 C ob X) (hi : ∀ (j : Nat) (z : OA), s.ow[j]? = some z → z.m = m → j = i) (hm : ob.m = m) (hmk : objMark ≤ ob.e) {lst : List (El ob.k)} {L : List Value}
    (hb : blk X.v = some b) (hW : ∀ k, k ≠ b → W'.heap[k]? = W.heap[k]?) (hsz : W.heap.size ≤ W'.heap.size) (hos : W'.os = W.os) (hta : W'.tape = W.tape) (hou : W'.output = W.output) (hnew : OwnW W' B.n0 ⟨X.v, X.e, X.w, lst.length, L⟩) (pc : PC C ob.k lst L) :
    RelA B C LO (OW.set i ⟨X.v, X.e, X.w, lst.length, L⟩) (s.rewrite m ⟨m, ob.e, ob.k, lst⟩) a sus W' := by
  refine ⟨Rel.turned R.rel (i := i) hX hb rfl hW hsz hos hta hou hnew, R.m0, R.N, R.M, R.gb, R.hh, R.tm, R.fr, R.lo, ?_⟩
  refine OwR.setO (m := m) rfl ?_ (fun x X hx h => h) R.ow ho hi
  exact ⟨by rw [hXr.v, hm], hXr.e, hXr.w, rfl, fun h => absurd hmk (Nat.not_le.2 h), by rw [← hm]; exact hXr.wo, by rw [← hm]; exact hXr.m, pc⟩
end
end Go.Proofs.Ytoiacgfhjikddaa.W
