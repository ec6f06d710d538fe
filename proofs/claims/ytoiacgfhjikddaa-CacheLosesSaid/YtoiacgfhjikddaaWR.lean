/- The interpreter is right, fourteenth part: regions whose operations may come in more than one order. -/
import Derived.Test.YtoiacgfhjikddaaWSW
set_option linter.unusedSimpArgs false
set_option linter.unusedVariables false
namespace Go.Proofs.Ytoiacgfhjikddaa.W
open Go.RowKit Vc

section
variable {C C' : Cx} {B : Base} {s : AS} {a : Act} {W W' : World} {P : Program} {LO : List Vc.Loc} {OW : List OwnV} {sus : List Act} {o : Oper} {Rt : Type} {Q : Rt → Prop} {c : Cf} {ops : Array Oper} {X : Exit → Act → World → Prop} {qs : List Nat}

/-! ### What is done before an operation -/
def Down (ops : Array Oper) (listed : Array Bool) : Prop := ∀ j, listed.getD j false = true → ∀ p ∈ preds ops j, listed.getD p false = true
def Below (ops : Array Oper) (k i : Nat) : Prop := ∀ listed : Array Bool, Down ops listed → (∀ p ∈ preds ops i, listed.getD p false = true) → listed.getD k false = true
theorem join2_mem {k : Nat} : ∀ {l m : List Nat}, k ∈ join2 l m → k ∈ l ∨ k ∈ m
  | [], m, h => .inr h
  | x :: r, m, h => by
    have h : k ∈ join2 r (bif memB x m then m else x :: m) := h
    rcases join2_mem h with h | h
    · exact .inl (List.mem_cons_of_mem _ h)
    · cases hb : memB x m with
      | true => simp only [hb, cond_true] at h; exact .inr h
      | false =>
        simp only [hb, cond_false] at h
        rcases List.mem_cons.1 h with rfl | h
        · exact .inl (by simp)
        · exact .inr h
theorem foldJ_mem {t : Nat → List Nat} {k : Nat} : ∀ {l m : List Nat}, k ∈ l.foldl (fun m j => join2 (t j) m) m → k ∈ m ∨ ∃ j ∈ l, k ∈ t j
  | [], m, h => .inl h
  | x :: r, m, h => by
    rcases foldJ_mem (l := r) h with h | ⟨j, h1, h2⟩
    · rcases join2_mem h with h | h
      · exact .inr ⟨x, by simp, h⟩
      · exact .inl h
    · exact .inr ⟨j, List.mem_cons_of_mem _ h1, h2⟩
theorem cloL_ok : ∀ (n i k : Nat), k ∈ cloL.cloOf (cloL ops n) i → Below ops k i
  | 0, i, k, h => by simp [cloL, cloL.cloOf] at h
  | n + 1, i, k, h => by
    simp only [cloL, cloL.cloOf] at h
    cases hb : Nat.beq n i with
    | false => simp only [hb, cond_false] at h; exact cloL_ok n i k h
    | true =>
      have := Nat.eq_of_beq_eq_true hb; subst this
      simp only [hb, cond_true] at h
      rcases foldJ_mem h with h | ⟨j, h1, h2⟩
      · exact fun listed _ hp => hp k h
      · exact fun listed hd hp => cloL_ok n j k h2 listed hd (hd j (hp j h1))
theorem cloOf_ok {i k : Nat} (h : k ∈ cloOf ops i) : Below ops k i := cloL_ok ops.size i k h

/-! ### States that run ahead -/
def ForeA (P : Program) (ops : Array Oper) (ap : Act) (W : World) (o : Oper) : Prop :=
  (Region.wanted o (yielded ops ap.tmps) = true ∧ ∃ x, YdO P W o ap x ∧ ∀ d, o.dst = some d → d < ap.tmps.size → ap.tmps[d]? = some x) ∨
  (Region.wanted o (yielded ops ap.tmps) = false ∧ ∀ d, o.dst = some d → d < ap.tmps.size → ap.tmps[d]? = some undef)
structure CfgA (B : Base) (P : Program) (ops : Array Oper) (qs : List Nat) (V : List Nat) (s : AS) (listed : Array Bool) (a ap : Act) (sus : List Act) (C : Cx) (LO : List Vc.Loc) (OW : List OwnV) (W : World) : Prop where
  size : listed.size = ops.size
  sub : ∀ i, listed.getD i false = true → i ∈ V
  down : Down ops listed
  vdown : ∀ i ∈ V, ∀ p ∈ preds ops i, p ∈ V
  rel : RelA B C LO OW s ap sus W
  defs : ap.defers = a.defers
  tsz : ap.tmps.size = a.tmps.size
  off : ∀ k, (∀ i o, i ∈ V → listed.getD i false = false → ops[i]? = some o → o.dst ≠ some k) → ap.tmps[k]? = a.tmps[k]?
  fore : ∀ i o, i ∈ V → listed.getD i false = false → ops[i]? = some o → i ∈ qs ∧ ForeA P ops ap W o
structure VirA (B : Base) (P : Program) (ops : Array Oper) (X : Exit → Act → World → Prop) (qs : List Nat) (sus : List Act) (V : List Nat) (s : AS) : Prop where
  run : ∀ fuel listed a ap C LO OW W, unl ops listed ≤ fuel → CfgA B P ops qs V s listed a ap sus C LO OW W → wpAny P .any ops X fuel listed a W
/-- An operation that is not taken at once. -/
def LStepA (B : Base) (P : Program) (ops : Array Oper) (qs : List Nat) (sus : List Act) (V : List Nat) (s : AS) (i : Nat) (K : AS → Prop) : Prop :=
  ∀ C LO OW a W, RelA B C LO OW s a sus W → ∃ o, ops[i]? = some o ∧
    ((Region.wanted o (yielded ops a.tmps) = true ∧ uponV P (fun u W' => ((∀ j ∈ V, j ∈ qs → j ∈ cloOf ops i ∨ freeI ops j = true) ∨ GExt (view W) (view W')) ∧ ∃ C' LO' OW' s', RelA B C' LO' OW' s' (a.put o.dst u) sus W' ∧ K s') ((execOp a.eval o).run P W)) ∨
     (Region.wanted o (yielded ops a.tmps) = false ∧ ∃ s', RelA B C LO OW s' (a.put o.dst undef) sus W ∧ K s'))

theorem okD_spec (h : okD ops qs = true) {i j : Nat} {oi oj : Oper} {d : Nat} (hj : j ∈ qs) (hoi : ops[i]? = some oi) (hoj : ops[j]? = some oj) (hd : oi.dst = some d) (hne : i ≠ j) :
    (d ∈ looks ops oj → i ∈ preds ops j) ∧ oj.dst ≠ some d := by
  simp only [okD, Bool.and_eq_true, List.all_eq_true] at h
  have hi : i < ops.size := (Array.getElem?_eq_some_iff.1 hoi).1
  have := h.2 i (List.mem_range.2 hi) j hj
  simp only [okQ1, hoj, hoi, hd] at this
  simp only [beq_ne (fun e : j = i => hne e.symm), cond_false, Bool.and_eq_true] at this
  refine ⟨fun hm => ?_, fun hd' => ?_⟩
  · have h1 := this.1; rw [memB_iff.2 hm] at h1; simp only [cond_true] at h1; exact memB_iff.1 h1
  · have h2 := this.2; rw [hd'] at h2; simp at h2
theorem VirA.stop (hd1 : okD ops qs = true) {V : List Nat} (hdone : (∀ i, i < ops.size → i ∈ V) → ∀ C LO OW a W, RelA B C LO OW s a sus W → X .normal a W)
    (hl : ∀ i, i < ops.size → i ∉ V → (∀ p ∈ preds ops i, p ∈ V) → LStepA B P ops qs sus V s i fun s' => VirA B P ops X qs sus (i :: V) s') : VirA B P ops X qs sus V s := by
  have hq : okQ ops qs = true := by simp only [okD, Bool.and_eq_true] at hd1; exact hd1.1
  refine ⟨fun fuel => ?_⟩
  induction fuel with
  | zero =>
    intro listed a ap C LO OW W hf G
    have hall : ∀ i, i < ops.size → listed.getD i false = true := by
      intro i hi
      cases h : listed.getD i false with
      | true => rfl
      | false => have := unl_lt G.size hi h; omega
    refine ⟨?_, ?_⟩
    · rw [List.eq_nil_iff_forall_not_mem]
      intro i hi
      have := (ready_iff G.size).1 hi
      rw [hall i this.1] at this; cases this.2.1
    · have : ap = a := by
        have := G.defs; have ht : ap.tmps = a.tmps := by
          apply Array.ext_getElem?; intro k
          exact G.off k fun i o _ hn ho => by rw [hall i (Array.getElem?_eq_some_iff.1 ho).1] at hn; cases hn
        cases ap; cases a; simp_all
      rw [← this]; exact hdone (fun i hi => G.sub i (hall i hi)) _ _ _ _ _ G.rel
  | succ fuel ih =>
    intro listed a ap C LO OW W hf G
    refine ⟨fun hr => ?_, fun i hi => ?_⟩
    · have hall := all_listed hq G.size hr
      have : ap = a := by
        have := G.defs; have ht : ap.tmps = a.tmps := by
          apply Array.ext_getElem?; intro k
          exact G.off k fun i o _ hn ho => by rw [hall i (Array.getElem?_eq_some_iff.1 ho).1] at hn; cases hn
        cases ap; cases a; simp_all
      rw [← this]; exact hdone (fun i hi => G.sub i (hall i hi)) _ _ _ _ _ G.rel
    · obtain ⟨hi1, hi2, hi3⟩ := (ready_iff G.size).1 hi
      obtain ⟨o, ho⟩ : ∃ o, ops[i]? = some o := ⟨ops[i], Array.getElem?_eq_getElem hi1⟩
      have hlk : ∀ t ∈ looks ops o, ap.tmps[t]? = a.tmps[t]? := fun t ht => G.off t fun j oj hj hjn hoj hd => by
        obtain ⟨hjq, _⟩ := G.fore j oj hj hjn hoj
        have sp := okQ_spec hq (i := i) hjq hoj ho hd
        by_cases e : i = j
        · subst e; rw [ho] at hoj; simp only [Option.some.injEq] at hoj; subst hoj; exact sp.1 rfl ht
        · have := hi3 j ((sp.2 e).1 ht); rw [this] at hjn; cases hjn
      have hex : execOp a.eval o = execOp ap.eval o := exec_same (ops := ops) (noSel_spec hq ho) fun t ht => (hlk t ht).symm
      have hwa : Region.wanted o (yielded ops a.tmps) = Region.wanted o (yielded ops ap.tmps) := wanted_same fun t ht => (hlk t ht).symm
      have hf' : unl ops (listed.setIfInBounds i true) ≤ fuel := by have := unl_lt G.size hi1 hi2; omega
      have hdown' : Down ops (listed.setIfInBounds i true) := by
        intro j hj p hp
        rw [getD_set (G.size ▸ hi1)] at hj ⊢
        by_cases e : i = j
        · subst e; rw [hi3 p hp]; simp
        · rw [if_neg e] at hj; rw [G.down j hj p hp]; simp
      simp only [wpOp, ho, hwa]
      by_cases hV : i ∈ V
      · obtain ⟨_, hfo⟩ := G.fore i o hV hi2 ho
        have key : ∀ x, (∀ d, o.dst = some d → d < ap.tmps.size → ap.tmps[d]? = some x) → CfgA B P ops qs V s (listed.setIfInBounds i true) (a.put o.dst x) ap sus C LO OW W := by
          intro x hx
          refine { G with size := by simp [G.size], sub := fun j hj => ?_, down := hdown', rel := G.rel, defs := by rw [put_defs]; exact G.defs, tsz := by rw [put_size]; exact G.tsz, off := fun k hk => ?_, fore := fun j oj hj hjn hoj => ?_ }
          · rw [getD_set (G.size ▸ hi1)] at hj
            by_cases e : i = j
            · subst e; exact hV
            · rw [if_neg e] at hj; exact G.sub j hj
          · cases hd : o.dst with
            | none =>
              show ap.tmps[k]? = a.tmps[k]?
              refine G.off k fun j oj hj hjn hoj e => ?_
              by_cases e' : i = j
              · subst e'; rw [ho] at hoj; simp only [Option.some.injEq] at hoj; subst hoj; rw [hd] at e; cases e
              · exact hk j oj hj (by rw [getD_set (G.size ▸ hi1), if_neg e']; exact hjn) hoj e
            | some d =>
              rw [put_at]
              by_cases e : d = k
              · subst e
                rw [if_pos rfl]
                by_cases hlt : d < a.tmps.size
                · rw [if_pos hlt]; exact hx d hd (by rw [G.tsz]; exact hlt)
                · rw [if_neg hlt]; exact Array.getElem?_eq_none (by rw [G.tsz]; exact Nat.le_of_not_lt hlt)
              · rw [if_neg e]
                refine G.off k fun j oj hj hjn hoj e2 => ?_
                by_cases e' : i = j
                · subst e'; rw [ho] at hoj; simp only [Option.some.injEq] at hoj; subst hoj; rw [hd] at e2; simp only [Option.some.injEq] at e2; exact e e2
                · exact hk j oj hj (by rw [getD_set (G.size ▸ hi1), if_neg e']; exact hjn) hoj e2
          · rw [getD_set (G.size ▸ hi1)] at hjn
            by_cases e : i = j
            · rw [if_pos e] at hjn; cases hjn
            · rw [if_neg e] at hjn; exact G.fore j oj hj hjn hoj
        rcases hfo with ⟨hw, x, hr, hx⟩ | ⟨hw, hx⟩
        · rw [if_pos hw]
          left
          unfold Oper.wp
          rw [hex, hr W (.inr (GExt.refl _))]
          exact ih _ _ ap C LO OW W hf' (key x hx)
        · rw [if_neg (by rw [hw]; simp)]
          exact ih _ _ ap C LO OW W hf' (key undef hx)
      · obtain ⟨o', ho', hst⟩ := hl i hi1 hV (fun p hp => G.sub p (hi3 p hp)) C LO OW ap W G.rel
        rw [ho] at ho'; simp only [Option.some.injEq] at ho'; subst ho'
        have key : ∀ u C' LO' OW' s' W', ((∀ j ∈ V, j ∈ qs → j ∈ cloOf ops i ∨ freeI ops j = true) ∨ GExt (view W) (view W')) → VirA B P ops X qs sus (i :: V) s' → RelA B C' LO' OW' s' (ap.put o.dst u) sus W' → wpAny P .any ops X fuel (listed.setIfInBounds i true) (a.put o.dst u) W' := by
          intro u C' LO' OW' s' W' hag hvir R'
          refine hvir.run fuel _ _ (ap.put o.dst u) C' LO' OW' W' hf' ?_
          refine ⟨by simp [G.size], fun j hj => ?_, hdown', fun j hj p hp => ?_, R', by rw [put_defs, put_defs]; exact G.defs, by rw [put_size, put_size]; exact G.tsz, fun k hk => ?_, fun j oj hj hjn hoj => ?_⟩
          · rw [getD_set (G.size ▸ hi1)] at hj
            by_cases e : i = j
            · subst e; simp
            · rw [if_neg e] at hj; exact List.mem_cons_of_mem _ (G.sub j hj)
          · rcases List.mem_cons.1 hj with rfl | hj
            · exact List.mem_cons_of_mem _ (G.sub p (hi3 p hp))
            · exact List.mem_cons_of_mem _ (G.vdown j hj p hp)
          · have hk' : ∀ j oj, j ∈ V → listed.getD j false = false → ops[j]? = some oj → oj.dst ≠ some k := fun j oj hj hjn hoj => by
              have : i ≠ j := fun e => hV (e ▸ hj)
              exact hk j oj (List.mem_cons_of_mem _ hj) (by rw [getD_set (G.size ▸ hi1), if_neg this]; exact hjn) hoj
            cases hd : o.dst with
            | none => exact G.off k hk'
            | some d =>
              rw [put_at, put_at, G.tsz]
              by_cases e : d = k
              · simp [e]
              · rw [if_neg e, if_neg e]; exact G.off k hk'
          · rw [getD_set (G.size ▸ hi1)] at hjn
            by_cases e : i = j
            · rw [if_pos e] at hjn; cases hjn
            · rw [if_neg e] at hjn
              have hj' : j ∈ V := by rcases List.mem_cons.1 hj with h | h; exact absurd h.symm e; exact h
              obtain ⟨hjq, hfo⟩ := G.fore j oj hj' hjn hoj
              refine ⟨hjq, ?_⟩
              have hdl : ∀ d, o.dst = some d → d ∉ looks ops oj ∧ oj.dst ≠ some d := fun d hd => by
                have sp := okD_spec hd1 hjq ho hoj hd e
                exact ⟨fun hm => hV (G.vdown j hj' i (sp.1 hm)), sp.2⟩
              have hk : ∀ t ∈ looks ops oj, (ap.put o.dst u).tmps[t]? = ap.tmps[t]? := fun t ht => by
                cases hd : o.dst with
                | none => rfl
                | some d => rw [put_at, if_neg (fun e => (hdl d hd).1 (by rw [e]; exact ht))]
              have hsl : ∀ d, oj.dst = some d → (ap.put o.dst u).tmps[d]? = ap.tmps[d]? := fun d hd => by
                cases hd' : o.dst with
                | none => rfl
                | some d' => rw [put_at, if_neg (fun e => (hdl d' hd').2 (by rw [hd, e]))]
              have hfree : freeO oj.op = true ∨ GExt (view W) (view W') := by
                rcases hag with hag | hag
                · rcases hag j hj' hjq with hc | hc
                  · have := cloOf_ok hc listed G.down hi3
                    rw [this] at hjn; cases hjn
                  · left; simpa [freeI, hoj] using hc
                · exact .inr hag
              rcases hfo with ⟨hw, x, hr, hx⟩ | ⟨hw, hx⟩
              · refine .inl ⟨by rw [wanted_same hk]; exact hw, x, fun W2 g => ?_, fun d hd hlt => by rw [hsl d hd]; exact hx d hd (by rwa [put_size] at hlt)⟩
                rw [exec_same (ops := ops) (noSel_spec hq hoj) hk]
                refine hr W2 ?_
                rcases g with g | g
                · exact .inl g
                · rcases hfree with hf | hf
                  · exact .inl hf
                  · exact .inr (hf.trans g)
              · exact .inr ⟨by rw [wanted_same hk]; exact hw, fun d hd hlt => by rw [hsl d hd]; exact hx d hd (by rwa [put_size] at hlt)⟩
        rcases hst with ⟨hw, hu⟩ | ⟨hw, s', R', hK⟩
        · rw [if_pos hw]
          left
          unfold Oper.wp
          rw [hex]
          exact uponV_upon hu fun v w' ⟨hg, C', LO', OW', s', R', hK⟩ => key v C' LO' OW' s' w' hg hK R'
        · rw [if_neg (by rw [hw]; simp)]
          exact key undef C LO OW s' W (.inr (GExt.refl _)) hK R'

/-- A quiet operation is taken at once. -/
theorem VirA.quiet1 (hq : okQ ops qs = true) {V : List Nat} (i : Nat) (hiq : i ∈ qs) (hiV : i ∉ V) (hp : ∀ p ∈ preds ops i, p ∈ V) {o : Oper} (ho : ops[i]? = some o) {z : AV}
    (hv : ∀ C LO OW a W, RelA B C LO OW s a sus W → (Region.wanted o (yielded ops a.tmps) = false ∧ z = .v undef) ∨ (Region.wanted o (yielded ops a.tmps) = true ∧ ∃ x, YdO P W o a x ∧ Rep C z x))
    (k : VirA B P ops X qs sus (i :: V) (s.put o.dst z)) : VirA B P ops X qs sus V s := by
  refine ⟨fun fuel listed a ap C LO OW W hf G => ?_⟩
  have hin : listed.getD i false = false := by
    cases h : listed.getD i false with
    | false => rfl
    | true => exact absurd (G.sub i h) hiV
  obtain ⟨x, hx, hzx⟩ : ∃ x, ((Region.wanted o (yielded ops ap.tmps) = true ∧ YdO P W o ap x) ∨ (Region.wanted o (yielded ops ap.tmps) = false ∧ x = undef)) ∧ Rep C z x := by
    rcases hv C LO OW ap W G.rel with ⟨hw, rfl⟩ | ⟨hw, x, h1, h2⟩
    · exact ⟨undef, .inr ⟨hw, rfl⟩, by simp [Rep]⟩
    · exact ⟨x, .inl ⟨hw, h1⟩, h2⟩
  have hself : ∀ d, o.dst = some d → d ∉ looks ops o := fun d hd => (okQ_spec hq hiq ho ho hd).1 rfl
  have hothers : ∀ j oj d, j ∈ V → ops[j]? = some oj → o.dst = some d → d ∉ looks ops oj ∧ oj.dst ≠ some d := fun j oj d hj hoj hd => by
    have hne : j ≠ i := fun e => hiV (e ▸ hj)
    have sp := (okQ_spec hq hiq ho hoj hd).2 hne
    exact ⟨fun hm => hiV (G.vdown j hj i (sp.1 hm)), sp.2⟩
  have hkeep : ∀ oj, (∀ d, o.dst = some d → d ∉ looks ops oj) → ∀ t ∈ looks ops oj, (ap.put o.dst x).tmps[t]? = ap.tmps[t]? := fun oj hoj t ht => by
    cases hd : o.dst with
    | none => rfl
    | some d =>
      have hne : d ≠ t := fun e => hoj d hd (by rw [e]; exact ht)
      rw [put_at, if_neg hne]
  refine k.run fuel listed a (ap.put o.dst x) C LO OW W hf ?_
  refine ⟨G.size, fun j hj => List.mem_cons_of_mem _ (G.sub j hj), G.down, fun j hj p hp' => ?_, G.rel.put _ hzx, by rw [put_defs]; exact G.defs, by rw [put_size]; exact G.tsz, fun t ht => ?_, fun j oj hj hjn hoj => ?_⟩
  · rcases List.mem_cons.1 hj with rfl | hj
    · exact List.mem_cons_of_mem _ (hp p hp')
    · exact List.mem_cons_of_mem _ (G.vdown j hj p hp')
  · have h1 : ap.tmps[t]? = a.tmps[t]? := G.off t fun j oj hj hjn hoj => ht j oj (List.mem_cons_of_mem _ hj) hjn hoj
    cases hd : o.dst with
    | none => exact h1
    | some d => rw [put_at, if_neg (fun e => ht i o (by simp) hin ho (by rw [hd, e]))]; exact h1
  · by_cases e : j = i
    · subst e; rw [ho] at hoj; simp only [Option.some.injEq] at hoj; subst hoj
      refine ⟨hiq, ?_⟩
      have hk := hkeep o hself
      rcases hx with ⟨hw, hr⟩ | ⟨hw, hu⟩
      · refine .inl ⟨by rw [wanted_same hk]; exact hw, x, fun W2 g => by rw [exec_same (ops := ops) (noSel_spec hq ho) hk]; exact hr W2 g, fun d hd hlt => ?_⟩
        rw [hd, put_at, if_pos rfl, if_pos (by rwa [put_size] at hlt)]
      · refine .inr ⟨by rw [wanted_same hk]; exact hw, fun d hd hlt => ?_⟩
        rw [hd, put_at, if_pos rfl, if_pos (by rwa [put_size] at hlt), hu]
    · have hj' : j ∈ V := by rcases List.mem_cons.1 hj with h | h; exact absurd h e; exact h
      obtain ⟨hjq, hfo⟩ := G.fore j oj hj' hjn hoj
      refine ⟨hjq, ?_⟩
      have hk := hkeep oj fun d hd => (hothers j oj d hj' hoj hd).1
      have hsl : ∀ d, oj.dst = some d → (ap.put o.dst x).tmps[d]? = ap.tmps[d]? := fun d hd => by
        cases hd' : o.dst with
        | none => rfl
        | some d' => rw [put_at, if_neg (fun e => (hothers j oj d' hj' hoj hd').2 (by rw [hd, e]))]
      rcases hfo with ⟨hw, y, hr, hx'⟩ | ⟨hw, hx'⟩
      · exact .inl ⟨by rw [wanted_same hk]; exact hw, y, fun W2 g => by rw [exec_same (ops := ops) (noSel_spec hq hoj) hk]; exact hr W2 g, fun d hd hlt => by rw [hsl d hd]; exact hx' d hd (by rwa [put_size] at hlt)⟩
      · exact .inr ⟨by rw [wanted_same hk]; exact hw, fun d hd hlt => by rw [hsl d hd]; exact hx' d hd (by rwa [put_size] at hlt)⟩
theorem VirA.lit {V : List Nat} {d : Nat} {b t : Bool} (h : s.get d = some (.v (.bool b))) (hb : b = t) (k : VirA B P ops X qs sus V (s.put (some d) (.v (.bool t)))) : VirA B P ops X qs sus V s :=
  ⟨fun fuel listed a ap C LO OW W hf G => k.run fuel listed a ap C LO OW W hf { G with rel := G.rel.lit h hb }⟩

/-! ### The interpreter -/
theorem readyA_of {V : List Nat} : ∀ {l : List Nat} {i : Nat}, i ∈ readyA ops V l ↔ i ∈ l ∧ i ∉ V ∧ ∀ p ∈ preds ops i, p ∈ V
  | [], i => by simp [readyA]
  | x :: r, i => by
    simp only [readyA]
    cases h1 : memB x V with
    | true =>
      simp only [cond_true, readyA_of, List.mem_cons]
      constructor
      · rintro ⟨h, h'⟩; exact ⟨.inr h, h'⟩
      · rintro ⟨rfl | h, h'⟩
        · exact absurd (memB_iff.1 h1) h'.1
        · exact ⟨h, h'⟩
    | false =>
      simp only [cond_false]
      cases h2 : subB (preds ops x) V with
      | true =>
        simp only [cond_true, List.mem_cons, readyA_of]
        constructor
        · rintro (rfl | ⟨h, h'⟩)
          · exact ⟨.inl rfl, (fun h => by rw [memB_iff.2 h] at h1; cases h1), subB_iff.1 h2⟩
          · exact ⟨.inr h, h'⟩
        · rintro ⟨rfl | h, h'⟩
          · exact .inl rfl
          · exact .inr ⟨h, h'⟩
      | false =>
        simp only [cond_false, readyA_of, List.mem_cons]
        constructor
        · rintro ⟨h, h'⟩; exact ⟨.inr h, h'⟩
        · rintro ⟨rfl | h, h'⟩
          · exact absurd (subB_iff.2 h'.2) (by simp [h2])
          · exact ⟨h, h'⟩
theorem nextQ_of : ∀ (l : List Nat) (i : Nat) (o : Oper) (b : Bool) (z : AV), nextQ c ops qs s l = some (i, o, b, z) → i ∈ l ∧ i ∈ qs ∧ ops[i]? = some o ∧ ((wantA ops s o = some true ∧ evQ c.P s o = some (b, z)) ∨ (wantA ops s o = some false ∧ z = .v undef)) := by
  intro l
  induction l with
  | nil => intro i o b z h; cases h
  | cons x r ih =>
    intro i o b z h
    unfold nextQ at h
    cases hm : memB x qs with
    | false =>
      rw [hm, cond_false] at h
      obtain ⟨h1, h2⟩ := ih _ _ _ _ h
      exact ⟨List.mem_cons_of_mem _ h1, h2⟩
    | true =>
      rw [hm, cond_true] at h
      cases ho : ops[x]? with
      | none =>
        rw [ho] at h
        obtain ⟨h1, h2⟩ := ih _ _ _ _ h
        exact ⟨List.mem_cons_of_mem _ h1, h2⟩
      | some o' =>
        rw [ho] at h
        dsimp only at h
        generalize hw : wantA ops s o' = w at h
        cases w with
        | none =>
          obtain ⟨h1, h2⟩ := ih _ _ _ _ h
          exact ⟨List.mem_cons_of_mem _ h1, h2⟩
        | some t =>
          cases t with
          | false =>
            injection h with h; injection h with e1 h; injection h with e2 h; injection h with e3 e4
            subst e1; subst e2; subst e4
            exact ⟨by simp, memB_iff.1 hm, ho, .inr ⟨hw, rfl⟩⟩
          | true =>
            dsimp only at h
            generalize hq : evQ c.P s o' = q at h
            cases q with
            | none =>
              obtain ⟨h1, h2⟩ := ih _ _ _ _ h
              exact ⟨List.mem_cons_of_mem _ h1, h2⟩
            | some p =>
              obtain ⟨b', a'⟩ := p
              injection h with h; injection h with e1 h; injection h with e2 h; injection h with e3 e4
              subst e1; subst e2; subst e3; subst e4
              exact ⟨by simp, memB_iff.1 hm, ho, .inl ⟨hw, hq⟩⟩
theorem allT_of {f : Nat → T Rt} : ∀ {l : List Nat}, (allT f l).ok Q → ∀ i ∈ l, (f i).ok Q
  | [x], h, i, hi => by simp only [List.mem_singleton] at hi; subst hi; exact h
  | x :: y :: r, h, i, hi => by
    obtain ⟨h1, h2⟩ : (f x).ok Q ∧ (allT f (y :: r)).ok Q := h
    rcases List.mem_cons.1 hi with rfl | hi
    · exact h1
    · exact allT_of h2 i hi
theorem loudD_ok (hc : CfOK P c) {call : Nat → List AV → AS → (AV → AS → T Rt) → T Rt} (hcall : CallOK P B Q call) {V : List Nat} {i : Nat} {k : AS → T Rt} (h : (loudD c call ops qs V s i k).ok Q) : LStepA B P ops qs sus V s i fun s' => (k s').ok Q := by
  intro C LO OW a W R
  unfold loudD at h
  split at h
  · rename_i o ho
    refine ⟨o, ho, ?_⟩
    split at h
    · rename_i hw
      cases hb : (grows c s o || (V.all fun j => !(memB j qs) || memB j (cloOf ops i) || freeI ops j)) with
      | false => simp only [hb, cond_false] at h; exact h.elim
      | true =>
        simp only [hb, cond_true] at h
        refine .inl ⟨wantA_ok R hw, ?_⟩
        have := evO_ok hc hcall R h
        have conv : ∀ {W' : World}, (grows c s o = true → GExt (view W) (view W')) → ((∀ j ∈ V, j ∈ qs → j ∈ cloOf ops i ∨ freeI ops j = true) ∨ GExt (view W) (view W')) := fun hg => by
          rcases Bool.or_eq_true _ _ ▸ hb with hb | hb
          · exact .inr (hg hb)
          · refine .inl fun j hj hq => ?_
            have := List.all_eq_true.1 hb j hj
            rw [memB_iff.2 hq] at this
            simp only [Bool.not_true, Bool.false_or, Bool.or_eq_true] at this
            exact this.imp memB_iff.1 id
        revert this
        generalize (execOp a.eval o).run P W = r
        intro this
        unfold uponV at this ⊢
        split at this
        · exact ⟨conv this.1, this.2⟩
        · exact ⟨conv this.1, this.2⟩
        · exact Calls.mono this fun e w'' ⟨v, he, h1, h2⟩ => ⟨v, he, conv h1, h2⟩
        · exact this.elim
    · rename_i hw
      exact .inr ⟨wantA_ok R hw, _, R.put o.dst (by simp [Rep]), h⟩
    · exact h.elim
  · exact h.elim
theorem fastQ_of {V L : List Nat} : ∀ (l : List Nat) (i : Nat) (o : Oper) (b : Bool) (z : AV), fastQ c ops qs V L s l = some (i, o, b, z) → i ∈ qs ∧ i ∉ V ∧ (∀ p ∈ preds ops i, p ∈ V) ∧ ops[i]? = some o ∧ ((wantA ops s o = some true ∧ evQ c.P s o = some (b, z)) ∨ (wantA ops s o = some false ∧ b = true ∧ z = .v undef))
  | [], _, _, _, _, h => by cases h
  | j :: r, i, o, b, z, h => by
    simp only [fastQ] at h
    split at h
    · rename_i oj hj
      cases hb : (gfree ops L oj && memB j qs && !memB j V && subB (preds ops j) V) with
      | false => simp only [hb, cond_false] at h; exact fastQ_of r _ _ _ _ h
      | true =>
        simp only [hb, cond_true] at h
        simp only [Bool.and_eq_true, Bool.not_eq_true'] at hb
        obtain ⟨⟨⟨_, hq⟩, hv⟩, hp⟩ := hb
        have facts : j ∈ qs ∧ j ∉ V ∧ ∀ p ∈ preds ops j, p ∈ V := ⟨memB_iff.1 hq, fun e => (by rw [memB_iff.2 e] at hv; cases hv), fun p hpp => subB_iff.1 hp p hpp⟩
        split at h
        · rename_i hw
          split at h
          · rename_i hev
            simp only [Option.some.injEq, Prod.mk.injEq] at h
            obtain ⟨rfl, rfl, rfl, rfl⟩ := h
            exact ⟨facts.1, facts.2.1, facts.2.2, hj, .inl ⟨hw, hev⟩⟩
          · exact fastQ_of r _ _ _ _ h
        · rename_i hw
          simp only [Option.some.injEq, Prod.mk.injEq] at h
          obtain ⟨rfl, rfl, rfl, rfl⟩ := h
          exact ⟨facts.1, facts.2.1, facts.2.2, hj, .inr ⟨hw, rfl, rfl⟩⟩
        · exact fastQ_of r _ _ _ _ h
    · exact fastQ_of r _ _ _ _ h
theorem evD_ok (hc : CfOK P c) {call : Nat → List AV → AS → (AV → AS → T Rt) → T Rt} (hcall : CallOK P B Q call) (hd : okD ops qs = true) {k : AS → T Rt} (hK : ∀ C LO OW s a W, RelA B C LO OW s a sus W → (k s).ok Q → X .normal a W) :
    ∀ (n : Nat) (V L H : List Nat) (s : AS), (evD c call ops qs n V L H s k).ok Q → VirA B P ops X qs sus V s := by
  have hq : okQ ops qs = true := by simp only [okD, Bool.and_eq_true] at hd; exact hd.1
  have fin : ∀ (V : List Nat) (s : AS) (m : Nat), (bif subB (List.range ops.size) V then k s else .stop m).ok Q → VirA B P ops X qs sus V s := fun V s m h => by
    cases hb : subB (List.range ops.size) V with
    | false => simp only [hb, cond_false] at h; exact h.elim
    | true =>
      simp only [hb, cond_true] at h
      exact VirA.stop hd (fun _ C LO OW a W R => hK C LO OW s a W R h) fun i hi hn _ => absurd (subB_iff.1 hb i (List.mem_range.2 hi)) hn
  intro n
  induction n with
  | zero => intro V L H s h; exact fin V s _ h
  | succ n ih =>
    intro V L H s h
    simp only [evD, forceL_eq, forceA_eq] at h
    split at h
    · rename_i i o b z hn
      obtain ⟨e, h⟩ := br_true h (fun h => h)
      obtain ⟨h2, h5, h6, h3, h4⟩ := fastQ_of _ _ _ _ _ hn
      refine VirA.quiet1 hq i h2 h5 h6 h3 (fun C LO OW a W R => ?_) (ih _ _ _ _ h)
      rcases h4 with ⟨hw, hev⟩ | ⟨hw, _, hz⟩
      · rw [hc.prog] at hev
        obtain ⟨v, h7, h8⟩ := evQ_okO R hev e
        exact .inr ⟨wantA_ok R hw, v, h7, h8⟩
      · exact .inl ⟨wantA_ok R hw, hz⟩
    split at h
    · rename_i d hg
      split at h
      · rename_i b hs
        rcases br_split h with ⟨e, h⟩ | ⟨e, h⟩
        · exact VirA.lit hs e (ih _ _ _ _ h)
        · exact VirA.lit hs e (ih _ _ _ _ h)
      · exact ih _ _ _ _ h
    cases hrd : readyA ops V (List.range ops.size) with
    | nil => rw [hrd] at h; exact fin V s _ h
    | cons x0 r0 =>
      rw [hrd] at h
      dsimp only at h
      split at h
      · rename_i d hg
        split at h
        · rename_i b hs
          rcases br_split h with ⟨e, h⟩ | ⟨e, h⟩
          · exact VirA.lit hs e (ih _ _ _ _ h)
          · exact VirA.lit hs e (ih _ _ _ _ h)
        · exact ih _ _ _ _ h
      · split at h
        · rename_i i o b z hn
          obtain ⟨e, h⟩ := br_true h (fun h => h)
          obtain ⟨h1, h2, h3, h4⟩ := nextQ_of _ _ _ _ _ hn
          obtain ⟨_, h5, h6⟩ := readyA_of.1 (by rw [hrd]; exact h1)
          refine VirA.quiet1 hq i h2 h5 h6 h3 (fun C LO OW a W R => ?_) (ih _ _ _ _ h)
          rcases h4 with ⟨hw, hev⟩ | ⟨hw, hz⟩
          · rw [hc.prog] at hev
            obtain ⟨v, h7, h8⟩ := evQ_okO R hev e
            exact .inr ⟨wantA_ok R hw, v, h7, h8⟩
          · exact .inl ⟨wantA_ok R hw, hz⟩
        · refine VirA.stop hd (fun hall => ?_) fun i hi hn hp => ?_
          · exfalso
            have : x0 ∈ readyA ops V (List.range ops.size) := by rw [hrd]; simp
            obtain ⟨h1, h2, _⟩ := readyA_of.1 this
            exact h2 (hall x0 (List.mem_range.1 h1))
          · have hr : i ∈ readyA ops V (List.range ops.size) := readyA_of.2 ⟨List.mem_range.2 hi, hn, hp⟩
            have := loudD_ok (sus := sus) hc hcall (allT_of h i (by rw [← hrd]; exact hr))
            intro C LO OW a W R
            obtain ⟨o, ho, h1⟩ := this C LO OW a W R
            refine ⟨o, ho, ?_⟩
            rcases h1 with ⟨hw, hu⟩ | ⟨hw, s', R', h2⟩
            · refine .inl ⟨hw, ?_⟩
              revert hu
              generalize (execOp a.eval o).run P W = r
              intro hu
              unfold uponV at hu ⊢
              split at hu
              · obtain ⟨h1, C', LO', OW', s', R', h2⟩ := hu; exact ⟨h1, C', LO', OW', s', R', ih _ _ _ _ h2⟩
              · obtain ⟨h1, C', LO', OW', s', R', h2⟩ := hu; exact ⟨h1, C', LO', OW', s', R', ih _ _ _ _ h2⟩
              · exact Calls.mono hu fun e w'' ⟨v, he, h1, C', LO', OW', s', R', h2⟩ => ⟨v, he, h1, C', LO', OW', s', R', ih _ _ _ _ h2⟩
              · exact hu.elim
            · exact .inr ⟨hw, s', R', ih _ _ _ _ h2⟩
/-- A region whose operations may come in more than one order. -/
theorem evR_ok (hc : CfOK P c) {call : Nat → List AV → AS → (AV → AS → T Rt) → T Rt} (hcall : CallOK P B Q call) {k : AS → T Rt} (hK : ∀ C LO OW s a W, RelA B C LO OW s a sus W → (k s).ok Q → X .normal a W) {id : Nat}
    (R : RelA B C LO OW s a sus W) (h : (evR c call ops s k).ok Q) : (Code.region id ops true).wp P X a W := by
  unfold evR at h
  simp only [forceL_eq] at h
  cases hd : okD ops (qsOf c ops) with
  | false => simp only [hd, cond_false] at h; exact h.elim
  | true =>
    simp only [hd, cond_true] at h
    refine wp_region_any hc.mix ((evD_ok hc hcall hd (fun C LO OW s a W R h => by
      obtain ⟨C1, LO1, R1⟩ := canonA_ok (allocD ops) R
      exact hK C1 LO1 OW _ a W R1 h) _ _ _ _ _ h).run ops.size _ a a C LO OW _ (Nat.le_trans List.countP_le_length (by simp)) ⟨by simp, fun i hi => ?_, fun i hi => ?_, fun i hi => (by cases hi), ?_, rfl, rfl, fun _ _ => rfl, fun i o hi => (by cases hi)⟩)
    · simp only [Array.getD_eq_getD_getElem?, Array.getElem?_replicate] at hi; split at hi <;> simp at hi
    · simp only [Array.getD_eq_getD_getElem?, Array.getElem?_replicate] at hi; split at hi <;> simp at hi
    · exact { R with rel := ⟨R.rel.size, R.rel.df, R.rel.tm, R.rel.ml, R.rel.lo, R.rel.hid, R.rel.inj, R.rel.own, R.rel.agr, R.rel.sub, R.rel.old, R.rel.ext, R.rel.os, R.rel.tape, R.rel.output, R.rel.sz, R.rel.ows.of (Nat.le_refl _) (fun _ _ _ _ => rfl) R.rel.ows.hid R.rel.ows.loc⟩ }
end
end Go.Proofs.Ytoiacgfhjikddaa.W
