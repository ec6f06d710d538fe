/- The calculus, fifth part: regions whose operations may come in more than one order. Operations that only look are taken at once; all orders of the others are gone through. -/
import Derived.Test.YtoiacgfhjikddaaVcRun
namespace Go.Proofs.Ytoiacgfhjikddaa.Vc
open Go.RowKit

def preds (ops : Array Oper) (j : Nat) : List Nat := match ops[j]? with | some o => (o.after.toList.filter (Region.binds .any)).map (·.on) | none => []
def subB (l V : List Nat) : Bool := l.all fun i => V.any (Nat.beq i)
def memB (i : Nat) (V : List Nat) : Bool := V.any (Nat.beq i)
theorem memB_iff {i : Nat} {V : List Nat} : memB i V = true ↔ i ∈ V := by
  unfold memB; rw [List.any_eq_true]
  constructor
  · rintro ⟨x, hx, h⟩; have := Nat.eq_of_beq_eq_true h; subst this; exact hx
  · intro h; exact ⟨i, h, Nat.beq_refl i⟩
theorem subB_iff {l V : List Nat} : subB l V = true ↔ ∀ i ∈ l, i ∈ V := by
  unfold subB; rw [List.all_eq_true]
  exact ⟨fun h i hi => memB_iff.1 (h i hi), fun h i hi => memB_iff.2 (h i hi)⟩

def looks (ops : Array Oper) (o : Oper) : List Nat :=
  (o.op.operands.toList.filterMap fun | .tmp t => some t | _ => none) ++ (match o.guard with | some (g, _) => (match ops[g]? with | some x => (match x.dst with | some d => [d] | none => []) | none => []) | none => [])
/-- May the quiet operations be taken at once: each writes a slot of its own, that is read behind it alone. -/
def okQ1 (ops : Array Oper) (j i : Nat) : Bool :=
  match ops[j]?, ops[i]? with
  | some oj, some oi =>
    (match oj.dst with
     | none => true
     | some d => bif Nat.beq i j then !(memB d (looks ops oj)) else (bif memB d (looks ops oi) then memB j (preds ops i) else true) && (match oi.dst with | some e => !(Nat.beq d e) | none => true))
  | _, _ => true
def noSel (ops : Array Oper) : Bool := ops.toList.all fun o => !(isSelect o.op)
def edgesBack (ops : Array Oper) : Bool := (List.range ops.size).all fun j => (preds ops j).all fun i => Nat.blt i j
def okQ (ops : Array Oper) (qs : List Nat) : Bool := noSel ops && edgesBack ops && qs.all fun j => (List.range ops.size).all fun i => okQ1 ops j i

section
variable {B : Base} {E : Env} {st st' : St} {G : GH} {a : Act} {W : World} {P : Program} {ops : Array Oper} {Q : Post} {qs : List Nat}

theorem okQ_spec (h : okQ ops qs = true) {j i : Nat} {oj oi : Oper} {d : Nat} (hj : j ∈ qs) (hoj : ops[j]? = some oj) (hoi : ops[i]? = some oi) (hd : oj.dst = some d) :
    (i = j → d ∉ looks ops oj) ∧ (i ≠ j → (d ∈ looks ops oi → j ∈ preds ops i) ∧ oi.dst ≠ some d) := by
  simp only [okQ, Bool.and_eq_true, List.all_eq_true] at h
  have hi : i < ops.size := (Array.getElem?_eq_some_iff.1 hoi).1
  have := h.2 j hj i (List.mem_range.2 hi)
  simp only [okQ1, hoj, hoi, hd] at this
  constructor
  · intro e; subst e
    simp only [Nat.beq_refl, cond_true, Bool.not_eq_true'] at this
    intro hm; rw [memB_iff.2 hm] at this; cases this
  · intro e
    simp only [beq_ne e, cond_false, Bool.and_eq_true] at this
    refine ⟨fun hm => ?_, fun hd' => ?_⟩
    · have h1 := this.1; rw [memB_iff.2 hm] at h1; simp only [cond_true] at h1; exact memB_iff.1 h1
    · have h2 := this.2; rw [hd'] at h2; simp at h2

theorem noSel_spec (h : okQ ops qs = true) {j : Nat} {o : Oper} (ho : ops[j]? = some o) : ∀ cs b, o.op ≠ .select cs b := by
  intro cs b e
  simp only [okQ, Bool.and_eq_true, noSel, List.all_eq_true] at h
  have : o ∈ ops.toList := by
    have := Array.mem_of_getElem? ho; simpa using this
  have := h.1.1 o this
  simp [e, isSelect] at this

theorem eval_same {a b : Act} {x : Operand} (h : ∀ t, x = .tmp t → a.tmps[t]? = b.tmps[t]?) : a.eval x = b.eval x := by
  cases x with
  | tmp t => have := h t rfl; simp [Act.eval, Array.getD_eq_getD_getElem?, this]
  | _ => rfl
theorem exec_same {a b : Act} {o : Oper} (hs : ∀ cs x, o.op ≠ .select cs x) (h : ∀ t ∈ looks ops o, a.tmps[t]? = b.tmps[t]?) : execOp a.eval o = execOp b.eval o :=
  execOp_congr o hs fun x hx => eval_same fun t e => h t (by
    subst e
    exact List.mem_append_left _ (List.mem_filterMap.2 ⟨.tmp t, by simpa using hx, rfl⟩))
theorem wanted_same {a b : Act} {o : Oper} (h : ∀ t ∈ looks ops o, a.tmps[t]? = b.tmps[t]?) : Region.wanted o (yielded ops a.tmps) = Region.wanted o (yielded ops b.tmps) := by
  unfold Region.wanted
  cases hg : o.guard with
  | none => rfl
  | some jw =>
    obtain ⟨j, w⟩ := jw
    have : yielded ops a.tmps j = yielded ops b.tmps j := by
      unfold yielded
      cases hj : ops[j]? with
      | none => rfl
      | some oj =>
        cases hd : oj.dst with
        | none => simp [hd]
        | some d => simp only [Option.bind_some, hd]; rw [h d (List.mem_append_right _ (by simp [hg, hj, hd]))]
    simp only [this]

theorem put_size {d : Option Nat} {v : Value} : (a.put d v).tmps.size = a.tmps.size := by cases d <;> simp [Act.put]
theorem put_defs {d : Option Nat} {v : Value} : (a.put d v).defers = a.defers := by cases d <;> rfl
theorem put_at {d : Nat} {v : Value} {k : Nat} : (a.put (some d) v).tmps[k]? = if d = k then (if d < a.tmps.size then some v else none) else a.tmps[k]? := by
  simp only [Act.put, Array.getElem?_setIfInBounds]

/-- Is a delayed operation as it was foreseen? -/
def Foreseen (P : Program) (ops : Array Oper) (ap : Act) (W : World) (o : Oper) : Prop :=
  (Region.wanted o (yielded ops ap.tmps) = true ∧ ∃ x, (execOp ap.eval o).run P W = .ok (.value x) W ∧ ∀ d, o.dst = some d → d < ap.tmps.size → ap.tmps[d]? = some x) ∨
  (Region.wanted o (yielded ops ap.tmps) = false ∧ ∀ d, o.dst = some d → d < ap.tmps.size → ap.tmps[d]? = some undef)

/-- A state ahead of what was really done: 'V' is done in the state, 'listed' is done in truth. -/
structure Cfg (B : Base) (P : Program) (ops : Array Oper) (qs : List Nat) (V : List Nat) (st : St) (G : GH) (listed : Array Bool) (a ap : Act) (E : Env) (W : World) : Prop where
  size : listed.size = ops.size
  sub : ∀ i, listed.getD i false = true → i ∈ V
  down : ∀ i, listed.getD i false = true → ∀ p ∈ preds ops i, listed.getD p false = true
  vdown : ∀ i ∈ V, ∀ p ∈ preds ops i, p ∈ V
  rel : Rel B E st G ap W
  defs : ap.defers = a.defers
  tsz : ap.tmps.size = a.tmps.size
  off : ∀ k, (∀ i o, i ∈ V → listed.getD i false = false → ops[i]? = some o → o.dst ≠ some k) → ap.tmps[k]? = a.tmps[k]?
  fore : ∀ i o, i ∈ V → listed.getD i false = false → ops[i]? = some o → i ∈ qs ∧ Foreseen P ops ap W o

def unl (ops : Array Oper) (listed : Array Bool) : Nat := (List.range ops.size).countP fun i => !(listed.getD i false)

/-- From a state that runs ahead. -/
structure Vir (B : Base) (P : Program) (ops : Array Oper) (Q : Post) (qs : List Nat) (V : List Nat) (st : St) (G : GH) : Prop where
  run : ∀ fuel listed a ap E W, unl ops listed ≤ fuel → Cfg B P ops qs V st G listed a ap E W → wpAny P .any ops (PostB B Q) fuel listed a W

theorem countP_lt {p q : Nat → Bool} (h : ∀ i, q i = true → p i = true) : ∀ (l : List Nat) (i : Nat), i ∈ l → p i = true → q i = false → l.countP q < l.countP p
  | x :: r, i, hi, hp, hq => by
    have hle : ∀ l : List Nat, l.countP q ≤ l.countP p := fun l => List.countP_mono_left (fun x _ hx => h x hx)
    rcases List.mem_cons.1 hi with rfl | hi
    · rw [List.countP_cons_of_neg (by simp [hq]), List.countP_cons_of_pos hp]; have := hle r; omega
    · have := countP_lt h r i hi hp hq
      by_cases hqx : q x = true
      · rw [List.countP_cons_of_pos hqx, List.countP_cons_of_pos (h x hqx)]; omega
      · rw [List.countP_cons_of_neg hqx]
        by_cases hpx : p x = true
        · rw [List.countP_cons_of_pos hpx]; omega
        · rw [List.countP_cons_of_neg hpx]; exact this

theorem getD_set {listed : Array Bool} {i j : Nat} (hi : i < listed.size) : (listed.setIfInBounds i true).getD j false = if i = j then true else listed.getD j false := by
  simp only [Array.getD_eq_getD_getElem?, Array.getElem?_setIfInBounds]
  by_cases e : i = j
  · subst e; simp [hi]
  · simp [e]
theorem unl_lt {listed : Array Bool} {i : Nat} (hs : listed.size = ops.size) (hi : i < ops.size) (hn : listed.getD i false = false) : unl ops (listed.setIfInBounds i true) < unl ops listed := by
  refine countP_lt (fun j hj => ?_) _ i (List.mem_range.2 hi) (by simp [hn]) (by simp [getD_set (hs ▸ hi)])
  rw [getD_set (hs ▸ hi)] at hj
  by_cases e : i = j
  · simp [e] at hj
  · simpa [e] using hj

theorem ready_iff {listed : Array Bool} (hs : listed.size = ops.size) {i : Nat} : i ∈ Region.ready .any ops listed ↔ i < ops.size ∧ listed.getD i false = false ∧ ∀ p ∈ preds ops i, listed.getD p false = true := by
  unfold Region.ready
  rw [List.mem_filter, List.mem_range]
  constructor
  · rintro ⟨hi, h⟩
    simp only [Bool.and_eq_true, Bool.not_eq_true'] at h
    refine ⟨hi, ?_, fun p hp => ?_⟩
    · have := h.1
      simp only [Array.getD_eq_getD_getElem?, Array.getElem?_eq_getElem (show i < listed.size by omega), Option.getD_some] at this ⊢
      exact this
    · have h2 := h.2
      unfold preds at hp
      rw [Array.getElem?_eq_getElem hi] at hp h2
      simp only [Option.map_some, Option.getD_some, Array.all_eq_true_iff_forall_mem] at h2
      obtain ⟨e, he, rfl⟩ := List.mem_map.1 hp
      obtain ⟨he1, he2⟩ := List.mem_filter.1 he
      have := h2 e (by simpa using he1)
      simpa [he2] using this
  · rintro ⟨hi, h1, h2⟩
    refine ⟨hi, ?_⟩
    simp only [Bool.and_eq_true, Bool.not_eq_true']
    refine ⟨?_, ?_⟩
    · simp only [Array.getD_eq_getD_getElem?, Array.getElem?_eq_getElem (show i < listed.size by omega), Option.getD_some] at h1 ⊢
      exact h1
    · rw [Array.getElem?_eq_getElem hi]
      simp only [Option.map_some, Option.getD_some, Array.all_eq_true_iff_forall_mem]
      intro e he
      cases hb : Region.binds .any e with
      | false => simp
      | true =>
        simp only [Bool.not_true, Bool.false_or]
        refine h2 _ ?_
        unfold preds; rw [Array.getElem?_eq_getElem hi]
        exact List.mem_map.2 ⟨e, List.mem_filter.2 ⟨by simpa using he, hb⟩, rfl⟩

theorem all_listed (hq : okQ ops qs = true) {listed : Array Bool} (hs : listed.size = ops.size) (h : Region.ready .any ops listed = []) : ∀ i, i < ops.size → listed.getD i false = true := by
  intro i
  induction i using Nat.strongRecOn with
  | _ i ih =>
    intro hi
    cases hl : listed.getD i false with
    | true => rfl
    | false =>
      have : i ∈ Region.ready .any ops listed := (ready_iff hs).2 ⟨hi, hl, fun p hp => by
        simp only [okQ, Bool.and_eq_true, edgesBack, List.all_eq_true] at hq
        have hlt : p < i := blt_iff.1 (hq.1.2 i (List.mem_range.2 hi) p hp)
        exact ih p hlt (by omega)⟩
      rw [h] at this; cases this

/-- What an operation that is not quiet comes to, value by value. -/
def uponV (P : Program) (N : Value → World → Prop) : Result Next → Prop
  | .ok (.value v) w' => N v w'
  | .ok .skip w' => N undef w'
  | .ok (.enter f args) w' => Calls P f args w' fun e w'' => ∃ v, e = .returned v ∧ N v w''
  | _ => False
theorem uponV_upon {N : Value → World → Prop} {K : Act → World → Prop} {R : Exit → Act → World → Prop} {o : Oper} {r : Result Next} (h : uponV P N r) (hk : ∀ v w', N v w' → K (a.put o.dst v) w') : o.upon P a K R r := by
  unfold uponV at h
  split at h
  · exact hk _ _ h
  · exact hk _ _ h
  · exact Calls.mono h fun e w'' ⟨v, he, hn⟩ => by subst he; exact hk _ _ hn
  · exact h.elim

def LStep (B : Base) (P : Program) (ops : Array Oper) (st : St) (G : GH) (i : Nat) (K : St → GH → Prop) : Prop :=
  ∀ E a W, Rel B E st G a W → ∃ o, ops[i]? = some o ∧
    ((Region.wanted o (yielded ops a.tmps) = true ∧ uponV P (fun u W' => ∃ E' st' G', K st' G' ∧ Rel B E' st' G' (a.put o.dst u) W') ((execOp a.eval o).run P W)) ∨
     (Region.wanted o (yielded ops a.tmps) = false ∧ ∃ st', K st' G ∧ Rel B E st' G (a.put o.dst undef) W))

/-- Is what was foreseen of an operation still so? -/
def Again (B : Base) (P : Program) (ops : Array Oper) (st : St) (G : GH) (k : Nat) : Prop :=
  ∃ o, ops[k]? = some o ∧ ((wantS ops st o = some false ∧ ∀ d, o.dst = some d → st.get d = some (.v undef)) ∨
    (wantS ops st o = some true ∧ ∃ s, (∀ d, o.dst = some d → st.get d = some s) ∧
      (evQ P st o = some s ∨ ∃ x, s = .v x ∧ allPlain st o.op.operands.toList = true ∧ ∀ W, Sees B G W → (execOp st.rho o).run P W = .ok (.value x) W)))

theorem rho_exec (R : Rel B E st G a W) {o : Oper} (hs : ∀ cs b, o.op ≠ .select cs b) (h : allPlain st o.op.operands.toList = true) : execOp a.eval o = execOp st.rho o :=
  execOp_congr o hs fun x hx => by
    obtain ⟨y, hy⟩ := allPlain_mem h x (by simpa using hx)
    rw [R.plain hy]; simp [St.rho, hy]

theorem Again.fore (hq : okQ ops qs = true) (R : Rel B E st G a W) {k : Nat} (h : Again B P ops st G k) {o : Oper} (ho : ops[k]? = some o) : Foreseen P ops a W o := by
  obtain ⟨o', ho', h⟩ := h
  rw [ho] at ho'; simp only [Option.some.injEq] at ho'; subst ho'
  rcases h with ⟨hw, hd⟩ | ⟨hw, s, hd, hv⟩
  · exact .inr ⟨wantS_ok R hw, fun d e _ => R.tm _ _ (hd d e)⟩
  · refine .inl ⟨wantS_ok R hw, s.den E, ?_, fun d e _ => R.tm _ _ (hd d e)⟩
    rcases hv with hv | ⟨x, rfl, hp, hv⟩
    · exact evQ_val R hv
    · rw [rho_exec R (noSel_spec hq ho) hp]; exact hv W R.sees

theorem Vir.stop (hq : okQ ops qs = true) {V : List Nat} (hdone : (∀ i, i < ops.size → i ∈ V) → Q .normal st G)
    (hl : ∀ i, i < ops.size → i ∉ V → (∀ p ∈ preds ops i, p ∈ V) → LStep B P ops st G i fun st' G' => (∀ k ∈ V, k ∈ qs → k ∉ preds ops i → Again B P ops st' G' k) ∧ Vir B P ops Q qs (i :: V) st' G') : Vir B P ops Q qs V st G := by
  refine ⟨fun fuel => ?_⟩
  induction fuel with
  | zero =>
    intro listed a ap E W hf C
    have hall : ∀ i, i < ops.size → listed.getD i false = true := by
      intro i hi
      cases h : listed.getD i false with
      | true => rfl
      | false => have := unl_lt C.size hi h; omega
    refine ⟨?_, E, st, G, ?_, hdone fun i hi => C.sub i (hall i hi)⟩
    · rw [List.eq_nil_iff_forall_not_mem]
      intro i hi
      have := (ready_iff C.size).1 hi
      rw [hall i this.1] at this; cases this.2.1
    · have : ap = a := by
        have := C.defs; have ht : ap.tmps = a.tmps := by
          apply Array.ext_getElem?; intro k
          exact C.off k fun i o _ hn ho => by rw [hall i (Array.getElem?_eq_some_iff.1 ho).1] at hn; cases hn
        cases ap; cases a; simp_all
      rw [← this]; exact C.rel
  | succ fuel ih =>
    intro listed a ap E W hf C
    refine ⟨fun hr => ?_, fun i hi => ?_⟩
    · have hall := all_listed hq C.size hr
      refine ⟨E, st, G, ?_, hdone fun i hi => C.sub i (hall i hi)⟩
      have : ap = a := by
        have := C.defs; have ht : ap.tmps = a.tmps := by
          apply Array.ext_getElem?; intro k
          exact C.off k fun i o _ hn ho => by rw [hall i (Array.getElem?_eq_some_iff.1 ho).1] at hn; cases hn
        cases ap; cases a; simp_all
      rw [← this]; exact C.rel
    · obtain ⟨hi1, hi2, hi3⟩ := (ready_iff C.size).1 hi
      obtain ⟨o, ho⟩ : ∃ o, ops[i]? = some o := ⟨ops[i], Array.getElem?_eq_getElem hi1⟩
      have hlk : ∀ t ∈ looks ops o, ap.tmps[t]? = a.tmps[t]? := fun t ht => C.off t fun j oj hj hjn hoj hd => by
        obtain ⟨hjq, _⟩ := C.fore j oj hj hjn hoj
        have sp := okQ_spec hq (i := i) hjq hoj ho hd
        by_cases e : i = j
        · subst e; rw [ho] at hoj; simp only [Option.some.injEq] at hoj; subst hoj; exact sp.1 rfl ht
        · have := hi3 j ((sp.2 e).1 ht); rw [this] at hjn; cases hjn
      have hex : execOp a.eval o = execOp ap.eval o := exec_same (ops := ops) (noSel_spec hq ho) fun t ht => (hlk t ht).symm
      have hwa : Region.wanted o (yielded ops a.tmps) = Region.wanted o (yielded ops ap.tmps) := wanted_same fun t ht => (hlk t ht).symm
      have hf' : unl ops (listed.setIfInBounds i true) ≤ fuel := by have := unl_lt C.size hi1 hi2; omega
      have hdown' : ∀ j, (listed.setIfInBounds i true).getD j false = true → ∀ p ∈ preds ops j, (listed.setIfInBounds i true).getD p false = true := by
        intro j hj p hp
        rw [getD_set (C.size ▸ hi1)] at hj ⊢
        by_cases e : i = j
        · subst e; rw [hi3 p hp]; simp
        · rw [if_neg e] at hj; rw [C.down j hj p hp]; simp
      simp only [wpOp, ho, hwa]
      by_cases hV : i ∈ V
      · obtain ⟨_, hfo⟩ := C.fore i o hV hi2 ho
        have key : ∀ x, (∀ d, o.dst = some d → d < ap.tmps.size → ap.tmps[d]? = some x) → Cfg B P ops qs V st G (listed.setIfInBounds i true) (a.put o.dst x) ap E W := by
          intro x hx
          refine { C with size := by simp [C.size], sub := fun j hj => ?_, down := hdown', rel := C.rel, defs := by rw [put_defs]; exact C.defs, tsz := by rw [put_size]; exact C.tsz, off := fun k hk => ?_, fore := fun j oj hj hjn hoj => ?_ }
          · rw [getD_set (C.size ▸ hi1)] at hj
            by_cases e : i = j
            · subst e; exact hV
            · rw [if_neg e] at hj; exact C.sub j hj
          · cases hd : o.dst with
            | none =>
              show ap.tmps[k]? = a.tmps[k]?
              refine C.off k fun j oj hj hjn hoj e => ?_
              by_cases e' : i = j
              · subst e'; rw [ho] at hoj; simp only [Option.some.injEq] at hoj; subst hoj; rw [hd] at e; cases e
              · exact hk j oj hj (by rw [getD_set (C.size ▸ hi1), if_neg e']; exact hjn) hoj e
            | some d =>
              rw [put_at]
              by_cases e : d = k
              · subst e
                rw [if_pos rfl]
                by_cases hlt : d < a.tmps.size
                · rw [if_pos hlt]; exact hx d hd (by rw [C.tsz]; exact hlt)
                · rw [if_neg hlt]; exact Array.getElem?_eq_none (by rw [C.tsz]; exact Nat.le_of_not_lt hlt)
              · rw [if_neg e]
                refine C.off k fun j oj hj hjn hoj e2 => ?_
                by_cases e' : i = j
                · subst e'; rw [ho] at hoj; simp only [Option.some.injEq] at hoj; subst hoj; rw [hd] at e2; simp only [Option.some.injEq] at e2; exact e e2
                · exact hk j oj hj (by rw [getD_set (C.size ▸ hi1), if_neg e']; exact hjn) hoj e2
          · rw [getD_set (C.size ▸ hi1)] at hjn
            by_cases e : i = j
            · rw [if_pos e] at hjn; cases hjn
            · rw [if_neg e] at hjn; exact C.fore j oj hj hjn hoj
        rcases hfo with ⟨hw, x, hr, hx⟩ | ⟨hw, hx⟩
        · rw [if_pos hw]
          left
          unfold Oper.wp
          rw [hex, hr]
          exact ih _ _ ap E W hf' (key x hx)
        · rw [if_neg (by rw [hw]; simp)]
          exact ih _ _ ap E W hf' (key undef hx)
      · obtain ⟨o', ho', hst⟩ := hl i hi1 hV (fun p hp => C.sub p (hi3 p hp)) E ap W C.rel
        rw [ho] at ho'; simp only [Option.some.injEq] at ho'; subst ho'
        have key : ∀ u E' st' G' W', ((∀ k ∈ V, k ∈ qs → k ∉ preds ops i → Again B P ops st' G' k) ∧ Vir B P ops Q qs (i :: V) st' G') → Rel B E' st' G' (ap.put o.dst u) W' → wpAny P .any ops (PostB B Q) fuel (listed.setIfInBounds i true) (a.put o.dst u) W' := by
          intro u E' st' G' W' ⟨hag, hvir⟩ R'
          refine hvir.run fuel _ _ (ap.put o.dst u) E' W' hf' ?_
          refine ⟨by simp [C.size], fun j hj => ?_, hdown', fun j hj p hp => ?_, R', by rw [put_defs, put_defs]; exact C.defs, by rw [put_size, put_size]; exact C.tsz, fun k hk => ?_, fun j oj hj hjn hoj => ?_⟩
          · rw [getD_set (C.size ▸ hi1)] at hj
            by_cases e : i = j
            · subst e; simp
            · rw [if_neg e] at hj; exact List.mem_cons_of_mem _ (C.sub j hj)
          · rcases List.mem_cons.1 hj with rfl | hj
            · exact List.mem_cons_of_mem _ (C.sub p (hi3 p hp))
            · exact List.mem_cons_of_mem _ (C.vdown j hj p hp)
          · have hk' : ∀ j oj, j ∈ V → listed.getD j false = false → ops[j]? = some oj → oj.dst ≠ some k := fun j oj hj hjn hoj => by
              have : i ≠ j := fun e => hV (e ▸ hj)
              exact hk j oj (List.mem_cons_of_mem _ hj) (by rw [getD_set (C.size ▸ hi1), if_neg this]; exact hjn) hoj
            cases hd : o.dst with
            | none => exact C.off k hk'
            | some d =>
              rw [put_at, put_at, C.tsz]
              by_cases e : d = k
              · simp [e]
              · rw [if_neg e, if_neg e]; exact C.off k hk'
          · rw [getD_set (C.size ▸ hi1)] at hjn
            by_cases e : i = j
            · rw [if_pos e] at hjn; cases hjn
            · rw [if_neg e] at hjn
              have hj' : j ∈ V := by rcases List.mem_cons.1 hj with h | h; exact absurd h.symm e; exact h
              have hnp : j ∉ preds ops i := fun h => by rw [hi3 j h] at hjn; cases hjn
              exact ⟨(C.fore j oj hj' hjn hoj).1, (hag j hj' (C.fore j oj hj' hjn hoj).1 hnp).fore hq R' hoj⟩
        rcases hst with ⟨hw, hu⟩ | ⟨hw, st', hK, R'⟩
        · rw [if_pos hw]
          left
          unfold Oper.wp
          rw [hex]
          exact uponV_upon hu fun v w' ⟨E', st', G', hK, R'⟩ => key v E' st' G' w' hK R'
        · rw [if_neg (by rw [hw]; simp)]
          exact key undef E st' G W hK R'

/-- A quiet operation is taken at once. -/
theorem Vir.quiet1 (hq : okQ ops qs = true) {V : List Nat} (i : Nat) (hiq : i ∈ qs) (hiV : i ∉ V) (hp : ∀ p ∈ preds ops i, p ∈ V) {o : Oper} (ho : ops[i]? = some o) {s : SV}
    (hv : (wantS ops st o = some false ∧ s = .v undef) ∨ (wantS ops st o = some true ∧ (evQ P st o = some s ∨ ∃ x, s = .v x ∧ allPlain st o.op.operands.toList = true ∧ ∀ W, Sees B G W → (execOp st.rho o).run P W = .ok (.value x) W)))
    (k : Vir B P ops Q qs (i :: V) (st.put o.dst s) G) : Vir B P ops Q qs V st G := by
  refine ⟨fun fuel listed a ap E W hf C => ?_⟩
  have hin : listed.getD i false = false := by
    cases h : listed.getD i false with
    | false => rfl
    | true => exact absurd (C.sub i h) hiV
  have hx : (Region.wanted o (yielded ops ap.tmps) = true ∧ (execOp ap.eval o).run P W = .ok (.value (s.den E)) W) ∨ (Region.wanted o (yielded ops ap.tmps) = false ∧ s.den E = undef) := by
    rcases hv with ⟨hw, rfl⟩ | ⟨hw, hv⟩
    · exact .inr ⟨wantS_ok C.rel hw, rfl⟩
    · refine .inl ⟨wantS_ok C.rel hw, ?_⟩
      rcases hv with hv | ⟨x, rfl, hp, hv⟩
      · exact evQ_val C.rel hv
      · rw [rho_exec C.rel (noSel_spec hq ho) hp]; exact hv W C.rel.sees
  have hself : ∀ d, o.dst = some d → d ∉ looks ops o := fun d hd => (okQ_spec hq hiq ho ho hd).1 rfl
  have hothers : ∀ j oj d, j ∈ V → ops[j]? = some oj → o.dst = some d → d ∉ looks ops oj ∧ oj.dst ≠ some d := fun j oj d hj hoj hd => by
    have hne : j ≠ i := fun e => hiV (e ▸ hj)
    have sp := (okQ_spec hq hiq ho hoj hd).2 hne
    exact ⟨fun hm => hiV (C.vdown j hj i (sp.1 hm)), sp.2⟩
  have hkeep : ∀ oj, (∀ d, o.dst = some d → d ∉ looks ops oj) → ∀ t ∈ looks ops oj, (ap.put o.dst (s.den E)).tmps[t]? = ap.tmps[t]? := fun oj hoj t ht => by
    cases hd : o.dst with
    | none => rfl
    | some d =>
      have hne : d ≠ t := fun e => hoj d hd (by rw [e]; exact ht)
      rw [put_at, if_neg hne]
  refine k.run fuel listed a (ap.put o.dst (s.den E)) E W hf ?_
  refine ⟨C.size, fun j hj => List.mem_cons_of_mem _ (C.sub j hj), C.down, fun j hj p hp' => ?_, C.rel.put _ rfl, by rw [put_defs]; exact C.defs, by rw [put_size]; exact C.tsz, fun t ht => ?_, fun j oj hj hjn hoj => ?_⟩
  · rcases List.mem_cons.1 hj with rfl | hj
    · exact List.mem_cons_of_mem _ (hp p hp')
    · exact List.mem_cons_of_mem _ (C.vdown j hj p hp')
  · have h1 : ap.tmps[t]? = a.tmps[t]? := C.off t fun j oj hj hjn hoj => ht j oj (List.mem_cons_of_mem _ hj) hjn hoj
    cases hd : o.dst with
    | none => exact h1
    | some d => rw [put_at, if_neg (fun e => ht i o (by simp) hin ho (by rw [hd, e]))]; exact h1
  · by_cases e : j = i
    · subst e; rw [ho] at hoj; simp only [Option.some.injEq] at hoj; subst hoj
      refine ⟨hiq, ?_⟩
      have hk := hkeep o hself
      rcases hx with ⟨hw, hr⟩ | ⟨hw, hu⟩
      · refine .inl ⟨by rw [wanted_same hk]; exact hw, s.den E, by rw [exec_same (ops := ops) (noSel_spec hq ho) hk]; exact hr, fun d hd hlt => ?_⟩
        rw [hd, put_at, if_pos rfl, if_pos (by rwa [put_size] at hlt)]
      · refine .inr ⟨by rw [wanted_same hk]; exact hw, fun d hd hlt => ?_⟩
        rw [hd, put_at, if_pos rfl, if_pos (by rwa [put_size] at hlt), hu]
    · have hj' : j ∈ V := by rcases List.mem_cons.1 hj with h | h; exact absurd h e; exact h
      obtain ⟨hjq, hfo⟩ := C.fore j oj hj' hjn hoj
      refine ⟨hjq, ?_⟩
      have hk := hkeep oj fun d hd => (hothers j oj d hj' hoj hd).1
      have hsl : ∀ d, oj.dst = some d → (ap.put o.dst (s.den E)).tmps[d]? = ap.tmps[d]? := fun d hd => by
        cases hd' : o.dst with
        | none => rfl
        | some d' => rw [put_at, if_neg (fun e => (hothers j oj d' hj' hoj hd').2 (by rw [hd, e]))]
      rcases hfo with ⟨hw, x, hr, hx'⟩ | ⟨hw, hx'⟩
      · exact .inl ⟨by rw [wanted_same hk]; exact hw, x, by rw [exec_same (ops := ops) (noSel_spec hq hoj) hk]; exact hr, fun d hd hlt => by rw [hsl d hd]; exact hx' d hd (by rwa [put_size] at hlt)⟩
      · exact .inr ⟨by rw [wanted_same hk]; exact hw, fun d hd hlt => by rw [hsl d hd]; exact hx' d hd (by rwa [put_size] at hlt)⟩

/-! ### The rules -/
structure VirP (B : Base) (P : Program) (ops : Array Oper) (Q : Post) (qs : List Nat) (p : List Nat × St) (G : GH) : Prop where
  run : Vir B P ops Q qs p.1 p.2 G

def vstep (P : Program) (ops : Array Oper) (qs : List Nat) (i : Nat) (p : List Nat × St) : Option (List Nat × St) :=
  bif memB i qs && !(memB i p.1) && subB (preds ops i) p.1 then
    (match ops[i]? with
     | some o =>
       (match wantS ops p.2 o with
        | some true => (match evQ P p.2 o with | some s => some (i :: p.1, p.2.put o.dst s) | none => none)
        | some false => some (i :: p.1, p.2.put o.dst (.v undef))
        | none => none)
     | none => none)
  else none
def vev (P : Program) (ops : Array Oper) (qs : List Nat) : List Nat → List Nat × St → List Nat × St
  | [], p => p
  | i :: r, p => match vstep P ops qs i p with | some p' => vev P ops qs r p' | none => p

theorem vstep_ok (hq : okQ ops qs = true) {i : Nat} {p p' : List Nat × St} (h : vstep P ops qs i p = some p') (k : VirP B P ops Q qs p' G) : VirP B P ops Q qs p G := by
  unfold vstep at h
  cases hc : (memB i qs && !(memB i p.1) && subB (preds ops i) p.1) with
  | false => simp [hc] at h
  | true =>
    simp only [hc, cond_true] at h
    simp only [Bool.and_eq_true, Bool.not_eq_true'] at hc
    obtain ⟨⟨h1, h2⟩, h3⟩ := hc
    have hiV : i ∉ p.1 := fun e => by rw [memB_iff.2 e] at h2; cases h2
    cases ho : ops[i]? with
    | none => simp [ho] at h
    | some o =>
      simp only [ho] at h
      split at h
      · rename_i hw
        split at h
        · rename_i s hs
          simp only [Option.some.injEq] at h; subst h
          exact ⟨Vir.quiet1 hq i (memB_iff.1 h1) hiV (subB_iff.1 h3) ho (.inr ⟨hw, .inl hs⟩) k.run⟩
        · cases h
      · rename_i hw
        simp only [Option.some.injEq] at h; subst h
        exact ⟨Vir.quiet1 hq i (memB_iff.1 h1) hiV (subB_iff.1 h3) ho (.inl ⟨hw, rfl⟩) k.run⟩
      · cases h
/-- Quiet operations, evaluated. -/
theorem Vir.ev (hq : okQ ops qs = true) : ∀ (is : List Nat) {p : List Nat × St}, VirP B P ops Q qs (vev P ops qs is p) G → VirP B P ops Q qs p G
  | [], _, h => h
  | i :: r, p, h => by
    simp only [vev] at h
    split at h
    · rename_i p' hp; exact vstep_ok hq hp (Vir.ev hq r h)
    · exact h

theorem Vir.draw {id : Nat} (qs : List Nat) (hm : P.follows .mixedOrders = true) (hq : okQ ops qs = true) (h : VirP B P ops Q qs ([], st) G) : H B P (.region id ops true) Q st G := by
  refine ⟨fun E a W R => ?_⟩
  refine wp_region_any hm (h.run.run ops.size _ a a E _ (Nat.le_trans List.countP_le_length (by simp)) ⟨by simp, fun i hi => ?_, fun i hi => ?_, fun i hi => (by cases hi), ⟨R.size, R.df, R.tm, R.ml, R.lo, R.hid, R.inj, R.own, R.agr, R.sub, R.old, R.ext, R.os, R.tape, R.output, R.sz, R.ows.of (Nat.le_refl _) (fun _ _ _ _ => rfl) R.ows.hid R.ows.loc⟩, rfl, rfl, fun _ _ => rfl, fun i o hi => (by cases hi)⟩)
  · simp only [Array.getD_eq_getD_getElem?, Array.getElem?_replicate] at hi; split at hi <;> simp at hi
  · simp only [Array.getD_eq_getD_getElem?, Array.getElem?_replicate] at hi; split at hi <;> simp at hi

def readyL (ops : Array Oper) (V : List Nat) : List Nat := (List.range ops.size).filter fun i => !(memB i V) && subB (preds ops i) V
theorem readyL_mem {V : List Nat} {i : Nat} (h1 : i < ops.size) (h2 : i ∉ V) (h3 : ∀ p ∈ preds ops i, p ∈ V) : i ∈ readyL ops V := by
  refine List.mem_filter.2 ⟨List.mem_range.2 h1, ?_⟩
  simp only [Bool.and_eq_true, Bool.not_eq_true']
  exact ⟨by cases h : memB i V with | false => rfl | true => exact absurd (memB_iff.1 h) h2, subB_iff.2 h3⟩

theorem Vir.fin (hq : okQ ops qs = true) {p : List Nat × St} (h : subB (List.range ops.size) p.1 = true) (k : Q .normal p.2 G) : VirP B P ops Q qs p G :=
  ⟨Vir.stop hq (fun _ => k) fun i hi hn _ => absurd (subB_iff.1 h i (List.mem_range.2 hi)) hn⟩

/-- What was foreseen, evaluated anew. -/
def agE (P : Program) (ops : Array Oper) (st : St) (k : Nat) : Option SV :=
  match ops[k]? with
  | some o => (match wantS ops st o with | some true => evQ P st o | some false => some (.v undef) | none => none)
  | none => none
def agS (P : Program) (ops : Array Oper) (st : St) (k : Nat) : Option SV :=
  match ops[k]? with
  | some o => (match o.dst with | some d => st.get d | none => agE P ops st k)
  | none => none
def agL (ops : Array Oper) (qs V : List Nat) (i : Nat) : List Nat := V.filter fun k => memB k qs && !(memB k (preds ops i))
def agB (P : Program) (ops : Array Oper) (st : St) (l : List Nat) : Bool := l.all fun k => (agE P ops st k).isSome
theorem ag_of {l : List Nat} (h1 : agB P ops st l = true) (h2 : l.map (agE P ops st) = l.map (agS P ops st)) : ∀ k ∈ l, Again B P ops st G k := by
  intro k hk
  have hs := (List.all_eq_true.1 h1) k hk
  have he : agE P ops st k = agS P ops st k := by
    clear h1 hs
    induction l with
    | nil => cases hk
    | cons x r ih =>
      simp only [List.map_cons, List.cons.injEq] at h2
      rcases List.mem_cons.1 hk with rfl | hk
      · exact h2.1
      · exact ih h2.2 hk
  obtain ⟨s, hs⟩ := Option.isSome_iff_exists.1 hs
  rw [hs] at he
  unfold agS at he
  unfold agE at hs
  cases ho : ops[k]? with
  | none => simp [ho] at hs
  | some o =>
    simp only [ho] at hs he
    refine ⟨o, ho, ?_⟩
    split at hs
    · rename_i hw
      exact .inr ⟨hw, s, fun d hd => by rw [hd] at he; exact he.symm, .inl hs⟩
    · rename_i hw
      simp only [Option.some.injEq] at hs; subst hs
      exact .inl ⟨hw, fun d hd => by rw [hd] at he; exact he.symm⟩
    · cases hs

/-- One operation stands next, of those that aren't quiet. -/
theorem Vir.loud1 (hq : okQ ops qs = true) {p : List Nat × St} (i : Nat) (hr : readyL ops p.1 = [i]) (h : LStep B P ops p.2 G i fun st' G' => (∀ k ∈ agL ops qs p.1 i, Again B P ops st' G' k) ∧ VirP B P ops Q qs (i :: p.1, st') G') : VirP B P ops Q qs p G := by
  refine ⟨Vir.stop hq (fun hall => ?_) fun j hj hjV hjp => ?_⟩
  · have : i ∈ readyL ops p.1 := by rw [hr]; simp
    obtain ⟨h1, h2⟩ := List.mem_filter.1 this
    simp only [Bool.and_eq_true, Bool.not_eq_true'] at h2
    rw [memB_iff.2 (hall i (List.mem_range.1 h1))] at h2; cases h2.1
  · have := readyL_mem hj hjV hjp
    rw [hr] at this
    have e : j = i := by simpa using this
    subst e
    intro E a W R
    obtain ⟨o, ho, hs⟩ := h E a W R
    have conv : ∀ st' G', ((∀ k ∈ agL ops qs p.1 j, Again B P ops st' G' k) ∧ VirP B P ops Q qs (j :: p.1, st') G') → ((∀ k ∈ p.1, k ∈ qs → k ∉ preds ops j → Again B P ops st' G' k) ∧ Vir B P ops Q qs (j :: p.1) st' G') := fun st' G' ⟨h1, h2⟩ =>
      ⟨fun k hk hkq hkp => h1 k (List.mem_filter.2 ⟨hk, by
        simp only [Bool.and_eq_true, Bool.not_eq_true']
        exact ⟨memB_iff.2 hkq, by cases h : memB k (preds ops j) with | false => rfl | true => exact absurd (memB_iff.1 h) hkp⟩⟩), h2.run⟩
    refine ⟨o, ho, ?_⟩
    rcases hs with ⟨hw, hu⟩ | ⟨hw, st', hK, R'⟩
    · refine .inl ⟨hw, ?_⟩
      unfold uponV at hu ⊢
      split at hu
      · obtain ⟨E', st', G', hK, R'⟩ := hu; exact ⟨E', st', G', conv _ _ hK, R'⟩
      · obtain ⟨E', st', G', hK, R'⟩ := hu; exact ⟨E', st', G', conv _ _ hK, R'⟩
      · exact Calls.mono hu fun e w'' ⟨v, he, E', st', G', hK, R'⟩ => ⟨v, he, E', st', G', conv _ _ hK, R'⟩
      · exact hu.elim
    · exact .inr ⟨hw, st', conv _ _ hK, R'⟩

theorem LStep.ev {i : Nat} {K : St → GH → Prop} {st' : St} (h : stepS P ops i st = some st') (hi : (ops[i]?).isSome = true) (k : K st' G) : LStep B P ops st G i K := by
  intro E a W R
  obtain ⟨o, ho⟩ := Option.isSome_iff_exists.1 hi
  refine ⟨o, ho, ?_⟩
  unfold stepS at h
  simp only [ho] at h
  split at h
  · rename_i hw
    refine .inl ⟨wantS_ok R hw, ?_⟩
    obtain ⟨E', nx, u, W', hr, hnx, R'⟩ := evOp_did R h
    rw [hr]
    rcases hnx with rfl | ⟨rfl, rfl⟩
    · exact ⟨E', st', G, k, R'⟩
    · exact ⟨E', st', G, k, R'⟩
  · rename_i hw
    simp only [Option.some.injEq] at h; subst h
    exact .inr ⟨wantS_ok R hw, _, k, R.put o.dst rfl⟩
  · cases h

/-- A store, a new block, or an assignment, that stands next. -/
def lev (P : Program) (ops : Array Oper) (i : Nat) (p : List Nat × St) : St := match stepS P ops i p.2 with | some st => st | none => p.2
theorem Vir.lev (hq : okQ ops qs = true) {p : List Nat × St} (i : Nat) (hr : (readyL ops p.1, (stepS P ops i p.2).isSome, (ops[i]?).isSome, agB P ops (lev P ops i p) (agL ops qs p.1 i)) = ([i], true, true, true))
    (h2 : (agL ops qs p.1 i).map (agE P ops (lev P ops i p)) = (agL ops qs p.1 i).map (agS P ops (lev P ops i p)))
    (k : VirP B P ops Q qs (i :: p.1, lev P ops i p) G) : VirP B P ops Q qs p G := by
  simp only [Prod.mk.injEq] at hr
  obtain ⟨h1, h3, h4, h5⟩ := hr
  obtain ⟨st', hs⟩ := Option.isSome_iff_exists.1 h3
  have e : Vc.lev P ops i p = st' := by unfold Vc.lev; rw [hs]
  rw [e] at h2 h5 k
  exact Vir.loud1 hq i h1 (LStep.ev hs h4 ⟨ag_of h5 h2, k⟩)

theorem LStep.call {i : Nat} {K : St → GH → Prop} (f : Nat) (as : List SV) (h : callOf ops ([i], st) = some (f, as)) (hk : (okCallee P f && scT st.lo.length st.tm) = true)
    (k : CallJ P f as st.lo G fun s lo' G' N => B.n0 ≤ N → (∀ k, k < N → G' k = G k) → GExt G G' → K (({ n := st.n, tm := st.tm, lo := lo', ow := st.ow } : St).put (dstOf ops ([i], st)) s) G') : LStep B P ops st G i K := by
  intro E a W R
  simp only [Bool.and_eq_true] at hk
  obtain ⟨o, ho⟩ : ∃ o, cur ops ([i], st) = some o := by
    unfold callOf at h
    cases hc : cur ops ([i], st) with
    | none => simp [hc] at h
    | some o => exact ⟨o, rfl⟩
  have hd : dstOf ops ([i], st) = o.dst := by unfold dstOf; rw [ho]
  have hrun := callOf_run R (p := ([i], st)) rfl ho h hk.1
  have ho' : ops[i]? = some o ∧ wantS ops st o = some true := by
    unfold cur at ho
    dsimp only at ho
    split at ho
    · rename_i o' ho'
      split at ho
      · rename_i hw; simp only [Option.some.injEq] at ho; subst ho; exact ⟨ho', hw⟩
      · cases ho
    · cases ho
  refine ⟨o, ho'.1, .inl ⟨wantS_ok R ho'.2, ?_⟩⟩
  rw [hrun]
  refine Calls.mono (k.run E W R.relL) ?_
  rintro e W' ⟨E', s, lo', G', rfl, hag, hlen, hnew, RL, hkept, hG, hK⟩
  refine ⟨_, rfl, E', _, G', hK R.sz hG (fun k o hk' => ?_), ?_⟩
  · rw [hG k ?_]; exact hk'
    have := R.sub k o hk'
    rcases Nat.lt_or_ge k W.heap.size with h | h
    · exact h
    · rw [Array.getElem?_eq_none h] at this; cases this
  · rw [hd]; exact (R.after hk.2 hag hlen hnew RL hkept hG).put o.dst rfl

/-- The state behind a call that stands next. -/
def vnx (ops : Array Oper) (i : Nat) (p : List Nat × St) (s : SV) : List Nat × St := (i :: p.1, p.2.put (dstOf ops ([i], p.2)) s)

theorem Vir.fun (hq : okQ ops qs = true) {p : List Nat × St} {K : Nat → GH → Value → Prop} (i f : Nat) (vs : List Value) (hr : readyL ops p.1 = [i]) (h : callV ops ([i], p.2) = some (f, vs)) (hk : (okCallee P f && scT p.2.lo.length p.2.tm) = true) (hF : Fun P f vs G K)
    (ha : ∀ v, agB P ops (vnx ops i p (.v v)).2 (agL ops qs p.1 i) = true ∧ (agL ops qs p.1 i).map (agE P ops (vnx ops i p (.v v)).2) = (agL ops qs p.1 i).map (agS P ops (vnx ops i p (.v v)).2))
    (k : ∀ N G' v, B.n0 ≤ N → (∀ k, k < N → G' k = G k) → GExt G G' → K N G' v → VirP B P ops Q qs (vnx ops i p (.v v)) G') : VirP B P ops Q qs p G := by
  obtain ⟨_, h3, h4⟩ := callV_spec h
  refine Vir.loud1 hq i hr (LStep.call f _ h3 hk (Fun.callJ h4 hF fun N G' v hG hK hN _ hGE => ?_))
  exact ⟨ag_of (ha v).1 (ha v).2, k N G' v hN hG hGE hK⟩

theorem Vir.pure (hq : okQ ops qs = true) {p : List Nat × St} {r : Value} (i f : Nat) (vs : List Value) (hr : readyL ops p.1 = [i]) (h : callV ops ([i], p.2) = some (f, vs)) (hk : (okCallee P f && scT p.2.lo.length p.2.tm) = true) (hF : PureF P f vs r)
    (h1 : agB P ops (vnx ops i p (.v r)).2 (agL ops qs p.1 i) = true) (h2 : (agL ops qs p.1 i).map (agE P ops (vnx ops i p (.v r)).2) = (agL ops qs p.1 i).map (agS P ops (vnx ops i p (.v r)).2))
    (k : VirP B P ops Q qs (vnx ops i p (.v r)) G) : VirP B P ops Q qs p G := by
  obtain ⟨_, h3, h4⟩ := callV_spec h
  refine Vir.loud1 hq i hr (LStep.call f _ h3 hk (Fun.callJ h4 (hF.run G) fun N G' v hG hK hN _ hGE => ?_))
  obtain ⟨rfl, rfl⟩ := hK
  exact ⟨ag_of h1 h2, k⟩

end
end Go.Proofs.Ytoiacgfhjikddaa.Vc
