/- The calculus, sixth part: operations that read memory. What is seen of memory is told of the ghost heap, for slices that are values. -/
import Derived.Test.YtoiacgfhjikddaaVcAny
import Derived.Laws.AppendOwn
import Derived.Laws.BytesString
import Derived.Laws.CopyOwn
import Derived.Laws.Cover3
namespace Go.Proofs.Ytoiacgfhjikddaa.Vc
open Go.RowKit

/-! ### Questions to memory -/
inductive MQ where
  | len (t : TypeId) (v : Value)
  | idx (t : TypeId) (v : Value) (i : Value)
  | load (t : TypeId) (v : Value)
  | slice (t : TypeId) (v : Value) (lo hi : Option Value)
  | conv (s d : TypeId) (v : Value)
  | bin (op : BinOp) (t : TypeId) (x y : Value)
  | ext (x : Value) (i : Nat)
  | field (t : TypeId) (x : Value) (f : Nat)
  | toArr (t : TypeId) (v : Value)
  | faddr (t : TypeId) (v : Value) (f : Nat)
  | nilck (v : Value)
  | build (t : TypeId) (ps : List (Nat × Value))
def MQ.sem : MQ → Sem Value
  | .len t v => Builtin.len_ #[t] 0 #[v]
  | .idx t v i => Instr.indexAt t v i
  | .load t v => Instr.loadAt t v
  | .slice t v lo hi => Instr.sliceAt t v lo hi none
  | .conv s d v => convert s d v
  | .bin op t x y => binOp op t x y
  | .ext x i => Instr.extract x i
  | .field t x f => Instr.field t x f
  | .toArr t v => Instr.arrayAt t v
  | .faddr t v f => Instr.fieldAt t v f
  | .nilck v => match v with | .pointer (some a) => .pure (.pointer (some a)) | _ => stuck "no address"
  | .build t ps => Instr.build t ⟨ps⟩

def optP (st : St) : Option Operand → Option (Option Value)
  | none => some none
  | some x => match st.plain x with | some v => some (some v) | none => none
def isNilS : Value → Bool
  | .slice none 0 0 => true
  | _ => false
def partsP (st : St) : List (Nat × Operand) → Option (List (Nat × Value))
  | [] => some []
  | (i, x) :: r => (match st.plain x with | some v => (match partsP st r with | some l => some ((i, v) :: l) | none => none) | none => none)
/-- A division of numbers. -/
def isDivQ : BinOp → Value → Value → Bool
  | .quo, .int _ _, .int _ _ => true
  | .rem, .int _ _, .int _ _ => true
  | _, _, _ => false
def mqOf (P : Program) (st : St) (o : Oper) : Option MQ :=
  match o.op with
  | .load t a => (match st.plain a with | some v => some (.load t v) | none => none)
  | .indexAddr t x i => (match st.plain x, st.plain i with | some v, some j => some (.idx t v j) | _, _ => none)
  | .slice t x lo hi none => (match st.plain x, optP st lo, optP st hi with | some v, some l, some h => some (.slice t v l h) | _, _, _ => none)
  | .convert s d x => (match st.plain x with | some v => some (.conv s d v) | none => none)
  | .binOp op t x y _ => (match st.plain x, st.plain y with
    | some v, some w => bif isNilS w then some (.bin op t v w) else bif isAggV v && isAggV w && !(P.eqGuardType P.depth t) then some (.bin op t v w) else bif isDivQ op v w then some (.bin op t v w) else none
    | _, _ => none)
  | .extract x i => (match st.plain x with | some v => some (.ext v i) | none => none)
  | .field t x f => (match st.plain x with | some v => some (.field t v f) | none => none)
  | .sliceToArrayPointer t x => (match st.plain x with | some v => some (.toArr t v) | none => none)
  | .fieldAddr t x f => (match st.plain x with | some v => some (.faddr t v f) | none => none)
  | .nilCheck x => (match st.plain x with | some v => some (.nilck v) | none => none)
  | .build t ps => (match partsP st ps.toList with | some l => some (.build t l) | none => none)
  | .call c => (match c.callee, c.args.toList, c.argTypes.toList with
    | .builtin .len, [x], [t] => (match st.plain x with | some v => some (.len t v) | none => none)
    | _, _, _ => none)
  | _ => none

section
variable {B : Base} {E : Env} {st : St} {G : GH} {a : Act} {W : World} {P : Program} {ops : Array Oper} {Q : Post}

theorem rho_of {x : Operand} {v : Value} (h : st.plain x = some v) : st.rho x = v := by simp [St.rho, h]
theorem bind_val {s : Sem Value} {x : Value} {W' : World} (h : s.run P W = .ok x W') : (Sem.bind s fun y => .pure (Next.value y)).run P W = .ok (.value x) W' := by
  rw [run_bind h]; rfl
theorem partsP_rho : ∀ {ps : List (Nat × Operand)} {l : List (Nat × Value)}, partsP st ps = some l → ps.map (fun (i, x) => (i, st.rho x)) = l
  | [], l, h => by simp only [partsP, Option.some.injEq] at h; subst h; rfl
  | (i, x) :: r, l, h => by
    simp only [partsP] at h
    cases hx : st.plain x with
    | none => simp [hx] at h
    | some v =>
      cases hr : partsP st r with
      | none => simp [hx, hr] at h
      | some l' =>
        simp only [hx, hr, Option.some.injEq] at h; subst h
        simp [rho_of hx, partsP_rho hr]
theorem optP_map {x : Option Operand} {v : Option Value} (h : optP st x = some v) : x.map st.rho = v := by
  cases x with
  | none => simp only [optP, Option.some.injEq] at h; subst h; rfl
  | some y =>
    simp only [optP] at h
    cases hy : st.plain y with
    | none => simp [hy] at h
    | some w => simp only [hy, Option.some.injEq] at h; subst h; simp [rho_of hy]

theorem mq_run {o : Oper} {q : MQ} (h : mqOf P st o = some q) {x : Value} (hr : q.sem.run P W = .ok x W) : (execOp st.rho o).run P W = .ok (.value x) W := by
  unfold mqOf at h
  split at h
  · rename_i t y hop
    cases hy : st.plain y with
    | none => simp [hy] at h
    | some v =>
      simp only [hy, Option.some.injEq] at h; subst h
      simp only [execOp, hop, rho_of hy]; exact bind_val hr
  · rename_i t y i hop
    cases hy : st.plain y <;> cases hi : st.plain i <;> simp only [hy, hi, Option.some.injEq, reduceCtorEq] at h
    subst h
    simp only [execOp, hop, rho_of hy, rho_of hi]; exact bind_val hr
  · rename_i t y lo hi hop
    cases hy : st.plain y <;> cases hl : optP st lo <;> cases hh : optP st hi <;> simp only [hy, hl, hh, Option.some.injEq, reduceCtorEq] at h
    subst h
    simp only [execOp, hop, rho_of hy, optP_map hl, optP_map hh]; exact bind_val hr
  · rename_i s d y hop
    cases hy : st.plain y with
    | none => simp [hy] at h
    | some v =>
      simp only [hy, Option.some.injEq] at h; subst h
      simp only [execOp, hop, rho_of hy]; exact bind_val hr
  · rename_i op t y z yt hop
    cases hy : st.plain y <;> cases hz : st.plain z <;> simp only [hy, hz, reduceCtorEq] at h
    rename_i v w
    cases hn : isNilS w with
    | true =>
      simp only [hn, cond_true, Option.some.injEq] at h; subst h
      simp only [execOp, hop, rho_of hy, rho_of hz]
      have hw : w = .slice none 0 0 := by
        unfold isNilS at hn; split at hn
        · rfl
        · cases hn
      subst hw
      have hg : (eqGuard op t y z v (.slice none 0 0)).run P W = .ok () W := by
        unfold eqGuard
        cases op <;> cases v <;> rfl
      refine bind_val ?_
      show (Sem.bind (eqGuard op t y z v (.slice none 0 0)) _).run P W = _
      rw [run_bind hg]; exact hr
    | false =>
    simp only [hn, cond_false] at h
    cases hc : (isAggV v && isAggV w && !(P.eqGuardType P.depth t)) with
    | false =>
      simp only [hc, cond_false] at h
      cases hd : isDivQ op v w with
      | false => simp [hd] at h
      | true =>
        simp only [hd, cond_true, Option.some.injEq] at h; subst h
        simp only [execOp, hop, rho_of hy, rho_of hz]
        have hg : (eqGuard op t y z v w).run P W = .ok () W := by
          unfold isDivQ at hd
          split at hd
          · rfl
          · rfl
          · cases hd
        refine bind_val ?_
        show (Sem.bind (eqGuard op t y z v w) _).run P W = _
        rw [run_bind hg]; exact hr
    | true =>
      simp only [hc, cond_true, Option.some.injEq] at h; subst h
      simp only [Bool.and_eq_true, Bool.not_eq_true'] at hc
      simp only [execOp, hop, rho_of hy, rho_of hz]
      have hg : (eqGuard op t y z v w).run P W = .ok () W := by
        obtain ⟨⟨h1, h2⟩, h3⟩ := hc
        cases v <;> simp [isAggV] at h1
        cases w <;> simp [isAggV] at h2
        unfold eqGuard
        simp [h3, program]
        intro _
        simp [Sem.run, Result.andThen, h3]
      refine bind_val ?_
      show (Sem.bind (eqGuard op t y z v w) _).run P W = _
      rw [run_bind hg]; exact hr
  · rename_i y i hop
    cases hy : st.plain y with
    | none => simp [hy] at h
    | some v =>
      simp only [hy, Option.some.injEq] at h; subst h
      simp only [execOp, hop, rho_of hy]; exact bind_val hr
  · rename_i t y f hop
    cases hy : st.plain y with
    | none => simp [hy] at h
    | some v =>
      simp only [hy, Option.some.injEq] at h; subst h
      simp only [execOp, hop, rho_of hy]; exact bind_val hr
  · rename_i t y hop
    cases hy : st.plain y with
    | none => simp [hy] at h
    | some v =>
      simp only [hy, Option.some.injEq] at h; subst h
      simp only [execOp, hop, rho_of hy]; exact bind_val hr
  · rename_i t y f hop
    cases hy : st.plain y with
    | none => simp [hy] at h
    | some v =>
      simp only [hy, Option.some.injEq] at h; subst h
      simp only [execOp, hop, rho_of hy]; exact bind_val hr
  · rename_i y hop
    cases hy : st.plain y with
    | none => simp [hy] at h
    | some v =>
      simp only [hy, Option.some.injEq] at h; subst h
      simp only [execOp, hop, rho_of hy]
      simp only [MQ.sem] at hr
      split at hr
      · cases hr; rfl
      · cases hr
  · rename_i t ps hop
    cases hl : partsP st ps.toList with
    | none => simp [hl] at h
    | some l =>
      simp only [hl, Option.some.injEq] at h; subst h
      have e : ps.map (fun (i, x) => (i, st.rho x)) = ⟨l⟩ := by apply Array.ext'; simpa using partsP_rho hl
      simp only [execOp, hop, e]; exact bind_val hr
  · rename_i c hop
    split at h
    · rename_i x' t hc ha ht
      cases hy : st.plain x' with
      | none => simp [hy] at h
      | some v =>
        simp only [hy, Option.some.injEq] at h; subst h
        have e1 : c.args = #[x'] := by apply Array.ext'; simpa using ha
        have e2 : c.argTypes = #[t] := by apply Array.ext'; simpa using ht
        simp only [execOp, hop]
        show (Sem.bind (resolve st.rho c o.type) _).run P W = _
        unfold resolve
        rw [hc, e1, e2]
        simp only [List.map_toArray, List.map_cons, List.map_nil, rho_of hy]
        exact bind_val hr
    · cases h
  · cases h

/-- What memory tells: to a question, a value. -/
structure Rd (P : Program) (B : Base) (G : GH) (q : MQ) (x : Value) : Prop where
  run : ∀ W, Sees B G W → q.sem.run P W = .ok x W
def mqAt (P : Program) (ops : Array Oper) (p : List Nat × St) : Option MQ := match cur ops p with | some o => mqOf P p.2 o | none => none
theorem partsP_evalA {a : Act} (hp : ∀ x v, st.plain x = some v → a.eval x = st.rho x) : ∀ {ps : List (Nat × Operand)} {l : List (Nat × Value)}, partsP st ps = some l → ps.map (fun (i, x) => (i, a.eval x)) = l
  | [], l, h => by simp only [partsP, Option.some.injEq] at h; subst h; rfl
  | (i, x) :: r, l, h => by
    simp only [partsP] at h
    cases hx : st.plain x with
    | none => simp [hx] at h
    | some v =>
      cases hr : partsP st r with
      | none => simp [hx, hr] at h
      | some l' =>
        simp only [hx, hr, Option.some.injEq] at h; subst h
        simp [hp _ _ hx, rho_of hx, partsP_evalA hp hr]
theorem mq_plain {o : Oper} {q : MQ} (h : mqOf P st o = some q) (hx : ∀ cs b, o.op ≠ .select cs b) : ∀ E a W, Rel B E st G a W → execOp a.eval o = execOp st.rho o := by
  intro E a W R
  have hp : ∀ x v, st.plain x = some v → a.eval x = st.rho x := fun x v hv => by rw [R.plain hv, rho_of hv]
  have hp2 : ∀ x v, optP st x = some v → x.map a.eval = x.map st.rho := fun x v hv => by
    cases x with
    | none => rfl
    | some y =>
      simp only [optP] at hv
      cases hy : st.plain y with
      | none => simp [hy] at hv
      | some w => simp [hp _ _ hy]
  unfold mqOf at h
  split at h
  · rename_i t y hop
    cases hy : st.plain y <;> simp only [hy, reduceCtorEq] at h
    simp only [execOp, hop, hp _ _ hy]
  · rename_i t y i hop
    cases hy : st.plain y <;> cases hi : st.plain i <;> simp only [hy, hi, reduceCtorEq] at h
    simp only [execOp, hop, hp _ _ hy, hp _ _ hi]
  · rename_i t y lo hi hop
    cases hy : st.plain y <;> cases hl : optP st lo <;> cases hh : optP st hi <;> simp only [hy, hl, hh, reduceCtorEq] at h
    simp only [execOp, hop, hp _ _ hy, hp2 _ _ hl, hp2 _ _ hh, Option.map_none]
  · rename_i s d y hop
    cases hy : st.plain y <;> simp only [hy, reduceCtorEq] at h
    simp only [execOp, hop, hp _ _ hy]
  · rename_i op t y z yt hop
    cases hy : st.plain y <;> cases hz : st.plain z <;> simp only [hy, hz, reduceCtorEq] at h
    simp only [execOp, hop, hp _ _ hy, hp _ _ hz]
  · rename_i y i hop
    cases hy : st.plain y <;> simp only [hy, reduceCtorEq] at h
    simp only [execOp, hop, hp _ _ hy]
  · rename_i t y f hop
    cases hy : st.plain y <;> simp only [hy, reduceCtorEq] at h
    simp only [execOp, hop, hp _ _ hy]
  · rename_i t y hop
    cases hy : st.plain y <;> simp only [hy, reduceCtorEq] at h
    simp only [execOp, hop, hp _ _ hy]
  · rename_i t y f hop
    cases hy : st.plain y <;> simp only [hy, reduceCtorEq] at h
    simp only [execOp, hop, hp _ _ hy]
  · rename_i y hop
    cases hy : st.plain y <;> simp only [hy, reduceCtorEq] at h
    simp only [execOp, hop, hp _ _ hy]
  · rename_i t ps hop
    cases hl : partsP st ps.toList with
    | none => simp [hl] at h
    | some l =>
      have e1 : ps.map (fun (i, x) => (i, st.rho x)) = ⟨l⟩ := by apply Array.ext'; simpa using partsP_rho hl
      have e2 : ps.map (fun (i, x) => (i, a.eval x)) = ⟨l⟩ := by apply Array.ext'; simpa using partsP_evalA hp hl
      simp only [execOp, hop, e1, e2]
  · rename_i c hop
    split at h
    · rename_i x' t hc ha ht
      cases hy : st.plain x' <;> simp only [hy, reduceCtorEq] at h
      have e1 : c.args = #[x'] := by apply Array.ext'; simpa using ha
      simp only [execOp, hop]
      unfold resolve
      rw [hc, e1]
      simp only [List.map_toArray, List.map_cons, List.map_nil, hp _ _ hy]
    · cases h
  · cases h

theorem mq_nosel {o : Oper} {q : MQ} (h : mqOf P st o = some q) : ∀ cs b, o.op ≠ .select cs b := by
  intro cs b e; simp [mqOf, e] at h

/-- An operation that asks memory. -/
theorem HOp.rd {p : List Nat × St} {x : Value} (q : MQ) (h : mqAt P ops p = some q) (hr : Rd P B G q x) (k : HOp B P ops (nxt ops p (.v x)) Q G) : HOp B P ops p Q G := by
  unfold mqAt at h
  cases ho : cur ops p with
  | none => simp [ho] at h
  | some o =>
    simp only [ho] at h
    refine HOp.val ho (fun E a W R => ?_) k
    rw [mq_plain h (mq_nosel h) E a W R]
    exact mq_run h (hr.run W R.sees)

/-! ### What lies where -/
/-- These cells lie from a place on. -/
def At (G : GH) (a : Addr) (l : List Value) : Prop := a.spot = none ∧ ∃ L e fr, G a.block = some (.cells ⟨L⟩ e fr) ∧ l = (L.drop a.off).take l.length
def PAt (G : GH) (p : Value) (l : List Value) : Prop := ∃ a, p = .pointer (some a) ∧ At G a l
/-- A slice of n elements of w cells each, that are these. -/
structure Row (G : GH) (v : Value) (w n : Nat) (l : List Value) : Prop where
  len : l.length = n * w
  at_ : (∃ oa c, v = .slice oa 0 c ∧ n = 0) ∨ ∃ a c, v = .slice (some a) n c ∧ n ≤ c ∧ At G a l
def Sb (B : Base) (G G1 : GH) : Prop := G1 = G ∨ G1 = B.G0
theorem Sees.of {G1 : GH} (h : Sees B G W) (hs : Sb B G G1) : ∀ k o, G1 k = some o → W.heap[k]? = some o := by
  rcases hs with rfl | rfl
  · exact h.1
  · exact h.2
theorem add_eq {a : Addr} (h : a.spot = none) (k : Nat) : a.add k = ⟨a.block, a.off + k, none⟩ := by
  obtain ⟨b, o, s⟩ := a; simp only at h; subst h; exact add_none b o k
theorem At.cell {G1 : GH} {a : Addr} {l : List Value} (h : At G1 a l) (hw : ∀ k o, G1 k = some o → W.heap[k]? = some o) {j : Nat} {v : Value} (hj : l[j]? = some v) : W.cell? (a.add j) = some v := by
  obtain ⟨hs, L, e, fr, hb, hl⟩ := h
  rw [add_eq hs, cell_of (hw _ _ hb)]
  rw [hl, List.getElem?_take] at hj
  split at hj
  · rw [List.getElem?_drop] at hj; exact hj
  · cases hj
theorem At.sub {G1 : GH} {a : Addr} {l : List Value} (h : At G1 a l) (k m : Nat) : At G1 (a.add k) ((l.drop k).take m) := by
  obtain ⟨hs, L, e, fr, hb, hl⟩ := h
  rw [add_eq hs]
  refine ⟨rfl, L, e, fr, hb, ?_⟩
  show List.take m (List.drop k l) = List.take (List.take m (List.drop k l)).length (List.drop (a.off + k) L)
  have e1 : l.drop k = (L.drop (a.off + k)).take (l.length - k) := by
    conv => lhs; rw [hl]
    rw [List.drop_take, List.drop_drop]
  rw [List.length_take, List.length_drop, e1, List.take_take]
theorem At.loads {G1 : GH} {a : Addr} {l : List Value} (h : At G1 a l) (hw : ∀ k o, G1 k = some o → W.heap[k]? = some o) : (loadCells a l.length).run P W = .ok ⟨l⟩ W := by
  obtain ⟨hs, L, e, fr, hb, hl⟩ := h
  have ha : a = ⟨a.block, a.off, none⟩ := by cases a; simp only at hs; subst hs; rfl
  rw [ha]
  refine run_loadCells fun j hj => ?_
  rw [cell_of (hw _ _ hb)]
  conv => rhs; rw [hl]
  rw [List.getElem?_take, if_pos hj, List.getElem?_drop]
theorem At.mono {G1 G2 : GH} {a : Addr} {l : List Value} (h : At G1 a l) (hg : GExt G1 G2) : At G2 a l := by
  obtain ⟨hs, L, e, fr, hb, hl⟩ := h; exact ⟨hs, L, e, fr, hg _ _ hb, hl⟩
theorem Row.mono {G1 G2 : GH} {v : Value} {w n : Nat} {l : List Value} (h : Row G1 v w n l) (hg : GExt G1 G2) : Row G2 v w n l :=
  ⟨h.len, h.at_.imp id fun ⟨a, c, h1, h2, h3⟩ => ⟨a, c, h1, h2, h3.mono hg⟩⟩
theorem Row.nil (G : GH) (w : Nat) : Row G (.slice none 0 0) w 0 [] := ⟨by simp, .inl ⟨none, 0, rfl, rfl⟩⟩

/-! ### The answers -/
/-- the address of an element of a slice -/
def ptrAtD (v : Value) (w : Nat) (i : Int) : Value := match v with | .slice (some a) _ _ => .pointer (some (a.add (i.toNat * w))) | _ => undef
noncomputable def ptrAtH : {f : Value → Nat → Int → Value // f = ptrAtD} := Classical.choice ⟨⟨ptrAtD, rfl⟩⟩
/-- the same, for the kernel a name alone -/
noncomputable def ptrAt : Value → Nat → Int → Value := ptrAtH.1
theorem ptrAt_eq : ptrAt = ptrAtD := ptrAtH.2
/-- the address of an element of an array that lies at a pointer -/
def ptrOffD (v : Value) (w : Nat) (i : Int) : Value := match v with | .pointer (some a) => .pointer (some (a.add (i.toNat * w))) | _ => undef
noncomputable def ptrOffH : {f : Value → Nat → Int → Value // f = ptrOffD} := Classical.choice ⟨⟨ptrOffD, rfl⟩⟩
/-- the same, for the kernel a name alone -/
noncomputable def ptrOff : Value → Nat → Int → Value := ptrOffH.1
theorem ptrOff_eq : ptrOff = ptrOffD := ptrOffH.2
/-- some of a slice -/
def subAtD (v : Value) (w lo hi : Nat) : Value := match v with | .slice (some a) _ c => .slice (some (if c = lo then a else a.add (lo * w))) (hi - lo) (c - lo) | .slice none _ c => .slice none (hi - lo) (c - lo) | x => x
noncomputable def subAtH : {f : Value → Nat → Nat → Nat → Value // f = subAtD} := Classical.choice ⟨⟨subAtD, rfl⟩⟩
/-- the same, for the kernel a name alone -/
noncomputable def subAt : Value → Nat → Nat → Nat → Value := subAtH.1
theorem subAt_eq : subAt = subAtD := subAtH.2
/-- an array, as a slice -/
def sliceOfD (v : Value) (n : Nat) : Value := match v with | .pointer (some a) => .slice (some a) n n | _ => undef
noncomputable def sliceOfH : {f : Value → Nat → Value // f = sliceOfD} := Classical.choice ⟨⟨sliceOfD, rfl⟩⟩
/-- the same, for the kernel a name alone -/
noncomputable def sliceOf : Value → Nat → Value := sliceOfH.1
theorem sliceOf_eq : sliceOf = sliceOfD := sliceOfH.2
def strOf (ns : List Int) : ByteArray := ns.foldl (fun r n => r.push (UInt8.ofNat n.toNat)) ByteArray.empty
def bts (ns : List Int) : List Value := ns.map (.int .u8)

theorem Row.ptr {G1 : GH} {v : Value} {w n : Nat} {l : List Value} (h : Row G1 v w n l) {i : Int} (h0 : 0 ≤ i) (h1 : i < n) : PAt G1 (ptrAt v w i) ((l.drop (i.toNat * w)).take w) := by
  rcases h.at_ with ⟨_, _, _, hn⟩ | ⟨a, c, rfl, _, ha⟩
  · omega
  · rw [ptrAt_eq]; exact ⟨_, rfl, ha.sub _ _⟩
theorem PAt.off {G1 : GH} {p : Value} {l : List Value} (h : PAt G1 p l) (w : Nat) (i : Int) : PAt G1 (ptrOff p w i) ((l.drop (i.toNat * w)).take w) := by
  obtain ⟨a, rfl, ha⟩ := h
  rw [ptrOff_eq]; exact ⟨_, rfl, ha.sub _ _⟩
theorem Row.sub {G1 : GH} {v : Value} {w n : Nat} {l : List Value} (h : Row G1 v w n l) {lo hi : Nat} (h1 : lo ≤ hi) (h2 : hi ≤ n) : Row G1 (subAt v w lo hi) w (hi - lo) ((l.drop (lo * w)).take ((hi - lo) * w)) := by
  have hlen : ((l.drop (lo * w)).take ((hi - lo) * w)).length = (hi - lo) * w := by
    rw [List.length_take, List.length_drop, h.len, ← Nat.sub_mul]
    exact Nat.min_eq_left (Nat.mul_le_mul_right _ (by omega))
  refine ⟨hlen, ?_⟩
  rw [subAt_eq]
  rcases h.at_ with ⟨oa, c, rfl, hn⟩ | ⟨a, c, rfl, hc, ha⟩
  · have e : hi - lo = 0 := by omega
    rw [e]
    cases oa with
    | none => exact .inl ⟨none, _, by simp only [subAtD, e]; rfl, rfl⟩
    | some a => exact .inl ⟨_, _, by simp only [subAtD, e]; rfl, rfl⟩
  · refine .inr ⟨_, _, rfl, by omega, ?_⟩
    split
    · rename_i e
      have e0 : hi - lo = 0 := by omega
      rw [e0, Nat.zero_mul, List.take_zero]
      obtain ⟨hs, L, el, fr, hb, hl⟩ := ha
      exact ⟨hs, L, el, fr, hb, by simp⟩
    · exact ha.sub _ _
theorem PAt.row {G1 : GH} {p : Value} {l : List Value} (h : PAt G1 p l) (w n : Nat) (hl : l.length = n * w) : Row G1 (sliceOf p n) w n l := by
  obtain ⟨a, rfl, ha⟩ := h
  rw [sliceOf_eq]; exact ⟨hl, .inr ⟨a, n, rfl, Nat.le_refl _, ha⟩⟩

theorem rd_len {G1 : GH} {t : TypeId} {e : TypeId} {v : Value} {w n : Nat} {l : List Value} (h : Row G1 v w n l) (hu : P.underlying t = some (.slice e)) : Rd P B G (.len t v) (.int .i64 n) := by
  refine ⟨fun W hW => ?_⟩
  rcases h.at_ with ⟨oa, c, rfl, rfl⟩ | ⟨a, c, rfl, _⟩ <;> simp [MQ.sem, Builtin.len_, run_underlying hu, goInt]
def cellsW (P : Program) (e : TypeId) (w : Nat) : Bool := match P.info? e with | some i => Nat.beq i.size w | none => false
theorem size_run {e w : Nat} (h : cellsW P e w = true) (W : World) : (sizeOf e).run P W = .ok w W := by
  unfold cellsW at h
  split at h
  · rename_i i hi
    have := Nat.eq_of_beq_eq_true h
    simp [sizeOf, typeInfo, hi, this]
  · cases h
theorem rd_idx {G1 : GH} {t : TypeId} {e : TypeId} {k : IntKind} {v : Value} {w n : Nat} {l : List Value} {i : Int} (h : Row G1 v w n l) (h0 : 0 ≤ i) (h1 : i < n) (hu : P.underlying t = some (.slice e)) (hw : cellsW P e w = true) :
    Rd P B G (.idx t v (.int k i)) (ptrAt v w i) := by
  refine ⟨fun W hW => ?_⟩
  rcases h.at_ with ⟨_, _, _, rfl⟩ | ⟨a, c, rfl, _⟩
  · omega
  · simp [MQ.sem, Instr.indexAt, asIntOf, run_underlying hu, size_run hw, h0, h1, ptrAt_eq, ptrAtD]
theorem rd_idxA {G1 : GH} {t : TypeId} {e : TypeId} {k : IntKind} {v : Value} {w n : Nat} {l : List Value} {i : Int} (h : PAt G1 v l) (h0 : 0 ≤ i) (h1 : i < n) (hu : P.underlying t = some (.array n e)) (hw : cellsW P e w = true) :
    Rd P B G (.idx t v (.int k i)) (ptrOff v w i) := by
  refine ⟨fun W hW => ?_⟩
  obtain ⟨a, rfl, ha⟩ := h
  simp [MQ.sem, Instr.indexAt, Instr.sureAddr, asIntOf, run_underlying hu, size_run hw, h0, h1, ptrOff_eq, ptrOffD]

/-- Is a variable of this type many cells? -/
def aggT (P : Program) (t : TypeId) : Option Bool := match P.underlying t with | some d => some (isAggD d) | none => none
theorem aggT_run {t : TypeId} {b : Bool} (h : aggT P t = some b) (W : World) : (isAgg t).run P W = .ok b W := by
  unfold aggT at h
  split at h
  · rename_i d hd
    simp only [Option.some.injEq] at h; subst h
    exact isAgg_run hd
  · cases h
theorem rd_load1 {G1 : GH} {t : TypeId} {v x : Value} {l : List Value} (h : PAt G1 v l) (hs : Sb B G G1) (hx : l[0]? = some x) (ha : aggT P t = some false) : Rd P B G (.load t v) x := by
  refine ⟨fun W hW => ?_⟩
  obtain ⟨a, rfl, hat⟩ := h
  have hc := hat.cell (hW.of hs) hx
  have hadd : a.add 0 = a := by rw [add_eq hat.1]; cases a; have := hat.1; simp only at this; subst this; rfl
  rw [hadd] at hc
  show (loadVar t a).run P W = _
  unfold loadVar
  show (Sem.bind (isAgg t) _).run P W = _
  rw [run_bind (aggT_run ha W)]
  simp [load, Sem.run, hc]
theorem rd_loadA {G1 : GH} {t : TypeId} {v : Value} {w : Nat} {l : List Value} (h : PAt G1 v l) (hs : Sb B G G1) (hl : l.length = w) (ha : aggT P t = some true) (hw : cellsW P t w = true) : Rd P B G (.load t v) (.agg ⟨l⟩) := by
  refine ⟨fun W hW => ?_⟩
  obtain ⟨a, rfl, hat⟩ := h
  show (loadVar t a).run P W = _
  unfold loadVar
  show (Sem.bind (isAgg t) _).run P W = _
  rw [run_bind (aggT_run ha W)]
  show (Sem.bind (sizeOf t) _).run P W = _
  rw [run_bind (size_run hw W)]
  show (Sem.bind (loadCells a w) _).run P W = _
  rw [← hl, run_bind (hat.loads (hW.of hs))]; rfl

theorem bound_run {k : IntKind} {i : Int} {y : Nat} {c : BoundsCode} (h0 : 0 ≤ i) (h1 : i ≤ y) (W : World) : (Instr.sliceBound (.int k i) y c).run P W = .ok i.toNat W := by
  simp [Instr.sliceBound, asIntOf, h0, h1]
theorem bounds_none (b : Bool) (n c : Nat) (W : World) : (Instr.sliceBounds b n c none none none).run P W = .ok (0, n, c) W := rfl
theorem bounds_lo {k : IntKind} {i : Int} (b : Bool) {n c : Nat} (h0 : 0 ≤ i) (h1 : i ≤ n) (W : World) : (Instr.sliceBounds b n c (some (.int k i)) none none).run P W = .ok (i.toNat, n, c) W := by
  simp [Instr.sliceBounds, bound_run h0 h1]
theorem bounds_hi {k : IntKind} {i : Int} (b : Bool) {n c : Nat} (h0 : 0 ≤ i) (h1 : i ≤ c) (W : World) : (Instr.sliceBounds b n c none (some (.int k i)) none).run P W = .ok (0, i.toNat, c) W := by
  simp [Instr.sliceBounds, bound_run h0 h1]
theorem bounds_lohi {k k' : IntKind} {i j : Int} (b : Bool) {n c : Nat} (h0 : 0 ≤ i) (h1 : i ≤ j) (h2 : j ≤ c) (W : World) : (Instr.sliceBounds b n c (some (.int k i)) (some (.int k' j)) none).run P W = .ok (i.toNat, j.toNat, c) W := by
  have e : ((j.toNat : Nat) : Int) = j := Int.toNat_of_nonneg (by omega)
  simp [Instr.sliceBounds, bound_run (show 0 ≤ j by omega) h2, bound_run (y := j.toNat) h0 (by omega)]

theorem slice_run {t e : TypeId} {v : Value} {w n lo hi : Nat} {l : List Value} {G1 : GH} {ol oh : Option Value} (h : Row G1 v w n l) (hu : P.underlying t = some (.slice e)) (hw : cellsW P e w = true)
    (hb : ∀ c, n ≤ c → (Instr.sliceBounds true n c ol oh none).run P W = .ok (lo, hi, c) W) (h1 : lo ≤ hi) (h2 : hi ≤ n) :
    (Instr.sliceAt t v ol oh none).run P W = .ok (subAt v w lo hi) W := by
  rw [subAt_eq]
  unfold Instr.sliceAt
  show (Sem.bind (underlying t) _).run P W = _
  rw [run_bind (run_underlying hu W)]
  show (Instr.slice t v ol oh none).run P W = _
  unfold Instr.slice
  show (Sem.bind (underlying t) _).run P W = _
  rw [run_bind (run_underlying hu W)]
  rcases h.at_ with ⟨oa, c, rfl, rfl⟩ | ⟨a, c, rfl, hc, _⟩
  · show (Sem.bind (Instr.sliceBounds true 0 c ol oh none) _).run P W = _
    rw [run_bind (hb c (Nat.zero_le _))]
    show (Sem.bind (sizeOf e) _).run P W = _
    rw [run_bind (size_run hw W)]
    have e1 : hi = 0 := by omega
    have e2 : lo = 0 := by omega
    subst e1; subst e2
    show Result.ok _ W = _
    cases oa with
    | none => simp only [subAtD, Option.map_none, ite_self, Nat.sub_zero]
    | some a =>
      simp only [subAtD]
      congr 2
      split <;> rfl
  · show (Sem.bind (Instr.sliceBounds true n c ol oh none) _).run P W = _
    rw [run_bind (hb c hc)]
    show (Sem.bind (sizeOf e) _).run P W = _
    rw [run_bind (size_run hw W)]
    show Result.ok _ W = _
    simp only [subAtD]
    congr 2
    split <;> rfl
theorem rd_slice {G1 : GH} {t e : TypeId} {v : Value} {w n : Nat} {l : List Value} (h : Row G1 v w n l) (hu : P.underlying t = some (.slice e)) (hw : cellsW P e w = true) : Rd P B G (.slice t v none none) (subAt v w 0 n) :=
  ⟨fun W _ => slice_run h hu hw (fun c _ => bounds_none true n c W) (Nat.zero_le _) (Nat.le_refl _)⟩
theorem rd_sliceL {G1 : GH} {t e : TypeId} {k : IntKind} {v : Value} {w n : Nat} {l : List Value} {i : Int} (h : Row G1 v w n l) (h0 : 0 ≤ i) (h1 : i ≤ n) (hu : P.underlying t = some (.slice e)) (hw : cellsW P e w = true) : Rd P B G (.slice t v (some (.int k i)) none) (subAt v w i.toNat n) :=
  ⟨fun W _ => slice_run h hu hw (fun c _ => bounds_lo true h0 h1 W) (by omega) (Nat.le_refl _)⟩
theorem rd_sliceH {G1 : GH} {t e : TypeId} {k : IntKind} {v : Value} {w n : Nat} {l : List Value} {i : Int} (h : Row G1 v w n l) (h0 : 0 ≤ i) (h1 : i ≤ n) (hu : P.underlying t = some (.slice e)) (hw : cellsW P e w = true) : Rd P B G (.slice t v none (some (.int k i))) (subAt v w 0 i.toNat) :=
  ⟨fun W _ => slice_run h hu hw (fun c hc => bounds_hi true h0 (by omega) W) (Nat.zero_le _) (by omega)⟩
theorem rd_sliceLH {G1 : GH} {t e : TypeId} {k k' : IntKind} {v : Value} {w n : Nat} {l : List Value} {i j : Int} (h : Row G1 v w n l) (h0 : 0 ≤ i) (h1 : i ≤ j) (h2 : j ≤ n) (hu : P.underlying t = some (.slice e)) (hw : cellsW P e w = true) : Rd P B G (.slice t v (some (.int k i)) (some (.int k' j))) (subAt v w i.toNat j.toNat) :=
  ⟨fun W _ => slice_run h hu hw (fun c hc => bounds_lohi true h0 h1 (by omega) W) (by omega) (by omega)⟩
theorem rd_sliceA {G1 : GH} {t e : TypeId} {v : Value} {n w : Nat} {l : List Value} (h : PAt G1 v l) (hu : P.underlying t = some (.array n e)) (hw : cellsW P e w = true) : Rd P B G (.slice t v none none) (sliceOf v n) := by
  refine ⟨fun W _ => ?_⟩
  obtain ⟨a, rfl, hat⟩ := h
  show (Instr.sliceAt t (.pointer (some a)) none none none).run P W = _
  unfold Instr.sliceAt
  show (Sem.bind (underlying t) _).run P W = _
  rw [run_bind (run_underlying hu W)]
  show (Sem.bind (Instr.sureAddr (.pointer (some a))) _).run P W = _
  rw [run_bind (show (Instr.sureAddr (.pointer (some a))).run P W = .ok a W from rfl)]
  show (Sem.bind (Instr.sliceBounds false n n none none none) _).run P W = _
  rw [run_bind (bounds_none false n n W)]
  show (Sem.bind (sizeOf e) _).run P W = _
  rw [run_bind (size_run hw W)]
  have hadd : a.add (0 * w) = a := by rw [Nat.zero_mul, add_eq hat.1]; cases a; have := hat.1; simp only at this; subst this; rfl
  show Result.ok _ W = _
  simp only [sliceOf_eq, sliceOfD, hadd, ite_self, Nat.sub_zero]
theorem rd_str {G1 : GH} {s d e : TypeId} {v : Value} {n : Nat} {ns : List Int} (h : Row G1 v 1 n (bts ns)) (hs : Sb B G G1) (hu : P.underlying s = some (.slice e)) (he : P.underlying e = some (.int .u8)) (hd : P.underlying d = some .string) : Rd P B G (.conv s d v) (.string (strOf ns)) := by
  refine ⟨fun W hW => ?_⟩
  show (convert s d v).run P W = _
  have hlen := h.len
  rcases h.at_ with ⟨oa, c, rfl, rfl⟩ | ⟨a, c, rfl, _, hat⟩
  · rw [run_convert_bytes_string W s d e oa 0 c hu he hd]
    have : ns = [] := by cases ns with | nil => rfl | cons x r => simp [bts] at hlen
    subst this
    cases oa with
    | none => rfl
    | some a => exact run_bytesToString W a 0 c [] rfl
  · rw [run_convert_bytes_string W s d e (some a) n c hu he hd]
    refine run_bytesToString W a n c ns ?_
    have := hat.loads (P := P) (hW.of hs)
    rw [hlen, Nat.mul_one] at this
    rw [this]; simp [bts]

/-- the address of what a slice begins with -/
def basePtrD (v : Value) : Value := match v with | .slice (some a) _ _ => .pointer (some a) | _ => undef
noncomputable def basePtrH : {f : Value → Value // f = basePtrD} := Classical.choice ⟨⟨basePtrD, rfl⟩⟩
/-- the same, for the kernel a name alone -/
noncomputable def basePtr : Value → Value := basePtrH.1
theorem basePtr_eq : basePtr = basePtrD := basePtrH.2
theorem Row.base {G1 : GH} {v : Value} {w n : Nat} {l : List Value} (h : Row G1 v w n l) (h0 : 0 < n) : PAt G1 (basePtr v) l := by
  rcases h.at_ with ⟨_, _, _, hn⟩ | ⟨a, c, rfl, _, ha⟩
  · omega
  · rw [basePtr_eq]; exact ⟨a, rfl, ha⟩
theorem rd_toArr {G1 : GH} {t e : TypeId} {v : Value} {w n m : Nat} {l : List Value} (h : Row G1 v w n l) (h0 : 0 < m) (h1 : m ≤ n) (hu : P.underlying t = some (.array m e)) : Rd P B G (.toArr t v) (basePtr v) := by
  refine ⟨fun W _ => ?_⟩
  rcases h.at_ with ⟨_, _, _, hn⟩ | ⟨a, c, rfl, _, ha⟩
  · omega
  · have : ¬ n < m := by omega
    simp [MQ.sem, Instr.arrayAt, run_underlying hu, this, basePtr_eq, basePtrD]
/-- is a slice nil? -/
def nilSD (v : Value) : Bool := match v with | .slice a _ _ => a.isNone | _ => false
noncomputable def nilSH : {f : Value → Bool // f = nilSD} := Classical.choice ⟨⟨nilSD, rfl⟩⟩
/-- the same, for the kernel a name alone -/
noncomputable def nilS : Value → Bool := nilSH.1
theorem nilS_eq : nilS = nilSD := nilSH.2
theorem rd_nil {G1 : GH} {t e : TypeId} {v : Value} {w n : Nat} {l : List Value} (h : Row G1 v w n l) (hu : P.underlying t = some (.slice e)) : Rd P B G (.bin .eql t v (.slice none 0 0)) (.bool (nilS v)) := by
  refine ⟨fun W _ => ?_⟩
  have key : ∀ oa n' c, v = .slice oa n' c → (binOp .eql t v (.slice none 0 0)).run P W = .ok (.bool (nilS v)) W := by
    rintro oa n' c rfl
    rw [nilS_eq]
    show (Sem.bind (Op.equal t (.slice oa n' c) (.slice none 0 0)) _).run P W = _
    rw [run_bind (run_equal_slice_nil W t e oa n' c hu)]; rfl
  rcases h.at_ with ⟨oa, c, hv, _⟩ | ⟨a, c, hv, _⟩ <;> exact key _ _ _ hv
theorem Row.nil_empty {G1 : GH} {v : Value} {w n : Nat} {l : List Value} (h : Row G1 v w n l) (hn : nilS v = true) : n = 0 ∧ l = [] := by
  have : n = 0 := by
    rcases h.at_ with ⟨_, _, _, hn⟩ | ⟨a, c, rfl, _⟩
    · exact hn
    · simp [nilS_eq, nilSD] at hn
  subst this
  exact ⟨rfl, List.eq_nil_of_length_eq_zero (by simpa using h.len)⟩

/-- Two arrays of bytes are alike if their bytes are. -/
theorem eqEl_bytes {el d : Nat} {i : TypeInfo} (he : P.underlying el = some (.int .u8)) (hs : i.size = 1) : ∀ (m k : Nat) (xs ys : List Int), xs.length = k + m → ys.length = k + m →
    eqEl P (eqV P (d + 1)) el i.size ⟨bts xs⟩ ⟨bts ys⟩ (List.range' k m) = some (decide (xs.drop k = ys.drop k))
  | 0, k, xs, ys, hx, hy => by simp [eqEl, List.drop_of_length_le (show xs.length ≤ k by omega), List.drop_of_length_le (show ys.length ≤ k by omega)]
  | m + 1, k, xs, ys, hx, hy => by
    have hkx : k < xs.length := by omega
    have hky : k < ys.length := by omega
    have ih := eqEl_bytes (d := d) he hs m (k + 1) xs ys (by omega) (by omega)
    rw [List.range'_succ]
    have px : partV P el ⟨bts xs⟩ (k * i.size) = some (.int .u8 xs[k]) := by simp [partV, he, isAggD, hs, bts, hkx]
    have py : partV P el ⟨bts ys⟩ (k * i.size) = some (.int .u8 ys[k]) := by simp [partV, he, isAggD, hs, bts, hky]
    simp only [eqEl, px, py, ih]
    simp only [eqV, he, if_true]
    rw [List.drop_eq_getElem_cons hkx, List.drop_eq_getElem_cons hky]
    congr 1
    rw [Bool.eq_iff_iff]; simp only [Bool.and_eq_true, beq_iff_eq, decide_eq_true_eq, List.cons.injEq]
theorem eq_bytes {t el n : Nat} {xs ys : List Int} (hu : P.underlying t = some (.array n el)) (he : P.underlying el = some (.int .u8)) (hc : cellsW P el 1 = true) (hx : xs.length = n) (hy : ys.length = n) :
    eqV P Op.maxDepth t (.agg ⟨bts xs⟩) (.agg ⟨bts ys⟩) = some (decide (xs = ys)) := by
  unfold cellsW at hc
  split at hc
  · rename_i i hi
    have gen : ∀ d, eqV P (d + 1 + 1) t (.agg ⟨bts xs⟩) (.agg ⟨bts ys⟩) = some (decide (xs = ys)) := fun d => by
      have := eqEl_bytes (P := P) (d := d) (i := i) he (Nat.eq_of_beq_eq_true hc) n 0 xs ys (by omega) (by omega)
      simp only [List.drop_zero] at this
      unfold eqV
      simp only [hu, hi]
      exact this
    exact gen 9998
  · cases hc
theorem rd_eqB {t el n : Nat} {xs ys : List Int} (hx : xs.length = n) (hy : ys.length = n) (hu : P.underlying t = some (.array n el)) (he : P.underlying el = some (.int .u8)) (hc : cellsW P el 1 = true) :
    Rd P B G (.bin .eql t (.agg ⟨bts xs⟩) (.agg ⟨bts ys⟩)) (.bool (decide (xs = ys))) := by
  refine ⟨fun W _ => ?_⟩
  show (Sem.bind (Op.equalIn Op.maxDepth t _ _) _).run P W = _
  rw [run_bind (eqV_run (P := P) (W := W) _ _ _ _ _ (eq_bytes hu he hc hx hy))]; rfl
theorem rd_neB {t el n : Nat} {xs ys : List Int} (hx : xs.length = n) (hy : ys.length = n) (hu : P.underlying t = some (.array n el)) (he : P.underlying el = some (.int .u8)) (hc : cellsW P el 1 = true) :
    Rd P B G (.bin .neq t (.agg ⟨bts xs⟩) (.agg ⟨bts ys⟩)) (.bool (!decide (xs = ys))) := by
  refine ⟨fun W _ => ?_⟩
  show (Sem.bind (Op.equalIn Op.maxDepth t _ _) _).run P W = _
  rw [run_bind (eqV_run (P := P) (W := W) _ _ _ _ _ (eq_bytes hu he hc hx hy))]; rfl

/-! ### Reading in a drawn region -/
def vq (P : Program) (ops : Array Oper) (qs : List Nat) (i : Nat) (p : List Nat × St) : Option MQ :=
  bif memB i qs && !(memB i p.1) && subB (preds ops i) p.1 then
    (match ops[i]? with
     | some o => (match wantS ops p.2 o with
       | some true => bif allPlain p.2 o.op.operands.toList then mqOf P p.2 o else none
       | _ => none)
     | none => none)
  else none
def vdst (ops : Array Oper) (i : Nat) (p : List Nat × St) (s : SV) : List Nat × St := (i :: p.1, p.2.put (match ops[i]? with | some o => o.dst | none => none) s)
theorem Vir.rd {qs : List Nat} (hq : okQ ops qs = true) {p : List Nat × St} {x : Value} (i : Nat) (q : MQ) (h : vq P ops qs i p = some q) (hr : Rd P B G q x) (k : VirP B P ops Q qs (vdst ops i p (.v x)) G) : VirP B P ops Q qs p G := by
  unfold vq at h
  cases hc : (memB i qs && !(memB i p.1) && subB (preds ops i) p.1) with
  | false => simp [hc] at h
  | true =>
    simp only [hc, cond_true] at h
    simp only [Bool.and_eq_true, Bool.not_eq_true'] at hc
    obtain ⟨⟨h1, h2⟩, h3⟩ := hc
    have hiV : i ∉ p.1 := fun e => by rw [memB_iff.2 e] at h2; cases h2
    unfold vdst at k
    cases ho : ops[i]? with
    | none => simp [ho] at h
    | some o =>
      simp only [ho] at h k
      split at h
      · rename_i hw
        cases hp : allPlain p.2 o.op.operands.toList with
        | false => simp [hp] at h
        | true =>
          simp only [hp, cond_true] at h
          exact ⟨Vir.quiet1 hq i (memB_iff.1 h1) hiV (subB_iff.1 h3) ho (.inr ⟨hw, .inr ⟨x, rfl, hp, fun W hs => mq_run h (hr.run W hs)⟩⟩) k.run⟩
      · cases h

/-- an address some cells further -/
def pAddD (v : Value) (k : Nat) : Value := match v with | .pointer (some a) => .pointer (some (a.add k)) | _ => undef
noncomputable def pAddH : {f : Value → Nat → Value // f = pAddD} := Classical.choice ⟨⟨pAddD, rfl⟩⟩
/-- the same, for the kernel a name alone -/
noncomputable def pAdd : Value → Nat → Value := pAddH.1
theorem pAdd_eq : pAdd = pAddD := pAddH.2
theorem PAt.add {G1 : GH} {p : Value} {l : List Value} (h : PAt G1 p l) (k : Nat) : PAt G1 (pAdd p k) (l.drop k) := by
  obtain ⟨a, rfl, ha⟩ := h
  rw [pAdd_eq]
  have := ha.sub k l.length
  rw [List.take_of_length_le (by simp)] at this
  exact ⟨_, rfl, this⟩
theorem PAt.pre {G1 : GH} {p : Value} {l : List Value} (h : PAt G1 p l) (m : Nat) : PAt G1 p (l.take m) := by
  obtain ⟨a, rfl, ha⟩ := h
  have := ha.sub 0 m
  rw [List.drop_zero, add_eq ha.1] at this
  refine ⟨a, rfl, ?_⟩
  have e : (⟨a.block, a.off + 0, none⟩ : Addr) = a := by cases a; have := ha.1; simp only at this; subst this; rfl
  rwa [e] at this
theorem PAt.mono {G1 G2 : GH} {p : Value} {l : List Value} (h : PAt G1 p l) (g : GExt G1 G2) : PAt G2 p l := let ⟨a, h1, h2⟩ := h; ⟨a, h1, h2.mono g⟩
/-- Where a field lies, and how many cells it has. -/
def fieldAt? (P : Program) (t f : Nat) : Option (Nat × Nat × Bool) :=
  match P.underlying t with
  | some (.struct fs) => (match fs[f]? with
    | some fd => (match P.info? fd.type, P.underlying fd.type with | some i, some d => some (fd.offset, i.size, isAggD d) | _, _ => none)
    | none => none)
  | _ => none
theorem fieldAt_spec {t f off w : Nat} {b : Bool} (h : fieldAt? P t f = some (off, w, b)) : ∃ fs fd i d, P.underlying t = some (.struct fs) ∧ fs[f]? = some fd ∧ P.info? fd.type = some i ∧ P.underlying fd.type = some d ∧ fd.offset = off ∧ i.size = w ∧ isAggD d = b := by
  unfold fieldAt? at h
  split at h
  · rename_i fs hu
    split at h
    · rename_i fd hfd
      split at h
      · rename_i i d hi hd
        simp only [Option.some.injEq, Prod.mk.injEq] at h
        exact ⟨fs, fd, i, d, hu, hfd, hi, hd, h.1, h.2.1, h.2.2⟩
      · cases h
    · cases h
  · cases h
theorem rd_faddr {G1 : GH} {t f off w : Nat} {b : Bool} {v : Value} {l : List Value} (h : PAt G1 v l) (hu : fieldAt? P t f = some (off, w + 1, b)) : Rd P B G (.faddr t v f) (pAdd v off) := by
  obtain ⟨fs, fd, i, d, h1, h2, h3, h4, rfl, h6, rfl⟩ := fieldAt_spec hu
  refine ⟨fun W _ => ?_⟩
  obtain ⟨a, rfl, _⟩ := h
  show (Instr.fieldAt t (.pointer (some a)) f).run P W = _
  unfold Instr.fieldAt
  show (Sem.bind (underlying t) _).run P W = _
  rw [run_bind (run_underlying h1 W)]
  simp only [h2]
  show (Sem.bind (Sem.bind (sizeOf fd.type) _) _).run P W = _
  rw [Sem.bind_assoc', run_bind (sizeOf_run h3), h6]
  rw [pAdd_eq]
  rfl
theorem rd_nilck {G1 : GH} {v : Value} {l : List Value} (h : PAt G1 v l) : Rd P B G (.nilck v) v := by
  obtain ⟨a, rfl, _⟩ := h; exact ⟨fun W _ => rfl⟩
theorem rd_fieldA {t f off w : Nat} {l r : List Value} (hu : fieldAt? P t f = some (off, w, true)) (hr : (l.drop off).take w = r) : Rd P B G (.field t (.agg ⟨l⟩) f) (.agg ⟨r⟩) := by
  obtain ⟨fs, fd, i, d, h1, h2, h3, h4, rfl, rfl, h7⟩ := fieldAt_spec hu
  refine ⟨fun W _ => ?_⟩
  show (Instr.field t (.agg ⟨l⟩) f).run P W = _
  unfold Instr.field
  show (Sem.bind (underlying t) _).run P W = _
  rw [run_bind (run_underlying h1 W)]
  simp only [h2]
  show (Sem.bind (asAgg (.agg ⟨l⟩)) _).run P W = _
  rw [run_bind (show (asAgg (.agg ⟨l⟩)).run P W = .ok ⟨l⟩ W from rfl)]
  unfold part
  show (Sem.bind (isAgg fd.type) _).run P W = _
  rw [run_bind (isAgg_run h4), h7]
  show (Sem.bind (sizeOf fd.type) _).run P W = _
  rw [run_bind (sizeOf_run h3)]
  show Result.ok _ W = _
  subst hr
  congr 2
  apply Array.ext'
  simp [List.extract_eq_take_drop]
theorem rd_field1 {t f off w : Nat} {l : List Value} {x : Value} (hu : fieldAt? P t f = some (off, w, false)) (hr : l[off]? = some x) : Rd P B G (.field t (.agg ⟨l⟩) f) x := by
  obtain ⟨fs, fd, i, d, h1, h2, h3, h4, rfl, rfl, h7⟩ := fieldAt_spec hu
  refine ⟨fun W _ => ?_⟩
  show (Instr.field t (.agg ⟨l⟩) f).run P W = _
  unfold Instr.field
  show (Sem.bind (underlying t) _).run P W = _
  rw [run_bind (run_underlying h1 W)]
  simp only [h2]
  show (Sem.bind (asAgg (.agg ⟨l⟩)) _).run P W = _
  rw [run_bind (show (asAgg (.agg ⟨l⟩)).run P W = .ok ⟨l⟩ W from rfl)]
  unfold part
  show (Sem.bind (isAgg fd.type) _).run P W = _
  rw [run_bind (isAgg_run h4), h7]
  have : (⟨l⟩ : Array Value)[fd.offset]? = some x := by simpa using hr
  simp only [Bool.false_eq_true, if_false, this]; rfl

/-! ### The answers, with the types' facts as one test each -/
def slT (P : Program) (t w : Nat) : Bool := match P.underlying t with | some (.slice e) => cellsW P e w | _ => false
def arT (P : Program) (t n w : Nat) : Bool := match P.underlying t with | some (.array m e) => Nat.beq m n && cellsW P e w | _ => false
def u8T (P : Program) (e : Nat) : Bool := match P.underlying e with | some (.int .u8) => true | _ => false
def stT (P : Program) (s d : Nat) : Bool := match P.underlying s, P.underlying d with | some (.slice e), some .string => u8T P e | _, _ => false
def abT (P : Program) (t n : Nat) : Bool := match P.underlying t with | some (.array m e) => Nat.beq m n && u8T P e && cellsW P e 1 | _ => false
theorem slT_spec {t w : Nat} (h : slT P t w = true) : ∃ e, P.underlying t = some (.slice e) ∧ cellsW P e w = true := by
  unfold slT at h; split at h
  · rename_i e he; exact ⟨e, he, h⟩
  · cases h
theorem arT_spec {t n w : Nat} (h : arT P t n w = true) : ∃ e, P.underlying t = some (.array n e) ∧ cellsW P e w = true := by
  unfold arT at h; split at h
  · rename_i m e he
    simp only [Bool.and_eq_true] at h
    have := Nat.eq_of_beq_eq_true h.1; subst this; exact ⟨e, he, h.2⟩
  · cases h
theorem u8T_spec {e : Nat} (h : u8T P e = true) : P.underlying e = some (.int .u8) := by
  unfold u8T at h; split at h
  · assumption
  · cases h
theorem abT_spec {t n : Nat} (h : abT P t n = true) : ∃ e, P.underlying t = some (.array n e) ∧ P.underlying e = some (.int .u8) ∧ cellsW P e 1 = true := by
  unfold abT at h; split at h
  · rename_i m e he
    simp only [Bool.and_eq_true] at h
    have := Nat.eq_of_beq_eq_true h.1.1; subst this; exact ⟨e, he, u8T_spec h.1.2, h.2⟩
  · cases h
section
variable {G1 : GH} {t s d w n : Nat} {v x : Value} {k k' : IntKind} {l : List Value} {i j : Int}
theorem qlen (h : Row G1 v w n l) (hu : slT P t w = true := by kernel_rfl) : Rd P B G (.len t v) (.int .i64 n) := let ⟨_, hu, _⟩ := slT_spec hu; rd_len h hu
theorem qidx (h : Row G1 v w n l) (h0 : 0 ≤ i) (h1 : i < n) (hu : slT P t w = true := by kernel_rfl) : Rd P B G (.idx t v (.int k i)) (ptrAt v w i) := let ⟨_, hu, hw⟩ := slT_spec hu; rd_idx h h0 h1 hu hw
theorem qidxA (n w : Nat) (h : PAt G1 v l) (h0 : 0 ≤ i) (h1 : i < n) (hu : arT P t n w = true := by kernel_rfl) : Rd P B G (.idx t v (.int k i)) (ptrOff v w i) := let ⟨_, hu, hw⟩ := arT_spec hu; rd_idxA h h0 h1 hu hw
theorem qload (h : PAt G1 v l) (hx : l[0]? = some x) (hs : Sb B G G1 := by first | exact .inl rfl | exact .inr rfl) (ha : aggT P t = some false := by kernel_rfl) : Rd P B G (.load t v) x := rd_load1 h hs hx ha
theorem qloadA (w : Nat) (h : PAt G1 v l) (hl : l.length = w) (hs : Sb B G G1 := by first | exact .inl rfl | exact .inr rfl) (ha : aggT P t = some true := by kernel_rfl) (hw : cellsW P t w = true := by kernel_rfl) : Rd P B G (.load t v) (.agg ⟨l⟩) := rd_loadA h hs hl ha hw
theorem qslice (h : Row G1 v w n l) (hu : slT P t w = true := by kernel_rfl) : Rd P B G (.slice t v none none) (subAt v w 0 n) := let ⟨_, hu, hw⟩ := slT_spec hu; rd_slice h hu hw
theorem qsliceL (h : Row G1 v w n l) (h0 : 0 ≤ i) (h1 : i ≤ n) (hu : slT P t w = true := by kernel_rfl) : Rd P B G (.slice t v (some (.int k i)) none) (subAt v w i.toNat n) := let ⟨_, hu, hw⟩ := slT_spec hu; rd_sliceL h h0 h1 hu hw
theorem qsliceH (h : Row G1 v w n l) (h0 : 0 ≤ i) (h1 : i ≤ n) (hu : slT P t w = true := by kernel_rfl) : Rd P B G (.slice t v none (some (.int k i))) (subAt v w 0 i.toNat) := let ⟨_, hu, hw⟩ := slT_spec hu; rd_sliceH h h0 h1 hu hw
theorem qsliceLH (h : Row G1 v w n l) (h0 : 0 ≤ i) (h1 : i ≤ j) (h2 : j ≤ n) (hu : slT P t w = true := by kernel_rfl) : Rd P B G (.slice t v (some (.int k i)) (some (.int k' j))) (subAt v w i.toNat j.toNat) := let ⟨_, hu, hw⟩ := slT_spec hu; rd_sliceLH h h0 h1 h2 hu hw
theorem qsliceA (n w : Nat) (h : PAt G1 v l) (hu : arT P t n w = true := by kernel_rfl) : Rd P B G (.slice t v none none) (sliceOf v n) := let ⟨_, hu, hw⟩ := arT_spec hu; rd_sliceA h hu hw
theorem qstr {ns : List Int} (h : Row G1 v 1 n (bts ns)) (hs : Sb B G G1 := by first | exact .inl rfl | exact .inr rfl) (hu : stT P s d = true := by kernel_rfl) : Rd P B G (.conv s d v) (.string (strOf ns)) := by
  unfold stT at hu; split at hu
  · rename_i e h1 h2; exact rd_str h hs h1 (u8T_spec hu) h2
  · cases hu
theorem qtoArr (m : Nat) (h : Row G1 v w n l) (h0 : 0 < m) (h1 : m ≤ n) (hu : arT P t m w = true := by kernel_rfl) : Rd P B G (.toArr t v) (basePtr v) := let ⟨_, hu, _⟩ := arT_spec hu; rd_toArr h h0 h1 hu
theorem qnil (h : Row G1 v w n l) (hu : slT P t w = true := by kernel_rfl) : Rd P B G (.bin .eql t v (.slice none 0 0)) (.bool (nilS v)) := let ⟨_, hu, _⟩ := slT_spec hu; rd_nil h hu
theorem qeqB (n : Nat) {xs ys : List Int} (hx : xs.length = n) (hy : ys.length = n) (hu : abT P t n = true := by kernel_rfl) : Rd P B G (.bin .eql t (.agg ⟨bts xs⟩) (.agg ⟨bts ys⟩)) (.bool (decide (xs = ys))) := let ⟨_, h1, h2, h3⟩ := abT_spec hu; rd_eqB hx hy h1 h2 h3
theorem qneB (n : Nat) {xs ys : List Int} (hx : xs.length = n) (hy : ys.length = n) (hu : abT P t n = true := by kernel_rfl) : Rd P B G (.bin .neq t (.agg ⟨bts xs⟩) (.agg ⟨bts ys⟩)) (.bool (!decide (xs = ys))) := let ⟨_, h1, h2, h3⟩ := abT_spec hu; rd_neB hx hy h1 h2 h3
end
/-! bytes -/
theorem bts_take (k : Nat) (xs : List Int) : (bts xs).take k = bts (xs.take k) := by simp [bts, List.map_take]
theorem bts_drop (k : Nat) (xs : List Int) : (bts xs).drop k = bts (xs.drop k) := by simp [bts, List.map_drop]
theorem bts_append (xs ys : List Int) : bts xs ++ bts ys = bts (xs ++ ys) := by simp [bts]
theorem bts_length (xs : List Int) : (bts xs).length = xs.length := by simp [bts]
theorem bts_get (xs : List Int) (k : Nat) : (bts xs)[k]? = (xs[k]?).map (.int .u8) := by simp [bts]
theorem bts_one {u : Value} {xs : List Int} (h : u ∈ bts xs) : u.oneCell' = true := by
  simp only [bts, List.mem_map] at h; obtain ⟨n, _, rfl⟩ := h; rfl
end
end Go.Proofs.Ytoiacgfhjikddaa.Vc
