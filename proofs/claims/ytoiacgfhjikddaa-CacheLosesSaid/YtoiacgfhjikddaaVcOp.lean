/- The calculus, second part: what one operation does to a symbolic frame, and that the model's own step does it. -/
import Derived.Test.YtoiacgfhjikddaaVc
import Derived.Laws.Sem
namespace Go.Proofs.Ytoiacgfhjikddaa.Vc
open Go.RowKit

/-! ### Operations on plain values: the model's own definition, where it asks nothing of memory -/
def pv {α : Type} (P : Program) : Sem α → Option α
  | .pure a => some a
  | .program k => pv P (k P)
  | _ => none
theorem pv_run {α : Type} {P : Program} {s : Sem α} {x : α} (W : World) (h : pv P s = some x) : s.run P W = .ok x W := by
  induction s with
  | pure a => simp only [pv, Option.some.injEq] at h; subst h; rfl
  | program k ih => exact ih P h
  | _ => simp [pv] at h

def St.plain (st : St) (x : Operand) : Option Value := match st.ev x with | some s => s.pl | none => none
def St.rho (st : St) (x : Operand) : Value := match st.plain x with | some y => y | none => undef
def allPlain (st : St) : List Operand → Bool
  | [] => true
  | x :: r => (st.plain x).isSome && allPlain st r
def isSelect : Op → Bool
  | .select .. => true
  | _ => false
def evPure (P : Program) (st : St) (o : Oper) : Option Value :=
  bif isSelect o.op then none else bif allPlain st o.op.operands.toList then
    (match pv P (execOp st.rho o) with | some (.value x) => some x | _ => none) else none

theorem allPlain_mem {st : St} : ∀ {l : List Operand}, allPlain st l = true → ∀ x ∈ l, ∃ y, st.plain x = some y
  | [], _, x, hx => by cases hx
  | z :: r, h, x, hx => by
    simp only [allPlain, Bool.and_eq_true] at h
    rcases List.mem_cons.1 hx with rfl | hx
    · exact Option.isSome_iff_exists.1 h.1
    · exact allPlain_mem h.2 x hx

section
variable {B : Base} {E : Env} {st : St} {G : GH} {a : Act} {W : World} {P : Program} {o : Oper}

theorem Rel.plain (R : Rel B E st G a W) {x : Operand} {y : Value} (h : st.plain x = some y) : a.eval x = y := by
  unfold St.plain at h
  cases hs : st.ev x with
  | none => simp [hs] at h
  | some s => simp only [hs] at h; rw [R.ev hs]; exact SV.pl_den h

theorem evPure_run (R : Rel B E st G a W) {x : Value} (h : evPure P st o = some x) : (execOp a.eval o).run P W = .ok (.value x) W := by
  unfold evPure at h
  cases hsel : isSelect o.op with
  | true => simp [hsel] at h
  | false =>
    cases hall : allPlain st o.op.operands.toList with
    | false => simp [hsel, hall] at h
    | true =>
      simp only [hsel, hall, cond_true, cond_false] at h
      have e : execOp a.eval o = execOp st.rho o := by
        refine execOp_congr o (fun cs b e => by simp [e, isSelect] at hsel) fun x hx => ?_
        obtain ⟨y, hy⟩ := allPlain_mem hall x (by simpa using hx)
        rw [R.plain hy]; simp [St.rho, hy]
      rw [e]
      split at h
      · rename_i y hy; simp only [Option.some.injEq] at h; subst h; exact pv_run W hy
      · simp at h

/-! ### Cells of a block -/
theorem add_none (b o k : Nat) : (⟨b, o, none⟩ : Addr).add k = ⟨b, o + k, none⟩ := by
  unfold Addr.add; split
  · rename_i h; subst h; rfl
  · rfl
theorem cell_of {W : World} {b : Nat} {l : List Value} {t : Nat} {fr : Nat × Nat} (h : W.heap[b]? = some (.cells ⟨l⟩ t fr)) (k : Nat) : W.cell? ⟨b, k, none⟩ = l[k]? := by
  simp [World.cell?, h]

theorem run_bind {α β : Type} {P : Program} {s : Sem α} {f : α → Sem β} {W W' : World} {x : α} (h : s.run P W = .ok x W') : (s.bind f).run P W = (f x).run P W' := by
  have := Sem.run_bind' P s f W
  rw [h] at this; exact this

theorem run_loadFrom {W : World} {b o : Nat} : ∀ (n i : Nat) (acc : Array Value) (vs : List Value), vs.length = n → (∀ j, j < n → W.cell? ⟨b, o + (i + j), none⟩ = vs[j]?) →
    (loadCellsFrom ⟨b, o, none⟩ i n acc).run P W = .ok (acc ++ vs.toArray) W
  | 0, i, acc, vs, hl, _ => by
    have : vs = [] := List.length_eq_zero_iff.1 hl
    subst this; simp [loadCellsFrom, pure, Sem.run]
  | n + 1, i, acc, vs, hl, h => by
    obtain ⟨x, r, rfl⟩ : ∃ x r, vs = x :: r := by cases vs with | nil => simp at hl | cons x r => exact ⟨x, r, rfl⟩
    have h0 := h 0 (by omega)
    simp only [Nat.add_zero, List.getElem?_cons_zero] at h0
    have hl0 : (load (Addr.add ⟨b, o, none⟩ i)).run P W = .ok x W := by
      rw [add_none]; simp [load, Sem.run, h0]
    have := run_loadFrom (W := W) (b := b) (o := o) n (i + 1) (acc.push x) r (by simpa using hl) (fun j hj => by
      have := h (j + 1) (by omega)
      rw [show i + 1 + j = i + (j + 1) by omega]; simpa using this)
    show (Sem.bind (load (Addr.add ⟨b, o, none⟩ i)) _).run P W = _
    rw [run_bind hl0, this]; simp

theorem run_loadCells {W : World} {b o : Nat} {vs : List Value} (h : ∀ j, j < vs.length → W.cell? ⟨b, o + j, none⟩ = vs[j]?) :
    (loadCells ⟨b, o, none⟩ vs.length).run P W = .ok ⟨vs⟩ W := by
  unfold loadCells
  rw [run_loadFrom vs.length 0 #[] vs rfl (fun j hj => by rw [Nat.zero_add]; exact h j hj)]; simp

/-- A list with some places written. -/
def setAll {α : Type} : List α → Nat → List α → List α
  | l, _, [] => l
  | l, k, x :: r => setAll (l.set k x) (k + 1) r
theorem setAll_length {α : Type} : ∀ (vs l : List α) (k : Nat), (setAll l k vs).length = l.length
  | [], _, _ => rfl
  | x :: r, l, k => by simp [setAll, setAll_length r]
theorem setAll_mid {α : Type} (A C : List α) : ∀ (vs l : List α) (k : Nat), k + vs.length ≤ l.length → setAll (A ++ l ++ C) (A.length + k) vs = A ++ setAll l k vs ++ C
  | [], l, k, _ => rfl
  | x :: r, l, k, h => by
    simp only [List.length_cons] at h
    have : (A ++ l ++ C).set (A.length + k) x = A ++ l.set k x ++ C := by
      rw [List.append_assoc, List.set_append_right _ _ (by omega), List.set_append_left _ _ (by omega), ← List.append_assoc, Nat.add_sub_cancel_left]
    simp only [setAll, this]
    rw [show A.length + k + 1 = A.length + (k + 1) by omega]
    exact setAll_mid A C r (l.set k x) (k + 1) (by simp; omega)
theorem setAll_map {α β : Type} (f : α → β) : ∀ (vs l : List α) (k : Nat), (setAll l k vs).map f = setAll (l.map f) k (vs.map f)
  | [], _, _ => rfl
  | x :: r, l, k => by simp [setAll, setAll_map f r]

structure Wrote (W W' : World) (b : Nat) (o : Obj) : Prop where
  at_ : W'.heap[b]? = some o
  other : ∀ k, k ≠ b → W'.heap[k]? = W.heap[k]?
  size : W'.heap.size = W.heap.size
  os : W'.os = W.os
  tape : W'.tape = W.tape
  output : W'.output = W.output

def oneC : Value → Bool
  | .agg _ => false
  | .tuple _ => false
  | _ => true
theorem one_agg {x : Value} : oneC x = true → (∀ cs, x ≠ .agg cs) ∧ (∀ cs, x ≠ .tuple cs) := by cases x <;> simp [oneC]

theorem run_store1 {W : World} {b k : Nat} {l : List Value} {t : Nat} {x : Value} (hb : W.heap[b]? = some (.cells ⟨l⟩ t (0, 0))) (hk : k < l.length) (hx : oneC x = true) :
    (store ⟨b, k, none⟩ x).run P W = .ok () (W.setCell ⟨b, k, none⟩ x) := by
  have h1 := (one_agg hx).1
  have h2 := (one_agg hx).2
  have hc : W.cell? ⟨b, k, none⟩ = some l[k] := by rw [cell_of hb]; simp [hk]
  have hf : W.frozen? ⟨b, k, none⟩ = false := by simp [World.frozen?, hb]
  cases x <;> first | (exact absurd rfl (h1 _)) | (exact absurd rfl (h2 _)) | simp [store, Sem.run, hc, hf]

theorem wrote_set {W : World} {b k : Nat} {l : List Value} {t : Nat} {x : Value} (hb : W.heap[b]? = some (.cells ⟨l⟩ t (0, 0))) :
    Wrote W (W.setCell ⟨b, k, none⟩ x) b (.cells ⟨l.set k x⟩ t (0, 0)) := by
  refine ⟨?_, fun j hj => ?_, ?_, rfl, rfl, rfl⟩
  · simp only [World.setCell, Array.getElem?_modify, if_true, hb]; simp
  · simp only [World.setCell, Array.getElem?_modify]; rw [if_neg (fun e => hj e.symm)]
  · simp [World.setCell]

theorem run_storeCells {b o t : Nat} : ∀ (vs : List Value) (i : Nat) (W : World) (l : List Value), W.heap[b]? = some (.cells ⟨l⟩ t (0, 0)) → o + i + vs.length ≤ l.length → (∀ x ∈ vs, oneC x = true) →
    ∃ W', (storeCells ⟨b, o, none⟩ vs i).run P W = .ok () W' ∧ Wrote W W' b (.cells ⟨setAll l (o + i) vs⟩ t (0, 0))
  | [], i, W, l, hb, _, _ => ⟨W, by simp [storeCells, pure, Sem.run], hb, fun _ _ => rfl, rfl, rfl, rfl, rfl⟩
  | x :: r, i, W, l, hb, hl, h1 => by
    simp only [List.length_cons] at hl
    have hs := run_store1 (P := P) hb (k := o + i) (by omega) (h1 x (by simp))
    have hw := wrote_set (k := o + i) (x := x) hb
    obtain ⟨W', hr, hw'⟩ := run_storeCells (b := b) (o := o) (t := t) r (i + 1) _ _ hw.at_ (by simp; omega) (fun y hy => h1 y (by simp [hy]))
    refine ⟨W', ?_, ?_⟩
    · show (Sem.bind (store (Addr.add ⟨b, o, none⟩ i) x) _).run P W = _
      rw [add_none, run_bind hs]; exact hr
    · have e : setAll l (o + i) (x :: r) = setAll (l.set (o + i) x) (o + (i + 1)) r := rfl
      rw [e]
      exact ⟨hw'.at_, fun k hk => (hw'.other k hk).trans (hw.other k hk), hw'.size.trans hw.size, hw'.os.trans hw.os, hw'.tape.trans hw.tape, hw'.output.trans hw.output⟩

end

end Go.Proofs.Ytoiacgfhjikddaa.Vc
