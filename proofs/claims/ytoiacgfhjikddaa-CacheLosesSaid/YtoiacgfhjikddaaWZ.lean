/- Operations under whatever fence, whatever is deferred: those that write nothing, a new variable, a store. -/
import Derived.Test.YtoiacgfhjikddaaWV
import Derived.Test.YtoiacgfhjikddaaProg
import Derived.RangeFuncNested
import Derived.RangeFuncBound
import Derived.RangeFuncCalls
import Derived.RangeFuncLeaves
set_option linter.unusedSimpArgs false
set_option linter.unusedVariables false
namespace Go.Proofs.Ytoiacgfhjikddaa.W
open Go.RowKit Vc

/-- What is known of a world: a part of memory. -/
def cxG (W : World) (G : GH) : Cx := ⟨default_env, 0, 0, fun _ => undef, fun _ => 0, fun _ => 0, view W, G⟩
def SubH (G : GH) (W : World) : Prop := ∀ k o, G k = some o → W.heap[k]? = some o
def baseG (W : World) (G : GH) (h : SubH G W) : Base := ⟨W, G, default_env, 0, fun k o hk => (Array.getElem?_eq_some_iff.1 (h k o hk)).1⟩
def asG (n : Nat) (tm : List (Nat × AV)) : AS := { n := n, tm := tm, fr := [], lo := [], ow := [], nx := 0 }
theorem relG {W : World} {G : GH} (h : SubH G W) {n : Nat} {tm : List (Nat × AV)} {a : Act} (hn : a.tmps.size = n) (hd : a.defers = []) (ht : tmR (cxG W G) tm a.tmps) : RelA (baseG W G h) (cxG W G) [] [] (asG n tm) a [] W := by
  refine ⟨⟨hn, hd, fun k s hk => by simp [St.get, lookup] at hk, Nat.le_refl _, fun i l hi => by simp at hi, fun i hi => by simp at hi, fun i j hi => by simp at hi, fun i h1 h2 => by simp at h2, fun i hi => absurd hi (Nat.not_lt_zero i), h, fun _ _ => rfl, fun _ _ _ => rfl, rfl, rfl, rfl, Nat.le_refl _, Owns.nil⟩, rfl, rfl, rfl, rfl, fun m hm => ?_, ht, rfl, rfl, rfl⟩
  exact absurd hm (Nat.not_lt_zero m)
theorem tmR.nil {C : Cx} {t : Array Value} : tmR C [] t := fun k x h => by cases h
theorem tmR.cons {C : Cx} {t : Array Value} {k : Nat} {x : AV} {tm : List (Nat × AV)} {v : Value} (h : t[k]? = some v) (hr : Rep C x v) (r : tmR C tm t) : tmR C ((k, x) :: tm) t := fun j y hj => by
  rw [lookA_cons] at hj
  by_cases e : k = j
  · subst e
    rw [if_pos rfl] at hj; injection hj with hj; subst hj
    exact ⟨v, h, hr⟩
  · rw [if_neg e] at hj; exact r j y hj

section
variable {F : Fence} {n : Nat} {P : Program} {ops : Array Oper} {Q : Exit → Act → World → Prop} {ds : List Deferred} {W : World} {B : Base} {C : Cx} {LO : List Vc.Loc} {OW : List OwnV} {sus : List Act}

/-- Operations that write nothing, in order. -/
def quietL (P : Program) (ops : Array Oper) : List Nat → AS → List Bool × AS
  | [], s => ([], s)
  | i :: r, s => match ops[i]? with
    | some o => (match o.guard with
      | none => (match evQ P s o with
        | some (b, a) => (b :: (quietL P ops r (s.put o.dst a)).1, (quietL P ops r (s.put o.dst a)).2)
        | none => ([false], s))
      | some _ => ([false], s))
    | none => ([false], s)
theorem put_df {a : Act} {d : Option Nat} {v : Value} : (⟨a.tmps, ds⟩ : Act).put d v = ⟨(a.put d v).tmps, ds⟩ := by cases d <;> rfl
theorem eval_df {a : Act} : (⟨a.tmps, ds⟩ : Act).eval = a.eval := by funext x; cases x <;> rfl
theorem opIn {a : Act} {i : Nat} {r : List Nat} {o : Oper} (hF : ∀ f, F.fn f) (ho : ops[i]? = some o) (hg : o.guard = none) (hd : ∀ c, o.op ≠ .defer c)
    (h : o.uponIn F n P a (wpOpsIn F n P ops Q r) Q ((execOp a.eval o).run P W)) : wpOpsIn F n P ops Q (i :: r) a W := by
  simp only [wpOpsIn, ho]
  rw [if_pos (by simp [Region.wanted, hg])]
  refine ⟨fun f _ => hF f, ?_⟩
  rw [Oper.semAt_eq _ _ _ hd]; exact h
theorem quietIn (hF : ∀ f, F.fn f) {r : List Nat} : ∀ (l : List Nat) (s : AS) (a : Act), RelA B C LO OW s a sus W → (∀ b ∈ (quietL P ops l s).1, b = true) →
    (∀ a', RelA B C LO OW (quietL P ops l s).2 a' sus W → wpOpsIn F n P ops Q r ⟨a'.tmps, ds⟩ W) → wpOpsIn F n P ops Q (l ++ r) ⟨a.tmps, ds⟩ W
  | [], s, a, R, _, hk => hk a R
  | i :: l, s, a, R, hb, hk => by
    cases ho : ops[i]? with
    | none => simp [quietL, ho] at hb
    | some o =>
      cases hg : o.guard with
      | some g => simp [quietL, ho, hg] at hb
      | none =>
        cases hq : evQ P s o with
        | none => simp [quietL, ho, hg, hq] at hb
        | some ba =>
          obtain ⟨b, z⟩ := ba
          simp only [quietL, ho, hg, hq] at hb hk
          obtain ⟨v, h1, h2⟩ := evQ_ok (P := P) R hq (hb b (by simp))
          refine opIn hF ho hg (fun c hc => by rw [evQ, hc] at hq; cases hq) ?_
          rw [eval_df, h1.run]
          show wpOpsIn F n P ops Q (l ++ r) ((⟨a.tmps, ds⟩ : Act).put o.dst v) W
          rw [put_df]
          exact quietIn hF l _ _ (R.put o.dst h2) (fun b' hb' => hb b' (by simp [hb'])) hk
theorem quietAll (hF : ∀ f, F.fn f) {L l r : List Nat} (e : L = l ++ r) (s : AS) {a : Act} (hd : a.defers = ds) (R : RelA B C LO OW s ⟨a.tmps, []⟩ sus W) (bs : List Bool) (h : (quietL P ops l s).1 = bs) (hb : ∀ b ∈ bs, b = true)
    (hk : ∀ a', RelA B C LO OW (quietL P ops l s).2 a' sus W → wpOpsIn F n P ops Q r ⟨a'.tmps, ds⟩ W) : wpOpsIn F n P ops Q L a W := by
  subst e
  have := quietIn (n := n) (Q := Q) (ds := ds) (r := r) hF l s _ R (by rw [h]; exact hb) hk
  rw [show a = ⟨a.tmps, ds⟩ by rw [← hd]]
  exact this
theorem quiet0 (hF : ∀ f, F.fn f) {L l r : List Nat} (e : L = l ++ r) {s : AS} {a : Act} (R : RelA B C LO OW s a sus W) (bs : List Bool) (h : (quietL P ops l s).1 = bs) (hb : ∀ b ∈ bs, b = true)
    (hk : ∀ a', RelA B C LO OW (quietL P ops l s).2 a' sus W → wpOpsIn F n P ops Q r a' W) : wpOpsIn F n P ops Q L a W := by
  have hd := R.rel.df
  refine quietAll (ds := []) hF e s hd (by rw [← hd]; exact R) bs h hb fun a' R' => ?_
  have := hk a' R'
  rw [← R'.rel.df]; exact this
theorem yield_run {o : Oper} {a : Act} {k : Call} {x : Operand} {l : Nat} (ho : o.op = .call k) (hc : k.callee = .value x) (hx : a.eval x = .func (.yield l) #[] #[]) : (execOp a.eval o).run P W = (Instr.yield l (k.args.map a.eval)).run P W := by
  simp only [execOp, ho]
  show (Sem.bind (resolve a.eval k o.type) _).run P W = _
  have hres : resolve a.eval k o.type = .pure { target := .fn (.yield l) #[], args := #[] ++ k.args.map a.eval } := by
    unfold resolve; rw [hc]; simp only [hx]; rfl
  rw [hres, run_bind rfl]
  show (Instr.yield l _).run P W = _
  simp
/-- A variable is laid. -/
theorem allocIn {a : Act} {i : Nat} {r : List Nat} {o : Oper} {t : Nat} {cs : List AV} (hF : ∀ f, F.fn f) (ho : ops[i]? = some o) (hg : o.guard = none) (hop : o.op = .alloc t) (hz : zeroA P 9 t = some cs)
    (hk : ∀ vs : List Value, vs.length = widths cs → wpOpsIn F n P ops Q r (a.put o.dst (.pointer (some ⟨W.heap.size, 0, none⟩))) { W with heap := W.heap.push (.cells ⟨vs⟩ t) }) : wpOpsIn F n P ops Q (i :: r) a W := by
  obtain ⟨inf, z, hi, hz, hr⟩ := zeroA_ok (C := cxG W (fun _ => none)) hz
  refine opIn hF ho hg (fun c hc => by rw [hop] at hc; cases hc) ?_
  have e : (execOp a.eval o).run P W = .ok (.value (.pointer (some ⟨W.heap.size, 0, none⟩))) { W with heap := W.heap.push (.cells ⟨z.cells.toList⟩ t) } := by
    simp only [execOp, hop]
    show (Sem.bind (Sem.bind (Sem.bind (typeInfo t) _) _) _).run P W = _
    rw [Sem.bind_assoc', Sem.bind_assoc', run_bind (typeInfo_run hi)]
    simp only [hz]; rfl
  rw [e]
  exact hk _ hr.len
/-- A store. -/
theorem storeIn {a : Act} {i : Nat} {r : List Nat} {o : Oper} {t : Nat} {x y : Operand} {inf : TypeInfo} {b off e : Nat} {us l : List Value} (hF : ∀ f, F.fn f) (ho : ops[i]? = some o) (hg : o.guard = none) (hop : o.op = .store t x y) (hi : P.info? t = some inf)
    (hx : a.eval x = .pointer (some ⟨b, off, none⟩)) (hy : (a.eval y).cells = ⟨us⟩) (hl : us.length = inf.size) (hb : W.heap[b]? = some (.cells ⟨l⟩ e (0, 0))) (hle : off + us.length ≤ l.length) (h1 : ∀ u ∈ us, oneC u = true)
    (hk : ∀ W', Wrote W W' b (.cells ⟨setAll l off us⟩ e (0, 0)) → wpOpsIn F n P ops Q r (a.put o.dst undef) W') : wpOpsIn F n P ops Q (i :: r) a W := by
  obtain ⟨W', hrun, hw⟩ := run_storeCells (P := P) (b := b) (o := off) (t := e) us 0 W _ hb (by omega) h1
  rw [Nat.add_zero] at hw
  refine opIn hF ho hg (fun c hc => by rw [hop] at hc; cases hc) ?_
  have e : (execOp a.eval o).run P W = .ok .skip W' := store_skip hop (by rw [hx]; exact run_storeAt hi hy hl hrun)
  rw [e]
  exact hk _ hw
end
end Go.Proofs.Ytoiacgfhjikddaa.W
