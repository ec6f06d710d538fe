/- The calculus, third part: the evaluation of an operation on a symbolic frame, and its proof against the model. -/
import Derived.Test.YtoiacgfhjikddaaVcOp
import Derived.Laws.StructEq
namespace Go.Proofs.Ytoiacgfhjikddaa.Vc
open Go.RowKit

def isAggD : TypeDesc → Bool
  | .struct _ => true
  | .array _ _ => true
  | _ => false

def evs (st : St) : List Operand → Option (List SV)
  | [] => some []
  | x :: r => match st.ev x with | some s => (match evs st r with | some l => some (s :: l) | none => none) | none => none

def allOne : List SV → Bool
  | [] => true
  | s :: r => s.one && allOne r

def evPut (P : Program) (st : St) (o : Oper) : Option SV := match evPure P st o with | some x => some (.v x) | none => none

def evBox (st : St) (d : Option Nat) (t : Nat) (cs : List SV) : Option St :=
  bif st.sc && SV.scs st.lo.length cs then some (({ n := st.n, tm := st.tm, lo := st.lo ++ [⟨cs, t⟩], ow := st.ow } : St).put d (.lp st.lo.length 0)) else none

def peek (P : Program) (lo : List Loc) (t i off : Nat) : Option SV :=
  match lo[i]?, P.underlying t with
  | some l, some ds =>
    (bif isAggD ds then
      (match P.info? t with
       | some inf => bif Nat.ble (off + inf.size) l.cells.length then some (.ag ((l.cells.drop off).take inf.size)) else none
       | none => none)
    else l.cells[off]?)
  | _, _ => none
def evStore (P : Program) (st : St) (d : Option Nat) (t i off : Nat) (s : SV) : Option St :=
  match st.lo[i]?, s.cells, P.info? t with
  | some l, some cs, some inf =>
    (bif allOne cs && Nat.beq cs.length inf.size && Nat.ble (off + cs.length) l.cells.length then
      some (({ n := st.n, tm := st.tm, lo := st.lo.set i ⟨setAll l.cells off cs, l.elem⟩, ow := st.ow } : St).put d (.v undef)) else none)
  | _, _, _ => none

def evField (P : Program) (t i off f : Nat) : Option SV :=
  match P.underlying t with
  | some (.struct fs) =>
    (match fs[f]? with
     | some fd => (match P.info? fd.type with | some inf => bif Nat.beq inf.size 0 then none else some (.lp i (off + fd.offset)) | none => none)
     | none => none)
  | _ => none

def evIndex (P : Program) (t i off : Nat) : Value → Option SV
  | .int _ (.ofNat j) =>
    (match P.underlying t with
     | some (.array len el) => (match P.info? el with | some inf => bif Nat.blt j len then some (.lp i (off + j * inf.size)) else none | none => none)
     | _ => none)
  | _ => none

/-! ### '==' of structs and arrays of plain cells -/
def partV (P : Program) (t : Nat) (cs : Array Value) (off : Nat) : Option Value :=
  match P.underlying t with
  | some d => (bif isAggD d then (match P.info? t with | some i => some (.agg (cs.extract off (off + i.size))) | none => none) else cs[off]?)
  | none => none
def eqFs (P : Program) (rec : Nat → Value → Value → Option Bool) (xs ys : Array Value) : List Field → Option Bool
  | [] => some true
  | f :: r =>
    bif f.name == "_" then eqFs P rec xs ys r else
    (match partV P f.type xs f.offset, partV P f.type ys f.offset with
     | some a, some b => (match rec f.type a b, eqFs P rec xs ys r with | some p, some q => some (p && q) | _, _ => none)
     | _, _ => none)
def eqEl (P : Program) (rec : Nat → Value → Value → Option Bool) (el n : Nat) (xs ys : Array Value) : List Nat → Option Bool
  | [] => some true
  | i :: r =>
    (match partV P el xs (i * n), partV P el ys (i * n) with
     | some a, some b => (match rec el a b, eqEl P rec el n xs ys r with | some p, some q => some (p && q) | _, _ => none)
     | _, _ => none)
def eqV (P : Program) : Nat → Nat → Value → Value → Option Bool
  | 0, _, _, _ => none
  | d + 1, t, x, y =>
    match P.underlying t with
    | some .bool => (match x, y with | .bool a, .bool b => some (a == b) | _, _ => none)
    | some (.int _) => (match x, y with | .int k a, .int k' b => if k = k' then some (a == b) else none | _, _ => none)
    | some (.struct fs) => (match x, y with | .agg xs, .agg ys => bif P.stoodInHeld t then none else eqFs P (eqV P d) xs ys fs.toList | _, _ => none)
    | some (.array len el) => (match x, y, P.info? el with | .agg xs, .agg ys, some i => eqEl P (eqV P d) el i.size xs ys (List.range' 0 len) | _, _, _ => none)
    | _ => none
/-- '==' or '!=' of two aggregates. -/
def evEq (P : Program) (op : BinOp) (t : Nat) (x y : Value) : Option SV :=
  match x, y with
  | .agg _, .agg _ =>
    bif P.eqGuardType P.depth t then none else
    (match op, eqV P Op.maxDepth t x y with
     | .eql, some b => some (.v (.bool b))
     | .neq, some b => some (.v (.bool !b))
     | _, _ => none)
  | _, _ => none
def isAggV : Value → Bool
  | .agg _ => true
  | _ => false

/-- The value of an operation that leaves the world as it is. -/
def evQ (P : Program) (st : St) (o : Oper) : Option SV :=
  match o.op with
  | .move x => st.ev x
  | .assign x => st.ev x
  | .pick c x y =>
    (match st.ev c, st.ev x, st.ev y with
     | some (.v (.bool c)), some (.v (.bool x)), some (.v (.bool y)) => some (.v (.bool (cond c x y)))
     | some (.v (.bool true)), some s, _ => some s
     | some (.v (.bool false)), _, some s => some s
     | _, _, _ => none)
  | .load t x => (match st.ev x with | some (.lp i off) => peek P st.lo t i off | _ => none)
  | .fieldAddr t x f => (match st.ev x with | some (.lp i off) => evField P t i off f | _ => evPut P st o)
  | .indexAddr t x ix => (match st.ev x with | some (.lp i off) => (match st.plain ix with | some n => evIndex P t i off n | none => none) | _ => evPut P st o)
  | .nilCheck x => (match st.ev x with | some (.lp i off) => some (.lp i off) | some (.fn f c) => some (.fn f c) | _ => evPut P st o)
  | .extract x k => (match st.ev x with | some (.tup vs) => vs[k]? | _ => evPut P st o)
  | .makeFunc (.func f) first caps =>
    (match first.toList, evs st caps.toList with
     | [], some l => some (.fn f l)
     | _, _ => none)
  | .binOp op t x y _ =>
    (match st.plain x, st.plain y with
     | some a, some b => bif isAggV a then evEq P op t a b else evPut P st o
     | _, _ => none)
  | .box _ _ => none
  | .alloc _ => none
  | .store _ _ _ => none
  | _ => evPut P st o

def evOp (P : Program) (st : St) (o : Oper) : Option St :=
  match o.op with
  | .box t x => (match st.ev x with | some s => (match s.cells with | some cs => evBox st o.dst t cs | none => none) | none => none)
  | .alloc t => (match P.info? t with | some inf => (match inf.zero with | some z => evBox st o.dst t (z.cells.toList.map .v) | none => none) | none => none)
  | .store t x y => (match st.ev x, st.ev y with | some (.lp i off), some s => evStore P st o.dst t i off s | _, _ => none)
  | _ => (match evQ P st o with | some s => some (st.put o.dst s) | none => none)

section
variable {B : Base} {E : Env} {st st' : St} {G : GH} {a : Act} {W : World} {P : Program} {o : Oper}

theorem underlying_run {t : Nat} {d : TypeDesc} (h : P.underlying t = some d) : (underlying t).run P W = .ok d W :=
  pv_run W (by show pv P (match P.underlying t with | some d => pure d | none => stuck "no such type") = _; rw [h]; rfl)
theorem typeInfo_run {t : Nat} {i : TypeInfo} (h : P.info? t = some i) : (typeInfo t).run P W = .ok i W :=
  pv_run W (by show pv P (match P.info? t with | some i => pure i | none => stuck "no such type") = _; rw [h]; rfl)
theorem sizeOf_run {t : Nat} {i : TypeInfo} (h : P.info? t = some i) : (sizeOf t).run P W = .ok i.size W := by
  show (Sem.bind (typeInfo t) _).run P W = _
  rw [run_bind (typeInfo_run h)]; rfl
theorem isAgg_run {t : Nat} {d : TypeDesc} (h : P.underlying t = some d) : (isAgg t).run P W = .ok (isAggD d) W := by
  show (Sem.bind (underlying t) _).run P W = _
  rw [run_bind (underlying_run h)]
  cases d <;> rfl

theorem sc_lookup {n : Nat} : ∀ {tm : List (Nat × SV)} {k : Nat} {s : SV}, scT n tm = true → lookup tm k = some s → s.sc n = true
  | (j, t) :: r, k, s, h, hk => by
    simp only [scT, Bool.and_eq_true] at h
    simp only [lookup] at hk
    cases e : Nat.beq j k with
    | true => rw [e] at hk; simp at hk; subst hk; exact h.1
    | false => rw [e] at hk; simp at hk; exact sc_lookup h.2 hk
theorem sc_loc {n : Nat} : ∀ {lo : List Loc} {i : Nat} {l : Loc}, scL n lo = true → lo[i]? = some l → SV.scs n l.cells = true
  | x :: r, 0, l, h, hi => by
    simp only [scL, Bool.and_eq_true] at h
    simp at hi; subst hi; exact h.1
  | x :: r, i + 1, l, h, hi => by
    simp only [scL, Bool.and_eq_true] at h
    exact sc_loc h.2 (by simpa using hi)

theorem Rel.lt (R : Rel B E st G a W) {i : Nat} (hi : i < st.lo.length) : E.id i < W.heap.size := by
  obtain ⟨l, hl⟩ : ∃ l, st.lo[i]? = some l := ⟨st.lo[i], List.getElem?_eq_getElem hi⟩
  have := R.lo i l hl
  rcases Nat.lt_or_ge (E.id i) W.heap.size with h | h
  · exact h
  · rw [Array.getElem?_eq_none h] at this; cases this

/-- A new local block. -/
theorem Rel.newLoc (R : Rel B E st G a W) (hs : st.sc = true) {cs : List SV} {t : Nat} (hc : SV.scs st.lo.length cs = true) :
    Rel B (E.upd st.lo.length W.heap.size) { n := st.n, tm := st.tm, lo := st.lo ++ [⟨cs, t⟩], ow := st.ow } G a { W with heap := W.heap.push (.cells ⟨SV.dens E cs⟩ t) } := by
  simp only [St.sc, Bool.and_eq_true] at hs
  obtain ⟨h1, h2⟩ := hs
  have hid : ∀ i, i < st.lo.length → (E.upd st.lo.length W.heap.size).id i = E.id i := fun i hi => by simp [Env.upd, Nat.ne_of_lt hi]
  have hpre : ∀ i, i < st.lo.length → (E.upd st.lo.length W.heap.size).pre i = E.pre i := fun i hi => by simp [Env.upd, Nat.ne_of_lt hi]
  have hpost : ∀ i, i < st.lo.length → (E.upd st.lo.length W.heap.size).post i = E.post i := fun i hi => by simp [Env.upd, Nat.ne_of_lt hi]
  have hnew : (E.upd st.lo.length W.heap.size).id st.lo.length = W.heap.size := by simp [Env.upd]
  have hpush : ∀ (o : Obj) k, k < W.heap.size → (W.heap.push o)[k]? = W.heap[k]? := fun o k hk => by rw [Array.getElem?_push, if_neg (by omega)]
  have hGn : ∀ k, W.heap.size ≤ k → G k = none := fun k hk => by
    cases hg : G k with
    | none => rfl
    | some o => have := R.sub k o hg; rw [Array.getElem?_eq_none hk] at this; cases this
  refine { R with
    size := R.size
    df := R.df
    tm := fun k s hk => ?_
    ml := by have := R.ml; simp; omega
    lo := fun i l hi => ?_
    hid := fun i hi => ?_
    inj := fun i j hi hj hij => ?_
    own := fun i h1 h2 => ?_
    agr := fun i hi => ?_
    sub := fun k o hk => ?_
    ext := fun k hk hn => ?_
    sz := ?_
    ows := R.ows.of (Nat.le_refl _) (fun o ho b hb => hpush _ _ ((R.ows.at_ o ho).lt hb).1) R.ows.hid fun o ho b hb i hi => ?_ }
  · rw [SV.den_upd (sc_lookup h1 hk)]; exact R.tm k s hk
  · rcases Nat.lt_or_ge i st.lo.length with hlt | hge
    · rw [List.getElem?_append_left hlt] at hi
      rw [hid i hlt, hpre i hlt, hpost i hlt, SV.dens_upd (sc_loc h2 hi)]
      show (W.heap.push _)[E.id i]? = _
      rw [hpush _ _ (R.lt hlt)]; exact R.lo i l hi
    · rw [List.getElem?_append_right hge] at hi
      have : i = st.lo.length := by
        rcases Nat.lt_or_ge (i - st.lo.length) 1 with h | h
        · omega
        · rw [List.getElem?_eq_none (by simpa using h)] at hi; cases hi
      subst this
      simp at hi; subst hi
      rw [hnew]
      show (W.heap.push _)[W.heap.size]? = _
      rw [Array.getElem?_push, if_pos rfl, SV.dens_upd hc]
      simp [Env.upd]
  · rcases Nat.lt_or_ge i st.lo.length with hlt | hge
    · rw [hid i hlt]; exact R.hid i hlt
    · have : i = st.lo.length := by simp at hi; omega
      subst this; rw [hnew]; exact hGn _ (Nat.le_refl _)
  · simp only [List.length_append, List.length_cons, List.length_nil] at hi hj
    rcases Nat.lt_or_ge i st.lo.length with hlt | hge <;> rcases Nat.lt_or_ge j st.lo.length with hlt' | hge'
    · rw [hid i hlt, hid j hlt'] at hij; exact R.inj i j hlt hlt' hij
    · have e : j = st.lo.length := by omega
      subst e; rw [hid i hlt, hnew] at hij; have := R.lt hlt; omega
    · have e : i = st.lo.length := by omega
      subst e; rw [hid j hlt', hnew] at hij; have := R.lt hlt'; omega
    · omega
  · simp only [List.length_append, List.length_cons, List.length_nil] at h2
    rcases Nat.lt_or_ge i st.lo.length with hlt | hge
    · rw [hid i hlt]; exact R.own i h1 hlt
    · have e : i = st.lo.length := by omega
      subst e; rw [hnew]; exact R.sz
  · have hlt : i < st.lo.length := Nat.lt_of_lt_of_le hi R.ml
    rw [hid i hlt, hpre i hlt, hpost i hlt]; exact R.agr i hi
  · have hlt : k < W.heap.size := by
      rcases Nat.lt_or_ge k W.heap.size with h | h
      · exact h
      · rw [hGn k h] at hk; cases hk
    show (W.heap.push _)[k]? = _
    rw [hpush _ _ hlt]; exact R.sub k o hk
  · show (W.heap.push _)[k]? = _
    rw [hpush _ _ (Nat.lt_of_lt_of_le hk R.sz)]; exact R.ext k hk hn
  · have := R.sz; simp; omega
  · simp only [List.length_append, List.length_cons, List.length_nil] at hi
    rcases Nat.lt_or_ge i st.lo.length with hlt | hge
    · rw [hid i hlt]; exact R.ows.loc o ho b hb i hlt
    · have e : i = st.lo.length := by omega
      subst e; rw [hnew]; exact Nat.ne_of_gt ((R.ows.at_ o ho).lt hb).1

/-- A write into a local block. -/
theorem Rel.wrote (R : Rel B E st G a W) {i : Nat} {l : Loc} (hl : st.lo[i]? = some l) {cs : List SV} {W' : World}
    (hw : Wrote W W' (E.id i) (.cells ⟨E.pre i ++ SV.dens E cs ++ E.post i⟩ l.elem (0, 0))) :
    Rel B E { n := st.n, tm := st.tm, lo := st.lo.set i ⟨cs, l.elem⟩, ow := st.ow } G a W' := by
  have hi : i < st.lo.length := (List.getElem?_eq_some_iff.1 hl).1
  refine { R with
    size := R.size
    df := R.df
    tm := R.tm
    ml := by have := R.ml; simpa using this
    lo := fun j m hj => ?_
    hid := fun j hj => R.hid j (by simpa using hj)
    inj := fun j k hj hk => R.inj j k (by simpa using hj) (by simpa using hk)
    own := fun j h1 h2 => R.own j h1 (by simpa using h2)
    sub := fun k o hk => ?_
    ext := fun k hk hn => ?_
    os := hw.os.trans R.os
    tape := hw.tape.trans R.tape
    output := hw.output.trans R.output
    sz := by rw [hw.size]; exact R.sz
    ows := R.ows.of (Nat.le_refl _) (fun o ho b hb => hw.other b fun e => R.ows.loc o ho b hb i hi e.symm) R.ows.hid fun o ho b hb j hj => R.ows.loc o ho b hb j (by simpa using hj) }
  · rw [List.getElem?_set] at hj
    by_cases e : i = j
    · subst e; simp [hi] at hj; subst hj; exact hw.at_
    · simp [e] at hj
      have hj' : j < st.lo.length := (List.getElem?_eq_some_iff.1 hj).1
      rw [hw.other _ (fun h => e (R.inj _ _ hj' hi h).symm)]; exact R.lo j m hj
  · have : k ≠ E.id i := fun e => by subst e; rw [R.hid i hi] at hk; cases hk
    rw [hw.other k this]; exact R.sub k o hk
  · have : k ≠ E.id i := fun e => by
      rcases Nat.lt_or_ge i B.m0 with h | h
      · exact hn i h (by rw [← (R.agr i h).1]; exact e.symm)
      · have := R.own i h hi; omega
    rw [hw.other k this]; exact R.ext k hk hn

/-- What a step of an operation comes to. -/
def Did (B : Base) (P : Program) (a : Act) (W : World) (o : Oper) (st' : St) (G : GH) : Prop :=
  ∃ E' nx u W', (execOp a.eval o).run P W = .ok nx W' ∧ (nx = .value u ∨ (nx = .skip ∧ u = undef)) ∧ Rel B E' st' G (a.put o.dst u) W'

/-- An operation that yields a value and leaves the world. -/
def Val (E : Env) (P : Program) (a : Act) (W : World) (o : Oper) (s : SV) : Prop := (execOp a.eval o).run P W = .ok (.value (s.den E)) W

theorem val_put (R : Rel B E st G a W) {s : SV} (h : evPut P st o = some s) : Val E P a W o s := by
  unfold evPut at h
  split at h
  · rename_i x hx; simp only [Option.some.injEq] at h; subst h
    exact evPure_run R hx
  · cases h

theorem did_val (R : Rel B E st G a W) {s : SV} (hr : Val E P a W o s) : Did B P a W o (st.put o.dst s) G :=
  ⟨E, _, _, W, hr, .inl rfl, R.put _ rfl⟩

theorem did_box (R : Rel B E st G a W) {t : Nat} {cs : List SV} {y : Value} (hy : y.cells.toList = SV.dens E cs) (h : evBox st o.dst t cs = some st')
    (hr : (execOp a.eval o).run P W = .ok (.value (.pointer (some ⟨W.heap.size, 0, none⟩))) { W with heap := W.heap.push (.cells y.cells t) }) : Did B P a W o st' G := by
  unfold evBox at h
  cases hc : st.sc && SV.scs st.lo.length cs with
  | false => simp [hc] at h
  | true =>
    simp only [hc, cond_true, Option.some.injEq] at h; subst h
    simp only [Bool.and_eq_true] at hc
    have R' := R.newLoc hc.1 (t := t) hc.2
    have e : y.cells = ⟨SV.dens E cs⟩ := by rw [← hy]
    rw [← e] at R'
    refine ⟨_, _, _, _, hr, .inl rfl, R'.put o.dst ?_⟩
    simp [SV.den, Env.upd]

theorem loc_cell (R : Rel B E st G a W) {i : Nat} {l : Loc} (hl : st.lo[i]? = some l) {j : Nat} (hj : j < l.cells.length) :
    W.cell? ⟨E.id i, (E.pre i).length + j, none⟩ = (l.cells[j]?).map (SV.den E) := by
  rw [cell_of (R.lo i l hl), List.append_assoc, List.getElem?_append_right (by omega), Nat.add_sub_cancel_left, List.getElem?_append_left (by rw [SV.dens_length]; exact hj), SV.dens_get]

theorem peek_run (R : Rel B E st G a W) {t i off : Nat} {s : SV} (h : peek P st.lo t i off = some s) : (loadVar t ⟨E.id i, (E.pre i).length + off, none⟩).run P W = .ok (s.den E) W := by
  unfold peek at h
  split at h
  · rename_i l ds hl hd
    cases hagg : isAggD ds with
    | true =>
      simp only [hagg, cond_true] at h
      split at h
      · rename_i inf hinf
        cases hle : Nat.ble (off + inf.size) l.cells.length with
        | false => simp [hle] at h
        | true =>
          simp only [hle, cond_true, Option.some.injEq] at h; subst h
          have hle' : off + inf.size ≤ l.cells.length := Nat.le_of_ble_eq_true hle
          have hlen : ((l.cells.drop off).take inf.size).length = inf.size := by simp; omega
          have hcells := run_loadCells (P := P) (W := W) (b := E.id i) (o := (E.pre i).length + off) (vs := SV.dens E ((l.cells.drop off).take inf.size)) (fun j hj => by
            rw [SV.dens_length, hlen] at hj
            rw [Nat.add_assoc, loc_cell R hl (by omega), SV.dens_get, List.getElem?_take, if_pos hj, List.getElem?_drop])
          rw [SV.dens_length, hlen] at hcells
          show (Sem.bind (isAgg t) _).run P W = _
          rw [run_bind (isAgg_run hd), hagg]
          show (Sem.bind (sizeOf t) _).run P W = _
          rw [run_bind (sizeOf_run hinf)]
          show (Sem.bind (loadCells _ _) _).run P W = _
          rw [run_bind hcells]; rfl
      · cases h
    | false =>
      simp only [hagg, cond_false] at h
      have hlt : off < l.cells.length := (List.getElem?_eq_some_iff.1 h).1
      show (Sem.bind (isAgg t) _).run P W = _
      rw [run_bind (isAgg_run hd), hagg]
      have := loc_cell R hl hlt
      rw [h] at this
      simp [load, Sem.run, this]
  · cases h

theorem val_load (R : Rel B E st G a W) {t i off : Nat} {x : Operand} {s : SV} (ho : o.op = .load t x) (hx : st.ev x = some (.lp i off)) (h : peek P st.lo t i off = some s) : Val E P a W o s := by
  have hrun : (execOp a.eval o).run P W = ((Instr.loadAt t (a.eval x)).bind (fun v => .pure (.value v))).run P W := by simp only [execOp, ho]; rfl
  unfold Val
  rw [hrun, R.ev hx]
  exact (run_bind (peek_run R h)).trans rfl

theorem one_den {E : Env} : ∀ {s : SV}, s.one = true → oneC (s.den E) = true
  | .v x, h => by cases x <;> simp [SV.one, SV.den, oneC] at *
  | .lp _ _, _ => rfl
  | .fn _ _, _ => rfl
theorem allOne_den {E : Env} : ∀ {l : List SV}, allOne l = true → ∀ x ∈ SV.dens E l, oneC x = true
  | [], _, x, hx => by cases hx
  | s :: r, h, x, hx => by
    simp only [allOne, Bool.and_eq_true] at h
    simp only [SV.dens, List.mem_cons] at hx
    rcases hx with rfl | hx
    · exact one_den h.1
    · exact allOne_den h.2 x hx

theorem did_store (R : Rel B E st G a W) {t i off : Nat} {x y : Operand} {s : SV} (ho : o.op = .store t x y) (hx : st.ev x = some (.lp i off)) (hy : st.ev y = some s) (h : evStore P st o.dst t i off s = some st') : Did B P a W o st' G := by
  unfold evStore at h
  split at h
  · rename_i l cs inf hl hcs hinf
    cases hb : (allOne cs && Nat.beq cs.length inf.size && Nat.ble (off + cs.length) l.cells.length) with
    | false => simp [hb] at h
    | true =>
      simp only [hb, cond_true, Option.some.injEq] at h; subst h
      simp only [Bool.and_eq_true] at hb
      obtain ⟨⟨h1, h2⟩, h3⟩ := hb
      have h2' : cs.length = inf.size := Nat.eq_of_beq_eq_true h2
      have h3' : off + cs.length ≤ l.cells.length := Nat.le_of_ble_eq_true h3
      obtain ⟨W', hr, hw⟩ := run_storeCells (P := P) (b := E.id i) (o := (E.pre i).length + off) (t := l.elem) (SV.dens E cs) 0 W _ (R.lo i l hl) (by simp [SV.dens_length]; omega) (allOne_den h1)
      rw [Nat.add_zero, setAll_mid _ _ _ _ _ (by simp [SV.dens_length]; omega)] at hw
      have e : setAll (SV.dens E l.cells) off (SV.dens E cs) = SV.dens E (setAll l.cells off cs) := by simp [SV.dens_map, setAll_map]
      rw [e] at hw
      refine ⟨E, .skip, undef, W', ?_, .inr ⟨rfl, rfl⟩, (R.wrote hl hw).put o.dst rfl⟩
      have hrun : (execOp a.eval o).run P W = ((Instr.storeAt t (a.eval x) (a.eval y)).bind (fun _ => .pure .skip)).run P W := by simp only [execOp, ho]; rfl
      rw [R.ev hx, R.ev hy] at hrun
      rw [hrun]
      refine (run_bind (x := ()) (W' := W') ?_).trans rfl
      show (storeVar t ⟨E.id i, (E.pre i).length + off, none⟩ (s.den E)).run P W = _
      show (Sem.bind (sizeOf t) _).run P W = _
      rw [run_bind (sizeOf_run hinf)]
      have hsz : (s.den E).cells.toList = SV.dens E cs := SV.cells_den hcs
      have hsz' : (s.den E).cells.size = inf.size := by
        rw [← Array.length_toList, hsz, SV.dens_length]; exact h2'
      simp only [hsz', ne_eq, not_true_eq_false, if_false, hsz]
      exact hr
  · cases h

theorem val_field (R : Rel B E st G a W) {t i off f : Nat} {x : Operand} {s : SV} (ho : o.op = .fieldAddr t x f) (hx : st.ev x = some (.lp i off)) (h : evField P t i off f = some s) : Val E P a W o s := by
  unfold evField at h; unfold Val
  split at h
  · rename_i fs hu
    split at h
    · rename_i fd hfd
      split at h
      · rename_i inf hinf
        cases hb : Nat.beq inf.size 0 with
        | true => simp [hb] at h
        | false =>
          simp only [hb, cond_false, Option.some.injEq] at h; subst h
          have hne : inf.size ≠ 0 := fun e => by rw [e] at hb; simp at hb
          have hrun : (execOp a.eval o).run P W = ((Instr.fieldAt t (a.eval x) f).bind (fun v => .pure (.value v))).run P W := by simp only [execOp, ho]; rfl
          rw [hrun, R.ev hx]
          refine run_bind ?_ |>.trans rfl
          show (Sem.bind (underlying t) _).run P W = _
          rw [run_bind (underlying_run hu)]
          simp only [hfd]
          show (Sem.bind (sizeOf fd.type) _ |>.bind _).run P W = _
          rw [Sem.bind_assoc', run_bind (sizeOf_run hinf)]
          simp only [hne, if_false]
          show Result.ok (Value.pointer (some (Addr.add ⟨E.id i, (E.pre i).length + off, none⟩ fd.offset))) W = _
          rw [add_none, Nat.add_assoc]; rfl
      · cases h
    · cases h
  · cases h

theorem val_index (R : Rel B E st G a W) {t i off : Nat} {x ix : Operand} {n : Value} {s : SV} (ho : o.op = .indexAddr t x ix) (hx : st.ev x = some (.lp i off)) (hn : st.plain ix = some n) (h : evIndex P t i off n = some s) : Val E P a W o s := by
  unfold evIndex at h; unfold Val
  split at h
  · rename_i k j
    split at h
    · rename_i len el hu
      split at h
      · rename_i inf hinf
        cases hb : Nat.blt j len with
        | false => simp [hb] at h
        | true =>
          simp only [hb, cond_true, Option.some.injEq] at h; subst h
          have hlt : j < len := blt_iff.1 hb
          have hrun : (execOp a.eval o).run P W = ((Instr.indexAt t (a.eval x) (a.eval ix)).bind (fun v => .pure (.value v))).run P W := by simp only [execOp, ho]; rfl
          rw [hrun, R.ev hx, R.plain hn]
          refine run_bind ?_ |>.trans rfl
          show (Sem.bind (underlying t) _).run P W = _
          rw [run_bind (underlying_run hu)]
          show (Sem.bind (underlying t) _).run P W = _
          rw [run_bind (underlying_run hu)]
          show ((if 0 ≤ (Int.ofNat j) ∧ Int.ofNat j < (len : Int) then _ else _ : Sem Value)).run P W = _
          rw [if_pos ⟨Int.natCast_nonneg _, Int.ofNat_lt.2 hlt⟩]
          show (Sem.bind (sizeOf el) _).run P W = _
          rw [run_bind (sizeOf_run hinf)]
          show Result.ok (Value.pointer (some (Addr.add ⟨E.id i, (E.pre i).length + off, none⟩ (j * inf.size)))) W = _
          rw [add_none, Nat.add_assoc]; rfl
      · cases h
    · cases h
  · cases h

theorem evs_den (R : Rel B E st G a W) : ∀ {l : List Operand} {r : List SV}, evs st l = some r → l.map a.eval = SV.dens E r
  | [], r, h => by cases h; rfl
  | x :: l, r, h => by
    cases hx : st.ev x with
    | none => simp [evs, hx] at h
    | some s =>
      cases hl : evs st l with
      | none => simp [evs, hx, hl] at h
      | some q => simp [evs, hx, hl] at h; subst h; simp [SV.dens, R.ev hx, evs_den R hl]

theorem part_run {t : Nat} {cs : Array Value} {off : Nat} {v : Value} (h : partV P t cs off = some v) : (part t cs off).run P W = .ok v W := by
  unfold partV at h
  split at h
  · rename_i d hd
    show (Sem.bind (isAgg t) _).run P W = _
    rw [run_bind (isAgg_run hd)]
    cases ha : isAggD d with
    | true =>
      simp only [ha, cond_true] at h
      split at h
      · rename_i i hi
        simp only [Option.some.injEq] at h; subst h
        show (Sem.bind (sizeOf t) _).run P W = _
        rw [run_bind (sizeOf_run hi)]; rfl
      · cases h
    | false =>
      simp only [ha, cond_false] at h
      simp only [Bool.false_eq_true, if_false, h]; rfl
  · cases h

theorem eqV_run : ∀ (d t : Nat) (x y : Value) (b : Bool), eqV P d t x y = some b → (Op.equalIn d t x y).run P W = .ok b W
  | 0, _, _, _, _, h => by simp [eqV] at h
  | d + 1, t, x, y, b, h => by
    simp only [eqV] at h
    split at h
    · rename_i hu
      split at h
      · simp only [Option.some.injEq] at h; subst h; exact run_equalIn_bool W d t _ _ hu
      · cases h
    · rename_i k hu
      split at h
      · split at h
        · rename_i hk; subst hk; simp only [Option.some.injEq] at h; subst h; exact run_equalIn_int W d t _ _ _ _ hu
        · cases h
      · cases h
    · rename_i fs hu
      split at h
      · rename_i xs ys
        cases hp : P.stoodInHeld t with
        | true => simp [hp] at h
        | false =>
          simp only [hp, cond_false] at h
          have hf : P.fieldsOf t = fs := by simp [Program.fieldsOf, hu]
          rw [run_equalIn_struct W d t xs ys (by rw [hf]; exact hu) hp, hf]
          clear hf hu
          generalize fs.toList = l at h
          induction l generalizing b with
          | nil => simp only [eqFs, Option.some.injEq] at h; subst h; rfl
          | cons f r ih =>
            simp only [eqFs] at h
            cases hn : f.name == "_" with
            | true =>
              rw [hn] at h; simp only [cond_true] at h
              have hn' : ¬ (f.name ≠ "_") := by simpa using hn
              rw [Op.eqFields, if_neg hn']; exact ih b h
            | false =>
              rw [hn] at h; simp only [cond_false] at h
              have hn' : f.name ≠ "_" := by simpa using hn
              split at h
              · rename_i a c ha hc
                split at h
                · rename_i p q hp' hq
                  simp only [Option.some.injEq] at h; subst h
                  rw [Op.eqFields, if_pos hn']
                  show (Sem.bind (part f.type xs f.offset) _).run P W = _
                  rw [run_bind (part_run ha)]
                  show (Sem.bind (part f.type ys f.offset) _).run P W = _
                  rw [run_bind (part_run hc)]
                  show (Sem.bind (Op.equalIn d f.type a c) _).run P W = _
                  rw [run_bind (eqV_run d f.type a c p hp')]
                  cases p with
                  | false => rfl
                  | true => exact ih q hq
                · cases h
              · cases h
      · cases h
    · rename_i len el hu
      split at h
      · rename_i xs ys i hi
        simp only [Op.equalIn, Sem.run_bind, underlying_run hu, Result.andThen_ok, sizeOf_run hi]
        simp only [Std.Legacy.Range.forIn_eq_forIn_range']
        have hsz : (Std.Legacy.Range.size [:len]) = len := by simp [Std.Legacy.Range.size]
        rw [hsz]
        generalize List.range' 0 len = l at h ⊢
        have key : ∀ (l : List Nat) (b : Bool), eqEl P (eqV P d) el i.size xs ys l = some b → ∃ r : Option Bool, (match r with | some r => r | none => true) = b ∧
            (forIn l ((none : Option Bool), ()) fun (j : Nat) (_ : Option Bool × Unit) => do
              let __do_lift ← part el xs (j * i.size)
              let __do_lift_1 ← part el ys (j * i.size)
              let __do_lift ← Op.equalIn d el __do_lift __do_lift_1
              if (!__do_lift) = true then pure (ForInStep.done ((some false : Option Bool), ())) else pure (ForInStep.yield ((none : Option Bool), ())) : Sem (Option Bool × Unit)).run P W = .ok (r, ()) W := by
          intro l
          induction l with
          | nil => intro b h; simp only [eqEl, Option.some.injEq] at h; subst h; exact ⟨none, rfl, rfl⟩
          | cons j r ih =>
            intro b h
            simp only [eqEl] at h
            split at h
            · rename_i a c ha hc
              split at h
              · rename_i p q hp' hq
                simp only [Option.some.injEq] at h; subst h
                simp only [List.forIn_cons, Sem.run_bind, part_run ha, part_run hc, eqV_run d el a c p hp', Result.andThen_ok]
                cases p with
                | false => exact ⟨some false, rfl, rfl⟩
                | true =>
                  obtain ⟨r', h1, h2⟩ := ih q hq
                  refine ⟨r', by simpa using h1, ?_⟩
                  simp only [Bool.not_true, Bool.false_eq_true, if_false, Sem.run_pure, Result.andThen_ok]
                  exact h2
              · cases h
            · cases h
        obtain ⟨r, h1, h2⟩ := key l b h
        rw [h2]
        simp only [Result.andThen_ok]
        cases r <;> simp_all
      · cases h
    · cases h

theorem evEq_run {op : BinOp} {t ty : Nat} {x y : Operand} {u w : Value} {s : SV} (ho : o.op = .binOp op t x y ty) (hx : a.eval x = u) (hy : a.eval y = w) (h : evEq P op t u w = some s) : Val E P a W o s := by
  unfold evEq at h
  split at h
  · rename_i c1 c2
    cases hg : P.eqGuardType P.depth t with
    | true => simp [hg] at h
    | false =>
      simp only [hg, cond_false] at h
      have hq : ∀ op, (op = .eql ∨ op = .neq) → (eqGuard op t x y (.agg c1) (.agg c2)).run P W = .ok () W := by
        intro op hop
        rcases hop with rfl | rfl <;>
        · unfold eqGuard
          simp [hg]
      unfold Val
      split at h
      · rename_i b hb
        simp only [Option.some.injEq] at h; subst h
        have := eqV_run (W := W) _ _ _ _ _ hb
        simp only [execOp, ho, hx, hy]
        simp only [Sem.run_bind, hq _ (.inl rfl), Result.andThen_ok, binOp, Op.equal, this]
        rfl
      · rename_i b hb
        simp only [Option.some.injEq] at h; subst h
        have := eqV_run (W := W) _ _ _ _ _ hb
        simp only [execOp, ho, hx, hy]
        simp only [Sem.run_bind, hq _ (.inr rfl), Result.andThen_ok, binOp, Op.equal, this]
        rfl
      · cases h
  · cases h

theorem evQ_val (R : Rel B E st G a W) {s : SV} (h : evQ P st o = some s) : Val E P a W o s := by
  unfold evQ at h
  split at h
  · rename_i x ho; unfold Val; simp only [execOp, ho]; rw [R.ev h]; rfl
  · rename_i x ho; unfold Val; simp only [execOp, ho]; rw [R.ev h]; rfl
  · rename_i c x y ho
    unfold Val
    split at h
    · rename_i c' x' y' hc hx hy; simp only [Option.some.injEq] at h; subst h
      simp only [execOp, ho, R.ev hc, R.ev hx, R.ev hy, SV.den]
      cases c' <;> rfl
    · rename_i s hc hx _; simp only [Option.some.injEq] at h; subst h
      simp only [execOp, ho, R.ev hc, R.ev hx, SV.den]; rfl
    · rename_i s hc hx _; simp only [Option.some.injEq] at h; subst h
      simp only [execOp, ho, R.ev hc, R.ev hx, SV.den]; rfl
    · cases h
  · rename_i t x ho
    split at h
    · rename_i i off hx; exact val_load R ho hx h
    · cases h
  · rename_i t x f ho
    split at h
    · rename_i i off hx; exact val_field R ho hx h
    · exact val_put R h
  · rename_i t x ix ho
    split at h
    · rename_i i off hx
      split at h
      · rename_i n hn; exact val_index R ho hx hn h
      · cases h
    · exact val_put R h
  · rename_i x ho
    split at h
    · rename_i i off hx; simp only [Option.some.injEq] at h; subst h
      unfold Val; simp only [execOp, ho]; rw [R.ev hx]; rfl
    · rename_i f c hx; simp only [Option.some.injEq] at h; subst h
      unfold Val; simp only [execOp, ho]; rw [R.ev hx]; rfl
    · exact val_put R h
  · rename_i x k ho
    split at h
    · rename_i vs hx
      unfold Val
      simp only [execOp, ho]; rw [R.ev hx]
      have : (SV.dens E vs)[k]? = some (s.den E) := by rw [SV.dens_get, h]; rfl
      show (Sem.bind (match (⟨SV.dens E vs⟩ : Array Value)[k]? with | some v => pure v | none => stuck "Extract: no such component") _).run P W = _
      simp only [List.getElem?_toArray, this]; rfl
    · exact val_put R h
  · rename_i f first caps ho
    split at h
    · rename_i l hf hl; simp only [Option.some.injEq] at h; subst h
      have hf' : first = #[] := by cases first; simp at hf; subst hf; rfl
      have e : caps.map a.eval = ⟨SV.dens E l⟩ := by
        have := evs_den R hl
        cases caps; simp at this ⊢; exact this
      have e0 : (#[] : Array Operand).map a.eval = #[] := by simp
      unfold Val
      simp only [execOp, ho, hf', e, e0]; rfl
    · cases h
  · rename_i op t x y ty ho
    split at h
    · rename_i u w hu hw
      cases hag : isAggV u with
      | true => rw [hag] at h; simp only [cond_true] at h; exact evEq_run ho (R.plain hu) (R.plain hw) h
      | false => rw [hag] at h; simp only [cond_false] at h; exact val_put R h
    · cases h
  · cases h
  · cases h
  · cases h
  · exact val_put R h

theorem evOp_did (R : Rel B E st G a W) (h : evOp P st o = some st') : Did B P a W o st' G := by
  unfold evOp at h
  split at h
  · rename_i t x ho
    split at h
    · rename_i s hs
      split at h
      · rename_i cs hcs
        exact did_box R (SV.cells_den (E := E) hcs) h (by simp only [execOp, ho]; rw [R.ev hs]; rfl)
      · cases h
    · cases h
  · rename_i t ho
    split at h
    · rename_i inf hinf
      split at h
      · rename_i z hz
        refine did_box R (y := z) (by simp [SV.dens_map, List.map_map, Function.comp_def, SV.den]) h ?_
        simp only [execOp, ho]
        show (Sem.bind (Sem.bind (Sem.bind (typeInfo t) _) _) _).run P W = _
        rw [Sem.bind_assoc', Sem.bind_assoc', run_bind (typeInfo_run hinf)]
        simp only [hz]; rfl
      · cases h
    · cases h
  · rename_i t x y ho
    split at h
    · rename_i i off s hx hy; exact did_store R ho hx hy h
    · cases h
  · split at h
    · rename_i s hs; simp only [Option.some.injEq] at h; subst h
      exact did_val R (evQ_val R hs)
    · cases h

end

end Go.Proofs.Ytoiacgfhjikddaa.Vc
