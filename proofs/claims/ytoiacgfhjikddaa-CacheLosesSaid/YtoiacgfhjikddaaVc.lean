/- A calculus for walking Go functions: symbolic frames and symbolic local blocks, evaluated by the kernel, proved once against the model's own steps. -/
import Derived.Calls
import Derived.Orders
import Derived.KernelRfl
import Derived.Below
namespace Go.Proofs.Ytoiacgfhjikddaa.Vc
open Go.RowKit

theorem blt_iff {a b : Nat} : Nat.blt a b = true ↔ a < b := by rw [Nat.blt_eq]
theorem beq_ne {a b : Nat} (h : a ≠ b) : Nat.beq a b = false := by
  cases h' : Nat.beq a b with
  | false => rfl
  | true => exact absurd (Nat.eq_of_beq_eq_true h') h

/-- What is seen of memory: of some blocks, their content. -/
abbrev GH := Nat → Option Obj

/-- A symbolic value: a value; a place in a local block; a function with what it captured; cells; several values. -/
inductive SV where
  | v (x : Value)
  | lp (i off : Nat)
  | fn (f : Nat) (caps : List SV)
  | ag (cs : List SV)
  | tup (vs : List SV)
  deriving Inhabited

/-- Where the local blocks lie: block number, and the cells ahead of and behind the window. -/
structure Env where
  id : Nat → Nat
  pre : Nat → List Value
  post : Nat → List Value

mutual
def SV.den (E : Env) : SV → Value
  | .v x => x
  | .lp i o => .pointer (some ⟨E.id i, (E.pre i).length + o, none⟩)
  | .fn f caps => .func (.func f) #[] ⟨SV.dens E caps⟩
  | .ag cs => .agg ⟨SV.dens E cs⟩
  | .tup vs => .tuple ⟨SV.dens E vs⟩
def SV.dens (E : Env) : List SV → List Value
  | [] => []
  | x :: r => x.den E :: SV.dens E r
end

mutual
def SV.sc (n : Nat) : SV → Bool
  | .v _ => true
  | .lp i _ => Nat.blt i n
  | .fn _ c => SV.scs n c
  | .ag c => SV.scs n c
  | .tup c => SV.scs n c
def SV.scs (n : Nat) : List SV → Bool
  | [] => true
  | x :: r => x.sc n && SV.scs n r
end

mutual
def SV.pl : SV → Option Value
  | .v x => some x
  | .lp _ _ => none
  | .fn f c => match SV.pls c with | some l => some (.func (.func f) #[] ⟨l⟩) | none => none
  | .ag c => match SV.pls c with | some l => some (.agg ⟨l⟩) | none => none
  | .tup c => match SV.pls c with | some l => some (.tuple ⟨l⟩) | none => none
def SV.pls : List SV → Option (List Value)
  | [] => some []
  | x :: r => match x.pl with | some y => (match SV.pls r with | some l => some (y :: l) | none => none) | none => none
end

mutual
theorem SV.pl_den {E : Env} : ∀ {s : SV} {x : Value}, s.pl = some x → s.den E = x
  | .v x, y, h => by simp only [SV.pl, Option.some.injEq] at h; simp [SV.den, h]
  | .lp _ _, y, h => by simp [SV.pl] at h
  | .fn f c, y, h => by
    simp only [SV.pl] at h; split at h <;> simp at h; rename_i l hl; subst h; simp [SV.den, SV.pls_den hl]
  | .ag c, y, h => by
    simp only [SV.pl] at h; split at h <;> simp at h; rename_i l hl; subst h; simp [SV.den, SV.pls_den hl]
  | .tup c, y, h => by
    simp only [SV.pl] at h; split at h <;> simp at h; rename_i l hl; subst h; simp [SV.den, SV.pls_den hl]
theorem SV.pls_den {E : Env} : ∀ {s : List SV} {x : List Value}, SV.pls s = some x → SV.dens E s = x
  | [], y, h => by cases h; rfl
  | s :: r, y, h => by
    cases hx : s.pl with
    | none => simp [SV.pls, hx] at h
    | some x =>
      cases hl : SV.pls r with
      | none => simp [SV.pls, hx, hl] at h
      | some l =>
        simp [SV.pls, hx, hl] at h
        subst h; simp [SV.dens, SV.pl_den hx, SV.pls_den hl]
end

def Env.upd (E : Env) (n b : Nat) : Env :=
  { id := fun i => if i = n then b else E.id i, pre := fun i => if i = n then [] else E.pre i, post := fun i => if i = n then [] else E.post i }

mutual
theorem SV.den_upd {E : Env} {n b : Nat} : ∀ {s : SV}, s.sc n = true → s.den (E.upd n b) = s.den E
  | .v x, _ => by simp [SV.den]
  | .lp i o, h => by
    have : i ≠ n := by have := blt_iff.1 (by simpa [SV.sc] using h); omega
    simp [SV.den, Env.upd, this]
  | .fn f c, h => by simp [SV.den, SV.dens_upd (s := c) (by simpa [SV.sc] using h)]
  | .ag c, h => by simp [SV.den, SV.dens_upd (s := c) (by simpa [SV.sc] using h)]
  | .tup c, h => by simp [SV.den, SV.dens_upd (s := c) (by simpa [SV.sc] using h)]
theorem SV.dens_upd {E : Env} {n b : Nat} : ∀ {s : List SV}, SV.scs n s = true → SV.dens (E.upd n b) s = SV.dens E s
  | [], _ => rfl
  | x :: r, h => by
    simp only [SV.scs, Bool.and_eq_true] at h
    simp [SV.dens, SV.den_upd h.1, SV.dens_upd h.2]
end

theorem SV.dens_map (E : Env) : ∀ l : List SV, SV.dens E l = l.map (SV.den E)
  | [] => rfl
  | x :: r => by simp [SV.dens, SV.dens_map E r]
theorem SV.dens_length (E : Env) (l : List SV) : (SV.dens E l).length = l.length := by simp [SV.dens_map]
theorem SV.dens_get (E : Env) (l : List SV) (i : Nat) : (SV.dens E l)[i]? = (l[i]?).map (SV.den E) := by simp [SV.dens_map]

/-- The cells of a symbolic value. -/
def SV.cells : SV → Option (List SV)
  | .v x => some (x.cells.toList.map .v)
  | .lp i o => some [.lp i o]
  | .fn f c => some [.fn f c]
  | .ag cs => some cs
  | .tup _ => none
theorem SV.cells_den {E : Env} {s : SV} {cs : List SV} (h : s.cells = some cs) : (s.den E).cells.toList = SV.dens E cs := by
  cases s with
  | v x => simp only [SV.cells, Option.some.injEq] at h; subst h; simp [SV.den, SV.dens_map, List.map_map, Function.comp_def]
  | lp i o => simp only [SV.cells, Option.some.injEq] at h; subst h; simp [SV.den, SV.dens, Value.cells]
  | fn f c => simp only [SV.cells, Option.some.injEq] at h; subst h; simp [SV.den, SV.dens, Value.cells]
  | ag c => simp only [SV.cells, Option.some.injEq] at h; subst h; simp [SV.den, Value.cells]
  | tup c => simp [SV.cells] at h

/-- May it lie in one cell? -/
def SV.one : SV → Bool
  | .v x => match x with | .agg _ => false | .tuple _ => false | _ => true
  | .lp _ _ => true
  | .fn _ _ => true
  | .ag _ => false
  | .tup _ => false

structure Loc where
  cells : List SV
  elem : Nat
  deriving Inhabited

/-- A slice that was made here, and that nobody else holds: its element's type and cells, how many, and all their cells. -/
structure OwnV where
  v : Value
  e : TypeId
  w : Nat
  n : Nat
  l : List Value
  deriving Inhabited
/-- The block that a slice of one's own may grow in. -/
def blk : Value → Option Nat
  | .slice (some a) _ (_ + 1) => some a.block
  | .map (some b) => some b
  | .pointer (some a) => some a.block
  | _ => none
/-- From here on, what stands for an element's type says that it is no slice: a map, or what goes over one. -/
def objMark : Nat := 1099511627776
def iterMark : Nat := 2199023255552
/-- A map; or what goes over the map that lies in a block, of so many entries. -/
def ObjW (W : World) (N : Nat) (o : OwnV) : Prop :=
  (o.e < iterMark ∧ ∃ b es, o.v = .map (some b) ∧ N ≤ b ∧ W.heap[b]? = some (.map es es.size) ∧ es.size = o.n ∧ ∀ i (h : i < es.size), es[i].born = i ∧ es[i].key = .agg ⟨((o.l.drop (i * o.w)).take o.w).take (o.e - objMark)⟩ ∧ ((o.l.drop (i * o.w)).take o.w).drop (o.e - objMark) = [es[i].val]) ∨
  (iterMark ≤ o.e ∧ ∃ b mb seen, o.v = .pointer (some ⟨b, 0, none⟩) ∧ N ≤ b ∧ W.heap[b]? = some (.mapIter mb o.w seen o.w) ∧ (∀ k, mb = some k → o.e = iterMark + (k + 1)) ∧ (mb = none → o.e = iterMark) ∧ seen.size + o.n = o.w ∧ seen.toList.Nodup ∧ ∀ x ∈ seen.toList, x < o.w)
theorem blk_some {b n c : Nat} (h : 0 < c) : blk (.slice (some ⟨b, 0, none⟩) n c) = some b := by cases c with | zero => omega | succ c => rfl
theorem blk_of {b b' n c : Nat} (h : blk (.slice (some ⟨b, 0, none⟩) n c) = some b') : b' = b := by cases c with | zero => cases h | succ c => cases h; rfl

/-- What is known of a frame, of its local blocks, and of what was made here. -/
structure St where
  n : Nat
  tm : List (Nat × SV)
  lo : List Loc
  ow : List OwnV
  deriving Inhabited

def lookup : List (Nat × SV) → Nat → Option SV
  | [], _ => none
  | (k, s) :: r, j => bif Nat.beq k j then some s else lookup r j
def St.get (st : St) (k : Nat) : Option SV := lookup st.tm k
def St.put (st : St) (d : Option Nat) (s : SV) : St :=
  match d with
  | none => st
  | some d => bif Nat.blt d st.n then { st with tm := (d, s) :: st.tm } else st
def St.ev (st : St) : Operand → Option SV
  | .tmp t => st.get t
  | .const x => some (.v x)
  | .global g => some (.v (.pointer (some ⟨g, 0, none⟩)))
  | .func f => some (.v (.func (.func f) #[] #[]))

/-- The scope of a state: no place beyond its local blocks. -/
def scT (n : Nat) : List (Nat × SV) → Bool
  | [] => true
  | (_, s) :: r => s.sc n && scT n r
def scL (n : Nat) : List Loc → Bool
  | [] => true
  | l :: r => SV.scs n l.cells && scL n r
def St.sc (st : St) : Bool := scT st.lo.length st.tm && scL st.lo.length st.lo

/-- Where a call began: the world, what was seen, the windows that came in. -/
structure Base where
  W0 : World
  G0 : GH
  E0 : Env
  m0 : Nat
  h0 : ∀ k o, G0 k = some o → k < W0.heap.size
def Base.n0 (B : Base) : Nat := B.W0.heap.size

/-- A slice of one's own, in memory. -/
def OwnW (W : World) (N : Nat) (o : OwnV) : Prop :=
  o.l.length = o.n * o.w ∧ ((o.e < objMark ∧ ((∃ oa, o.v = .slice oa 0 0 ∧ o.n = 0) ∨ ∃ b c L, o.v = .slice (some ⟨b, 0, none⟩) o.n c ∧ 0 < c ∧ N ≤ b ∧ W.heap[b]? = some (.cells ⟨L⟩ o.e (0, 0)) ∧ o.n ≤ c ∧ c ≤ maxLen ∧ L.length = c * o.w ∧ o.l = L.take (o.n * o.w))) ∨ (objMark ≤ o.e ∧ ObjW W N o))
theorem ObjW.of {W W' : World} {N N' : Nat} {o : OwnV} (h : ObjW W N o) (hN : N' ≤ N) (hw : ∀ b, blk o.v = some b → W'.heap[b]? = W.heap[b]?) : ObjW W' N' o := by
  rcases h with ⟨h0, b, es, h1, h2, h3, r⟩ | ⟨h0, b, mb, seen, h1, h2, h3, r⟩
  · exact .inl ⟨h0, b, es, h1, Nat.le_trans hN h2, by rw [hw b (by rw [h1]; rfl)]; exact h3, r⟩
  · exact .inr ⟨h0, b, mb, seen, h1, Nat.le_trans hN h2, by rw [hw b (by rw [h1]; rfl)]; exact h3, r⟩
theorem ObjW.lt {W : World} {N : Nat} {o : OwnV} (h : ObjW W N o) : ∃ b, blk o.v = some b ∧ b < W.heap.size ∧ N ≤ b := by
  rcases h with ⟨_, b, es, h1, h2, h3, _⟩ | ⟨_, b, mb, seen, h1, h2, h3, _⟩
  · exact ⟨b, by rw [h1]; rfl, (Array.getElem?_eq_some_iff.1 h3).1, h2⟩
  · exact ⟨b, by rw [h1]; rfl, (Array.getElem?_eq_some_iff.1 h3).1, h2⟩
theorem OwnW.of {W W' : World} {N N' : Nat} {o : OwnV} (h : OwnW W N o) (hN : N' ≤ N) (hw : ∀ b, blk o.v = some b → W'.heap[b]? = W.heap[b]?) : OwnW W' N' o := by
  refine ⟨h.1, h.2.imp (And.imp_right (Or.imp id ?_)) fun ⟨h1, h2⟩ => ⟨h1, h2.of hN hw⟩⟩
  rintro ⟨b, c, L, h1, h2, h3, h4, r⟩
  exact ⟨b, c, L, h1, h2, Nat.le_trans hN h3, by rw [hw b (by rw [h1]; exact blk_some h2)]; exact h4, r⟩
theorem OwnW.lt {W : World} {N : Nat} {o : OwnV} (h : OwnW W N o) {b : Nat} (hb : blk o.v = some b) : b < W.heap.size ∧ N ≤ b := by
  rcases h.2 with ⟨_, ⟨oa, h1, _⟩ | ⟨b', c, L, h1, h2, h3, h4, _⟩⟩ | ⟨_, h1⟩
  rotate_left 2
  · obtain ⟨b', h2, h3⟩ := h1.lt
    rw [h2] at hb; cases hb; exact h3
  · rw [h1] at hb; cases oa <;> cases hb
  · rw [h1] at hb
    have := blk_of hb; subst this
    exact ⟨(Array.getElem?_eq_some_iff.1 h4).1, h3⟩
/-- The slices of one's own: each in a block of its own, that is not seen. -/
structure Owns (E : Env) (k : Nat) (ow : List OwnV) (G : GH) (W : World) (N : Nat) : Prop where
  at_ : ∀ o ∈ ow, OwnW W N o
  hid : ∀ o ∈ ow, ∀ b, blk o.v = some b → G b = none
  loc : ∀ o ∈ ow, ∀ b, blk o.v = some b → ∀ i, i < k → E.id i ≠ b
  apart : ow.Pairwise fun o o' => ∀ b, blk o.v = some b → blk o'.v ≠ some b
theorem Owns.nil {E : Env} {k : Nat} {G : GH} {W : World} {N : Nat} : Owns E k [] G W N := ⟨by simp, by simp, by simp, .nil⟩
theorem Owns.of {E E' : Env} {k k' : Nat} {ow : List OwnV} {G G' : GH} {W W' : World} {N N' : Nat} (h : Owns E k ow G W N) (hN : N' ≤ N) (hw : ∀ o ∈ ow, ∀ b, blk o.v = some b → W'.heap[b]? = W.heap[b]?) (hg : ∀ o ∈ ow, ∀ b, blk o.v = some b → G' b = none) (he : ∀ o ∈ ow, ∀ b, blk o.v = some b → ∀ i, i < k' → E'.id i ≠ b) : Owns E' k' ow G' W' N' :=
  ⟨fun o ho => (h.at_ o ho).of hN (hw o ho), hg, he, h.apart⟩
theorem Owns.sub {E : Env} {k k' : Nat} {ow ow' : List OwnV} {G : GH} {W : World} {N : Nat} (h : Owns E k ow G W N) (hs : ow'.Sublist ow) (hk : k' ≤ k) : Owns E k' ow' G W N :=
  ⟨fun o ho => h.at_ o (hs.subset ho), fun o ho => h.hid o (hs.subset ho), fun o ho b hb i hi => h.loc o (hs.subset ho) b hb i (by omega), h.apart.sublist hs⟩

structure Rel (B : Base) (E : Env) (st : St) (G : GH) (a : Act) (W : World) : Prop where
  size : a.tmps.size = st.n
  df : a.defers = []
  tm : ∀ k s, st.get k = some s → a.tmps[k]? = some (s.den E)
  ml : B.m0 ≤ st.lo.length
  lo : ∀ i l, st.lo[i]? = some l → W.heap[E.id i]? = some (.cells ⟨E.pre i ++ SV.dens E l.cells ++ E.post i⟩ l.elem (0, 0))
  hid : ∀ i, i < st.lo.length → G (E.id i) = none
  inj : ∀ i j, i < st.lo.length → j < st.lo.length → E.id i = E.id j → i = j
  own : ∀ i, B.m0 ≤ i → i < st.lo.length → B.n0 ≤ E.id i
  agr : ∀ i, i < B.m0 → E.id i = B.E0.id i ∧ E.pre i = B.E0.pre i ∧ E.post i = B.E0.post i
  sub : ∀ k o, G k = some o → W.heap[k]? = some o
  old : ∀ k, k < B.n0 → G k = B.G0 k
  ext : ∀ k, k < B.n0 → (∀ i, i < B.m0 → B.E0.id i ≠ k) → W.heap[k]? = B.W0.heap[k]?
  os : W.os = B.W0.os
  tape : W.tape = B.W0.tape
  output : W.output = B.W0.output
  sz : B.n0 ≤ W.heap.size
  ows : Owns E st.lo.length st.ow G W B.n0

/-- What memory shows: what is seen now, and what was seen as the call began. -/
def Sees (B : Base) (G : GH) (W : World) : Prop := (∀ k o, G k = some o → W.heap[k]? = some o) ∧ ∀ k o, B.G0 k = some o → W.heap[k]? = some o
theorem Rel.sees {B : Base} {E : Env} {st : St} {G : GH} {a : Act} {W : World} (R : Rel B E st G a W) : Sees B G W :=
  ⟨R.sub, fun k o h => R.sub k o (by rw [R.old k (B.h0 k o h)]; exact h)⟩

theorem Rel.ev {B : Base} {E : Env} {st : St} {G : GH} {a : Act} {W : World} (R : Rel B E st G a W) {x : Operand} {s : SV} (h : st.ev x = some s) : a.eval x = s.den E := by
  cases x with
  | tmp t => have := R.tm t s h; simp [Act.eval, Array.getD_eq_getD_getElem?, this]
  | const v => simp only [St.ev, Option.some.injEq] at h; subst h; simp [Act.eval, SV.den]
  | global g => simp only [St.ev, Option.some.injEq] at h; subst h; simp [Act.eval, SV.den]
  | func f => simp only [St.ev, Option.some.injEq] at h; subst h; simp [Act.eval, SV.den]

theorem get_put {st : St} {d k : Nat} {s : SV} (hd : d < st.n) : (st.put (some d) s).get k = if d = k then some s else st.get k := by
  have : Nat.blt d st.n = true := blt_iff.2 hd
  simp only [St.put, this, cond_true, St.get, lookup]
  by_cases e : d = k
  · subst e; simp
  · have := beq_ne e
    simp [this, e]
theorem put_out {st : St} {d : Nat} {s : SV} (hd : ¬ d < st.n) : st.put (some d) s = st := by
  have : Nat.blt d st.n = false := by
    cases h : Nat.blt d st.n with
    | false => rfl
    | true => exact absurd (blt_iff.1 h) hd
  simp [St.put, this]
theorem put_lo {st : St} {d : Option Nat} {s : SV} : (st.put d s).lo = st.lo := by
  cases d with
  | none => rfl
  | some d => simp only [St.put]; cases Nat.blt d st.n <;> rfl
theorem put_ow {st : St} {d : Option Nat} {s : SV} : (st.put d s).ow = st.ow := by
  cases d with
  | none => rfl
  | some d => simp only [St.put]; cases Nat.blt d st.n <;> rfl
theorem put_n {st : St} {d : Option Nat} {s : SV} : (st.put d s).n = st.n := by
  cases d with
  | none => rfl
  | some d => simp only [St.put]; cases Nat.blt d st.n <;> rfl

/-- A slot is written. -/
theorem Rel.put {B : Base} {E : Env} {st : St} {G : GH} {a : Act} {W : World} (R : Rel B E st G a W) (d : Option Nat) {s : SV} {x : Value} (h : s.den E = x) : Rel B E (st.put d s) G (a.put d x) W := by
  subst h
  cases d with
  | none => exact R
  | some d =>
    by_cases hd : d < st.n
    · refine { R with size := ?_, df := R.df, tm := ?_, ml := by rw [put_lo]; exact R.ml, lo := by rw [put_lo]; exact R.lo, hid := by rw [put_lo]; exact R.hid, inj := by rw [put_lo]; exact R.inj, own := by rw [put_lo]; exact R.own, ows := by rw [put_lo, put_ow]; exact R.ows }
      · simp [Act.put, R.size, put_n]
      · intro k t hk
        rw [get_put hd] at hk
        simp only [Act.put]
        rw [Array.getElem?_setIfInBounds]
        by_cases e : d = k
        · subst e; simp at hk; subst hk; simp [R.size, hd]
        · simp only [e, if_false] at hk ⊢
          exact R.tm k t hk
    · rw [put_out hd]
      have : a.put (some d) (s.den E) = a := by
        cases a with
        | mk tm df =>
          have hs : tm.size = st.n := R.size
          simp only [Act.put, Act.mk.injEq, and_true]
          apply Array.ext_getElem?; intro i
          rw [Array.getElem?_setIfInBounds]
          by_cases e : d = i
          · subst e; simp [hs, hd]
          · simp [e]
      rw [this]; exact R

/-- What is held of a state holds of one that says less. -/
structure Le (S st : St) : Prop where
  n : S.n = st.n
  tm : ∀ k s, S.get k = some s → st.get k = some s
  lo : ∃ r, st.lo = S.lo ++ r
  ow : S.ow.Sublist st.ow
theorem Rel.le {B : Base} {E : Env} {S st : St} {G : GH} {a : Act} {W : World} (R : Rel B E st G a W) (h : Le S st) (hm : B.m0 ≤ S.lo.length) : Rel B E S G a W := by
  obtain ⟨r, hr⟩ := h.lo
  have hl : ∀ i l, S.lo[i]? = some l → st.lo[i]? = some l := fun i l hi => by
    rw [hr, List.getElem?_append_left (by exact (List.getElem?_eq_some_iff.1 hi).1)]; exact hi
  have hn : ∀ i, i < S.lo.length → i < st.lo.length := fun i hi => by rw [hr, List.length_append]; omega
  exact { R with size := by rw [h.n]; exact R.size, df := R.df, tm := fun k s hk => R.tm k s (h.tm k s hk), ml := hm, lo := fun i l hi => R.lo i l (hl i l hi), hid := fun i hi => R.hid i (hn i hi), inj := fun i j hi hj => R.inj i j (hn i hi) (hn j hj), own := fun i h1 h2 => R.own i h1 (hn i h2), ows := R.ows.sub h.ow (by rw [hr, List.length_append]; omega) }

/-- 'Le', as one equation that the kernel computes. -/
def look (st : St) : List (Nat × SV) → List (Option SV)
  | [] => []
  | (k, _) :: r => st.get k :: look st r
def want : List (Nat × SV) → List (Option SV)
  | [] => []
  | (_, s) :: r => some s :: want r
theorem le_sub {S st : St} (h : (S.n, want S.tm, S.lo) = (st.n, look st S.tm, st.lo.take S.lo.length)) (ho : S.ow.Sublist st.ow) : Le S st := by
  simp only [Prod.mk.injEq] at h
  obtain ⟨h1, h2, h3⟩ := h
  refine ⟨h1, ?_, ⟨st.lo.drop S.lo.length, by conv => lhs; rw [← List.take_append_drop S.lo.length st.lo]; rw [← h3]⟩, ho⟩
  intro k s hk
  unfold St.get at hk
  generalize S.tm = l at h2 hk
  induction l with
  | nil => simp [lookup] at hk
  | cons p r ih =>
    obtain ⟨j, t⟩ := p
    simp only [want, look, List.cons.injEq] at h2
    simp only [lookup] at hk
    cases e : Nat.beq j k with
    | true =>
      rw [e] at hk; simp at hk; subst hk
      have := Nat.eq_of_beq_eq_true e; subst this
      exact h2.1.symm
    | false => rw [e] at hk; simp at hk; exact ih h2.2 hk
theorem le_ow {S st : St} (h : (S.n, want S.tm, S.lo) = (st.n, look st S.tm, st.lo.take S.lo.length)) (ho : S.ow = st.ow.take S.ow.length) : Le S st := le_sub h (by rw [ho]; exact List.take_sublist _ _)
theorem le_k {S st : St} (ow : List OwnV) (h : (S.n, want S.tm, S.lo, ow) = (st.n, look st S.tm, st.lo.take S.lo.length, st.ow.take ow.length)) (he : S.ow = ow) : Le S st := by
  simp only [Prod.mk.injEq] at h
  exact le_ow (by simp only [Prod.mk.injEq]; exact ⟨h.1, h.2.1, h.2.2.1⟩) (by rw [he]; exact h.2.2.2)
theorem le_of {S st : St} (h : (S.n, want S.tm, S.lo, S.ow) = (st.n, look st S.tm, st.lo.take S.lo.length, st.ow.take S.ow.length)) : Le S st := by
  simp only [Prod.mk.injEq] at h
  exact le_ow (by simp only [Prod.mk.injEq]; exact ⟨h.1, h.2.1, h.2.2.1⟩) h.2.2.2

end Go.Proofs.Ytoiacgfhjikddaa.Vc
