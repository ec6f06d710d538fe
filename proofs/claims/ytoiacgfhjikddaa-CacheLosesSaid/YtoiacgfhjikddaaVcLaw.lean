/- The calculus, sixth part: what is read of an argument, cell by cell, and a law's row out of the walk of its body. -/
import Derived.Test.YtoiacgfhjikddaaRows
import Derived.Test.YtoiacgfhjikddaaVcAny
import Derived.ProofKit
import Derived.OpenShut
import Derived.ShutString
import Derived.ChangeOld
import Derived.Below
import Derived.Carry
import Derived.SizedLaws
namespace Go.Proofs.Ytoiacgfhjikddaa.Vc
open Go.RowKit

/-- The kinds of cells. -/
inductive CK where
  | int (k : IntKind)
  | bool
  | str
  | slice (e : Nat)

def flatFs (P : Program) (rec : Nat → Option (List CK)) : Nat → List Field → Option (List CK)
  | _, [] => some []
  | o, f :: r =>
    match rec f.type with
    | some l => bif Nat.beq f.offset o && Nat.beq l.length (P.cellsOf f.type) then (match flatFs P rec (o + l.length) r with | some m => some (l ++ m) | none => none) else none
    | none => none
def flat (P : Program) : Nat → Nat → Option (List CK)
  | 0, _ => none
  | n + 1, t =>
    match P.underlying t with
    | some .bool => some [.bool]
    | some (.int k) => some [.int k]
    | some .string => some [.str]
    | some (.slice e) => some [.slice e]
    | some (.struct fs) => (match flatFs P (flat P n) 0 fs.toList with | some l => bif Nat.beq l.length (P.cellsOf t) then some l else none | none => none)
    | some (.array len e) => (match flat P n e with | some l => bif Nat.beq l.length (P.cellsOf e) && Nat.beq (len * l.length) (P.cellsOf t) then some (List.replicate len l).flatten else none | none => none)
    | _ => none

section
variable {H : Type} (enc : TypeId × Value → H) (P : Program) (W : World)

/-- What is known of a slice that was read. -/
def SlOk (e : Nat) (A : Option Addr) (len cap : Nat) : Prop :=
  (A = none ∧ len = 0 ∧ cap = 0) ∨ ∃ a, A = some a ∧ len ≤ cap ∧ cap ≤ maxLen ∧
    ∀ i, i < cap → ∃ cs fuel x, W.cells? 0 (a.add (i * P.cellsOf e)) (P.cellsOf e) = some cs ∧ DataW.trod enc P W 0 (fun _ => true) true fuel e cs = some x
def COk : CK → Value → Prop
  | .int k, c => ∃ n, c = .int k n ∧ k.min ≤ n ∧ n ≤ k.max
  | .bool, c => ∃ b, c = .bool b
  | .str, c => ∃ s, c = .string s ∧ s.size ≤ maxLen
  | .slice e, c => ∃ A len cap, c = .slice A len cap ∧ SlOk enc P W e A len cap
def CsOk : List CK → List Value → Prop
  | [], [] => True
  | k :: ks, c :: cs => COk enc P W k c ∧ CsOk ks cs
  | _, _ => False
variable {enc P W}

theorem CsOk.append : ∀ {k1 k2 : List CK} {c1 c2 : List Value}, CsOk enc P W k1 c1 → CsOk enc P W k2 c2 → CsOk enc P W (k1 ++ k2) (c1 ++ c2)
  | [], _, [], _, _, h => h
  | _ :: _, _, _ :: _, _, h1, h2 => ⟨h1.1, CsOk.append h1.2 h2⟩
  | [], _, _ :: _, _, h1, _ => h1.elim
  | _ :: _, _, [], _, h1, _ => h1.elim
theorem CsOk.length : ∀ {ks : List CK} {cs : List Value}, CsOk enc P W ks cs → cs.length = ks.length
  | [], [], _ => rfl
  | _ :: _, _ :: _, h => by simp [CsOk.length h.2]
  | [], _ :: _, h => h.elim
  | _ :: _, [], h => h.elim

theorem flatFs_ok {rec : Nat → Option (List CK)} {cs : List Value} {rd : Nat → List Value → Prop} (hrec : ∀ t ks c, rd t c → rec t = some ks → CsOk enc P W ks c) :
    ∀ (fs : List Field) (o : Nat) (ks : List CK), (∀ f ∈ fs, rd f.type ((cs.drop f.offset).take (P.cellsOf f.type))) → flatFs P rec o fs = some ks → CsOk enc P W ks ((cs.drop o).take ks.length)
  | [], o, ks, _, h => by simp only [flatFs, Option.some.injEq] at h; subst h; simp [CsOk]
  | f :: r, o, ks, hrd, h => by
    simp only [flatFs] at h
    split at h
    · rename_i l hl
      cases hb : Nat.beq f.offset o && Nat.beq l.length (P.cellsOf f.type) with
      | false => simp [hb] at h
      | true =>
        simp only [hb, cond_true] at h
        simp only [Bool.and_eq_true] at hb
        have e1 := Nat.eq_of_beq_eq_true hb.1
        have e2 := Nat.eq_of_beq_eq_true hb.2
        split at h
        · rename_i m hm
          simp only [Option.some.injEq] at h; subst h
          have h1 := hrec f.type l _ (hrd f (by simp)) hl
          have h2 := flatFs_ok hrec r (o + l.length) m (fun g hg => hrd g (by simp [hg])) hm
          rw [e1, ← e2] at h1
          have e3 : (cs.drop o).take (l ++ m).length = (cs.drop o).take l.length ++ (cs.drop (o + l.length)).take m.length := by
            rw [List.length_append, List.take_add, List.drop_drop]
          rw [e3]; exact h1.append h2
        · cases h
    · cases h

theorem flat_ok : ∀ (n t : Nat) (cs : List Value) (fuel : Nat) (x : DataW H × List MemPlace) (ks : List CK), DataW.trod enc P W 0 (fun _ => true) true fuel t cs = some x → flat P n t = some ks → CsOk enc P W ks cs
  | 0, _, _, _, _, _, _, h => by simp [flat] at h
  | n + 1, t, cs, fuel, x, ks, hr, h => by
    simp only [flat] at h
    split at h
    · rename_i hu
      simp only [Option.some.injEq] at h; subst h
      obtain ⟨b, rfl, _⟩ := DataW.trod_bool hu hr
      exact ⟨⟨b, rfl⟩, trivial⟩
    · rename_i k hu
      simp only [Option.some.injEq] at h; subst h
      obtain ⟨m, rfl, _, hw⟩ := DataW.trod_int hu hr
      simp only [Lit.wf, Bool.and_eq_true, decide_eq_true_eq] at hw
      exact ⟨⟨m, rfl, hw.1, hw.2⟩, trivial⟩
    · rename_i hu
      simp only [Option.some.injEq] at h; subst h
      obtain ⟨s, rfl, _, hs⟩ := DataW.trod_string hu hr
      exact ⟨⟨s, rfl, hs⟩, trivial⟩
    · rename_i e hu
      simp only [Option.some.injEq] at h; subst h
      rcases DataW.trod_slice hu hr with ⟨rfl, _⟩ | ⟨a, len, cap, elems, rest, m, _, rfl, _, _, hlc, hcm, hel, hi, hj, _⟩
      · exact ⟨⟨none, 0, 0, rfl, .inl ⟨rfl, rfl, rfl⟩⟩, trivial⟩
      · refine ⟨⟨some a, len, cap, rfl, .inr ⟨a, rfl, hlc, hcm, fun i hic => ?_⟩⟩, trivial⟩
        obtain ⟨hrl, hjj⟩ := hj rfl
        have key : ∃ y, (W.cells? 0 (a.add (i * P.cellsOf e)) (P.cellsOf e)).bind (DataW.trod enc P W 0 (fun _ => true) true m e) = some y := by
          rcases Nat.lt_or_ge i len with hlt | hge
          · exact ⟨_, (hi i hlt).trans (List.getElem?_eq_getElem (by omega))⟩
          · have := hjj (i - len) (by omega)
            rw [show len + (i - len) = i by omega] at this
            exact ⟨_, this.trans (List.getElem?_eq_getElem (by omega))⟩
        obtain ⟨y, hy⟩ := key
        obtain ⟨c, hc, hy⟩ := Option.bind_eq_some_iff.1 hy
        exact ⟨c, m, y, hc, hy⟩
    · rename_i fs hu
      obtain ⟨xs, m, _, _, hlen, hxl, hf⟩ := DataW.trod_struct hu hr
      split at h
      · rename_i l hl
        cases hb : Nat.beq l.length (P.cellsOf t) with
        | false => simp [hb] at h
        | true =>
          simp only [hb, cond_true, Option.some.injEq] at h; subst h
          have e := Nat.eq_of_beq_eq_true hb
          have := flatFs_ok (P := P) (W := W) (enc := enc) (cs := cs) (rd := fun t c => ∃ y, DataW.trod enc P W 0 (fun _ => true) true m t c = some y)
            (fun t ks c ⟨y, hy⟩ hk => flat_ok n t c m y ks hy hk) fs.toList 0 l (fun f hf' => by
              obtain ⟨i, hi⟩ := List.getElem?_of_mem hf'
              have h2 := hf i f (by simpa using hi)
              have hlt : i < xs.length := by
                have := (List.getElem?_eq_some_iff.1 hi).1; simp at this; omega
              rw [List.getElem?_eq_getElem hlt] at h2
              exact ⟨_, h2⟩) hl
          rw [List.drop_zero, e, ← hlen, List.take_length] at this
          exact this
      · cases h
    · rename_i len e hu
      obtain ⟨xs, m, _, _, hlen, hxl, hf⟩ := DataW.trod_array hu hr
      split at h
      · rename_i l hl
        cases hb : Nat.beq l.length (P.cellsOf e) && Nat.beq (len * l.length) (P.cellsOf t) with
        | false => simp [hb] at h
        | true =>
          simp only [hb, cond_true, Option.some.injEq] at h; subst h
          simp only [Bool.and_eq_true] at hb
          have e1 := Nat.eq_of_beq_eq_true hb.1
          have e2 := Nat.eq_of_beq_eq_true hb.2
          have key : ∀ k, k ≤ len → CsOk enc P W (List.replicate k l).flatten (cs.take (k * l.length)) := by
            intro k
            induction k with
            | zero => intro _; simp [CsOk]
            | succ k ih =>
              intro hk
              have h1 := ih (by omega)
              have h2 := hf k (by omega)
              rw [List.getElem?_eq_getElem (by omega)] at h2
              have h3 := flat_ok n e _ m _ l h2 hl
              rw [← e1] at h3
              have e3 : cs.take ((k + 1) * l.length) = cs.take (k * l.length) ++ (cs.drop (k * l.length)).take l.length := by
                rw [Nat.succ_mul, List.take_add]
              rw [List.replicate_succ', List.flatten_append, e3]
              simpa using h1.append h3
          have := key len (Nat.le_refl _)
          rw [e2, ← hlen, List.take_length] at this
          exact this
      · cases h
    · cases h

/-- The cells of an argument. -/
theorem arg_cells {t : Nat} {v : Value} {d : DataW H} {p : List MemPlace} (n : Nat) {ks : List CK} (hf : flat P n t = some ks) (h : DataW.Trod enc P W 0 (fun _ => true) true t v d p) : CsOk enc P W ks v.cells.toList := by
  obtain ⟨fuel, hr⟩ := h
  exact flat_ok n t _ fuel _ ks hr hf

end

theorem CsOk.cons {H : Type} {enc : TypeId × Value → H} {P : Program} {W : World} {k : CK} {ks : List CK} : ∀ {l : List Value}, CsOk enc P W (k :: ks) l → ∃ c r, l = c :: r ∧ COk enc P W k c ∧ CsOk enc P W ks r
  | c :: r, h => ⟨c, r, rfl, h.1, h.2⟩
  | [], h => h.elim
theorem CsOk.nil {H : Type} {enc : TypeId × Value → H} {P : Program} {W : World} : ∀ {l : List Value}, CsOk enc P W [] l → l = []
  | [], _ => rfl
  | _ :: _, h => h.elim
theorem arg_agg {H : Type} {enc : TypeId × Value → H} {P : Program} {W : World} {t : Nat} {v : Value} {d : DataW H} {p : List MemPlace} {fs : Array Field} (n : Nat) (ks : List CK) (hf : flat P n t = some ks) (hu : P.underlying t = some (.struct fs))
    (hw : ∃ base, Value.okWide P W .any base t v) (h : DataW.Trod enc P W 0 (fun _ => true) true t v d p) : ∃ l, v = .agg ⟨l⟩ ∧ CsOk enc P W ks l := by
  obtain ⟨base, hw⟩ := hw
  obtain ⟨cs, rfl, _⟩ := WideShapes.okWide_struct hu hw
  exact ⟨cs.toList, by simp, arg_cells n hf h⟩
theorem arg_int {H : Type} {enc : TypeId × Value → H} {P : Program} {W : World} {t : Nat} {v : Value} {d : DataW H} {p : List MemPlace} {k : IntKind} (hu : P.underlying t = some (.int k))
    (hw : ∃ base, Value.okWide P W .any base t v) (h : DataW.Trod enc P W 0 (fun _ => true) true t v d p) : ∃ n, v = .int k n ∧ k.min ≤ n ∧ n ≤ k.max := by
  obtain ⟨base, hw⟩ := hw
  obtain ⟨n, rfl⟩ := WideShapes.okWide_int hu hw
  obtain ⟨m, hm, h1, h2⟩ := (arg_cells 1 (ks := [.int k]) (by simp [flat, hu]) h).1
  simp only [Value.cells, Value.int.injEq, true_and] at hm; subst hm
  exact ⟨n, rfl, h1, h2⟩
theorem arg_bool {P : Program} {W : World} {t : Nat} {v : Value} (hu : P.underlying t = some .bool) (hw : ∃ base, Value.okWide P W .any base t v) : ∃ b, v = .bool b := by
  obtain ⟨base, hw⟩ := hw
  exact WideShapes.okWide_bool hu hw

theorem mn_u8 : IntKind.u8.min = 0 := by decide
theorem mx_u8 : IntKind.u8.max = 255 := by decide
theorem mn_u16 : IntKind.u16.min = 0 := by decide
theorem mx_u16 : IntKind.u16.max = 65535 := by decide
theorem mn_u32 : IntKind.u32.min = 0 := by decide
theorem mx_u32 : IntKind.u32.max = 4294967295 := by decide
theorem mn_u64 : IntKind.u64.min = 0 := by decide
theorem mx_u64 : IntKind.u64.max = 18446744073709551615 := by decide
theorem mn_i64 : IntKind.i64.min = -9223372036854775808 := by decide
theorem mx_i64 : IntKind.i64.max = 9223372036854775807 := by decide

/-! ### A law's row -/
theorem trodAll_below {H : Type} {enc : TypeId × Value → H} {P : Program} (hl : laidOutB P = true) {W W' : World} (hb : Below W.heap.size W W') :
    ∀ (ts : List TypeId) (vs : List Value) (ds : List (DataW H)) (ps : List MemPlace), (∀ t ∈ ts, P.readableRec t = true ∧ t < P.types.size) → DataW.TrodAll enc P W 0 (fun _ => true) true ts vs ds ps → (∀ x ∈ ps, x.block < W.heap.size) →
      DataW.TrodAll enc P W' 0 (fun b => decide (b < W.heap.size)) true ts vs ds ps
  | [], [], [], ps, _, h, _ => h
  | t :: ts, v :: vs, d :: ds, ps, hts, h, hlt => by
    obtain ⟨p, q, h1, h2, rfl⟩ := h
    have ht := hts t (by simp)
    exact ⟨p, q, Below.trod hl ht.1 ht.2 h1 hb (fun x hx => hlt x (by simp [hx])), trodAll_below hl hb ts vs ds q (fun u hu => hts u (by simp [hu])) h2 (fun x hx => hlt x (by simp [hx])), rfl⟩
  | [], _ :: _, _, _, _, h, _ => h.elim
  | _ :: _, [], _, _, _, h, _ => by simp [DataW.TrodAll] at h
  | [], [], _ :: _, _, _, h, _ => h.elim
  | _ :: _, _ :: _, [], _, _, h, _ => by simp [DataW.TrodAll] at h

def okParams (P : Program) (ts : List TypeId) : Bool := ts.all fun t => P.readableRec t && Nat.blt t P.types.size

/-- A law whose body always comes to true, and leaves what it finds. -/
theorem law_lifted {C : Checked} {os : Os} {H : Type} {enc : TypeId × Value → H} {f : FuncId} {fn : Func} {s : ChangeSpec} {conds : List PathCond} {tb : Nat}
    (own : ownKnob C.prog.godebug = none) (started : os.Started) (noInit : C.prog.inits.idxOf? f = none) (hfn : C.prog.funcs[f]? = some fn)
    (witness : ∃ (w : World) (tape : Tape) (i : Input), w.os = os ∧ (w.forCall tape i).Shaped C.prog ∧ i.vars = [] ∧ Input.okWide C.prog (w.forCall tape i) .any w.heap.size f i ∧
      s.pre6 enc C.prog fn conds false (w.forCall tape i).memory i.args ∧ ({} : Assume).holds C.prog (lone (Frame.enter C.prog f i.args .normal) [] (w.forCall tape i)))
    (hl : laidOutB C.prog = true) (hp : okParams C.prog fn.params.toList = true) (hr : fn.resultTypes = #[tb]) (hb : C.prog.underlying tb = some .bool)
    (hv : s.vars = []) (hs : ∀ ds : List (DataW H), ds.length = fn.params.size → s.fn H (ds ++ []) = { results := [.lit (.bool true)], args := ds })
    (walk : ∀ (W : World) (args : List Value) (ds : List (DataW H)) (p : List MemPlace), DataW.TrodAll enc C.prog W 0 (fun _ => true) true fn.params.toList args ds p → (DataW.weightsEach C.prog (fn.params.toList ++ s.plain.varTypes C.prog) (ds ++ [])).all (· ≤ reachBytes) = true →
      (∀ (j : Nat) (t : TypeId) (v : Value), fn.params[j]? = some t → args[j]? = some v → ∃ base, Value.okWide C.prog W .any base t v) →
      Fun C.prog f args (fun k => W.heap[k]?) fun _ _ v => v = .bool true) :
    ReturnsInHanded {} C os f .any (s.pre6 enc C.prog fn conds false) (s.post enc C.prog fn false true false false) := by
  refine returnsInHanded_of_change_sized own started noInit hfn witness ?_
  intro W base args ds gs before hval hW _ hsz _
  have hW' := hW
  obtain ⟨p, q, hA, hV, rfl, _, _⟩ := hW
  have hgs : gs = [] ∧ q = [] := by
    rw [hv] at hV
    cases gs with
    | nil => exact ⟨rfl, hV⟩
    | cons g r => exact hV.elim
  obtain ⟨rfl, rfl⟩ := hgs
  have hargs : args = ⟨args.toList⟩ := by simp
  have := (walk W args.toList ds p hA hsz (fun j t v hj ha => ⟨base, hval j t v hj (by simpa using ha)⟩)).run W (fun _ _ h => h)
  rw [← hargs] at this
  refine Calls.mono this ?_
  rintro e W' ⟨v, G', rfl, hk, _, _, rfl⟩
  refine ⟨_, rfl, ?_⟩
  have bel : Below W.heap.size W W' := ⟨hk.os, hk.tape, hk.output, hk.size, fun k hk' => hk.block k hk' (fun i hi => absurd hi (Nat.not_lt_zero i))⟩
  have hlen : ∀ (ts : List TypeId) (vs : List Value) (ds : List (DataW H)) (ps : List MemPlace), DataW.TrodAll enc C.prog W 0 (fun _ => true) true ts vs ds ps → ds.length = ts.length := by
    intro ts
    induction ts with
    | nil => intro vs ds ps h; cases vs <;> cases ds <;> first | rfl | exact h.elim
    | cons t ts ih =>
      intro vs ds ps h
      cases vs <;> cases ds <;> simp only [DataW.TrodAll] at h
      obtain ⟨_, _, _, h2, _⟩ := h
      simp [ih _ _ _ h2]
  have hd : ds.length = fn.params.size := by have := hlen _ _ _ _ hA; simpa using this
  have hpp : ∀ t ∈ fn.params.toList, C.prog.readableRec t = true ∧ t < C.prog.types.size := fun t ht => by
    have := (List.all_eq_true.1 hp) t ht
    simp only [Bool.and_eq_true] at this
    exact ⟨this.1, blt_iff.1 this.2⟩
  have hlt : ∀ x ∈ p, x.block < W.heap.size := fun x hx => DataW.Whole.lt hW' x (by simp [hx])
  refine ⟨ds, [], _, [], p, [], hW', ?_, ?_, ?_, bel.frame _, fun h => by cases h⟩
  · rw [hs ds hd, hr]
    exact ChangeShapes.trodAll_mk1 (shut_bool hb _)
  · rw [hs ds hd]
    exact trodAll_below hl bel _ _ _ _ hpp hA hlt
  · rw [hv, hs ds hd]; rfl

end Go.Proofs.Ytoiacgfhjikddaa.Vc
