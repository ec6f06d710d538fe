/- The calculus, seventh part: operations that change memory: append, copy, make, literals of slices, and writes to what a function made itself. -/
import Derived.Test.YtoiacgfhjikddaaVcMem
import Derived.Laws.MakeOwn
namespace Go.Proofs.Ytoiacgfhjikddaa.Vc
open Go.RowKit

section
variable {B : Base} {E : Env} {st : St} {G G' : GH} {a : Act} {W W' : World} {P : Program} {ops : Array Oper} {Q : Post}

/-- Memory went on: what is not seen stays, and what was there as the call began. -/
structure Grew (B : Base) (G G' : GH) (W W' : World) : Prop where
  keep : ∀ k, k < W.heap.size → G k = none → W'.heap[k]? = W.heap[k]?
  hid : ∀ k, k < W.heap.size → G k = none → G' k = none
  sub : ∀ k o, G' k = some o → W'.heap[k]? = some o
  old : ∀ k, k < B.n0 → G' k = G k
  ext : ∀ k, k < B.n0 → W'.heap[k]? = W.heap[k]?
  os : W'.os = W.os
  tape : W'.tape = W.tape
  output : W'.output = W.output
  size : W.heap.size ≤ W'.heap.size
theorem Rel.grew (R : Rel B E st G a W) (g : Grew B G G' W W') : Rel B E st G' a W' :=
  { R with
    lo := fun i l hi => by
      have hlt := (List.getElem?_eq_some_iff.1 hi).1
      rw [g.keep _ (R.lt hlt) (R.hid i hlt)]; exact R.lo i l hi
    hid := fun i hi => g.hid _ (R.lt hi) (R.hid i hi)
    sub := g.sub
    old := fun k hk => (g.old k hk).trans (R.old k hk)
    ext := fun k hk hn => (g.ext k hk).trans (R.ext k hk hn)
    os := g.os.trans R.os
    tape := g.tape.trans R.tape
    output := g.output.trans R.output
    sz := Nat.le_trans R.sz g.size
    ows := R.ows.of (Nat.le_refl _) (fun o ho b hb => g.keep b ((R.ows.at_ o ho).lt hb).1 (R.ows.hid o ho b hb)) (fun o ho b hb => g.hid b ((R.ows.at_ o ho).lt hb).1 (R.ows.hid o ho b hb)) R.ows.loc }

/-- A new block. -/
theorem Grew.new (hs : Sees B G W) (hsz : B.n0 ≤ W.heap.size) (o : Obj) (hh : W'.heap = W.heap.push o) (h1 : W'.os = W.os) (h2 : W'.tape = W.tape) (h3 : W'.output = W.output) :
    Grew B G (fun k => if k = W.heap.size then some o else G k) W W' := by
  have hold : ∀ k, k < W.heap.size → W'.heap[k]? = W.heap[k]? := fun k hk => by rw [hh, Array.getElem?_push, if_neg (Nat.ne_of_lt hk)]
  refine ⟨fun k hk _ => hold k hk, fun k hk hg => by rw [if_neg (Nat.ne_of_lt hk)]; exact hg, fun k o' hk => ?_, fun k hk => ?_, fun k hk => hold k (Nat.lt_of_lt_of_le hk hsz), h1, h2, h3, by rw [hh]; simp⟩
  · revert hk; intro hk
    split at hk
    · rename_i e; subst e; simp only [Option.some.injEq] at hk; subst hk; rw [hh]; simp
    · have hlt := (Array.getElem?_eq_some_iff.1 (hs.1 k o' hk)).1
      rw [hold k hlt]; exact hs.1 k o' hk
  · have : k ≠ W.heap.size := by have := Nat.lt_of_lt_of_le hk hsz; omega
    rw [if_neg this]
theorem Sees.fresh (hs : Sees B G W) : G W.heap.size = none := by
  cases h : G W.heap.size with
  | none => rfl
  | some o => have := (Array.getElem?_eq_some_iff.1 (hs.1 _ _ h)).1; exact absurd this (Nat.lt_irrefl _)
/-- An own block, written anew. -/
theorem Grew.set (hs : Sees B G W) {b : Nat} {o o' : Obj} (hb : B.n0 ≤ b) (hg : G b = some o) (hn : W'.heap[b]? = some o') (ho : ∀ k, k ≠ b → W'.heap[k]? = W.heap[k]?) (hz : W'.heap.size = W.heap.size) (h1 : W'.os = W.os) (h2 : W'.tape = W.tape) (h3 : W'.output = W.output) :
    Grew B G (fun k => if k = b then some o' else G k) W W' := by
  refine ⟨fun k hk hgk => ho k (fun e => by subst e; rw [hg] at hgk; cases hgk), fun k hk hgk => ?_, fun k o1 hk => ?_, fun k hk => ?_, fun k hk => ho k (by omega), h1, h2, h3, by omega⟩
  · have : k ≠ b := fun e => by subst e; rw [hg] at hgk; cases hgk
    rw [if_neg this]; exact hgk
  · revert hk; intro hk
    split at hk
    · rename_i e; subst e; simp only [Option.some.injEq] at hk; subst hk; exact hn
    · rename_i e; rw [ho k e]; exact hs.1 k o1 hk
  · have : k ≠ b := by omega
    rw [if_neg this]

/-- A slice that this call made: it begins its block, and nobody else holds it. -/
structure Own (G : GH) (N : Nat) (v : Value) (e : TypeId) (w n : Nat) (l : List Value) : Prop where
  len : l.length = n * w
  at_ : (∃ oa, v = .slice oa 0 0 ∧ n = 0) ∨ ∃ b c L, v = .slice (some ⟨b, 0, none⟩) n c ∧ 0 < c ∧ N ≤ b ∧ G b = some (.cells ⟨L⟩ e (0, 0)) ∧ n ≤ c ∧ c ≤ maxLen ∧ L.length = c * w ∧ l = L.take (n * w)
theorem Own.nil (G : GH) (N : Nat) (e : TypeId) (w : Nat) : Own G N (.slice none 0 0) e w 0 [] := ⟨by simp, .inl ⟨none, rfl, rfl⟩⟩
theorem Own.row {N : Nat} {v : Value} {e : TypeId} {w n : Nat} {l : List Value} (h : Own G N v e w n l) : Row G v w n l := by
  refine ⟨h.len, h.at_.imp (fun ⟨oa, h⟩ => ⟨oa, 0, h⟩) ?_⟩
  rintro ⟨b, c, L, rfl, _, _, hg, hc, _, _, hl⟩
  refine ⟨_, c, rfl, hc, rfl, L, e, (0, 0), hg, ?_⟩
  rw [h.len]; simpa using hl
theorem Own.mono {N N' : Nat} {v : Value} {e : TypeId} {w n : Nat} {l : List Value} (h : Own G N v e w n l) (hN : N' ≤ N) : Own G N' v e w n l :=
  ⟨h.len, h.at_.imp id fun ⟨b, c, L, h1, h0, h2, r⟩ => ⟨b, c, L, h1, h0, Nat.le_trans hN h2, r⟩⟩
theorem Own.ext {N : Nat} {v : Value} {e : TypeId} {w n : Nat} {l : List Value} (h : Own G N v e w n l) (hg : ∀ b o, blk v = some b → G b = some o → G' b = some o) : Own G' N v e w n l :=
  ⟨h.len, h.at_.imp id fun ⟨b, c, L, h1, h0, h2, h3, r⟩ => ⟨b, c, L, h1, h0, h2, hg _ _ (by rw [h1]; exact blk_some h0) h3, r⟩⟩

/-- What came of an append. -/
structure Made (B : Base) (G G' : GH) (v v' : Value) (e : TypeId) (w n : Nat) (l : List Value) : Prop where
  own : Own G' B.n0 v' e w n l
  keep : ∀ k o, G k = some o → some k ≠ blk v → G' k = some o
  sep : blk v' = blk v ∨ ∀ b, blk v' = some b → G b = none

/-- What is known of an element's type. -/
structure ElemT (P : Program) (e : TypeId) (w bytes : Nat) : Prop where
  info : ∃ i z, P.info? e = some i ∧ i.zero = some z ∧ i.size = w ∧ i.bytes = bytes ∧ z.cells.size = w
def elemB (P : Program) (e w bytes : Nat) : Bool :=
  match P.info? e with
  | some i => (match i.zero with | some z => Nat.beq i.size w && Nat.beq i.bytes bytes && Nat.beq z.cells.size w | none => false)
  | none => false
theorem elem_of {e w bytes : Nat} (h : elemB P e w bytes = true) : ElemT P e w bytes := by
  unfold elemB at h
  split at h
  · rename_i i hi
    split at h
    · rename_i z hz
      simp only [Bool.and_eq_true] at h
      exact ⟨i, z, hi, hz, Nat.eq_of_beq_eq_true h.1.1, Nat.eq_of_beq_eq_true h.1.2, Nat.eq_of_beq_eq_true h.2⟩
    · cases h
  · cases h

theorem append_eff {G1 : GH} {t ty e : TypeId} {w bytes n m : Nat} {v x : Value} {l lx : List Value} (hu : P.underlying t = some (.slice e)) (he : ElemT P e w bytes) (hw : 0 < w)
    (hv : Own G B.n0 v e w n l) (hx : Row G1 x w m lx) (hs1 : ∀ k o, G1 k = some o → W.heap[k]? = some o) (h1 : ∀ u ∈ lx, u.oneCell' = true) (h63 : n + m ≤ maxLen) (hby : (n + m) * bytes ≤ 140737488355328)
    (hs : Sees B G W) (hsz : B.n0 ≤ W.heap.size) :
    ∃ v' W' G', (Builtin.append_ #[t, t] ty #[v, x]).run P W = .ok v' W' ∧ Grew B G G' W W' ∧ Made B G G' v v' e w (n + m) (l ++ lx) := by
  obtain ⟨i, z, hi, hz, hiw, hib, hzw⟩ := he.info
  subst hiw; subst hib
  have hlen : (l ++ lx).length = (n + m) * i.size := by rw [List.length_append, hv.len, hx.len, Nat.add_mul]
  by_cases hm : m = 0
  · subst hm
    have hlx : lx = [] := List.eq_nil_of_length_eq_zero (by simpa using hx.len)
    subst hlx
    refine ⟨v, W, G, ?_, ⟨fun _ _ _ => rfl, fun _ _ h => h, hs.1, fun _ _ => rfl, fun _ _ => rfl, rfl, rfl, rfl, Nat.le_refl _⟩, ⟨by simpa using hv, fun _ _ h _ => h, .inl rfl⟩⟩
    have hf : (Builtin.firstCells i.size 0 x).run P W = .ok #[] W := by
      rcases hx.at_ with ⟨oa, c, rfl, _⟩ | ⟨a, c, rfl, _⟩
      · cases oa <;> simp [Builtin.firstCells, loadCells, loadCellsFrom]
      · simp [Builtin.firstCells, loadCells, loadCellsFrom]
    have hlx : (Builtin.lenOf x).run P W = .ok 0 W := by
      rcases hx.at_ with ⟨oa, c, rfl, _⟩ | ⟨a, c, rfl, _⟩ <;> rfl
    rcases hv.at_ with ⟨oa, rfl, rfl⟩ | ⟨b, c, L, rfl, _, _, _, hc, _⟩
    · cases oa <;> simp [Builtin.append_, run_underlying hu, sizeOf, typeInfo, hi, hlx, hf, storeCells]
    · simp [Builtin.append_, run_underlying hu, sizeOf, typeInfo, hi, hlx, hf, hc, storeCells]
  · obtain ⟨xa, xc, rfl, hxc, hxat⟩ : ∃ a c, x = .slice (some a) m c ∧ m ≤ c ∧ At G1 a lx := by
      rcases hx.at_ with ⟨_, _, h0⟩ | h
      · exact absurd h0.2 hm
      · exact h
    have hnews : ∀ j u, lx[j]? = some u → W.cell? (xa.add j) = some u := fun j u hj => hxat.cell hs1 hj
    have grown : ∀ old, old < n + m → ∃ v' W' G', (∀ o, o = W.drew.alloc (.cells (l.toArray ++ lx.toArray ++ Builtin.zeroCells z.cells (grownCap W (n + m) old e - (n + m))) e) → W' = o) ∧ v' = .slice (some ⟨W.heap.size, 0, none⟩) (n + m) (grownCap W (n + m) old e) ∧ Grew B G G' W W' ∧ Made B G G' v v' e i.size (n + m) (l ++ lx) := by
      intro old ho
      have hge := grownCap_ge W (n + m) old e
      have hcm : grownCap W (n + m) old e ≤ maxLen := grownCap_le_maxLen W (n + m) old e h63
      refine ⟨_, W.drew.alloc (.cells (l.toArray ++ lx.toArray ++ Builtin.zeroCells z.cells (grownCap W (n + m) old e - (n + m))) e), _, fun o h => h.symm, rfl, Grew.new hs hsz _ rfl rfl rfl rfl, ⟨⟨hlen, .inr ⟨W.heap.size, _, l ++ lx ++ (Builtin.zeroCells z.cells (grownCap W (n + m) old e - (n + m))).toList, rfl, by omega, hsz, ?_, hge, hcm, ?_, ?_⟩⟩, fun k o hk _ => ?_, .inr fun b hb => ?_⟩⟩
      · simp only [if_true, Option.some.injEq]; congr 1; apply Array.ext'; simp
      · rw [List.length_append, hlen, Array.length_toList, size_zeroCells, hzw, ← Nat.add_mul]; congr 1; omega
      · rw [← hlen, List.take_left]
      · have : k ≠ W.heap.size := fun e => by subst e; rw [hs.fresh] at hk; cases hk
        rw [if_neg this]; exact hk
      · rw [blk_of hb]; exact hs.fresh
    have h63' : n + m ≤ 9223372036854775807 := by simp only [maxLen] at h63; omega
    rcases hv.at_ with ⟨oa, rfl, rfl⟩ | ⟨b, c, L, rfl, hc0, hbN, hgb, hnc, hcm, hLc, hL⟩
    · have hl0 : l = [] := List.eq_nil_of_length_eq_zero (by simpa using hv.len)
      subst hl0
      cases oa with
      | some oa =>
        have hr := run_append_grow (P := P) W t ty e i z hu hi hz oa 0 0 [] (by simp) (fun j v h => by simp at h) xa m xc lx hx.len hnews (by omega) (by omega) (growslice_fits (by omega) hby)
        obtain ⟨v', W', G', hW, hv', g1, g2⟩ := grown 0 (by omega)
        refine ⟨v', W', G', ?_, g1, ⟨g2.own, g2.keep, g2.sep⟩⟩
        rw [hr, hv', hW _ rfl]
      | none =>
      have hr := run_append_nil (P := P) W t ty e i z hu hi hz xa m xc lx hx.len hnews (by omega) (by omega) (by have hb := hby; simp only [Nat.zero_add] at hb; omega)
      obtain ⟨v', W', G', hW, hv', g1, g2⟩ := grown 0 (by omega)
      refine ⟨v', W', G', ?_, g1, g2⟩
      rw [hr, hv', hW _ rfl]; simp
    · by_cases hroom : n + m ≤ c
      · have hb := hs.1 _ _ hgb
        have hfit : n * i.size + lx.length ≤ L.length := by rw [hx.len, hLc, ← Nat.add_mul]; exact Nat.mul_le_mul_right _ hroom
        have hr := run_append_room (P := P) W t ty e i hu hi b n c ⟨L⟩ hb xa m xc lx hx.len hnews h1 hroom hfit
        refine ⟨_, _, _, hr, Grew.set hs hbN hgb (setRow_heap W b ⟨L⟩ _ e _ hb) (fun k hk => setRow_other W b k _ hk) (by simp) rfl rfl rfl, ⟨⟨hlen, .inr ⟨b, c, _, rfl, hc0, hbN, by simp only [if_true]; rfl, hroom, hcm, ?_, ?_⟩⟩, fun k o hk hne => ?_, .inl (by rw [blk_some hc0, blk_some hc0])⟩⟩
        · simp only [List.length_append, List.length_take, List.length_drop]; omega
        · rw [← hL, ← hlen, List.append_assoc]
          show l ++ lx = List.take (l ++ lx).length (l ++ (lx ++ _))
          rw [← List.append_assoc, List.take_left]
        · have : k ≠ b := fun e => hne (by rw [e]; exact (blk_some hc0).symm)
          rw [if_neg this]; exact hk
      · have holds : ∀ j u, l[j]? = some u → W.cell? ((⟨b, 0, none⟩ : Addr).add j) = some u := fun j u hj => by
          rw [add_none, cell_of (hs.1 _ _ hgb), Nat.zero_add]
          rw [hL, List.getElem?_take] at hj
          split at hj
          · exact hj
          · cases hj
        have hr := run_append_grow (P := P) W t ty e i z hu hi hz ⟨b, 0, none⟩ n c l hv.len holds xa m xc lx hx.len hnews (by omega) (by omega) (growslice_fits (by omega) hby)
        obtain ⟨v', W', G', hW, hv', g1, g2⟩ := grown c (by omega)
        refine ⟨v', W', G', ?_, g1, g2⟩
        rw [hr, hv', hW _ rfl]

/-! ### Effects -/
inductive EQ where
  | append (t : TypeId) (x y : Value)
  | copy (t u : TypeId) (x y : Value)
  | make (t : TypeId) (l c : Value)
  | buildS (t : TypeId) (n : Nat) (parts : List (Nat × Value))
  | alloc (t : TypeId)
  | box (t : TypeId) (x : Value)
def EQ.sem : EQ → Sem Value
  | .append t x y => Builtin.append_ #[t, t] 0 #[x, y]
  | .copy t u x y => Builtin.copy_ #[t, u] 0 #[x, y]
  | .make t l c => Instr.makeSlice t l c
  | .buildS t n ps => Instr.buildSlice t n ⟨ps⟩
  | .alloc t => Instr.alloc t true (.tuple #[])
  | .box t x => Instr.box t x
def eqOf (st : St) (o : Oper) : Option EQ :=
  match o.op with
  | .makeSlice t l c => (match st.plain l, st.plain c with | some v, some w => some (.make t v w) | _, _ => none)
  | .buildSlice t n ps => (match partsP st ps.toList with | some l => some (.buildS t n l) | none => none)
  | .alloc t => some (.alloc t)
  | .box t x => (match st.plain x with | some v => some (.box t v) | none => none)
  | .call c => (match c.callee, c.args.toList, c.argTypes.toList with
    | .builtin .append, [x, y], [t, u] => (match st.plain x, st.plain y with | some v, some w => bif Nat.beq t u then some (.append t v w) else none | _, _ => none)
    | .builtin .copy, [x, y], [t, u] => (match st.plain x, st.plain y with | some v, some w => some (.copy t u v w) | _, _ => none)
    | _, _, _ => none)
  | _ => none
theorem partsP_eval (R : Rel B E st G a W) : ∀ {ps : List (Nat × Operand)} {l : List (Nat × Value)}, partsP st ps = some l → ps.map (fun (i, x) => (i, a.eval x)) = l
  | [], l, h => by cases h; rfl
  | (i, x) :: r, l, h => by
    simp only [partsP] at h
    cases hx : st.plain x with
    | none => simp [hx] at h
    | some v =>
      cases hr : partsP st r with
      | none => simp [hx, hr] at h
      | some q =>
        simp only [hx, hr, Option.some.injEq] at h; subst h
        simp [R.plain hx, partsP_eval R hr]
theorem eq_run (R : Rel B E st G a W) {o : Oper} {q : EQ} (h : eqOf st o = some q) {x : Value} (hr : q.sem.run P W = .ok x W') : (execOp a.eval o).run P W = .ok (.value x) W' := by
  unfold eqOf at h
  split at h
  · rename_i t l c hop
    cases hl : st.plain l <;> cases hc : st.plain c <;> simp only [hl, hc, Option.some.injEq, reduceCtorEq] at h
    subst h
    simp only [execOp, hop, R.plain hl, R.plain hc]; exact bind_val hr
  · rename_i t n ps hop
    cases hl : partsP st ps.toList <;> simp only [hl, Option.some.injEq, reduceCtorEq] at h
    rename_i l
    subst h
    have e : ps.map (fun (i, x) => (i, a.eval x)) = ⟨l⟩ := by apply Array.ext'; simpa using partsP_eval R hl
    simp only [execOp, hop, e]; exact bind_val hr
  · rename_i t hop
    simp only [Option.some.injEq] at h; subst h
    simp only [execOp, hop]; exact bind_val hr
  · rename_i t x hop
    cases hx : st.plain x <;> simp only [hx, Option.some.injEq, reduceCtorEq] at h
    subst h
    simp only [execOp, hop, R.plain hx]; exact bind_val hr
  · rename_i c hop
    split at h
    · rename_i x' y' t u hc ha ht
      cases hx : st.plain x' <;> cases hy : st.plain y' <;> simp only [hx, hy, reduceCtorEq] at h
      cases htu : Nat.beq t u with
      | false => simp [htu] at h
      | true =>
        simp only [htu, cond_true, Option.some.injEq] at h; subst h
        have e1 : c.args = #[x', y'] := by apply Array.ext'; simpa using ha
        have e2 : c.argTypes = #[t, u] := by apply Array.ext'; simpa using ht
        have e3 := Nat.eq_of_beq_eq_true htu
        subst e3
        simp only [execOp, hop]
        show (Sem.bind (resolve a.eval c o.type) _).run P W = _
        unfold resolve
        rw [hc, e1, e2]
        simp only [List.map_toArray, List.map_cons, List.map_nil, R.plain hx, R.plain hy]
        exact bind_val hr
    · rename_i x' y' t u hc ha ht
      cases hx : st.plain x' <;> cases hy : st.plain y' <;> simp only [hx, hy, Option.some.injEq, reduceCtorEq] at h
      subst h
      have e1 : c.args = #[x', y'] := by apply Array.ext'; simpa using ha
      have e2 : c.argTypes = #[t, u] := by apply Array.ext'; simpa using ht
      simp only [execOp, hop]
      show (Sem.bind (resolve a.eval c o.type) _).run P W = _
      unfold resolve
      rw [hc, e1, e2]
      simp only [List.map_toArray, List.map_cons, List.map_nil, R.plain hx, R.plain hy]
      exact bind_val hr
    · cases h
  · cases h

/-- An effect, and what comes of it. -/
structure Ef (P : Program) (B : Base) (G : GH) (q : EQ) (K : Value → GH → Prop) : Prop where
  run : ∀ W, Sees B G W → B.n0 ≤ W.heap.size → ∃ v W' G', q.sem.run P W = .ok v W' ∧ Grew B G G' W W' ∧ K v G'
def eqAt (ops : Array Oper) (p : List Nat × St) : Option EQ := match cur ops p with | some o => eqOf p.2 o | none => none
theorem HOp.ef {p : List Nat × St} {K : Value → GH → Prop} (q : EQ) (h : eqAt ops p = some q) (hr : Ef P B G q K) (k : ∀ v G', K v G' → HOp B P ops (nxt ops p (.v v)) Q G') : HOp B P ops p Q G := by
  unfold eqAt at h
  cases ho : cur ops p with
  | none => simp [ho] at h
  | some o =>
    simp only [ho] at h
    refine ⟨fun E a W R => ?_⟩
    obtain ⟨v, W', G', hrun, g, hK⟩ := hr.run W R.sees R.sz
    refine wpOps_cur R rfl ho ?_
    unfold Oper.wp
    rw [eq_run R h hrun]
    exact (k v G' hK).run E (a.put o.dst v) W' (by
      have := (R.grew g).put o.dst (s := .v v) (x := v) rfl
      unfold nxt dstOf; rw [ho]; exact this)

theorem ef_append {G1 : GH} {t e : TypeId} {w bytes n m : Nat} {v x : Value} {l lx : List Value} (hv : Own G B.n0 v e w n l) (hx : Row G1 x w m lx) (hs1 : Sb B G G1) (h1 : ∀ u ∈ lx, u.oneCell' = true) (h63 : n + m ≤ maxLen) (hby : (n + m) * bytes ≤ 140737488355328)
    (hu : P.underlying t = some (.slice e)) (he : elemB P e w bytes = true) (hw : 0 < w) : Ef P B G (.append t v x) fun v' G' => Made B G G' v v' e w (n + m) (l ++ lx) :=
  ⟨fun W hs hsz => append_eff (ty := 0) hu (elem_of he) hw hv hx (hs.of hs1) h1 h63 hby hs hsz⟩

/-! ### A row that is made, and one that is written out -/
/-- A new row, known whole. -/
theorem own_new (hs : Sees B G W) (hsz : B.n0 ≤ W.heap.size) {e : TypeId} {w n c : Nat} {L : List Value} (hnc : n ≤ c) (hc : c ≤ maxLen) (hL : L.length = c * w) :
    Grew B G (fun k => if k = W.heap.size then some (.cells ⟨L⟩ e (0, 0)) else G k) W (W.alloc (.cells ⟨L⟩ e)) ∧
    Made B G (fun k => if k = W.heap.size then some (.cells ⟨L⟩ e (0, 0)) else G k) (.slice none 0 0) (.slice (some ⟨W.heap.size, 0, none⟩) n c) e w n (L.take (n * w)) := by
  refine ⟨Grew.new hs hsz _ rfl rfl rfl rfl, ⟨⟨?_, ?_⟩, fun k o hk _ => ?_, .inr fun b hb => ?_⟩⟩
  · rw [List.length_take, hL]; exact Nat.min_eq_left (Nat.mul_le_mul_right _ hnc)
  · rcases Nat.eq_zero_or_pos c with rfl | h0
    · have : n = 0 := by omega
      subst this; exact .inl ⟨_, rfl, rfl⟩
    · exact .inr ⟨W.heap.size, c, L, rfl, h0, hsz, by rw [if_pos rfl], hnc, hc, hL, rfl⟩
  · have : k ≠ W.heap.size := fun e => by subst e; rw [hs.fresh] at hk; cases hk
    rw [if_neg this]; exact hk
  · rw [blk_of hb]; exact hs.fresh

/-- An element's zero cells are all this one. -/
def zeroB (P : Program) (e w bytes : Nat) (x : Value) : Bool :=
  match P.info? e with
  | some i => (match i.zero with
    | some z => Nat.beq i.size w && Nat.beq i.bytes bytes && Nat.beq z.cells.size w && z.cells.toList.all (fun c => match c, x with | .int k n, .int k' n' => decide (k = k') && decide (n = n') | .bool b, .bool b' => decide (b = b') | _, _ => false)
    | none => false)
  | none => false
theorem zero_spec {e w bytes : Nat} {x : Value} (h : zeroB P e w bytes x = true) : ∃ i z, P.info? e = some i ∧ i.zero = some z ∧ i.size = w ∧ i.bytes = bytes ∧ z.cells.size = w ∧ ∀ c ∈ z.cells.toList, c = x := by
  unfold zeroB at h
  split at h
  · rename_i i hi
    split at h
    · rename_i z hz
      simp only [Bool.and_eq_true] at h
      refine ⟨i, z, hi, hz, Nat.eq_of_beq_eq_true h.1.1.1, Nat.eq_of_beq_eq_true h.1.1.2, Nat.eq_of_beq_eq_true h.1.2, fun c hc => ?_⟩
      have := (List.all_eq_true.1 h.2) c hc
      split at this
      · simp only [Bool.and_eq_true, decide_eq_true_eq] at this; rw [this.1, this.2]
      · simp only [decide_eq_true_eq] at this; rw [this]
      · cases this
    · cases h
  · cases h
theorem made_list {z : Array Value} {x : Value} {n : Nat} (hz : 0 < z.size) (h : ∀ c ∈ z.toList, c = x) : madeCells z n = ⟨List.replicate n x⟩ := by
  apply Array.ext'
  simp only [madeCells, Array.toList_map, Array.toList_range]
  rw [List.eq_replicate_iff]
  refine ⟨by simp, fun c hc => ?_⟩
  simp only [List.mem_map, List.mem_range] at hc
  obtain ⟨i, _, rfl⟩ := hc
  have hlt : i % z.size < z.size := Nat.mod_lt _ hz
  rw [getElem!_pos z _ hlt]
  exact h _ (by simp)
theorem ef_make {t e : TypeId} {w bytes : Nat} {k k' : IntKind} {n : Int} {x : Value} (h0 : 0 ≤ n) (h1 : bytes * n ≤ 281474976710656) (h2 : n.toNat ≤ maxLen) (hu : P.underlying t = some (.slice e)) (hz : zeroB P e w bytes x = true) (hw : 0 < w) :
    Ef P B G (.make t (.int k n) (.int k' n)) fun v' G' => Made B G G' (.slice none 0 0) v' e w n.toNat (List.replicate (n.toNat * w) x) := by
  refine ⟨fun W hs hsz => ?_⟩
  obtain ⟨i, z, hi, hzz, hiw, hib, hzw, hall⟩ := zero_spec hz
  subst hiw; subst hib
  have h63 : n ≤ 9223372036854775807 := by simp only [maxLen] at h2; omega
  have hr := run_make (P := P) W t e i z hu hi hzz k k' n n h0 (Int.le_refl _) h1 h63
  rw [made_list (by omega) hall] at hr
  obtain ⟨g, m⟩ := own_new (e := e) (w := i.size) (L := List.replicate (n.toNat * i.size) x) hs hsz (Nat.le_refl n.toNat) h2 (by simp)
  rw [List.take_of_length_le (by simp)] at m
  exact ⟨_, _, _, hr, g, m⟩

/-- What a literal's cells come to. -/
theorem ef_buildS {t e : TypeId} {w bytes n : Nat} {ps : List (Nat × Value)} {x : Value} {L : List Value} (hn : n * w ≤ 16777216) (hm : n ≤ maxLen)
    (hf : Instr.fill (fun i => some (i * w, w)) ⟨List.replicate (n * w) x⟩ ps = some ⟨L⟩) (hL : L.length = n * w) (hu : P.underlying t = some (.slice e)) (hz : zeroB P e w bytes x = true) (hw : 0 < w) :
    Ef P B G (.buildS t n ps) fun v' G' => Made B G G' (.slice none 0 0) v' e w n L := by
  refine ⟨fun W hs hsz => ?_⟩
  obtain ⟨i, z, hi, hzz, hiw, hib, hzw, hall⟩ := zero_spec hz
  subst hiw; subst hib
  obtain ⟨g, m⟩ := own_new (e := e) (w := i.size) (L := L) hs hsz (Nat.le_refl n) hm hL
  rw [List.take_of_length_le (by omega)] at m
  refine ⟨_, _, _, ?_, g, m⟩
  have hmc : ((Array.range (n * i.size)).map (z.cells[· % z.cells.size]!) : Array Value) = ⟨List.replicate (n * i.size) x⟩ := made_list (n := n * i.size) (by omega) hall
  have hlim : ¬ (16777216 < n * i.size) := by omega
  show (Instr.buildSlice t n ⟨ps⟩).run P W = _
  by_cases h0 : n * i.size = 0
  · rw [h0] at hf
    have e0 : (Array.map (fun _ => default) (Array.range 0) : Array Value) = ⟨List.replicate 0 x⟩ := by apply Array.ext'; simp
    simp [Instr.buildSlice, run_underlying hu, sizeOf, typeInfo, hi, h0, newRow]
    rw [e0, hf]
    simp [newRow]
  · simp [Instr.buildSlice, run_underlying hu, sizeOf, typeInfo, zeroValue, hi, hzz, h0, hlim, hmc]
    rw [show Array.replicate (n * i.size) x = ⟨List.replicate (n * i.size) x⟩ by apply Array.ext'; simp, hf]
    simp [newRow]

/-! ### Writes to a row that one made -/
/-- Some cells of a row, written anew. -/
def wrAt (l : List Value) (k : Nat) (xs : List Value) : List Value := l.take k ++ xs ++ l.drop (k + xs.length)
theorem wrAt_length {l : List Value} {k : Nat} {xs : List Value} (h : k + xs.length ≤ l.length) : (wrAt l k xs).length = l.length := by
  simp only [wrAt, List.length_append, List.length_take, List.length_drop]; omega
theorem wrAt_take {L : List Value} {k n : Nat} {xs : List Value} (h : k + xs.length ≤ n) (hn : n ≤ L.length) : (wrAt L k xs).take n = wrAt (L.take n) k xs := by
  unfold wrAt
  rw [List.take_append, List.length_append, List.length_take, Nat.min_eq_left (by omega), List.take_of_length_le (by rw [List.length_append, List.length_take]; omega), List.take_take, Nat.min_eq_left (by omega), List.drop_take]
/-- Cells are stored into a row of one's own. -/
theorem own_set (hs : Sees B G W) {b c n w k : Nat} {e : TypeId} {L xs : List Value} (hb : B.n0 ≤ b) (hg : G b = some (.cells ⟨L⟩ e (0, 0))) (hc0 : 0 < c) (hnc : n ≤ c) (hc : c ≤ maxLen) (hL : L.length = c * w) (hk : k + xs.length ≤ n * w) (h1 : ∀ u ∈ xs, u.oneCell' = true) :
    ∃ W' G', (storeCells ⟨b, k, none⟩ xs).run P W = .ok () W' ∧ Grew B G G' W W' ∧ Made B G G' (.slice (some ⟨b, 0, none⟩) n c) (.slice (some ⟨b, 0, none⟩) n c) e w n (wrAt (L.take (n * w)) k xs) := by
  have hle : n * w ≤ L.length := by rw [hL]; exact Nat.mul_le_mul_right _ hnc
  have hh := hs.1 _ _ hg
  have hr := run_storeCells_at P b k e xs 0 ⟨L⟩ W hh (by simpa using by omega) h1
  simp only [Nat.add_zero] at hr
  refine ⟨_, _, hr, Grew.set hs hb hg (setRow_heap W b ⟨L⟩ _ e _ hh) (fun j hj => setRow_other W b j _ hj) (by simp) rfl rfl rfl, ⟨⟨?_, .inr ⟨b, c, wrAt L k xs, rfl, hc0, hb, by rw [if_pos rfl]; rfl, hnc, hc, ?_, ?_⟩⟩, fun j o hj hne => ?_, .inl rfl⟩⟩
  · rw [wrAt_length (by rw [List.length_take]; omega), List.length_take]; omega
  · rw [wrAt_length (by omega)]; exact hL
  · rw [wrAt_take hk hle]
  · have : j ≠ b := fun e => hne (by rw [e]; exact (blk_some hc0).symm)
    rw [if_neg this]; exact hj

theorem lenOf_row {G1 : GH} {x : Value} {w m : Nat} {lx : List Value} (hx : Row G1 x w m lx) : (Builtin.lenOf x).run P W = .ok m W := by
  rcases hx.at_ with ⟨oa, c, rfl, rfl⟩ | ⟨a, c, rfl, _⟩ <;> rfl
theorem first_row {G1 : GH} {x : Value} {w m : Nat} {lx : List Value} (hx : Row G1 x w m lx) (hw : ∀ k o, G1 k = some o → W.heap[k]? = some o) {k : Nat} (hk : k ≤ m) : (Builtin.firstCells w k x).run P W = .ok ⟨lx.take (k * w)⟩ W := by
  rcases hx.at_ with ⟨oa, c, rfl, rfl⟩ | ⟨a, c, rfl, _, hat⟩
  · have : lx = [] := List.eq_nil_of_length_eq_zero (by simpa using hx.len)
    have hk0 : k = 0 := by omega
    subst this; subst hk0
    cases oa <;> simp [Builtin.firstCells, loadCells, loadCellsFrom]
  · have h2 := (hat.sub 0 (k * w)).loads (P := P) hw
    have hadd : a.add 0 = a := by rw [add_eq hat.1]; cases a; have := hat.1; simp only at this; subst this; rfl
    rw [hadd, List.drop_zero, List.length_take, hx.len, Nat.min_eq_left (Nat.mul_le_mul_right _ hk)] at h2
    exact h2

/-- Elements are copied into some of a row of one's own. -/
theorem ef_copy {G1 : GH} {t u e : TypeId} {w n m lo hi : Nat} {v x : Value} {l lx : List Value} (hv : Own G B.n0 v e w n l) (h1 : lo ≤ hi) (h2 : hi ≤ n) (hx : Row G1 x w m lx) (hs1 : Sb B G G1) (hm : m ≤ hi - lo) (ho : ∀ u ∈ lx, u.oneCell' = true)
    (hu : P.underlying t = some (.slice e)) (hw : cellsW P e w = true) : Ef P B G (.copy t u (subAt v w lo hi) x) fun r G' => r = .int .i64 m ∧ Made B G G' v v e w n (wrAt l (lo * w) lx) := by
  refine ⟨fun W hs hsz => ?_⟩
  have hmin : Nat.min m (hi - lo) = m := Nat.min_eq_left hm
  have hlx : lx.take (m * w) = lx := List.take_of_length_le (by rw [hx.len]; exact Nat.le_refl _)
  have hf := first_row (P := P) hx (hs.of hs1) (Nat.le_refl m)
  rw [hlx] at hf
  rcases hv.at_ with ⟨oa, rfl, rfl⟩ | ⟨b, c, L, rfl, hc0, hbN, hgb, hnc, hcm, hLc, hL⟩
  · have hm0 : m = 0 := by omega
    subst hm0
    have hl0 : l = [] := List.eq_nil_of_length_eq_zero (by simpa using hv.len)
    have hx0 : lx = [] := List.eq_nil_of_length_eq_zero (by simpa using hx.len)
    subst hl0; subst hx0
    refine ⟨.int .i64 0, W, G, ?_, ⟨fun _ _ _ => rfl, fun _ _ h => h, hs.1, fun _ _ => rfl, fun _ _ => rfl, rfl, rfl, rfl, Nat.le_refl _⟩, rfl, ⟨by simpa [wrAt] using hv, fun _ _ h _ => h, .inl rfl⟩⟩
    have hi0 : hi = 0 := by omega
    have lo0 : lo = 0 := by omega
    subst hi0; subst lo0
    rw [subAt_eq]
    cases oa with
    | none =>
      show (Builtin.copy_ #[t, u] 0 #[.slice none 0 0, x]).run P W = _
      simp [Builtin.copy_, run_underlying hu, lenOf_row hx, size_run hw, hf, goInt]
    | some oa =>
      show (Builtin.copy_ #[t, u] 0 #[.slice (some oa) 0 0, x]).run P W = _
      simp [Builtin.copy_, run_underlying hu, lenOf_row hx, size_run hw, hf, goInt, storeCells]
  · have hmw : m * w ≤ (hi - lo) * w := Nat.mul_le_mul_right _ hm
    have hsub : (hi - lo) * w = hi * w - lo * w := Nat.sub_mul ..
    have hlo : lo * w ≤ hi * w := Nat.mul_le_mul_right _ h1
    have hhi : hi * w ≤ n * w := Nat.mul_le_mul_right _ h2
    have hmem : lo * w + lx.length ≤ n * w := by rw [hx.len]; omega
    obtain ⟨W', G', hr, hg, hmd⟩ := own_set (P := P) hs hbN hgb hc0 hnc hcm hLc hmem ho
    rw [← hL] at hmd
    refine ⟨.int .i64 m, W', G', ?_, hg, rfl, hmd⟩
    rw [subAt_eq]
    show (Builtin.copy_ #[t, u] 0 #[.slice (some (if c = lo then ⟨b, 0, none⟩ else (⟨b, 0, none⟩ : Addr).add (lo * w))) (hi - lo) (c - lo), x]).run P W = _
    have hst : (storeCells (if c = lo then (⟨b, 0, none⟩ : Addr) else (⟨b, 0, none⟩ : Addr).add (lo * w)) lx).run P W = .ok () W' := by
      split
      · rename_i e
        have e0 : m = 0 := by omega
        have hx0 : lx = [] := List.eq_nil_of_length_eq_zero (by rw [hx.len, e0]; simp)
        subst hx0
        have : W' = W := by
          simp only [storeCells, pure, Sem.run] at hr
          cases hr; rfl
        rw [this]; simp [storeCells, pure, Sem.run]
      · rw [add_none, Nat.zero_add]; exact hr
    simp only [Builtin.copy_]
    simp [run_underlying hu, lenOf_row hx, size_run hw, hmin, hf, hst, goInt]

/-- As many elements are copied as fit. -/
theorem copy_eff {G1 : GH} {t u e : TypeId} {w n m m' lo hi : Nat} {v x : Value} {l lx : List Value} (hv : Own G B.n0 v e w n l) (h1 : lo ≤ hi) (h2 : hi ≤ n) (hx : Row G1 x w m lx) (hs1 : ∀ k o, G1 k = some o → W.heap[k]? = some o) (hm : m' = min m (hi - lo)) (ho : ∀ u ∈ lx, u.oneCell' = true)
    (hu : P.underlying t = some (.slice e)) (hw : cellsW P e w = true) (hs : Sees B G W) (hsz : B.n0 ≤ W.heap.size) : ∃ r W' G', (EQ.copy t u (subAt v w lo hi) x).sem.run P W = .ok r W' ∧ Grew B G G' W W' ∧ r = .int .i64 m' ∧ Made B G G' v v e w n (wrAt l (lo * w) (lx.take (m' * w))) := by
  have hmin : Nat.min m (hi - lo) = m' := hm.symm
  have hm1 : m' ≤ m := by rw [hm]; exact Nat.min_le_left _ _
  have hm2 : m' ≤ hi - lo := by rw [hm]; exact Nat.min_le_right _ _
  have hf := first_row (P := P) hx hs1 hm1
  have hlen := lenOf_row (P := P) (W := W) hx
  have ho' : ∀ u ∈ lx.take (m' * w), u.oneCell' = true := fun u hu => ho u (List.mem_of_mem_take hu)
  have hlx : (lx.take (m' * w)).length = m' * w := by rw [List.length_take, hx.len]; exact Nat.min_eq_left (Nat.mul_le_mul_right _ hm1)
  generalize lx.take (m' * w) = ly at hf ho' hlx ⊢
  clear hm hx ho
  rcases hv.at_ with ⟨oa, rfl, rfl⟩ | ⟨b, c, L, rfl, hc0, hbN, hgb, hnc, hcm, hLc, hL⟩
  · have hm0 : m' = 0 := by omega
    subst hm0
    have hl0 : l = [] := List.eq_nil_of_length_eq_zero (by simpa using hv.len)
    have hx0 : ly = [] := List.eq_nil_of_length_eq_zero (by simpa using hlx)
    subst hl0; subst hx0
    refine ⟨.int .i64 0, W, G, ?_, ⟨fun _ _ _ => rfl, fun _ _ h => h, hs.1, fun _ _ => rfl, fun _ _ => rfl, rfl, rfl, rfl, Nat.le_refl _⟩, rfl, ⟨by simpa [wrAt] using hv, fun _ _ h _ => h, .inl rfl⟩⟩
    have hi0 : hi = 0 := by omega
    have lo0 : lo = 0 := by omega
    subst hi0; subst lo0
    rw [subAt_eq]
    cases oa with
    | none =>
      show (Builtin.copy_ #[t, u] 0 #[.slice none 0 0, x]).run P W = _
      simp [Builtin.copy_, run_underlying hu, hlen, size_run hw, hf, goInt]
    | some oa =>
      show (Builtin.copy_ #[t, u] 0 #[.slice (some oa) 0 0, x]).run P W = _
      simp [Builtin.copy_, run_underlying hu, hlen, size_run hw, hf, goInt, storeCells]
  · have hmw : m' * w ≤ (hi - lo) * w := Nat.mul_le_mul_right _ hm2
    have hsub : (hi - lo) * w = hi * w - lo * w := Nat.sub_mul ..
    have hlo : lo * w ≤ hi * w := Nat.mul_le_mul_right _ h1
    have hhi : hi * w ≤ n * w := Nat.mul_le_mul_right _ h2
    have hmem : lo * w + ly.length ≤ n * w := by rw [hlx]; omega
    obtain ⟨W', G', hr, hg, hmd⟩ := own_set (P := P) hs hbN hgb hc0 hnc hcm hLc hmem ho'
    rw [← hL] at hmd
    refine ⟨.int .i64 m', W', G', ?_, hg, rfl, hmd⟩
    rw [subAt_eq]
    show (Builtin.copy_ #[t, u] 0 #[.slice (some (if c = lo then ⟨b, 0, none⟩ else (⟨b, 0, none⟩ : Addr).add (lo * w))) (hi - lo) (c - lo), x]).run P W = _
    have hst : (storeCells (if c = lo then (⟨b, 0, none⟩ : Addr) else (⟨b, 0, none⟩ : Addr).add (lo * w)) ly).run P W = .ok () W' := by
      split
      · rename_i e
        have e0 : m' = 0 := by omega
        have hx0 : ly = [] := List.eq_nil_of_length_eq_zero (by rw [hlx, e0]; simp)
        subst hx0
        have : W' = W := by
          simp only [storeCells, pure, Sem.run] at hr
          cases hr; rfl
        rw [this]; simp [storeCells, pure, Sem.run]
      · rw [add_none, Nat.zero_add]; exact hr
    simp only [Builtin.copy_]
    simp [run_underlying hu, hlen, size_run hw, hmin, hf, hst, goInt]

theorem ef_copyM {G1 : GH} {t u e : TypeId} {w n m m' lo hi : Nat} {v x : Value} {l lx : List Value} (hv : Own G B.n0 v e w n l) (h1 : lo ≤ hi) (h2 : hi ≤ n) (hx : Row G1 x w m lx) (hs1 : Sb B G G1) (hm : m' = min m (hi - lo)) (ho : ∀ u ∈ lx, u.oneCell' = true)
    (hu : P.underlying t = some (.slice e)) (hw : cellsW P e w = true) : Ef P B G (.copy t u (subAt v w lo hi) x) fun r G' => r = .int .i64 m' ∧ Made B G G' v v e w n (wrAt l (lo * w) (lx.take (m' * w))) :=
  ⟨fun W hs hsz => copy_eff hv h1 h2 hx (hs.of hs1) hm ho hu hw hs hsz⟩

/-- A pointer into a row of one's own. -/
def InOwn (v p : Value) (k : Nat) : Prop := ∃ b n c, v = .slice (some ⟨b, 0, none⟩) n c ∧ 0 < c ∧ p = .pointer (some ⟨b, k, none⟩)
theorem Own.ptr {N n w : Nat} {v : Value} {e : TypeId} {l : List Value} (h : Own G N v e w n l) {i : Int} (h0 : 0 ≤ i) (h1 : i < n) : InOwn v (ptrAt v w i) (i.toNat * w) := by
  rcases h.at_ with ⟨oa, rfl, rfl⟩ | ⟨b, c, L, rfl, h0, _⟩
  · omega
  · exact ⟨b, n, c, rfl, h0, by simp [ptrAt_eq, ptrAtD, add_none]⟩
theorem InOwn.off {v p : Value} {k : Nat} (h : InOwn v p k) (w : Nat) (i : Int) : InOwn v (ptrOff p w i) (k + i.toNat * w) := by
  obtain ⟨b, n, c, rfl, h0, rfl⟩ := h
  exact ⟨b, n, c, rfl, h0, by simp [ptrOff_eq, ptrOffD, add_none]⟩

def storeAtQ (ops : Array Oper) (p : List Nat × St) : Option (TypeId × Value × Value) :=
  match cur ops p with
  | some o => (match o.op with
    | .store t x y => (match p.2.plain x, p.2.plain y with | some v, some w => some (t, v, w) | _, _ => none)
    | _ => none)
  | none => none
theorem HOp.store {p : List Nat × St} {n w k m : Nat} {e : TypeId} {v : Value} {l : List Value} (t : TypeId) (pt x : Value) (h : storeAtQ ops p = some (t, pt, x)) (hv : Own G B.n0 v e w n l) (hp : InOwn v pt k)
    (hm : x.cells.size = m) (hk : k + m ≤ n * w) (h1 : ∀ u ∈ x.cells.toList, u.oneCell' = true) (hw : cellsW P t m = true)
    (c : ∀ G', Made B G G' v v e w n (wrAt l k x.cells.toList) → HOp B P ops (nxt ops p (.v undef)) Q G') : HOp B P ops p Q G := by
  unfold storeAtQ at h
  cases ho : cur ops p with
  | none => simp [ho] at h
  | some o =>
    simp only [ho] at h
    split at h
    · rename_i t' a' b' hop
      cases ha : p.2.plain a' <;> cases hb : p.2.plain b' <;> simp only [ha, hb, Option.some.injEq, Prod.mk.injEq, reduceCtorEq] at h
      obtain ⟨e1, e2, e3⟩ := h
      rw [e2] at ha; rw [e3] at hb; rw [e1] at hop
      refine ⟨fun E a W R => ?_⟩
      refine wpOps_cur R rfl ho ?_
      unfold Oper.wp
      obtain ⟨b, n', c', rfl, hcp, rfl⟩ := hp
      rcases hv.at_ with ⟨oa, e0, _⟩ | ⟨b', c'', L, e0, hc0, hbN, hgb, hnc, hcm, hLc, hL⟩
      · cases e0; omega
      · cases e0
        obtain ⟨W', G', hr, hg, hmd⟩ := own_set (P := P) (k := k) (xs := x.cells.toList) R.sees hbN hgb hc0 hnc hcm hLc (by simpa [hm] using hk) h1
        rw [← hL] at hmd
        have hrun : (execOp a.eval o).run P W = .ok .skip W' := by
          simp only [execOp, hop, R.plain ha, R.plain hb]
          show (Sem.bind (Instr.storeAt t (.pointer (some ⟨b, k, none⟩)) x) _).run P W = _
          have hs : (Instr.storeAt t (.pointer (some ⟨b, k, none⟩)) x).run P W = .ok () W' := by
            show (storeVar t ⟨b, k, none⟩ x).run P W = _
            simp [storeVar, size_run hw, hm, hr]
          rw [run_bind hs]; rfl
        rw [hrun]
        exact (c G' hmd).run E (a.put o.dst undef) W' (by
          have := (R.grew hg).put o.dst (s := .v undef) (x := undef) rfl
          unfold nxt dstOf; rw [ho]; exact this)
    · cases h

theorem ptrAt_zero (b w n c : Nat) : ptrAt (.slice (some ⟨b, 0, none⟩) n c) w 0 = .pointer (some ⟨b, 0, none⟩) := by simp [ptrAt_eq, ptrAtD, add_none]
/-- A variable of one's own, as a row of one element. -/
theorem ef_alloc {t : TypeId} {w bytes : Nat} {x : Value} (hz : zeroB P t w bytes x = true) : Ef P B G (.alloc t) fun p G' => ∃ v', p = ptrAt v' w 0 ∧ Made B G G' (.slice none 0 0) v' t w 1 (List.replicate w x) := by
  refine ⟨fun W hs hsz => ?_⟩
  obtain ⟨i, z, hi, hzz, hiw, hib, hzw, hall⟩ := zero_spec hz
  have hzl : z.cells = ⟨List.replicate w x⟩ := by
    apply Array.ext'
    rw [List.eq_replicate_iff]
    exact ⟨by simpa using hzw, hall⟩
  obtain ⟨g, m⟩ := own_new (e := t) (w := w) (n := 1) (c := 1) (L := List.replicate w x) hs hsz (Nat.le_refl 1) (by simp [maxLen]) (by simp)
  rw [List.take_of_length_le (by simp)] at m
  refine ⟨_, _, _, ?_, g, _, (ptrAt_zero _ _ _ _).symm, m⟩
  show (Instr.alloc t true (.tuple #[])).run P W = _
  simp [Instr.alloc, zeroValue, typeInfo, hi, hzz, newVar, newRow, hzl]
theorem ef_box {t : TypeId} {w : Nat} {x : Value} {L : List Value} (hx : x.cells = ⟨L⟩) (hL : L.length = w) : Ef P B G (.box t x) fun p G' => ∃ v', p = ptrAt v' w 0 ∧ Made B G G' (.slice none 0 0) v' t w 1 L := by
  refine ⟨fun W hs hsz => ?_⟩
  obtain ⟨g, m⟩ := own_new (e := t) (w := w) (n := 1) (c := 1) (L := L) hs hsz (Nat.le_refl 1) (by simp [maxLen]) (by omega)
  rw [List.take_of_length_le (by omega)] at m
  refine ⟨_, _, _, ?_, g, _, (ptrAt_zero _ _ _ _).symm, m⟩
  show (Instr.box t x).run P W = _
  simp [Instr.box, newVar, newRow, hx]
/-- One array, as a literal of a slice. -/
theorem fill_one {w : Nat} {x : Value} {L : List Value} (hL : L.length = w) : Instr.fill (fun i => some (i * w, w)) ⟨List.replicate (1 * w) x⟩ [(0, .agg ⟨L⟩)] = some ⟨L⟩ := by
  subst hL
  have key : ∀ (M : List Value) (k : Nat) (A : Array Value), k + M.length = A.size → (M.toArray.zipIdx k).foldl (fun cs (c, j) => cs.setIfInBounds (0 + j) c) A = ⟨A.toList.take k ++ M⟩ := by
    intro M
    induction M with
    | nil => intro k A h; simp only [List.length_nil, Nat.add_zero] at h; rw [← Array.foldl_toList]; apply Array.ext'; simp [h, List.take_of_length_le]
    | cons y r ih =>
      intro k A h
      simp only [List.length_cons] at h
      have := ih (k + 1) (A.setIfInBounds (0 + k) y) (by simp; omega)
      rw [← Array.foldl_toList] at this ⊢
      simp only [Array.toList_zipIdx, List.zipIdx_cons, List.foldl_cons] at this ⊢
      rw [this]
      apply Array.ext'
      simp only [Array.toList_setIfInBounds, Nat.zero_add]
      rw [List.take_set, List.take_add_one]
      have hk : k < A.toList.length := by simp; omega
      rw [List.set_append_right _ _ (by simp; omega)]
      have hk2 : k < A.size := by omega
      simp [hk2, Nat.min_eq_left (Nat.le_of_lt hk2)]
  simp only [Instr.fill]
  have h1 : (Value.agg ⟨L⟩).cells.size = L.length := rfl
  rw [if_neg (by simp [h1])]
  have := key L 0 ⟨List.replicate (1 * L.length) x⟩ (by simp)
  simp only [Nat.zero_mul]
  show some _ = _
  simpa [Value.cells] using this

/-! ### Calls of functions that read memory, or make something new -/
theorem pureCall {p : List Nat × St} {f : Nat} {vs : List Value} {K : Nat → GH → Value → Prop} (h : callV ops p = some (f, vs)) (hk : (okCallee P f && scT p.2.lo.length p.2.tm) = true) {G1 : GH} (hs : Sb B G G1)
    (hF : ∀ W, (∀ k o, G1 k = some o → W.heap[k]? = some o) → Calls P f ⟨vs⟩ W fun e W' => ∃ v G', e = .returned v ∧ Kept default_env 0 W W' ∧ (∀ k o, G' k = some o → W'.heap[k]? = some o) ∧ (∀ k, k < W.heap.size → G' k = none) ∧ K W.heap.size G' v)
    (k : ∀ N G' G2 v, B.n0 ≤ N → GExt G' G2 → GExt G G2 → (∀ k, k < N → G2 k = G k) → (∀ k, N ≤ k → G k = none) → K N G' v → HOp B P ops (nxt ops p (.v v)) Q G2) : HOp B P ops p Q G := by
  obtain ⟨as, h1, h2⟩ := callV_spec h
  refine ⟨fun E a W R => ?_⟩
  have hk' := hk
  simp only [Bool.and_eq_true] at hk'
  obtain ⟨o, ho⟩ : ∃ o, cur ops p = some o := by
    unfold callOf at h1
    cases hc : cur ops p with
    | none => simp [hc] at h1
    | some o => exact ⟨o, rfl⟩
  refine wpOps_cur R rfl ho ?_
  unfold Oper.wp
  rw [callOf_run R rfl ho h1 hk'.1, Oper.upon_enter, SV.pls_den h2]
  refine Calls.mono (hF W (R.sees.of hs)) ?_
  rintro e W' ⟨v, G', rfl, hkept, hsub, hnew, hK⟩
  have hnone : ∀ k, W.heap.size ≤ k → G k = none := fun k hk => by
    cases hg : G k with
    | none => rfl
    | some o => have := (Array.getElem?_eq_some_iff.1 (R.sub k o hg)).1; omega
  let G2 : GH := fun k => if k < W.heap.size then G k else G' k
  have hkb : ∀ k, k < W.heap.size → W'.heap[k]? = W.heap[k]? := fun k hk => hkept.block k hk (fun i hi => by omega)
  have g : Grew B G G2 W W' := by
    refine ⟨fun k hk _ => hkb k hk, fun k hk hg => ?_, fun k o hk => ?_, fun k hk => ?_, fun k hk => hkb k (Nat.lt_of_lt_of_le hk R.sz), hkept.os, hkept.tape, hkept.output, hkept.size⟩
    · show (if k < W.heap.size then G k else G' k) = none
      rw [if_pos hk]; exact hg
    · have hk2 : (if k < W.heap.size then G k else G' k) = some o := hk
      split at hk2
      · rename_i hlt; rw [hkb k hlt]; exact R.sub k o hk2
      · exact hsub k o hk2
    · show (if k < W.heap.size then G k else G' k) = G k
      rw [if_pos (Nat.lt_of_lt_of_le hk R.sz)]
  have e1 : GExt G' G2 := fun k o hk => by
    show (if k < W.heap.size then G k else G' k) = some o
    split
    · rename_i hlt; rw [hnew k hlt] at hk; cases hk
    · exact hk
  have e2 : GExt G G2 := fun k o hk => by
    show (if k < W.heap.size then G k else G' k) = some o
    split
    · exact hk
    · rename_i hlt; rw [hnone k (by omega)] at hk; cases hk
  refine (k W.heap.size G' G2 v R.sz e1 e2 (fun k hk => ?_) hnone hK).run E _ W' (by
    have := (R.grew g).put o.dst (s := .v v) (x := v) rfl
    unfold nxt dstOf; rw [ho]; exact this)
  show (if k < W.heap.size then G k else G' k) = G k
  rw [if_pos hk]

/-- A function that reads memory, and returns one value. -/
structure PureG (P : Program) (f : Nat) (vs : List Value) (G1 : GH) (r : Value) : Prop where
  run : ∀ W, (∀ k o, G1 k = some o → W.heap[k]? = some o) → Calls P f ⟨vs⟩ W fun e W' => e = .returned r ∧ Kept default_env 0 W W'
theorem HOp.pureG {p : List Nat × St} {r : Value} {G1 : GH} (f : Nat) (vs : List Value) (h : callV ops p = some (f, vs)) (hk : (okCallee P f && scT p.2.lo.length p.2.tm) = true) (hs : Sb B G G1) (hF : PureG P f vs G1 r)
    (k : HOp B P ops (nxt ops p (.v r)) Q G) : HOp B P ops p Q G := by
  refine pureCall (K := fun _ G' v => (∀ k, G' k = none) ∧ v = r) h hk hs (fun W hW => Calls.mono (hF.run W hW) fun e W' ⟨h1, h2⟩ => ⟨r, fun _ => none, h1, h2, fun k o hk => (by cases hk), fun _ _ => rfl, fun _ => rfl, rfl⟩) ?_
  rintro N G' G2 v hN h1 h2 h3 h4 ⟨h5, rfl⟩
  refine ⟨fun E a W R => k.run E a W ?_⟩
  refine { R with hid := fun i hi => ?_, sub := fun k o hk => R.sub k o (h2 k o hk), old := fun k hk => ?_, ows := R.ows.of (Nat.le_refl _) (fun _ _ _ _ => rfl) (fun o ho b hb => ?_) R.ows.loc }
  · cases hg : G (E.id i) with
    | none => rfl
    | some o => have := h2 _ _ hg; rw [R.hid i hi] at this; cases this
  · rw [← R.old k hk, h3 k (by omega)]
  · cases hg : G b with
    | none => rfl
    | some x => have := h2 _ _ hg; rw [R.ows.hid o ho b hb] at this; cases this
theorem PureG.body {f : Nat} {fn : Func} {c : Code} {vs : List Value} {r : Value} (hf : P.funcs[f]? = some fn) (hb : fn.body = some c) (hn : Nat.ble (vs.map SV.v).length fn.ntmps = true)
    (h : ∀ B, B.m0 = 0 → B.G0 = G → H B P c (bodyQ P fn (fun s _ _ _ => s.pl = some r) B) (St0 fn (vs.map .v) []) G) : PureG P f vs G r := by
  refine ⟨fun W hW => ?_⟩
  have := (CallJ.body (lo := []) hf hb hn (fun B h1 h2 => h B h1 h2)).run default_env W ⟨fun i l hi => by simp at hi, fun i hi => by simp at hi, fun i j hi => by simp at hi, hW⟩
  rw [dens_v] at this
  refine Calls.mono this ?_
  rintro e W' ⟨E', s, lo', G', rfl, _, _, _, RL, hk, hG, hv⟩
  exact ⟨by rw [SV.pl_den hv], hk⟩

/-- A function that makes something new. -/
structure FunG (P : Program) (f : Nat) (vs : List Value) (G1 : GH) (K : Nat → GH → Value → Prop) : Prop where
  run : ∀ W, (∀ k o, G1 k = some o → W.heap[k]? = some o) → Calls P f ⟨vs⟩ W fun e W' => ∃ v G', e = .returned v ∧ Kept default_env 0 W W' ∧ (∀ k o, G' k = some o → W'.heap[k]? = some o) ∧ (∀ k, k < W.heap.size → G' k = none) ∧ K W.heap.size G' v
/-- What is told of new things, and stays true when more is seen. -/
def Up (K : Nat → GH → Value → Prop) : Prop := ∀ N G1 G2 v, GExt G1 G2 → K N G1 v → K N G2 v
theorem HOp.funG {p : List Nat × St} {K : Nat → GH → Value → Prop} {G1 : GH} (f : Nat) (vs : List Value) (h : callV ops p = some (f, vs)) (hk : (okCallee P f && scT p.2.lo.length p.2.tm) = true) (hs : Sb B G G1) (hF : FunG P f vs G1 K) (hu : Up K)
    (k : ∀ v G', (∃ N, B.n0 ≤ N ∧ K N G' v ∧ ∀ k, N ≤ k → G k = none) → GExt G G' → HOp B P ops (nxt ops p (.v v)) Q G') : HOp B P ops p Q G :=
  pureCall h hk hs hF.run fun N G' G2 v hN h1 h2 _ h4 hK => k v G2 ⟨N, hN, hu _ _ _ _ h1 hK, h4⟩ h2
def cutG (N : Nat) (G : GH) : GH := fun k => if k < N then none else G k
theorem FunG.body {f : Nat} {fn : Func} {c : Code} {vs : List Value} {K : Nat → GH → Value → Prop} (hf : P.funcs[f]? = some fn) (hb : fn.body = some c) (hn : Nat.ble (vs.map SV.v).length fn.ntmps = true)
    (h : ∀ B, B.m0 = 0 → B.G0 = G → H B P c (bodyQ P fn (fun s _ G' N => ∃ v, s.pl = some v ∧ K N (cutG N G') v) B) (St0 fn (vs.map .v) []) G) : FunG P f vs G K := by
  refine ⟨fun W hW => ?_⟩
  have := (CallJ.body (lo := []) hf hb hn (fun B h1 h2 => h B h1 h2)).run default_env W ⟨fun i l hi => by simp at hi, fun i hi => by simp at hi, fun i j hi => by simp at hi, hW⟩
  rw [dens_v] at this
  refine Calls.mono this ?_
  rintro e W' ⟨E', s, lo', G', rfl, _, _, _, RL, hk, hG, v, hv, hK⟩
  refine ⟨v, cutG W.heap.size G', by rw [SV.pl_den hv], hk, fun k o hk => ?_, fun k hk => ?_, hK⟩
  · unfold cutG at hk
    split at hk
    · cases hk
    · exact RL.sub k o hk
  · unfold cutG; rw [if_pos hk]
theorem Own.cut {N : Nat} {v : Value} {e : TypeId} {w n : Nat} {l : List Value} (h : Own G N v e w n l) : Own (cutG N G) N v e w n l :=
  ⟨h.len, h.at_.imp id fun ⟨b, c, L, h1, h0, h2, h3, r⟩ => ⟨b, c, L, h1, h0, h2, by unfold cutG; rw [if_neg (by omega)]; exact h3, r⟩⟩
theorem Own.up {N : Nat} {v : Value} {e : TypeId} {w n : Nat} {l : List Value} (h : Own G N v e w n l) (hg : GExt G G') : Own G' N v e w n l := h.ext fun _ _ _ hk => hg _ _ hk

/-! ### What one made beside -/
/-- Two slices of one's own lie in different blocks. -/
def Apart (u v : Value) : Prop := ∀ b, blk u = some b → blk v ≠ some b
theorem Apart.symm {u v : Value} (h : Apart u v) : Apart v u := fun b h1 h2 => h b h2 h1
section
variable {u v v' : Value} {e e' : TypeId} {w w' n n' N : Nat} {l l' : List Value}
theorem Own.at_blk (h : Own G N u e w n l) {b : Nat} (hb : blk u = some b) : ∃ o, G b = some o := by
  rcases h.at_ with ⟨oa, rfl, _⟩ | ⟨b', c, L, rfl, _, _, hg, _⟩
  · cases oa <;> simp [blk] at hb
  · rw [blk_of hb]; exact ⟨_, hg⟩
theorem Made.beside (m : Made B G G' v v' e' w' n' l') (h : Own G N u e w n l) (ha : Apart u v) : Own G' N u e w n l :=
  h.ext fun b o hb hg => m.keep b o hg fun e => ha b hb e.symm
theorem Made.apart (m : Made B G G' v v' e' w' n' l') (h : Own G N u e w n l) (ha : Apart u v) : Apart u v' := fun b hb hv => by
  rcases m.sep with hs | hs
  · rw [hs] at hv; exact ha b hb hv
  · obtain ⟨o, ho⟩ := h.at_blk hb
    rw [hs b hv] at ho; cases ho
theorem Apart.nil (u : Value) : Apart u (.slice none 0 0) := fun b _ h => by cases h
theorem Apart.nil' (u : Value) : Apart (.slice none 0 0) u := fun b h => by cases h
end

/-! ### Bodies whose result lies in a cell of memory -/
def resOk (P : Program) (B : Base) (fn : Func) (st : St) (G : GH) (v : Value) : Prop := ∀ E a W, Rel B E st G a W → (results fn a.tmps).run P W = .ok v W
def bodyR (P : Program) (fn : Func) (K : Nat → GH → Value → Prop) (B : Base) : Post := fun e st G =>
  match e with
  | .normal | .ret => ∃ v, resOk P B fn st G v ∧ K B.n0 G v
  | _ => False
theorem bodyR_run {f : Nat} {fn : Func} {c : Code} {vs : List Value} {K : Nat → GH → Value → Prop} (hf : P.funcs[f]? = some fn) (hb : fn.body = some c) (hn : Nat.ble (vs.map SV.v).length fn.ntmps = true)
    (h : ∀ B : Base, B.m0 = 0 → B.G0 = G → H B P c (bodyR P fn K B) (St0 fn (vs.map .v) []) G) :
    ∀ W, (∀ k o, G k = some o → W.heap[k]? = some o) → Calls P f ⟨vs⟩ W fun e W' => ∃ v G', e = .returned v ∧ Kept default_env 0 W W' ∧ (∀ k o, G' k = some o → W'.heap[k]? = some o) ∧ (∀ k, k < W.heap.size → G' k = G k) ∧ K W.heap.size G' v := by
  intro W hW
  have hn' : (vs.map SV.v).length ≤ fn.ntmps := Nat.le_of_ble_eq_true hn
  refine calls_of_wp hf hb ?_
  let B : Base := ⟨W, G, default_env, 0, fun k o h => (Array.getElem?_eq_some_iff.1 (hW k o h)).1⟩
  have R : Rel B default_env (St0 fn (vs.map .v) []) G { tmps := (⟨vs⟩ : Array Value) ++ Array.replicate (fn.ntmps - (⟨vs⟩ : Array Value).size) undef, defers := [] } W := by
    refine ⟨?_, rfl, ?_, Nat.le_refl _, fun i l hi => by simp [St0] at hi, fun i hi => by simp [St0] at hi, fun i j hi => by simp [St0] at hi, fun i h1 h2 => by simp [St0] at h2, fun i hi => absurd hi (Nat.not_lt_zero _), hW, fun _ _ => rfl, fun _ _ _ => rfl, rfl, rfl, rfl, Nat.le_refl _, Owns.nil⟩
    · simp only [Array.size_append, Array.size_replicate, St0, List.size_toArray, List.length_map] at hn' ⊢; omega
    · intro k s hk
      obtain ⟨_, h2⟩ := initT_get (vs.map .v) 0 hk
      simp only [Nat.sub_zero, List.getElem?_map, Option.map_eq_some_iff] at h2
      obtain ⟨x, hx, rfl⟩ := h2
      have hlt : k < vs.length := (List.getElem?_eq_some_iff.1 hx).1
      rw [Array.getElem?_append_left (by simpa using hlt)]
      simpa [SV.den] using hx
  refine wp_mono ((h B rfl rfl).run default_env _ W R) ?_
  rintro e a' W' ⟨E', st', G', R', hq⟩
  have fin : ∀ v, resOk P B fn st' G' v → K B.n0 G' v → a'.defers = [] ∧ ∃ v, (results fn a'.tmps).run P W' = .ok v W' ∧ ∃ v' G', Ending.returned v = .returned v' ∧ Kept default_env 0 W W' ∧ (∀ k o, G' k = some o → W'.heap[k]? = some o) ∧ (∀ k, k < W.heap.size → G' k = G k) ∧ K W.heap.size G' v' :=
    fun v hv hK => ⟨R'.df, v, hv _ _ _ R', v, G', rfl, ⟨R'.ext, R'.os, R'.tape, R'.output, R'.sz⟩, R'.sub, R'.old, hK⟩
  cases e with
  | normal => obtain ⟨v, hv, hK⟩ := hq; exact fin v hv hK
  | ret => obtain ⟨v, hv, hK⟩ := hq; exact fin v hv hK
  | _ => exact hq.elim
theorem PureG.bodyR {f : Nat} {fn : Func} {c : Code} {vs : List Value} {r : Value} (hf : P.funcs[f]? = some fn) (hb : fn.body = some c) (hn : Nat.ble (vs.map SV.v).length fn.ntmps = true)
    (h : ∀ B : Base, B.m0 = 0 → B.G0 = G → H B P c (Vc.bodyR P fn (fun _ _ v => v = r) B) (St0 fn (vs.map .v) []) G) : PureG P f vs G r :=
  ⟨fun W hW => Calls.mono (bodyR_run hf hb hn h W hW) fun _ _ ⟨v, _, h1, h2, _, _, h3⟩ => ⟨by rw [h1, h3], h2⟩⟩
theorem res_cell {fn : Func} {t ty w : Nat} {p : Value} {l : List Value} (hr : fn.results = #[.cell t ty]) (hg : st.get t = some (.v p)) (hp : PAt G p l) (hl : l.length = w) (ha : aggT P ty = some true) (hw : cellsW P ty w = true) : resOk P B fn st G (.agg ⟨l⟩) := by
  intro E a W R
  have hrd := (rd_loadA (P := P) (B := B) (G := G) (t := ty) hp (.inl rfl) hl ha hw).run W R.sees
  have ht := R.tm _ _ hg
  obtain ⟨ad, rfl, hat⟩ := hp
  have e1 : a.tmps.getD t undef = .pointer (some ad) := by simp [Array.getD_eq_getD_getElem?, ht, SV.den]
  have hm : ([ResultVar.cell t ty].mapM (resF a.tmps)).run P W = .ok [.agg ⟨l⟩] W := by
    refine mapM_cons_run ?_ rfl
    show (Sem.bind (asAddr (a.tmps.getD t undef)) _).run P W = _
    rw [e1]; exact hrd
  have e2 : fn.results.mapM (resF a.tmps) = List.toArray <$> fn.results.toList.mapM (resF a.tmps) := by
    conv => lhs; rw [show fn.results = fn.results.toList.toArray by simp]
    rw [List.mapM_toArray]
  have e3 : (fn.results.mapM (resF a.tmps)).run P W = .ok #[.agg ⟨l⟩] W := by
    rw [e2, hr]; simp only [Sem.run_map, hm, Result.andThen_ok]
  show (Sem.bind (fn.results.mapM (resF a.tmps)) _).run P W = _
  rw [run_bind e3]; rfl
end
end Go.Proofs.Ytoiacgfhjikddaa.Vc
