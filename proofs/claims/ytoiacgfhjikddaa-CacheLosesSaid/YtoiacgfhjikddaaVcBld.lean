/- The calculus: a struct that is put together of values that are not known. -/
import Derived.Test.YtoiacgfhjikddaaVcRow
namespace Go.Proofs.Ytoiacgfhjikddaa.Vc
open Go.RowKit
section
variable {P : Program} {B : Base} {G : GH} {W : World}
theorem pv_bind {α β : Type} {s : Sem α} {f : α → Sem β} {y : β} (h : pv P (s.bind f) = some y) : ∃ a, pv P s = some a ∧ pv P (f a) = some y := by
  induction s with
  | pure a => exact ⟨a, rfl, h⟩
  | program k ih => exact ih P h
  | _ => cases h
/-- What is read of the type for it. -/
def bldS (t : TypeId) : Sem (Array Value × Array (Nat × Nat)) :=
  Sem.bind (zeroValue t) fun z => Sem.bind (underlying t) fun d =>
    match d with
    | .struct fields => Sem.bind (fields.mapM fun f => do pure (f.offset, ← sizeOf f.type)) fun pl => Sem.pure (z.cells, pl)
    | _ => stuck "no struct"
theorem build_run {t : TypeId} {Z cells : Array Value} {pl : Array (Nat × Nat)} {ps : List (Nat × Value)} (h : pv P (bldS t) = some (Z, pl)) (hf : Instr.fill (pl[·]?) Z ps = some cells) : (Instr.build t ⟨ps⟩).run P W = .ok (.agg cells) W := by
  unfold bldS at h
  obtain ⟨z, hz, h⟩ := pv_bind h
  obtain ⟨d, hd, h⟩ := pv_bind h
  cases d with
  | struct fields =>
    obtain ⟨p, hp, h⟩ := pv_bind h
    simp only [pv, Option.some.injEq, Prod.mk.injEq] at h
    obtain ⟨rfl, rfl⟩ := h
    show (Sem.bind (zeroValue t) _).run P W = _
    rw [run_bind (pv_run W hz)]
    show (Sem.bind (underlying t) _).run P W = _
    rw [run_bind (pv_run W hd)]
    show (Sem.bind (fields.mapM fun f => do pure (f.offset, ← sizeOf f.type)) _).run P W = _
    rw [run_bind (pv_run W hp)]
    simp only [hf]
    rfl
  | _ => cases h
theorem fill_cons {pl : Nat → Option (Nat × Nat)} {Z c : List Value} {i off size : Nat} {v : Value} {rest : List (Nat × Value)} (hp : pl i = some (off, size)) (hv : v.cells = ⟨c⟩) (hc : c.length = size) (hs : off + size ≤ Z.length) :
    Instr.fill pl ⟨Z⟩ ((i, v) :: rest) = Instr.fill pl ⟨wrAt Z off c⟩ rest := by
  subst hc
  have key : ∀ (M : List Value) (k : Nat) (A : Array Value), off + k + M.length ≤ A.size → (M.toArray.zipIdx k).foldl (fun cs (c, j) => cs.setIfInBounds (off + j) c) A = ⟨A.toList.take (off + k) ++ M ++ A.toList.drop (off + k + M.length)⟩ := by
    intro M
    induction M with
    | nil => intro k A h; rw [← Array.foldl_toList]; apply Array.ext'; simp
    | cons y r ih =>
      intro k A h
      simp only [List.length_cons] at h
      have := ih (k + 1) (A.setIfInBounds (off + k) y) (by simp; omega)
      rw [← Array.foldl_toList] at this ⊢
      simp only [Array.toList_zipIdx, List.zipIdx_cons, List.foldl_cons] at this ⊢
      rw [this]
      apply Array.ext'
      have hk : off + k < A.toList.length := by simp; omega
      simp only [Array.toList_setIfInBounds, ← Nat.add_assoc]
      rw [List.take_set, List.take_add_one, List.drop_set, if_pos (by omega), List.getElem?_eq_getElem hk, List.set_append_right _ _ (by simp; omega)]
      simp [Nat.min_eq_left (Nat.le_of_lt (by simpa using hk)), Nat.add_assoc, Nat.add_comm, Nat.add_left_comm]
  have h1 : v.cells.size = c.length := by rw [hv]; rfl
  simp only [Instr.fill, hp]
  rw [if_neg (by simp only [h1]; simp; omega)]
  have := key c 0 ⟨Z⟩ (by simpa using hs)
  rw [hv]
  congr 1
theorem cbuild {t : TypeId} {ps : List (Nat × Value)} {L : List Value} (Z : List Value) (pl : Array (Nat × Nat)) (hT : pv P (bldS t) = some (⟨Z⟩, pl)) (hf : Instr.fill (pl[·]?) ⟨Z⟩ ps = some ⟨L⟩) : Rd P B G (.build t ps) (.agg ⟨L⟩) :=
  ⟨fun _ _ => build_run hT hf⟩
theorem Hd.one {v : Value} {n : Nat} (h : Hd v n) : v.cells = ⟨[v]⟩ := by
  rcases h with ⟨_, _, rfl, _⟩ | ⟨_, _, rfl, _⟩ <;> rfl
theorem Row.one {v : Value} {w n : Nat} {l : List Value} (h : Row G v w n l) : v.cells = ⟨[v]⟩ := by
  rcases h.at_ with ⟨_, _, rfl, _⟩ | ⟨_, _, rfl, _⟩ <;> rfl
theorem fill_SS {z1 z2 v1 v2 : Value} (h1 : v1.cells = ⟨[v1]⟩) (h2 : v2.cells = ⟨[v2]⟩) : Instr.fill ((#[(0, 1), (1, 1)] : Array (Nat × Nat))[·]?) ⟨[z1, z2]⟩ [(0, v1), (1, v2)] = some ⟨[v1, v2]⟩ := by
  rw [fill_cons (off := 0) (size := 1) rfl h1 rfl (by simp), fill_cons (off := 1) (size := 1) rfl h2 rfl (by simp [wrAt])]; rfl
theorem fill_S {z1 z2 v1 : Value} (h1 : v1.cells = ⟨[v1]⟩) : Instr.fill ((#[(0, 1), (1, 1)] : Array (Nat × Nat))[·]?) ⟨[z1, z2]⟩ [(0, v1)] = some ⟨[v1, z2]⟩ := by
  rw [fill_cons (off := 0) (size := 1) rfl h1 rfl (by simp)]; rfl
theorem fill_IB {z1 : Value} {zs : List Value} {k : IntKind} {a : Int} {xs : List Int} {n : Nat} (hz : zs.length = n) (hx : (bts xs).length = n) :
    Instr.fill ((#[(0, 1), (1, n)] : Array (Nat × Nat))[·]?) ⟨z1 :: zs⟩ [(0, .int k a), (1, .agg ⟨bts xs⟩)] = some ⟨.int k a :: bts xs⟩ := by
  rw [fill_cons (c := [.int k a]) (off := 0) (size := 1) rfl rfl rfl (by simp), fill_cons (c := bts xs) (off := 1) (size := n) rfl rfl hx (by simp [wrAt]; omega)]
  simp only [Instr.fill, wrAt]
  simp [hx]
  omega
end
/-! ### A store of values that are not known, into a variable of one's own -/
section
variable {P : Program} {B : Base} {E : Env} {st st' : St} {G : GH} {a : Act} {W : World} {o : Oper} {ops : Array Oper} {Q : Post}
def evStoreU (P : Program) (st : St) (d : Option Nat) (t i off : Nat) (s : SV) : Option St :=
  match st.lo[i]?, s.cells, P.info? t with
  | some l, some cs, some inf =>
    (bif Nat.beq cs.length inf.size && Nat.ble (off + cs.length) l.cells.length then
      some (({ n := st.n, tm := st.tm, lo := st.lo.set i ⟨setAll l.cells off cs, l.elem⟩, ow := st.ow } : St).put d (.v undef)) else none)
  | _, _, _ => none
theorem did_storeU (R : Rel B E st G a W) {t i off : Nat} {x y : Operand} {s : SV} (ho : o.op = .store t x y) (hx : st.ev x = some (.lp i off)) (hy : st.ev y = some s) (h : evStoreU P st o.dst t i off s = some st') (h1 : ∀ cs, s.cells = some cs → ∀ x ∈ SV.dens E cs, oneC x = true) : Did B P a W o st' G := by
  unfold evStoreU at h
  split at h
  · rename_i l cs inf hl hcs hinf
    cases hb : (Nat.beq cs.length inf.size && Nat.ble (off + cs.length) l.cells.length) with
    | false => simp [hb] at h
    | true =>
      simp only [hb, cond_true, Option.some.injEq] at h; subst h
      simp only [Bool.and_eq_true] at hb
      obtain ⟨h2, h3⟩ := hb
      have h2' : cs.length = inf.size := Nat.eq_of_beq_eq_true h2
      have h3' : off + cs.length ≤ l.cells.length := Nat.le_of_ble_eq_true h3
      obtain ⟨W', hr, hw⟩ := run_storeCells (P := P) (b := E.id i) (o := (E.pre i).length + off) (t := l.elem) (SV.dens E cs) 0 W _ (R.lo i l hl) (by simp [SV.dens_length]; omega) (h1 _ hcs)
      rw [Nat.add_zero, setAll_mid _ _ _ _ _ (by simp [SV.dens_length]; omega)] at hw
      have e : setAll (SV.dens E l.cells) off (SV.dens E cs) = SV.dens E (setAll l.cells off cs) := by simp [SV.dens_map, setAll_map]
      rw [e] at hw
      refine ⟨E, .skip, undef, W', ?_, .inr ⟨rfl, rfl⟩, (R.wrote hl hw).put o.dst rfl⟩
      have hrun : (execOp a.eval o).run P W = ((Instr.storeAt t (a.eval x) (a.eval y)).bind (fun _ => .pure .skip)).run P W := by simp only [execOp, ho]; rfl
      rw [R.ev hx, R.ev hy] at hrun
      rw [hrun]
      refine (run_bind (x := ()) (W' := W') ?_).trans rfl
      show (storeVar t ⟨E.id i, (E.pre i).length + off, none⟩ (s.den E)).run P W = _
      show (Sem.bind (sizeOf t) _).run P W = _
      rw [run_bind (sizeOf_run hinf)]
      have hsz : (s.den E).cells.toList = SV.dens E cs := SV.cells_den hcs
      have hsz' : (s.den E).cells.size = inf.size := by
        rw [← Array.length_toList, hsz, SV.dens_length]; exact h2'
      simp only [hsz', ne_eq, not_true_eq_false, if_false, hsz]
      exact hr
  · cases h

/-- The next operation is such a store: what is stored, and the state behind it. -/
def stoS (P : Program) (ops : Array Oper) (i : Nat) (st : St) : Option (List SV × St) :=
  match ops[i]? with
  | some o => (match wantS ops st o with
    | some true => (match o.op with
      | .store t x y => (match st.ev x, st.ev y with
        | some (.lp j off), some s => (match s.cells, evStoreU P st o.dst t j off s with | some cs, some st' => some (cs, st') | _, _ => none)
        | _, _ => none)
      | _ => none)
    | _ => none)
  | none => none
def stoC (P : Program) (ops : Array Oper) (i : Nat) (st : St) : Option (List SV) := match stoS P ops i st with | some (cs, _) => some cs | none => none
def stoT (P : Program) (ops : Array Oper) (i : Nat) (st : St) : St := match stoS P ops i st with | some (_, st') => st' | none => st
/-- One cell, whatever it is. -/
def OneS (s : SV) : Prop := ∀ E, oneC (s.den E) = true
theorem Hd.oneS {v : Value} {n : Nat} (h : Hd v n) : OneS (.v v) := fun E => by
  rcases h with ⟨_, _, rfl, _⟩ | ⟨_, _, rfl, _⟩ <;> rfl
theorem Row.oneS {v : Value} {w n : Nat} {l : List Value} (h : Row G v w n l) : OneS (.v v) := fun E => by
  rcases h.at_ with ⟨_, _, rfl, _⟩ | ⟨_, _, rfl, _⟩ <;> rfl
theorem OneS.known {s : SV} (h : s.one = true) : OneS s := fun E => one_den h
theorem ones_nil : ∀ s ∈ ([] : List SV), OneS s := fun _ h => by cases h
theorem ones_cons {a : SV} {l : List SV} (h1 : OneS a) (h2 : ∀ s ∈ l, OneS s) : ∀ s ∈ a :: l, OneS s := fun s hs => by
  rcases List.mem_cons.1 hs with rfl | hs
  · exact h1
  · exact h2 s hs
theorem sto_did {i : Nat} {cs : List SV} (h : stoC P ops i st = some cs) (h1 : ∀ s ∈ cs, OneS s) : ∃ o, ops[i]? = some o ∧ wantS ops st o = some true ∧ ∀ E a W, Rel B E st G a W → Did B P a W o (stoT P ops i st) G := by
  unfold stoC at h
  unfold stoT
  cases hs : stoS P ops i st with
  | none => simp [hs] at h
  | some r =>
    obtain ⟨cs', st'⟩ := r
    simp only [hs, Option.some.injEq] at h; subst h
    unfold stoS at hs
    split at hs
    · rename_i o ho
      split at hs
      · rename_i hw
        split at hs
        · rename_i t x y hop
          split at hs
          · rename_i j off s hx hy
            split at hs
            · rename_i cs0 st0 hc he
              simp only [Option.some.injEq, Prod.mk.injEq] at hs
              obtain ⟨rfl, rfl⟩ := hs
              refine ⟨o, ho, hw, fun E a W R => did_storeU R hop hx hy he fun cs1 hc1 x hx1 => ?_⟩
              rw [hc] at hc1; cases hc1
              rw [SV.dens_map] at hx1
              obtain ⟨s1, hs1, rfl⟩ := List.mem_map.1 hx1
              exact h1 s1 hs1 E
            · cases hs
          · cases hs
        · cases hs
      · cases hs
    · cases hs
theorem LStep.sto {i : Nat} {K : St → GH → Prop} (cs : List SV) (h : stoC P ops i st = some cs) (h1 : ∀ s ∈ cs, OneS s) (k : K (stoT P ops i st) G) : LStep B P ops st G i K := by
  obtain ⟨o, ho, hw, hd⟩ := sto_did (B := B) (G := G) h h1
  intro E a W R
  refine ⟨o, ho, .inl ⟨wantS_ok R hw, ?_⟩⟩
  obtain ⟨E', nx, u, W', hr, hnx, R'⟩ := hd E a W R
  rw [hr]
  rcases hnx with rfl | ⟨rfl, rfl⟩
  · exact ⟨E', _, G, k, R'⟩
  · exact ⟨E', _, G, k, R'⟩
def stoQ (P : Program) (ops : Array Oper) (p : List Nat × St) : Option (List SV) := match p.1 with | i :: _ => stoC P ops i p.2 | [] => none
def stoP (P : Program) (ops : Array Oper) (p : List Nat × St) : List Nat × St := match p.1 with | i :: r => (r, stoT P ops i p.2) | [] => p
theorem HOp.sto {p : List Nat × St} (cs : List SV) (h : stoQ P ops p = some cs) (h1 : ∀ s ∈ cs, OneS s) (k : HOp B P ops (stoP P ops p) Q G) : HOp B P ops p Q G := by
  obtain ⟨l, st⟩ := p
  unfold stoQ at h
  cases l with
  | nil => cases h
  | cons i r =>
    obtain ⟨o, ho, hw, hd⟩ := sto_did (B := B) (G := G) h h1
    refine ⟨fun E a W R => ?_⟩
    simp only [wpOps, ho]
    rw [if_pos (wantS_ok R hw)]
    left
    obtain ⟨E', nx, u, W', hr, hnx, R'⟩ := hd E a W R
    unfold Oper.wp
    rw [hr]
    rcases hnx with rfl | ⟨rfl, rfl⟩
    · exact k.run E' _ _ R'
    · exact k.run E' _ _ R'
end
/-! ### A call of a function value whose captures are not known -/
def callF (ops : Array Oper) (p : List Nat × St) : Option (Nat × List Value × Array Value) :=
  match cur ops p with
  | some o =>
    (match o.op with
     | .call c =>
       (match c.callee with
        | .value x =>
          (match p.2.ev x, evs p.2 c.args.toList with
           | some (.v (.func (.func f) first caps)), some as => (match first.toList, SV.pls as with | [], some vs => some (f, vs, caps) | _, _ => none)
           | _, _ => none)
        | _ => none)
     | _ => none)
  | none => none
theorem pls_vs : ∀ (l : List Value), SV.pls (l.map .v) = some l
  | [] => rfl
  | v :: r => by simp [SV.pls, SV.pl, pls_vs r]
theorem pls_app : ∀ {as bs : List SV} {vs ws : List Value}, SV.pls as = some vs → SV.pls bs = some ws → SV.pls (as ++ bs) = some (vs ++ ws)
  | [], _, vs, _, h1, h2 => by simp only [SV.pls, Option.some.injEq] at h1; subst h1; simpa using h2
  | a :: r, bs, vs, ws, h1, h2 => by
    cases ha : a.pl with
    | none => simp [SV.pls, ha] at h1
    | some v =>
      cases hl : SV.pls r with
      | none => simp [SV.pls, ha, hl] at h1
      | some l =>
        simp only [SV.pls, ha, hl, Option.some.injEq] at h1; subst h1
        simp [SV.pls, ha, pls_app hl h2]
theorem callV_of {ops : Array Oper} {p : List Nat × St} {f : Nat} {vs : List Value} {caps : Array Value} (h : callF ops p = some (f, vs, caps)) : callV ops p = some (f, vs ++ caps.toList) := by
  unfold callF at h
  unfold callV callOf
  split at h
  · rename_i o ho
    split at h
    · rename_i c hc
      split at h
      · rename_i x hx
        split at h
        · rename_i g first caps' as h1 h2
          split at h
          · rename_i ws h3 h4
            simp only [Option.some.injEq, Prod.mk.injEq] at h
            obtain ⟨rfl, rfl, rfl⟩ := h
            simp only [ho, hc, hx, h1, h2, h3, List.map_nil, List.nil_append, pls_app h4 (pls_vs _)]
          · cases h
        · cases h
      · cases h
    · cases h
  · cases h
/-! ### A variable whose zero cells are not all alike -/
section
variable {P : Program} {B : Base} {st : St} {G : GH} {ops : Array Oper} {p : List Nat × St}
theorem ef_allocZ {t : TypeId} {w : Nat} {Z : List Value} {i : TypeInfo} {z : Value} (hi : P.info? t = some i) (hz : i.zero = some z) (hc : z.cells = ⟨Z⟩) (hw : Z.length = w) : Ef P B G (.alloc t) fun p G' => ∃ v', p = ptrAt v' w 0 ∧ Made B G G' (.slice none 0 0) v' t w 1 Z := by
  refine ⟨fun W hs hsz => ?_⟩
  obtain ⟨g, m⟩ := own_new (e := t) (w := w) (n := 1) (c := 1) (L := Z) hs hsz (Nat.le_refl 1) (by simp [maxLen]) (by omega)
  rw [List.take_of_length_le (by omega)] at m
  refine ⟨_, _, _, ?_, g, _, (ptrAt_zero _ _ _ _).symm, m⟩
  show (Instr.alloc t true (.tuple #[])).run P W = _
  simp [Instr.alloc, zeroValue, typeInfo, hi, hz, newVar, newRow, hc]
def zeroOf (P : Program) (t : Nat) : Option (List Value) := match P.info? t with | some i => (match i.zero with | some z => some z.cells.toList | none => none) | none => none
end
end Go.Proofs.Ytoiacgfhjikddaa.Vc
