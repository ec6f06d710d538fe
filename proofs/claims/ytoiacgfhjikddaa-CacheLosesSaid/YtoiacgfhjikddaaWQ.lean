/- The interpreter is right, thirteenth part: one operation. -/
import Derived.Test.YtoiacgfhjikddaaWP
set_option linter.unusedSimpArgs false
set_option linter.unusedVariables false
namespace Go.Proofs.Ytoiacgfhjikddaa.W
open Go.RowKit Vc

section
variable {C C' : Cx} {B : Base} {s : AS} {a : Act} {W W' : World} {P : Program} {LO : List Vc.Loc} {OW : List OwnV} {sus : List Act} {o : Oper} {Rt : Type} {Q : Rt → Prop} {c : Cf}

/-- What is given with a function is as the program has it. -/
structure CfOK (P : Program) (c : Cf) : Prop where
  prog : c.P = P
  mix : P.follows .mixedOrders = true
  inl : ∀ x ∈ c.inl, P.funcs[x.1]? = some x.2 ∧ okCallee P x.1 = true
  ct : ∀ x ∈ c.ct, Holds P x
theorem findC_of : ∀ {l : List Ct} {f : Nat} {x : Ct}, findC l f = some x → x ∈ l ∧ x.f = f
  | y :: r, f, x, h => by
    simp only [findC] at h
    cases hb : Nat.beq y.f f with
    | true => simp only [hb, cond_true, Option.some.injEq] at h; subst h; exact ⟨by simp, Nat.eq_of_beq_eq_true hb⟩
    | false =>
      simp only [hb, cond_false] at h
      obtain ⟨h1, h2⟩ := findC_of h; exact ⟨List.mem_cons_of_mem _ h1, h2⟩
theorem findI_of : ∀ {l : List (Nat × Func)} {f : Nat} {x : Func}, findI l f = some x → (f, x) ∈ l
  | y :: r, f, x, h => by
    simp only [findI] at h
    cases hb : Nat.beq y.1 f with
    | true =>
      simp only [hb, cond_true, Option.some.injEq] at h; subst h
      have := Nat.eq_of_beq_eq_true hb; subst this; simp
    | false => simp only [hb, cond_false] at h; exact List.mem_cons_of_mem _ (findI_of h)
theorem RepL.app : ∀ {l r : List AV} {vs us : List Value}, RepL C l vs → RepL C r us → RepL C (l ++ r) (vs ++ us)
  | [], r, vs, us, h1, h2 => by simp only [RepL] at h1; subst h1; exact h2
  | x :: l, r, vs, us, h1, h2 => by
    simp only [RepL, List.cons_append] at h1 ⊢
    obtain ⟨v, ws, rfl, h3, h4⟩ := h1
    exact ⟨v, ws ++ us, rfl, h3, h4.app h2⟩

/-! ### Calls -/
theorem enter_run {k : Call} {x : Operand} {f : Nat} {caps : List Value} (ho : o.op = .call k) (hc : k.callee = .value x) (hx : a.eval x = .func (.func f) #[] ⟨caps⟩) (hf : okCallee P f = true) :
    (execOp a.eval o).run P W = .ok (.enter f ⟨k.args.toList.map a.eval ++ caps⟩) W := by
  have e : k.args.map a.eval = ⟨k.args.toList.map a.eval⟩ := by apply Array.ext'; simp
  simp only [execOp, ho]
  show (Sem.bind (resolve a.eval k o.type) _).run P W = _
  have hres : resolve a.eval k o.type = .pure { target := .fn (.func f) ⟨caps⟩, args := #[] ++ k.args.map a.eval } := by
    unfold resolve; rw [hc]; simp only [hx]; rfl
  rw [hres, run_bind rfl]
  show (callFunc f _).run P W = _
  rw [callFunc_run hf, e]; simp
/-- A function that is called by its body. -/
def CallOK (P : Program) (B : Base) (Q : Rt → Prop) (call : Nat → List AV → AS → (AV → AS → T Rt) → T Rt) : Prop :=
  ∀ (f : Nat) (as : List AV) (vs : List Value) (C : Cx) (LO : List Vc.Loc) (OW : List OwnV) (s : AS) (a : Act) (sus : List Act) (W : World) (k : AV → AS → T Rt), RelA B C LO OW s a sus W → RepL C as vs → (call f as s k).ok Q → okCallee P f = true ∧ CallsTo P B f vs a sus W fun x s' _ => (k x s').ok Q
theorem evC_ok (R : RelA B C LO OW s a sus W) {ct : Ct} (hc : Holds P ct) {ops : List Operand} {f : Operand} {g : Nat} {caps : List AV} (hf : s.ev f = some (.fn g caps)) {k : AV → AS → T Rt} (h : (evC s ct ops f k).ok Q) :
    ∃ ws, a.eval f = .func (.func g) #[] ⟨ws⟩ ∧ CallsTo P B ct.f (ops.map a.eval ++ ws) a sus W fun x s' W' => (k x s').ok Q ∧ GExt (view W) (view W') := by
  unfold evC at h
  split at h
  · rename_i as g' caps' has hf'
    rw [hf] at hf'
    injection hf' with hf'; injection hf' with h1 h2; subst h1; subst h2
    cases hn : noSns ct.ks with
    | false => simp only [hn, cond_false] at h; exact h.elim
    | true =>
      simp only [hn, cond_true] at h
      obtain ⟨C1, OW1, _, R1⟩ := R.freezes (l := given ct.ks (as ++ caps))
      unfold evC2 at h
      split at h
      · rename_i as2 g2 caps2 has2 hf2
        have h1 := R.ev hf
        have h2 := R1.ev hf2
        simp only [Rep] at h1 h2
        obtain ⟨ws, e1, _⟩ := h1
        obtain ⟨ws2, e2, h3⟩ := h2
        have e3 : ws2 = ws := by rw [e1] at e2; injection e2 with _ _ e2; injection e2 with e2; exact e2.symm
        subst e3
        exact ⟨ws2, e1, evCD_ok R1 hc ((R1.evs has2).app h3) hn h⟩
      · exact h.elim
  · exact h.elim

/-- One operation, value by value. -/
theorem evO_ok (hc : CfOK P c) {call : Nat → List AV → AS → (AV → AS → T Rt) → T Rt} (hcall : CallOK P B Q call) (R : RelA B C LO OW s a sus W) {k : AS → T Rt} (h : (evO c call s o k).ok Q) :
    uponV P (fun u W' => (grows c s o = true → GExt (view W) (view W')) ∧ ∃ C' LO' OW' s', RelA B C' LO' OW' s' (a.put o.dst u) sus W' ∧ (k s').ok Q) ((execOp a.eval o).run P W) := by
  have eP := hc.prog
  unfold evO at h
  split at h
  · rename_i b z hq
    have hb := br_true h (fun h => h)
    obtain ⟨v, h1, h2⟩ := evQ_ok (P := P) R (by rw [← eP]; exact hq) hb.1
    rw [h1.run]
    exact ⟨fun _ => GExt.refl _, C, LO, OW, _, R.put o.dst h2, hb.2⟩
  · rename_i hq
    split at h
    · rename_i f caps ops x hca
      have hca0 := hca
      unfold calleeA at hca
      split at hca
      · rename_i kk hop
        split at hca
        · rename_i y hy
          split at hca
          · rename_i g caps' hev
            simp only [Option.some.injEq, Prod.mk.injEq] at hca
            obtain ⟨rfl, rfl, rfl, rfl⟩ := hca
            split at h
            · rename_i ct hct
              obtain ⟨hm, hf⟩ := findC_of hct
              obtain ⟨ws, e1, h1⟩ := evC_ok R (hc.ct ct hm) hev h
              rw [hf] at h1
              rw [enter_run hop hy e1 (by rw [← hf]; exact (hc.ct ct hm).callee)]
              refine Calls.mono h1 ?_
              rintro e W' ⟨r, C', LO', OW', s', z, rfl, R', hr, hk, hg⟩
              exact ⟨r, rfl, fun _ => hg, C', LO', OW', _, R'.put o.dst hr, hk⟩
            · rename_i hct
              split at h
              · rename_i as has
                have h1 := R.ev hev
                simp only [Rep] at h1
                obtain ⟨ws, e1, h2⟩ := h1
                obtain ⟨h3, h4⟩ := hcall g (as ++ caps') _ C LO OW s a sus W _ R ((R.evs has).app h2) h
                rw [enter_run hop hy e1 h3]
                refine Calls.mono h4 ?_
                rintro e W' ⟨r, C', LO', OW', s', z, rfl, R', hr, hk⟩
                refine ⟨r, rfl, fun hg => ?_, C', LO', OW', _, R'.put o.dst hr, hk⟩
                simp [grows, hq, hop, growO, hca0, hct] at hg
              · exact h.elim
          · cases hca
        · cases hca
      · cases hca
    · rename_i hca
      rw [eP] at h
      obtain ⟨nx, u, W', C', LO', OW', s', h1, h2, R', h3, h4⟩ := evL_ok R h
      rw [h1]
      have key : (grows c s o = true → GExt (view W) (view W')) := fun hg => h4 (by
        simp only [grows, hq, hca, Option.isSome_none, Bool.or_false] at hg
        cases e : o.op <;> simp [e, growO, newO] at hg ⊢)
      rcases h2 with rfl | ⟨rfl, rfl⟩
      · exact ⟨key, C', LO', OW', s', R', h3⟩
      · exact ⟨key, C', LO', OW', s', R', h3⟩

/-! ### Guards -/
theorem wantA_ok (R : RelA B C LO OW s a sus W) {ops : Array Oper} {t : Bool} (h : wantA ops s o = some t) : Region.wanted o (yielded ops a.tmps) = t := by
  unfold wantA at h
  unfold Region.wanted
  cases hg : o.guard with
  | none => simp only [hg, Option.some.injEq] at h; exact h
  | some jw =>
    obtain ⟨j, w⟩ := jw
    simp only [hg] at h
    unfold gslot at h
    simp only [hg] at h
    cases hj : ops[j]? with
    | none => simp [hj] at h
    | some oj =>
      simp only [hj] at h
      cases hd : oj.dst with
      | none => simp [hd] at h
      | some d =>
        simp only [hd] at h
        show (yielded ops a.tmps j == some w) = t
        split at h
        · rename_i b hs
          obtain ⟨v, hv, hr⟩ := R.tm d _ hs
          simp only [Rep] at hr; subst hr
          have hy : yielded ops a.tmps j = some b := by unfold yielded; simp [hj, hd, hv]
          rw [hy]
          simp only [Option.some.injEq] at h
          rw [← h]; cases b <;> cases w <;> rfl
        · rename_i b hs
          obtain ⟨v, hv, hr⟩ := R.tm d _ hs
          simp only [Rep] at hr; subst hr
          have hy : yielded ops a.tmps j = none := by unfold yielded; simp [hj, hd, hv]
          rw [hy]
          simp only [Option.some.injEq] at h
          rw [← h]; rfl
        · cases h
/-- A known value, in other words. -/
theorem RelA.lit (R : RelA B C LO OW s a sus W) {d : Nat} {b : Bool} (h : s.get d = some (.v (.bool b))) {t : Bool} (hb : b = t) : RelA B C LO OW (s.put (some d) (.v (.bool t))) a sus W := by
  subst hb
  obtain ⟨v, hv, hr⟩ := R.tm d _ h
  simp only [Rep] at hr; subst hr
  have := R.put (some d) (x := .v (.bool b)) (v := .bool b) (by simp [Rep])
  have e : a.put (some d) (.bool b) = a := by
    cases a with
    | mk tm df =>
      simp only [Act.put, Act.mk.injEq, and_true]
      apply Array.ext_getElem?; intro i
      rw [Array.getElem?_setIfInBounds]
      by_cases e : d = i
      · subst e
        have hlt : d < tm.size := (Array.getElem?_eq_some_iff.1 hv).1
        rw [if_pos rfl, if_pos hlt]; exact hv.symm
      · rw [if_neg e]
  rw [e] at this; exact this
theorem br_split {b : Bool} {t f : T Rt} (h : (T.br b t f).ok Q) : (b = true ∧ t.ok Q) ∨ (b = false ∧ f.ok Q) := by
  cases b with
  | true => exact .inl ⟨rfl, h⟩
  | false => exact .inr ⟨rfl, h⟩

/-- What comes behind a region, or a code. -/
def KQ (B : Base) (sus : List Act) (K : Exit → AS → Prop) : Exit → Act → World → Prop := fun e a W => ∃ C LO OW s, RelA B C LO OW s a sus W ∧ K e s
theorem wp_uponV {N : Value → World → Prop} {K : Act → World → Prop} {X : Exit → Act → World → Prop} (h : uponV P N ((execOp a.eval o).run P W)) (hk : ∀ v w', N v w' → K (a.put o.dst v) w') : o.wp P a W K X := uponV_upon h hk
theorem evG_ok (hc : CfOK P c) {call : Nat → List AV → AS → (AV → AS → T Rt) → T Rt} (hcall : CallOK P B Q call) {ops : Array Oper} {K : Act → World → Prop} {X : Exit → Act → World → Prop} (R : RelA B C LO OW s a sus W) {k : AS → T Rt} (h : (evG c call ops s o k).ok Q)
    (hK : ∀ C LO OW s a W, RelA B C LO OW s a sus W → (k s).ok Q → K a W) :
    (if Region.wanted o (yielded ops a.tmps) then o.wp P a W K X ∨ (o.asks P a W ∧ LetsOut X) else K (a.put o.dst undef) W) := by
  have yes : ∀ {s : AS}, RelA B C LO OW s a sus W → (evO c call s o k).ok Q → Region.wanted o (yielded ops a.tmps) = true → (if Region.wanted o (yielded ops a.tmps) then o.wp P a W K X ∨ (o.asks P a W ∧ LetsOut X) else K (a.put o.dst undef) W) := fun R h hw => by
    rw [if_pos hw]
    exact .inl (wp_uponV (evO_ok hc hcall R h) fun v W' ⟨_, C', LO', OW', s', R', h'⟩ => hK C' LO' OW' s' _ W' R' h')
  have no : ∀ {s : AS}, RelA B C LO OW s a sus W → (k (s.put o.dst (.v undef))).ok Q → Region.wanted o (yielded ops a.tmps) = false → (if Region.wanted o (yielded ops a.tmps) then o.wp P a W K X ∨ (o.asks P a W ∧ LetsOut X) else K (a.put o.dst undef) W) := fun R h hw => by
    rw [if_neg (by rw [hw]; simp)]
    exact hK _ _ _ _ _ _ (R.put o.dst (by simp [Rep])) h
  unfold evG at h
  cases hg : o.guard with
  | none =>
    simp only [hg] at h
    exact yes R h (by simp [Region.wanted, hg])
  | some jw =>
    obtain ⟨j, w⟩ := jw
    simp only [hg] at h
    cases hj : ops[j]? with
    | none => simp only [hj] at h; exact h.elim
    | some oj =>
      simp only [hj] at h
      cases hd : oj.dst with
      | none => simp only [hd] at h; exact h.elim
      | some d =>
        simp only [hd] at h
        have hwb : ∀ b, s.get d = some (.v (.bool b)) → Region.wanted o (yielded ops a.tmps) = (b == w) := fun b hs => by
          obtain ⟨v, hv, hr⟩ := R.tm d _ hs
          simp only [Rep] at hr; subst hr
          have hy : yielded ops a.tmps j = some b := by unfold yielded; simp [hj, hd, hv]
          unfold Region.wanted
          rw [hg]
          show (yielded ops a.tmps j == some w) = _
          rw [hy]; cases b <;> cases w <;> rfl
        split at h
        · rename_i b hs
          rcases br_split h with ⟨e, h⟩ | ⟨e, h⟩
          · have R1 := R.lit hs e
            cases w with
            | true => exact yes R1 h (by rw [hwb b hs, e]; rfl)
            | false => exact no R1 h (by rw [hwb b hs, e]; rfl)
          · have R1 := R.lit hs e
            cases w with
            | true => exact no R1 h (by rw [hwb b hs, e]; rfl)
            | false => exact yes R1 h (by rw [hwb b hs, e]; rfl)
        · rename_i b hs
          refine no R h ?_
          obtain ⟨v, hv, hr⟩ := R.tm d _ hs
          simp only [Rep] at hr; subst hr
          have hy : yielded ops a.tmps j = none := by unfold yielded; simp [hj, hd, hv]
          unfold Region.wanted
          rw [hg]
          show (yielded ops a.tmps j == some w) = _
          rw [hy]; rfl
        · exact h.elim
theorem evOps_ok (hc : CfOK P c) {call : Nat → List AV → AS → (AV → AS → T Rt) → T Rt} (hcall : CallOK P B Q call) {ops : Array Oper} {X : Exit → Act → World → Prop} {k : AS → T Rt} (hK : ∀ C LO OW s a W, RelA B C LO OW s a sus W → (k s).ok Q → X .normal a W) :
    ∀ (l : List Oper) (n : Nat), (∀ j, l[j]? = ops[n + j]?) → ∀ C LO OW s a W, RelA B C LO OW s a sus W → (evOps c call ops l s k).ok Q → wpOps P ops X (List.range' n l.length) a W
  | [], n, _, C, LO, OW, s, a, W, R, h => hK C LO OW s a W R h
  | o :: r, n, hl, C, LO, OW, s, a, W, R, h => by
    have h0 : ops[n]? = some o := by have := hl 0; simpa using this.symm
    have hr : ∀ j, r[j]? = ops[n + 1 + j]? := fun j => by have := hl (j + 1); rw [show n + 1 + j = n + (j + 1) by omega]; simpa using this
    show wpOps P ops X (n :: List.range' (n + 1) r.length) a W
    simp only [wpOps, h0]
    exact evG_ok hc hcall R h fun C LO OW s a W R h => evOps_ok hc hcall hK r (n + 1) hr C LO OW s a W R (by rw [forceA_eq] at h; exact h)

/-! ### Regions with guards, both ways at once -/
def Sup (A : List (Nat × Bool)) (a : Act) : Prop := ∀ x ∈ A, a.tmps[x.1]? = some (.bool x.2)
def CdR (C : Cx) (cd : Cd) (a : Act) : Prop := ∀ k d w z, (k, d, w, z) ∈ cd → k < a.tmps.size ∧ (a.tmps[d]? = some (.bool w) → ∃ v, a.tmps[k]? = some v ∧ Rep C z v) ∧ (a.tmps[d]? ≠ some (.bool w) → a.tmps[k]? = some undef)
theorem hasA_of : ∀ {A : List (Nat × Bool)} {d : Nat} {w : Bool}, hasA A d w = true → (d, w) ∈ A
  | x :: r, d, w, h => by
    simp only [hasA] at h
    cases hb : (Nat.beq d x.1 && eqB w x.2) with
    | true =>
      simp only [Bool.and_eq_true] at hb
      have e := Nat.eq_of_beq_eq_true hb.1
      have e2 : w = x.2 := by have := hb.2; revert this; cases w <;> cases x.2 <;> simp [eqB]
      rw [e, e2]; exact List.mem_cons_self
    | false => rw [hb] at h; exact List.mem_cons_of_mem _ (hasA_of h)
theorem overC_ok {A : List (Nat × Bool)} {tm : List (Nat × AV)} (hA : Sup A a) (ht : tmR C tm a.tmps) : ∀ {cd : Cd}, CdR C cd a → tmR C (overC A tm cd) a.tmps
  | [], _ => ht
  | (k, d, w, z) :: r, h => fun j x hj => by
    simp only [overC] at hj
    rw [lookA_cons] at hj
    by_cases e : k = j
    · subst e
      rw [if_pos rfl] at hj; injection hj with hj
      obtain ⟨h1, h2, _⟩ := h k d w z (by simp)
      cases hb : hasA A d w with
      | true =>
        rw [hb, cond_true] at hj; subst hj
        exact h2 (hA _ (hasA_of hb))
      | false =>
        rw [hb, cond_false] at hj; subst hj
        exact ⟨a.tmps[k], Array.getElem?_eq_getElem h1, by simp [Rep]⟩
    · rw [if_neg e] at hj
      exact overC_ok hA ht (fun k d w z hm => h k d w z (List.mem_cons_of_mem _ hm)) j x hj
theorem RelA.over {A : List (Nat × Bool)} {cd : Cd} (R : RelA B C LO OW s a sus W) (hA : Sup A a) (h : CdR C cd a) : RelA B C LO OW { s with tm := overC A s.tm cd } a sus W :=
  ⟨R.rel, R.m0, R.N, R.M, R.gb, R.hh, overC_ok hA R.tm h, R.fr, R.lo, R.ow⟩
theorem quietC_ok {A : List (Nat × Bool)} {cd : Cd} {b : Bool} {z : AV} (R : RelA B C LO OW s a sus W) (hA : Sup A a) (h : CdR C cd a) (hq : quietC P s cd A o = some (b, z)) (hb : b = true) : ∃ v, Yd P W (execOp a.eval o) (.value v) ∧ Rep C z v := by
  unfold quietC at hq
  split at hq
  · rename_i p hp
    split at hp
    · rename_i d x y ho
      split at hp
      · rename_i c' p' q' hc hx hy
        injection hp with hp
        injection hq with hq; injection hq with _ hq; subst hq; subst hp
        have h1 := (R.over hA h).ev hc
        simp only [Rep] at h1
        have hd : a.tmps[d]? = some (.bool c') := by
          have : a.tmps.getD d undef = .bool c' := h1
          rw [Array.getD_eq_getD_getElem?] at this
          cases ht : a.tmps[d]? with
          | none => simp [ht] at this; cases this
          | some u => simp [ht] at this; rw [this]
        cases c' with
        | true =>
          have h2 := (R.over (A := (d, true) :: A) (fun x hx => by
            rcases List.mem_cons.1 hx with rfl | hx
            · exact hd
            · exact hA x hx) h).ev hx
          simp only [Rep] at h2
          exact ⟨.bool p', fun W' _ => by simp only [execOp, ho, h1, h2]; rfl, by simp [Rep]⟩
        | false =>
          have h2 := (R.over (A := (d, false) :: A) (fun x hx => by
            rcases List.mem_cons.1 hx with rfl | hx
            · exact hd
            · exact hA x hx) h).ev hy
          simp only [Rep] at h2
          exact ⟨.bool q', fun W' _ => by simp only [execOp, ho, h1, h2]; rfl, by simp [Rep]⟩
      · cases hp
    · cases hp
  · exact evQ_ok (R.over hA h) hq hb
theorem findC4_of : ∀ {cd : Cd} {j : Nat} {x : Nat × Bool × AV}, findC4 cd j = some x → (j, x) ∈ cd
  | (k, y) :: r, j, x, h => by
    simp only [findC4] at h
    cases hb : Nat.beq k j with
    | true =>
      simp only [hb, cond_true, Option.some.injEq] at h; subst h
      have := Nat.eq_of_beq_eq_true hb; subst this; simp
    | false => simp only [hb, cond_false] at h; exact List.mem_cons_of_mem _ (findC4_of h)
theorem notG_ok {cd : Cd} (R : RelA B C LO OW s a sus W) (h : CdR C cd a) : ∀ (n d : Nat) (w g : Bool), notG s cd n d w = some g → a.tmps[d]? = some (.bool w) → g = false
  | 0, d, w, g, hg, _ => by cases hg
  | n + 1, d, w, g, hg, hd => by
    unfold notG at hg
    split at hg
    · rename_i d' w' g' hf
      split at hg
      · rename_i hh hn
        injection hg with hg
        obtain ⟨_, h1, h2⟩ := h d d' w' _ (findC4_of hf)
        by_cases hd' : a.tmps[d']? = some (.bool w')
        · obtain ⟨v, h1, h2⟩ := h1 hd'
          simp only [Rep] at h2; subst h2
          rw [hd] at h1; injection h1 with h1; injection h1 with h1
          subst h1
          have h3 := notG_ok R h n d' w' hh hn hd'
          rw [← hg, h3]; cases w <;> rfl
        · rw [h2 hd'] at hd; cases hd
      · cases hg
    · cases hg
    · split at hg
      · rename_i g' hs
        injection hg with hg
        obtain ⟨v, h1, h2⟩ := R.tm d _ hs
        simp only [Rep] at h2; subst h2
        rw [hd] at h1; injection h1 with h1; injection h1 with h1
        subst h1
        rw [← hg]; cases w <;> rfl
      · cases hg
theorem delC_mem {j : Nat} : ∀ {cd : Cd} {k d : Nat} {w : Bool} {z : AV}, (k, d, w, z) ∈ delC j cd → (k, d, w, z) ∈ cd ∧ k ≠ j ∧ d ≠ j
  | (k', d', w', z') :: r, k, d, w, z, h => by
    simp only [delC] at h
    cases hb : (Nat.beq k' j || Nat.beq d' j) with
    | true =>
      simp only [hb, cond_true] at h
      obtain ⟨h1, h2⟩ := delC_mem h
      exact ⟨List.mem_cons_of_mem _ h1, h2⟩
    | false =>
      simp only [hb, cond_false] at h
      rcases List.mem_cons.1 h with e | h
      · simp only [Prod.mk.injEq] at e
        obtain ⟨rfl, rfl, rfl, rfl⟩ := e
        simp only [Bool.or_eq_false_iff] at hb
        exact ⟨by simp, fun e => by subst e; simp at hb, fun e => by subst e; simp at hb⟩
      · obtain ⟨h1, h2⟩ := delC_mem h
        exact ⟨List.mem_cons_of_mem _ h1, h2⟩
theorem CdR.del {cd : Cd} {j : Nat} {v : Value} (h : CdR C cd a) : CdR C (delC j cd) (a.put (some j) v) := fun k d w z hm => by
  obtain ⟨h1, h2, h3⟩ := delC_mem hm
  obtain ⟨h4, h5, h6⟩ := h k d w z h1
  have e1 : (a.put (some j) v).tmps[k]? = a.tmps[k]? := by rw [put_at, if_neg (fun e => h2 e.symm)]
  have e2 : (a.put (some j) v).tmps[d]? = a.tmps[d]? := by rw [put_at, if_neg (fun e => h3 e.symm)]
  rw [put_size, e1, e2]; exact ⟨h4, h5, h6⟩
theorem CdR.delO {cd : Cd} {j : Option Nat} {v : Value} (h : CdR C cd a) : CdR C (delOC j cd) (a.put j v) := by
  cases j with
  | none => exact h
  | some j => exact h.del
theorem gslot_of {ops : Array Oper} {d j : Nat} {w : Bool} (hg : o.guard = some (j, w)) (h : gslot ops o = some d) : ∃ oj, ops[j]? = some oj ∧ oj.dst = some d := by
  unfold gslot at h
  simp only [hg] at h
  cases hj : ops[j]? with
  | none => simp [hj] at h
  | some oj => simp only [hj] at h; exact ⟨oj, rfl, h⟩
theorem wanted_iff {ops : Array Oper} {d j : Nat} {w : Bool} (hg : o.guard = some (j, w)) (h : gslot ops o = some d) : Region.wanted o (yielded ops a.tmps) = true ↔ a.tmps[d]? = some (.bool w) := by
  obtain ⟨oj, h1, h2⟩ := gslot_of hg h
  unfold Region.wanted
  simp only [hg]
  unfold yielded
  simp only [h1, h2, Option.bind_some]
  cases ht : a.tmps[d]? with
  | none => simp
  | some v => cases v <;> simp
theorem runC_ok {ops : Array Oper} {X : Exit → Act → World → Prop} : ∀ (l : List Oper) (n : Nat), (∀ j, l[j]? = ops[n + j]?) → ∀ (s : AS) (cd : Cd) (a : Act) (bs : List Bool) (s' : AS), RelA B C LO OW s a sus W → CdR C cd a → runC P ops l s cd = some (bs, s') → (∀ b ∈ bs, b = true) →
    (∀ a', RelA B C LO OW s' a' sus W → X .normal a' W) → wpOps P ops X (List.range' n l.length) a W
  | [], n, _, s, cd, a, bs, s', R, _, h, _, hK => by
    simp only [runC, Option.some.injEq, Prod.mk.injEq] at h
    obtain ⟨_, rfl⟩ := h
    exact hK a R
  | o :: r, n, hl, s, cd, a, bs, s', R, hcd, h, hb, hK => by
    have h0 : ops[n]? = some o := by have := hl 0; simpa using this.symm
    have hr : ∀ j, r[j]? = ops[n + 1 + j]? := fun j => by have := hl (j + 1); rw [show n + 1 + j = n + (j + 1) by omega]; simpa using this
    show wpOps P ops X (n :: List.range' (n + 1) r.length) a W
    simp only [wpOps, h0]
    unfold runC at h
    split at h
    · rename_i hg
      split at h
      · rename_i b z hq
        split at h
        · rename_i bs' s2 h2
          simp only [Option.some.injEq, Prod.mk.injEq] at h
          obtain ⟨rfl, rfl⟩ := h
          obtain ⟨v, h3, h4⟩ := quietC_ok R (fun x hx => by cases hx) hcd hq (hb b (by simp))
          rw [if_pos (by simp [Region.wanted, hg])]
          left
          unfold Oper.wp
          rw [h3.run]
          exact runC_ok r (n + 1) hr _ _ _ bs' s2 (R.put o.dst h4) hcd.delO h2 (fun b hm => hb b (List.mem_cons_of_mem _ hm)) hK
        · cases h
      · cases h
    · rename_i j w hg
      split at h
      · rename_i d k hgs hdst
        cases hlt : (Nat.blt k s.n && !Nat.beq d k) with
        | false => simp only [hlt, cond_false] at h; cases h
        | true =>
          simp only [hlt, cond_true] at h
          simp only [Bool.and_eq_true, Bool.not_eq_true'] at hlt
          have hk : k < a.tmps.size := by rw [R.rel.size]; exact blt_iff.1 hlt.1
          have hdk : d ≠ k := fun e => by subst e; simp at hlt
          split at h
          · rename_i b z g hq hng
            split at h
            · rename_i bs' s2 h2
              simp only [Option.some.injEq, Prod.mk.injEq] at h
              obtain ⟨rfl, rfl⟩ := h
              have hW := wanted_iff (a := a) hg hgs
              have next : ∀ v, (a.tmps[d]? = some (.bool w) → Rep C z v) → (a.tmps[d]? ≠ some (.bool w) → v = undef) → wpOps P ops X (List.range' (n + 1) r.length) (a.put o.dst v) W := fun v h5 h6 => by
                refine runC_ok r (n + 1) hr _ ((k, d, w, z) :: delC k cd) _ bs' s2 (by rw [hdst]; exact R.put (some k) (x := .bad) (by simp [Rep])) (fun k' d' w' z' hm => ?_) h2 (fun b hm => hb b (List.mem_cons_of_mem _ hm)) hK
                rw [hdst]
                rcases List.mem_cons.1 hm with e | hm
                · simp only [Prod.mk.injEq] at e
                  obtain ⟨rfl, rfl, rfl, rfl⟩ := e
                  have e1 : (a.put (some k') v).tmps[k']? = some v := by rw [put_at, if_pos rfl, if_pos hk]
                  have e2 : (a.put (some k') v).tmps[d']? = a.tmps[d']? := by rw [put_at, if_neg (fun e => hdk e.symm)]
                  rw [put_size, e1, e2]
                  exact ⟨hk, fun hd => ⟨v, rfl, h5 hd⟩, fun hd => by rw [h6 hd]⟩
                · exact hcd.del k' d' w' z' hm
              by_cases hw : a.tmps[d]? = some (.bool w)
              · rw [if_pos (hW.2 hw)]
                left
                have hg0 := notG_ok R hcd 4 d w g hng hw
                have hbt : b = true := by have := hb (b || g) (by simp); rw [hg0] at this; simpa using this
                obtain ⟨v, h3, h4⟩ := quietC_ok R (fun x hx => by simp only [List.mem_singleton] at hx; subst hx; exact hw) hcd hq hbt
                unfold Oper.wp
                rw [h3.run]
                exact next v (fun _ => h4) fun hn => absurd hw hn
              · rw [if_neg (fun h => hw (hW.1 h))]
                exact next undef (fun h => absurd h hw) fun _ => rfl
            · cases h
          · cases h
      · cases h
theorem brs_ok : ∀ {l : List Bool} {t : T Rt}, (brs l t).ok Q → (∀ b ∈ l, b = true) ∧ t.ok Q
  | [], t, h => ⟨(fun b hb => by cases hb), h⟩
  | b :: r, t, h => by
    obtain ⟨e, h⟩ := br_true (show (T.br b (brs r t) (.stop 98)).ok Q from h) (fun h => h)
    obtain ⟨h1, h2⟩ := brs_ok h
    exact ⟨fun x hx => by
      rcases List.mem_cons.1 hx with rfl | hx
      · exact e
      · exact h1 x hx, h2⟩
theorem evOpsG_ok (hc : CfOK P c) {call : Nat → List AV → AS → (AV → AS → T Rt) → T Rt} (hcall : CallOK P B Q call) {ops : Array Oper} {X : Exit → Act → World → Prop} {k : AS → T Rt} (hK : ∀ C LO OW s a W, RelA B C LO OW s a sus W → (k s).ok Q → X .normal a W)
    (R : RelA B C LO OW s a sus W) (h : (evOpsG c call ops s k).ok Q) : wpOps P ops X (List.range ops.size) a W := by
  rw [List.range_eq_range']
  unfold evOpsG at h
  split at h
  · rename_i bs s' hr
    cases hany : ops.toList.any (fun o => o.guard.isSome) with
    | false => rw [hany] at hr; cases hr
    | true =>
      rw [hany, cond_true, hc.prog] at hr
      obtain ⟨h1, h2⟩ := brs_ok h
      have := runC_ok (X := X) ops.toList 0 (fun j => by simp) s [] a bs s' R (fun k d w z hm => by cases hm) hr h1 fun a' R' => hK C LO OW s' a' W R' h2
      simpa using this
  · have := evOps_ok (X := X) (sus := sus) hc hcall hK ops.toList 0 (fun j => by simp) C LO OW s a W R h
    simpa using this
end
end Go.Proofs.Ytoiacgfhjikddaa.W
