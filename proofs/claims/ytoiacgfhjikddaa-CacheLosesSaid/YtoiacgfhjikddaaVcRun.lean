/- The calculus, fourth part: regions, branches, loops, calls and bodies. -/
import Derived.Test.YtoiacgfhjikddaaVcEv
namespace Go.Proofs.Ytoiacgfhjikddaa.Vc
open Go.RowKit

abbrev Post := Exit → St → GH → Prop
def PostB (B : Base) (Q : Post) : Exit → Act → World → Prop := fun e a W => ∃ E st G, Rel B E st G a W ∧ Q e st G
/-- From a state, a code comes to what is told. -/
structure H (B : Base) (P : Program) (c : Code) (Q : Post) (st : St) (G : GH) : Prop where
  run : ∀ E a W, Rel B E st G a W → c.wp P (PostB B Q) a W
/-- The same of what is left of a region. -/
structure HOp (B : Base) (P : Program) (ops : Array Oper) (p : List Nat × St) (Q : Post) (G : GH) : Prop where
  run : ∀ E a W, Rel B E p.2 G a W → wpOps P ops (PostB B Q) p.1 a W

def wantS (ops : Array Oper) (st : St) (o : Oper) : Option Bool :=
  match o.guard with
  | none => some true
  | some (j, w) =>
    match (match ops[j]? with | some oj => oj.dst | none => none) with
    | some d => (match st.get d with | some (.v (.bool b)) => some (b == w) | some (.v (.tuple _)) => some false | _ => none)
    | none => none
def stepS (P : Program) (ops : Array Oper) (i : Nat) (st : St) : Option St :=
  match ops[i]? with
  | none => some st
  | some o => (match wantS ops st o with | some true => evOp P st o | some false => some (st.put o.dst (.v undef)) | none => none)
def evN (P : Program) (ops : Array Oper) : Nat → List Nat → St → List Nat × St
  | 0, l, st => (l, st)
  | _ + 1, [], st => ([], st)
  | n + 1, i :: r, st => match stepS P ops i st with | some st' => evN P ops n r st' | none => (i :: r, st)

section
variable {B : Base} {E : Env} {st st' : St} {G : GH} {a : Act} {W : World} {P : Program} {ops : Array Oper} {Q : Post}

theorem wantS_ok (R : Rel B E st G a W) {o : Oper} {t : Bool} (h : wantS ops st o = some t) : Region.wanted o (yielded ops a.tmps) = t := by
  unfold wantS at h
  unfold Region.wanted
  cases hg : o.guard with
  | none => simp only [hg, Option.some.injEq] at h; exact h
  | some jw =>
    obtain ⟨j, w⟩ := jw
    simp only [hg] at h
    cases hj : ops[j]? with
    | none => simp [hj] at h
    | some oj =>
      simp only [hj] at h
      cases hd : oj.dst with
      | none => simp [hd] at h
      | some d =>
        simp only [hd] at h
        show (yielded ops a.tmps j == some w) = t
        split at h
        · rename_i b hs
          have := R.tm _ _ hs
          have hy : yielded ops a.tmps j = some b := by unfold yielded; simp [hj, hd, this, SV.den]
          rw [hy]
          simp only [Option.some.injEq] at h
          rw [← h]; cases b <;> cases w <;> rfl
        · rename_i b hs
          have := R.tm _ _ hs
          have hy : yielded ops a.tmps j = none := by unfold yielded; simp [hj, hd, this, SV.den]
          rw [hy]
          simp only [Option.some.injEq] at h
          rw [← h]; rfl
        · cases h

theorem wpOps_step (R : Rel B E st G a W) {i : Nat} {r : List Nat} {st' : St} (h : stepS P ops i st = some st')
    (k : HOp B P ops (r, st') Q G) : wpOps P ops (PostB B Q) (i :: r) a W := by
  unfold stepS at h
  simp only [wpOps]
  cases ho : ops[i]? with
  | none => simp only [ho, Option.some.injEq] at h; subst h; exact k.run E a W R
  | some o =>
    simp only [ho] at h
    split at h
    · rename_i hw
      dsimp only
      rw [if_pos (wantS_ok R hw)]
      left
      obtain ⟨E', nx, u, W', hr, hnx, R'⟩ := evOp_did R h
      unfold Oper.wp
      rw [hr]
      rcases hnx with rfl | ⟨rfl, rfl⟩
      · exact k.run E' _ _ R'
      · exact k.run E' _ _ R'
    · rename_i hw
      dsimp only
      rw [if_neg (by rw [wantS_ok R hw]; simp)]
      simp only [Option.some.injEq] at h; subst h
      exact k.run E _ _ (R.put o.dst rfl)
    · cases h

theorem evN_ok : ∀ (n : Nat) (l : List Nat) (st : St), HOp B P ops (evN P ops n l st) Q G → HOp B P ops (l, st) Q G
  | 0, l, st, h => h
  | n + 1, [], st, h => h
  | n + 1, i :: r, st, h => by
    simp only [evN] at h
    split at h
    · rename_i st' hs
      refine ⟨fun E a W R => ?_⟩
      exact wpOps_step R hs (evN_ok n r st' h)
    · exact h

/-- Some operations of a region, evaluated. -/
theorem HOp.ev {p : List Nat × St} (n : Nat) (h : HOp B P ops (evN P ops n p.1 p.2) Q G) : HOp B P ops p Q G := evN_ok n p.1 p.2 h

theorem HOp.done {p : List Nat × St} (h : p.1 = []) (k : Q .normal p.2 G) : HOp B P ops p Q G := by
  refine ⟨fun E a W R => ?_⟩
  rw [h]; exact ⟨E, p.2, G, R, k⟩

/-- A region that is evaluated whole. -/
theorem H.region {id : Nat} (h : HOp B P ops (List.range ops.size, st) Q G) : H B P (.region id ops false) Q st G :=
  ⟨fun E a W R => wp_region (h.run E a W R)⟩
theorem H.reg {id : Nat} (h : (evN P ops 1000 (List.range ops.size) st).1 = []) (k : Q .normal (evN P ops 1000 (List.range ops.size) st).2 G) : H B P (.region id ops false) Q st G :=
  H.region (HOp.ev 1000 (HOp.done h k))

theorem H.seq {x y : Code} (h : H B P x (fun e st G => match e with | .normal => H B P y Q st G | e => Q e st G) st G) : H B P (.seq x y) Q st G := by
  refine ⟨fun E a W R => ?_⟩
  refine wp_seq (wp_mono (h.run E a W R) fun e a' W' hq => ?_)
  obtain ⟨E', st', G', R', hq⟩ := hq
  cases e with
  | normal => exact hq.run E' a' W' R'
  | _ => exact ⟨E', st', G', R', hq⟩
/-- A region at the head of a sequence, evaluated whole. -/
theorem H.sr {id : Nat} {y : Code} (h : (evN P ops 1000 (List.range ops.size) st).1 = []) (k : H B P y Q (evN P ops 1000 (List.range ops.size) st).2 G) : H B P (.seq (.region id ops false) y) Q st G :=
  H.seq (H.reg h k)
theorem H.skip (h : Q .normal st G) : H B P .skip Q st G := ⟨fun E _ _ R => wp_skip ⟨E, st, G, R, h⟩⟩
theorem H.label {l : Nat} (h : Q .normal st G) : H B P (.label l) Q st G := ⟨fun E _ _ R => wp_label ⟨E, st, G, R, h⟩⟩
theorem H.exit {id : Nat} (h : Q (.exit id) st G) : H B P (.exit id) Q st G := ⟨fun E _ _ R => wp_exit ⟨E, st, G, R, h⟩⟩
theorem H.ret (h : Q .ret st G) : H B P .ret Q st G := ⟨fun E _ _ R => wp_ret ⟨E, st, G, R, h⟩⟩
theorem H.block {id : Nat} {c : Code} (h : H B P c (fun e st G => match e with | .exit i => cond (Nat.beq i id) (Q .normal st G) (Q (.exit i) st G) | e => Q e st G) st G) : H B P (.block id c) Q st G := by
  refine ⟨fun E a W R => ?_⟩
  refine wp_block (wp_mono (h.run E a W R) fun e a' W' hq => ?_)
  obtain ⟨E', st', G', R', hq⟩ := hq
  cases e with
  | exit i =>
    simp only [Exit.inBlock]
    by_cases hi : i = id
    · subst hi
      simp only [Nat.beq_refl, cond_true, if_true] at hq ⊢; exact ⟨E', st', G', R', hq⟩
    · simp only [beq_ne hi, cond_false, hi, if_false] at hq ⊢; exact ⟨E', st', G', R', hq⟩
  | _ => exact ⟨E', st', G', R', hq⟩

def boolOf (st : St) (c : Operand) : Option Bool := match st.ev c with | some (.v (.bool b)) => some b | _ => none
theorem boolOf_ok (R : Rel B E st G a W) {c : Operand} {b : Bool} (h : boolOf st c = some b) : a.eval c = .bool b := by
  unfold boolOf at h
  split at h
  · rename_i b' hs; simp only [Option.some.injEq] at h; subst h; rw [R.ev hs]; rfl
  · cases h
theorem H.cond {c : Operand} {x y : Code} (b : Bool) (hb : boolOf st c = some b) (ht : b = true → H B P x Q st G) (hf : b = false → H B P y Q st G) : H B P (.cond c x y) Q st G :=
  ⟨fun E a W R => wp_cond_split (boolOf_ok R hb) (fun e => (ht e).run E a W R) (fun e => (hf e).run E a W R)⟩
theorem H.condT {c : Operand} {x y : Code} (hb : boolOf st c = some true) (ht : H B P x Q st G) : H B P (.cond c x y) Q st G := H.cond true hb (fun _ => ht) (fun e => by cases e)
theorem H.condF {c : Operand} {x y : Code} (hb : boolOf st c = some false) (hf : H B P y Q st G) : H B P (.cond c x y) Q st G := H.cond false hb (fun e => by cases e) (fun _ => hf)

theorem H.ifd {c : Operand} {x y : Code} (p : Prop) [Decidable p] (hb : boolOf st c = some (decide p)) (ht : p → H B P x Q st G) (hf : ¬p → H B P y Q st G) : H B P (.cond c x y) Q st G :=
  H.cond _ hb (fun h => ht (of_decide_eq_true h)) (fun h => hf (of_decide_eq_false h))
theorem H.ife {c : Operand} {x y : Code} (u v : Int) (hb : boolOf st c = some (u == v)) (ht : u = v → H B P x Q st G) (hf : u ≠ v → H B P y Q st G) : H B P (.cond c x y) Q st G :=
  H.cond _ hb (fun h => ht (beq_iff_eq.1 h)) (fun h => hf (beq_eq_false_iff_ne.1 h))
theorem H.ifn {c : Operand} {x y : Code} (u v : Int) (hb : boolOf st c = some (u != v)) (ht : u ≠ v → H B P x Q st G) (hf : u = v → H B P y Q st G) : H B P (.cond c x y) Q st G :=
  H.cond _ hb (fun h => ht (bne_iff_ne.1 h)) (fun h => hf (by simpa using h))
theorem H.mono {c : Code} {Q' : Post} (h : H B P c Q st G) (hq : ∀ e st G, Q e st G → Q' e st G) : H B P c Q' st G :=
  ⟨fun E a W R => wp_mono (h.run E a W R) fun _ _ _ ⟨E', st', G', R', q⟩ => ⟨E', st', G', R', hq _ _ _ q⟩⟩
/-- A state that says less serves. -/
theorem H.le {c : Code} (S : St) (hm : B.m0 ≤ S.lo.length) (hl : (S.n, want S.tm, S.lo, S.ow) = (st.n, look st S.tm, st.lo.take S.lo.length, st.ow.take S.ow.length)) (h : H B P c Q S G) : H B P c Q st G :=
  ⟨fun E a W R => h.run E a W (R.le (le_of hl) hm)⟩
theorem HOp.le {p : List Nat × St} (l : List Nat) (S : St) (hm : B.m0 ≤ S.lo.length) (hl : (l, S.n, want S.tm, S.lo, S.ow) = (p.1, p.2.n, look p.2 S.tm, p.2.lo.take S.lo.length, p.2.ow.take S.ow.length)) (h : HOp B P ops (l, S) Q G) : HOp B P ops p Q G := by
  simp only [Prod.mk.injEq] at hl
  refine ⟨fun E a W R => ?_⟩
  rw [← hl.1]
  exact h.run E a W (R.le (le_of (by simp only [Prod.mk.injEq]; exact hl.2)) hm)

/-- A loop: the states at its head, by a parameter; what holds of it; and what each round lowers. -/
theorem H.loop {c : Code} {X : Type} (S : X → St) (C : X → GH → Prop) (μ : X → Nat) (x0 : X) (h0 : Le (S x0) st) (hC : C x0 G) (hm : ∀ x, B.m0 ≤ (S x).lo.length)
    (hr : ∀ x G, C x G → H B P c (fun e st' G' => match e with | .normal => ∃ x', Le (S x') st' ∧ C x' G' ∧ μ x' < μ x | e => Q e st' G') (S x) G) : H B P (.loop c) Q st G := by
  refine ⟨fun E a W R => ?_⟩
  let D : Act → World → Nat → Prop := fun a W n => ∃ E x G, Rel B E (S x) G a W ∧ C x G ∧ μ x ≤ n
  let μ' : Act → World → Nat := fun a W => Classical.epsilon fun n => D a W n ∧ ∀ m, D a W m → n ≤ m
  have hmin : ∀ a W n, D a W n → D a W (μ' a W) ∧ ∀ m, D a W m → μ' a W ≤ m := by
    intro a W n hn
    have : ∃ n, D a W n ∧ ∀ m, D a W m → n ≤ m := by
      induction n using Nat.strongRecOn with
      | _ n ih =>
        by_cases h : ∃ m, m < n ∧ D a W m
        · obtain ⟨m, hm, hd⟩ := h; exact ih m hm hd
        · refine ⟨n, hn, fun m hd => ?_⟩
          rcases Nat.lt_or_ge m n with hlt | hge
          · exact absurd ⟨m, hlt, hd⟩ h
          · exact hge
    exact Classical.epsilon_spec this
  refine wp_loop (fun a W => ∃ E x G, Rel B E (S x) G a W ∧ C x G) μ' ⟨E, x0, G, R.le h0 (hm x0), hC⟩ ?_
  rintro a W ⟨E1, x1, G1, R1, h1⟩
  obtain ⟨⟨E2, x2, G2, R2, h2, h3⟩, _⟩ := hmin a W _ ⟨E1, x1, G1, R1, h1, Nat.le_refl _⟩
  refine wp_mono ((hr x2 G2 h2).run E2 a W R2) fun e a' W' hq => ?_
  obtain ⟨E', st', G', R', hq⟩ := hq
  cases e with
  | normal =>
    obtain ⟨x', hle, hC', hlt⟩ := hq
    have R'' := R'.le hle (hm x')
    refine ⟨⟨E', x', G', R'', hC'⟩, ?_⟩
    have := (hmin a' W' _ ⟨E', x', G', R'', hC', Nat.le_refl _⟩).2 _ ⟨E', x', G', R'', hC', Nat.le_refl _⟩
    omega
  | _ => exact ⟨E', st', G', R', hq⟩

/-! ### What stands next in a region -/
def cur (ops : Array Oper) (p : List Nat × St) : Option Oper :=
  match p.1 with
  | i :: _ => (match ops[i]? with | some o => (match wantS ops p.2 o with | some true => some o | _ => none) | none => none)
  | [] => none
def dstOf (ops : Array Oper) (p : List Nat × St) : Option Nat := match cur ops p with | some o => o.dst | none => none
/-- The operation that stands next has this value. -/
def nxt (ops : Array Oper) (p : List Nat × St) (s : SV) : List Nat × St := (p.1.tail, p.2.put (dstOf ops p) s)

theorem wpOps_cur (R : Rel B E st G a W) {p : List Nat × St} (hp : p.2 = st) {o : Oper} (h : cur ops p = some o)
    (k : o.wp P a W (wpOps P ops (PostB B Q) p.1.tail) (PostB B Q)) : wpOps P ops (PostB B Q) p.1 a W := by
  unfold cur at h
  split at h
  · rename_i i r hp1
    split at h
    · rename_i o' ho
      split at h
      · rename_i hw
        simp only [Option.some.injEq] at h; subst h
        rw [hp1]
        simp only [wpOps, ho]
        rw [if_pos (wantS_ok R (by rw [← hp]; exact hw))]
        left; rw [hp1] at k; exact k
      · cases h
    · cases h
  · cases h

/-- A guard that is not known: both ways. -/
def guardOf (ops : Array Oper) (p : List Nat × St) : Option (Nat × Bool) :=
  match p.1 with
  | i :: _ =>
    (match ops[i]? with
     | some o => (match o.guard with
       | some (j, _) => (match (match ops[j]? with | some oj => oj.dst | none => none) with
         | some d => (match p.2.get d with | some (.v (.bool b)) => some (d, b) | _ => none)
         | none => none)
       | none => none)
     | none => none)
  | [] => none
theorem guardOf_get {p : List Nat × St} {d : Nat} {b : Bool} (h : guardOf ops p = some (d, b)) : p.2.get d = some (.v (.bool b)) := by
  unfold guardOf at h
  repeat' split at h
  all_goals first | (cases h; done) | (simp only [Option.some.injEq, Prod.mk.injEq] at h; obtain ⟨rfl, rfl⟩ := h; assumption)
theorem HOp.guard {p : List Nat × St} (d : Nat) (b : Bool) (h : guardOf ops p = some (d, b))
    (ht : b = true → HOp B P ops (p.1, p.2.put (some d) (.v (.bool true))) Q G) (hf : b = false → HOp B P ops (p.1, p.2.put (some d) (.v (.bool false))) Q G) : HOp B P ops p Q G := by
  refine ⟨fun E a W R => ?_⟩
  have hg := guardOf_get h
  have hput : ∀ c : Bool, b = c → Rel B E (p.2.put (some d) (.v (.bool c))) G a W := by
    intro c hc
    subst hc
    have ha : a.put (some d) (.bool b) = a := by
      have := R.tm d _ hg
      cases a with
      | mk tm df =>
        simp only [Act.put, Act.mk.injEq, and_true]
        apply Array.ext_getElem?; intro i
        rw [Array.getElem?_setIfInBounds]
        by_cases e : d = i
        · subst e
          simp only [SV.den] at this
          have hlt : d < tm.size := by
            rcases Nat.lt_or_ge d tm.size with h | h
            · exact h
            · rw [Array.getElem?_eq_none h] at this; cases this
          rw [this]; simp [hlt]
        · simp [e]
    have := R.put (some d) (s := .v (.bool b)) (x := .bool b) rfl
    rw [ha] at this; exact this
  cases hb : b with
  | true => exact (ht hb).run E a W (hput true hb)
  | false => exact (hf hb).run E a W (hput false hb)

theorem HOp.ifd {p : List Nat × St} (d : Nat) (c : Prop) [Decidable c] (h : guardOf ops p = some (d, decide c))
    (ht : c → HOp B P ops (p.1, p.2.put (some d) (.v (.bool true))) Q G) (hf : ¬c → HOp B P ops (p.1, p.2.put (some d) (.v (.bool false))) Q G) : HOp B P ops p Q G :=
  HOp.guard d _ h (fun h => ht (of_decide_eq_true h)) (fun h => hf (of_decide_eq_false h))
theorem HOp.ife {p : List Nat × St} (d : Nat) (u v : Int) (h : guardOf ops p = some (d, u == v))
    (ht : u = v → HOp B P ops (p.1, p.2.put (some d) (.v (.bool true))) Q G) (hf : u ≠ v → HOp B P ops (p.1, p.2.put (some d) (.v (.bool false))) Q G) : HOp B P ops p Q G :=
  HOp.guard d _ h (fun h => ht (beq_iff_eq.1 h)) (fun h => hf (beq_eq_false_iff_ne.1 h))
theorem HOp.ifn {p : List Nat × St} (d : Nat) (u v : Int) (h : guardOf ops p = some (d, u != v))
    (ht : u ≠ v → HOp B P ops (p.1, p.2.put (some d) (.v (.bool true))) Q G) (hf : u = v → HOp B P ops (p.1, p.2.put (some d) (.v (.bool false))) Q G) : HOp B P ops p Q G :=
  HOp.guard d _ h (fun h => ht (bne_iff_ne.1 h)) (fun h => hf (by simpa using h))

/-- The next operation comes to a value, and the world stays. -/
theorem HOp.val {p : List Nat × St} {o : Oper} {x : Value} (ho : cur ops p = some o)
    (hr : ∀ E a W, Rel B E p.2 G a W → (execOp a.eval o).run P W = .ok (.value x) W) (k : HOp B P ops (nxt ops p (.v x)) Q G) : HOp B P ops p Q G := by
  refine ⟨fun E a W R => ?_⟩
  refine wpOps_cur R rfl ho ?_
  unfold Oper.wp
  rw [hr E a W R]
  have := k.run E (a.put o.dst x) W (by
    have := R.put o.dst (s := .v x) (x := x) rfl
    unfold nxt dstOf; rw [ho]; exact this)
  exact this

/-! ### Calls -/
structure RelL (E : Env) (L : List Loc) (G : GH) (W : World) : Prop where
  lo : ∀ i l, L[i]? = some l → W.heap[E.id i]? = some (.cells ⟨E.pre i ++ SV.dens E l.cells ++ E.post i⟩ l.elem (0, 0))
  hid : ∀ i, i < L.length → G (E.id i) = none
  inj : ∀ i j, i < L.length → j < L.length → E.id i = E.id j → i = j
  sub : ∀ k o, G k = some o → W.heap[k]? = some o
structure Kept (E : Env) (m : Nat) (W W' : World) : Prop where
  block : ∀ k, k < W.heap.size → (∀ i, i < m → E.id i ≠ k) → W'.heap[k]? = W.heap[k]?
  os : W'.os = W.os
  tape : W'.tape = W.tape
  output : W'.output = W.output
  size : W.heap.size ≤ W'.heap.size
def Agree (m : Nat) (E E' : Env) : Prop := ∀ i, i < m → E'.id i = E.id i ∧ E'.pre i = E.pre i ∧ E'.post i = E.post i

/-- A call, with the local blocks that it may reach. -/
structure CallJ (P : Program) (f : Nat) (args : List SV) (lo : List Loc) (G : GH) (K : SV → List Loc → GH → Nat → Prop) : Prop where
  run : ∀ E W, RelL E lo G W → Calls P f ⟨SV.dens E args⟩ W fun e W' => ∃ E' s lo' G', e = .returned (s.den E') ∧ Agree lo.length E E' ∧ lo.length ≤ lo'.length ∧
    (∀ i, lo.length ≤ i → i < lo'.length → W.heap.size ≤ E'.id i) ∧ RelL E' lo' G' W' ∧ Kept E lo.length W W' ∧ (∀ k, k < W.heap.size → G' k = G k) ∧ K s lo' G' W.heap.size

mutual
theorem SV.den_agree {E E' : Env} {n : Nat} (h : Agree n E E') : ∀ {s : SV}, s.sc n = true → s.den E' = s.den E
  | .v x, _ => by simp [SV.den]
  | .lp i o, hs => by
    have hi : i < n := blt_iff.1 (by simpa [SV.sc] using hs)
    simp [SV.den, (h i hi).1, (h i hi).2.1]
  | .fn f c, hs => by simp [SV.den, SV.dens_agree h (s := c) (by simpa [SV.sc] using hs)]
  | .ag c, hs => by simp [SV.den, SV.dens_agree h (s := c) (by simpa [SV.sc] using hs)]
  | .tup c, hs => by simp [SV.den, SV.dens_agree h (s := c) (by simpa [SV.sc] using hs)]
theorem SV.dens_agree {E E' : Env} {n : Nat} (h : Agree n E E') : ∀ {s : List SV}, SV.scs n s = true → SV.dens E' s = SV.dens E s
  | [], _ => rfl
  | x :: r, hs => by
    simp only [SV.scs, Bool.and_eq_true] at hs
    simp [SV.dens, SV.den_agree h hs.1, SV.dens_agree h hs.2]
end

def callOf (ops : Array Oper) (p : List Nat × St) : Option (Nat × List SV) :=
  match cur ops p with
  | some o =>
    (match o.op with
     | .call c =>
       (match c.callee with
        | .value x =>
          (match p.2.ev x, evs p.2 c.args.toList with
           | some (.fn f caps), some as => some (f, as ++ caps)
           | some (.v (.func (.func f) first caps)), some as => some (f, first.toList.map .v ++ (as ++ caps.toList.map .v))
           | _, _ => none)
        | _ => none)
     | _ => none)
  | none => none
def okCallee (P : Program) (f : Nat) : Bool := match P.funcs[f]? with | some fn => !(fn.name == "runtime.NumGoroutine") && fn.body.isSome | none => false

theorem dens_append (E : Env) (l r : List SV) : SV.dens E (l ++ r) = SV.dens E l ++ SV.dens E r := by simp [SV.dens_map]
theorem dens_v (E : Env) (l : List Value) : SV.dens E (l.map .v) = l := by simp [SV.dens_map, List.map_map, Function.comp_def, SV.den]

theorem callFunc_run {f : Nat} {args : Array Value} (h : okCallee P f = true) : (callFunc f args).run P W = .ok (.enter f args) W := by
  unfold okCallee at h
  cases hf : P.funcs[f]? with
  | none => simp [hf] at h
  | some fn =>
    simp only [hf, Bool.and_eq_true, Bool.not_eq_true'] at h
    have hb : fn.body.isNone = false := by
      cases hb : fn.body with
      | none => simp [hb] at h
      | some c => rfl
    show (match P.funcs[f]? with | none => _ | some fn => _ : Sem Next).run P W = _
    rw [hf]
    simp only [h.1, hb]
    rfl

theorem callOf_run (R : Rel B E st G a W) {p : List Nat × St} (hp : p.2 = st) {o : Oper} {f : Nat} {as : List SV} (ho : cur ops p = some o) (h : callOf ops p = some (f, as)) (hk : okCallee P f = true) :
    (execOp a.eval o).run P W = .ok (.enter f ⟨SV.dens E as⟩) W := by
  unfold callOf at h
  simp only [ho] at h
  split at h
  · rename_i c hop
    split at h
    · rename_i x hc
      split at h
      · rename_i g caps as' hx has
        simp only [Option.some.injEq, Prod.mk.injEq] at h
        obtain ⟨rfl, rfl⟩ := h
        rw [hp] at hx has
        have e : c.args.map a.eval = ⟨SV.dens E as'⟩ := by
          have := evs_den R has
          rw [← this]; apply Array.ext'; simp
        have hx' := R.ev hx
        simp only [execOp, hop]
        show (Sem.bind (resolve a.eval c o.type) _).run P W = _
        have hres : resolve a.eval c o.type = .pure { target := .fn (.func g) ⟨SV.dens E caps⟩, args := #[] ++ c.args.map a.eval } := by
          unfold resolve; rw [hc]; simp only [hx', SV.den]; rfl
        rw [hres, run_bind rfl]
        show (callFunc g _).run P W = _
        rw [callFunc_run hk, e, dens_append]; simp
      · rename_i g first caps as' hx has
        simp only [Option.some.injEq, Prod.mk.injEq] at h
        obtain ⟨rfl, rfl⟩ := h
        rw [hp] at hx has
        have e : c.args.map a.eval = ⟨SV.dens E as'⟩ := by
          have := evs_den R has
          rw [← this]; apply Array.ext'; simp
        have hx' := R.ev hx
        simp only [execOp, hop]
        show (Sem.bind (resolve a.eval c o.type) _).run P W = _
        have hres : resolve a.eval c o.type = .pure { target := .fn (.func g) caps, args := first ++ c.args.map a.eval } := by
          unfold resolve; rw [hc]; simp only [hx', SV.den]; rfl
        rw [hres, run_bind rfl]
        show (callFunc g _).run P W = _
        rw [callFunc_run hk, e, dens_append, dens_append, dens_v, dens_v]; simp
      · cases h
    · cases h
  · cases h

theorem Rel.relL (R : Rel B E st G a W) : RelL E st.lo G W := ⟨R.lo, R.hid, R.inj, R.sub⟩

/-- Behind a call. -/
theorem Rel.after (R : Rel B E st G a W) (hs : scT st.lo.length st.tm = true) {E' : Env} {lo' : List Loc} {G' : GH} {W' : World} (hag : Agree st.lo.length E E') (hlen : st.lo.length ≤ lo'.length)
    (hnew : ∀ i, st.lo.length ≤ i → i < lo'.length → W.heap.size ≤ E'.id i) (RL : RelL E' lo' G' W') (hk : Kept E st.lo.length W W') (hG : ∀ k, k < W.heap.size → G' k = G k) :
    Rel B E' { n := st.n, tm := st.tm, lo := lo', ow := st.ow } G' a W' where
  size := R.size
  df := R.df
  tm := fun k s hk => by rw [SV.den_agree hag (sc_lookup hs hk)]; exact R.tm k s hk
  ml := Nat.le_trans R.ml hlen
  lo := RL.lo
  hid := RL.hid
  inj := RL.inj
  own := fun i h1 h2 => by
    rcases Nat.lt_or_ge i st.lo.length with h | h
    · rw [(hag i h).1]; exact R.own i h1 h
    · exact Nat.le_trans R.sz (hnew i h h2)
  agr := fun i hi => by
    have := hag i (Nat.lt_of_lt_of_le hi R.ml)
    rw [this.1, this.2.1, this.2.2]; exact R.agr i hi
  sub := RL.sub
  old := fun k hk => by rw [hG k (Nat.lt_of_lt_of_le hk R.sz)]; exact R.old k hk
  ext := fun k hk' hn => by
    rw [hk.block k (Nat.lt_of_lt_of_le hk' R.sz) ?_]
    · exact R.ext k hk' hn
    · intro i hi e
      rcases Nat.lt_or_ge i B.m0 with h | h
      · exact hn i h (by rw [← (R.agr i h).1]; exact e)
      · have := R.own i h hi; omega
  os := hk.os.trans R.os
  tape := hk.tape.trans R.tape
  output := hk.output.trans R.output
  sz := Nat.le_trans R.sz hk.size
  ows := R.ows.of (Nat.le_refl _) (fun o ho b hb => hk.block b ((R.ows.at_ o ho).lt hb).1 fun i hi => R.ows.loc o ho b hb i hi) (fun o ho b hb => by rw [hG b ((R.ows.at_ o ho).lt hb).1]; exact R.ows.hid o ho b hb) fun o ho b hb i hi => by
    rcases Nat.lt_or_ge i st.lo.length with h | h
    · rw [(hag i h).1]; exact R.ows.loc o ho b hb i h
    · have := hnew i h hi; have := ((R.ows.at_ o ho).lt hb).1; omega

def GExt (G G' : GH) : Prop := ∀ k o, G k = some o → G' k = some o
theorem GExt.refl (G : GH) : GExt G G := fun _ _ h => h
theorem GExt.trans {G1 G2 G3 : GH} (h : GExt G1 G2) (k : GExt G2 G3) : GExt G1 G3 := fun _ _ e => k _ _ (h _ _ e)

theorem HOp.call {p : List Nat × St} (f : Nat) (as : List SV) (h : callOf ops p = some (f, as)) (hk : (okCallee P f && scT p.2.lo.length p.2.tm) = true)
    (k : CallJ P f as p.2.lo G fun s lo' G' N => B.n0 ≤ N → (∀ k, k < N → G' k = G k) → GExt G G' → HOp B P ops (p.1.tail, ({ n := p.2.n, tm := p.2.tm, lo := lo', ow := p.2.ow } : St).put (dstOf ops p) s) Q G') : HOp B P ops p Q G := by
  refine ⟨fun E a W R => ?_⟩
  simp only [Bool.and_eq_true] at hk
  obtain ⟨o, ho⟩ : ∃ o, cur ops p = some o := by
    unfold callOf at h
    cases hc : cur ops p with
    | none => simp [hc] at h
    | some o => exact ⟨o, rfl⟩
  refine wpOps_cur R rfl ho ?_
  unfold Oper.wp
  rw [callOf_run R rfl ho h hk.1, Oper.upon_enter]
  refine Calls.mono (k.run E W R.relL) ?_
  rintro e W' ⟨E', s, lo', G', rfl, hag, hlen, hnew, RL, hkept, hG, hK⟩
  have R' := (R.after hk.2 hag hlen hnew RL hkept hG).put o.dst (s := s) rfl
  have hd : dstOf ops p = o.dst := by unfold dstOf; rw [ho]
  refine (hK R.sz hG (fun k o hk => ?_)).run E' _ W' (by rw [hd]; exact R')
  rw [hG k ?_]; exact hk
  have := R.sub k o hk
  rcases Nat.lt_or_ge k W.heap.size with h | h
  · exact h
  · rw [Array.getElem?_eq_none h] at this; cases this

/-- A function on plain values, that leaves what it finds as it is. -/
def default_env : Env := ⟨fun _ => 0, fun _ => [], fun _ => []⟩
structure Fun (P : Program) (f : Nat) (vs : List Value) (G : GH) (K : Nat → GH → Value → Prop) : Prop where
  run : ∀ W, (∀ k o, G k = some o → W.heap[k]? = some o) → Calls P f ⟨vs⟩ W fun e W' => ∃ v G', e = .returned v ∧ Kept default_env 0 W W' ∧ (∀ k o, G' k = some o → W'.heap[k]? = some o) ∧ (∀ k, k < W.heap.size → G' k = G k) ∧ K W.heap.size G' v

theorem Fun.callJ {f : Nat} {as : List SV} {vs : List Value} {K : Nat → GH → Value → Prop} {lo : List Loc} {K' : SV → List Loc → GH → Nat → Prop} (hp : SV.pls as = some vs) (h : Fun P f vs G K) (hk : ∀ N G' v, (∀ k, k < N → G' k = G k) → K N G' v → K' (.v v) lo G' N) :
    CallJ P f as lo G K' := by
  refine ⟨fun E W RL => ?_⟩
  rw [SV.pls_den hp]
  refine Calls.mono (h.run W RL.sub) ?_
  rintro e W' ⟨v, G', rfl, hkept, hsub, hG, hK⟩
  have hlt : ∀ i, i < lo.length → E.id i < W.heap.size := fun i hi => by
    have := RL.lo i _ (List.getElem?_eq_getElem hi)
    rcases Nat.lt_or_ge (E.id i) W.heap.size with h | h
    · exact h
    · rw [Array.getElem?_eq_none h] at this; cases this
  refine ⟨E, .v v, lo, G', rfl, fun _ _ => ⟨rfl, rfl, rfl⟩, Nat.le_refl _, fun i h1 h2 => by omega, ⟨fun i l hi => ?_, fun i hi => ?_, RL.inj, hsub⟩, ⟨fun k hk _ => hkept.block k hk (fun i hi => by omega), hkept.os, hkept.tape, hkept.output, hkept.size⟩, hG, hk _ _ _ hG hK⟩
  · rw [hkept.block _ (hlt i (List.getElem?_eq_some_iff.1 hi).1) (fun i hi => by omega)]; exact RL.lo i l hi
  · rw [hG _ (hlt i hi)]; exact RL.hid i hi

/-! ### Bodies -/
def resS (P : Program) (st : St) : List ResultVar → Option (List SV)
  | [] => some []
  | .tmp t :: r => (match st.get t with | some s => (match resS P st r with | some l => some (s :: l) | none => none) | none => none)
  | .cell t ty :: r => (match st.get t with | some (.lp i off) => (match peek P st.lo ty i off with | some s => (match resS P st r with | some l => some (s :: l) | none => none) | none => none) | _ => none)
def oneOrAll : List SV → SV
  | [s] => s
  | l => .tup l
def resOf (P : Program) (fn : Func) (st : St) : Option SV := match resS P st fn.results.toList with | some l => some (oneOrAll l) | none => none

def resF (tmps : Array Value) : ResultVar → Sem Value
  | .tmp t => pure (tmps.getD t undef)
  | .cell x t => (asAddr (tmps.getD x undef)).bind fun a => loadVar t a
theorem mapM_cons_run {α β : Type} {f : α → Sem β} {x : α} {l : List α} {y : β} {q : List β} (h1 : (f x).run P W = .ok y W) (h2 : (l.mapM f).run P W = .ok q W) : ((x :: l).mapM f).run P W = .ok (y :: q) W := by
  rw [List.mapM_cons]
  show (Sem.bind (f x) _).run P W = _
  rw [run_bind h1]
  show (Sem.bind (l.mapM f) _).run P W = _
  rw [run_bind h2]; rfl
theorem resS_run (R : Rel B E st G a W) : ∀ {l : List ResultVar} {r : List SV}, resS P st l = some r → (l.mapM (resF a.tmps)).run P W = .ok (SV.dens E r) W
  | [], r, h => by cases h; rfl
  | .tmp t :: l, r, h => by
    cases hs : st.get t with
    | none => simp [resS, hs] at h
    | some s =>
      cases hl : resS P st l with
      | none => simp [resS, hs, hl] at h
      | some q =>
        simp [resS, hs, hl] at h; subst h
        have ht := R.tm _ _ hs
        refine mapM_cons_run ?_ (resS_run R hl)
        show Result.ok (a.tmps.getD t undef) W = _
        simp [Array.getD_eq_getD_getElem?, ht]
  | .cell t ty :: l, r, h => by
    simp only [resS] at h
    split at h
    · rename_i i off hs
      split at h
      · rename_i s hp
        split at h
        · rename_i q hl
          simp only [Option.some.injEq] at h; subst h
          have ht := R.tm _ _ hs
          have e : a.tmps.getD t undef = .pointer (some ⟨E.id i, (E.pre i).length + off, none⟩) := by simp [Array.getD_eq_getD_getElem?, ht, SV.den]
          refine mapM_cons_run ?_ (resS_run R hl)
          show (Sem.bind (asAddr (a.tmps.getD t undef)) _).run P W = _
          rw [e]
          exact peek_run R hp
        · cases h
      · cases h
    · cases h

theorem resOf_run (R : Rel B E st G a W) {fn : Func} {s : SV} (h : resOf P fn st = some s) : (results fn a.tmps).run P W = .ok (s.den E) W := by
  unfold resOf at h
  split at h
  · rename_i l hl
    simp only [Option.some.injEq] at h; subst h
    have hrun := resS_run R hl
    have e : fn.results.mapM (resF a.tmps) = List.toArray <$> fn.results.toList.mapM (resF a.tmps) := by
      conv => lhs; rw [show fn.results = fn.results.toList.toArray by simp]
      rw [List.mapM_toArray]
    have e2 : (fn.results.mapM (resF a.tmps)).run P W = .ok ⟨SV.dens E l⟩ W := by
      rw [e]; simp only [Sem.run_map, hrun, Result.andThen_ok]
    show (Sem.bind (fn.results.mapM (resF a.tmps)) _).run P W = _
    rw [run_bind e2]
    match l with
    | [] => rfl
    | [x] => rfl
    | x :: y :: r => rfl
  · cases h

def initT : Nat → List SV → List (Nat × SV)
  | _, [] => []
  | k, s :: r => (k, s) :: initT (k + 1) r
/-- A frame as a call begins. -/
def St0 (fn : Func) (args : List SV) (lo : List Loc) : St := { n := fn.ntmps, tm := initT 0 args, lo := lo, ow := [] }
theorem initT_get {k : Nat} {s : SV} : ∀ (l : List SV) (j : Nat), lookup (initT j l) k = some s → j ≤ k ∧ l[k - j]? = some s
  | x :: r, j, h => by
    simp only [initT, lookup] at h
    cases e : Nat.beq j k with
    | true =>
      rw [e] at h; simp at h; subst h
      have := Nat.eq_of_beq_eq_true e; subst this; simp
    | false =>
      rw [e] at h; simp at h
      obtain ⟨h1, h2⟩ := initT_get r (j + 1) h
      refine ⟨by omega, ?_⟩
      rw [show k - j = (k - (j + 1)) + 1 by omega]; simpa using h2

/-- What a body must come to. -/
def bodyQ (P : Program) (fn : Func) (K : SV → List Loc → GH → Nat → Prop) (B : Base) : Post := fun e st G =>
  match e with
  | .normal | .ret => ∃ s, resOf P fn st = some s ∧ K s st.lo G B.n0
  | _ => False

theorem CallJ.body {f : Nat} {fn : Func} {c : Code} {args : List SV} {lo : List Loc} {K : SV → List Loc → GH → Nat → Prop} (hf : P.funcs[f]? = some fn) (hb : fn.body = some c) (hn : Nat.ble args.length fn.ntmps = true)
    (h : ∀ B : Base, B.m0 = lo.length → B.G0 = G → H B P c (bodyQ P fn K B) (St0 fn args lo) G) : CallJ P f args lo G K := by
  refine ⟨fun E W RL => ?_⟩
  have hn' : args.length ≤ fn.ntmps := Nat.le_of_ble_eq_true hn
  refine calls_of_wp hf hb ?_
  let B : Base := ⟨W, G, E, lo.length, fun k o h => (Array.getElem?_eq_some_iff.1 (RL.sub k o h)).1⟩
  have hsz : ((⟨SV.dens E args⟩ : Array Value)).size = args.length := by show (SV.dens E args).length = _; rw [SV.dens_length]
  have R : Rel B E (St0 fn args lo) G { tmps := (⟨SV.dens E args⟩ : Array Value) ++ Array.replicate (fn.ntmps - (⟨SV.dens E args⟩ : Array Value).size) undef, defers := [] } W := by
    refine ⟨?_, rfl, ?_, Nat.le_refl _, RL.lo, RL.hid, RL.inj, fun i h1 h2 => ?_, fun i _ => ⟨rfl, rfl, rfl⟩, RL.sub, fun _ _ => rfl, fun _ _ _ => rfl, rfl, rfl, rfl, Nat.le_refl _, Owns.nil⟩
    · simp only [Array.size_append, Array.size_replicate, hsz, St0]; omega
    · intro k s hk
      obtain ⟨_, h2⟩ := initT_get args 0 hk
      simp only [Nat.sub_zero] at h2
      have hlt : k < args.length := (List.getElem?_eq_some_iff.1 h2).1
      rw [Array.getElem?_append_left (by rw [hsz]; exact hlt)]
      rw [show (⟨SV.dens E args⟩ : Array Value)[k]? = (SV.dens E args)[k]? by simp, SV.dens_get, h2]; rfl
    · exact absurd h2 (Nat.not_lt.2 h1)
  refine wp_mono ((h B rfl rfl).run E _ W R) ?_
  rintro e a' W' ⟨E', st', G', R', hq⟩
  have fin : ∀ s, resOf P fn st' = some s → K s st'.lo G' B.n0 → a'.defers = [] ∧ ∃ v, (results fn a'.tmps).run P W' = .ok v W' ∧
      ∃ E' s lo' G', Ending.returned v = .returned (s.den E') ∧ Agree lo.length E E' ∧ lo.length ≤ lo'.length ∧ (∀ i, lo.length ≤ i → i < lo'.length → W.heap.size ≤ E'.id i) ∧ RelL E' lo' G' W' ∧ Kept E lo.length W W' ∧ (∀ k, k < W.heap.size → G' k = G k) ∧ K s lo' G' W.heap.size := by
    intro s hs hK
    exact ⟨R'.df, _, resOf_run R' hs, E', s, st'.lo, G', rfl, fun i hi => R'.agr i hi, R'.ml, fun i h1 h2 => R'.own i h1 h2, R'.relL, ⟨R'.ext, R'.os, R'.tape, R'.output, R'.sz⟩, R'.old, hK⟩
  cases e with
  | normal => obtain ⟨s, hs, hK⟩ := hq; exact fin s hs hK
  | ret => obtain ⟨s, hs, hK⟩ := hq; exact fin s hs hK
  | _ => exact hq.elim

/-- A function on plain values, by its body. -/
theorem Fun.body {f : Nat} {fn : Func} {c : Code} {vs : List Value} {K : Nat → GH → Value → Prop} (hf : P.funcs[f]? = some fn) (hb : fn.body = some c) (hn : Nat.ble (vs.map SV.v).length fn.ntmps = true)
    (h : ∀ B : Base, B.m0 = 0 → B.G0 = G → H B P c (bodyQ P fn (fun s _ G' N => ∃ v, s.pl = some v ∧ K N G' v) B) (St0 fn (vs.map .v) []) G) : Fun P f vs G K := by
  refine ⟨fun W hW => ?_⟩
  have := (CallJ.body (lo := []) hf hb hn h).run default_env W ⟨fun i l hi => by simp at hi, fun i hi => by simp at hi, fun i j hi => by simp at hi, hW⟩
  rw [dens_v] at this
  refine Calls.mono this ?_
  rintro e W' ⟨E', s, lo', G', rfl, _, _, _, RL, hk, hG, v, hv, hK⟩
  exact ⟨v, G', by rw [SV.pl_den hv], hk, RL.sub, hG, hK⟩

theorem Fun.mono {f : Nat} {vs : List Value} {K K' : Nat → GH → Value → Prop} (h : Fun P f vs G K) (hk : ∀ N G' v, K N G' v → K' N G' v) : Fun P f vs G K' :=
  ⟨fun W hW => Calls.mono (h.run W hW) fun _ _ ⟨v, G', h1, h2, h3, h4, h5⟩ => ⟨v, G', h1, h2, h3, h4, hk _ _ _ h5⟩⟩

/-- A call on plain values. -/
def callV (ops : Array Oper) (p : List Nat × St) : Option (Nat × List Value) :=
  match callOf ops p with
  | some (f, as) => (match SV.pls as with | some vs => some (f, vs) | none => none)
  | none => none
theorem callV_spec {p : List Nat × St} {f : Nat} {vs : List Value} (h : callV ops p = some (f, vs)) : ∃ as, callOf ops p = some (f, as) ∧ SV.pls as = some vs := by
  unfold callV at h
  split at h
  · rename_i g as ho
    split at h
    · rename_i ws hs
      simp only [Option.some.injEq, Prod.mk.injEq] at h
      obtain ⟨rfl, rfl⟩ := h
      exact ⟨as, ho, hs⟩
    · cases h
  · cases h
/-- A call of a function on plain values. -/
theorem HOp.fun {p : List Nat × St} {K : Nat → GH → Value → Prop} (f : Nat) (vs : List Value) (h : callV ops p = some (f, vs)) (hk : (okCallee P f && scT p.2.lo.length p.2.tm) = true) (hF : Fun P f vs G K)
    (k : ∀ N G' v, B.n0 ≤ N → (∀ k, k < N → G' k = G k) → GExt G G' → K N G' v → HOp B P ops (nxt ops p (.v v)) Q G') : HOp B P ops p Q G :=
  let ⟨_, h1, h2⟩ := callV_spec h
  HOp.call f _ h1 hk (Fun.callJ h2 hF fun N G' v hG hK hN _ hGE => k N G' v hN hG hGE hK)

/-- A function that returns one value, whatever memory holds. -/
structure PureF (P : Program) (f : Nat) (vs : List Value) (r : Value) : Prop where
  run : ∀ G, Fun P f vs G fun _ G' v => G' = G ∧ v = r
theorem HOp.pure {p : List Nat × St} {r : Value} (f : Nat) (vs : List Value) (h : callV ops p = some (f, vs)) (hk : (okCallee P f && scT p.2.lo.length p.2.tm) = true) (hF : PureF P f vs r)
    (k : HOp B P ops (nxt ops p (.v r)) Q G) : HOp B P ops p Q G :=
  HOp.fun f vs h hk (hF.run G) fun _ _ _ _ _ _ hK => by obtain ⟨rfl, rfl⟩ := hK; exact k
/-- What was seen since may be forgotten. -/
theorem Rel.reset (R : Rel B E st G a W) (h0 : ∀ k o, B.G0 k = some o → k < B.n0) : Rel B E st B.G0 a W :=
  { R with
    hid := fun i hi => by
      cases hg : B.G0 (E.id i) with
      | none => rfl
      | some o =>
        have h1 := h0 _ _ hg
        rw [← R.old _ h1, R.hid i hi] at hg; cases hg
    sub := fun k o hk => R.sub k o (by rw [R.old k (h0 k o hk)]; exact hk)
    old := fun _ _ => rfl
    ows := R.ows.of (Nat.le_refl _) (fun _ _ _ _ => rfl) (fun o ho b hb => by
      cases hg : B.G0 b with
      | none => rfl
      | some x => have h1 := h0 _ _ hg; have := ((R.ows.at_ o ho).lt hb).2; omega) R.ows.loc }
theorem PureF.body {f : Nat} {fn : Func} {c : Code} {vs : List Value} {r : Value} (hf : P.funcs[f]? = some fn) (hb : fn.body = some c) (hn : Nat.ble (vs.map SV.v).length fn.ntmps = true)
    (h : ∀ B G, B.m0 = 0 → B.G0 = G → H B P c (bodyQ P fn (fun s _ _ _ => s.pl = some r) B) (St0 fn (vs.map .v) []) G) : PureF P f vs r := by
  refine ⟨fun G => ⟨fun W hW => ?_⟩⟩
  have := (CallJ.body (lo := []) hf hb hn (fun B h1 h2 => h B G h1 h2)).run default_env W ⟨fun i l hi => by simp at hi, fun i hi => by simp at hi, fun i j hi => by simp at hi, hW⟩
  rw [dens_v] at this
  refine Calls.mono this ?_
  rintro e W' ⟨E', s, lo', G', rfl, _, _, _, RL, hk, hG, hv⟩
  refine ⟨r, G, by rw [SV.pl_den hv], hk, fun k o hk' => ?_, fun _ _ => rfl, rfl, rfl⟩
  have hlt : k < W.heap.size := by
    have := hW k o hk'
    rcases Nat.lt_or_ge k W.heap.size with h | h
    · exact h
    · rw [Array.getElem?_eq_none h] at this; cases this
  exact RL.sub k o (by rw [hG k hlt]; exact hk')

end
end Go.Proofs.Ytoiacgfhjikddaa.Vc
