/- The interpreter is right, sixth part: any operation that leaves all as it is. -/
import Derived.Test.YtoiacgfhjikddaaWI
set_option linter.unusedSimpArgs false
set_option linter.unusedVariables false
namespace Go.Proofs.Ytoiacgfhjikddaa.W
open Go.RowKit Vc

section
variable {C : Cx} {B : Base} {s : AS} {a : Act} {W : World} {P : Program} {LO : List Vc.Loc} {OW : List OwnV} {sus : List Act} {o : Oper}

theorem tt_of {x : Option AV} {b : Bool} {y : AV} (h : tt x = some (b, y)) : x = some y := by
  cases x with
  | none => cases h
  | some z => simp only [tt, Option.some.injEq, Prod.mk.injEq] at h; rw [h.2]
theorem evPick_ok {c x y z : AV} {cv xv yv : Value} (hc : Rep C c cv) (hx : Rep C x xv) (hy : Rep C y yv) (h : evPick c x y = some z) : ∃ b : Bool, cv = .bool b ∧ Rep C z (cond b xv yv) := by
  unfold evPick at h
  split at h
  · rename_i b p q
    simp only [Rep] at hc hx hy
    simp only [Option.some.injEq] at h; subst h
    exact ⟨b, hc, by subst hx; subst hy; cases b <;> simp [Rep]⟩
  · simp only [Option.some.injEq] at h; subst h
    simp only [Rep] at hc
    exact ⟨true, hc, hx⟩
  · simp only [Option.some.injEq] at h; subst h
    simp only [Rep] at hc
    exact ⟨false, hc, hy⟩
  · cases h
theorem evBin_ok (R : RelA B C LO OW s a sus W) {op : BinOp} {t ty : Nat} {x y : Operand} {p q z : AV} (ho : o.op = .binOp op t x y ty) (hp : Rep C p (a.eval x)) (hq : Rep C q (a.eval y)) (h : evBin P s o op t p q = some z) : ∃ v, Yd P W (execOp a.eval o) (.value v) ∧ Rep C z v := by
  unfold evBin at h
  split at h
  · rename_i cs ds
    have hp' := hp
    have hq' := hq
    simp only [Rep] at hp' hq'
    obtain ⟨us, h1, _⟩ := hp'
    obtain ⟨ws, h2, _⟩ := hq'
    cases hg : P.eqGuardType P.depth t with
    | true => simp [hg] at h
    | false =>
      simp only [hg, cond_false] at h
      have key : ∀ b, eqT P Op.maxDepth t (.ag cs) (.ag ds) = some b → eqV P Op.maxDepth t (.agg ⟨us⟩) (.agg ⟨ws⟩) = some b := fun b hb => eqT_ok _ _ _ _ _ _ b (by rw [h1] at hp; exact hp) (by rw [h2] at hq; exact hq) hb
      split at h
      · rename_i e he
        simp only [Option.some.injEq] at h; subst h
        exact ⟨.bool e, fun _ _ => evEq_run (E := default_env) ho h1 h2 (s := .v (.bool e)) (by simp only [evEq, hg, cond_false, key e he]), by simp [Rep]⟩
      · rename_i e he
        simp only [Option.some.injEq] at h; subst h
        exact ⟨.bool !e, fun _ _ => evEq_run (E := default_env) ho h1 h2 (s := .v (.bool !e)) (by simp only [evEq, hg, cond_false, key e he]), by simp [Rep]⟩
      · cases h
  · exact pureA_ok R h
theorem arA_ok (R : RelA B C LO OW s a sus W) {op : BinOp} {t ty : Nat} {x y : Operand} {p q z : AV} {b : Bool} (ho : o.op = .binOp op t x y ty) (hp : Rep C p (a.eval x)) (hq : Rep C q (a.eval y)) (h : arA op p q = some (b, z)) (hb : b = true) : ∃ v, Yd P W (execOp a.eval o) (.value v) ∧ Rep C z v := by
  unfold arA at h
  split at h
  · rename_i k m k' n
    simp only [Rep] at hp hq
    split at h
    · rename_i c r hr
      simp only [Option.some.injEq, Prod.mk.injEq] at h
      obtain ⟨rfl, rfl⟩ := h
      refine ⟨.int k r, fun W' _ => ?_, by simp [Rep]⟩
      have hg : ∀ op : BinOp, (eqGuard op t x y (.int k m) (.int k' n)).run P W' = .ok () W' := fun op => by unfold eqGuard; cases op <;> rfl
      have key : (binOp op t (.int k m) (.int k' n)).run P W' = .ok (.int k r) W' := by
        unfold evArith at hr
        split at hr
        · simp only [Option.some.injEq, Prod.mk.injEq] at hr
          obtain ⟨h1, rfl⟩ := hr
          have h1 : 0 ≤ n := of_decide_eq_true (h1.trans hb)
          simp only [binOp, Op.shift, if_neg (show ¬ n < 0 by omega)]; rfl
        · simp only [Option.some.injEq, Prod.mk.injEq] at hr
          obtain ⟨h1, rfl⟩ := hr
          have h1 : 0 ≤ n := of_decide_eq_true (h1.trans hb)
          simp only [binOp, Op.shift, if_neg (show ¬ n < 0 by omega)]; rfl
        · split at hr
          · rename_i e; subst e
            simp only [Option.some.injEq, Prod.mk.injEq] at hr
            obtain ⟨h1, rfl⟩ := hr
            have h1 : ¬ n = 0 := by rw [← h1] at hb; simpa using hb
            simp only [binOp, Op.intDiv, if_neg h1, ne_eq, not_true, if_false]; rfl
          · cases hr
        · split at hr
          · rename_i e; subst e
            simp only [Option.some.injEq, Prod.mk.injEq] at hr
            obtain ⟨h1, rfl⟩ := hr
            have h1 : ¬ n = 0 := by rw [← h1] at hb; simpa using hb
            simp only [binOp, Op.intDiv, if_neg h1, ne_eq, not_true, if_false]; rfl
          · cases hr
        · cases hr
      simp only [execOp, ho, hp, hq]
      refine bind_val ?_
      show (Sem.bind (eqGuard op t x y (.int k m) (.int k' n)) _).run P W' = _
      rw [run_bind (hg op)]; exact key
    · cases h
  · cases h
theorem evNil_ok (R : RelA B C LO OW s a sus W) {x : Operand} {p z : AV} (ho : o.op = .nilCheck x) (hp : Rep C p (a.eval x)) (h : evNil P s o p = some z) : ∃ v, Yd P W (execOp a.eval o) (.value v) ∧ Rep C z v := by
  have ptr : ∀ q : Addr, a.eval x = .pointer (some q) → Yd P W (execOp a.eval o) (.value (a.eval x)) := fun q hq W' _ => by
    simp only [execOp, ho, hq]; rfl
  cases p with
  | v y => exact pureA_ok R h
  | lp i off =>
    simp only [evNil, Option.some.injEq] at h; subst h
    have hp' := hp; simp only [Rep] at hp'
    exact ⟨_, ptr _ hp'.2, hp⟩
  | fp q k y off =>
    simp only [evNil, Option.some.injEq] at h; subst h
    have hp' := hp; simp only [Rep] at hp'
    obtain ⟨vs, _, ad, h2, _⟩ := hp'
    exact ⟨_, ptr _ h2, hp⟩
  | op m w j off =>
    simp only [evNil, Option.some.injEq] at h; subst h
    have hp' := hp; simp only [Rep] at hp'
    obtain ⟨_, _, b, n, c, _, _, h2⟩ := hp'
    exact ⟨_, ptr _ h2, hp⟩
  | fn f c =>
    simp only [evNil, Option.some.injEq] at h; subst h
    have hp' := hp; simp only [Rep] at hp'
    obtain ⟨vs, h2, _⟩ := hp'
    refine ⟨a.eval x, fun W' _ => ?_, hp⟩
    simp only [execOp, ho, h2]; rfl
  | _ => simp [evNil] at h

/-- What an operation that leaves all as it is brings. -/
theorem evQ_ok (R : RelA B C LO OW s a sus W) {b : Bool} {z : AV} (h : evQ P s o = some (b, z)) (hb : b = true) : ∃ v, Yd P W (execOp a.eval o) (.value v) ∧ Rep C z v := by
  unfold evQ at h
  split at h
  · rename_i x ho
    exact ⟨_, fun W' _ => by simp only [execOp, ho]; rfl, R.ev (tt_of h)⟩
  · rename_i x ho
    exact ⟨_, fun W' _ => by simp only [execOp, ho]; rfl, R.ev (tt_of h)⟩
  · rename_i c x y ho
    split at h
    · rename_i p q r hp hq hr
      obtain ⟨e, h1, h2⟩ := evPick_ok (R.ev hp) (R.ev hq) (R.ev hr) (tt_of h)
      refine ⟨_, fun W' _ => ?_, h2⟩
      simp only [execOp, ho, h1]; cases e <;> rfl
    · cases h
  · rename_i t x ho
    split at h
    · rename_i p hp
      obtain ⟨v, h1, h2⟩ := evLoad_ok R (R.ev hp) h hb
      exact ⟨v, fun W' g => by simp only [execOp, ho]; exact bind_val (h1 W' g), h2⟩
    · cases h
  · rename_i t x f ho
    split at h
    · rename_i off w ag p hf hp
      obtain ⟨v, h1, h2⟩ := evFAddr_ok R hf (R.ev hp) h
      exact ⟨v, fun W' g => by simp only [execOp, ho]; exact bind_val (h1 W' g), h2⟩
    · cases h
  · rename_i t x f ho
    split at h
    · rename_i p hp
      obtain ⟨v, h1, h2⟩ := evField_ok R (R.ev hp) (tt_of h)
      exact ⟨v, fun W' g => by simp only [execOp, ho]; exact bind_val (h1 W' g), h2⟩
    · cases h
  · rename_i t x i ho
    split at h
    · rename_i p n hp hn
      obtain ⟨k, hk⟩ := num_ev R hn
      obtain ⟨v, h1, h2⟩ := evIdx_ok (k := k) R (R.ev hp) h hb
      exact ⟨v, fun W' g => by simp only [execOp, ho, hk]; exact bind_val (h1 W' g), h2⟩
    · cases h
  · rename_i x ho
    split at h
    · rename_i p hp; exact evNil_ok R ho (R.ev hp) (tt_of h)
    · cases h
  · rename_i x k ho
    split at h
    · rename_i p hp
      obtain ⟨v, h1, h2⟩ := evExt_ok (P := P) (W := W) (R.ev hp) (tt_of h)
      exact ⟨v, fun W' g => by simp only [execOp, ho]; exact bind_val (h1 W' g), h2⟩
    · cases h
  · rename_i fn first caps ho
    split at h
    · rename_i f l hf hl
      simp only [Option.some.injEq, Prod.mk.injEq] at h; obtain ⟨_, rfl⟩ := h
      have hf' : first = #[] := by cases first; simp at hf; subst hf; rfl
      have := R.evs hl
      refine ⟨.func (.func f) #[] ⟨caps.toList.map a.eval⟩, fun W' _ => ?_, by simp only [Rep]; exact ⟨_, rfl, this⟩⟩
      have e : caps.map a.eval = ⟨caps.toList.map a.eval⟩ := by apply Array.ext'; simp
      have e0 : (#[] : Array Operand).map a.eval = #[] := by simp
      simp only [execOp, ho, hf', e, e0]; rfl
    · cases h
  · rename_i t ps ho
    obtain ⟨v, h1, h2⟩ := evBuild_ok R.hh R (tt_of h)
    refine ⟨v, fun W' g => ?_, h2⟩
    have e : ps.map (fun (i, x) => (i, a.eval x)) = ⟨ps.toList.map fun (i, x) => (i, a.eval x)⟩ := by apply Array.ext'; simp
    simp only [execOp, ho, e]; exact bind_val (h1 W')
  · rename_i op t x y ty ho
    split at h
    · rename_i p q hp hq
      unfold evBin2 at h
      split at h
      · rename_i r hr
        simp only [Option.some.injEq] at h; subst h
        exact arA_ok R ho (R.ev hp) (R.ev hq) hr hb
      · split at h
        · rename_i z' hz
          simp only [Option.some.injEq, Prod.mk.injEq] at h
          obtain ⟨_, rfl⟩ := h
          exact evBin_ok R ho (R.ev hp) (R.ev hq) hz
        · cases h
    · cases h
  · rename_i t x lo hi mx ho
    split at h
    · rename_i l h' m p hl hh' hm hp
      obtain ⟨k1, e1⟩ := numO_ev R hl
      obtain ⟨k2, e2⟩ := numO_ev R hh'
      obtain ⟨k3, e3⟩ := numO_ev R hm
      split at h
      · rename_i r hr
        simp only [Option.some.injEq] at h; subst h
        obtain ⟨v, h1, h2⟩ := evSlice_ok (k1 := k1) (k2 := k2) (k3 := k3) R (R.ev hp) hr hb
        exact ⟨v, fun W' g => by simp only [execOp, ho, e1, e2, e3]; exact bind_val (h1 W' g), h2⟩
      · exact pureA_ok R (tt_of h)
    · cases h
  · rename_i t x ho
    split at h
    · rename_i p hp
      obtain ⟨v, h1, h2⟩ := evToArr_ok R (R.ev hp) h hb
      exact ⟨v, fun W' g => by simp only [execOp, ho]; exact bind_val (h1 W' g), h2⟩
    · cases h
  · rename_i t1 t2 x ho
    split at h
    · rename_i p hp
      have ex : ∀ W, (execOp a.eval o).run P W = ((convert t1 t2 (a.eval x)).bind fun y => .pure (Next.value y)).run P W := fun W => by simp only [execOp, ho]; rfl
      cases p with
      | v z => exact pureA_ok R (tt_of h)
      | _ =>
        obtain ⟨v, h1, h2⟩ := evConv_ok R (R.ev hp) (fun z e => by cases e) (tt_of h)
        exact ⟨v, fun W' g => by rw [ex]; exact bind_val (h1 W' g), h2⟩
    · cases h
  · exact pureA_ok R (tt_of h)
  · exact pureA_ok R (tt_of h)
  · rename_i c ho
    split at h
    · rename_i x t hc ha ht
      split at h
      · rename_i p hp
        cases p with
        | v z =>
          simp only [evLen] at h
          split at h
          · rename_i y hy
            simp only [Option.some.injEq, Prod.mk.injEq] at h; obtain ⟨_, rfl⟩ := h
            exact pureA_ok R hy
          · cases h
        | _ =>
          obtain ⟨v, h1, h2⟩ := evLen_ok R (R.ev hp) (fun z e => by cases e) h
          refine ⟨v, fun W' g => ?_, h2⟩
          have e1 : c.args = #[x] := by apply Array.ext'; simpa using ha
          have e2 : c.argTypes = #[t] := by apply Array.ext'; simpa using ht
          simp only [execOp, ho]
          show (Sem.bind (resolve a.eval c o.type) _).run P W' = _
          unfold resolve
          rw [hc, e1, e2]
          simp only [List.map_toArray, List.map_cons, List.map_nil]
          exact bind_val (h1 W' g)
      · cases h
    · exact pureA_ok R (tt_of h)
    · exact pureA_ok R (tt_of h)
    · exact pureA_ok R (tt_of h)
    · cases h
  · cases h
/-- What it brings in any world, where it doesn't look at memory. -/
def YdO (P : Program) (W : World) (o : Oper) (a : Act) (x : Value) : Prop := ∀ W', (freeO o.op = true ∨ GExt (view W) (view W')) → (execOp a.eval o).run P W' = .ok (.value x) W'
theorem evQ_okO (R : RelA B C LO OW s a sus W) {b : Bool} {z : AV} (h : evQ P s o = some (b, z)) (hb : b = true) : ∃ v, YdO P W o a v ∧ Rep C z v := by
  cases hf : freeO o.op with
  | false =>
    obtain ⟨v, h1, h2⟩ := evQ_ok (P := P) R h hb
    exact ⟨v, fun W' hw => h1 W' (by rcases hw with hw | hw; rw [hf] at hw; cases hw; exact hw), h2⟩
  | true =>
    unfold evQ at h
    split at h
    · rename_i x ho
      exact ⟨_, fun W' _ => by simp only [execOp, ho]; rfl, R.ev (tt_of h)⟩
    · rename_i x ho
      exact ⟨_, fun W' _ => by simp only [execOp, ho]; rfl, R.ev (tt_of h)⟩
    all_goals first
      | (rename_i ho; simp [ho, freeO] at hf; done)
      | skip
    · rename_i x k ho
      split at h
      · rename_i y hy
        obtain ⟨u, h1, h2⟩ := evExt_all (P := P) (R.ev hy) (tt_of h)
        exact ⟨u, fun W' _ => by simp only [execOp, ho]; exact bind_val (h1 W'), h2⟩
      · cases h
    · rename_i t ps ho
      obtain ⟨v, h1, h2⟩ := evBuild_ok R.hh R (tt_of h)
      refine ⟨v, fun W' _ => ?_, h2⟩
      have e : ps.map (fun (i, x) => (i, a.eval x)) = ⟨ps.toList.map fun (i, x) => (i, a.eval x)⟩ := by apply Array.ext'; simp
      simp only [execOp, ho, e]; exact bind_val (h1 W')
    all_goals simp at h
end
end Go.Proofs.Ytoiacgfhjikddaa.W
