/- How contracts are claimed. -/
import Derived.Test.YtoiacgfhjikddaaWU
set_option linter.unusedSimpArgs false
set_option linter.unusedVariables false
namespace Go.Proofs.Ytoiacgfhjikddaa.W
open Go.RowKit Vc

def Inl (P : Program) (l : List (Nat × Func)) : Prop := ∀ x ∈ l, P.funcs[x.1]? = some x.2 ∧ okCallee P x.1 = true
def Cts (P : Program) (l : List Ct) : Prop := ∀ x ∈ l, Holds P x
theorem Inl.nil {P : Program} : Inl P [] := fun _ h => by cases h
theorem okc {P : Program} {f : Nat} {fn : Func} (h : P.funcs[f]? = some fn) (hn : (!(fn.name == "runtime.NumGoroutine") && fn.body.isSome) = true) : okCallee P f = true := by
  unfold okCallee; rw [h]; exact hn
theorem Inl.cons {P : Program} {f : Nat} {fn : Func} {l : List (Nat × Func)} (h : P.funcs[f]? = some fn) (hn : (!(fn.name == "runtime.NumGoroutine") && fn.body.isSome) = true) (t : Inl P l) : Inl P ((f, fn) :: l) := fun x hx => by
  rcases List.mem_cons.1 hx with rfl | hx
  · exact ⟨h, okc h hn⟩
  · exact t x hx
theorem Cts.nil {P : Program} : Cts P [] := fun _ h => by cases h
theorem Cts.cons {P : Program} {c : Ct} {l : List Ct} (h : Holds P c) (t : Cts P l) : Cts P (c :: l) := fun x hx => by
  rcases List.mem_cons.1 hx with rfl | hx
  · exact h
  · exact t x hx
/-- What is to be proved of a tree. -/
structure OKT {R : Type} (Q : R → Prop) (t : T R) : Prop where
  ok : t.ok Q
/-- A contract, by the body, with what the body calls, and with joins. -/
theorem holds_byJ {P : Program} {ct : Ct} {fn : Func} {inl : List (Nat × Func)} {cts : List Ct} (hm : P.follows .mixedOrders = true) (hi : Inl P inl) (hc : Cts P cts) (hf : P.funcs[ct.f]? = some fn) (hn : (!(fn.name == "runtime.NumGoroutine") && fn.body.isSome) = true)
    (h : ∀ x : Els ct.ks, (ct.sp x).pre → ∃ an jn, OKT (ct.sp x).out.post (ai ⟨P, inl, cts, an, jn⟩ ct.f fn ct.ks (ct.sp x).rk x)) : Holds P ct :=
  Holds.of (fun _ _ => ⟨rfl, hm, hi, hc⟩) hf (okc hf hn) fun x hp => let ⟨an, jn, h⟩ := h x hp; ⟨an, jn, h.ok⟩
/-- A contract, by the body, with what the body calls. -/
theorem holds_by {P : Program} {ct : Ct} {fn : Func} {inl : List (Nat × Func)} {cts : List Ct} (hm : P.follows .mixedOrders = true) (hi : Inl P inl) (hc : Cts P cts) (hf : P.funcs[ct.f]? = some fn) (hn : (!(fn.name == "runtime.NumGoroutine") && fn.body.isSome) = true)
    (h : ∀ x : Els ct.ks, (ct.sp x).pre → ∃ an, OKT (ct.sp x).out.post (ai ⟨P, inl, cts, an, []⟩ ct.f fn ct.ks (ct.sp x).rk x)) : Holds P ct :=
  holds_byJ hm hi hc hf hn fun x hp => let ⟨an, h⟩ := h x hp; ⟨an, [], h⟩
theorem vc_of {R : Type} {Q : R → Prop} {t : T R} {B : Prop} (e : t.ok Q = B) (h : B) : OKT Q t := ⟨by rw [e]; exact h⟩
theorem blt_f {a b : Nat} : (Nat.blt a b = false) ↔ b ≤ a := by
  cases h : Nat.blt a b with
  | true => have := blt_iff.1 h; simp; omega
  | false => simp; rcases Nat.lt_or_ge a b with h1 | h1; exact absurd (blt_iff.2 h1) (by simp [h]); exact h1
theorem w64 {x : Int} (h0 : -9223372036854775808 ≤ x) (h1 : x < 9223372036854775808) : IntKind.i64.wrap x = x := by simp only [IntKind.wrap, IntKind.bits, IntKind.signed]; simp; omega
theorem wu64 {x : Int} (h0 : 0 ≤ x) (h1 : x < 18446744073709551616) : IntKind.u64.wrap x = x := by simp only [IntKind.wrap, IntKind.bits, IntKind.signed]; simp; omega
theorem wu32 {x : Int} (h0 : 0 ≤ x) (h1 : x < 4294967296) : IntKind.u32.wrap x = x := by simp only [IntKind.wrap, IntKind.bits, IntKind.signed]; simp; omega
theorem wu16 {x : Int} (h0 : 0 ≤ x) (h1 : x < 65536) : IntKind.u16.wrap x = x := by simp only [IntKind.wrap, IntKind.bits, IntKind.signed]; simp; omega
theorem wu8 {x : Int} (h0 : 0 ≤ x) (h1 : x < 256) : IntKind.u8.wrap x = x := by simp only [IntKind.wrap, IntKind.bits, IntKind.signed]; simp; omega
theorem and_u64 {x y : Int} (h0 : 0 ≤ x) (h1 : x < 18446744073709551616) (h2 : 0 ≤ y) (h3 : y < 18446744073709551616) : IntKind.u64.wrap ((BitVec.ofInt 64 x &&& BitVec.ofInt 64 y).toNat : Int) = (x.toNat &&& y.toNat : Nat) := by
  have e1 : (BitVec.ofInt 64 x).toNat = x.toNat := by rw [BitVec.toNat_ofInt]; omega
  have e2 : (BitVec.ofInt 64 y).toNat = y.toNat := by rw [BitVec.toNat_ofInt]; omega
  rw [BitVec.toNat_and, e1, e2]
  refine wu64 (by omega) ?_
  have := Nat.and_le_left (n := x.toNat) (m := y.toNat)
  omega
theorem and1_u64 {x : Int} (h0 : 0 ≤ x) (h1 : x < 18446744073709551616) : IntKind.u64.wrap ((BitVec.ofInt 64 x &&& BitVec.ofInt 64 1).toNat : Int) = x % 2 := by
  rw [and_u64 h0 h1 (by omega) (by omega)]
  show ((x.toNat &&& 1 : Nat) : Int) = _
  rw [Nat.and_one_is_mod]; omega
theorem shr_u64 {x : Int} {n : Nat} (h0 : 0 ≤ x) (h1 : x < 18446744073709551616) : 0 ≤ x.fdiv (2 ^ n) ∧ x.fdiv (2 ^ n) < 18446744073709551616 ∧ x.fdiv (2 ^ n) = x / 2 ^ n := by
  have hp : (0 : Int) < 2 ^ n := Int.pow_pos (by omega)
  rw [Int.fdiv_eq_ediv_of_nonneg _ (by omega)]
  refine ⟨Int.ediv_nonneg h0 (by omega), ?_, rfl⟩
  exact Int.lt_of_le_of_lt (Int.ediv_le_self _ h0) h1
theorem PIf_iff {b : Bool} {A B : Prop} : PIf b A B ↔ (b = true → A) ∧ (b = false → B) := by cases b <;> simp [PIf]
end Go.Proofs.Ytoiacgfhjikddaa.W
