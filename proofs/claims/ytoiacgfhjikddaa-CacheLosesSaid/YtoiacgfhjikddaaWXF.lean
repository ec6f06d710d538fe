/- A block of one byte. -/
import Derived.Test.YtoiacgfhjikddaaWXD
set_option linter.unusedSimpArgs false
set_option linter.unusedVariables false
namespace Go.Proofs.Ytoiacgfhjikddaa
open Go.RowKit Vc W
def cFilled : Ct := ⟨25, [.i .u8], fun (z : Int) => ⟨[kBlk], True, .val (List.replicate 64 z)⟩⟩
theorem hFilled : Holds Try.prog cFilled := holds_by (inl := []) (cts := []) mix .nil .nil Try.func25 (by kernel_rfl) fun (z : Int) _ => by
  refine ⟨[⟨25, 3, [(.t 0 4, kInt), (.x 0 3, kBlk)], [(0, 0), (0, 2), (0, 3)], fun _ (x : Int × List Int) => 0 ≤ x.1 ∧ x.1 ≤ 64 ∧ x.2.length = 64 ∧ ∀ i : Nat, (i : Int) < x.1 → x.2[i]? = some z, fun _ (x : Int × List Int) => (64 - x.1).toNat⟩], ?_⟩
  refine vc_of (B :=
    (((0 : Int) = 0) ∧ (z = z) ∧ (tya (List Int) (List.replicate 64 0) = List.replicate 64 0) ∧ (tya (List Int) (List.replicate 64 0) = List.replicate 64 0)) ∧
    (((0 : Int) ≤ 0 ∧ (0 : Int) ≤ 64 ∧ (64 : Nat) = 64 ∧ ∀ (i : Nat), (↑i : Int) < 0 → (List.replicate 64 0)[i]? = some z) ∧
     (∀ x0 : Int × List Int, (0 ≤ x0.fst ∧ x0.fst ≤ 64 ∧ x0.snd.length = 64 ∧ ∀ (i : Nat), (↑i : Int) < x0.fst → x0.snd[i]? = some z) →
      PIf (decide (x0.fst < 64))
       (PIf (decide (0 ≤ x0.fst) && decide (x0.fst < 64))
        (PIf (decide (x0.fst < 64))
         (((IntKind.i64.wrap (x0.fst + 1) = IntKind.i64.wrap (x0.fst + 1)) ∧ (z = z) ∧ (tya (List Int) (List.replicate 64 0) = List.replicate 64 0) ∧ (List.set x0.snd (Int.toNat x0.fst) z = List.set x0.snd (Int.toNat x0.fst) z)) ∧
          (((0 ≤ IntKind.i64.wrap (x0.fst + 1) ∧ IntKind.i64.wrap (x0.fst + 1) ≤ 64 ∧ (List.set x0.snd (Int.toNat x0.fst) z).length = 64 ∧ ∀ (i : Nat), (↑i : Int) < IntKind.i64.wrap (x0.fst + 1) → (List.set x0.snd (Int.toNat x0.fst) z)[i]? = some z) ∧ (64 - IntKind.i64.wrap (x0.fst + 1)).toNat < (64 - x0.fst).toNat) ∧
           (True)))
         (False))
        (False))
       ((x0.snd = List.replicate 64 z))))) (by kernel_rfl) ?_
  have hx : ∀ l : List Int, l.length = 64 → (∀ i : Nat, (i : Int) < 64 → l[i]? = some z) → l = List.replicate 64 z := fun l h1 h2 => by
    apply List.ext_getElem?
    intro i
    by_cases hi : i < 64
    · rw [h2 i (by omega), List.getElem?_replicate, if_pos hi]
    · rw [List.getElem?_eq_none (by omega), List.getElem?_eq_none (by simp; omega)]
  try simp only [PIf_iff, decide_eq_true_eq, decide_eq_false_iff_not, Bool.and_eq_true, Bool.not_eq_true', Bool.not_eq_false', Bool.and_eq_false_iff, Nat.blt_eq, blt_f, beq_iff_eq, beq_eq_false_iff_ne]
  repeat' first | intro _ | apply And.intro
  all_goals first | omega | rfl | exact True.intro | grind [w64, wu64]
end Go.Proofs.Ytoiacgfhjikddaa
