/- Layer 5: the fixed fact. -/
import Derived.Test.YtnmghlkocljedaaWSG
import Derived.Test.YtnmghlkocljedaaWXF
set_option linter.unusedSimpArgs false
set_option linter.unusedVariables false
namespace Go.Proofs.Ytnmghlkocljedaa
open Go.RowKit Vc W
def cR2Of : Ct := ⟨34, [.sb (.i .u8), kInt], fun (x : List Int × Int) => ⟨[kBlk], 0 ≤ x.2 ∧ x.2 + 64 ≤ x.1.length ∧ x.1.length ≤ 1000000, .val ((x.1.drop x.2.toNat).take 64)⟩⟩
set_option maxHeartbeats 2000000 in
theorem hR2Of : Holds Try.prog cR2Of := holds_by (inl := []) (cts := []) mix .nil .nil Try.func34 (by kernel_rfl) fun (x : List Int × Int) hx => by
  obtain ⟨l, k⟩ := x
  obtain ⟨h0, h1, h2⟩ : 0 ≤ k ∧ k + 64 ≤ l.length ∧ l.length ≤ 1000000 := hx
  refine ⟨[⟨34, 3, [(.t 0 6, kInt), (.x 0 5, kBlk)], [(0, 0), (0, 1), (0, 4), (0, 5)], fun _ (x : Int × List Int) => 0 ≤ x.1 ∧ x.1 ≤ 64 ∧ x.2.length = 64 ∧ ∀ i : Nat, (i : Int) < x.1 → x.2[i]? = l[k.toNat + i]?, fun _ (x : Int × List Int) => (64 - x.1).toNat⟩], ?_⟩
  refine vc_of (B :=
    (((0 : Int) = 0) ∧ (l = l) ∧ (k = k) ∧ (tya (List Int) (List.replicate 64 0) = List.replicate 64 0) ∧ (tya (List Int) (List.replicate 64 0) = List.replicate 64 0)) ∧
    (((0 : Int) ≤ 0 ∧ (0 : Int) ≤ 64 ∧ (64 : Nat) = 64 ∧ ∀ (i : Nat), (↑i : Int) < 0 → (List.replicate 64 0)[i]? = l[k.toNat + i]?) ∧
     (∀ x0 : Int × List Int, (0 ≤ x0.fst ∧ x0.fst ≤ 64 ∧ x0.snd.length = 64 ∧ ∀ (i : Nat), (↑i : Int) < x0.fst → x0.snd[i]? = l[k.toNat + i]?) →
      PIf (decide (x0.fst < 64))
       (PIf (decide (0 ≤ IntKind.i64.wrap (k + x0.fst)) && decide (IntKind.i64.wrap (k + x0.fst) < (↑l.length : Int)))
        (PIf (decide (0 ≤ x0.fst) && decide (x0.fst < 64))
         (PIf (decide (x0.fst < 64))
          (((IntKind.i64.wrap (x0.fst + 1) = IntKind.i64.wrap (x0.fst + 1)) ∧ (l = l) ∧ (k = k) ∧ (tya (List Int) (List.replicate 64 0) = List.replicate 64 0) ∧ (List.set x0.snd (Int.toNat x0.fst) (l.getD (IntKind.i64.wrap (k + x0.fst)).toNat 0) = List.set x0.snd (Int.toNat x0.fst) (l.getD (IntKind.i64.wrap (k + x0.fst)).toNat 0))) ∧
           (((0 ≤ IntKind.i64.wrap (x0.fst + 1) ∧ IntKind.i64.wrap (x0.fst + 1) ≤ 64 ∧ (List.set x0.snd (Int.toNat x0.fst) (l.getD (IntKind.i64.wrap (k + x0.fst)).toNat 0)).length = 64 ∧ ∀ (i : Nat), (↑i : Int) < IntKind.i64.wrap (x0.fst + 1) → (List.set x0.snd (Int.toNat x0.fst) (l.getD (IntKind.i64.wrap (k + x0.fst)).toNat 0))[i]? = l[k.toNat + i]?) ∧ (64 - IntKind.i64.wrap (x0.fst + 1)).toNat < (64 - x0.fst).toNat) ∧
            (True)))
          (False))
         (False))
        (False))
       ((x0.snd = List.take 64 (List.drop k.toNat l)))))) (by kernel_rfl) ?_
  have hx : ∀ r : List Int, r.length = 64 → (∀ i : Nat, (i : Int) < 64 → r[i]? = l[k.toNat + i]?) → r = (l.drop k.toNat).take 64 := fun r h1 h2 => by
    apply List.ext_getElem?
    intro i
    by_cases hi : i < 64
    · rw [h2 i (by omega), List.getElem?_take, if_pos hi, List.getElem?_drop]
    · rw [List.getElem?_eq_none (by omega), List.getElem?_take, if_neg hi]
  have hg : ∀ x : Int, 0 ≤ x → x < 64 → l[k.toNat + x.toNat]? = some (l.getD (k + x).toNat 0) := fun x h3 h4 => by
    have e : (k + x).toNat = k.toNat + x.toNat := by omega
    rw [e, List.getD_eq_getElem?_getD, List.getElem?_eq_getElem (by omega)]; rfl
  have hw : ∀ x : Int, 0 ≤ x → x < 64 → IntKind.i64.wrap (k + x) = k + x ∧ IntKind.i64.wrap (x + 1) = x + 1 := fun x h3 h4 => ⟨w64 (by omega) (by omega), w64 (by omega) (by omega)⟩
  have hs : ∀ (r : List Int) (x : Int), 0 ≤ x → x < 64 → r.length = 64 → (∀ i : Nat, (i : Int) < x → r[i]? = l[k.toNat + i]?) → ∀ i : Nat, (i : Int) < IntKind.i64.wrap (x + 1) → (r.set x.toNat (l.getD (IntKind.i64.wrap (k + x)).toNat 0))[i]? = l[k.toNat + i]? := fun r x h3 h4 hl hr i hi => by
    rw [(hw x h3 h4).2] at hi
    rw [(hw x h3 h4).1]
    by_cases e : i = x.toNat
    · subst e; rw [List.getElem?_set_self (by omega), hg x h3 h4]
    · rw [List.getElem?_set_ne (by omega)]; exact hr i (by omega)
  clear hg hw
  try simp only [PIf_iff, decide_eq_true_eq, decide_eq_false_iff_not, Bool.and_eq_true, Bool.not_eq_true', Bool.not_eq_false', Bool.and_eq_false_iff, Nat.blt_eq, blt_f, beq_iff_eq, beq_eq_false_iff_ne]
  repeat' first | intro _ | apply And.intro
  all_goals first | omega | rfl | exact True.intro | grind [w64, wu64]
end Go.Proofs.Ytnmghlkocljedaa
