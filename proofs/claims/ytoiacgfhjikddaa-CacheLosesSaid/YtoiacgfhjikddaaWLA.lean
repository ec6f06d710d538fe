/- Layer 3: the laws that compare with the reference. -/
import Derived.Test.YtoiacgfhjikddaaWXE
import Derived.Test.YtoiacgfhjikddaaWY
set_option linter.unusedSimpArgs false
set_option linter.unusedVariables false
namespace Go.Proofs.Ytoiacgfhjikddaa
open Go.RowKit Vc W
abbrev kWr : K := .p kBlk .b
def cL3Writes : Ct := ⟨3, [kMed, kInt, kWr], fun x => ⟨[.b], RngL [kMed, kInt, kWr] x, .val true⟩⟩
theorem hL3Writes : Holds Try.prog cL3Writes := holds_by (inl := []) (cts := [cAlive, cR3Great, cR3Copy, cWrite, cR3Write, cShow, cR3Show, cR3Same, cRight, cR3Right, cR2Same, cAll, cR3All]) mix .nil (.cons hAlive (.cons hR3Great (.cons hR3Copy (.cons hWrite (.cons hR3Write (.cons hShow (.cons hR3Show (.cons hR3Same (.cons hRight (.cons hR3Right (.cons hR2Same (.cons hAll (.cons hR3All .nil))))))))))))) Try.func3 (by kernel_rfl) fun (x : MedE × Int × List Int × Bool) _ => by
  obtain ⟨m, k, b, th⟩ := x
  refine ⟨[], ?_⟩
  refine vc_of (B :=
    (True) ∧
    ((True) ∧
     (PIf (decide (70 < (↑(List.length m.fst) : Int)) || decide (70 < (↑(List.length m.snd) : Int)))
      ((true = true))
      ((List.length m.fst ≤ 1000000 ∧ List.length m.snd ≤ 1000000) ∧
       ((True) ∧
        ((True) ∧
         ((True) ∧
          ((True) ∧
           ((List.length (writeS m k b th).fst.fst ≤ 1000000 ∧ List.length (writeS m k b th).fst.snd ≤ 1000000) ∧
            (PIf (decide ((writeS m k b th).fst = (writeS m k b th).fst))
             (PIf ((writeS m k b th).snd == (writeS m k b th).snd)
              (PIf (decide ((showS m k).fst = (showS m k).fst))
               (PIf ((showS m k).snd == (showS m k).snd)
                ((True) ∧
                 ((True) ∧
                  (PIf (rightS m == rightS m)
                   ((True) ∧
                    ((True) ∧
                     (((allS m).length ≤ 1000000) ∧
                      (PIf (decide (allS m = allS m))
                       ((List.length m.fst ≤ 1000000 ∧ List.length m.snd ≤ 1000000) ∧
                        ((decide (m = m) = true)))
                       ((false = true))))))
                   ((false = true)))))
                ((false = true)))
               ((false = true)))
              ((false = true)))
             ((false = true)))))))))))) (by kernel_rfl) ?_
  have h1 := writeS_len m k b th
  have h2 := allS_len m
  try simp only [PIf_iff, decide_eq_true_eq, decide_eq_false_iff_not, Bool.and_eq_true, Bool.not_eq_true', Bool.not_eq_false', Bool.and_eq_false_iff, Nat.blt_eq, blt_f, beq_iff_eq, beq_eq_false_iff_ne]
  repeat' first | intro _ | apply And.intro
  all_goals first | omega | rfl | exact True.intro | grind [w64, wu64]
abbrev kTwo : K := .p kInt kInt
def cL3Flushes : Ct := ⟨4, [kMed, kTwo, kU64], fun x => ⟨[.b], RngL [kMed, kTwo, kU64] x, .val true⟩⟩
theorem hL3Flushes : Holds Try.prog cL3Flushes := holds_by (inl := []) (cts := [cAlive, cR3Great, cR3Copy, cFlush, cR3Flush, cLose, cR3Lose, cR3Same]) mix .nil (.cons hAlive (.cons hR3Great (.cons hR3Copy (.cons hFlush (.cons hR3Flush (.cons hLose (.cons hR3Lose (.cons hR3Same .nil)))))))) Try.func4 (by kernel_rfl) fun (x : MedE × (Int × Int) × Int) hx => by
  obtain ⟨m, ⟨k, n⟩, mask⟩ := x
  have hx : RngL [kMed, kTwo, kU64] (m, (k, n), mask) := hx
  simp only [RngL, Rng, mn_i64, mx_i64, mn_u64, mx_u64] at hx
  obtain ⟨_, ⟨hk, hn⟩, hmask⟩ := hx
  refine ⟨[], ?_⟩
  refine vc_of (B :=
    (True) ∧
    ((True) ∧
     (PIf (decide (70 < (↑(List.length m.fst) : Int)) || decide (70 < (↑(List.length m.snd) : Int)))
      ((true = true))
      ((List.length m.fst ≤ 1000000 ∧ List.length m.snd ≤ 1000000) ∧
       ((k < 9223372036854775808) ∧
        ((k < 9223372036854775808) ∧
         ((0 ≤ mask ∧ mask < 18446744073709551616) ∧
          ((0 ≤ mask ∧ mask < 18446744073709551616) ∧
           ((List.length (flushS m k n).fst.fst ≤ 1000000 ∧ List.length (flushS m k n).fst.snd ≤ 1000000) ∧
            (PIf (decide ((flushS m k n).fst = (flushS m k n).fst))
             (PIf ((flushS m k n).snd == (flushS m k n).snd)
              ((List.length (loseS m mask).fst.fst ≤ 1000000 ∧ List.length (loseS m mask).fst.snd ≤ 1000000) ∧
               (PIf (decide ((loseS m mask).fst = (loseS m mask).fst))
                (PIf ((loseS m mask).snd == (loseS m mask).snd)
                 ((List.length m.fst ≤ 1000000 ∧ List.length m.snd ≤ 1000000) ∧
                  ((decide (m = m) = true)))
                 ((false = true)))
                ((false = true))))
              ((false = true)))
             ((false = true)))))))))))) (by kernel_rfl) ?_
  have h1 := flushS_len m k n
  have h2 := loseS_len m mask
  try simp only [PIf_iff, decide_eq_true_eq, decide_eq_false_iff_not, Bool.and_eq_true, Bool.not_eq_true', Bool.not_eq_false', Bool.and_eq_false_iff, Nat.blt_eq, blt_f, beq_iff_eq, beq_eq_false_iff_ne]
  repeat' first | intro _ | apply And.intro
  all_goals first | omega | rfl | exact True.intro | grind [w64, wu64]
end Go.Proofs.Ytoiacgfhjikddaa
