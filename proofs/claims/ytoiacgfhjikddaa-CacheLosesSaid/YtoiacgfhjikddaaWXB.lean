/- Layer 3: contracts, second part. -/
import Derived.Test.YtoiacgfhjikddaaWXA
set_option linter.unusedSimpArgs false
set_option linter.unusedVariables false
namespace Go.Proofs.Ytoiacgfhjikddaa
open Go.RowKit Vc W
abbrev kU64 : K := .i .u64
def flushD (k n : Int) (_ : Int) (d : DirtyE) : Bool := decide (k ≤ d.1) && decide (d.1 - k < n)
def flushS (m : MedE) (k n : Int) : MedE × Int :=
  if rightS m = false then (([], []), 1) else if n < 0 ∨ k < 0 ∨ (m.1.length : Int) < k then (([], []), 5) else
  (doneS (flushD k (if n = 0 then m.1.length else n)) (fun _ _ => true) m, 0)
def cFlush : Ct := ⟨21, [kMed, kInt, kInt], fun (x : MedE × Int × Int) => ⟨[kMed, kInt], x.2.1 < 9223372036854775808, .val (flushS x.1 x.2.1 x.2.2)⟩⟩
theorem hFlush : Holds Try.prog cFlush := holds_by (inl := [(29, Try.f29), (38, Try.f38), (40, Try.f40), (41, Try.f41), (36, Try.f36), (35, Try.f35)]) (cts := [cRight, cCloneB]) mix (.cons Try.func29 (by kernel_rfl) (.cons Try.func38 (by kernel_rfl) (.cons Try.func40 (by kernel_rfl) (.cons Try.func41 (by kernel_rfl) (.cons Try.func36 (by kernel_rfl) (.cons Try.func35 (by kernel_rfl) .nil)))))) (.cons hRight (.cons hCloneB .nil)) Try.func21 (by kernel_rfl) fun (x : MedE × Int × Int) hx => by
  obtain ⟨m, k, n⟩ := x
  have hk : k < 9223372036854775808 := hx
  refine ⟨[aDone m [(0, 1), (0, 2), (0, 6), (0, 7), (0, 15), (0, 16), (1, 4), (2, 6)] (flushD k (if n = 0 then m.1.length else n)) (fun _ _ => true)], ?_⟩
  refine vc_of (B :=
    (True) ∧
    (PIf (!rightS m)
     (((([], []), 1) = flushS m k n))
     (PIf (decide (n < 0))
      (((([], []), 5) = flushS m k n))
      (PIf (decide (k < 0))
       (((([], []), 5) = flushS m k n))
       (PIf (!decide (IntKind.u64.wrap k ≤ IntKind.u64.wrap (IntKind.i64.wrap ((↑(List.length m.fst) : Int) - 0))))
        (((([], []), 5) = flushS m k n))
        (PIf (n == 0)
         ((List.length m.fst ≤ 1000000) ∧
          ((((0 : Int) = 0) ∧ (m.snd = m.snd) ∧ ((↑(List.length m.snd) : Int) = (↑(List.length m.snd) : Int)) ∧ (k = k) ∧ ((↑(List.length m.fst) : Int) = (↑(List.length m.fst) : Int)) ∧ (Value.slice none 0 0 = Value.slice none 0 0) ∧ (Value.slice none 0 0 = Value.slice none 0 0) ∧ (Value.slice none 0 0 = Value.slice none 0 0) ∧ (Value.slice none 0 0 = Value.slice none 0 0) ∧ (Value.slice none 0 0 = Value.slice none 0 0) ∧ (Value.slice none 0 0 = Value.slice none 0 0) ∧ (m.fst = m.fst) ∧ (tya (List (Int × List Int)) [] = [])) ∧
           (((0 : Int) ≤ 0 ∧ 0 ≤ (↑m.snd.length : Int) ∧ (m.fst, []) = doneN (flushD k (if n = 0 then (↑m.fst.length : Int) else n)) (fun x x_1 => true) m (Int.toNat 0)) ∧
            (∀ x0 : Int × List (List Int) × List (Int × List Int), (0 ≤ x0.fst ∧ x0.fst ≤ (↑m.snd.length : Int) ∧ x0.snd = doneN (flushD k (if n = 0 then (↑m.fst.length : Int) else n)) (fun x x_1 => true) m x0.fst.toNat) →
             PIf (decide (x0.fst < (↑(List.length m.snd) : Int)))
              (PIf (decide (0 ≤ x0.fst) && decide (x0.fst < (↑(List.length m.snd) : Int)))
               (PIf (decide ((List.getD m.snd (Int.toNat x0.fst) (0, List.replicate 64 0)).fst ≥ k) && decide (IntKind.i64.wrap ((List.getD m.snd (Int.toNat x0.fst) (0, List.replicate 64 0)).fst - k) < (↑(List.length m.fst) : Int)))
                (PIf (decide (0 ≤ (List.getD m.snd (Int.toNat x0.fst) (0, List.replicate 64 0)).fst) && decide ((List.getD m.snd (Int.toNat x0.fst) (0, List.replicate 64 0)).fst < (↑(List.length x0.snd.fst) : Int)))
                 (PIf ((Int.toNat (List.getD m.snd (Int.toNat x0.fst) (0, List.replicate 64 0)).fst).blt (List.length x0.snd.fst))
                  (((IntKind.i64.wrap (x0.fst + 1) = IntKind.i64.wrap (x0.fst + 1)) ∧ (m.snd = m.snd) ∧ ((↑(List.length m.snd) : Int) = (↑(List.length m.snd) : Int)) ∧ (k = k) ∧ ((↑(List.length m.fst) : Int) = (↑(List.length m.fst) : Int)) ∧ (Value.slice none 0 0 = Value.slice none 0 0) ∧ (Value.slice none 0 0 = Value.slice none 0 0) ∧ (Value.slice none 0 0 = Value.slice none 0 0) ∧ (Value.slice none 0 0 = Value.slice none 0 0) ∧ (Value.slice none 0 0 = Value.slice none 0 0) ∧ (Value.slice none 0 0 = Value.slice none 0 0) ∧ (List.set x0.snd.fst (Int.toNat (List.getD m.snd (Int.toNat x0.fst) (0, List.replicate 64 0)).fst) (List.getD m.snd (Int.toNat x0.fst) (0, List.replicate 64 0)).snd = List.set x0.snd.fst (Int.toNat (List.getD m.snd (Int.toNat x0.fst) (0, List.replicate 64 0)).fst) (List.getD m.snd (Int.toNat x0.fst) (0, List.replicate 64 0)).snd) ∧ (x0.snd.snd = x0.snd.snd)) ∧
                   (((0 ≤ IntKind.i64.wrap (x0.fst + 1) ∧ IntKind.i64.wrap (x0.fst + 1) ≤ (↑m.snd.length : Int) ∧ (List.set x0.snd.fst (Int.toNat (List.getD m.snd (Int.toNat x0.fst) (0, List.replicate 64 0)).fst) (List.getD m.snd (Int.toNat x0.fst) (0, List.replicate 64 0)).snd, x0.snd.snd) = doneN (flushD k (if n = 0 then (↑m.fst.length : Int) else n)) (fun x x_1 => true) m (IntKind.i64.wrap (x0.fst + 1)).toNat) ∧ ((↑m.snd.length : Int) - IntKind.i64.wrap (x0.fst + 1)).toNat < ((↑m.snd.length : Int) - x0.fst).toNat) ∧
                    (True)))
                  (False))
                 (False))
                (PIf (decide ((List.length x0.snd.snd + [List.getD m.snd (Int.toNat x0.fst) (0, List.replicate 64 0)].length) * (72 + 1) ≤ 140737488355328))
                 (((IntKind.i64.wrap (x0.fst + 1) = IntKind.i64.wrap (x0.fst + 1)) ∧ (m.snd = m.snd) ∧ ((↑(List.length m.snd) : Int) = (↑(List.length m.snd) : Int)) ∧ (k = k) ∧ ((↑(List.length m.fst) : Int) = (↑(List.length m.fst) : Int)) ∧ (Value.slice none 0 0 = Value.slice none 0 0) ∧ (Value.slice none 0 0 = Value.slice none 0 0) ∧ (Value.slice none 0 0 = Value.slice none 0 0) ∧ (Value.slice none 0 0 = Value.slice none 0 0) ∧ (Value.slice none 0 0 = Value.slice none 0 0) ∧ (Value.slice none 0 0 = Value.slice none 0 0) ∧ (x0.snd.fst = x0.snd.fst) ∧ (x0.snd.snd ++ [List.getD m.snd (Int.toNat x0.fst) (0, List.replicate 64 0)] = x0.snd.snd ++ [List.getD m.snd (Int.toNat x0.fst) (0, List.replicate 64 0)])) ∧
                  (((0 ≤ IntKind.i64.wrap (x0.fst + 1) ∧ IntKind.i64.wrap (x0.fst + 1) ≤ (↑m.snd.length : Int) ∧ (x0.snd.fst, x0.snd.snd ++ [List.getD m.snd (Int.toNat x0.fst) (0, List.replicate 64 0)]) = doneN (flushD k (if n = 0 then (↑m.fst.length : Int) else n)) (fun x x_1 => true) m (IntKind.i64.wrap (x0.fst + 1)).toNat) ∧ ((↑m.snd.length : Int) - IntKind.i64.wrap (x0.fst + 1)).toNat < ((↑m.snd.length : Int) - x0.fst).toNat) ∧
                   (True)))
                 (False)))
               (False))
              (((x0.snd, 0) = flushS m k n))))))
         ((List.length m.fst ≤ 1000000) ∧
          ((((0 : Int) = 0) ∧ (m.snd = m.snd) ∧ ((↑(List.length m.snd) : Int) = (↑(List.length m.snd) : Int)) ∧ (k = k) ∧ (n = n) ∧ (Value.slice none 0 0 = Value.slice none 0 0) ∧ (Value.slice none 0 0 = Value.slice none 0 0) ∧ (Value.slice none 0 0 = Value.slice none 0 0) ∧ (Value.slice none 0 0 = Value.slice none 0 0) ∧ (Value.slice none 0 0 = Value.slice none 0 0) ∧ (Value.slice none 0 0 = Value.slice none 0 0) ∧ (m.fst = m.fst) ∧ (tya (List (Int × List Int)) [] = [])) ∧
           (((0 : Int) ≤ 0 ∧ 0 ≤ (↑m.snd.length : Int) ∧ (m.fst, []) = doneN (flushD k (if n = 0 then (↑m.fst.length : Int) else n)) (fun x x_1 => true) m (Int.toNat 0)) ∧
            (∀ x1 : Int × List (List Int) × List (Int × List Int), (0 ≤ x1.fst ∧ x1.fst ≤ (↑m.snd.length : Int) ∧ x1.snd = doneN (flushD k (if n = 0 then (↑m.fst.length : Int) else n)) (fun x x_1 => true) m x1.fst.toNat) →
             PIf (decide (x1.fst < (↑(List.length m.snd) : Int)))
              (PIf (decide (0 ≤ x1.fst) && decide (x1.fst < (↑(List.length m.snd) : Int)))
               (PIf (decide ((List.getD m.snd (Int.toNat x1.fst) (0, List.replicate 64 0)).fst ≥ k) && decide (IntKind.i64.wrap ((List.getD m.snd (Int.toNat x1.fst) (0, List.replicate 64 0)).fst - k) < n))
                (PIf (decide (0 ≤ (List.getD m.snd (Int.toNat x1.fst) (0, List.replicate 64 0)).fst) && decide ((List.getD m.snd (Int.toNat x1.fst) (0, List.replicate 64 0)).fst < (↑(List.length x1.snd.fst) : Int)))
                 (PIf ((Int.toNat (List.getD m.snd (Int.toNat x1.fst) (0, List.replicate 64 0)).fst).blt (List.length x1.snd.fst))
                  (((IntKind.i64.wrap (x1.fst + 1) = IntKind.i64.wrap (x1.fst + 1)) ∧ (m.snd = m.snd) ∧ ((↑(List.length m.snd) : Int) = (↑(List.length m.snd) : Int)) ∧ (k = k) ∧ (n = n) ∧ (Value.slice none 0 0 = Value.slice none 0 0) ∧ (Value.slice none 0 0 = Value.slice none 0 0) ∧ (Value.slice none 0 0 = Value.slice none 0 0) ∧ (Value.slice none 0 0 = Value.slice none 0 0) ∧ (Value.slice none 0 0 = Value.slice none 0 0) ∧ (Value.slice none 0 0 = Value.slice none 0 0) ∧ (List.set x1.snd.fst (Int.toNat (List.getD m.snd (Int.toNat x1.fst) (0, List.replicate 64 0)).fst) (List.getD m.snd (Int.toNat x1.fst) (0, List.replicate 64 0)).snd = List.set x1.snd.fst (Int.toNat (List.getD m.snd (Int.toNat x1.fst) (0, List.replicate 64 0)).fst) (List.getD m.snd (Int.toNat x1.fst) (0, List.replicate 64 0)).snd) ∧ (x1.snd.snd = x1.snd.snd)) ∧
                   (((0 ≤ IntKind.i64.wrap (x1.fst + 1) ∧ IntKind.i64.wrap (x1.fst + 1) ≤ (↑m.snd.length : Int) ∧ (List.set x1.snd.fst (Int.toNat (List.getD m.snd (Int.toNat x1.fst) (0, List.replicate 64 0)).fst) (List.getD m.snd (Int.toNat x1.fst) (0, List.replicate 64 0)).snd, x1.snd.snd) = doneN (flushD k (if n = 0 then (↑m.fst.length : Int) else n)) (fun x x_1 => true) m (IntKind.i64.wrap (x1.fst + 1)).toNat) ∧ ((↑m.snd.length : Int) - IntKind.i64.wrap (x1.fst + 1)).toNat < ((↑m.snd.length : Int) - x1.fst).toNat) ∧
                    (True)))
                  (False))
                 (False))
                (PIf (decide ((List.length x1.snd.snd + [List.getD m.snd (Int.toNat x1.fst) (0, List.replicate 64 0)].length) * (72 + 1) ≤ 140737488355328))
                 (((IntKind.i64.wrap (x1.fst + 1) = IntKind.i64.wrap (x1.fst + 1)) ∧ (m.snd = m.snd) ∧ ((↑(List.length m.snd) : Int) = (↑(List.length m.snd) : Int)) ∧ (k = k) ∧ (n = n) ∧ (Value.slice none 0 0 = Value.slice none 0 0) ∧ (Value.slice none 0 0 = Value.slice none 0 0) ∧ (Value.slice none 0 0 = Value.slice none 0 0) ∧ (Value.slice none 0 0 = Value.slice none 0 0) ∧ (Value.slice none 0 0 = Value.slice none 0 0) ∧ (Value.slice none 0 0 = Value.slice none 0 0) ∧ (x1.snd.fst = x1.snd.fst) ∧ (x1.snd.snd ++ [List.getD m.snd (Int.toNat x1.fst) (0, List.replicate 64 0)] = x1.snd.snd ++ [List.getD m.snd (Int.toNat x1.fst) (0, List.replicate 64 0)])) ∧
                  (((0 ≤ IntKind.i64.wrap (x1.fst + 1) ∧ IntKind.i64.wrap (x1.fst + 1) ≤ (↑m.snd.length : Int) ∧ (x1.snd.fst, x1.snd.snd ++ [List.getD m.snd (Int.toNat x1.fst) (0, List.replicate 64 0)]) = doneN (flushD k (if n = 0 then (↑m.fst.length : Int) else n)) (fun x x_1 => true) m (IntKind.i64.wrap (x1.fst + 1)).toNat) ∧ ((↑m.snd.length : Int) - IntKind.i64.wrap (x1.fst + 1)).toNat < ((↑m.snd.length : Int) - x1.fst).toNat) ∧
                   (True)))
                 (False)))
               (False))
              (((x1.snd, 0) = flushS m k n)))))))))))) (by kernel_rfl) ?_
  have hl := doneN_len (flushD k (if n = 0 then m.1.length else n)) (fun _ _ => true) m
  have hR := @right_of m
  try simp only [PIf_iff, decide_eq_true_eq, decide_eq_false_iff_not, Bool.and_eq_true, Bool.not_eq_true', Bool.not_eq_false', Bool.and_eq_false_iff, Nat.blt_eq, blt_f, beq_iff_eq, beq_eq_false_iff_ne]
  repeat' first | intro _ | apply And.intro
  all_goals first | omega | rfl | exact True.intro | grind [w64, wu64, doneN_at, wrap1, flushD, flushS, doneN, doneS]
def loseD (mask : Int) (i : Int) (_ : DirtyE) : Bool := decide (IntKind.u64.wrap ((BitVec.ofInt 64 (mask.fdiv (2 ^ min i.toNat 64)) &&& BitVec.ofInt 64 1).toNat : Int) = 1)
theorem loseD_eq {mask i : Int} {d : DirtyE} (hm : 0 ≤ mask ∧ mask < 18446744073709551616) (hx : i < 64) : loseD mask i d = decide (mask / 2 ^ i.toNat % 2 = 1) := by
  obtain ⟨h1, h2, h3⟩ := shr_u64 (x := mask) (n := min i.toNat 64) hm.1 hm.2
  rw [loseD, and1_u64 h1 h2, h3, Nat.min_eq_left (by omega)]
def loseS (m : MedE) (mask : Int) : MedE × Int :=
  if rightS m = false then (([], []), 1) else (doneS (loseD mask) (fun _ _ => false) m, 0)
def cLose : Ct := ⟨23, [kMed, kU64], fun (x : MedE × Int) => ⟨[kMed, kInt], 0 ≤ x.2 ∧ x.2 < 18446744073709551616, .val (loseS x.1 x.2)⟩⟩
theorem hLose : Holds Try.prog cLose := holds_by (inl := [(38, Try.f38), (37, Try.f37), (39, Try.f39)]) (cts := [cRight, cCloneB]) mix (.cons Try.func38 (by kernel_rfl) (.cons Try.func37 (by kernel_rfl) (.cons Try.func39 (by kernel_rfl) .nil))) (.cons hRight (.cons hCloneB .nil)) Try.func23 (by kernel_rfl) fun (x : MedE × Int) hx => by
  obtain ⟨m, mask⟩ := x
  have hm : 0 ≤ mask ∧ mask < 18446744073709551616 := hx
  refine ⟨[aDone m [(0, 1), (0, 2), (0, 6), (0, 7), (0, 15), (0, 16), (1, 4)] (loseD mask) (fun _ _ => false)], ?_⟩
  refine vc_of (B :=
    (True) ∧
    (PIf (!rightS m)
     (((([], []), 1) = loseS m mask))
     ((List.length m.fst ≤ 1000000) ∧
      ((((0 : Int) = 0) ∧ (m.snd = m.snd) ∧ ((↑(List.length m.snd) : Int) = (↑(List.length m.snd) : Int)) ∧ (mask = mask) ∧ (Value.slice none 0 0 = Value.slice none 0 0) ∧ (Value.slice none 0 0 = Value.slice none 0 0) ∧ (Value.slice none 0 0 = Value.slice none 0 0) ∧ (Value.slice none 0 0 = Value.slice none 0 0) ∧ (m.fst = m.fst) ∧ (tya (List (Int × List Int)) [] = [])) ∧
       (((0 : Int) ≤ 0 ∧ 0 ≤ (↑m.snd.length : Int) ∧ (m.fst, []) = doneN (loseD mask) (fun x x_1 => false) m (Int.toNat 0)) ∧
        (∀ x0 : Int × List (List Int) × List (Int × List Int), (0 ≤ x0.fst ∧ x0.fst ≤ (↑m.snd.length : Int) ∧ x0.snd = doneN (loseD mask) (fun x x_1 => false) m x0.fst.toNat) →
         PIf (decide (x0.fst < (↑(List.length m.snd) : Int)))
          (PIf (decide (0 ≤ x0.fst) && decide (x0.fst < (↑(List.length m.snd) : Int)))
           (PIf (decide (0 ≤ x0.fst))
            (PIf (IntKind.u64.wrap (↑(BitVec.ofInt 64 (mask.fdiv (2 ^ min (Int.toNat x0.fst) 64)) &&& BitVec.ofInt 64 1).toNat : Int) == 1)
             (PIf (decide (0 ≤ (List.getD m.snd (Int.toNat x0.fst) (0, List.replicate 64 0)).fst) && decide ((List.getD m.snd (Int.toNat x0.fst) (0, List.replicate 64 0)).fst < (↑(List.length x0.snd.fst) : Int)))
              (PIf ((Int.toNat (List.getD m.snd (Int.toNat x0.fst) (0, List.replicate 64 0)).fst).blt (List.length x0.snd.fst))
               (((IntKind.i64.wrap (x0.fst + 1) = IntKind.i64.wrap (x0.fst + 1)) ∧ (m.snd = m.snd) ∧ ((↑(List.length m.snd) : Int) = (↑(List.length m.snd) : Int)) ∧ (mask = mask) ∧ (Value.slice none 0 0 = Value.slice none 0 0) ∧ (Value.slice none 0 0 = Value.slice none 0 0) ∧ (Value.slice none 0 0 = Value.slice none 0 0) ∧ (Value.slice none 0 0 = Value.slice none 0 0) ∧ (List.set x0.snd.fst (Int.toNat (List.getD m.snd (Int.toNat x0.fst) (0, List.replicate 64 0)).fst) (List.getD m.snd (Int.toNat x0.fst) (0, List.replicate 64 0)).snd = List.set x0.snd.fst (Int.toNat (List.getD m.snd (Int.toNat x0.fst) (0, List.replicate 64 0)).fst) (List.getD m.snd (Int.toNat x0.fst) (0, List.replicate 64 0)).snd) ∧ (x0.snd.snd = x0.snd.snd)) ∧
                (((0 ≤ IntKind.i64.wrap (x0.fst + 1) ∧ IntKind.i64.wrap (x0.fst + 1) ≤ (↑m.snd.length : Int) ∧ (List.set x0.snd.fst (Int.toNat (List.getD m.snd (Int.toNat x0.fst) (0, List.replicate 64 0)).fst) (List.getD m.snd (Int.toNat x0.fst) (0, List.replicate 64 0)).snd, x0.snd.snd) = doneN (loseD mask) (fun x x_1 => false) m (IntKind.i64.wrap (x0.fst + 1)).toNat) ∧ ((↑m.snd.length : Int) - IntKind.i64.wrap (x0.fst + 1)).toNat < ((↑m.snd.length : Int) - x0.fst).toNat) ∧
                 (True)))
               (False))
              (False))
             (((IntKind.i64.wrap (x0.fst + 1) = IntKind.i64.wrap (x0.fst + 1)) ∧ (m.snd = m.snd) ∧ ((↑(List.length m.snd) : Int) = (↑(List.length m.snd) : Int)) ∧ (mask = mask) ∧ (Value.slice none 0 0 = Value.slice none 0 0) ∧ (Value.slice none 0 0 = Value.slice none 0 0) ∧ (Value.slice none 0 0 = Value.slice none 0 0) ∧ (Value.slice none 0 0 = Value.slice none 0 0) ∧ (x0.snd.fst = x0.snd.fst) ∧ (x0.snd.snd = x0.snd.snd)) ∧
              (((0 ≤ IntKind.i64.wrap (x0.fst + 1) ∧ IntKind.i64.wrap (x0.fst + 1) ≤ (↑m.snd.length : Int) ∧ x0.snd = doneN (loseD mask) (fun x x_1 => false) m (IntKind.i64.wrap (x0.fst + 1)).toNat) ∧ ((↑m.snd.length : Int) - IntKind.i64.wrap (x0.fst + 1)).toNat < ((↑m.snd.length : Int) - x0.fst).toNat) ∧
               (True))))
            (False))
           (False))
          (((x0.snd, 0) = loseS m mask)))))))) (by kernel_rfl) ?_
  have hl := doneN_len (loseD mask) (fun _ _ => false) m
  have hR := @right_of m
  try simp only [PIf_iff, decide_eq_true_eq, decide_eq_false_iff_not, Bool.and_eq_true, Bool.not_eq_true', Bool.not_eq_false', Bool.and_eq_false_iff, Nat.blt_eq, blt_f, beq_iff_eq, beq_eq_false_iff_ne]
  repeat' first | intro _ | apply And.intro
  all_goals first | omega | rfl | exact True.intro | grind [w64, wu64, doneN_at, wrap1, loseD, loseS, doneN, doneS] | skip
  all_goals
    rename_i x h1 h2 h3 h4 h5
    have := (hR (by assumption)).2.1
    rw [w64 (by omega) (by omega), doneN_at (z := (0, List.replicate 64 0)) (by omega) (by omega), if_neg (by simpa [loseD] using h5), if_neg (by simp)]
    exact h1.2.2
def allS (m : MedE) : List (List Int) := if rightS m = true then (doneS (fun _ _ => true) (fun _ _ => true) m).1 else []
def cAll : Ct := ⟨19, [kMed], fun (m : MedE) => ⟨[.sl kBlk], True, .val (allS m)⟩⟩
theorem hAll : Holds Try.prog cAll := holds_by (inl := [(29, Try.f29), (38, Try.f38), (40, Try.f40), (41, Try.f41), (34, Try.f34)]) (cts := [cRight, cCloneB]) mix (.cons Try.func29 (by kernel_rfl) (.cons Try.func38 (by kernel_rfl) (.cons Try.func40 (by kernel_rfl) (.cons Try.func41 (by kernel_rfl) (.cons Try.func34 (by kernel_rfl) .nil))))) (.cons hRight (.cons hCloneB .nil)) Try.func19 (by kernel_rfl) fun (m : MedE) _ => by
  refine ⟨[aDone m [(0, 1), (0, 2), (0, 6), (0, 7), (0, 15), (0, 16), (1, 4)] (fun _ _ => true) (fun _ _ => true)], ?_⟩
  refine vc_of (B :=
    (True) ∧
    (PIf (!rightS m)
     (([] = allS m))
     ((List.length m.fst ≤ 1000000) ∧
      ((((0 : Int) = 0) ∧ (m.snd = m.snd) ∧ ((↑(List.length m.snd) : Int) = (↑(List.length m.snd) : Int)) ∧ (Value.slice none 0 0 = Value.slice none 0 0) ∧ (Value.slice none 0 0 = Value.slice none 0 0) ∧ (Value.slice none 0 0 = Value.slice none 0 0) ∧ (Value.slice none 0 0 = Value.slice none 0 0) ∧ (m.fst = m.fst) ∧ (tya (List (Int × List Int)) [] = [])) ∧
       (((0 : Int) ≤ 0 ∧ 0 ≤ (↑m.snd.length : Int) ∧ (m.fst, []) = doneN (fun x x_1 => true) (fun x x_1 => true) m (Int.toNat 0)) ∧
        (∀ x0 : Int × List (List Int) × List (Int × List Int), (0 ≤ x0.fst ∧ x0.fst ≤ (↑m.snd.length : Int) ∧ x0.snd = doneN (fun x x_1 => true) (fun x x_1 => true) m x0.fst.toNat) →
         PIf (decide (x0.fst < (↑(List.length m.snd) : Int)))
          (PIf (decide (0 ≤ x0.fst) && decide (x0.fst < (↑(List.length m.snd) : Int)))
           (PIf (decide (0 ≤ (List.getD m.snd (Int.toNat x0.fst) (0, List.replicate 64 0)).fst) && decide ((List.getD m.snd (Int.toNat x0.fst) (0, List.replicate 64 0)).fst < (↑(List.length x0.snd.fst) : Int)))
            (PIf ((Int.toNat (List.getD m.snd (Int.toNat x0.fst) (0, List.replicate 64 0)).fst).blt (List.length x0.snd.fst))
             (((IntKind.i64.wrap (x0.fst + 1) = IntKind.i64.wrap (x0.fst + 1)) ∧ (m.snd = m.snd) ∧ ((↑(List.length m.snd) : Int) = (↑(List.length m.snd) : Int)) ∧ (Value.slice none 0 0 = Value.slice none 0 0) ∧ (Value.slice none 0 0 = Value.slice none 0 0) ∧ (Value.slice none 0 0 = Value.slice none 0 0) ∧ (Value.slice none 0 0 = Value.slice none 0 0) ∧ (List.set x0.snd.fst (Int.toNat (List.getD m.snd (Int.toNat x0.fst) (0, List.replicate 64 0)).fst) (List.getD m.snd (Int.toNat x0.fst) (0, List.replicate 64 0)).snd = List.set x0.snd.fst (Int.toNat (List.getD m.snd (Int.toNat x0.fst) (0, List.replicate 64 0)).fst) (List.getD m.snd (Int.toNat x0.fst) (0, List.replicate 64 0)).snd) ∧ (x0.snd.snd = x0.snd.snd)) ∧
              (((0 ≤ IntKind.i64.wrap (x0.fst + 1) ∧ IntKind.i64.wrap (x0.fst + 1) ≤ (↑m.snd.length : Int) ∧ (List.set x0.snd.fst (Int.toNat (List.getD m.snd (Int.toNat x0.fst) (0, List.replicate 64 0)).fst) (List.getD m.snd (Int.toNat x0.fst) (0, List.replicate 64 0)).snd, x0.snd.snd) = doneN (fun x x_1 => true) (fun x x_1 => true) m (IntKind.i64.wrap (x0.fst + 1)).toNat) ∧ ((↑m.snd.length : Int) - IntKind.i64.wrap (x0.fst + 1)).toNat < ((↑m.snd.length : Int) - x0.fst).toNat) ∧
               (True)))
             (False))
            (False))
           (False))
          ((x0.snd.fst = allS m)))))))) (by kernel_rfl) ?_
  have hl := doneN_len (fun _ _ => true) (fun _ _ => true) m
  have hR := @right_of m
  try simp only [PIf_iff, decide_eq_true_eq, decide_eq_false_iff_not, Bool.and_eq_true, Bool.not_eq_true', Bool.not_eq_false', Bool.and_eq_false_iff, Nat.blt_eq, blt_f, beq_iff_eq, beq_eq_false_iff_ne]
  repeat' first | intro _ | apply And.intro
  all_goals first | omega | rfl | exact True.intro | grind [w64, wu64, doneN_at, wrap1, allS, doneN, doneS]
end Go.Proofs.Ytoiacgfhjikddaa
