/- Layer 3: the reference's contracts, second part. -/
import Derived.Test.YtoiacgfhjikddaaWXC
set_option linter.unusedSimpArgs false
set_option linter.unusedVariables false
namespace Go.Proofs.Ytoiacgfhjikddaa
open Go.RowKit Vc W
def flushedD (k n : Int) (_ : Int) (d : DirtyE) : Bool := decide (k ≤ d.1) && decide (d.1 < n)
def cR3Flushed : Ct := ⟨30, [kMed, kInt, kInt], fun (x : MedE × Int × Int) => ⟨[kMedN], rightS x.1 = true, .val (doneS (flushedD x.2.1 x.2.2) (fun _ _ => true) x.1)⟩⟩
theorem hR3Flushed : Holds Try.prog cR3Flushed := holds_by (inl := []) (cts := [cR2Copy]) mix .nil (.cons hR2Copy .nil) Try.func30 (by kernel_rfl) fun (x : MedE × Int × Int) hx => by
  obtain ⟨m, k, n⟩ := x
  have hx : rightS m = true := hx
  refine ⟨[⟨30, 3, [(.t 0 8, kInt), (.x 0 7, kMedN)], [(0, 1), (0, 2), (0, 3), (0, 6), (0, 7)], fun _ (x : Int × MedE) => 0 ≤ x.1 ∧ x.1 ≤ m.2.length ∧ x.2 = doneN (flushedD k n) (fun _ _ => true) m x.1.toNat, fun _ (x : Int × MedE) => (m.2.length - x.1).toNat⟩], ?_⟩
  refine vc_of (B :=
    (List.length m.fst ≤ 1000000) ∧
    ((((0 : Int) = 0) ∧ (k = k) ∧ (n = n) ∧ (m.fst = m.fst) ∧ (m.snd = m.snd) ∧ (Value.slice none 0 0 = Value.slice none 0 0) ∧ (Value.slice none 0 0 = Value.slice none 0 0) ∧ (m.fst = m.fst) ∧ (tya (List (Int × List Int)) [] = [])) ∧
     (((0 : Int) ≤ 0 ∧ 0 ≤ (↑m.snd.length : Int) ∧ (m.fst, []) = doneN (flushedD k n) (fun x x_1 => true) m (Int.toNat 0)) ∧
      (∀ x0 : Int × List (List Int) × List (Int × List Int), (0 ≤ x0.fst ∧ x0.fst ≤ (↑m.snd.length : Int) ∧ x0.snd = doneN (flushedD k n) (fun x x_1 => true) m x0.fst.toNat) →
       PIf (decide (x0.fst < (↑(List.length m.snd) : Int)))
        (PIf (decide (0 ≤ x0.fst) && decide (x0.fst < (↑(List.length m.snd) : Int)))
         (PIf (decide ((List.getD m.snd (Int.toNat x0.fst) (0, List.replicate 64 0)).fst ≥ k) && decide ((List.getD m.snd (Int.toNat x0.fst) (0, List.replicate 64 0)).fst < n))
          (PIf (decide (0 ≤ (List.getD m.snd (Int.toNat x0.fst) (0, List.replicate 64 0)).fst) && decide ((List.getD m.snd (Int.toNat x0.fst) (0, List.replicate 64 0)).fst < (↑(List.length x0.snd.fst) : Int)))
           (PIf ((Int.toNat (List.getD m.snd (Int.toNat x0.fst) (0, List.replicate 64 0)).fst).blt (List.length x0.snd.fst))
            (((IntKind.i64.wrap (x0.fst + 1) = IntKind.i64.wrap (x0.fst + 1)) ∧ (k = k) ∧ (n = n) ∧ (m.fst = m.fst) ∧ (m.snd = m.snd) ∧ (Value.slice none 0 0 = Value.slice none 0 0) ∧ (Value.slice none 0 0 = Value.slice none 0 0) ∧ (List.set x0.snd.fst (Int.toNat (List.getD m.snd (Int.toNat x0.fst) (0, List.replicate 64 0)).fst) (List.getD m.snd (Int.toNat x0.fst) (0, List.replicate 64 0)).snd = List.set x0.snd.fst (Int.toNat (List.getD m.snd (Int.toNat x0.fst) (0, List.replicate 64 0)).fst) (List.getD m.snd (Int.toNat x0.fst) (0, List.replicate 64 0)).snd) ∧ (x0.snd.snd = x0.snd.snd)) ∧
             (((0 ≤ IntKind.i64.wrap (x0.fst + 1) ∧ IntKind.i64.wrap (x0.fst + 1) ≤ (↑m.snd.length : Int) ∧ (List.set x0.snd.fst (Int.toNat (List.getD m.snd (Int.toNat x0.fst) (0, List.replicate 64 0)).fst) (List.getD m.snd (Int.toNat x0.fst) (0, List.replicate 64 0)).snd, x0.snd.snd) = doneN (flushedD k n) (fun x x_1 => true) m (IntKind.i64.wrap (x0.fst + 1)).toNat) ∧ ((↑m.snd.length : Int) - IntKind.i64.wrap (x0.fst + 1)).toNat < ((↑m.snd.length : Int) - x0.fst).toNat) ∧
              (True)))
            (False))
           (False))
          (PIf (decide ((List.length x0.snd.snd + [List.getD m.snd (Int.toNat x0.fst) (0, List.replicate 64 0)].length) * (72 + 1) ≤ 140737488355328))
           (((IntKind.i64.wrap (x0.fst + 1) = IntKind.i64.wrap (x0.fst + 1)) ∧ (k = k) ∧ (n = n) ∧ (m.fst = m.fst) ∧ (m.snd = m.snd) ∧ (Value.slice none 0 0 = Value.slice none 0 0) ∧ (Value.slice none 0 0 = Value.slice none 0 0) ∧ (x0.snd.fst = x0.snd.fst) ∧ (x0.snd.snd ++ [List.getD m.snd (Int.toNat x0.fst) (0, List.replicate 64 0)] = x0.snd.snd ++ [List.getD m.snd (Int.toNat x0.fst) (0, List.replicate 64 0)])) ∧
            (((0 ≤ IntKind.i64.wrap (x0.fst + 1) ∧ IntKind.i64.wrap (x0.fst + 1) ≤ (↑m.snd.length : Int) ∧ (x0.snd.fst, x0.snd.snd ++ [List.getD m.snd (Int.toNat x0.fst) (0, List.replicate 64 0)]) = doneN (flushedD k n) (fun x x_1 => true) m (IntKind.i64.wrap (x0.fst + 1)).toNat) ∧ ((↑m.snd.length : Int) - IntKind.i64.wrap (x0.fst + 1)).toNat < ((↑m.snd.length : Int) - x0.fst).toNat) ∧
             (True)))
           (False)))
         (False))
        ((x0.snd = doneS (flushedD k n) (fun x x_1 => true) m)))))) (by kernel_rfl) ?_
  have hl := doneN_len (flushedD k n) (fun _ _ => true) m
  have hR := @right_of m hx
  try simp only [PIf_iff, decide_eq_true_eq, decide_eq_false_iff_not, Bool.and_eq_true, Bool.not_eq_true', Bool.not_eq_false', Bool.and_eq_false_iff, Nat.blt_eq, blt_f, beq_iff_eq, beq_eq_false_iff_ne]
  repeat' first | intro _ | apply And.intro
  all_goals first | omega | rfl | exact True.intro | grind [w64, wu64, doneN_at, flushedD, doneN, doneS]
def cR3Great : Ct := ⟨9, [kMed], fun (m : MedE) => ⟨[.b], True, .val (decide (70 < (m.1.length : Int)) || decide (70 < (m.2.length : Int)))⟩⟩
theorem hR3Great : Holds Try.prog cR3Great := holds_by (inl := []) (cts := []) mix .nil .nil Try.func9 (by kernel_rfl) fun (m : MedE) _ => by
  refine ⟨[], ?_⟩
  refine vc_of (B :=
    ((decide ((↑(List.length m.fst) : Int) > 70) || decide ((↑(List.length m.snd) : Int) > 70)) = (decide (70 < (↑m.fst.length : Int)) || decide (70 < (↑m.snd.length : Int))))) (by kernel_rfl) ?_
  try simp only [PIf_iff, decide_eq_true_eq, decide_eq_false_iff_not, Bool.and_eq_true, Bool.not_eq_true', Bool.not_eq_false', Bool.and_eq_false_iff, Nat.blt_eq, blt_f, beq_iff_eq, beq_eq_false_iff_ne]
  repeat' first | intro _ | apply And.intro
  all_goals first | omega | rfl | exact True.intro | grind [w64, wu64]
def cR3Copy : Ct := ⟨10, [kMed], fun (m : MedE) => ⟨[kMed], m.1.length ≤ 1000000 ∧ m.2.length ≤ 1000000, .val m⟩⟩
theorem hR3Copy : Holds Try.prog cR3Copy := holds_by (inl := []) (cts := [cR2Copy]) mix .nil (.cons hR2Copy .nil) Try.func10 (by kernel_rfl) fun (m : MedE) hx => by
  have hx : m.1.length ≤ 1000000 ∧ m.2.length ≤ 1000000 := hx
  refine ⟨[], ?_⟩
  refine vc_of (B :=
    ((List.length m.fst ≤ 1000000) ∧
     (PIf (decide ((0 + List.length m.snd) * (73 : Nat) ≤ 140737488355328))
      ((m = m))
      (False))) ∧
    ((List.length m.fst ≤ 1000000) ∧
     (PIf (decide ((0 + List.length m.snd) * (73 : Nat) ≤ 140737488355328))
      ((m = m))
      (False)))) (by kernel_rfl) ?_
  try simp only [PIf_iff, decide_eq_true_eq, decide_eq_false_iff_not, Bool.and_eq_true, Bool.not_eq_true', Bool.not_eq_false', Bool.and_eq_false_iff, Nat.blt_eq, blt_f, beq_iff_eq, beq_eq_false_iff_ne]
  repeat' first | intro _ | apply And.intro
  all_goals first | omega | rfl | exact True.intro | grind [w64, wu64]
def cR3Write : Ct := ⟨12, [kMed, kInt, kBlk, .b], fun (x : MedE × Int × List Int × Bool) => ⟨[kMed, kInt], True, .val (writeS x.1 x.2.1 x.2.2.1 x.2.2.2)⟩⟩
set_option maxHeartbeats 2000000 in
theorem hR3Write : Holds Try.prog cR3Write := holds_by (inl := []) (cts := [cR3Right, cR3Flushed, cR2Copy]) mix .nil (.cons hR3Right (.cons hR3Flushed (.cons hR2Copy .nil))) Try.func12 (by kernel_rfl) fun (x : MedE × Int × List Int × Bool) _ => by
  obtain ⟨m, k, b, th⟩ := x
  refine ⟨[], ?_⟩
  refine vc_of (B :=
    (True) ∧
    (PIf (!rightS m)
     (((([], []), 1) = writeS m k b th))
     (PIf (decide (k < 0) || decide (k ≥ (↑(List.length m.fst) : Int)))
      (((([], []), 5) = writeS m k b th))
      (PIf th
       ((rightS m = true) ∧
        (PIf (decide (0 ≤ k) && decide (k < (↑(List.length (doneS (flushedD k (IntKind.i64.wrap (k + 1))) (fun x x_1 => true) m).fst) : Int)))
         (PIf (k.toNat.blt (List.length (doneS (flushedD k (IntKind.i64.wrap (k + 1))) (fun x x_1 => true) m).fst))
          ((((List.set (doneS (flushedD k (IntKind.i64.wrap (k + 1))) (fun x x_1 => true) m).fst k.toNat b, (doneS (flushedD k (IntKind.i64.wrap (k + 1))) (fun x x_1 => true) m).snd), 0) = writeS m k b th))
          (False))
         (False)))
       (PIf ((↑(List.length m.snd) : Int) == 64)
        ((rightS m = true) ∧
         (((List.length (doneS (flushedD 0 (↑(List.length m.fst) : Int)) (fun x x_1 => true) m).fst ≤ 1000000) ∧
           (((PIf (decide ((0 + List.length (doneS (flushedD 0 (↑(List.length m.fst) : Int)) (fun x x_1 => true) m).snd) * (73 : Nat) ≤ 140737488355328))
              (PIf (decide ((List.length (doneS (flushedD 0 (↑(List.length m.fst) : Int)) (fun x x_1 => true) m).snd + [(k, b)].length) * (73 : Nat) ≤ 140737488355328))
               (((((doneS (flushedD 0 (↑(List.length m.fst) : Int)) (fun x x_1 => true) m).fst, (doneS (flushedD 0 (↑(List.length m.fst) : Int)) (fun x x_1 => true) m).snd ++ [(k, b)]), 0) = writeS m k b th))
               (False))
              (False)) ∧
             ((PIf (decide ((0 + List.length (doneS (flushedD 0 (↑(List.length m.fst) : Int)) (fun x x_1 => true) m).snd) * (73 : Nat) ≤ 140737488355328))
               (PIf (decide ((List.length (doneS (flushedD 0 (↑(List.length m.fst) : Int)) (fun x x_1 => true) m).snd + [(k, b)].length) * (73 : Nat) ≤ 140737488355328))
                (((((doneS (flushedD 0 (↑(List.length m.fst) : Int)) (fun x x_1 => true) m).fst, (doneS (flushedD 0 (↑(List.length m.fst) : Int)) (fun x x_1 => true) m).snd ++ [(k, b)]), 0) = writeS m k b th))
                (False))
               (False)) ∧
              (PIf (decide ((0 + List.length (doneS (flushedD 0 (↑(List.length m.fst) : Int)) (fun x x_1 => true) m).snd) * (73 : Nat) ≤ 140737488355328))
               (PIf (decide ((List.length (doneS (flushedD 0 (↑(List.length m.fst) : Int)) (fun x x_1 => true) m).snd + [(k, b)].length) * (73 : Nat) ≤ 140737488355328))
                (((((doneS (flushedD 0 (↑(List.length m.fst) : Int)) (fun x x_1 => true) m).fst, (doneS (flushedD 0 (↑(List.length m.fst) : Int)) (fun x x_1 => true) m).snd ++ [(k, b)]), 0) = writeS m k b th))
                (False))
               (False)))) ∧
            (((PIf (decide ((0 + List.length (doneS (flushedD 0 (↑(List.length m.fst) : Int)) (fun x x_1 => true) m).snd) * (73 : Nat) ≤ 140737488355328))
               (PIf (decide ((List.length (doneS (flushedD 0 (↑(List.length m.fst) : Int)) (fun x x_1 => true) m).snd + [(k, b)].length) * (73 : Nat) ≤ 140737488355328))
                (((((doneS (flushedD 0 (↑(List.length m.fst) : Int)) (fun x x_1 => true) m).fst, (doneS (flushedD 0 (↑(List.length m.fst) : Int)) (fun x x_1 => true) m).snd ++ [(k, b)]), 0) = writeS m k b th))
                (False))
               (False)) ∧
              (PIf (decide ((0 + List.length (doneS (flushedD 0 (↑(List.length m.fst) : Int)) (fun x x_1 => true) m).snd) * (73 : Nat) ≤ 140737488355328))
               (PIf (decide ((List.length (doneS (flushedD 0 (↑(List.length m.fst) : Int)) (fun x x_1 => true) m).snd + [(k, b)].length) * (73 : Nat) ≤ 140737488355328))
                (((((doneS (flushedD 0 (↑(List.length m.fst) : Int)) (fun x x_1 => true) m).fst, (doneS (flushedD 0 (↑(List.length m.fst) : Int)) (fun x x_1 => true) m).snd ++ [(k, b)]), 0) = writeS m k b th))
                (False))
               (False))) ∧
             (PIf (decide ((0 + List.length (doneS (flushedD 0 (↑(List.length m.fst) : Int)) (fun x x_1 => true) m).snd) * (73 : Nat) ≤ 140737488355328))
              (PIf (decide ((List.length (doneS (flushedD 0 (↑(List.length m.fst) : Int)) (fun x x_1 => true) m).snd + [(k, b)].length) * (73 : Nat) ≤ 140737488355328))
               (((((doneS (flushedD 0 (↑(List.length m.fst) : Int)) (fun x x_1 => true) m).fst, (doneS (flushedD 0 (↑(List.length m.fst) : Int)) (fun x x_1 => true) m).snd ++ [(k, b)]), 0) = writeS m k b th))
               (False))
              (False))))) ∧
          ((((List.length (doneS (flushedD 0 (↑(List.length m.fst) : Int)) (fun x x_1 => true) m).fst ≤ 1000000) ∧
             ((PIf (decide ((0 + List.length (doneS (flushedD 0 (↑(List.length m.fst) : Int)) (fun x x_1 => true) m).snd) * (73 : Nat) ≤ 140737488355328))
               (PIf (decide ((List.length (doneS (flushedD 0 (↑(List.length m.fst) : Int)) (fun x x_1 => true) m).snd + [(k, b)].length) * (73 : Nat) ≤ 140737488355328))
                (((((doneS (flushedD 0 (↑(List.length m.fst) : Int)) (fun x x_1 => true) m).fst, (doneS (flushedD 0 (↑(List.length m.fst) : Int)) (fun x x_1 => true) m).snd ++ [(k, b)]), 0) = writeS m k b th))
                (False))
               (False)) ∧
              ((PIf (decide ((0 + List.length (doneS (flushedD 0 (↑(List.length m.fst) : Int)) (fun x x_1 => true) m).snd) * (73 : Nat) ≤ 140737488355328))
                (PIf (decide ((List.length (doneS (flushedD 0 (↑(List.length m.fst) : Int)) (fun x x_1 => true) m).snd + [(k, b)].length) * (73 : Nat) ≤ 140737488355328))
                 (((((doneS (flushedD 0 (↑(List.length m.fst) : Int)) (fun x x_1 => true) m).fst, (doneS (flushedD 0 (↑(List.length m.fst) : Int)) (fun x x_1 => true) m).snd ++ [(k, b)]), 0) = writeS m k b th))
                 (False))
                (False)) ∧
               (PIf (decide ((0 + List.length (doneS (flushedD 0 (↑(List.length m.fst) : Int)) (fun x x_1 => true) m).snd) * (73 : Nat) ≤ 140737488355328))
                (PIf (decide ((List.length (doneS (flushedD 0 (↑(List.length m.fst) : Int)) (fun x x_1 => true) m).snd + [(k, b)].length) * (73 : Nat) ≤ 140737488355328))
                 (((((doneS (flushedD 0 (↑(List.length m.fst) : Int)) (fun x x_1 => true) m).fst, (doneS (flushedD 0 (↑(List.length m.fst) : Int)) (fun x x_1 => true) m).snd ++ [(k, b)]), 0) = writeS m k b th))
                 (False))
                (False))))) ∧
            (((List.length (doneS (flushedD 0 (↑(List.length m.fst) : Int)) (fun x x_1 => true) m).fst ≤ 1000000) ∧
              ((PIf (decide ((0 + List.length (doneS (flushedD 0 (↑(List.length m.fst) : Int)) (fun x x_1 => true) m).snd) * (73 : Nat) ≤ 140737488355328))
                (PIf (decide ((List.length (doneS (flushedD 0 (↑(List.length m.fst) : Int)) (fun x x_1 => true) m).snd + [(k, b)].length) * (73 : Nat) ≤ 140737488355328))
                 (((((doneS (flushedD 0 (↑(List.length m.fst) : Int)) (fun x x_1 => true) m).fst, (doneS (flushedD 0 (↑(List.length m.fst) : Int)) (fun x x_1 => true) m).snd ++ [(k, b)]), 0) = writeS m k b th))
                 (False))
                (False)) ∧
               (PIf (decide ((0 + List.length (doneS (flushedD 0 (↑(List.length m.fst) : Int)) (fun x x_1 => true) m).snd) * (73 : Nat) ≤ 140737488355328))
                (PIf (decide ((List.length (doneS (flushedD 0 (↑(List.length m.fst) : Int)) (fun x x_1 => true) m).snd + [(k, b)].length) * (73 : Nat) ≤ 140737488355328))
                 (((((doneS (flushedD 0 (↑(List.length m.fst) : Int)) (fun x x_1 => true) m).fst, (doneS (flushedD 0 (↑(List.length m.fst) : Int)) (fun x x_1 => true) m).snd ++ [(k, b)]), 0) = writeS m k b th))
                 (False))
                (False)))) ∧
             ((List.length (doneS (flushedD 0 (↑(List.length m.fst) : Int)) (fun x x_1 => true) m).fst ≤ 1000000) ∧
              (PIf (decide ((0 + List.length (doneS (flushedD 0 (↑(List.length m.fst) : Int)) (fun x x_1 => true) m).snd) * (73 : Nat) ≤ 140737488355328))
               (PIf (decide ((List.length (doneS (flushedD 0 (↑(List.length m.fst) : Int)) (fun x x_1 => true) m).snd + [(k, b)].length) * (73 : Nat) ≤ 140737488355328))
                (((((doneS (flushedD 0 (↑(List.length m.fst) : Int)) (fun x x_1 => true) m).fst, (doneS (flushedD 0 (↑(List.length m.fst) : Int)) (fun x x_1 => true) m).snd ++ [(k, b)]), 0) = writeS m k b th))
                (False))
               (False))))) ∧
           (((List.length (doneS (flushedD 0 (↑(List.length m.fst) : Int)) (fun x x_1 => true) m).fst ≤ 1000000) ∧
             (((PIf (decide ((0 + List.length (doneS (flushedD 0 (↑(List.length m.fst) : Int)) (fun x x_1 => true) m).snd) * (73 : Nat) ≤ 140737488355328))
                (PIf (decide ((List.length (doneS (flushedD 0 (↑(List.length m.fst) : Int)) (fun x x_1 => true) m).snd + [(k, b)].length) * (73 : Nat) ≤ 140737488355328))
                 (((((doneS (flushedD 0 (↑(List.length m.fst) : Int)) (fun x x_1 => true) m).fst, (doneS (flushedD 0 (↑(List.length m.fst) : Int)) (fun x x_1 => true) m).snd ++ [(k, b)]), 0) = writeS m k b th))
                 (False))
                (False)) ∧
               (PIf (decide ((0 + List.length (doneS (flushedD 0 (↑(List.length m.fst) : Int)) (fun x x_1 => true) m).snd) * (73 : Nat) ≤ 140737488355328))
                (PIf (decide ((List.length (doneS (flushedD 0 (↑(List.length m.fst) : Int)) (fun x x_1 => true) m).snd + [(k, b)].length) * (73 : Nat) ≤ 140737488355328))
                 (((((doneS (flushedD 0 (↑(List.length m.fst) : Int)) (fun x x_1 => true) m).fst, (doneS (flushedD 0 (↑(List.length m.fst) : Int)) (fun x x_1 => true) m).snd ++ [(k, b)]), 0) = writeS m k b th))
                 (False))
                (False))) ∧
              (PIf (decide ((0 + List.length (doneS (flushedD 0 (↑(List.length m.fst) : Int)) (fun x x_1 => true) m).snd) * (73 : Nat) ≤ 140737488355328))
               (PIf (decide ((List.length (doneS (flushedD 0 (↑(List.length m.fst) : Int)) (fun x x_1 => true) m).snd + [(k, b)].length) * (73 : Nat) ≤ 140737488355328))
                (((((doneS (flushedD 0 (↑(List.length m.fst) : Int)) (fun x x_1 => true) m).fst, (doneS (flushedD 0 (↑(List.length m.fst) : Int)) (fun x x_1 => true) m).snd ++ [(k, b)]), 0) = writeS m k b th))
                (False))
               (False)))) ∧
            ((((List.length (doneS (flushedD 0 (↑(List.length m.fst) : Int)) (fun x x_1 => true) m).fst ≤ 1000000) ∧
               ((PIf (decide ((0 + List.length (doneS (flushedD 0 (↑(List.length m.fst) : Int)) (fun x x_1 => true) m).snd) * (73 : Nat) ≤ 140737488355328))
                 (PIf (decide ((List.length (doneS (flushedD 0 (↑(List.length m.fst) : Int)) (fun x x_1 => true) m).snd + [(k, b)].length) * (73 : Nat) ≤ 140737488355328))
                  (((((doneS (flushedD 0 (↑(List.length m.fst) : Int)) (fun x x_1 => true) m).fst, (doneS (flushedD 0 (↑(List.length m.fst) : Int)) (fun x x_1 => true) m).snd ++ [(k, b)]), 0) = writeS m k b th))
                  (False))
                 (False)) ∧
                (PIf (decide ((0 + List.length (doneS (flushedD 0 (↑(List.length m.fst) : Int)) (fun x x_1 => true) m).snd) * (73 : Nat) ≤ 140737488355328))
                 (PIf (decide ((List.length (doneS (flushedD 0 (↑(List.length m.fst) : Int)) (fun x x_1 => true) m).snd + [(k, b)].length) * (73 : Nat) ≤ 140737488355328))
                  (((((doneS (flushedD 0 (↑(List.length m.fst) : Int)) (fun x x_1 => true) m).fst, (doneS (flushedD 0 (↑(List.length m.fst) : Int)) (fun x x_1 => true) m).snd ++ [(k, b)]), 0) = writeS m k b th))
                  (False))
                 (False)))) ∧
              ((List.length (doneS (flushedD 0 (↑(List.length m.fst) : Int)) (fun x x_1 => true) m).fst ≤ 1000000) ∧
               (PIf (decide ((0 + List.length (doneS (flushedD 0 (↑(List.length m.fst) : Int)) (fun x x_1 => true) m).snd) * (73 : Nat) ≤ 140737488355328))
                (PIf (decide ((List.length (doneS (flushedD 0 (↑(List.length m.fst) : Int)) (fun x x_1 => true) m).snd + [(k, b)].length) * (73 : Nat) ≤ 140737488355328))
                 (((((doneS (flushedD 0 (↑(List.length m.fst) : Int)) (fun x x_1 => true) m).fst, (doneS (flushedD 0 (↑(List.length m.fst) : Int)) (fun x x_1 => true) m).snd ++ [(k, b)]), 0) = writeS m k b th))
                 (False))
                (False)))) ∧
             (((List.length (doneS (flushedD 0 (↑(List.length m.fst) : Int)) (fun x x_1 => true) m).fst ≤ 1000000) ∧
               (PIf (decide ((0 + List.length (doneS (flushedD 0 (↑(List.length m.fst) : Int)) (fun x x_1 => true) m).snd) * (73 : Nat) ≤ 140737488355328))
                (PIf (decide ((List.length (doneS (flushedD 0 (↑(List.length m.fst) : Int)) (fun x x_1 => true) m).snd + [(k, b)].length) * (73 : Nat) ≤ 140737488355328))
                 (((((doneS (flushedD 0 (↑(List.length m.fst) : Int)) (fun x x_1 => true) m).fst, (doneS (flushedD 0 (↑(List.length m.fst) : Int)) (fun x x_1 => true) m).snd ++ [(k, b)]), 0) = writeS m k b th))
                 (False))
                (False))) ∧
              ((List.length (doneS (flushedD 0 (↑(List.length m.fst) : Int)) (fun x x_1 => true) m).fst ≤ 1000000) ∧
               (PIf (decide ((0 + List.length (doneS (flushedD 0 (↑(List.length m.fst) : Int)) (fun x x_1 => true) m).snd) * (73 : Nat) ≤ 140737488355328))
                (PIf (decide ((List.length (doneS (flushedD 0 (↑(List.length m.fst) : Int)) (fun x x_1 => true) m).snd + [(k, b)].length) * (73 : Nat) ≤ 140737488355328))
                 (((((doneS (flushedD 0 (↑(List.length m.fst) : Int)) (fun x x_1 => true) m).fst, (doneS (flushedD 0 (↑(List.length m.fst) : Int)) (fun x x_1 => true) m).snd ++ [(k, b)]), 0) = writeS m k b th))
                 (False))
                (False)))))))))
        (((List.length m.fst ≤ 1000000) ∧
          (((PIf (decide ((0 + List.length m.snd) * (73 : Nat) ≤ 140737488355328))
             (PIf (decide ((List.length m.snd + [(k, b)].length) * (73 : Nat) ≤ 140737488355328))
              ((((m.fst, m.snd ++ [(k, b)]), 0) = writeS m k b th))
              (False))
             (False)) ∧
            ((PIf (decide ((0 + List.length m.snd) * (73 : Nat) ≤ 140737488355328))
              (PIf (decide ((List.length m.snd + [(k, b)].length) * (73 : Nat) ≤ 140737488355328))
               ((((m.fst, m.snd ++ [(k, b)]), 0) = writeS m k b th))
               (False))
              (False)) ∧
             (PIf (decide ((0 + List.length m.snd) * (73 : Nat) ≤ 140737488355328))
              (PIf (decide ((List.length m.snd + [(k, b)].length) * (73 : Nat) ≤ 140737488355328))
               ((((m.fst, m.snd ++ [(k, b)]), 0) = writeS m k b th))
               (False))
              (False)))) ∧
           (((PIf (decide ((0 + List.length m.snd) * (73 : Nat) ≤ 140737488355328))
              (PIf (decide ((List.length m.snd + [(k, b)].length) * (73 : Nat) ≤ 140737488355328))
               ((((m.fst, m.snd ++ [(k, b)]), 0) = writeS m k b th))
               (False))
              (False)) ∧
             (PIf (decide ((0 + List.length m.snd) * (73 : Nat) ≤ 140737488355328))
              (PIf (decide ((List.length m.snd + [(k, b)].length) * (73 : Nat) ≤ 140737488355328))
               ((((m.fst, m.snd ++ [(k, b)]), 0) = writeS m k b th))
               (False))
              (False))) ∧
            (PIf (decide ((0 + List.length m.snd) * (73 : Nat) ≤ 140737488355328))
             (PIf (decide ((List.length m.snd + [(k, b)].length) * (73 : Nat) ≤ 140737488355328))
              ((((m.fst, m.snd ++ [(k, b)]), 0) = writeS m k b th))
              (False))
             (False))))) ∧
         ((((List.length m.fst ≤ 1000000) ∧
            ((PIf (decide ((0 + List.length m.snd) * (73 : Nat) ≤ 140737488355328))
              (PIf (decide ((List.length m.snd + [(k, b)].length) * (73 : Nat) ≤ 140737488355328))
               ((((m.fst, m.snd ++ [(k, b)]), 0) = writeS m k b th))
               (False))
              (False)) ∧
             ((PIf (decide ((0 + List.length m.snd) * (73 : Nat) ≤ 140737488355328))
               (PIf (decide ((List.length m.snd + [(k, b)].length) * (73 : Nat) ≤ 140737488355328))
                ((((m.fst, m.snd ++ [(k, b)]), 0) = writeS m k b th))
                (False))
               (False)) ∧
              (PIf (decide ((0 + List.length m.snd) * (73 : Nat) ≤ 140737488355328))
               (PIf (decide ((List.length m.snd + [(k, b)].length) * (73 : Nat) ≤ 140737488355328))
                ((((m.fst, m.snd ++ [(k, b)]), 0) = writeS m k b th))
                (False))
               (False))))) ∧
           (((List.length m.fst ≤ 1000000) ∧
             ((PIf (decide ((0 + List.length m.snd) * (73 : Nat) ≤ 140737488355328))
               (PIf (decide ((List.length m.snd + [(k, b)].length) * (73 : Nat) ≤ 140737488355328))
                ((((m.fst, m.snd ++ [(k, b)]), 0) = writeS m k b th))
                (False))
               (False)) ∧
              (PIf (decide ((0 + List.length m.snd) * (73 : Nat) ≤ 140737488355328))
               (PIf (decide ((List.length m.snd + [(k, b)].length) * (73 : Nat) ≤ 140737488355328))
                ((((m.fst, m.snd ++ [(k, b)]), 0) = writeS m k b th))
                (False))
               (False)))) ∧
            ((List.length m.fst ≤ 1000000) ∧
             (PIf (decide ((0 + List.length m.snd) * (73 : Nat) ≤ 140737488355328))
              (PIf (decide ((List.length m.snd + [(k, b)].length) * (73 : Nat) ≤ 140737488355328))
               ((((m.fst, m.snd ++ [(k, b)]), 0) = writeS m k b th))
               (False))
              (False))))) ∧
          (((List.length m.fst ≤ 1000000) ∧
            (((PIf (decide ((0 + List.length m.snd) * (73 : Nat) ≤ 140737488355328))
               (PIf (decide ((List.length m.snd + [(k, b)].length) * (73 : Nat) ≤ 140737488355328))
                ((((m.fst, m.snd ++ [(k, b)]), 0) = writeS m k b th))
                (False))
               (False)) ∧
              (PIf (decide ((0 + List.length m.snd) * (73 : Nat) ≤ 140737488355328))
               (PIf (decide ((List.length m.snd + [(k, b)].length) * (73 : Nat) ≤ 140737488355328))
                ((((m.fst, m.snd ++ [(k, b)]), 0) = writeS m k b th))
                (False))
               (False))) ∧
             (PIf (decide ((0 + List.length m.snd) * (73 : Nat) ≤ 140737488355328))
              (PIf (decide ((List.length m.snd + [(k, b)].length) * (73 : Nat) ≤ 140737488355328))
               ((((m.fst, m.snd ++ [(k, b)]), 0) = writeS m k b th))
               (False))
              (False)))) ∧
           ((((List.length m.fst ≤ 1000000) ∧
              ((PIf (decide ((0 + List.length m.snd) * (73 : Nat) ≤ 140737488355328))
                (PIf (decide ((List.length m.snd + [(k, b)].length) * (73 : Nat) ≤ 140737488355328))
                 ((((m.fst, m.snd ++ [(k, b)]), 0) = writeS m k b th))
                 (False))
                (False)) ∧
               (PIf (decide ((0 + List.length m.snd) * (73 : Nat) ≤ 140737488355328))
                (PIf (decide ((List.length m.snd + [(k, b)].length) * (73 : Nat) ≤ 140737488355328))
                 ((((m.fst, m.snd ++ [(k, b)]), 0) = writeS m k b th))
                 (False))
                (False)))) ∧
             ((List.length m.fst ≤ 1000000) ∧
              (PIf (decide ((0 + List.length m.snd) * (73 : Nat) ≤ 140737488355328))
               (PIf (decide ((List.length m.snd + [(k, b)].length) * (73 : Nat) ≤ 140737488355328))
                ((((m.fst, m.snd ++ [(k, b)]), 0) = writeS m k b th))
                (False))
               (False)))) ∧
            (((List.length m.fst ≤ 1000000) ∧
              (PIf (decide ((0 + List.length m.snd) * (73 : Nat) ≤ 140737488355328))
               (PIf (decide ((List.length m.snd + [(k, b)].length) * (73 : Nat) ≤ 140737488355328))
                ((((m.fst, m.snd ++ [(k, b)]), 0) = writeS m k b th))
                (False))
               (False))) ∧
             ((List.length m.fst ≤ 1000000) ∧
              (PIf (decide ((0 + List.length m.snd) * (73 : Nat) ≤ 140737488355328))
               (PIf (decide ((List.length m.snd + [(k, b)].length) * (73 : Nat) ≤ 140737488355328))
                ((((m.fst, m.snd ++ [(k, b)]), 0) = writeS m k b th))
                (False))
               (False))))))))))))) (by kernel_rfl) ?_
  have hR := @right_of m
  have h1 : rightS m = true → th = true → 0 ≤ k → k < m.1.length → doneS (flushedD k (IntKind.i64.wrap (k + 1))) (fun _ _ => true) m = doneS (writeD m k th) (fun _ _ => true) m := fun hr ht h0 h1 => doneS_congr fun i d hi => by
    have := right_mem hr hi
    have h2 := (hR hr).1
    refine ⟨?_, fun _ => rfl⟩
    rw [w64 (by omega) (by omega)]
    simp only [flushedD, writeD, ht, Bool.true_and, Bool.not_true, Bool.false_and, Bool.or_false]
    rw [← Bool.decide_and]
    exact decide_eq_decide.2 (by omega)
  have h2 : rightS m = true → th = false → (m.2.length : Int) = 64 → doneS (flushedD 0 (m.1.length : Int)) (fun _ _ => true) m = doneS (writeD m k th) (fun _ _ => true) m := fun hr ht h0 => doneS_congr fun i d hi => by
    have := right_mem hr hi
    refine ⟨?_, fun _ => rfl⟩
    simp only [flushedD, writeD, ht, h0, Bool.not_false, Bool.true_and, Bool.false_and, Bool.false_or, decide_true]
    rw [← Bool.decide_and]
    exact decide_eq_true (by omega)
  have h3 : th = false → ¬ (m.2.length : Int) = 64 → doneS (writeD m k th) (fun _ _ => true) m = m := fun ht h0 => by
    have := doneN_none (does := writeD m k th) (m := m) (fun i d _ => by simp [writeD, ht, h0]) m.2.length
    rw [doneS, this, List.take_length]
  have hl := doneS_len (writeD m k th) (fun _ _ => true) m
  try simp only [PIf_iff, decide_eq_true_eq, decide_eq_false_iff_not, Bool.and_eq_true, Bool.not_eq_true', Bool.not_eq_false', Bool.and_eq_false_iff, Nat.blt_eq, blt_f, beq_iff_eq, beq_eq_false_iff_ne]
  repeat' first | intro _ | apply And.intro
  all_goals first | omega | rfl | exact True.intro | grind [w64, wu64, writeS, thereS]
theorem half_u64 {y : Int} (h0 : 0 ≤ y) (h1 : y < 18446744073709551616) : IntKind.u64.wrap (y.tdiv 2) = y / 2 := by
  rw [Int.tdiv_eq_ediv_of_nonneg h0]; exact wu64 (by omega) (by omega)
theorem mod_u64 {y : Int} (h0 : 0 ≤ y) : y.tmod 2 = y % 2 := Int.tmod_eq_emod_of_nonneg h0
theorem pow_step {x mask : Int} (h0 : 0 ≤ x) : mask / 2 ^ (x + 1).toNat = mask / 2 ^ x.toNat / 2 := by
  have e : (x + 1).toNat = x.toNat + 1 := by omega
  rw [e, Int.pow_succ, Int.ediv_ediv_of_nonneg (Int.le_of_lt (Int.pow_pos (by omega)))]
def cR3Lose : Ct := ⟨24, [kMed, kU64], fun (x : MedE × Int) => ⟨[kMed, kInt], 0 ≤ x.2 ∧ x.2 < 18446744073709551616, .val (loseS x.1 x.2)⟩⟩
theorem hR3Lose : Holds Try.prog cR3Lose := holds_by (inl := []) (cts := [cR3Right, cR2Copy]) mix .nil (.cons hR3Right (.cons hR2Copy .nil)) Try.func24 (by kernel_rfl) fun (x : MedE × Int) hx => by
  obtain ⟨m, mask⟩ := x
  have hm : 0 ≤ mask ∧ mask < 18446744073709551616 := hx
  refine ⟨[⟨24, 5, [(.t 0 7, kInt), (.t 0 1, kU64), (.x 0 6, kMedN)], [(0, 2), (0, 4), (0, 6)], fun _ (x : Int × Int × MedE) => 0 ≤ x.1 ∧ x.1 ≤ m.2.length ∧ x.2.1 = mask / 2 ^ x.1.toNat ∧ x.2.2 = doneN (loseD mask) (fun _ _ => false) m x.1.toNat, fun _ (x : Int × Int × MedE) => (m.2.length - x.1).toNat⟩], ?_⟩
  refine vc_of (B :=
    (True) ∧
    (PIf (!rightS m)
     (((([], []), 1) = loseS m mask))
     ((List.length m.fst ≤ 1000000) ∧
      (((mask = mask) ∧ ((0 : Int) = 0) ∧ (m.fst = m.fst) ∧ (m.snd = m.snd) ∧ (Value.slice none 0 0 = Value.slice none 0 0) ∧ (Value.slice none 0 0 = Value.slice none 0 0) ∧ (m.fst = m.fst) ∧ (tya (List (Int × List Int)) [] = [])) ∧
       (((0 : Int) ≤ 0 ∧ 0 ≤ (↑m.snd.length : Int) ∧ mask = mask / 2 ^ Int.toNat 0 ∧ (m.fst, []) = doneN (loseD mask) (fun x x_1 => false) m (Int.toNat 0)) ∧
        (∀ x0 : Int × Int × List (List Int) × List (Int × List Int), (0 ≤ x0.fst ∧ x0.fst ≤ (↑m.snd.length : Int) ∧ x0.snd.fst = mask / 2 ^ x0.fst.toNat ∧ x0.snd.snd = doneN (loseD mask) (fun x x_1 => false) m x0.fst.toNat) →
         PIf (decide (x0.fst < (↑(List.length m.snd) : Int)))
          (PIf (Int.tmod x0.snd.fst 2 == 1)
           (PIf (decide (0 ≤ x0.fst) && decide (x0.fst < (↑(List.length m.snd) : Int)))
            (PIf (decide (0 ≤ x0.fst) && decide (x0.fst < (↑(List.length m.snd) : Int)))
             (PIf (decide (0 ≤ (List.getD m.snd (Int.toNat x0.fst) (0, List.replicate 64 0)).fst) && decide ((List.getD m.snd (Int.toNat x0.fst) (0, List.replicate 64 0)).fst < (↑(List.length x0.snd.snd.fst) : Int)))
              (PIf ((Int.toNat (List.getD m.snd (Int.toNat x0.fst) (0, List.replicate 64 0)).fst).blt (List.length x0.snd.snd.fst))
               (((IntKind.u64.wrap (Int.tdiv x0.snd.fst 2) = IntKind.u64.wrap (Int.tdiv x0.snd.fst 2)) ∧ (IntKind.i64.wrap (x0.fst + 1) = IntKind.i64.wrap (x0.fst + 1)) ∧ (m.fst = m.fst) ∧ (m.snd = m.snd) ∧ (Value.slice none 0 0 = Value.slice none 0 0) ∧ (Value.slice none 0 0 = Value.slice none 0 0) ∧ (List.set x0.snd.snd.fst (Int.toNat (List.getD m.snd (Int.toNat x0.fst) (0, List.replicate 64 0)).fst) (List.getD m.snd (Int.toNat x0.fst) (0, List.replicate 64 0)).snd = List.set x0.snd.snd.fst (Int.toNat (List.getD m.snd (Int.toNat x0.fst) (0, List.replicate 64 0)).fst) (List.getD m.snd (Int.toNat x0.fst) (0, List.replicate 64 0)).snd) ∧ (x0.snd.snd.snd = x0.snd.snd.snd)) ∧
                (((0 ≤ IntKind.i64.wrap (x0.fst + 1) ∧ IntKind.i64.wrap (x0.fst + 1) ≤ (↑m.snd.length : Int) ∧ IntKind.u64.wrap (Int.tdiv x0.snd.fst 2) = mask / 2 ^ (IntKind.i64.wrap (x0.fst + 1)).toNat ∧ (List.set x0.snd.snd.fst (Int.toNat (List.getD m.snd (Int.toNat x0.fst) (0, List.replicate 64 0)).fst) (List.getD m.snd (Int.toNat x0.fst) (0, List.replicate 64 0)).snd, x0.snd.snd.snd) = doneN (loseD mask) (fun x x_1 => false) m (IntKind.i64.wrap (x0.fst + 1)).toNat) ∧ ((↑m.snd.length : Int) - IntKind.i64.wrap (x0.fst + 1)).toNat < ((↑m.snd.length : Int) - x0.fst).toNat) ∧
                 (True)))
               (False))
              (False))
             (False))
            (False))
           (((IntKind.u64.wrap (Int.tdiv x0.snd.fst 2) = IntKind.u64.wrap (Int.tdiv x0.snd.fst 2)) ∧ (IntKind.i64.wrap (x0.fst + 1) = IntKind.i64.wrap (x0.fst + 1)) ∧ (m.fst = m.fst) ∧ (m.snd = m.snd) ∧ (Value.slice none 0 0 = Value.slice none 0 0) ∧ (Value.slice none 0 0 = Value.slice none 0 0) ∧ (x0.snd.snd.fst = x0.snd.snd.fst) ∧ (x0.snd.snd.snd = x0.snd.snd.snd)) ∧
            (((0 ≤ IntKind.i64.wrap (x0.fst + 1) ∧ IntKind.i64.wrap (x0.fst + 1) ≤ (↑m.snd.length : Int) ∧ IntKind.u64.wrap (Int.tdiv x0.snd.fst 2) = mask / 2 ^ (IntKind.i64.wrap (x0.fst + 1)).toNat ∧ x0.snd.snd = doneN (loseD mask) (fun x x_1 => false) m (IntKind.i64.wrap (x0.fst + 1)).toNat) ∧ ((↑m.snd.length : Int) - IntKind.i64.wrap (x0.fst + 1)).toNat < ((↑m.snd.length : Int) - x0.fst).toNat) ∧
             (True))))
          (((x0.snd.snd, 0) = loseS m mask)))))))) (by kernel_rfl) ?_
  have hl := doneN_len (loseD mask) (fun _ _ => false) m
  have hR := @right_of m
  have hb : ∀ x : Int, 0 ≤ mask / 2 ^ x.toNat ∧ mask / 2 ^ x.toNat < 18446744073709551616 := fun x =>
    ⟨Int.ediv_nonneg hm.1 (Int.le_of_lt (Int.pow_pos (by omega))), Int.lt_of_le_of_lt (Int.ediv_le_self _ hm.1) hm.2⟩
  try simp only [PIf_iff, decide_eq_true_eq, decide_eq_false_iff_not, Bool.and_eq_true, Bool.not_eq_true', Bool.not_eq_false', Bool.and_eq_false_iff, Nat.blt_eq, blt_f, beq_iff_eq, beq_eq_false_iff_ne]
  repeat' first | intro _ | apply And.intro
  all_goals first | omega | rfl | exact True.intro | grind [w64, wu64, doneN_at, loseD_eq, loseS, doneN, doneS, half_u64, mod_u64, pow_step] | skip
  all_goals
    rename_i x h1 h2 h3
    have := (hR (by assumption)).2.1
    have h4 := hb x.1
    rw [w64 (by omega) (by omega), doneN_at (z := (0, List.replicate 64 0)) (by omega) (by omega), if_neg (by rw [loseD_eq hm (by omega), ← h1.2.2.1]; rw [mod_u64 (by omega)] at h3; simpa using h3), if_neg (by simp)]
    exact h1.2.2.2
end Go.Proofs.Ytoiacgfhjikddaa
