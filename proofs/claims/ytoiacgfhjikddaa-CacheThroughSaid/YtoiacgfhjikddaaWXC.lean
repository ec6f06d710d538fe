/- Layer 3: the reference's contracts. -/
import Derived.Test.YtoiacgfhjikddaaWXB
namespace Go.Proofs.Ytoiacgfhjikddaa
open Go.RowKit Vc W
theorem take_step {α : Type} {l : List α} {x : Int} {z : α} (h0 : 0 ≤ x) (h1 : x < l.length) : l.take (x + 1).toNat = l.take x.toNat ++ [l.getD x.toNat z] := by
  have e : (x + 1).toNat = x.toNat + 1 := by omega
  have hl : x.toNat < l.length := by omega
  rw [e, List.take_add_one, List.getD_eq_getElem?_getD, List.getElem?_eq_getElem hl]; rfl
theorem take_all {α : Type} {l : List α} {x : Int} (h : ¬ x < l.length) : l.take x.toNat = l := List.take_of_length_le (by omega)
theorem getD_ne {α : Type} {l r : List α} {x : Int} {z : α} (h0 : 0 ≤ x) (h1 : x < l.length) (h : ¬ l.getD x.toNat z = r.getD x.toNat z) : l ≠ r := fun e => h (by rw [e])
def cR2Same : Ct := ⟨18, [.sb kBlk, .sb kBlk], fun (x : List (List Int) × List (List Int)) => ⟨[.b], x.1.length ≤ 1000000, .val (decide (x.1 = x.2))⟩⟩
theorem hR2Same : Holds Try.prog cR2Same := holds_by (inl := []) (cts := []) mix .nil .nil Try.func18 (by kernel_rfl) fun (x : List (List Int) × List (List Int)) hx => by
  obtain ⟨l, r⟩ := x
  have hx : l.length ≤ 1000000 := hx
  refine ⟨[⟨18, 4, [(.t 0 5, kInt)], [(0, 0), (0, 1)], fun _ (x : Int) => 0 ≤ x ∧ x ≤ l.length ∧ l.take x.toNat = r.take x.toNat, fun _ (x : Int) => (l.length - x).toNat⟩], ?_⟩
  refine vc_of (B :=
    PIf ((↑l.length : Int) != (↑r.length : Int))
    ((false = decide (l = r)))
    ((((0 : Int) = 0) ∧ (l = l) ∧ (r = r)) ∧
     (((0 : Int) ≤ 0 ∧ 0 ≤ (↑l.length : Int) ∧ tya (List (List Int)) [] = []) ∧
      (∀ x0 : Int, (0 ≤ x0 ∧ x0 ≤ (↑l.length : Int) ∧ List.take (Int.toNat x0) l = List.take (Int.toNat x0) r) →
       PIf (decide (x0 < (↑l.length : Int)))
        (PIf (decide (0 ≤ x0) && decide (x0 < (↑l.length : Int)))
         (PIf (decide (0 ≤ x0) && decide (x0 < (↑r.length : Int)))
          (PIf (!decide (l.getD (Int.toNat x0) (List.replicate 64 0) = r.getD (Int.toNat x0) (List.replicate 64 0)))
           ((false = decide (l = r)))
           (((IntKind.i64.wrap (x0 + 1) = IntKind.i64.wrap (x0 + 1)) ∧ (l = l) ∧ (r = r)) ∧
            (((0 ≤ IntKind.i64.wrap (x0 + 1) ∧ IntKind.i64.wrap (x0 + 1) ≤ (↑l.length : Int) ∧ List.take (IntKind.i64.wrap (x0 + 1)).toNat l = List.take (IntKind.i64.wrap (x0 + 1)).toNat r) ∧ ((↑l.length : Int) - IntKind.i64.wrap (x0 + 1)).toNat < ((↑l.length : Int) - x0).toNat) ∧
             (True))))
          (False))
         (False))
        ((true = decide (l = r))))))) (by kernel_rfl) ?_
  simp only [PIf_iff, decide_eq_true_eq, decide_eq_false_iff_not, Bool.and_eq_true, Bool.not_eq_true', Bool.not_eq_false', Bool.and_eq_false_iff, Nat.blt_eq, blt_f, beq_iff_eq, beq_eq_false_iff_ne]
  repeat' first | intro _ | apply And.intro
  all_goals first | rfl | trivial | omega | grind [w64, wu64, take_step, take_all, getD_ne] | skip
  all_goals trace_state
  all_goals sorry
def cR2Copy : Ct := ⟨26, [.sb kBlk], fun l => ⟨[.sn 27 kBlk], l.length ≤ 1000000, .val l⟩⟩
theorem hR2Copy : Holds Try.prog cR2Copy := holds_by (inl := []) (cts := []) mix .nil .nil Try.func26 (by kernel_rfl) fun (l : List (List Int)) hl => by
  have hl : l.length ≤ 1000000 := hl
  refine ⟨[], ?_⟩
  refine vc_of (B :=
    PIf (decide ((0 + l.length) * (65 : Nat) ≤ 140737488355328))
    ((l = l))
    (False)) (by kernel_rfl) ?_
  simp only [PIf_iff, decide_eq_true_eq, decide_eq_false_iff_not, Bool.and_eq_true, Bool.not_eq_true', Bool.not_eq_false', Bool.and_eq_false_iff, Nat.blt_eq, blt_f, beq_iff_eq, beq_eq_false_iff_ne]
  repeat' first | intro _ | apply And.intro
  all_goals first | rfl | trivial | omega | grind [w64, wu64] | skip
  all_goals trace_state
  all_goals sorry
def cR3Right : Ct := ⟨17, [kMed], fun m => ⟨[.b], True, .val (rightS m)⟩⟩
theorem hR3Right : Holds Try.prog cR3Right := holds_by (inl := []) (cts := []) mix .nil .nil Try.func17 (by kernel_rfl) fun (m : MedE) _ => by
  refine ⟨[⟨17, 4, [(.t 0 3, kInt)], [(0, 1)], fun _ (x : Int) => 0 ≤ x ∧ x ≤ m.2.length ∧ ∀ (i : Nat) (d : DirtyE), (i : Int) < x → m.2[i]? = some d → thereS m d.1 = true, fun _ (x : Int) => (m.2.length - x).toNat⟩], ?_⟩
  refine vc_of (B :=
    PIf (decide ((↑(List.length m.fst) : Int) > 64) || decide ((↑(List.length m.snd) : Int) > 64))
    ((false = rightS m))
    ((((0 : Int) = 0) ∧ (m.fst = m.fst) ∧ (m.snd = m.snd)) ∧
     (((0 : Int) ≤ 0 ∧ 0 ≤ (↑m.snd.length : Int) ∧ ∀ (i : Nat) (d : DirtyE), (↑i : Int) < 0 → m.snd[i]? = some d → thereS m d.fst = true) ∧
      (∀ x0 : Int, (0 ≤ x0 ∧ x0 ≤ (↑m.snd.length : Int) ∧ ∀ (i : Nat) (d : DirtyE), (↑i : Int) < x0 → m.snd[i]? = some d → thereS m d.fst = true) →
       PIf (decide (x0 < (↑(List.length m.snd) : Int)))
        (PIf (decide (0 ≤ x0) && decide (x0 < (↑(List.length m.snd) : Int)))
         (PIf (decide ((List.getD m.snd (Int.toNat x0) (0, List.replicate 64 0)).fst < 0))
          ((false = rightS m))
          (PIf (decide (0 ≤ x0) && decide (x0 < (↑(List.length m.snd) : Int)))
           (PIf (decide ((List.getD m.snd (Int.toNat x0) (0, List.replicate 64 0)).fst ≥ (↑(List.length m.fst) : Int)))
            ((false = rightS m))
            (((IntKind.i64.wrap (x0 + 1) = IntKind.i64.wrap (x0 + 1)) ∧ (m.fst = m.fst) ∧ (m.snd = m.snd)) ∧
             (((0 ≤ IntKind.i64.wrap (x0 + 1) ∧ IntKind.i64.wrap (x0 + 1) ≤ (↑m.snd.length : Int) ∧ ∀ (i : Nat) (d : DirtyE), (↑i : Int) < IntKind.i64.wrap (x0 + 1) → m.snd[i]? = some d → thereS m d.fst = true) ∧ ((↑m.snd.length : Int) - IntKind.i64.wrap (x0 + 1)).toNat < ((↑m.snd.length : Int) - x0).toNat) ∧
              (True))))
           (False)))
         (False))
        ((true = rightS m)))))) (by kernel_rfl) ?_
  simp only [PIf_iff, decide_eq_true_eq, decide_eq_false_iff_not, Bool.and_eq_true, Bool.not_eq_true', Bool.not_eq_false', Bool.and_eq_false_iff, Nat.blt_eq, blt_f, beq_iff_eq, beq_eq_false_iff_ne]
  repeat' first | intro _ | apply And.intro
  all_goals first | rfl | trivial | omega | grind [w64, wu64, rightS, thereS, List.mem_iff_getElem?] | skip
  all_goals trace_state
  all_goals sorry
def cR3All : Ct := ⟨20, [kMed], fun (m : MedE) => ⟨[.sl kBlk], True, .val (allS m)⟩⟩
theorem hR3All : Holds Try.prog cR3All := holds_by (inl := []) (cts := [cR3Right, cR2Copy]) mix .nil (.cons hR3Right (.cons hR2Copy .nil)) Try.func20 (by kernel_rfl) fun (m : MedE) _ => by
  refine ⟨[⟨20, 5, [(.t 0 4, kInt), (.t 0 3, .sn 27 kBlk)], [(0, 1)], fun _ (x : Int × List (List Int)) => 0 ≤ x.1 ∧ x.1 ≤ m.2.length ∧ x.2 = (doneN (fun _ _ => true) (fun _ _ => true) m x.1.toNat).1, fun _ (x : Int × List (List Int)) => (m.2.length - x.1).toNat⟩], ?_⟩
  refine vc_of (B :=
    (True) ∧
    (PIf (!rightS m)
     (([] = allS m))
     ((List.length m.fst ≤ 1000000) ∧
      ((((0 : Int) = 0) ∧ (m.fst = m.fst) ∧ (m.snd = m.snd) ∧ (m.fst = m.fst)) ∧
       (((0 : Int) ≤ 0 ∧ 0 ≤ (↑m.snd.length : Int) ∧ m.fst = m.fst) ∧
        (∀ x0 : Int × List (List Int), (0 ≤ x0.fst ∧ x0.fst ≤ (↑m.snd.length : Int) ∧ x0.snd = (doneN (fun x x_1 => true) (fun x x_1 => true) m x0.fst.toNat).fst) →
         PIf (decide (x0.fst < (↑(List.length m.snd) : Int)))
          (PIf (decide (0 ≤ x0.fst) && decide (x0.fst < (↑(List.length m.snd) : Int)))
           (PIf (decide (0 ≤ x0.fst) && decide (x0.fst < (↑(List.length m.snd) : Int)))
            (PIf (decide (0 ≤ (List.getD m.snd (Int.toNat x0.fst) (0, List.replicate 64 0)).fst) && decide ((List.getD m.snd (Int.toNat x0.fst) (0, List.replicate 64 0)).fst < (↑(List.length x0.snd) : Int)))
             (PIf ((Int.toNat (List.getD m.snd (Int.toNat x0.fst) (0, List.replicate 64 0)).fst).blt (List.length x0.snd))
              (((IntKind.i64.wrap (x0.fst + 1) = IntKind.i64.wrap (x0.fst + 1)) ∧ (m.fst = m.fst) ∧ (m.snd = m.snd) ∧ (List.set x0.snd (Int.toNat (List.getD m.snd (Int.toNat x0.fst) (0, List.replicate 64 0)).fst) (List.getD m.snd (Int.toNat x0.fst) (0, List.replicate 64 0)).snd = List.set x0.snd (Int.toNat (List.getD m.snd (Int.toNat x0.fst) (0, List.replicate 64 0)).fst) (List.getD m.snd (Int.toNat x0.fst) (0, List.replicate 64 0)).snd)) ∧
               (((0 ≤ IntKind.i64.wrap (x0.fst + 1) ∧ IntKind.i64.wrap (x0.fst + 1) ≤ (↑m.snd.length : Int) ∧ List.set x0.snd (Int.toNat (List.getD m.snd (Int.toNat x0.fst) (0, List.replicate 64 0)).fst) (List.getD m.snd (Int.toNat x0.fst) (0, List.replicate 64 0)).snd = (doneN (fun x x_1 => true) (fun x x_1 => true) m (IntKind.i64.wrap (x0.fst + 1)).toNat).fst) ∧ ((↑m.snd.length : Int) - IntKind.i64.wrap (x0.fst + 1)).toNat < ((↑m.snd.length : Int) - x0.fst).toNat) ∧
                (True)))
              (False))
             (False))
            (False))
           (False))
          ((x0.snd = allS m)))))))) (by kernel_rfl) ?_
  have hl := doneN_len (fun _ _ => true) (fun _ _ => true) m
  have hR := @right_of m
  simp only [PIf_iff, decide_eq_true_eq, decide_eq_false_iff_not, Bool.and_eq_true, Bool.not_eq_true', Bool.not_eq_false', Bool.and_eq_false_iff, Nat.blt_eq, blt_f, beq_iff_eq, beq_eq_false_iff_ne]
  repeat' first | intro _ | apply And.intro
  all_goals first | rfl | trivial | omega | grind [w64, wu64, doneN_at, allS, doneN, doneS] | skip
  all_goals trace_state
  all_goals sorry
def flushedD (k n : Int) (_ : Int) (d : DirtyE) : Bool := decide (k ≤ d.1) && decide (d.1 < n)
def cR3Flushed : Ct := ⟨30, [kMed, kInt, kInt], fun (x : MedE × Int × Int) => ⟨[kMedN], rightS x.1 = true, .val (doneS (flushedD x.2.1 x.2.2) (fun _ _ => true) x.1)⟩⟩
theorem hR3Flushed : Holds Try.prog cR3Flushed := holds_by (inl := []) (cts := [cR2Copy]) mix .nil (.cons hR2Copy .nil) Try.func30 (by kernel_rfl) fun (x : MedE × Int × Int) hx => by
  obtain ⟨m, k, n⟩ := x
  have hx : rightS m = true := hx
  refine ⟨[⟨30, 3, [(.t 0 8, kInt), (.x 0 7, kMedN)], [(0, 1), (0, 2), (0, 3), (0, 6), (0, 7)], fun _ (x : Int × MedE) => 0 ≤ x.1 ∧ x.1 ≤ m.2.length ∧ x.2 = doneN (flushedD k n) (fun _ _ => true) m x.1.toNat, fun _ (x : Int × MedE) => (m.2.length - x.1).toNat⟩], ?_⟩
  refine vc_of (B :=
    (List.length m.fst ≤ 1000000) ∧
    ((((0 : Int) = 0) ∧ (k = k) ∧ (n = n) ∧ (m.fst = m.fst) ∧ (m.snd = m.snd) ∧ (Value.slice none 0 0 = Value.slice none 0 0) ∧ (Value.slice none 0 0 = Value.slice none 0 0) ∧ (m.fst = m.fst) ∧ (tya (List (Int × List Int)) [] = [])) ∧
     (((0 : Int) ≤ 0 ∧ 0 ≤ (↑m.snd.length : Int) ∧ (m.fst, []) = doneN (flushedD k n) (fun x x_1 => true) m (Int.toNat 0)) ∧
      (∀ x0 : Int × List (List Int) × List (Int × List Int), (0 ≤ x0.fst ∧ x0.fst ≤ (↑m.snd.length : Int) ∧ x0.snd = doneN (flushedD k n) (fun x x_1 => true) m x0.fst.toNat) →
       PIf (decide (x0.fst < (↑(List.length m.snd) : Int)))
        (PIf (decide (0 ≤ x0.fst) && decide (x0.fst < (↑(List.length m.snd) : Int)))
         (PIf (decide ((List.getD m.snd (Int.toNat x0.fst) (0, List.replicate 64 0)).fst ≥ k) && decide ((List.getD m.snd (Int.toNat x0.fst) (0, List.replicate 64 0)).fst < n))
          (PIf (decide (0 ≤ (List.getD m.snd (Int.toNat x0.fst) (0, List.replicate 64 0)).fst) && decide ((List.getD m.snd (Int.toNat x0.fst) (0, List.replicate 64 0)).fst < (↑(List.length x0.snd.fst) : Int)))
           (PIf ((Int.toNat (List.getD m.snd (Int.toNat x0.fst) (0, List.replicate 64 0)).fst).blt (List.length x0.snd.fst))
            (((IntKind.i64.wrap (x0.fst + 1) = IntKind.i64.wrap (x0.fst + 1)) ∧ (k = k) ∧ (n = n) ∧ (m.fst = m.fst) ∧ (m.snd = m.snd) ∧ (Value.slice none 0 0 = Value.slice none 0 0) ∧ (Value.slice none 0 0 = Value.slice none 0 0) ∧ (List.set x0.snd.fst (Int.toNat (List.getD m.snd (Int.toNat x0.fst) (0, List.replicate 64 0)).fst) (List.getD m.snd (Int.toNat x0.fst) (0, List.replicate 64 0)).snd = List.set x0.snd.fst (Int.toNat (List.getD m.snd (Int.toNat x0.fst) (0, List.replicate 64 0)).fst) (List.getD m.snd (Int.toNat x0.fst) (0, List.replicate 64 0)).snd) ∧ (x0.snd.snd = x0.snd.snd)) ∧
             (((0 ≤ IntKind.i64.wrap (x0.fst + 1) ∧ IntKind.i64.wrap (x0.fst + 1) ≤ (↑m.snd.length : Int) ∧ (List.set x0.snd.fst (Int.toNat (List.getD m.snd (Int.toNat x0.fst) (0, List.replicate 64 0)).fst) (List.getD m.snd (Int.toNat x0.fst) (0, List.replicate 64 0)).snd, x0.snd.snd) = doneN (flushedD k n) (fun x x_1 => true) m (IntKind.i64.wrap (x0.fst + 1)).toNat) ∧ ((↑m.snd.length : Int) - IntKind.i64.wrap (x0.fst + 1)).toNat < ((↑m.snd.length : Int) - x0.fst).toNat) ∧
              (True)))
            (False))
           (False))
          (PIf (decide ((List.length x0.snd.snd + [List.getD m.snd (Int.toNat x0.fst) (0, List.replicate 64 0)].length) * (72 + 1) ≤ 140737488355328))
           (((IntKind.i64.wrap (x0.fst + 1) = IntKind.i64.wrap (x0.fst + 1)) ∧ (k = k) ∧ (n = n) ∧ (m.fst = m.fst) ∧ (m.snd = m.snd) ∧ (Value.slice none 0 0 = Value.slice none 0 0) ∧ (Value.slice none 0 0 = Value.slice none 0 0) ∧ (x0.snd.fst = x0.snd.fst) ∧ (x0.snd.snd ++ [List.getD m.snd (Int.toNat x0.fst) (0, List.replicate 64 0)] = x0.snd.snd ++ [List.getD m.snd (Int.toNat x0.fst) (0, List.replicate 64 0)])) ∧
            (((0 ≤ IntKind.i64.wrap (x0.fst + 1) ∧ IntKind.i64.wrap (x0.fst + 1) ≤ (↑m.snd.length : Int) ∧ (x0.snd.fst, x0.snd.snd ++ [List.getD m.snd (Int.toNat x0.fst) (0, List.replicate 64 0)]) = doneN (flushedD k n) (fun x x_1 => true) m (IntKind.i64.wrap (x0.fst + 1)).toNat) ∧ ((↑m.snd.length : Int) - IntKind.i64.wrap (x0.fst + 1)).toNat < ((↑m.snd.length : Int) - x0.fst).toNat) ∧
             (True)))
           (False)))
         (False))
        ((x0.snd = doneS (flushedD k n) (fun x x_1 => true) m)))))) (by kernel_rfl) ?_
  have hl := doneN_len (flushedD k n) (fun _ _ => true) m
  have hR := @right_of m hx
  simp only [PIf_iff, decide_eq_true_eq, decide_eq_false_iff_not, Bool.and_eq_true, Bool.not_eq_true', Bool.not_eq_false', Bool.and_eq_false_iff, Nat.blt_eq, blt_f, beq_iff_eq, beq_eq_false_iff_ne]
  repeat' first | intro _ | apply And.intro
  all_goals first | rfl | trivial | omega | grind [w64, wu64, doneN_at, flushedD, doneN, doneS] | skip
  all_goals trace_state
  all_goals sorry
end Go.Proofs.Ytoiacgfhjikddaa
