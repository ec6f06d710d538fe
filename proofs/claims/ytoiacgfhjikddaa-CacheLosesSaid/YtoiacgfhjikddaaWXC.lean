/- Layer 3: the reference's contracts. -/
import Derived.Test.YtoiacgfhjikddaaWXB
set_option linter.unusedSimpArgs false
set_option linter.unusedVariables false
namespace Go.Proofs.Ytoiacgfhjikddaa
open Go.RowKit Vc W
theorem take_step {α : Type} {l : List α} {x : Int} {z : α} (h0 : 0 ≤ x) (h1 : x < l.length) : l.take (x + 1).toNat = l.take x.toNat ++ [l.getD x.toNat z] := by
  have e : (x + 1).toNat = x.toNat + 1 := by omega
  have hl : x.toNat < l.length := by omega
  rw [e, List.take_add_one, List.getD_eq_getElem?_getD, List.getElem?_eq_getElem hl]; rfl
theorem take_all {α : Type} {l : List α} {x : Int} (h : ¬ x < l.length) : l.take x.toNat = l := List.take_of_length_le (by omega)
theorem getD_ne {α : Type} {l r : List α} {x : Int} {z : α} (h0 : 0 ≤ x) (h1 : x < l.length) (h : ¬ l.getD x.toNat z = r.getD x.toNat z) : l ≠ r := fun e => h (by rw [e])
def cR2Same : Ct := ⟨18, [.sb kBlk, .sb kBlk], fun (x : List (List Int) × List (List Int)) => ⟨[.b], x.1.length ≤ 1000000, .val (decide (x.1 = x.2))⟩⟩
theorem hR2Same : Holds Try.prog cR2Same := holds_by (inl := []) (cts := []) mix .nil .nil Try.func18 (by kernel_rfl) fun (x : List (List Int) × List (List Int)) hx => by
  obtain ⟨l, r⟩ := x
  have hx : l.length ≤ 1000000 := hx
  refine ⟨[⟨18, 4, [(.t 0 5, kInt)], [(0, 0), (0, 1)], fun _ (x : Int) => 0 ≤ x ∧ x ≤ l.length ∧ l.take x.toNat = r.take x.toNat, fun _ (x : Int) => (l.length - x).toNat⟩], ?_⟩
  refine vc_of (B :=
    PIf ((↑l.length : Int) != (↑r.length : Int))
    ((false = decide (l = r)))
    ((((0 : Int) = 0) ∧ (l = l) ∧ (r = r)) ∧
     (((0 : Int) ≤ 0 ∧ 0 ≤ (↑l.length : Int) ∧ tya (List (List Int)) [] = []) ∧
      (∀ x0 : Int, (0 ≤ x0 ∧ x0 ≤ (↑l.length : Int) ∧ List.take (Int.toNat x0) l = List.take (Int.toNat x0) r) →
       PIf (decide (x0 < (↑l.length : Int)))
        (PIf (decide (0 ≤ x0) && decide (x0 < (↑l.length : Int)))
         (PIf (decide (0 ≤ x0) && decide (x0 < (↑r.length : Int)))
          (PIf (!decide (l.getD (Int.toNat x0) (List.replicate 64 0) = r.getD (Int.toNat x0) (List.replicate 64 0)))
           ((false = decide (l = r)))
           (((IntKind.i64.wrap (x0 + 1) = IntKind.i64.wrap (x0 + 1)) ∧ (l = l) ∧ (r = r)) ∧
            (((0 ≤ IntKind.i64.wrap (x0 + 1) ∧ IntKind.i64.wrap (x0 + 1) ≤ (↑l.length : Int) ∧ List.take (IntKind.i64.wrap (x0 + 1)).toNat l = List.take (IntKind.i64.wrap (x0 + 1)).toNat r) ∧ ((↑l.length : Int) - IntKind.i64.wrap (x0 + 1)).toNat < ((↑l.length : Int) - x0).toNat) ∧
             (True))))
          (False))
         (False))
        ((true = decide (l = r))))))) (by kernel_rfl) ?_
  try simp only [PIf_iff, decide_eq_true_eq, decide_eq_false_iff_not, Bool.and_eq_true, Bool.not_eq_true', Bool.not_eq_false', Bool.and_eq_false_iff, Nat.blt_eq, blt_f, beq_iff_eq, beq_eq_false_iff_ne]
  repeat' first | intro _ | apply And.intro
  all_goals first | omega | rfl | exact True.intro | grind [w64, wu64, take_step, take_all, getD_ne]
def cR2Copy : Ct := ⟨26, [.sb kBlk], fun l => ⟨[.sn 27 kBlk], l.length ≤ 1000000, .val l⟩⟩
theorem hR2Copy : Holds Try.prog cR2Copy := holds_by (inl := []) (cts := []) mix .nil .nil Try.func26 (by kernel_rfl) fun (l : List (List Int)) hl => by
  have hl : l.length ≤ 1000000 := hl
  refine ⟨[], ?_⟩
  refine vc_of (B :=
    PIf (decide ((0 + l.length) * (65 : Nat) ≤ 140737488355328))
    ((l = l))
    (False)) (by kernel_rfl) ?_
  try simp only [PIf_iff, decide_eq_true_eq, decide_eq_false_iff_not, Bool.and_eq_true, Bool.not_eq_true', Bool.not_eq_false', Bool.and_eq_false_iff, Nat.blt_eq, blt_f, beq_iff_eq, beq_eq_false_iff_ne]
  repeat' first | intro _ | apply And.intro
  all_goals first | omega | rfl | exact True.intro | grind [w64, wu64]
def cR3Right : Ct := ⟨17, [kMed], fun m => ⟨[.b], True, .val (rightS m)⟩⟩
theorem hR3Right : Holds Try.prog cR3Right := holds_by (inl := []) (cts := []) mix .nil .nil Try.func17 (by kernel_rfl) fun (m : MedE) _ => by
  refine ⟨[⟨17, 4, [(.t 0 3, kInt)], [(0, 1)], fun _ (x : Int) => 0 ≤ x ∧ x ≤ m.2.length ∧ ∀ (i : Nat) (d : DirtyE), (i : Int) < x → m.2[i]? = some d → thereS m d.1 = true, fun _ (x : Int) => (m.2.length - x).toNat⟩], ?_⟩
  refine vc_of (B :=
    PIf (decide ((↑(List.length m.fst) : Int) > 64) || decide ((↑(List.length m.snd) : Int) > 64))
    ((false = rightS m))
    ((((0 : Int) = 0) ∧ (m.fst = m.fst) ∧ (m.snd = m.snd)) ∧
     (((0 : Int) ≤ 0 ∧ 0 ≤ (↑m.snd.length : Int) ∧ ∀ (i : Nat) (d : DirtyE), (↑i : Int) < 0 → m.snd[i]? = some d → thereS m d.fst = true) ∧
      (∀ x0 : Int, (0 ≤ x0 ∧ x0 ≤ (↑m.snd.length : Int) ∧ ∀ (i : Nat) (d : DirtyE), (↑i : Int) < x0 → m.snd[i]? = some d → thereS m d.fst = true) →
       PIf (decide (x0 < (↑(List.length m.snd) : Int)))
        (PIf (decide (0 ≤ x0) && decide (x0 < (↑(List.length m.snd) : Int)))
         (PIf (decide ((List.getD m.snd (Int.toNat x0) (0, List.replicate 64 0)).fst < 0))
          ((false = rightS m))
          (PIf (decide (0 ≤ x0) && decide (x0 < (↑(List.length m.snd) : Int)))
           (PIf (decide ((List.getD m.snd (Int.toNat x0) (0, List.replicate 64 0)).fst ≥ (↑(List.length m.fst) : Int)))
            ((false = rightS m))
            (((IntKind.i64.wrap (x0 + 1) = IntKind.i64.wrap (x0 + 1)) ∧ (m.fst = m.fst) ∧ (m.snd = m.snd)) ∧
             (((0 ≤ IntKind.i64.wrap (x0 + 1) ∧ IntKind.i64.wrap (x0 + 1) ≤ (↑m.snd.length : Int) ∧ ∀ (i : Nat) (d : DirtyE), (↑i : Int) < IntKind.i64.wrap (x0 + 1) → m.snd[i]? = some d → thereS m d.fst = true) ∧ ((↑m.snd.length : Int) - IntKind.i64.wrap (x0 + 1)).toNat < ((↑m.snd.length : Int) - x0).toNat) ∧
              (True))))
           (False)))
         (False))
        ((true = rightS m)))))) (by kernel_rfl) ?_
  try simp only [PIf_iff, decide_eq_true_eq, decide_eq_false_iff_not, Bool.and_eq_true, Bool.not_eq_true', Bool.not_eq_false', Bool.and_eq_false_iff, Nat.blt_eq, blt_f, beq_iff_eq, beq_eq_false_iff_ne]
  repeat' first | intro _ | apply And.intro
  all_goals first | omega | rfl | exact True.intro | grind [w64, wu64, rightS, thereS, List.mem_iff_getElem?]
def cR3All : Ct := ⟨20, [kMed], fun (m : MedE) => ⟨[.sl kBlk], True, .val (allS m)⟩⟩
theorem hR3All : Holds Try.prog cR3All := holds_by (inl := []) (cts := [cR3Right, cR2Copy]) mix .nil (.cons hR3Right (.cons hR2Copy .nil)) Try.func20 (by kernel_rfl) fun (m : MedE) _ => by
  refine ⟨[⟨20, 5, [(.t 0 4, kInt), (.t 0 3, .sn 27 kBlk)], [(0, 1)], fun _ (x : Int × List (List Int)) => 0 ≤ x.1 ∧ x.1 ≤ m.2.length ∧ x.2 = (doneN (fun _ _ => true) (fun _ _ => true) m x.1.toNat).1, fun _ (x : Int × List (List Int)) => (m.2.length - x.1).toNat⟩], ?_⟩
  refine vc_of (B :=
    (True) ∧
    (PIf (!rightS m)
     (([] = allS m))
     ((List.length m.fst ≤ 1000000) ∧
      ((((0 : Int) = 0) ∧ (m.fst = m.fst) ∧ (m.snd = m.snd) ∧ (m.fst = m.fst)) ∧
       (((0 : Int) ≤ 0 ∧ 0 ≤ (↑m.snd.length : Int) ∧ m.fst = m.fst) ∧
        (∀ x0 : Int × List (List Int), (0 ≤ x0.fst ∧ x0.fst ≤ (↑m.snd.length : Int) ∧ x0.snd = (doneN (fun x x_1 => true) (fun x x_1 => true) m x0.fst.toNat).fst) →
         PIf (decide (x0.fst < (↑(List.length m.snd) : Int)))
          (PIf (decide (0 ≤ x0.fst) && decide (x0.fst < (↑(List.length m.snd) : Int)))
           (PIf (decide (0 ≤ x0.fst) && decide (x0.fst < (↑(List.length m.snd) : Int)))
            (PIf (decide (0 ≤ (List.getD m.snd (Int.toNat x0.fst) (0, List.replicate 64 0)).fst) && decide ((List.getD m.snd (Int.toNat x0.fst) (0, List.replicate 64 0)).fst < (↑(List.length x0.snd) : Int)))
             (PIf ((Int.toNat (List.getD m.snd (Int.toNat x0.fst) (0, List.replicate 64 0)).fst).blt (List.length x0.snd))
              (((IntKind.i64.wrap (x0.fst + 1) = IntKind.i64.wrap (x0.fst + 1)) ∧ (m.fst = m.fst) ∧ (m.snd = m.snd) ∧ (List.set x0.snd (Int.toNat (List.getD m.snd (Int.toNat x0.fst) (0, List.replicate 64 0)).fst) (List.getD m.snd (Int.toNat x0.fst) (0, List.replicate 64 0)).snd = List.set x0.snd (Int.toNat (List.getD m.snd (Int.toNat x0.fst) (0, List.replicate 64 0)).fst) (List.getD m.snd (Int.toNat x0.fst) (0, List.replicate 64 0)).snd)) ∧
               (((0 ≤ IntKind.i64.wrap (x0.fst + 1) ∧ IntKind.i64.wrap (x0.fst + 1) ≤ (↑m.snd.length : Int) ∧ List.set x0.snd (Int.toNat (List.getD m.snd (Int.toNat x0.fst) (0, List.replicate 64 0)).fst) (List.getD m.snd (Int.toNat x0.fst) (0, List.replicate 64 0)).snd = (doneN (fun x x_1 => true) (fun x x_1 => true) m (IntKind.i64.wrap (x0.fst + 1)).toNat).fst) ∧ ((↑m.snd.length : Int) - IntKind.i64.wrap (x0.fst + 1)).toNat < ((↑m.snd.length : Int) - x0.fst).toNat) ∧
                (True)))
              (False))
             (False))
            (False))
           (False))
          ((x0.snd = allS m)))))))) (by kernel_rfl) ?_
  have hl := doneN_len (fun _ _ => true) (fun _ _ => true) m
  have hR := @right_of m
  try simp only [PIf_iff, decide_eq_true_eq, decide_eq_false_iff_not, Bool.and_eq_true, Bool.not_eq_true', Bool.not_eq_false', Bool.and_eq_false_iff, Nat.blt_eq, blt_f, beq_iff_eq, beq_eq_false_iff_ne]
  repeat' first | intro _ | apply And.intro
  all_goals first | omega | rfl | exact True.intro | grind [w64, wu64, doneN_at, allS, doneN, doneS]
theorem doneN_congr {does does' stays stays' : Int → DirtyE → Bool} {m : MedE} (h : ∀ (i : Nat) d, m.2[i]? = some d → does i d = does' i d ∧ (does i d = false → stays i d = stays' i d)) : ∀ n, doneN does stays m n = doneN does' stays' m n
  | 0 => rfl
  | n + 1 => by
    unfold doneN
    rw [doneN_congr h n]
    cases hd : m.2[n]? with
    | none => rfl
    | some d =>
      obtain ⟨h1, h2⟩ := h n d hd
      simp only [h1]
      cases hw : does' n d with
      | true => rfl
      | false => rw [h1, hw] at h2; simp [h2 rfl]
theorem doneS_congr {does does' stays stays' : Int → DirtyE → Bool} {m : MedE} (h : ∀ (i : Nat) d, m.2[i]? = some d → does i d = does' i d ∧ (does i d = false → stays i d = stays' i d)) : doneS does stays m = doneS does' stays' m := doneN_congr h _
theorem doneS_len (does stays : Int → DirtyE → Bool) (m : MedE) : (doneS does stays m).1.length = m.1.length ∧ (doneS does stays m).2.length ≤ m.2.length := doneN_len does stays m _
theorem doneN_none {does : Int → DirtyE → Bool} {m : MedE} (h : ∀ (i : Nat) d, m.2[i]? = some d → does i d = false) : ∀ n, doneN does (fun _ _ => true) m n = (m.1, m.2.take n)
  | 0 => rfl
  | n + 1 => by
    unfold doneN
    rw [doneN_none h n, List.take_add_one]
    cases hd : m.2[n]? with
    | none => simp
    | some d => simp [h n d hd]
theorem right_mem {m : MedE} (h : rightS m = true) {i : Nat} {d : DirtyE} (hi : m.2[i]? = some d) : 0 ≤ d.1 ∧ d.1 < m.1.length := by
  simp only [rightS, thereS, Bool.and_eq_true, decide_eq_true_eq, List.all_eq_true] at h
  exact h.2.2 d (List.mem_of_getElem? hi)
theorem writeS_len (m : MedE) (k : Int) (b : List Int) (th : Bool) : (writeS m k b th).1.1.length ≤ 64 ∧ (writeS m k b th).1.2.length ≤ 65 := by
  unfold writeS
  split
  · simp
  · rename_i h
    have h := right_of (by simpa using h)
    have h1 := doneS_len (writeD m k th) (fun _ _ => true) m
    split
    · simp
    · dsimp only
      split <;> simp <;> omega
theorem flushS_len (m : MedE) (k n : Int) : (flushS m k n).1.1.length ≤ 64 ∧ (flushS m k n).1.2.length ≤ 64 := by
  unfold flushS
  split
  · simp
  · rename_i h
    have h := right_of (by simpa using h)
    split
    · simp
    · have h1 := doneS_len (flushD k (if n = 0 then (m.1.length : Int) else n)) (fun _ _ => true) m
      dsimp only; omega
theorem loseS_len (m : MedE) (k : Int) : (loseS m k).1.1.length ≤ 64 ∧ (loseS m k).1.2.length ≤ 64 := by
  unfold loseS
  split
  · simp
  · rename_i h
    have h := right_of (by simpa using h)
    have h1 := doneS_len (loseD k) (fun _ _ => false) m
    dsimp only; omega
theorem allS_len (m : MedE) : (allS m).length ≤ 64 := by
  unfold allS
  split
  · rename_i h
    have h := right_of h
    have h1 := doneS_len (fun _ _ => true) (fun _ _ => true) m
    omega
  · simp
def cR3Same : Ct := ⟨15, [kMed, kMed], fun (x : MedE × MedE) => ⟨[.b], x.1.1.length ≤ 1000000 ∧ x.1.2.length ≤ 1000000, .val (decide (x.1 = x.2))⟩⟩
theorem hR3Same : Holds Try.prog cR3Same := holds_by (inl := []) (cts := [cR2Same]) mix .nil (.cons hR2Same .nil) Try.func15 (by kernel_rfl) fun (x : MedE × MedE) hx => by
  obtain ⟨a, b⟩ := x
  have hx : a.1.length ≤ 1000000 ∧ a.2.length ≤ 1000000 := hx
  refine ⟨[⟨15, 4, [(.t 0 5, kInt)], [(0, 2), (0, 3)], fun _ (x : Int) => 0 ≤ x ∧ x ≤ a.2.length ∧ a.2.take x.toNat = b.2.take x.toNat, fun _ (x : Int) => (a.2.length - x).toNat⟩], ?_⟩
  refine vc_of (B :=
    (List.length a.fst ≤ 1000000) ∧
    (PIf (!decide (a.fst = b.fst))
     ((false = decide (a = b)))
     (PIf ((↑(List.length a.snd) : Int) != (↑(List.length b.snd) : Int))
      ((false = decide (a = b)))
      ((((0 : Int) = 0) ∧ (a.fst = a.fst) ∧ (a.snd = a.snd) ∧ (b.fst = b.fst) ∧ (b.snd = b.snd)) ∧
       (((0 : Int) ≤ 0 ∧ 0 ≤ (↑a.snd.length : Int) ∧ tya (List (Int × List Int)) [] = []) ∧
        (∀ x0 : Int, (0 ≤ x0 ∧ x0 ≤ (↑a.snd.length : Int) ∧ List.take (Int.toNat x0) a.snd = List.take (Int.toNat x0) b.snd) →
         PIf (decide (x0 < (↑(List.length a.snd) : Int)))
          (PIf (decide (0 ≤ x0) && decide (x0 < (↑(List.length a.snd) : Int)))
           (PIf (decide (0 ≤ x0) && decide (x0 < (↑(List.length b.snd) : Int)))
            (PIf (!((List.getD a.snd (Int.toNat x0) (0, List.replicate 64 0)).fst == (List.getD b.snd (Int.toNat x0) (0, List.replicate 64 0)).fst && (decide ((List.getD a.snd (Int.toNat x0) (0, List.replicate 64 0)).snd = (List.getD b.snd (Int.toNat x0) (0, List.replicate 64 0)).snd) && true)))
             ((false = decide (a = b)))
             (((IntKind.i64.wrap (x0 + 1) = IntKind.i64.wrap (x0 + 1)) ∧ (a.fst = a.fst) ∧ (a.snd = a.snd) ∧ (b.fst = b.fst) ∧ (b.snd = b.snd)) ∧
              (((0 ≤ IntKind.i64.wrap (x0 + 1) ∧ IntKind.i64.wrap (x0 + 1) ≤ (↑a.snd.length : Int) ∧ List.take (IntKind.i64.wrap (x0 + 1)).toNat a.snd = List.take (IntKind.i64.wrap (x0 + 1)).toNat b.snd) ∧ ((↑a.snd.length : Int) - IntKind.i64.wrap (x0 + 1)).toNat < ((↑a.snd.length : Int) - x0).toNat) ∧
               (True))))
            (False))
           (False))
          ((true = decide (a = b))))))))) (by kernel_rfl) ?_
  try simp only [PIf_iff, decide_eq_true_eq, decide_eq_false_iff_not, Bool.and_eq_true, Bool.not_eq_true', Bool.not_eq_false', Bool.and_eq_false_iff, Nat.blt_eq, blt_f, beq_iff_eq, beq_eq_false_iff_ne]
  repeat' first | intro _ | apply And.intro
  all_goals first | omega | rfl | exact True.intro | grind [w64, wu64, take_step, take_all, getD_ne]
def showS (m : MedE) (k : Int) : List Int × Int := if rightS m = false then (List.replicate 64 0, 1) else if thereS m k = false then (List.replicate 64 0, 5) else ((allS m).getD k.toNat (List.replicate 64 0), 0)
end Go.Proofs.Ytoiacgfhjikddaa
