/- Layer 3: contracts. -/
import Derived.Test.YtoiacgfhjikddaaWV
import Derived.Test.YtoiacgfhjikddaaProg
set_option linter.unusedSimpArgs false
set_option linter.unusedVariables false
namespace Go.Proofs.Ytoiacgfhjikddaa
open Go.RowKit Vc W
abbrev kBlk : K := .a8 64
abbrev kInt : K := .i .i64
abbrev kDirty : K := .p kInt kBlk
abbrev kMed : K := .p (.sl kBlk) (.sl kDirty)
abbrev kMedN : K := .p (.sn 27 kBlk) (.sn 53 kDirty)
abbrev DirtyE := Int × List Int
abbrev MedE := List (List Int) × List DirtyE
def thereS (m : MedE) (k : Int) : Bool := decide (0 ≤ k) && decide (k < m.1.length)
def rightS (m : MedE) : Bool := decide ((m.1.length : Int) ≤ 64) && (decide ((m.2.length : Int) ≤ 64) && m.2.all fun d => thereS m d.1)
theorem mix : Try.prog.follows .mixedOrders = true := by kernel_rfl
def cRight : Ct := ⟨16, [kMed], fun m => ⟨[.b], True, .val (rightS m)⟩⟩
theorem hRight : Holds Try.prog cRight := holds_by (inl := [(32, Try.f32), (27, Try.f27), (33, Try.f33), (43, Try.f43)]) (cts := []) mix (.cons Try.func32 (by kernel_rfl) (.cons Try.func27 (by kernel_rfl) (.cons Try.func33 (by kernel_rfl) (.cons Try.func43 (by kernel_rfl) .nil)))) .nil Try.func16 (by kernel_rfl) fun (m : MedE) _ => by
  refine ⟨[⟨43, 2, [(.t 0 8, kInt)], [(0, 0), (0, 1), (0, 7), (2, 15)], fun _ (x : Int) => 0 ≤ x ∧ x ≤ m.2.length ∧ ∀ (i : Nat) (d : DirtyE), (i : Int) < x → m.2[i]? = some d → thereS m d.1 = true, fun _ (x : Int) => (m.2.length - x).toNat⟩], ?_⟩
  refine vc_of (B :=
    PIf (decide ((↑(List.length m.fst) : Int) ≤ 64))
    (PIf (decide ((↑(List.length m.snd) : Int) ≤ 64))
     ((((0 : Int) = 0) ∧ (m.snd = m.snd) ∧ ((↑(List.length m.snd) : Int) = (↑(List.length m.snd) : Int)) ∧ (true = true) ∧ (m.fst = m.fst) ∧ (m.snd = m.snd)) ∧
      (((0 : Int) ≤ 0 ∧ 0 ≤ (↑m.snd.length : Int) ∧ ∀ (i : Nat) (d : DirtyE), (↑i : Int) < 0 → m.snd[i]? = some d → thereS m d.fst = true) ∧
       (∀ x0 : Int, (0 ≤ x0 ∧ x0 ≤ (↑m.snd.length : Int) ∧ ∀ (i : Nat) (d : DirtyE), (↑i : Int) < x0 → m.snd[i]? = some d → thereS m d.fst = true) →
        PIf (decide (x0 < (↑(List.length m.snd) : Int)))
         (PIf (decide (0 ≤ x0) && decide (x0 < (↑(List.length m.snd) : Int)))
          (PIf (!(decide ((List.getD m.snd (Int.toNat x0) (0, List.replicate 64 0)).fst ≥ 0) && decide ((List.getD m.snd (Int.toNat x0) (0, List.replicate 64 0)).fst < (↑(List.length m.fst) : Int))))
           (((!decide (x0 ≥ 0)) = rightS m))
           (((IntKind.i64.wrap (x0 + 1) = IntKind.i64.wrap (x0 + 1)) ∧ (m.snd = m.snd) ∧ ((↑(List.length m.snd) : Int) = (↑(List.length m.snd) : Int)) ∧ (true = true) ∧ (m.fst = m.fst) ∧ (m.snd = m.snd)) ∧
            (((0 ≤ IntKind.i64.wrap (x0 + 1) ∧ IntKind.i64.wrap (x0 + 1) ≤ (↑m.snd.length : Int) ∧ ∀ (i : Nat) (d : DirtyE), (↑i : Int) < IntKind.i64.wrap (x0 + 1) → m.snd[i]? = some d → thereS m d.fst = true) ∧ ((↑m.snd.length : Int) - IntKind.i64.wrap (x0 + 1)).toNat < ((↑m.snd.length : Int) - x0).toNat) ∧
             (True))))
          (False))
         ((true = rightS m)))))
     ((false = rightS m)))
    ((false = rightS m))) (by kernel_rfl) ?_
  simp only [PIf_iff, decide_eq_true_eq, decide_eq_false_iff_not, Bool.and_eq_true, Bool.not_eq_true', Bool.not_eq_false', Bool.and_eq_false_iff]
  repeat' first | intro _ | apply And.intro
  all_goals first | rfl | trivial | omega | ((try simp only [IntKind.wrap_i64] at *); first | omega | grind [rightS, thereS, List.mem_iff_getElem?])
def cThere : Ct := ⟨27, [kMed, kInt], fun (x : MedE × Int) => ⟨[.b], True, .val (thereS x.1 x.2)⟩⟩
theorem hThere : Holds Try.prog cThere := holds_by (inl := []) (cts := []) mix .nil .nil Try.func27 (by kernel_rfl) fun (x : MedE × Int) _ => by
  obtain ⟨m, k⟩ := x
  refine ⟨[], ?_⟩
  refine vc_of (B :=
    ((decide (k ≥ 0) && decide (k < (↑(List.length m.fst) : Int))) = thereS m k)) (by kernel_rfl) ?_
  grind [PIf_iff, thereS]
def cCloneB : Ct := ⟨44, [.sb kBlk], fun l => ⟨[.sn 27 kBlk], l.length ≤ 1000000, .val l⟩⟩
theorem hCloneB : Holds Try.prog cCloneB := holds_by (inl := []) (cts := []) mix .nil .nil Try.func44 (by kernel_rfl) fun (l : List (List Int)) hl => by
  have hl : l.length ≤ 1000000 := hl
  refine ⟨[], ?_⟩
  refine vc_of (B :=
    ∀ x0 : Bool, (x0 = true → l = []) →
    PIf x0
     (([] = l))
     (PIf (decide ((0 + l.length) * (65 : Nat) ≤ 140737488355328))
      ((l = l))
      (False))) (by kernel_rfl) ?_
  grind [PIf_iff]
/-- Some writes are done, some stay cached, the others are lost. -/
def doneN (does stays : Int → DirtyE → Bool) (m : MedE) : Nat → MedE
  | 0 => (m.1, [])
  | n + 1 => (match m.2[n]? with
    | some d => if does n d = true then ((doneN does stays m n).1.set d.1.toNat d.2, (doneN does stays m n).2) else if stays n d = true then ((doneN does stays m n).1, (doneN does stays m n).2 ++ [d]) else doneN does stays m n
    | none => doneN does stays m n)
def doneS (does stays : Int → DirtyE → Bool) (m : MedE) : MedE := doneN does stays m m.2.length
theorem doneN_len (does stays : Int → DirtyE → Bool) (m : MedE) : ∀ n, (doneN does stays m n).1.length = m.1.length ∧ (doneN does stays m n).2.length ≤ n
  | 0 => ⟨rfl, Nat.le_refl _⟩
  | n + 1 => by
    have := doneN_len does stays m n
    unfold doneN
    split
    · split
      · simp only [List.length_set]; omega
      · split
        · simp only [List.length_append, List.length_cons, List.length_nil]; omega
        · omega
    · omega
theorem wrap1 {x : Int} (h0 : 0 ≤ x) (h1 : x < 1000000) : IntKind.i64.wrap (x + 1) = x + 1 := by rw [IntKind.wrap_i64]; omega
theorem doneN_at {does stays : Int → DirtyE → Bool} {m : MedE} {x : Int} {z : DirtyE} (h0 : 0 ≤ x) (h1 : x < m.2.length) : doneN does stays m (x + 1).toNat =
    if does x (m.2.getD x.toNat z) = true then ((doneN does stays m x.toNat).1.set (m.2.getD x.toNat z).1.toNat (m.2.getD x.toNat z).2, (doneN does stays m x.toNat).2) else if stays x (m.2.getD x.toNat z) = true then ((doneN does stays m x.toNat).1, (doneN does stays m x.toNat).2 ++ [m.2.getD x.toNat z]) else doneN does stays m x.toNat := by
  have e : (x + 1).toNat = x.toNat + 1 := by omega
  have hl : x.toNat < m.2.length := by omega
  rw [e, doneN, List.getElem?_eq_getElem hl]
  have e2 : m.2.getD x.toNat z = m.2[x.toNat] := by rw [List.getD_eq_getElem?_getD, List.getElem?_eq_getElem hl]; rfl
  have e3 : ((x.toNat : Nat) : Int) = x := by omega
  simp only [e2, e3]
theorem right_of {m : MedE} (h : rightS m = true) : (m.1.length : Int) ≤ 64 ∧ (m.2.length : Int) ≤ 64 ∧ ∀ (x : Int) (z : DirtyE), 0 ≤ x → x < m.2.length → 0 ≤ (m.2.getD x.toNat z).1 ∧ (m.2.getD x.toNat z).1 < m.1.length := by
  simp only [rightS, thereS, Bool.and_eq_true, decide_eq_true_eq, List.all_eq_true] at h
  refine ⟨h.1, h.2.1, fun x z h0 h1 => ?_⟩
  have hl : x.toNat < m.2.length := by omega
  have e2 : m.2.getD x.toNat z = m.2[x.toNat] := by rw [List.getD_eq_getElem?_getD, List.getElem?_eq_getElem hl]; rfl
  rw [e2]; exact h.2.2 _ (List.getElem_mem hl)
def writeD (m : MedE) (k : Int) (th : Bool) (_ : Int) (d : DirtyE) : Bool := (th && decide (d.1 = k)) || (!th && decide ((m.2.length : Int) = 64))
def writeS (m : MedE) (k : Int) (b : List Int) (th : Bool) : MedE × Int :=
  if rightS m = false then (([], []), 1) else if thereS m k = false then (([], []), 5) else
  let r := doneS (writeD m k th) (fun _ _ => true) m
  if th = true then ((r.1.set k.toNat b, r.2), 0) else ((r.1, r.2 ++ [(k, b)]), 0)
def aDone (m : MedE) (keep : List (Nat × Nat)) (does stays : Int → DirtyE → Bool) : Ann :=
  ⟨38, 3, [(.t 0 17, kInt), (.x 0 7, kMedN)], keep, fun _ (x : Int × MedE) => 0 ≤ x.1 ∧ x.1 ≤ m.2.length ∧ x.2 = doneN does stays m x.1.toNat, fun _ (x : Int × MedE) => (m.2.length - x.1).toNat⟩
def cWrite : Ct := ⟨11, [kMed, kInt, kBlk, .b], fun (x : MedE × Int × List Int × Bool) => ⟨[kMed, kInt], True, .val (writeS x.1 x.2.1 x.2.2.1 x.2.2.2)⟩⟩
theorem hWrite : Holds Try.prog cWrite := holds_by (inl := [(29, Try.f29), (38, Try.f38), (40, Try.f40), (41, Try.f41), (28, Try.f28)]) (cts := [cRight, cThere, cCloneB]) mix (.cons Try.func29 (by kernel_rfl) (.cons Try.func38 (by kernel_rfl) (.cons Try.func40 (by kernel_rfl) (.cons Try.func41 (by kernel_rfl) (.cons Try.func28 (by kernel_rfl) .nil))))) (.cons hRight (.cons hThere (.cons hCloneB .nil))) Try.func11 (by kernel_rfl) fun (x : MedE × Int × List Int × Bool) _ => by
  obtain ⟨m, k, b, th⟩ := x
  refine ⟨[aDone m [(0, 1), (0, 2), (0, 6), (0, 7), (0, 15), (0, 16), (1, 4), (2, 5), (2, 6), (2, 7), (2, 8)] (writeD m k th) (fun _ _ => true)], ?_⟩
  refine vc_of (B :=
    (True) ∧
    (PIf (!rightS m)
     (((([], []), 1) = writeS m k b th))
     ((True) ∧
      (PIf (!thereS m k)
       (((([], []), 5) = writeS m k b th))
       ((List.length m.fst ≤ 1000000) ∧
        ((((0 : Int) = 0) ∧ (m.snd = m.snd) ∧ ((↑(List.length m.snd) : Int) = (↑(List.length m.snd) : Int)) ∧ (m.fst = m.fst) ∧ (m.snd = m.snd) ∧ (k = k) ∧ (b = b) ∧ (th = th) ∧ (Value.slice none 0 0 = Value.slice none 0 0) ∧ (Value.slice none 0 0 = Value.slice none 0 0) ∧ (Value.slice none 0 0 = Value.slice none 0 0) ∧ (Value.slice none 0 0 = Value.slice none 0 0) ∧ (Value.slice none 0 0 = Value.slice none 0 0) ∧ (Value.slice none 0 0 = Value.slice none 0 0) ∧ (m.fst = m.fst) ∧ (tya (List (Int × List Int)) [] = [])) ∧
         (((0 : Int) ≤ 0 ∧ 0 ≤ (↑m.snd.length : Int) ∧ (m.fst, []) = doneN (writeD m k th) (fun x x_1 => true) m (Int.toNat 0)) ∧
          (∀ x0 : Int × List (List Int) × List (Int × List Int), (0 ≤ x0.fst ∧ x0.fst ≤ (↑m.snd.length : Int) ∧ x0.snd = doneN (writeD m k th) (fun x x_1 => true) m x0.fst.toNat) →
           PIf (decide (x0.fst < (↑(List.length m.snd) : Int)))
            (PIf (decide (0 ≤ x0.fst) && decide (x0.fst < (↑(List.length m.snd) : Int)))
             (PIf (th && (List.getD m.snd (Int.toNat x0.fst) (0, List.replicate 64 0)).fst == k || !th && (↑(List.length m.snd) : Int) == 64)
              (PIf (decide (0 ≤ (List.getD m.snd (Int.toNat x0.fst) (0, List.replicate 64 0)).fst) && decide ((List.getD m.snd (Int.toNat x0.fst) (0, List.replicate 64 0)).fst < (↑(List.length x0.snd.fst) : Int)))
               (PIf ((Int.toNat (List.getD m.snd (Int.toNat x0.fst) (0, List.replicate 64 0)).fst).blt (List.length x0.snd.fst))
                (((IntKind.i64.wrap (x0.fst + 1) = IntKind.i64.wrap (x0.fst + 1)) ∧ (m.snd = m.snd) ∧ ((↑(List.length m.snd) : Int) = (↑(List.length m.snd) : Int)) ∧ (m.fst = m.fst) ∧ (m.snd = m.snd) ∧ (k = k) ∧ (b = b) ∧ (th = th) ∧ (Value.slice none 0 0 = Value.slice none 0 0) ∧ (Value.slice none 0 0 = Value.slice none 0 0) ∧ (Value.slice none 0 0 = Value.slice none 0 0) ∧ (Value.slice none 0 0 = Value.slice none 0 0) ∧ (Value.slice none 0 0 = Value.slice none 0 0) ∧ (Value.slice none 0 0 = Value.slice none 0 0) ∧ (List.set x0.snd.fst (Int.toNat (List.getD m.snd (Int.toNat x0.fst) (0, List.replicate 64 0)).fst) (List.getD m.snd (Int.toNat x0.fst) (0, List.replicate 64 0)).snd = List.set x0.snd.fst (Int.toNat (List.getD m.snd (Int.toNat x0.fst) (0, List.replicate 64 0)).fst) (List.getD m.snd (Int.toNat x0.fst) (0, List.replicate 64 0)).snd) ∧ (x0.snd.snd = x0.snd.snd)) ∧
                 (((0 ≤ IntKind.i64.wrap (x0.fst + 1) ∧ IntKind.i64.wrap (x0.fst + 1) ≤ (↑m.snd.length : Int) ∧ (List.set x0.snd.fst (Int.toNat (List.getD m.snd (Int.toNat x0.fst) (0, List.replicate 64 0)).fst) (List.getD m.snd (Int.toNat x0.fst) (0, List.replicate 64 0)).snd, x0.snd.snd) = doneN (writeD m k th) (fun x x_1 => true) m (IntKind.i64.wrap (x0.fst + 1)).toNat) ∧ ((↑m.snd.length : Int) - IntKind.i64.wrap (x0.fst + 1)).toNat < ((↑m.snd.length : Int) - x0.fst).toNat) ∧
                  (True)))
                (False))
               (False))
              (PIf (decide ((List.length x0.snd.snd + [List.getD m.snd (Int.toNat x0.fst) (0, List.replicate 64 0)].length) * (72 + 1) ≤ 140737488355328))
               (((IntKind.i64.wrap (x0.fst + 1) = IntKind.i64.wrap (x0.fst + 1)) ∧ (m.snd = m.snd) ∧ ((↑(List.length m.snd) : Int) = (↑(List.length m.snd) : Int)) ∧ (m.fst = m.fst) ∧ (m.snd = m.snd) ∧ (k = k) ∧ (b = b) ∧ (th = th) ∧ (Value.slice none 0 0 = Value.slice none 0 0) ∧ (Value.slice none 0 0 = Value.slice none 0 0) ∧ (Value.slice none 0 0 = Value.slice none 0 0) ∧ (Value.slice none 0 0 = Value.slice none 0 0) ∧ (Value.slice none 0 0 = Value.slice none 0 0) ∧ (Value.slice none 0 0 = Value.slice none 0 0) ∧ (x0.snd.fst = x0.snd.fst) ∧ (x0.snd.snd ++ [List.getD m.snd (Int.toNat x0.fst) (0, List.replicate 64 0)] = x0.snd.snd ++ [List.getD m.snd (Int.toNat x0.fst) (0, List.replicate 64 0)])) ∧
                (((0 ≤ IntKind.i64.wrap (x0.fst + 1) ∧ IntKind.i64.wrap (x0.fst + 1) ≤ (↑m.snd.length : Int) ∧ (x0.snd.fst, x0.snd.snd ++ [List.getD m.snd (Int.toNat x0.fst) (0, List.replicate 64 0)]) = doneN (writeD m k th) (fun x x_1 => true) m (IntKind.i64.wrap (x0.fst + 1)).toNat) ∧ ((↑m.snd.length : Int) - IntKind.i64.wrap (x0.fst + 1)).toNat < ((↑m.snd.length : Int) - x0.fst).toNat) ∧
                 (True)))
               (False)))
             (False))
            (PIf th
             (PIf (decide (0 ≤ k) && decide (k < (↑(List.length x0.snd.fst) : Int)))
              (PIf (k.toNat.blt (List.length x0.snd.fst))
               ((((List.set x0.snd.fst k.toNat b, x0.snd.snd), 0) = writeS m k b th))
               (False))
              (False))
             (PIf (decide ((List.length x0.snd.snd + [(k, b)].length) * (72 + 1) ≤ 140737488355328))
              ((((x0.snd.fst, x0.snd.snd ++ [(k, b)]), 0) = writeS m k b th))
              (False))))))))))) (by kernel_rfl) ?_
  have hl := doneN_len (writeD m k th) (fun _ _ => true) m
  have hR := @right_of m
  try simp only [PIf_iff, decide_eq_true_eq, decide_eq_false_iff_not, Bool.and_eq_true, Bool.not_eq_true', Bool.not_eq_false', Bool.and_eq_false_iff, Nat.blt_eq, blt_f, beq_iff_eq, beq_eq_false_iff_ne]
  repeat' first | intro _ | apply And.intro
  all_goals first | omega | rfl | exact True.intro | grind [w64, wu64, doneN_at, wrap1, writeD, writeS, thereS, doneN, doneS]
end Go.Proofs.Ytoiacgfhjikddaa
