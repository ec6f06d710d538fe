/- Layer 5: reading and putting; the reference's. -/
import Derived.Test.YtnmghlkocljedaaWSA
set_option linter.unusedSimpArgs false
set_option linter.unusedVariables false
namespace Go.Proofs.Ytnmghlkocljedaa
open Go.RowKit Vc W
abbrev kBys : K := .sl (.i .u8)
abbrev kByN : K := .sn 5 (.i .u8)
/-- Blocks are of 64 bytes. -/
def fmL (l : List (List Int)) : Prop := ∀ b ∈ l, b.length = 64
def fmM (m : MedE) : Prop := fmL m.1 ∧ ∀ d ∈ m.2, d.2.length = 64
theorem doneN_fm {does stays : Int → DirtyE → Bool} {m : MedE} (h : fmM m) : ∀ n, fmM (doneN does stays m n)
  | 0 => ⟨h.1, by intro d hd; cases hd⟩
  | n + 1 => by
    have ih := doneN_fm (does := does) (stays := stays) h n
    unfold doneN
    split
    · rename_i d hd
      have hd := h.2 d (List.mem_of_getElem? hd)
      split
      · refine ⟨fun b hb => ?_, ih.2⟩
        rcases List.mem_or_eq_of_mem_set hb with hb | rfl
        · exact ih.1 b hb
        · exact hd
      · split
        · refine ⟨ih.1, fun x hx => ?_⟩
          rcases List.mem_append.1 hx with hx | hx
          · exact ih.2 x hx
          · simp at hx; subst hx; exact hd
        · exact ih
    · exact ih
theorem allS_fm {m : MedE} (h : fmM m) : fmL (allS m) := by
  unfold allS
  split
  · exact (doneN_fm h _).1
  · intro b hb; cases hb
theorem flat_len {l : List (List Int)} (h : fmL l) (k : Nat) : ((l.take k).flatten).length = 64 * min k l.length := by
  induction k generalizing l with
  | zero => simp
  | succ k ih =>
    cases l with
    | nil => simp
    | cons b r =>
      have hb := h b (by simp)
      have hr : fmL r := fun x hx => h x (by simp [hx])
      simp only [List.take_succ_cons, List.flatten_cons, List.length_append, hb, ih hr, List.length_cons]; omega
theorem flat_step {l : List (List Int)} {x : Int} {z : List Int} (h0 : 0 ≤ x) (h1 : x < l.length) : (l.take (x + 1).toNat).flatten = (l.take x.toNat).flatten ++ l.getD x.toNat z := by
  rw [take_step (z := z) h0 h1, List.flatten_append, List.flatten_cons, List.flatten_nil, List.append_nil]
theorem fm_get {l : List (List Int)} (h : fmL l) {x : Int} {z : List Int} (h0 : 0 ≤ x) (h1 : x < l.length) : (l.getD x.toNat z).length = 64 := by
  have hl : x.toNat < l.length := by omega
  rw [List.getD_eq_getElem?_getD, List.getElem?_eq_getElem hl]; exact h _ (List.getElem_mem hl)
def subB (l : List (List Int)) (at_ n : Int) : List (List Int) := (l.drop at_.toNat).take n.toNat
def readB (l : List (List Int)) (at_ n : Int) : List Int × Int := if 64 < (l.length : Int) then ([], 4) else if within l.length at_ n = false then ([], 5) else ((subB l at_ n).flatten, 0)
theorem subB_fm {l : List (List Int)} (h : fmL l) (at_ n : Int) : fmL (subB l at_ n) := fun b hb => h b (List.mem_of_mem_drop (List.mem_of_mem_take hb))
theorem subB_len {l : List (List Int)} {at_ n : Int} (h0 : 0 ≤ at_) (h : within l.length at_ n = true) : (subB l at_ n).length = n.toNat := by
  simp only [within, Bool.and_eq_true, decide_eq_true_eq] at h
  simp only [subB, List.length_take, List.length_drop]; omega
theorem subB_get {l : List (List Int)} {at_ n x : Int} {z : List Int} (h0 : 0 ≤ at_) (hx : 0 ≤ x) (h1 : x < n) (h : within l.length at_ n = true) : (subB l at_ n).getD x.toNat z = l.getD (at_ + x).toNat z := by
  simp only [within, Bool.and_eq_true, decide_eq_true_eq] at h
  simp only [subB, List.getD_eq_getElem?_getD]
  rw [List.getElem?_take, if_pos (by omega), List.getElem?_drop]
  congr 2; omega
def cBRead : Ct := ⟨50, [.sb kBlk, kU64, kInt], fun (x : List (List Int) × Int × Int) => ⟨[kByN, kInt], fmL x.1 ∧ 0 ≤ x.2.1, .val (readB x.1 x.2.1 x.2.2)⟩⟩
theorem hBRead : Holds Try.prog cBRead := holds_by (inl := [(67, Try.f67), (54, Try.f54)]) (cts := []) mix (.cons Try.func67 (by kernel_rfl) (.cons Try.func54 (by kernel_rfl) .nil)) .nil Try.func50 (by kernel_rfl) fun (x : List (List Int) × Int × Int) hx => by
  obtain ⟨l, at_, n⟩ := x
  obtain ⟨hf, ha⟩ : fmL l ∧ 0 ≤ at_ := hx
  refine ⟨[⟨50, 3, [(.t 0 20, kInt), (.t 0 6, kByN)], [(0, 7), (0, 18), (0, 19)], fun x0 (x : Int × List Int) => 0 ≤ x.1 ∧ x.1 ≤ (if 64 < (l.length : Int) ∨ within l.length at_ n = false then 0 else n) ∧ (x.1 = 0 → x.2 = []) ∧ x.2 = ((subB l at_ n).take x.1.toNat).flatten, fun _ (x : Int × List Int) => (64 - x.1).toNat⟩], ?_⟩
  refine vc_of (B :=
    PIf (decide ((↑l.length : Int) > 64))
    ((((0 : Int) = 0) ∧ ((4 : Int) = 4) ∧ (Value.slice none 0 0 = Value.slice none 0 0) ∧ ((0 : Int) = 0) ∧ (tya (List Int) [] = [])) ∧
     (((0 : Int) ≤ 0 ∧ (0 ≤ if 64 < (↑l.length : Int) ∨ within (↑l.length : Int) at_ n = false then 0 else n) ∧ ((0 : Int) = 0 → tya (List Int) [] = []) ∧ tya (List Int) [] = [].flatten) ∧
      (∀ x0 : Int × List Int, (0 ≤ x0.fst ∧ (x0.fst ≤ if 64 < (↑l.length : Int) ∨ within (↑l.length : Int) at_ n = false then 0 else n) ∧ (x0.fst = 0 → x0.snd = []) ∧ x0.snd = (List.take x0.fst.toNat (subB l at_ n)).flatten) →
       PIf (decide (x0.fst < 0))
        (False)
        (((x0.snd, 4) = readB l at_ n)))))
    (PIf (!(decide (n ≥ 0) && decide (n ≤ (↑l.length : Int)) && decide (at_ ≤ IntKind.u64.wrap (IntKind.i64.wrap ((↑l.length : Int) - n)))))
     ((((0 : Int) = 0) ∧ ((5 : Int) = 5) ∧ (Value.slice none 0 0 = Value.slice none 0 0) ∧ ((0 : Int) = 0) ∧ (tya (List Int) [] = [])) ∧
      (((0 : Int) ≤ 0 ∧ (0 ≤ if 64 < (↑l.length : Int) ∨ within (↑l.length : Int) at_ n = false then 0 else n) ∧ ((0 : Int) = 0 → tya (List Int) [] = []) ∧ tya (List Int) [] = [].flatten) ∧
       (∀ x1 : Int × List Int, (0 ≤ x1.fst ∧ (x1.fst ≤ if 64 < (↑l.length : Int) ∨ within (↑l.length : Int) at_ n = false then 0 else n) ∧ (x1.fst = 0 → x1.snd = []) ∧ x1.snd = (List.take x1.fst.toNat (subB l at_ n)).flatten) →
        PIf (decide (x1.fst < 0))
         (False)
         (((x1.snd, 5) = readB l at_ n)))))
     (PIf (decide (0 ≤ at_) && decide (at_ ≤ (↑l.length : Int)))
      (PIf (decide (0 ≤ n) && decide (n ≤ (↑(List.drop at_.toNat l).length : Int)))
       ((((0 : Int) = 0) ∧ ((0 : Int) = 0) ∧ (List.take n.toNat (List.drop at_.toNat l) = List.take n.toNat (List.drop at_.toNat l)) ∧ ((↑(List.take n.toNat (List.drop at_.toNat l)).length : Int) = (↑(List.take n.toNat (List.drop at_.toNat l)).length : Int)) ∧ (tya (List Int) [] = [])) ∧
        (((0 : Int) ≤ 0 ∧ (0 ≤ if 64 < (↑l.length : Int) ∨ within (↑l.length : Int) at_ n = false then 0 else n) ∧ ((0 : Int) = 0 → tya (List Int) [] = []) ∧ tya (List Int) [] = [].flatten) ∧
         (∀ x2 : Int × List Int, (0 ≤ x2.fst ∧ (x2.fst ≤ if 64 < (↑l.length : Int) ∨ within (↑l.length : Int) at_ n = false then 0 else n) ∧ (x2.fst = 0 → x2.snd = []) ∧ x2.snd = (List.take x2.fst.toNat (subB l at_ n)).flatten) →
          PIf (decide (x2.fst < (↑(List.take n.toNat (List.drop at_.toNat l)).length : Int)))
           (PIf (decide (0 ≤ x2.fst) && decide (x2.fst < (↑(List.take n.toNat (List.drop at_.toNat l)).length : Int)))
            (PIf (decide ((List.length x2.snd + List.length ((List.take n.toNat (List.drop at_.toNat l)).getD (Int.toNat x2.fst) (List.replicate 64 0))) * (1 + 1) ≤ 140737488355328))
             (((IntKind.i64.wrap (x2.fst + 1) = IntKind.i64.wrap (x2.fst + 1)) ∧ ((0 : Int) = 0) ∧ (List.take n.toNat (List.drop at_.toNat l) = List.take n.toNat (List.drop at_.toNat l)) ∧ ((↑(List.take n.toNat (List.drop at_.toNat l)).length : Int) = (↑(List.take n.toNat (List.drop at_.toNat l)).length : Int)) ∧ (x2.snd ++ (List.take n.toNat (List.drop at_.toNat l)).getD (Int.toNat x2.fst) (List.replicate 64 0) = x2.snd ++ (List.take n.toNat (List.drop at_.toNat l)).getD (Int.toNat x2.fst) (List.replicate 64 0))) ∧
              (((0 ≤ IntKind.i64.wrap (x2.fst + 1) ∧ (IntKind.i64.wrap (x2.fst + 1) ≤ if 64 < (↑l.length : Int) ∨ within (↑l.length : Int) at_ n = false then 0 else n) ∧ (IntKind.i64.wrap (x2.fst + 1) = 0 → x2.snd ++ (List.take n.toNat (List.drop at_.toNat l)).getD (Int.toNat x2.fst) (List.replicate 64 0) = []) ∧ x2.snd ++ (List.take n.toNat (List.drop at_.toNat l)).getD (Int.toNat x2.fst) (List.replicate 64 0) = (List.take (IntKind.i64.wrap (x2.fst + 1)).toNat (subB l at_ n)).flatten) ∧ (64 - IntKind.i64.wrap (x2.fst + 1)).toNat < (64 - x2.fst).toNat) ∧
               (True)))
             (False))
            (False))
           (((x2.snd, 0) = readB l at_ n)))))
       (False))
      (False)))) (by kernel_rfl) ?_
  have h1 := subB_fm hf at_ n
  have h2 := @subB_len l at_ n ha
  have h3 := flat_len h1
  try simp only [PIf_iff, decide_eq_true_eq, decide_eq_false_iff_not, Bool.and_eq_true, Bool.not_eq_true', Bool.not_eq_false', Bool.and_eq_false_iff, Nat.blt_eq, blt_f, beq_iff_eq, beq_eq_false_iff_ne]
  repeat' first | intro _ | apply And.intro
  all_goals first | omega | rfl | exact True.intro | grind [w64, wu64, readB, within, subB, flat_step, fm_get]
end Go.Proofs.Ytnmghlkocljedaa
