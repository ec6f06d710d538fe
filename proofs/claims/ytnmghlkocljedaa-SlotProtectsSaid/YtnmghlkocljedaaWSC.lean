/- Layer 5: reading and putting, and the reference's answers. -/
import Derived.Test.YtnmghlkocljedaaWSB
set_option linter.unusedSimpArgs false
set_option linter.unusedVariables false
namespace Go.Proofs.Ytnmghlkocljedaa
open Go.RowKit Vc W
def readSl (s : SlotE) (at_ n : Int) : List Int × SenseE := if checkS s at_ n false = (0, 0, 0) then ((readB (allS s.1) at_ n).1, checkS s at_ n false) else ([], checkS s at_ n false)
def cSRead : Ct := ⟨28, [kSlot, kU64, kInt], fun (x : SlotE × Int × Int) => ⟨[kBys, kSense], fmM x.1.1 ∧ 0 ≤ x.2.1 ∧ x.2.1 < 18446744073709551616, .val (readSl x.1 x.2.1 x.2.2)⟩⟩
theorem hSRead : Holds Try.prog cSRead := holds_by (inl := [(42, Try.f42)]) (cts := [cSCheck, cAll, cBRead]) mix (.cons Try.func42 (by kernel_rfl) .nil) (.cons hSCheck (.cons hAll (.cons hBRead .nil))) Try.func28 (by kernel_rfl) fun (x : SlotE × Int × Int) hx => by
  obtain ⟨s, at_, n⟩ := x
  obtain ⟨hf, ha⟩ : fmM s.1 ∧ 0 ≤ at_ ∧ at_ < 18446744073709551616 := hx
  refine ⟨[], ?_⟩
  refine vc_of (B :=
    (True) ∧
    (PIf (!((checkS s at_ n false).fst == 0 && ((checkS s at_ n false).snd.fst == 0 && ((checkS s at_ n false).snd.snd == 0 && true))))
     ((([], checkS s at_ n false) = readSl s at_ n))
     ((True) ∧
      ((fmL (allS s.fst) ∧ 0 ≤ at_) ∧
       ((((readB (allS s.fst) at_ n).fst, checkS s at_ n false) = readSl s at_ n)))))) (by kernel_rfl) ?_
  have h1 := allS_fm hf
  try simp only [PIf_iff, decide_eq_true_eq, decide_eq_false_iff_not, Bool.and_eq_true, Bool.not_eq_true', Bool.not_eq_false', Bool.and_eq_false_iff, Nat.blt_eq, blt_f, beq_iff_eq, beq_eq_false_iff_ne]
  repeat' first | intro _ | apply And.intro
  all_goals first | omega | rfl | exact True.intro | grind [w64, wu64, readSl, fmL]
theorem check_put {s : SlotE} {k : Int} (h : checkS s (IntKind.u64.wrap k) 1 true = (0, 0, 0)) (h0 : -9223372036854775808 ≤ k) (h1 : k < 9223372036854775808) : rightS s.1 = true ∧ thereS s.1 k = true := by
  have hl := allS_len s.1
  have hr : rightS s.1 = true ∨ allS s.1 = [] := by
    unfold allS
    split
    · exact .inl (by assumption)
    · exact .inr rfl
  have hll : rightS s.1 = true → (allS s.1).length = s.1.1.length := fun h => by
    unfold allS; rw [if_pos h]; exact (doneS_len _ _ _).1
  have hu : (0 ≤ k → IntKind.u64.wrap k = k) ∧ (k < 0 → IntKind.u64.wrap k = k + 18446744073709551616) := by
    simp only [IntKind.wrap, IntKind.bits, IntKind.signed]; simp; omega
  simp only [checkS] at h
  split at h
  · simp at h
  · split at h
    · simp at h
    · split at h
      · simp at h
      · rename_i hw
        simp only [within, Bool.not_eq_false, Bool.and_eq_true, decide_eq_true_eq] at hw
        have hk : 0 ≤ k := by
          rcases Int.lt_or_le k 0 with h | h
          · have := hu.2 h; omega
          · exact h
        have hk2 := hu.1 hk
        rcases hr with hr | hr
        · exact ⟨hr, by simp only [thereS, Bool.and_eq_true, decide_eq_true_eq]; have := hll hr; omega⟩
        · rw [hr] at hw; simp at hw
theorem write_ok {m : MedE} {k : Int} {b : List Int} {th : Bool} (h1 : rightS m = true) (h2 : thereS m k = true) : (writeS m k b th).2 = 0 := by
  unfold writeS
  rw [if_neg (by simp [h1]), if_neg (by simp [h2])]
  dsimp only; split <;> rfl
def putS (s : SlotE) (k : Int) (b : List Int) (th : Bool) : SlotE × SenseE := if checkS s (IntKind.u64.wrap k) 1 true = (0, 0, 0) then (((writeS s.1 k b th).1, s.2), 0, 0, 0) else (s, checkS s (IntKind.u64.wrap k) 1 true)
def cSPut : Ct := ⟨32, [kSlot, kInt, kBlk, .b], fun (x : SlotE × Int × List Int × Bool) => ⟨[kSlot, kSense], -9223372036854775808 ≤ x.2.1 ∧ x.2.1 < 9223372036854775808, .val (putS x.1 x.2.1 x.2.2.1 x.2.2.2)⟩⟩
theorem hSPut : Holds Try.prog cSPut := holds_by (inl := [(42, Try.f42), (46, Try.f46)]) (cts := [cSCheck, cWrite]) mix (.cons Try.func42 (by kernel_rfl) (.cons Try.func46 (by kernel_rfl) .nil)) (.cons hSCheck (.cons hWrite .nil)) Try.func32 (by kernel_rfl) fun (x : SlotE × Int × List Int × Bool) hx => by
  obtain ⟨s, k, b, th⟩ := x
  have hx : -9223372036854775808 ≤ k ∧ k < 9223372036854775808 := hx
  refine ⟨[], ?_⟩
  refine vc_of (B :=
    (True) ∧
    (PIf (!((checkS s (IntKind.u64.wrap k) 1 true).fst == 0 && ((checkS s (IntKind.u64.wrap k) 1 true).snd.fst == 0 && ((checkS s (IntKind.u64.wrap k) 1 true).snd.snd == 0 && true))))
     ((((s, checkS s (IntKind.u64.wrap k) 1 true) = putS s k b th)) ∧
      (((s, checkS s (IntKind.u64.wrap k) 1 true) = putS s k b th)))
     ((True) ∧
      ((PIf ((writeS s.fst k b th).snd == 0)
        ((((((writeS s.fst k b th).fst, s.snd), checkS s (IntKind.u64.wrap k) 1 true) = putS s k b th)) ∧
         (((((writeS s.fst k b th).fst, s.snd), checkS s (IntKind.u64.wrap k) 1 true) = putS s k b th)))
        ((((s, checkS s (IntKind.u64.wrap k) 1 true) = putS s k b th)) ∧
         (((s, checkS s (IntKind.u64.wrap k) 1 true) = putS s k b th)))) ∧
       (PIf ((writeS s.fst k b th).snd == 0)
        (((((writeS s.fst k b th).fst, s.snd), checkS s (IntKind.u64.wrap k) 1 true) = putS s k b th))
        (((s, checkS s (IntKind.u64.wrap k) 1 true) = putS s k b th))))))) (by kernel_rfl) ?_
  have h1 := fun h => @check_put s k h hx.1 hx.2
  have h2 := @write_ok s.1 k b th
  try simp only [PIf_iff, decide_eq_true_eq, decide_eq_false_iff_not, Bool.and_eq_true, Bool.not_eq_true', Bool.not_eq_false', Bool.and_eq_false_iff, Nat.blt_eq, blt_f, beq_iff_eq, beq_eq_false_iff_ne]
  repeat' first | intro _ | apply And.intro
  all_goals first | omega | rfl | exact True.intro | grind [w64, wu64, putS]
end Go.Proofs.Ytnmghlkocljedaa
