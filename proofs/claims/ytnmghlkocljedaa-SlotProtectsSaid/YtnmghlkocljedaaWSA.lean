/- Layer 5: the slot's contracts. -/
import Derived.Test.YtnmghlkocljedaaWXC
set_option linter.unusedSimpArgs false
set_option linter.unusedVariables false
namespace Go.Proofs.Ytnmghlkocljedaa
open Go.RowKit Vc W
abbrev kSlot : K := .p kMed (.p .b (.p .b .b))
abbrev kSense : K := .p kInt (.p kInt kInt)
abbrev SlotE := MedE × Bool × Bool × Bool
abbrev SenseE := Int × Int × Int
/-- All that is cached is done. -/
theorem flush00 (m : MedE) : flushS m 0 0 = if rightS m = true then ((allS m, []), 0) else (([], []), 1) := by
  unfold flushS allS
  cases h : rightS m with
  | false => simp
  | true =>
    have hl := right_of h
    simp only [Bool.true_eq_false, if_false, if_true]
    rw [if_neg (by omega)]
    have h1 : doneS (flushD 0 (m.1.length : Int)) (fun _ _ => true) m = doneS (fun _ _ => true) (fun _ _ => true) m := doneS_congr fun i d hi => by
      have := right_mem h hi
      refine ⟨?_, fun _ => rfl⟩
      simp only [flushD, Bool.and_eq_true, decide_eq_true_eq]; omega
    rw [h1]
    have h2 : ∀ n, (doneN (fun _ _ => true) (fun _ _ => true) m n).2 = [] := fun n => by
      induction n with
      | zero => rfl
      | succ n ih => unfold doneN; split <;> simp [ih]
    congr 1
    exact Prod.ext rfl (h2 _)
def syncS (s : SlotE) : SlotE := if rightS s.1 = true then ((allS s.1, []), s.2) else s
def insertS (s : SlotE) : SlotE × Bool := ((s.1, true, s.2.2), !s.2.1)
def outS (s : SlotE) : SlotE := ((syncS s).1, false, s.2.2)
def buttonS (s : SlotE) : SlotE × Bool := if s.2.1 = false ∨ s.2.2.2 = true then (s, false) else (outS s, true)
def readyS (s : SlotE) : SenseE := if s.2.1 = true then (0, 0, 0) else (2, 58, 0)
def unloadS (s : SlotE) : SlotE × SenseE := if s.2.1 = false then (s, 2, 58, 0) else if s.2.2.2 = true then (s, 5, 83, 2) else (outS s, 0, 0, 0)
def switchS (s : SlotE) (on : Bool) : SlotE := if on = true ∧ s.2.2.1 = false then ((syncS s).1, s.2.1, on, s.2.2.2) else (s.1, s.2.1, on, s.2.2.2)
def keepS (s : SlotE) (on : Bool) : SlotE × SenseE := if s.2.1 = true then ((s.1, s.2.1, s.2.2.1, on), 0, 0, 0) else (s, 2, 58, 0)
def within (c at_ n : Int) : Bool := decide (0 ≤ n) && (decide (n ≤ c) && decide (at_ ≤ c - n))
def checkS (s : SlotE) (at_ n : Int) (w : Bool) : SenseE := if s.2.1 = false then (2, 58, 0) else if w = true ∧ s.2.2.1 = true then (7, 39, 0) else if within (allS s.1).length at_ n = false then (5, 33, 0) else (0, 0, 0)
def powerS (s : SlotE) (mask : Int) : SlotE := if rightS s.1 = true then ((loseS s.1 mask).1, s.2.1, s.2.2.1, false) else (s.1, s.2.1, s.2.2.1, false)
def cSSync : Ct := ⟨22, [kSlot], fun (s : SlotE) => ⟨[kSlot], True, .val (syncS s)⟩⟩
theorem hSSync : Holds Try.prog cSSync := holds_by (inl := [(46, Try.f46)]) (cts := [cFlush]) mix (.cons Try.func46 (by kernel_rfl) .nil) (.cons hFlush .nil) Try.func22 (by kernel_rfl) fun (s : SlotE) _ => by
  refine ⟨[], ?_⟩
  refine vc_of (B :=
    ((0 : Int) < 9223372036854775808) ∧
    (PIf ((flushS s.fst 0 0).snd == 0)
     ((((flushS s.fst 0 0).fst, s.snd) = syncS s))
     ((s = syncS s)))) (by kernel_rfl) ?_
  rw [flush00]
  try simp only [PIf_iff, decide_eq_true_eq, decide_eq_false_iff_not, Bool.and_eq_true, Bool.not_eq_true', Bool.not_eq_false', Bool.and_eq_false_iff, Nat.blt_eq, blt_f, beq_iff_eq, beq_eq_false_iff_ne]
  repeat' first | intro _ | apply And.intro
  all_goals first | omega | rfl | exact True.intro | grind [w64, wu64, syncS]
def cSInsert : Ct := ⟨11, [kSlot], fun (s : SlotE) => ⟨[kSlot, .b], True, .val (insertS s)⟩⟩
theorem hSInsert : Holds Try.prog cSInsert := holds_by (inl := []) (cts := []) mix .nil .nil Try.func11 (by kernel_rfl) fun (s : SlotE) _ => by
  refine ⟨[], ?_⟩
  refine vc_of (B :=
    (((s.fst, true, s.snd.snd), !s.snd.fst) = insertS s)) (by kernel_rfl) ?_
  try simp only [PIf_iff, decide_eq_true_eq, decide_eq_false_iff_not, Bool.and_eq_true, Bool.not_eq_true', Bool.not_eq_false', Bool.and_eq_false_iff, Nat.blt_eq, blt_f, beq_iff_eq, beq_eq_false_iff_ne]
  repeat' first | intro _ | apply And.intro
  all_goals first | omega | rfl | exact True.intro | grind [w64, wu64, insertS]
def cSButton : Ct := ⟨13, [kSlot], fun (s : SlotE) => ⟨[kSlot, .b], True, .val (buttonS s)⟩⟩
theorem hSButton : Holds Try.prog cSButton := holds_by (inl := [(41, Try.f41)]) (cts := [cSSync]) mix (.cons Try.func41 (by kernel_rfl) .nil) (.cons hSSync .nil) Try.func13 (by kernel_rfl) fun (s : SlotE) _ => by
  refine ⟨[], ?_⟩
  refine vc_of (B :=
    PIf (!s.snd.fst || s.snd.snd.snd)
    (((s, false) = buttonS s))
    ((True) ∧
     (((((syncS s).fst, false, (syncS s).snd.snd), true) = buttonS s)))) (by kernel_rfl) ?_
  try simp only [PIf_iff, decide_eq_true_eq, decide_eq_false_iff_not, Bool.and_eq_true, Bool.not_eq_true', Bool.not_eq_false', Bool.and_eq_false_iff, Nat.blt_eq, blt_f, beq_iff_eq, beq_eq_false_iff_ne]
  repeat' first | intro _ | apply And.intro
  all_goals first | omega | rfl | exact True.intro | grind [w64, wu64, buttonS, outS, syncS]
def cSReady : Ct := ⟨26, [kSlot], fun (s : SlotE) => ⟨[kSense], True, .val (readyS s)⟩⟩
theorem hSReady : Holds Try.prog cSReady := holds_by (inl := [(49, Try.f49)]) (cts := []) mix (.cons Try.func49 (by kernel_rfl) .nil) .nil Try.func26 (by kernel_rfl) fun (s : SlotE) _ => by
  refine ⟨[], ?_⟩
  refine vc_of (B :=
    PIf (!s.snd.fst)
    (((2, 58, 0) = readyS s))
    (((0, 0, 0) = readyS s))) (by kernel_rfl) ?_
  try simp only [PIf_iff, decide_eq_true_eq, decide_eq_false_iff_not, Bool.and_eq_true, Bool.not_eq_true', Bool.not_eq_false', Bool.and_eq_false_iff, Nat.blt_eq, blt_f, beq_iff_eq, beq_eq_false_iff_ne]
  repeat' first | intro _ | apply And.intro
  all_goals first | omega | rfl | exact True.intro | grind [w64, wu64, readyS]
def cSUnload : Ct := ⟨15, [kSlot], fun (s : SlotE) => ⟨[kSlot, kSense], True, .val (unloadS s)⟩⟩
theorem hSUnload : Holds Try.prog cSUnload := holds_by (inl := [(41, Try.f41), (26, Try.f26), (49, Try.f49), (42, Try.f42), (43, Try.f43), (60, Try.f60)]) (cts := [cSSync]) mix (.cons Try.func41 (by kernel_rfl) (.cons Try.func26 (by kernel_rfl) (.cons Try.func49 (by kernel_rfl) (.cons Try.func42 (by kernel_rfl) (.cons Try.func43 (by kernel_rfl) (.cons Try.func60 (by kernel_rfl) .nil)))))) (.cons hSSync .nil) Try.func15 (by kernel_rfl) fun (s : SlotE) _ => by
  refine ⟨[], ?_⟩
  refine vc_of (B :=
    PIf (!s.snd.fst)
    ((((s, 2, 58, 0) = unloadS s)) ∧
     (((s, 2, 58, 0) = unloadS s)))
    (PIf s.snd.snd.snd
     ((((s, 5, 83, 2) = unloadS s)) ∧
      (((s, 5, 83, 2) = unloadS s)))
     ((True) ∧
      (((((syncS s).fst, false, (syncS s).snd.snd), 0, 0, 0) = unloadS s))))) (by kernel_rfl) ?_
  try simp only [PIf_iff, decide_eq_true_eq, decide_eq_false_iff_not, Bool.and_eq_true, Bool.not_eq_true', Bool.not_eq_false', Bool.and_eq_false_iff, Nat.blt_eq, blt_f, beq_iff_eq, beq_eq_false_iff_ne]
  repeat' first | intro _ | apply And.intro
  all_goals first | omega | rfl | exact True.intro | grind [w64, wu64, unloadS, outS, syncS]
def cSSwitch : Ct := ⟨20, [kSlot, .b], fun (x : SlotE × Bool) => ⟨[kSlot], True, .val (switchS x.1 x.2)⟩⟩
theorem hSSwitch : Holds Try.prog cSSwitch := holds_by (inl := []) (cts := [cSSync]) mix .nil (.cons hSSync .nil) Try.func20 (by kernel_rfl) fun (x : SlotE × Bool) _ => by
  obtain ⟨s, on⟩ := x
  refine ⟨[], ?_⟩
  refine vc_of (B :=
    PIf (on && !s.snd.snd.fst)
    ((True) ∧
     ((((syncS s).fst, (syncS s).snd.fst, on, (syncS s).snd.snd.snd) = switchS s on)))
    (((s.fst, s.snd.fst, on, s.snd.snd.snd) = switchS s on))) (by kernel_rfl) ?_
  try simp only [PIf_iff, decide_eq_true_eq, decide_eq_false_iff_not, Bool.and_eq_true, Bool.not_eq_true', Bool.not_eq_false', Bool.and_eq_false_iff, Nat.blt_eq, blt_f, beq_iff_eq, beq_eq_false_iff_ne]
  repeat' first | intro _ | apply And.intro
  all_goals first | omega | rfl | exact True.intro | grind [w64, wu64, switchS, syncS]
def cSKeep : Ct := ⟨17, [kSlot, .b], fun (x : SlotE × Bool) => ⟨[kSlot, kSense], True, .val (keepS x.1 x.2)⟩⟩
theorem hSKeep : Holds Try.prog cSKeep := holds_by (inl := [(26, Try.f26), (49, Try.f49), (42, Try.f42)]) (cts := []) mix (.cons Try.func26 (by kernel_rfl) (.cons Try.func49 (by kernel_rfl) (.cons Try.func42 (by kernel_rfl) .nil))) .nil Try.func17 (by kernel_rfl) fun (x : SlotE × Bool) _ => by
  obtain ⟨s, on⟩ := x
  refine ⟨[], ?_⟩
  refine vc_of (B :=
    PIf (!s.snd.fst)
    ((((s, 2, 58, 0) = keepS s on)) ∧
     (((s, 2, 58, 0) = keepS s on)))
    (((((s.fst, s.snd.fst, s.snd.snd.fst, on), 0, 0, 0) = keepS s on)) ∧
     ((((s.fst, s.snd.fst, s.snd.snd.fst, on), 0, 0, 0) = keepS s on)))) (by kernel_rfl) ?_
  try simp only [PIf_iff, decide_eq_true_eq, decide_eq_false_iff_not, Bool.and_eq_true, Bool.not_eq_true', Bool.not_eq_false', Bool.and_eq_false_iff, Nat.blt_eq, blt_f, beq_iff_eq, beq_eq_false_iff_ne]
  repeat' first | intro _ | apply And.intro
  all_goals first | omega | rfl | exact True.intro | grind [w64, wu64, keepS]
def cSCheck : Ct := ⟨30, [kSlot, kU64, kInt, .b], fun (x : SlotE × Int × Int × Bool) => ⟨[kSense], True, .val (checkS x.1 x.2.1 x.2.2.1 x.2.2.2)⟩⟩
theorem hSCheck : Holds Try.prog cSCheck := holds_by (inl := [(26, Try.f26), (49, Try.f49), (42, Try.f42), (53, Try.f53), (55, Try.f55), (60, Try.f60), (54, Try.f54)]) (cts := [cAll]) mix (.cons Try.func26 (by kernel_rfl) (.cons Try.func49 (by kernel_rfl) (.cons Try.func42 (by kernel_rfl) (.cons Try.func53 (by kernel_rfl) (.cons Try.func55 (by kernel_rfl) (.cons Try.func60 (by kernel_rfl) (.cons Try.func54 (by kernel_rfl) .nil))))))) (.cons hAll .nil) Try.func30 (by kernel_rfl) fun (x : SlotE × Int × Int × Bool) _ => by
  obtain ⟨s, at_, n, w⟩ := x
  refine ⟨[], ?_⟩
  refine vc_of (B :=
    PIf (!s.snd.fst)
    (((2, 58, 0) = checkS s at_ n w))
    (PIf (w && s.snd.snd.fst)
     (((7, 39, 0) = checkS s at_ n w))
     ((True) ∧
      (PIf (!(decide (n ≥ 0) && decide (n ≤ (↑(allS s.fst).length : Int)) && decide (at_ ≤ IntKind.u64.wrap (IntKind.i64.wrap ((↑(allS s.fst).length : Int) - n)))))
       (((5, 33, 0) = checkS s at_ n w))
       (((0, 0, 0) = checkS s at_ n w)))))) (by kernel_rfl) ?_
  have h2 := allS_len s.1
  try simp only [PIf_iff, decide_eq_true_eq, decide_eq_false_iff_not, Bool.and_eq_true, Bool.not_eq_true', Bool.not_eq_false', Bool.and_eq_false_iff, Nat.blt_eq, blt_f, beq_iff_eq, beq_eq_false_iff_ne]
  repeat' first | intro _ | apply And.intro
  all_goals first | omega | rfl | exact True.intro | grind [w64, wu64, checkS, within]
def cSPower : Ct := ⟨24, [kSlot, kU64], fun (x : SlotE × Int) => ⟨[kSlot], 0 ≤ x.2 ∧ x.2 < 18446744073709551616, .val (powerS x.1 x.2)⟩⟩
theorem hSPower : Holds Try.prog cSPower := holds_by (inl := [(46, Try.f46)]) (cts := [cLose]) mix (.cons Try.func46 (by kernel_rfl) .nil) (.cons hLose .nil) Try.func24 (by kernel_rfl) fun (x : SlotE × Int) hx => by
  obtain ⟨s, mask⟩ := x
  have hx : 0 ≤ mask ∧ mask < 18446744073709551616 := hx
  refine ⟨[], ?_⟩
  refine vc_of (B :=
    (0 ≤ mask ∧ mask < 18446744073709551616) ∧
    (PIf ((loseS s.fst mask).snd == 0)
     ((((loseS s.fst mask).fst, s.snd.fst, s.snd.snd.fst, false) = powerS s mask))
     (((s.fst, s.snd.fst, s.snd.snd.fst, false) = powerS s mask)))) (by kernel_rfl) ?_
  try simp only [PIf_iff, decide_eq_true_eq, decide_eq_false_iff_not, Bool.and_eq_true, Bool.not_eq_true', Bool.not_eq_false', Bool.and_eq_false_iff, Nat.blt_eq, blt_f, beq_iff_eq, beq_eq_false_iff_ne]
  repeat' first | intro _ | apply And.intro
  all_goals first | omega | rfl | exact True.intro | grind [w64, wu64, powerS, loseS]
def cR4Of : Ct := ⟨38, [kInt, kInt, kInt], fun x => ⟨[kSense], True, .val x⟩⟩
theorem hR4Of : Holds Try.prog cR4Of := holds_by (inl := []) (cts := []) mix .nil .nil Try.func38 (by kernel_rfl) fun (x : SenseE) _ => by
  refine ⟨[], ?_⟩
  refine vc_of (B :=
    (x = x)) (by kernel_rfl) ?_
  try simp only [PIf_iff, decide_eq_true_eq, decide_eq_false_iff_not, Bool.and_eq_true, Bool.not_eq_true', Bool.not_eq_false', Bool.and_eq_false_iff, Nat.blt_eq, blt_f, beq_iff_eq, beq_eq_false_iff_ne]
  repeat' first | intro _ | apply And.intro
  all_goals first | omega | rfl | exact True.intro | grind [w64, wu64]
end Go.Proofs.Ytnmghlkocljedaa
