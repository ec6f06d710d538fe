/- Layer 5: the reference's answers. -/
import Derived.Test.YtnmghlkocljedaaWSC
import Derived.Test.YtnmghlkocljedaaWXD
set_option linter.unusedSimpArgs false
set_option linter.unusedVariables false
namespace Go.Proofs.Ytnmghlkocljedaa
open Go.RowKit Vc W
theorem read_step {l : List (List Int)} {at_ n x y : Int} {z : List Int} {b : List Int} (h0 : 0 ≤ x) (h1 : x < n) (hy : y = at_ + x) (ha : 0 ≤ at_) (hw : within l.length at_ n = true) (hb : b = ((subB l at_ n).take x.toNat).flatten) : b ++ l.getD y.toNat z = ((subB l at_ n).take (x + 1).toNat).flatten := by
  have h2 := subB_len ha hw
  rw [flat_step (z := z) h0 (by omega), subB_get ha h0 h1 hw, hb, hy]
def cR2Within : Ct := ⟨56, [kInt, kU64, kInt], fun (x : Int × Int × Int) => ⟨[.b], 0 ≤ x.1 ∧ x.1 < 9223372036854775808 ∧ 0 ≤ x.2.1, .val (within x.1 x.2.1 x.2.2)⟩⟩
theorem hR2Within : Holds Try.prog cR2Within := holds_by (inl := []) (cts := []) mix .nil .nil Try.func56 (by kernel_rfl) fun (x : Int × Int × Int) hx => by
  obtain ⟨c, at_, n⟩ := x
  have hx : 0 ≤ c ∧ c < 9223372036854775808 ∧ 0 ≤ at_ := hx
  refine ⟨[], ?_⟩
  refine vc_of (B :=
    PIf (decide (n < 0) || decide (c < n))
    ((false = within c at_ n))
    ((decide (at_ ≤ IntKind.u64.wrap (IntKind.i64.wrap (c - n))) = within c at_ n))) (by kernel_rfl) ?_
  try simp only [PIf_iff, decide_eq_true_eq, decide_eq_false_iff_not, Bool.and_eq_true, Bool.not_eq_true', Bool.not_eq_false', Bool.and_eq_false_iff, Nat.blt_eq, blt_f, beq_iff_eq, beq_eq_false_iff_ne]
  repeat' first | intro _ | apply And.intro
  all_goals first | omega | rfl | exact True.intro | grind [w64, wu64, within]
def cR2Read : Ct := ⟨52, [.sb kBlk, kU64, kInt], fun (x : List (List Int) × Int × Int) => ⟨[kByN, kInt], fmL x.1 ∧ 0 ≤ x.2.1 ∧ x.2.1 < 18446744073709551616, .val (readB x.1 x.2.1 x.2.2)⟩⟩
theorem hR2Read : Holds Try.prog cR2Read := holds_by (inl := []) (cts := [cR2Within]) mix .nil (.cons hR2Within .nil) Try.func52 (by kernel_rfl) fun (x : List (List Int) × Int × Int) hx => by
  obtain ⟨l, at_, n⟩ := x
  obtain ⟨hf, ha⟩ : fmL l ∧ 0 ≤ at_ ∧ at_ < 18446744073709551616 := hx
  refine ⟨[⟨52, 7, [(.t 0 9, kInt), (.t 0 8, kByN)], [(0, 0), (0, 1), (0, 2)], fun _ (x : Int × List Int) => 0 ≤ x.1 ∧ x.1 ≤ n ∧ x.2 = ((subB l at_ n).take x.1.toNat).flatten, fun _ (x : Int × List Int) => (n - x.1).toNat⟩,
    ⟨52, 11, [(.t 0 11, kInt), (.t 0 8, kByN), (.t 0 9, kInt)], [(0, 0), (0, 1), (0, 2), (0, 10)], fun (x0 x : Int × List Int × Int) => 0 ≤ x.1 ∧ x.1 ≤ 64 ∧ x.2.2 = x0.2.2 ∧ x.2.1 = x0.2.1 ++ (l.getD (at_ + x0.2.2).toNat (List.replicate 64 0)).take x.1.toNat, fun _ (x : Int × List Int × Int) => (64 - x.1).toNat⟩], ?_⟩
  refine vc_of (B :=
    PIf (decide ((↑l.length : Int) > 64))
    ((([], 4) = readB l at_ n))
    ((0 ≤ (↑l.length : Int) ∧ (↑l.length : Int) < 9223372036854775808 ∧ 0 ≤ at_) ∧
     (PIf (!within (↑l.length : Int) at_ n)
      ((([], 5) = readB l at_ n))
      ((((0 : Int) = 0) ∧ (l = l) ∧ (at_ = at_) ∧ (n = n) ∧ (tya (List Int) [] = [])) ∧
       (((0 : Int) ≤ 0 ∧ 0 ≤ n ∧ tya (List Int) [] = [].flatten) ∧
        (∀ x0 : Int × List Int, (0 ≤ x0.fst ∧ x0.fst ≤ n ∧ x0.snd = (List.take x0.fst.toNat (subB l at_ n)).flatten) →
         PIf (decide (x0.fst < n))
          (PIf (decide (0 ≤ IntKind.i64.wrap (IntKind.i64.wrap at_ + x0.fst)) && decide (IntKind.i64.wrap (IntKind.i64.wrap at_ + x0.fst) < (↑l.length : Int)))
           (((x0.fst = x0.fst) ∧ ((0 : Int) = 0) ∧ (l = l) ∧ (at_ = at_) ∧ (n = n) ∧ (l.getD (IntKind.i64.wrap (IntKind.i64.wrap at_ + x0.fst)).toNat (List.replicate 64 0) = l.getD (IntKind.i64.wrap (IntKind.i64.wrap at_ + x0.fst)).toNat (List.replicate 64 0)) ∧ (x0.snd = x0.snd)) ∧
            (((0 : Int) ≤ 0 ∧ (0 : Int) ≤ 64 ∧ x0.fst = x0.fst ∧ x0.snd = x0.snd ++ []) ∧
             (∀ x1 : Int × List Int × Int, (0 ≤ x1.fst ∧ x1.fst ≤ 64 ∧ x1.snd.snd = x0.fst ∧ x1.snd.fst = x0.snd ++ List.take x1.fst.toNat (l.getD (at_ + x0.fst).toNat (List.replicate 64 0))) →
              PIf (decide (x1.fst < 64))
               (PIf (decide (0 ≤ x1.fst) && decide (x1.fst < 64))
                (PIf (decide (x1.fst < 64))
                 (PIf (decide ((List.length x1.snd.fst + [List.getD (l.getD (IntKind.i64.wrap (IntKind.i64.wrap at_ + x0.fst)).toNat (List.replicate 64 0)) (Int.toNat x1.fst) 0].length) * (1 + 1) ≤ 140737488355328))
                  (((x1.snd.snd = x1.snd.snd) ∧ (IntKind.i64.wrap (x1.fst + 1) = IntKind.i64.wrap (x1.fst + 1)) ∧ (l = l) ∧ (at_ = at_) ∧ (n = n) ∧ (l.getD (IntKind.i64.wrap (IntKind.i64.wrap at_ + x0.fst)).toNat (List.replicate 64 0) = l.getD (IntKind.i64.wrap (IntKind.i64.wrap at_ + x0.fst)).toNat (List.replicate 64 0)) ∧ (x1.snd.fst ++ [List.getD (l.getD (IntKind.i64.wrap (IntKind.i64.wrap at_ + x0.fst)).toNat (List.replicate 64 0)) (Int.toNat x1.fst) 0] = x1.snd.fst ++ [List.getD (l.getD (IntKind.i64.wrap (IntKind.i64.wrap at_ + x0.fst)).toNat (List.replicate 64 0)) (Int.toNat x1.fst) 0])) ∧
                   (((0 ≤ IntKind.i64.wrap (x1.fst + 1) ∧ IntKind.i64.wrap (x1.fst + 1) ≤ 64 ∧ x1.snd.snd = x0.fst ∧ x1.snd.fst ++ [List.getD (l.getD (IntKind.i64.wrap (IntKind.i64.wrap at_ + x0.fst)).toNat (List.replicate 64 0)) (Int.toNat x1.fst) 0] = x0.snd ++ List.take (IntKind.i64.wrap (x1.fst + 1)).toNat (l.getD (at_ + x0.fst).toNat (List.replicate 64 0))) ∧ (64 - IntKind.i64.wrap (x1.fst + 1)).toNat < (64 - x1.fst).toNat) ∧
                    (True)))
                  (False))
                 (False))
                (False))
               (((IntKind.i64.wrap (x1.snd.snd + 1) = IntKind.i64.wrap (x1.snd.snd + 1)) ∧ (l = l) ∧ (at_ = at_) ∧ (n = n) ∧ (x1.snd.fst = x1.snd.fst)) ∧
                (((0 ≤ IntKind.i64.wrap (x1.snd.snd + 1) ∧ IntKind.i64.wrap (x1.snd.snd + 1) ≤ n ∧ x1.snd.fst = (List.take (IntKind.i64.wrap (x1.snd.snd + 1)).toNat (subB l at_ n)).flatten) ∧ (n - IntKind.i64.wrap (x1.snd.snd + 1)).toNat < (n - x0.fst).toNat) ∧
                 (True))))))
           (False))
          (((x0.snd, 0) = readB l at_ n)))))))) (by kernel_rfl) ?_
  have h1 := subB_fm hf at_ n
  have h2 := @subB_len l at_ n ha.1
  have h3 := flat_len h1
  try simp only [PIf_iff, decide_eq_true_eq, decide_eq_false_iff_not, Bool.and_eq_true, Bool.not_eq_true', Bool.not_eq_false', Bool.and_eq_false_iff, Nat.blt_eq, blt_f, beq_iff_eq, beq_eq_false_iff_ne]
  repeat' first | intro _ | apply And.intro
  all_goals first | omega | rfl | exact True.intro | grind [w64, wu64, readB, within, flat_step, fm_get, take_step] | skip
  all_goals
    rename_i hl hw x0 hx0 hlt hi x1 hx1 hne
    have hw' := hw
    simp only [within, Bool.and_eq_true, decide_eq_true_eq] at hw'
    have hg : (l.getD (at_ + x0.1).toNat (List.replicate 64 0)).length = 64 := fm_get hf (x := at_ + x0.1) (by omega) (by omega)
    rw [hx1.2.2.1, w64 (by omega) (by omega), hx1.2.2.2, List.take_of_length_le (by omega)]
    exact read_step hx0.1 hlt rfl ha.1 hw hx0.2.2
def cR5Sync : Ct := ⟨23, [kSlot], fun (s : SlotE) => ⟨[kSlot], True, .val (syncS s)⟩⟩
theorem hR5Sync : Holds Try.prog cR5Sync := holds_by (inl := []) (cts := [cR3Right, cR3All]) mix .nil (.cons hR3Right (.cons hR3All .nil)) Try.func23 (by kernel_rfl) fun (s : SlotE) _ => by
  refine ⟨[], ?_⟩
  refine vc_of (B :=
    (True) ∧
    (PIf (rightS s.fst)
     ((True) ∧
      ((((allS s.fst, []), s.snd) = syncS s)))
     ((s = syncS s)))) (by kernel_rfl) ?_
  try simp only [PIf_iff, decide_eq_true_eq, decide_eq_false_iff_not, Bool.and_eq_true, Bool.not_eq_true', Bool.not_eq_false', Bool.and_eq_false_iff, Nat.blt_eq, blt_f, beq_iff_eq, beq_eq_false_iff_ne]
  repeat' first | intro _ | apply And.intro
  all_goals first | omega | rfl | exact True.intro | grind [w64, wu64, syncS]
def cR5Insert : Ct := ⟨12, [kSlot], fun (s : SlotE) => ⟨[kSlot, .b], True, .val (insertS s)⟩⟩
theorem hR5Insert : Holds Try.prog cR5Insert := holds_by (inl := []) (cts := []) mix .nil .nil Try.func12 (by kernel_rfl) fun (s : SlotE) _ => by
  refine ⟨[], ?_⟩
  refine vc_of (B :=
    PIf s.snd.fst
    (((s, false) = insertS s))
    ((((s.fst, true, s.snd.snd), true) = insertS s))) (by kernel_rfl) ?_
  try simp only [PIf_iff, decide_eq_true_eq, decide_eq_false_iff_not, Bool.and_eq_true, Bool.not_eq_true', Bool.not_eq_false', Bool.and_eq_false_iff, Nat.blt_eq, blt_f, beq_iff_eq, beq_eq_false_iff_ne]
  repeat' first | intro _ | apply And.intro
  all_goals first | omega | rfl | exact True.intro | grind [w64, wu64, insertS]
def cR5Button : Ct := ⟨14, [kSlot], fun (s : SlotE) => ⟨[kSlot, .b], True, .val (buttonS s)⟩⟩
theorem hR5Button : Holds Try.prog cR5Button := holds_by (inl := []) (cts := [cR5Sync]) mix .nil (.cons hR5Sync .nil) Try.func14 (by kernel_rfl) fun (s : SlotE) _ => by
  refine ⟨[], ?_⟩
  refine vc_of (B :=
    PIf (s.snd.snd.snd || !s.snd.fst)
    (((s, false) = buttonS s))
    ((True) ∧
     (((((syncS s).fst, false, (syncS s).snd.snd), true) = buttonS s)))) (by kernel_rfl) ?_
  try simp only [PIf_iff, decide_eq_true_eq, decide_eq_false_iff_not, Bool.and_eq_true, Bool.not_eq_true', Bool.not_eq_false', Bool.and_eq_false_iff, Nat.blt_eq, blt_f, beq_iff_eq, beq_eq_false_iff_ne]
  repeat' first | intro _ | apply And.intro
  all_goals first | omega | rfl | exact True.intro | grind [w64, wu64, buttonS, outS, syncS]
def cR5Ready : Ct := ⟨27, [kSlot], fun (s : SlotE) => ⟨[kSense], True, .val (readyS s)⟩⟩
theorem hR5Ready : Holds Try.prog cR5Ready := holds_by (inl := [(38, Try.f38)]) (cts := []) mix (.cons Try.func38 (by kernel_rfl) .nil) .nil Try.func27 (by kernel_rfl) fun (s : SlotE) _ => by
  refine ⟨[], ?_⟩
  refine vc_of (B :=
    PIf s.snd.fst
    (((0, 0, 0) = readyS s))
    (((2, 58, 0) = readyS s))) (by kernel_rfl) ?_
  try simp only [PIf_iff, decide_eq_true_eq, decide_eq_false_iff_not, Bool.and_eq_true, Bool.not_eq_true', Bool.not_eq_false', Bool.and_eq_false_iff, Nat.blt_eq, blt_f, beq_iff_eq, beq_eq_false_iff_ne]
  repeat' first | intro _ | apply And.intro
  all_goals first | omega | rfl | exact True.intro | grind [w64, wu64, readyS]
def cR5Unload : Ct := ⟨16, [kSlot], fun (s : SlotE) => ⟨[kSlot, kSense], True, .val (unloadS s)⟩⟩
theorem hR5Unload : Holds Try.prog cR5Unload := holds_by (inl := [(38, Try.f38)]) (cts := [cR5Button]) mix (.cons Try.func38 (by kernel_rfl) .nil) (.cons hR5Button .nil) Try.func16 (by kernel_rfl) fun (s : SlotE) _ => by
  refine ⟨[], ?_⟩
  refine vc_of (B :=
    PIf (!s.snd.fst)
    ((((s, 2, 58, 0) = unloadS s)) ∧
     (((s, 2, 58, 0) = unloadS s)))
    (PIf s.snd.snd.snd
     ((((s, 5, 83, 2) = unloadS s)) ∧
      (((s, 5, 83, 2) = unloadS s)))
     ((True) ∧
      ((((buttonS s).fst, 0, 0, 0) = unloadS s))))) (by kernel_rfl) ?_
  try simp only [PIf_iff, decide_eq_true_eq, decide_eq_false_iff_not, Bool.and_eq_true, Bool.not_eq_true', Bool.not_eq_false', Bool.and_eq_false_iff, Nat.blt_eq, blt_f, beq_iff_eq, beq_eq_false_iff_ne]
  repeat' first | intro _ | apply And.intro
  all_goals first | omega | rfl | exact True.intro | grind [w64, wu64, unloadS, buttonS, outS, syncS]
def cR5Switch : Ct := ⟨21, [kSlot, .b], fun (x : SlotE × Bool) => ⟨[kSlot], True, .val (switchS x.1 x.2)⟩⟩
theorem hR5Switch : Holds Try.prog cR5Switch := holds_by (inl := []) (cts := [cR5Sync]) mix .nil (.cons hR5Sync .nil) Try.func21 (by kernel_rfl) fun (x : SlotE × Bool) _ => by
  obtain ⟨s, on⟩ := x
  refine ⟨[], ?_⟩
  refine vc_of (B :=
    PIf (on && !s.snd.snd.fst)
    ((True) ∧
     ((((syncS s).fst, (syncS s).snd.fst, on, (syncS s).snd.snd.snd) = switchS s on)))
    (((s.fst, s.snd.fst, on, s.snd.snd.snd) = switchS s on))) (by kernel_rfl) ?_
  try simp only [PIf_iff, decide_eq_true_eq, decide_eq_false_iff_not, Bool.and_eq_true, Bool.not_eq_true', Bool.not_eq_false', Bool.and_eq_false_iff, Nat.blt_eq, blt_f, beq_iff_eq, beq_eq_false_iff_ne]
  repeat' first | intro _ | apply And.intro
  all_goals first | omega | rfl | exact True.intro | grind [w64, wu64, switchS, syncS]
def cR5Keep : Ct := ⟨18, [kSlot, .b], fun (x : SlotE × Bool) => ⟨[kSlot, kSense], True, .val (keepS x.1 x.2)⟩⟩
theorem hR5Keep : Holds Try.prog cR5Keep := holds_by (inl := [(38, Try.f38)]) (cts := []) mix (.cons Try.func38 (by kernel_rfl) .nil) .nil Try.func18 (by kernel_rfl) fun (x : SlotE × Bool) _ => by
  obtain ⟨s, on⟩ := x
  refine ⟨[], ?_⟩
  refine vc_of (B :=
    PIf (!s.snd.fst)
    ((((s, 2, 58, 0) = keepS s on)) ∧
     (((s, 2, 58, 0) = keepS s on)))
    ((((s.fst, s.snd.fst, s.snd.snd.fst, on), 0, 0, 0) = keepS s on))) (by kernel_rfl) ?_
  try simp only [PIf_iff, decide_eq_true_eq, decide_eq_false_iff_not, Bool.and_eq_true, Bool.not_eq_true', Bool.not_eq_false', Bool.and_eq_false_iff, Nat.blt_eq, blt_f, beq_iff_eq, beq_eq_false_iff_ne]
  repeat' first | intro _ | apply And.intro
  all_goals first | omega | rfl | exact True.intro | grind [w64, wu64, keepS]
def cR5Check : Ct := ⟨31, [kSlot, kU64, kInt, .b], fun (x : SlotE × Int × Int × Bool) => ⟨[kSense], 0 ≤ x.2.1, .val (checkS x.1 x.2.1 x.2.2.1 x.2.2.2)⟩⟩
theorem hR5Check : Holds Try.prog cR5Check := holds_by (inl := [(38, Try.f38)]) (cts := [cR3All, cR2Within]) mix (.cons Try.func38 (by kernel_rfl) .nil) (.cons hR3All (.cons hR2Within .nil)) Try.func31 (by kernel_rfl) fun (x : SlotE × Int × Int × Bool) hx => by
  obtain ⟨s, at_, n, w⟩ := x
  have hx : 0 ≤ at_ := hx
  refine ⟨[], ?_⟩
  refine vc_of (B :=
    PIf (!s.snd.fst)
    (((2, 58, 0) = checkS s at_ n w))
    (PIf (s.snd.snd.fst && w)
     (((7, 39, 0) = checkS s at_ n w))
     ((True) ∧
      ((0 ≤ (↑(allS s.fst).length : Int) ∧ (↑(allS s.fst).length : Int) < 9223372036854775808 ∧ 0 ≤ at_) ∧
       (PIf (!within (↑(allS s.fst).length : Int) at_ n)
        (((5, 33, 0) = checkS s at_ n w))
        (((0, 0, 0) = checkS s at_ n w))))))) (by kernel_rfl) ?_
  have h2 := allS_len s.1
  try simp only [PIf_iff, decide_eq_true_eq, decide_eq_false_iff_not, Bool.and_eq_true, Bool.not_eq_true', Bool.not_eq_false', Bool.and_eq_false_iff, Nat.blt_eq, blt_f, beq_iff_eq, beq_eq_false_iff_ne]
  repeat' first | intro _ | apply And.intro
  all_goals first | omega | rfl | exact True.intro | grind [w64, wu64, checkS]
def cR5Read : Ct := ⟨29, [kSlot, kU64, kInt], fun (x : SlotE × Int × Int) => ⟨[kBys, kSense], fmM x.1.1 ∧ 0 ≤ x.2.1 ∧ x.2.1 < 18446744073709551616, .val (readSl x.1 x.2.1 x.2.2)⟩⟩
theorem hR5Read : Holds Try.prog cR5Read := holds_by (inl := []) (cts := [cR5Check, cR3All, cR2Read]) mix .nil (.cons hR5Check (.cons hR3All (.cons hR2Read .nil))) Try.func29 (by kernel_rfl) fun (x : SlotE × Int × Int) hx => by
  obtain ⟨s, at_, n⟩ := x
  obtain ⟨hf, ha⟩ : fmM s.1 ∧ 0 ≤ at_ ∧ at_ < 18446744073709551616 := hx
  refine ⟨[], ?_⟩
  refine vc_of (B :=
    (0 ≤ at_) ∧
    (PIf (!((checkS s at_ n false).fst == 0 && ((checkS s at_ n false).snd.fst == 0 && ((checkS s at_ n false).snd.snd == 0 && true))))
     ((([], checkS s at_ n false) = readSl s at_ n))
     ((True) ∧
      ((fmL (allS s.fst) ∧ 0 ≤ at_ ∧ at_ < 18446744073709551616) ∧
       ((((readB (allS s.fst) at_ n).fst, checkS s at_ n false) = readSl s at_ n)))))) (by kernel_rfl) ?_
  have h1 := allS_fm hf
  try simp only [PIf_iff, decide_eq_true_eq, decide_eq_false_iff_not, Bool.and_eq_true, Bool.not_eq_true', Bool.not_eq_false', Bool.and_eq_false_iff, Nat.blt_eq, blt_f, beq_iff_eq, beq_eq_false_iff_ne]
  repeat' first | intro _ | apply And.intro
  all_goals first | omega | rfl | exact True.intro | grind [w64, wu64, readSl, fmL]
theorem check_neg {s : SlotE} {k : Int} (h0 : -9223372036854775808 ≤ k) (h1 : k < 0) : checkS s (IntKind.u64.wrap k) 1 true = checkS s 0 1000 true ∧ checkS s 0 1000 true ≠ (0, 0, 0) := by
  have hl := allS_len s.1
  have hu : IntKind.u64.wrap k = k + 18446744073709551616 := by simp only [IntKind.wrap, IntKind.bits, IntKind.signed]; simp; omega
  have e1 : within (allS s.1).length (k + 18446744073709551616) 1 = false := by
    simp only [within, Bool.and_eq_false_iff, decide_eq_false_iff_not]; omega
  have e2 : within (allS s.1).length 0 1000 = false := by
    simp only [within, Bool.and_eq_false_iff, decide_eq_false_iff_not]; omega
  simp only [checkS, hu, e1, e2]
  refine ⟨trivial, ?_⟩
  split
  · simp
  · split <;> simp
def cR5Put : Ct := ⟨33, [kSlot, kInt, kBlk, .b], fun (x : SlotE × Int × List Int × Bool) => ⟨[kSlot, kSense], -9223372036854775808 ≤ x.2.1 ∧ x.2.1 < 9223372036854775808, .val (putS x.1 x.2.1 x.2.2.1 x.2.2.2)⟩⟩
theorem hR5Put : Holds Try.prog cR5Put := holds_by (inl := []) (cts := [cR5Check, cR3Write]) mix .nil (.cons hR5Check (.cons hR3Write .nil)) Try.func33 (by kernel_rfl) fun (x : SlotE × Int × List Int × Bool) hx => by
  obtain ⟨s, k, b, th⟩ := x
  have hx : -9223372036854775808 ≤ k ∧ k < 9223372036854775808 := hx
  refine ⟨[], ?_⟩
  refine vc_of (B :=
    PIf (decide (k < 0))
    (((0 : Int) ≤ 0) ∧
     ((((s, checkS s 0 1000 true) = putS s k b th)) ∧
      (((s, checkS s 0 1000 true) = putS s k b th))))
    ((0 ≤ IntKind.u64.wrap k) ∧
     (PIf ((checkS s (IntKind.u64.wrap k) 1 true).fst == 0 && ((checkS s (IntKind.u64.wrap k) 1 true).snd.fst == 0 && ((checkS s (IntKind.u64.wrap k) 1 true).snd.snd == 0 && true)))
      ((True) ∧
       ((((((writeS s.fst k b th).fst, s.snd), checkS s (IntKind.u64.wrap k) 1 true) = putS s k b th)) ∧
        (((((writeS s.fst k b th).fst, s.snd), checkS s (IntKind.u64.wrap k) 1 true) = putS s k b th))))
      ((((s, checkS s (IntKind.u64.wrap k) 1 true) = putS s k b th)) ∧
       (((s, checkS s (IntKind.u64.wrap k) 1 true) = putS s k b th)))))) (by kernel_rfl) ?_
  have h1 := fun h => @check_neg s k hx.1 h
  try simp only [PIf_iff, decide_eq_true_eq, decide_eq_false_iff_not, Bool.and_eq_true, Bool.not_eq_true', Bool.not_eq_false', Bool.and_eq_false_iff, Nat.blt_eq, blt_f, beq_iff_eq, beq_eq_false_iff_ne]
  repeat' first | intro _ | apply And.intro
  all_goals first | omega | rfl | exact True.intro | grind [w64, wu64, putS]
def cR5Power : Ct := ⟨25, [kSlot, kU64], fun (x : SlotE × Int) => ⟨[kSlot], 0 ≤ x.2 ∧ x.2 < 18446744073709551616, .val (powerS x.1 x.2)⟩⟩
theorem hR5Power : Holds Try.prog cR5Power := holds_by (inl := []) (cts := [cR3Right, cR3Lose]) mix .nil (.cons hR3Right (.cons hR3Lose .nil)) Try.func25 (by kernel_rfl) fun (x : SlotE × Int) hx => by
  obtain ⟨s, mask⟩ := x
  have hx : 0 ≤ mask ∧ mask < 18446744073709551616 := hx
  refine ⟨[], ?_⟩
  refine vc_of (B :=
    (True) ∧
    (PIf (rightS s.fst)
     ((0 ≤ mask ∧ mask < 18446744073709551616) ∧
      ((((loseS s.fst mask).fst, s.snd.fst, s.snd.snd.fst, false) = powerS s mask)))
     (((s.fst, s.snd.fst, s.snd.snd.fst, false) = powerS s mask)))) (by kernel_rfl) ?_
  try simp only [PIf_iff, decide_eq_true_eq, decide_eq_false_iff_not, Bool.and_eq_true, Bool.not_eq_true', Bool.not_eq_false', Bool.and_eq_false_iff, Nat.blt_eq, blt_f, beq_iff_eq, beq_eq_false_iff_ne]
  repeat' first | intro _ | apply And.intro
  all_goals first | omega | rfl | exact True.intro | grind [w64, wu64, powerS]
def cR5Same : Ct := ⟨19, [kSlot, kSlot], fun (x : SlotE × SlotE) => ⟨[.b], x.1.1.1.length ≤ 1000000 ∧ x.1.1.2.length ≤ 1000000, .val (decide (x.1 = x.2))⟩⟩
theorem hR5Same : Holds Try.prog cR5Same := holds_by (inl := []) (cts := [cR3Same]) mix .nil (.cons hR3Same .nil) Try.func19 (by kernel_rfl) fun (x : SlotE × SlotE) hx => by
  obtain ⟨a, b⟩ := x
  have hx : a.1.1.length ≤ 1000000 ∧ a.1.2.length ≤ 1000000 := hx
  refine ⟨[], ?_⟩
  refine vc_of (B :=
    PIf (a.snd.fst == b.snd.fst)
    (PIf (a.snd.snd.fst == b.snd.snd.fst)
     (PIf (a.snd.snd.snd == b.snd.snd.snd)
      ((List.length a.fst.fst ≤ 1000000 ∧ List.length a.fst.snd ≤ 1000000) ∧
       ((decide (a.fst = b.fst) = decide (a = b))))
      ((false = decide (a = b))))
     ((false = decide (a = b))))
    ((false = decide (a = b)))) (by kernel_rfl) ?_
  try simp only [PIf_iff, decide_eq_true_eq, decide_eq_false_iff_not, Bool.and_eq_true, Bool.not_eq_true', Bool.not_eq_false', Bool.and_eq_false_iff, Nat.blt_eq, blt_f, beq_iff_eq, beq_eq_false_iff_ne]
  repeat' first | intro _ | apply And.intro
  all_goals first | omega | rfl | exact True.intro | grind [w64, wu64, Prod.ext_iff]
def cR5Copy : Ct := ⟨10, [kSlot], fun (s : SlotE) => ⟨[kSlot], s.1.1.length ≤ 1000000 ∧ s.1.2.length ≤ 1000000, .val s⟩⟩
theorem hR5Copy : Holds Try.prog cR5Copy := holds_by (inl := []) (cts := [cR3Copy]) mix .nil (.cons hR3Copy .nil) Try.func10 (by kernel_rfl) fun (s : SlotE) hx => by
  have hx : s.1.1.length ≤ 1000000 ∧ s.1.2.length ≤ 1000000 := hx
  refine ⟨[], ?_⟩
  refine vc_of (B :=
    (List.length s.fst.fst ≤ 1000000 ∧ List.length s.fst.snd ≤ 1000000) ∧
    ((s = s))) (by kernel_rfl) ?_
  try simp only [PIf_iff, decide_eq_true_eq, decide_eq_false_iff_not, Bool.and_eq_true, Bool.not_eq_true', Bool.not_eq_false', Bool.and_eq_false_iff, Nat.blt_eq, blt_f, beq_iff_eq, beq_eq_false_iff_ne]
  repeat' first | intro _ | apply And.intro
  all_goals first | omega | rfl | exact True.intro | grind [w64, wu64]
end Go.Proofs.Ytnmghlkocljedaa
