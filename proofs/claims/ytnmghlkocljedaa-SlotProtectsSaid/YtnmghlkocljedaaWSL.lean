/- Layer 5: the laws. -/
import Derived.Test.YtnmghlkocljedaaWSE
import Derived.Test.YtnmghlkocljedaaWY
set_option linter.unusedSimpArgs false
set_option linter.unusedVariables false
namespace Go.Proofs.Ytnmghlkocljedaa
open Go.RowKit Vc W
def smM (m : MedE) : Prop := m.1.length ≤ 1000000 ∧ m.2.length ≤ 1000000
theorem syncS_len {s : SlotE} (h : s.1.1.length ≤ 70 ∧ s.1.2.length ≤ 70) : (syncS s).1.1.length ≤ 70 ∧ (syncS s).1.2.length ≤ 70 := by
  unfold syncS
  split
  · have := allS_len s.1; simp; omega
  · exact h
theorem outS_len {s : SlotE} (h : s.1.1.length ≤ 70 ∧ s.1.2.length ≤ 70) : (outS s).1.1.length ≤ 70 ∧ (outS s).1.2.length ≤ 70 := syncS_len h
theorem buttonS_len {s : SlotE} (h : s.1.1.length ≤ 70 ∧ s.1.2.length ≤ 70) : (buttonS s).1.1.1.length ≤ 70 ∧ (buttonS s).1.1.2.length ≤ 70 := by
  unfold buttonS; split
  · exact h
  · exact outS_len h
theorem unloadS_len {s : SlotE} (h : s.1.1.length ≤ 70 ∧ s.1.2.length ≤ 70) : (unloadS s).1.1.1.length ≤ 70 ∧ (unloadS s).1.1.2.length ≤ 70 := by
  unfold unloadS; split
  · exact h
  · split
    · exact h
    · exact outS_len h
theorem switchS_len {s : SlotE} {on : Bool} (h : s.1.1.length ≤ 70 ∧ s.1.2.length ≤ 70) : (switchS s on).1.1.length ≤ 70 ∧ (switchS s on).1.2.length ≤ 70 := by
  unfold switchS; split
  · exact syncS_len h
  · exact h
theorem keepS_len {s : SlotE} {on : Bool} (h : s.1.1.length ≤ 70 ∧ s.1.2.length ≤ 70) : (keepS s on).1.1.1.length ≤ 70 ∧ (keepS s on).1.1.2.length ≤ 70 := by
  unfold keepS; split <;> exact h
theorem powerS_len {s : SlotE} {k : Int} (h : s.1.1.length ≤ 70 ∧ s.1.2.length ≤ 70) : (powerS s k).1.1.length ≤ 70 ∧ (powerS s k).1.2.length ≤ 70 := by
  unfold powerS; split
  · have := loseS_len s.1 k; simp; omega
  · exact h
theorem putS_len {s : SlotE} {k : Int} {b : List Int} {th : Bool} (h : s.1.1.length ≤ 70 ∧ s.1.2.length ≤ 70) : (putS s k b th).1.1.1.length ≤ 70 ∧ (putS s k b th).1.1.2.length ≤ 70 := by
  unfold putS; split
  · have := writeS_len s.1 k b th; simp; omega
  · exact h
def cL5Turns : Ct := ⟨3, [kSlot, .b, kU64], fun x => ⟨[.b], RngL [kSlot, .b, kU64] x, .val true⟩⟩
theorem hL5Turns : Holds Try.prog cL5Turns := holds_by (inl := []) (cts := [cS5Alive, cR3Great, cR5Copy, cSInsert, cR5Insert, cSButton, cR5Button, cSUnload, cR5Unload, cSKeep, cR5Keep, cR5Same, cSSwitch, cR5Switch, cSSync, cR5Sync, cSPower, cR5Power, cSReady, cR5Ready]) mix .nil (.cons hS5Alive (.cons hR3Great (.cons hR5Copy (.cons hSInsert (.cons hR5Insert (.cons hSButton (.cons hR5Button (.cons hSUnload (.cons hR5Unload (.cons hSKeep (.cons hR5Keep (.cons hR5Same (.cons hSSwitch (.cons hR5Switch (.cons hSSync (.cons hR5Sync (.cons hSPower (.cons hR5Power (.cons hSReady (.cons hR5Ready .nil)))))))))))))))))))) Try.func3 (by kernel_rfl) fun (x : SlotE × Bool × Int) hx => by
  obtain ⟨s, on, mask⟩ := x
  have hx : RngL [kSlot, .b, kU64] (s, on, mask) := hx
  simp only [RngL, Rng, mn_i64, mx_i64, mn_u64, mx_u64] at hx
  obtain ⟨_, _, hmask⟩ := hx
  refine ⟨[], ?_⟩
  refine vc_of (B :=
    (True) ∧
    ((True) ∧
     (PIf (decide (70 < (↑(List.length s.fst.fst) : Int)) || decide (70 < (↑(List.length s.fst.snd) : Int)))
      ((true = true))
      ((List.length s.fst.fst ≤ 1000000 ∧ List.length s.fst.snd ≤ 1000000) ∧
       ((True) ∧
        ((True) ∧
         ((True) ∧
          ((True) ∧
           ((True) ∧
            ((True) ∧
             ((True) ∧
              ((True) ∧
               ((List.length s.fst.fst ≤ 1000000 ∧ List.length s.fst.snd ≤ 1000000) ∧
                (PIf (!decide ((s.fst, true, s.snd.snd) = (s.fst, true, s.snd.snd)))
                 ((false = true))
                 (PIf (!(!s.snd.fst) == !s.snd.fst)
                  ((false = true))
                  ((List.length (buttonS s).fst.fst.fst ≤ 1000000 ∧ List.length (buttonS s).fst.fst.snd ≤ 1000000) ∧
                   (PIf (!decide ((buttonS s).fst = (buttonS s).fst))
                    ((false = true))
                    (PIf (!(buttonS s).snd == (buttonS s).snd)
                     ((false = true))
                     ((List.length (unloadS s).fst.fst.fst ≤ 1000000 ∧ List.length (unloadS s).fst.fst.snd ≤ 1000000) ∧
                      (PIf (!decide ((unloadS s).fst = (unloadS s).fst))
                       ((false = true))
                       (PIf (!((unloadS s).snd.fst == (unloadS s).snd.fst && ((unloadS s).snd.snd.fst == (unloadS s).snd.snd.fst && ((unloadS s).snd.snd.snd == (unloadS s).snd.snd.snd && true))))
                        ((false = true))
                        ((List.length (keepS s on).fst.fst.fst ≤ 1000000 ∧ List.length (keepS s on).fst.fst.snd ≤ 1000000) ∧
                         (PIf (!decide ((keepS s on).fst = (keepS s on).fst))
                          ((false = true))
                          (PIf (!((keepS s on).snd.fst == (keepS s on).snd.fst && ((keepS s on).snd.snd.fst == (keepS s on).snd.snd.fst && ((keepS s on).snd.snd.snd == (keepS s on).snd.snd.snd && true))))
                           ((false = true))
                           ((True) ∧
                            ((True) ∧
                             ((List.length (switchS s on).fst.fst ≤ 1000000 ∧ List.length (switchS s on).fst.snd ≤ 1000000) ∧
                              (PIf (decide (switchS s on = switchS s on))
                               ((True) ∧
                                ((True) ∧
                                 ((List.length (syncS s).fst.fst ≤ 1000000 ∧ List.length (syncS s).fst.snd ≤ 1000000) ∧
                                  (PIf (decide (syncS s = syncS s))
                                   ((0 ≤ mask ∧ mask < 18446744073709551616) ∧
                                    ((0 ≤ mask ∧ mask < 18446744073709551616) ∧
                                     ((List.length (powerS s mask).fst.fst ≤ 1000000 ∧ List.length (powerS s mask).fst.snd ≤ 1000000) ∧
                                      (PIf (decide (powerS s mask = powerS s mask))
                                       ((True) ∧
                                        ((True) ∧
                                         (PIf ((readyS s).fst == (readyS s).fst && ((readyS s).snd.fst == (readyS s).snd.fst && ((readyS s).snd.snd == (readyS s).snd.snd && true)))
                                          ((List.length s.fst.fst ≤ 1000000 ∧ List.length s.fst.snd ≤ 1000000) ∧
                                           ((decide (s = s) = true)))
                                          ((false = true)))))
                                       ((false = true))))))
                                   ((false = true))))))
                               ((false = true)))))))))))))))))))))))))))))) (by kernel_rfl) ?_
  have h1 := @buttonS_len s
  have h2 := @unloadS_len s
  have h3 := @keepS_len s on
  have h4 := @switchS_len s on
  have h5 := @syncS_len s
  have h6 := @powerS_len s mask
  try simp only [PIf_iff, decide_eq_true_eq, decide_eq_false_iff_not, Bool.and_eq_true, Bool.not_eq_true', Bool.not_eq_false', Bool.and_eq_false_iff, Nat.blt_eq, blt_f, beq_iff_eq, beq_eq_false_iff_ne]
  repeat' first | intro _ | apply And.intro
  all_goals first | omega | rfl | exact True.intro | grind [w64, wu64, insertS]
def cL5Reads : Ct := ⟨4, [kSlot, kU64, kInt], fun x => ⟨[.b], RngL [kSlot, kU64, kInt] x, .val true⟩⟩
theorem rng_fm {m : MedE} (h : Rng kMed m) : fmM m := by
  obtain ⟨⟨_, h1⟩, _, h2⟩ := h
  exact ⟨fun b hb => (h1 b hb).1, fun d hd => (h2 d hd).2.1⟩
theorem hL5Reads : Holds Try.prog cL5Reads := holds_by (inl := []) (cts := [cS5Alive, cR3Great, cSRead, cR5Read, cSCheck, cR5Check]) mix .nil (.cons hS5Alive (.cons hR3Great (.cons hSRead (.cons hR5Read (.cons hSCheck (.cons hR5Check .nil)))))) Try.func4 (by kernel_rfl) fun (x : SlotE × Int × Int) hx => by
  obtain ⟨s, at_, n⟩ := x
  have hx : RngL [kSlot, kU64, kInt] (s, at_, n) := hx
  have hf : fmM s.1 := rng_fm hx.1.1
  replace hx := hx.2
  simp only [RngL, Rng, mn_i64, mx_i64, mn_u64, mx_u64] at hx
  refine ⟨[], ?_⟩
  refine vc_of (B :=
    (True) ∧
    ((True) ∧
     (PIf (decide (70 < (↑(List.length s.fst.fst) : Int)) || decide (70 < (↑(List.length s.fst.snd) : Int)))
      ((true = true))
      ((fmM s.fst ∧ 0 ≤ at_ ∧ at_ < 18446744073709551616) ∧
       ((fmM s.fst ∧ 0 ≤ at_ ∧ at_ < 18446744073709551616) ∧
        (PIf ((strOf (readSl s at_ n).fst).toList == (strOf (readSl s at_ n).fst).toList)
         (PIf ((readSl s at_ n).snd.fst == (readSl s at_ n).snd.fst && ((readSl s at_ n).snd.snd.fst == (readSl s at_ n).snd.snd.fst && ((readSl s at_ n).snd.snd.snd == (readSl s at_ n).snd.snd.snd && true)))
          ((True) ∧
           ((0 ≤ at_) ∧
            (PIf ((checkS s at_ n true).fst == (checkS s at_ n true).fst && ((checkS s at_ n true).snd.fst == (checkS s at_ n true).snd.fst && ((checkS s at_ n true).snd.snd == (checkS s at_ n true).snd.snd && true)))
             ((True) ∧
              ((((checkS s at_ n false).fst == (readSl s at_ n).snd.fst && ((checkS s at_ n false).snd.fst == (readSl s at_ n).snd.snd.fst && ((checkS s at_ n false).snd.snd == (readSl s at_ n).snd.snd.snd && true))) = true)))
             ((false = true)))))
          ((false = true)))
         ((false = true)))))))) (by kernel_rfl) ?_
  try simp only [PIf_iff, decide_eq_true_eq, decide_eq_false_iff_not, Bool.and_eq_true, Bool.not_eq_true', Bool.not_eq_false', Bool.and_eq_false_iff, Nat.blt_eq, blt_f, beq_iff_eq, beq_eq_false_iff_ne]
  repeat' first | intro _ | apply And.intro
  all_goals first | omega | rfl | exact True.intro | grind [w64, wu64, readSl, fmM, fmL]
end Go.Proofs.Ytnmghlkocljedaa
