/- Layer 3: the laws of what is shown, and lost. -/
import Derived.Test.YtoiacgfhjikddaaWLB
import Derived.Test.YtoiacgfhjikddaaWLA
set_option linter.unusedSimpArgs false
set_option linter.unusedVariables false
namespace Go.Proofs.Ytoiacgfhjikddaa
open Go.RowKit Vc W
/-- What goes through lasts. -/
theorem through {m : MedE} {k : Int} {b : List Int} (h : rightS m = true) (hk : thereS m k = true) (mask : Int) : (writeS m k b true).2 = 0 ∧ (loseS (writeS m k b true).1 mask).2 = 0 ∧ (loseS (writeS m k b true).1 mask).1.2 = [] ∧ showS (loseS (writeS m k b true).1 mask).1 k = (b, 0) := by
  have hk' := hk
  simp only [thereS, Bool.and_eq_true, decide_eq_true_eq] at hk'
  have hw := (write_there (b := b) (th := true) h).2 hk
  have hi := LInv.write (all := m.1) (ws := m.2) ⟨h, rfl, fun _ _ => .inl rfl, fun d hd => hd⟩ (b := b) (th := true) hw
  obtain ⟨h1, h2, h3, _⟩ := hi.lose mask
  refine ⟨hw, h1, h2, ?_⟩
  -- of that block nothing is cached
  have hx : (writeS m k b true).1 = ((doneS (writeD m k true) (fun _ _ => true) m).1.set k.toNat b, (doneS (writeD m k true) (fun _ _ => true) m).2) := by
    unfold writeS; rw [if_neg (by simp [h]), if_neg (by simp [hk])]; rfl
  have hne : ∀ d ∈ (writeS m k b true).1.2, d.1 ≠ k := fun d hd => by
    rw [hx, doneS_appl (p := fun d => decide (d.1 = k)) (fun _ d => by simp [writeD])] at hd
    have := (List.mem_filter.1 hd).2
    simpa using this
  have hat : (writeS m k b true).1.1[k.toNat]? = some b := by
    rw [hx]
    have := doneS_len (writeD m k true) (fun _ _ => true) m
    rw [List.getElem?_set_self (by omega)]
  have hl : (loseS (writeS m k b true).1 mask).1.1[k.toNat]? = some b := by
    unfold loseS
    rw [if_neg (by simp [hi.1])]
    have hd := done_in (loseD mask) (fun _ _ => false) (writeS m k b true).1 (fun d hd => (right_ge hi.1 d hd).1) (writeS m k b true).1.2.length
    rcases hd.1 k.toNat with e | ⟨d, hdm, e1, _⟩
    · exact e.trans hat
    · exact absurd (by omega) (hne d hdm)
  have hlen : (loseS (writeS m k b true).1 mask).1.1.length ≤ 64 := (loseS_len _ _).1
  generalize (loseS (writeS m k b true).1 mask).1 = y at h2 h3 hl hlen
  obtain ⟨yb, yd⟩ := y
  have h2 : yd = [] := h2
  subst h2
  have hr := right_nil hlen
  have hkl : k.toNat < yb.length := (List.getElem?_eq_some_iff.1 hl).1
  unfold showS
  rw [if_neg (by simp [hr]), if_neg (by simp [thereS]; omega), allS_appl hr]
  simp only [appl, List.foldl_nil, List.getD_eq_getElem?_getD]
  rw [show yb[k.toNat]? = some b from hl]; rfl
def cL3Shows : Ct := ⟨5, [kMed, kInt, kInt], fun x => ⟨[.b], RngL [kMed, kInt, kInt] x, .val true⟩⟩
theorem hL3Shows : Holds Try.prog cL3Shows := holds_by (inl := []) (cts := [cAlive, cR3Great, cR3Right, cAll, cFlush, cLose, cRight, cR2Same]) mix .nil (.cons hAlive (.cons hR3Great (.cons hR3Right (.cons hAll (.cons hFlush (.cons hLose (.cons hRight (.cons hR2Same .nil)))))))) Try.func5 (by kernel_rfl) fun (x : MedE × Int × Int) hx => by
  obtain ⟨m, k, n⟩ := x
  have hx : RngL [kMed, kInt, kInt] (m, k, n) := hx
  simp only [RngL, Rng, mn_i64, mx_i64] at hx
  refine ⟨[], ?_⟩
  refine vc_of (B :=
    (True) ∧
    ((True) ∧
     (PIf (decide (70 < (↑(List.length m.fst) : Int)) || decide (70 < (↑(List.length m.snd) : Int)))
      ((true = true))
      ((True) ∧
       (PIf (!rightS m)
        ((true = true))
        ((True) ∧
         ((k < 9223372036854775808) ∧
          (PIf ((flushS m k n).snd != 0)
           ((((flushS m k n).snd == 5 && (↑(List.length (flushS m k n).fst.fst) : Int) == 0) = true))
           (((0 : Int) < 9223372036854775808) ∧
            (((0 : Int) ≤ 18446744073709551615 ∧ (18446744073709551615 : Int) < 18446744073709551616) ∧
             (((0 : Int) ≤ 0 ∧ (0 : Int) < 18446744073709551616) ∧
              (PIf ((flushS m 0 0).snd == 0)
               (PIf ((loseS (flushS m 0 0).fst 18446744073709551615).snd == 0)
                (PIf ((loseS (flushS m 0 0).fst 0).snd == 0)
                 ((True) ∧
                  (PIf (rightS (flushS m k n).fst)
                   ((True) ∧
                    (((allS (flushS m k n).fst).length ≤ 1000000) ∧
                     (PIf (decide (allS (flushS m k n).fst = allS m))
                      ((List.length (flushS m 0 0).fst.fst ≤ 1000000) ∧
                       (PIf (decide ((flushS m 0 0).fst.fst = allS m))
                        (PIf ((↑(List.length (flushS m 0 0).fst.snd) : Int) == 0)
                         ((List.length (loseS (flushS m 0 0).fst 18446744073709551615).fst.fst ≤ 1000000) ∧
                          (PIf (decide ((loseS (flushS m 0 0).fst 18446744073709551615).fst.fst = allS m))
                           ((List.length (loseS (flushS m 0 0).fst 0).fst.fst ≤ 1000000) ∧
                            ((decide ((loseS (flushS m 0 0).fst 0).fst.fst = allS m) = true)))
                           ((false = true))))
                         ((false = true)))
                        ((false = true))))
                      ((false = true)))))
                   ((false = true))))
                 ((false = true)))
                ((false = true)))
               ((false = true)))))))))))))) (by kernel_rfl) ?_
  have h1 := @flush_right m k n
  have h2 := @flush_err m k n
  have h3 := @flush_all m
  have h4 := @lose_nil (allS m)
  have h5 := allS_len m
  try simp only [PIf_iff, decide_eq_true_eq, decide_eq_false_iff_not, Bool.and_eq_true, Bool.not_eq_true', Bool.not_eq_false', Bool.and_eq_false_iff, Nat.blt_eq, blt_f, beq_iff_eq, beq_eq_false_iff_ne]
  repeat' first | intro _ | apply And.intro
  all_goals first | omega | rfl | exact True.intro | grind [w64, wu64]
abbrev kAct : K := .p kInt (.p (.i .u8) (.p .b .b))
abbrev kLoss : K := .p (.i .u8) kU64
def cL3Through : Ct := ⟨7, [kMed, .i .u8, kLoss], fun x => ⟨[.b], RngL [kMed, .i .u8, kLoss] x, .val true⟩⟩
theorem hL3Through : Holds Try.prog cL3Through := holds_by (inl := []) (cts := [cAlive, cR3Great, cR3Right, cWrite, cFilled, cLose, cShow]) mix .nil (.cons hAlive (.cons hR3Great (.cons hR3Right (.cons hWrite (.cons hFilled (.cons hLose (.cons hShow .nil))))))) Try.func7 (by kernel_rfl) fun (x : MedE × Int × Int × Int) hx => by
  obtain ⟨m, k, z, mask⟩ := x
  have hx : RngL [kMed, .i .u8, kLoss] (m, k, z, mask) := hx
  simp only [RngL, Rng, mn_u8, mx_u8, mn_u64, mx_u64] at hx
  refine ⟨[], ?_⟩
  refine vc_of (B :=
    (True) ∧
    ((True) ∧
     (PIf (decide (70 < (↑(List.length m.fst) : Int)) || decide (70 < (↑(List.length m.snd) : Int)))
      ((true = true))
      ((True) ∧
       (PIf (!rightS m)
        ((true = true))
        (PIf ((↑(List.length m.fst) : Int) == 0)
         ((true = true))
         (PIf (!decide ((↑(List.length m.fst) : Int) = 0))
          (((True) ∧
            (((True) ∧
              ((0 ≤ mask ∧ mask < 18446744073709551616) ∧
               ((True) ∧
                (PIf ((writeS m ((IntKind.i64.wrap k).tmod (↑(List.length m.fst) : Int)) (List.replicate 64 z) true).snd == 0)
                 (PIf ((loseS (writeS m ((IntKind.i64.wrap k).tmod (↑(List.length m.fst) : Int)) (List.replicate 64 z) true).fst mask).snd == 0)
                  (PIf ((showS (loseS (writeS m ((IntKind.i64.wrap k).tmod (↑(List.length m.fst) : Int)) (List.replicate 64 z) true).fst mask).fst ((IntKind.i64.wrap k).tmod (↑(List.length m.fst) : Int))).snd == 0)
                   ((True) ∧
                    (PIf (decide ((showS (loseS (writeS m ((IntKind.i64.wrap k).tmod (↑(List.length m.fst) : Int)) (List.replicate 64 z) true).fst mask).fst ((IntKind.i64.wrap k).tmod (↑(List.length m.fst) : Int))).fst = List.replicate 64 z))
                     ((((↑(List.length (loseS (writeS m ((IntKind.i64.wrap k).tmod (↑(List.length m.fst) : Int)) (List.replicate 64 z) true).fst mask).fst.snd) : Int) == 0) = true))
                     ((false = true))))
                   ((false = true)))
                  ((false = true)))
                 ((false = true)))))) ∧
             ((True) ∧
              ((0 ≤ mask ∧ mask < 18446744073709551616) ∧
               ((True) ∧
                (PIf ((writeS m ((IntKind.i64.wrap k).tmod (↑(List.length m.fst) : Int)) (List.replicate 64 z) true).snd == 0)
                 (PIf ((loseS (writeS m ((IntKind.i64.wrap k).tmod (↑(List.length m.fst) : Int)) (List.replicate 64 z) true).fst mask).snd == 0)
                  (PIf ((showS (loseS (writeS m ((IntKind.i64.wrap k).tmod (↑(List.length m.fst) : Int)) (List.replicate 64 z) true).fst mask).fst ((IntKind.i64.wrap k).tmod (↑(List.length m.fst) : Int))).snd == 0)
                   ((True) ∧
                    (PIf (decide ((showS (loseS (writeS m ((IntKind.i64.wrap k).tmod (↑(List.length m.fst) : Int)) (List.replicate 64 z) true).fst mask).fst ((IntKind.i64.wrap k).tmod (↑(List.length m.fst) : Int))).fst = List.replicate 64 z))
                     ((((↑(List.length (loseS (writeS m ((IntKind.i64.wrap k).tmod (↑(List.length m.fst) : Int)) (List.replicate 64 z) true).fst mask).fst.snd) : Int) == 0) = true))
                     ((false = true))))
                   ((false = true)))
                  ((false = true)))
                 ((false = true)))))))) ∧
           ((True) ∧
            ((True) ∧
             ((0 ≤ mask ∧ mask < 18446744073709551616) ∧
              ((True) ∧
               (PIf ((writeS m ((IntKind.i64.wrap k).tmod (↑(List.length m.fst) : Int)) (List.replicate 64 z) true).snd == 0)
                (PIf ((loseS (writeS m ((IntKind.i64.wrap k).tmod (↑(List.length m.fst) : Int)) (List.replicate 64 z) true).fst mask).snd == 0)
                 (PIf ((showS (loseS (writeS m ((IntKind.i64.wrap k).tmod (↑(List.length m.fst) : Int)) (List.replicate 64 z) true).fst mask).fst ((IntKind.i64.wrap k).tmod (↑(List.length m.fst) : Int))).snd == 0)
                  ((True) ∧
                   (PIf (decide ((showS (loseS (writeS m ((IntKind.i64.wrap k).tmod (↑(List.length m.fst) : Int)) (List.replicate 64 z) true).fst mask).fst ((IntKind.i64.wrap k).tmod (↑(List.length m.fst) : Int))).fst = List.replicate 64 z))
                    ((((↑(List.length (loseS (writeS m ((IntKind.i64.wrap k).tmod (↑(List.length m.fst) : Int)) (List.replicate 64 z) true).fst mask).fst.snd) : Int) == 0) = true))
                    ((false = true))))
                  ((false = true)))
                 ((false = true)))
                ((false = true))))))))
          (False)))))))) (by kernel_rfl) ?_
  have h1 := fun h h2 => @through m (k.tmod m.1.length) (List.replicate 64 z) h h2 mask
  have h2 : 0 ≤ k → (m.1.length : Int) ≠ 0 → thereS m (k.tmod m.1.length) = true := fun h3 h4 => by
    simp only [thereS, Bool.and_eq_true, decide_eq_true_eq]
    rw [Int.tmod_eq_emod_of_nonneg h3]
    exact ⟨Int.emod_nonneg _ h4, Int.emod_lt_of_pos _ (by omega)⟩
  try simp only [PIf_iff, decide_eq_true_eq, decide_eq_false_iff_not, Bool.and_eq_true, Bool.not_eq_true', Bool.not_eq_false', Bool.and_eq_false_iff, Nat.blt_eq, blt_f, beq_iff_eq, beq_eq_false_iff_ne]
  repeat' first | intro _ | apply And.intro
  all_goals first | omega | rfl | exact True.intro | grind [w64, wu64]
end Go.Proofs.Ytoiacgfhjikddaa
