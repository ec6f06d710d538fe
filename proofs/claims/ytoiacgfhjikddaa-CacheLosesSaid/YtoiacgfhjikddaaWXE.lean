/- Layer 3: the fixed fact. -/
import Derived.Test.YtoiacgfhjikddaaWXT
import Derived.Test.YtoiacgfhjikddaaWXF
set_option linter.unusedSimpArgs false
set_option linter.unusedVariables false
namespace Go.Proofs.Ytoiacgfhjikddaa
open Go.RowKit Vc W
def cR3Show : Ct := ⟨14, [kMed, kInt], fun (x : MedE × Int) => ⟨[kBlk, kInt], True, .val (showS x.1 x.2)⟩⟩
theorem hR3Show : Holds Try.prog cR3Show := holds_by (inl := []) (cts := [cR3Right, cR3All]) mix .nil (.cons hR3Right (.cons hR3All .nil)) Try.func14 (by kernel_rfl) fun (x : MedE × Int) _ => by
  obtain ⟨m, k⟩ := x
  refine ⟨[], ?_⟩
  refine vc_of (B :=
    (True) ∧
    (PIf (!rightS m)
     (((List.replicate 64 0, 1) = showS m k))
     (PIf (decide (k < 0) || decide (k ≥ (↑(List.length m.fst) : Int)))
      (((List.replicate 64 0, 5) = showS m k))
      ((True) ∧
       (PIf (decide (0 ≤ k) && decide (k < (↑(allS m).length : Int)))
        ((((allS m).getD k.toNat (List.replicate 64 0), 0) = showS m k))
        (False)))))) (by kernel_rfl) ?_
  have hl := doneS_len (fun _ _ => true) (fun _ _ => true) m
  try simp only [PIf_iff, decide_eq_true_eq, decide_eq_false_iff_not, Bool.and_eq_true, Bool.not_eq_true', Bool.not_eq_false', Bool.and_eq_false_iff, Nat.blt_eq, blt_f, beq_iff_eq, beq_eq_false_iff_ne]
  repeat' first | intro _ | apply And.intro
  all_goals first | omega | rfl | trivial | grind [w64, wu64, showS, thereS, allS]
def cR3Flush : Ct := ⟨22, [kMed, kInt, kInt], fun (x : MedE × Int × Int) => ⟨[kMed, kInt], x.2.1 < 9223372036854775808, .val (flushS x.1 x.2.1 x.2.2)⟩⟩
theorem hR3Flush : Holds Try.prog cR3Flush := holds_by (inl := []) (cts := [cR3Right, cR3Flushed]) mix .nil (.cons hR3Right (.cons hR3Flushed .nil)) Try.func22 (by kernel_rfl) fun (x : MedE × Int × Int) hx => by
  obtain ⟨m, k, n⟩ := x
  have hk : k < 9223372036854775808 := hx
  refine ⟨[], ?_⟩
  refine vc_of (B :=
    (True) ∧
    (PIf (!rightS m)
     (((([], []), 1) = flushS m k n))
     (PIf (decide (k < 0) || decide (n < 0) || decide (k > (↑(List.length m.fst) : Int)))
      (((([], []), 5) = flushS m k n))
      (PIf (n == 0 || decide (n > IntKind.i64.wrap ((↑(List.length m.fst) : Int) - k)))
       ((rightS m = true) ∧
        (((doneS (flushedD k (IntKind.i64.wrap (k + IntKind.i64.wrap ((↑(List.length m.fst) : Int) - k)))) (fun x x_1 => true) m, 0) = flushS m k n)))
       ((rightS m = true) ∧
        (((doneS (flushedD k (IntKind.i64.wrap (k + n))) (fun x x_1 => true) m, 0) = flushS m k n))))))) (by kernel_rfl) ?_
  have hR := @right_of m
  have hc : rightS m = true → ∀ q : Int, (∀ d : Int, 0 ≤ d → d < m.1.length → ((k ≤ d ∧ d < q) ↔ (k ≤ d ∧ d - k < (if n = 0 then (m.1.length : Int) else n)))) → doneS (flushedD k q) (fun _ _ => true) m = doneS (flushD k (if n = 0 then (m.1.length : Int) else n)) (fun _ _ => true) m := fun hr q hq => doneS_congr fun i d hi => by
    have hh := hr
    simp only [rightS, thereS, Bool.and_eq_true, decide_eq_true_eq, List.all_eq_true] at hh
    have hd := hh.2.2 d (List.mem_of_getElem? hi)
    have := hq d.1 hd.1 hd.2
    refine ⟨?_, fun _ => rfl⟩
    simp only [flushedD, flushD]
    rw [← Bool.decide_and, ← Bool.decide_and]
    exact decide_eq_decide.2 this
  try simp only [PIf_iff, decide_eq_true_eq, decide_eq_false_iff_not, Bool.and_eq_true, Bool.not_eq_true', Bool.not_eq_false', Bool.and_eq_false_iff, Nat.blt_eq, blt_f, beq_iff_eq, beq_eq_false_iff_ne]
  repeat' first | intro _ | apply And.intro
  all_goals first | omega | rfl | trivial | grind [w64, wu64, flushS]
/-- A contract that tells of its result what it is. -/
def relC (c : Ct) : Ct := ⟨c.f, c.ks, fun x => ⟨(c.sp x).rk, (c.sp x).pre, .rel (c.sp x).out.post⟩⟩
theorem relH {P : Program} {c : Ct} (h : Holds P c) : Holds P (relC c) := ⟨h.callee, h.run⟩
def cAlive : Ct := ⟨8, [], fun _ => ⟨[.b], True, .val true⟩⟩
theorem hAlive : Holds Try.prog cAlive := holds_by (inl := []) (cts := [cWrite, cShow, cLose, cFlush, cFilled, cRight, cAll]) mix .nil (.cons hWrite (.cons hShow (.cons hLose (.cons hFlush (.cons hFilled (.cons hRight (.cons hAll .nil))))))) Try.func8 (by kernel_rfl) fun (_ : Unit) _ => by
  refine ⟨[], ?_⟩
  refine vc_of (B :=
    (True) ∧
    ((True) ∧
     ((True) ∧
      ((True) ∧
       ((True) ∧
        (((0 : Int) ≤ 1 ∧ (1 : Int) < 18446744073709551616) ∧
         (((0 : Int) < 9223372036854775808) ∧
          (((True) ∧
            (((True) ∧
              (((True) ∧
                (((True) ∧
                  ((True) ∧
                   ((True) ∧
                    ((True) ∧
                     ((True) ∧
                      ((True) ∧
                       ((True) ∧
                        ((True) ∧
                         ((true = true)))))))))) ∧
                 ((True) ∧
                  ((True) ∧
                   ((True) ∧
                    ((True) ∧
                     ((True) ∧
                      ((True) ∧
                       ((True) ∧
                        ((True) ∧
                         ((true = true)))))))))))) ∧
               ((True) ∧
                ((True) ∧
                 ((True) ∧
                  ((True) ∧
                   ((True) ∧
                    ((True) ∧
                     ((True) ∧
                      ((True) ∧
                       ((True) ∧
                        ((true = true))))))))))))) ∧
             ((True) ∧
              (((True) ∧
                (((True) ∧
                  ((True) ∧
                   ((True) ∧
                    ((True) ∧
                     ((True) ∧
                      ((True) ∧
                       ((True) ∧
                        ((True) ∧
                         ((true = true)))))))))) ∧
                 ((True) ∧
                  ((True) ∧
                   ((True) ∧
                    ((True) ∧
                     ((True) ∧
                      ((True) ∧
                       ((True) ∧
                        ((True) ∧
                         ((true = true)))))))))))) ∧
               ((True) ∧
                ((True) ∧
                 ((True) ∧
                  ((True) ∧
                   ((True) ∧
                    ((True) ∧
                     ((True) ∧
                      ((True) ∧
                       ((True) ∧
                        ((true = true))))))))))))))) ∧
           ((True) ∧
            ((True) ∧
             (((True) ∧
               (((True) ∧
                 ((True) ∧
                  ((True) ∧
                   ((True) ∧
                    ((True) ∧
                     ((True) ∧
                      ((True) ∧
                       ((True) ∧
                        ((true = true)))))))))) ∧
                ((True) ∧
                 ((True) ∧
                  ((True) ∧
                   ((True) ∧
                    ((True) ∧
                     ((True) ∧
                      ((True) ∧
                       ((True) ∧
                        ((true = true)))))))))))) ∧
              ((True) ∧
               ((True) ∧
                ((True) ∧
                 ((True) ∧
                  ((True) ∧
                   ((True) ∧
                    ((True) ∧
                     ((True) ∧
                      ((True) ∧
                       ((true = true)))))))))))))))))))))) (by kernel_rfl) ?_
  try simp only [PIf_iff, decide_eq_true_eq, decide_eq_false_iff_not, Bool.and_eq_true, Bool.not_eq_true', Bool.not_eq_false', Bool.and_eq_false_iff, Nat.blt_eq, blt_f, beq_iff_eq, beq_eq_false_iff_ne]
  repeat' first | intro _ | apply And.intro
  all_goals first | omega | rfl | trivial | grind [w64, wu64] | skip
  all_goals trace_state
  all_goals sorry
end Go.Proofs.Ytoiacgfhjikddaa
