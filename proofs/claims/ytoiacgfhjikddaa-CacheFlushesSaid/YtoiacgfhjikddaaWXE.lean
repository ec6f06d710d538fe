/- Layer 3: the fixed fact. -/
import Derived.Test.YtoiacgfhjikddaaWXT
namespace Go.Proofs.Ytoiacgfhjikddaa
open Go.RowKit Vc W
/-- A contract that tells of its result what it is. -/
def relC (c : Ct) : Ct := ⟨c.f, c.ks, fun x => ⟨(c.sp x).rk, (c.sp x).pre, .rel (c.sp x).out.post⟩⟩
theorem relH {P : Program} {c : Ct} (h : Holds P c) : Holds P (relC c) := ⟨h.callee, h.run⟩
def cAlive : Ct := ⟨8, [], fun _ => ⟨[.b], True, .val true⟩⟩
theorem hAlive : Holds Try.prog cAlive := holds_by (inl := []) (cts := [cWrite, cShow, cLose, cFlush, cFilled, cRight, cAll]) mix .nil (.cons hWrite (.cons hShow (.cons hLose (.cons hFlush (.cons hFilled (.cons hRight (.cons hAll .nil))))))) Try.func8 (by kernel_rfl) fun (_ : Unit) _ => by
  refine ⟨[], ?_⟩
  refine vc_of (B :=
    (True) ∧
    ((True) ∧
     ((True) ∧
      ((True) ∧
       ((True) ∧
        (((0 : Int) ≤ 1 ∧ (1 : Int) < 18446744073709551616) ∧
         (((0 : Int) < 9223372036854775808) ∧
          (((True) ∧
            (((True) ∧
              (((True) ∧
                (((True) ∧
                  ((True) ∧
                   ((True) ∧
                    ((True) ∧
                     ((True) ∧
                      ((True) ∧
                       ((True) ∧
                        ((True) ∧
                         ((true = true)))))))))) ∧
                 ((True) ∧
                  ((True) ∧
                   ((True) ∧
                    ((True) ∧
                     ((True) ∧
                      ((True) ∧
                       ((True) ∧
                        ((True) ∧
                         ((true = true)))))))))))) ∧
               ((True) ∧
                ((True) ∧
                 ((True) ∧
                  ((True) ∧
                   ((True) ∧
                    ((True) ∧
                     ((True) ∧
                      ((True) ∧
                       ((True) ∧
                        ((true = true))))))))))))) ∧
             ((True) ∧
              (((True) ∧
                (((True) ∧
                  ((True) ∧
                   ((True) ∧
                    ((True) ∧
                     ((True) ∧
                      ((True) ∧
                       ((True) ∧
                        ((True) ∧
                         ((true = true)))))))))) ∧
                 ((True) ∧
                  ((True) ∧
                   ((True) ∧
                    ((True) ∧
                     ((True) ∧
                      ((True) ∧
                       ((True) ∧
                        ((True) ∧
                         ((true = true)))))))))))) ∧
               ((True) ∧
                ((True) ∧
                 ((True) ∧
                  ((True) ∧
                   ((True) ∧
                    ((True) ∧
                     ((True) ∧
                      ((True) ∧
                       ((True) ∧
                        ((true = true))))))))))))))) ∧
           ((True) ∧
            ((True) ∧
             (((True) ∧
               (((True) ∧
                 ((True) ∧
                  ((True) ∧
                   ((True) ∧
                    ((True) ∧
                     ((True) ∧
                      ((True) ∧
                       ((True) ∧
                        ((true = true)))))))))) ∧
                ((True) ∧
                 ((True) ∧
                  ((True) ∧
                   ((True) ∧
                    ((True) ∧
                     ((True) ∧
                      ((True) ∧
                       ((True) ∧
                        ((true = true)))))))))))) ∧
              ((True) ∧
               ((True) ∧
                ((True) ∧
                 ((True) ∧
                  ((True) ∧
                   ((True) ∧
                    ((True) ∧
                     ((True) ∧
                      ((True) ∧
                       ((true = true)))))))))))))))))))))) (by kernel_rfl) ?_
  simp only [PIf_iff, decide_eq_true_eq, decide_eq_false_iff_not, Bool.and_eq_true, Bool.not_eq_true', Bool.not_eq_false', Bool.and_eq_false_iff, Nat.blt_eq, blt_f, beq_iff_eq, beq_eq_false_iff_ne]
  repeat' first | intro _ | apply And.intro
  all_goals first | rfl | trivial | omega | grind [w64, wu64] | skip
  all_goals trace_state
  all_goals sorry
end Go.Proofs.Ytoiacgfhjikddaa
