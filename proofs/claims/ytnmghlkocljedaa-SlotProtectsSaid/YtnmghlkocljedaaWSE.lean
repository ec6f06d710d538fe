/- Layer 5: the fixed fact. -/
import Derived.Test.YtnmghlkocljedaaWSD
set_option linter.unusedSimpArgs false
set_option linter.unusedVariables false
namespace Go.Proofs.Ytnmghlkocljedaa
open Go.RowKit Vc W
def cS5Alive : Ct := ⟨8, [], fun _ => ⟨[.b], True, .val true⟩⟩
theorem hS5Alive : Holds Try.prog cS5Alive := holds_by (inl := []) (cts := [cSReady, cSInsert, cSPut, cSSwitch, cSKeep, cSUnload, cSButton, cSRead, cSPower, cSSync, cFilled, cR4Of]) mix .nil (.cons hSReady (.cons hSInsert (.cons hSPut (.cons hSSwitch (.cons hSKeep (.cons hSUnload (.cons hSButton (.cons hSRead (.cons hSPower (.cons hSSync (.cons hFilled (.cons hR4Of .nil)))))))))))) Try.func8 (by kernel_rfl) fun (_ : Unit) _ => by
  refine ⟨[], ?_⟩
  refine vc_of (B :=
    (True) ∧
    ((True) ∧
     (((True) ∧
       ((((-9223372036854775808 : Int) ≤ 1 ∧ (1 : Int) < 9223372036854775808) ∧
         ((True) ∧
          (((True) ∧
            ((((-9223372036854775808 : Int) ≤ 1 ∧ (1 : Int) < 9223372036854775808) ∧
              (((True) ∧
                ((True) ∧
                 ((True) ∧
                  ((True) ∧
                   ((fmM (allS ([List.replicate 64 0, List.replicate 64 0, List.replicate 64 0], [(1, List.replicate 64 8)]), []) ∧ (0 : Int) ≤ 1 ∧ (1 : Int) < 18446744073709551616) ∧
                    ((fmM ([List.replicate 64 0, List.replicate 64 0, List.replicate 64 0], [(1, List.replicate 64 8)]) ∧ (0 : Int) ≤ 3 ∧ (3 : Int) < 18446744073709551616) ∧
                     (((0 : Int) ≤ 0 ∧ (0 : Int) < 18446744073709551616) ∧
                      ((True) ∧
                       ((True) ∧
                        ((True) ∧
                         ((True) ∧
                          ((True) ∧
                           ((True) ∧
                            ((true = true))))))))))))))) ∧
               ((True) ∧
                ((True) ∧
                 ((True) ∧
                  ((True) ∧
                   ((fmM (allS ([List.replicate 64 0, List.replicate 64 0, List.replicate 64 0], [(1, List.replicate 64 8)]), []) ∧ (0 : Int) ≤ 1 ∧ (1 : Int) < 18446744073709551616) ∧
                    ((fmM ([List.replicate 64 0, List.replicate 64 0, List.replicate 64 0], [(1, List.replicate 64 8)]) ∧ (0 : Int) ≤ 3 ∧ (3 : Int) < 18446744073709551616) ∧
                     (((0 : Int) ≤ 0 ∧ (0 : Int) < 18446744073709551616) ∧
                      ((True) ∧
                       ((True) ∧
                        ((True) ∧
                         ((True) ∧
                          ((True) ∧
                           ((True) ∧
                            ((true = true))))))))))))))))) ∧
             (((((-9223372036854775808 : Int) ≤ 1 ∧ (1 : Int) < 9223372036854775808) ∧
                ((True) ∧
                 ((True) ∧
                  ((True) ∧
                   ((True) ∧
                    ((fmM (allS ([List.replicate 64 0, List.replicate 64 0, List.replicate 64 0], [(1, List.replicate 64 8)]), []) ∧ (0 : Int) ≤ 1 ∧ (1 : Int) < 18446744073709551616) ∧
                     ((fmM ([List.replicate 64 0, List.replicate 64 0, List.replicate 64 0], [(1, List.replicate 64 8)]) ∧ (0 : Int) ≤ 3 ∧ (3 : Int) < 18446744073709551616) ∧
                      (((0 : Int) ≤ 0 ∧ (0 : Int) < 18446744073709551616) ∧
                       ((True) ∧
                        ((True) ∧
                         ((True) ∧
                          ((True) ∧
                           ((True) ∧
                            ((True) ∧
                             ((true = true)))))))))))))))) ∧
               (((-9223372036854775808 : Int) ≤ 1 ∧ (1 : Int) < 9223372036854775808) ∧
                ((True) ∧
                 ((True) ∧
                  ((True) ∧
                   ((True) ∧
                    ((fmM (allS ([List.replicate 64 0, List.replicate 64 0, List.replicate 64 0], [(1, List.replicate 64 8)]), []) ∧ (0 : Int) ≤ 1 ∧ (1 : Int) < 18446744073709551616) ∧
                     ((fmM ([List.replicate 64 0, List.replicate 64 0, List.replicate 64 0], [(1, List.replicate 64 8)]) ∧ (0 : Int) ≤ 3 ∧ (3 : Int) < 18446744073709551616) ∧
                      (((0 : Int) ≤ 0 ∧ (0 : Int) < 18446744073709551616) ∧
                       ((True) ∧
                        ((True) ∧
                         ((True) ∧
                          ((True) ∧
                           ((True) ∧
                            ((True) ∧
                             ((true = true))))))))))))))))) ∧
              ((((-9223372036854775808 : Int) ≤ 1 ∧ (1 : Int) < 9223372036854775808) ∧
                ((True) ∧
                 ((True) ∧
                  ((True) ∧
                   ((True) ∧
                    ((fmM (allS ([List.replicate 64 0, List.replicate 64 0, List.replicate 64 0], [(1, List.replicate 64 8)]), []) ∧ (0 : Int) ≤ 1 ∧ (1 : Int) < 18446744073709551616) ∧
                     ((fmM ([List.replicate 64 0, List.replicate 64 0, List.replicate 64 0], [(1, List.replicate 64 8)]) ∧ (0 : Int) ≤ 3 ∧ (3 : Int) < 18446744073709551616) ∧
                      (((0 : Int) ≤ 0 ∧ (0 : Int) < 18446744073709551616) ∧
                       ((True) ∧
                        ((True) ∧
                         ((True) ∧
                          ((True) ∧
                           ((True) ∧
                            ((True) ∧
                             ((true = true)))))))))))))))) ∧
               (((-9223372036854775808 : Int) ≤ 1 ∧ (1 : Int) < 9223372036854775808) ∧
                ((True) ∧
                 ((True) ∧
                  ((True) ∧
                   ((True) ∧
                    ((fmM (allS ([List.replicate 64 0, List.replicate 64 0, List.replicate 64 0], [(1, List.replicate 64 8)]), []) ∧ (0 : Int) ≤ 1 ∧ (1 : Int) < 18446744073709551616) ∧
                     ((fmM ([List.replicate 64 0, List.replicate 64 0, List.replicate 64 0], [(1, List.replicate 64 8)]) ∧ (0 : Int) ≤ 3 ∧ (3 : Int) < 18446744073709551616) ∧
                      (((0 : Int) ≤ 0 ∧ (0 : Int) < 18446744073709551616) ∧
                       ((True) ∧
                        ((True) ∧
                         ((True) ∧
                          ((True) ∧
                           ((True) ∧
                            ((True) ∧
                             ((true = true)))))))))))))))))))) ∧
           ((((True) ∧
              ((((-9223372036854775808 : Int) ≤ 1 ∧ (1 : Int) < 9223372036854775808) ∧
                ((True) ∧
                 ((True) ∧
                  ((True) ∧
                   ((True) ∧
                    ((fmM (allS ([List.replicate 64 0, List.replicate 64 0, List.replicate 64 0], [(1, List.replicate 64 8)]), []) ∧ (0 : Int) ≤ 1 ∧ (1 : Int) < 18446744073709551616) ∧
                     ((fmM ([List.replicate 64 0, List.replicate 64 0, List.replicate 64 0], [(1, List.replicate 64 8)]) ∧ (0 : Int) ≤ 3 ∧ (3 : Int) < 18446744073709551616) ∧
                      (((0 : Int) ≤ 0 ∧ (0 : Int) < 18446744073709551616) ∧
                       ((True) ∧
                        ((True) ∧
                         ((True) ∧
                          ((True) ∧
                           ((True) ∧
                            ((True) ∧
                             ((true = true)))))))))))))))) ∧
               (((-9223372036854775808 : Int) ≤ 1 ∧ (1 : Int) < 9223372036854775808) ∧
                ((True) ∧
                 ((True) ∧
                  ((True) ∧
                   ((True) ∧
                    ((fmM (allS ([List.replicate 64 0, List.replicate 64 0, List.replicate 64 0], [(1, List.replicate 64 8)]), []) ∧ (0 : Int) ≤ 1 ∧ (1 : Int) < 18446744073709551616) ∧
                     ((fmM ([List.replicate 64 0, List.replicate 64 0, List.replicate 64 0], [(1, List.replicate 64 8)]) ∧ (0 : Int) ≤ 3 ∧ (3 : Int) < 18446744073709551616) ∧
                      (((0 : Int) ≤ 0 ∧ (0 : Int) < 18446744073709551616) ∧
                       ((True) ∧
                        ((True) ∧
                         ((True) ∧
                          ((True) ∧
                           ((True) ∧
                            ((True) ∧
                             ((true = true)))))))))))))))))) ∧
             ((True) ∧
              (((-9223372036854775808 : Int) ≤ 1 ∧ (1 : Int) < 9223372036854775808) ∧
               ((True) ∧
                ((True) ∧
                 ((True) ∧
                  ((True) ∧
                   ((fmM (allS ([List.replicate 64 0, List.replicate 64 0, List.replicate 64 0], [(1, List.replicate 64 8)]), []) ∧ (0 : Int) ≤ 1 ∧ (1 : Int) < 18446744073709551616) ∧
                    ((fmM ([List.replicate 64 0, List.replicate 64 0, List.replicate 64 0], [(1, List.replicate 64 8)]) ∧ (0 : Int) ≤ 3 ∧ (3 : Int) < 18446744073709551616) ∧
                     (((0 : Int) ≤ 0 ∧ (0 : Int) < 18446744073709551616) ∧
                      ((True) ∧
                       ((True) ∧
                        ((True) ∧
                         ((True) ∧
                          ((True) ∧
                           ((True) ∧
                            ((true = true)))))))))))))))))) ∧
            (((True) ∧
              ((((-9223372036854775808 : Int) ≤ 1 ∧ (1 : Int) < 9223372036854775808) ∧
                ((True) ∧
                 ((True) ∧
                  ((True) ∧
                   ((True) ∧
                    ((fmM (allS ([List.replicate 64 0, List.replicate 64 0, List.replicate 64 0], [(1, List.replicate 64 8)]), []) ∧ (0 : Int) ≤ 1 ∧ (1 : Int) < 18446744073709551616) ∧
                     ((fmM ([List.replicate 64 0, List.replicate 64 0, List.replicate 64 0], [(1, List.replicate 64 8)]) ∧ (0 : Int) ≤ 3 ∧ (3 : Int) < 18446744073709551616) ∧
                      (((0 : Int) ≤ 0 ∧ (0 : Int) < 18446744073709551616) ∧
                       ((True) ∧
                        ((True) ∧
                         ((True) ∧
                          ((True) ∧
                           ((True) ∧
                            ((True) ∧
                             ((true = true)))))))))))))))) ∧
               (((-9223372036854775808 : Int) ≤ 1 ∧ (1 : Int) < 9223372036854775808) ∧
                ((True) ∧
                 ((True) ∧
                  ((True) ∧
                   ((True) ∧
                    ((fmM (allS ([List.replicate 64 0, List.replicate 64 0, List.replicate 64 0], [(1, List.replicate 64 8)]), []) ∧ (0 : Int) ≤ 1 ∧ (1 : Int) < 18446744073709551616) ∧
                     ((fmM ([List.replicate 64 0, List.replicate 64 0, List.replicate 64 0], [(1, List.replicate 64 8)]) ∧ (0 : Int) ≤ 3 ∧ (3 : Int) < 18446744073709551616) ∧
                      (((0 : Int) ≤ 0 ∧ (0 : Int) < 18446744073709551616) ∧
                       ((True) ∧
                        ((True) ∧
                         ((True) ∧
                          ((True) ∧
                           ((True) ∧
                            ((True) ∧
                             ((true = true)))))))))))))))))) ∧
             ((True) ∧
              (((-9223372036854775808 : Int) ≤ 1 ∧ (1 : Int) < 9223372036854775808) ∧
               ((True) ∧
                ((True) ∧
                 ((True) ∧
                  ((True) ∧
                   ((fmM (allS ([List.replicate 64 0, List.replicate 64 0, List.replicate 64 0], [(1, List.replicate 64 8)]), []) ∧ (0 : Int) ≤ 1 ∧ (1 : Int) < 18446744073709551616) ∧
                    ((fmM ([List.replicate 64 0, List.replicate 64 0, List.replicate 64 0], [(1, List.replicate 64 8)]) ∧ (0 : Int) ≤ 3 ∧ (3 : Int) < 18446744073709551616) ∧
                     (((0 : Int) ≤ 0 ∧ (0 : Int) < 18446744073709551616) ∧
                      ((True) ∧
                       ((True) ∧
                        ((True) ∧
                         ((True) ∧
                          ((True) ∧
                           ((True) ∧
                            ((true = true)))))))))))))))))))))) ∧
        (((-9223372036854775808 : Int) ≤ 1 ∧ (1 : Int) < 9223372036854775808) ∧
         ((True) ∧
          (((True) ∧
            ((((-9223372036854775808 : Int) ≤ 1 ∧ (1 : Int) < 9223372036854775808) ∧
              (((True) ∧
                ((True) ∧
                 ((True) ∧
                  ((True) ∧
                   ((fmM (allS ([List.replicate 64 0, List.replicate 64 0, List.replicate 64 0], [(1, List.replicate 64 8)]), []) ∧ (0 : Int) ≤ 1 ∧ (1 : Int) < 18446744073709551616) ∧
                    ((fmM ([List.replicate 64 0, List.replicate 64 0, List.replicate 64 0], [(1, List.replicate 64 8)]) ∧ (0 : Int) ≤ 3 ∧ (3 : Int) < 18446744073709551616) ∧
                     (((0 : Int) ≤ 0 ∧ (0 : Int) < 18446744073709551616) ∧
                      ((True) ∧
                       ((True) ∧
                        ((True) ∧
                         ((True) ∧
                          ((True) ∧
                           ((True) ∧
                            ((true = true))))))))))))))) ∧
               ((True) ∧
                ((True) ∧
                 ((True) ∧
                  ((True) ∧
                   ((fmM (allS ([List.replicate 64 0, List.replicate 64 0, List.replicate 64 0], [(1, List.replicate 64 8)]), []) ∧ (0 : Int) ≤ 1 ∧ (1 : Int) < 18446744073709551616) ∧
                    ((fmM ([List.replicate 64 0, List.replicate 64 0, List.replicate 64 0], [(1, List.replicate 64 8)]) ∧ (0 : Int) ≤ 3 ∧ (3 : Int) < 18446744073709551616) ∧
                     (((0 : Int) ≤ 0 ∧ (0 : Int) < 18446744073709551616) ∧
                      ((True) ∧
                       ((True) ∧
                        ((True) ∧
                         ((True) ∧
                          ((True) ∧
                           ((True) ∧
                            ((true = true))))))))))))))))) ∧
             (((((-9223372036854775808 : Int) ≤ 1 ∧ (1 : Int) < 9223372036854775808) ∧
                ((True) ∧
                 ((True) ∧
                  ((True) ∧
                   ((True) ∧
                    ((fmM (allS ([List.replicate 64 0, List.replicate 64 0, List.replicate 64 0], [(1, List.replicate 64 8)]), []) ∧ (0 : Int) ≤ 1 ∧ (1 : Int) < 18446744073709551616) ∧
                     ((fmM ([List.replicate 64 0, List.replicate 64 0, List.replicate 64 0], [(1, List.replicate 64 8)]) ∧ (0 : Int) ≤ 3 ∧ (3 : Int) < 18446744073709551616) ∧
                      (((0 : Int) ≤ 0 ∧ (0 : Int) < 18446744073709551616) ∧
                       ((True) ∧
                        ((True) ∧
                         ((True) ∧
                          ((True) ∧
                           ((True) ∧
                            ((True) ∧
                             ((true = true)))))))))))))))) ∧
               (((-9223372036854775808 : Int) ≤ 1 ∧ (1 : Int) < 9223372036854775808) ∧
                ((True) ∧
                 ((True) ∧
                  ((True) ∧
                   ((True) ∧
                    ((fmM (allS ([List.replicate 64 0, List.replicate 64 0, List.replicate 64 0], [(1, List.replicate 64 8)]), []) ∧ (0 : Int) ≤ 1 ∧ (1 : Int) < 18446744073709551616) ∧
                     ((fmM ([List.replicate 64 0, List.replicate 64 0, List.replicate 64 0], [(1, List.replicate 64 8)]) ∧ (0 : Int) ≤ 3 ∧ (3 : Int) < 18446744073709551616) ∧
                      (((0 : Int) ≤ 0 ∧ (0 : Int) < 18446744073709551616) ∧
                       ((True) ∧
                        ((True) ∧
                         ((True) ∧
                          ((True) ∧
                           ((True) ∧
                            ((True) ∧
                             ((true = true))))))))))))))))) ∧
              ((((-9223372036854775808 : Int) ≤ 1 ∧ (1 : Int) < 9223372036854775808) ∧
                ((True) ∧
                 ((True) ∧
                  ((True) ∧
                   ((True) ∧
                    ((fmM (allS ([List.replicate 64 0, List.replicate 64 0, List.replicate 64 0], [(1, List.replicate 64 8)]), []) ∧ (0 : Int) ≤ 1 ∧ (1 : Int) < 18446744073709551616) ∧
                     ((fmM ([List.replicate 64 0, List.replicate 64 0, List.replicate 64 0], [(1, List.replicate 64 8)]) ∧ (0 : Int) ≤ 3 ∧ (3 : Int) < 18446744073709551616) ∧
                      (((0 : Int) ≤ 0 ∧ (0 : Int) < 18446744073709551616) ∧
                       ((True) ∧
                        ((True) ∧
                         ((True) ∧
                          ((True) ∧
                           ((True) ∧
                            ((True) ∧
                             ((true = true)))))))))))))))) ∧
               (((-9223372036854775808 : Int) ≤ 1 ∧ (1 : Int) < 9223372036854775808) ∧
                ((True) ∧
                 ((True) ∧
                  ((True) ∧
                   ((True) ∧
                    ((fmM (allS ([List.replicate 64 0, List.replicate 64 0, List.replicate 64 0], [(1, List.replicate 64 8)]), []) ∧ (0 : Int) ≤ 1 ∧ (1 : Int) < 18446744073709551616) ∧
                     ((fmM ([List.replicate 64 0, List.replicate 64 0, List.replicate 64 0], [(1, List.replicate 64 8)]) ∧ (0 : Int) ≤ 3 ∧ (3 : Int) < 18446744073709551616) ∧
                      (((0 : Int) ≤ 0 ∧ (0 : Int) < 18446744073709551616) ∧
                       ((True) ∧
                        ((True) ∧
                         ((True) ∧
                          ((True) ∧
                           ((True) ∧
                            ((True) ∧
                             ((true = true)))))))))))))))))))) ∧
           ((((True) ∧
              ((((-9223372036854775808 : Int) ≤ 1 ∧ (1 : Int) < 9223372036854775808) ∧
                ((True) ∧
                 ((True) ∧
                  ((True) ∧
                   ((True) ∧
                    ((fmM (allS ([List.replicate 64 0, List.replicate 64 0, List.replicate 64 0], [(1, List.replicate 64 8)]), []) ∧ (0 : Int) ≤ 1 ∧ (1 : Int) < 18446744073709551616) ∧
                     ((fmM ([List.replicate 64 0, List.replicate 64 0, List.replicate 64 0], [(1, List.replicate 64 8)]) ∧ (0 : Int) ≤ 3 ∧ (3 : Int) < 18446744073709551616) ∧
                      (((0 : Int) ≤ 0 ∧ (0 : Int) < 18446744073709551616) ∧
                       ((True) ∧
                        ((True) ∧
                         ((True) ∧
                          ((True) ∧
                           ((True) ∧
                            ((True) ∧
                             ((true = true)))))))))))))))) ∧
               (((-9223372036854775808 : Int) ≤ 1 ∧ (1 : Int) < 9223372036854775808) ∧
                ((True) ∧
                 ((True) ∧
                  ((True) ∧
                   ((True) ∧
                    ((fmM (allS ([List.replicate 64 0, List.replicate 64 0, List.replicate 64 0], [(1, List.replicate 64 8)]), []) ∧ (0 : Int) ≤ 1 ∧ (1 : Int) < 18446744073709551616) ∧
                     ((fmM ([List.replicate 64 0, List.replicate 64 0, List.replicate 64 0], [(1, List.replicate 64 8)]) ∧ (0 : Int) ≤ 3 ∧ (3 : Int) < 18446744073709551616) ∧
                      (((0 : Int) ≤ 0 ∧ (0 : Int) < 18446744073709551616) ∧
                       ((True) ∧
                        ((True) ∧
                         ((True) ∧
                          ((True) ∧
                           ((True) ∧
                            ((True) ∧
                             ((true = true)))))))))))))))))) ∧
             ((True) ∧
              (((-9223372036854775808 : Int) ≤ 1 ∧ (1 : Int) < 9223372036854775808) ∧
               ((True) ∧
                ((True) ∧
                 ((True) ∧
                  ((True) ∧
                   ((fmM (allS ([List.replicate 64 0, List.replicate 64 0, List.replicate 64 0], [(1, List.replicate 64 8)]), []) ∧ (0 : Int) ≤ 1 ∧ (1 : Int) < 18446744073709551616) ∧
                    ((fmM ([List.replicate 64 0, List.replicate 64 0, List.replicate 64 0], [(1, List.replicate 64 8)]) ∧ (0 : Int) ≤ 3 ∧ (3 : Int) < 18446744073709551616) ∧
                     (((0 : Int) ≤ 0 ∧ (0 : Int) < 18446744073709551616) ∧
                      ((True) ∧
                       ((True) ∧
                        ((True) ∧
                         ((True) ∧
                          ((True) ∧
                           ((True) ∧
                            ((true = true)))))))))))))))))) ∧
            (((True) ∧
              ((((-9223372036854775808 : Int) ≤ 1 ∧ (1 : Int) < 9223372036854775808) ∧
                ((True) ∧
                 ((True) ∧
                  ((True) ∧
                   ((True) ∧
                    ((fmM (allS ([List.replicate 64 0, List.replicate 64 0, List.replicate 64 0], [(1, List.replicate 64 8)]), []) ∧ (0 : Int) ≤ 1 ∧ (1 : Int) < 18446744073709551616) ∧
                     ((fmM ([List.replicate 64 0, List.replicate 64 0, List.replicate 64 0], [(1, List.replicate 64 8)]) ∧ (0 : Int) ≤ 3 ∧ (3 : Int) < 18446744073709551616) ∧
                      (((0 : Int) ≤ 0 ∧ (0 : Int) < 18446744073709551616) ∧
                       ((True) ∧
                        ((True) ∧
                         ((True) ∧
                          ((True) ∧
                           ((True) ∧
                            ((True) ∧
                             ((true = true)))))))))))))))) ∧
               (((-9223372036854775808 : Int) ≤ 1 ∧ (1 : Int) < 9223372036854775808) ∧
                ((True) ∧
                 ((True) ∧
                  ((True) ∧
                   ((True) ∧
                    ((fmM (allS ([List.replicate 64 0, List.replicate 64 0, List.replicate 64 0], [(1, List.replicate 64 8)]), []) ∧ (0 : Int) ≤ 1 ∧ (1 : Int) < 18446744073709551616) ∧
                     ((fmM ([List.replicate 64 0, List.replicate 64 0, List.replicate 64 0], [(1, List.replicate 64 8)]) ∧ (0 : Int) ≤ 3 ∧ (3 : Int) < 18446744073709551616) ∧
                      (((0 : Int) ≤ 0 ∧ (0 : Int) < 18446744073709551616) ∧
                       ((True) ∧
                        ((True) ∧
                         ((True) ∧
                          ((True) ∧
                           ((True) ∧
                            ((True) ∧
                             ((true = true)))))))))))))))))) ∧
             ((True) ∧
              (((-9223372036854775808 : Int) ≤ 1 ∧ (1 : Int) < 9223372036854775808) ∧
               ((True) ∧
                ((True) ∧
                 ((True) ∧
                  ((True) ∧
                   ((fmM (allS ([List.replicate 64 0, List.replicate 64 0, List.replicate 64 0], [(1, List.replicate 64 8)]), []) ∧ (0 : Int) ≤ 1 ∧ (1 : Int) < 18446744073709551616) ∧
                    ((fmM ([List.replicate 64 0, List.replicate 64 0, List.replicate 64 0], [(1, List.replicate 64 8)]) ∧ (0 : Int) ≤ 3 ∧ (3 : Int) < 18446744073709551616) ∧
                     (((0 : Int) ≤ 0 ∧ (0 : Int) < 18446744073709551616) ∧
                      ((True) ∧
                       ((True) ∧
                        ((True) ∧
                         ((True) ∧
                          ((True) ∧
                           ((True) ∧
                            ((true = true)))))))))))))))))))))))) ∧
      ((True) ∧
       (((-9223372036854775808 : Int) ≤ 1 ∧ (1 : Int) < 9223372036854775808) ∧
        ((True) ∧
         (((True) ∧
           ((((-9223372036854775808 : Int) ≤ 1 ∧ (1 : Int) < 9223372036854775808) ∧
             (((True) ∧
               ((True) ∧
                ((True) ∧
                 ((True) ∧
                  ((fmM (allS ([List.replicate 64 0, List.replicate 64 0, List.replicate 64 0], [(1, List.replicate 64 8)]), []) ∧ (0 : Int) ≤ 1 ∧ (1 : Int) < 18446744073709551616) ∧
                   ((fmM ([List.replicate 64 0, List.replicate 64 0, List.replicate 64 0], [(1, List.replicate 64 8)]) ∧ (0 : Int) ≤ 3 ∧ (3 : Int) < 18446744073709551616) ∧
                    (((0 : Int) ≤ 0 ∧ (0 : Int) < 18446744073709551616) ∧
                     ((True) ∧
                      ((True) ∧
                       ((True) ∧
                        ((True) ∧
                         ((True) ∧
                          ((True) ∧
                           ((true = true))))))))))))))) ∧
              ((True) ∧
               ((True) ∧
                ((True) ∧
                 ((True) ∧
                  ((fmM (allS ([List.replicate 64 0, List.replicate 64 0, List.replicate 64 0], [(1, List.replicate 64 8)]), []) ∧ (0 : Int) ≤ 1 ∧ (1 : Int) < 18446744073709551616) ∧
                   ((fmM ([List.replicate 64 0, List.replicate 64 0, List.replicate 64 0], [(1, List.replicate 64 8)]) ∧ (0 : Int) ≤ 3 ∧ (3 : Int) < 18446744073709551616) ∧
                    (((0 : Int) ≤ 0 ∧ (0 : Int) < 18446744073709551616) ∧
                     ((True) ∧
                      ((True) ∧
                       ((True) ∧
                        ((True) ∧
                         ((True) ∧
                          ((True) ∧
                           ((true = true))))))))))))))))) ∧
            (((((-9223372036854775808 : Int) ≤ 1 ∧ (1 : Int) < 9223372036854775808) ∧
               ((True) ∧
                ((True) ∧
                 ((True) ∧
                  ((True) ∧
                   ((fmM (allS ([List.replicate 64 0, List.replicate 64 0, List.replicate 64 0], [(1, List.replicate 64 8)]), []) ∧ (0 : Int) ≤ 1 ∧ (1 : Int) < 18446744073709551616) ∧
                    ((fmM ([List.replicate 64 0, List.replicate 64 0, List.replicate 64 0], [(1, List.replicate 64 8)]) ∧ (0 : Int) ≤ 3 ∧ (3 : Int) < 18446744073709551616) ∧
                     (((0 : Int) ≤ 0 ∧ (0 : Int) < 18446744073709551616) ∧
                      ((True) ∧
                       ((True) ∧
                        ((True) ∧
                         ((True) ∧
                          ((True) ∧
                           ((True) ∧
                            ((true = true)))))))))))))))) ∧
              (((-9223372036854775808 : Int) ≤ 1 ∧ (1 : Int) < 9223372036854775808) ∧
               ((True) ∧
                ((True) ∧
                 ((True) ∧
                  ((True) ∧
                   ((fmM (allS ([List.replicate 64 0, List.replicate 64 0, List.replicate 64 0], [(1, List.replicate 64 8)]), []) ∧ (0 : Int) ≤ 1 ∧ (1 : Int) < 18446744073709551616) ∧
                    ((fmM ([List.replicate 64 0, List.replicate 64 0, List.replicate 64 0], [(1, List.replicate 64 8)]) ∧ (0 : Int) ≤ 3 ∧ (3 : Int) < 18446744073709551616) ∧
                     (((0 : Int) ≤ 0 ∧ (0 : Int) < 18446744073709551616) ∧
                      ((True) ∧
                       ((True) ∧
                        ((True) ∧
                         ((True) ∧
                          ((True) ∧
                           ((True) ∧
                            ((true = true))))))))))))))))) ∧
             ((((-9223372036854775808 : Int) ≤ 1 ∧ (1 : Int) < 9223372036854775808) ∧
               ((True) ∧
                ((True) ∧
                 ((True) ∧
                  ((True) ∧
                   ((fmM (allS ([List.replicate 64 0, List.replicate 64 0, List.replicate 64 0], [(1, List.replicate 64 8)]), []) ∧ (0 : Int) ≤ 1 ∧ (1 : Int) < 18446744073709551616) ∧
                    ((fmM ([List.replicate 64 0, List.replicate 64 0, List.replicate 64 0], [(1, List.replicate 64 8)]) ∧ (0 : Int) ≤ 3 ∧ (3 : Int) < 18446744073709551616) ∧
                     (((0 : Int) ≤ 0 ∧ (0 : Int) < 18446744073709551616) ∧
                      ((True) ∧
                       ((True) ∧
                        ((True) ∧
                         ((True) ∧
                          ((True) ∧
                           ((True) ∧
                            ((true = true)))))))))))))))) ∧
              (((-9223372036854775808 : Int) ≤ 1 ∧ (1 : Int) < 9223372036854775808) ∧
               ((True) ∧
                ((True) ∧
                 ((True) ∧
                  ((True) ∧
                   ((fmM (allS ([List.replicate 64 0, List.replicate 64 0, List.replicate 64 0], [(1, List.replicate 64 8)]), []) ∧ (0 : Int) ≤ 1 ∧ (1 : Int) < 18446744073709551616) ∧
                    ((fmM ([List.replicate 64 0, List.replicate 64 0, List.replicate 64 0], [(1, List.replicate 64 8)]) ∧ (0 : Int) ≤ 3 ∧ (3 : Int) < 18446744073709551616) ∧
                     (((0 : Int) ≤ 0 ∧ (0 : Int) < 18446744073709551616) ∧
                      ((True) ∧
                       ((True) ∧
                        ((True) ∧
                         ((True) ∧
                          ((True) ∧
                           ((True) ∧
                            ((true = true)))))))))))))))))))) ∧
          ((((True) ∧
             ((((-9223372036854775808 : Int) ≤ 1 ∧ (1 : Int) < 9223372036854775808) ∧
               ((True) ∧
                ((True) ∧
                 ((True) ∧
                  ((True) ∧
                   ((fmM (allS ([List.replicate 64 0, List.replicate 64 0, List.replicate 64 0], [(1, List.replicate 64 8)]), []) ∧ (0 : Int) ≤ 1 ∧ (1 : Int) < 18446744073709551616) ∧
                    ((fmM ([List.replicate 64 0, List.replicate 64 0, List.replicate 64 0], [(1, List.replicate 64 8)]) ∧ (0 : Int) ≤ 3 ∧ (3 : Int) < 18446744073709551616) ∧
                     (((0 : Int) ≤ 0 ∧ (0 : Int) < 18446744073709551616) ∧
                      ((True) ∧
                       ((True) ∧
                        ((True) ∧
                         ((True) ∧
                          ((True) ∧
                           ((True) ∧
                            ((true = true)))))))))))))))) ∧
              (((-9223372036854775808 : Int) ≤ 1 ∧ (1 : Int) < 9223372036854775808) ∧
               ((True) ∧
                ((True) ∧
                 ((True) ∧
                  ((True) ∧
                   ((fmM (allS ([List.replicate 64 0, List.replicate 64 0, List.replicate 64 0], [(1, List.replicate 64 8)]), []) ∧ (0 : Int) ≤ 1 ∧ (1 : Int) < 18446744073709551616) ∧
                    ((fmM ([List.replicate 64 0, List.replicate 64 0, List.replicate 64 0], [(1, List.replicate 64 8)]) ∧ (0 : Int) ≤ 3 ∧ (3 : Int) < 18446744073709551616) ∧
                     (((0 : Int) ≤ 0 ∧ (0 : Int) < 18446744073709551616) ∧
                      ((True) ∧
                       ((True) ∧
                        ((True) ∧
                         ((True) ∧
                          ((True) ∧
                           ((True) ∧
                            ((true = true)))))))))))))))))) ∧
            ((True) ∧
             (((-9223372036854775808 : Int) ≤ 1 ∧ (1 : Int) < 9223372036854775808) ∧
              ((True) ∧
               ((True) ∧
                ((True) ∧
                 ((True) ∧
                  ((fmM (allS ([List.replicate 64 0, List.replicate 64 0, List.replicate 64 0], [(1, List.replicate 64 8)]), []) ∧ (0 : Int) ≤ 1 ∧ (1 : Int) < 18446744073709551616) ∧
                   ((fmM ([List.replicate 64 0, List.replicate 64 0, List.replicate 64 0], [(1, List.replicate 64 8)]) ∧ (0 : Int) ≤ 3 ∧ (3 : Int) < 18446744073709551616) ∧
                    (((0 : Int) ≤ 0 ∧ (0 : Int) < 18446744073709551616) ∧
                     ((True) ∧
                      ((True) ∧
                       ((True) ∧
                        ((True) ∧
                         ((True) ∧
                          ((True) ∧
                           ((true = true)))))))))))))))))) ∧
           (((True) ∧
             ((((-9223372036854775808 : Int) ≤ 1 ∧ (1 : Int) < 9223372036854775808) ∧
               ((True) ∧
                ((True) ∧
                 ((True) ∧
                  ((True) ∧
                   ((fmM (allS ([List.replicate 64 0, List.replicate 64 0, List.replicate 64 0], [(1, List.replicate 64 8)]), []) ∧ (0 : Int) ≤ 1 ∧ (1 : Int) < 18446744073709551616) ∧
                    ((fmM ([List.replicate 64 0, List.replicate 64 0, List.replicate 64 0], [(1, List.replicate 64 8)]) ∧ (0 : Int) ≤ 3 ∧ (3 : Int) < 18446744073709551616) ∧
                     (((0 : Int) ≤ 0 ∧ (0 : Int) < 18446744073709551616) ∧
                      ((True) ∧
                       ((True) ∧
                        ((True) ∧
                         ((True) ∧
                          ((True) ∧
                           ((True) ∧
                            ((true = true)))))))))))))))) ∧
              (((-9223372036854775808 : Int) ≤ 1 ∧ (1 : Int) < 9223372036854775808) ∧
               ((True) ∧
                ((True) ∧
                 ((True) ∧
                  ((True) ∧
                   ((fmM (allS ([List.replicate 64 0, List.replicate 64 0, List.replicate 64 0], [(1, List.replicate 64 8)]), []) ∧ (0 : Int) ≤ 1 ∧ (1 : Int) < 18446744073709551616) ∧
                    ((fmM ([List.replicate 64 0, List.replicate 64 0, List.replicate 64 0], [(1, List.replicate 64 8)]) ∧ (0 : Int) ≤ 3 ∧ (3 : Int) < 18446744073709551616) ∧
                     (((0 : Int) ≤ 0 ∧ (0 : Int) < 18446744073709551616) ∧
                      ((True) ∧
                       ((True) ∧
                        ((True) ∧
                         ((True) ∧
                          ((True) ∧
                           ((True) ∧
                            ((true = true)))))))))))))))))) ∧
            ((True) ∧
             (((-9223372036854775808 : Int) ≤ 1 ∧ (1 : Int) < 9223372036854775808) ∧
              ((True) ∧
               ((True) ∧
                ((True) ∧
                 ((True) ∧
                  ((fmM (allS ([List.replicate 64 0, List.replicate 64 0, List.replicate 64 0], [(1, List.replicate 64 8)]), []) ∧ (0 : Int) ≤ 1 ∧ (1 : Int) < 18446744073709551616) ∧
                   ((fmM ([List.replicate 64 0, List.replicate 64 0, List.replicate 64 0], [(1, List.replicate 64 8)]) ∧ (0 : Int) ≤ 3 ∧ (3 : Int) < 18446744073709551616) ∧
                    (((0 : Int) ≤ 0 ∧ (0 : Int) < 18446744073709551616) ∧
                     ((True) ∧
                      ((True) ∧
                       ((True) ∧
                        ((True) ∧
                         ((True) ∧
                          ((True) ∧
                           ((true = true)))))))))))))))))))))))))) (by kernel_rfl) ?_
  have hfm : ∀ b ∈ allS ([List.replicate 64 0, List.replicate 64 0, List.replicate 64 0], [((1 : Int), List.replicate 64 (8 : Int))]), b.length = 64 := allS_fm ⟨fun x hx => by simp at hx; rw [hx]; simp, fun x hx => by simp at hx; rw [hx]; simp⟩
  try simp only [PIf_iff, decide_eq_true_eq, decide_eq_false_iff_not, Bool.and_eq_true, Bool.not_eq_true', Bool.not_eq_false', Bool.and_eq_false_iff, Nat.blt_eq, blt_f, beq_iff_eq, beq_eq_false_iff_ne]
  repeat' first | intro _ | apply And.intro
  all_goals first | omega | rfl | exact True.intro | grind [w64, wu64]
end Go.Proofs.Ytnmghlkocljedaa
