/- Layer 3: the law of what is lost. -/
import Derived.Test.YtoiacgfhjikddaaWLC
set_option linter.unusedSimpArgs false
set_option linter.unusedVariables false
namespace Go.Proofs.Ytoiacgfhjikddaa
open Go.RowKit Vc W
abbrev kDirN : K := .sn 53 kDirty
abbrev LosX := Int × MedE × List (List Int) × List DirtyE
/-- What each block may be, as one fact. -/
structure LI (m : MedE) (all : List (List Int)) (ws : List DirtyE) : Prop where
  h : LInv m all ws
theorem li_flush {m : MedE} (h : rightS m = true) : (flushS m 0 0).2 = 0 ∧ LI (flushS m 0 0).1 (allS m) [] := by
  rw [flush_all h]; exact ⟨rfl, ⟨LInv.start h⟩⟩
theorem li_right {m : MedE} {all : List (List Int)} {ws : List DirtyE} (h : LI m all ws) : rightS m = true ∧ all.length = m.1.length ∧ all.length ≤ 64 := by
  have := right_of h.h.1
  exact ⟨h.h.1, h.h.2.1, by rw [h.h.2.1]; omega⟩
theorem li_there {m : MedE} {all : List (List Int)} {ws : List DirtyE} {k : Int} {b : List Int} {th : Bool} (h : LI m all ws) : (writeS m k b th).2 = 0 ↔ (0 ≤ k ∧ k < all.length) := by
  rw [write_there h.h.1, h.h.2.1]
  simp only [thereS, Bool.and_eq_true, decide_eq_true_eq]
theorem li_write {m : MedE} {all : List (List Int)} {ws : List DirtyE} {k : Int} {b : List Int} {th : Bool} (h : LI m all ws) (he : (writeS m k b th).2 = 0) : LI (writeS m k b th).1 all (ws ++ [(k, b)]) := ⟨h.h.write he⟩
theorem li_lose {m : MedE} {all : List (List Int)} {ws : List DirtyE} (h : LI m all ws) (k : Int) : (loseS m k).2 = 0 ∧ (loseS m k).1.2.length = 0 ∧ (loseS m k).1.1.length = all.length := by
  obtain ⟨a, b, c, _⟩ := h.h.lose k
  exact ⟨a, by rw [b]; rfl, c⟩
theorem li_each {m : MedE} {all : List (List Int)} {ws : List DirtyE} {k i : Int} (h : LI m all ws) (h0 : 0 ≤ i) (h1 : i < all.length) (hn : (loseS m k).1.1.getD i.toNat (List.replicate 64 0) ≠ all.getD i.toNat (List.replicate 64 0))
    (hw : ∀ (j : Nat) (w : DirtyE), (j : Int) < ws.length → ws[j]? = some w → ¬ (w.1 = i ∧ (loseS m k).1.1.getD i.toNat (List.replicate 64 0) = w.2)) : False := by
  obtain ⟨_, _, c, d⟩ := h.h.lose k
  rcases d i.toNat (by omega) with e | ⟨w, hm, e1, e2⟩
  · exact hn (by rw [List.getD_eq_getElem?_getD, List.getD_eq_getElem?_getD, e])
  · obtain ⟨j, hj⟩ := List.getElem?_of_mem hm
    have hl := (List.getElem?_eq_some_iff.1 hj).1
    exact hw j w (by omega) hj ⟨by omega, by rw [List.getD_eq_getElem?_getD, e2]; rfl⟩
def cL3Loses : Ct := ⟨6, [kMed, kU64, .sl kAct], fun x => ⟨[.b], RngL [kMed, kU64, .sl kAct] x, .val true⟩⟩
set_option maxHeartbeats 4000000 in
theorem hL3Loses : Holds Try.prog cL3Loses := holds_byJ (inl := []) (cts := [cAlive, cR3Great, cR3Right, cAll, cFlush, cLose, cWrite, cFilled]) mix .nil (.cons hAlive (.cons hR3Great (.cons hR3Right (.cons hAll (.cons hFlush (.cons hLose (.cons hWrite (.cons hFilled .nil)))))))) Try.func6 (by kernel_rfl) fun (x : MedE × Int × List (Int × Int × Bool × Bool)) hx => by
  obtain ⟨m, mask, acts⟩ := x
  have hx : RngL [kMed, kU64, .sl kAct] (m, mask, acts) := hx
  simp only [RngL, Rng, mn_u8, mx_u8, mn_u64, mx_u64, mn_i64, mx_i64] at hx
  refine ⟨[⟨6, 12, [(.t 0 11, kInt), (.x 0 3, kMed), (.t 0 7, .sl kBlk), (.t 0 10, kDirN)], [(0, 1), (0, 2)], fun _ (x : LosX) => 0 ≤ x.1 ∧ x.1 ≤ acts.length ∧ (x.2.2.2.length : Int) ≤ x.1 ∧ LI x.2.1 x.2.2.1 x.2.2.2, fun _ (x : LosX) => (acts.length - x.1).toNat⟩,
    ⟨6, 28, [(.t 0 18, kInt)], [(0, 7), (0, 10), (0, 16)], fun _ (x : Int) => 0 ≤ x ∧ x ≤ 64, fun _ (x : Int) => (64 - x).toNat⟩,
    ⟨6, 32, [(.t 0 20, kInt), (.t 0 19, .b), (.t 0 18, kInt), (.t 0 7, .sl kBlk), (.t 0 10, kDirN), (.x 0 16, kMed)], [], fun (x0 x : Int × Bool × Int × List (List Int) × List DirtyE × MedE) => 0 ≤ x.1 ∧ x.1 ≤ x.2.2.2.2.1.length ∧ x.2.2 = x0.2.2 ∧
      (x.2.1 = true ∨ (x.2.2.2.2.2.1.getD x.2.2.1.toNat (List.replicate 64 0) ≠ x.2.2.2.1.getD x.2.2.1.toNat (List.replicate 64 0) ∧ ∀ (j : Nat) (w : DirtyE), (j : Int) < x.1 → x.2.2.2.2.1[j]? = some w → ¬ (w.1 = x.2.2.1 ∧ x.2.2.2.2.2.1.getD x.2.2.1.toNat (List.replicate 64 0) = w.2))),
      fun (x0 x : Int × Bool × Int × List (List Int) × List DirtyE × MedE) => (x.2.2.2.2.1.length - x.1).toNat⟩],
    [⟨6, 20, [(.t 0 11, kInt), (.x 0 3, kMed)], [(.x 0 14, kMed), (.t 0 15, kInt)], [(0, 1), (0, 2), (0, 3), (0, 7), (0, 10), (0, 11)], fun (x : Int × MedE) (y : MedE × Int) => y = writeS x.2 (acts.getD x.1.toNat (0, 0, false, false)).1 (List.replicate 64 (acts.getD x.1.toNat (0, 0, false, false)).2.1) (acts.getD x.1.toNat (0, 0, false, false)).2.2.1⟩], ?_⟩
  refine vc_of (B :=
    let c0 : (Int × (List (List Int) × List (Int × List Int)) × List (List Int) × List (Int × List Int)) → Prop := fun x0 => ((writeS x0.snd.fst (acts.getD (Int.toNat x0.fst) (0, 0, false, false)).fst (List.replicate 64 (acts.getD (Int.toNat x0.fst) (0, 0, false, false)).snd.fst) (acts.getD (Int.toNat x0.fst) (0, 0, false, false)).snd.snd.fst = writeS x0.snd.fst (acts.getD (Int.toNat x0.fst) (0, 0, false, false)).fst (List.replicate 64 (acts.getD (Int.toNat x0.fst) (0, 0, false, false)).snd.fst) (acts.getD (Int.toNat x0.fst) (0, 0, false, false)).snd.snd.fst) ∧
                            (True))
    let c1 : (Int × (List (List Int) × List (Int × List Int)) × List (List Int) × List (Int × List Int)) → Prop := fun x0 => ((((writeS x0.snd.fst (acts.getD (Int.toNat x0.fst) (0, 0, false, false)).fst (List.replicate 64 (acts.getD (Int.toNat x0.fst) (0, 0, false, false)).snd.fst) (acts.getD (Int.toNat x0.fst) (0, 0, false, false)).snd.snd.fst).snd = (writeS x0.snd.fst (acts.getD (Int.toNat x0.fst) (0, 0, false, false)).fst (List.replicate 64 (acts.getD (Int.toNat x0.fst) (0, 0, false, false)).snd.fst) (acts.getD (Int.toNat x0.fst) (0, 0, false, false)).snd.snd.fst).snd) ∧ (mask = mask) ∧ (acts = acts) ∧ (x0.snd.snd.fst = x0.snd.snd.fst) ∧ (x0.fst = x0.fst) ∧ (x0.snd.fst.fst = x0.snd.fst.fst) ∧ (x0.snd.fst.snd = x0.snd.fst.snd) ∧ ((writeS x0.snd.fst (acts.getD (Int.toNat x0.fst) (0, 0, false, false)).fst (List.replicate 64 (acts.getD (Int.toNat x0.fst) (0, 0, false, false)).snd.fst) (acts.getD (Int.toNat x0.fst) (0, 0, false, false)).snd.snd.fst).fst.fst = (writeS x0.snd.fst (acts.getD (Int.toNat x0.fst) (0, 0, false, false)).fst (List.replicate 64 (acts.getD (Int.toNat x0.fst) (0, 0, false, false)).snd.fst) (acts.getD (Int.toNat x0.fst) (0, 0, false, false)).snd.snd.fst).fst.fst) ∧ ((writeS x0.snd.fst (acts.getD (Int.toNat x0.fst) (0, 0, false, false)).fst (List.replicate 64 (acts.getD (Int.toNat x0.fst) (0, 0, false, false)).snd.fst) (acts.getD (Int.toNat x0.fst) (0, 0, false, false)).snd.snd.fst).fst.snd = (writeS x0.snd.fst (acts.getD (Int.toNat x0.fst) (0, 0, false, false)).fst (List.replicate 64 (acts.getD (Int.toNat x0.fst) (0, 0, false, false)).snd.fst) (acts.getD (Int.toNat x0.fst) (0, 0, false, false)).snd.snd.fst).fst.snd) ∧ (x0.snd.snd.snd = x0.snd.snd.snd)) ∧
                           (c0 x0))
    let c2 : (Int × (List (List Int) × List (Int × List Int)) × List (List Int) × List (Int × List Int)) → Prop := fun x0 => ((True) ∧
                          (c1 x0))
    let c3 : (Int × (List (List Int) × List (Int × List Int)) × List (List Int) × List (Int × List Int)) → ((List (List Int) × List (Int × List Int)) × Int) → Prop := fun x0 x1 => (((0 ≤ IntKind.i64.wrap (x0.fst + 1) ∧ IntKind.i64.wrap (x0.fst + 1) ≤ (↑acts.length : Int) ∧ (↑(x0.snd.snd.snd ++ [((acts.getD (Int.toNat x0.fst) (0, 0, false, false)).fst, List.replicate 64 (acts.getD (Int.toNat x0.fst) (0, 0, false, false)).snd.fst)]).length : Int) ≤ IntKind.i64.wrap (x0.fst + 1) ∧ LI x1.fst x0.snd.snd.fst (x0.snd.snd.snd ++ [((acts.getD (Int.toNat x0.fst) (0, 0, false, false)).fst, List.replicate 64 (acts.getD (Int.toNat x0.fst) (0, 0, false, false)).snd.fst)])) ∧ ((↑acts.length : Int) - IntKind.i64.wrap (x0.fst + 1)).toNat < ((↑acts.length : Int) - x0.fst).toNat) ∧
                                (True))
    let c4 : (Int × (List (List Int) × List (Int × List Int)) × List (List Int) × List (Int × List Int)) → ((List (List Int) × List (Int × List Int)) × Int) → Prop := fun x0 x1 => (((x0.snd.snd.fst = x0.snd.snd.fst) ∧ (IntKind.i64.wrap (x0.fst + 1) = IntKind.i64.wrap (x0.fst + 1)) ∧ (mask = mask) ∧ (acts = acts) ∧ (x1.fst.fst = x1.fst.fst) ∧ (x1.fst.snd = x1.fst.snd) ∧ (x0.snd.snd.snd ++ [((acts.getD (Int.toNat x0.fst) (0, 0, false, false)).fst, List.replicate 64 (acts.getD (Int.toNat x0.fst) (0, 0, false, false)).snd.fst)] = x0.snd.snd.snd ++ [((acts.getD (Int.toNat x0.fst) (0, 0, false, false)).fst, List.replicate 64 (acts.getD (Int.toNat x0.fst) (0, 0, false, false)).snd.fst)])) ∧
                               (c3 x0 x1))
    let c5 : (Int × (List (List Int) × List (Int × List Int)) × List (List Int) × List (Int × List Int)) → ((List (List Int) × List (Int × List Int)) × Int) → Prop := fun x0 x1 => (PIf (decide ((List.length x0.snd.snd.snd + [((acts.getD (Int.toNat x0.fst) (0, 0, false, false)).fst, List.replicate 64 (acts.getD (Int.toNat x0.fst) (0, 0, false, false)).snd.fst)].length) * (72 + 1) ≤ 140737488355328))
                              (c4 x0 x1)
                              (False))
    let c6 : (Int × (List (List Int) × List (Int × List Int)) × List (List Int) × List (Int × List Int)) → ((List (List Int) × List (Int × List Int)) × Int) → Prop := fun x0 x1 => ((True) ∧
                             (c5 x0 x1))
    let c7 : (Int × (List (List Int) × List (Int × List Int)) × List (List Int) × List (Int × List Int)) → ((List (List Int) × List (Int × List Int)) × Int) → Prop := fun x0 x1 => ((c5 x0 x1) ∧
                              (c5 x0 x1))
    let c8 : (Int × (List (List Int) × List (Int × List Int)) × List (List Int) × List (Int × List Int)) → ((List (List Int) × List (Int × List Int)) × Int) → Prop := fun x0 x1 => ((c5 x0 x1) ∧
                               (c7 x0 x1))
    let c9 : Prop := ((True) ∧
    ((True) ∧
     (PIf (decide (70 < (↑(List.length m.fst) : Int)) || decide (70 < (↑(List.length m.snd) : Int)))
      ((true = true))
      (PIf (decide ((↑acts.length : Int) > 100))
       ((true = true))
       ((True) ∧
        (PIf (!rightS m)
         ((true = true))
         ((True) ∧
          (((0 : Int) < 9223372036854775808) ∧
           (PIf ((flushS m 0 0).snd != 0)
            ((false = true))
            (((allS m = allS m) ∧ ((0 : Int) = 0) ∧ (mask = mask) ∧ (acts = acts) ∧ ((flushS m 0 0).fst.fst = (flushS m 0 0).fst.fst) ∧ ((flushS m 0 0).fst.snd = (flushS m 0 0).fst.snd) ∧ (tya (List (Int × List Int)) [] = [])) ∧
             (((0 : Int) ≤ 0 ∧ 0 ≤ (↑acts.length : Int) ∧ (↑0 : Int) ≤ 0 ∧ LI (flushS m 0 0).fst (allS m) []) ∧
              (∀ x0 : Int × (List (List Int) × List (Int × List Int)) × List (List Int) × List (Int × List Int), (0 ≤ x0.fst ∧ x0.fst ≤ (↑acts.length : Int) ∧ (↑x0.snd.snd.snd.length : Int) ≤ x0.fst ∧ LI x0.snd.fst x0.snd.snd.fst x0.snd.snd.snd) →
               PIf (decide (x0.fst < (↑acts.length : Int)))
                (PIf (decide (0 ≤ x0.fst) && decide (x0.fst < (↑acts.length : Int)))
                 (PIf ((acts.getD (Int.toNat x0.fst) (0, 0, false, false)).snd.snd.snd)
                  (((0 : Int) < 9223372036854775808) ∧
                   (PIf ((flushS x0.snd.fst 0 0).snd != 0)
                    ((false = true))
                    ((True) ∧
                     (((allS x0.snd.fst = allS x0.snd.fst) ∧ (IntKind.i64.wrap (x0.fst + 1) = IntKind.i64.wrap (x0.fst + 1)) ∧ (mask = mask) ∧ (acts = acts) ∧ ((flushS x0.snd.fst 0 0).fst.fst = (flushS x0.snd.fst 0 0).fst.fst) ∧ ((flushS x0.snd.fst 0 0).fst.snd = (flushS x0.snd.fst 0 0).fst.snd) ∧ (tya (List (Int × List Int)) [] = [])) ∧
                      (((0 ≤ IntKind.i64.wrap (x0.fst + 1) ∧ IntKind.i64.wrap (x0.fst + 1) ≤ (↑acts.length : Int) ∧ (↑0 : Int) ≤ IntKind.i64.wrap (x0.fst + 1) ∧ LI (flushS x0.snd.fst 0 0).fst (allS x0.snd.fst) []) ∧ ((↑acts.length : Int) - IntKind.i64.wrap (x0.fst + 1)).toNat < ((↑acts.length : Int) - x0.fst).toNat) ∧
                       (True))))))
                  ((PIf (decide (0 ≤ x0.fst) && decide (x0.fst < (↑acts.length : Int)))
                    (PIf (decide (0 ≤ x0.fst) && decide (x0.fst < (↑acts.length : Int)))
                     (PIf (decide (0 ≤ x0.fst) && decide (x0.fst < (↑acts.length : Int)))
                      (((True) ∧
                        ((c2 x0) ∧
                         (c2 x0))) ∧
                       ((True) ∧
                        (c2 x0)))
                      (False))
                     (False))
                    (False)) ∧
                   (∀ x1 : (List (List Int) × List (Int × List Int)) × Int, (x1 = writeS x0.snd.fst (acts.getD (Int.toNat x0.fst) (0, 0, false, false)).fst (List.replicate 64 (acts.getD (Int.toNat x0.fst) (0, 0, false, false)).snd.fst) (acts.getD (Int.toNat x0.fst) (0, 0, false, false)).snd.snd.fst) →
                    PIf (decide (0 ≤ x0.fst) && decide (x0.fst < (↑acts.length : Int)))
                     (PIf (decide (0 ≤ x0.fst) && decide (x0.fst < (↑acts.length : Int)) || !decide ((acts.getD (Int.toNat x0.fst) (0, 0, false, false)).fst ≥ 0))
                      (PIf (!(x1.snd == 0) == (decide ((acts.getD (Int.toNat x0.fst) (0, 0, false, false)).fst ≥ 0) && decide ((acts.getD (Int.toNat x0.fst) (0, 0, false, false)).fst < (↑(List.length x0.snd.snd.fst) : Int))))
                       ((false = true))
                       (PIf (x1.snd == 0)
                        (PIf (decide (0 ≤ x0.fst) && decide (x0.fst < (↑acts.length : Int)))
                         (PIf (decide (0 ≤ x0.fst) && decide (x0.fst < (↑acts.length : Int)))
                          (((c6 x0 x1) ∧
                            ((True) ∧
                             (c7 x0 x1))) ∧
                           (((c6 x0 x1) ∧
                             ((True) ∧
                              (c8 x0 x1))) ∧
                            ((True) ∧
                             ((c7 x0 x1) ∧
                              ((c8 x0 x1) ∧
                               (c8 x0 x1))))))
                          (False))
                         (False))
                        (((x0.snd.snd.fst = x0.snd.snd.fst) ∧ (IntKind.i64.wrap (x0.fst + 1) = IntKind.i64.wrap (x0.fst + 1)) ∧ (mask = mask) ∧ (acts = acts) ∧ (x0.snd.fst.fst = x0.snd.fst.fst) ∧ (x0.snd.fst.snd = x0.snd.fst.snd) ∧ (x0.snd.snd.snd = x0.snd.snd.snd)) ∧
                         (((0 ≤ IntKind.i64.wrap (x0.fst + 1) ∧ IntKind.i64.wrap (x0.fst + 1) ≤ (↑acts.length : Int) ∧ (↑(List.length x0.snd.snd.snd) : Int) ≤ IntKind.i64.wrap (x0.fst + 1) ∧ LI x0.snd.fst x0.snd.snd.fst x0.snd.snd.snd) ∧ ((↑acts.length : Int) - IntKind.i64.wrap (x0.fst + 1)).toNat < ((↑acts.length : Int) - x0.fst).toNat) ∧
                          (True)))))
                      (False))
                     (False))))
                 (False))
                ((0 ≤ mask ∧ mask < 18446744073709551616) ∧
                 (PIf ((loseS x0.snd.fst mask).snd != 0 || (↑(List.length (loseS x0.snd.fst mask).fst.fst) : Int) != (↑(List.length x0.snd.snd.fst) : Int) || (↑(List.length (loseS x0.snd.fst mask).fst.snd) : Int) != 0)
                  ((false = true))
                  ((((0 : Int) = 0) ∧ (x0.snd.snd.fst = x0.snd.snd.fst) ∧ ((loseS x0.snd.fst mask).fst.fst = (loseS x0.snd.fst mask).fst.fst) ∧ ((loseS x0.snd.fst mask).fst.snd = (loseS x0.snd.fst mask).fst.snd) ∧ (x0.snd.snd.snd = x0.snd.snd.snd)) ∧
                   (((0 : Int) ≤ 0 ∧ (0 : Int) ≤ 64) ∧
                    (∀ x2 : Int, (0 ≤ x2 ∧ x2 ≤ 64) →
                     PIf (decide (x2 < (↑(List.length x0.snd.snd.fst) : Int)))
                      (PIf (decide (0 ≤ x2) && decide (x2 < (↑(List.length (loseS x0.snd.fst mask).fst.fst) : Int)))
                       (PIf (decide (0 ≤ x2) && decide (x2 < (↑(List.length x0.snd.snd.fst) : Int)))
                        (((x0.snd.snd.fst = x0.snd.snd.fst) ∧ (x2 = x2) ∧ (decide (List.getD (loseS x0.snd.fst mask).fst.fst (Int.toNat x2) (List.replicate 64 0) = List.getD x0.snd.snd.fst (Int.toNat x2) (List.replicate 64 0)) = decide (List.getD (loseS x0.snd.fst mask).fst.fst (Int.toNat x2) (List.replicate 64 0) = List.getD x0.snd.snd.fst (Int.toNat x2) (List.replicate 64 0))) ∧ ((0 : Int) = 0) ∧ ((loseS x0.snd.fst mask).fst.fst = (loseS x0.snd.fst mask).fst.fst) ∧ ((loseS x0.snd.fst mask).fst.snd = (loseS x0.snd.fst mask).fst.snd) ∧ (x0.snd.snd.snd = x0.snd.snd.snd)) ∧
                         (((0 : Int) ≤ 0 ∧ 0 ≤ (↑(List.length x0.snd.snd.snd) : Int) ∧ (x2, x0.snd.snd.fst, x0.snd.snd.snd, (loseS x0.snd.fst mask).fst) = (x2, x0.snd.snd.fst, x0.snd.snd.snd, (loseS x0.snd.fst mask).fst) ∧ (decide (List.getD (loseS x0.snd.fst mask).fst.fst (Int.toNat x2) (List.replicate 64 0) = List.getD x0.snd.snd.fst (Int.toNat x2) (List.replicate 64 0)) = true ∨ List.getD (loseS x0.snd.fst mask).fst.fst (Int.toNat x2) (List.replicate 64 0) ≠ List.getD x0.snd.snd.fst (Int.toNat x2) (List.replicate 64 0) ∧ ∀ (j : Nat) (w : DirtyE), (↑j : Int) < 0 → x0.snd.snd.snd[j]? = some w → ¬(w.fst = x2 ∧ List.getD (loseS x0.snd.fst mask).fst.fst (Int.toNat x2) (List.replicate 64 0) = w.snd))) ∧
                          (∀ x3 : Int × Bool × Int × List (List Int) × List (Int × List Int) × List (List Int) × List (Int × List Int), (0 ≤ x3.fst ∧ x3.fst ≤ (↑x3.snd.snd.snd.snd.fst.length : Int) ∧ x3.snd.snd = (x2, x0.snd.snd.fst, x0.snd.snd.snd, (loseS x0.snd.fst mask).fst) ∧ (x3.snd.fst = true ∨ x3.snd.snd.snd.snd.snd.fst.getD x3.snd.snd.fst.toNat (List.replicate 64 0) ≠ x3.snd.snd.snd.fst.getD x3.snd.snd.fst.toNat (List.replicate 64 0) ∧ ∀ (j : Nat) (w : DirtyE), (↑j : Int) < x3.fst → x3.snd.snd.snd.snd.fst[j]? = some w → ¬(w.fst = x3.snd.snd.fst ∧ x3.snd.snd.snd.snd.snd.fst.getD x3.snd.snd.fst.toNat (List.replicate 64 0) = w.snd))) →
                           PIf (decide (x3.fst < (↑(List.length x3.snd.snd.snd.snd.fst) : Int)))
                            (PIf x3.snd.fst
                             (((x3.snd.snd.snd.fst = x3.snd.snd.snd.fst) ∧ (x3.snd.snd.fst = x3.snd.snd.fst) ∧ (true = true) ∧ (IntKind.i64.wrap (x3.fst + 1) = IntKind.i64.wrap (x3.fst + 1)) ∧ (x3.snd.snd.snd.snd.snd.fst = x3.snd.snd.snd.snd.snd.fst) ∧ (x3.snd.snd.snd.snd.snd.snd = x3.snd.snd.snd.snd.snd.snd) ∧ (x3.snd.snd.snd.snd.fst = x3.snd.snd.snd.snd.fst)) ∧
                              (((0 ≤ IntKind.i64.wrap (x3.fst + 1) ∧ IntKind.i64.wrap (x3.fst + 1) ≤ (↑(List.length x3.snd.snd.snd.snd.fst) : Int) ∧ x3.snd.snd = (x2, x0.snd.snd.fst, x0.snd.snd.snd, (loseS x0.snd.fst mask).fst) ∧ (true = true ∨ List.getD x3.snd.snd.snd.snd.snd.fst (Int.toNat x3.snd.snd.fst) (List.replicate 64 0) ≠ List.getD x3.snd.snd.snd.fst (Int.toNat x3.snd.snd.fst) (List.replicate 64 0) ∧ ∀ (j : Nat) (w : DirtyE), (↑j : Int) < IntKind.i64.wrap (x3.fst + 1) → x3.snd.snd.snd.snd.fst[j]? = some w → ¬(w.fst = x3.snd.snd.fst ∧ List.getD x3.snd.snd.snd.snd.snd.fst (Int.toNat x3.snd.snd.fst) (List.replicate 64 0) = w.snd))) ∧ ((↑(List.length x3.snd.snd.snd.snd.fst) : Int) - IntKind.i64.wrap (x3.fst + 1)).toNat < ((↑x3.snd.snd.snd.snd.fst.length : Int) - x3.fst).toNat) ∧
                               (True)))
                             (PIf (decide (0 ≤ x3.fst) && decide (x3.fst < (↑(List.length x3.snd.snd.snd.snd.fst) : Int)))
                              (PIf ((Int.toNat x3.fst).blt (List.length x3.snd.snd.snd.snd.fst))
                               (PIf ((List.getD x3.snd.snd.snd.snd.fst (Int.toNat x3.fst) (0, List.replicate 64 0)).fst == x3.snd.snd.fst)
                                (PIf (decide (0 ≤ x3.snd.snd.fst) && decide (x3.snd.snd.fst < (↑(List.length x3.snd.snd.snd.snd.snd.fst) : Int)))
                                 (PIf (decide (0 ≤ x3.fst) && decide (x3.fst < (↑(List.length x3.snd.snd.snd.snd.fst) : Int)))
                                  (PIf ((Int.toNat x3.fst).blt (List.length x3.snd.snd.snd.snd.fst))
                                   (((x3.snd.snd.snd.fst = x3.snd.snd.snd.fst) ∧ (x3.snd.snd.fst = x3.snd.snd.fst) ∧ (decide (List.getD x3.snd.snd.snd.snd.snd.fst (Int.toNat x3.snd.snd.fst) (List.replicate 64 0) = (List.getD x3.snd.snd.snd.snd.fst (Int.toNat x3.fst) (0, List.replicate 64 0)).snd) = decide (List.getD x3.snd.snd.snd.snd.snd.fst (Int.toNat x3.snd.snd.fst) (List.replicate 64 0) = (List.getD x3.snd.snd.snd.snd.fst (Int.toNat x3.fst) (0, List.replicate 64 0)).snd)) ∧ (IntKind.i64.wrap (x3.fst + 1) = IntKind.i64.wrap (x3.fst + 1)) ∧ (x3.snd.snd.snd.snd.snd.fst = x3.snd.snd.snd.snd.snd.fst) ∧ (x3.snd.snd.snd.snd.snd.snd = x3.snd.snd.snd.snd.snd.snd) ∧ (x3.snd.snd.snd.snd.fst = x3.snd.snd.snd.snd.fst)) ∧
                                    (((0 ≤ IntKind.i64.wrap (x3.fst + 1) ∧ IntKind.i64.wrap (x3.fst + 1) ≤ (↑(List.length x3.snd.snd.snd.snd.fst) : Int) ∧ x3.snd.snd = (x2, x0.snd.snd.fst, x0.snd.snd.snd, (loseS x0.snd.fst mask).fst) ∧ (decide (List.getD x3.snd.snd.snd.snd.snd.fst (Int.toNat x3.snd.snd.fst) (List.replicate 64 0) = (List.getD x3.snd.snd.snd.snd.fst (Int.toNat x3.fst) (0, List.replicate 64 0)).snd) = true ∨ List.getD x3.snd.snd.snd.snd.snd.fst (Int.toNat x3.snd.snd.fst) (List.replicate 64 0) ≠ List.getD x3.snd.snd.snd.fst (Int.toNat x3.snd.snd.fst) (List.replicate 64 0) ∧ ∀ (j : Nat) (w : DirtyE), (↑j : Int) < IntKind.i64.wrap (x3.fst + 1) → x3.snd.snd.snd.snd.fst[j]? = some w → ¬(w.fst = x3.snd.snd.fst ∧ List.getD x3.snd.snd.snd.snd.snd.fst (Int.toNat x3.snd.snd.fst) (List.replicate 64 0) = w.snd))) ∧ ((↑(List.length x3.snd.snd.snd.snd.fst) : Int) - IntKind.i64.wrap (x3.fst + 1)).toNat < ((↑x3.snd.snd.snd.snd.fst.length : Int) - x3.fst).toNat) ∧
                                     (True)))
                                   (False))
                                  (False))
                                 (False))
                                (((x3.snd.snd.snd.fst = x3.snd.snd.snd.fst) ∧ (x3.snd.snd.fst = x3.snd.snd.fst) ∧ (false = false) ∧ (IntKind.i64.wrap (x3.fst + 1) = IntKind.i64.wrap (x3.fst + 1)) ∧ (x3.snd.snd.snd.snd.snd.fst = x3.snd.snd.snd.snd.snd.fst) ∧ (x3.snd.snd.snd.snd.snd.snd = x3.snd.snd.snd.snd.snd.snd) ∧ (x3.snd.snd.snd.snd.fst = x3.snd.snd.snd.snd.fst)) ∧
                                 (((0 ≤ IntKind.i64.wrap (x3.fst + 1) ∧ IntKind.i64.wrap (x3.fst + 1) ≤ (↑(List.length x3.snd.snd.snd.snd.fst) : Int) ∧ x3.snd.snd = (x2, x0.snd.snd.fst, x0.snd.snd.snd, (loseS x0.snd.fst mask).fst) ∧ (false = true ∨ List.getD x3.snd.snd.snd.snd.snd.fst (Int.toNat x3.snd.snd.fst) (List.replicate 64 0) ≠ List.getD x3.snd.snd.snd.fst (Int.toNat x3.snd.snd.fst) (List.replicate 64 0) ∧ ∀ (j : Nat) (w : DirtyE), (↑j : Int) < IntKind.i64.wrap (x3.fst + 1) → x3.snd.snd.snd.snd.fst[j]? = some w → ¬(w.fst = x3.snd.snd.fst ∧ List.getD x3.snd.snd.snd.snd.snd.fst (Int.toNat x3.snd.snd.fst) (List.replicate 64 0) = w.snd))) ∧ ((↑(List.length x3.snd.snd.snd.snd.fst) : Int) - IntKind.i64.wrap (x3.fst + 1)).toNat < ((↑x3.snd.snd.snd.snd.fst.length : Int) - x3.fst).toNat) ∧
                                  (True))))
                               (False))
                              (False)))
                            (PIf (!x3.snd.fst)
                             ((false = true))
                             (((IntKind.i64.wrap (x3.snd.snd.fst + 1) = IntKind.i64.wrap (x3.snd.snd.fst + 1)) ∧ (x3.snd.snd.snd.fst = x0.snd.snd.fst) ∧ (x3.snd.snd.snd.snd.snd.fst = (loseS x0.snd.fst mask).fst.fst) ∧ (x3.snd.snd.snd.snd.snd.snd = (loseS x0.snd.fst mask).fst.snd) ∧ (x3.snd.snd.snd.snd.fst = x0.snd.snd.snd)) ∧
                              (((0 ≤ IntKind.i64.wrap (x3.snd.snd.fst + 1) ∧ IntKind.i64.wrap (x3.snd.snd.fst + 1) ≤ 64) ∧ (64 - IntKind.i64.wrap (x3.snd.snd.fst + 1)).toNat < (64 - x2).toNat) ∧
                               (True)))))))
                        (False))
                       (False))
                      ((true = true)))))))))))))))))))
    (c9)) (by kernel_rfl) ?_
  have f1 := fun m h => @li_flush m h
  have f2 := fun m all ws h => @li_right m all ws h
  have f3 := fun m all ws k b th h => @li_there m all ws k b th h
  have f4 := fun m all ws k b th h e => @li_write m all ws k b th h e
  have f5 := fun m all ws k h => @li_lose m all ws h k
  have f6 := fun m all ws k i h => @li_each m all ws k i h
  try simp only [PIf_iff, decide_eq_true_eq, decide_eq_false_iff_not, Bool.and_eq_true, Bool.not_eq_true', Bool.not_eq_false', Bool.and_eq_false_iff, Nat.blt_eq, blt_f, beq_iff_eq, beq_eq_false_iff_ne]
  repeat' first | intro _ | apply And.intro
  all_goals first | omega | rfl | exact True.intro | grind [w64, wu64]
end Go.Proofs.Ytoiacgfhjikddaa
