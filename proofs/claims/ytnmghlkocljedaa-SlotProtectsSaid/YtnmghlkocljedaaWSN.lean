/- Layer 5: the law of what is protected. -/
import Derived.Test.YtnmghlkocljedaaWSM
set_option linter.unusedSimpArgs false
set_option linter.unusedVariables false
namespace Go.Proofs.Ytnmghlkocljedaa
open Go.RowKit Vc W
abbrev kAct5 : K := .p (.i .u8) (.p kInt (.p (.i .u8) .b))
theorem prot_start {s : SlotE} (h : rightS s.1 = true) : (switchS (switchS s false) true).1 = (allS s.1, []) ∧ (switchS (switchS s false) true).2.2.1 = true := by
  unfold switchS syncS
  simp [h]
theorem lose_nilS {b : List (List Int)} (h : b.length ≤ 64) (k : Int) : loseS (b, []) k = ((b, []), 0) := lose_nil h k
/-- What an act leaves. -/
def protJ (b : List (List Int)) (do_ : Int) (x y : SlotE) : Prop := y.1 = (b, []) ∧ y.2.2.1 = true ∧ (x.2.2.2 = true → x.2.1 = true → do_.tmod 7 ≠ 5 → y.2.1 = true)
theorem protJ_same {b : List (List Int)} {d : Int} {x : SlotE} (h1 : x.1 = (b, [])) (h2 : x.2.2.1 = true) : protJ b d x x := ⟨h1, h2, fun _ h _ => h⟩
theorem sync_b {b : List (List Int)} (hl : b.length ≤ 64) {x : SlotE} (h1 : x.1 = (b, [])) : syncS x = x := by
  obtain ⟨m, p, q, r⟩ := x
  have h1 : m = (b, []) := h1
  subst h1
  unfold syncS; rw [if_pos (right_nil hl), allS_nil hl]
theorem protJ_sync {b : List (List Int)} (hl : b.length ≤ 64) {d : Int} {x : SlotE} (h1 : x.1 = (b, [])) (h2 : x.2.2.1 = true) : protJ b d x (syncS x) := by rw [sync_b hl h1]; exact protJ_same h1 h2
theorem protJ_insert {b : List (List Int)} {d : Int} {x : SlotE} (h1 : x.1 = (b, [])) (h2 : x.2.2.1 = true) : protJ b d x (insertS x).1 := ⟨h1, h2, fun _ _ _ => rfl⟩
theorem protJ_button {b : List (List Int)} (hl : b.length ≤ 64) {d : Int} {x : SlotE} (h1 : x.1 = (b, [])) (h2 : x.2.2.1 = true) : protJ b d x (buttonS x).1 := by
  unfold buttonS; split
  · exact protJ_same h1 h2
  · rename_i h
    unfold outS; rw [sync_b hl h1]
    exact ⟨h1, h2, fun hl _ _ => absurd (.inr hl) h⟩
theorem protJ_unload {b : List (List Int)} (hl : b.length ≤ 64) {d : Int} {x : SlotE} (h1 : x.1 = (b, [])) (h2 : x.2.2.1 = true) : protJ b d x (unloadS x).1 := by
  unfold unloadS; split
  · exact protJ_same h1 h2
  · split
    · exact protJ_same h1 h2
    · rename_i h
      unfold outS; rw [sync_b hl h1]
      exact ⟨h1, h2, fun hl _ _ => absurd hl h⟩
theorem protJ_put {b : List (List Int)} {d : Int} {x : SlotE} {k : Int} {c : List Int} {th : Bool} (h1 : x.1 = (b, [])) (h2 : x.2.2.1 = true) : protJ b d x (putS x k c th).1 ∧ (putS x k c th).2 = (if x.2.1 = true then (7, 39, 0) else (2, 58, 0)) := by
  have : checkS x (IntKind.u64.wrap k) 1 true = (if x.2.1 = true then (7, 39, 0) else (2, 58, 0)) := by
    unfold checkS
    cases hp : x.2.1 <;> simp [h2]
  unfold putS
  rw [this, if_neg (by split <;> simp)]
  exact ⟨protJ_same h1 h2, rfl⟩
theorem protJ_keep {b : List (List Int)} {d : Int} {x : SlotE} {on : Bool} (h1 : x.1 = (b, [])) (h2 : x.2.2.1 = true) : protJ b d x (keepS x on).1 := by
  unfold keepS; split
  · exact ⟨h1, h2, fun _ h _ => h⟩
  · exact protJ_same h1 h2
theorem protJ_power {b : List (List Int)} (hl : b.length ≤ 64) {d k : Int} {x : SlotE} (h1 : x.1 = (b, [])) (h2 : x.2.2.1 = true) (hd : d.tmod 7 = 5) : protJ b d x (powerS x k) := by
  unfold powerS; split
  · refine ⟨?_, h2, fun _ _ h => absurd hd h⟩
    rw [h1, lose_nil hl]
  · exact ⟨h1, h2, fun _ _ h => absurd hd h⟩
def cL5Prot : Ct := ⟨6, [kSlot, .sl kAct5], fun x => ⟨[.b], RngL [kSlot, .sl kAct5] x, .val true⟩⟩
set_option maxHeartbeats 0 in
theorem hL5Prot : Holds Try.prog cL5Prot := holds_byJ (inl := []) (cts := [cS5Alive, cR3Great, cR3Right, cR3All, cSSwitch, cSInsert, cSButton, cSUnload, cFilled, cSPut, cR4Of, cSKeep, cSPower, cSSync, cR2Same]) mix .nil (.cons hS5Alive (.cons hR3Great (.cons hR3Right (.cons hR3All (.cons hSSwitch (.cons hSInsert (.cons hSButton (.cons hSUnload (.cons hFilled (.cons hSPut (.cons hR4Of (.cons hSKeep (.cons hSPower (.cons hSSync (.cons hR2Same .nil))))))))))))))) Try.func6 (by kernel_rfl) fun (x : SlotE × List (Int × Int × Int × Bool)) hx => by
  obtain ⟨s, acts⟩ := x
  have hx : RngL [kSlot, .sl kAct5] (s, acts) := hx
  have ha : ∀ (x : Int) (z : Int × Int × Int × Bool), 0 ≤ x → x < acts.length → 0 ≤ (acts.getD x.toNat z).1 ∧ (acts.getD x.toNat z).1 ≤ 255 ∧ -9223372036854775808 ≤ (acts.getD x.toNat z).2.1 ∧ (acts.getD x.toNat z).2.1 < 9223372036854775808 ∧ 0 ≤ (acts.getD x.toNat z).2.2.1 ∧ (acts.getD x.toNat z).2.2.1 ≤ 255 := fun x z h0 h1 => by
    have hl : x.toNat < acts.length := by omega
    rw [List.getD_eq_getElem?_getD, List.getElem?_eq_getElem hl]
    obtain ⟨⟨a1, a2⟩, ⟨a3, a4⟩, ⟨a5, a6⟩, _⟩ : Rng kAct5 acts[x.toNat] := hx.2.2 _ (List.getElem_mem hl)
    simp only [Option.getD_some]
    exact ⟨by rw [← mn_u8]; exact a1, by rw [← mx_u8]; exact a2, by rw [← mn_i64]; exact a3, Int.lt_of_le_of_lt a4 (by decide), by rw [← mn_u8]; exact a5, by rw [← mx_u8]; exact a6⟩
  refine ⟨[⟨6, 8, [(.t 0 6, kInt), (.x 0 2, kSlot)], [(0, 1), (0, 5)], fun _ (x : Int × SlotE) => 0 ≤ x.1 ∧ x.1 ≤ acts.length ∧ x.2.1 = (allS s.1, []) ∧ x.2.2.2.1 = true, fun _ (x : Int × SlotE) => (acts.length - x.1).toNat⟩],
    [⟨6, 28, [(.t 0 6, kInt), (.x 0 2, kSlot)], [(.x 0 2, kSlot)], [(0, 1), (0, 5), (0, 6), (0, 7)], fun (x : Int × SlotE) (y : SlotE) => protJ (allS s.1) (acts.getD x.1.toNat (0, 0, 0, false)).1 x.2 y⟩], ?_⟩
  refine vc_of (B :=
    let c0 : (Int × (List (List Int) × List (Int × List Int)) × Bool × Bool × Bool) → Prop := fun x0 => ((protJ (allS s.fst) (acts.getD (Int.toNat x0.fst) (0, 0, 0, false)).fst x0.snd (putS x0.snd (acts.getD (Int.toNat x0.fst) (0, 0, 0, false)).snd.fst (List.replicate 64 (acts.getD (Int.toNat x0.fst) (0, 0, 0, false)).snd.snd.fst) (acts.getD (Int.toNat x0.fst) (0, 0, 0, false)).snd.snd.snd).fst) ∧
                                      (True))
    let c1 : (Int × (List (List Int) × List (Int × List Int)) × Bool × Bool × Bool) → Prop := fun x0 => (((acts = acts) ∧ (allS (syncS (s.fst, s.snd.fst, false, s.snd.snd.snd)).fst = allS (syncS (s.fst, s.snd.fst, false, s.snd.snd.snd)).fst) ∧ (x0.fst = x0.fst) ∧ ((putS x0.snd (acts.getD (Int.toNat x0.fst) (0, 0, 0, false)).snd.fst (List.replicate 64 (acts.getD (Int.toNat x0.fst) (0, 0, 0, false)).snd.snd.fst) (acts.getD (Int.toNat x0.fst) (0, 0, 0, false)).snd.snd.snd).fst.fst.fst = (putS x0.snd (acts.getD (Int.toNat x0.fst) (0, 0, 0, false)).snd.fst (List.replicate 64 (acts.getD (Int.toNat x0.fst) (0, 0, 0, false)).snd.snd.fst) (acts.getD (Int.toNat x0.fst) (0, 0, 0, false)).snd.snd.snd).fst.fst.fst) ∧ ((putS x0.snd (acts.getD (Int.toNat x0.fst) (0, 0, 0, false)).snd.fst (List.replicate 64 (acts.getD (Int.toNat x0.fst) (0, 0, 0, false)).snd.snd.fst) (acts.getD (Int.toNat x0.fst) (0, 0, 0, false)).snd.snd.snd).fst.fst.snd = (putS x0.snd (acts.getD (Int.toNat x0.fst) (0, 0, 0, false)).snd.fst (List.replicate 64 (acts.getD (Int.toNat x0.fst) (0, 0, 0, false)).snd.snd.fst) (acts.getD (Int.toNat x0.fst) (0, 0, 0, false)).snd.snd.snd).fst.fst.snd) ∧ ((putS x0.snd (acts.getD (Int.toNat x0.fst) (0, 0, 0, false)).snd.fst (List.replicate 64 (acts.getD (Int.toNat x0.fst) (0, 0, 0, false)).snd.snd.fst) (acts.getD (Int.toNat x0.fst) (0, 0, 0, false)).snd.snd.snd).fst.snd.fst = (putS x0.snd (acts.getD (Int.toNat x0.fst) (0, 0, 0, false)).snd.fst (List.replicate 64 (acts.getD (Int.toNat x0.fst) (0, 0, 0, false)).snd.snd.fst) (acts.getD (Int.toNat x0.fst) (0, 0, 0, false)).snd.snd.snd).fst.snd.fst) ∧ ((putS x0.snd (acts.getD (Int.toNat x0.fst) (0, 0, 0, false)).snd.fst (List.replicate 64 (acts.getD (Int.toNat x0.fst) (0, 0, 0, false)).snd.snd.fst) (acts.getD (Int.toNat x0.fst) (0, 0, 0, false)).snd.snd.snd).fst.snd.snd.fst = (putS x0.snd (acts.getD (Int.toNat x0.fst) (0, 0, 0, false)).snd.fst (List.replicate 64 (acts.getD (Int.toNat x0.fst) (0, 0, 0, false)).snd.snd.fst) (acts.getD (Int.toNat x0.fst) (0, 0, 0, false)).snd.snd.snd).fst.snd.snd.fst) ∧ ((putS x0.snd (acts.getD (Int.toNat x0.fst) (0, 0, 0, false)).snd.fst (List.replicate 64 (acts.getD (Int.toNat x0.fst) (0, 0, 0, false)).snd.snd.fst) (acts.getD (Int.toNat x0.fst) (0, 0, 0, false)).snd.snd.snd).fst.snd.snd.snd = (putS x0.snd (acts.getD (Int.toNat x0.fst) (0, 0, 0, false)).snd.fst (List.replicate 64 (acts.getD (Int.toNat x0.fst) (0, 0, 0, false)).snd.snd.fst) (acts.getD (Int.toNat x0.fst) (0, 0, 0, false)).snd.snd.snd).fst.snd.snd.snd) ∧ (x0.snd.fst.fst = x0.snd.fst.fst) ∧ (x0.snd.fst.snd = x0.snd.fst.snd) ∧ (x0.snd.snd.fst = x0.snd.snd.fst) ∧ (x0.snd.snd.snd.fst = x0.snd.snd.snd.fst) ∧ (x0.snd.snd.snd.snd = x0.snd.snd.snd.snd)) ∧
                                     (c0 x0))
    let c2 : (Int × (List (List Int) × List (Int × List Int)) × Bool × Bool × Bool) → Prop := fun x0 => (PIf (!((putS x0.snd (acts.getD (Int.toNat x0.fst) (0, 0, 0, false)).snd.fst (List.replicate 64 (acts.getD (Int.toNat x0.fst) (0, 0, 0, false)).snd.snd.fst) (acts.getD (Int.toNat x0.fst) (0, 0, 0, false)).snd.snd.snd).snd.fst == 2 && ((putS x0.snd (acts.getD (Int.toNat x0.fst) (0, 0, 0, false)).snd.fst (List.replicate 64 (acts.getD (Int.toNat x0.fst) (0, 0, 0, false)).snd.snd.fst) (acts.getD (Int.toNat x0.fst) (0, 0, 0, false)).snd.snd.snd).snd.snd.fst == 58 && ((putS x0.snd (acts.getD (Int.toNat x0.fst) (0, 0, 0, false)).snd.fst (List.replicate 64 (acts.getD (Int.toNat x0.fst) (0, 0, 0, false)).snd.snd.fst) (acts.getD (Int.toNat x0.fst) (0, 0, 0, false)).snd.snd.snd).snd.snd.snd == 0 && true))))
                                    ((false = true))
                                    (c1 x0))
    let c3 : (Int × (List (List Int) × List (Int × List Int)) × Bool × Bool × Bool) → Prop := fun x0 => ((True) ∧
                                   (c2 x0))
    let c4 : (Int × (List (List Int) × List (Int × List Int)) × Bool × Bool × Bool) → Prop := fun x0 => (PIf (!x0.snd.snd.fst)
                                  (c3 x0)
                                  (c1 x0))
    let c5 : (Int × (List (List Int) × List (Int × List Int)) × Bool × Bool × Bool) → Prop := fun x0 => (PIf (!((putS x0.snd (acts.getD (Int.toNat x0.fst) (0, 0, 0, false)).snd.fst (List.replicate 64 (acts.getD (Int.toNat x0.fst) (0, 0, 0, false)).snd.snd.fst) (acts.getD (Int.toNat x0.fst) (0, 0, 0, false)).snd.snd.snd).snd.fst == 7 && ((putS x0.snd (acts.getD (Int.toNat x0.fst) (0, 0, 0, false)).snd.fst (List.replicate 64 (acts.getD (Int.toNat x0.fst) (0, 0, 0, false)).snd.snd.fst) (acts.getD (Int.toNat x0.fst) (0, 0, 0, false)).snd.snd.snd).snd.snd.fst == 39 && ((putS x0.snd (acts.getD (Int.toNat x0.fst) (0, 0, 0, false)).snd.fst (List.replicate 64 (acts.getD (Int.toNat x0.fst) (0, 0, 0, false)).snd.snd.fst) (acts.getD (Int.toNat x0.fst) (0, 0, 0, false)).snd.snd.snd).snd.snd.snd == 0 && true))))
                                 ((false = true))
                                 (c4 x0))
    let c6 : (Int × (List (List Int) × List (Int × List Int)) × Bool × Bool × Bool) → Prop := fun x0 => ((True) ∧
                                (c5 x0))
    let c7 : (Int × (List (List Int) × List (Int × List Int)) × Bool × Bool × Bool) → Prop := fun x0 => (PIf x0.snd.snd.fst
                               (c6 x0)
                               (c4 x0))
    let c8 : (Int × (List (List Int) × List (Int × List Int)) × Bool × Bool × Bool) → Prop := fun x0 => (((-9223372036854775808) ≤ (acts.getD (Int.toNat x0.fst) (0, 0, 0, false)).snd.fst ∧ (acts.getD (Int.toNat x0.fst) (0, 0, 0, false)).snd.fst < 9223372036854775808) ∧
                               (c7 x0))
    let c9 : (Int × (List (List Int) × List (Int × List Int)) × Bool × Bool × Bool) → Prop := fun x0 => ((c8 x0) ∧
                              (c8 x0))
    let c10 : (Int × (List (List Int) × List (Int × List Int)) × Bool × Bool × Bool) → Prop := fun x0 => ((True) ∧
                             (c9 x0))
    let c11 : (Int × (List (List Int) × List (Int × List Int)) × Bool × Bool × Bool) → Prop := fun x0 => ((True) ∧
                             (c8 x0))
    let c12 : (Int × (List (List Int) × List (Int × List Int)) × Bool × Bool × Bool) → Prop := fun x0 => ((c10 x0) ∧
                            (c11 x0))
    let c13 : Prop := ((True) ∧
    ((True) ∧
     (PIf (decide (70 < (↑(List.length s.fst.fst) : Int)) || decide (70 < (↑(List.length s.fst.snd) : Int)))
      ((true = true))
      (PIf (decide ((↑acts.length : Int) > 60))
       ((true = true))
       ((True) ∧
        (PIf (!rightS s.fst)
         ((true = true))
         ((True) ∧
          ((True) ∧
           ((True) ∧
            ((((0 : Int) = 0) ∧ (acts = acts) ∧ (allS (syncS (s.fst, s.snd.fst, false, s.snd.snd.snd)).fst = allS (syncS (s.fst, s.snd.fst, false, s.snd.snd.snd)).fst) ∧ ((syncS (s.fst, s.snd.fst, false, s.snd.snd.snd)).fst.fst = (syncS (s.fst, s.snd.fst, false, s.snd.snd.snd)).fst.fst) ∧ ((syncS (s.fst, s.snd.fst, false, s.snd.snd.snd)).fst.snd = (syncS (s.fst, s.snd.fst, false, s.snd.snd.snd)).fst.snd) ∧ (s.snd.fst = s.snd.fst) ∧ (true = true) ∧ (s.snd.snd.snd = s.snd.snd.snd)) ∧
             (((0 : Int) ≤ 0 ∧ 0 ≤ (↑acts.length : Int) ∧ (syncS (s.fst, s.snd.fst, false, s.snd.snd.snd)).fst = (allS s.fst, []) ∧ true = true) ∧
              (∀ x0 : Int × (List (List Int) × List (Int × List Int)) × Bool × Bool × Bool, (0 ≤ x0.fst ∧ x0.fst ≤ (↑acts.length : Int) ∧ x0.snd.fst = (allS s.fst, []) ∧ x0.snd.snd.snd.fst = true) →
               PIf (decide (x0.fst < (↑acts.length : Int)))
                ((PIf (decide (0 ≤ x0.fst) && decide (x0.fst < (↑acts.length : Int)))
                  (PIf (Int.tmod (acts.getD (Int.toNat x0.fst) (0, 0, 0, false)).fst 7 == 0)
                   ((True) ∧
                    (((acts = acts) ∧ (allS (syncS (s.fst, s.snd.fst, false, s.snd.snd.snd)).fst = allS (syncS (s.fst, s.snd.fst, false, s.snd.snd.snd)).fst) ∧ (x0.fst = x0.fst) ∧ (x0.snd.fst.fst = x0.snd.fst.fst) ∧ (x0.snd.fst.snd = x0.snd.fst.snd) ∧ (true = true) ∧ (x0.snd.snd.snd.fst = x0.snd.snd.snd.fst) ∧ (x0.snd.snd.snd.snd = x0.snd.snd.snd.snd) ∧ (x0.snd.fst.fst = x0.snd.fst.fst) ∧ (x0.snd.fst.snd = x0.snd.fst.snd) ∧ (x0.snd.snd.fst = x0.snd.snd.fst) ∧ (x0.snd.snd.snd.fst = x0.snd.snd.snd.fst) ∧ (x0.snd.snd.snd.snd = x0.snd.snd.snd.snd)) ∧
                     ((protJ (allS s.fst) (acts.getD (Int.toNat x0.fst) (0, 0, 0, false)).fst x0.snd (x0.snd.fst, true, x0.snd.snd.snd)) ∧
                      (True))))
                   (PIf (Int.tmod (acts.getD (Int.toNat x0.fst) (0, 0, 0, false)).fst 7 == 1)
                    ((True) ∧
                     (((acts = acts) ∧ (allS (syncS (s.fst, s.snd.fst, false, s.snd.snd.snd)).fst = allS (syncS (s.fst, s.snd.fst, false, s.snd.snd.snd)).fst) ∧ (x0.fst = x0.fst) ∧ ((buttonS x0.snd).fst.fst.fst = (buttonS x0.snd).fst.fst.fst) ∧ ((buttonS x0.snd).fst.fst.snd = (buttonS x0.snd).fst.fst.snd) ∧ ((buttonS x0.snd).fst.snd.fst = (buttonS x0.snd).fst.snd.fst) ∧ ((buttonS x0.snd).fst.snd.snd.fst = (buttonS x0.snd).fst.snd.snd.fst) ∧ ((buttonS x0.snd).fst.snd.snd.snd = (buttonS x0.snd).fst.snd.snd.snd) ∧ (x0.snd.fst.fst = x0.snd.fst.fst) ∧ (x0.snd.fst.snd = x0.snd.fst.snd) ∧ (x0.snd.snd.fst = x0.snd.snd.fst) ∧ (x0.snd.snd.snd.fst = x0.snd.snd.snd.fst) ∧ (x0.snd.snd.snd.snd = x0.snd.snd.snd.snd)) ∧
                      ((protJ (allS s.fst) (acts.getD (Int.toNat x0.fst) (0, 0, 0, false)).fst x0.snd (buttonS x0.snd).fst) ∧
                       (True))))
                    (PIf (Int.tmod (acts.getD (Int.toNat x0.fst) (0, 0, 0, false)).fst 7 == 2)
                     ((True) ∧
                      (((acts = acts) ∧ (allS (syncS (s.fst, s.snd.fst, false, s.snd.snd.snd)).fst = allS (syncS (s.fst, s.snd.fst, false, s.snd.snd.snd)).fst) ∧ (x0.fst = x0.fst) ∧ ((unloadS x0.snd).fst.fst.fst = (unloadS x0.snd).fst.fst.fst) ∧ ((unloadS x0.snd).fst.fst.snd = (unloadS x0.snd).fst.fst.snd) ∧ ((unloadS x0.snd).fst.snd.fst = (unloadS x0.snd).fst.snd.fst) ∧ ((unloadS x0.snd).fst.snd.snd.fst = (unloadS x0.snd).fst.snd.snd.fst) ∧ ((unloadS x0.snd).fst.snd.snd.snd = (unloadS x0.snd).fst.snd.snd.snd) ∧ (x0.snd.fst.fst = x0.snd.fst.fst) ∧ (x0.snd.fst.snd = x0.snd.fst.snd) ∧ (x0.snd.snd.fst = x0.snd.snd.fst) ∧ (x0.snd.snd.snd.fst = x0.snd.snd.snd.fst) ∧ (x0.snd.snd.snd.snd = x0.snd.snd.snd.snd)) ∧
                       ((protJ (allS s.fst) (acts.getD (Int.toNat x0.fst) (0, 0, 0, false)).fst x0.snd (unloadS x0.snd).fst) ∧
                        (True))))
                     (PIf (Int.tmod (acts.getD (Int.toNat x0.fst) (0, 0, 0, false)).fst 7 == 3)
                      (PIf (decide (0 ≤ x0.fst) && decide (x0.fst < (↑acts.length : Int)))
                       (PIf (decide (0 ≤ x0.fst) && decide (x0.fst < (↑acts.length : Int)))
                        (PIf (decide (0 ≤ x0.fst) && decide (x0.fst < (↑acts.length : Int)))
                         (((True) ∧
                           ((((-9223372036854775808) ≤ (acts.getD (Int.toNat x0.fst) (0, 0, 0, false)).snd.fst ∧ (acts.getD (Int.toNat x0.fst) (0, 0, 0, false)).snd.fst < 9223372036854775808) ∧
                             ((c7 x0) ∧
                              (c7 x0))) ∧
                            ((c9 x0) ∧
                             (c9 x0)))) ∧
                          ((c12 x0) ∧
                           (c12 x0)))
                         (False))
                        (False))
                       (False))
                      (PIf (Int.tmod (acts.getD (Int.toNat x0.fst) (0, 0, 0, false)).fst 7 == 4)
                       (PIf (decide (0 ≤ x0.fst) && decide (x0.fst < (↑acts.length : Int)))
                        ((True) ∧
                         (((acts = acts) ∧ (allS (syncS (s.fst, s.snd.fst, false, s.snd.snd.snd)).fst = allS (syncS (s.fst, s.snd.fst, false, s.snd.snd.snd)).fst) ∧ (x0.fst = x0.fst) ∧ ((keepS x0.snd (acts.getD (Int.toNat x0.fst) (0, 0, 0, false)).snd.snd.snd).fst.fst.fst = (keepS x0.snd (acts.getD (Int.toNat x0.fst) (0, 0, 0, false)).snd.snd.snd).fst.fst.fst) ∧ ((keepS x0.snd (acts.getD (Int.toNat x0.fst) (0, 0, 0, false)).snd.snd.snd).fst.fst.snd = (keepS x0.snd (acts.getD (Int.toNat x0.fst) (0, 0, 0, false)).snd.snd.snd).fst.fst.snd) ∧ ((keepS x0.snd (acts.getD (Int.toNat x0.fst) (0, 0, 0, false)).snd.snd.snd).fst.snd.fst = (keepS x0.snd (acts.getD (Int.toNat x0.fst) (0, 0, 0, false)).snd.snd.snd).fst.snd.fst) ∧ ((keepS x0.snd (acts.getD (Int.toNat x0.fst) (0, 0, 0, false)).snd.snd.snd).fst.snd.snd.fst = (keepS x0.snd (acts.getD (Int.toNat x0.fst) (0, 0, 0, false)).snd.snd.snd).fst.snd.snd.fst) ∧ ((keepS x0.snd (acts.getD (Int.toNat x0.fst) (0, 0, 0, false)).snd.snd.snd).fst.snd.snd.snd = (keepS x0.snd (acts.getD (Int.toNat x0.fst) (0, 0, 0, false)).snd.snd.snd).fst.snd.snd.snd) ∧ (x0.snd.fst.fst = x0.snd.fst.fst) ∧ (x0.snd.fst.snd = x0.snd.fst.snd) ∧ (x0.snd.snd.fst = x0.snd.snd.fst) ∧ (x0.snd.snd.snd.fst = x0.snd.snd.snd.fst) ∧ (x0.snd.snd.snd.snd = x0.snd.snd.snd.snd)) ∧
                          ((protJ (allS s.fst) (acts.getD (Int.toNat x0.fst) (0, 0, 0, false)).fst x0.snd (keepS x0.snd (acts.getD (Int.toNat x0.fst) (0, 0, 0, false)).snd.snd.snd).fst) ∧
                           (True))))
                        (False))
                       (PIf (Int.tmod (acts.getD (Int.toNat x0.fst) (0, 0, 0, false)).fst 7 == 5)
                        (PIf (decide (0 ≤ x0.fst) && decide (x0.fst < (↑acts.length : Int)))
                         ((0 ≤ IntKind.u64.wrap (acts.getD (Int.toNat x0.fst) (0, 0, 0, false)).snd.snd.fst ∧ IntKind.u64.wrap (acts.getD (Int.toNat x0.fst) (0, 0, 0, false)).snd.snd.fst < 18446744073709551616) ∧
                          (((acts = acts) ∧ (allS (syncS (s.fst, s.snd.fst, false, s.snd.snd.snd)).fst = allS (syncS (s.fst, s.snd.fst, false, s.snd.snd.snd)).fst) ∧ (x0.fst = x0.fst) ∧ ((powerS x0.snd (IntKind.u64.wrap (acts.getD (Int.toNat x0.fst) (0, 0, 0, false)).snd.snd.fst)).fst.fst = (powerS x0.snd (IntKind.u64.wrap (acts.getD (Int.toNat x0.fst) (0, 0, 0, false)).snd.snd.fst)).fst.fst) ∧ ((powerS x0.snd (IntKind.u64.wrap (acts.getD (Int.toNat x0.fst) (0, 0, 0, false)).snd.snd.fst)).fst.snd = (powerS x0.snd (IntKind.u64.wrap (acts.getD (Int.toNat x0.fst) (0, 0, 0, false)).snd.snd.fst)).fst.snd) ∧ ((powerS x0.snd (IntKind.u64.wrap (acts.getD (Int.toNat x0.fst) (0, 0, 0, false)).snd.snd.fst)).snd.fst = (powerS x0.snd (IntKind.u64.wrap (acts.getD (Int.toNat x0.fst) (0, 0, 0, false)).snd.snd.fst)).snd.fst) ∧ ((powerS x0.snd (IntKind.u64.wrap (acts.getD (Int.toNat x0.fst) (0, 0, 0, false)).snd.snd.fst)).snd.snd.fst = (powerS x0.snd (IntKind.u64.wrap (acts.getD (Int.toNat x0.fst) (0, 0, 0, false)).snd.snd.fst)).snd.snd.fst) ∧ ((powerS x0.snd (IntKind.u64.wrap (acts.getD (Int.toNat x0.fst) (0, 0, 0, false)).snd.snd.fst)).snd.snd.snd = (powerS x0.snd (IntKind.u64.wrap (acts.getD (Int.toNat x0.fst) (0, 0, 0, false)).snd.snd.fst)).snd.snd.snd) ∧ (x0.snd.fst.fst = x0.snd.fst.fst) ∧ (x0.snd.fst.snd = x0.snd.fst.snd) ∧ (x0.snd.snd.fst = x0.snd.snd.fst) ∧ (x0.snd.snd.snd.fst = x0.snd.snd.snd.fst) ∧ (x0.snd.snd.snd.snd = x0.snd.snd.snd.snd)) ∧
                           ((protJ (allS s.fst) (acts.getD (Int.toNat x0.fst) (0, 0, 0, false)).fst x0.snd (powerS x0.snd (IntKind.u64.wrap (acts.getD (Int.toNat x0.fst) (0, 0, 0, false)).snd.snd.fst))) ∧
                            (True))))
                         (False))
                        ((True) ∧
                         (((acts = acts) ∧ (allS (syncS (s.fst, s.snd.fst, false, s.snd.snd.snd)).fst = allS (syncS (s.fst, s.snd.fst, false, s.snd.snd.snd)).fst) ∧ (x0.fst = x0.fst) ∧ ((syncS x0.snd).fst.fst = (syncS x0.snd).fst.fst) ∧ ((syncS x0.snd).fst.snd = (syncS x0.snd).fst.snd) ∧ ((syncS x0.snd).snd.fst = (syncS x0.snd).snd.fst) ∧ ((syncS x0.snd).snd.snd.fst = (syncS x0.snd).snd.snd.fst) ∧ ((syncS x0.snd).snd.snd.snd = (syncS x0.snd).snd.snd.snd) ∧ (x0.snd.fst.fst = x0.snd.fst.fst) ∧ (x0.snd.fst.snd = x0.snd.fst.snd) ∧ (x0.snd.snd.fst = x0.snd.snd.fst) ∧ (x0.snd.snd.snd.fst = x0.snd.snd.snd.fst) ∧ (x0.snd.snd.snd.snd = x0.snd.snd.snd.snd)) ∧
                          ((protJ (allS s.fst) (acts.getD (Int.toNat x0.fst) (0, 0, 0, false)).fst x0.snd (syncS x0.snd)) ∧
                           (True))))))))))
                  (False)) ∧
                 (∀ x1 : (List (List Int) × List (Int × List Int)) × Bool × Bool × Bool, (protJ (allS s.fst) (acts.getD (Int.toNat x0.fst) (0, 0, 0, false)).fst x0.snd x1) →
                  (True) ∧
                   (((allS x1.fst).length ≤ 1000000) ∧
                    (PIf (!decide (allS x1.fst = allS (syncS (s.fst, s.snd.fst, false, s.snd.snd.snd)).fst))
                     ((false = true))
                     (PIf (!x1.snd.snd.fst)
                      ((false = true))
                      (PIf (decide (0 ≤ x0.fst) && decide (x0.fst < (↑acts.length : Int)) || !(x0.snd.snd.snd.snd && x0.snd.snd.fst))
                       (PIf (x0.snd.snd.snd.snd && x0.snd.snd.fst && Int.tmod (acts.getD (Int.toNat x0.fst) (0, 0, 0, false)).fst 7 != 5 && !x1.snd.fst)
                        ((false = true))
                        (((IntKind.i64.wrap (x0.fst + 1) = IntKind.i64.wrap (x0.fst + 1)) ∧ (acts = acts) ∧ (allS (syncS (s.fst, s.snd.fst, false, s.snd.snd.snd)).fst = allS (syncS (s.fst, s.snd.fst, false, s.snd.snd.snd)).fst) ∧ (x1.fst.fst = x1.fst.fst) ∧ (x1.fst.snd = x1.fst.snd) ∧ (x1.snd.fst = x1.snd.fst) ∧ (x1.snd.snd.fst = x1.snd.snd.fst) ∧ (x1.snd.snd.snd = x1.snd.snd.snd)) ∧
                         (((0 ≤ IntKind.i64.wrap (x0.fst + 1) ∧ IntKind.i64.wrap (x0.fst + 1) ≤ (↑acts.length : Int) ∧ x1.fst = (allS s.fst, []) ∧ x1.snd.snd.fst = true) ∧ ((↑acts.length : Int) - IntKind.i64.wrap (x0.fst + 1)).toNat < ((↑acts.length : Int) - x0.fst).toNat) ∧
                          (True))))
                       (False)))))))
                ((true = true))))))))))))))
    (c13)) (by kernel_rfl) ?_
  have h1 : ∀ p q r, rightS s.1 = true → (syncS (s.1, p, q, r)).1 = (allS s.1, []) := fun p q r h => by unfold syncS; rw [if_pos h]
  have h2 := allS_len s.1
  have h4 := allS_nil h2
  have j1 := fun d x => @protJ_sync (allS s.1) h2 d x
  have j2 := fun d x => @protJ_insert (allS s.1) d x
  have j3 := fun d x => @protJ_button (allS s.1) h2 d x
  have j4 := fun d x => @protJ_unload (allS s.1) h2 d x
  have j5 := fun d x k c th => @protJ_put (allS s.1) d x k c th
  have k5 : ∀ (x : SlotE) (k : Int) (c : List Int) (th : Bool), x.1 = (allS s.1, []) → x.2.2.1 = true → x.2.1 = true → (putS x k c th).2.1 = 7 ∧ (putS x k c th).2.2.1 = 39 ∧ (putS x k c th).2.2.2 = 0 := fun x k c th a b d => by rw [(j5 0 x k c th a b).2, if_pos d]; exact ⟨rfl, rfl, rfl⟩
  have m5 : ∀ (x : SlotE) (k : Int) (c : List Int) (th : Bool), x.1 = (allS s.1, []) → x.2.2.1 = true → x.2.1 = false → (putS x k c th).2.1 = 2 ∧ (putS x k c th).2.2.1 = 58 ∧ (putS x k c th).2.2.2 = 0 := fun x k c th a b d => by rw [(j5 0 x k c th a b).2, if_neg (by rw [d]; simp)]; exact ⟨rfl, rfl, rfl⟩
  have j6 := fun d x on => @protJ_keep (allS s.1) d x on
  have j7 := fun d k x => @protJ_power (allS s.1) h2 d k x
  have j8 : ∀ d x y, protJ (allS s.1) d x y → y.1 = (allS s.1, []) ∧ y.2.2.1 = true ∧ (x.2.2.2 = true → x.2.1 = true → d.tmod 7 ≠ 5 → y.2.1 = true) := fun d x y h => h
  try simp only [PIf_iff, decide_eq_true_eq, decide_eq_false_iff_not, Bool.and_eq_true, Bool.not_eq_true', Bool.not_eq_false', Bool.and_eq_false_iff, Nat.blt_eq, blt_f, beq_iff_eq, beq_eq_false_iff_ne]
  repeat' first | intro _ | apply And.intro
  all_goals first | omega | rfl | exact True.intro | grind [w64, wu64]
end Go.Proofs.Ytnmghlkocljedaa
