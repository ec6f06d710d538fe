/- Layer 5: the laws of what is put, protected, and inside. -/
import Derived.Test.YtnmghlkocljedaaWSL
import Derived.Test.YtnmghlkocljedaaWLB
set_option linter.unusedSimpArgs false
set_option linter.unusedVariables false
namespace Go.Proofs.Ytnmghlkocljedaa
open Go.RowKit Vc W
theorem allS_nil {b : List (List Int)} (h : b.length ≤ 64) : allS (b, []) = b := by rw [allS_appl (right_nil h)]; rfl
theorem writeS_eq {m : MedE} {k : Int} {b : List Int} {th : Bool} (h : rightS m = true) (hk : thereS m k = true) : writeS m k b th = (if th = true then (((doneS (writeD m k th) (fun _ _ => true) m).1.set k.toNat b, (doneS (writeD m k th) (fun _ _ => true) m).2), 0) else (((doneS (writeD m k th) (fun _ _ => true) m).1, (doneS (writeD m k th) (fun _ _ => true) m).2 ++ [(k, b)]), 0)) := by
  unfold writeS; rw [if_neg (by simp [h]), if_neg (by simp [hk])]
theorem write_fm {m : MedE} {k : Int} {b : List Int} {th : Bool} (hm : fmM m) (hb : b.length = 64) : fmM (writeS m k b th).1 := by
  unfold writeS
  split
  · exact ⟨(fun x hx => by cases hx), (fun x hx => by cases hx)⟩
  · split
    · exact ⟨(fun x hx => by cases hx), (fun x hx => by cases hx)⟩
    · have h1 := doneN_fm (does := writeD m k th) (stays := fun _ _ => true) hm m.2.length
      dsimp only [doneS]
      split
      · refine ⟨fun x hx => ?_, h1.2⟩
        rcases List.mem_or_eq_of_mem_set hx with hx | rfl
        · exact h1.1 x hx
        · exact hb
      · refine ⟨h1.1, fun x hx => ?_⟩
        rcases List.mem_append.1 hx with hx | hx
        · exact h1.2 x hx
        · simp at hx; subst hx; exact hb
/-- What is written is shown, and nothing else turns. -/
theorem allS_write {m : MedE} {k : Int} {b : List Int} {th : Bool} (h : rightS m = true) (hk : thereS m k = true) : rightS (writeS m k b th).1 = true ∧ allS (writeS m k b th).1 = (allS m).set k.toNat b := by
  have hw := (write_there (b := b) (th := th) h).2 hk
  have hr := (LInv.write (all := m.1) (ws := m.2) ⟨h, rfl, fun _ _ => .inl rfl, fun d hd => hd⟩ (b := b) (th := th) hw).1
  refine ⟨hr, ?_⟩
  have hk' := hk
  simp only [thereS, Bool.and_eq_true, decide_eq_true_eq] at hk'
  have hge := right_ge h
  rw [allS_appl hr, allS_appl h, writeS_eq h hk]
  cases th with
  | true =>
    simp only [if_true]
    rw [doneS_appl (p := fun d => decide (d.1 = k)) (fun _ d => by simp [writeD])]
    rw [← set_appl, appl_split (q := fun x => decide (x = k)) m.2 m.1 fun d hd => (hge d hd).1]
    intro e he
    obtain ⟨he, hn⟩ := List.mem_filter.1 he
    have := hge e he
    simp at hn; omega
  | false =>
    simp only [Bool.false_eq_true, if_false, appl_snoc]
    by_cases h64 : (m.2.length : Int) = 64
    · rw [doneS_appl (p := fun _ => true) (fun _ _ => by simp [writeD, h64])]
      simp only [filt_t, Bool.not_true, filt_f]; rfl
    · rw [doneS_appl (p := fun _ => false) (fun _ _ => by simp [writeD, h64])]
      simp only [filt_t, Bool.not_false, filt_f]; rfl
theorem readB_one {l : List (List Int)} {k : Int} {b : List Int} (h0 : 0 ≤ k) (hl : l.length ≤ 64) (hb : l[k.toNat]? = some b) : readB l k 1 = (b, 0) ∧ within l.length k 1 = true := by
  have hlt := (List.getElem?_eq_some_iff.1 hb).1
  have hw : within l.length k 1 = true := by simp only [within, Bool.and_eq_true, decide_eq_true_eq]; omega
  refine ⟨?_, hw⟩
  unfold readB
  rw [if_neg (by omega), if_neg (by simp [hw])]
  have : subB l k 1 = [b] := by
    unfold subB
    rw [List.drop_eq_getElem_cons hlt]
    have := (List.getElem?_eq_some_iff.1 hb).2
    simp [this]
  rw [this]; simp
theorem put_read {s : SlotE} {k : Int} {b : List Int} {th : Bool} (h0 : -9223372036854775808 ≤ k) (h1 : k < 9223372036854775808) (hp : (putS s k b th).2 = (0, 0, 0)) : readSl (putS s k b th).1 (IntKind.u64.wrap k) 1 = (b, 0, 0, 0) := by
  have hc : checkS s (IntKind.u64.wrap k) 1 true = (0, 0, 0) := by
    unfold putS at hp
    split at hp
    · assumption
    · rename_i h; exact absurd hp h
  obtain ⟨hr, ht⟩ := check_put hc h0 h1
  have ht' := ht
  simp only [thereS, Bool.and_eq_true, decide_eq_true_eq] at ht'
  obtain ⟨hr2, ha⟩ := allS_write (b := b) (th := th) hr ht
  have hl := allS_length hr
  have h64 := right_of hr
  have hu : IntKind.u64.wrap k = k := by rw [wu64 (by omega) (by omega)]
  have hb : (allS (writeS s.1 k b th).1)[k.toNat]? = some b := by rw [ha, List.getElem?_set_self (by omega)]
  obtain ⟨hB, hW⟩ := readB_one ht'.1 (allS_len _) hb
  have hpres : s.2.1 = true := by
    unfold checkS at hc
    split at hc
    · simp at hc
    · rename_i h; simpa using h
  unfold putS
  rw [if_pos hc, hu]
  unfold readSl
  have hck : checkS ((writeS s.1 k b th).1, s.2) k 1 false = (0, 0, 0) := by
    unfold checkS
    rw [if_neg (by simp [hpres]), if_neg (by simp), if_neg (by simp [hW])]
  rw [if_pos hck, hck]
  simp only [hB]
theorem put_bad {s : SlotE} {k : Int} {b : List Int} {th : Bool} (h : (putS s k b th).2 ≠ (0, 0, 0)) : (putS s k b th).1 = s := by
  unfold putS at h ⊢
  split
  · rename_i hc; rw [if_pos hc] at h; exact absurd rfl h
  · rfl
theorem put_fm {s : SlotE} {k : Int} {b : List Int} {th : Bool} (hm : fmM s.1) (hb : b.length = 64) : fmM (putS s k b th).1.1 := by
  unfold putS
  split
  · exact write_fm hm hb
  · exact hm
abbrev kWr : K := .p kBlk .b
def cL5Puts : Ct := ⟨5, [kSlot, kInt, kWr], fun x => ⟨[.b], RngL [kSlot, kInt, kWr] x, .val true⟩⟩
theorem hL5Puts : Holds Try.prog cL5Puts := holds_by (inl := []) (cts := [cS5Alive, cR3Great, cR5Copy, cSPut, cR5Put, cR5Same, cSRead, cR2Of]) mix .nil (.cons hS5Alive (.cons hR3Great (.cons hR5Copy (.cons hSPut (.cons hR5Put (.cons hR5Same (.cons hSRead (.cons hR2Of .nil)))))))) Try.func5 (by kernel_rfl) fun (x : SlotE × Int × List Int × Bool) hx => by
  obtain ⟨s, k, b, th⟩ := x
  have hx : RngL [kSlot, kInt, kWr] (s, k, b, th) := hx
  have hf : fmM s.1 := rng_fm hx.1.1
  have hb : b.length = 64 := hx.2.2.1.1
  replace hx := hx.2.1
  simp only [Rng, mn_i64, mx_i64] at hx
  obtain ⟨hk0, hk1⟩ := hx
  have hk1 : k < 9223372036854775808 := Int.lt_of_le_of_lt hk1 (by decide)
  refine ⟨[], ?_⟩
  refine vc_of (B :=
    (True) ∧
    ((True) ∧
     (PIf (decide (70 < (↑(List.length s.fst.fst) : Int)) || decide (70 < (↑(List.length s.fst.snd) : Int)))
      ((true = true))
      ((List.length s.fst.fst ≤ 1000000 ∧ List.length s.fst.snd ≤ 1000000) ∧
       (((-9223372036854775808) ≤ k ∧ k < 9223372036854775808) ∧
        (((-9223372036854775808) ≤ k ∧ k < 9223372036854775808) ∧
         ((List.length (putS s k b th).fst.fst.fst ≤ 1000000 ∧ List.length (putS s k b th).fst.fst.snd ≤ 1000000) ∧
          (PIf (!decide ((putS s k b th).fst = (putS s k b th).fst))
           ((false = true))
           (PIf (!((putS s k b th).snd.fst == (putS s k b th).snd.fst && ((putS s k b th).snd.snd.fst == (putS s k b th).snd.snd.fst && ((putS s k b th).snd.snd.snd == (putS s k b th).snd.snd.snd && true))))
            ((false = true))
            ((List.length s.fst.fst ≤ 1000000 ∧ List.length s.fst.snd ≤ 1000000) ∧
             (PIf (!decide (s = s))
              ((false = true))
              (PIf (!((putS s k b th).snd.fst == 0 && ((putS s k b th).snd.snd.fst == 0 && ((putS s k b th).snd.snd.snd == 0 && true))))
               ((List.length (putS s k b th).fst.fst.fst ≤ 1000000 ∧ List.length (putS s k b th).fst.fst.snd ≤ 1000000) ∧
                ((decide ((putS s k b th).fst = s) = true)))
               ((fmM (putS s k b th).fst.fst ∧ 0 ≤ IntKind.u64.wrap k ∧ IntKind.u64.wrap k < 18446744073709551616) ∧
                (PIf ((readSl (putS s k b th).fst (IntKind.u64.wrap k) 1).snd.fst == 0 && ((readSl (putS s k b th).fst (IntKind.u64.wrap k) 1).snd.snd.fst == 0 && ((readSl (putS s k b th).fst (IntKind.u64.wrap k) 1).snd.snd.snd == 0 && true)))
                 (PIf ((↑(List.length (readSl (putS s k b th).fst (IntKind.u64.wrap k) 1).fst) : Int) == 64)
                  (((0 : Int) ≤ 0 ∧ 0 + 64 ≤ (↑(List.length (readSl (putS s k b th).fst (IntKind.u64.wrap k) 1).fst) : Int) ∧ List.length (readSl (putS s k b th).fst (IntKind.u64.wrap k) 1).fst ≤ 1000000) ∧
                   ((decide (List.take 64 (List.drop 0 (readSl (putS s k b th).fst (IntKind.u64.wrap k) 1).fst) = b) = true)))
                  ((false = true)))
                 ((false = true)))))))))))))))) (by kernel_rfl) ?_
  have h1 := @putS_len s k b th
  have h2 := @put_read s k b th hk0 hk1
  have h6 : ((putS s k b th).2.1 ≠ 0 ∨ (putS s k b th).2.2.1 ≠ 0 ∨ (putS s k b th).2.2.2 ≠ 0) → (putS s k b th).1 = s := fun h => put_bad fun e => by rw [e] at h; simp at h
  have h3 := @put_fm s k b th hf hb
  have h4 : 0 ≤ IntKind.u64.wrap k ∧ IntKind.u64.wrap k < 18446744073709551616 := by simp only [IntKind.wrap, IntKind.bits, IntKind.signed]; simp; omega
  have h5 : (b.drop (Int.toNat 0)).take 64 = b := by rw [show (Int.toNat 0) = 0 from rfl, List.drop_zero, List.take_of_length_le (by omega)]
  try simp only [PIf_iff, decide_eq_true_eq, decide_eq_false_iff_not, Bool.and_eq_true, Bool.not_eq_true', Bool.not_eq_false', Bool.and_eq_false_iff, Nat.blt_eq, blt_f, beq_iff_eq, beq_eq_false_iff_ne]
  repeat' first | intro _ | apply And.intro
  all_goals first | omega | rfl | exact True.intro | grind [w64, wu64, fmM, fmL]
def cL5Inside : Ct := ⟨7, [kSlot, .b], fun x => ⟨[.b], RngL [kSlot, .b] x, .val true⟩⟩
theorem hL5Inside : Holds Try.prog cL5Inside := holds_by (inl := []) (cts := [cS5Alive, cR3Great, cR3Right, cSUnload, cSButton, cSInsert, cR3All, cR2Same]) mix .nil (.cons hS5Alive (.cons hR3Great (.cons hR3Right (.cons hSUnload (.cons hSButton (.cons hSInsert (.cons hR3All (.cons hR2Same .nil)))))))) Try.func7 (by kernel_rfl) fun (x : SlotE × Bool) _ => by
  obtain ⟨s, bt⟩ := x
  refine ⟨[], ?_⟩
  refine vc_of (B :=
    (True) ∧
    ((True) ∧
     (PIf (decide (70 < (↑(List.length s.fst.fst) : Int)) || decide (70 < (↑(List.length s.fst.snd) : Int)))
      ((true = true))
      ((True) ∧
       (PIf (!rightS s.fst)
        ((true = true))
        ((True) ∧
         (PIf bt
          ((True) ∧
           (PIf (!(buttonS s).snd == (s.snd.fst && !s.snd.snd.snd) || (buttonS s).snd && (buttonS s).fst.snd.fst)
            ((false = true))
            ((True) ∧
             (PIf ((!(buttonS s).fst.snd.fst) == !(buttonS s).fst.snd.fst)
              ((True) ∧
               ((True) ∧
                (((allS (buttonS s).fst.fst).length ≤ 1000000) ∧
                 (PIf (decide (allS (buttonS s).fst.fst = allS s.fst))
                  ((((buttonS s).fst.snd.snd.fst == s.snd.snd.fst) = true))
                  ((false = true))))))
              ((false = true))))))
          (PIf (!((unloadS s).snd.fst == 0 && ((unloadS s).snd.snd.fst == 0 && ((unloadS s).snd.snd.snd == 0 && true))) == (s.snd.fst && !s.snd.snd.snd) || (unloadS s).snd.fst == 0 && ((unloadS s).snd.snd.fst == 0 && ((unloadS s).snd.snd.snd == 0 && true)) && (unloadS s).fst.snd.fst)
           ((false = true))
           ((True) ∧
            (PIf ((!(unloadS s).fst.snd.fst) == !(unloadS s).fst.snd.fst)
             ((True) ∧
              ((True) ∧
               (((allS (unloadS s).fst.fst).length ≤ 1000000) ∧
                (PIf (decide (allS (unloadS s).fst.fst = allS s.fst))
                 ((((unloadS s).fst.snd.snd.fst == s.snd.snd.fst) = true))
                 ((false = true))))))
             ((false = true)))))))))))) (by kernel_rfl) ?_
  have h1 := allS_nil (allS_len s.1)
  have h2 := allS_len s.1
  have h3 := fun m => allS_len m
  try simp only [PIf_iff, decide_eq_true_eq, decide_eq_false_iff_not, Bool.and_eq_true, Bool.not_eq_true', Bool.not_eq_false', Bool.and_eq_false_iff, Nat.blt_eq, blt_f, beq_iff_eq, beq_eq_false_iff_ne]
  repeat' first | intro _ | apply And.intro
  all_goals first | omega | rfl | exact True.intro | grind [w64, wu64, unloadS, buttonS, outS, syncS, insertS]
end Go.Proofs.Ytnmghlkocljedaa
