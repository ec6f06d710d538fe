/- Layer 3: the laws of what is shown, and lost: plain words. -/
import Derived.Test.YtoiacgfhjikddaaWXC
set_option linter.unusedSimpArgs false
set_option linter.unusedVariables false
namespace Go.Proofs.Ytoiacgfhjikddaa
open Go.RowKit Vc W
/-- Writes, one after the other. -/
def appl (b : List (List Int)) (l : List DirtyE) : List (List Int) := l.foldl (fun b d => b.set d.1.toNat d.2) b
theorem appl_nil (b : List (List Int)) : appl b [] = b := rfl
theorem appl_cons (b : List (List Int)) (d : DirtyE) (l : List DirtyE) : appl b (d :: l) = appl (b.set d.1.toNat d.2) l := rfl
theorem appl_snoc (b : List (List Int)) (l : List DirtyE) (d : DirtyE) : appl b (l ++ [d]) = (appl b l).set d.1.toNat d.2 := by simp [appl]
theorem appl_len (b : List (List Int)) (l : List DirtyE) : (appl b l).length = b.length := by
  induction l generalizing b with
  | nil => rfl
  | cons d l ih => rw [appl_cons, ih, List.length_set]
theorem doneN_appl {D : Int → DirtyE → Bool} {p : DirtyE → Bool} {m : MedE} (h : ∀ i d, D i d = p d) : ∀ n, doneN D (fun _ _ => true) m n = (appl m.1 ((m.2.take n).filter p), (m.2.take n).filter (fun d => !p d))
  | 0 => rfl
  | n + 1 => by
    unfold doneN
    rw [doneN_appl h n, List.take_add_one]
    cases hd : m.2[n]? with
    | none => simp
    | some d =>
      simp only [h, if_true, Option.toList_some, List.filter_append]
      cases hp : p d with
      | true => simp [hp, appl_snoc]
      | false => simp [hp, appl]
theorem doneS_appl {D : Int → DirtyE → Bool} {p : DirtyE → Bool} {m : MedE} (h : ∀ i d, D i d = p d) : doneS D (fun _ _ => true) m = (appl m.1 (m.2.filter p), m.2.filter (fun d => !p d)) := by
  rw [doneS, doneN_appl h, List.take_length]
theorem filt_t {α : Type} (l : List α) : l.filter (fun _ => true) = l := List.filter_eq_self.2 (by simp)
theorem filt_f {α : Type} (l : List α) : l.filter (fun _ => false) = [] := List.filter_eq_nil_iff.2 (by simp)
theorem allS_appl {m : MedE} (h : rightS m = true) : allS m = appl m.1 m.2 := by
  rw [allS, if_pos h, doneS_appl (p := fun _ => true) (fun _ _ => rfl)]
  simp only [filt_t]
theorem set_appl {i : Nat} {v : List Int} : ∀ (l : List DirtyE) (b : List (List Int)), (∀ e ∈ l, e.1.toNat ≠ i) → (appl b l).set i v = appl (b.set i v) l
  | [], _, _ => rfl
  | d :: l, b, h => by
    rw [appl_cons, appl_cons, set_appl l _ fun e he => h e (by simp [he]), List.set_comm _ _ (h d (by simp))]
theorem appl_split {q : Int → Bool} : ∀ (l : List DirtyE) (b : List (List Int)), (∀ d ∈ l, 0 ≤ d.1) → appl (appl b (l.filter fun d => q d.1)) (l.filter fun d => !q d.1) = appl b l
  | [], _, _ => rfl
  | d :: l, b, h => by
    have ih := fun b => appl_split (q := q) l b fun e he => h e (by simp [he])
    cases hq : q d.1 with
    | true => simp only [List.filter_cons, hq, if_true, Bool.not_true, Bool.false_eq_true, if_false, appl_cons]; exact ih _
    | false =>
      simp only [List.filter_cons, hq, if_true, Bool.not_false, Bool.false_eq_true, if_false, appl_cons]
      rw [set_appl, ih]
      intro e he
      obtain ⟨he, hqe⟩ := List.mem_filter.1 he
      have h1 := h e (by simp [he])
      have h2 := h d (by simp)
      intro hc
      have : e.1 = d.1 := by omega
      rw [this, hq] at hqe; cases hqe
theorem flush_right {m : MedE} {k n : Int} (h : rightS m = true) (he : (flushS m k n).2 = 0) : rightS (flushS m k n).1 = true ∧ allS (flushS m k n).1 = allS m := by
  unfold flushS at he ⊢
  rw [if_neg (by simp [h])] at he ⊢
  by_cases hb : n < 0 ∨ k < 0 ∨ (m.1.length : Int) < k
  · rw [if_pos hb] at he; simp at he
  · rw [if_neg hb]
    generalize hn : (if n = 0 then (m.1.length : Int) else n) = n'
    have hd := doneS_appl (D := flushD k n') (p := fun d => decide (k ≤ d.1) && decide (d.1 - k < n')) (m := m) fun _ _ => rfl
    have hl := right_of h
    have hr : rightS (doneS (flushD k n') (fun _ _ => true) m) = true := by
      have h1 := doneS_len (flushD k n') (fun _ _ => true) m
      simp only [rightS, Bool.and_eq_true, decide_eq_true_eq, List.all_eq_true]
      refine ⟨by omega, by omega, fun d hd2 => ?_⟩
      have hm : d ∈ m.2 := by rw [hd] at hd2; exact (List.mem_filter.1 hd2).1
      obtain ⟨i, hi⟩ := List.getElem?_of_mem hm
      have := right_mem h hi
      simp only [thereS, Bool.and_eq_true, decide_eq_true_eq]
      omega
    refine ⟨hr, ?_⟩
    rw [allS_appl hr, allS_appl h, hd]
    exact appl_split (q := fun x => decide (k ≤ x) && decide (x - k < n')) m.2 m.1 fun d hd => by
      obtain ⟨i, hi⟩ := List.getElem?_of_mem hd
      exact (right_mem h hi).1
theorem flush_err {m : MedE} {k n : Int} (h : rightS m = true) (he : (flushS m k n).2 ≠ 0) : (flushS m k n).2 = 5 ∧ (flushS m k n).1.1 = [] := by
  unfold flushS at he ⊢
  rw [if_neg (by simp [h])] at he ⊢
  split
  · exact ⟨rfl, rfl⟩
  · rename_i hb; rw [if_neg hb] at he; exact absurd rfl he
theorem flush_all {m : MedE} (h : rightS m = true) : flushS m 0 0 = ((allS m, []), 0) := by
  have hl := right_of h
  unfold flushS allS
  rw [if_neg (by simp [h]), if_neg (by omega), if_pos h]
  have h1 : doneS (flushD 0 (m.1.length : Int)) (fun _ _ => true) m = doneS (fun _ _ => true) (fun _ _ => true) m := doneS_congr fun i d hi => by
    have := right_mem h hi
    refine ⟨?_, fun _ => rfl⟩
    simp only [flushD, Bool.and_eq_true, decide_eq_true_eq]; omega
  simp only [if_true, h1]
  congr 1
  refine Prod.ext rfl ?_
  rw [doneS_appl (p := fun _ => true) (fun _ _ => rfl)]; simp only [Bool.not_true, filt_f]
theorem right_nil {b : List (List Int)} (h : b.length ≤ 64) : rightS (b, []) = true := by
  simp only [rightS, Bool.and_eq_true, decide_eq_true_eq, List.all_eq_true]
  exact ⟨by omega, by simp, by intro d hd; cases hd⟩
theorem lose_nil {b : List (List Int)} (h : b.length ≤ 64) (k : Int) : loseS (b, []) k = ((b, []), 0) := by
  unfold loseS
  rw [if_neg (by simp [right_nil h])]; rfl
/-- What each block may be. -/
def LInv (m : MedE) (all : List (List Int)) (ws : List DirtyE) : Prop :=
  rightS m = true ∧ all.length = m.1.length ∧ (∀ n : Nat, n < all.length → m.1[n]? = all[n]? ∨ ∃ w ∈ ws, w.1 = (n : Int) ∧ m.1[n]? = some w.2) ∧ ∀ d ∈ m.2, d ∈ ws
theorem done_in (does stays : Int → DirtyE → Bool) (m : MedE) (h : ∀ d ∈ m.2, 0 ≤ d.1) : ∀ n, (∀ k : Nat, (doneN does stays m n).1[k]? = m.1[k]? ∨ ∃ d ∈ m.2, d.1 = (k : Int) ∧ (doneN does stays m n).1[k]? = some d.2) ∧ ∀ d ∈ (doneN does stays m n).2, d ∈ m.2
  | 0 => ⟨fun k => .inl rfl, fun d hd => by cases hd⟩
  | n + 1 => by
    obtain ⟨h1, h2⟩ := done_in does stays m h n
    unfold doneN
    split
    · rename_i d hd
      have hm := List.mem_of_getElem? hd
      have h0 := h d hm
      split
      · refine ⟨fun k => ?_, h2⟩
        by_cases e : d.1.toNat = k
        · subst e
          by_cases hlt : d.1.toNat < (doneN does stays m n).1.length
          · exact .inr ⟨d, hm, by omega, by rw [List.getElem?_set_self hlt]⟩
          · rw [List.set_eq_of_length_le (by omega)]; exact h1 _
        · simp only [List.getElem?_set_ne e]; exact h1 k
      · split
        · refine ⟨h1, fun x hx => ?_⟩
          rcases List.mem_append.1 hx with hx | hx
          · exact h2 x hx
          · simp at hx; subst hx; exact hm
        · exact ⟨h1, h2⟩
    · exact ⟨h1, h2⟩
theorem right_ge {m : MedE} (h : rightS m = true) : ∀ d ∈ m.2, 0 ≤ d.1 ∧ d.1 < m.1.length := fun d hd => by
  obtain ⟨i, hi⟩ := List.getElem?_of_mem hd
  exact right_mem h hi
theorem LInv.start {m : MedE} (h : rightS m = true) : LInv (allS m, []) (allS m) [] :=
  ⟨right_nil (allS_len m), rfl, fun _ _ => .inl rfl, by intro d hd; cases hd⟩
theorem allS_length {m : MedE} (h : rightS m = true) : (allS m).length = m.1.length := by rw [allS_appl h, appl_len]
theorem LInv.write {m : MedE} {all : List (List Int)} {ws : List DirtyE} (h : LInv m all ws) {k : Int} {b : List Int} {th : Bool} (he : (writeS m k b th).2 = 0) : LInv (writeS m k b th).1 all (ws ++ [(k, b)]) := by
  obtain ⟨hr, hl, h1, h2⟩ := h
  have hlen := right_of hr
  have hd := done_in (writeD m k th) (fun _ _ => true) m (fun d hd => (right_ge hr d hd).1) m.2.length
  have hdl := doneN_len (writeD m k th) (fun _ _ => true) m m.2.length
  unfold writeS at he ⊢
  rw [if_neg (by simp [hr])] at he ⊢
  cases ht : thereS m k with
  | false => rw [if_pos ht] at he; simp at he
  | true =>
    rw [if_neg (by simp [ht])]
    simp only [thereS, Bool.and_eq_true, decide_eq_true_eq] at ht
    dsimp only [doneS]
    -- the blocks behind
    have hb : ∀ n : Nat, n < all.length → (doneN (writeD m k th) (fun _ _ => true) m m.2.length).1[n]? = all[n]? ∨ ∃ w ∈ ws ++ [(k, b)], w.1 = (n : Int) ∧ (doneN (writeD m k th) (fun _ _ => true) m m.2.length).1[n]? = some w.2 := fun n hn => by
      rcases hd.1 n with e | ⟨d, hdm, e1, e2⟩
      · rw [e]
        rcases h1 n hn with e | ⟨w, hw, e1, e2⟩
        · exact .inl e
        · exact .inr ⟨w, by simp [hw], e1, e2⟩
      · exact .inr ⟨d, by simp [h2 d hdm], e1, e2⟩
    cases th with
    | true =>
      simp only [if_true]
      refine ⟨?_, by simp [hdl.1, hl], fun n hn => ?_, fun d hdm => by simp [h2 d (hd.2 d hdm)]⟩
      · simp only [rightS, Bool.and_eq_true, decide_eq_true_eq, List.all_eq_true, List.length_set]
        refine ⟨by omega, by omega, fun d hdm => ?_⟩
        have := right_ge hr d (hd.2 d hdm)
        simp only [thereS, List.length_set, Bool.and_eq_true, decide_eq_true_eq]; omega
      · by_cases e : k.toNat = n
        · subst e
          exact .inr ⟨(k, b), by simp, by simp; omega, by rw [List.getElem?_set_self (by omega)]⟩
        · rw [List.getElem?_set_ne e]; exact hb n hn
    | false =>
      simp only [Bool.false_eq_true, if_false]
      have hcnt : (doneN (writeD m k false) (fun _ _ => true) m m.2.length).2.length ≤ 63 := by
        by_cases h64 : (m.2.length : Int) = 64
        · have := doneN_appl (D := writeD m k false) (p := fun _ => true) (m := m) (fun _ _ => by simp [writeD, h64]) m.2.length
          rw [this]; simp only [Bool.not_true, filt_f]; simp
        · omega
      refine ⟨?_, by simp [hdl.1, hl], fun n hn => hb n hn, fun d hdm => ?_⟩
      · simp only [rightS, Bool.and_eq_true, decide_eq_true_eq, List.all_eq_true, List.length_append, List.length_cons, List.length_nil]
        refine ⟨by omega, by omega, fun d hdm => ?_⟩
        rcases List.mem_append.1 hdm with hdm | hdm
        · have := right_ge hr d (hd.2 d hdm)
          simp only [thereS, Bool.and_eq_true, decide_eq_true_eq]; omega
        · simp at hdm; subst hdm
          simp only [thereS, Bool.and_eq_true, decide_eq_true_eq]; omega
      · rcases List.mem_append.1 hdm with hdm | hdm
        · simp [h2 d (hd.2 d hdm)]
        · simp at hdm; subst hdm; simp
theorem LInv.lose {m : MedE} {all : List (List Int)} {ws : List DirtyE} (h : LInv m all ws) (k : Int) : (loseS m k).2 = 0 ∧ (loseS m k).1.2 = [] ∧ (loseS m k).1.1.length = all.length ∧ ∀ n : Nat, n < all.length → (loseS m k).1.1[n]? = all[n]? ∨ ∃ w ∈ ws, w.1 = (n : Int) ∧ (loseS m k).1.1[n]? = some w.2 := by
  obtain ⟨hr, hl, h1, h2⟩ := h
  have hd := done_in (loseD k) (fun _ _ => false) m (fun d hd => (right_ge hr d hd).1) m.2.length
  have hdl := doneN_len (loseD k) (fun _ _ => false) m m.2.length
  unfold loseS
  rw [if_neg (by simp [hr])]
  have hnil : ∀ n, (doneN (loseD k) (fun _ _ => false) m n).2 = [] := fun n => by
    induction n with
    | zero => rfl
    | succ n ih => unfold doneN; split <;> (try split) <;> simp [ih]
  refine ⟨rfl, hnil _, by dsimp only [doneS]; omega, fun n hn => ?_⟩
  dsimp only [doneS]
  rcases hd.1 n with e | ⟨d, hdm, e1, e2⟩
  · rw [e]; exact h1 n hn
  · exact .inr ⟨d, h2 d hdm, e1, e2⟩
theorem write_there {m : MedE} {k : Int} {b : List Int} {th : Bool} (h : rightS m = true) : (writeS m k b th).2 = 0 ↔ thereS m k = true := by
  unfold writeS
  rw [if_neg (by simp [h])]
  cases ht : thereS m k with
  | false => simp
  | true => simp; cases th <;> simp
end Go.Proofs.Ytoiacgfhjikddaa
