/- The interpreter is right, sixteenth part: code, bodies, and contracts. -/
import Derived.Test.YtoiacgfhjikddaaWS
set_option linter.unusedSimpArgs false
set_option linter.unusedVariables false
namespace Go.Proofs.Ytoiacgfhjikddaa.W
open Go.RowKit Vc

section
variable {C C' : Cx} {B : Base} {s s' : AS} {a : Act} {W W' : World} {P : Program} {LO : List Vc.Loc} {OW : List OwnV} {sus : List Act} {o : Oper} {Rt : Type} {Q : Rt → Prop} {c : Cf} {X : Exit → Act → World → Prop}

theorem boolA_ok (R : RelA B C LO OW s a sus W) {x : Operand} {b : Bool} (h : boolA s x = some b) : a.eval x = .bool b := by
  unfold boolA at h
  split at h
  · rename_i b' hs
    simp only [Option.some.injEq] at h; subst h
    have := R.ev hs
    simpa [Rep] using this
  · cases h
theorem aiC_ok (hc : CfOK P c) {fid : Nat} {call : CallT} (hcall : CallOK P B Q (call Rt)) : ∀ (x : Code) (k : Exit → AS → T Rt) (X : Exit → Act → World → Prop), (∀ e C LO OW s a W, RelA B C LO OW s a sus W → (k e s).ok Q → X e a W) →
    ∀ C LO OW s a W, RelA B C LO OW s a sus W → (aiC c fid call x Rt s k).ok Q → x.wp P X a W := by
  intro x
  induction x with
  | skip => intro k X hK C LO OW s a W R h; exact wp_skip (hK _ _ _ _ _ _ _ R h)
  | label l => intro k X hK C LO OW s a W R h; exact wp_label (hK _ _ _ _ _ _ _ R h)
  | exit i => intro k X hK C LO OW s a W R h; exact wp_exit (hK _ _ _ _ _ _ _ R h)
  | ret => intro k X hK C LO OW s a W R h; exact wp_ret (hK _ _ _ _ _ _ _ R h)
  | region id ops b =>
    intro k X hK C LO OW s a W R h
    cases b with
    | false =>
      exact wp_region (evOpsG_ok hc hcall (k := k .normal) (fun C LO OW s a W R h => hK _ C LO OW s a W R h) R h)
    | true => exact evR_ok hc hcall (k := k .normal) (fun C LO OW s a W R h => hK _ C LO OW s a W R h) R h
  | seq x y ihx ihy =>
    intro k X hK C LO OW s a W R h
    simp only [aiC] at h
    split at h
    · exact evJoin_ok (fun kk Y hY h => ihx kk Y hY C LO OW s a W R h) (fun C LO OW s a W R h => ihy k X hK C LO OW s a W R h) hK h
    · refine wp_seq (ihx _ _ ?_ C LO OW s a W R h)
      intro e C LO OW s a W R h
      cases e with
      | normal => exact ihy k X hK C LO OW s a W R h
      | _ => exact hK _ C LO OW s a W R h
  | cond t x y ihx ihy =>
    intro k X hK C LO OW s a W R h
    simp only [aiC] at h
    split at h
    · rename_i b hb
      refine wp_cond_split (boolA_ok R hb) (fun e => ?_) (fun e => ?_)
      · subst e; exact ihx k X hK C LO OW s a W R h
      · subst e; exact ihy k X hK C LO OW s a W R h
    · exact h.elim
  | block id x ih =>
    intro k X hK C LO OW s a W R h
    refine wp_block (ih _ _ ?_ C LO OW s a W R h)
    intro e C LO OW s a W R h
    cases e with
    | exit i =>
      simp only [Exit.inBlock]
      by_cases hi : i = id
      · subst hi
        simp only [Nat.beq_refl, cond_true, if_true] at h ⊢; exact hK _ C LO OW s a W R h
      · simp only [beq_ne hi, cond_false, hi, if_false] at h ⊢; exact hK _ C LO OW s a W R h
    | _ => exact hK _ C LO OW s a W R h
  | loop x ih =>
    intro k X hK C LO OW s a W R h
    simp only [aiC] at h
    split at h
    · exact evLoop_ok (fun kk Y hY C LO OW s a W R h => ih kk Y hY C LO OW s a W R h) hK R h
    · exact h.elim
  | _ => intro k X hK C LO OW s a W R h; exact h.elim

/-! ### Results -/
theorem resA_ok (R : RelA B C LO OW s a sus W) : ∀ {l : List ResultVar} {as : List AV}, resA P s l = some as → ∃ rs, (l.mapM (resF a.tmps)).run P W = .ok rs W ∧ RepL C as rs
  | [], as, h => by
    simp only [resA, Option.some.injEq] at h; subst h
    exact ⟨[], rfl, by simp [RepL]⟩
  | .tmp t :: l, as, h => by
    simp only [resA] at h
    split at h
    · rename_i x q hx hq
      simp only [Option.some.injEq] at h; subst h
      obtain ⟨rs, h1, h2⟩ := resA_ok R hq
      obtain ⟨v, h3, h4⟩ := R.tm t x hx
      refine ⟨v :: rs, mapM_cons_run ?_ h1, by simp only [RepL]; exact ⟨v, rs, rfl, h4, h2⟩⟩
      show Result.ok (a.tmps.getD t undef) W = _
      simp [Array.getD_eq_getD_getElem?, h3]
    · cases h
  | .cell t ty :: l, as, h => by
    simp only [resA] at h
    split at h
    · rename_i i off q hx hq
      split at h
      · rename_i cs hcs
        split at h
        · rename_i y hy
          simp only [Option.some.injEq] at h; subst h
          obtain ⟨rs, h1, h2⟩ := resA_ok R hq
          obtain ⟨v, h3, h4⟩ := R.tm t _ hx
          simp only [Rep] at h4
          obtain ⟨_, rfl⟩ := h4
          obtain ⟨vs, h5, h6⟩ := lp_at R hcs
          obtain ⟨u, h7, h8⟩ := loadC_ok (P := P) R hy h5 (h6 off)
          refine ⟨u :: rs, mapM_cons_run ?_ h1, by simp only [RepL]; exact ⟨u, rs, rfl, h8, h2⟩⟩
          have e : a.tmps.getD t undef = .pointer (some ⟨C.E.id i, (C.E.pre i).length + off, none⟩) := by simp [Array.getD_eq_getD_getElem?, h3]
          show (Sem.bind (asAddr (a.tmps.getD t undef)) _).run P W = _
          rw [e]
          exact h7.run
        · cases h
      · cases h
    · cases h
theorem results_run {fn : Func} {tm : Array Value} {rs : List Value} (h : (fn.results.toList.mapM (resF tm)).run P W = .ok rs W) : (results fn tm).run P W = .ok (oneVs rs) W := by
  have e : fn.results.mapM (resF tm) = List.toArray <$> fn.results.toList.mapM (resF tm) := by
    conv => lhs; rw [show fn.results = fn.results.toList.toArray by simp]
    rw [List.mapM_toArray]
  have e2 : (fn.results.mapM (resF tm)).run P W = .ok ⟨rs⟩ W := by
    rw [e]; simp only [Sem.run_map, h, Result.andThen_ok]
  show (Sem.bind (fn.results.mapM (resF tm)) _).run P W = _
  rw [run_bind e2]
  match rs with
  | [] => rfl
  | [x] => rfl
  | x :: y :: r => rfl

/-! ### A call by the body -/
theorem initA_of : ∀ {l : List AV} {vs : List Value} {j k : Nat} {x : AV}, RepL C l vs → lookA (initA j l) k = some x → j ≤ k ∧ ∃ v, vs[k - j]? = some v ∧ Rep C x v
  | y :: r, vs, j, k, x, h, hk => by
    simp only [initA] at hk
    rw [lookA_cons] at hk
    simp only [RepL] at h
    obtain ⟨v, us, rfl, h1, h2⟩ := h
    by_cases e : j = k
    · subst e
      rw [if_pos rfl] at hk; injection hk with hk; subst hk
      exact ⟨Nat.le_refl _, v, by simp, h1⟩
    · rw [if_neg e] at hk
      obtain ⟨h3, u, h4, h5⟩ := initA_of h2 hk
      refine ⟨by omega, u, ?_, h5⟩
      rw [show k - j = (k - (j + 1)) + 1 by omega]; simpa using h4
theorem RepL.len : ∀ {l : List AV} {vs : List Value}, RepL C l vs → vs.length = l.length
  | [], vs, h => by simp only [RepL] at h; subst h; rfl
  | x :: r, vs, h => by
    simp only [RepL] at h
    obtain ⟨v, us, rfl, _, h2⟩ := h
    simp [RepL.len h2]
def act0 (fn : Func) (vs : List Value) : Act := { tmps := (⟨vs⟩ : Array Value) ++ Array.replicate (fn.ntmps - (⟨vs⟩ : Array Value).size) undef, defers := [] }
theorem act0_size {fn : Func} {vs : List Value} (h : vs.length ≤ fn.ntmps) : (act0 fn vs).tmps.size = fn.ntmps := by
  have : (⟨vs⟩ : Array Value).size = vs.length := rfl
  simp only [act0, Array.size_append, Array.size_replicate, this]; omega
theorem act0_tm {fn : Func} {vs : List Value} {as : List AV} (h : RepL C as vs) : tmR C (initA 0 as) (act0 fn vs).tmps := fun k x hk => by
  obtain ⟨_, v, h1, h2⟩ := initA_of h hk
  rw [Nat.sub_zero] at h1
  refine ⟨v, ?_, h2⟩
  have hlt : k < (⟨vs⟩ : Array Value).size := (List.getElem?_eq_some_iff.1 h1).1
  simp only [act0]
  rw [Array.getElem?_append_left hlt]
  simpa using h1
theorem aiF_ok (hc : CfOK P c) : ∀ d, CallOK P B Q (aiF c d Rt)
  | 0 => fun f as vs C LO OW s a sus W k R hr h => h.elim
  | d + 1 => fun f as vs C LO OW s a sus W k R hr h => by
    simp only [aiF] at h
    split at h
    · rename_i fn hfn
      obtain ⟨hf, hk⟩ := hc.inl _ (findI_of hfn)
      cases hb : (!Nat.ble as.length fn.ntmps) with
      | true => simp only [hb, cond_true] at h; exact h.elim
      | false =>
        simp only [hb, cond_false] at h
        have hle : vs.length ≤ fn.ntmps := by
          rw [hr.len]; exact Nat.le_of_ble_eq_true (by simpa using hb)
        split at h
        · rename_i b hbody
          refine ⟨hk, ?_⟩
          refine calls_of_wp hf hbody ?_
          have R1 : RelA B C LO OW { s with n := fn.ntmps, tm := initA 0 as, fr := (s.n, s.tm) :: s.fr } (act0 fn vs) (a :: sus) W :=
            ⟨Rel.act R.rel (act0_size hle) rfl, R.m0, R.N, R.M, R.gb, R.hh, act0_tm hr, ⟨a, sus, rfl, R.rel.size, R.tm, R.fr⟩, R.lo, R.ow⟩
          refine aiC_ok hc (aiF_ok hc d) b _ _ ?_ C LO OW _ _ W R1 h
          intro e C' LO' OW' s' a' W' R' h'
          have fin : (aiE c.P fn s' k).ok Q → a'.defers = [] ∧ ∃ v, (results fn a'.tmps).run P W' = .ok v W' ∧ (∃ r C' LO' OW' s' x, Ending.returned v = .returned r ∧ RelA B C' LO' OW' s' a sus W' ∧ Rep C' x r ∧ (k x s').ok Q) := fun h' => by
            unfold aiE at h'
            split at h'
            · rename_i l n tm fr hl hfr
              rw [hc.prog] at hl
              obtain ⟨rs, h1, h2⟩ := resA_ok R' hl
              have hF := R'.fr
              rw [hfr] at hF
              obtain ⟨t, q, e1, h3, h4, h5⟩ := hF
              injection e1 with e1 e2
              subst e1; subst e2
              refine ⟨R'.rel.df, _, results_run h1, _, C', LO', OW', { s' with n := n, tm := tm, fr := fr }, _, rfl, ⟨Rel.act R'.rel h3 R.rel.df, R'.m0, R'.N, R'.M, R'.gb, R'.hh, h4, h5, R'.lo, R'.ow⟩, oneA_ok h2, h'⟩
            · exact h'.elim
          cases e with
          | normal => exact fin h'
          | ret => exact fin h'
          | _ => exact h'.elim
        · exact h.elim
    · exact h.elim

/-! ### What is new of a result -/
def NM (ow : List OA) (OW : List OwnV) : List OwnV → List Nat → Prop
  | [], ms => ms = []
  | o :: r, ms => (o.v = .slice none 0 0 ∧ o.n = 0 ∧ o.l = [] ∧ o.e < objMark ∧ NM ow OW r ms) ∨ ∃ (m : Nat) (ms' : List Nat) (i : Nat) (x : OA), ms = m :: ms' ∧ OW[i]? = some o ∧ ow[i]? = some x ∧ x.m = m ∧ NM ow OW r ms'
theorem NM.app {ow : List OA} {OW : List OwnV} : ∀ {o1 o2 : List OwnV} {m1 m2 : List Nat}, NM ow OW o1 m1 → NM ow OW o2 m2 → NM ow OW (o1 ++ o2) (m1 ++ m2)
  | [], o2, m1, m2, h1, h2 => by simp only [NM] at h1; subst h1; exact h2
  | o :: r, o2, m1, m2, h1, h2 => by
    simp only [NM, List.cons_append] at h1 ⊢
    rcases h1 with ⟨h3, h4, h5, h7, h6⟩ | ⟨m, ms', i, x, rfl, h3, h4, h5, h6⟩
    · exact .inl ⟨h3, h4, h5, h7, h6.app h2⟩
    · exact .inr ⟨m, ms' ++ m2, i, x, rfl, h3, h4, h5, h6.app h2⟩
theorem NM.mem {ow : List OA} {OW : List OwnV} : ∀ {o1 : List OwnV} {ms : List Nat}, NM ow OW o1 ms → ∀ o ∈ o1, (o.v = .slice none 0 0 ∧ o.n = 0 ∧ o.l = [] ∧ o.e < objMark) ∨ ∃ m ∈ ms, ∃ (i : Nat) (x : OA), OW[i]? = some o ∧ ow[i]? = some x ∧ x.m = m
  | y :: r, ms, h, o, ho => by
    simp only [NM] at h
    rcases List.mem_cons.1 ho with rfl | ho
    · rcases h with ⟨h3, h4, h5, h7, _⟩ | ⟨m, ms', i, x, rfl, h3, h4, h5, _⟩
      · exact .inl ⟨h3, h4, h5, h7⟩
      · exact .inr ⟨m, by simp, i, x, h3, h4, h5⟩
    · rcases h with ⟨_, _, _, _, h6⟩ | ⟨m, ms', i, x, rfl, _, _, _, h6⟩
      · exact h6.mem o ho
      · rcases h6.mem o ho with h | ⟨m', h1, h2⟩
        · exact .inl h
        · exact .inr ⟨m', List.mem_cons_of_mem _ h1, h2⟩
theorem nodupB_spec {x : Nat} {r : List Nat} (h : nodupB (x :: r) = true) : x ∉ r ∧ nodupB r = true := by
  simp only [nodupB, Bool.and_eq_true, Bool.not_eq_true'] at h
  exact ⟨(fun hm => by rw [memB_iff.2 hm] at h; cases h.1), h.2⟩
theorem NM.new (R : RelA B C LO OW s a sus W) : ∀ {o1 : List OwnV} {ms : List Nat}, NM s.ow OW o1 ms → nodupB ms = true → New W B.n0 C.G o1 := by
  intro o1 ms h hn
  refine ⟨fun o ho => ?_, fun o ho b hb => ?_, ?_⟩
  · rcases h.mem o ho with ⟨h1, h2, h3, h4⟩ | ⟨m, _, i, x, h1, _⟩
    · exact ⟨by rw [h2, h3]; simp, .inl ⟨h4, .inl ⟨none, h1, h2⟩⟩⟩
    · exact R.rel.ows.at_ o (List.mem_of_getElem? h1)
  · rcases h.mem o ho with ⟨h1, h2, h3⟩ | ⟨m, _, i, x, h1, _⟩
    · rw [h1] at hb; cases hb
    · exact R.rel.ows.hid o (List.mem_of_getElem? h1) b hb
  · induction o1 generalizing ms with
    | nil => exact List.Pairwise.nil
    | cons o r ih =>
      simp only [NM] at h
      rcases h with ⟨h1, _, _, _, h6⟩ | ⟨m, ms', i, x, rfl, h1, h2, h3, h6⟩
      · exact List.Pairwise.cons (fun o' _ b hb => by rw [h1] at hb; cases hb) (ih h6 hn)
      · obtain ⟨hm, hn'⟩ := nodupB_spec hn
        refine List.Pairwise.cons (fun o' ho' b hb hb' => ?_) (ih h6 hn')
        rcases h6.mem o' ho' with ⟨e1, _, _⟩ | ⟨m', hm', j, x', h4, h5, h7⟩
        · rw [e1] at hb'; cases hb'
        · have hij : i ≠ j := fun e => by
            subst e
            rw [h2] at h5; injection h5 with h5; subst h5
            exact hm (by rw [← h3, h7]; exact hm')
          obtain ⟨l1, e1⟩ := List.getElem?_eq_some_iff.1 h1
          obtain ⟨l2, e2⟩ := List.getElem?_eq_some_iff.1 h4
          have ap := List.pairwise_iff_getElem.1 R.rel.ows.apart
          rcases Nat.lt_or_ge i j with hlt | hge
          · have := ap i j l1 l2 hlt b (by rw [e1]; exact hb)
            rw [e2] at this; exact this hb'
          · have := ap j i l2 l1 (by omega) b (by rw [e2]; exact hb')
            rw [e1] at this; exact this hb
theorem dcR_ok (R : RelA B C LO OW s a sus W) : ∀ {k : K} {cs r : List AV} {x : El k} {vs : List Value}, okR k = true → dc s.ow k cs = some (x, r) → RepC C cs vs →
    ∃ us ws o1, vs = us ++ ws ∧ RC C.Gb C.G k x us o1 ∧ RepC C r ws ∧ r = (nws k cs).2 ∧ NM s.ow OW o1 (nws k cs).1 := by
  intro k
  have leaf : ∀ {k : K}, noSn k = true → okK k = true → (∀ (ow : List OA) (cs : List AV), dc ow k cs = dc [] k cs) → (∀ cs, (nws k cs).1 = []) → (∀ {cs r : List AV} {x : El k}, dc s.ow k cs = some (x, r) → r = (nws k cs).2) → (∀ {x : El k} {us : List Value}, VC C.Gb C.G k x us → RC C.Gb C.G k x us []) → ∀ {cs r : List AV} {x : El k} {vs : List Value}, dc s.ow k cs = some (x, r) → RepC C cs vs →
      ∃ us ws o1, vs = us ++ ws ∧ RC C.Gb C.G k x us o1 ∧ RepC C r ws ∧ r = (nws k cs).2 ∧ NM s.ow OW o1 (nws k cs).1 := fun {k} hn ho hd hw ht hrc {cs r x vs} h hr => by
    have hsb : ∀ m o, findO ([] : List OA) m = some o → SLv C.Gb (VC C.Gb C.Gb o.k) (wd o.k) o.l (C.hd m) ∧ C.ln m = o.l.length ∧ C.wo m = wd o.k := fun m o h => by cases h
    obtain ⟨us, ws, e, h1, h2⟩ := dc_ok hsb hn (.inl ho) (by rw [← hd s.ow]; exact h) hr
    exact ⟨us, ws, [], e, hrc h1, h2, ht h, by rw [hw]; simp [NM]⟩
  induction k with
  | b =>
    intro cs r x vs _ h hr
    refine leaf (k := .b) rfl rfl (fun _ _ => rfl) (fun _ => rfl) (fun {cs r x} h => ?_) (fun h => ⟨rfl, h⟩) h hr
    replace h : dcB cs = some (x, r) := h
    unfold dcB at h; split at h
    · exact (so h).2.symm
    · cases h
  | i k =>
    intro cs r x vs _ h hr
    refine leaf (k := .i k) rfl rfl (fun _ _ => rfl) (fun _ => rfl) (fun {cs r x} h => ?_) (fun h => ⟨rfl, h⟩) h hr
    replace h : dcI k cs = some (x, r) := h
    unfold dcI at h; split at h
    · split at h
      · exact (so h).2.symm
      · cases h
    · cases h
  | s =>
    intro cs r x vs _ h hr
    refine leaf (k := .s) rfl rfl (fun _ _ => rfl) (fun _ => rfl) (fun {cs r x} h => ?_) (fun h => ⟨rfl, h⟩) h hr
    replace h : dcS cs = some (x, r) := h
    unfold dcS at h; split at h
    · exact (so h).2.symm
    · cases h
  | a8 n =>
    intro cs r x vs _ h hr
    refine leaf (k := .a8 n) rfl rfl (fun _ _ => rfl) (fun _ => rfl) (fun {cs r x} h => ?_) (fun h => ⟨rfl, h⟩) h hr
    replace h : dcA n cs = some (x, r) := h
    unfold dcA at h; split at h
    · rename_i n' l r'
      cases hb : Nat.beq n n' with
      | false => simp [hb] at h
      | true => simp only [hb, cond_true] at h; exact (so h).2.symm
    · cases h
  | sl k ih =>
    intro cs r x vs _ h hr
    refine leaf (k := .sl k) rfl rfl (fun _ _ => rfl) (fun _ => rfl) (fun {cs r x} h => ?_) (fun h => ⟨rfl, h⟩) h hr
    replace h : dcL k cs = some (x, r) := h
    cases cs with
    | nil => cases h
    | cons y r' =>
      show r = r'
      simp only [dcL] at h
      split at h
      · rename_i q k' l
        cases hb : Nat.blt 0 q with
        | false => simp [hb] at h
        | true =>
          simp only [hb, cond_true] at h
          split at h
          · exact (so h).2.symm
          · cases h
      · cases hb : isNilA y with
        | false => simp [hb] at h
        | true => simp only [hb, cond_true] at h; exact (so h).2.symm
  | sb k ih => intro cs r x vs ho; simp [okR] at ho
  | u =>
    intro cs r x vs _ h hr
    refine leaf (k := .u) rfl rfl (fun _ _ => rfl) (fun _ => rfl) (fun {cs r x} h => ?_) (fun h => ⟨rfl, h⟩) h hr
    exact (so h).2.symm
  | sn e k ih =>
    intro cs r x vs hok h hr
    replace h : dcN s.ow e k cs = some (x, r) := h
    cases cs with
    | nil => cases h
    | cons y r' =>
      cases y with
      | ov m =>
        simp only [dcN] at h
        split at h
        · rename_i ob ho
          cases hb : Nat.beq ob.e e with
          | false => simp [hb] at h
          | true =>
            simp only [hb, cond_true] at h
            have he := Nat.eq_of_beq_eq_true hb
            split at h
            · rename_i hk; subst hk
              obtain ⟨rfl, rfl⟩ := so h
              obtain ⟨hm, i, Y, h1, h2, h3⟩ := R.ow.get ho
              rw [RepC.cons rfl] at hr
              obtain ⟨v, us, rfl, h4, h5, h6⟩ := hr
              simp only [Rep] at h5
              obtain ⟨_, rfl⟩ := h5
              have hY : Y = ⟨C.hd m, e, wd ob.k, ob.l.length, Y.l⟩ := by
                rw [← hm, ← h3.v, ← he, ← h3.e.eq (by rw [he]; exact Nat.le_of_ble_eq_true hok), ← h3.w, ← h3.n]
              refine ⟨[C.hd m], us, [Y], rfl, ⟨C.hd m, Y.l, rfl, by rw [castL_rfl, ← hY], h3.pc⟩, h6, rfl, ?_⟩
              exact .inr ⟨m, [], i, ob, rfl, h1, h2, hm, rfl⟩
            · cases h
        · cases h
      | v z =>
        simp only [dcN, isNilA] at h
        cases hn : (isNilS z && Nat.blt e objMark) with
        | false => simp [hn] at h
        | true =>
          simp only [hn, cond_true] at h
          simp only [Bool.and_eq_true] at hn
          obtain ⟨rfl, rfl⟩ := so h
          have := nilS_of hn.1; subst this
          rw [RepC.cons rfl] at hr
          obtain ⟨v, us, rfl, _, h2, h3⟩ := hr
          simp only [Rep] at h2; subst h2
          refine ⟨[_], us, [⟨.slice none 0 0, e, wd k, 0, []⟩], rfl, ⟨_, [], rfl, rfl, fun i hi => absurd hi (Nat.not_lt_zero i)⟩, h3, rfl, ?_⟩
          exact .inl ⟨rfl, rfl, rfl, blt_iff.1 hn.2, rfl⟩
      | _ => simp [dcN, isNilA] at h
  | p k1 k2 ih1 ih2 =>
    intro cs r x vs ho h hr
    simp only [okR, Bool.and_eq_true] at ho
    simp only [dc] at h
    split at h
    · rename_i y r1 h1
      split at h
      · rename_i z r2 h2
        simp only [Option.some.injEq, Prod.mk.injEq] at h; obtain ⟨rfl, rfl⟩ := h
        obtain ⟨us, ws, o1, rfl, h3, h4, h5, h6⟩ := ih1 ho.1 h1 hr
        obtain ⟨us2, ws2, o2, rfl, h7, h8, h9, h10⟩ := ih2 ho.2 h2 h4
        subst h5
        exact ⟨us ++ us2, ws2, o1 ++ o2, by simp, ⟨us, us2, o1, o2, rfl, rfl, h3, h7⟩, h8, h9, h6.app h10⟩
      · cases h
    · cases h
theorem dcPR_ok (R : RelA B C LO OW s a sus W) {k : K} (hk : okR k = true) {x : AV} {v : Value} {y : El k} (h : dcP s.ow k x = some y) (hr : Rep C x v) : ∃ o1, RV C.Gb C.G k y v o1 ∧ NM s.ow OW o1 (match cellsA x with | some cs => (nws k cs).1 | none => []) := by
  unfold dcP at h
  cases he : (isAg x == agK k) with
  | false => simp [he] at h
  | true =>
    simp only [he, cond_true] at h
    split at h
    · rename_i cs hcs
      split at h
      · rename_i z hz
        simp only [Option.some.injEq] at h; subst h
        obtain ⟨us, h1, h2⟩ := cellsA_ok R.hh hcs hr
        obtain ⟨p, q, o1, rfl, h4, h5, _, h6⟩ := dcR_ok R hk hz h2
        simp only [RepC] at h5; subst h5
        rw [List.append_nil] at h1 h2
        have e := beq_iff_eq.1 he
        refine ⟨o1, ⟨p, h4, ?_⟩, by simp only [hcs]; exact h6⟩
        rw [← e]
        exact isAg_of hcs hr h1 R.hh
      · cases h
    · cases h
theorem dcRes_ok (R : RelA B C LO OW s a sus W) : ∀ {ks : List K} {as : List AV} {vs : List Value} {x : Els ks}, okRs ks = true → dcArgs s.ow ks as = some x → RepL C as vs → ∃ o1, ResR C.Gb C.G ks x vs o1 ∧ NM s.ow OW o1 (nwsL ks as)
  | [], as, vs, x, _, h, hr => by
    cases as with
    | nil => simp only [RepL] at hr; exact ⟨[], ⟨hr, rfl⟩, by simp [NM, nwsL]⟩
    | cons a as => simp [dcArgs] at h
  | [k], as, vs, x, hn, h, hr => by
    simp only [okRs, Bool.and_eq_true] at hn
    cases as with
    | nil => simp [dcArgs] at h
    | cons a as =>
      cases as with
      | cons b as => simp [dcArgs] at h
      | nil =>
        have h : dcP s.ow k a = some x := h
        simp only [RepL] at hr
        obtain ⟨v, us, rfl, h1, h2⟩ := hr
        subst h2
        obtain ⟨o1, h3, h4⟩ := dcPR_ok R hn.1 h h1
        exact ⟨o1, ⟨v, rfl, h3⟩, by simp only [nwsL, List.append_nil]; exact h4⟩
  | k :: k' :: r, as, vs, x, hn, h, hr => by
    simp only [okRs, Bool.and_eq_true] at hn
    cases as with
    | nil => simp [dcArgs] at h
    | cons a as =>
      have h : (match dcP s.ow k a, dcArgs s.ow (k' :: r) as with | some x, some y => some (x, y) | _, _ => none) = some x := h
      split at h
      · rename_i y z hy hz
        have h : (y, z) = x := by injection h
        subst h
        simp only [RepL] at hr
        obtain ⟨v, us, rfl, h1, h2⟩ := hr
        obtain ⟨o1, h3, h4⟩ := dcPR_ok R hn.1 hy h1
        obtain ⟨o2, h5, h6⟩ := dcRes_ok R (by simp only [okRs, Bool.and_eq_true]; exact hn.2) hz h2
        exact ⟨o1 ++ o2, ⟨v, us, o1, o2, rfl, rfl, h3, h5⟩, h4.app h6⟩
      · cases h

/-! ### Contracts -/
theorem pv_rep {k : K} {x : El k} {v : Value} (h : PV C.Gb C.G k x v) : Rep C (pack k x) v := by
  obtain ⟨us, h1, h2⟩ := h
  have hr := enc_ok (q := 1) (C := C) (by simp) h1
  rcases h2 with ⟨hk, rfl⟩ | ⟨hk, rfl⟩
  · rw [pack_ag hk]; simp only [Rep]; exact ⟨us, rfl, hr⟩
  · obtain ⟨y, h3, h4, h5⟩ := enc_one (x := x) hk
    rw [h4]
    rw [h3, RepC.cons h5] at hr
    obtain ⟨u, q, he, _, h6, _⟩ := hr
    injection he with he
    rw [he]; exact h6
theorem argsR_rep : ∀ {ks : List K} {x : Els ks} {vs : List Value}, ArgsR C.Gb C.G ks x vs → RepL C (packs ks x) vs
  | [], x, vs, h => by simpa [packs, RepL, ArgsR] using h
  | [k], x, vs, h => by
    obtain ⟨v, rfl, h⟩ := h
    have e : packs [k] x = [pack k x] := rfl
    rw [e]; simp only [RepL]; exact ⟨v, [], rfl, pv_rep h, rfl⟩
  | k :: k' :: r, x, vs, h => by
    obtain ⟨v, us, rfl, h1, h2⟩ := h
    have e : packs (k :: k' :: r) x = pack k x.1 :: packs (k' :: r) x.2 := rfl
    rw [e]; simp only [RepL]; exact ⟨v, us, rfl, pv_rep h1, argsR_rep h2⟩
/-- A contract, by the body. -/
theorem Holds.of {ct : Ct} {fn : Func} {inl : List (Nat × Func)} {cts : List Ct} (hc0 : ∀ an jn, CfOK P ⟨P, inl, cts, an, jn⟩) (hf : P.funcs[ct.f]? = some fn) (hk : okCallee P ct.f = true)
    (h : ∀ x : Els ct.ks, (ct.sp x).pre → ∃ an jn, (ai ⟨P, inl, cts, an, jn⟩ ct.f fn ct.ks (ct.sp x).rk x).ok (ct.sp x).out.post) : Holds P ct := by
  refine ⟨hk, fun x hpre W G vs hsub hargs => ?_⟩
  obtain ⟨an, jn, h⟩ := h x hpre
  have hc := hc0 an jn
  generalize (⟨P, inl, cts, an, jn⟩ : Cf) = c at h hc
  unfold ai at h
  split at h
  · rename_i b hbody
    cases hb : (!Nat.ble (packs ct.ks x).length fn.ntmps) with
    | true => simp only [hb, cond_true] at h; exact h.elim
    | false =>
      simp only [hb, cond_false] at h
      let B : Base := ⟨W, G, default_env, 0, fun k o h => (Array.getElem?_eq_some_iff.1 (hsub k o h)).1⟩
      let C : Cx := ⟨default_env, 0, 0, fun _ => undef, fun _ => 0, fun _ => 0, view W, G⟩
      have hr : RepL C (packs ct.ks x) vs := argsR_rep (C := C) hargs
      have hle : vs.length ≤ fn.ntmps := by
        rw [hr.len]; exact Nat.le_of_ble_eq_true (by simpa using hb)
      refine calls_of_wp hf hbody ?_
      have R : RelA B C [] [] { n := fn.ntmps, tm := initA 0 (packs ct.ks x), fr := [], lo := [], ow := [], nx := 0 } (act0 fn vs) [] W := by
        refine ⟨⟨act0_size hle, rfl, fun k s hk => by simp [St.get, lookup] at hk, Nat.le_refl _, fun i l hi => by simp at hi, fun i hi => by simp at hi, fun i j hi => by simp at hi, fun i h1 h2 => by simp at h2, fun i hi => absurd hi (Nat.not_lt_zero i), hsub, fun _ _ => rfl, fun _ _ _ => rfl, rfl, rfl, rfl, Nat.le_refl _, Owns.nil⟩, rfl, rfl, rfl, rfl, fun m hm => ?_, act0_tm hr, rfl, rfl, rfl⟩
        exact absurd hm (Nat.not_lt_zero m)
      refine aiC_ok hc (aiF_ok hc 9) b _ _ ?_ C [] [] _ _ W R h
      intro e C' LO' OW' s' a' W' R' h'
      have fin : (aiR c.P fn (ct.sp x).rk s').ok (ct.sp x).out.post → a'.defers = [] ∧ ∃ v, (results fn a'.tmps).run P W' = .ok v W' ∧ ∃ rs G' y ow, Ending.returned v = .returned (oneVs rs) ∧ Kept default_env 0 W W' ∧ GExt G G' ∧ (∀ k, k < W.heap.size → G' k = G k) ∧ (∀ k o, G' k = some o → W'.heap[k]? = some o) ∧ (ct.sp x).out.post y ∧ ResR (view W) G' (ct.sp x).rk y rs ow ∧ New W' W.heap.size G' ow := fun h' => by
        unfold aiR at h'
        split at h'
        · rename_i l0 hl0
          obtain ⟨C2, OW2, _, R2⟩ := R'.freezes (l := given (ct.sp x).rk l0)
          unfold aiR2 at h'
          split at h'
          · rename_i l hl
            rw [hc.prog] at hl
            cases hok : (okRs (ct.sp x).rk && nodupB (nwsL (ct.sp x).rk l)) with
            | false => simp only [hok, cond_false] at h'; exact h'.elim
            | true =>
              simp only [hok, cond_true] at h'
              simp only [Bool.and_eq_true] at hok
              split at h'
              · rename_i y hy
                obtain ⟨rs, h1, h2⟩ := resA_ok R2 hl
                obtain ⟨ow, h3, h4⟩ := dcRes_ok R2 hok.1 hy h2
                rw [R2.gb] at h3
                have hkept : Kept default_env 0 W W' := ⟨fun k hk hi => R2.rel.ext k hk fun i hi' => (by have : i < 0 := hi'; omega), R2.rel.os, R2.rel.tape, R2.rel.output, R2.rel.sz⟩
                refine ⟨R2.rel.df, _, results_run h1, rs, C2.G, y, ow, rfl, hkept, fun k o hk' => ?_, R2.rel.old, R2.rel.sub, h', h3, NM.new R2 h4 hok.2⟩
                rw [R2.rel.old k (B.h0 k o hk')]; exact hk'
              · exact h'.elim
          · exact h'.elim
        · exact h'.elim
      cases e with
      | normal => exact fin h'
      | ret => exact fin h'
      | _ => exact h'.elim
  · exact h.elim
end
end Go.Proofs.Ytoiacgfhjikddaa.W
