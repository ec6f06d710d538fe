/- Keys of maps, and what operations on maps come to. -/
import Derived.Test.YtoiacgfhjikddaaVcBld
import Derived.DeepKeys3
import Derived.Maps.RangeRun
set_option linter.unusedSimpArgs false
set_option linter.unusedVariables false
namespace Go.Proofs.Ytoiacgfhjikddaa.W
open Go.RowKit Vc
section
variable {P : Program} {w : World}
theorem ck_plain {e : TypeId} (he : P.plainKey e = true) (em : Bool) (n : Nat) (v : Value) : (Instr.checkKey em (n + 1) e v).run P w = .ok () w := by
  unfold Program.plainKey at he
  cases hu : P.underlying e with
  | none => simp [hu] at he
  | some k => cases k <;> simp [hu] at he <;> simp [Instr.checkKey, run_underlying hu]
/-- Keys that are arrays, or structs, of plain cells. -/
def keyT (P : Program) (t : TypeId) (wd : Nat) : Bool :=
  match P.underlying t with
  | some (.array n e) => P.plainKey e && (match P.info? e with | some i => Nat.beq i.size 1 && Nat.ble n wd | none => false)
  | some (.struct fs) => fs.toList.all fun f => f.name != "_" && P.plainKey f.type && Nat.blt f.offset wd
  | _ => false
theorem ck_ok {t : TypeId} {xs : Array Value} (h : keyT P t xs.size = true) (em : Bool) (n : Nat) : (Instr.checkKey em (n + 2) t (.agg xs)).run P w = .ok () w := by
  unfold keyT at h
  split at h
  · rename_i m e hu
    simp only [Bool.and_eq_true] at h
    obtain ⟨h1, h2⟩ := h
    split at h2
    · rename_i i hi
      simp only [Bool.and_eq_true, Nat.beq_eq, beq_iff_eq, Nat.ble_eq] at h2
      rw [Instr.checkKey]
      simp only [Sem.run_bind, run_underlying hu, Result.andThen_ok]
      simp only [Std.Legacy.Range.forIn_eq_forIn_range', Std.Legacy.Range.size, Nat.sub_zero, Nat.add_one_sub_one, Nat.div_one]
      have hb : ∀ j ∈ List.range' 0 m, j < xs.size := fun j hj => by
        have := List.mem_range'_1.1 hj; omega
      generalize List.range' 0 m = is at hb
      induction is with
      | nil => simp
      | cons j is ih =>
        have hj := hb j (by simp)
        have hce : P.cellsOf e = 1 := by unfold Program.cellsOf; rw [hi]; exact h2.1
        have p1 : (part e xs (j * P.cellsOf e)).run P w = .ok xs[j] w := run_part_plain w h1 (by rw [hce, Nat.mul_one]; exact Array.getElem?_eq_getElem hj)
        simp only [List.forIn_cons, Sem.run_bind, run_sizeOf w hi, Result.andThen_ok, p1, ck_plain h1, Sem.run_pure]
        exact ih fun y hy => hb y (by simp [hy])
    · cases h2
  · rename_i fs hu
    rw [Instr.checkKey]
    simp only [Sem.run_bind, run_underlying hu, Result.andThen_ok]
    rw [← Array.forIn_toList]
    generalize fs.toList = L at h
    induction L with
    | nil => simp
    | cons f L ih =>
      simp only [List.all_cons, Bool.and_eq_true, bne_iff_ne, ne_eq] at h
      obtain ⟨⟨⟨hn, hp⟩, hb⟩, hr⟩ := h
      have hb : f.offset < xs.size := by simpa [Nat.blt_eq] using hb
      have p1 : (part f.type xs f.offset).run P w = .ok xs[f.offset] w := run_part_plain w hp (Array.getElem?_eq_getElem hb)
      simp only [List.forIn_cons, Sem.run_bind, hn, ne_eq, not_false_eq_true, if_true, Result.andThen_ok, p1, ck_plain hp, Sem.run_pure]
      exact ih (by simpa using hr)
  · cases h
/-- The first entry that is meant. -/
def pickE : List Bool → List MapEntry → Nat → Option (Nat × Value)
  | true :: _, e :: _, i => some (i, e.val)
  | false :: bs, _ :: es, i => pickE bs es (i + 1)
  | _, _, _ => none
theorem fa_ok {t : TypeId} {x : Value} : ∀ (es : List MapEntry) (bs : List Bool) (i : Nat), es.length = bs.length → (∀ (j : Nat) (e : MapEntry) (b : Bool), es[j]? = some e → bs[j]? = some b → (Op.equal t x e.key).run P w = .ok b w) → (Instr.findAsking t x es i).run P w = .ok (pickE bs es i) w
  | [], [], i, _, _ => by simp [Instr.findAsking, pickE]
  | e :: es, b :: bs, i, hl, h => by
    have h0 := h 0 e b rfl rfl
    have ih := fa_ok es bs (i + 1) (by simpa using hl) fun j e' b' he hb => h (j + 1) e' b' (by simpa using he) (by simpa using hb)
    cases b <;> simp [Instr.findAsking, pickE, h0, ih]
theorem fk_ok {t : TypeId} {x : Value} {es : List MapEntry} {bs : List Bool} (hw : (match P.underlying t with | some (.array _ _) | some (.struct _) => true | _ => false) = true) (hl : es.length = bs.length) (h : ∀ (j : Nat) (e : MapEntry) (b : Bool), es[j]? = some e → bs[j]? = some b → (Op.equal t x e.key).run P w = .ok b w) : (Instr.findKey t x es).run P w = .ok (pickE bs es 0) w := by
  rw [run_findKey_eq w hw]; exact fa_ok es bs 0 hl h
def fndE : Option (Nat × Value) → Value → Value × Bool
  | some q, _ => (q.2, true)
  | none, z => (z, false)
theorem lookup_ok {T kt et : TypeId} {x z : Value} {b : Nat} {es : Array MapEntry} {ck : Nat} {bs : List Bool} {c : Bool} (hu : P.underlying T = some (.map kt et)) (hb : w.heap[b]? = some (.map es ck)) (hc : ∀ em, (Instr.checkKey em 10000 kt x).run P w = .ok () w) (hf : (Instr.findKey kt x es.toList).run P w = .ok (pickE bs es.toList 0) w) (hz : (zeroValue et).run P w = .ok z w) :
    (Instr.lookup T (.map (some b)) x c).run P w = .ok (if c then .tuple #[(fndE (pickE bs es.toList 0) z).1, .bool (fndE (pickE bs es.toList 0) z).2] else (fndE (pickE bs es.toList 0) z).1) w := by
  unfold Instr.lookup
  cases hp : pickE bs es.toList 0 with
  | none => rw [hp] at hf; cases c <;> simp [run_underlying hu, MapKept.run_getObj_map hb, hc, hf, hz, fndE]
  | some q => rw [hp] at hf; cases c <;> simp [run_underlying hu, MapKept.run_getObj_map hb, hc, hf, fndE]
end
/-- So many numbers below a bound, each once. -/
theorem nodup_le : ∀ (n : Nat) (l : List Nat), l.Nodup → (∀ x ∈ l, x < n) → l.length ≤ n
  | 0, l, _, h => by cases l with | nil => exact Nat.le_refl _ | cons x r => exact absurd (h x (by simp)) (Nat.not_lt_zero _)
  | n + 1, l, hd, h => by
    have h1 : (l.erase n).length ≤ n := nodup_le n _ (hd.erase n) fun x hx => by
      have hm := List.mem_of_mem_erase hx
      have := h x hm
      have hne : x ≠ n := fun e => by subst e; exact (List.Nodup.not_mem_erase hd) hx
      omega
    rw [List.length_erase] at h1
    split at h1 <;> omega
end Go.Proofs.Ytoiacgfhjikddaa.W
