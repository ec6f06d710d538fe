/- Contracts of the layer block: stores that are the same. -/
import Derived.Test.YtdfahkpjdjjalaaBC
import Derived.Test.YtdfahkpjdjjalaaVcRow
namespace Go.Proofs.Ytdfahkpjdjjalaa
open Go.RowKit Vc

theorem bts_flatten (bs : List (List Int)) : bts bs.flatten = bs.flatMap bts := by
  induction bs with
  | nil => rfl
  | cons b r ih => rw [List.flatten_cons, ← bts_append, ih, List.flatMap_cons]
theorem flatten_inj : ∀ {xs ys : List (List Int)}, (∀ b ∈ xs, (bts b).length = 64) → (∀ b ∈ ys, (bts b).length = 64) → xs.length = ys.length → xs.flatten = ys.flatten → xs = ys
  | [], [], _, _, _, _ => rfl
  | x :: xs, y :: ys, hx, hy, hl, h => by
    have h1 := hx x (by simp)
    have h2 := hy y (by simp)
    rw [bts_length] at h1 h2
    rw [List.flatten_cons, List.flatten_cons] at h
    obtain ⟨rfl, h3⟩ := List.append_inj h (by omega)
    rw [flatten_inj (fun b hb => hx b (by simp [hb])) (fun b hb => hy b (by simp [hb])) (by simpa using hl) h3]
  | [], _ :: _, _, _, hl, _ => by simp at hl
  | _ :: _, [], _, _, hl, _ => by simp at hl
theorem row_flat {G : GH} {v : Value} {bs : List (List Int)} (h : RowC G v 64 bts bs) : Row G v 64 bs.length (bts bs.flatten) := by rw [bts_flatten]; exact h.row
theorem flat_iff {G G' : GH} {v u : Value} {xs ys : List (List Int)} (h1 : RowC G v 64 bts xs) (h2 : RowC G' u 64 bts ys) : (xs.length = ys.length ∧ xs.flatten = ys.flatten) ↔ xs = ys :=
  ⟨fun h => flatten_inj h1.wd h2.wd h.1 h.2, fun h => by subst h; exact ⟨rfl, rfl⟩⟩
theorem sameC_ok {v u : Value} {xs ys : List (List Int)} {G : GH} (h1 : RowC G v 64 bts xs) (h2 : RowC G u 64 bts ys) (hb : xs.length < 1000) :
    PureG Try.prog 18 [v, u] G (.bool (decide (xs = ys))) := by
  have := same_ok v u _ _ _ _ (row_flat h1) (row_flat h2) hb
  rwa [decide_eq_decide.2 (flat_iff h1 h2)] at this
theorem refSameC_ok {v u : Value} {xs ys : List (List Int)} {G : GH} (h1 : RowC G v 64 bts xs) (h2 : RowC G u 64 bts ys) (hb : xs.length < 1000) :
    PureG Try.prog 19 [v, u] G (.bool (decide (xs = ys))) := by
  have := refSame_ok v u _ _ _ _ (row_flat h1) (row_flat h2) hb
  rwa [decide_eq_decide.2 (flat_iff h1 h2)] at this
theorem sameE_ok {v u : Value} {xs : List (List Int)} {G : GH} (h1 : RowC G v 64 bts xs) (h2 : RowC G u 64 bts xs) (hb : xs.length < 1000) :
    PureG Try.prog 18 [v, u] G (.bool true) := by simpa using sameC_ok h1 h2 hb
theorem refSameE_ok {v u : Value} {xs : List (List Int)} {G : GH} (h1 : RowC G v 64 bts xs) (h2 : RowC G u 64 bts xs) (hb : xs.length < 1000) :
    PureG Try.prog 19 [v, u] G (.bool true) := by simpa using refSameC_ok h1 h2 hb
end Go.Proofs.Ytdfahkpjdjjalaa
