/- Arguments that are lists of structs: one Lean value for each. No condition. -/
import Derived.Test.YtdigpnmekdmjmaaDoorPar
namespace Go.Proofs.YtdigpnmekdmjmaaDoor
set_option linter.unusedVariables false
set_option linter.unusedSimpArgs false
open Go.ChangeShapes Go.WideShapes Go.ChangeAt Go.RowKit Base Px
theorem list_of_all {α : Type} (Q : Nat → α → Prop) : ∀ (n : Nat), (∀ i, i < n → ∃ a, Q i a) → ∃ L : List α, L.length = n ∧ ∀ i a, L[i]? = some a → Q i a
  | 0, _ => ⟨[], rfl, fun i a h => by simp at h⟩
  | n + 1, h => by
    obtain ⟨L, h1, h2⟩ := list_of_all Q n fun i hi => h i (by omega)
    obtain ⟨a, ha⟩ := h n (by omega)
    refine ⟨L ++ [a], by simp [h1], fun i b hb => ?_⟩
    rcases Nat.lt_or_ge i n with hi | hi
    · rw [List.getElem?_append_left (by omega)] at hb
      exact h2 i b hb
    · rw [List.getElem?_append_right (by omega)] at hb
      by_cases hin : i = n
      · subst hin
        simp [h1] at hb
        subst hb; exact ha
      · rw [List.getElem?_eq_none (by simp; omega)] at hb; cases hb
theorem trod_i64 {H : Type} {enc : TypeId × Value → H} {w : World} {base : Nat} {spare : Nat → Bool} {held : Bool} {n : Nat} {t : TypeId} {u : Value} {y : DataW H × List MemPlace} (ht : Tryd.prog.underlying t = some (.int .i64)) (h : DataW.trod enc Tryd.prog w base spare held n t [u] = some y) : ∃ a : Int, u = .int .i64 a ∧ (Lit.int .i64 a).wf = true := by
  obtain ⟨a, h1, _, h2⟩ := DataW.trod_int ht h
  simp at h1
  exact ⟨a, h1, h2⟩
end Go.Proofs.YtdigpnmekdmjmaaDoor
