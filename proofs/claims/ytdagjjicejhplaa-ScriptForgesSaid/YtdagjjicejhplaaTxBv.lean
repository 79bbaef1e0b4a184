/- Groups of six bits: plain facts. No condition. -/
import Derived.Test.YtdagjjicejhplaaTxB
namespace Go.Proofs.Ytdagjjicejhplaa.Tx
set_option linter.unusedVariables false
set_option linter.unusedSimpArgs false
def val (l : List Int) : Int := l.foldl (fun x b => x * 2 + b) 0
theorem val_snoc (l : List Int) (b : Int) : val (l ++ [b]) = val l * 2 + b := by unfold val; rw [List.foldl_append]; rfl
theorem val_bound (l : List Int) : (∀ x ∈ l, 0 ≤ x ∧ x ≤ 1) → l.length ≤ 6 → 0 ≤ val l ∧ val l < 64 := by
  intro h hl
  rcases l with _ | ⟨a, _ | ⟨b, _ | ⟨c, _ | ⟨d, _ | ⟨e, _ | ⟨f, _ | ⟨g, t⟩⟩⟩⟩⟩⟩⟩
  case cons.cons.cons.cons.cons.cons.cons => simp at hl
  all_goals
    simp at h
    simp only [val, List.foldl_cons, List.foldl_nil]
    omega
theorem grp_six : ∀ (l : List Int), l.length = 6 → grp l = [letAt (val l)]
  | [a, b, c, d, e, f], _ => rfl
theorem grp_append : ∀ (n : Nat) (a b : List Int), a.length = 6 * n → grp (a ++ b) = grp a ++ grp b
  | 0, a, b, h => by have : a = [] := List.length_eq_zero_iff.1 (by omega); subst this; rfl
  | n + 1, a, b, h => by
    match a, h with
    | x0 :: x1 :: x2 :: x3 :: x4 :: x5 :: t, h =>
      simp only [List.cons_append, grp]
      rw [grp_append n t b (by simp at h; omega)]
theorem grp_take (l : List Int) (g : Nat) (h : 6 * g + 6 ≤ l.length) : grp (l.take (6 * g + 6)) = grp (l.take (6 * g)) ++ [letAt (val ((l.drop (6 * g)).take 6))] := by
  rw [List.take_add, grp_append g _ _ (by rw [List.length_take]; omega), grp_six ((l.drop (6 * g)).take 6) (by rw [List.length_take, List.length_drop]; omega)]
theorem grp_length (l : List Int) (g : Nat) (h : 6 * g ≤ l.length) : (grp (l.take (6 * g))).length = g := by
  induction g with
  | zero => rfl
  | succ g ih => rw [Nat.mul_add, Nat.mul_one, grp_take l g (by omega), List.length_append, ih (by omega)]; rfl
theorem part_snoc (l : List Int) (q k : Nat) (h : q + k < l.length) : (l.drop q).take (k + 1) = (l.drop q).take k ++ [l.getD (q + k) 0] := by
  rw [List.take_add_one, List.getElem?_drop, List.getElem?_eq_getElem h]; simp [List.getD, List.getElem?_eq_getElem h]
theorem bits_bits (s : List UInt8) : ∀ x ∈ bitsAll s, 0 ≤ x ∧ x ≤ 1 := by
  intro x hx
  obtain ⟨c, _, hc⟩ := List.mem_flatMap.1 hx
  have hb : ∀ j, 0 ≤ bit c j ∧ bit c j ≤ 1 := fun j => by unfold bit; omega
  simp only [bits8, List.mem_cons, List.not_mem_nil, or_false] at hc
  rcases hc with rfl | rfl | rfl | rfl | rfl | rfl | rfl | rfl <;> exact hb _
theorem padded_bits (s : List UInt8) : ∀ x ∈ padded (bitsAll s), 0 ≤ x ∧ x ≤ 1 := by
  intro x hx
  rcases List.mem_append.1 hx with h | h
  · exact bits_bits s x h
  · rw [List.eq_of_mem_replicate h]; omega
theorem padded_length (l : List Int) : (padded l).length % 6 = 0 := by unfold padded; simp; omega
theorem padded_le (l : List Int) : (padded l).length ≤ l.length + 5 := by unfold padded; simp; omega
theorem padded_at (l : List Int) (j : Nat) (h : (l.length + j) % 6 = 0) (hj : j < 6) : padded l = l ++ List.replicate j 0 := by
  unfold padded; rw [show (6 - l.length % 6) % 6 = j by omega]
end Go.Proofs.Ytdagjjicejhplaa.Tx
