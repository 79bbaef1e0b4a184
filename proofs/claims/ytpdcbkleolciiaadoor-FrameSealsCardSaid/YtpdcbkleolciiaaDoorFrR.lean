/- Frames one behind the other: where each begins, what Open and Find tell there. No program in sight. -/
import Derived.Test.YtpdcbkleolciiaaDoorFrI
namespace Go.Proofs.YtpdcbkleolciiaaDoor
set_option linter.unusedVariables false
set_option linter.unusedSimpArgs false
open Go.RowKit Px Fm
def cat (l : List (List UInt8)) : List UInt8 := (l.map frame).flatten
theorem cat_split {l : List (List UInt8)} {i : Nat} {p : List UInt8} (h : l[i]? = some p) : cat l = cat (l.take i) ++ (frame p ++ cat (l.drop (i + 1))) := by
  have hi := (List.getElem?_eq_some_iff.1 h).1
  have hp : l[i] = p := (List.getElem?_eq_some_iff.1 h).2
  have e : l = l.take i ++ p :: l.drop (i + 1) := by rw [← hp, ← List.drop_eq_getElem_cons hi, List.take_append_drop]
  unfold cat
  conv => lhs; rw [e]
  simp
theorem cat_next {l : List (List UInt8)} {i : Nat} {p : List UInt8} (h : l[i]? = some p) : cat (l.take (i + 1)) = cat (l.take i) ++ frame p := by
  unfold cat
  rw [List.take_add_one, h]
  simp
theorem cat_le (l : List (List UInt8)) (i : Nat) (h : ∀ j s, j < i → l[j]? = some s → s.length ≤ 300) : (cat (l.take i)).length ≤ i * 621 := by
  induction i with
  | zero => simp [cat]
  | succ i ih =>
    have ih := ih fun j s hj => h j s (Nat.lt_succ_of_lt hj)
    cases hl : l[i]? with
    | none =>
      have : l.take (i + 1) = l.take i := by rw [List.take_add_one, hl]; simp
      rw [this, Nat.succ_mul]; exact Nat.le_add_right_of_le ih
    | some p =>
      have hp := h i p (Nat.lt_succ_self i) hl
      rw [cat_next hl, List.length_append, frame_length, Nat.succ_mul]
      omega
theorem openO_at (A p t : List UInt8) (hp : p.length ≤ 8192) : openO (A ++ (frame p ++ t)) A.length = some (p, A.length + (2 * p.length + 21)) := by
  unfold openO
  have h1 : (A ++ (frame p ++ t)).getD A.length 0 = 1 := by
    rw [List.getD, List.getElem?_append_right (Nat.le_refl _), Nat.sub_self]; rfl
  rw [if_pos ⟨by omega, by rw [List.length_append, List.length_append, frame_length]; omega, by rw [Int.toNat_natCast]; exact h1⟩, Int.toNat_natCast]
  rw [open_frame (A ++ (frame p ++ t)) (A.length + 1) p t hp (by rw [List.drop_append]; simp [frame])]
  congr 2
  omega
theorem first_at (A p t : List UInt8) : First (A ++ (frame p ++ t)) A.length A.length := by
  refine .inl ⟨A.length, rfl, by omega, ?_, fun j hj h2 => by omega⟩
  rw [List.getElem?_append_right (Nat.le_refl _), Nat.sub_self]; rfl
theorem no_one (A p t : List UInt8) (j : Nat) (h1 : A.length + 1 ≤ j) (h2 : j < A.length + (2 * p.length + 21)) : (A ++ (frame p ++ t))[j]? ≠ some 1 := by
  rw [List.getElem?_append_right (by omega), List.getElem?_append_left (by rw [frame_length]; omega)]
  obtain ⟨i, hi⟩ : ∃ i, j - A.length = i + 1 := ⟨j - A.length - 1, by omega⟩
  rw [hi]
  intro e
  rw [frame, List.getElem?_cons_succ] at e
  exact (letter_ne 1 (enc_letter _ _ _ e)).2 rfl
theorem first_next (A p q t : List UInt8) : First (A ++ (frame p ++ (frame q ++ t))) (A.length + 1 : Nat) (A.length + (2 * p.length + 21) : Nat) := by
  refine .inl ⟨_, rfl, by omega, ?_, fun j hj h2 => no_one A p _ j (by omega) hj⟩
  rw [← List.append_assoc, List.getElem?_append_right (by rw [List.length_append, frame_length]; omega), List.length_append, frame_length, Nat.sub_self]
  rfl
theorem first_last (A p : List UInt8) : First (A ++ (frame p ++ [])) (A.length + 1 : Nat) (-1) := by
  refine .inr ⟨rfl, fun j h2 => ?_⟩
  rcases Nat.lt_or_ge j (A.length + (2 * p.length + 21)) with h3 | h3
  · exact no_one A p _ j (by omega) h3
  · rw [List.getElem?_eq_none (by simp [frame_length]; omega)]; simp
end Go.Proofs.YtpdcbkleolciiaaDoor
