/- What a crash leaves: the plain law. No condition. -/
import Derived.Test.YtcjojkhieocehaaDoorBk4
namespace Go.Proofs.YtcjojkhieocehaaDoor
set_option linter.unusedVariables false
set_option linter.unusedSimpArgs false
open Go.RowKit Px
theorem zl_at (mask : List UInt8) (safe : Nat) (l : List UInt8) : ∀ (k j : Nat), (zl mask safe l k)[j]? = l[j]? ∨ (∃ i, i < k ∧ j = safe + i ∧ (zl mask safe l k)[j]? = some 0)
  | 0, j => .inl rfl
  | k + 1, j => by
    unfold zl
    split
    · by_cases hj : j = safe + k
      · subst hj
        rw [List.getElem?_set_self']
        cases h : (zl mask safe l k)[safe + k]? with
        | none =>
          left
          have := zl_length mask safe l k
          rw [List.getElem?_eq_none_iff] at h
          rw [List.getElem?_eq_none (by omega)]; rfl
        | some c => right; exact ⟨k, by omega, rfl, rfl⟩
      · rw [List.getElem?_set_ne (by omega)]
        rcases zl_at mask safe l k j with h | ⟨i, h1, h2, h3⟩
        · exact .inl h
        · exact .inr ⟨i, by omega, h2, h3⟩
    · rcases zl_at mask safe l k j with h | ⟨i, h1, h2, h3⟩
      · exact .inl h
      · exact .inr ⟨i, by omega, h2, h3⟩
theorem zl_low (mask : List UInt8) (safe : Nat) (l : List UInt8) (k j : Nat) (hj : j < safe) : (zl mask safe l k)[j]? = l[j]? := by
  rcases zl_at mask safe l k j with h | ⟨i, h1, h2, h3⟩
  · exact h
  · omega
theorem kept_bounds (d : Dk) (kept : Int) (h : d.safe ≤ d.l.length) : 0 ≤ d.kept kept ∧ d.kept kept ≤ d.l.length - d.safe := by
  unfold Dk.kept
  have h1 := Int.emod_nonneg (kept.tmod ((d.l.length : Int) - d.safe + 1) + ((d.l.length : Int) - d.safe + 1)) (b := (d.l.length : Int) - d.safe + 1) (by omega)
  have h2 := Int.emod_lt_of_pos (kept.tmod ((d.l.length : Int) - d.safe + 1) + ((d.l.length : Int) - d.safe + 1)) (b := (d.l.length : Int) - d.safe + 1) (by omega)
  omega
/-- What was safe is there; of the late bytes each is what it was, or 0. -/
theorem crash_law (was late : List UInt8) (d : Dk) (hl : d.l = was ++ late) (hs : d.safe = was.length) (k : Int) (mask : List UInt8) :
    ∃ r : Nat, r ≤ late.length ∧ (d.crash k mask).l.length = was.length + r ∧ (d.crash k mask).safe = ((was.length + r : Nat) : Int) ∧ (d.crash k mask).l.take was.length = was ∧
      (∀ i, i < r → (d.crash k mask).l.getD (was.length + i) 0 = 0 ∨ (d.crash k mask).l.getD (was.length + i) 0 = late.getD i 0) ∧ (mask = [] → (d.crash k mask).l.drop was.length = late.take r) := by
  have hb := kept_bounds d k (by rw [hs, hl, List.length_append]; omega)
  obtain ⟨r, hr⟩ : ∃ r : Nat, d.kept k = r := ⟨(d.kept k).toNat, by omega⟩
  have hll : d.l.length = was.length + late.length := by rw [hl, List.length_append]
  have hc : (d.crash k mask).l = (zl mask was.length (was ++ late) r).take (was.length + r) := by
    unfold Dk.crash
    simp only [hr, hs, hl]
    congr 1
  have hzl := zl_length mask was.length (was ++ late) r
  rw [List.length_append] at hzl
  refine ⟨r, by omega, ?_, ?_, ?_, ?_, ?_⟩
  · rw [hc, List.length_take]; omega
  · unfold Dk.crash
    simp only [hr, hs]; omega
  · rw [hc, List.take_take]
    apply List.ext_getElem?
    intro j
    by_cases hj : j < was.length
    · rw [List.getElem?_take_of_lt (by omega), zl_low _ _ _ _ _ hj, List.getElem?_append_left hj]
    · rw [List.getElem?_eq_none (by rw [List.length_take]; omega), List.getElem?_eq_none (by omega)]
  · intro i hi
    rw [hc, List.getD, List.getElem?_take_of_lt (by omega)]
    rcases zl_at mask was.length (was ++ late) r (was.length + i) with h | ⟨j, h1, h2, h3⟩
    · right
      rw [h, List.getElem?_append_right (by omega), List.getD]
      congr 2
      omega
    · left; rw [h3]; rfl
  · intro hm
    subst hm
    have hz : ∀ k, zl [] was.length (was ++ late) k = was ++ late := by
      intro k
      induction k with
      | zero => rfl
      | succ k ih => unfold zl; rw [if_neg (by unfold lost; simp), ih]
    rw [hc, hz, List.take_append, List.take_of_length_le (by omega), Nat.add_sub_cancel_left, List.drop_left]
end Go.Proofs.YtcjojkhieocehaaDoor
