/- Numbers, texts, flags and vectors as bytes, and what reads them: plain facts, no program in sight. No condition. -/
import Derived.Test.YtjpfablpkekdgaaDoorPx
namespace Go.Proofs.YtjpfablpkekdgaaDoor.Wr
set_option linter.unusedVariables false
set_option linter.unusedSimpArgs false
def top62 : Nat := 4611686018427387903
def big : Nat := 1099511627776
/-- A number's bytes. -/
def numB (n : Nat) : List UInt8 := if h : n < 128 then [UInt8.ofNat n] else UInt8.ofNat (n % 128 + 128) :: numB (n / 128)
termination_by n
decreasing_by omega
theorem numB_small {n : Nat} (h : n < 128) : numB n = [UInt8.ofNat n] := by rw [numB, dif_pos h]
theorem numB_large {n : Nat} (h : ¬ n < 128) : numB n = UInt8.ofNat (n % 128 + 128) :: numB (n / 128) := by rw [numB, dif_neg h]
theorem numB_pos (n : Nat) : 0 < (numB n).length := by
  by_cases h : n < 128
  · rw [numB_small h]; simp
  · rw [numB_large h]; simp
theorem numB_len : ∀ (k n : Nat), n < 128 ^ (k + 1) → (numB n).length ≤ k + 1
  | 0, n, h => by rw [numB_small (by simpa using h)]; simp
  | k + 1, n, h => by
    by_cases h1 : n < 128
    · rw [numB_small h1]; simp
    · rw [numB_large h1]
      have := numB_len k (n / 128) (Nat.div_lt_of_lt_mul (by rw [Nat.pow_succ] at h; omega))
      simp; omega
theorem numB_len9 {n : Nat} (h : n ≤ 9223372036854775807) : (numB n).length ≤ 9 := numB_len 8 n (by simp; omega)
/-- A number that is read. -/
def scan : Nat → Nat → List UInt8 → Option (Nat × List UInt8)
  | _, _, [] => none
  | k, acc, c :: t => if k = 9 then none else if 128 ≤ c.toNat then scan (k + 1) (acc + (c.toNat % 128) * 128 ^ k) t else if c.toNat = 0 ∧ 0 < k then none else some (acc + c.toNat * 128 ^ k, t)
theorem scan_num : ∀ (m n k acc : Nat) (t : List UInt8), n ≤ m → (0 < n ∨ k = 0) → k + (numB n).length ≤ 9 → scan k acc (numB n ++ t) = some (acc + n * 128 ^ k, t) := by
  intro m
  induction m with
  | zero =>
    intro n k acc t hm h0 hk
    obtain rfl : n = 0 := by omega
    obtain rfl : k = 0 := by omega
    rw [numB_small (by omega)]
    simp [scan]
  | succ m ih =>
    intro n k acc t hm h0 hk
    by_cases h : n < 128
    · rw [numB_small h] at hk ⊢
      have e : (UInt8.ofNat n).toNat = n := by simp; omega
      simp only [List.cons_append, List.nil_append, scan, e]
      rw [if_neg (by simp at hk; omega), if_neg (by omega), if_neg (by omega)]
    · rw [numB_large h] at hk ⊢
      have e : (UInt8.ofNat (n % 128 + 128)).toNat = n % 128 + 128 := by simp; omega
      simp only [List.cons_append, scan, e]
      rw [if_neg (by simp at hk; omega), if_pos (by omega), ih (n / 128) (k + 1) _ t (by omega) (by omega) (by simp at hk; omega)]
      congr 2
      have h2 : (n % 128 + 128) % 128 = n % 128 := by omega
      rw [h2, Nat.pow_succ, Nat.add_assoc]
      congr 1
      have h3 : n = 128 * (n / 128) + n % 128 := (Nat.div_add_mod n 128).symm
      conv => rhs; rw [h3, Nat.add_mul]
      rw [Nat.add_comm, Nat.mul_comm (128 ^ k) 128, ← Nat.mul_assoc, Nat.mul_comm (n / 128) 128]
theorem scan_inv : ∀ (t : List UInt8) (k acc m : Nat) (u : List UInt8), k ≤ 9 → scan k acc t = some (m, u) → ∃ n, t = numB n ++ u ∧ m = acc + n * 128 ^ k ∧ k + (numB n).length ≤ 9 ∧ (0 < n ∨ k = 0)
  | [], _, _, _, _, _, h => by simp [scan] at h
  | c :: t, k, acc, m, u, hk, h => by
    rw [scan] at h
    by_cases h9 : k = 9
    · rw [if_pos h9] at h; cases h
    rw [if_neg h9] at h
    have hc := c.toNat_lt
    by_cases h1 : 128 ≤ c.toNat
    · rw [if_pos h1] at h
      obtain ⟨n, h2, h3, h4, h5⟩ := scan_inv t (k + 1) _ m u (by omega) h
      have h6 : 0 < n := by omega
      have h7 : numB (c.toNat % 128 + 128 * n) = c :: numB n := by
        rw [numB_large (by omega)]
        congr 1
        · apply UInt8.toNat_inj.1
          simp; omega
        · congr 1; omega
      refine ⟨c.toNat % 128 + 128 * n, by rw [h7, h2]; rfl, ?_, by rw [h7]; simp; omega, by omega⟩
      rw [h3, Nat.pow_succ, Nat.add_assoc, Nat.add_mul]
      congr 2
      rw [Nat.mul_comm (128 ^ k) 128, ← Nat.mul_assoc, Nat.mul_comm n 128]
    · rw [if_neg h1] at h
      by_cases h2 : c.toNat = 0 ∧ 0 < k
      · rw [if_pos h2] at h; cases h
      · rw [if_neg h2] at h
        injection h with h
        injection h with h3 h4
        subst h4
        have h7 : numB c.toNat = [c] := by rw [numB_small (by omega)]; simp
        exact ⟨c.toNat, by rw [h7]; rfl, h3.symm, by rw [h7]; simp; omega, by omega⟩
theorem scan_len : ∀ (t : List UInt8) (k acc m : Nat) (u : List UInt8), scan k acc t = some (m, u) → u.length < t.length
  | [], _, _, _, _, h => by simp [scan] at h
  | c :: t, k, acc, m, u, h => by
    rw [scan] at h
    split at h
    · cases h
    split at h
    · have := scan_len t _ _ _ _ h; simp; omega
    split at h
    · cases h
    · injection h with h; injection h with h3 h4; subst h4; simp
/-- What stands next: a number, at most so great. -/
def numP (t : List UInt8) (most : Int) : Option (Nat × List UInt8) := (scan 0 0 t).bind fun p => if most < (p.1 : Int) ∨ top62 < p.1 then none else some p
theorem numP_put {n : Nat} {most : Int} (t : List UInt8) (h : (n : Int) ≤ most) (h2 : n ≤ top62) : numP (numB n ++ t) most = some (n, t) := by
  unfold numP
  have h3 : (numB n).length ≤ 9 := numB_len9 (by unfold top62 at h2; omega)
  rw [scan_num n n 0 0 t (Nat.le_refl _) (.inr rfl) (by omega)]
  simp only [Option.bind_some, Nat.zero_add, Nat.pow_zero, Nat.mul_one]
  rw [if_neg (by omega)]
theorem numP_inv {n : Nat} {most : Int} {t u : List UInt8} (h : numP t most = some (n, u)) : t = numB n ++ u ∧ (n : Int) ≤ most ∧ n ≤ top62 := by
  unfold numP at h
  obtain ⟨⟨m, v⟩, h1, h2⟩ := Option.bind_eq_some_iff.1 h
  split at h2
  · cases h2
  rename_i h3
  injection h2 with h2
  injection h2 with h4 h5
  subst h4; subst h5
  obtain ⟨n, h6, h7, h8, h9⟩ := scan_inv t 0 0 _ _ (by omega) h1
  simp only [Nat.zero_add, Nat.pow_zero, Nat.mul_one] at h7
  subst h7
  exact ⟨h6, by simp only at h3; omega, by simp only at h3; omega⟩
theorem numP_len {n : Nat} {most : Int} {t u : List UInt8} (h : numP t most = some (n, u)) : u.length < t.length := by
  have := numP_inv h
  have h2 := numB_pos n
  rw [this.1]; simp; omega
/-- .. a text. -/
def txtP (t : List UInt8) (most : Int) : Option (List UInt8 × List UInt8) := (numP t most).bind fun p => if p.2.length < p.1 then none else some (p.2.take p.1, p.2.drop p.1)
theorem txtP_put {s : List UInt8} {most : Int} (t : List UInt8) (h : (s.length : Int) ≤ most) (h2 : s.length ≤ top62) : txtP (numB s.length ++ s ++ t) most = some (s, t) := by
  unfold txtP
  rw [List.append_assoc, numP_put _ h h2]
  simp only [Option.bind_some]
  rw [if_neg (by simp)]
  simp
theorem txtP_inv {s : List UInt8} {most : Int} {t u : List UInt8} (h : txtP t most = some (s, u)) : t = numB s.length ++ s ++ u ∧ (s.length : Int) ≤ most := by
  unfold txtP at h
  obtain ⟨⟨m, v⟩, h1, h2⟩ := Option.bind_eq_some_iff.1 h
  split at h2
  · cases h2
  rename_i h3
  injection h2 with h2
  injection h2 with h4 h5
  simp only at h3 h4 h5
  obtain ⟨h6, h7, _⟩ := numP_inv h1
  have h8 : s.length = m := by rw [← h4]; simp; omega
  rw [h8, ← h4, ← h5, List.append_assoc, List.take_append_drop]
  exact ⟨h6, h7⟩
/-- .. a flag. -/
def flagP (t : List UInt8) : Option (Bool × List UInt8) := (numP t 1).bind fun p => some (decide (p.1 = 1), p.2)
def flagB (b : Bool) : List UInt8 := numB (if b = true then 1 else 0)
theorem flagP_put (b : Bool) (t : List UInt8) : flagP (flagB b ++ t) = some (b, t) := by
  unfold flagP flagB
  rw [numP_put _ (by split <;> omega) (by unfold top62; split <;> omega)]
  cases b <;> simp
theorem flagP_inv {b : Bool} {t u : List UInt8} (h : flagP t = some (b, u)) : t = flagB b ++ u := by
  unfold flagP at h
  obtain ⟨⟨m, v⟩, h1, h2⟩ := Option.bind_eq_some_iff.1 h
  injection h2 with h2
  injection h2 with h4 h5
  obtain ⟨h6, h7, _⟩ := numP_inv h1
  simp only at h4 h5
  subst h5
  unfold flagB
  rw [h6]
  congr 2
  by_cases hm : m = 1
  · subst hm; simp at h4; simp [← h4]
  · have : m = 0 := by omega
    subst this; simp at h4; simp [← h4]
/-- May a vector be? -/
def trim (v : List Int) (most : Int) : Bool := decide (v.length ≤ 16) && decide (v.getLast? ≠ some 0) && v.all fun n => decide (0 ≤ n) && decide (n ≤ most)
def vecB (v : List Int) : List UInt8 := numB v.length ++ v.flatMap fun n => numB n.toNat
/-- .. so many numbers, one behind the other. -/
def numsP : Nat → List UInt8 → Option (List Int × List UInt8)
  | 0, t => some ([], t)
  | n + 1, t => (numP t big).bind fun p => (numsP n p.2).bind fun q => some ((p.1 : Int) :: q.1, q.2)
theorem numsP_put : ∀ (v : List Int) (t : List UInt8), (∀ n ∈ v, 0 ≤ n ∧ n ≤ (big : Int)) → numsP v.length (v.flatMap (fun n => numB n.toNat) ++ t) = some (v, t)
  | [], t, _ => rfl
  | n :: v, t, h => by
    have hn := h n List.mem_cons_self
    have e : ((n.toNat : Nat) : Int) = n := by omega
    simp only [List.length_cons, numsP, List.flatMap_cons, List.append_assoc]
    rw [numP_put _ (by rw [e]; exact hn.2) (by unfold top62; unfold big at hn; omega)]
    simp only [Option.bind_some, numsP_put v t (fun m hm => h m (List.mem_cons_of_mem _ hm)), e]
theorem numsP_inv : ∀ (n : Nat) (v : List Int) (t u : List UInt8), numsP n t = some (v, u) → v.length = n ∧ t = v.flatMap (fun n => numB n.toNat) ++ u ∧ ∀ n ∈ v, 0 ≤ n ∧ n ≤ (big : Int)
  | 0, v, t, u, h => by
    simp only [numsP] at h
    injection h with h
    injection h with h1 h2
    subst h1; subst h2
    simp
  | n + 1, v, t, u, h => by
    simp only [numsP] at h
    obtain ⟨⟨m, w⟩, h1, h2⟩ := Option.bind_eq_some_iff.1 h
    obtain ⟨⟨v', u'⟩, h3, h4⟩ := Option.bind_eq_some_iff.1 h2
    injection h4 with h4
    injection h4 with h5 h6
    subst h5; subst h6
    obtain ⟨h7, h8, h9⟩ := numsP_inv n v' _ _ h3
    obtain ⟨k1, k2, k3⟩ := numP_inv h1
    simp only at h8 k1 k2
    refine ⟨by simp [h7], ?_, ?_⟩
    · rw [k1, h8]; simp
    · intro x hx
      rcases List.mem_cons.1 hx with rfl | hx
      · exact ⟨by omega, k2⟩
      · exact h9 x hx
def vecP (t : List UInt8) : Option (List Int × List UInt8) := (numP t 16).bind fun p => (numsP p.1 p.2).bind fun q => if trim q.1 big = true then some q else none
theorem trim_iff {v : List Int} {m : Int} : trim v m = true ↔ v.length ≤ 16 ∧ v.getLast? ≠ some 0 ∧ ∀ j, j < v.length → 0 ≤ v.getD j 0 ∧ v.getD j 0 ≤ m := by
  unfold trim
  simp only [Bool.and_eq_true, decide_eq_true_eq, List.all_eq_true, and_assoc]
  refine and_congr Iff.rfl (and_congr Iff.rfl ⟨fun h j hj => ?_, fun h x hx => ?_⟩)
  · rw [List.getD, List.getElem?_eq_getElem hj]
    exact h _ (List.getElem_mem hj)
  · obtain ⟨j, hj, rfl⟩ := List.getElem_of_mem hx
    have := h j hj
    rwa [List.getD, List.getElem?_eq_getElem hj] at this
theorem trim_len {v : List Int} {m : Int} (h : trim v m = true) : v.length ≤ 16 := by
  unfold trim at h; simp at h; exact h.1.1
theorem trim_all {v : List Int} {m : Int} (h : trim v m = true) : ∀ n ∈ v, 0 ≤ n ∧ n ≤ m := by
  unfold trim at h; simp at h; exact h.2
theorem vecP_put {v : List Int} (t : List UInt8) (h : trim v big = true) : vecP (vecB v ++ t) = some (v, t) := by
  unfold vecP vecB
  have hl := trim_len h
  rw [List.append_assoc, numP_put _ (by omega) (by unfold top62; omega)]
  simp only [Option.bind_some]
  rw [numsP_put v t (trim_all h)]
  simp only [Option.bind_some]
  rw [if_pos h]
theorem vecP_inv {v : List Int} {t u : List UInt8} (h : vecP t = some (v, u)) : t = vecB v ++ u ∧ trim v big = true := by
  unfold vecP at h
  obtain ⟨⟨m, w⟩, h1, h2⟩ := Option.bind_eq_some_iff.1 h
  obtain ⟨⟨v', u'⟩, h3, h4⟩ := Option.bind_eq_some_iff.1 h2
  split at h4
  · rename_i h5
    injection h4 with h4
    injection h4 with h6 h7
    subst h6; subst h7
    obtain ⟨h7, h8, h9⟩ := numsP_inv _ _ _ _ h3
    obtain ⟨k1, k2, k3⟩ := numP_inv h1
    simp only at h7 h8 k1
    unfold vecB
    rw [h7, k1, h8, List.append_assoc]
    exact ⟨rfl, h5⟩
  · cases h4
/-- A reader's state: what is ahead; or the place of a fault. -/
inductive St where
  | ok (t : List UInt8)
  | bad (p : Nat)
/-- One thing read out of a text of so many bytes. -/
def St.step {α : Type} (p : List UInt8 → Option (α × List UInt8)) (z : α) (len : Nat) : St → α × St
  | .ok t => match p t with
    | some (a, u) => (a, .ok u)
    | none => (z, .bad (len - t.length))
  | .bad q => (z, .bad q)
end Go.Proofs.YtjpfablpkekdgaaDoor.Wr
