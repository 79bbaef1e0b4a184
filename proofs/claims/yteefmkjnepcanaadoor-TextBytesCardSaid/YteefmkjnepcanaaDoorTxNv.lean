/- Groups of eight bits: plain facts. No condition. -/
import Derived.Test.YteefmkjnepcanaaDoorTxN
import Derived.Test.YteefmkjnepcanaaDoorTxBv
namespace Go.Proofs.YteefmkjnepcanaaDoor.Tx
set_option linter.unusedVariables false
set_option linter.unusedSimpArgs false
theorem val_bound8 (l : List Int) : (∀ x ∈ l, 0 ≤ x ∧ x ≤ 1) → l.length ≤ 8 → 0 ≤ val l ∧ val l < 256 := by
  intro h hl
  rcases l with _ | ⟨a, _ | ⟨b, _ | ⟨c, _ | ⟨d, _ | ⟨e, _ | ⟨f, _ | ⟨g, _ | ⟨i, _ | ⟨j, t⟩⟩⟩⟩⟩⟩⟩⟩⟩
  case cons.cons.cons.cons.cons.cons.cons.cons.cons => simp at hl
  all_goals
    simp at h
    simp only [val, List.foldl_cons, List.foldl_nil]
    omega
theorem by8_eight : ∀ (l : List Int), l.length = 8 → by8 l = [UInt8.ofInt (val l)]
  | [a, b, c, d, e, f, g, h], _ => rfl
theorem by8_append : ∀ (n : Nat) (a b : List Int), a.length = 8 * n → by8 (a ++ b) = by8 a ++ by8 b
  | 0, a, b, h => by have : a = [] := List.length_eq_zero_iff.1 (by omega); subst this; rfl
  | n + 1, a, b, h => by
    match a, h with
    | x0 :: x1 :: x2 :: x3 :: x4 :: x5 :: x6 :: x7 :: t, h =>
      simp only [List.cons_append, by8]
      rw [by8_append n t b (by simp at h; omega)]
theorem rest8_append : ∀ (n : Nat) (a b : List Int), a.length = 8 * n → rest8 (a ++ b) = rest8 b
  | 0, a, b, h => by have : a = [] := List.length_eq_zero_iff.1 (by omega); subst this; rfl
  | n + 1, a, b, h => by
    match a, h with
    | x0 :: x1 :: x2 :: x3 :: x4 :: x5 :: x6 :: x7 :: t, h =>
      simp only [List.cons_append, rest8]
      rw [rest8_append n t b (by simp at h; omega)]
theorem short8 (l : List Int) (h : l.length < 8) : by8 l = [] ∧ rest8 l = l := by
  rcases l with _ | ⟨a, _ | ⟨b, _ | ⟨c, _ | ⟨d, _ | ⟨e, _ | ⟨f, _ | ⟨g, _ | ⟨i, t⟩⟩⟩⟩⟩⟩⟩⟩
  case cons.cons.cons.cons.cons.cons.cons.cons => simp at h; omega
  all_goals exact ⟨rfl, rfl⟩
theorem by8_take (l : List Int) (g : Nat) (h : 8 * g + 8 ≤ l.length) : by8 (l.take (8 * g + 8)) = by8 (l.take (8 * g)) ++ [UInt8.ofInt (val ((l.drop (8 * g)).take 8))] := by
  rw [List.take_add, by8_append g _ _ (by rw [List.length_take]; omega), by8_eight ((l.drop (8 * g)).take 8) (by rw [List.length_take, List.length_drop]; omega)]
theorem by8_whole (l : List Int) (g : Nat) (h : 8 * g ≤ l.length) (h2 : l.length < 8 * g + 8) : by8 l = by8 (l.take (8 * g)) ∧ rest8 l = l.drop (8 * g) := by
  have hs := short8 (l.drop (8 * g)) (by simp; omega)
  have ha := by8_append g (l.take (8 * g)) (l.drop (8 * g)) (by simp; omega)
  have hr := rest8_append g (l.take (8 * g)) (l.drop (8 * g)) (by simp; omega)
  rw [List.take_append_drop] at ha hr
  rw [hs.1, List.append_nil] at ha
  rw [hs.2] at hr
  exact ⟨ha, hr⟩
theorem sixes_bits (s : List UInt8) : ∀ x ∈ sixes s, 0 ≤ x ∧ x ≤ 1 := by
  intro x hx
  obtain ⟨c, _, hc⟩ := List.mem_flatMap.1 hx
  have hb : ∀ n j, 0 ≤ b6 n j ∧ b6 n j ≤ 1 := fun n j => by unfold b6; omega
  simp only [bits6, List.mem_cons, List.not_mem_nil, or_false] at hc
  rcases hc with rfl | rfl | rfl | rfl | rfl | rfl <;> exact hb _ _
theorem sixes_snoc (s : List UInt8) (k : Nat) (h : k < s.length) : sixes (s.take (k + 1)) = sixes (s.take k) ++ bits6 (idx (s.getD k 0)) := by
  rw [take_snoc8 s k h]; simp [sixes]
/-- The bits of a number from the highest one on, all but the lowest j. -/
def top6 (n : Int) (j : Nat) : List Int := (bits6 n).take (6 - j)
theorem top6_succ (n : Int) (j : Nat) (hj : j < 6) : top6 n (j + 1) ++ [b6 n j] = top6 n j := by
  unfold top6 bits6
  match j, hj with
  | 0, _ => rfl
  | 1, _ => rfl
  | 2, _ => rfl
  | 3, _ => rfl
  | 4, _ => rfl
  | 5, _ => rfl
theorem idx_first : ∀ (l : List UInt8) (c : UInt8) (k : Nat), (∀ j, j < k → l[j]? ≠ some c) → l[k]? = some c → Lib.indexByte l c = k
  | [], c, k, _, h => by simp at h
  | b :: l, c, 0, _, h => by
    have : b = c := by simpa using h
    simp [Lib.indexByte, this]
  | b :: l, c, k + 1, hj, h => by
    have hb : (b == c) = false := by
      have := hj 0 (by omega)
      simpa using this
    have ih := idx_first l c k (fun j hjk => by have := hj (j + 1) (by omega); simpa using this) (by simpa using h)
    have hne : ((k : Int) == -1) = false := by rw [beq_eq_false_iff_ne]; omega
    unfold Lib.indexByte
    rw [hb, ih, hne]
    simp
theorem idx_no : ∀ (l : List UInt8) (c : UInt8), (∀ j : Nat, l[j]? ≠ some c) → Lib.indexByte l c = -1
  | [], c, _ => rfl
  | b :: l, c, hj => by
    have hb : (b == c) = false := by
      have := hj 0
      simpa using this
    have ih := idx_no l c (fun j => by have := hj (j + 1); simpa using this)
    unfold Lib.indexByte
    rw [hb, ih]
    simp
end Go.Proofs.YteefmkjnepcanaaDoor.Tx
