/- The document's bytes of letters, bit by bit, are text's: plain facts. No condition. -/
import Derived.Test.YteefmkjnepcanaaDoorTxB
namespace Go.Proofs.YteefmkjnepcanaaDoor.Tx
set_option linter.unusedVariables false
set_option linter.unusedSimpArgs false
def b6 (n : Int) (j : Nat) : Int := n / 2 ^ j % 2
def bits6 (n : Int) : List Int := [b6 n 5, b6 n 4, b6 n 3, b6 n 2, b6 n 1, b6 n 0]
def sixes (s : List UInt8) : List Int := s.flatMap fun c => bits6 (idx c)
def val8 (a b c d e f g h : Int) : Int := ((((((((0 * 2 + a) * 2 + b) * 2 + c) * 2 + d) * 2 + e) * 2 + f) * 2 + g) * 2 + h)
def by8 : List Int → List UInt8
  | a :: b :: c :: d :: e :: f :: g :: h :: t => UInt8.ofInt (val8 a b c d e f g h) :: by8 t
  | _ => []
def rest8 : List Int → List Int
  | _ :: _ :: _ :: _ :: _ :: _ :: _ :: _ :: t => rest8 t
  | l => l
theorem sixes_length (s : List UInt8) : (sixes s).length = 6 * s.length := by
  induction s with
  | nil => rfl
  | cons a s ih => rw [sixes, List.flatMap_cons, List.length_append, ← sixes, ih]; simp [bits6]; omega
theorem sixes_cons (a : UInt8) (s : List UInt8) : sixes (a :: s) = bits6 (idx a) ++ sixes s := by simp [sixes]
theorem byAll {p : UInt8 → Prop} (h : ∀ n, n < 256 → p (UInt8.ofNat n)) (c : UInt8) : p c := by
  have := h c.toNat c.toNat_lt
  rwa [UInt8.ofNat_toNat] at this
theorem idx_lt (c : UInt8) : idx c < 64 := byAll (p := fun c => idx c < 64) (by decide +kernel) c
theorem letters_idx (c : UInt8) : 0 ≤ idx c → letters.getD (idx c).toNat 0 = c := byAll (p := fun c => 0 ≤ idx c → letters.getD (idx c).toNat 0 = c) (by decide +kernel) c
theorem u32_idx {n : Int} (h0 : 0 ≤ n) (h1 : n < 64) : ((UInt32.ofInt n).toNat : Int) = n := by
  simp [UInt32.ofInt]; omega
theorem oct1 (a b c d : Int) (ha : 0 ≤ a ∧ a < 64) (hb : 0 ≤ b ∧ b < 64) (hc : 0 ≤ c ∧ c < 64) (hd : 0 ≤ d ∧ d < 64) :
    (four (UInt32.ofInt a) (UInt32.ofInt b) (UInt32.ofInt c) (UInt32.ofInt d) >>> 16).toUInt8 = UInt8.ofInt (val8 (b6 a 5) (b6 a 4) (b6 a 3) (b6 a 2) (b6 a 1) (b6 a 0) (b6 b 5) (b6 b 4)) ∧
    (four (UInt32.ofInt a) (UInt32.ofInt b) (UInt32.ofInt c) (UInt32.ofInt d) >>> 8).toUInt8 = UInt8.ofInt (val8 (b6 b 3) (b6 b 2) (b6 b 1) (b6 b 0) (b6 c 5) (b6 c 4) (b6 c 3) (b6 c 2)) ∧
    (four (UInt32.ofInt a) (UInt32.ofInt b) (UInt32.ofInt c) (UInt32.ofInt d)).toUInt8 = UInt8.ofInt (val8 (b6 c 1) (b6 c 0) (b6 d 5) (b6 d 4) (b6 d 3) (b6 d 2) (b6 d 1) (b6 d 0)) := by
  have e1 := u32_idx ha.1 ha.2
  have e2 := u32_idx hb.1 hb.2
  have e3 := u32_idx hc.1 hc.2
  have e4 := u32_idx hd.1 hd.2
  have hf := four_toNat (UInt32.ofInt a) (UInt32.ofInt b) (UInt32.ofInt c) (UInt32.ofInt d) (by omega) (by omega) (by omega) (by omega)
  generalize four (UInt32.ofInt a) (UInt32.ofInt b) (UInt32.ofInt c) (UInt32.ofInt d) = F at hf
  have hF : (F.toNat : Int) = a * 262144 + b * 4096 + c * 64 + d := by omega
  have v1 : val8 (b6 a 5) (b6 a 4) (b6 a 3) (b6 a 2) (b6 a 1) (b6 a 0) (b6 b 5) (b6 b 4) = a * 4 + b / 16 := by simp only [val8, b6, Nat.reducePow, Int.reducePow]; omega
  have v2 : val8 (b6 b 3) (b6 b 2) (b6 b 1) (b6 b 0) (b6 c 5) (b6 c 4) (b6 c 3) (b6 c 2) = b % 16 * 16 + c / 4 := by simp only [val8, b6, Nat.reducePow, Int.reducePow]; omega
  have v3 : val8 (b6 c 1) (b6 c 0) (b6 d 5) (b6 d 4) (b6 d 3) (b6 d 2) (b6 d 1) (b6 d 0) = c % 4 * 64 + d := by simp only [val8, b6, Nat.reducePow, Int.reducePow]; omega
  rw [v1, v2, v3]
  refine ⟨back8 F 16 (by decide) _ ?_, back8 F 8 (by decide) _ ?_, back8' F _ ?_⟩
  · simp [UInt8.ofInt]; omega
  · simp [UInt8.ofInt]; omega
  · simp [UInt8.ofInt]; omega
theorem two_of (a b : Int) (ha : 0 ≤ a ∧ a < 64) (hb : 0 ≤ b ∧ b < 64) : two (UInt32.ofInt a) (UInt32.ofInt b) = UInt8.ofInt (val8 (b6 a 5) (b6 a 4) (b6 a 3) (b6 a 2) (b6 a 1) (b6 a 0) (b6 b 5) (b6 b 4)) := by
  obtain ⟨n, rfl⟩ := Int.eq_ofNat_of_zero_le ha.1
  obtain ⟨m, rfl⟩ := Int.eq_ofNat_of_zero_le hb.1
  have hn : n < 64 := by omega
  have hm : m < 64 := by omega
  clear ha hb
  revert hm; revert m; revert hn; revert n
  decide +kernel
theorem three_of (a b : Int) (ha : 0 ≤ a ∧ a < 64) (hb : 0 ≤ b ∧ b < 64) : three (UInt32.ofInt a) (UInt32.ofInt b) = UInt8.ofInt (val8 (b6 a 3) (b6 a 2) (b6 a 1) (b6 a 0) (b6 b 5) (b6 b 4) (b6 b 3) (b6 b 2)) := by
  obtain ⟨n, rfl⟩ := Int.eq_ofNat_of_zero_le ha.1
  obtain ⟨m, rfl⟩ := Int.eq_ofNat_of_zero_le hb.1
  have hn : n < 64 := by omega
  have hm : m < 64 := by omega
  clear ha hb
  revert hm; revert m; revert hn; revert n
  decide +kernel
theorem low4 (b : Int) (hb : 0 ≤ b ∧ b < 64) : (UInt32.ofInt b &&& 15 = 0) ↔ (b6 b 3 = 0 ∧ b6 b 2 = 0 ∧ b6 b 1 = 0 ∧ b6 b 0 = 0) := by
  obtain ⟨m, rfl⟩ := Int.eq_ofNat_of_zero_le hb.1
  have hm : m < 64 := by omega
  clear hb
  revert m
  decide +kernel
theorem low2 (b : Int) (hb : 0 ≤ b ∧ b < 64) : (UInt32.ofInt b &&& 3 = 0) ↔ (b6 b 1 = 0 ∧ b6 b 0 = 0) := by
  obtain ⟨m, rfl⟩ := Int.eq_ofNat_of_zero_le hb.1
  have hm : m < 64 := by omega
  clear hb
  revert m
  decide +kernel
theorem decN_ref : ∀ (s : List UInt8), (∀ c ∈ s, 0 ≤ idx c) → s.length % 4 ≠ 1 → decN (nums s) = if (∀ x ∈ rest8 (sixes s), x = 0) then some (by8 (sixes s)) else none
  | [], _, _ => by simp [nums, decN, sixes, rest8, by8]
  | [a], _, h => absurd rfl h
  | [a, b], hg, _ => by
    have ha := hg a (by simp)
    have hb := hg b (by simp)
    have ha2 := idx_lt a
    have hb2 := idx_lt b
    have h2 := low4 (idx b) ⟨hb, hb2⟩
    simp only [nums, List.map_cons, List.map_nil, decN, sixes_cons, bits6, List.cons_append, List.nil_append]
    have h0 : sixes [] = [] := rfl
    simp only [h0, rest8, by8, List.mem_cons, List.not_mem_nil, or_false, forall_eq_or_imp, forall_eq, two_of _ _ ⟨ha, ha2⟩ ⟨hb, hb2⟩, h2]
  | [a, b, c], hg, _ => by
    have ha := hg a (by simp)
    have hb := hg b (by simp)
    have hc := hg c (by simp)
    have ha2 := idx_lt a
    have hb2 := idx_lt b
    have hc2 := idx_lt c
    have h2 := low2 (idx c) ⟨hc, hc2⟩
    simp only [nums, List.map_cons, List.map_nil, decN, sixes_cons, bits6, List.cons_append, List.nil_append]
    have h0 : sixes [] = [] := rfl
    simp only [h0, rest8, by8, List.mem_cons, List.not_mem_nil, or_false, forall_eq_or_imp, forall_eq, two_of _ _ ⟨ha, ha2⟩ ⟨hb, hb2⟩, three_of _ _ ⟨hb, hb2⟩ ⟨hc, hc2⟩, h2]
  | a :: b :: c :: d :: t, hg, hl => by
    have ha := hg a (by simp)
    have hb := hg b (by simp)
    have hc := hg c (by simp)
    have hd := hg d (by simp)
    obtain ⟨o1, o2, o3⟩ := oct1 (idx a) (idx b) (idx c) (idx d) ⟨ha, idx_lt a⟩ ⟨hb, idx_lt b⟩ ⟨hc, idx_lt c⟩ ⟨hd, idx_lt d⟩
    have ih := decN_ref t (fun x hx => hg x (by simp [hx])) (by simp at hl; omega)
    have hn : nums (a :: b :: c :: d :: t) = UInt32.ofInt (idx a) :: UInt32.ofInt (idx b) :: UInt32.ofInt (idx c) :: UInt32.ofInt (idx d) :: nums t := rfl
    rw [hn]
    simp only [decN, sixes_cons, bits6, List.cons_append, List.nil_append, rest8, by8, o1, o2, o3, ih]
    split <;> simp
theorem decN_one : ∀ (s : List UInt8), s.length % 4 = 1 → decN (nums s) = none
  | [], h => absurd h (by decide)
  | [a], _ => rfl
  | [a, b], h => absurd h (by simp)
  | [a, b, c], h => absurd h (by simp)
  | a :: b :: c :: d :: t, h => by
    have ih := decN_one t (by simp at h; omega)
    show (decN (nums t)).map _ = none
    rw [ih]; rfl
end Go.Proofs.YteefmkjnepcanaaDoor.Tx
