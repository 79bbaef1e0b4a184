/- What is read as letters has just these letters: plain facts. No condition. -/
import Derived.Test.YteefmkjnepcanaaDoorTxN
namespace Go.Proofs.YteefmkjnepcanaaDoor.Tx
set_option linter.unusedVariables false
set_option linter.unusedSimpArgs false
theorem m16 (a : Nat) : a * 256 * 256 = a * 65536 := by omega
theorem m24 (a b : Nat) : (a * 256 + b) * 256 = a * 65536 + b * 256 := by omega
theorem let_of (n : UInt32) (c : UInt8) (hc : 0 ≤ idx c) (h : ((n.toNat / 262144 % 64 : Nat) : Int) = idx c) : let64 n = c := by
  rw [← let64_eq n (idx c) h.symm]
  exact letters_idx c hc
theorem two_num (a b : Int) (ha : 0 ≤ a ∧ a < 64) (hb : 0 ≤ b ∧ b < 64) : ((two (UInt32.ofInt a) (UInt32.ofInt b)).toNat : Int) = a * 4 + b / 16 := by
  obtain ⟨n, rfl⟩ := Int.eq_ofNat_of_zero_le ha.1
  obtain ⟨m, rfl⟩ := Int.eq_ofNat_of_zero_le hb.1
  have hn : n < 64 := by omega
  have hm : m < 64 := by omega
  clear ha hb
  revert hm; revert m; revert hn; revert n
  decide +kernel
theorem three_num (a b : Int) (ha : 0 ≤ a ∧ a < 64) (hb : 0 ≤ b ∧ b < 64) : ((three (UInt32.ofInt a) (UInt32.ofInt b)).toNat : Int) = a % 16 * 16 + b / 4 := by
  obtain ⟨n, rfl⟩ := Int.eq_ofNat_of_zero_le ha.1
  obtain ⟨m, rfl⟩ := Int.eq_ofNat_of_zero_le hb.1
  have hn : n < 64 := by omega
  have hm : m < 64 := by omega
  clear ha hb
  revert hm; revert m; revert hn; revert n
  decide +kernel
theorem and4 (b : Int) (hb : 0 ≤ b ∧ b < 64) : (UInt32.ofInt b &&& 15 = 0) ↔ b % 16 = 0 := by
  obtain ⟨m, rfl⟩ := Int.eq_ofNat_of_zero_le hb.1
  have hm : m < 64 := by omega
  clear hb
  revert m
  decide +kernel
theorem and2 (b : Int) (hb : 0 ≤ b ∧ b < 64) : (UInt32.ofInt b &&& 3 = 0) ↔ b % 4 = 0 := by
  obtain ⟨m, rfl⟩ := Int.eq_ofNat_of_zero_le hb.1
  have hm : m < 64 := by omega
  clear hb
  revert m
  decide +kernel
theorem enc_dec : ∀ (s out : List UInt8), (∀ c ∈ s, 0 ≤ idx c) → decN (nums s) = some out → enc out = s
  | [], out, _, h => by
    have : out = [] := by simpa [nums, decN] using h.symm
    subst this; rfl
  | [a], out, _, h => by simp [nums, decN] at h
  | [a, b], out, hg, h => by
    have ha := hg a (by simp)
    have hb := hg b (by simp)
    have ha2 := idx_lt a
    have hb2 := idx_lt b
    have h4 := and4 (idx b) ⟨hb, hb2⟩
    have ht := two_num (idx a) (idx b) ⟨ha, ha2⟩ ⟨hb, hb2⟩
    simp only [nums, List.map_cons, List.map_nil, decN, h4] at h
    by_cases hz : idx b % 16 = 0
    · rw [if_pos hz] at h
      obtain rfl := Option.some.inj h
      generalize two (UInt32.ofInt (idx a)) (UInt32.ofInt (idx b)) = x at ht
      have hx := x.toNat_lt
      have e1 := zero8 x
      have e2 := shl8 _ (show ((0 : UInt32) <<< 8 ||| x.toUInt32).toNat < 16777216 by omega)
      have e3 := shl8 _ (show (((0 : UInt32) <<< 8 ||| x.toUInt32) <<< 8).toNat < 16777216 by omega)
      simp only [enc, lets2]
      rw [e2, e1] at e3
      clear e1 e2 h4 hg
      generalize ((0 : UInt32) <<< 8 ||| x.toUInt32) <<< 8 <<< 8 = F at e3 ⊢
      have hF : F.toNat = x.toNat * 65536 := e3.trans (m16 _)
      rw [let_of F a ha (by rw [hF]; omega), let_of (F <<< 6) b hb (by rw [shl6_toNat, hF]; omega)]
    · rw [if_neg hz] at h; cases h
  | [a, b, c], out, hg, h => by
    have ha := hg a (by simp)
    have hb := hg b (by simp)
    have hc := hg c (by simp)
    have ha2 := idx_lt a
    have hb2 := idx_lt b
    have hc2 := idx_lt c
    have h4 := and2 (idx c) ⟨hc, hc2⟩
    have ht := two_num (idx a) (idx b) ⟨ha, ha2⟩ ⟨hb, hb2⟩
    have ht3 := three_num (idx b) (idx c) ⟨hb, hb2⟩ ⟨hc, hc2⟩
    simp only [nums, List.map_cons, List.map_nil, decN, h4] at h
    by_cases hz : idx c % 4 = 0
    · rw [if_pos hz] at h
      obtain rfl := Option.some.inj h
      generalize two (UInt32.ofInt (idx a)) (UInt32.ofInt (idx b)) = x at ht
      generalize three (UInt32.ofInt (idx b)) (UInt32.ofInt (idx c)) = y at ht3
      have hx := x.toNat_lt
      have hy := y.toNat_lt
      have e1 := zero8 x
      have e2 := or8 ((0 : UInt32) <<< 8 ||| x.toUInt32) y (by omega)
      have e3 := shl8 _ (show (((0 : UInt32) <<< 8 ||| x.toUInt32) <<< 8 ||| y.toUInt32).toNat < 16777216 by omega)
      simp only [enc, lets3]
      rw [e2, e1] at e3
      clear e1 e2 h4 hg
      generalize (((0 : UInt32) <<< 8 ||| x.toUInt32) <<< 8 ||| y.toUInt32) <<< 8 = F at e3 ⊢
      have hF : F.toNat = x.toNat * 65536 + y.toNat * 256 := e3.trans (m24 _ _)
      rw [let_of F a ha (by rw [hF]; omega), let_of (F <<< 6) b hb (by rw [shl6_toNat, hF]; omega), let_of (F <<< 6 <<< 6) c hc (by rw [shl6_toNat, shl6_toNat, hF]; omega)]
    · rw [if_neg hz] at h; cases h
  | a :: b :: c :: d :: t, out, hg, h => by
    have ha := hg a (by simp)
    have hb := hg b (by simp)
    have hc := hg c (by simp)
    have hd := hg d (by simp)
    have ha2 := idx_lt a
    have hb2 := idx_lt b
    have hc2 := idx_lt c
    have hd2 := idx_lt d
    have hn : nums (a :: b :: c :: d :: t) = UInt32.ofInt (idx a) :: UInt32.ofInt (idx b) :: UInt32.ofInt (idx c) :: UInt32.ofInt (idx d) :: nums t := rfl
    rw [hn] at h
    simp only [decN] at h
    obtain ⟨o, ho, rfl⟩ := Option.map_eq_some_iff.1 h
    have ih := enc_dec t o (fun x hx => hg x (by simp [hx])) ho
    have e1 := u32_idx ha ha2
    have e2 := u32_idx hb hb2
    have e3 := u32_idx hc hc2
    have e4 := u32_idx hd hd2
    have hf := four_toNat (UInt32.ofInt (idx a)) (UInt32.ofInt (idx b)) (UInt32.ofInt (idx c)) (UInt32.ofInt (idx d)) (by omega) (by omega) (by omega) (by omega)
    generalize four (UInt32.ofInt (idx a)) (UInt32.ofInt (idx b)) (UInt32.ofInt (idx c)) (UInt32.ofInt (idx d)) = F at hf
    have hF : (F.toNat : Int) = idx a * 262144 + idx b * 4096 + idx c * 64 + idx d := by omega
    have t1 : ((F >>> 16).toUInt8).toNat = F.toNat / 65536 % 256 := by
      rw [UInt32.toNat_toUInt8, UInt32.toNat_shiftRight]; simp [Nat.shiftRight_eq_div_pow]
    have t2 : ((F >>> 8).toUInt8).toNat = F.toNat / 256 % 256 := by
      rw [UInt32.toNat_toUInt8, UInt32.toNat_shiftRight]; simp [Nat.shiftRight_eq_div_pow]
    have t3 : (F.toUInt8).toNat = F.toNat % 256 := by
      rw [UInt32.toNat_toUInt8]
    generalize (F >>> 16).toUInt8 = x at t1
    generalize (F >>> 8).toUInt8 = y at t2
    generalize F.toUInt8 = z at t3
    have hN := n3 x y z
    simp only [enc, lets4, ih]
    generalize num3 x.toUInt32 y.toUInt32 z.toUInt32 = M at hN
    have hM : (M.toNat : Int) = idx a * 262144 + idx b * 4096 + idx c * 64 + idx d := by omega
    rw [let_of M a ha (by omega), let_of (M <<< 6) b hb (by rw [shl6_toNat]; omega), let_of (M <<< 6 <<< 6) c hc (by rw [shl6_toNat, shl6_toNat]; omega), let_of (M <<< 6 <<< 6 <<< 6) d hd (by rw [shl6_toNat, shl6_toNat, shl6_toNat]; omega)]
    rfl
theorem decN_len : ∀ (n : List UInt32) (out : List UInt8), decN n = some out → out.length ≤ n.length
  | [], out, h => by simp [decN] at h; subst h; simp
  | [a], out, h => by simp [decN] at h
  | [a, b], out, h => by
    simp only [decN] at h
    split at h
    · obtain rfl := Option.some.inj h; simp
    · cases h
  | [a, b, c], out, h => by
    simp only [decN] at h
    split at h
    · obtain rfl := Option.some.inj h; simp
    · cases h
  | a :: b :: c :: d :: t, out, h => by
    simp only [decN] at h
    obtain ⟨o, ho, rfl⟩ := Option.map_eq_some_iff.1 h
    have := decN_len t o ho
    simp; omega
end Go.Proofs.YteefmkjnepcanaaDoor.Tx
