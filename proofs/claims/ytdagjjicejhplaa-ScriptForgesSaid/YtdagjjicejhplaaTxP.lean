/- What a text's letters decode to: the text. No condition. -/
import Derived.Test.YtdagjjicejhplaaTxS
namespace Go.Proofs.Ytdagjjicejhplaa.Tx
set_option linter.unusedVariables false
set_option linter.unusedSimpArgs false
theorem idx_at : ∀ i, i < 64 → idx (letters.getD i 0) = i := by decide +kernel
theorem and63n (x : UInt32) : (x &&& 63).toNat = x.toNat % 64 := by
  rw [UInt32.toNat_and]; exact Nat.and_two_pow_sub_one_eq_mod x.toNat 6
def piece (n : UInt32) : UInt32 := n >>> 18 &&& 63
theorem idx_let (n : UInt32) : idx (let64 n) = (piece n).toNat := by
  unfold let64 piece
  rw [idx_at _ (by rw [and63n]; omega)]
theorem ofInt_toNat (x : UInt32) : UInt32.ofInt (x.toNat : Int) = x := by
  apply UInt32.toNat_inj.1
  have := x.toNat_lt
  simp [UInt32.ofInt]
  omega
theorem nums_let (n : UInt32) : UInt32.ofInt (idx (let64 n)) = piece n := by rw [idx_let, ofInt_toNat]
theorem piece_toNat (n : UInt32) : (piece n).toNat = n.toNat / 262144 % 64 := by
  unfold piece; rw [and63n, UInt32.toNat_shiftRight]; simp [Nat.shiftRight_eq_div_pow]
theorem shl6_toNat (n : UInt32) : (n <<< 6).toNat = n.toNat * 64 % 4294967296 := by
  rw [UInt32.toNat_shiftLeft]; simp [Nat.shiftLeft_eq]
theorem orAdd (X Y k q : Nat) (hX : X = 2 ^ k * q) (hY : Y < 2 ^ k) : X ||| Y = X + Y := by
  subst hX; rw [Nat.two_pow_add_eq_or_of_lt hY]
theorem four_toNat (a b c d : UInt32) (ha : a.toNat < 64) (hb : b.toNat < 64) (hc : c.toNat < 64) (hd : d.toNat < 64) : (four a b c d).toNat = a.toNat * 262144 + b.toNat * 4096 + c.toNat * 64 + d.toNat := by
  unfold four
  simp only [UInt32.toNat_or, UInt32.toNat_shiftLeft, UInt32.reduceToNat, Nat.reduceMod, Nat.shiftLeft_eq, Nat.reducePow]
  rw [Nat.mod_eq_of_lt (show a.toNat * 262144 < 4294967296 by omega), Nat.mod_eq_of_lt (show b.toNat * 4096 < 4294967296 by omega), Nat.mod_eq_of_lt (show c.toNat * 64 < 4294967296 by omega)]
  rw [orAdd (a.toNat * 262144) (b.toNat * 4096) 18 a.toNat (by omega) (by omega), orAdd (a.toNat * 262144 + b.toNat * 4096) (c.toNat * 64) 12 (a.toNat * 64 + b.toNat) (by omega) (by omega), orAdd (a.toNat * 262144 + b.toNat * 4096 + c.toNat * 64) d.toNat 6 (a.toNat * 4096 + b.toNat * 64 + c.toNat) (by omega) (by omega)]
theorem or8 (x : UInt32) (c : UInt8) (hx : x.toNat < 16777216) : (x <<< 8 ||| c.toUInt32).toNat = x.toNat * 256 + c.toNat := by
  have hc := c.toNat_lt
  simp only [UInt32.toNat_or, UInt32.toNat_shiftLeft, UInt32.reduceToNat, Nat.reduceMod, Nat.shiftLeft_eq, Nat.reducePow, UInt8.toNat_toUInt32]
  rw [Nat.mod_eq_of_lt (show x.toNat * 256 < 4294967296 by omega), orAdd _ _ 8 x.toNat (by omega) (by omega)]
theorem zero8 (a : UInt8) : ((0 : UInt32) <<< 8 ||| a.toUInt32).toNat = a.toNat := by rw [or8 0 a (by decide)]; simp
theorem shl8 (x : UInt32) (hx : x.toNat < 16777216) : (x <<< 8).toNat = x.toNat * 256 := by
  rw [UInt32.toNat_shiftLeft]; simp [Nat.shiftLeft_eq]; omega
theorem back8 (x : UInt32) (k : Nat) (hk : k < 32) (c : UInt8) (h : x.toNat / 2 ^ k % 256 = c.toNat) : (x >>> UInt32.ofNat k).toUInt8 = c := by
  apply UInt8.toNat_inj.1
  rw [UInt32.toNat_toUInt8, UInt32.toNat_shiftRight, UInt32.toNat_ofNat', Nat.shiftRight_eq_div_pow, ← h]
  rw [Nat.mod_eq_of_lt (show k % 2 ^ 32 < 32 by omega), Nat.mod_eq_of_lt (show k < 2 ^ 32 by omega)]
theorem back8' (x : UInt32) (c : UInt8) (h : x.toNat % 256 = c.toNat) : x.toUInt8 = c := by
  apply UInt8.toNat_inj.1
  rw [UInt32.toNat_toUInt8, ← h]
theorem four_num (n : UInt32) (hn : n.toNat < 16777216) : (four (piece n) (piece (n <<< 6)) (piece (n <<< 6 <<< 6)) (piece (n <<< 6 <<< 6 <<< 6))).toNat = n.toNat := by
  have p0 := piece_toNat n
  have p1 := piece_toNat (n <<< 6)
  have p2 := piece_toNat (n <<< 6 <<< 6)
  have p3 := piece_toNat (n <<< 6 <<< 6 <<< 6)
  rw [shl6_toNat] at p1
  rw [shl6_toNat, shl6_toNat] at p2
  rw [shl6_toNat, shl6_toNat, shl6_toNat] at p3
  rw [four_toNat _ _ _ _ (by omega) (by omega) (by omega) (by omega), p0, p1, p2, p3]
  generalize n.toNat = m at *
  clear p0 p1 p2 p3
  omega
theorem dec_enc (s : List UInt8) : decN (nums (enc s)) = some s := by
  fun_induction enc s with
  | case1 => rfl
  | case2 a =>
    have ha := a.toNat_lt
    have e1 := zero8 a
    generalize (0 : UInt32) <<< 8 ||| a.toUInt32 = m at *
    have e2 := shl8 m (by omega)
    have e3 := shl8 (m <<< 8) (by omega)
    generalize m <<< 8 <<< 8 = n at *
    have p0 := piece_toNat n
    have p1 := piece_toNat (n <<< 6)
    rw [shl6_toNat] at p1
    simp only [lets, nums, List.map_append, List.map_cons, List.map_nil, List.nil_append, List.cons_append, nums_let, sh6, decN]
    have hz : piece (n <<< 6) &&& 15 = 0 := by
      apply UInt32.toNat_inj.1
      rw [UInt32.toNat_and]
      have := Nat.and_two_pow_sub_one_eq_mod (piece (n <<< 6)).toNat 4
      simp at this ⊢
      rw [this]; omega
    rw [if_pos hz]
    have h2 : two (piece n) (piece (n <<< 6)) = a := by
      unfold two
      apply UInt8.toNat_inj.1
      rw [UInt32.toNat_toUInt8, UInt32.toNat_or, UInt32.toNat_shiftLeft, UInt32.toNat_shiftRight]
      simp [Nat.shiftLeft_eq, Nat.shiftRight_eq_div_pow]
      rw [Nat.mod_eq_of_lt (show (piece n).toNat * 4 < 4294967296 by omega), orAdd _ _ 2 (piece n).toNat (by omega) (by omega)]
      omega
    rw [h2]
  | case3 a b =>
    have ha := a.toNat_lt
    have hb := b.toNat_lt
    have e1 : ((((0 : UInt32) <<< 8 ||| a.toUInt32) <<< 8) ||| b.toUInt32).toNat = a.toNat * 256 + b.toNat := by rw [or8 _ _ (by rw [zero8]; omega), zero8]
    generalize (((0 : UInt32) <<< 8 ||| a.toUInt32) <<< 8) ||| b.toUInt32 = m at *
    have e2 := shl8 m (by omega)
    generalize m <<< 8 = n at *
    have p0 := piece_toNat n
    have p1 := piece_toNat (n <<< 6)
    have p2 := piece_toNat (n <<< 6 <<< 6)
    rw [shl6_toNat] at p1
    rw [shl6_toNat, shl6_toNat] at p2
    simp only [lets, nums, List.map_append, List.map_cons, List.map_nil, List.nil_append, List.cons_append, nums_let, sh6, decN]
    have hz : piece (n <<< 6 <<< 6) &&& 3 = 0 := by
      apply UInt32.toNat_inj.1
      rw [UInt32.toNat_and]
      have := Nat.and_two_pow_sub_one_eq_mod (piece (n <<< 6 <<< 6)).toNat 2
      simp at this ⊢
      rw [this]; omega
    rw [if_pos hz]
    have h2 : two (piece n) (piece (n <<< 6)) = a := by
      unfold two
      apply UInt8.toNat_inj.1
      rw [UInt32.toNat_toUInt8, UInt32.toNat_or, UInt32.toNat_shiftLeft, UInt32.toNat_shiftRight]
      simp [Nat.shiftLeft_eq, Nat.shiftRight_eq_div_pow]
      rw [Nat.mod_eq_of_lt (show (piece n).toNat * 4 < 4294967296 by omega), orAdd _ _ 2 (piece n).toNat (by omega) (by omega)]
      omega
    have h3 : three (piece (n <<< 6)) (piece (n <<< 6 <<< 6)) = b := by
      unfold three
      apply UInt8.toNat_inj.1
      rw [UInt32.toNat_toUInt8, UInt32.toNat_or, UInt32.toNat_shiftLeft, UInt32.toNat_shiftRight]
      simp [Nat.shiftLeft_eq, Nat.shiftRight_eq_div_pow]
      rw [Nat.mod_eq_of_lt (show (piece (n <<< 6)).toNat * 16 < 4294967296 by omega), orAdd _ _ 4 (piece (n <<< 6)).toNat (by omega) (by omega)]
      omega
    rw [h2, h3]
  | case4 a b c t ih =>
    have ha := a.toNat_lt
    have hb := b.toNat_lt
    have hc := c.toNat_lt
    have hab : ((((0 : UInt32) <<< 8 ||| a.toUInt32) <<< 8) ||| b.toUInt32).toNat = a.toNat * 256 + b.toNat := by rw [or8 _ _ (by rw [zero8]; omega), zero8]
    have hn : (num3 a.toUInt32 b.toUInt32 c.toUInt32).toNat = (a.toNat * 256 + b.toNat) * 256 + c.toNat := by
      unfold num3; rw [or8 _ _ (by rw [hab]; omega), hab]
    have h4 := four_num (num3 a.toUInt32 b.toUInt32 c.toUInt32) (by omega)
    rw [hn] at h4
    generalize num3 a.toUInt32 b.toUInt32 c.toUInt32 = n at *
    simp only [lets, nums, List.map_append, List.map_cons, List.map_nil, List.nil_append, List.cons_append, nums_let, sh6, decN]
    rw [show (List.map (fun c => UInt32.ofInt (idx c)) (enc t)) = nums (enc t) from rfl, ih]
    simp only [Option.map_some]
    have q1 := back8 _ 16 (by omega) a (show _ = _ by rw [h4]; omega)
    have q2 := back8 _ 8 (by omega) b (show _ = _ by rw [h4]; omega)
    have q3 := back8' _ c (show _ = _ by rw [h4]; omega)
    simp only [UInt32.reduceOfNat] at q1 q2
    rw [q1, q2, q3]
end Go.Proofs.Ytdagjjicejhplaa.Tx
