/- Parts TxP, TxB, TxN, TxDe, TxI, TxD, joined. No condition. -/
import Derived.Test.YtdlaoeepeakpeaaGreatM10A
import Derived.Test.YtdlaoeepeakpeaaGreatM3A
import Derived.Lib.Bytealg
/- What a text's letters decode to: the text. No condition. -/
namespace Go.Proofs.YtdlaoeepeakpeaaGreat.Tx
set_option linter.unusedVariables false
set_option linter.unusedSimpArgs false
theorem idx_at : ∀ i, i < 64 → idx (letters.getD i 0) = i := by decide +kernel
theorem and63n (x : UInt32) : (x &&& 63).toNat = x.toNat % 64 := by
  rw [UInt32.toNat_and]; exact Nat.and_two_pow_sub_one_eq_mod x.toNat 6
def piece (n : UInt32) : UInt32 := n >>> 18 &&& 63
theorem idx_let (n : UInt32) : idx (let64 n) = (piece n).toNat := by
  unfold let64 piece
  rw [idx_at _ (by rw [and63n]; omega)]
theorem ofInt_toNat (x : UInt32) : UInt32.ofInt (x.toNat : Int) = x := by
  apply UInt32.toNat_inj.1
  have := x.toNat_lt
  simp [UInt32.ofInt]
  omega
theorem nums_let (n : UInt32) : UInt32.ofInt (idx (let64 n)) = piece n := by rw [idx_let, ofInt_toNat]
theorem piece_toNat (n : UInt32) : (piece n).toNat = n.toNat / 262144 % 64 := by
  unfold piece; rw [and63n, UInt32.toNat_shiftRight]; simp [Nat.shiftRight_eq_div_pow]
theorem shl6_toNat (n : UInt32) : (n <<< 6).toNat = n.toNat * 64 % 4294967296 := by
  rw [UInt32.toNat_shiftLeft]; simp [Nat.shiftLeft_eq]
theorem orAdd (X Y k q : Nat) (hX : X = 2 ^ k * q) (hY : Y < 2 ^ k) : X ||| Y = X + Y := by
  subst hX; rw [Nat.two_pow_add_eq_or_of_lt hY]
theorem four_toNat (a b c d : UInt32) (ha : a.toNat < 64) (hb : b.toNat < 64) (hc : c.toNat < 64) (hd : d.toNat < 64) : (four a b c d).toNat = a.toNat * 262144 + b.toNat * 4096 + c.toNat * 64 + d.toNat := by
  unfold four
  simp only [UInt32.toNat_or, UInt32.toNat_shiftLeft, UInt32.reduceToNat, Nat.reduceMod, Nat.shiftLeft_eq, Nat.reducePow]
  rw [Nat.mod_eq_of_lt (show a.toNat * 262144 < 4294967296 by omega), Nat.mod_eq_of_lt (show b.toNat * 4096 < 4294967296 by omega), Nat.mod_eq_of_lt (show c.toNat * 64 < 4294967296 by omega)]
  rw [orAdd (a.toNat * 262144) (b.toNat * 4096) 18 a.toNat (by omega) (by omega), orAdd (a.toNat * 262144 + b.toNat * 4096) (c.toNat * 64) 12 (a.toNat * 64 + b.toNat) (by omega) (by omega), orAdd (a.toNat * 262144 + b.toNat * 4096 + c.toNat * 64) d.toNat 6 (a.toNat * 4096 + b.toNat * 64 + c.toNat) (by omega) (by omega)]
theorem or8 (x : UInt32) (c : UInt8) (hx : x.toNat < 16777216) : (x <<< 8 ||| c.toUInt32).toNat = x.toNat * 256 + c.toNat := by
  have hc := c.toNat_lt
  simp only [UInt32.toNat_or, UInt32.toNat_shiftLeft, UInt32.reduceToNat, Nat.reduceMod, Nat.shiftLeft_eq, Nat.reducePow, UInt8.toNat_toUInt32]
  rw [Nat.mod_eq_of_lt (show x.toNat * 256 < 4294967296 by omega), orAdd _ _ 8 x.toNat (by omega) (by omega)]
theorem zero8 (a : UInt8) : ((0 : UInt32) <<< 8 ||| a.toUInt32).toNat = a.toNat := by rw [or8 0 a (by decide)]; simp
theorem shl8 (x : UInt32) (hx : x.toNat < 16777216) : (x <<< 8).toNat = x.toNat * 256 := by
  rw [UInt32.toNat_shiftLeft]; simp [Nat.shiftLeft_eq]; omega
theorem back8 (x : UInt32) (k : Nat) (hk : k < 32) (c : UInt8) (h : x.toNat / 2 ^ k % 256 = c.toNat) : (x >>> UInt32.ofNat k).toUInt8 = c := by
  apply UInt8.toNat_inj.1
  rw [UInt32.toNat_toUInt8, UInt32.toNat_shiftRight, UInt32.toNat_ofNat', Nat.shiftRight_eq_div_pow, ← h]
  rw [Nat.mod_eq_of_lt (show k % 2 ^ 32 < 32 by omega), Nat.mod_eq_of_lt (show k < 2 ^ 32 by omega)]
theorem back8' (x : UInt32) (c : UInt8) (h : x.toNat % 256 = c.toNat) : x.toUInt8 = c := by
  apply UInt8.toNat_inj.1
  rw [UInt32.toNat_toUInt8, ← h]
theorem four_num (n : UInt32) (hn : n.toNat < 16777216) : (four (piece n) (piece (n <<< 6)) (piece (n <<< 6 <<< 6)) (piece (n <<< 6 <<< 6 <<< 6))).toNat = n.toNat := by
  have p0 := piece_toNat n
  have p1 := piece_toNat (n <<< 6)
  have p2 := piece_toNat (n <<< 6 <<< 6)
  have p3 := piece_toNat (n <<< 6 <<< 6 <<< 6)
  rw [shl6_toNat] at p1
  rw [shl6_toNat, shl6_toNat] at p2
  rw [shl6_toNat, shl6_toNat, shl6_toNat] at p3
  rw [four_toNat _ _ _ _ (by omega) (by omega) (by omega) (by omega), p0, p1, p2, p3]
  generalize n.toNat = m at *
  clear p0 p1 p2 p3
  omega
theorem dec_enc (s : List UInt8) : decN (nums (enc s)) = some s := by
  fun_induction enc s with
  | case1 => rfl
  | case2 a =>
    have ha := a.toNat_lt
    have e1 := zero8 a
    generalize (0 : UInt32) <<< 8 ||| a.toUInt32 = m at *
    have e2 := shl8 m (by omega)
    have e3 := shl8 (m <<< 8) (by omega)
    generalize m <<< 8 <<< 8 = n at *
    have p0 := piece_toNat n
    have p1 := piece_toNat (n <<< 6)
    rw [shl6_toNat] at p1
    simp only [lets, nums, List.map_append, List.map_cons, List.map_nil, List.nil_append, List.cons_append, nums_let, sh6, decN]
    have hz : piece (n <<< 6) &&& 15 = 0 := by
      apply UInt32.toNat_inj.1
      rw [UInt32.toNat_and]
      have := Nat.and_two_pow_sub_one_eq_mod (piece (n <<< 6)).toNat 4
      simp at this ⊢
      rw [this]; omega
    rw [if_pos hz]
    have h2 : two (piece n) (piece (n <<< 6)) = a := by
      unfold two
      apply UInt8.toNat_inj.1
      rw [UInt32.toNat_toUInt8, UInt32.toNat_or, UInt32.toNat_shiftLeft, UInt32.toNat_shiftRight]
      simp [Nat.shiftLeft_eq, Nat.shiftRight_eq_div_pow]
      rw [Nat.mod_eq_of_lt (show (piece n).toNat * 4 < 4294967296 by omega), orAdd _ _ 2 (piece n).toNat (by omega) (by omega)]
      omega
    rw [h2]
  | case3 a b =>
    have ha := a.toNat_lt
    have hb := b.toNat_lt
    have e1 : ((((0 : UInt32) <<< 8 ||| a.toUInt32) <<< 8) ||| b.toUInt32).toNat = a.toNat * 256 + b.toNat := by rw [or8 _ _ (by rw [zero8]; omega), zero8]
    generalize (((0 : UInt32) <<< 8 ||| a.toUInt32) <<< 8) ||| b.toUInt32 = m at *
    have e2 := shl8 m (by omega)
    generalize m <<< 8 = n at *
    have p0 := piece_toNat n
    have p1 := piece_toNat (n <<< 6)
    have p2 := piece_toNat (n <<< 6 <<< 6)
    rw [shl6_toNat] at p1
    rw [shl6_toNat, shl6_toNat] at p2
    simp only [lets, nums, List.map_append, List.map_cons, List.map_nil, List.nil_append, List.cons_append, nums_let, sh6, decN]
    have hz : piece (n <<< 6 <<< 6) &&& 3 = 0 := by
      apply UInt32.toNat_inj.1
      rw [UInt32.toNat_and]
      have := Nat.and_two_pow_sub_one_eq_mod (piece (n <<< 6 <<< 6)).toNat 2
      simp at this ⊢
      rw [this]; omega
    rw [if_pos hz]
    have h2 : two (piece n) (piece (n <<< 6)) = a := by
      unfold two
      apply UInt8.toNat_inj.1
      rw [UInt32.toNat_toUInt8, UInt32.toNat_or, UInt32.toNat_shiftLeft, UInt32.toNat_shiftRight]
      simp [Nat.shiftLeft_eq, Nat.shiftRight_eq_div_pow]
      rw [Nat.mod_eq_of_lt (show (piece n).toNat * 4 < 4294967296 by omega), orAdd _ _ 2 (piece n).toNat (by omega) (by omega)]
      omega
    have h3 : three (piece (n <<< 6)) (piece (n <<< 6 <<< 6)) = b := by
      unfold three
      apply UInt8.toNat_inj.1
      rw [UInt32.toNat_toUInt8, UInt32.toNat_or, UInt32.toNat_shiftLeft, UInt32.toNat_shiftRight]
      simp [Nat.shiftLeft_eq, Nat.shiftRight_eq_div_pow]
      rw [Nat.mod_eq_of_lt (show (piece (n <<< 6)).toNat * 16 < 4294967296 by omega), orAdd _ _ 4 (piece (n <<< 6)).toNat (by omega) (by omega)]
      omega
    rw [h2, h3]
  | case4 a b c t ih =>
    have ha := a.toNat_lt
    have hb := b.toNat_lt
    have hc := c.toNat_lt
    have hab : ((((0 : UInt32) <<< 8 ||| a.toUInt32) <<< 8) ||| b.toUInt32).toNat = a.toNat * 256 + b.toNat := by rw [or8 _ _ (by rw [zero8]; omega), zero8]
    have hn : (num3 a.toUInt32 b.toUInt32 c.toUInt32).toNat = (a.toNat * 256 + b.toNat) * 256 + c.toNat := by
      unfold num3; rw [or8 _ _ (by rw [hab]; omega), hab]
    have h4 := four_num (num3 a.toUInt32 b.toUInt32 c.toUInt32) (by omega)
    rw [hn] at h4
    generalize num3 a.toUInt32 b.toUInt32 c.toUInt32 = n at *
    simp only [lets, nums, List.map_append, List.map_cons, List.map_nil, List.nil_append, List.cons_append, nums_let, sh6, decN]
    rw [show (List.map (fun c => UInt32.ofInt (idx c)) (enc t)) = nums (enc t) from rfl, ih]
    simp only [Option.map_some]
    have q1 := back8 _ 16 (by omega) a (show _ = _ by rw [h4]; omega)
    have q2 := back8 _ 8 (by omega) b (show _ = _ by rw [h4]; omega)
    have q3 := back8' _ c (show _ = _ by rw [h4]; omega)
    simp only [UInt32.reduceOfNat] at q1 q2
    rw [q1, q2, q3]
end Go.Proofs.YtdlaoeepeakpeaaGreat.Tx


/- The document's letters by bits are text's letters: plain facts. No condition. -/
namespace Go.Proofs.YtdlaoeepeakpeaaGreat.Tx
set_option linter.unusedVariables false
set_option linter.unusedSimpArgs false
def bit (c : UInt8) (j : Nat) : Int := ((c.toNat / 2 ^ j % 2 : Nat) : Int)
def bits8 (c : UInt8) : List Int := [bit c 7, bit c 6, bit c 5, bit c 4, bit c 3, bit c 2, bit c 1, bit c 0]
def bitsAll (s : List UInt8) : List Int := s.flatMap bits8
def padded (l : List Int) : List Int := l ++ List.replicate ((6 - l.length % 6) % 6) 0
def letAt (x : Int) : UInt8 := letters.getD x.toNat 0
def six (a b c d e f : Int) : Int := ((((((0 * 2 + a) * 2 + b) * 2 + c) * 2 + d) * 2 + e) * 2 + f)
def grp : List Int → List UInt8
  | a :: b :: c :: d :: e :: f :: t => letAt (six a b c d e f) :: grp t
  | _ => []
def refEnc (s : List UInt8) : List UInt8 := grp (padded (bitsAll s))
theorem bitsAll_length (s : List UInt8) : (bitsAll s).length = 8 * s.length := by
  induction s with
  | nil => rfl
  | cons a s ih => rw [bitsAll, List.flatMap_cons, List.length_append, ← bitsAll, ih]; simp [bits8]; omega
theorem let64_eq (n : UInt32) (x : Int) (h : x = ((n.toNat / 262144 % 64 : Nat) : Int)) : letAt x = let64 n := by
  subst h
  unfold letAt let64
  rw [show (n >>> 18 &&& 63).toNat = n.toNat / 262144 % 64 from piece_toNat n, Int.toNat_natCast]
theorem padded_threes (a b c : UInt8) (t : List UInt8) : padded (bitsAll (a :: b :: c :: t)) = bits8 a ++ bits8 b ++ bits8 c ++ padded (bitsAll t) := by
  have h1 := bitsAll_length (a :: b :: c :: t)
  have h2 := bitsAll_length t
  unfold padded
  rw [h1, h2, show 8 * (a :: b :: c :: t).length % 6 = 8 * t.length % 6 by simp; omega]
  simp [bitsAll, List.append_assoc]
set_option maxRecDepth 4000 in
theorem n3 (a b c : UInt8) : (num3 a.toUInt32 b.toUInt32 c.toUInt32).toNat = a.toNat * 65536 + b.toNat * 256 + c.toNat := by
  have ha := a.toNat_lt
  have hb := b.toNat_lt
  unfold num3
  have e1 := zero8 a
  have e2 := or8 ((0 : UInt32) <<< 8 ||| a.toUInt32) b (by omega)
  have e3 := or8 (((0 : UInt32) <<< 8 ||| a.toUInt32) <<< 8 ||| b.toUInt32) c (by omega)
  omega
theorem lets4 (n : UInt32) : lets n 4 = [let64 n, let64 (n <<< 6), let64 (n <<< 6 <<< 6), let64 (n <<< 6 <<< 6 <<< 6)] := rfl
theorem lets3 (n : UInt32) : lets n 3 = [let64 n, let64 (n <<< 6), let64 (n <<< 6 <<< 6)] := rfl
theorem lets2 (n : UInt32) : lets n 2 = [let64 n, let64 (n <<< 6)] := rfl
theorem six_a (a b : UInt8) (n : UInt32) (m : Nat) (hn : n.toNat = a.toNat * 65536 + m) (hm : m < 65536) : letAt (six (bit a 7) (bit a 6) (bit a 5) (bit a 4) (bit a 3) (bit a 2)) = let64 n := by
  have ha := a.toNat_lt
  refine let64_eq _ _ ?_
  rw [hn]
  simp only [six, bit, Nat.reducePow]
  generalize a.toNat = x at *
  omega
theorem six_b (a b : UInt8) (n : UInt32) (m : Nat) (hn : n.toNat = a.toNat * 65536 + b.toNat * 256 + m) (hm : m < 256) : letAt (six (bit a 1) (bit a 0) (bit b 7) (bit b 6) (bit b 5) (bit b 4)) = let64 (n <<< 6) := by
  have ha := a.toNat_lt
  have hb := b.toNat_lt
  refine let64_eq _ _ ?_
  rw [shl6_toNat, hn]
  simp only [six, bit, Nat.reducePow]
  generalize a.toNat = x at *
  generalize b.toNat = y at *
  omega
theorem six_c (b c : UInt8) (n : UInt32) (p : Nat) (hn : n.toNat = p * 65536 + b.toNat * 256 + c.toNat) : letAt (six (bit b 3) (bit b 2) (bit b 1) (bit b 0) (bit c 7) (bit c 6)) = let64 (n <<< 6 <<< 6) := by
  have hb := b.toNat_lt
  have hc := c.toNat_lt
  refine let64_eq _ _ ?_
  rw [shl6_toNat, shl6_toNat, hn]
  simp only [six, bit, Nat.reducePow]
  generalize b.toNat = x at *
  generalize c.toNat = y at *
  omega
theorem six_d (c : UInt8) (n : UInt32) (p : Nat) (hn : n.toNat = p * 256 + c.toNat) : letAt (six (bit c 5) (bit c 4) (bit c 3) (bit c 2) (bit c 1) (bit c 0)) = let64 (n <<< 6 <<< 6 <<< 6) := by
  have hc := c.toNat_lt
  refine let64_eq _ _ ?_
  rw [shl6_toNat, shl6_toNat, shl6_toNat, hn]
  simp only [six, bit, Nat.reducePow]
  generalize c.toNat = y at *
  omega
theorem bit0 (j : Nat) : bit 0 j = 0 := by simp [bit]
theorem refEnc_eq (s : List UInt8) : refEnc s = enc s := by
  unfold refEnc
  fun_induction enc s with
  | case1 => rfl
  | case2 a =>
    have e1 := zero8 a
    have ha := a.toNat_lt
    have e2 := shl8 _ (show ((0 : UInt32) <<< 8 ||| a.toUInt32).toNat < 16777216 by omega)
    have e3 := shl8 _ (show (((0 : UInt32) <<< 8 ||| a.toUInt32) <<< 8).toNat < 16777216 by omega)
    have hn : ((((0 : UInt32) <<< 8 ||| a.toUInt32) <<< 8) <<< 8).toNat = a.toNat * 65536 + (0 : UInt8).toNat * 256 + 0 := by rw [e3, e2, e1]; simp; omega
    rw [lets2, ← six_a a 0 _ _ (by rw [hn, Nat.add_assoc]) (by simp), ← six_b a 0 _ 0 hn (by simp)]
    simp [bit0, bitsAll, bits8, padded, List.replicate, grp]
  | case3 a b =>
    have e1 := zero8 a
    have ha := a.toNat_lt
    have hb := b.toNat_lt
    have e2 := or8 ((0 : UInt32) <<< 8 ||| a.toUInt32) b (by omega)
    have e3 := shl8 _ (show (((0 : UInt32) <<< 8 ||| a.toUInt32) <<< 8 ||| b.toUInt32).toNat < 16777216 by omega)
    have hn : ((((0 : UInt32) <<< 8 ||| a.toUInt32) <<< 8 ||| b.toUInt32) <<< 8).toNat = a.toNat * 65536 + b.toNat * 256 + (0 : UInt8).toNat := by rw [e3, e2, e1]; simp; omega
    rw [lets3, ← six_a a 0 _ _ (by rw [hn, Nat.add_assoc]) (by simp; omega), ← six_b a b _ _ hn (by simp), ← six_c b 0 _ _ hn]
    simp [bit0, bitsAll, bits8, padded, List.replicate, grp]
  | case4 a b c t ih =>
    have ha := a.toNat_lt
    have hb := b.toNat_lt
    have hc := c.toNat_lt
    have hn := n3 a b c
    rw [padded_threes, lets4, ← six_a a 0 _ _ (by rw [hn, Nat.add_assoc]) (by omega), ← six_b a b _ _ hn (by omega), ← six_c b c _ _ hn, ← six_d c _ (a.toNat * 256 + b.toNat) (by rw [hn]; omega), ← ih]
    rfl
theorem idx_enc (s : List UInt8) : ∀ c ∈ enc s, 0 ≤ idx c := by
  have hl : ∀ (n : UInt32) (i : Nat), ∀ c ∈ lets n i, 0 ≤ idx c := by
    intro n i
    induction i with
    | zero => intro c hc; cases hc
    | succ i ih =>
      intro c hc
      rcases List.mem_append.1 hc with h | h
      · exact ih c h
      · rw [List.mem_singleton.1 h, idx_let]; omega
  fun_induction enc s with
  | case1 => intro c hc; cases hc
  | case2 a => exact hl _ _
  | case3 a b => exact hl _ _
  | case4 a b c t ih =>
    intro x hx
    rcases List.mem_append.1 hx with h | h
    · exact hl _ _ x h
    · exact ih x h
end Go.Proofs.YtdlaoeepeakpeaaGreat.Tx


/- The document's bytes of letters, bit by bit, are text's: plain facts. No condition. -/
namespace Go.Proofs.YtdlaoeepeakpeaaGreat.Tx
set_option linter.unusedVariables false
set_option linter.unusedSimpArgs false
def b6 (n : Int) (j : Nat) : Int := n / 2 ^ j % 2
def bits6 (n : Int) : List Int := [b6 n 5, b6 n 4, b6 n 3, b6 n 2, b6 n 1, b6 n 0]
def sixes (s : List UInt8) : List Int := s.flatMap fun c => bits6 (idx c)
def val8 (a b c d e f g h : Int) : Int := ((((((((0 * 2 + a) * 2 + b) * 2 + c) * 2 + d) * 2 + e) * 2 + f) * 2 + g) * 2 + h)
def by8 : List Int → List UInt8
  | a :: b :: c :: d :: e :: f :: g :: h :: t => UInt8.ofInt (val8 a b c d e f g h) :: by8 t
  | _ => []
def rest8 : List Int → List Int
  | _ :: _ :: _ :: _ :: _ :: _ :: _ :: _ :: t => rest8 t
  | l => l
theorem sixes_length (s : List UInt8) : (sixes s).length = 6 * s.length := by
  induction s with
  | nil => rfl
  | cons a s ih => rw [sixes, List.flatMap_cons, List.length_append, ← sixes, ih]; simp [bits6]; omega
theorem sixes_cons (a : UInt8) (s : List UInt8) : sixes (a :: s) = bits6 (idx a) ++ sixes s := by simp [sixes]
theorem byAll {p : UInt8 → Prop} (h : ∀ n, n < 256 → p (UInt8.ofNat n)) (c : UInt8) : p c := by
  have := h c.toNat c.toNat_lt
  rwa [UInt8.ofNat_toNat] at this
theorem idx_lt (c : UInt8) : idx c < 64 := byAll (p := fun c => idx c < 64) (by decide +kernel) c
theorem letters_idx (c : UInt8) : 0 ≤ idx c → letters.getD (idx c).toNat 0 = c := byAll (p := fun c => 0 ≤ idx c → letters.getD (idx c).toNat 0 = c) (by decide +kernel) c
theorem u32_idx {n : Int} (h0 : 0 ≤ n) (h1 : n < 64) : ((UInt32.ofInt n).toNat : Int) = n := by
  simp [UInt32.ofInt]; omega
theorem oct1 (a b c d : Int) (ha : 0 ≤ a ∧ a < 64) (hb : 0 ≤ b ∧ b < 64) (hc : 0 ≤ c ∧ c < 64) (hd : 0 ≤ d ∧ d < 64) :
    (four (UInt32.ofInt a) (UInt32.ofInt b) (UInt32.ofInt c) (UInt32.ofInt d) >>> 16).toUInt8 = UInt8.ofInt (val8 (b6 a 5) (b6 a 4) (b6 a 3) (b6 a 2) (b6 a 1) (b6 a 0) (b6 b 5) (b6 b 4)) ∧
    (four (UInt32.ofInt a) (UInt32.ofInt b) (UInt32.ofInt c) (UInt32.ofInt d) >>> 8).toUInt8 = UInt8.ofInt (val8 (b6 b 3) (b6 b 2) (b6 b 1) (b6 b 0) (b6 c 5) (b6 c 4) (b6 c 3) (b6 c 2)) ∧
    (four (UInt32.ofInt a) (UInt32.ofInt b) (UInt32.ofInt c) (UInt32.ofInt d)).toUInt8 = UInt8.ofInt (val8 (b6 c 1) (b6 c 0) (b6 d 5) (b6 d 4) (b6 d 3) (b6 d 2) (b6 d 1) (b6 d 0)) := by
  have e1 := u32_idx ha.1 ha.2
  have e2 := u32_idx hb.1 hb.2
  have e3 := u32_idx hc.1 hc.2
  have e4 := u32_idx hd.1 hd.2
  have hf := four_toNat (UInt32.ofInt a) (UInt32.ofInt b) (UInt32.ofInt c) (UInt32.ofInt d) (by omega) (by omega) (by omega) (by omega)
  generalize four (UInt32.ofInt a) (UInt32.ofInt b) (UInt32.ofInt c) (UInt32.ofInt d) = F at hf
  have hF : (F.toNat : Int) = a * 262144 + b * 4096 + c * 64 + d := by omega
  have v1 : val8 (b6 a 5) (b6 a 4) (b6 a 3) (b6 a 2) (b6 a 1) (b6 a 0) (b6 b 5) (b6 b 4) = a * 4 + b / 16 := by simp only [val8, b6, Nat.reducePow, Int.reducePow]; omega
  have v2 : val8 (b6 b 3) (b6 b 2) (b6 b 1) (b6 b 0) (b6 c 5) (b6 c 4) (b6 c 3) (b6 c 2) = b % 16 * 16 + c / 4 := by simp only [val8, b6, Nat.reducePow, Int.reducePow]; omega
  have v3 : val8 (b6 c 1) (b6 c 0) (b6 d 5) (b6 d 4) (b6 d 3) (b6 d 2) (b6 d 1) (b6 d 0) = c % 4 * 64 + d := by simp only [val8, b6, Nat.reducePow, Int.reducePow]; omega
  rw [v1, v2, v3]
  refine ⟨back8 F 16 (by decide) _ ?_, back8 F 8 (by decide) _ ?_, back8' F _ ?_⟩
  · simp [UInt8.ofInt]; omega
  · simp [UInt8.ofInt]; omega
  · simp [UInt8.ofInt]; omega
theorem two_of (a b : Int) (ha : 0 ≤ a ∧ a < 64) (hb : 0 ≤ b ∧ b < 64) : two (UInt32.ofInt a) (UInt32.ofInt b) = UInt8.ofInt (val8 (b6 a 5) (b6 a 4) (b6 a 3) (b6 a 2) (b6 a 1) (b6 a 0) (b6 b 5) (b6 b 4)) := by
  obtain ⟨n, rfl⟩ := Int.eq_ofNat_of_zero_le ha.1
  obtain ⟨m, rfl⟩ := Int.eq_ofNat_of_zero_le hb.1
  have hn : n < 64 := by omega
  have hm : m < 64 := by omega
  clear ha hb
  revert hm; revert m; revert hn; revert n
  decide +kernel
theorem three_of (a b : Int) (ha : 0 ≤ a ∧ a < 64) (hb : 0 ≤ b ∧ b < 64) : three (UInt32.ofInt a) (UInt32.ofInt b) = UInt8.ofInt (val8 (b6 a 3) (b6 a 2) (b6 a 1) (b6 a 0) (b6 b 5) (b6 b 4) (b6 b 3) (b6 b 2)) := by
  obtain ⟨n, rfl⟩ := Int.eq_ofNat_of_zero_le ha.1
  obtain ⟨m, rfl⟩ := Int.eq_ofNat_of_zero_le hb.1
  have hn : n < 64 := by omega
  have hm : m < 64 := by omega
  clear ha hb
  revert hm; revert m; revert hn; revert n
  decide +kernel
theorem low4 (b : Int) (hb : 0 ≤ b ∧ b < 64) : (UInt32.ofInt b &&& 15 = 0) ↔ (b6 b 3 = 0 ∧ b6 b 2 = 0 ∧ b6 b 1 = 0 ∧ b6 b 0 = 0) := by
  obtain ⟨m, rfl⟩ := Int.eq_ofNat_of_zero_le hb.1
  have hm : m < 64 := by omega
  clear hb
  revert m
  decide +kernel
theorem low2 (b : Int) (hb : 0 ≤ b ∧ b < 64) : (UInt32.ofInt b &&& 3 = 0) ↔ (b6 b 1 = 0 ∧ b6 b 0 = 0) := by
  obtain ⟨m, rfl⟩ := Int.eq_ofNat_of_zero_le hb.1
  have hm : m < 64 := by omega
  clear hb
  revert m
  decide +kernel
theorem decN_ref : ∀ (s : List UInt8), (∀ c ∈ s, 0 ≤ idx c) → s.length % 4 ≠ 1 → decN (nums s) = if (∀ x ∈ rest8 (sixes s), x = 0) then some (by8 (sixes s)) else none
  | [], _, _ => by simp [nums, decN, sixes, rest8, by8]
  | [a], _, h => absurd rfl h
  | [a, b], hg, _ => by
    have ha := hg a (by simp)
    have hb := hg b (by simp)
    have ha2 := idx_lt a
    have hb2 := idx_lt b
    have h2 := low4 (idx b) ⟨hb, hb2⟩
    simp only [nums, List.map_cons, List.map_nil, decN, sixes_cons, bits6, List.cons_append, List.nil_append]
    have h0 : sixes [] = [] := rfl
    simp only [h0, rest8, by8, List.mem_cons, List.not_mem_nil, or_false, forall_eq_or_imp, forall_eq, two_of _ _ ⟨ha, ha2⟩ ⟨hb, hb2⟩, h2]
  | [a, b, c], hg, _ => by
    have ha := hg a (by simp)
    have hb := hg b (by simp)
    have hc := hg c (by simp)
    have ha2 := idx_lt a
    have hb2 := idx_lt b
    have hc2 := idx_lt c
    have h2 := low2 (idx c) ⟨hc, hc2⟩
    simp only [nums, List.map_cons, List.map_nil, decN, sixes_cons, bits6, List.cons_append, List.nil_append]
    have h0 : sixes [] = [] := rfl
    simp only [h0, rest8, by8, List.mem_cons, List.not_mem_nil, or_false, forall_eq_or_imp, forall_eq, two_of _ _ ⟨ha, ha2⟩ ⟨hb, hb2⟩, three_of _ _ ⟨hb, hb2⟩ ⟨hc, hc2⟩, h2]
  | a :: b :: c :: d :: t, hg, hl => by
    have ha := hg a (by simp)
    have hb := hg b (by simp)
    have hc := hg c (by simp)
    have hd := hg d (by simp)
    obtain ⟨o1, o2, o3⟩ := oct1 (idx a) (idx b) (idx c) (idx d) ⟨ha, idx_lt a⟩ ⟨hb, idx_lt b⟩ ⟨hc, idx_lt c⟩ ⟨hd, idx_lt d⟩
    have ih := decN_ref t (fun x hx => hg x (by simp [hx])) (by simp at hl; omega)
    have hn : nums (a :: b :: c :: d :: t) = UInt32.ofInt (idx a) :: UInt32.ofInt (idx b) :: UInt32.ofInt (idx c) :: UInt32.ofInt (idx d) :: nums t := rfl
    rw [hn]
    simp only [decN, sixes_cons, bits6, List.cons_append, List.nil_append, rest8, by8, o1, o2, o3, ih]
    split <;> simp
theorem decN_one : ∀ (s : List UInt8), s.length % 4 = 1 → decN (nums s) = none
  | [], h => absurd h (by decide)
  | [a], _ => rfl
  | [a, b], h => absurd h (by simp)
  | [a, b, c], h => absurd h (by simp)
  | a :: b :: c :: d :: t, h => by
    have ih := decN_one t (by simp at h; omega)
    show (decN (nums t)).map _ = none
    rw [ih]; rfl
end Go.Proofs.YtdlaoeepeakpeaaGreat.Tx


/- What is read as letters has just these letters: plain facts. No condition. -/
namespace Go.Proofs.YtdlaoeepeakpeaaGreat.Tx
set_option linter.unusedVariables false
set_option linter.unusedSimpArgs false
theorem m16 (a : Nat) : a * 256 * 256 = a * 65536 := by omega
theorem m24 (a b : Nat) : (a * 256 + b) * 256 = a * 65536 + b * 256 := by omega
theorem let_of (n : UInt32) (c : UInt8) (hc : 0 ≤ idx c) (h : ((n.toNat / 262144 % 64 : Nat) : Int) = idx c) : let64 n = c := by
  rw [← let64_eq n (idx c) h.symm]
  exact letters_idx c hc
theorem two_num (a b : Int) (ha : 0 ≤ a ∧ a < 64) (hb : 0 ≤ b ∧ b < 64) : ((two (UInt32.ofInt a) (UInt32.ofInt b)).toNat : Int) = a * 4 + b / 16 := by
  obtain ⟨n, rfl⟩ := Int.eq_ofNat_of_zero_le ha.1
  obtain ⟨m, rfl⟩ := Int.eq_ofNat_of_zero_le hb.1
  have hn : n < 64 := by omega
  have hm : m < 64 := by omega
  clear ha hb
  revert hm; revert m; revert hn; revert n
  decide +kernel
theorem three_num (a b : Int) (ha : 0 ≤ a ∧ a < 64) (hb : 0 ≤ b ∧ b < 64) : ((three (UInt32.ofInt a) (UInt32.ofInt b)).toNat : Int) = a % 16 * 16 + b / 4 := by
  obtain ⟨n, rfl⟩ := Int.eq_ofNat_of_zero_le ha.1
  obtain ⟨m, rfl⟩ := Int.eq_ofNat_of_zero_le hb.1
  have hn : n < 64 := by omega
  have hm : m < 64 := by omega
  clear ha hb
  revert hm; revert m; revert hn; revert n
  decide +kernel
theorem and4 (b : Int) (hb : 0 ≤ b ∧ b < 64) : (UInt32.ofInt b &&& 15 = 0) ↔ b % 16 = 0 := by
  obtain ⟨m, rfl⟩ := Int.eq_ofNat_of_zero_le hb.1
  have hm : m < 64 := by omega
  clear hb
  revert m
  decide +kernel
theorem and2 (b : Int) (hb : 0 ≤ b ∧ b < 64) : (UInt32.ofInt b &&& 3 = 0) ↔ b % 4 = 0 := by
  obtain ⟨m, rfl⟩ := Int.eq_ofNat_of_zero_le hb.1
  have hm : m < 64 := by omega
  clear hb
  revert m
  decide +kernel
theorem enc_dec : ∀ (s out : List UInt8), (∀ c ∈ s, 0 ≤ idx c) → decN (nums s) = some out → enc out = s
  | [], out, _, h => by
    have : out = [] := by simpa [nums, decN] using h.symm
    subst this; rfl
  | [a], out, _, h => by simp [nums, decN] at h
  | [a, b], out, hg, h => by
    have ha := hg a (by simp)
    have hb := hg b (by simp)
    have ha2 := idx_lt a
    have hb2 := idx_lt b
    have h4 := and4 (idx b) ⟨hb, hb2⟩
    have ht := two_num (idx a) (idx b) ⟨ha, ha2⟩ ⟨hb, hb2⟩
    simp only [nums, List.map_cons, List.map_nil, decN, h4] at h
    by_cases hz : idx b % 16 = 0
    · rw [if_pos hz] at h
      obtain rfl := Option.some.inj h
      generalize two (UInt32.ofInt (idx a)) (UInt32.ofInt (idx b)) = x at ht
      have hx := x.toNat_lt
      have e1 := zero8 x
      have e2 := shl8 _ (show ((0 : UInt32) <<< 8 ||| x.toUInt32).toNat < 16777216 by omega)
      have e3 := shl8 _ (show (((0 : UInt32) <<< 8 ||| x.toUInt32) <<< 8).toNat < 16777216 by omega)
      simp only [enc, lets2]
      rw [e2, e1] at e3
      clear e1 e2 h4 hg
      generalize ((0 : UInt32) <<< 8 ||| x.toUInt32) <<< 8 <<< 8 = F at e3 ⊢
      have hF : F.toNat = x.toNat * 65536 := e3.trans (m16 _)
      rw [let_of F a ha (by rw [hF]; omega), let_of (F <<< 6) b hb (by rw [shl6_toNat, hF]; omega)]
    · rw [if_neg hz] at h; cases h
  | [a, b, c], out, hg, h => by
    have ha := hg a (by simp)
    have hb := hg b (by simp)
    have hc := hg c (by simp)
    have ha2 := idx_lt a
    have hb2 := idx_lt b
    have hc2 := idx_lt c
    have h4 := and2 (idx c) ⟨hc, hc2⟩
    have ht := two_num (idx a) (idx b) ⟨ha, ha2⟩ ⟨hb, hb2⟩
    have ht3 := three_num (idx b) (idx c) ⟨hb, hb2⟩ ⟨hc, hc2⟩
    simp only [nums, List.map_cons, List.map_nil, decN, h4] at h
    by_cases hz : idx c % 4 = 0
    · rw [if_pos hz] at h
      obtain rfl := Option.some.inj h
      generalize two (UInt32.ofInt (idx a)) (UInt32.ofInt (idx b)) = x at ht
      generalize three (UInt32.ofInt (idx b)) (UInt32.ofInt (idx c)) = y at ht3
      have hx := x.toNat_lt
      have hy := y.toNat_lt
      have e1 := zero8 x
      have e2 := or8 ((0 : UInt32) <<< 8 ||| x.toUInt32) y (by omega)
      have e3 := shl8 _ (show (((0 : UInt32) <<< 8 ||| x.toUInt32) <<< 8 ||| y.toUInt32).toNat < 16777216 by omega)
      simp only [enc, lets3]
      rw [e2, e1] at e3
      clear e1 e2 h4 hg
      generalize (((0 : UInt32) <<< 8 ||| x.toUInt32) <<< 8 ||| y.toUInt32) <<< 8 = F at e3 ⊢
      have hF : F.toNat = x.toNat * 65536 + y.toNat * 256 := e3.trans (m24 _ _)
      rw [let_of F a ha (by rw [hF]; omega), let_of (F <<< 6) b hb (by rw [shl6_toNat, hF]; omega), let_of (F <<< 6 <<< 6) c hc (by rw [shl6_toNat, shl6_toNat, hF]; omega)]
    · rw [if_neg hz] at h; cases h
  | a :: b :: c :: d :: t, out, hg, h => by
    have ha := hg a (by simp)
    have hb := hg b (by simp)
    have hc := hg c (by simp)
    have hd := hg d (by simp)
    have ha2 := idx_lt a
    have hb2 := idx_lt b
    have hc2 := idx_lt c
    have hd2 := idx_lt d
    have hn : nums (a :: b :: c :: d :: t) = UInt32.ofInt (idx a) :: UInt32.ofInt (idx b) :: UInt32.ofInt (idx c) :: UInt32.ofInt (idx d) :: nums t := rfl
    rw [hn] at h
    simp only [decN] at h
    obtain ⟨o, ho, rfl⟩ := Option.map_eq_some_iff.1 h
    have ih := enc_dec t o (fun x hx => hg x (by simp [hx])) ho
    have e1 := u32_idx ha ha2
    have e2 := u32_idx hb hb2
    have e3 := u32_idx hc hc2
    have e4 := u32_idx hd hd2
    have hf := four_toNat (UInt32.ofInt (idx a)) (UInt32.ofInt (idx b)) (UInt32.ofInt (idx c)) (UInt32.ofInt (idx d)) (by omega) (by omega) (by omega) (by omega)
    generalize four (UInt32.ofInt (idx a)) (UInt32.ofInt (idx b)) (UInt32.ofInt (idx c)) (UInt32.ofInt (idx d)) = F at hf
    have hF : (F.toNat : Int) = idx a * 262144 + idx b * 4096 + idx c * 64 + idx d := by omega
    have t1 : ((F >>> 16).toUInt8).toNat = F.toNat / 65536 % 256 := by
      rw [UInt32.toNat_toUInt8, UInt32.toNat_shiftRight]; simp [Nat.shiftRight_eq_div_pow]
    have t2 : ((F >>> 8).toUInt8).toNat = F.toNat / 256 % 256 := by
      rw [UInt32.toNat_toUInt8, UInt32.toNat_shiftRight]; simp [Nat.shiftRight_eq_div_pow]
    have t3 : (F.toUInt8).toNat = F.toNat % 256 := by
      rw [UInt32.toNat_toUInt8]
    generalize (F >>> 16).toUInt8 = x at t1
    generalize (F >>> 8).toUInt8 = y at t2
    generalize F.toUInt8 = z at t3
    have hN := n3 x y z
    simp only [enc, lets4, ih]
    generalize num3 x.toUInt32 y.toUInt32 z.toUInt32 = M at hN
    have hM : (M.toNat : Int) = idx a * 262144 + idx b * 4096 + idx c * 64 + idx d := by omega
    rw [let_of M a ha (by omega), let_of (M <<< 6) b hb (by rw [shl6_toNat]; omega), let_of (M <<< 6 <<< 6) c hc (by rw [shl6_toNat, shl6_toNat]; omega), let_of (M <<< 6 <<< 6 <<< 6) d hd (by rw [shl6_toNat, shl6_toNat, shl6_toNat]; omega)]
    rfl
theorem decN_len : ∀ (n : List UInt32) (out : List UInt8), decN n = some out → out.length ≤ n.length
  | [], out, h => by simp [decN] at h; subst h; simp
  | [a], out, h => by simp [decN] at h
  | [a, b], out, h => by
    simp only [decN] at h
    split at h
    · obtain rfl := Option.some.inj h; simp
    · cases h
  | [a, b, c], out, h => by
    simp only [decN] at h
    split at h
    · obtain rfl := Option.some.inj h; simp
    · cases h
  | a :: b :: c :: d :: t, out, h => by
    simp only [decN] at h
    obtain ⟨o, ho, rfl⟩ := Option.map_eq_some_iff.1 h
    have := decN_len t o ho
    simp; omega
end Go.Proofs.YtdlaoeepeakpeaaGreat.Tx


/- Walks of strings.IndexByte and of text.Token. -/
namespace Go.Proofs.YtdlaoeepeakpeaaGreat
set_option linter.unusedVariables false
set_option linter.unusedSimpArgs false
open Go.RowKit Px Tx
theorem bytealg_any (l : List UInt8) (c : UInt8) (w0 : World) (h : PH) :
    PCalls Tryz.prog w0 84 [str l, u8 c] h fun v h' => v = .int .i64 (Lib.indexByte l c) ∧ h' = h := by
  refine PCalls_value (.int .i64 (Lib.indexByte l c)) (fun w => ?_) ⟨rfl, rfl⟩
  rw [@run_callFunc_extern Tryz.prog 84 _ Extern.BytealgIndexByte.indexByte Tryz.func84 (by kernel_rfl) (by kernel_rfl) (by kernel_rfl) (by kernel_rfl)]
  have := Lib.run_indexByteString (P := Tryz.prog) ⟨l.toArray⟩ c.toNat w
  unfold str u8
  simp [this]
theorem index_lite (l : List UInt8) (c : UInt8) (w0 : World) (h : PH) :
    PCalls Tryz.prog w0 73 [str l, u8 c] h fun v h' => v = .int .i64 (Lib.indexByte l c) ∧ h' = h := by
  refine PCalls_body Tryz.func73 (by kernel_rfl) rfl _ Tryz.ntmps73 (by kernel_rfl) (by kernel_rfl) _ Tryz.results73 ?_
  simp -dsimp -implicitDefEqProofs (disch := first | omega | assumption | (simp only [Option.isSome_some,Qt0]; done) | (simp only [List.length_cons,List.length_nil,List.length_append,Int.toNat_natCast] <;> omega)) only [Nat.reduceLT,Nat.reduceLeDiff,Nat.reduceEqDiff,↓reduceIte,Int.reduceLT,Int.reduceLE,Int.reduceToNat,Int.reduceEq,Int.reduceNe,Nat.reduceAdd,Int.reduceAdd,Int.reduceSub,Int.reduceMul,Nat.reduceMul,Qp0,Ql0,Qe0]
  refine (bytealg_any l c w0 h).mono ?_
  rintro v h' ⟨rfl, rfl⟩
  simp -dsimp -implicitDefEqProofs (disch := first | omega | assumption | (simp only [Option.isSome_some,Qt0]; done) | (simp only [List.length_cons,List.length_nil,List.length_append,Int.toNat_natCast] <;> omega)) only [Nat.reduceLT,Nat.reduceLeDiff,Nat.reduceEqDiff,↓reduceIte,Int.reduceLT,Int.reduceLE,Int.reduceToNat,Int.reduceEq,Int.reduceNe,Nat.reduceAdd,Int.reduceAdd,Int.reduceSub,Int.reduceMul,Nat.reduceMul,Qp0,Ql0,Qe0]
  exact ⟨_, PH.Le.refl _, by simp, rfl⟩
theorem index_any (l : List UInt8) (c : UInt8) (w0 : World) (h : PH) :
    PCalls Tryz.prog w0 51 [str l, u8 c] h fun v h' => v = .int .i64 (Lib.indexByte l c) ∧ h' = h := by
  refine PCalls_body Tryz.func51 (by kernel_rfl) rfl _ Tryz.ntmps51 (by kernel_rfl) (by kernel_rfl) _ Tryz.results51 ?_
  simp -dsimp -implicitDefEqProofs (disch := first | omega | assumption | (simp only [Option.isSome_some,Qt0]; done) | (simp only [List.length_cons,List.length_nil,List.length_append,Int.toNat_natCast] <;> omega)) only [Nat.reduceLT,Nat.reduceLeDiff,Nat.reduceEqDiff,↓reduceIte,Int.reduceLT,Int.reduceLE,Int.reduceToNat,Int.reduceEq,Int.reduceNe,Nat.reduceAdd,Int.reduceAdd,Int.reduceSub,Int.reduceMul,Nat.reduceMul,Qp0,Ql0,Qe0]
  refine (index_lite l c w0 h).mono ?_
  rintro v h' ⟨rfl, rfl⟩
  simp -dsimp -implicitDefEqProofs (disch := first | omega | assumption | (simp only [Option.isSome_some,Qt0]; done) | (simp only [List.length_cons,List.length_nil,List.length_append,Int.toNat_natCast] <;> omega)) only [Nat.reduceLT,Nat.reduceLeDiff,Nat.reduceEqDiff,↓reduceIte,Int.reduceLT,Int.reduceLE,Int.reduceToNat,Int.reduceEq,Int.reduceNe,Nat.reduceAdd,Int.reduceAdd,Int.reduceSub,Int.reduceMul,Nat.reduceMul,Qp0,Ql0,Qe0]
  exact ⟨_, PH.Le.refl _, by simp, rfl⟩
end Go.Proofs.YtdlaoeepeakpeaaGreat


/- Walk of text.Dec where the letters are right: the bytes of letters. -/
namespace Go.Proofs.YtdlaoeepeakpeaaGreat
set_option linter.unusedVariables false
set_option linter.unusedSimpArgs false
open Go.RowKit Px Tx
theorem info_u8d : (Tryz.prog.info? 5).map (fun i => (i.zero, i.size, i.bytes)) = some (some (.int .u8 0), 1, 1) := by kernel_rfl
theorem el_u8d : El Tryz.prog 74 5 (.int .u8 0) 1 1 := ⟨Tryz.underlying74, info_parts info_u8d, rfl, by decide⟩
theorem info_u32t : (Tryz.prog.info? 102).map (fun i => (i.zero, i.size, i.bytes)) = some (some (.int .u32 0), 1, 4) := by kernel_rfl
theorem el_u32t : El Tryz.prog 104 102 (.int .u32 0) 1 4 := ⟨Tryz.underlying104, info_parts info_u32t, rfl, by decide⟩
def wst (l : List UInt32) : List Value := l.map u32
theorem wst_one (l : List UInt32) : allOne (wst l) := by
  intro v hv
  obtain ⟨_, _, rfl⟩ := List.mem_map.1 hv
  rfl
theorem rd_ws {w0 : World} {h : PH} {b o lim : Nat} {N r : List UInt32} (hb : h.m b = some ⟨wst N, lim⟩) (hr : N.drop o = r) {j : Nat} {x : UInt32} (hx : r[j]? = some x) : rd w0 h ⟨b, o + j, none⟩ = some (u32 x) := by
  unfold rd
  simp only [if_true, hb]
  rw [← hr, List.getElem?_drop] at hx
  simp [wst, hx]
theorem dec_split {a x y z : UInt32} {t : List UInt32} {d out : List UInt8} (hd : (decN (a :: x :: y :: z :: t)).map (d ++ ·) = some out) :
    (decN t).map ((d ++ [(four a x y z >>> 16).toUInt8, (four a x y z >>> 8).toUInt8, (four a x y z).toUInt8]) ++ ·) = some out := by
  rw [← hd]
  simp only [decN, Option.map_map]
  congr 1
  funext o
  simp
theorem nums_snoc (s : List UInt8) (k : Nat) (h : k < s.length) : wst (nums (s.take k)) ++ [u32 (UInt32.ofInt (idx (s.getD k 0)))] = wst (nums (s.take (k + 1))) := by
  rw [take_snoc8 s k h]; simp [wst, nums]
set_option maxRecDepth 20000 in
set_option maxHeartbeats 4000000 in
theorem dec_good (s out : List UInt8) (w0 : World) (h : PH) (hs : s.length ≤ 4000000) (hg : ∀ c ∈ s, 0 ≤ idx c) (hd : decN (nums s) = some out) :
    PCalls Tryz.prog w0 28 [str s] h fun v h' => v = .tuple #[str out, .nilIface] ∧ h' = h := by
  refine PCalls_body Tryz.func28 (by kernel_rfl) rfl _ Tryz.ntmps28 (by kernel_rfl) (by kernel_rfl) _ Tryz.results28 ?_
  simp -dsimp -implicitDefEqProofs (disch := first | omega | assumption | (simp only [Option.isSome_some,Qt0]; done) | (simp only [UInt64.reduceToNat,UInt32.reduceToNat,UInt8.reduceToNat,List.length_cons,List.length_nil,List.length_append,Int.toNat_natCast] <;> omega)) only [Nat.reduceLT,Nat.reduceLeDiff,Nat.reduceEqDiff,↓reduceIte,Int.reduceLT,Int.reduceLE,Int.reduceToNat,Int.reduceEq,Int.reduceNe,Nat.reduceAdd,UInt8.reduceOfNat,UInt16.reduceOfNat,UInt32.reduceOfNat,UInt64.reduceOfNat,UInt64.reduceToNat,UInt32.reduceToNat,UInt16.reduceToNat,UInt8.reduceToNat,Int.reduceAdd,Int.reduceSub,Int.reduceMul,Nat.reduceMul,Qp0,Ql0,Qe0]
  refine PW_loop (fun n f h' => ∃ (k : Nat) (v : Value), k ≤ s.length ∧ n = s.length - k ∧ f 0 = some (str s) ∧ f 5 = some (.int .i64 k) ∧ f 4 = some v ∧ OwnS h h' 1 v k (wst (nums (s.take k)))) (by kernel_rfl) s.length ⟨0, .slice none 0 0, by omega, by omega, ?_, ?_, ?_, OwnS.nil h 1⟩ ?_
  · simp -dsimp -implicitDefEqProofs (disch := first | omega | assumption | (simp only [Option.isSome_some,Qt0]; done) | (simp only [UInt64.reduceToNat,UInt32.reduceToNat,UInt8.reduceToNat,List.length_cons,List.length_nil,List.length_append,Int.toNat_natCast] <;> omega)) only [Nat.reduceLT,Nat.reduceLeDiff,Nat.reduceEqDiff,↓reduceIte,Int.reduceLT,Int.reduceLE,Int.reduceToNat,Int.reduceEq,Int.reduceNe,Nat.reduceAdd,UInt8.reduceOfNat,UInt16.reduceOfNat,UInt32.reduceOfNat,UInt64.reduceOfNat,UInt64.reduceToNat,UInt32.reduceToNat,UInt16.reduceToNat,UInt8.reduceToNat,Int.reduceAdd,Int.reduceSub,Int.reduceMul,Nat.reduceMul,Qp0,Ql0,Qe0]
  · simp -dsimp -implicitDefEqProofs (disch := first | omega | assumption | (simp only [Option.isSome_some,Qt0]; done) | (simp only [UInt64.reduceToNat,UInt32.reduceToNat,UInt8.reduceToNat,List.length_cons,List.length_nil,List.length_append,Int.toNat_natCast] <;> omega)) only [Nat.reduceLT,Nat.reduceLeDiff,Nat.reduceEqDiff,↓reduceIte,Int.reduceLT,Int.reduceLE,Int.reduceToNat,Int.reduceEq,Int.reduceNe,Nat.reduceAdd,UInt8.reduceOfNat,UInt16.reduceOfNat,UInt32.reduceOfNat,UInt64.reduceOfNat,UInt64.reduceToNat,UInt32.reduceToNat,UInt16.reduceToNat,UInt8.reduceToNat,Int.reduceAdd,Int.reduceSub,Int.reduceMul,Nat.reduceMul,Qp0,Ql0,Qe0]
  · simp -dsimp -implicitDefEqProofs (disch := first | omega | assumption | (simp only [Option.isSome_some,Qt0]; done) | (simp only [UInt64.reduceToNat,UInt32.reduceToNat,UInt8.reduceToNat,List.length_cons,List.length_nil,List.length_append,Int.toNat_natCast] <;> omega)) only [Nat.reduceLT,Nat.reduceLeDiff,Nat.reduceEqDiff,↓reduceIte,Int.reduceLT,Int.reduceLE,Int.reduceToNat,Int.reduceEq,Int.reduceNe,Nat.reduceAdd,UInt8.reduceOfNat,UInt16.reduceOfNat,UInt32.reduceOfNat,UInt64.reduceOfNat,UInt64.reduceToNat,UInt32.reduceToNat,UInt16.reduceToNat,UInt8.reduceToNat,Int.reduceAdd,Int.reduceSub,Int.reduceMul,Nat.reduceMul,Qp0,Ql0,Qe0]
  rintro n f h' ⟨k, v, hk, rfl, h0, h5, h4, how⟩
  by_cases hlt : k < s.length
  · have hn := nums_snoc s k hlt
    obtain ⟨c, hc⟩ : ∃ c, c = s.getD k 0 := ⟨_, rfl⟩
    have hin : c ∈ s := by rw [hc, List.getD, List.getElem?_eq_getElem hlt]; exact List.getElem_mem hlt
    have hcg := hg c hin
    rw [← hc] at hn
    have hcall : PCalls Tryz.prog w0 51 [str [65, 66, 67, 68, 69, 70, 71, 72, 73, 74, 75, 76, 77, 78, 79, 80, 81, 82, 83, 84, 85, 86, 87, 88, 89, 90, 97, 98, 99, 100, 101, 102, 103, 104, 105, 106, 107, 108, 109, 110, 111, 112, 113, 114, 115, 116, 117, 118, 119, 120, 121, 122, 48, 49, 50, 51, 52, 53, 54, 55, 56, 57, 45, 95], u8 c] h' fun v h2 => v = .int .i64 (idx c) ∧ h2 = h' := index_any letters c w0 h'
    simp -dsimp -implicitDefEqProofs (disch := first | omega | assumption | (simp only [Option.isSome_some,Qt0]; done) | (simp only [UInt64.reduceToNat,UInt32.reduceToNat,UInt8.reduceToNat,List.length_cons,List.length_nil,List.length_append,Int.toNat_natCast] <;> omega)) only [Nat.reduceLT,Nat.reduceLeDiff,Nat.reduceEqDiff,↓reduceIte,Int.reduceLT,Int.reduceLE,Int.reduceToNat,Int.reduceEq,Int.reduceNe,Nat.reduceAdd,UInt8.reduceOfNat,UInt16.reduceOfNat,UInt32.reduceOfNat,UInt64.reduceOfNat,UInt64.reduceToNat,UInt32.reduceToNat,UInt16.reduceToNat,UInt8.reduceToNat,Int.reduceAdd,Int.reduceSub,Int.reduceMul,Nat.reduceMul,Qp0,Ql0,Qe0,h0,h5,← hc]
    refine hcall.mono ?_
    rintro u h2 ⟨rfl, rfl⟩
    simp -dsimp -implicitDefEqProofs (disch := first | omega | assumption | (simp only [Option.isSome_some,Qt0]; done) | (simp only [UInt64.reduceToNat,UInt32.reduceToNat,UInt8.reduceToNat,List.length_cons,List.length_nil,List.length_append,Int.toNat_natCast] <;> omega)) only [Nat.reduceLT,Nat.reduceLeDiff,Nat.reduceEqDiff,↓reduceIte,Int.reduceLT,Int.reduceLE,Int.reduceToNat,Int.reduceEq,Int.reduceNe,Nat.reduceAdd,UInt8.reduceOfNat,UInt16.reduceOfNat,UInt32.reduceOfNat,UInt64.reduceOfNat,UInt64.reduceToNat,UInt32.reduceToNat,UInt16.reduceToNat,UInt8.reduceToNat,Int.reduceAdd,Int.reduceSub,Int.reduceMul,Nat.reduceMul,Qp0,Ql0,Qe0,h0,h5,h4]
    refine Does_one (v := u32 _) el_u32t rfl (by omega) (fun gb hgb => ?_)
    simp -dsimp -implicitDefEqProofs (disch := first | omega | assumption | (simp only [Option.isSome_some,Qt0]; done) | (simp only [UInt64.reduceToNat,UInt32.reduceToNat,UInt8.reduceToNat,List.length_cons,List.length_nil,List.length_append,Int.toNat_natCast] <;> omega)) only [Nat.reduceLT,Nat.reduceLeDiff,Nat.reduceEqDiff,↓reduceIte,Int.reduceLT,Int.reduceLE,Int.reduceToNat,Int.reduceEq,Int.reduceNe,Nat.reduceAdd,UInt8.reduceOfNat,UInt16.reduceOfNat,UInt32.reduceOfNat,UInt64.reduceOfNat,UInt64.reduceToNat,UInt32.reduceToNat,UInt16.reduceToNat,UInt8.reduceToNat,Int.reduceAdd,Int.reduceSub,Int.reduceMul,Nat.reduceMul,Qp0,Ql0,Qe0,h0,h5,h4]
    refine Does_app el_u32t (how.more ((PH.Le.refl _).new _ _ hgb)).own (Rs.blk (k := ⟨[u32 (UInt32.ofInt (idx c))], 1⟩) (by rw [PH.new_m, if_pos rfl]; rfl) rfl) (wst_one [UInt32.ofInt (idx c)]) (by unfold maxLen; omega) (by omega) (fun v' h3' ho hst => ?_)
    have hou' := (how.more ((PH.Le.refl _).new _ _ hgb)).stays hst ho
    rw [hn] at hou'
    simp -dsimp -implicitDefEqProofs (disch := first | omega | assumption | (simp only [Option.isSome_some,Qt0]; done) | (simp only [UInt64.reduceToNat,UInt32.reduceToNat,UInt8.reduceToNat,List.length_cons,List.length_nil,List.length_append,Int.toNat_natCast] <;> omega)) only [Nat.reduceLT,Nat.reduceLeDiff,Nat.reduceEqDiff,↓reduceIte,Int.reduceLT,Int.reduceLE,Int.reduceToNat,Int.reduceEq,Int.reduceNe,Nat.reduceAdd,UInt8.reduceOfNat,UInt16.reduceOfNat,UInt32.reduceOfNat,UInt64.reduceOfNat,UInt64.reduceToNat,UInt32.reduceToNat,UInt16.reduceToNat,UInt8.reduceToNat,Int.reduceAdd,Int.reduceSub,Int.reduceMul,Nat.reduceMul,Qp0,Ql0,Qe0,h0,h5,h4]
    refine ⟨_, h3', by omega, PH.Le.refl _, k + 1, v', by omega, rfl, ?_, ?_, ?_, hou'⟩
    · first | rfl | (simp; done)
    · first | rfl | (simp; done)
    · first | rfl | (simp; done)
  · obtain rfl : k = s.length := by omega
    rw [List.take_length] at how
    obtain ⟨A0, c0, rfl, hc0⟩ := how.own.len
    have hNl : (nums s).length = s.length := by simp [nums]
    simp -dsimp -implicitDefEqProofs (disch := first | omega | assumption | (simp only [Option.isSome_some,Qt0]; done) | (simp only [UInt64.reduceToNat,UInt32.reduceToNat,UInt8.reduceToNat,List.length_cons,List.length_nil,List.length_append,Int.toNat_natCast] <;> omega)) only [Nat.reduceLT,Nat.reduceLeDiff,Nat.reduceEqDiff,↓reduceIte,Int.reduceLT,Int.reduceLE,Int.reduceToNat,Int.reduceEq,Int.reduceNe,Nat.reduceAdd,UInt8.reduceOfNat,UInt16.reduceOfNat,UInt32.reduceOfNat,UInt64.reduceOfNat,UInt64.reduceToNat,UInt32.reduceToNat,UInt16.reduceToNat,UInt8.reduceToNat,Int.reduceAdd,Int.reduceSub,Int.reduceMul,Nat.reduceMul,Qp0,Ql0,Qe0,h0,h5,h4]
    refine PW_loop (fun n f h2 => ∃ (r : List UInt32) (d : List UInt8) (A : Option Addr) (c o : Nat) (u : Value), r.length = n ∧ f 0 = some (str s) ∧ f 4 = some (.slice A r.length c) ∧ f 7 = some u ∧ OwnS h' h2 1 u d.length (bs d) ∧ (decN r).map (d ++ ·) = some out ∧ d.length + r.length ≤ s.length ∧ r.length ≤ c ∧ (0 < r.length → ∃ b lim, A = some ⟨b, o, none⟩ ∧ h'.m b = some ⟨wst (nums s), lim⟩) ∧ (nums s).drop o = r) (by kernel_rfl) s.length
      ⟨nums s, [], A0, c0, 0, .slice none 0 0, hNl, ?_, ?_, ?_, OwnS.nil h' 1, by rw [hd]; rfl, by rw [hNl]; simp, by rw [hNl]; exact hc0, ?_, rfl⟩ ?_
    · simp -dsimp -implicitDefEqProofs (disch := first | omega | assumption | (simp only [Option.isSome_some,Qt0]; done) | (simp only [UInt64.reduceToNat,UInt32.reduceToNat,UInt8.reduceToNat,List.length_cons,List.length_nil,List.length_append,Int.toNat_natCast] <;> omega)) only [Nat.reduceLT,Nat.reduceLeDiff,Nat.reduceEqDiff,↓reduceIte,Int.reduceLT,Int.reduceLE,Int.reduceToNat,Int.reduceEq,Int.reduceNe,Nat.reduceAdd,UInt8.reduceOfNat,UInt16.reduceOfNat,UInt32.reduceOfNat,UInt64.reduceOfNat,UInt64.reduceToNat,UInt32.reduceToNat,UInt16.reduceToNat,UInt8.reduceToNat,Int.reduceAdd,Int.reduceSub,Int.reduceMul,Nat.reduceMul,Qp0,Ql0,Qe0,h0]
    · simp -dsimp -implicitDefEqProofs (disch := first | omega | assumption | (simp only [Option.isSome_some,Qt0]; done) | (simp only [UInt64.reduceToNat,UInt32.reduceToNat,UInt8.reduceToNat,List.length_cons,List.length_nil,List.length_append,Int.toNat_natCast] <;> omega)) only [Nat.reduceLT,Nat.reduceLeDiff,Nat.reduceEqDiff,↓reduceIte,Int.reduceLT,Int.reduceLE,Int.reduceToNat,Int.reduceEq,Int.reduceNe,Nat.reduceAdd,UInt8.reduceOfNat,UInt16.reduceOfNat,UInt32.reduceOfNat,UInt64.reduceOfNat,UInt64.reduceToNat,UInt32.reduceToNat,UInt16.reduceToNat,UInt8.reduceToNat,Int.reduceAdd,Int.reduceSub,Int.reduceMul,Nat.reduceMul,Qp0,Ql0,Qe0,h4,hNl]
    · simp -dsimp -implicitDefEqProofs (disch := first | omega | assumption | (simp only [Option.isSome_some,Qt0]; done) | (simp only [UInt64.reduceToNat,UInt32.reduceToNat,UInt8.reduceToNat,List.length_cons,List.length_nil,List.length_append,Int.toNat_natCast] <;> omega)) only [Nat.reduceLT,Nat.reduceLeDiff,Nat.reduceEqDiff,↓reduceIte,Int.reduceLT,Int.reduceLE,Int.reduceToNat,Int.reduceEq,Int.reduceNe,Nat.reduceAdd,UInt8.reduceOfNat,UInt16.reduceOfNat,UInt32.reduceOfNat,UInt64.reduceOfNat,UInt64.reduceToNat,UInt32.reduceToNat,UInt16.reduceToNat,UInt8.reduceToNat,Int.reduceAdd,Int.reduceSub,Int.reduceMul,Nat.reduceMul,Qp0,Ql0,Qe0]
    · intro hp
      obtain ⟨b, c, e, _, hb⟩ := how.own.pos (by rw [hNl] at hp; exact hp)
      injection e with e1 e2 e3
      exact ⟨b, _, e1, hb⟩
    rintro n f2 h2 ⟨r, d, A, c, o, u, rfl, g0, g4, g7, hou, hdec, hbd, hrc, hA, hdr⟩
    rcases r with _ | ⟨a, _ | ⟨x, _ | ⟨y, _ | ⟨z, t⟩⟩⟩⟩
    · have hout : out = d := by simpa [decN] using hdec.symm
      obtain ⟨A7, c7, rfl, _⟩ := hou.own.len
      simp -dsimp -implicitDefEqProofs (disch := first | omega | assumption | (simp only [Option.isSome_some,Qt0]; done) | (simp only [UInt64.reduceToNat,UInt32.reduceToNat,UInt8.reduceToNat,List.length_cons,List.length_nil,List.length_append,Int.toNat_natCast] <;> omega)) only [Nat.reduceLT,Nat.reduceLeDiff,Nat.reduceEqDiff,↓reduceIte,Int.reduceLT,Int.reduceLE,Int.reduceToNat,Int.reduceEq,Int.reduceNe,Nat.reduceAdd,UInt8.reduceOfNat,UInt16.reduceOfNat,UInt32.reduceOfNat,UInt64.reduceOfNat,UInt64.reduceToNat,UInt32.reduceToNat,UInt16.reduceToNat,UInt8.reduceToNat,Int.reduceAdd,Int.reduceSub,Int.reduceMul,Nat.reduceMul,Qp0,Ql0,Qe0,g0,g4,g7]
      refine vtext_own Tryz.underlying74 Tryz.underlying5 Tryz.underlying9 (Rs.own hou.own) ?_ ?_
      · rintro rfl; rcases hou.own.2 with ⟨_, h1⟩ | ⟨b, c', h1, _⟩
        · exact h1
        · cases h1
      · simp -dsimp -implicitDefEqProofs (disch := first | omega | assumption | (simp only [Option.isSome_some,Qt0]; done) | (simp only [UInt64.reduceToNat,UInt32.reduceToNat,UInt8.reduceToNat,List.length_cons,List.length_nil,List.length_append,Int.toNat_natCast] <;> omega)) only [Nat.reduceLT,Nat.reduceLeDiff,Nat.reduceEqDiff,↓reduceIte,Int.reduceLT,Int.reduceLE,Int.reduceToNat,Int.reduceEq,Int.reduceNe,Nat.reduceAdd,UInt8.reduceOfNat,UInt16.reduceOfNat,UInt32.reduceOfNat,UInt64.reduceOfNat,UInt64.reduceToNat,UInt32.reduceToNat,UInt16.reduceToNat,UInt8.reduceToNat,Int.reduceAdd,Int.reduceSub,Int.reduceMul,Nat.reduceMul,Qp0,Ql0,Qe0]
        exact ⟨_, how.le.trans hou.le, by rw [hout], rfl⟩
    · simp [decN] at hdec
    · have hif : x &&& 15 = 0 := by
        by_cases hz : x &&& 15 = 0
        · exact hz
        · simp [decN, hz] at hdec
      have hout : out = d ++ [two a x] := by simpa [decN, hif] using hdec.symm
      obtain ⟨b, lim, rfl, hb⟩ := hA (by simp)
      have R : ∀ hh, PH.Le h' hh → ∀ {j : Nat} {v : UInt32}, [a, x][j]? = some v → rd w0 hh ⟨b, o + j, none⟩ = some (u32 v) := fun hh hl j v hv => rd_ws (hl.m b _ hb) hdr hv
      have r0 : rd w0 h' ⟨b, o, none⟩ = some (u32 a) := R h' (PH.Le.refl _) (j := 0) rfl
      have r1 : rd w0 h' ⟨b, o + 1, none⟩ = some (u32 x) := R h' (PH.Le.refl _) (j := 1) rfl
      simp -dsimp -implicitDefEqProofs (disch := first | omega | assumption | (simp only [Option.isSome_some,Qt0]; done) | (simp only [UInt64.reduceToNat,UInt32.reduceToNat,UInt8.reduceToNat,List.length_cons,List.length_nil,List.length_append,Int.toNat_natCast] <;> omega)) only [Nat.reduceLT,Nat.reduceLeDiff,Nat.reduceEqDiff,↓reduceIte,Int.reduceLT,Int.reduceLE,Int.reduceToNat,Int.reduceEq,Int.reduceNe,Nat.reduceAdd,UInt8.reduceOfNat,UInt16.reduceOfNat,UInt32.reduceOfNat,UInt64.reduceOfNat,UInt64.reduceToNat,UInt32.reduceToNat,UInt16.reduceToNat,UInt8.reduceToNat,Int.reduceAdd,Int.reduceSub,Int.reduceMul,Nat.reduceMul,Qp0,Ql0,Qe0,g0,g4,g7]
      refine PW_drawn 11 h' (by kernel_rfl) (by kernel_rfl) (by kernel_rfl) (by kernel_rfl) (by kernel_rfl) (fun c f h hq => by simp only [thenC_panic, thenK_panic, inBlk_panic, thenN_panic, vcRet_panic] at hq) hou.le.sub ?_
      simp -dsimp -implicitDefEqProofs (disch := first | omega | assumption | (simp only [Option.isSome_some,Qt0]; done) | (simp only [UInt64.reduceToNat,UInt32.reduceToNat,UInt8.reduceToNat,List.length_cons,List.length_nil,List.length_append,Int.toNat_natCast] <;> omega)) only [Nat.reduceLT,Nat.reduceLeDiff,Nat.reduceEqDiff,↓reduceIte,Int.reduceLT,Int.reduceLE,Int.reduceToNat,Int.reduceEq,Int.reduceNe,Nat.reduceAdd,UInt8.reduceOfNat,UInt16.reduceOfNat,UInt32.reduceOfNat,UInt64.reduceOfNat,UInt64.reduceToNat,UInt32.reduceToNat,UInt16.reduceToNat,UInt8.reduceToNat,Int.reduceAdd,Int.reduceSub,Int.reduceMul,Nat.reduceMul,Qp0,Ql0,Qe0,g0,g4,g7,r0,r1]
      refine Does_cells (vs := bs [two a x]) el_u8d rfl (by omega) (by omega) (fill1 _) (fun gb hgb => ?_)
      simp -dsimp -implicitDefEqProofs (disch := first | omega | assumption | (simp only [Option.isSome_some,Qt0]; done) | (simp only [UInt64.reduceToNat,UInt32.reduceToNat,UInt8.reduceToNat,List.length_cons,List.length_nil,List.length_append,Int.toNat_natCast] <;> omega)) only [Nat.reduceLT,Nat.reduceLeDiff,Nat.reduceEqDiff,↓reduceIte,Int.reduceLT,Int.reduceLE,Int.reduceToNat,Int.reduceEq,Int.reduceNe,Nat.reduceAdd,UInt8.reduceOfNat,UInt16.reduceOfNat,UInt32.reduceOfNat,UInt64.reduceOfNat,UInt64.reduceToNat,UInt32.reduceToNat,UInt16.reduceToNat,UInt8.reduceToNat,Int.reduceAdd,Int.reduceSub,Int.reduceMul,Nat.reduceMul,Qp0,Ql0,Qe0,g0,g4,g7]
      refine ⟨(hou.le.new _ _ (Nat.le_trans hou.le.top hgb)).sub, ?_⟩
      simp -dsimp -implicitDefEqProofs (disch := first | omega | assumption | (simp only [Option.isSome_some,Qt0]; done) | (simp only [UInt64.reduceToNat,UInt32.reduceToNat,UInt8.reduceToNat,List.length_cons,List.length_nil,List.length_append,Int.toNat_natCast] <;> omega)) only [Nat.reduceLT,Nat.reduceLeDiff,Nat.reduceEqDiff,↓reduceIte,Int.reduceLT,Int.reduceLE,Int.reduceToNat,Int.reduceEq,Int.reduceNe,Nat.reduceAdd,UInt8.reduceOfNat,UInt16.reduceOfNat,UInt32.reduceOfNat,UInt64.reduceOfNat,UInt64.reduceToNat,UInt32.reduceToNat,UInt16.reduceToNat,UInt8.reduceToNat,Int.reduceAdd,Int.reduceSub,Int.reduceMul,Nat.reduceMul,Qp0,Ql0,Qe0,g0,g4,g7]
      refine Does_app el_u8d (hou.more ((PH.Le.refl _).new _ _ hgb)).own (Rs.blk (k := ⟨bs [two a x], 1⟩) (by rw [PH.new_m, if_pos rfl]) rfl) (bs_one _) (by simp at hbd; unfold maxLen; omega) (by simp at hbd; omega) (fun v' h3' ho hst => ?_)
      have hou' := (hou.more ((PH.Le.refl _).new _ _ hgb)).stays hst ho
      rw [← bs_append] at hou'
      simp -dsimp -implicitDefEqProofs (disch := first | omega | assumption | (simp only [Option.isSome_some,Qt0]; done) | (simp only [UInt64.reduceToNat,UInt32.reduceToNat,UInt8.reduceToNat,List.length_cons,List.length_nil,List.length_append,Int.toNat_natCast] <;> omega)) only [Nat.reduceLT,Nat.reduceLeDiff,Nat.reduceEqDiff,↓reduceIte,Int.reduceLT,Int.reduceLE,Int.reduceToNat,Int.reduceEq,Int.reduceNe,Nat.reduceAdd,UInt8.reduceOfNat,UInt16.reduceOfNat,UInt32.reduceOfNat,UInt64.reduceOfNat,UInt64.reduceToNat,UInt32.reduceToNat,UInt16.reduceToNat,UInt8.reduceToNat,Int.reduceAdd,Int.reduceSub,Int.reduceMul,Nat.reduceMul,Qp0,Ql0,Qe0,g0,g4,g7]
      refine ⟨hou'.le.sub, ?_⟩
      have q1 : rd w0 h3' ⟨b, o + 1, none⟩ = some (u32 x) := R h3' hou'.le (j := 1) rfl
      obtain ⟨A7, c7, rfl, _⟩ := hou'.own.len
      simp -dsimp -implicitDefEqProofs (disch := first | omega | assumption | (simp only [Option.isSome_some,Qt0]; done) | (simp only [UInt64.reduceToNat,UInt32.reduceToNat,UInt8.reduceToNat,List.length_cons,List.length_nil,List.length_append,Int.toNat_natCast] <;> omega)) only [Nat.reduceLT,Nat.reduceLeDiff,Nat.reduceEqDiff,↓reduceIte,Int.reduceLT,Int.reduceLE,Int.reduceToNat,Int.reduceEq,Int.reduceNe,Nat.reduceAdd,UInt8.reduceOfNat,UInt16.reduceOfNat,UInt32.reduceOfNat,UInt64.reduceOfNat,UInt64.reduceToNat,UInt32.reduceToNat,UInt16.reduceToNat,UInt8.reduceToNat,Int.reduceAdd,Int.reduceSub,Int.reduceMul,Nat.reduceMul,Qp0,Ql0,Qe0,g0,g4,g7,q1,hif]
      refine vtext_own Tryz.underlying74 Tryz.underlying5 Tryz.underlying9 (Rs.own (by simpa using hou'.own)) ?_ ?_
      · rintro rfl; rcases hou'.own.2 with ⟨_, h1⟩ | ⟨b, c', h1, _⟩
        · exact h1
        · cases h1
      · simp -dsimp -implicitDefEqProofs (disch := first | omega | assumption | (simp only [Option.isSome_some,Qt0]; done) | (simp only [UInt64.reduceToNat,UInt32.reduceToNat,UInt8.reduceToNat,List.length_cons,List.length_nil,List.length_append,Int.toNat_natCast] <;> omega)) only [Nat.reduceLT,Nat.reduceLeDiff,Nat.reduceEqDiff,↓reduceIte,Int.reduceLT,Int.reduceLE,Int.reduceToNat,Int.reduceEq,Int.reduceNe,Nat.reduceAdd,UInt8.reduceOfNat,UInt16.reduceOfNat,UInt32.reduceOfNat,UInt64.reduceOfNat,UInt64.reduceToNat,UInt32.reduceToNat,UInt16.reduceToNat,UInt8.reduceToNat,Int.reduceAdd,Int.reduceSub,Int.reduceMul,Nat.reduceMul,Qp0,Ql0,Qe0]
        exact ⟨_, how.le.trans hou'.le, by rw [hout], rfl⟩
    · have hif : y &&& 3 = 0 := by
        by_cases hz : y &&& 3 = 0
        · exact hz
        · simp [decN, hz] at hdec
      have hout : out = d ++ [two a x, three x y] := by simpa [decN, hif] using hdec.symm
      obtain ⟨b, lim, rfl, hb⟩ := hA (by simp)
      have R : ∀ hh, PH.Le h' hh → ∀ {j : Nat} {v : UInt32}, [a, x, y][j]? = some v → rd w0 hh ⟨b, o + j, none⟩ = some (u32 v) := fun hh hl j v hv => rd_ws (hl.m b _ hb) hdr hv
      have r0 : rd w0 h' ⟨b, o, none⟩ = some (u32 a) := R h' (PH.Le.refl _) (j := 0) rfl
      have r1 : rd w0 h' ⟨b, o + 1, none⟩ = some (u32 x) := R h' (PH.Le.refl _) (j := 1) rfl
      have r2 : rd w0 h' ⟨b, o + 2, none⟩ = some (u32 y) := R h' (PH.Le.refl _) (j := 2) rfl
      simp -dsimp -implicitDefEqProofs (disch := first | omega | assumption | (simp only [Option.isSome_some,Qt0]; done) | (simp only [UInt64.reduceToNat,UInt32.reduceToNat,UInt8.reduceToNat,List.length_cons,List.length_nil,List.length_append,Int.toNat_natCast] <;> omega)) only [Nat.reduceLT,Nat.reduceLeDiff,Nat.reduceEqDiff,↓reduceIte,Int.reduceLT,Int.reduceLE,Int.reduceToNat,Int.reduceEq,Int.reduceNe,Nat.reduceAdd,UInt8.reduceOfNat,UInt16.reduceOfNat,UInt32.reduceOfNat,UInt64.reduceOfNat,UInt64.reduceToNat,UInt32.reduceToNat,UInt16.reduceToNat,UInt8.reduceToNat,Int.reduceAdd,Int.reduceSub,Int.reduceMul,Nat.reduceMul,Qp0,Ql0,Qe0,g0,g4,g7]
      refine PW_drawn 21 h' (by kernel_rfl) (by kernel_rfl) (by kernel_rfl) (by kernel_rfl) (by kernel_rfl) (fun c f h hq => by simp only [thenC_panic, thenK_panic, inBlk_panic, thenN_panic, vcRet_panic] at hq) hou.le.sub ?_
      simp -dsimp -implicitDefEqProofs (disch := first | omega | assumption | (simp only [Option.isSome_some,Qt0]; done) | (simp only [UInt64.reduceToNat,UInt32.reduceToNat,UInt8.reduceToNat,List.length_cons,List.length_nil,List.length_append,Int.toNat_natCast] <;> omega)) only [Nat.reduceLT,Nat.reduceLeDiff,Nat.reduceEqDiff,↓reduceIte,Int.reduceLT,Int.reduceLE,Int.reduceToNat,Int.reduceEq,Int.reduceNe,Nat.reduceAdd,UInt8.reduceOfNat,UInt16.reduceOfNat,UInt32.reduceOfNat,UInt64.reduceOfNat,UInt64.reduceToNat,UInt32.reduceToNat,UInt16.reduceToNat,UInt8.reduceToNat,Int.reduceAdd,Int.reduceSub,Int.reduceMul,Nat.reduceMul,Qp0,Ql0,Qe0,g0,g4,g7,r0,r1,r2]
      refine Does_cells (vs := bs [two a x, three x y]) el_u8d rfl (by omega) (by omega) (fill2 _ _) (fun gb hgb => ?_)
      simp -dsimp -implicitDefEqProofs (disch := first | omega | assumption | (simp only [Option.isSome_some,Qt0]; done) | (simp only [UInt64.reduceToNat,UInt32.reduceToNat,UInt8.reduceToNat,List.length_cons,List.length_nil,List.length_append,Int.toNat_natCast] <;> omega)) only [Nat.reduceLT,Nat.reduceLeDiff,Nat.reduceEqDiff,↓reduceIte,Int.reduceLT,Int.reduceLE,Int.reduceToNat,Int.reduceEq,Int.reduceNe,Nat.reduceAdd,UInt8.reduceOfNat,UInt16.reduceOfNat,UInt32.reduceOfNat,UInt64.reduceOfNat,UInt64.reduceToNat,UInt32.reduceToNat,UInt16.reduceToNat,UInt8.reduceToNat,Int.reduceAdd,Int.reduceSub,Int.reduceMul,Nat.reduceMul,Qp0,Ql0,Qe0,g0,g4,g7]
      refine ⟨(hou.le.new _ _ (Nat.le_trans hou.le.top hgb)).sub, ?_⟩
      simp -dsimp -implicitDefEqProofs (disch := first | omega | assumption | (simp only [Option.isSome_some,Qt0]; done) | (simp only [UInt64.reduceToNat,UInt32.reduceToNat,UInt8.reduceToNat,List.length_cons,List.length_nil,List.length_append,Int.toNat_natCast] <;> omega)) only [Nat.reduceLT,Nat.reduceLeDiff,Nat.reduceEqDiff,↓reduceIte,Int.reduceLT,Int.reduceLE,Int.reduceToNat,Int.reduceEq,Int.reduceNe,Nat.reduceAdd,UInt8.reduceOfNat,UInt16.reduceOfNat,UInt32.reduceOfNat,UInt64.reduceOfNat,UInt64.reduceToNat,UInt32.reduceToNat,UInt16.reduceToNat,UInt8.reduceToNat,Int.reduceAdd,Int.reduceSub,Int.reduceMul,Nat.reduceMul,Qp0,Ql0,Qe0,g0,g4,g7]
      refine Does_app el_u8d (hou.more ((PH.Le.refl _).new _ _ hgb)).own (Rs.blk (k := ⟨bs [two a x, three x y], 2⟩) (by rw [PH.new_m, if_pos rfl]) rfl) (bs_one _) (by simp at hbd; unfold maxLen; omega) (by simp at hbd; omega) (fun v' h3' ho hst => ?_)
      have hou' := (hou.more ((PH.Le.refl _).new _ _ hgb)).stays hst ho
      rw [← bs_append] at hou'
      simp -dsimp -implicitDefEqProofs (disch := first | omega | assumption | (simp only [Option.isSome_some,Qt0]; done) | (simp only [UInt64.reduceToNat,UInt32.reduceToNat,UInt8.reduceToNat,List.length_cons,List.length_nil,List.length_append,Int.toNat_natCast] <;> omega)) only [Nat.reduceLT,Nat.reduceLeDiff,Nat.reduceEqDiff,↓reduceIte,Int.reduceLT,Int.reduceLE,Int.reduceToNat,Int.reduceEq,Int.reduceNe,Nat.reduceAdd,UInt8.reduceOfNat,UInt16.reduceOfNat,UInt32.reduceOfNat,UInt64.reduceOfNat,UInt64.reduceToNat,UInt32.reduceToNat,UInt16.reduceToNat,UInt8.reduceToNat,Int.reduceAdd,Int.reduceSub,Int.reduceMul,Nat.reduceMul,Qp0,Ql0,Qe0,g0,g4,g7]
      refine ⟨hou'.le.sub, ?_⟩
      have q2 : rd w0 h3' ⟨b, o + 2, none⟩ = some (u32 y) := R h3' hou'.le (j := 2) rfl
      obtain ⟨A7, c7, rfl, _⟩ := hou'.own.len
      simp -dsimp -implicitDefEqProofs (disch := first | omega | assumption | (simp only [Option.isSome_some,Qt0]; done) | (simp only [UInt64.reduceToNat,UInt32.reduceToNat,UInt8.reduceToNat,List.length_cons,List.length_nil,List.length_append,Int.toNat_natCast] <;> omega)) only [Nat.reduceLT,Nat.reduceLeDiff,Nat.reduceEqDiff,↓reduceIte,Int.reduceLT,Int.reduceLE,Int.reduceToNat,Int.reduceEq,Int.reduceNe,Nat.reduceAdd,UInt8.reduceOfNat,UInt16.reduceOfNat,UInt32.reduceOfNat,UInt64.reduceOfNat,UInt64.reduceToNat,UInt32.reduceToNat,UInt16.reduceToNat,UInt8.reduceToNat,Int.reduceAdd,Int.reduceSub,Int.reduceMul,Nat.reduceMul,Qp0,Ql0,Qe0,g0,g4,g7,q2,hif]
      refine vtext_own Tryz.underlying74 Tryz.underlying5 Tryz.underlying9 (Rs.own (by simpa using hou'.own)) ?_ ?_
      · rintro rfl; rcases hou'.own.2 with ⟨_, h1⟩ | ⟨b, c', h1, _⟩
        · exact h1
        · cases h1
      · simp -dsimp -implicitDefEqProofs (disch := first | omega | assumption | (simp only [Option.isSome_some,Qt0]; done) | (simp only [UInt64.reduceToNat,UInt32.reduceToNat,UInt8.reduceToNat,List.length_cons,List.length_nil,List.length_append,Int.toNat_natCast] <;> omega)) only [Nat.reduceLT,Nat.reduceLeDiff,Nat.reduceEqDiff,↓reduceIte,Int.reduceLT,Int.reduceLE,Int.reduceToNat,Int.reduceEq,Int.reduceNe,Nat.reduceAdd,UInt8.reduceOfNat,UInt16.reduceOfNat,UInt32.reduceOfNat,UInt64.reduceOfNat,UInt64.reduceToNat,UInt32.reduceToNat,UInt16.reduceToNat,UInt8.reduceToNat,Int.reduceAdd,Int.reduceSub,Int.reduceMul,Nat.reduceMul,Qp0,Ql0,Qe0]
        exact ⟨_, how.le.trans hou'.le, by rw [hout], rfl⟩
    · obtain ⟨b, lim, rfl, hb⟩ := hA (by simp)
      have R : ∀ hh, PH.Le h' hh → ∀ {j : Nat} {v : UInt32}, (a :: x :: y :: z :: t)[j]? = some v → rd w0 hh ⟨b, o + j, none⟩ = some (u32 v) := fun hh hl j v hv => rd_ws (hl.m b _ hb) hdr hv
      have r0 : rd w0 h' ⟨b, o, none⟩ = some (u32 a) := R h' (PH.Le.refl _) (j := 0) rfl
      have r1 : rd w0 h' ⟨b, o + 1, none⟩ = some (u32 x) := R h' (PH.Le.refl _) (j := 1) rfl
      have r2 : rd w0 h' ⟨b, o + 2, none⟩ = some (u32 y) := R h' (PH.Le.refl _) (j := 2) rfl
      have r3 : rd w0 h' ⟨b, o + 3, none⟩ = some (u32 z) := R h' (PH.Le.refl _) (j := 3) rfl
      simp -dsimp -implicitDefEqProofs (disch := first | omega | assumption | (simp only [Option.isSome_some,Qt0]; done) | (simp only [UInt64.reduceToNat,UInt32.reduceToNat,UInt8.reduceToNat,List.length_cons,List.length_nil,List.length_append,Int.toNat_natCast] <;> omega)) only [Nat.reduceLT,Nat.reduceLeDiff,Nat.reduceEqDiff,↓reduceIte,Int.reduceLT,Int.reduceLE,Int.reduceToNat,Int.reduceEq,Int.reduceNe,Nat.reduceAdd,UInt8.reduceOfNat,UInt16.reduceOfNat,UInt32.reduceOfNat,UInt64.reduceOfNat,UInt64.reduceToNat,UInt32.reduceToNat,UInt16.reduceToNat,UInt8.reduceToNat,Int.reduceAdd,Int.reduceSub,Int.reduceMul,Nat.reduceMul,Qp0,Ql0,Qe0,g0,g4,g7]
      refine PW_drawn 19 h' (by kernel_rfl) (by kernel_rfl) (by kernel_rfl) (by kernel_rfl) (by kernel_rfl) (fun c f h hq => by simp only [thenC_panic, thenK_panic, inBlk_panic, thenN_panic, vcRet_panic] at hq) hou.le.sub ?_
      simp -dsimp -implicitDefEqProofs (disch := first | omega | assumption | (simp only [Option.isSome_some,Qt0]; done) | (simp only [UInt64.reduceToNat,UInt32.reduceToNat,UInt8.reduceToNat,List.length_cons,List.length_nil,List.length_append,Int.toNat_natCast] <;> omega)) only [Nat.reduceLT,Nat.reduceLeDiff,Nat.reduceEqDiff,↓reduceIte,Int.reduceLT,Int.reduceLE,Int.reduceToNat,Int.reduceEq,Int.reduceNe,Nat.reduceAdd,UInt8.reduceOfNat,UInt16.reduceOfNat,UInt32.reduceOfNat,UInt64.reduceOfNat,UInt64.reduceToNat,UInt32.reduceToNat,UInt16.reduceToNat,UInt8.reduceToNat,Int.reduceAdd,Int.reduceSub,Int.reduceMul,Nat.reduceMul,Qp0,Ql0,Qe0,g0,g4,g7,r0,r1,r2,r3]
      refine Does_cells (vs := bs [(four a x y z >>> 16).toUInt8, (four a x y z >>> 8).toUInt8, (four a x y z).toUInt8]) el_u8d rfl (by omega) (by omega) (fill3 _ _ _) (fun gb hgb => ?_)
      simp -dsimp -implicitDefEqProofs (disch := first | omega | assumption | (simp only [Option.isSome_some,Qt0]; done) | (simp only [UInt64.reduceToNat,UInt32.reduceToNat,UInt8.reduceToNat,List.length_cons,List.length_nil,List.length_append,Int.toNat_natCast] <;> omega)) only [Nat.reduceLT,Nat.reduceLeDiff,Nat.reduceEqDiff,↓reduceIte,Int.reduceLT,Int.reduceLE,Int.reduceToNat,Int.reduceEq,Int.reduceNe,Nat.reduceAdd,UInt8.reduceOfNat,UInt16.reduceOfNat,UInt32.reduceOfNat,UInt64.reduceOfNat,UInt64.reduceToNat,UInt32.reduceToNat,UInt16.reduceToNat,UInt8.reduceToNat,Int.reduceAdd,Int.reduceSub,Int.reduceMul,Nat.reduceMul,Qp0,Ql0,Qe0,g0,g4,g7]
      refine Does_app el_u8d (hou.more ((PH.Le.refl _).new _ _ hgb)).own (Rs.blk (k := ⟨bs [(four a x y z >>> 16).toUInt8, (four a x y z >>> 8).toUInt8, (four a x y z).toUInt8], 3⟩) (by rw [PH.new_m, if_pos rfl]) rfl) (bs_one _) (by simp at hbd; unfold maxLen; omega) (by simp at hbd; omega) (fun v' h3' ho hst => ?_)
      have hou' := (hou.more ((PH.Le.refl _).new _ _ hgb)).stays hst ho
      rw [← bs_append] at hou'
      simp -dsimp -implicitDefEqProofs (disch := first | omega | assumption | (simp only [Option.isSome_some,Qt0]; done) | (simp only [UInt64.reduceToNat,UInt32.reduceToNat,UInt8.reduceToNat,List.length_cons,List.length_nil,List.length_append,Int.toNat_natCast] <;> omega)) only [Nat.reduceLT,Nat.reduceLeDiff,Nat.reduceEqDiff,↓reduceIte,Int.reduceLT,Int.reduceLE,Int.reduceToNat,Int.reduceEq,Int.reduceNe,Nat.reduceAdd,UInt8.reduceOfNat,UInt16.reduceOfNat,UInt32.reduceOfNat,UInt64.reduceOfNat,UInt64.reduceToNat,UInt32.reduceToNat,UInt16.reduceToNat,UInt8.reduceToNat,Int.reduceAdd,Int.reduceSub,Int.reduceMul,Nat.reduceMul,Qp0,Ql0,Qe0,g0,g4,g7]
      refine ⟨t.length, h3', by omega, PH.Le.refl _, t, d ++ [(four a x y z >>> 16).toUInt8, (four a x y z >>> 8).toUInt8, (four a x y z).toUInt8], cutAt b o 4 (decide (c = 4)), c - 4, o + 4, v', rfl, ?_, ?_, ?_, by simpa using hou', dec_split hdec, by simp at hbd ⊢; omega, by simp at hrc; omega, ?_, ?_⟩
      · first | rfl | (simp; done)
      · first | rfl | (simp; done)
      · first | rfl | (simp; done)
      · intro hp
        refine ⟨b, lim, ?_, hb⟩
        have : ¬ c = 4 := by simp at hrc; omega
        simp [cutAt, this]
      · have := congrArg (List.drop 4) hdr
        simpa [List.drop_drop, Nat.add_comm] using this
end Go.Proofs.YtdlaoeepeakpeaaGreat

