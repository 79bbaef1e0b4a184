/- The document's letters by bits are text's letters: plain facts. No condition. -/
import Derived.Test.YtdagjjicejhplaaTxP
namespace Go.Proofs.Ytdagjjicejhplaa.Tx
set_option linter.unusedVariables false
set_option linter.unusedSimpArgs false
def bit (c : UInt8) (j : Nat) : Int := ((c.toNat / 2 ^ j % 2 : Nat) : Int)
def bits8 (c : UInt8) : List Int := [bit c 7, bit c 6, bit c 5, bit c 4, bit c 3, bit c 2, bit c 1, bit c 0]
def bitsAll (s : List UInt8) : List Int := s.flatMap bits8
def padded (l : List Int) : List Int := l ++ List.replicate ((6 - l.length % 6) % 6) 0
def letAt (x : Int) : UInt8 := letters.getD x.toNat 0
def six (a b c d e f : Int) : Int := ((((((0 * 2 + a) * 2 + b) * 2 + c) * 2 + d) * 2 + e) * 2 + f)
def grp : List Int → List UInt8
  | a :: b :: c :: d :: e :: f :: t => letAt (six a b c d e f) :: grp t
  | _ => []
def refEnc (s : List UInt8) : List UInt8 := grp (padded (bitsAll s))
theorem bitsAll_length (s : List UInt8) : (bitsAll s).length = 8 * s.length := by
  induction s with
  | nil => rfl
  | cons a s ih => rw [bitsAll, List.flatMap_cons, List.length_append, ← bitsAll, ih]; simp [bits8]; omega
theorem let64_eq (n : UInt32) (x : Int) (h : x = ((n.toNat / 262144 % 64 : Nat) : Int)) : letAt x = let64 n := by
  subst h
  unfold letAt let64
  rw [show (n >>> 18 &&& 63).toNat = n.toNat / 262144 % 64 from piece_toNat n, Int.toNat_natCast]
theorem padded_threes (a b c : UInt8) (t : List UInt8) : padded (bitsAll (a :: b :: c :: t)) = bits8 a ++ bits8 b ++ bits8 c ++ padded (bitsAll t) := by
  have h1 := bitsAll_length (a :: b :: c :: t)
  have h2 := bitsAll_length t
  unfold padded
  rw [h1, h2, show 8 * (a :: b :: c :: t).length % 6 = 8 * t.length % 6 by simp; omega]
  simp [bitsAll, List.append_assoc]
set_option maxRecDepth 4000 in
theorem n3 (a b c : UInt8) : (num3 a.toUInt32 b.toUInt32 c.toUInt32).toNat = a.toNat * 65536 + b.toNat * 256 + c.toNat := by
  have ha := a.toNat_lt
  have hb := b.toNat_lt
  unfold num3
  have e1 := zero8 a
  have e2 := or8 ((0 : UInt32) <<< 8 ||| a.toUInt32) b (by omega)
  have e3 := or8 (((0 : UInt32) <<< 8 ||| a.toUInt32) <<< 8 ||| b.toUInt32) c (by omega)
  omega
theorem lets4 (n : UInt32) : lets n 4 = [let64 n, let64 (n <<< 6), let64 (n <<< 6 <<< 6), let64 (n <<< 6 <<< 6 <<< 6)] := rfl
theorem lets3 (n : UInt32) : lets n 3 = [let64 n, let64 (n <<< 6), let64 (n <<< 6 <<< 6)] := rfl
theorem lets2 (n : UInt32) : lets n 2 = [let64 n, let64 (n <<< 6)] := rfl
theorem six_a (a b : UInt8) (n : UInt32) (m : Nat) (hn : n.toNat = a.toNat * 65536 + m) (hm : m < 65536) : letAt (six (bit a 7) (bit a 6) (bit a 5) (bit a 4) (bit a 3) (bit a 2)) = let64 n := by
  have ha := a.toNat_lt
  refine let64_eq _ _ ?_
  rw [hn]
  simp only [six, bit, Nat.reducePow]
  generalize a.toNat = x at *
  omega
theorem six_b (a b : UInt8) (n : UInt32) (m : Nat) (hn : n.toNat = a.toNat * 65536 + b.toNat * 256 + m) (hm : m < 256) : letAt (six (bit a 1) (bit a 0) (bit b 7) (bit b 6) (bit b 5) (bit b 4)) = let64 (n <<< 6) := by
  have ha := a.toNat_lt
  have hb := b.toNat_lt
  refine let64_eq _ _ ?_
  rw [shl6_toNat, hn]
  simp only [six, bit, Nat.reducePow]
  generalize a.toNat = x at *
  generalize b.toNat = y at *
  omega
theorem six_c (b c : UInt8) (n : UInt32) (p : Nat) (hn : n.toNat = p * 65536 + b.toNat * 256 + c.toNat) : letAt (six (bit b 3) (bit b 2) (bit b 1) (bit b 0) (bit c 7) (bit c 6)) = let64 (n <<< 6 <<< 6) := by
  have hb := b.toNat_lt
  have hc := c.toNat_lt
  refine let64_eq _ _ ?_
  rw [shl6_toNat, shl6_toNat, hn]
  simp only [six, bit, Nat.reducePow]
  generalize b.toNat = x at *
  generalize c.toNat = y at *
  omega
theorem six_d (c : UInt8) (n : UInt32) (p : Nat) (hn : n.toNat = p * 256 + c.toNat) : letAt (six (bit c 5) (bit c 4) (bit c 3) (bit c 2) (bit c 1) (bit c 0)) = let64 (n <<< 6 <<< 6 <<< 6) := by
  have hc := c.toNat_lt
  refine let64_eq _ _ ?_
  rw [shl6_toNat, shl6_toNat, shl6_toNat, hn]
  simp only [six, bit, Nat.reducePow]
  generalize c.toNat = y at *
  omega
theorem bit0 (j : Nat) : bit 0 j = 0 := by simp [bit]
theorem refEnc_eq (s : List UInt8) : refEnc s = enc s := by
  unfold refEnc
  fun_induction enc s with
  | case1 => rfl
  | case2 a =>
    have e1 := zero8 a
    have ha := a.toNat_lt
    have e2 := shl8 _ (show ((0 : UInt32) <<< 8 ||| a.toUInt32).toNat < 16777216 by omega)
    have e3 := shl8 _ (show (((0 : UInt32) <<< 8 ||| a.toUInt32) <<< 8).toNat < 16777216 by omega)
    have hn : ((((0 : UInt32) <<< 8 ||| a.toUInt32) <<< 8) <<< 8).toNat = a.toNat * 65536 + (0 : UInt8).toNat * 256 + 0 := by rw [e3, e2, e1]; simp; omega
    rw [lets2, ← six_a a 0 _ _ (by rw [hn, Nat.add_assoc]) (by simp), ← six_b a 0 _ 0 hn (by simp)]
    simp [bit0, bitsAll, bits8, padded, List.replicate, grp]
  | case3 a b =>
    have e1 := zero8 a
    have ha := a.toNat_lt
    have hb := b.toNat_lt
    have e2 := or8 ((0 : UInt32) <<< 8 ||| a.toUInt32) b (by omega)
    have e3 := shl8 _ (show (((0 : UInt32) <<< 8 ||| a.toUInt32) <<< 8 ||| b.toUInt32).toNat < 16777216 by omega)
    have hn : ((((0 : UInt32) <<< 8 ||| a.toUInt32) <<< 8 ||| b.toUInt32) <<< 8).toNat = a.toNat * 65536 + b.toNat * 256 + (0 : UInt8).toNat := by rw [e3, e2, e1]; simp; omega
    rw [lets3, ← six_a a 0 _ _ (by rw [hn, Nat.add_assoc]) (by simp; omega), ← six_b a b _ _ hn (by simp), ← six_c b 0 _ _ hn]
    simp [bit0, bitsAll, bits8, padded, List.replicate, grp]
  | case4 a b c t ih =>
    have ha := a.toNat_lt
    have hb := b.toNat_lt
    have hc := c.toNat_lt
    have hn := n3 a b c
    rw [padded_threes, lets4, ← six_a a 0 _ _ (by rw [hn, Nat.add_assoc]) (by omega), ← six_b a b _ _ hn (by omega), ← six_c b c _ _ hn, ← six_d c _ (a.toNat * 256 + b.toNat) (by rw [hn]; omega), ← ih]
    rfl
theorem idx_enc (s : List UInt8) : ∀ c ∈ enc s, 0 ≤ idx c := by
  have hl : ∀ (n : UInt32) (i : Nat), ∀ c ∈ lets n i, 0 ≤ idx c := by
    intro n i
    induction i with
    | zero => intro c hc; cases hc
    | succ i ih =>
      intro c hc
      rcases List.mem_append.1 hc with h | h
      · exact ih c h
      · rw [List.mem_singleton.1 h, idx_let]; omega
  fun_induction enc s with
  | case1 => intro c hc; cases hc
  | case2 a => exact hl _ _
  | case3 a b => exact hl _ _
  | case4 a b c t ih =>
    intro x hx
    rcases List.mem_append.1 hx with h | h
    · exact hl _ _ x h
    · exact ih x h
theorem oct_let : ∀ i, i < 64 → oct (letters.getD i 0) = true := by decide +kernel
theorem oct_enc (s : List UInt8) : (enc s).all oct = true := by
  have hl : ∀ (n : UInt32) (i : Nat), (lets n i).all oct = true := by
    intro n i
    induction i with
    | zero => rfl
    | succ i ih =>
      rw [lets, List.all_append, ih]
      simp only [List.all_cons, List.all_nil, Bool.and_true, Bool.true_and, let64]
      exact oct_let _ (and63 _)
  fun_induction enc s with
  | case1 => rfl
  | case2 a => exact hl _ _
  | case3 a b => exact hl _ _
  | case4 a b c t ih => rw [List.all_append, hl, ih]; rfl
end Go.Proofs.Ytdagjjicejhplaa.Tx
