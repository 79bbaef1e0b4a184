/- Texts as letters, as plain functions on lists of bytes: what a text's letters are, which bytes a cookie may hold. No condition. -/
import Derived.Lib.Bytealg
namespace Go.Proofs.Ytdagjjicejhplaa.Tx
set_option linter.unusedVariables false
set_option linter.unusedSimpArgs false
def letters : List UInt8 := [65, 66, 67, 68, 69, 70, 71, 72, 73, 74, 75, 76, 77, 78, 79, 80, 81, 82, 83, 84, 85, 86, 87, 88, 89, 90, 97, 98, 99, 100, 101, 102, 103, 104, 105, 106, 107, 108, 109, 110, 111, 112, 113, 114, 115, 116, 117, 118, 119, 120, 121, 122, 48, 49, 50, 51, 52, 53, 54, 55, 56, 57, 45, 95]
def let64 (n : UInt32) : UInt8 := letters.getD (n >>> 18 &&& 63).toNat 0
def sh6 (n : UInt32) : Nat → UInt32
  | 0 => n
  | i + 1 => sh6 n i <<< 6
def lets (n : UInt32) : Nat → List UInt8
  | 0 => []
  | i + 1 => lets n i ++ [let64 (sh6 n i)]
theorem lets_length (n : UInt32) (i : Nat) : (lets n i).length = i := by
  induction i with
  | zero => rfl
  | succ i ih => simp [lets, ih]
/-- Up to three bytes as a number, the first one highest. -/
def num3 (a b c : UInt32) : UInt32 := ((((0 : UInt32) <<< 8 ||| a) <<< 8) ||| b) <<< 8 ||| c
def enc : List UInt8 → List UInt8
  | [] => []
  | [a] => lets (((((0 : UInt32) <<< 8 ||| a.toUInt32) <<< 8)) <<< 8) 2
  | [a, b] => lets (((((0 : UInt32) <<< 8 ||| a.toUInt32) <<< 8) ||| b.toUInt32) <<< 8) 3
  | a :: b :: c :: t => lets (num3 a.toUInt32 b.toUInt32 c.toUInt32) 4 ++ enc t
theorem enc_length (l : List UInt8) : (enc l).length ≤ 2 * l.length + 4 := by
  fun_induction enc l with
  | case1 => simp
  | case2 a => simp [lets_length]
  | case3 a b => simp [lets_length]
  | case4 a b c t ih => simp [lets_length]; omega
theorem enc_append (s t : List UInt8) (h : s.length % 3 = 0) : enc (s ++ t) = enc s ++ enc t := by
  fun_induction enc s with
  | case1 => simp
  | case2 a => simp at h
  | case3 a b => simp at h
  | case4 a b c u ih =>
    simp only [List.cons_append, enc, List.append_assoc]
    rw [ih (by simp at h; omega)]
theorem and63 (x : UInt32) : (x &&& 63).toNat < letters.length := by
  have : (x &&& 63).toNat ≤ 63 := by rw [UInt32.toNat_and]; exact Nat.and_le_right
  show _ < 64
  omega
def oct (c : UInt8) : Bool := !(decide (c < 33) || decide (126 < c) || decide (c = 34) || decide (c = 44) || decide (c = 59) || decide (c = 92))
theorem take_snoc8 (s : List UInt8) (k : Nat) (h : k < s.length) : s.take (k + 1) = s.take k ++ [s.getD k 0] := by
  rw [List.take_add_one, List.getElem?_eq_getElem h]; simp [List.getD, List.getElem?_eq_getElem h]
def marks : List UInt8 := [33, 35, 36, 37, 38, 39, 42, 43, 45, 46, 94, 95, 96, 124, 126]
def tokc (c : UInt8) : Bool := (decide (97 ≤ c) && decide (c ≤ 122)) || (decide (65 ≤ c) && decide (c ≤ 90)) || (decide (48 ≤ c) && decide (c ≤ 57)) || decide (0 ≤ Lib.indexByte marks c)
def token (s : List UInt8) : Bool := s.all tokc && decide (s ≠ [])
def idx (c : UInt8) : Int := Lib.indexByte letters c
def nums (s : List UInt8) : List UInt32 := s.map fun c => UInt32.ofInt (idx c)
theorem idx_ge (c : UInt8) : -1 ≤ idx c := Lib.indexByte_ge letters c
def two (a b : UInt32) : UInt8 := (a <<< 2 ||| b >>> 4).toUInt8
def three (b c : UInt32) : UInt8 := (b <<< 4 ||| c >>> 2).toUInt8
def four (a b c d : UInt32) : UInt32 := a <<< 18 ||| b <<< 12 ||| c <<< 6 ||| d
/-- The bytes of whole fours, and what is left. -/
def fours : List UInt32 → List UInt8
  | a :: b :: c :: d :: t => (four a b c d >>> 16).toUInt8 :: (four a b c d >>> 8).toUInt8 :: (four a b c d).toUInt8 :: fours t
  | _ => []
def left : List UInt32 → List UInt32
  | _ :: _ :: _ :: _ :: t => left t
  | l => l
/-- The bytes of letters, where these are right. -/
def decN : List UInt32 → Option (List UInt8)
  | a :: b :: c :: d :: t => (decN t).map fun o => (four a b c d >>> 16).toUInt8 :: (four a b c d >>> 8).toUInt8 :: (four a b c d).toUInt8 :: o
  | [a, b, c] => if c &&& 3 = 0 then some [two a b, three b c] else none
  | [a, b] => if b &&& 15 = 0 then some [two a b] else none
  | [_] => none
  | [] => some []
end Go.Proofs.Ytdagjjicejhplaa.Tx
