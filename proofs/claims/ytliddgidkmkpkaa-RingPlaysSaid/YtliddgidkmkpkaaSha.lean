/- SHA-256 and its MAC as plain functions on lists of bytes, and the identities by which the program's and the reference's formulas are one. No condition. -/
import Derived.Test.YtliddgidkmkpkaaProg
namespace Go.Proofs.Ytliddgidkmkpkaa.Sha
set_option linter.unusedVariables false
set_option linter.unusedSimpArgs false
def rotr (x n : UInt32) : UInt32 := x >>> n ||| x <<< (32 - n)
def ch (e f g : UInt32) : UInt32 := (e &&& f) ^^^ (~~~e &&& g)
def maj (a b c : UInt32) : UInt32 := (a &&& b) ^^^ (a &&& c) ^^^ (b &&& c)
theorem ch_alt (e f g : UInt32) : g ^^^ (e &&& (f ^^^ g)) = ch e f g := by
  unfold ch
  apply UInt32.toBitVec_inj.1
  apply BitVec.eq_of_getLsbD_eq
  intro i hi
  simp
  cases e.toBitVec.getLsbD i <;> cases f.toBitVec.getLsbD i <;> cases g.toBitVec.getLsbD i <;> simp [hi]
theorem maj_alt (a b c : UInt32) : ((a &&& (b ||| c)) ||| (b &&& c)) = maj a b c := by
  unfold maj
  apply UInt32.toBitVec_inj.1
  apply BitVec.eq_of_getLsbD_eq
  intro i hi
  simp
  cases a.toBitVec.getLsbD i <;> cases b.toBitVec.getLsbD i <;> cases c.toBitVec.getLsbD i <;> simp
theorem rot_toNat (x : UInt32) (n : Nat) (h0 : 0 < n) (h : n < 32) : (rotr x (UInt32.ofNat n)).toNat = x.toNat / 2 ^ n ||| x.toNat * 2 ^ (32 - n) % 4294967296 := by
  unfold rotr
  have h1 : (UInt32.ofNat n).toNat = n := by simp; omega
  have h2 : (32 - UInt32.ofNat n).toNat = 32 - n := by
    rw [UInt32.toNat_sub_of_le _ _ (by rw [UInt32.le_iff_toNat_le, h1]; simp; omega), h1]; rfl
  rw [UInt32.toNat_or, UInt32.toNat_shiftRight, UInt32.toNat_shiftLeft, h1, h2, Nat.mod_eq_of_lt h, Nat.mod_eq_of_lt (show 32 - n < 32 by omega), Nat.shiftRight_eq_div_pow, Nat.shiftLeft_eq]

def s0 (x : UInt32) : UInt32 := rotr x 7 ^^^ rotr x 18 ^^^ (x >>> 3)
def s1 (x : UInt32) : UInt32 := rotr x 17 ^^^ rotr x 19 ^^^ (x >>> 10)
def S0 (x : UInt32) : UInt32 := rotr x 2 ^^^ rotr x 13 ^^^ rotr x 22
def S1 (x : UInt32) : UInt32 := rotr x 6 ^^^ rotr x 11 ^^^ rotr x 25
def K : List UInt32 := [0x428a2f98, 0x71374491, 0xb5c0fbcf, 0xe9b5dba5, 0x3956c25b, 0x59f111f1, 0x923f82a4, 0xab1c5ed5, 0xd807aa98, 0x12835b01, 0x243185be, 0x550c7dc3, 0x72be5d74, 0x80deb1fe, 0x9bdc06a7, 0xc19bf174, 0xe49b69c1, 0xefbe4786, 0x0fc19dc6, 0x240ca1cc, 0x2de92c6f, 0x4a7484aa, 0x5cb0a9dc, 0x76f988da, 0x983e5152, 0xa831c66d, 0xb00327c8, 0xbf597fc7, 0xc6e00bf3, 0xd5a79147, 0x06ca6351, 0x14292967, 0x27b70a85, 0x2e1b2138, 0x4d2c6dfc, 0x53380d13, 0x650a7354, 0x766a0abb, 0x81c2c92e, 0x92722c85, 0xa2bfe8a1, 0xa81a664b, 0xc24b8b70, 0xc76c51a3, 0xd192e819, 0xd6990624, 0xf40e3585, 0x106aa070, 0x19a4c116, 0x1e376c08, 0x2748774c, 0x34b0bcb5, 0x391c0cb3, 0x4ed8aa4a, 0x5b9cca4f, 0x682e6ff3, 0x748f82ee, 0x78a5636f, 0x84c87814, 0x8cc70208, 0x90befffa, 0xa4506ceb, 0xbef9a3f7, 0xc67178f2]
structure St where
  a : UInt32
  b : UInt32
  c : UInt32
  d : UInt32
  e : UInt32
  f : UInt32
  g : UInt32
  h : UInt32
def St.list (s : St) : List UInt32 := [s.a, s.b, s.c, s.d, s.e, s.f, s.g, s.h]
def H0 : St := ⟨0x6a09e667, 0xbb67ae85, 0x3c6ef372, 0xa54ff53a, 0x510e527f, 0x9b05688c, 0x1f83d9ab, 0x5be0cd19⟩
def addSt (s t : St) : St := ⟨s.a + t.a, s.b + t.b, s.c + t.c, s.d + t.d, s.e + t.e, s.f + t.f, s.g + t.g, s.h + t.h⟩
def t1 (s : St) (k w : UInt32) : UInt32 := s.h + S1 s.e + ch s.e s.f s.g + k + w
def t2 (s : St) : UInt32 := S0 s.a + maj s.a s.b s.c
def rnd (s : St) (k w : UInt32) : St := ⟨t1 s k w + t2 s, s.a, s.b, s.c, s.d + t1 s k w, s.e, s.f, s.g⟩
def step (x : UInt32) (c : UInt8) : UInt32 := x * 256 + c.toUInt32
theorem step_alt (x : UInt32) (c : UInt8) : x <<< 8 ||| c.toUInt32 = step x c := by
  unfold step
  apply UInt32.toNat_inj.1
  have hc := c.toNat_lt
  rw [UInt32.toNat_or, UInt32.toNat_shiftLeft, UInt32.toNat_add, UInt32.toNat_mul, UInt8.toNat_toUInt32]
  simp only [UInt32.reduceToNat, Nat.reduceMod, Nat.shiftLeft_eq, Nat.reducePow]
  have h1 : x.toNat * 256 % 4294967296 = 2 ^ 8 * (x.toNat % 16777216) := by omega
  rw [h1, ← Nat.two_pow_add_eq_or_of_lt (by omega)]
  omega
def word (blk : List UInt8) (t : Nat) : UInt32 := ((blk.drop (4 * t)).take 4).foldl step 0
def next (blk : List UInt8) (n : Nat) (l : List UInt32) : UInt32 :=
  if n < 16 then word blk n else s1 (l.getD (n - 2) 0) + l.getD (n - 7) 0 + s0 (l.getD (n - 15) 0) + l.getD (n - 16) 0
def sched (blk : List UInt8) : Nat → List UInt32
  | 0 => []
  | n + 1 => sched blk n ++ [next blk n (sched blk n)]
theorem sched_length (blk : List UInt8) (n : Nat) : (sched blk n).length = n := by
  induction n with
  | zero => rfl
  | succ n ih => simp [sched, ih]
def rounds (ws : List UInt32) : Nat → St → St
  | 0, s => s
  | n + 1, s => rnd (rounds ws n s) (K.getD n 0) (ws.getD n 0)
def comp (s : St) (blk : List UInt8) : St := addSt s (rounds (sched blk 64) 64 s)
def hash : Nat → List UInt8 → St → St
  | 0, _, s => s
  | n + 1, l, s => hash n (l.drop 64) (comp s (l.take 64))
def be : Nat → Nat → List UInt8
  | 0, _ => []
  | k + 1, n => be k (n / 256) ++ [UInt8.ofNat (n % 256)]
theorem be_length (k n : Nat) : (be k n).length = k := by
  induction k generalizing n with
  | zero => rfl
  | succ k ih => simp [be, ih]
def zerosOf (n : Nat) : Nat := (119 - n % 64) % 64
def pad (l : List UInt8) : List UInt8 := l ++ [0x80] ++ List.replicate (zerosOf l.length) 0 ++ be 8 (8 * l.length)
def bytes (s : St) : List UInt8 := s.list.flatMap fun x => be 4 x.toNat
def digest (l : List UInt8) : List UInt8 := bytes (hash ((pad l).length / 64) (pad l) H0)
theorem pad_length (l : List UInt8) : (pad l).length % 64 = 0 := by
  simp [pad, be_length, zerosOf]
  omega
theorem digest_length (l : List UInt8) : (digest l).length = 32 := by
  simp [digest, bytes, St.list, be_length]
theorem digest_abc : (digest [97, 98, 99]).take 4 = [186, 120, 22, 191] := by decide +kernel
end Go.Proofs.Ytliddgidkmkpkaa.Sha
