/- The digest with its folding over a general step, so that the kernel need not lay the step open (Sha.hash's own equation costs the kernel all its memory). No condition. -/
import Derived.Test.YtliddgidkmkpkaaSha
namespace Go.Proofs.Ytliddgidkmkpkaa.Sha
def iter (f : St → List UInt8 → St) : Nat → List UInt8 → St → St
  | 0, _, s => s
  | n + 1, l, s => iter f n (l.drop 64) (f s (l.take 64))
theorem iter_zero (f : St → List UInt8 → St) (l : List UInt8) (s : St) : iter f 0 l s = s := rfl
theorem iter_succ (f : St → List UInt8 → St) (n : Nat) (l : List UInt8) (s : St) : iter f (n + 1) l s = iter f n (l.drop 64) (f s (l.take 64)) := rfl
def dig (l : List UInt8) : List UInt8 := bytes (iter comp ((pad l).length / 64) (pad l) H0)
theorem dig_length (l : List UInt8) : (dig l).length = 32 := by
  simp [dig, bytes, St.list, be_length]
theorem dig_abc : (dig [97, 98, 99]).take 4 = [186, 120, 22, 191] := by decide +kernel
end Go.Proofs.Ytliddgidkmkpkaa.Sha
