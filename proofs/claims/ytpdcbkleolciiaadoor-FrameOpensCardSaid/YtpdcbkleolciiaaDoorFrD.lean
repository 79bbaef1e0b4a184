/- Walk of the law's 'told', at an error that Open or Seal makes. -/
import Derived.Test.YtpdcbkleolciiaaDoorAt
import Derived.Test.YtpdcbkleolciiaaDoorEr
import Derived.Test.YtpdcbkleolciiaaDoorFrA
namespace Go.Proofs.YtpdcbkleolciiaaDoor
set_option linter.unusedVariables false
set_option linter.unusedSimpArgs false
open Go.RowKit Px
set_option maxRecDepth 20000 in
theorem told_ok (b : Nat) (a k : Int) (w0 : World) (hg : w0.cell? ⟨0, 0, none⟩ = some (rtV 24)) (h : PH) (hb : h.m b = some ⟨[str frameT, .int .i64 a, codeV k], 3⟩) : PCalls Tryd.prog w0 8 [errV b, .int .i64 k, .int .i64 a] h fun v h' => v = .bool true ∧ h' = h := by
  refine PCalls_body Tryd.func8 (by kernel_rfl) rfl _ Tryd.ntmps8 (by kernel_rfl) (by kernel_rfl) _ Tryd.results8 ?_
  have hP := Lib.hid (As.place_wrap b frameT a (codeV k) w0 hg h hb)
  have hI := is_any k w0 h (.wrap frameT a (.code k)) (errV b) ⟨b, codeV k, rfl, hb, rfl⟩
  have hk : ((Er.wrap frameT a (.code k)).num == k) = true := by simp [Er.num]
  rw [hk] at hI
  have hI := Lib.hid hI
  have hF : frameT = [102, 114, 97, 109, 101] := rfl
  unfold errV codeV at *
  simp -dsimp -implicitDefEqProofs (disch := first | omega | assumption | (simp only [Option.isSome_some, Qt0]; done) | (simp only [UInt64.reduceToNat, UInt32.reduceToNat, UInt8.reduceToNat, List.length_cons, List.length_nil, List.length_append, Int.toNat_natCast] <;> omega)) only [Nat.reduceLT, Nat.reduceLeDiff, Nat.reduceEqDiff, ↓reduceIte, Int.reduceLT, Int.reduceLE, Int.reduceToNat, Int.reduceEq, Int.reduceNe, Nat.reduceAdd, UInt8.reduceOfNat, UInt16.reduceOfNat, UInt32.reduceOfNat, UInt64.reduceOfNat, UInt64.reduceToNat, UInt32.reduceToNat, UInt16.reduceToNat, UInt8.reduceToNat, Int.reduceAdd, Int.reduceSub, Int.reduceMul, Nat.reduceMul, Qp0, Ql0, Qe0]
  refine hP.out.mono ?_
  rintro v h1 ⟨rfl, rfl⟩
  simp -dsimp -implicitDefEqProofs (disch := first | omega | assumption | (simp only [Option.isSome_some, Qt0]; done) | (simp only [UInt64.reduceToNat, UInt32.reduceToNat, UInt8.reduceToNat, List.length_cons, List.length_nil, List.length_append, Int.toNat_natCast] <;> omega)) only [Nat.reduceLT, Nat.reduceLeDiff, Nat.reduceEqDiff, ↓reduceIte, Int.reduceLT, Int.reduceLE, Int.reduceToNat, Int.reduceEq, Int.reduceNe, Nat.reduceAdd, UInt8.reduceOfNat, UInt16.reduceOfNat, UInt32.reduceOfNat, UInt64.reduceOfNat, UInt64.reduceToNat, UInt32.reduceToNat, UInt16.reduceToNat, UInt8.reduceToNat, Int.reduceAdd, Int.reduceSub, Int.reduceMul, Nat.reduceMul, Qp0, Ql0, Qe0]
  refine hI.out.mono ?_
  rintro v h2 ⟨rfl, rfl⟩
  simp -dsimp -implicitDefEqProofs (disch := first | omega | assumption | (simp only [Option.isSome_some, Qt0]; done) | (simp only [UInt64.reduceToNat, UInt32.reduceToNat, UInt8.reduceToNat, List.length_cons, List.length_nil, List.length_append, Int.toNat_natCast] <;> omega)) only [Nat.reduceLT, Nat.reduceLeDiff, Nat.reduceEqDiff, ↓reduceIte, Int.reduceLT, Int.reduceLE, Int.reduceToNat, Int.reduceEq, Int.reduceNe, Nat.reduceAdd, UInt8.reduceOfNat, UInt16.reduceOfNat, UInt32.reduceOfNat, UInt64.reduceOfNat, UInt64.reduceToNat, UInt32.reduceToNat, UInt16.reduceToNat, UInt8.reduceToNat, Int.reduceAdd, Int.reduceSub, Int.reduceMul, Nat.reduceMul, Qp0, Ql0, Qe0, hF]
  exact ⟨_, PH.Le.refl _, by simp⟩
end Go.Proofs.YtpdcbkleolciiaaDoor
