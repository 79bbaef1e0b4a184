/- Walk of the law's awake: the digest of the document's example. -/
import Derived.Test.YtccjkjghapflfaaMnD
namespace Go.Proofs.Ytccjkjghapflfaa
set_option linter.unusedVariables false
set_option linter.unusedSimpArgs false
open Go.RowKit Px
set_option maxRecDepth 20000 in
theorem awake_any (w0 : World) (h : PH) : PCalls Try.prog w0 7 [] h fun v h' => v = .bool true ∧ h' = h := by
  refine PCalls_body Try.func7 (by kernel_rfl) rfl _ Try.ntmps7 (by kernel_rfl) (by kernel_rfl) _ Try.results7 ?_
  have hD := Lib.hid (@digest_any [97, 98, 99] (by simp) w0 h)
  have e1 := Sha.dig_length [97, 98, 99]
  have e2 := Sha.dig_abc
  generalize Sha.dig [97, 98, 99] = D at *
  simp -dsimp -implicitDefEqProofs (disch := first | omega | assumption | (simp only [Option.isSome_some, Qt0, Qt1, Qt2, Qt3, Qt4, Qt5, Qt6]; done) | (simp only [UInt64.reduceToNat, UInt32.reduceToNat, UInt8.reduceToNat, List.length_cons, List.length_nil, List.length_append, Int.toNat_natCast] <;> omega)) only [Nat.reduceLT, Nat.reduceLeDiff, Nat.reduceEqDiff, ↓reduceIte, Bool.not_true, Bool.not_false, beq_self_eq_true, beq_true, beq_false, Bool.not_not, List.getD_cons_zero, List.getD_cons_succ, Int.reduceLT, Int.reduceLE, Int.reduceToNat, Int.reduceEq, Int.reduceNe, decide_true, decide_false, Option.bind_some, Int.toNat_natCast, List.map_cons, List.map_nil, List.zip_cons_cons, List.zip_nil_left, List.append_nil, List.nil_append, List.cons_append, List.length_cons, List.length_nil, Nat.reduceAdd, UInt8.reduceOfNat, UInt16.reduceOfNat, UInt32.reduceOfNat, UInt64.reduceOfNat, UInt64.reduceToNat, UInt32.reduceToNat, UInt16.reduceToNat, UInt8.reduceToNat, Int.natCast_add, Int.reduceAdd, Int.reduceSub, Int.reduceMul, Nat.mul_one, Nat.add_zero, Nat.zero_mul, Nat.reduceMul, Nat.zero_add, ne_eq, not_true_eq_false, not_false_eq_true, eq_self, Bool.false_eq_true, Bool.true_eq_false, Bool.or_true, Bool.or_false, Bool.and_true, Bool.and_false, Bool.true_and, Bool.false_and, Bool.true_or, Bool.false_or, List.length_set, List.length_replicate, Qp0, Qp1, Qp2, Qp3, Qp4, Qp5, Qp6, Qp7, Qp8, Qp9, Qp10, Qp11, Qp12, Qp13, Qp14, Qp15, Qp16, Qp17, Qp18, Qp19, Qp20, Qp21, Qe0, Qe1, Qe2, Qe3]
  refine hD.out.mono ?_
  rintro v h1 ⟨rfl, rfl⟩
  simp -dsimp -implicitDefEqProofs (disch := first | omega | assumption | (simp only [Option.isSome_some, Qt0, Qt1, Qt2, Qt3, Qt4, Qt5, Qt6]; done) | (simp only [UInt64.reduceToNat, UInt32.reduceToNat, UInt8.reduceToNat, List.length_cons, List.length_nil, List.length_append, Int.toNat_natCast] <;> omega)) only [Nat.reduceLT, Nat.reduceLeDiff, Nat.reduceEqDiff, ↓reduceIte, Bool.not_true, Bool.not_false, beq_self_eq_true, beq_true, beq_false, Bool.not_not, List.getD_cons_zero, List.getD_cons_succ, Int.reduceLT, Int.reduceLE, Int.reduceToNat, Int.reduceEq, Int.reduceNe, decide_true, decide_false, Option.bind_some, Int.toNat_natCast, List.map_cons, List.map_nil, List.zip_cons_cons, List.zip_nil_left, List.append_nil, List.nil_append, List.cons_append, List.length_cons, List.length_nil, Nat.reduceAdd, UInt8.reduceOfNat, UInt16.reduceOfNat, UInt32.reduceOfNat, UInt64.reduceOfNat, UInt64.reduceToNat, UInt32.reduceToNat, UInt16.reduceToNat, UInt8.reduceToNat, Int.natCast_add, Int.reduceAdd, Int.reduceSub, Int.reduceMul, Nat.mul_one, Nat.add_zero, Nat.zero_mul, Nat.reduceMul, Nat.zero_add, ne_eq, not_true_eq_false, not_false_eq_true, eq_self, Bool.false_eq_true, Bool.true_eq_false, Bool.or_true, Bool.or_false, Bool.and_true, Bool.and_false, Bool.true_and, Bool.false_and, Bool.true_or, Bool.false_or, List.length_set, List.length_replicate, Qp0, Qp1, Qp2, Qp3, Qp4, Qp5, Qp6, Qp7, Qp8, Qp9, Qp10, Qp11, Qp12, Qp13, Qp14, Qp15, Qp16, Qp17, Qp18, Qp19, Qp20, Qp21, Qe0, Qe1, Qe2, Qe3, e1, e2]
  exact ⟨_, PH.Le.refl _, by simp⟩
end Go.Proofs.Ytccjkjghapflfaa
