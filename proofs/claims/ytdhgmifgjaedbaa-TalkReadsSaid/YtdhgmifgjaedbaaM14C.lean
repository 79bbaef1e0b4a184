/- Parts TaJ, joined. No condition. -/
import Derived.Test.YtdhgmifgjaedbaaM12C
import Derived.Test.YtdhgmifgjaedbaaM13C
/- Walk: the laws' smallest success. No condition. -/
namespace Go.Proofs.Ytdhgmifgjaedbaa
set_option linter.unusedVariables false
set_option linter.unusedSimpArgs false
open Go.RowKit Px Wr
def msA : Ms := ⟨3, [], [], 0, 300, [], 0⟩
theorem msA_right : rightM msA = true := by
  unfold msA
  rw [rightM_3]; rfl
theorem numB_300 : numB 300 = [172, 2] := by
  rw [numB_large (by omega), numB_small (by omega)]; rfl
theorem msA_bytes : bytesM msA = [3, 172, 2] := by
  have h3 : numB (3 : Int).toNat = [3] := numB_small (by decide)
  have h300 : numB (300 : Int).toNat = [172, 2] := numB_300
  unfold bytesM msA
  simp only [h3, h300]
  rfl
theorem msA_R (w0 : World) (h : PH) : MsR w0 h msA mpZ := ⟨rfl, (fun y hy => by cases hy), Rv.nil _ _ _, Rv.nil _ _ _, Rv.nil _ _ _, Nat.le_refl _, Nat.le_refl _, Nat.le_refl _⟩
theorem msA_F : Fits msA := ⟨by show 0 ≤ 100; omega, by show 0 ≤ 1000; omega, by show 0 ≤ 1000; omega, (fun x hx => by cases hx), (fun x hx => by cases hx)⟩
set_option maxRecDepth 20000 in
set_option maxHeartbeats 4000000 in
theorem awake23_any (w0 : World) (h : PH) : PCalls Try.prog w0 7 [] h fun v h' => v = .bool true ∧ PH.Le h h' := by
  refine PCalls_body Try.func7 (by kernel_rfl) rfl _ Try.ntmps7 (by kernel_rfl) (by kernel_rfl) _ Try.results7 ?_
  have hE := enc23_any w0 h msA mpZ (msA_R w0 h) msA_F
  rw [msA_right, msA_bytes] at hE
  unfold msL msA mpZ at hE
  simp only [List.length_nil] at hE
  simp -dsimp -implicitDefEqProofs (disch := first | omega | assumption | (simp only [Option.isSome_some, Qt0]; done) | (simp only [UInt64.reduceToNat, UInt32.reduceToNat, UInt8.reduceToNat, List.length_cons, List.length_nil, List.length_append, Int.toNat_natCast] <;> omega) | fail) only [Nat.reduceLT, Nat.reduceLeDiff, Nat.reduceEqDiff, ↓reduceIte, Int.reduceLT, Int.reduceLE, Int.reduceToNat, Int.reduceEq, Int.reduceNe, Nat.reduceAdd, UInt8.reduceOfNat, UInt16.reduceOfNat, UInt32.reduceOfNat, UInt64.reduceOfNat, UInt64.reduceToNat, UInt32.reduceToNat, UInt16.reduceToNat, UInt8.reduceToNat, Int.reduceAdd, Int.reduceSub, Int.reduceMul, Nat.reduceMul, Qp0, Qp1, Ql0, Qe0]
  refine hE.mono ?_
  rintro z q1 ⟨hz, hl1⟩
  unfold ENM at hz
  rw [if_pos rfl] at hz
  subst hz
  simp -dsimp -implicitDefEqProofs (disch := first | omega | assumption | (simp only [Option.isSome_some, Qt0]; done) | (simp only [UInt64.reduceToNat, UInt32.reduceToNat, UInt8.reduceToNat, List.length_cons, List.length_nil, List.length_append, Int.toNat_natCast] <;> omega) | fail) only [Nat.reduceLT, Nat.reduceLeDiff, Nat.reduceEqDiff, ↓reduceIte, Int.reduceLT, Int.reduceLE, Int.reduceToNat, Int.reduceEq, Int.reduceNe, Nat.reduceAdd, UInt8.reduceOfNat, UInt16.reduceOfNat, UInt32.reduceOfNat, UInt64.reduceOfNat, UInt64.reduceToNat, UInt32.reduceToNat, UInt16.reduceToNat, UInt8.reduceToNat, Int.reduceAdd, Int.reduceSub, Int.reduceMul, Nat.reduceMul, Qp0, Qp1, Ql0, Qe0]
  refine (dec23_any [3, 172, 2] (by simp) w0 q1).mono ?_
  rintro z q2 ⟨hD, hl2⟩
  rcases hD with ⟨m, p, hr, hb, rfl, _, _⟩ | ⟨hno, _⟩
  rotate_left
  · exact absurd msA_bytes.symm (hno msA msA_right)
  obtain rfl : msA = m := bytesM_inj hr msA_right (by rw [← hb, msA_bytes])
  have ha := msL_one msA p
  unfold msL msA at *
  simp only [List.length_nil] at *
  simp -dsimp -implicitDefEqProofs (disch := first | omega | assumption | (simp only [Option.isSome_some, Qt0]; done) | (simp only [UInt64.reduceToNat, UInt32.reduceToNat, UInt8.reduceToNat, List.length_cons, List.length_nil, List.length_append, Int.toNat_natCast] <;> omega) | fail) only [Nat.reduceLT, Nat.reduceLeDiff, Nat.reduceEqDiff, ↓reduceIte, Int.reduceLT, Int.reduceLE, Int.reduceToNat, Int.reduceEq, Int.reduceNe, Nat.reduceAdd, UInt8.reduceOfNat, UInt16.reduceOfNat, UInt32.reduceOfNat, UInt64.reduceOfNat, UInt64.reduceToNat, UInt32.reduceToNat, UInt16.reduceToNat, UInt8.reduceToNat, Int.reduceAdd, Int.reduceSub, Int.reduceMul, Nat.reduceMul, Qp0, Qp1, Ql0, Qe0]
  refine fun mb hmb => ?_
  have hl3 := (PH.Le.refl q2).new mb ⟨[.int .i64 3, .slice p.A 0 p.a, .slice p.B 0 p.b, .int .i64 0, .int .i64 300, .slice p.C 0 p.c, .int .i64 0], 7⟩ hmb
  simp -dsimp -implicitDefEqProofs (disch := first | omega | assumption | (simp only [Option.isSome_some, Qt0]; done) | (simp only [UInt64.reduceToNat, UInt32.reduceToNat, UInt8.reduceToNat, List.length_cons, List.length_nil, List.length_append, Int.toNat_natCast] <;> omega) | fail) only [Nat.reduceLT, Nat.reduceLeDiff, Nat.reduceEqDiff, ↓reduceIte, Int.reduceLT, Int.reduceLE, Int.reduceToNat, Int.reduceEq, Int.reduceNe, Nat.reduceAdd, UInt8.reduceOfNat, UInt16.reduceOfNat, UInt32.reduceOfNat, UInt64.reduceOfNat, UInt64.reduceToNat, UInt32.reduceToNat, UInt16.reduceToNat, UInt8.reduceToNat, Int.reduceAdd, Int.reduceSub, Int.reduceMul, Nat.reduceMul, Qp0, Qp1, Ql0, Qe0, rd_M, rdM_some, List.set_cons_zero, List.set_cons_succ, List.take_zero, List.drop_succ_cons, List.drop_zero, List.drop_nil, List.nil_append, List.append_nil, List.take_succ_cons, ite_true, PH.new_new]
  exact ⟨_, PH.Le.refl _, by first | rfl | trivial, (hl1.trans hl2).trans hl3⟩
end Go.Proofs.Ytdhgmifgjaedbaa

