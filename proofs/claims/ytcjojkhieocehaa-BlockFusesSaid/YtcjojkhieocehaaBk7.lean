/- Walks of the calls on a device that is down, and what an append does to a device with a fuse. -/
import Derived.Test.YtcjojkhieocehaaBkO
namespace Go.Proofs.Ytcjojkhieocehaa
set_option linter.unusedVariables false
set_option linter.unusedSimpArgs false
open Go.ChangeShapes Go.WideShapes Go.ChangeAt Go.RowKit Base Px
section
variable (h0 : PH) (b : Nat) (d : Dk) (w0 : World) (h : PH)
set_option maxRecDepth 20000 in
set_option maxHeartbeats 1000000 in
theorem op_down (hd : DS h0 h b d) (hdn : d.down = true) : PCalls Try.prog w0 23 [.pointer (some ⟨b, 0, none⟩)] h fun v h' => EV h' (.wrap blockT 0 (.code 5)) v ∧ PH.Le h h' ∧ DS h0 h' b d := by
  refine PCalls_body Try.func23 (by kernel_rfl) rfl _ Try.ntmps23 (by kernel_rfl) (by kernel_rfl) _ Try.results23 ?_
  have hD := down_any h0 b d w0 h hd
  rw [hdn] at hD
  have hD := Lib.hid hD
  have hB := bad_any h0 b d w0 h hd 5
  rw [show d.size = 0 by unfold Dk.size; rw [if_pos hdn]] at hB
  have hB := Lib.hid hB
  simp -dsimp -implicitDefEqProofs (disch := first | omega | assumption | (simp only [Option.isSome_some, Qt0, Qt1, Qt2, Qt3, Qt4, Qt5, Qt6, Qt7, Qt8, Qt9]; done) | (simp only [UInt64.reduceToNat, UInt32.reduceToNat, UInt8.reduceToNat, List.length_cons, List.length_nil, List.length_append, Int.toNat_natCast] <;> omega)) only [Nat.reduceLT, Nat.reduceLeDiff, Nat.reduceEqDiff, ↓reduceIte, Bool.not_true, Bool.not_false, beq_self_eq_true, beq_true, beq_false, Bool.not_not, List.getD_cons_zero, List.getD_cons_succ, Int.reduceLT, Int.reduceLE, Int.reduceToNat, Int.reduceEq, Int.reduceNe, decide_true, decide_false, Option.bind_some, Int.toNat_natCast, List.map_cons, List.map_nil, List.zip_cons_cons, List.zip_nil_left, List.append_nil, List.nil_append, List.cons_append, List.length_cons, List.length_nil, Nat.reduceAdd, UInt8.reduceOfNat, UInt16.reduceOfNat, UInt32.reduceOfNat, UInt64.reduceOfNat, UInt64.reduceToNat, UInt32.reduceToNat, UInt16.reduceToNat, UInt8.reduceToNat, Int.natCast_add, Int.reduceAdd, Int.reduceSub, Int.reduceMul, Nat.mul_one, Nat.add_zero, Nat.zero_mul, Nat.reduceMul, Nat.zero_add, ne_eq, not_true_eq_false, not_false_eq_true, eq_self, Bool.false_eq_true, Bool.true_eq_false, Bool.or_true, Bool.or_false, Bool.and_true, Bool.and_false, Bool.true_and, Bool.false_and, Bool.true_or, Bool.false_or, Option.isNone_some, Option.isNone_none, List.length_set, List.length_replicate, List.getElem?_cons_zero, List.getElem?_cons_succ, Qp0, Qp1, Qp2, Qp3, Qp4, Qp5, Qp6, Qp7, Qp8, Qp9, Qp10, Qp11, Qp12, Qp13, Qp14, Qp15, Qp16, Qp17, Qp18, Qp19, Qp20, Qp21, Qp22, Qe0, Qe1, Qe2, Qe3, Qe4, Qe5, Qe6, Qe7, Qe8]
  refine hD.out.mono ?_
  rintro v hz ⟨rfl, hz⟩
  rw [hz]
  clear hz
  simp -dsimp -implicitDefEqProofs (disch := first | omega | assumption | (simp only [Option.isSome_some, Qt0, Qt1, Qt2, Qt3, Qt4, Qt5, Qt6, Qt7, Qt8, Qt9]; done) | (simp only [UInt64.reduceToNat, UInt32.reduceToNat, UInt8.reduceToNat, List.length_cons, List.length_nil, List.length_append, Int.toNat_natCast] <;> omega)) only [Nat.reduceLT, Nat.reduceLeDiff, Nat.reduceEqDiff, ↓reduceIte, Bool.not_true, Bool.not_false, beq_self_eq_true, beq_true, beq_false, Bool.not_not, List.getD_cons_zero, List.getD_cons_succ, Int.reduceLT, Int.reduceLE, Int.reduceToNat, Int.reduceEq, Int.reduceNe, decide_true, decide_false, Option.bind_some, Int.toNat_natCast, List.map_cons, List.map_nil, List.zip_cons_cons, List.zip_nil_left, List.append_nil, List.nil_append, List.cons_append, List.length_cons, List.length_nil, Nat.reduceAdd, UInt8.reduceOfNat, UInt16.reduceOfNat, UInt32.reduceOfNat, UInt64.reduceOfNat, UInt64.reduceToNat, UInt32.reduceToNat, UInt16.reduceToNat, UInt8.reduceToNat, Int.natCast_add, Int.reduceAdd, Int.reduceSub, Int.reduceMul, Nat.mul_one, Nat.add_zero, Nat.zero_mul, Nat.reduceMul, Nat.zero_add, ne_eq, not_true_eq_false, not_false_eq_true, eq_self, Bool.false_eq_true, Bool.true_eq_false, Bool.or_true, Bool.or_false, Bool.and_true, Bool.and_false, Bool.true_and, Bool.false_and, Bool.true_or, Bool.false_or, Option.isNone_some, Option.isNone_none, List.length_set, List.length_replicate, List.getElem?_cons_zero, List.getElem?_cons_succ, Qp0, Qp1, Qp2, Qp3, Qp4, Qp5, Qp6, Qp7, Qp8, Qp9, Qp10, Qp11, Qp12, Qp13, Qp14, Qp15, Qp16, Qp17, Qp18, Qp19, Qp20, Qp21, Qp22, Qe0, Qe1, Qe2, Qe3, Qe4, Qe5, Qe6, Qe7, Qe8]
  refine hB.out.mono ?_
  rintro v hz ⟨be, rfl, hbe, rfl⟩
  simp -dsimp -implicitDefEqProofs (disch := first | omega | assumption | (simp only [Option.isSome_some, Qt0, Qt1, Qt2, Qt3, Qt4, Qt5, Qt6, Qt7, Qt8, Qt9]; done) | (simp only [UInt64.reduceToNat, UInt32.reduceToNat, UInt8.reduceToNat, List.length_cons, List.length_nil, List.length_append, Int.toNat_natCast] <;> omega)) only [Nat.reduceLT, Nat.reduceLeDiff, Nat.reduceEqDiff, ↓reduceIte, Bool.not_true, Bool.not_false, beq_self_eq_true, beq_true, beq_false, Bool.not_not, List.getD_cons_zero, List.getD_cons_succ, Int.reduceLT, Int.reduceLE, Int.reduceToNat, Int.reduceEq, Int.reduceNe, decide_true, decide_false, Option.bind_some, Int.toNat_natCast, List.map_cons, List.map_nil, List.zip_cons_cons, List.zip_nil_left, List.append_nil, List.nil_append, List.cons_append, List.length_cons, List.length_nil, Nat.reduceAdd, UInt8.reduceOfNat, UInt16.reduceOfNat, UInt32.reduceOfNat, UInt64.reduceOfNat, UInt64.reduceToNat, UInt32.reduceToNat, UInt16.reduceToNat, UInt8.reduceToNat, Int.natCast_add, Int.reduceAdd, Int.reduceSub, Int.reduceMul, Nat.mul_one, Nat.add_zero, Nat.zero_mul, Nat.reduceMul, Nat.zero_add, ne_eq, not_true_eq_false, not_false_eq_true, eq_self, Bool.false_eq_true, Bool.true_eq_false, Bool.or_true, Bool.or_false, Bool.and_true, Bool.and_false, Bool.true_and, Bool.false_and, Bool.true_or, Bool.false_or, Option.isNone_some, Option.isNone_none, List.length_set, List.length_replicate, List.getElem?_cons_zero, List.getElem?_cons_succ, Qp0, Qp1, Qp2, Qp3, Qp4, Qp5, Qp6, Qp7, Qp8, Qp9, Qp10, Qp11, Qp12, Qp13, Qp14, Qp15, Qp16, Qp17, Qp18, Qp19, Qp20, Qp21, Qp22, Qe0, Qe1, Qe2, Qe3, Qe4, Qe5, Qe6, Qe7, Qe8]
  exact ⟨_, PH.Le.refl _, EV.at (show EV _ (.code 5) (codeV 5) from rfl) hbe, (PH.Le.refl _).new _ _ hbe, hd.more hbe⟩
set_option maxRecDepth 20000 in
set_option maxHeartbeats 1000000 in
theorem append_down (hd : DS h0 h b d) (hdn : d.down = true) (s : List UInt8) : PCalls Try.prog w0 10 [.pointer (some ⟨b, 0, none⟩), str s] h fun v h' => EV h' (.wrap blockT 0 (.code 5)) v ∧ PH.Le h h' ∧ DS h0 h' b d := by
  refine PCalls_body Try.func10 (by kernel_rfl) rfl _ Try.ntmps10 (by kernel_rfl) (by kernel_rfl) _ Try.results10 ?_
  have hD := down_any h0 b d w0 h hd
  rw [hdn] at hD
  have hD := Lib.hid hD
  have hO := Lib.hid (op_down h0 b d w0 h hd hdn)
  simp -dsimp -implicitDefEqProofs (disch := first | omega | assumption | (simp only [Option.isSome_some, Qt0, Qt1, Qt2, Qt3, Qt4, Qt5, Qt6, Qt7, Qt8, Qt9]; done) | (simp only [UInt64.reduceToNat, UInt32.reduceToNat, UInt8.reduceToNat, List.length_cons, List.length_nil, List.length_append, Int.toNat_natCast] <;> omega)) only [Nat.reduceLT, Nat.reduceLeDiff, Nat.reduceEqDiff, ↓reduceIte, Bool.not_true, Bool.not_false, beq_self_eq_true, beq_true, beq_false, Bool.not_not, List.getD_cons_zero, List.getD_cons_succ, Int.reduceLT, Int.reduceLE, Int.reduceToNat, Int.reduceEq, Int.reduceNe, decide_true, decide_false, Option.bind_some, Int.toNat_natCast, List.map_cons, List.map_nil, List.zip_cons_cons, List.zip_nil_left, List.append_nil, List.nil_append, List.cons_append, List.length_cons, List.length_nil, Nat.reduceAdd, UInt8.reduceOfNat, UInt16.reduceOfNat, UInt32.reduceOfNat, UInt64.reduceOfNat, UInt64.reduceToNat, UInt32.reduceToNat, UInt16.reduceToNat, UInt8.reduceToNat, Int.natCast_add, Int.reduceAdd, Int.reduceSub, Int.reduceMul, Nat.mul_one, Nat.add_zero, Nat.zero_mul, Nat.reduceMul, Nat.zero_add, ne_eq, not_true_eq_false, not_false_eq_true, eq_self, Bool.false_eq_true, Bool.true_eq_false, Bool.or_true, Bool.or_false, Bool.and_true, Bool.and_false, Bool.true_and, Bool.false_and, Bool.true_or, Bool.false_or, Option.isNone_some, Option.isNone_none, List.length_set, List.length_replicate, List.getElem?_cons_zero, List.getElem?_cons_succ, Qp0, Qp1, Qp2, Qp3, Qp4, Qp5, Qp6, Qp7, Qp8, Qp9, Qp10, Qp11, Qp12, Qp13, Qp14, Qp15, Qp16, Qp17, Qp18, Qp19, Qp20, Qp21, Qp22, Qe0, Qe1, Qe2, Qe3, Qe4, Qe5, Qe6, Qe7, Qe8]
  refine PW_plan [0, 1, 2, 3, 4, 5, 6, 7, 8, 9, 10, 11, 12, 13, 14, 15, 16, 17] h (by kernel_rfl) (by decide +kernel) (by kernel_rfl) (by kernel_rfl) (by kernel_rfl) (fun c f h hq => by simp only [thenC_panic, thenK_panic, inBlk_panic, thenN_panic, vcRet_panic] at hq) (PH.Le.refl _).sub ?_
  simp -dsimp -implicitDefEqProofs (disch := first | omega | assumption | (simp only [Option.isSome_some, Qt0, Qt1, Qt2, Qt3, Qt4, Qt5, Qt6, Qt7, Qt8, Qt9]; done) | (simp only [UInt64.reduceToNat, UInt32.reduceToNat, UInt8.reduceToNat, List.length_cons, List.length_nil, List.length_append, Int.toNat_natCast] <;> omega)) only [Nat.reduceLT, Nat.reduceLeDiff, Nat.reduceEqDiff, ↓reduceIte, Bool.not_true, Bool.not_false, beq_self_eq_true, beq_true, beq_false, Bool.not_not, List.getD_cons_zero, List.getD_cons_succ, Int.reduceLT, Int.reduceLE, Int.reduceToNat, Int.reduceEq, Int.reduceNe, decide_true, decide_false, Option.bind_some, Int.toNat_natCast, List.map_cons, List.map_nil, List.zip_cons_cons, List.zip_nil_left, List.append_nil, List.nil_append, List.cons_append, List.length_cons, List.length_nil, Nat.reduceAdd, UInt8.reduceOfNat, UInt16.reduceOfNat, UInt32.reduceOfNat, UInt64.reduceOfNat, UInt64.reduceToNat, UInt32.reduceToNat, UInt16.reduceToNat, UInt8.reduceToNat, Int.natCast_add, Int.reduceAdd, Int.reduceSub, Int.reduceMul, Nat.mul_one, Nat.add_zero, Nat.zero_mul, Nat.reduceMul, Nat.zero_add, ne_eq, not_true_eq_false, not_false_eq_true, eq_self, Bool.false_eq_true, Bool.true_eq_false, Bool.or_true, Bool.or_false, Bool.and_true, Bool.and_false, Bool.true_and, Bool.false_and, Bool.true_or, Bool.false_or, Option.isNone_some, Option.isNone_none, List.length_set, List.length_replicate, List.getElem?_cons_zero, List.getElem?_cons_succ, Qp0, Qp1, Qp2, Qp3, Qp4, Qp5, Qp6, Qp7, Qp8, Qp9, Qp10, Qp11, Qp12, Qp13, Qp14, Qp15, Qp16, Qp17, Qp18, Qp19, Qp20, Qp21, Qp22, Qe0, Qe1, Qe2, Qe3, Qe4, Qe5, Qe6, Qe7, Qe8]
  refine hD.out.mono ?_
  rintro v hz ⟨rfl, hz⟩
  rw [hz]
  clear hz
  simp -dsimp -implicitDefEqProofs (disch := first | omega | assumption | (simp only [Option.isSome_some, Qt0, Qt1, Qt2, Qt3, Qt4, Qt5, Qt6, Qt7, Qt8, Qt9]; done) | (simp only [UInt64.reduceToNat, UInt32.reduceToNat, UInt8.reduceToNat, List.length_cons, List.length_nil, List.length_append, Int.toNat_natCast] <;> omega)) only [Nat.reduceLT, Nat.reduceLeDiff, Nat.reduceEqDiff, ↓reduceIte, Bool.not_true, Bool.not_false, beq_self_eq_true, beq_true, beq_false, Bool.not_not, List.getD_cons_zero, List.getD_cons_succ, Int.reduceLT, Int.reduceLE, Int.reduceToNat, Int.reduceEq, Int.reduceNe, decide_true, decide_false, Option.bind_some, Int.toNat_natCast, List.map_cons, List.map_nil, List.zip_cons_cons, List.zip_nil_left, List.append_nil, List.nil_append, List.cons_append, List.length_cons, List.length_nil, Nat.reduceAdd, UInt8.reduceOfNat, UInt16.reduceOfNat, UInt32.reduceOfNat, UInt64.reduceOfNat, UInt64.reduceToNat, UInt32.reduceToNat, UInt16.reduceToNat, UInt8.reduceToNat, Int.natCast_add, Int.reduceAdd, Int.reduceSub, Int.reduceMul, Nat.mul_one, Nat.add_zero, Nat.zero_mul, Nat.reduceMul, Nat.zero_add, ne_eq, not_true_eq_false, not_false_eq_true, eq_self, Bool.false_eq_true, Bool.true_eq_false, Bool.or_true, Bool.or_false, Bool.and_true, Bool.and_false, Bool.true_and, Bool.false_and, Bool.true_or, Bool.false_or, Option.isNone_some, Option.isNone_none, List.length_set, List.length_replicate, List.getElem?_cons_zero, List.getElem?_cons_succ, Qp0, Qp1, Qp2, Qp3, Qp4, Qp5, Qp6, Qp7, Qp8, Qp9, Qp10, Qp11, Qp12, Qp13, Qp14, Qp15, Qp16, Qp17, Qp18, Qp19, Qp20, Qp21, Qp22, Qe0, Qe1, Qe2, Qe3, Qe4, Qe5, Qe6, Qe7, Qe8]
  refine ⟨(PH.Le.refl _).sub, ?_⟩
  simp -dsimp -implicitDefEqProofs (disch := first | omega | assumption | (simp only [Option.isSome_some, Qt0, Qt1, Qt2, Qt3, Qt4, Qt5, Qt6, Qt7, Qt8, Qt9]; done) | (simp only [UInt64.reduceToNat, UInt32.reduceToNat, UInt8.reduceToNat, List.length_cons, List.length_nil, List.length_append, Int.toNat_natCast] <;> omega)) only [Nat.reduceLT, Nat.reduceLeDiff, Nat.reduceEqDiff, ↓reduceIte, Bool.not_true, Bool.not_false, beq_self_eq_true, beq_true, beq_false, Bool.not_not, List.getD_cons_zero, List.getD_cons_succ, Int.reduceLT, Int.reduceLE, Int.reduceToNat, Int.reduceEq, Int.reduceNe, decide_true, decide_false, Option.bind_some, Int.toNat_natCast, List.map_cons, List.map_nil, List.zip_cons_cons, List.zip_nil_left, List.append_nil, List.nil_append, List.cons_append, List.length_cons, List.length_nil, Nat.reduceAdd, UInt8.reduceOfNat, UInt16.reduceOfNat, UInt32.reduceOfNat, UInt64.reduceOfNat, UInt64.reduceToNat, UInt32.reduceToNat, UInt16.reduceToNat, UInt8.reduceToNat, Int.natCast_add, Int.reduceAdd, Int.reduceSub, Int.reduceMul, Nat.mul_one, Nat.add_zero, Nat.zero_mul, Nat.reduceMul, Nat.zero_add, ne_eq, not_true_eq_false, not_false_eq_true, eq_self, Bool.false_eq_true, Bool.true_eq_false, Bool.or_true, Bool.or_false, Bool.and_true, Bool.and_false, Bool.true_and, Bool.false_and, Bool.true_or, Bool.false_or, Option.isNone_some, Option.isNone_none, List.length_set, List.length_replicate, List.getElem?_cons_zero, List.getElem?_cons_succ, Qp0, Qp1, Qp2, Qp3, Qp4, Qp5, Qp6, Qp7, Qp8, Qp9, Qp10, Qp11, Qp12, Qp13, Qp14, Qp15, Qp16, Qp17, Qp18, Qp19, Qp20, Qp21, Qp22, Qe0, Qe1, Qe2, Qe3, Qe4, Qe5, Qe6, Qe7, Qe8]
  refine hO.out.mono ?_
  rintro v hz ⟨hev, hle, hds⟩
  obtain ⟨t, x, rfl⟩ := hev.held
  simp -dsimp -implicitDefEqProofs (disch := first | omega | assumption | (simp only [Option.isSome_some, Qt0, Qt1, Qt2, Qt3, Qt4, Qt5, Qt6, Qt7, Qt8, Qt9]; done) | (simp only [UInt64.reduceToNat, UInt32.reduceToNat, UInt8.reduceToNat, List.length_cons, List.length_nil, List.length_append, Int.toNat_natCast] <;> omega)) only [Nat.reduceLT, Nat.reduceLeDiff, Nat.reduceEqDiff, ↓reduceIte, Bool.not_true, Bool.not_false, beq_self_eq_true, beq_true, beq_false, Bool.not_not, List.getD_cons_zero, List.getD_cons_succ, Int.reduceLT, Int.reduceLE, Int.reduceToNat, Int.reduceEq, Int.reduceNe, decide_true, decide_false, Option.bind_some, Int.toNat_natCast, List.map_cons, List.map_nil, List.zip_cons_cons, List.zip_nil_left, List.append_nil, List.nil_append, List.cons_append, List.length_cons, List.length_nil, Nat.reduceAdd, UInt8.reduceOfNat, UInt16.reduceOfNat, UInt32.reduceOfNat, UInt64.reduceOfNat, UInt64.reduceToNat, UInt32.reduceToNat, UInt16.reduceToNat, UInt8.reduceToNat, Int.natCast_add, Int.reduceAdd, Int.reduceSub, Int.reduceMul, Nat.mul_one, Nat.add_zero, Nat.zero_mul, Nat.reduceMul, Nat.zero_add, ne_eq, not_true_eq_false, not_false_eq_true, eq_self, Bool.false_eq_true, Bool.true_eq_false, Bool.or_true, Bool.or_false, Bool.and_true, Bool.and_false, Bool.true_and, Bool.false_and, Bool.true_or, Bool.false_or, Option.isNone_some, Option.isNone_none, List.length_set, List.length_replicate, List.getElem?_cons_zero, List.getElem?_cons_succ, Qp0, Qp1, Qp2, Qp3, Qp4, Qp5, Qp6, Qp7, Qp8, Qp9, Qp10, Qp11, Qp12, Qp13, Qp14, Qp15, Qp16, Qp17, Qp18, Qp19, Qp20, Qp21, Qp22, Qe0, Qe1, Qe2, Qe3, Qe4, Qe5, Qe6, Qe7, Qe8]
  exact ⟨_, PH.Le.refl _, hev, hle, hds⟩
set_option maxRecDepth 20000 in
set_option maxHeartbeats 1000000 in
theorem sync_down (hd : DS h0 h b d) (hdn : d.down = true)  : PCalls Try.prog w0 12 [.pointer (some ⟨b, 0, none⟩)] h fun v h' => EV h' (.wrap blockT 0 (.code 5)) v ∧ PH.Le h h' ∧ DS h0 h' b d := by
  refine PCalls_body Try.func12 (by kernel_rfl) rfl _ Try.ntmps12 (by kernel_rfl) (by kernel_rfl) _ Try.results12 ?_
  have hD := down_any h0 b d w0 h hd
  rw [hdn] at hD
  have hD := Lib.hid hD
  have hO := Lib.hid (op_down h0 b d w0 h hd hdn)
  simp -dsimp -implicitDefEqProofs (disch := first | omega | assumption | (simp only [Option.isSome_some, Qt0, Qt1, Qt2, Qt3, Qt4, Qt5, Qt6, Qt7, Qt8, Qt9]; done) | (simp only [UInt64.reduceToNat, UInt32.reduceToNat, UInt8.reduceToNat, List.length_cons, List.length_nil, List.length_append, Int.toNat_natCast] <;> omega)) only [Nat.reduceLT, Nat.reduceLeDiff, Nat.reduceEqDiff, ↓reduceIte, Bool.not_true, Bool.not_false, beq_self_eq_true, beq_true, beq_false, Bool.not_not, List.getD_cons_zero, List.getD_cons_succ, Int.reduceLT, Int.reduceLE, Int.reduceToNat, Int.reduceEq, Int.reduceNe, decide_true, decide_false, Option.bind_some, Int.toNat_natCast, List.map_cons, List.map_nil, List.zip_cons_cons, List.zip_nil_left, List.append_nil, List.nil_append, List.cons_append, List.length_cons, List.length_nil, Nat.reduceAdd, UInt8.reduceOfNat, UInt16.reduceOfNat, UInt32.reduceOfNat, UInt64.reduceOfNat, UInt64.reduceToNat, UInt32.reduceToNat, UInt16.reduceToNat, UInt8.reduceToNat, Int.natCast_add, Int.reduceAdd, Int.reduceSub, Int.reduceMul, Nat.mul_one, Nat.add_zero, Nat.zero_mul, Nat.reduceMul, Nat.zero_add, ne_eq, not_true_eq_false, not_false_eq_true, eq_self, Bool.false_eq_true, Bool.true_eq_false, Bool.or_true, Bool.or_false, Bool.and_true, Bool.and_false, Bool.true_and, Bool.false_and, Bool.true_or, Bool.false_or, Option.isNone_some, Option.isNone_none, List.length_set, List.length_replicate, List.getElem?_cons_zero, List.getElem?_cons_succ, Qp0, Qp1, Qp2, Qp3, Qp4, Qp5, Qp6, Qp7, Qp8, Qp9, Qp10, Qp11, Qp12, Qp13, Qp14, Qp15, Qp16, Qp17, Qp18, Qp19, Qp20, Qp21, Qp22, Qe0, Qe1, Qe2, Qe3, Qe4, Qe5, Qe6, Qe7, Qe8]
  refine hO.out.mono ?_
  rintro v hz ⟨hev, hle, hds⟩
  obtain ⟨t, x, rfl⟩ := hev.held
  simp -dsimp -implicitDefEqProofs (disch := first | omega | assumption | (simp only [Option.isSome_some, Qt0, Qt1, Qt2, Qt3, Qt4, Qt5, Qt6, Qt7, Qt8, Qt9]; done) | (simp only [UInt64.reduceToNat, UInt32.reduceToNat, UInt8.reduceToNat, List.length_cons, List.length_nil, List.length_append, Int.toNat_natCast] <;> omega)) only [Nat.reduceLT, Nat.reduceLeDiff, Nat.reduceEqDiff, ↓reduceIte, Bool.not_true, Bool.not_false, beq_self_eq_true, beq_true, beq_false, Bool.not_not, List.getD_cons_zero, List.getD_cons_succ, Int.reduceLT, Int.reduceLE, Int.reduceToNat, Int.reduceEq, Int.reduceNe, decide_true, decide_false, Option.bind_some, Int.toNat_natCast, List.map_cons, List.map_nil, List.zip_cons_cons, List.zip_nil_left, List.append_nil, List.nil_append, List.cons_append, List.length_cons, List.length_nil, Nat.reduceAdd, UInt8.reduceOfNat, UInt16.reduceOfNat, UInt32.reduceOfNat, UInt64.reduceOfNat, UInt64.reduceToNat, UInt32.reduceToNat, UInt16.reduceToNat, UInt8.reduceToNat, Int.natCast_add, Int.reduceAdd, Int.reduceSub, Int.reduceMul, Nat.mul_one, Nat.add_zero, Nat.zero_mul, Nat.reduceMul, Nat.zero_add, ne_eq, not_true_eq_false, not_false_eq_true, eq_self, Bool.false_eq_true, Bool.true_eq_false, Bool.or_true, Bool.or_false, Bool.and_true, Bool.and_false, Bool.true_and, Bool.false_and, Bool.true_or, Bool.false_or, Option.isNone_some, Option.isNone_none, List.length_set, List.length_replicate, List.getElem?_cons_zero, List.getElem?_cons_succ, Qp0, Qp1, Qp2, Qp3, Qp4, Qp5, Qp6, Qp7, Qp8, Qp9, Qp10, Qp11, Qp12, Qp13, Qp14, Qp15, Qp16, Qp17, Qp18, Qp19, Qp20, Qp21, Qp22, Qe0, Qe1, Qe2, Qe3, Qe4, Qe5, Qe6, Qe7, Qe8]
  exact ⟨_, PH.Le.refl _, hev, hle, hds⟩
set_option maxRecDepth 20000 in
set_option maxHeartbeats 1000000 in
theorem cut_down (hd : DS h0 h b d) (hdn : d.down = true) (n : Int) : PCalls Try.prog w0 11 [.pointer (some ⟨b, 0, none⟩), .int .i64 n] h fun v h' => EV h' (.wrap blockT 0 (.code 5)) v ∧ PH.Le h h' ∧ DS h0 h' b d := by
  refine PCalls_body Try.func11 (by kernel_rfl) rfl _ Try.ntmps11 (by kernel_rfl) (by kernel_rfl) _ Try.results11 ?_
  have hD := down_any h0 b d w0 h hd
  rw [hdn] at hD
  have hD := Lib.hid hD
  have hO := Lib.hid (op_down h0 b d w0 h hd hdn)
  simp -dsimp -implicitDefEqProofs (disch := first | omega | assumption | (simp only [Option.isSome_some, Qt0, Qt1, Qt2, Qt3, Qt4, Qt5, Qt6, Qt7, Qt8, Qt9]; done) | (simp only [UInt64.reduceToNat, UInt32.reduceToNat, UInt8.reduceToNat, List.length_cons, List.length_nil, List.length_append, Int.toNat_natCast] <;> omega)) only [Nat.reduceLT, Nat.reduceLeDiff, Nat.reduceEqDiff, ↓reduceIte, Bool.not_true, Bool.not_false, beq_self_eq_true, beq_true, beq_false, Bool.not_not, List.getD_cons_zero, List.getD_cons_succ, Int.reduceLT, Int.reduceLE, Int.reduceToNat, Int.reduceEq, Int.reduceNe, decide_true, decide_false, Option.bind_some, Int.toNat_natCast, List.map_cons, List.map_nil, List.zip_cons_cons, List.zip_nil_left, List.append_nil, List.nil_append, List.cons_append, List.length_cons, List.length_nil, Nat.reduceAdd, UInt8.reduceOfNat, UInt16.reduceOfNat, UInt32.reduceOfNat, UInt64.reduceOfNat, UInt64.reduceToNat, UInt32.reduceToNat, UInt16.reduceToNat, UInt8.reduceToNat, Int.natCast_add, Int.reduceAdd, Int.reduceSub, Int.reduceMul, Nat.mul_one, Nat.add_zero, Nat.zero_mul, Nat.reduceMul, Nat.zero_add, ne_eq, not_true_eq_false, not_false_eq_true, eq_self, Bool.false_eq_true, Bool.true_eq_false, Bool.or_true, Bool.or_false, Bool.and_true, Bool.and_false, Bool.true_and, Bool.false_and, Bool.true_or, Bool.false_or, Option.isNone_some, Option.isNone_none, List.length_set, List.length_replicate, List.getElem?_cons_zero, List.getElem?_cons_succ, Qp0, Qp1, Qp2, Qp3, Qp4, Qp5, Qp6, Qp7, Qp8, Qp9, Qp10, Qp11, Qp12, Qp13, Qp14, Qp15, Qp16, Qp17, Qp18, Qp19, Qp20, Qp21, Qp22, Qe0, Qe1, Qe2, Qe3, Qe4, Qe5, Qe6, Qe7, Qe8]
  refine hD.out.mono ?_
  rintro v hz ⟨rfl, hz⟩
  rw [hz]
  clear hz
  simp -dsimp -implicitDefEqProofs (disch := first | omega | assumption | (simp only [Option.isSome_some, Qt0, Qt1, Qt2, Qt3, Qt4, Qt5, Qt6, Qt7, Qt8, Qt9]; done) | (simp only [UInt64.reduceToNat, UInt32.reduceToNat, UInt8.reduceToNat, List.length_cons, List.length_nil, List.length_append, Int.toNat_natCast] <;> omega)) only [Nat.reduceLT, Nat.reduceLeDiff, Nat.reduceEqDiff, ↓reduceIte, Bool.not_true, Bool.not_false, beq_self_eq_true, beq_true, beq_false, Bool.not_not, List.getD_cons_zero, List.getD_cons_succ, Int.reduceLT, Int.reduceLE, Int.reduceToNat, Int.reduceEq, Int.reduceNe, decide_true, decide_false, Option.bind_some, Int.toNat_natCast, List.map_cons, List.map_nil, List.zip_cons_cons, List.zip_nil_left, List.append_nil, List.nil_append, List.cons_append, List.length_cons, List.length_nil, Nat.reduceAdd, UInt8.reduceOfNat, UInt16.reduceOfNat, UInt32.reduceOfNat, UInt64.reduceOfNat, UInt64.reduceToNat, UInt32.reduceToNat, UInt16.reduceToNat, UInt8.reduceToNat, Int.natCast_add, Int.reduceAdd, Int.reduceSub, Int.reduceMul, Nat.mul_one, Nat.add_zero, Nat.zero_mul, Nat.reduceMul, Nat.zero_add, ne_eq, not_true_eq_false, not_false_eq_true, eq_self, Bool.false_eq_true, Bool.true_eq_false, Bool.or_true, Bool.or_false, Bool.and_true, Bool.and_false, Bool.true_and, Bool.false_and, Bool.true_or, Bool.false_or, Option.isNone_some, Option.isNone_none, List.length_set, List.length_replicate, List.getElem?_cons_zero, List.getElem?_cons_succ, Qp0, Qp1, Qp2, Qp3, Qp4, Qp5, Qp6, Qp7, Qp8, Qp9, Qp10, Qp11, Qp12, Qp13, Qp14, Qp15, Qp16, Qp17, Qp18, Qp19, Qp20, Qp21, Qp22, Qe0, Qe1, Qe2, Qe3, Qe4, Qe5, Qe6, Qe7, Qe8]
  refine hO.out.mono ?_
  rintro v hz ⟨hev, hle, hds⟩
  obtain ⟨t, x, rfl⟩ := hev.held
  simp -dsimp -implicitDefEqProofs (disch := first | omega | assumption | (simp only [Option.isSome_some, Qt0, Qt1, Qt2, Qt3, Qt4, Qt5, Qt6, Qt7, Qt8, Qt9]; done) | (simp only [UInt64.reduceToNat, UInt32.reduceToNat, UInt8.reduceToNat, List.length_cons, List.length_nil, List.length_append, Int.toNat_natCast] <;> omega)) only [Nat.reduceLT, Nat.reduceLeDiff, Nat.reduceEqDiff, ↓reduceIte, Bool.not_true, Bool.not_false, beq_self_eq_true, beq_true, beq_false, Bool.not_not, List.getD_cons_zero, List.getD_cons_succ, Int.reduceLT, Int.reduceLE, Int.reduceToNat, Int.reduceEq, Int.reduceNe, decide_true, decide_false, Option.bind_some, Int.toNat_natCast, List.map_cons, List.map_nil, List.zip_cons_cons, List.zip_nil_left, List.append_nil, List.nil_append, List.cons_append, List.length_cons, List.length_nil, Nat.reduceAdd, UInt8.reduceOfNat, UInt16.reduceOfNat, UInt32.reduceOfNat, UInt64.reduceOfNat, UInt64.reduceToNat, UInt32.reduceToNat, UInt16.reduceToNat, UInt8.reduceToNat, Int.natCast_add, Int.reduceAdd, Int.reduceSub, Int.reduceMul, Nat.mul_one, Nat.add_zero, Nat.zero_mul, Nat.reduceMul, Nat.zero_add, ne_eq, not_true_eq_false, not_false_eq_true, eq_self, Bool.false_eq_true, Bool.true_eq_false, Bool.or_true, Bool.or_false, Bool.and_true, Bool.and_false, Bool.true_and, Bool.false_and, Bool.true_or, Bool.false_or, Option.isNone_some, Option.isNone_none, List.length_set, List.length_replicate, List.getElem?_cons_zero, List.getElem?_cons_succ, Qp0, Qp1, Qp2, Qp3, Qp4, Qp5, Qp6, Qp7, Qp8, Qp9, Qp10, Qp11, Qp12, Qp13, Qp14, Qp15, Qp16, Qp17, Qp18, Qp19, Qp20, Qp21, Qp22, Qe0, Qe1, Qe2, Qe3, Qe4, Qe5, Qe6, Qe7, Qe8]
  exact ⟨_, PH.Le.refl _, hev, hle, hds⟩
set_option maxRecDepth 20000 in
set_option maxHeartbeats 1000000 in
theorem read_down (hd : DS h0 h b d) (hdn : d.down = true) (i j : Int) : PCalls Try.prog w0 13 [.pointer (some ⟨b, 0, none⟩), .int .i64 i, .int .i64 j] h fun v h' => ∃ u, v = .tuple #[str [], u] ∧ EV h' (.wrap blockT 0 (.code 5)) u ∧ PH.Le h h' ∧ DS h0 h' b d := by
  refine PCalls_body Try.func13 (by kernel_rfl) rfl _ Try.ntmps13 (by kernel_rfl) (by kernel_rfl) _ Try.results13 ?_
  have hD := down_any h0 b d w0 h hd
  rw [hdn] at hD
  have hD := Lib.hid hD
  have hB := bad_any h0 b d w0 h hd 5
  rw [show d.size = 0 by unfold Dk.size; rw [if_pos hdn]] at hB
  have hB := Lib.hid hB
  simp -dsimp -implicitDefEqProofs (disch := first | omega | assumption | (simp only [Option.isSome_some, Qt0, Qt1, Qt2, Qt3, Qt4, Qt5, Qt6, Qt7, Qt8, Qt9]; done) | (simp only [UInt64.reduceToNat, UInt32.reduceToNat, UInt8.reduceToNat, List.length_cons, List.length_nil, List.length_append, Int.toNat_natCast] <;> omega)) only [Nat.reduceLT, Nat.reduceLeDiff, Nat.reduceEqDiff, ↓reduceIte, Bool.not_true, Bool.not_false, beq_self_eq_true, beq_true, beq_false, Bool.not_not, List.getD_cons_zero, List.getD_cons_succ, Int.reduceLT, Int.reduceLE, Int.reduceToNat, Int.reduceEq, Int.reduceNe, decide_true, decide_false, Option.bind_some, Int.toNat_natCast, List.map_cons, List.map_nil, List.zip_cons_cons, List.zip_nil_left, List.append_nil, List.nil_append, List.cons_append, List.length_cons, List.length_nil, Nat.reduceAdd, UInt8.reduceOfNat, UInt16.reduceOfNat, UInt32.reduceOfNat, UInt64.reduceOfNat, UInt64.reduceToNat, UInt32.reduceToNat, UInt16.reduceToNat, UInt8.reduceToNat, Int.natCast_add, Int.reduceAdd, Int.reduceSub, Int.reduceMul, Nat.mul_one, Nat.add_zero, Nat.zero_mul, Nat.reduceMul, Nat.zero_add, ne_eq, not_true_eq_false, not_false_eq_true, eq_self, Bool.false_eq_true, Bool.true_eq_false, Bool.or_true, Bool.or_false, Bool.and_true, Bool.and_false, Bool.true_and, Bool.false_and, Bool.true_or, Bool.false_or, Option.isNone_some, Option.isNone_none, List.length_set, List.length_replicate, List.getElem?_cons_zero, List.getElem?_cons_succ, Qp0, Qp1, Qp2, Qp3, Qp4, Qp5, Qp6, Qp7, Qp8, Qp9, Qp10, Qp11, Qp12, Qp13, Qp14, Qp15, Qp16, Qp17, Qp18, Qp19, Qp20, Qp21, Qp22, Qe0, Qe1, Qe2, Qe3, Qe4, Qe5, Qe6, Qe7, Qe8]
  refine hD.out.mono ?_
  rintro v hz ⟨rfl, hz⟩
  rw [hz]
  clear hz
  simp -dsimp -implicitDefEqProofs (disch := first | omega | assumption | (simp only [Option.isSome_some, Qt0, Qt1, Qt2, Qt3, Qt4, Qt5, Qt6, Qt7, Qt8, Qt9]; done) | (simp only [UInt64.reduceToNat, UInt32.reduceToNat, UInt8.reduceToNat, List.length_cons, List.length_nil, List.length_append, Int.toNat_natCast] <;> omega)) only [Nat.reduceLT, Nat.reduceLeDiff, Nat.reduceEqDiff, ↓reduceIte, Bool.not_true, Bool.not_false, beq_self_eq_true, beq_true, beq_false, Bool.not_not, List.getD_cons_zero, List.getD_cons_succ, Int.reduceLT, Int.reduceLE, Int.reduceToNat, Int.reduceEq, Int.reduceNe, decide_true, decide_false, Option.bind_some, Int.toNat_natCast, List.map_cons, List.map_nil, List.zip_cons_cons, List.zip_nil_left, List.append_nil, List.nil_append, List.cons_append, List.length_cons, List.length_nil, Nat.reduceAdd, UInt8.reduceOfNat, UInt16.reduceOfNat, UInt32.reduceOfNat, UInt64.reduceOfNat, UInt64.reduceToNat, UInt32.reduceToNat, UInt16.reduceToNat, UInt8.reduceToNat, Int.natCast_add, Int.reduceAdd, Int.reduceSub, Int.reduceMul, Nat.mul_one, Nat.add_zero, Nat.zero_mul, Nat.reduceMul, Nat.zero_add, ne_eq, not_true_eq_false, not_false_eq_true, eq_self, Bool.false_eq_true, Bool.true_eq_false, Bool.or_true, Bool.or_false, Bool.and_true, Bool.and_false, Bool.true_and, Bool.false_and, Bool.true_or, Bool.false_or, Option.isNone_some, Option.isNone_none, List.length_set, List.length_replicate, List.getElem?_cons_zero, List.getElem?_cons_succ, Qp0, Qp1, Qp2, Qp3, Qp4, Qp5, Qp6, Qp7, Qp8, Qp9, Qp10, Qp11, Qp12, Qp13, Qp14, Qp15, Qp16, Qp17, Qp18, Qp19, Qp20, Qp21, Qp22, Qe0, Qe1, Qe2, Qe3, Qe4, Qe5, Qe6, Qe7, Qe8]
  refine hB.out.mono ?_
  rintro v hz ⟨be, rfl, hbe, rfl⟩
  simp -dsimp -implicitDefEqProofs (disch := first | omega | assumption | (simp only [Option.isSome_some, Qt0, Qt1, Qt2, Qt3, Qt4, Qt5, Qt6, Qt7, Qt8, Qt9]; done) | (simp only [UInt64.reduceToNat, UInt32.reduceToNat, UInt8.reduceToNat, List.length_cons, List.length_nil, List.length_append, Int.toNat_natCast] <;> omega)) only [Nat.reduceLT, Nat.reduceLeDiff, Nat.reduceEqDiff, ↓reduceIte, Bool.not_true, Bool.not_false, beq_self_eq_true, beq_true, beq_false, Bool.not_not, List.getD_cons_zero, List.getD_cons_succ, Int.reduceLT, Int.reduceLE, Int.reduceToNat, Int.reduceEq, Int.reduceNe, decide_true, decide_false, Option.bind_some, Int.toNat_natCast, List.map_cons, List.map_nil, List.zip_cons_cons, List.zip_nil_left, List.append_nil, List.nil_append, List.cons_append, List.length_cons, List.length_nil, Nat.reduceAdd, UInt8.reduceOfNat, UInt16.reduceOfNat, UInt32.reduceOfNat, UInt64.reduceOfNat, UInt64.reduceToNat, UInt32.reduceToNat, UInt16.reduceToNat, UInt8.reduceToNat, Int.natCast_add, Int.reduceAdd, Int.reduceSub, Int.reduceMul, Nat.mul_one, Nat.add_zero, Nat.zero_mul, Nat.reduceMul, Nat.zero_add, ne_eq, not_true_eq_false, not_false_eq_true, eq_self, Bool.false_eq_true, Bool.true_eq_false, Bool.or_true, Bool.or_false, Bool.and_true, Bool.and_false, Bool.true_and, Bool.false_and, Bool.true_or, Bool.false_or, Option.isNone_some, Option.isNone_none, List.length_set, List.length_replicate, List.getElem?_cons_zero, List.getElem?_cons_succ, Qp0, Qp1, Qp2, Qp3, Qp4, Qp5, Qp6, Qp7, Qp8, Qp9, Qp10, Qp11, Qp12, Qp13, Qp14, Qp15, Qp16, Qp17, Qp18, Qp19, Qp20, Qp21, Qp22, Qe0, Qe1, Qe2, Qe3, Qe4, Qe5, Qe6, Qe7, Qe8]
  exact ⟨_, PH.Le.refl _, _, rfl, EV.at (show EV _ (.code 5) (codeV 5) from rfl) hbe, (PH.Le.refl _).new _ _ hbe, hd.more hbe⟩
set_option maxRecDepth 20000 in
set_option maxHeartbeats 1000000 in
theorem rot_down (hd : DS h0 h b d) (hdn : d.down = true) (n : Int) (x : UInt8) : PCalls Try.prog w0 20 [.pointer (some ⟨b, 0, none⟩), .int .i64 n, u8 x] h fun v h' => v = .bool false ∧ h' = h := by
  refine PCalls_body Try.func20 (by kernel_rfl) rfl _ Try.ntmps20 (by kernel_rfl) (by kernel_rfl) _ Try.results20 ?_
  have hD := down_any h0 b d w0 h hd
  rw [hdn] at hD
  have hD := Lib.hid hD
  have hB := bad_any h0 b d w0 h hd 5
  rw [show d.size = 0 by unfold Dk.size; rw [if_pos hdn]] at hB
  have hB := Lib.hid hB
  simp -dsimp -implicitDefEqProofs (disch := first | omega | assumption | (simp only [Option.isSome_some, Qt0, Qt1, Qt2, Qt3, Qt4, Qt5, Qt6, Qt7, Qt8, Qt9]; done) | (simp only [UInt64.reduceToNat, UInt32.reduceToNat, UInt8.reduceToNat, List.length_cons, List.length_nil, List.length_append, Int.toNat_natCast] <;> omega)) only [Nat.reduceLT, Nat.reduceLeDiff, Nat.reduceEqDiff, ↓reduceIte, Bool.not_true, Bool.not_false, beq_self_eq_true, beq_true, beq_false, Bool.not_not, List.getD_cons_zero, List.getD_cons_succ, Int.reduceLT, Int.reduceLE, Int.reduceToNat, Int.reduceEq, Int.reduceNe, decide_true, decide_false, Option.bind_some, Int.toNat_natCast, List.map_cons, List.map_nil, List.zip_cons_cons, List.zip_nil_left, List.append_nil, List.nil_append, List.cons_append, List.length_cons, List.length_nil, Nat.reduceAdd, UInt8.reduceOfNat, UInt16.reduceOfNat, UInt32.reduceOfNat, UInt64.reduceOfNat, UInt64.reduceToNat, UInt32.reduceToNat, UInt16.reduceToNat, UInt8.reduceToNat, Int.natCast_add, Int.reduceAdd, Int.reduceSub, Int.reduceMul, Nat.mul_one, Nat.add_zero, Nat.zero_mul, Nat.reduceMul, Nat.zero_add, ne_eq, not_true_eq_false, not_false_eq_true, eq_self, Bool.false_eq_true, Bool.true_eq_false, Bool.or_true, Bool.or_false, Bool.and_true, Bool.and_false, Bool.true_and, Bool.false_and, Bool.true_or, Bool.false_or, Option.isNone_some, Option.isNone_none, List.length_set, List.length_replicate, List.getElem?_cons_zero, List.getElem?_cons_succ, Qp0, Qp1, Qp2, Qp3, Qp4, Qp5, Qp6, Qp7, Qp8, Qp9, Qp10, Qp11, Qp12, Qp13, Qp14, Qp15, Qp16, Qp17, Qp18, Qp19, Qp20, Qp21, Qp22, Qe0, Qe1, Qe2, Qe3, Qe4, Qe5, Qe6, Qe7, Qe8]
  refine hD.out.mono ?_
  rintro v hz ⟨rfl, hz⟩
  rw [hz]
  clear hz
  simp -dsimp -implicitDefEqProofs (disch := first | omega | assumption | (simp only [Option.isSome_some, Qt0, Qt1, Qt2, Qt3, Qt4, Qt5, Qt6, Qt7, Qt8, Qt9]; done) | (simp only [UInt64.reduceToNat, UInt32.reduceToNat, UInt8.reduceToNat, List.length_cons, List.length_nil, List.length_append, Int.toNat_natCast] <;> omega)) only [Nat.reduceLT, Nat.reduceLeDiff, Nat.reduceEqDiff, ↓reduceIte, Bool.not_true, Bool.not_false, beq_self_eq_true, beq_true, beq_false, Bool.not_not, List.getD_cons_zero, List.getD_cons_succ, Int.reduceLT, Int.reduceLE, Int.reduceToNat, Int.reduceEq, Int.reduceNe, decide_true, decide_false, Option.bind_some, Int.toNat_natCast, List.map_cons, List.map_nil, List.zip_cons_cons, List.zip_nil_left, List.append_nil, List.nil_append, List.cons_append, List.length_cons, List.length_nil, Nat.reduceAdd, UInt8.reduceOfNat, UInt16.reduceOfNat, UInt32.reduceOfNat, UInt64.reduceOfNat, UInt64.reduceToNat, UInt32.reduceToNat, UInt16.reduceToNat, UInt8.reduceToNat, Int.natCast_add, Int.reduceAdd, Int.reduceSub, Int.reduceMul, Nat.mul_one, Nat.add_zero, Nat.zero_mul, Nat.reduceMul, Nat.zero_add, ne_eq, not_true_eq_false, not_false_eq_true, eq_self, Bool.false_eq_true, Bool.true_eq_false, Bool.or_true, Bool.or_false, Bool.and_true, Bool.and_false, Bool.true_and, Bool.false_and, Bool.true_or, Bool.false_or, Option.isNone_some, Option.isNone_none, List.length_set, List.length_replicate, List.getElem?_cons_zero, List.getElem?_cons_succ, Qp0, Qp1, Qp2, Qp3, Qp4, Qp5, Qp6, Qp7, Qp8, Qp9, Qp10, Qp11, Qp12, Qp13, Qp14, Qp15, Qp16, Qp17, Qp18, Qp19, Qp20, Qp21, Qp22, Qe0, Qe1, Qe2, Qe3, Qe4, Qe5, Qe6, Qe7, Qe8]
  exact ⟨_, PH.Le.refl _, by trivial, rfl⟩
end
theorem rd_strs {H : Type} {enc : TypeId × Value → H} {W : World} {e : TypeId} {xs : List Value} {n : Nat} (he : Try.prog.underlying e = some .string) (hC : Try.prog.cellsOf e = 1) (hl : xs.length = n * Try.prog.cellsOf e)
    (hall : ∀ i, i < n → ∃ f y, DataW.trod enc Try.prog W 0 (fun _ => true) true f e ((xs.drop (i * Try.prog.cellsOf e)).take (Try.prog.cellsOf e)) = some y) :
    ∃ zs : List (List UInt8), xs = zs.map str := by
  rw [hC, Nat.mul_one] at hl
  have hx : ∀ i (h : i < xs.length), ∃ z, xs[i] = str z := by
    intro i h
    obtain ⟨f, y, hy⟩ := hall i (by omega)
    have h1 : (xs.drop i).take 1 = [xs[i]] := by rw [List.drop_eq_getElem_cons h]; rfl
    rw [hC, Nat.mul_one, h1] at hy
    obtain ⟨z, hz, _⟩ := trod_str he hy
    exact ⟨z, hz⟩
  clear hall hl
  induction xs with
  | nil => exact ⟨[], rfl⟩
  | cons x xs ih =>
    obtain ⟨z, hz⟩ := hx 0 (by simp)
    obtain ⟨zs, hzs⟩ := ih (fun i h => hx (i + 1) (by simpa using h))
    simp at hz
    exact ⟨z :: zs, by rw [hz, hzs]; rfl⟩
/-- The device behind i texts, with a fuse of n. -/
def fused (n : Nat) (T : List (List UInt8)) (i : Nat) : Dk := if i ≤ n then ⟨(T.take i).flatten, 0, 1048576, (n : Int) - i, false⟩ else ⟨(T.take n).flatten, 0, 1048576, 0, true⟩
theorem flat_len (T : List (List UInt8)) (i : Nat) (h : ∀ j s, j < i → T[j]? = some s → s.length ≤ 3000) : (T.take i).flatten.length ≤ i * 3000 := by
  induction i with
  | zero => simp
  | succ i ih =>
    have ih := ih (fun j s hj => h j s (by omega))
    rcases Nat.lt_or_ge i T.length with hi | hi
    · rw [List.take_succ_eq_append_getElem hi, List.flatten_append, List.length_append]
      have := h i _ (by omega) (List.getElem?_eq_getElem hi)
      simp only [List.flatten_cons, List.flatten_nil, List.append_nil]
      omega
    · have e1 : T.take (i + 1) = T := List.take_of_length_le (by omega)
      have e2 : T.take i = T := List.take_of_length_le (by omega)
      have e3 : (T.take (i + 1)).flatten.length = (T.take i).flatten.length := congrArg (fun l => l.flatten.length) (e1.trans e2.symm)
      omega
theorem flat_next (T : List (List UInt8)) (i : Nat) (s : List UInt8) (h : T[i]? = some s) : (T.take (i + 1)).flatten = (T.take i).flatten ++ s := by
  obtain ⟨hi, e⟩ := List.getElem?_eq_some_iff.1 h
  rw [List.take_succ_eq_append_getElem hi, List.flatten_append, e]
  simp
theorem fused_next (n : Nat) (T : List (List UInt8)) (i : Nat) (s : List UInt8) (hs : T[i]? = some s) (h3 : s.length ≤ 3000) (hl : ((T.take i).flatten).length ≤ 300000) : (fused n T i).append s = (fused n T (i + 1), if i < n then none else some (5, 0)) := by
  unfold fused
  by_cases h1 : i + 1 ≤ n
  · rw [if_pos (show i ≤ n by omega), if_pos h1, if_pos (show i < n by omega)]
    have hop : Dk.op ⟨(T.take i).flatten, 0, 1048576, (n : Int) - i, false⟩ = (⟨(T.take i).flatten, 0, 1048576, (n : Int) - i - 1, false⟩, true) := by
      unfold Dk.op
      rw [if_neg (by simp), if_neg (by simp only; omega), if_pos (by simp only; omega)]
    unfold Dk.append
    rw [if_neg (by simp only; omega), hop, if_pos rfl]
    simp only [flat_next T i s hs]
    congr 2
    omega
  · by_cases h2 : i ≤ n
    · obtain rfl : i = n := by omega
      rw [if_pos h2, if_neg h1, if_neg (by omega)]
      have hop : Dk.op ⟨(T.take i).flatten, 0, 1048576, (i : Int) - i, false⟩ = (⟨(T.take i).flatten, 0, 1048576, (i : Int) - i, true⟩, false) := by
        unfold Dk.op
        rw [if_neg (by simp), if_neg (by simp only; omega), if_neg (by simp only; omega)]
      unfold Dk.append
      rw [if_neg (by simp only; omega), hop, if_neg (by simp), Int.sub_self]
    · rw [if_neg h2, if_neg h1, if_neg (by omega)]
      rfl
theorem fused_good (n : Nat) (T : List (List UInt8)) (i : Nat) (hl : ∀ j, j ≤ i → ((T.take j).flatten).length ≤ 300000) (hn : n ≤ 255) : Good (fused n T i) := by
  unfold fused
  by_cases h : i ≤ n
  · rw [if_pos h]
    have := hl i (Nat.le_refl _)
    exact ⟨by simp, by simp only; omega, by simp only; omega, by simp, by simp, by simp only; omega⟩
  · rw [if_neg h]
    have := hl n (by omega)
    exact ⟨by simp, by simp only; omega, by simp only; omega, by simp, by simp, by simp⟩
theorem zl_nil (safe : Nat) (l : List UInt8) : ∀ k, zl [] safe l k = l
  | 0 => rfl
  | k + 1 => by unfold zl; rw [lost_nil, if_neg (by decide), zl_nil safe l k]
theorem crash_all (d : Dk) (h : d.safe = 0) : d.crash d.l.length [] = { d with safe := d.l.length, fuse := -1, down := false } := by
  have hk : d.kept d.l.length = d.l.length := by
    unfold Dk.kept
    have h1 : ((d.l.length : Int)).tmod ((d.l.length : Int) + 1) = d.l.length := by rw [Int.tmod_eq_emod_of_nonneg (by omega), Int.emod_eq_of_lt (by omega) (by omega)]
    rw [h, Int.sub_zero, h1, Int.add_emod_right, Int.emod_eq_of_lt (by omega) (by omega)]
  unfold Dk.crash
  rw [hk, h, zl_nil, Int.zero_add, Int.toNat_natCast, List.take_length]
theorem read_all (d : Dk) (h : d.down = false) : d.read 0 d.l.length = (d.l, none) := by
  unfold Dk.read
  rw [if_neg (by rw [h]; decide), if_neg (by omega)]
  simp
theorem rd_param {w : World} {sz n b o : Nat} {xs : List Value} (hr : Rd w w.heap.size sz (some ⟨b, o, none⟩) n xs) (hn : 0 < n) : b < w.heap.size ∧ ∀ j u, xs[j]? = some u → rdM w none b (o + j) = some u := by
  obtain ⟨b', o', e, hb, hc⟩ := hr.2 hn
  have e := Option.some.inj e
  injection e with e1 e2 e3
  subst e1; subst e2
  exact ⟨hb, fun j u hj => by unfold rdM; simp only; rw [if_pos hb]; exact hc j u hj⟩
theorem rd_param_addr {w : World} {sz n : Nat} {A : Option Addr} {xs : List Value} (hr : Rd w w.heap.size sz A n xs) (hn : 0 < n) : ∃ b o, A = some ⟨b, o, none⟩ := by
  obtain ⟨b, o, h, _⟩ := hr.2 hn; exact ⟨b, o, h⟩
end Go.Proofs.Ytcjojkhieocehaa
