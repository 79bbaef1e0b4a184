/- MacDerives: any number has of any master the key that the document says, of 32 bytes. No condition. -/
import Derived.Test.YtccjkjghapflfaaMnV
import Derived.Test.YtccjkjghapflfaaBase
import Derived.Test.YtccjkjghapflfaaChecked
namespace Go.Proofs.Ytccjkjghapflfaa.MnVl
set_option linter.unusedVariables false
set_option linter.unusedSimpArgs false
open Go.ChangeShapes Go.WideShapes Go.ChangeAt Go.RowKit Base Px
set_option maxRecDepth 20000 in
set_option maxHeartbeats 2000000 in
theorem walk_MacDerives (master : List UInt8) (n : Int) (w : World) : Calls Try.prog 6 #[str master, .int .i64 n] w fun e w' => e = .returned (.bool true) ∧ Below w.heap.size w w' := by
  refine law_calls (args := [str master, .int .i64 n]) (Calls_body Try.func6 rfl _ Try.ntmps6 (by kernel_rfl) (by kernel_rfl) _ Try.results6 ?_ w (Sim.empty w))
  have hA := Lib.hid (@awake_any w (PH.empty w))
  simp -dsimp -implicitDefEqProofs (disch := first | omega | assumption | (simp only [Option.isSome_some, Qt0, Qt1, Qt2, Qt3, Qt4, Qt5, Qt6]; done) | (simp only [UInt64.reduceToNat, UInt32.reduceToNat, UInt8.reduceToNat, List.length_cons, List.length_nil, List.length_append, Int.toNat_natCast] <;> omega)) only [Nat.reduceLT, Nat.reduceLeDiff, Nat.reduceEqDiff, ↓reduceIte, Bool.not_true, Bool.not_false, beq_self_eq_true, beq_true, beq_false, Bool.not_not, List.getD_cons_zero, List.getD_cons_succ, Int.reduceLT, Int.reduceLE, Int.reduceToNat, Int.reduceEq, Int.reduceNe, decide_true, decide_false, Option.bind_some, Int.toNat_natCast, List.map_cons, List.map_nil, List.zip_cons_cons, List.zip_nil_left, List.append_nil, List.nil_append, List.cons_append, List.length_cons, List.length_nil, Nat.reduceAdd, UInt8.reduceOfNat, UInt16.reduceOfNat, UInt32.reduceOfNat, UInt64.reduceOfNat, UInt64.reduceToNat, UInt32.reduceToNat, UInt16.reduceToNat, UInt8.reduceToNat, Int.natCast_add, Int.reduceAdd, Int.reduceSub, Int.reduceMul, Nat.mul_one, Nat.add_zero, Nat.zero_mul, Nat.reduceMul, Nat.zero_add, ne_eq, not_true_eq_false, not_false_eq_true, eq_self, Bool.false_eq_true, Bool.true_eq_false, Bool.or_true, Bool.or_false, Bool.and_true, Bool.and_false, Bool.true_and, Bool.false_and, Bool.true_or, Bool.false_or, List.length_set, List.length_replicate, Qp0, Qp1, Qp2, Qp3, Qp4, Qp5, Qp6, Qp7, Qp8, Qp9, Qp10, Qp11, Qp12, Qp13, Qp14, Qp15, Qp16, Qp17, Qp18, Qp19, Qp20, Qp21, Qe0, Qe1, Qe2, Qe3]
  refine hA.out.mono ?_
  rintro v h1 ⟨rfl, rfl⟩
  by_cases hk : 2000 < (master.length : Int)
  · have d1 := decide_eq_true hk
    simp -dsimp -implicitDefEqProofs (disch := first | omega | assumption | (simp only [Option.isSome_some, Qt0, Qt1, Qt2, Qt3, Qt4, Qt5, Qt6]; done) | (simp only [UInt64.reduceToNat, UInt32.reduceToNat, UInt8.reduceToNat, List.length_cons, List.length_nil, List.length_append, Int.toNat_natCast] <;> omega)) only [Nat.reduceLT, Nat.reduceLeDiff, Nat.reduceEqDiff, ↓reduceIte, Bool.not_true, Bool.not_false, beq_self_eq_true, beq_true, beq_false, Bool.not_not, List.getD_cons_zero, List.getD_cons_succ, Int.reduceLT, Int.reduceLE, Int.reduceToNat, Int.reduceEq, Int.reduceNe, decide_true, decide_false, Option.bind_some, Int.toNat_natCast, List.map_cons, List.map_nil, List.zip_cons_cons, List.zip_nil_left, List.append_nil, List.nil_append, List.cons_append, List.length_cons, List.length_nil, Nat.reduceAdd, UInt8.reduceOfNat, UInt16.reduceOfNat, UInt32.reduceOfNat, UInt64.reduceOfNat, UInt64.reduceToNat, UInt32.reduceToNat, UInt16.reduceToNat, UInt8.reduceToNat, Int.natCast_add, Int.reduceAdd, Int.reduceSub, Int.reduceMul, Nat.mul_one, Nat.add_zero, Nat.zero_mul, Nat.reduceMul, Nat.zero_add, ne_eq, not_true_eq_false, not_false_eq_true, eq_self, Bool.false_eq_true, Bool.true_eq_false, Bool.or_true, Bool.or_false, Bool.and_true, Bool.and_false, Bool.true_and, Bool.false_and, Bool.true_or, Bool.false_or, List.length_set, List.length_replicate, Qp0, Qp1, Qp2, Qp3, Qp4, Qp5, Qp6, Qp7, Qp8, Qp9, Qp10, Qp11, Qp12, Qp13, Qp14, Qp15, Qp16, Qp17, Qp18, Qp19, Qp20, Qp21, Qe0, Qe1, Qe2, Qe3, d1]
    exact ⟨_, PH.Le.refl _, by simp⟩
  have d1 := decide_eq_false hk
  have E1 := Lib.hid (@derive_any master n (by omega) w (PH.empty w))
  have E2 := Lib.hid (@rderive_any master n (by omega) w (PH.empty w))
  have hl : (derive master n).length = 32 := tag_length _ _
  generalize derive master n = D at *
  simp -dsimp -implicitDefEqProofs (disch := first | omega | assumption | (simp only [Option.isSome_some, Qt0, Qt1, Qt2, Qt3, Qt4, Qt5, Qt6]; done) | (simp only [UInt64.reduceToNat, UInt32.reduceToNat, UInt8.reduceToNat, List.length_cons, List.length_nil, List.length_append, Int.toNat_natCast] <;> omega)) only [Nat.reduceLT, Nat.reduceLeDiff, Nat.reduceEqDiff, ↓reduceIte, Bool.not_true, Bool.not_false, beq_self_eq_true, beq_true, beq_false, Bool.not_not, List.getD_cons_zero, List.getD_cons_succ, Int.reduceLT, Int.reduceLE, Int.reduceToNat, Int.reduceEq, Int.reduceNe, decide_true, decide_false, Option.bind_some, Int.toNat_natCast, List.map_cons, List.map_nil, List.zip_cons_cons, List.zip_nil_left, List.append_nil, List.nil_append, List.cons_append, List.length_cons, List.length_nil, Nat.reduceAdd, UInt8.reduceOfNat, UInt16.reduceOfNat, UInt32.reduceOfNat, UInt64.reduceOfNat, UInt64.reduceToNat, UInt32.reduceToNat, UInt16.reduceToNat, UInt8.reduceToNat, Int.natCast_add, Int.reduceAdd, Int.reduceSub, Int.reduceMul, Nat.mul_one, Nat.add_zero, Nat.zero_mul, Nat.reduceMul, Nat.zero_add, ne_eq, not_true_eq_false, not_false_eq_true, eq_self, Bool.false_eq_true, Bool.true_eq_false, Bool.or_true, Bool.or_false, Bool.and_true, Bool.and_false, Bool.true_and, Bool.false_and, Bool.true_or, Bool.false_or, List.length_set, List.length_replicate, Qp0, Qp1, Qp2, Qp3, Qp4, Qp5, Qp6, Qp7, Qp8, Qp9, Qp10, Qp11, Qp12, Qp13, Qp14, Qp15, Qp16, Qp17, Qp18, Qp19, Qp20, Qp21, Qe0, Qe1, Qe2, Qe3, d1]
  refine E1.out.mono ?_
  rintro v h1 ⟨rfl, rfl⟩
  simp -dsimp -implicitDefEqProofs (disch := first | omega | assumption | (simp only [Option.isSome_some, Qt0, Qt1, Qt2, Qt3, Qt4, Qt5, Qt6]; done) | (simp only [UInt64.reduceToNat, UInt32.reduceToNat, UInt8.reduceToNat, List.length_cons, List.length_nil, List.length_append, Int.toNat_natCast] <;> omega)) only [Nat.reduceLT, Nat.reduceLeDiff, Nat.reduceEqDiff, ↓reduceIte, Bool.not_true, Bool.not_false, beq_self_eq_true, beq_true, beq_false, Bool.not_not, List.getD_cons_zero, List.getD_cons_succ, Int.reduceLT, Int.reduceLE, Int.reduceToNat, Int.reduceEq, Int.reduceNe, decide_true, decide_false, Option.bind_some, Int.toNat_natCast, List.map_cons, List.map_nil, List.zip_cons_cons, List.zip_nil_left, List.append_nil, List.nil_append, List.cons_append, List.length_cons, List.length_nil, Nat.reduceAdd, UInt8.reduceOfNat, UInt16.reduceOfNat, UInt32.reduceOfNat, UInt64.reduceOfNat, UInt64.reduceToNat, UInt32.reduceToNat, UInt16.reduceToNat, UInt8.reduceToNat, Int.natCast_add, Int.reduceAdd, Int.reduceSub, Int.reduceMul, Nat.mul_one, Nat.add_zero, Nat.zero_mul, Nat.reduceMul, Nat.zero_add, ne_eq, not_true_eq_false, not_false_eq_true, eq_self, Bool.false_eq_true, Bool.true_eq_false, Bool.or_true, Bool.or_false, Bool.and_true, Bool.and_false, Bool.true_and, Bool.false_and, Bool.true_or, Bool.false_or, List.length_set, List.length_replicate, Qp0, Qp1, Qp2, Qp3, Qp4, Qp5, Qp6, Qp7, Qp8, Qp9, Qp10, Qp11, Qp12, Qp13, Qp14, Qp15, Qp16, Qp17, Qp18, Qp19, Qp20, Qp21, Qe0, Qe1, Qe2, Qe3, d1]
  refine E2.out.mono ?_
  rintro v h1 ⟨rfl, rfl⟩
  simp -dsimp -implicitDefEqProofs (disch := first | omega | assumption | (simp only [Option.isSome_some, Qt0, Qt1, Qt2, Qt3, Qt4, Qt5, Qt6]; done) | (simp only [UInt64.reduceToNat, UInt32.reduceToNat, UInt8.reduceToNat, List.length_cons, List.length_nil, List.length_append, Int.toNat_natCast] <;> omega)) only [Nat.reduceLT, Nat.reduceLeDiff, Nat.reduceEqDiff, ↓reduceIte, Bool.not_true, Bool.not_false, beq_self_eq_true, beq_true, beq_false, Bool.not_not, List.getD_cons_zero, List.getD_cons_succ, Int.reduceLT, Int.reduceLE, Int.reduceToNat, Int.reduceEq, Int.reduceNe, decide_true, decide_false, Option.bind_some, Int.toNat_natCast, List.map_cons, List.map_nil, List.zip_cons_cons, List.zip_nil_left, List.append_nil, List.nil_append, List.cons_append, List.length_cons, List.length_nil, Nat.reduceAdd, UInt8.reduceOfNat, UInt16.reduceOfNat, UInt32.reduceOfNat, UInt64.reduceOfNat, UInt64.reduceToNat, UInt32.reduceToNat, UInt16.reduceToNat, UInt8.reduceToNat, Int.natCast_add, Int.reduceAdd, Int.reduceSub, Int.reduceMul, Nat.mul_one, Nat.add_zero, Nat.zero_mul, Nat.reduceMul, Nat.zero_add, ne_eq, not_true_eq_false, not_false_eq_true, eq_self, Bool.false_eq_true, Bool.true_eq_false, Bool.or_true, Bool.or_false, Bool.and_true, Bool.and_false, Bool.true_and, Bool.false_and, Bool.true_or, Bool.false_or, List.length_set, List.length_replicate, Qp0, Qp1, Qp2, Qp3, Qp4, Qp5, Qp6, Qp7, Qp8, Qp9, Qp10, Qp11, Qp12, Qp13, Qp14, Qp15, Qp16, Qp17, Qp18, Qp19, Qp20, Qp21, Qe0, Qe1, Qe2, Qe3, d1, hl]
  exact ⟨_, PH.Le.refl _, by simp⟩
set_option maxRecDepth 100000 in
theorem liftedMacDerives (os : Os) (started : os.Started) (H : Type) (enc : TypeId × Value → H) :
    ReturnsInHanded {} Try.checked os 6 .any (Rows.macDerivesSpec.pre6 enc Try.prog Try.f6 Rows.macDerivesRow.domain false) (Rows.macDerivesSpec.post enc Try.prog Try.f6 false true false false) := by
  refine returnsInHanded_of_change_sized (C := Try.checked) own started (by kernel_rfl) Try.func6
    (ChangeSpec.witness6 (enc := enc) (C := Try.checked) false ⟨#[], #[.string ⟨#[]⟩, .int .i64 0], []⟩ 8 (by kernel_rfl) (by kernel_rfl) (by kernel_rfl) (by kernel_rfl)) ?_
  intro W base args ds gs before hval0 hW _ hsz0 _
  have hsz : (DataW.weightsEach Try.prog (Try.f6.params.toList ++ Rows.macDerivesSpec.plain.varTypes Try.prog) (ds ++ gs)).all (· ≤ reachBytes) = true := hsz0
  have hval : ∀ (j : Nat) t v, Try.f6.params[j]? = some t → args[j]? = some v → Value.okWide Try.prog W .any base t v := hval0
  have hW' := hW
  obtain ⟨p, q, hA0, hV, rfl, _, _⟩ := hW
  have hA : DataW.TrodAll enc Try.prog W 0 (fun _ => true) true Try.f6.params.toList args.toList ds p := hA0
  rw [Try.params6] at hA hval hsz
  obtain ⟨v0, v1, d0, d1, p0, p1, rfl, rfl, rfl, h0, h1⟩ := trodAll_two hA
  obtain ⟨rfl, _⟩ := trodVars_none hV
  obtain ⟨a0, rfl, rfl, rfl, _⟩ := ChangeMaps.open_string Try.underlying9 (hval 0 _ v0 rfl rfl) h0
  have w0 : a0.size ≤ 140737488351232 := by
    have := sized_string hsz (j := 0) (t := 9) rfl rfl
    simpa [reachBytes] using this
  obtain ⟨a1, rfl, rfl, rfl, w1⟩ := open_int Try.underlying3 (hval 1 _ v1 rfl rfl) h1
  refine (walk_MacDerives a0.data.toList a1 W).mono fun en W' ⟨he, hb⟩ => ?_
  subst he
  exact ⟨_, rfl, law_post (tb := 4) laidOut hW' rfl rfl rfl rfl Try.underlying4 (by intro t ht; revert t; exact of_decide_eq_true (by kernel_rfl)) (by kernel_rfl) hb⟩

theorem provedMacDerives : Rows.MacDerivesSaid :=
  OpenClaim.holds_of_wide 6 Try.f6 rfl rfl rfl rfl rfl rfl rfl ⟨rfl, rfl, rfl, rfl, rfl⟩ rfl rfl rfl rfl rfl (by kernel_rfl) Try.func6 (by kernel_rfl)
    (of_decide_eq_true (by kernel_rfl)) (by unfold Func.isWrapper; first | (rw [if_pos (by decide +kernel)]; kernel_rfl) | (rw [if_neg (by decide +kernel)]; exact ⟨rfl, rfl⟩))
    (fun os started H enc _ => liftedMacDerives os started H enc)
#print axioms provedMacDerives


end Go.Proofs.Ytccjkjghapflfaa.MnVl
