/- TalkBytes: any message is right, and has the bytes that the document says, or none, and comes back from them. No condition. -/
import Derived.Test.YtdhgmifgjaedbaaM14B
import Derived.Test.YtdhgmifgjaedbaaM11B
import Derived.Test.YtdhgmifgjaedbaaM12B
import Derived.Test.YtdhgmifgjaedbaaM8B
import Derived.Test.YtdhgmifgjaedbaaChecked
namespace Go.Proofs.Ytdhgmifgjaedbaa.TaW
set_option linter.unusedVariables false
set_option linter.unusedSimpArgs false
open Go.ChangeShapes Go.WideShapes Go.ChangeAt Go.RowKit Base Px Wr
set_option maxRecDepth 20000 in
set_option maxHeartbeats 4000000 in
theorem walk_TalkBytes (m : Ms) (p_m : Mp7) (w : World) (hR_m : ∀ h, MsR w h m p_m) : Calls Try.prog 4 #[.agg (msL m p_m).toArray] w fun e w' => e = .returned (.bool true) ∧ Below w.heap.size w w' := by
  refine law_calls (args := [.agg (msL m p_m).toArray]) (Calls_body Try.func4 rfl _ Try.ntmps4 (by kernel_rfl) (by kernel_rfl) _ Try.results4 ?_ w (Sim.empty w))
  simp -dsimp -implicitDefEqProofs (disch := first | omega | assumption | (simp only [Option.isSome_some, Qt0]; done) | (simp only [UInt64.reduceToNat, UInt32.reduceToNat, UInt8.reduceToNat, List.length_cons, List.length_nil, List.length_append, Int.toNat_natCast] <;> omega) | fail) only [Nat.reduceLT, Nat.reduceLeDiff, Nat.reduceEqDiff, ↓reduceIte, Int.reduceLT, Int.reduceLE, Int.reduceToNat, Int.reduceEq, Int.reduceNe, Nat.reduceAdd, UInt8.reduceOfNat, UInt16.reduceOfNat, UInt32.reduceOfNat, UInt64.reduceOfNat, UInt64.reduceToNat, UInt32.reduceToNat, UInt16.reduceToNat, UInt8.reduceToNat, Int.reduceAdd, Int.reduceSub, Int.reduceMul, Nat.reduceMul, Qp0, Qp1, Ql0, Qe0, msL_len]
  refine fun pb_m hpb_m => ?_
  have hlb_m := (PH.Le.refl (PH.empty w)).new pb_m ⟨msL m p_m, 7⟩ hpb_m
  have hmb_m : ((PH.empty w).new pb_m ⟨msL m p_m, 7⟩).m pb_m = some ⟨msL m p_m, 7⟩ := by rw [PH.new_m, if_pos rfl]
  simp -dsimp -implicitDefEqProofs (disch := first | omega | assumption | (simp only [Option.isSome_some, Qt0]; done) | (simp only [UInt64.reduceToNat, UInt32.reduceToNat, UInt8.reduceToNat, List.length_cons, List.length_nil, List.length_append, Int.toNat_natCast] <;> omega) | fail) only [Nat.reduceLT, Nat.reduceLeDiff, Nat.reduceEqDiff, ↓reduceIte, Int.reduceLT, Int.reduceLE, Int.reduceToNat, Int.reduceEq, Int.reduceNe, Nat.reduceAdd, UInt8.reduceOfNat, UInt16.reduceOfNat, UInt32.reduceOfNat, UInt64.reduceOfNat, UInt64.reduceToNat, UInt32.reduceToNat, UInt16.reduceToNat, UInt8.reduceToNat, Int.reduceAdd, Int.reduceSub, Int.reduceMul, Nat.reduceMul, Qp0, Qp1, Ql0, Qe0, msL_len]
  generalize (PH.empty w).new pb_m ⟨msL m p_m, 7⟩ = g0 at *
  have hg0 := hlb_m
  have hC_m : ∀ q, PH.Le g0 q → rdN w q ⟨pb_m, 0, none⟩ 7 = some (msL m p_m) := fun q hl => by unfold rdN; simp only [hl.m _ _ (hmb_m)]; rfl
  refine (awake23_any w g0).mono ?_
  rintro v h1 ⟨rfl, hK1⟩
  have c1_m := hC_m h1 hK1
  simp -dsimp -implicitDefEqProofs (disch := first | omega | assumption | (simp only [Option.isSome_some, Qt0]; done) | (simp only [UInt64.reduceToNat, UInt32.reduceToNat, UInt8.reduceToNat, List.length_cons, List.length_nil, List.length_append, Int.toNat_natCast] <;> omega) | fail) only [Nat.reduceLT, Nat.reduceLeDiff, Nat.reduceEqDiff, ↓reduceIte, Int.reduceLT, Int.reduceLE, Int.reduceToNat, Int.reduceEq, Int.reduceNe, Nat.reduceAdd, UInt8.reduceOfNat, UInt16.reduceOfNat, UInt32.reduceOfNat, UInt64.reduceOfNat, UInt64.reduceToNat, UInt32.reduceToNat, UInt16.reduceToNat, UInt8.reduceToNat, Int.reduceAdd, Int.reduceSub, Int.reduceMul, Nat.reduceMul, Qp0, Qp1, Ql0, Qe0, c1_m]
  refine (great_any w h1 m p_m (hR_m h1)).mono ?_
  rintro v h2 ⟨⟨bm, rfl, hbm⟩, hl2⟩
  have hK2 := hK1.trans hl2
  cases bm
  rotate_left
  · simp -dsimp -implicitDefEqProofs (disch := first | omega | assumption | (simp only [Option.isSome_some, Qt0]; done) | (simp only [UInt64.reduceToNat, UInt32.reduceToNat, UInt8.reduceToNat, List.length_cons, List.length_nil, List.length_append, Int.toNat_natCast] <;> omega) | fail) only [Nat.reduceLT, Nat.reduceLeDiff, Nat.reduceEqDiff, ↓reduceIte, Int.reduceLT, Int.reduceLE, Int.reduceToNat, Int.reduceEq, Int.reduceNe, Nat.reduceAdd, UInt8.reduceOfNat, UInt16.reduceOfNat, UInt32.reduceOfNat, UInt64.reduceOfNat, UInt64.reduceToNat, UInt32.reduceToNat, UInt16.reduceToNat, UInt8.reduceToNat, Int.reduceAdd, Int.reduceSub, Int.reduceMul, Nat.reduceMul, Qp0, Qp1, Ql0, Qe0]
    exact ⟨_, hg0.trans hK2, by trivial⟩
  obtain ⟨hF_m, _⟩ := hbm rfl
  have c2_m := hC_m h2 hK2
  simp -dsimp -implicitDefEqProofs (disch := first | omega | assumption | (simp only [Option.isSome_some, Qt0]; done) | (simp only [UInt64.reduceToNat, UInt32.reduceToNat, UInt8.reduceToNat, List.length_cons, List.length_nil, List.length_append, Int.toNat_natCast] <;> omega) | fail) only [Nat.reduceLT, Nat.reduceLeDiff, Nat.reduceEqDiff, ↓reduceIte, Int.reduceLT, Int.reduceLE, Int.reduceToNat, Int.reduceEq, Int.reduceNe, Nat.reduceAdd, UInt8.reduceOfNat, UInt16.reduceOfNat, UInt32.reduceOfNat, UInt64.reduceOfNat, UInt64.reduceToNat, UInt32.reduceToNat, UInt16.reduceToNat, UInt8.reduceToNat, Int.reduceAdd, Int.reduceSub, Int.reduceMul, Nat.reduceMul, Qp0, Qp1, Ql0, Qe0, c2_m]
  refine (enc23_any w h2 m p_m (hR_m h2) hF_m).mono ?_
  rintro v h3 ⟨he, hl3⟩
  have hK3 := hK2.trans hl3
  have c3_m := hC_m h3 hK3
  unfold ENM at he
  cases hr : rightM m with
  | false =>
    rw [hr, if_neg (by simp)] at he
    obtain ⟨ev, rfl, hev⟩ := he
    obtain ⟨t, x, rfl⟩ := hev.held
    simp -dsimp -implicitDefEqProofs (disch := first | omega | assumption | (simp only [Option.isSome_some, Qt0]; done) | (simp only [UInt64.reduceToNat, UInt32.reduceToNat, UInt8.reduceToNat, List.length_cons, List.length_nil, List.length_append, Int.toNat_natCast] <;> omega) | fail) only [Nat.reduceLT, Nat.reduceLeDiff, Nat.reduceEqDiff, ↓reduceIte, Int.reduceLT, Int.reduceLE, Int.reduceToNat, Int.reduceEq, Int.reduceNe, Nat.reduceAdd, UInt8.reduceOfNat, UInt16.reduceOfNat, UInt32.reduceOfNat, UInt64.reduceOfNat, UInt64.reduceToNat, UInt32.reduceToNat, UInt16.reduceToNat, UInt8.reduceToNat, Int.reduceAdd, Int.reduceSub, Int.reduceMul, Nat.reduceMul, Qp0, Qp1, Ql0, Qe0, c3_m]
    refine (plain_any w h3 m p_m).mono ?_
    rintro v h4 ⟨rfl, hl4⟩
    have hK4 := hK3.trans hl4
    have c4_m := hC_m h4 hK4
    simp -dsimp -implicitDefEqProofs (disch := first | omega | assumption | (simp only [Option.isSome_some, Qt0]; done) | (simp only [UInt64.reduceToNat, UInt32.reduceToNat, UInt8.reduceToNat, List.length_cons, List.length_nil, List.length_append, Int.toNat_natCast] <;> omega) | fail) only [Nat.reduceLT, Nat.reduceLeDiff, Nat.reduceEqDiff, ↓reduceIte, Int.reduceLT, Int.reduceLE, Int.reduceToNat, Int.reduceEq, Int.reduceNe, Nat.reduceAdd, UInt8.reduceOfNat, UInt16.reduceOfNat, UInt32.reduceOfNat, UInt64.reduceOfNat, UInt64.reduceToNat, UInt32.reduceToNat, UInt16.reduceToNat, UInt8.reduceToNat, Int.reduceAdd, Int.reduceSub, Int.reduceMul, Nat.reduceMul, Qp0, Qp1, Ql0, Qe0, c4_m]
    have hRR := rright23_any w h4 m p_m (hR_m h4) hF_m
    rw [hr] at hRR
    refine (hRR).mono ?_
    rintro v h5 ⟨rfl, hl5⟩
    have hK5 := hK4.trans hl5
    have c5_m := hC_m h5 hK5
    simp -dsimp -implicitDefEqProofs (disch := first | omega | assumption | (simp only [Option.isSome_some, Qt0]; done) | (simp only [UInt64.reduceToNat, UInt32.reduceToNat, UInt8.reduceToNat, List.length_cons, List.length_nil, List.length_append, Int.toNat_natCast] <;> omega) | fail) only [Nat.reduceLT, Nat.reduceLeDiff, Nat.reduceEqDiff, ↓reduceIte, Int.reduceLT, Int.reduceLE, Int.reduceToNat, Int.reduceEq, Int.reduceNe, Nat.reduceAdd, UInt8.reduceOfNat, UInt16.reduceOfNat, UInt32.reduceOfNat, UInt64.reduceOfNat, UInt64.reduceToNat, UInt32.reduceToNat, UInt16.reduceToNat, UInt8.reduceToNat, Int.reduceAdd, Int.reduceSub, Int.reduceMul, Nat.reduceMul, Qp0, Qp1, Ql0, Qe0, c5_m]
    have hTR := right_any w h5 m p_m (hR_m h5) hF_m
    rw [hr] at hTR
    refine (hTR).mono ?_
    rintro v h6 ⟨rfl, hl6⟩
    have hK6 := hK5.trans hl6
    have c6_m := hC_m h6 hK6
    simp -dsimp -implicitDefEqProofs (disch := first | omega | assumption | (simp only [Option.isSome_some, Qt0]; done) | (simp only [UInt64.reduceToNat, UInt32.reduceToNat, UInt8.reduceToNat, List.length_cons, List.length_nil, List.length_append, Int.toNat_natCast] <;> omega) | fail) only [Nat.reduceLT, Nat.reduceLeDiff, Nat.reduceEqDiff, ↓reduceIte, Int.reduceLT, Int.reduceLE, Int.reduceToNat, Int.reduceEq, Int.reduceNe, Nat.reduceAdd, UInt8.reduceOfNat, UInt16.reduceOfNat, UInt32.reduceOfNat, UInt64.reduceOfNat, UInt64.reduceToNat, UInt32.reduceToNat, UInt16.reduceToNat, UInt8.reduceToNat, Int.reduceAdd, Int.reduceSub, Int.reduceMul, Nat.reduceMul, Qp0, Qp1, Ql0, Qe0, c6_m]
    have hI := is_any 1 w h6 _ _ (((hev.more hl4).more hl5).more hl6)
    have hn : ((Er.wrap talkT 0 (.code 1)).num == 1) = true := rfl
    unfold codeV at hI
    refine hI.mono ?_
    rintro v h7 ⟨rfl, hz⟩
    obtain rfl := hz.symm
    rw [hn]
    simp -dsimp -implicitDefEqProofs (disch := first | omega | assumption | (simp only [Option.isSome_some, Qt0]; done) | (simp only [UInt64.reduceToNat, UInt32.reduceToNat, UInt8.reduceToNat, List.length_cons, List.length_nil, List.length_append, Int.toNat_natCast] <;> omega) | fail) only [Nat.reduceLT, Nat.reduceLeDiff, Nat.reduceEqDiff, ↓reduceIte, Int.reduceLT, Int.reduceLE, Int.reduceToNat, Int.reduceEq, Int.reduceNe, Nat.reduceAdd, UInt8.reduceOfNat, UInt16.reduceOfNat, UInt32.reduceOfNat, UInt64.reduceOfNat, UInt64.reduceToNat, UInt32.reduceToNat, UInt16.reduceToNat, UInt8.reduceToNat, Int.reduceAdd, Int.reduceSub, Int.reduceMul, Nat.reduceMul, Qp0, Qp1, Ql0, Qe0]
    exact ⟨_, hg0.trans hK6, by trivial⟩
  | true =>
    rw [hr, if_pos rfl] at he
    subst he
    simp -dsimp -implicitDefEqProofs (disch := first | omega | assumption | (simp only [Option.isSome_some, Qt0]; done) | (simp only [UInt64.reduceToNat, UInt32.reduceToNat, UInt8.reduceToNat, List.length_cons, List.length_nil, List.length_append, Int.toNat_natCast] <;> omega) | fail) only [Nat.reduceLT, Nat.reduceLeDiff, Nat.reduceEqDiff, ↓reduceIte, Int.reduceLT, Int.reduceLE, Int.reduceToNat, Int.reduceEq, Int.reduceNe, Nat.reduceAdd, UInt8.reduceOfNat, UInt16.reduceOfNat, UInt32.reduceOfNat, UInt64.reduceOfNat, UInt64.reduceToNat, UInt32.reduceToNat, UInt16.reduceToNat, UInt8.reduceToNat, Int.reduceAdd, Int.reduceSub, Int.reduceMul, Nat.reduceMul, Qp0, Qp1, Ql0, Qe0, c3_m]
    refine (plain_any w h3 m p_m).mono ?_
    rintro v h4 ⟨rfl, hl4⟩
    have hK4 := hK3.trans hl4
    have c4_m := hC_m h4 hK4
    simp -dsimp -implicitDefEqProofs (disch := first | omega | assumption | (simp only [Option.isSome_some, Qt0]; done) | (simp only [UInt64.reduceToNat, UInt32.reduceToNat, UInt8.reduceToNat, List.length_cons, List.length_nil, List.length_append, Int.toNat_natCast] <;> omega) | fail) only [Nat.reduceLT, Nat.reduceLeDiff, Nat.reduceEqDiff, ↓reduceIte, Int.reduceLT, Int.reduceLE, Int.reduceToNat, Int.reduceEq, Int.reduceNe, Nat.reduceAdd, UInt8.reduceOfNat, UInt16.reduceOfNat, UInt32.reduceOfNat, UInt64.reduceOfNat, UInt64.reduceToNat, UInt32.reduceToNat, UInt16.reduceToNat, UInt8.reduceToNat, Int.reduceAdd, Int.reduceSub, Int.reduceMul, Nat.reduceMul, Qp0, Qp1, Ql0, Qe0, c4_m]
    have hRR := rright23_any w h4 m p_m (hR_m h4) hF_m
    rw [hr] at hRR
    refine (hRR).mono ?_
    rintro v h5 ⟨rfl, hl5⟩
    have hK5 := hK4.trans hl5
    have c5_m := hC_m h5 hK5
    simp -dsimp -implicitDefEqProofs (disch := first | omega | assumption | (simp only [Option.isSome_some, Qt0]; done) | (simp only [UInt64.reduceToNat, UInt32.reduceToNat, UInt8.reduceToNat, List.length_cons, List.length_nil, List.length_append, Int.toNat_natCast] <;> omega) | fail) only [Nat.reduceLT, Nat.reduceLeDiff, Nat.reduceEqDiff, ↓reduceIte, Int.reduceLT, Int.reduceLE, Int.reduceToNat, Int.reduceEq, Int.reduceNe, Nat.reduceAdd, UInt8.reduceOfNat, UInt16.reduceOfNat, UInt32.reduceOfNat, UInt64.reduceOfNat, UInt64.reduceToNat, UInt32.reduceToNat, UInt16.reduceToNat, UInt8.reduceToNat, Int.reduceAdd, Int.reduceSub, Int.reduceMul, Nat.reduceMul, Qp0, Qp1, Ql0, Qe0, c5_m]
    have hTR := right_any w h5 m p_m (hR_m h5) hF_m
    rw [hr] at hTR
    refine (hTR).mono ?_
    rintro v h6 ⟨rfl, hl6⟩
    have hK6 := hK5.trans hl6
    have c6_m := hC_m h6 hK6
    simp -dsimp -implicitDefEqProofs (disch := first | omega | assumption | (simp only [Option.isSome_some, Qt0]; done) | (simp only [UInt64.reduceToNat, UInt32.reduceToNat, UInt8.reduceToNat, List.length_cons, List.length_nil, List.length_append, Int.toNat_natCast] <;> omega) | fail) only [Nat.reduceLT, Nat.reduceLeDiff, Nat.reduceEqDiff, ↓reduceIte, Int.reduceLT, Int.reduceLE, Int.reduceToNat, Int.reduceEq, Int.reduceNe, Nat.reduceAdd, UInt8.reduceOfNat, UInt16.reduceOfNat, UInt32.reduceOfNat, UInt64.reduceOfNat, UInt64.reduceToNat, UInt32.reduceToNat, UInt16.reduceToNat, UInt8.reduceToNat, Int.reduceAdd, Int.reduceSub, Int.reduceMul, Nat.reduceMul, Qp0, Qp1, Ql0, Qe0, c6_m]
    refine (dec23_any (bytesM m) (by have := bytesM_le hr; omega) w h6).mono ?_
    rintro v h7 ⟨hD, hl7⟩
    have hK7 := hK6.trans hl7
    rcases hD with ⟨m2, p2, hr2, hb2, rfl, hR2, hF2⟩ | ⟨hno, _⟩
    rotate_left
    · exact absurd rfl (hno m hr)
    have hm2 : m2 = m := bytesM_inj hr hr2 hb2
    rw [hm2] at hR2 hF2 ⊢
    have ho2 := msL_one m p2
    have hn2 := msL_len m p2
    simp -dsimp -implicitDefEqProofs (disch := first | omega | assumption | (simp only [Option.isSome_some, Qt0]; done) | (simp only [UInt64.reduceToNat, UInt32.reduceToNat, UInt8.reduceToNat, List.length_cons, List.length_nil, List.length_append, Int.toNat_natCast] <;> omega) | fail) only [Nat.reduceLT, Nat.reduceLeDiff, Nat.reduceEqDiff, ↓reduceIte, Int.reduceLT, Int.reduceLE, Int.reduceToNat, Int.reduceEq, Int.reduceNe, Nat.reduceAdd, UInt8.reduceOfNat, UInt16.reduceOfNat, UInt32.reduceOfNat, UInt64.reduceOfNat, UInt64.reduceToNat, UInt32.reduceToNat, UInt16.reduceToNat, UInt8.reduceToNat, Int.reduceAdd, Int.reduceSub, Int.reduceMul, Nat.reduceMul, Qp0, Qp1, Ql0, Qe0]
    refine fun nb hnb => ?_
    have hl7n := (PH.Le.refl h7).new nb ⟨msL m p2, 7⟩ hnb
    have hmn : (h7.new nb ⟨msL m p2, 7⟩).m nb = some ⟨msL m p2, 7⟩ := by rw [PH.new_m, if_pos rfl]
    simp -dsimp -implicitDefEqProofs (disch := first | omega | assumption | (simp only [Option.isSome_some, Qt0]; done) | (simp only [UInt64.reduceToNat, UInt32.reduceToNat, UInt8.reduceToNat, List.length_cons, List.length_nil, List.length_append, Int.toNat_natCast] <;> omega) | fail) only [Nat.reduceLT, Nat.reduceLeDiff, Nat.reduceEqDiff, ↓reduceIte, Int.reduceLT, Int.reduceLE, Int.reduceToNat, Int.reduceEq, Int.reduceNe, Nat.reduceAdd, UInt8.reduceOfNat, UInt16.reduceOfNat, UInt32.reduceOfNat, UInt64.reduceOfNat, UInt64.reduceToNat, UInt32.reduceToNat, UInt16.reduceToNat, UInt8.reduceToNat, Int.reduceAdd, Int.reduceSub, Int.reduceMul, Nat.reduceMul, Qp0, Qp1, Ql0, Qe0, List.set_cons_zero, List.set_cons_succ, List.take_zero, List.drop_succ_cons, List.drop_zero, List.drop_nil, List.nil_append, List.append_nil, List.take_succ_cons, ite_true, PH.new_new]
    generalize h7.new nb ⟨msL m p2, 7⟩ = h8 at *
    have hK8 := hK7.trans hl7n
    have c8_m := hC_m h8 hK8
    have c8_n : rdN w h8 ⟨nb, 0, none⟩ 7 = some (msL m p2) := by unfold rdN; simp only [hmn]; rfl
    have e1 : decide (bytesM m = bytesM m) = true := decide_eq_true rfl
    refine PW_tr (.take 0 (.take 1 (.take 2 (.take 3 (.take 4 (.take 5 (.take 6 (.take 7 (.take 8 (.take 9 (.take 10 (.take 11 (.take 12 (.take 13 (.take 14 (.take 16 (.take 15 (.take 17 (.take 18 (.take 19 (.take 20 .done))))))))))))))))))))) h8 (by kernel_rfl) (by decide +kernel) (by kernel_rfl) (by kernel_rfl) (by kernel_rfl) (fun c f h hq => by simp only [thenC_panic, thenK_panic, inBlk_panic, thenN_panic, vcRet_panic] at hq) (PH.Le.refl _).sub ?_
    simp -dsimp -implicitDefEqProofs (disch := first | omega | assumption | (simp only [Option.isSome_some, Qt0]; done) | (simp only [UInt64.reduceToNat, UInt32.reduceToNat, UInt8.reduceToNat, List.length_cons, List.length_nil, List.length_append, Int.toNat_natCast] <;> omega) | fail) only [Nat.reduceLT, Nat.reduceLeDiff, Nat.reduceEqDiff, ↓reduceIte, Int.reduceLT, Int.reduceLE, Int.reduceToNat, Int.reduceEq, Int.reduceNe, Nat.reduceAdd, UInt8.reduceOfNat, UInt16.reduceOfNat, UInt32.reduceOfNat, UInt64.reduceOfNat, UInt64.reduceToNat, UInt32.reduceToNat, UInt16.reduceToNat, UInt8.reduceToNat, Int.reduceAdd, Int.reduceSub, Int.reduceMul, Nat.reduceMul, Qp0, Qp1, Ql0, Qe0, vcUS_done, vcUS_take, vcUS_only, vcUS_both, vcUS_cut, vcUC_nil, vcUC_cons, vcUO_some, vcUL_some, vcUE_some, c8_m, c8_n]
    refine (plain_any w h8 m p_m).mono ?_
    rintro v h9 ⟨rfl, hl9⟩
    have hK9 := hK8.trans hl9
    refine ⟨(hl9).sub, ?_⟩
    simp -dsimp -implicitDefEqProofs (disch := first | omega | assumption | (simp only [Option.isSome_some, Qt0]; done) | (simp only [UInt64.reduceToNat, UInt32.reduceToNat, UInt8.reduceToNat, List.length_cons, List.length_nil, List.length_append, Int.toNat_natCast] <;> omega) | fail) only [Nat.reduceLT, Nat.reduceLeDiff, Nat.reduceEqDiff, ↓reduceIte, Int.reduceLT, Int.reduceLE, Int.reduceToNat, Int.reduceEq, Int.reduceNe, Nat.reduceAdd, UInt8.reduceOfNat, UInt16.reduceOfNat, UInt32.reduceOfNat, UInt64.reduceOfNat, UInt64.reduceToNat, UInt32.reduceToNat, UInt16.reduceToNat, UInt8.reduceToNat, Int.reduceAdd, Int.reduceSub, Int.reduceMul, Nat.reduceMul, Qp0, Qp1, Ql0, Qe0, vcUS_done, vcUS_take, vcUS_only, vcUS_both, vcUS_cut, vcUC_nil, vcUC_cons, vcUO_some, vcUL_some, vcUE_some, c8_m, c8_n]
    refine (bytes23_any w h9 m p_m (hR_m h9) hF_m hr).mono ?_
    rintro v h10 ⟨rfl, hl10⟩
    have hK10 := hK9.trans hl10
    refine ⟨((hl9).trans hl10).sub, ?_⟩
    simp -dsimp -implicitDefEqProofs (disch := first | omega | assumption | (simp only [Option.isSome_some, Qt0]; done) | (simp only [UInt64.reduceToNat, UInt32.reduceToNat, UInt8.reduceToNat, List.length_cons, List.length_nil, List.length_append, Int.toNat_natCast] <;> omega) | fail) only [Nat.reduceLT, Nat.reduceLeDiff, Nat.reduceEqDiff, ↓reduceIte, Int.reduceLT, Int.reduceLE, Int.reduceToNat, Int.reduceEq, Int.reduceNe, Nat.reduceAdd, UInt8.reduceOfNat, UInt16.reduceOfNat, UInt32.reduceOfNat, UInt64.reduceOfNat, UInt64.reduceToNat, UInt32.reduceToNat, UInt16.reduceToNat, UInt8.reduceToNat, Int.reduceAdd, Int.reduceSub, Int.reduceMul, Nat.reduceMul, Qp0, Qp1, Ql0, Qe0, vcUS_done, vcUS_take, vcUS_only, vcUS_both, vcUS_cut, vcUC_nil, vcUC_cons, vcUO_some, vcUL_some, vcUE_some, c8_m, c8_n, e1]
    refine (plain_any w h10 m p2).mono ?_
    rintro v h11 ⟨rfl, hl11⟩
    have hK11 := hK10.trans hl11
    refine ⟨(((hl9).trans hl10).trans hl11).sub, ?_⟩
    simp -dsimp -implicitDefEqProofs (disch := first | omega | assumption | (simp only [Option.isSome_some, Qt0]; done) | (simp only [UInt64.reduceToNat, UInt32.reduceToNat, UInt8.reduceToNat, List.length_cons, List.length_nil, List.length_append, Int.toNat_natCast] <;> omega) | fail) only [Nat.reduceLT, Nat.reduceLeDiff, Nat.reduceEqDiff, ↓reduceIte, Int.reduceLT, Int.reduceLE, Int.reduceToNat, Int.reduceEq, Int.reduceNe, Nat.reduceAdd, UInt8.reduceOfNat, UInt16.reduceOfNat, UInt32.reduceOfNat, UInt64.reduceOfNat, UInt64.reduceToNat, UInt32.reduceToNat, UInt16.reduceToNat, UInt8.reduceToNat, Int.reduceAdd, Int.reduceSub, Int.reduceMul, Nat.reduceMul, Qp0, Qp1, Ql0, Qe0, vcUS_done, vcUS_take, vcUS_only, vcUS_both, vcUS_cut, vcUC_nil, vcUC_cons, vcUO_some, vcUL_some, vcUE_some, c8_m, c8_n]
    refine (plain_any w h11 m p_m).mono ?_
    rintro v h12 ⟨rfl, hl12⟩
    have hK12 := hK11.trans hl12
    refine ⟨((((hl9).trans hl10).trans hl11).trans hl12).sub, ?_⟩
    simp -dsimp -implicitDefEqProofs (disch := first | omega | assumption | (simp only [Option.isSome_some, Qt0]; done) | (simp only [UInt64.reduceToNat, UInt32.reduceToNat, UInt8.reduceToNat, List.length_cons, List.length_nil, List.length_append, Int.toNat_natCast] <;> omega) | fail) only [Nat.reduceLT, Nat.reduceLeDiff, Nat.reduceEqDiff, ↓reduceIte, Int.reduceLT, Int.reduceLE, Int.reduceToNat, Int.reduceEq, Int.reduceNe, Nat.reduceAdd, UInt8.reduceOfNat, UInt16.reduceOfNat, UInt32.reduceOfNat, UInt64.reduceOfNat, UInt64.reduceToNat, UInt32.reduceToNat, UInt16.reduceToNat, UInt8.reduceToNat, Int.reduceAdd, Int.reduceSub, Int.reduceMul, Nat.reduceMul, Qp0, Qp1, Ql0, Qe0, vcUS_done, vcUS_take, vcUS_only, vcUS_both, vcUS_cut, vcUC_nil, vcUC_cons, vcUO_some, vcUL_some, vcUE_some, c8_m, c8_n]
    have hS := same23_any w h12 m m p2 p_m ((hR2.more hl7n).more (((hl9.trans hl10).trans hl11).trans hl12)) (hR_m h12) hF_m
    rw [sameM_iff.2 rfl] at hS
    refine (hS).mono ?_
    rintro v h13 ⟨rfl, hl13⟩
    have hK13 := hK12.trans hl13
    refine ⟨(((((hl9).trans hl10).trans hl11).trans hl12).trans hl13).sub, ?_⟩
    simp -dsimp -implicitDefEqProofs (disch := first | omega | assumption | (simp only [Option.isSome_some, Qt0]; done) | (simp only [UInt64.reduceToNat, UInt32.reduceToNat, UInt8.reduceToNat, List.length_cons, List.length_nil, List.length_append, Int.toNat_natCast] <;> omega) | fail) only [Nat.reduceLT, Nat.reduceLeDiff, Nat.reduceEqDiff, ↓reduceIte, Int.reduceLT, Int.reduceLE, Int.reduceToNat, Int.reduceEq, Int.reduceNe, Nat.reduceAdd, UInt8.reduceOfNat, UInt16.reduceOfNat, UInt32.reduceOfNat, UInt64.reduceOfNat, UInt64.reduceToNat, UInt32.reduceToNat, UInt16.reduceToNat, UInt8.reduceToNat, Int.reduceAdd, Int.reduceSub, Int.reduceMul, Nat.reduceMul, Qp0, Qp1, Ql0, Qe0, vcUS_done, vcUS_take, vcUS_only, vcUS_both, vcUS_cut, vcUC_nil, vcUC_cons, vcUO_some, vcUL_some, vcUE_some]
    exact ⟨_, hg0.trans hK13, by trivial⟩
set_option maxRecDepth 100000 in
theorem liftedTalkBytes (os : Os) (started : os.Started) (H : Type) (enc : TypeId × Value → H) :
    ReturnsInHanded {} Try.checked os 4 .any (Rows.talkBytesSpec.pre6 enc Try.prog Try.f4 Rows.talkBytesRow.domain false) (Rows.talkBytesSpec.post enc Try.prog Try.f4 false true false false) := by
  refine returnsInHanded_of_change_sized (C := Try.checked) own started (by kernel_rfl) Try.func4
    (ChangeSpec.witness6 (enc := enc) (C := Try.checked) false ⟨#[], #[.agg #[.int .i64 0, .slice none 0 0, .slice none 0 0, .int .i64 0, .int .i64 0, .slice none 0 0, .int .i64 0]], []⟩ 8 (by kernel_rfl) (by kernel_rfl) (by kernel_rfl) (by kernel_rfl)) ?_
  intro W base args ds gs before hval0 hW _ hsz0 _
  have hsz : (DataW.weightsEach Try.prog (Try.f4.params.toList ++ Rows.talkBytesSpec.plain.varTypes Try.prog) (ds ++ gs)).all (· ≤ reachBytes) = true := hsz0
  have hval : ∀ (j : Nat) t v, Try.f4.params[j]? = some t → args[j]? = some v → Value.okWide Try.prog W .any base t v := hval0
  have hW' := hW
  obtain ⟨p, q, hA0, hV, rfl, _, _⟩ := hW
  have hA : DataW.TrodAll enc Try.prog W 0 (fun _ => true) true Try.f4.params.toList args.toList ds p := hA0
  rw [Try.params4] at hA hval hsz
  obtain ⟨v0, d0, rfl, rfl, h0⟩ := trodAll_one hA
  obtain ⟨rfl, _⟩ := trodVars_none hV
  obtain ⟨m0, p_0, rfl, hR0⟩ := open_ms (hval 0 _ v0 rfl rfl) h0
  refine (walk_TalkBytes m0 p_0 W hR0).mono fun en W' ⟨he, hb⟩ => ?_
  subst he
  exact ⟨_, rfl, law_post (tb := 4) laidOut hW' rfl rfl rfl rfl Try.underlying4 (by intro t ht; revert t; exact of_decide_eq_true (by kernel_rfl)) (by kernel_rfl) hb⟩

theorem provedTalkBytes : Rows.TalkBytesSaid :=
  OpenClaim.holds_of_wide 4 Try.f4 rfl rfl rfl rfl rfl rfl rfl ⟨rfl, rfl, rfl, rfl, rfl⟩ rfl rfl rfl rfl rfl (by kernel_rfl) Try.func4 (by kernel_rfl)
    (of_decide_eq_true (by kernel_rfl)) (by unfold Func.isWrapper; first | (rw [if_pos (by decide +kernel)]; kernel_rfl) | (rw [if_neg (by decide +kernel)]; exact ⟨rfl, rfl⟩))
    (fun os started H enc _ => liftedTalkBytes os started H enc)
#print axioms provedTalkBytes


end Go.Proofs.Ytdhgmifgjaedbaa.TaW
