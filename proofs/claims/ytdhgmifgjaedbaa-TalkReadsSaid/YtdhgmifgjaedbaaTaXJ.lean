/- TalkReads: any bytes are those of the message that the document says, which has just these, or of none, up to 10,000 bytes. No condition. -/
import Derived.Test.YtdhgmifgjaedbaaM14C
import Derived.Test.YtdhgmifgjaedbaaM5C
import Derived.Test.YtdhgmifgjaedbaaM8C
import Derived.Test.YtdhgmifgjaedbaaM15C
import Derived.Test.YtdhgmifgjaedbaaM16C
import Derived.Test.YtdhgmifgjaedbaaM12C
import Derived.Test.YtdhgmifgjaedbaaChecked
namespace Go.Proofs.Ytdhgmifgjaedbaa.TaX
set_option linter.unusedVariables false
set_option linter.unusedSimpArgs false
open Go.ChangeShapes Go.WideShapes Go.ChangeAt Go.RowKit Base Px Wr
set_option maxRecDepth 20000 in
set_option maxHeartbeats 4000000 in
theorem walk_TalkReads (s : List UInt8) (w : World) (hs_s : s.length ≤ 140737488351232) : Calls Try.prog 5 #[str s] w fun e w' => e = .returned (.bool true) ∧ Below w.heap.size w w' := by
  refine law_calls (args := [str s]) (Calls_body Try.func5 rfl _ Try.ntmps5 (by kernel_rfl) (by kernel_rfl) _ Try.results5 ?_ w (Sim.empty w))
  simp -dsimp -implicitDefEqProofs (disch := first | omega | assumption | (simp only [Option.isSome_some, Qt0]; done) | (simp only [UInt64.reduceToNat, UInt32.reduceToNat, UInt8.reduceToNat, List.length_cons, List.length_nil, List.length_append, Int.toNat_natCast] <;> omega) | fail) only [Nat.reduceLT, Nat.reduceLeDiff, Nat.reduceEqDiff, ↓reduceIte, Int.reduceLT, Int.reduceLE, Int.reduceToNat, Int.reduceEq, Int.reduceNe, Nat.reduceAdd, UInt8.reduceOfNat, UInt16.reduceOfNat, UInt32.reduceOfNat, UInt64.reduceOfNat, UInt64.reduceToNat, UInt32.reduceToNat, UInt16.reduceToNat, UInt8.reduceToNat, Int.reduceAdd, Int.reduceSub, Int.reduceMul, Nat.reduceMul, Qp0, Qp1, Ql0, Qe0]
  have hg0 := PH.Le.refl (PH.empty w)
  generalize hqq : PH.empty w = g0 at hg0 ⊢
  refine (awake23_any w g0).mono ?_
  rintro v h1 ⟨rfl, hK1⟩
  simp -dsimp -implicitDefEqProofs (disch := first | omega | assumption | (simp only [Option.isSome_some, Qt0]; done) | (simp only [UInt64.reduceToNat, UInt32.reduceToNat, UInt8.reduceToNat, List.length_cons, List.length_nil, List.length_append, Int.toNat_natCast] <;> omega) | fail) only [Nat.reduceLT, Nat.reduceLeDiff, Nat.reduceEqDiff, ↓reduceIte, Int.reduceLT, Int.reduceLE, Int.reduceToNat, Int.reduceEq, Int.reduceNe, Nat.reduceAdd, UInt8.reduceOfNat, UInt16.reduceOfNat, UInt32.reduceOfNat, UInt64.reduceOfNat, UInt64.reduceToNat, UInt32.reduceToNat, UInt16.reduceToNat, UInt8.reduceToNat, Int.reduceAdd, Int.reduceSub, Int.reduceMul, Nat.reduceMul, Qp0, Qp1, Ql0, Qe0]
  by_cases h1a : 10000 < (s.length : Int)
  · have d1 := decide_eq_true h1a
    simp -dsimp -implicitDefEqProofs (disch := first | omega | assumption | (simp only [Option.isSome_some, Qt0]; done) | (simp only [UInt64.reduceToNat, UInt32.reduceToNat, UInt8.reduceToNat, List.length_cons, List.length_nil, List.length_append, Int.toNat_natCast] <;> omega) | fail) only [Nat.reduceLT, Nat.reduceLeDiff, Nat.reduceEqDiff, ↓reduceIte, Int.reduceLT, Int.reduceLE, Int.reduceToNat, Int.reduceEq, Int.reduceNe, Nat.reduceAdd, UInt8.reduceOfNat, UInt16.reduceOfNat, UInt32.reduceOfNat, UInt64.reduceOfNat, UInt64.reduceToNat, UInt32.reduceToNat, UInt16.reduceToNat, UInt8.reduceToNat, Int.reduceAdd, Int.reduceSub, Int.reduceMul, Nat.reduceMul, Qp0, Qp1, Ql0, Qe0, gt_iff_lt, d1]
    exact ⟨_, hg0.trans hK1, by trivial⟩
  have d1 := decide_eq_false h1a
  simp -dsimp -implicitDefEqProofs (disch := first | omega | assumption | (simp only [Option.isSome_some, Qt0]; done) | (simp only [UInt64.reduceToNat, UInt32.reduceToNat, UInt8.reduceToNat, List.length_cons, List.length_nil, List.length_append, Int.toNat_natCast] <;> omega) | fail) only [Nat.reduceLT, Nat.reduceLeDiff, Nat.reduceEqDiff, ↓reduceIte, Int.reduceLT, Int.reduceLE, Int.reduceToNat, Int.reduceEq, Int.reduceNe, Nat.reduceAdd, UInt8.reduceOfNat, UInt16.reduceOfNat, UInt32.reduceOfNat, UInt64.reduceOfNat, UInt64.reduceToNat, UInt32.reduceToNat, UInt16.reduceToNat, UInt8.reduceToNat, Int.reduceAdd, Int.reduceSub, Int.reduceMul, Nat.reduceMul, Qp0, Qp1, Ql0, Qe0, gt_iff_lt, d1]
  refine (dec23_any s (by omega) w h1).mono ?_
  rintro v h2 ⟨hD, hl2⟩
  have hK2 := hK1.trans hl2
  rcases hD with ⟨m, p, hr, hb, rfl, hR, hF⟩ | ⟨hno, ev, e, rfl, hev, hen⟩
  · skip
    have ho_nb := msL_one m p
    have hn_nb := msL_len m p
    simp -dsimp -implicitDefEqProofs (disch := first | omega | assumption | (simp only [Option.isSome_some, Qt0]; done) | (simp only [UInt64.reduceToNat, UInt32.reduceToNat, UInt8.reduceToNat, List.length_cons, List.length_nil, List.length_append, Int.toNat_natCast] <;> omega) | fail) only [Nat.reduceLT, Nat.reduceLeDiff, Nat.reduceEqDiff, ↓reduceIte, Int.reduceLT, Int.reduceLE, Int.reduceToNat, Int.reduceEq, Int.reduceNe, Nat.reduceAdd, UInt8.reduceOfNat, UInt16.reduceOfNat, UInt32.reduceOfNat, UInt64.reduceOfNat, UInt64.reduceToNat, UInt32.reduceToNat, UInt16.reduceToNat, UInt8.reduceToNat, Int.reduceAdd, Int.reduceSub, Int.reduceMul, Nat.reduceMul, Qp0, Qp1, Ql0, Qe0, hn_nb]
    refine fun nb hnb => ?_
    have hl3 := (PH.Le.refl h2).new nb ⟨msL m p, 7⟩ hnb
    have hm_nb : (h2.new nb ⟨msL m p, 7⟩).m nb = some ⟨msL m p, 7⟩ := by rw [PH.new_m, if_pos rfl]
    simp -dsimp -implicitDefEqProofs (disch := first | omega | assumption | (simp only [Option.isSome_some, Qt0]; done) | (simp only [UInt64.reduceToNat, UInt32.reduceToNat, UInt8.reduceToNat, List.length_cons, List.length_nil, List.length_append, Int.toNat_natCast] <;> omega) | fail) only [Nat.reduceLT, Nat.reduceLeDiff, Nat.reduceEqDiff, ↓reduceIte, Int.reduceLT, Int.reduceLE, Int.reduceToNat, Int.reduceEq, Int.reduceNe, Nat.reduceAdd, UInt8.reduceOfNat, UInt16.reduceOfNat, UInt32.reduceOfNat, UInt64.reduceOfNat, UInt64.reduceToNat, UInt32.reduceToNat, UInt16.reduceToNat, UInt8.reduceToNat, Int.reduceAdd, Int.reduceSub, Int.reduceMul, Nat.reduceMul, Qp0, Qp1, Ql0, Qe0, List.set_cons_zero, List.set_cons_succ, List.take_zero, List.drop_succ_cons, List.drop_zero, List.drop_nil, List.nil_append, List.append_nil, List.take_succ_cons, ite_true, PH.new_new]
    generalize h2.new nb ⟨msL m p, 7⟩ = h3 at *
    have hK3 := hK2.trans hl3
    refine (read23_any s (by omega) w h3).mono ?_
    rintro v h4 ⟨hD3, hl4⟩
    have hK4 := hK3.trans hl4
    rcases hD3 with ⟨m3, p3, hr3, hb3, rfl, hR3, hF3⟩ | ⟨hno, _⟩
    rotate_left
    · exact absurd hb (hno m hr)
    have hm3 : m3 = m := bytesM_inj hr hr3 (by rw [← hb, hb3])
    rw [hm3] at hR3 hF3 ⊢
    have ho_rb := msL_one m p3
    have hn_rb := msL_len m p3
    simp -dsimp -implicitDefEqProofs (disch := first | omega | assumption | (simp only [Option.isSome_some, Qt0]; done) | (simp only [UInt64.reduceToNat, UInt32.reduceToNat, UInt8.reduceToNat, List.length_cons, List.length_nil, List.length_append, Int.toNat_natCast] <;> omega) | fail) only [Nat.reduceLT, Nat.reduceLeDiff, Nat.reduceEqDiff, ↓reduceIte, Int.reduceLT, Int.reduceLE, Int.reduceToNat, Int.reduceEq, Int.reduceNe, Nat.reduceAdd, UInt8.reduceOfNat, UInt16.reduceOfNat, UInt32.reduceOfNat, UInt64.reduceOfNat, UInt64.reduceToNat, UInt32.reduceToNat, UInt16.reduceToNat, UInt8.reduceToNat, Int.reduceAdd, Int.reduceSub, Int.reduceMul, Nat.reduceMul, Qp0, Qp1, Ql0, Qe0, hn_rb]
    refine fun rb hrb => ?_
    have hl5 := (PH.Le.refl h4).new rb ⟨msL m p3, 7⟩ hrb
    have hm_rb : (h4.new rb ⟨msL m p3, 7⟩).m rb = some ⟨msL m p3, 7⟩ := by rw [PH.new_m, if_pos rfl]
    simp -dsimp -implicitDefEqProofs (disch := first | omega | assumption | (simp only [Option.isSome_some, Qt0]; done) | (simp only [UInt64.reduceToNat, UInt32.reduceToNat, UInt8.reduceToNat, List.length_cons, List.length_nil, List.length_append, Int.toNat_natCast] <;> omega) | fail) only [Nat.reduceLT, Nat.reduceLeDiff, Nat.reduceEqDiff, ↓reduceIte, Int.reduceLT, Int.reduceLE, Int.reduceToNat, Int.reduceEq, Int.reduceNe, Nat.reduceAdd, UInt8.reduceOfNat, UInt16.reduceOfNat, UInt32.reduceOfNat, UInt64.reduceOfNat, UInt64.reduceToNat, UInt32.reduceToNat, UInt16.reduceToNat, UInt8.reduceToNat, Int.reduceAdd, Int.reduceSub, Int.reduceMul, Nat.reduceMul, Qp0, Qp1, Ql0, Qe0, List.set_cons_zero, List.set_cons_succ, List.take_zero, List.drop_succ_cons, List.drop_zero, List.drop_nil, List.nil_append, List.append_nil, List.take_succ_cons, ite_true, PH.new_new]
    generalize h4.new rb ⟨msL m p3, 7⟩ = h5 at *
    have hK5 := hK4.trans hl5
    have k5 := hl5.m _ _ (hl4.m _ _ hm_nb)
    have c5 : rdN w h5 ⟨nb, 0, none⟩ 7 = some (msL m p) := by unfold rdN; simp only [k5]; rfl
    have c5r : rdN w h5 ⟨rb, 0, none⟩ 7 = some (msL m p3) := by unfold rdN; simp only [hm_rb]; rfl
    have hE := enc23_any w h5 m p (((hR.more hl3).more hl4).more hl5) hF
    unfold ENM at hE
    rw [hr] at hE
    simp -dsimp -implicitDefEqProofs (disch := first | omega | assumption | (simp only [Option.isSome_some, Qt0]; done) | (simp only [UInt64.reduceToNat, UInt32.reduceToNat, UInt8.reduceToNat, List.length_cons, List.length_nil, List.length_append, Int.toNat_natCast] <;> omega) | fail) only [Nat.reduceLT, Nat.reduceLeDiff, Nat.reduceEqDiff, ↓reduceIte, Int.reduceLT, Int.reduceLE, Int.reduceToNat, Int.reduceEq, Int.reduceNe, Nat.reduceAdd, UInt8.reduceOfNat, UInt16.reduceOfNat, UInt32.reduceOfNat, UInt64.reduceOfNat, UInt64.reduceToNat, UInt32.reduceToNat, UInt16.reduceToNat, UInt8.reduceToNat, Int.reduceAdd, Int.reduceSub, Int.reduceMul, Nat.reduceMul, Qp0, Qp1, Ql0, Qe0, c5]
    refine (hE).mono ?_
    rintro v h6 ⟨he, hl6⟩
    have hK6 := hK5.trans hl6
    rw [if_pos rfl] at he
    subst he
    have k6 := hl6.m _ _ k5
    have c6 : rdN w h6 ⟨nb, 0, none⟩ 7 = some (msL m p) := by unfold rdN; simp only [k6]; rfl
    have c6r : rdN w h6 ⟨rb, 0, none⟩ 7 = some (msL m p3) := by unfold rdN; simp only [hl6.m _ _ hm_rb]; rfl
    have e1 : decide (bytesM m = s) = true := decide_eq_true hb.symm
    simp -dsimp -implicitDefEqProofs (disch := first | omega | assumption | (simp only [Option.isSome_some, Qt0]; done) | (simp only [UInt64.reduceToNat, UInt32.reduceToNat, UInt8.reduceToNat, List.length_cons, List.length_nil, List.length_append, Int.toNat_natCast] <;> omega) | fail) only [Nat.reduceLT, Nat.reduceLeDiff, Nat.reduceEqDiff, ↓reduceIte, Int.reduceLT, Int.reduceLE, Int.reduceToNat, Int.reduceEq, Int.reduceNe, Nat.reduceAdd, UInt8.reduceOfNat, UInt16.reduceOfNat, UInt32.reduceOfNat, UInt64.reduceOfNat, UInt64.reduceToNat, UInt32.reduceToNat, UInt16.reduceToNat, UInt8.reduceToNat, Int.reduceAdd, Int.reduceSub, Int.reduceMul, Nat.reduceMul, Qp0, Qp1, Ql0, Qe0]
    refine PW_tr (.take 0 (.take 1 (.take 2 (.take 3 (.take 5 (.take 4 (.take 6 (.take 7 (.take 8 (.take 9 (.take 10 (.take 11 (.take 12 (.take 13 (.take 14 (.take 15 (.take 16 (.take 17 .done)))))))))))))))))) h6 (by kernel_rfl) (by decide +kernel) (by kernel_rfl) (by kernel_rfl) (by kernel_rfl) (fun c f h hq => by simp only [thenC_panic, thenK_panic, inBlk_panic, thenN_panic, vcRet_panic] at hq) (PH.Le.refl _).sub ?_
    simp -dsimp -implicitDefEqProofs (disch := first | omega | assumption | (simp only [Option.isSome_some, Qt0]; done) | (simp only [UInt64.reduceToNat, UInt32.reduceToNat, UInt8.reduceToNat, List.length_cons, List.length_nil, List.length_append, Int.toNat_natCast] <;> omega) | fail) only [Nat.reduceLT, Nat.reduceLeDiff, Nat.reduceEqDiff, ↓reduceIte, Int.reduceLT, Int.reduceLE, Int.reduceToNat, Int.reduceEq, Int.reduceNe, Nat.reduceAdd, UInt8.reduceOfNat, UInt16.reduceOfNat, UInt32.reduceOfNat, UInt64.reduceOfNat, UInt64.reduceToNat, UInt32.reduceToNat, UInt16.reduceToNat, UInt8.reduceToNat, Int.reduceAdd, Int.reduceSub, Int.reduceMul, Nat.reduceMul, Qp0, Qp1, Ql0, Qe0, vcUS_done, vcUS_take, vcUS_only, vcUS_both, vcUS_cut, vcUC_nil, vcUC_cons, vcUO_some, vcUL_some, vcUE_some, c6, c6r]
    refine (plain_any w h6 m p).mono ?_
    rintro v h7 ⟨rfl, hl7⟩
    have hK7 := hK6.trans hl7
    refine ⟨(hl7).sub, ?_⟩
    simp -dsimp -implicitDefEqProofs (disch := first | omega | assumption | (simp only [Option.isSome_some, Qt0]; done) | (simp only [UInt64.reduceToNat, UInt32.reduceToNat, UInt8.reduceToNat, List.length_cons, List.length_nil, List.length_append, Int.toNat_natCast] <;> omega) | fail) only [Nat.reduceLT, Nat.reduceLeDiff, Nat.reduceEqDiff, ↓reduceIte, Int.reduceLT, Int.reduceLE, Int.reduceToNat, Int.reduceEq, Int.reduceNe, Nat.reduceAdd, UInt8.reduceOfNat, UInt16.reduceOfNat, UInt32.reduceOfNat, UInt64.reduceOfNat, UInt64.reduceToNat, UInt32.reduceToNat, UInt16.reduceToNat, UInt8.reduceToNat, Int.reduceAdd, Int.reduceSub, Int.reduceMul, Nat.reduceMul, Qp0, Qp1, Ql0, Qe0, vcUS_done, vcUS_take, vcUS_only, vcUS_both, vcUS_cut, vcUC_nil, vcUC_cons, vcUO_some, vcUL_some, vcUE_some, c6, c6r]
    have hS := same23_any w h7 m m p p3 (((((hR.more hl3).more hl4).more hl5).more hl6).more hl7) (((hR3.more hl5).more hl6).more hl7) hF
    rw [sameM_iff.2 rfl] at hS
    refine (hS).mono ?_
    rintro v h8 ⟨rfl, hl8⟩
    have hK8 := hK7.trans hl8
    refine ⟨((hl7).trans hl8).sub, ?_⟩
    simp -dsimp -implicitDefEqProofs (disch := first | omega | assumption | (simp only [Option.isSome_some, Qt0]; done) | (simp only [UInt64.reduceToNat, UInt32.reduceToNat, UInt8.reduceToNat, List.length_cons, List.length_nil, List.length_append, Int.toNat_natCast] <;> omega) | fail) only [Nat.reduceLT, Nat.reduceLeDiff, Nat.reduceEqDiff, ↓reduceIte, Int.reduceLT, Int.reduceLE, Int.reduceToNat, Int.reduceEq, Int.reduceNe, Nat.reduceAdd, UInt8.reduceOfNat, UInt16.reduceOfNat, UInt32.reduceOfNat, UInt64.reduceOfNat, UInt64.reduceToNat, UInt32.reduceToNat, UInt16.reduceToNat, UInt8.reduceToNat, Int.reduceAdd, Int.reduceSub, Int.reduceMul, Nat.reduceMul, Qp0, Qp1, Ql0, Qe0, vcUS_done, vcUS_take, vcUS_only, vcUS_both, vcUS_cut, vcUC_nil, vcUC_cons, vcUO_some, vcUL_some, vcUE_some, e1]
    exact ⟨_, hg0.trans hK8, by trivial⟩
  · obtain ⟨t, x, rfl⟩ := hev.held
    have ho_nb := msL_one msZ mpZ
    have hn_nb := msL_len msZ mpZ
    simp -dsimp -implicitDefEqProofs (disch := first | omega | assumption | (simp only [Option.isSome_some, Qt0]; done) | (simp only [UInt64.reduceToNat, UInt32.reduceToNat, UInt8.reduceToNat, List.length_cons, List.length_nil, List.length_append, Int.toNat_natCast] <;> omega) | fail) only [Nat.reduceLT, Nat.reduceLeDiff, Nat.reduceEqDiff, ↓reduceIte, Int.reduceLT, Int.reduceLE, Int.reduceToNat, Int.reduceEq, Int.reduceNe, Nat.reduceAdd, UInt8.reduceOfNat, UInt16.reduceOfNat, UInt32.reduceOfNat, UInt64.reduceOfNat, UInt64.reduceToNat, UInt32.reduceToNat, UInt16.reduceToNat, UInt8.reduceToNat, Int.reduceAdd, Int.reduceSub, Int.reduceMul, Nat.reduceMul, Qp0, Qp1, Ql0, Qe0, hn_nb]
    refine fun nb hnb => ?_
    have hl3 := (PH.Le.refl h2).new nb ⟨msL msZ mpZ, 7⟩ hnb
    have hm_nb : (h2.new nb ⟨msL msZ mpZ, 7⟩).m nb = some ⟨msL msZ mpZ, 7⟩ := by rw [PH.new_m, if_pos rfl]
    simp -dsimp -implicitDefEqProofs (disch := first | omega | assumption | (simp only [Option.isSome_some, Qt0]; done) | (simp only [UInt64.reduceToNat, UInt32.reduceToNat, UInt8.reduceToNat, List.length_cons, List.length_nil, List.length_append, Int.toNat_natCast] <;> omega) | fail) only [Nat.reduceLT, Nat.reduceLeDiff, Nat.reduceEqDiff, ↓reduceIte, Int.reduceLT, Int.reduceLE, Int.reduceToNat, Int.reduceEq, Int.reduceNe, Nat.reduceAdd, UInt8.reduceOfNat, UInt16.reduceOfNat, UInt32.reduceOfNat, UInt64.reduceOfNat, UInt64.reduceToNat, UInt32.reduceToNat, UInt16.reduceToNat, UInt8.reduceToNat, Int.reduceAdd, Int.reduceSub, Int.reduceMul, Nat.reduceMul, Qp0, Qp1, Ql0, Qe0, List.set_cons_zero, List.set_cons_succ, List.take_zero, List.drop_succ_cons, List.drop_zero, List.drop_nil, List.nil_append, List.append_nil, List.take_succ_cons, ite_true, PH.new_new]
    generalize h2.new nb ⟨msL msZ mpZ, 7⟩ = h3 at *
    have hK3 := hK2.trans hl3
    refine (read23_any s (by omega) w h3).mono ?_
    rintro v h4 ⟨hD3, hl4⟩
    have hK4 := hK3.trans hl4
    rcases hD3 with ⟨m3, p3, hr3, hb3, rfl, hR3, hF3⟩ | ⟨_, rfl⟩
    · exact absurd hb3 (hno m3 hr3)
    have ho_rb := msL_one msZ mpZ
    have hn_rb := msL_len msZ mpZ
    simp -dsimp -implicitDefEqProofs (disch := first | omega | assumption | (simp only [Option.isSome_some, Qt0]; done) | (simp only [UInt64.reduceToNat, UInt32.reduceToNat, UInt8.reduceToNat, List.length_cons, List.length_nil, List.length_append, Int.toNat_natCast] <;> omega) | fail) only [Nat.reduceLT, Nat.reduceLeDiff, Nat.reduceEqDiff, ↓reduceIte, Int.reduceLT, Int.reduceLE, Int.reduceToNat, Int.reduceEq, Int.reduceNe, Nat.reduceAdd, UInt8.reduceOfNat, UInt16.reduceOfNat, UInt32.reduceOfNat, UInt64.reduceOfNat, UInt64.reduceToNat, UInt32.reduceToNat, UInt16.reduceToNat, UInt8.reduceToNat, Int.reduceAdd, Int.reduceSub, Int.reduceMul, Nat.reduceMul, Qp0, Qp1, Ql0, Qe0, hn_rb]
    refine fun rb hrb => ?_
    have hl5 := (PH.Le.refl h4).new rb ⟨msL msZ mpZ, 7⟩ hrb
    have hm_rb : (h4.new rb ⟨msL msZ mpZ, 7⟩).m rb = some ⟨msL msZ mpZ, 7⟩ := by rw [PH.new_m, if_pos rfl]
    simp -dsimp -implicitDefEqProofs (disch := first | omega | assumption | (simp only [Option.isSome_some, Qt0]; done) | (simp only [UInt64.reduceToNat, UInt32.reduceToNat, UInt8.reduceToNat, List.length_cons, List.length_nil, List.length_append, Int.toNat_natCast] <;> omega) | fail) only [Nat.reduceLT, Nat.reduceLeDiff, Nat.reduceEqDiff, ↓reduceIte, Int.reduceLT, Int.reduceLE, Int.reduceToNat, Int.reduceEq, Int.reduceNe, Nat.reduceAdd, UInt8.reduceOfNat, UInt16.reduceOfNat, UInt32.reduceOfNat, UInt64.reduceOfNat, UInt64.reduceToNat, UInt32.reduceToNat, UInt16.reduceToNat, UInt8.reduceToNat, Int.reduceAdd, Int.reduceSub, Int.reduceMul, Nat.reduceMul, Qp0, Qp1, Ql0, Qe0, List.set_cons_zero, List.set_cons_succ, List.take_zero, List.drop_succ_cons, List.drop_zero, List.drop_nil, List.nil_append, List.append_nil, List.take_succ_cons, ite_true, PH.new_new]
    generalize h4.new rb ⟨msL msZ mpZ, 7⟩ = h5 at *
    have hK5 := hK4.trans hl5
    have k5 := hl5.m _ _ (hl4.m _ _ hm_nb)
    have c5 : rdN w h5 ⟨nb, 0, none⟩ 7 = some (msL msZ mpZ) := by unfold rdN; simp only [k5]; rfl
    have hI := is_any 2 w h5 _ _ (((hev.more hl3).more hl4).more hl5)
    have hn : (e.num == 2) = true := by rw [hen]; rfl
    unfold codeV at hI
    refine hI.mono ?_
    rintro v h6 ⟨rfl, hz⟩
    obtain rfl := hz.symm
    rw [hn]
    simp -dsimp -implicitDefEqProofs (disch := first | omega | assumption | (simp only [Option.isSome_some, Qt0]; done) | (simp only [UInt64.reduceToNat, UInt32.reduceToNat, UInt8.reduceToNat, List.length_cons, List.length_nil, List.length_append, Int.toNat_natCast] <;> omega) | fail) only [Nat.reduceLT, Nat.reduceLeDiff, Nat.reduceEqDiff, ↓reduceIte, Int.reduceLT, Int.reduceLE, Int.reduceToNat, Int.reduceEq, Int.reduceNe, Nat.reduceAdd, UInt8.reduceOfNat, UInt16.reduceOfNat, UInt32.reduceOfNat, UInt64.reduceOfNat, UInt64.reduceToNat, UInt32.reduceToNat, UInt16.reduceToNat, UInt8.reduceToNat, Int.reduceAdd, Int.reduceSub, Int.reduceMul, Nat.reduceMul, Qp0, Qp1, Ql0, Qe0, c5]
    refine (plain_any w h5 msZ mpZ).mono ?_
    rintro v h6 ⟨rfl, hl6⟩
    have hK6 := hK5.trans hl6
    have hS := same23_any w h6 msZ msZ mpZ mpZ (msZ_R w h6) (msZ_R w h6) msZ_F
    rw [sameM_iff.2 rfl] at hS
    have hZ : msL msZ mpZ = [.int .i64 0, .slice none 0 0, .slice none 0 0, .int .i64 0, .int .i64 0, .slice none 0 0, .int .i64 0] := rfl
    rw [hZ] at hS ⊢
    simp -dsimp -implicitDefEqProofs (disch := first | omega | assumption | (simp only [Option.isSome_some, Qt0]; done) | (simp only [UInt64.reduceToNat, UInt32.reduceToNat, UInt8.reduceToNat, List.length_cons, List.length_nil, List.length_append, Int.toNat_natCast] <;> omega) | fail) only [Nat.reduceLT, Nat.reduceLeDiff, Nat.reduceEqDiff, ↓reduceIte, Int.reduceLT, Int.reduceLE, Int.reduceToNat, Int.reduceEq, Int.reduceNe, Nat.reduceAdd, UInt8.reduceOfNat, UInt16.reduceOfNat, UInt32.reduceOfNat, UInt64.reduceOfNat, UInt64.reduceToNat, UInt32.reduceToNat, UInt16.reduceToNat, UInt8.reduceToNat, Int.reduceAdd, Int.reduceSub, Int.reduceMul, Nat.reduceMul, Qp0, Qp1, Ql0, Qe0]
    refine (hS).mono ?_
    rintro v h7 ⟨rfl, hl7⟩
    have hK7 := hK6.trans hl7
    simp -dsimp -implicitDefEqProofs (disch := first | omega | assumption | (simp only [Option.isSome_some, Qt0]; done) | (simp only [UInt64.reduceToNat, UInt32.reduceToNat, UInt8.reduceToNat, List.length_cons, List.length_nil, List.length_append, Int.toNat_natCast] <;> omega) | fail) only [Nat.reduceLT, Nat.reduceLeDiff, Nat.reduceEqDiff, ↓reduceIte, Int.reduceLT, Int.reduceLE, Int.reduceToNat, Int.reduceEq, Int.reduceNe, Nat.reduceAdd, UInt8.reduceOfNat, UInt16.reduceOfNat, UInt32.reduceOfNat, UInt64.reduceOfNat, UInt64.reduceToNat, UInt32.reduceToNat, UInt16.reduceToNat, UInt8.reduceToNat, Int.reduceAdd, Int.reduceSub, Int.reduceMul, Nat.reduceMul, Qp0, Qp1, Ql0, Qe0]
    exact ⟨_, hg0.trans hK7, by trivial⟩
set_option maxRecDepth 100000 in
theorem liftedTalkReads (os : Os) (started : os.Started) (H : Type) (enc : TypeId × Value → H) :
    ReturnsInHanded {} Try.checked os 5 .any (Rows.talkReadsSpec.pre6 enc Try.prog Try.f5 Rows.talkReadsRow.domain false) (Rows.talkReadsSpec.post enc Try.prog Try.f5 false true false false) := by
  refine returnsInHanded_of_change_sized (C := Try.checked) own started (by kernel_rfl) Try.func5
    (ChangeSpec.witness6 (enc := enc) (C := Try.checked) false ⟨#[], #[.string ⟨#[]⟩], []⟩ 8 (by kernel_rfl) (by kernel_rfl) (by kernel_rfl) (by kernel_rfl)) ?_
  intro W base args ds gs before hval0 hW _ hsz0 _
  have hsz : (DataW.weightsEach Try.prog (Try.f5.params.toList ++ Rows.talkReadsSpec.plain.varTypes Try.prog) (ds ++ gs)).all (· ≤ reachBytes) = true := hsz0
  have hval : ∀ (j : Nat) t v, Try.f5.params[j]? = some t → args[j]? = some v → Value.okWide Try.prog W .any base t v := hval0
  have hW' := hW
  obtain ⟨p, q, hA0, hV, rfl, _, _⟩ := hW
  have hA : DataW.TrodAll enc Try.prog W 0 (fun _ => true) true Try.f5.params.toList args.toList ds p := hA0
  rw [Try.params5] at hA hval hsz
  obtain ⟨v0, d0, rfl, rfl, h0⟩ := trodAll_one hA
  obtain ⟨rfl, _⟩ := trodVars_none hV
  obtain ⟨a0, rfl, rfl, rfl, _⟩ := ChangeMaps.open_string Try.underlying9 (hval 0 _ v0 rfl rfl) h0
  have w0 : a0.size ≤ 140737488351232 := by
    have := sized_string hsz (j := 0) (t := 9) rfl rfl
    simpa [reachBytes] using this
  refine (walk_TalkReads a0.data.toList W w0).mono fun en W' ⟨he, hb⟩ => ?_
  subst he
  exact ⟨_, rfl, law_post (tb := 4) laidOut hW' rfl rfl rfl rfl Try.underlying4 (by intro t ht; revert t; exact of_decide_eq_true (by kernel_rfl)) (by kernel_rfl) hb⟩

theorem provedTalkReads : Rows.TalkReadsSaid :=
  OpenClaim.holds_of_wide 5 Try.f5 rfl rfl rfl rfl rfl rfl rfl ⟨rfl, rfl, rfl, rfl, rfl⟩ rfl rfl rfl rfl rfl (by kernel_rfl) Try.func5 (by kernel_rfl)
    (of_decide_eq_true (by kernel_rfl)) (by unfold Func.isWrapper; first | (rw [if_pos (by decide +kernel)]; kernel_rfl) | (rw [if_neg (by decide +kernel)]; exact ⟨rfl, rfl⟩))
    (fun os started H enc _ => liftedTalkReads os started H enc)
#print axioms provedTalkReads


end Go.Proofs.Ytdhgmifgjaedbaa.TaX
