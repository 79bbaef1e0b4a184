/- TalkCuts: a message's bytes without their end, or with more behind them, are no message's. No condition. -/
import Derived.Test.YtdhgmifgjaedbaaM14B
import Derived.Test.YtdhgmifgjaedbaaM12B
import Derived.Test.YtdhgmifgjaedbaaM8B
import Derived.Test.YtdhgmifgjaedbaaChecked
namespace Go.Proofs.Ytdhgmifgjaedbaa.TaY
set_option linter.unusedVariables false
set_option linter.unusedSimpArgs false
open Go.ChangeShapes Go.WideShapes Go.ChangeAt Go.RowKit Base Px Wr
set_option maxRecDepth 20000 in
set_option maxHeartbeats 4000000 in
theorem walk_TalkCuts (m : Ms) (p_m : Mp7) (at_ : Int) (more : List UInt8) (w : World) (hR_m : ∀ h, MsR w h m p_m) (hw_at_ : (Lit.int .u16 at_).wf = true) (hs_more : more.length ≤ 140737488351232) : Calls Try.prog 6 #[.agg (msL m p_m).toArray, .int .u16 at_, str more] w fun e w' => e = .returned (.bool true) ∧ Below w.heap.size w w' := by
  refine law_calls (args := [.agg (msL m p_m).toArray, .int .u16 at_, str more]) (Calls_body Try.func6 rfl _ Try.ntmps6 (by kernel_rfl) (by kernel_rfl) _ Try.results6 ?_ w (Sim.empty w))
  obtain ⟨a, rfl⟩ := u16_lit hw_at_
  rw [show Value.int .u16 (a.toNat : Int) = u16 a from rfl]
  simp -dsimp -implicitDefEqProofs (disch := first | omega | assumption | (simp only [Option.isSome_some, Qt0]; done) | (simp only [UInt64.reduceToNat, UInt32.reduceToNat, UInt8.reduceToNat, List.length_cons, List.length_nil, List.length_append, Int.toNat_natCast] <;> omega) | fail) only [Nat.reduceLT, Nat.reduceLeDiff, Nat.reduceEqDiff, ↓reduceIte, Int.reduceLT, Int.reduceLE, Int.reduceToNat, Int.reduceEq, Int.reduceNe, Nat.reduceAdd, UInt8.reduceOfNat, UInt16.reduceOfNat, UInt32.reduceOfNat, UInt64.reduceOfNat, UInt64.reduceToNat, UInt32.reduceToNat, UInt16.reduceToNat, UInt8.reduceToNat, Int.reduceAdd, Int.reduceSub, Int.reduceMul, Nat.reduceMul, Qp0, Qp1, Ql0, Qe0, msL_len]
  refine fun pb_m hpb_m => ?_
  have hlb_m := (PH.Le.refl (PH.empty w)).new pb_m ⟨msL m p_m, 7⟩ hpb_m
  have hmb_m : ((PH.empty w).new pb_m ⟨msL m p_m, 7⟩).m pb_m = some ⟨msL m p_m, 7⟩ := by rw [PH.new_m, if_pos rfl]
  simp -dsimp -implicitDefEqProofs (disch := first | omega | assumption | (simp only [Option.isSome_some, Qt0]; done) | (simp only [UInt64.reduceToNat, UInt32.reduceToNat, UInt8.reduceToNat, List.length_cons, List.length_nil, List.length_append, Int.toNat_natCast] <;> omega) | fail) only [Nat.reduceLT, Nat.reduceLeDiff, Nat.reduceEqDiff, ↓reduceIte, Int.reduceLT, Int.reduceLE, Int.reduceToNat, Int.reduceEq, Int.reduceNe, Nat.reduceAdd, UInt8.reduceOfNat, UInt16.reduceOfNat, UInt32.reduceOfNat, UInt64.reduceOfNat, UInt64.reduceToNat, UInt32.reduceToNat, UInt16.reduceToNat, UInt8.reduceToNat, Int.reduceAdd, Int.reduceSub, Int.reduceMul, Nat.reduceMul, Qp0, Qp1, Ql0, Qe0, msL_len]
  generalize (PH.empty w).new pb_m ⟨msL m p_m, 7⟩ = g0 at *
  have hg0 := hlb_m
  have hC_m : ∀ q, PH.Le g0 q → rdN w q ⟨pb_m, 0, none⟩ 7 = some (msL m p_m) := fun q hl => by unfold rdN; simp only [hl.m _ _ (hmb_m)]; rfl
  refine (awake23_any w g0).mono ?_
  rintro v h1 ⟨rfl, hK1⟩
  have c1_m := hC_m h1 hK1
  simp -dsimp -implicitDefEqProofs (disch := first | omega | assumption | (simp only [Option.isSome_some, Qt0]; done) | (simp only [UInt64.reduceToNat, UInt32.reduceToNat, UInt8.reduceToNat, List.length_cons, List.length_nil, List.length_append, Int.toNat_natCast] <;> omega) | fail) only [Nat.reduceLT, Nat.reduceLeDiff, Nat.reduceEqDiff, ↓reduceIte, Int.reduceLT, Int.reduceLE, Int.reduceToNat, Int.reduceEq, Int.reduceNe, Nat.reduceAdd, UInt8.reduceOfNat, UInt16.reduceOfNat, UInt32.reduceOfNat, UInt64.reduceOfNat, UInt64.reduceToNat, UInt32.reduceToNat, UInt16.reduceToNat, UInt8.reduceToNat, Int.reduceAdd, Int.reduceSub, Int.reduceMul, Nat.reduceMul, Qp0, Qp1, Ql0, Qe0, c1_m]
  refine (great_any w h1 m p_m (hR_m h1)).mono ?_
  rintro v h2 ⟨⟨bm, rfl, hbm⟩, hl2⟩
  have hK2 := hK1.trans hl2
  cases bm
  rotate_left
  · simp -dsimp -implicitDefEqProofs (disch := first | omega | assumption | (simp only [Option.isSome_some, Qt0]; done) | (simp only [UInt64.reduceToNat, UInt32.reduceToNat, UInt8.reduceToNat, List.length_cons, List.length_nil, List.length_append, Int.toNat_natCast] <;> omega) | fail) only [Nat.reduceLT, Nat.reduceLeDiff, Nat.reduceEqDiff, ↓reduceIte, Int.reduceLT, Int.reduceLE, Int.reduceToNat, Int.reduceEq, Int.reduceNe, Nat.reduceAdd, UInt8.reduceOfNat, UInt16.reduceOfNat, UInt32.reduceOfNat, UInt64.reduceOfNat, UInt64.reduceToNat, UInt32.reduceToNat, UInt16.reduceToNat, UInt8.reduceToNat, Int.reduceAdd, Int.reduceSub, Int.reduceMul, Nat.reduceMul, Qp0, Qp1, Ql0, Qe0]
    exact ⟨_, hg0.trans hK2, by trivial⟩
  obtain ⟨hF_m, _⟩ := hbm rfl
  have c2_m := hC_m h2 hK2
  simp -dsimp -implicitDefEqProofs (disch := first | omega | assumption | (simp only [Option.isSome_some, Qt0]; done) | (simp only [UInt64.reduceToNat, UInt32.reduceToNat, UInt8.reduceToNat, List.length_cons, List.length_nil, List.length_append, Int.toNat_natCast] <;> omega) | fail) only [Nat.reduceLT, Nat.reduceLeDiff, Nat.reduceEqDiff, ↓reduceIte, Int.reduceLT, Int.reduceLE, Int.reduceToNat, Int.reduceEq, Int.reduceNe, Nat.reduceAdd, UInt8.reduceOfNat, UInt16.reduceOfNat, UInt32.reduceOfNat, UInt64.reduceOfNat, UInt64.reduceToNat, UInt32.reduceToNat, UInt16.reduceToNat, UInt8.reduceToNat, Int.reduceAdd, Int.reduceSub, Int.reduceMul, Nat.reduceMul, Qp0, Qp1, Ql0, Qe0, c2_m]
  by_cases h1a : 1000 < (more.length : Int)
  · have d1 := decide_eq_true h1a
    simp -dsimp -implicitDefEqProofs (disch := first | omega | assumption | (simp only [Option.isSome_some, Qt0]; done) | (simp only [UInt64.reduceToNat, UInt32.reduceToNat, UInt8.reduceToNat, List.length_cons, List.length_nil, List.length_append, Int.toNat_natCast] <;> omega) | fail) only [Nat.reduceLT, Nat.reduceLeDiff, Nat.reduceEqDiff, ↓reduceIte, Int.reduceLT, Int.reduceLE, Int.reduceToNat, Int.reduceEq, Int.reduceNe, Nat.reduceAdd, UInt8.reduceOfNat, UInt16.reduceOfNat, UInt32.reduceOfNat, UInt64.reduceOfNat, UInt64.reduceToNat, UInt32.reduceToNat, UInt16.reduceToNat, UInt8.reduceToNat, Int.reduceAdd, Int.reduceSub, Int.reduceMul, Nat.reduceMul, Qp0, Qp1, Ql0, Qe0, gt_iff_lt, d1]
    exact ⟨_, hg0.trans hK2, by trivial⟩
  have d1 := decide_eq_false h1a
  simp -dsimp -implicitDefEqProofs (disch := first | omega | assumption | (simp only [Option.isSome_some, Qt0]; done) | (simp only [UInt64.reduceToNat, UInt32.reduceToNat, UInt8.reduceToNat, List.length_cons, List.length_nil, List.length_append, Int.toNat_natCast] <;> omega) | fail) only [Nat.reduceLT, Nat.reduceLeDiff, Nat.reduceEqDiff, ↓reduceIte, Int.reduceLT, Int.reduceLE, Int.reduceToNat, Int.reduceEq, Int.reduceNe, Nat.reduceAdd, UInt8.reduceOfNat, UInt16.reduceOfNat, UInt32.reduceOfNat, UInt64.reduceOfNat, UInt64.reduceToNat, UInt32.reduceToNat, UInt16.reduceToNat, UInt8.reduceToNat, Int.reduceAdd, Int.reduceSub, Int.reduceMul, Nat.reduceMul, Qp0, Qp1, Ql0, Qe0, gt_iff_lt, d1, c2_m]
  refine (enc23_any w h2 m p_m (hR_m h2) hF_m).mono ?_
  rintro v h3 ⟨he, hl3⟩
  have hK3 := hK2.trans hl3
  have c3_m := hC_m h3 hK3
  unfold ENM at he
  cases hr : rightM m with
  | false =>
    rw [hr, if_neg (by simp)] at he
    obtain ⟨ev, rfl, hev⟩ := he
    obtain ⟨t, x, rfl⟩ := hev.held
    simp -dsimp -implicitDefEqProofs (disch := first | omega | assumption | (simp only [Option.isSome_some, Qt0]; done) | (simp only [UInt64.reduceToNat, UInt32.reduceToNat, UInt8.reduceToNat, List.length_cons, List.length_nil, List.length_append, Int.toNat_natCast] <;> omega) | fail) only [Nat.reduceLT, Nat.reduceLeDiff, Nat.reduceEqDiff, ↓reduceIte, Int.reduceLT, Int.reduceLE, Int.reduceToNat, Int.reduceEq, Int.reduceNe, Nat.reduceAdd, UInt8.reduceOfNat, UInt16.reduceOfNat, UInt32.reduceOfNat, UInt64.reduceOfNat, UInt64.reduceToNat, UInt32.reduceToNat, UInt16.reduceToNat, UInt8.reduceToNat, Int.reduceAdd, Int.reduceSub, Int.reduceMul, Nat.reduceMul, Qp0, Qp1, Ql0, Qe0]
    exact ⟨_, hg0.trans hK3, by trivial⟩
  | true =>
    rw [hr, if_pos rfl] at he
    subst he
    have hpos := bytesM_pos m
    have hlen := bytesM_le hr
    have hfr : ∀ {m' : Ms} {u : List UInt8}, rightM m' = true → bytesM m = bytesM m' ++ u → m' = m ∧ u = [] := fun h e => bytesM_free hr h e
    obtain ⟨S, hS⟩ : ∃ S, bytesM m = S := ⟨_, rfl⟩
    rw [hS] at hpos hlen hfr ⊢
    obtain ⟨k, hk⟩ : ∃ k, a.toNat % S.length = k := ⟨_, rfl⟩
    have hkl : k < S.length := by rw [← hk]; exact Nat.mod_lt _ hpos
    have e1 : (a.toNat : Int) % (S.length : Int) = (k : Int) := by rw [← hk]; rfl
    have hcut : ∀ m', rightM m' = true → S.take k ≠ bytesM m' := fun m' h' e => by
      obtain ⟨_, h2⟩ := hfr (u := S.drop k) h' (by rw [← e, List.take_append_drop])
      have h3 := congrArg List.length h2
      rw [List.length_drop] at h3
      simp only [List.length_nil] at h3
      omega
    have hlong : ∀ m', rightM m' = true → S ++ more = bytesM m' → more = [] := fun m' h' e => (bytesM_free h' hr (by rw [hS]; exact e.symm)).2
    simp -dsimp -implicitDefEqProofs (disch := first | omega | assumption | (simp only [Option.isSome_some, Qt0]; done) | (simp only [UInt64.reduceToNat, UInt32.reduceToNat, UInt8.reduceToNat, List.length_cons, List.length_nil, List.length_append, Int.toNat_natCast] <;> omega) | fail) only [Nat.reduceLT, Nat.reduceLeDiff, Nat.reduceEqDiff, ↓reduceIte, Int.reduceLT, Int.reduceLE, Int.reduceToNat, Int.reduceEq, Int.reduceNe, Nat.reduceAdd, UInt8.reduceOfNat, UInt16.reduceOfNat, UInt32.reduceOfNat, UInt64.reduceOfNat, UInt64.reduceToNat, UInt32.reduceToNat, UInt16.reduceToNat, UInt8.reduceToNat, Int.reduceAdd, Int.reduceSub, Int.reduceMul, Nat.reduceMul, Qp0, Qp1, Ql0, Qe0, e1]
    refine (dec23_any (S.take k) (by rw [List.length_take]; omega) w h3).mono ?_
    rintro v h4 ⟨hD, hl4⟩
    have hK4 := hK3.trans hl4
    rcases hD with ⟨m2, p2, hr2, hb2, _⟩ | ⟨_, ev, e, rfl, hev, hen⟩
    · exact absurd hb2 (hcut m2 hr2)
    obtain ⟨t, x, rfl⟩ := hev.held
    have ho_nb := msL_one msZ mpZ
    have hn_nb := msL_len msZ mpZ
    simp -dsimp -implicitDefEqProofs (disch := first | omega | assumption | (simp only [Option.isSome_some, Qt0]; done) | (simp only [UInt64.reduceToNat, UInt32.reduceToNat, UInt8.reduceToNat, List.length_cons, List.length_nil, List.length_append, Int.toNat_natCast] <;> omega) | fail) only [Nat.reduceLT, Nat.reduceLeDiff, Nat.reduceEqDiff, ↓reduceIte, Int.reduceLT, Int.reduceLE, Int.reduceToNat, Int.reduceEq, Int.reduceNe, Nat.reduceAdd, UInt8.reduceOfNat, UInt16.reduceOfNat, UInt32.reduceOfNat, UInt64.reduceOfNat, UInt64.reduceToNat, UInt32.reduceToNat, UInt16.reduceToNat, UInt8.reduceToNat, Int.reduceAdd, Int.reduceSub, Int.reduceMul, Nat.reduceMul, Qp0, Qp1, Ql0, Qe0, hn_nb]
    refine fun nb hnb => ?_
    have hl5 := (PH.Le.refl h4).new nb ⟨msL msZ mpZ, 7⟩ hnb
    have hm_nb : (h4.new nb ⟨msL msZ mpZ, 7⟩).m nb = some ⟨msL msZ mpZ, 7⟩ := by rw [PH.new_m, if_pos rfl]
    simp -dsimp -implicitDefEqProofs (disch := first | omega | assumption | (simp only [Option.isSome_some, Qt0]; done) | (simp only [UInt64.reduceToNat, UInt32.reduceToNat, UInt8.reduceToNat, List.length_cons, List.length_nil, List.length_append, Int.toNat_natCast] <;> omega) | fail) only [Nat.reduceLT, Nat.reduceLeDiff, Nat.reduceEqDiff, ↓reduceIte, Int.reduceLT, Int.reduceLE, Int.reduceToNat, Int.reduceEq, Int.reduceNe, Nat.reduceAdd, UInt8.reduceOfNat, UInt16.reduceOfNat, UInt32.reduceOfNat, UInt64.reduceOfNat, UInt64.reduceToNat, UInt32.reduceToNat, UInt16.reduceToNat, UInt8.reduceToNat, Int.reduceAdd, Int.reduceSub, Int.reduceMul, Nat.reduceMul, Qp0, Qp1, Ql0, Qe0, List.set_cons_zero, List.set_cons_succ, List.take_zero, List.drop_succ_cons, List.drop_zero, List.drop_nil, List.nil_append, List.append_nil, List.take_succ_cons, ite_true, PH.new_new]
    generalize h4.new nb ⟨msL msZ mpZ, 7⟩ = h5 at *
    have hK5 := hK4.trans hl5
    refine (dec23_any (S ++ more) (by rw [List.length_append]; omega) w h5).mono ?_
    rintro v h6 ⟨hD, hl6⟩
    have hK6 := hK5.trans hl6
    rcases hD with ⟨m2, p2, hr2, hb2, rfl, _, _⟩ | ⟨hno, ev2, e2, rfl, hev2, hen2⟩
    · have hm0 := hlong m2 hr2 hb2
      subst hm0
      have ho_rb := msL_one m2 p2
      have hn_rb := msL_len m2 p2
      simp -dsimp -implicitDefEqProofs (disch := first | omega | assumption | (simp only [Option.isSome_some, Qt0]; done) | (simp only [UInt64.reduceToNat, UInt32.reduceToNat, UInt8.reduceToNat, List.length_cons, List.length_nil, List.length_append, Int.toNat_natCast] <;> omega) | fail) only [Nat.reduceLT, Nat.reduceLeDiff, Nat.reduceEqDiff, ↓reduceIte, Int.reduceLT, Int.reduceLE, Int.reduceToNat, Int.reduceEq, Int.reduceNe, Nat.reduceAdd, UInt8.reduceOfNat, UInt16.reduceOfNat, UInt32.reduceOfNat, UInt64.reduceOfNat, UInt64.reduceToNat, UInt32.reduceToNat, UInt16.reduceToNat, UInt8.reduceToNat, Int.reduceAdd, Int.reduceSub, Int.reduceMul, Nat.reduceMul, Qp0, Qp1, Ql0, Qe0, hn_rb]
      refine fun rb hrb => ?_
      have hl7 := (PH.Le.refl h6).new rb ⟨msL m2 p2, 7⟩ hrb
      have hm_rb : (h6.new rb ⟨msL m2 p2, 7⟩).m rb = some ⟨msL m2 p2, 7⟩ := by rw [PH.new_m, if_pos rfl]
      simp -dsimp -implicitDefEqProofs (disch := first | omega | assumption | (simp only [Option.isSome_some, Qt0]; done) | (simp only [UInt64.reduceToNat, UInt32.reduceToNat, UInt8.reduceToNat, List.length_cons, List.length_nil, List.length_append, Int.toNat_natCast] <;> omega) | fail) only [Nat.reduceLT, Nat.reduceLeDiff, Nat.reduceEqDiff, ↓reduceIte, Int.reduceLT, Int.reduceLE, Int.reduceToNat, Int.reduceEq, Int.reduceNe, Nat.reduceAdd, UInt8.reduceOfNat, UInt16.reduceOfNat, UInt32.reduceOfNat, UInt64.reduceOfNat, UInt64.reduceToNat, UInt32.reduceToNat, UInt16.reduceToNat, UInt8.reduceToNat, Int.reduceAdd, Int.reduceSub, Int.reduceMul, Nat.reduceMul, Qp0, Qp1, Ql0, Qe0, List.set_cons_zero, List.set_cons_succ, List.take_zero, List.drop_succ_cons, List.drop_zero, List.drop_nil, List.nil_append, List.append_nil, List.take_succ_cons, ite_true, PH.new_new]
      generalize h6.new rb ⟨msL m2 p2, 7⟩ = h7 at *
      have hK7 := hK6.trans hl7
      have hI := is_any 2 w h7 _ _ (((hev.more hl5).more hl6).more hl7)
      have hn : (e.num == 2) = true := by rw [hen]; rfl
      unfold codeV at hI
      refine hI.mono ?_
      rintro v h8 ⟨rfl, hz⟩
      obtain rfl := hz.symm
      rw [hn]
      have e2 : decide (([] : List UInt8) = []) = true := decide_eq_true rfl
      simp -dsimp -implicitDefEqProofs (disch := first | omega | assumption | (simp only [Option.isSome_some, Qt0]; done) | (simp only [UInt64.reduceToNat, UInt32.reduceToNat, UInt8.reduceToNat, List.length_cons, List.length_nil, List.length_append, Int.toNat_natCast] <;> omega) | fail) only [Nat.reduceLT, Nat.reduceLeDiff, Nat.reduceEqDiff, ↓reduceIte, Int.reduceLT, Int.reduceLE, Int.reduceToNat, Int.reduceEq, Int.reduceNe, Nat.reduceAdd, UInt8.reduceOfNat, UInt16.reduceOfNat, UInt32.reduceOfNat, UInt64.reduceOfNat, UInt64.reduceToNat, UInt32.reduceToNat, UInt16.reduceToNat, UInt8.reduceToNat, Int.reduceAdd, Int.reduceSub, Int.reduceMul, Nat.reduceMul, Qp0, Qp1, Ql0, Qe0, e2]
      exact ⟨_, hg0.trans hK7, by trivial⟩
    · have hm0 : more ≠ [] := fun q => hno m hr (by rw [q, List.append_nil, hS])
      obtain ⟨t2, x2, rfl⟩ := hev2.held
      have ho_rb := msL_one msZ mpZ
      have hn_rb := msL_len msZ mpZ
      simp -dsimp -implicitDefEqProofs (disch := first | omega | assumption | (simp only [Option.isSome_some, Qt0]; done) | (simp only [UInt64.reduceToNat, UInt32.reduceToNat, UInt8.reduceToNat, List.length_cons, List.length_nil, List.length_append, Int.toNat_natCast] <;> omega) | fail) only [Nat.reduceLT, Nat.reduceLeDiff, Nat.reduceEqDiff, ↓reduceIte, Int.reduceLT, Int.reduceLE, Int.reduceToNat, Int.reduceEq, Int.reduceNe, Nat.reduceAdd, UInt8.reduceOfNat, UInt16.reduceOfNat, UInt32.reduceOfNat, UInt64.reduceOfNat, UInt64.reduceToNat, UInt32.reduceToNat, UInt16.reduceToNat, UInt8.reduceToNat, Int.reduceAdd, Int.reduceSub, Int.reduceMul, Nat.reduceMul, Qp0, Qp1, Ql0, Qe0, hn_rb]
      refine fun rb hrb => ?_
      have hl7 := (PH.Le.refl h6).new rb ⟨msL msZ mpZ, 7⟩ hrb
      have hm_rb : (h6.new rb ⟨msL msZ mpZ, 7⟩).m rb = some ⟨msL msZ mpZ, 7⟩ := by rw [PH.new_m, if_pos rfl]
      simp -dsimp -implicitDefEqProofs (disch := first | omega | assumption | (simp only [Option.isSome_some, Qt0]; done) | (simp only [UInt64.reduceToNat, UInt32.reduceToNat, UInt8.reduceToNat, List.length_cons, List.length_nil, List.length_append, Int.toNat_natCast] <;> omega) | fail) only [Nat.reduceLT, Nat.reduceLeDiff, Nat.reduceEqDiff, ↓reduceIte, Int.reduceLT, Int.reduceLE, Int.reduceToNat, Int.reduceEq, Int.reduceNe, Nat.reduceAdd, UInt8.reduceOfNat, UInt16.reduceOfNat, UInt32.reduceOfNat, UInt64.reduceOfNat, UInt64.reduceToNat, UInt32.reduceToNat, UInt16.reduceToNat, UInt8.reduceToNat, Int.reduceAdd, Int.reduceSub, Int.reduceMul, Nat.reduceMul, Qp0, Qp1, Ql0, Qe0, List.set_cons_zero, List.set_cons_succ, List.take_zero, List.drop_succ_cons, List.drop_zero, List.drop_nil, List.nil_append, List.append_nil, List.take_succ_cons, ite_true, PH.new_new]
      generalize h6.new rb ⟨msL msZ mpZ, 7⟩ = h7 at *
      have hK7 := hK6.trans hl7
      have hI := is_any 2 w h7 _ _ (((hev.more hl5).more hl6).more hl7)
      have hn : (e.num == 2) = true := by rw [hen]; rfl
      unfold codeV at hI
      refine hI.mono ?_
      rintro v h8 ⟨rfl, hz⟩
      obtain rfl := hz.symm
      rw [hn]
      have e2 : decide (more = []) = false := decide_eq_false hm0
      simp -dsimp -implicitDefEqProofs (disch := first | omega | assumption | (simp only [Option.isSome_some, Qt0]; done) | (simp only [UInt64.reduceToNat, UInt32.reduceToNat, UInt8.reduceToNat, List.length_cons, List.length_nil, List.length_append, Int.toNat_natCast] <;> omega) | fail) only [Nat.reduceLT, Nat.reduceLeDiff, Nat.reduceEqDiff, ↓reduceIte, Int.reduceLT, Int.reduceLE, Int.reduceToNat, Int.reduceEq, Int.reduceNe, Nat.reduceAdd, UInt8.reduceOfNat, UInt16.reduceOfNat, UInt32.reduceOfNat, UInt64.reduceOfNat, UInt64.reduceToNat, UInt32.reduceToNat, UInt16.reduceToNat, UInt8.reduceToNat, Int.reduceAdd, Int.reduceSub, Int.reduceMul, Nat.reduceMul, Qp0, Qp1, Ql0, Qe0, e2]
      exact ⟨_, hg0.trans hK7, by trivial⟩
set_option maxRecDepth 100000 in
theorem liftedTalkCuts (os : Os) (started : os.Started) (H : Type) (enc : TypeId × Value → H) :
    ReturnsInHanded {} Try.checked os 6 .any (Rows.talkCutsSpec.pre6 enc Try.prog Try.f6 Rows.talkCutsRow.domain false) (Rows.talkCutsSpec.post enc Try.prog Try.f6 false true false false) := by
  refine returnsInHanded_of_change_sized (C := Try.checked) own started (by kernel_rfl) Try.func6
    (ChangeSpec.witness6 (enc := enc) (C := Try.checked) false ⟨#[], #[.agg #[.int .i64 0, .slice none 0 0, .slice none 0 0, .int .i64 0, .int .i64 0, .slice none 0 0, .int .i64 0], .int .u16 0, .string ⟨#[]⟩], []⟩ 8 (by kernel_rfl) (by kernel_rfl) (by kernel_rfl) (by kernel_rfl)) ?_
  intro W base args ds gs before hval0 hW _ hsz0 _
  have hsz : (DataW.weightsEach Try.prog (Try.f6.params.toList ++ Rows.talkCutsSpec.plain.varTypes Try.prog) (ds ++ gs)).all (· ≤ reachBytes) = true := hsz0
  have hval : ∀ (j : Nat) t v, Try.f6.params[j]? = some t → args[j]? = some v → Value.okWide Try.prog W .any base t v := hval0
  have hW' := hW
  obtain ⟨p, q, hA0, hV, rfl, _, _⟩ := hW
  have hA : DataW.TrodAll enc Try.prog W 0 (fun _ => true) true Try.f6.params.toList args.toList ds p := hA0
  rw [Try.params6] at hA hval hsz
  obtain ⟨v0, v1, v2, d0, d1, d2, p0, p1, p2, rfl, rfl, rfl, h0, h1, h2⟩ := trodAll_three hA
  obtain ⟨rfl, _⟩ := trodVars_none hV
  obtain ⟨m0, p_0, rfl, hR0⟩ := open_ms (hval 0 _ v0 rfl rfl) h0
  obtain ⟨a1, rfl, rfl, rfl, w1⟩ := open_int Try.underlying47 (hval 1 _ v1 rfl rfl) h1
  obtain ⟨a2, rfl, rfl, rfl, _⟩ := ChangeMaps.open_string Try.underlying9 (hval 2 _ v2 rfl rfl) h2
  have w2 : a2.size ≤ 140737488351232 := by
    have := sized_string hsz (j := 2) (t := 9) rfl rfl
    simpa [reachBytes] using this
  refine (walk_TalkCuts m0 p_0 a1 a2.data.toList W hR0 w1 w2).mono fun en W' ⟨he, hb⟩ => ?_
  subst he
  exact ⟨_, rfl, law_post (tb := 4) laidOut hW' rfl rfl rfl rfl Try.underlying4 (by intro t ht; revert t; exact of_decide_eq_true (by kernel_rfl)) (by kernel_rfl) hb⟩

theorem provedTalkCuts : Rows.TalkCutsSaid :=
  OpenClaim.holds_of_wide 6 Try.f6 rfl rfl rfl rfl rfl rfl rfl ⟨rfl, rfl, rfl, rfl, rfl⟩ rfl rfl rfl rfl rfl (by kernel_rfl) Try.func6 (by kernel_rfl)
    (of_decide_eq_true (by kernel_rfl)) (by unfold Func.isWrapper; first | (rw [if_pos (by decide +kernel)]; kernel_rfl) | (rw [if_neg (by decide +kernel)]; exact ⟨rfl, rfl⟩))
    (fun os started H enc _ => liftedTalkCuts os started H enc)
#print axioms provedTalkCuts


end Go.Proofs.Ytdhgmifgjaedbaa.TaY
