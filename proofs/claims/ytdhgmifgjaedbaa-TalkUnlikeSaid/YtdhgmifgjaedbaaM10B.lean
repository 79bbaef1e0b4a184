/- Parts Ta8, Ta9, TaA, joined. No condition. -/
import Derived.Test.YtdhgmifgjaedbaaM9B
/- Walk: the reference's Right of a message. No condition. -/
namespace Go.Proofs.Ytdhgmifgjaedbaa
set_option linter.unusedVariables false
set_option linter.unusedSimpArgs false
open Go.RowKit Px Wr
theorem len0_gt {α : Type} (l : List α) : decide ((l.length : Int) = 0) = !decide ((l.length : Int) > 0) := by rw [nil_len, nil_len0]
theorem eq0_ne (c : Int) : decide (c = 0) = !decide (¬ c = 0) := (not_z c).symm
set_option maxRecDepth 20000 in
set_option maxHeartbeats 8000000 in
theorem rright23_any (w0 : World) (h : PH) (m : Ms) (p : Mp7) (hR : MsR w0 h m p) (hF : Fits m) : PCalls Try.prog w0 12 [.agg (msL m p).toArray] h fun r h' => r = .bool (rightM m) ∧ PH.Le h h' := by
  refine PCalls_upL fun q0 hlq hlow hut => ?_
  refine PCalls_body Try.func12 (by kernel_rfl) rfl _ Try.ntmps12 (by kernel_rfl) (by kernel_rfl) _ Try.results12 ?_
  have hR := hR.more hlq
  obtain ⟨k, w, v, c, t, e, x⟩ := m
  obtain ⟨wp, A, B, C, ca, cb, cc⟩ := p
  obtain ⟨h1, h2, h3, h4, h5, h6, h7, h8⟩ := hR
  obtain ⟨f1, f2, f3, f4, f5⟩ := hF
  simp only at h1 h2 h3 h4 h5 h6 h7 h8 f1 f2 f3 f4 f5
  unfold msL
  simp only
  have hwl : wp.length = w.length := by rw [← h1, List.length_map]
  simp -dsimp -implicitDefEqProofs (disch := first | omega | assumption | (simp only [Option.isSome_some, Qt0]; done) | (simp only [UInt64.reduceToNat, UInt32.reduceToNat, UInt8.reduceToNat, List.length_cons, List.length_nil, List.length_append, Int.toNat_natCast] <;> omega) | fail) only [Nat.reduceLT, Nat.reduceLeDiff, Nat.reduceEqDiff, ↓reduceIte, Int.reduceLT, Int.reduceLE, Int.reduceToNat, Int.reduceEq, Int.reduceNe, Nat.reduceAdd, UInt8.reduceOfNat, UInt16.reduceOfNat, UInt32.reduceOfNat, UInt64.reduceOfNat, UInt64.reduceToNat, UInt32.reduceToNat, UInt16.reduceToNat, UInt8.reduceToNat, Int.reduceAdd, Int.reduceSub, Int.reduceMul, Nat.reduceMul, Qp0, Qp1, Ql0, Qe0]
  refine fun mb hmb => ?_
  have hmbt : q0.top ≤ mb := hmb
  have hle0 := (PH.Le.refl q0).new mb ⟨[.int .i64 k, .slice A w.length ca, .slice B v.length cb, .int .i64 c, .int .i64 t, .slice C e.length cc, .int .i64 x], 7⟩ hmb
  obtain ⟨q, hq⟩ : ∃ q, q0.new mb ⟨[.int .i64 k, .slice A w.length ca, .slice B v.length cb, .int .i64 c, .int .i64 t, .slice C e.length cc, .int .i64 x], 7⟩ = q := ⟨_, rfl⟩
  have hm : q.m mb = some ⟨[.int .i64 k, .slice A w.length ca, .slice B v.length cb, .int .i64 c, .int .i64 t, .slice C e.length cc, .int .i64 x], 7⟩ := by rw [← hq, PH.new_m, if_pos rfl]
  have hlowq : Low w0 q := by rw [← hq]; exact hlow.new (by omega) _
  rw [hq] at hle0
  have hle := hlq.trans hle0
  simp -dsimp -implicitDefEqProofs (disch := first | omega | assumption | (simp only [Option.isSome_some, Qt0]; done) | (simp only [UInt64.reduceToNat, UInt32.reduceToNat, UInt8.reduceToNat, List.length_cons, List.length_nil, List.length_append, Int.toNat_natCast] <;> omega) | fail) only [Nat.reduceLT, Nat.reduceLeDiff, Nat.reduceEqDiff, ↓reduceIte, Int.reduceLT, Int.reduceLE, Int.reduceToNat, Int.reduceEq, Int.reduceNe, Nat.reduceAdd, UInt8.reduceOfNat, UInt16.reduceOfNat, UInt32.reduceOfNat, UInt64.reduceOfNat, UInt64.reduceToNat, UInt32.reduceToNat, UInt16.reduceToNat, UInt8.reduceToNat, Int.reduceAdd, Int.reduceSub, Int.reduceMul, Nat.reduceMul, Qp0, Qp1, Ql0, Qe0, hq]
  have hV := Lib.hid (rtrimmed_any w0 q hlowq B cb v 1099511627776 (h4.more hle0) h7 (by omega))
  have hE := Lib.hid (right21R_any w0 q C cc e (h5.more hle0) h8)
  have hrw := h3.more hle0
  have hgw : ∀ y ∈ wp, GoodW w0 q y := fun y hy => (h2 y hy).more hle0
  have hdw : ∀ y ∈ wp, y.1.d.length ≤ 1000000 := fun y hy => by have := (f4 y.1 (by rw [← h1]; exact List.mem_map.2 ⟨y, hy, rfl⟩)).1; omega
  clear h2 h3 h4 h5
  clear hq
  by_cases k1 : k = 1
  · subst k1
    rw [rightM_1, len0_gt e, eq0_ne x]
    by_cases w1 : w.length < 1
    · have e1 : decide ((w.length : Int) < 1) = true := decide_eq_true (by omega)
      have e2 : rightWs w = false := by unfold rightWs; rw [decide_eq_false (show ¬ 1 ≤ w.length by omega)]; rfl
      rw [e2]
      simp -dsimp -implicitDefEqProofs (disch := first | omega | assumption | (simp only [Option.isSome_some, Qt0]; done) | (simp only [UInt64.reduceToNat, UInt32.reduceToNat, UInt8.reduceToNat, List.length_cons, List.length_nil, List.length_append, Int.toNat_natCast] <;> omega) | fail) only [Nat.reduceLT, Nat.reduceLeDiff, Nat.reduceEqDiff, ↓reduceIte, Int.reduceLT, Int.reduceLE, Int.reduceToNat, Int.reduceEq, Int.reduceNe, Nat.reduceAdd, UInt8.reduceOfNat, UInt16.reduceOfNat, UInt32.reduceOfNat, UInt64.reduceOfNat, UInt64.reduceToNat, UInt32.reduceToNat, UInt16.reduceToNat, UInt8.reduceToNat, Int.reduceAdd, Int.reduceSub, Int.reduceMul, Nat.reduceMul, Qp0, Qp1, Ql0, Qe0, rd_M, rdM_some, hm, e1]
      exact ⟨_, PH.Le.refl _, by first | trivial | simp, hle⟩
    have e1 : decide ((w.length : Int) < 1) = false := decide_eq_false (by omega)
    by_cases w8 : w.length > 8
    · have e3 : decide ((w.length : Int) > 8) = true := decide_eq_true (by omega)
      have e2 : rightWs w = false := by unfold rightWs; rw [decide_eq_false (show ¬ w.length ≤ 8 by omega)]; simp
      rw [e2]
      simp -dsimp -implicitDefEqProofs (disch := first | omega | assumption | (simp only [Option.isSome_some, Qt0]; done) | (simp only [UInt64.reduceToNat, UInt32.reduceToNat, UInt8.reduceToNat, List.length_cons, List.length_nil, List.length_append, Int.toNat_natCast] <;> omega) | fail) only [Nat.reduceLT, Nat.reduceLeDiff, Nat.reduceEqDiff, ↓reduceIte, Int.reduceLT, Int.reduceLE, Int.reduceToNat, Int.reduceEq, Int.reduceNe, Nat.reduceAdd, UInt8.reduceOfNat, UInt16.reduceOfNat, UInt32.reduceOfNat, UInt64.reduceOfNat, UInt64.reduceToNat, UInt32.reduceToNat, UInt16.reduceToNat, UInt8.reduceToNat, Int.reduceAdd, Int.reduceSub, Int.reduceMul, Nat.reduceMul, Qp0, Qp1, Ql0, Qe0, rd_M, rdM_some, hm, e1, e3]
      exact ⟨_, PH.Le.refl _, by first | trivial | simp, hle⟩
    have e3 : decide ((w.length : Int) > 8) = false := decide_eq_false (by omega)
    simp -dsimp -implicitDefEqProofs (disch := first | omega | assumption | (simp only [Option.isSome_some, Qt0]; done) | (simp only [UInt64.reduceToNat, UInt32.reduceToNat, UInt8.reduceToNat, List.length_cons, List.length_nil, List.length_append, Int.toNat_natCast] <;> omega) | fail) only [Nat.reduceLT, Nat.reduceLeDiff, Nat.reduceEqDiff, ↓reduceIte, Int.reduceLT, Int.reduceLE, Int.reduceToNat, Int.reduceEq, Int.reduceNe, Nat.reduceAdd, UInt8.reduceOfNat, UInt16.reduceOfNat, UInt32.reduceOfNat, UInt64.reduceOfNat, UInt64.reduceToNat, UInt32.reduceToNat, UInt16.reduceToNat, UInt8.reduceToNat, Int.reduceAdd, Int.reduceSub, Int.reduceMul, Nat.reduceMul, Qp0, Qp1, Ql0, Qe0, rd_M, rdM_some, hm, e1, e3]
    refine PW_loop (fun n f h' => ∃ i : Nat, n + i = w.length ∧ f 1 = some (.pointer (some ⟨mb, 0, none⟩)) ∧ f 3 = some (.int .i64 i) ∧ h' = q ∧ (∀ j x, j < i → w[j]? = some x → rightW x = true ∧ some x.r = w.head?.map (·.r))) (by kernel_rfl) w.length ⟨0, by omega, ?_, ?_, rfl, fun j x hj => by omega⟩ ?_
    · simp -dsimp -implicitDefEqProofs (disch := first | omega | assumption | (simp only [Option.isSome_some, Qt0]; done) | (simp only [UInt64.reduceToNat, UInt32.reduceToNat, UInt8.reduceToNat, List.length_cons, List.length_nil, List.length_append, Int.toNat_natCast] <;> omega) | fail) only [Nat.reduceLT, Nat.reduceLeDiff, Nat.reduceEqDiff, ↓reduceIte, Int.reduceLT, Int.reduceLE, Int.reduceToNat, Int.reduceEq, Int.reduceNe, Nat.reduceAdd, UInt8.reduceOfNat, UInt16.reduceOfNat, UInt32.reduceOfNat, UInt64.reduceOfNat, UInt64.reduceToNat, UInt32.reduceToNat, UInt16.reduceToNat, UInt8.reduceToNat, Int.reduceAdd, Int.reduceSub, Int.reduceMul, Nat.reduceMul, Qp0, Qp1, Ql0, Qe0]
    · simp -dsimp -implicitDefEqProofs (disch := first | omega | assumption | (simp only [Option.isSome_some, Qt0]; done) | (simp only [UInt64.reduceToNat, UInt32.reduceToNat, UInt8.reduceToNat, List.length_cons, List.length_nil, List.length_append, Int.toNat_natCast] <;> omega) | fail) only [Nat.reduceLT, Nat.reduceLeDiff, Nat.reduceEqDiff, ↓reduceIte, Int.reduceLT, Int.reduceLE, Int.reduceToNat, Int.reduceEq, Int.reduceNe, Nat.reduceAdd, UInt8.reduceOfNat, UInt16.reduceOfNat, UInt32.reduceOfNat, UInt64.reduceOfNat, UInt64.reduceToNat, UInt32.reduceToNat, UInt16.reduceToNat, UInt8.reduceToNat, Int.reduceAdd, Int.reduceSub, Int.reduceMul, Nat.reduceMul, Qp0, Qp1, Ql0, Qe0]
      try rfl
    rintro n f h' ⟨i, hni, f1, f3, rfl, hall⟩
    by_cases hi : i < w.length
    · have e4 : decide ((i : Int) < (w.length : Int)) = true := decide_eq_true (by omega)
      obtain ⟨⟨x1, Ai, ci⟩, hx⟩ : ∃ x, wp[i]? = some x := ⟨_, List.getElem?_eq_getElem (by omega)⟩
      obtain ⟨⟨y1, Ay, cy⟩, hy⟩ : ∃ x, wp[0]? = some x := ⟨_, List.getElem?_eq_getElem (by omega)⟩
      obtain ⟨b, o, rfl⟩ := hrw.addr_ wpL_length (by omega) hx
      have hrd := hrw.chunk wpL_length (by omega) hlowq hx
      have hgx := hgw _ (List.mem_of_getElem? hx)
      have hdx := hdw _ (List.mem_of_getElem? hx)
      simp only at hgx hdx
      have gx : rdM w0 (h'.m b) b (o + i * 10) = some (.int .i64 x1.r) := hrw.chunkM wpL_length (by omega) hlowq hx (j := 0) rfl
      have gy : rdM w0 (h'.m b) b o = some (.int .i64 y1.r) := by
        have := hrw.chunkM wpL_length (by omega) hlowq hy (j := 0) (u := .int .i64 y1.r) rfl
        simpa using this
      have hwx : w[i]? = some x1 := by rw [← h1, List.getElem?_map, hx]; rfl
      have hh0 : w.head?.map (·.r) = some y1.r := by rw [List.head?_eq_getElem?, ← h1, List.getElem?_map, hy]; rfl
      have hT : (i : Int).toNat = i := Int.toNat_natCast i
      have hRW := rrightW_any w0 h' x1 Ai ci hgx.2 hgx.1 hdx
      unfold wpL wtL at hrd
      unfold wtL at hRW
      simp -dsimp -implicitDefEqProofs (disch := first | omega | assumption | (simp only [Option.isSome_some, Qt0]; done) | (simp only [UInt64.reduceToNat, UInt32.reduceToNat, UInt8.reduceToNat, List.length_cons, List.length_nil, List.length_append, Int.toNat_natCast] <;> omega) | fail) only [Nat.reduceLT, Nat.reduceLeDiff, Nat.reduceEqDiff, ↓reduceIte, Int.reduceLT, Int.reduceLE, Int.reduceToNat, Int.reduceEq, Int.reduceNe, Nat.reduceAdd, UInt8.reduceOfNat, UInt16.reduceOfNat, UInt32.reduceOfNat, UInt64.reduceOfNat, UInt64.reduceToNat, UInt32.reduceToNat, UInt16.reduceToNat, UInt8.reduceToNat, Int.reduceAdd, Int.reduceSub, Int.reduceMul, Nat.reduceMul, Qp0, Qp1, Ql0, Qe0, rd_M, rdM_some, hm, f1, f3, e4]
      refine PW_plan [0, 1, 2, 3, 4, 5, 6, 7, 8, 9, 10, 11, 12, 13, 14, 15, 16, 17, 18, 19, 20] h' (by kernel_rfl) (by decide +kernel) (by kernel_rfl) (by kernel_rfl) (by kernel_rfl) (fun c f h hq => by simp only [thenC_panic, thenK_panic, inBlk_panic, thenN_panic, vcRet_panic] at hq) (PH.Le.refl _).sub ?_
      cases hb : rightW x1 with
      | false =>
        rw [hb] at hRW
        have hRW := Lib.hid hRW
        rw [rightWs_no hwx (.inl hb)]
        simp -dsimp -implicitDefEqProofs (disch := first | omega | assumption | (simp only [Option.isSome_some, Qt0]; done) | (simp only [UInt64.reduceToNat, UInt32.reduceToNat, UInt8.reduceToNat, List.length_cons, List.length_nil, List.length_append, Int.toNat_natCast] <;> omega) | fail) only [Nat.reduceLT, Nat.reduceLeDiff, Nat.reduceEqDiff, ↓reduceIte, Int.reduceLT, Int.reduceLE, Int.reduceToNat, Int.reduceEq, Int.reduceNe, Nat.reduceAdd, UInt8.reduceOfNat, UInt16.reduceOfNat, UInt32.reduceOfNat, UInt64.reduceOfNat, UInt64.reduceToNat, UInt32.reduceToNat, UInt16.reduceToNat, UInt8.reduceToNat, Int.reduceAdd, Int.reduceSub, Int.reduceMul, Nat.reduceMul, Qp0, Qp1, Ql0, Qe0, rd_M, rdM_some, hm, f1, f3, hrd]
        refine hRW.out.mono ?_
        rintro v hq ⟨rfl, hz⟩; obtain rfl := hz.symm
        refine ⟨(PH.Le.refl _).sub, ?_⟩
        simp -dsimp -implicitDefEqProofs (disch := first | omega | assumption | (simp only [Option.isSome_some, Qt0]; done) | (simp only [UInt64.reduceToNat, UInt32.reduceToNat, UInt8.reduceToNat, List.length_cons, List.length_nil, List.length_append, Int.toNat_natCast] <;> omega) | fail) only [Nat.reduceLT, Nat.reduceLeDiff, Nat.reduceEqDiff, ↓reduceIte, Int.reduceLT, Int.reduceLE, Int.reduceToNat, Int.reduceEq, Int.reduceNe, Nat.reduceAdd, UInt8.reduceOfNat, UInt16.reduceOfNat, UInt32.reduceOfNat, UInt64.reduceOfNat, UInt64.reduceToNat, UInt32.reduceToNat, UInt16.reduceToNat, UInt8.reduceToNat, Int.reduceAdd, Int.reduceSub, Int.reduceMul, Nat.reduceMul, Qp0, Qp1, Ql0, Qe0, rd_M, rdM_some, hm, f1, f3]
        exact ⟨_, PH.Le.refl _, by first | trivial | simp, hle⟩
      | true =>
        rw [hb] at hRW
        have hRW := Lib.hid hRW
        simp -dsimp -implicitDefEqProofs (disch := first | omega | assumption | (simp only [Option.isSome_some, Qt0]; done) | (simp only [UInt64.reduceToNat, UInt32.reduceToNat, UInt8.reduceToNat, List.length_cons, List.length_nil, List.length_append, Int.toNat_natCast] <;> omega) | fail) only [Nat.reduceLT, Nat.reduceLeDiff, Nat.reduceEqDiff, ↓reduceIte, Int.reduceLT, Int.reduceLE, Int.reduceToNat, Int.reduceEq, Int.reduceNe, Nat.reduceAdd, UInt8.reduceOfNat, UInt16.reduceOfNat, UInt32.reduceOfNat, UInt64.reduceOfNat, UInt64.reduceToNat, UInt32.reduceToNat, UInt16.reduceToNat, UInt8.reduceToNat, Int.reduceAdd, Int.reduceSub, Int.reduceMul, Nat.reduceMul, Qp0, Qp1, Ql0, Qe0, rd_M, rdM_some, hm, f1, f3, hrd]
        refine hRW.out.mono ?_
        rintro v hq ⟨rfl, hz⟩; obtain rfl := hz.symm
        refine ⟨(PH.Le.refl _).sub, ?_⟩
        by_cases hr0 : x1.r = y1.r
        · have e5 : decide (¬ x1.r = y1.r) = false := decide_eq_false (by omega)
          simp -dsimp -implicitDefEqProofs (disch := first | omega | assumption | (simp only [Option.isSome_some, Qt0]; done) | (simp only [UInt64.reduceToNat, UInt32.reduceToNat, UInt8.reduceToNat, List.length_cons, List.length_nil, List.length_append, Int.toNat_natCast] <;> omega) | fail) only [Nat.reduceLT, Nat.reduceLeDiff, Nat.reduceEqDiff, ↓reduceIte, Int.reduceLT, Int.reduceLE, Int.reduceToNat, Int.reduceEq, Int.reduceNe, Nat.reduceAdd, UInt8.reduceOfNat, UInt16.reduceOfNat, UInt32.reduceOfNat, UInt64.reduceOfNat, UInt64.reduceToNat, UInt32.reduceToNat, UInt16.reduceToNat, UInt8.reduceToNat, Int.reduceAdd, Int.reduceSub, Int.reduceMul, Nat.reduceMul, Qp0, Qp1, Ql0, Qe0, rd_M, rdM_some, hm, f1, f3, gx, gy, e5]
          refine ⟨n - 1, _, by omega, PH.Le.refl _, i + 1, by omega, by trivial, by simp, rfl, fun j z hj hz => ?_⟩
          by_cases hji : j = i
          · subst hji
            rw [hwx] at hz
            obtain rfl := Option.some.inj hz
            rw [hh0]
            exact ⟨hb, by rw [hr0]⟩
          · exact hall j z (by omega) hz
        · have e5 : decide (¬ x1.r = y1.r) = true := decide_eq_true hr0
          rw [rightWs_no hwx (.inr (by rw [hh0]; intro e; exact hr0 (Option.some.inj e)))]
          simp -dsimp -implicitDefEqProofs (disch := first | omega | assumption | (simp only [Option.isSome_some, Qt0]; done) | (simp only [UInt64.reduceToNat, UInt32.reduceToNat, UInt8.reduceToNat, List.length_cons, List.length_nil, List.length_append, Int.toNat_natCast] <;> omega) | fail) only [Nat.reduceLT, Nat.reduceLeDiff, Nat.reduceEqDiff, ↓reduceIte, Int.reduceLT, Int.reduceLE, Int.reduceToNat, Int.reduceEq, Int.reduceNe, Nat.reduceAdd, UInt8.reduceOfNat, UInt16.reduceOfNat, UInt32.reduceOfNat, UInt64.reduceOfNat, UInt64.reduceToNat, UInt32.reduceToNat, UInt16.reduceToNat, UInt8.reduceToNat, Int.reduceAdd, Int.reduceSub, Int.reduceMul, Nat.reduceMul, Qp0, Qp1, Ql0, Qe0, rd_M, rdM_some, hm, f1, f3, gx, gy, e5]
          exact ⟨_, PH.Le.refl _, by first | trivial | simp, hle⟩
    have e4 : decide ((i : Int) < (w.length : Int)) = false := decide_eq_false (by omega)
    rw [rightWs_all (fun j x hj => hall j x (by have := (List.getElem?_eq_some_iff.1 hj).1; omega) hj), decide_eq_true (show (w.length : Int) ≥ 1 by omega), decide_eq_true (show (w.length : Int) ≤ 8 by omega)]
    simp -dsimp -implicitDefEqProofs (disch := first | omega | assumption | (simp only [Option.isSome_some, Qt0]; done) | (simp only [UInt64.reduceToNat, UInt32.reduceToNat, UInt8.reduceToNat, List.length_cons, List.length_nil, List.length_append, Int.toNat_natCast] <;> omega) | fail) only [Nat.reduceLT, Nat.reduceLeDiff, Nat.reduceEqDiff, ↓reduceIte, Int.reduceLT, Int.reduceLE, Int.reduceToNat, Int.reduceEq, Int.reduceNe, Nat.reduceAdd, UInt8.reduceOfNat, UInt16.reduceOfNat, UInt32.reduceOfNat, UInt64.reduceOfNat, UInt64.reduceToNat, UInt32.reduceToNat, UInt16.reduceToNat, UInt8.reduceToNat, Int.reduceAdd, Int.reduceSub, Int.reduceMul, Nat.reduceMul, Qp0, Qp1, Ql0, Qe0, rd_M, rdM_some, hm, f1, f3, e4]
    obtain ⟨bv, hbv⟩ : ∃ b, decide ((v.length : Int) > 0) = b := ⟨_, rfl⟩
    try rw [hbv]
    obtain ⟨bc, hbc⟩ : ∃ b, decide (¬ c = 0) = b := ⟨_, rfl⟩
    try rw [hbc]
    obtain ⟨ge, hge⟩ : ∃ b, decide ((e.length : Int) > 0) = b := ⟨_, rfl⟩
    try rw [hge]
    obtain ⟨nx, hnx⟩ : ∃ b, decide (¬ x = 0) = b := ⟨_, rfl⟩
    try rw [hnx]
    cases bv
    rotate_left
    · simp -dsimp -implicitDefEqProofs (disch := first | omega | assumption | (simp only [Option.isSome_some, Qt0]; done) | (simp only [UInt64.reduceToNat, UInt32.reduceToNat, UInt8.reduceToNat, List.length_cons, List.length_nil, List.length_append, Int.toNat_natCast] <;> omega) | fail) only [Nat.reduceLT, Nat.reduceLeDiff, Nat.reduceEqDiff, ↓reduceIte, Int.reduceLT, Int.reduceLE, Int.reduceToNat, Int.reduceEq, Int.reduceNe, Nat.reduceAdd, UInt8.reduceOfNat, UInt16.reduceOfNat, UInt32.reduceOfNat, UInt64.reduceOfNat, UInt64.reduceToNat, UInt32.reduceToNat, UInt16.reduceToNat, UInt8.reduceToNat, Int.reduceAdd, Int.reduceSub, Int.reduceMul, Nat.reduceMul, Qp0, Qp1, Ql0, Qe0, rd_M, rdM_some, hm, f1, f3, hbv]
      exact ⟨_, PH.Le.refl _, by first | trivial | simp, hle⟩
    cases bc
    rotate_left
    · simp -dsimp -implicitDefEqProofs (disch := first | omega | assumption | (simp only [Option.isSome_some, Qt0]; done) | (simp only [UInt64.reduceToNat, UInt32.reduceToNat, UInt8.reduceToNat, List.length_cons, List.length_nil, List.length_append, Int.toNat_natCast] <;> omega) | fail) only [Nat.reduceLT, Nat.reduceLeDiff, Nat.reduceEqDiff, ↓reduceIte, Int.reduceLT, Int.reduceLE, Int.reduceToNat, Int.reduceEq, Int.reduceNe, Nat.reduceAdd, UInt8.reduceOfNat, UInt16.reduceOfNat, UInt32.reduceOfNat, UInt64.reduceOfNat, UInt64.reduceToNat, UInt32.reduceToNat, UInt16.reduceToNat, UInt8.reduceToNat, Int.reduceAdd, Int.reduceSub, Int.reduceMul, Nat.reduceMul, Qp0, Qp1, Ql0, Qe0, rd_M, rdM_some, hm, f1, f3, hbv, hbc]
      exact ⟨_, PH.Le.refl _, by first | trivial | simp, hle⟩
    cases ge
    rotate_left
    · simp -dsimp -implicitDefEqProofs (disch := first | omega | assumption | (simp only [Option.isSome_some, Qt0]; done) | (simp only [UInt64.reduceToNat, UInt32.reduceToNat, UInt8.reduceToNat, List.length_cons, List.length_nil, List.length_append, Int.toNat_natCast] <;> omega) | fail) only [Nat.reduceLT, Nat.reduceLeDiff, Nat.reduceEqDiff, ↓reduceIte, Int.reduceLT, Int.reduceLE, Int.reduceToNat, Int.reduceEq, Int.reduceNe, Nat.reduceAdd, UInt8.reduceOfNat, UInt16.reduceOfNat, UInt32.reduceOfNat, UInt64.reduceOfNat, UInt64.reduceToNat, UInt32.reduceToNat, UInt16.reduceToNat, UInt8.reduceToNat, Int.reduceAdd, Int.reduceSub, Int.reduceMul, Nat.reduceMul, Qp0, Qp1, Ql0, Qe0, rd_M, rdM_some, hm, f1, f3, hbv, hbc, hge]
      exact ⟨_, PH.Le.refl _, by first | trivial | simp, hle⟩
    cases nx
    rotate_left
    · simp -dsimp -implicitDefEqProofs (disch := first | omega | assumption | (simp only [Option.isSome_some, Qt0]; done) | (simp only [UInt64.reduceToNat, UInt32.reduceToNat, UInt8.reduceToNat, List.length_cons, List.length_nil, List.length_append, Int.toNat_natCast] <;> omega) | fail) only [Nat.reduceLT, Nat.reduceLeDiff, Nat.reduceEqDiff, ↓reduceIte, Int.reduceLT, Int.reduceLE, Int.reduceToNat, Int.reduceEq, Int.reduceNe, Nat.reduceAdd, UInt8.reduceOfNat, UInt16.reduceOfNat, UInt32.reduceOfNat, UInt64.reduceOfNat, UInt64.reduceToNat, UInt32.reduceToNat, UInt16.reduceToNat, UInt8.reduceToNat, Int.reduceAdd, Int.reduceSub, Int.reduceMul, Nat.reduceMul, Qp0, Qp1, Ql0, Qe0, rd_M, rdM_some, hm, f1, f3, hbv, hbc, hge, hnx]
      exact ⟨_, PH.Le.refl _, by first | trivial | simp, hle⟩
    simp -dsimp -implicitDefEqProofs (disch := first | omega | assumption | (simp only [Option.isSome_some, Qt0]; done) | (simp only [UInt64.reduceToNat, UInt32.reduceToNat, UInt8.reduceToNat, List.length_cons, List.length_nil, List.length_append, Int.toNat_natCast] <;> omega) | fail) only [Nat.reduceLT, Nat.reduceLeDiff, Nat.reduceEqDiff, ↓reduceIte, Int.reduceLT, Int.reduceLE, Int.reduceToNat, Int.reduceEq, Int.reduceNe, Nat.reduceAdd, UInt8.reduceOfNat, UInt16.reduceOfNat, UInt32.reduceOfNat, UInt64.reduceOfNat, UInt64.reduceToNat, UInt32.reduceToNat, UInt16.reduceToNat, UInt8.reduceToNat, Int.reduceAdd, Int.reduceSub, Int.reduceMul, Nat.reduceMul, Qp0, Qp1, Ql0, Qe0, rd_M, rdM_some, hm, f1, f3, hbv, hbc, hge, hnx]
    exact ⟨_, PH.Le.refl _, by first | trivial | simp, hle⟩
  have e1' : decide (k = 1) = false := decide_eq_false k1
  by_cases k2 : k = 2
  · subst k2
    rw [rightM_2, len0_gt e, eq0_ne x]
    obtain ⟨bw, hbw⟩ : ∃ b, decide ((w.length : Int) > 0) = b := ⟨_, rfl⟩
    try rw [hbw]
    cases bw
    rotate_left
    · simp -dsimp -implicitDefEqProofs (disch := first | omega | assumption | (simp only [Option.isSome_some, Qt0]; done) | (simp only [UInt64.reduceToNat, UInt32.reduceToNat, UInt8.reduceToNat, List.length_cons, List.length_nil, List.length_append, Int.toNat_natCast] <;> omega) | fail) only [Nat.reduceLT, Nat.reduceLeDiff, Nat.reduceEqDiff, ↓reduceIte, Int.reduceLT, Int.reduceLE, Int.reduceToNat, Int.reduceEq, Int.reduceNe, Nat.reduceAdd, UInt8.reduceOfNat, UInt16.reduceOfNat, UInt32.reduceOfNat, UInt64.reduceOfNat, UInt64.reduceToNat, UInt32.reduceToNat, UInt16.reduceToNat, UInt8.reduceToNat, Int.reduceAdd, Int.reduceSub, Int.reduceMul, Nat.reduceMul, Qp0, Qp1, Ql0, Qe0, rd_M, rdM_some, hm, hbw]
      exact ⟨_, PH.Le.refl _, by first | trivial | simp, hle⟩
    simp -dsimp -implicitDefEqProofs (disch := first | omega | assumption | (simp only [Option.isSome_some, Qt0]; done) | (simp only [UInt64.reduceToNat, UInt32.reduceToNat, UInt8.reduceToNat, List.length_cons, List.length_nil, List.length_append, Int.toNat_natCast] <;> omega) | fail) only [Nat.reduceLT, Nat.reduceLeDiff, Nat.reduceEqDiff, ↓reduceIte, Int.reduceLT, Int.reduceLE, Int.reduceToNat, Int.reduceEq, Int.reduceNe, Nat.reduceAdd, UInt8.reduceOfNat, UInt16.reduceOfNat, UInt32.reduceOfNat, UInt64.reduceOfNat, UInt64.reduceToNat, UInt32.reduceToNat, UInt16.reduceToNat, UInt8.reduceToNat, Int.reduceAdd, Int.reduceSub, Int.reduceMul, Nat.reduceMul, Qp0, Qp1, Ql0, Qe0, rd_M, rdM_some, hm, hbw]
    refine hV.out.mono ?_
    rintro r hq ⟨rfl, hz⟩
    obtain rfl := hz.symm
    cases trim v 1099511627776
    · simp -dsimp -implicitDefEqProofs (disch := first | omega | assumption | (simp only [Option.isSome_some, Qt0]; done) | (simp only [UInt64.reduceToNat, UInt32.reduceToNat, UInt8.reduceToNat, List.length_cons, List.length_nil, List.length_append, Int.toNat_natCast] <;> omega) | fail) only [Nat.reduceLT, Nat.reduceLeDiff, Nat.reduceEqDiff, ↓reduceIte, Int.reduceLT, Int.reduceLE, Int.reduceToNat, Int.reduceEq, Int.reduceNe, Nat.reduceAdd, UInt8.reduceOfNat, UInt16.reduceOfNat, UInt32.reduceOfNat, UInt64.reduceOfNat, UInt64.reduceToNat, UInt32.reduceToNat, UInt16.reduceToNat, UInt8.reduceToNat, Int.reduceAdd, Int.reduceSub, Int.reduceMul, Nat.reduceMul, Qp0, Qp1, Ql0, Qe0, rd_M, rdM_some, hm]
      exact ⟨_, PH.Le.refl _, by first | trivial | simp, hle⟩
    have hN := rnum23_any c w0 q
    cases hbc : isN c
    · rw [hbc] at hN
      have hN := Lib.hid hN
      simp -dsimp -implicitDefEqProofs (disch := first | omega | assumption | (simp only [Option.isSome_some, Qt0]; done) | (simp only [UInt64.reduceToNat, UInt32.reduceToNat, UInt8.reduceToNat, List.length_cons, List.length_nil, List.length_append, Int.toNat_natCast] <;> omega) | fail) only [Nat.reduceLT, Nat.reduceLeDiff, Nat.reduceEqDiff, ↓reduceIte, Int.reduceLT, Int.reduceLE, Int.reduceToNat, Int.reduceEq, Int.reduceNe, Nat.reduceAdd, UInt8.reduceOfNat, UInt16.reduceOfNat, UInt32.reduceOfNat, UInt64.reduceOfNat, UInt64.reduceToNat, UInt32.reduceToNat, UInt16.reduceToNat, UInt8.reduceToNat, Int.reduceAdd, Int.reduceSub, Int.reduceMul, Nat.reduceMul, Qp0, Qp1, Ql0, Qe0, rd_M, rdM_some, hm]
      refine hN.out.mono ?_
      rintro v hq ⟨rfl, hz⟩
      obtain rfl := hz.symm
      simp -dsimp -implicitDefEqProofs (disch := first | omega | assumption | (simp only [Option.isSome_some, Qt0]; done) | (simp only [UInt64.reduceToNat, UInt32.reduceToNat, UInt8.reduceToNat, List.length_cons, List.length_nil, List.length_append, Int.toNat_natCast] <;> omega) | fail) only [Nat.reduceLT, Nat.reduceLeDiff, Nat.reduceEqDiff, ↓reduceIte, Int.reduceLT, Int.reduceLE, Int.reduceToNat, Int.reduceEq, Int.reduceNe, Nat.reduceAdd, UInt8.reduceOfNat, UInt16.reduceOfNat, UInt32.reduceOfNat, UInt64.reduceOfNat, UInt64.reduceToNat, UInt32.reduceToNat, UInt16.reduceToNat, UInt8.reduceToNat, Int.reduceAdd, Int.reduceSub, Int.reduceMul, Nat.reduceMul, Qp0, Qp1, Ql0, Qe0, rd_M, rdM_some, hm]
      exact ⟨_, PH.Le.refl _, by first | trivial | simp, hle⟩
    rw [hbc] at hN
    have hN := Lib.hid hN
    simp -dsimp -implicitDefEqProofs (disch := first | omega | assumption | (simp only [Option.isSome_some, Qt0]; done) | (simp only [UInt64.reduceToNat, UInt32.reduceToNat, UInt8.reduceToNat, List.length_cons, List.length_nil, List.length_append, Int.toNat_natCast] <;> omega) | fail) only [Nat.reduceLT, Nat.reduceLeDiff, Nat.reduceEqDiff, ↓reduceIte, Int.reduceLT, Int.reduceLE, Int.reduceToNat, Int.reduceEq, Int.reduceNe, Nat.reduceAdd, UInt8.reduceOfNat, UInt16.reduceOfNat, UInt32.reduceOfNat, UInt64.reduceOfNat, UInt64.reduceToNat, UInt32.reduceToNat, UInt16.reduceToNat, UInt8.reduceToNat, Int.reduceAdd, Int.reduceSub, Int.reduceMul, Nat.reduceMul, Qp0, Qp1, Ql0, Qe0, rd_M, rdM_some, hm]
    refine hN.out.mono ?_
    rintro v hq ⟨rfl, hz⟩
    obtain rfl := hz.symm
    obtain ⟨ge, hge⟩ : ∃ b, decide ((e.length : Int) > 0) = b := ⟨_, rfl⟩
    try rw [hge]
    obtain ⟨nx, hnx⟩ : ∃ b, decide (¬ x = 0) = b := ⟨_, rfl⟩
    try rw [hnx]
    cases ge
    rotate_left
    · simp -dsimp -implicitDefEqProofs (disch := first | omega | assumption | (simp only [Option.isSome_some, Qt0]; done) | (simp only [UInt64.reduceToNat, UInt32.reduceToNat, UInt8.reduceToNat, List.length_cons, List.length_nil, List.length_append, Int.toNat_natCast] <;> omega) | fail) only [Nat.reduceLT, Nat.reduceLeDiff, Nat.reduceEqDiff, ↓reduceIte, Int.reduceLT, Int.reduceLE, Int.reduceToNat, Int.reduceEq, Int.reduceNe, Nat.reduceAdd, UInt8.reduceOfNat, UInt16.reduceOfNat, UInt32.reduceOfNat, UInt64.reduceOfNat, UInt64.reduceToNat, UInt32.reduceToNat, UInt16.reduceToNat, UInt8.reduceToNat, Int.reduceAdd, Int.reduceSub, Int.reduceMul, Nat.reduceMul, Qp0, Qp1, Ql0, Qe0, rd_M, rdM_some, hm, hge]
      exact ⟨_, PH.Le.refl _, by first | trivial | simp, hle⟩
    cases nx
    rotate_left
    · simp -dsimp -implicitDefEqProofs (disch := first | omega | assumption | (simp only [Option.isSome_some, Qt0]; done) | (simp only [UInt64.reduceToNat, UInt32.reduceToNat, UInt8.reduceToNat, List.length_cons, List.length_nil, List.length_append, Int.toNat_natCast] <;> omega) | fail) only [Nat.reduceLT, Nat.reduceLeDiff, Nat.reduceEqDiff, ↓reduceIte, Int.reduceLT, Int.reduceLE, Int.reduceToNat, Int.reduceEq, Int.reduceNe, Nat.reduceAdd, UInt8.reduceOfNat, UInt16.reduceOfNat, UInt32.reduceOfNat, UInt64.reduceOfNat, UInt64.reduceToNat, UInt32.reduceToNat, UInt16.reduceToNat, UInt8.reduceToNat, Int.reduceAdd, Int.reduceSub, Int.reduceMul, Nat.reduceMul, Qp0, Qp1, Ql0, Qe0, rd_M, rdM_some, hm, hge, hnx]
      exact ⟨_, PH.Le.refl _, by first | trivial | simp, hle⟩
    simp -dsimp -implicitDefEqProofs (disch := first | omega | assumption | (simp only [Option.isSome_some, Qt0]; done) | (simp only [UInt64.reduceToNat, UInt32.reduceToNat, UInt8.reduceToNat, List.length_cons, List.length_nil, List.length_append, Int.toNat_natCast] <;> omega) | fail) only [Nat.reduceLT, Nat.reduceLeDiff, Nat.reduceEqDiff, ↓reduceIte, Int.reduceLT, Int.reduceLE, Int.reduceToNat, Int.reduceEq, Int.reduceNe, Nat.reduceAdd, UInt8.reduceOfNat, UInt16.reduceOfNat, UInt32.reduceOfNat, UInt64.reduceOfNat, UInt64.reduceToNat, UInt32.reduceToNat, UInt16.reduceToNat, UInt8.reduceToNat, Int.reduceAdd, Int.reduceSub, Int.reduceMul, Nat.reduceMul, Qp0, Qp1, Ql0, Qe0, rd_M, rdM_some, hm, hge, hnx]
    exact ⟨_, PH.Le.refl _, by first | trivial | simp, hle⟩
  have e2' : decide (k = 2) = false := decide_eq_false k2
  by_cases k3 : k = 3
  · subst k3
    rw [rightM_3, len0_gt e, eq0_ne x]
    cases hbt : isN t
    · have hT := rnum23_any t w0 q
      rw [hbt] at hT
      have hT := Lib.hid hT
      obtain ⟨bw, hbw⟩ : ∃ b, decide ((w.length : Int) > 0) = b := ⟨_, rfl⟩
      try rw [hbw]
      obtain ⟨bv, hbv⟩ : ∃ b, decide ((v.length : Int) > 0) = b := ⟨_, rfl⟩
      try rw [hbv]
      obtain ⟨bc, hbc⟩ : ∃ b, decide (¬ c = 0) = b := ⟨_, rfl⟩
      try rw [hbc]
      obtain ⟨ge, hge⟩ : ∃ b, decide ((e.length : Int) > 0) = b := ⟨_, rfl⟩
      try rw [hge]
      obtain ⟨nx, hnx⟩ : ∃ b, decide (¬ x = 0) = b := ⟨_, rfl⟩
      try rw [hnx]
      cases bw
      rotate_left
      · simp -dsimp -implicitDefEqProofs (disch := first | omega | assumption | (simp only [Option.isSome_some, Qt0]; done) | (simp only [UInt64.reduceToNat, UInt32.reduceToNat, UInt8.reduceToNat, List.length_cons, List.length_nil, List.length_append, Int.toNat_natCast] <;> omega) | fail) only [Nat.reduceLT, Nat.reduceLeDiff, Nat.reduceEqDiff, ↓reduceIte, Int.reduceLT, Int.reduceLE, Int.reduceToNat, Int.reduceEq, Int.reduceNe, Nat.reduceAdd, UInt8.reduceOfNat, UInt16.reduceOfNat, UInt32.reduceOfNat, UInt64.reduceOfNat, UInt64.reduceToNat, UInt32.reduceToNat, UInt16.reduceToNat, UInt8.reduceToNat, Int.reduceAdd, Int.reduceSub, Int.reduceMul, Nat.reduceMul, Qp0, Qp1, Ql0, Qe0, rd_M, rdM_some, hm, hbw]
        exact ⟨_, PH.Le.refl _, by first | trivial | simp, hle⟩
      cases bv
      rotate_left
      · simp -dsimp -implicitDefEqProofs (disch := first | omega | assumption | (simp only [Option.isSome_some, Qt0]; done) | (simp only [UInt64.reduceToNat, UInt32.reduceToNat, UInt8.reduceToNat, List.length_cons, List.length_nil, List.length_append, Int.toNat_natCast] <;> omega) | fail) only [Nat.reduceLT, Nat.reduceLeDiff, Nat.reduceEqDiff, ↓reduceIte, Int.reduceLT, Int.reduceLE, Int.reduceToNat, Int.reduceEq, Int.reduceNe, Nat.reduceAdd, UInt8.reduceOfNat, UInt16.reduceOfNat, UInt32.reduceOfNat, UInt64.reduceOfNat, UInt64.reduceToNat, UInt32.reduceToNat, UInt16.reduceToNat, UInt8.reduceToNat, Int.reduceAdd, Int.reduceSub, Int.reduceMul, Nat.reduceMul, Qp0, Qp1, Ql0, Qe0, rd_M, rdM_some, hm, hbw, hbv]
        exact ⟨_, PH.Le.refl _, by first | trivial | simp, hle⟩
      cases bc
      rotate_left
      · simp -dsimp -implicitDefEqProofs (disch := first | omega | assumption | (simp only [Option.isSome_some, Qt0]; done) | (simp only [UInt64.reduceToNat, UInt32.reduceToNat, UInt8.reduceToNat, List.length_cons, List.length_nil, List.length_append, Int.toNat_natCast] <;> omega) | fail) only [Nat.reduceLT, Nat.reduceLeDiff, Nat.reduceEqDiff, ↓reduceIte, Int.reduceLT, Int.reduceLE, Int.reduceToNat, Int.reduceEq, Int.reduceNe, Nat.reduceAdd, UInt8.reduceOfNat, UInt16.reduceOfNat, UInt32.reduceOfNat, UInt64.reduceOfNat, UInt64.reduceToNat, UInt32.reduceToNat, UInt16.reduceToNat, UInt8.reduceToNat, Int.reduceAdd, Int.reduceSub, Int.reduceMul, Nat.reduceMul, Qp0, Qp1, Ql0, Qe0, rd_M, rdM_some, hm, hbw, hbv, hbc]
        exact ⟨_, PH.Le.refl _, by first | trivial | simp, hle⟩
      cases ge
      rotate_left
      · simp -dsimp -implicitDefEqProofs (disch := first | omega | assumption | (simp only [Option.isSome_some, Qt0]; done) | (simp only [UInt64.reduceToNat, UInt32.reduceToNat, UInt8.reduceToNat, List.length_cons, List.length_nil, List.length_append, Int.toNat_natCast] <;> omega) | fail) only [Nat.reduceLT, Nat.reduceLeDiff, Nat.reduceEqDiff, ↓reduceIte, Int.reduceLT, Int.reduceLE, Int.reduceToNat, Int.reduceEq, Int.reduceNe, Nat.reduceAdd, UInt8.reduceOfNat, UInt16.reduceOfNat, UInt32.reduceOfNat, UInt64.reduceOfNat, UInt64.reduceToNat, UInt32.reduceToNat, UInt16.reduceToNat, UInt8.reduceToNat, Int.reduceAdd, Int.reduceSub, Int.reduceMul, Nat.reduceMul, Qp0, Qp1, Ql0, Qe0, rd_M, rdM_some, hm, hbw, hbv, hbc, hge]
        exact ⟨_, PH.Le.refl _, by first | trivial | simp, hle⟩
      cases nx
      rotate_left
      · simp -dsimp -implicitDefEqProofs (disch := first | omega | assumption | (simp only [Option.isSome_some, Qt0]; done) | (simp only [UInt64.reduceToNat, UInt32.reduceToNat, UInt8.reduceToNat, List.length_cons, List.length_nil, List.length_append, Int.toNat_natCast] <;> omega) | fail) only [Nat.reduceLT, Nat.reduceLeDiff, Nat.reduceEqDiff, ↓reduceIte, Int.reduceLT, Int.reduceLE, Int.reduceToNat, Int.reduceEq, Int.reduceNe, Nat.reduceAdd, UInt8.reduceOfNat, UInt16.reduceOfNat, UInt32.reduceOfNat, UInt64.reduceOfNat, UInt64.reduceToNat, UInt32.reduceToNat, UInt16.reduceToNat, UInt8.reduceToNat, Int.reduceAdd, Int.reduceSub, Int.reduceMul, Nat.reduceMul, Qp0, Qp1, Ql0, Qe0, rd_M, rdM_some, hm, hbw, hbv, hbc, hge, hnx]
        exact ⟨_, PH.Le.refl _, by first | trivial | simp, hle⟩
      simp -dsimp -implicitDefEqProofs (disch := first | omega | assumption | (simp only [Option.isSome_some, Qt0]; done) | (simp only [UInt64.reduceToNat, UInt32.reduceToNat, UInt8.reduceToNat, List.length_cons, List.length_nil, List.length_append, Int.toNat_natCast] <;> omega) | fail) only [Nat.reduceLT, Nat.reduceLeDiff, Nat.reduceEqDiff, ↓reduceIte, Int.reduceLT, Int.reduceLE, Int.reduceToNat, Int.reduceEq, Int.reduceNe, Nat.reduceAdd, UInt8.reduceOfNat, UInt16.reduceOfNat, UInt32.reduceOfNat, UInt64.reduceOfNat, UInt64.reduceToNat, UInt32.reduceToNat, UInt16.reduceToNat, UInt8.reduceToNat, Int.reduceAdd, Int.reduceSub, Int.reduceMul, Nat.reduceMul, Qp0, Qp1, Ql0, Qe0, rd_M, rdM_some, hm, hbw, hbv, hbc, hge, hnx]
      refine hT.out.mono ?_
      rintro v hq ⟨rfl, hz⟩
      obtain rfl := hz.symm
      simp -dsimp -implicitDefEqProofs (disch := first | omega | assumption | (simp only [Option.isSome_some, Qt0]; done) | (simp only [UInt64.reduceToNat, UInt32.reduceToNat, UInt8.reduceToNat, List.length_cons, List.length_nil, List.length_append, Int.toNat_natCast] <;> omega) | fail) only [Nat.reduceLT, Nat.reduceLeDiff, Nat.reduceEqDiff, ↓reduceIte, Int.reduceLT, Int.reduceLE, Int.reduceToNat, Int.reduceEq, Int.reduceNe, Nat.reduceAdd, UInt8.reduceOfNat, UInt16.reduceOfNat, UInt32.reduceOfNat, UInt64.reduceOfNat, UInt64.reduceToNat, UInt32.reduceToNat, UInt16.reduceToNat, UInt8.reduceToNat, Int.reduceAdd, Int.reduceSub, Int.reduceMul, Nat.reduceMul, Qp0, Qp1, Ql0, Qe0, rd_M, rdM_some, hm]
      exact ⟨_, PH.Le.refl _, by first | trivial | simp, hle⟩
    · have hT := rnum23_any t w0 q
      rw [hbt] at hT
      have hT := Lib.hid hT
      obtain ⟨bw, hbw⟩ : ∃ b, decide ((w.length : Int) > 0) = b := ⟨_, rfl⟩
      try rw [hbw]
      obtain ⟨bv, hbv⟩ : ∃ b, decide ((v.length : Int) > 0) = b := ⟨_, rfl⟩
      try rw [hbv]
      obtain ⟨bc, hbc⟩ : ∃ b, decide (¬ c = 0) = b := ⟨_, rfl⟩
      try rw [hbc]
      obtain ⟨ge, hge⟩ : ∃ b, decide ((e.length : Int) > 0) = b := ⟨_, rfl⟩
      try rw [hge]
      obtain ⟨nx, hnx⟩ : ∃ b, decide (¬ x = 0) = b := ⟨_, rfl⟩
      try rw [hnx]
      cases bw
      rotate_left
      · simp -dsimp -implicitDefEqProofs (disch := first | omega | assumption | (simp only [Option.isSome_some, Qt0]; done) | (simp only [UInt64.reduceToNat, UInt32.reduceToNat, UInt8.reduceToNat, List.length_cons, List.length_nil, List.length_append, Int.toNat_natCast] <;> omega) | fail) only [Nat.reduceLT, Nat.reduceLeDiff, Nat.reduceEqDiff, ↓reduceIte, Int.reduceLT, Int.reduceLE, Int.reduceToNat, Int.reduceEq, Int.reduceNe, Nat.reduceAdd, UInt8.reduceOfNat, UInt16.reduceOfNat, UInt32.reduceOfNat, UInt64.reduceOfNat, UInt64.reduceToNat, UInt32.reduceToNat, UInt16.reduceToNat, UInt8.reduceToNat, Int.reduceAdd, Int.reduceSub, Int.reduceMul, Nat.reduceMul, Qp0, Qp1, Ql0, Qe0, rd_M, rdM_some, hm, hbw]
        exact ⟨_, PH.Le.refl _, by first | trivial | simp, hle⟩
      cases bv
      rotate_left
      · simp -dsimp -implicitDefEqProofs (disch := first | omega | assumption | (simp only [Option.isSome_some, Qt0]; done) | (simp only [UInt64.reduceToNat, UInt32.reduceToNat, UInt8.reduceToNat, List.length_cons, List.length_nil, List.length_append, Int.toNat_natCast] <;> omega) | fail) only [Nat.reduceLT, Nat.reduceLeDiff, Nat.reduceEqDiff, ↓reduceIte, Int.reduceLT, Int.reduceLE, Int.reduceToNat, Int.reduceEq, Int.reduceNe, Nat.reduceAdd, UInt8.reduceOfNat, UInt16.reduceOfNat, UInt32.reduceOfNat, UInt64.reduceOfNat, UInt64.reduceToNat, UInt32.reduceToNat, UInt16.reduceToNat, UInt8.reduceToNat, Int.reduceAdd, Int.reduceSub, Int.reduceMul, Nat.reduceMul, Qp0, Qp1, Ql0, Qe0, rd_M, rdM_some, hm, hbw, hbv]
        exact ⟨_, PH.Le.refl _, by first | trivial | simp, hle⟩
      cases bc
      rotate_left
      · simp -dsimp -implicitDefEqProofs (disch := first | omega | assumption | (simp only [Option.isSome_some, Qt0]; done) | (simp only [UInt64.reduceToNat, UInt32.reduceToNat, UInt8.reduceToNat, List.length_cons, List.length_nil, List.length_append, Int.toNat_natCast] <;> omega) | fail) only [Nat.reduceLT, Nat.reduceLeDiff, Nat.reduceEqDiff, ↓reduceIte, Int.reduceLT, Int.reduceLE, Int.reduceToNat, Int.reduceEq, Int.reduceNe, Nat.reduceAdd, UInt8.reduceOfNat, UInt16.reduceOfNat, UInt32.reduceOfNat, UInt64.reduceOfNat, UInt64.reduceToNat, UInt32.reduceToNat, UInt16.reduceToNat, UInt8.reduceToNat, Int.reduceAdd, Int.reduceSub, Int.reduceMul, Nat.reduceMul, Qp0, Qp1, Ql0, Qe0, rd_M, rdM_some, hm, hbw, hbv, hbc]
        exact ⟨_, PH.Le.refl _, by first | trivial | simp, hle⟩
      cases ge
      rotate_left
      · simp -dsimp -implicitDefEqProofs (disch := first | omega | assumption | (simp only [Option.isSome_some, Qt0]; done) | (simp only [UInt64.reduceToNat, UInt32.reduceToNat, UInt8.reduceToNat, List.length_cons, List.length_nil, List.length_append, Int.toNat_natCast] <;> omega) | fail) only [Nat.reduceLT, Nat.reduceLeDiff, Nat.reduceEqDiff, ↓reduceIte, Int.reduceLT, Int.reduceLE, Int.reduceToNat, Int.reduceEq, Int.reduceNe, Nat.reduceAdd, UInt8.reduceOfNat, UInt16.reduceOfNat, UInt32.reduceOfNat, UInt64.reduceOfNat, UInt64.reduceToNat, UInt32.reduceToNat, UInt16.reduceToNat, UInt8.reduceToNat, Int.reduceAdd, Int.reduceSub, Int.reduceMul, Nat.reduceMul, Qp0, Qp1, Ql0, Qe0, rd_M, rdM_some, hm, hbw, hbv, hbc, hge]
        exact ⟨_, PH.Le.refl _, by first | trivial | simp, hle⟩
      cases nx
      rotate_left
      · simp -dsimp -implicitDefEqProofs (disch := first | omega | assumption | (simp only [Option.isSome_some, Qt0]; done) | (simp only [UInt64.reduceToNat, UInt32.reduceToNat, UInt8.reduceToNat, List.length_cons, List.length_nil, List.length_append, Int.toNat_natCast] <;> omega) | fail) only [Nat.reduceLT, Nat.reduceLeDiff, Nat.reduceEqDiff, ↓reduceIte, Int.reduceLT, Int.reduceLE, Int.reduceToNat, Int.reduceEq, Int.reduceNe, Nat.reduceAdd, UInt8.reduceOfNat, UInt16.reduceOfNat, UInt32.reduceOfNat, UInt64.reduceOfNat, UInt64.reduceToNat, UInt32.reduceToNat, UInt16.reduceToNat, UInt8.reduceToNat, Int.reduceAdd, Int.reduceSub, Int.reduceMul, Nat.reduceMul, Qp0, Qp1, Ql0, Qe0, rd_M, rdM_some, hm, hbw, hbv, hbc, hge, hnx]
        exact ⟨_, PH.Le.refl _, by first | trivial | simp, hle⟩
      simp -dsimp -implicitDefEqProofs (disch := first | omega | assumption | (simp only [Option.isSome_some, Qt0]; done) | (simp only [UInt64.reduceToNat, UInt32.reduceToNat, UInt8.reduceToNat, List.length_cons, List.length_nil, List.length_append, Int.toNat_natCast] <;> omega) | fail) only [Nat.reduceLT, Nat.reduceLeDiff, Nat.reduceEqDiff, ↓reduceIte, Int.reduceLT, Int.reduceLE, Int.reduceToNat, Int.reduceEq, Int.reduceNe, Nat.reduceAdd, UInt8.reduceOfNat, UInt16.reduceOfNat, UInt32.reduceOfNat, UInt64.reduceOfNat, UInt64.reduceToNat, UInt32.reduceToNat, UInt16.reduceToNat, UInt8.reduceToNat, Int.reduceAdd, Int.reduceSub, Int.reduceMul, Nat.reduceMul, Qp0, Qp1, Ql0, Qe0, rd_M, rdM_some, hm, hbw, hbv, hbc, hge, hnx]
      refine hT.out.mono ?_
      rintro v hq ⟨rfl, hz⟩
      obtain rfl := hz.symm
      simp -dsimp -implicitDefEqProofs (disch := first | omega | assumption | (simp only [Option.isSome_some, Qt0]; done) | (simp only [UInt64.reduceToNat, UInt32.reduceToNat, UInt8.reduceToNat, List.length_cons, List.length_nil, List.length_append, Int.toNat_natCast] <;> omega) | fail) only [Nat.reduceLT, Nat.reduceLeDiff, Nat.reduceEqDiff, ↓reduceIte, Int.reduceLT, Int.reduceLE, Int.reduceToNat, Int.reduceEq, Int.reduceNe, Nat.reduceAdd, UInt8.reduceOfNat, UInt16.reduceOfNat, UInt32.reduceOfNat, UInt64.reduceOfNat, UInt64.reduceToNat, UInt32.reduceToNat, UInt16.reduceToNat, UInt8.reduceToNat, Int.reduceAdd, Int.reduceSub, Int.reduceMul, Nat.reduceMul, Qp0, Qp1, Ql0, Qe0, rd_M, rdM_some, hm]
      exact ⟨_, PH.Le.refl _, by first | trivial | simp, hle⟩
  by_cases k4 : k = 4
  · subst k4
    rw [rightM_4]
    have hT := Lib.hid (rnum23_any t w0 q)
    obtain ⟨bw, hbw⟩ : ∃ b, decide ((w.length : Int) > 0) = b := ⟨_, rfl⟩
    try rw [hbw]
    obtain ⟨bv, hbv⟩ : ∃ b, decide ((v.length : Int) > 0) = b := ⟨_, rfl⟩
    try rw [hbv]
    obtain ⟨bc, hbc⟩ : ∃ b, decide (¬ c = 0) = b := ⟨_, rfl⟩
    try rw [hbc]
    cases bw
    rotate_left
    · simp -dsimp -implicitDefEqProofs (disch := first | omega | assumption | (simp only [Option.isSome_some, Qt0]; done) | (simp only [UInt64.reduceToNat, UInt32.reduceToNat, UInt8.reduceToNat, List.length_cons, List.length_nil, List.length_append, Int.toNat_natCast] <;> omega) | fail) only [Nat.reduceLT, Nat.reduceLeDiff, Nat.reduceEqDiff, ↓reduceIte, Int.reduceLT, Int.reduceLE, Int.reduceToNat, Int.reduceEq, Int.reduceNe, Nat.reduceAdd, UInt8.reduceOfNat, UInt16.reduceOfNat, UInt32.reduceOfNat, UInt64.reduceOfNat, UInt64.reduceToNat, UInt32.reduceToNat, UInt16.reduceToNat, UInt8.reduceToNat, Int.reduceAdd, Int.reduceSub, Int.reduceMul, Nat.reduceMul, Qp0, Qp1, Ql0, Qe0, rd_M, rdM_some, hm, hbw]
      exact ⟨_, PH.Le.refl _, by first | trivial | simp, hle⟩
    cases bv
    rotate_left
    · simp -dsimp -implicitDefEqProofs (disch := first | omega | assumption | (simp only [Option.isSome_some, Qt0]; done) | (simp only [UInt64.reduceToNat, UInt32.reduceToNat, UInt8.reduceToNat, List.length_cons, List.length_nil, List.length_append, Int.toNat_natCast] <;> omega) | fail) only [Nat.reduceLT, Nat.reduceLeDiff, Nat.reduceEqDiff, ↓reduceIte, Int.reduceLT, Int.reduceLE, Int.reduceToNat, Int.reduceEq, Int.reduceNe, Nat.reduceAdd, UInt8.reduceOfNat, UInt16.reduceOfNat, UInt32.reduceOfNat, UInt64.reduceOfNat, UInt64.reduceToNat, UInt32.reduceToNat, UInt16.reduceToNat, UInt8.reduceToNat, Int.reduceAdd, Int.reduceSub, Int.reduceMul, Nat.reduceMul, Qp0, Qp1, Ql0, Qe0, rd_M, rdM_some, hm, hbw, hbv]
      exact ⟨_, PH.Le.refl _, by first | trivial | simp, hle⟩
    cases bc
    rotate_left
    · simp -dsimp -implicitDefEqProofs (disch := first | omega | assumption | (simp only [Option.isSome_some, Qt0]; done) | (simp only [UInt64.reduceToNat, UInt32.reduceToNat, UInt8.reduceToNat, List.length_cons, List.length_nil, List.length_append, Int.toNat_natCast] <;> omega) | fail) only [Nat.reduceLT, Nat.reduceLeDiff, Nat.reduceEqDiff, ↓reduceIte, Int.reduceLT, Int.reduceLE, Int.reduceToNat, Int.reduceEq, Int.reduceNe, Nat.reduceAdd, UInt8.reduceOfNat, UInt16.reduceOfNat, UInt32.reduceOfNat, UInt64.reduceOfNat, UInt64.reduceToNat, UInt32.reduceToNat, UInt16.reduceToNat, UInt8.reduceToNat, Int.reduceAdd, Int.reduceSub, Int.reduceMul, Nat.reduceMul, Qp0, Qp1, Ql0, Qe0, rd_M, rdM_some, hm, hbw, hbv, hbc]
      exact ⟨_, PH.Le.refl _, by first | trivial | simp, hle⟩
    simp -dsimp -implicitDefEqProofs (disch := first | omega | assumption | (simp only [Option.isSome_some, Qt0]; done) | (simp only [UInt64.reduceToNat, UInt32.reduceToNat, UInt8.reduceToNat, List.length_cons, List.length_nil, List.length_append, Int.toNat_natCast] <;> omega) | fail) only [Nat.reduceLT, Nat.reduceLeDiff, Nat.reduceEqDiff, ↓reduceIte, Int.reduceLT, Int.reduceLE, Int.reduceToNat, Int.reduceEq, Int.reduceNe, Nat.reduceAdd, UInt8.reduceOfNat, UInt16.reduceOfNat, UInt32.reduceOfNat, UInt64.reduceOfNat, UInt64.reduceToNat, UInt32.reduceToNat, UInt16.reduceToNat, UInt8.reduceToNat, Int.reduceAdd, Int.reduceSub, Int.reduceMul, Nat.reduceMul, Qp0, Qp1, Ql0, Qe0, rd_M, rdM_some, hm, hbw, hbv, hbc]
    refine hE.out.mono ?_
    rintro r hq ⟨rfl, hz⟩
    obtain rfl := hz.symm
    cases rightE e
    · simp -dsimp -implicitDefEqProofs (disch := first | omega | assumption | (simp only [Option.isSome_some, Qt0]; done) | (simp only [UInt64.reduceToNat, UInt32.reduceToNat, UInt8.reduceToNat, List.length_cons, List.length_nil, List.length_append, Int.toNat_natCast] <;> omega) | fail) only [Nat.reduceLT, Nat.reduceLeDiff, Nat.reduceEqDiff, ↓reduceIte, Int.reduceLT, Int.reduceLE, Int.reduceToNat, Int.reduceEq, Int.reduceNe, Nat.reduceAdd, UInt8.reduceOfNat, UInt16.reduceOfNat, UInt32.reduceOfNat, UInt64.reduceOfNat, UInt64.reduceToNat, UInt32.reduceToNat, UInt16.reduceToNat, UInt8.reduceToNat, Int.reduceAdd, Int.reduceSub, Int.reduceMul, Nat.reduceMul, Qp0, Qp1, Ql0, Qe0, rd_M, rdM_some, hm]
      exact ⟨_, PH.Le.refl _, by first | trivial | simp, hle⟩
    have hN := rnum23_any x w0 q
    cases hbc : isN x
    · rw [hbc] at hN
      have hN := Lib.hid hN
      simp -dsimp -implicitDefEqProofs (disch := first | omega | assumption | (simp only [Option.isSome_some, Qt0]; done) | (simp only [UInt64.reduceToNat, UInt32.reduceToNat, UInt8.reduceToNat, List.length_cons, List.length_nil, List.length_append, Int.toNat_natCast] <;> omega) | fail) only [Nat.reduceLT, Nat.reduceLeDiff, Nat.reduceEqDiff, ↓reduceIte, Int.reduceLT, Int.reduceLE, Int.reduceToNat, Int.reduceEq, Int.reduceNe, Nat.reduceAdd, UInt8.reduceOfNat, UInt16.reduceOfNat, UInt32.reduceOfNat, UInt64.reduceOfNat, UInt64.reduceToNat, UInt32.reduceToNat, UInt16.reduceToNat, UInt8.reduceToNat, Int.reduceAdd, Int.reduceSub, Int.reduceMul, Nat.reduceMul, Qp0, Qp1, Ql0, Qe0, rd_M, rdM_some, hm]
      refine hN.out.mono ?_
      rintro v hq ⟨rfl, hz⟩
      obtain rfl := hz.symm
      simp -dsimp -implicitDefEqProofs (disch := first | omega | assumption | (simp only [Option.isSome_some, Qt0]; done) | (simp only [UInt64.reduceToNat, UInt32.reduceToNat, UInt8.reduceToNat, List.length_cons, List.length_nil, List.length_append, Int.toNat_natCast] <;> omega) | fail) only [Nat.reduceLT, Nat.reduceLeDiff, Nat.reduceEqDiff, ↓reduceIte, Int.reduceLT, Int.reduceLE, Int.reduceToNat, Int.reduceEq, Int.reduceNe, Nat.reduceAdd, UInt8.reduceOfNat, UInt16.reduceOfNat, UInt32.reduceOfNat, UInt64.reduceOfNat, UInt64.reduceToNat, UInt32.reduceToNat, UInt16.reduceToNat, UInt8.reduceToNat, Int.reduceAdd, Int.reduceSub, Int.reduceMul, Nat.reduceMul, Qp0, Qp1, Ql0, Qe0, rd_M, rdM_some, hm]
      exact ⟨_, PH.Le.refl _, by first | trivial | simp, hle⟩
    rw [hbc] at hN
    have hN := Lib.hid hN
    simp -dsimp -implicitDefEqProofs (disch := first | omega | assumption | (simp only [Option.isSome_some, Qt0]; done) | (simp only [UInt64.reduceToNat, UInt32.reduceToNat, UInt8.reduceToNat, List.length_cons, List.length_nil, List.length_append, Int.toNat_natCast] <;> omega) | fail) only [Nat.reduceLT, Nat.reduceLeDiff, Nat.reduceEqDiff, ↓reduceIte, Int.reduceLT, Int.reduceLE, Int.reduceToNat, Int.reduceEq, Int.reduceNe, Nat.reduceAdd, UInt8.reduceOfNat, UInt16.reduceOfNat, UInt32.reduceOfNat, UInt64.reduceOfNat, UInt64.reduceToNat, UInt32.reduceToNat, UInt16.reduceToNat, UInt8.reduceToNat, Int.reduceAdd, Int.reduceSub, Int.reduceMul, Nat.reduceMul, Qp0, Qp1, Ql0, Qe0, rd_M, rdM_some, hm]
    refine hN.out.mono ?_
    rintro v hq ⟨rfl, hz⟩
    obtain rfl := hz.symm
    simp -dsimp -implicitDefEqProofs (disch := first | omega | assumption | (simp only [Option.isSome_some, Qt0]; done) | (simp only [UInt64.reduceToNat, UInt32.reduceToNat, UInt8.reduceToNat, List.length_cons, List.length_nil, List.length_append, Int.toNat_natCast] <;> omega) | fail) only [Nat.reduceLT, Nat.reduceLeDiff, Nat.reduceEqDiff, ↓reduceIte, Int.reduceLT, Int.reduceLE, Int.reduceToNat, Int.reduceEq, Int.reduceNe, Nat.reduceAdd, UInt8.reduceOfNat, UInt16.reduceOfNat, UInt32.reduceOfNat, UInt64.reduceOfNat, UInt64.reduceToNat, UInt32.reduceToNat, UInt16.reduceToNat, UInt8.reduceToNat, Int.reduceAdd, Int.reduceSub, Int.reduceMul, Nat.reduceMul, Qp0, Qp1, Ql0, Qe0, rd_M, rdM_some, hm]
    refine hT.out.mono ?_
    rintro v hq ⟨rfl, hz⟩
    obtain rfl := hz.symm
    simp -dsimp -implicitDefEqProofs (disch := first | omega | assumption | (simp only [Option.isSome_some, Qt0]; done) | (simp only [UInt64.reduceToNat, UInt32.reduceToNat, UInt8.reduceToNat, List.length_cons, List.length_nil, List.length_append, Int.toNat_natCast] <;> omega) | fail) only [Nat.reduceLT, Nat.reduceLeDiff, Nat.reduceEqDiff, ↓reduceIte, Int.reduceLT, Int.reduceLE, Int.reduceToNat, Int.reduceEq, Int.reduceNe, Nat.reduceAdd, UInt8.reduceOfNat, UInt16.reduceOfNat, UInt32.reduceOfNat, UInt64.reduceOfNat, UInt64.reduceToNat, UInt32.reduceToNat, UInt16.reduceToNat, UInt8.reduceToNat, Int.reduceAdd, Int.reduceSub, Int.reduceMul, Nat.reduceMul, Qp0, Qp1, Ql0, Qe0, rd_M, rdM_some, hm]
    exact ⟨_, PH.Le.refl _, by first | trivial | simp, hle⟩
  rw [rightM_5 w v c t x e k1 k2 k3 k4]
  by_cases k0 : k < 1
  · have e0 : decide (k < 1) = true := decide_eq_true k0
    simp -dsimp -implicitDefEqProofs (disch := first | omega | assumption | (simp only [Option.isSome_some, Qt0]; done) | (simp only [UInt64.reduceToNat, UInt32.reduceToNat, UInt8.reduceToNat, List.length_cons, List.length_nil, List.length_append, Int.toNat_natCast] <;> omega) | fail) only [Nat.reduceLT, Nat.reduceLeDiff, Nat.reduceEqDiff, ↓reduceIte, Int.reduceLT, Int.reduceLE, Int.reduceToNat, Int.reduceEq, Int.reduceNe, Nat.reduceAdd, UInt8.reduceOfNat, UInt16.reduceOfNat, UInt32.reduceOfNat, UInt64.reduceOfNat, UInt64.reduceToNat, UInt32.reduceToNat, UInt16.reduceToNat, UInt8.reduceToNat, Int.reduceAdd, Int.reduceSub, Int.reduceMul, Nat.reduceMul, Qp0, Qp1, Ql0, Qe0, rd_M, rdM_some, hm, e0]
    exact ⟨_, PH.Le.refl _, by first | trivial | simp, hle⟩
  have e0 : decide (k < 1) = false := decide_eq_false k0
  have e9 : decide (k > 4) = true := decide_eq_true (by omega)
  simp -dsimp -implicitDefEqProofs (disch := first | omega | assumption | (simp only [Option.isSome_some, Qt0]; done) | (simp only [UInt64.reduceToNat, UInt32.reduceToNat, UInt8.reduceToNat, List.length_cons, List.length_nil, List.length_append, Int.toNat_natCast] <;> omega) | fail) only [Nat.reduceLT, Nat.reduceLeDiff, Nat.reduceEqDiff, ↓reduceIte, Int.reduceLT, Int.reduceLE, Int.reduceToNat, Int.reduceEq, Int.reduceNe, Nat.reduceAdd, UInt8.reduceOfNat, UInt16.reduceOfNat, UInt32.reduceOfNat, UInt64.reduceOfNat, UInt64.reduceToNat, UInt32.reduceToNat, UInt16.reduceToNat, UInt8.reduceToNat, Int.reduceAdd, Int.reduceSub, Int.reduceMul, Nat.reduceMul, Qp0, Qp1, Ql0, Qe0, rd_M, rdM_some, hm, e0, e9]
  exact ⟨_, PH.Le.refl _, by first | trivial | simp, hle⟩
end Go.Proofs.Ytdhgmifgjaedbaa


/- A message's bytes; walks: bad, epochs. No condition. -/
namespace Go.Proofs.Ytdhgmifgjaedbaa
set_option linter.unusedVariables false
set_option linter.unusedSimpArgs false
open Go.RowKit Px Wr
def talkT : List UInt8 := [116, 97, 108, 107]
set_option maxRecDepth 20000 in
theorem tbad_any (k : Int) (w0 : World) (h : PH) : PCalls Try.prog w0 18 [.int .i64 k] h fun r h' => (∃ be, r = errV be ∧ h'.m be = some ⟨[str talkT, .int .i64 0, codeV k], 3⟩) ∧ PH.Le h h' := by
  refine PCalls_body Try.func18 (by kernel_rfl) rfl _ Try.ntmps18 (by kernel_rfl) (by kernel_rfl) _ Try.results18 ?_
  simp -dsimp -implicitDefEqProofs (disch := first | omega | assumption | (simp only [Option.isSome_some, Qt0]; done) | (simp only [UInt64.reduceToNat, UInt32.reduceToNat, UInt8.reduceToNat, List.length_cons, List.length_nil, List.length_append, Int.toNat_natCast] <;> omega) | fail) only [Nat.reduceLT, Nat.reduceLeDiff, Nat.reduceEqDiff, ↓reduceIte, Int.reduceLT, Int.reduceLE, Int.reduceToNat, Int.reduceEq, Int.reduceNe, Nat.reduceAdd, UInt8.reduceOfNat, UInt16.reduceOfNat, UInt32.reduceOfNat, UInt64.reduceOfNat, UInt64.reduceToNat, UInt32.reduceToNat, UInt16.reduceToNat, UInt8.reduceToNat, Int.reduceAdd, Int.reduceSub, Int.reduceMul, Nat.reduceMul, Qp0, Qp1, Ql0, Qe0]
  refine (at_any talkT _ _ _ w0 _).mono ?_
  rintro v hq ⟨be, rfl, hbe, rfl⟩
  unfold errV
  simp -dsimp -implicitDefEqProofs (disch := first | omega | assumption | (simp only [Option.isSome_some, Qt0]; done) | (simp only [UInt64.reduceToNat, UInt32.reduceToNat, UInt8.reduceToNat, List.length_cons, List.length_nil, List.length_append, Int.toNat_natCast] <;> omega) | fail) only [Nat.reduceLT, Nat.reduceLeDiff, Nat.reduceEqDiff, ↓reduceIte, Int.reduceLT, Int.reduceLE, Int.reduceToNat, Int.reduceEq, Int.reduceNe, Nat.reduceAdd, UInt8.reduceOfNat, UInt16.reduceOfNat, UInt32.reduceOfNat, UInt64.reduceOfNat, UInt64.reduceToNat, UInt32.reduceToNat, UInt16.reduceToNat, UInt8.reduceToNat, Int.reduceAdd, Int.reduceSub, Int.reduceMul, Nat.reduceMul, Qp0, Qp1, Ql0, Qe0]
  exact ⟨_, PH.Le.refl _, ⟨be, by first | rfl | trivial, by rw [PH.new_m, if_pos rfl]; rfl⟩, (PH.Le.refl _).new _ _ hbe⟩
theorem flat_len_K {α : Type} {g : α → List UInt8} {K : Nat} : ∀ (L : List α), (∀ y ∈ L, (g y).length ≤ K) → (L.flatMap g).length ≤ L.length * K
  | [], _ => by simp
  | a :: L, h => by
    have h1 := flat_len_K L fun y hy => h y (List.mem_cons_of_mem _ hy)
    have h2 := h a (List.mem_cons_self ..)
    rw [List.flatMap_cons, List.length_append, List.length_cons, Nat.add_mul, Nat.one_mul]
    omega
def epB (p : Ep) : List UInt8 := textB p.u ++ numB p.n.toNat
def epsB (L : List Ep) : List UInt8 := numB L.length ++ L.flatMap epB
def wsB (L : List Wt) : List UInt8 := numB L.length ++ L.flatMap fun y => textB (bytesW y)
def bytesM (m : Ms) : List UInt8 := numB m.k.toNat ++
  (if m.k = 1 then wsB m.w else if m.k = 2 then vecB m.v ++ numB m.c.toNat else if m.k = 3 then numB m.t.toNat else epsB m.e ++ (numB m.x.toNat ++ numB m.t.toNat))
theorem epB_len {p : Ep} (h : rightEp p = true) : (epB p).length ≤ 50 := by
  obtain ⟨h1, h2, h3, h4⟩ := rightEp_iff (u := p.u) (n := p.n) |>.1 h
  unfold epB
  rw [List.length_append]
  have := textB_len (y := p.u) (k := 32) h2 (by omega)
  have := numB_len9 (n := p.n.toNat) (by omega)
  omega
section
variable (h0 : PH) (ob : Nat) (w0 : World) (h : PH)
set_option maxRecDepth 20000 in
set_option maxHeartbeats 4000000 in
theorem epochs_any (s : List UInt8) (hs : OS h0 h ob (s, none)) (hsl : s.length ≤ 1000) (C : Option Addr) (c : Nat) (L : List Ep) (hr : Rv w0 h0 C (L.flatMap epL)) (hn : L.length ≤ c) (hE : rightE L = true) (hut : w0.heap.size ≤ h0.top) :
    PCalls Try.prog w0 23 [.pointer (some ⟨ob, 0, none⟩), .slice C L.length c] h fun r h' => OS h0 h' ob (s ++ epsB L, none) := by
  obtain ⟨p1, p2, p3⟩ := rightE_parts hE
  refine PCalls_body Try.func23 (by kernel_rfl) rfl _ Try.ntmps23 (by kernel_rfl) (by kernel_rfl) _ Try.results23 ?_
  have hl9 := numB_len9 (n := L.length) (by omega)
  simp -dsimp -implicitDefEqProofs (disch := first | omega | assumption | (simp only [Option.isSome_some, Qt0]; done) | (simp only [UInt64.reduceToNat, UInt32.reduceToNat, UInt8.reduceToNat, List.length_cons, List.length_nil, List.length_append, Int.toNat_natCast] <;> omega) | fail) only [Nat.reduceLT, Nat.reduceLeDiff, Nat.reduceEqDiff, ↓reduceIte, Int.reduceLT, Int.reduceLE, Int.reduceToNat, Int.reduceEq, Int.reduceNe, Nat.reduceAdd, UInt8.reduceOfNat, UInt16.reduceOfNat, UInt32.reduceOfNat, UInt64.reduceOfNat, UInt64.reduceToNat, UInt32.reduceToNat, UInt16.reduceToNat, UInt8.reduceToNat, Int.reduceAdd, Int.reduceSub, Int.reduceMul, Nat.reduceMul, Qp0, Qp1, Ql0, Qe0]
  refine (num_any h0 ob _ w0 _ hs L.length (by omega)).mono ?_
  intro r h1 hs1
  rw [numM_ok s L.length (by omega) (by omega) (by omega), Int.toNat_natCast] at hs1
  simp -dsimp -implicitDefEqProofs (disch := first | omega | assumption | (simp only [Option.isSome_some, Qt0]; done) | (simp only [UInt64.reduceToNat, UInt32.reduceToNat, UInt8.reduceToNat, List.length_cons, List.length_nil, List.length_append, Int.toNat_natCast] <;> omega) | fail) only [Nat.reduceLT, Nat.reduceLeDiff, Nat.reduceEqDiff, ↓reduceIte, Int.reduceLT, Int.reduceLE, Int.reduceToNat, Int.reduceEq, Int.reduceNe, Nat.reduceAdd, UInt8.reduceOfNat, UInt16.reduceOfNat, UInt32.reduceOfNat, UInt64.reduceOfNat, UInt64.reduceToNat, UInt32.reduceToNat, UInt16.reduceToNat, UInt8.reduceToNat, Int.reduceAdd, Int.reduceSub, Int.reduceMul, Nat.reduceMul, Qp0, Qp1, Ql0, Qe0]
  refine PW_loopL (fun n f h' => ∃ i : Nat, n + i = L.length ∧ f 0 = some (.pointer (some ⟨ob, 0, none⟩)) ∧ f 12 = some (.slice C L.length c) ∧ f 13 = some (.int .i64 L.length) ∧ f 14 = some (.int .i64 i) ∧ OS h0 h' ob (s ++ (numB L.length ++ (L.take i).flatMap epB), none)) (by kernel_rfl) L.length ⟨0, by omega, ?_, ?_, ?_, ?_, by simpa using hs1⟩ ?_
  · simp -dsimp -implicitDefEqProofs (disch := first | omega | assumption | (simp only [Option.isSome_some, Qt0]; done) | (simp only [UInt64.reduceToNat, UInt32.reduceToNat, UInt8.reduceToNat, List.length_cons, List.length_nil, List.length_append, Int.toNat_natCast] <;> omega) | fail) only [Nat.reduceLT, Nat.reduceLeDiff, Nat.reduceEqDiff, ↓reduceIte, Int.reduceLT, Int.reduceLE, Int.reduceToNat, Int.reduceEq, Int.reduceNe, Nat.reduceAdd, UInt8.reduceOfNat, UInt16.reduceOfNat, UInt32.reduceOfNat, UInt64.reduceOfNat, UInt64.reduceToNat, UInt32.reduceToNat, UInt16.reduceToNat, UInt8.reduceToNat, Int.reduceAdd, Int.reduceSub, Int.reduceMul, Nat.reduceMul, Qp0, Qp1, Ql0, Qe0]
  · simp -dsimp -implicitDefEqProofs (disch := first | omega | assumption | (simp only [Option.isSome_some, Qt0]; done) | (simp only [UInt64.reduceToNat, UInt32.reduceToNat, UInt8.reduceToNat, List.length_cons, List.length_nil, List.length_append, Int.toNat_natCast] <;> omega) | fail) only [Nat.reduceLT, Nat.reduceLeDiff, Nat.reduceEqDiff, ↓reduceIte, Int.reduceLT, Int.reduceLE, Int.reduceToNat, Int.reduceEq, Int.reduceNe, Nat.reduceAdd, UInt8.reduceOfNat, UInt16.reduceOfNat, UInt32.reduceOfNat, UInt64.reduceOfNat, UInt64.reduceToNat, UInt32.reduceToNat, UInt16.reduceToNat, UInt8.reduceToNat, Int.reduceAdd, Int.reduceSub, Int.reduceMul, Nat.reduceMul, Qp0, Qp1, Ql0, Qe0]
  · simp -dsimp -implicitDefEqProofs (disch := first | omega | assumption | (simp only [Option.isSome_some, Qt0]; done) | (simp only [UInt64.reduceToNat, UInt32.reduceToNat, UInt8.reduceToNat, List.length_cons, List.length_nil, List.length_append, Int.toNat_natCast] <;> omega) | fail) only [Nat.reduceLT, Nat.reduceLeDiff, Nat.reduceEqDiff, ↓reduceIte, Int.reduceLT, Int.reduceLE, Int.reduceToNat, Int.reduceEq, Int.reduceNe, Nat.reduceAdd, UInt8.reduceOfNat, UInt16.reduceOfNat, UInt32.reduceOfNat, UInt64.reduceOfNat, UInt64.reduceToNat, UInt32.reduceToNat, UInt16.reduceToNat, UInt8.reduceToNat, Int.reduceAdd, Int.reduceSub, Int.reduceMul, Nat.reduceMul, Qp0, Qp1, Ql0, Qe0]
  · simp -dsimp -implicitDefEqProofs (disch := first | omega | assumption | (simp only [Option.isSome_some, Qt0]; done) | (simp only [UInt64.reduceToNat, UInt32.reduceToNat, UInt8.reduceToNat, List.length_cons, List.length_nil, List.length_append, Int.toNat_natCast] <;> omega) | fail) only [Nat.reduceLT, Nat.reduceLeDiff, Nat.reduceEqDiff, ↓reduceIte, Int.reduceLT, Int.reduceLE, Int.reduceToNat, Int.reduceEq, Int.reduceNe, Nat.reduceAdd, UInt8.reduceOfNat, UInt16.reduceOfNat, UInt32.reduceOfNat, UInt64.reduceOfNat, UInt64.reduceToNat, UInt32.reduceToNat, UInt16.reduceToNat, UInt8.reduceToNat, Int.reduceAdd, Int.reduceSub, Int.reduceMul, Nat.reduceMul, Qp0, Qp1, Ql0, Qe0]
    try rfl
  rintro n f h' ⟨i, hni, f0, f12, f13, f14, hs'⟩ hlow'
  by_cases hi : i < L.length
  rotate_left
  · have e2 : decide ((i : Int) < (L.length : Int)) = false := decide_eq_false (by omega)
    rw [List.take_of_length_le (by omega)] at hs'
    simp -dsimp -implicitDefEqProofs (disch := first | omega | assumption | (simp only [Option.isSome_some, Qt0]; done) | (simp only [UInt64.reduceToNat, UInt32.reduceToNat, UInt8.reduceToNat, List.length_cons, List.length_nil, List.length_append, Int.toNat_natCast] <;> omega) | fail) only [Nat.reduceLT, Nat.reduceLeDiff, Nat.reduceEqDiff, ↓reduceIte, Int.reduceLT, Int.reduceLE, Int.reduceToNat, Int.reduceEq, Int.reduceNe, Nat.reduceAdd, UInt8.reduceOfNat, UInt16.reduceOfNat, UInt32.reduceOfNat, UInt64.reduceOfNat, UInt64.reduceToNat, UInt32.reduceToNat, UInt16.reduceToNat, UInt8.reduceToNat, Int.reduceAdd, Int.reduceSub, Int.reduceMul, Nat.reduceMul, Qp0, Qp1, Ql0, Qe0, f0, f12, f13, f14, e2]
    exact ⟨_, PH.Le.refl _, hs'⟩
  have e2 : decide ((i : Int) < (L.length : Int)) = true := decide_eq_true (by omega)
  obtain ⟨⟨u, m⟩, hx⟩ : ∃ x, L[i]? = some x := ⟨_, List.getElem?_eq_getElem hi⟩
  have hxr := rightEp_iff.1 (p2 _ (List.mem_of_getElem? hx))
  obtain ⟨b, o, rfl⟩ := hr.addr_ epL_length (by omega) hx
  have hT : (i : Int).toNat = i := Int.toNat_natCast i
  have hrd := (hr.more hs'.le).chunk epL_length (by omega) hlow' hx
  have ha : allOne (epL ⟨u, m⟩) := epL_one _
  unfold epL at hrd ha
  simp only at hrd ha
  simp -dsimp -implicitDefEqProofs (disch := first | omega | assumption | (simp only [Option.isSome_some, Qt0]; done) | (simp only [UInt64.reduceToNat, UInt32.reduceToNat, UInt8.reduceToNat, List.length_cons, List.length_nil, List.length_append, Int.toNat_natCast] <;> omega) | fail) only [Nat.reduceLT, Nat.reduceLeDiff, Nat.reduceEqDiff, ↓reduceIte, Int.reduceLT, Int.reduceLE, Int.reduceToNat, Int.reduceEq, Int.reduceNe, Nat.reduceAdd, UInt8.reduceOfNat, UInt16.reduceOfNat, UInt32.reduceOfNat, UInt64.reduceOfNat, UInt64.reduceToNat, UInt32.reduceToNat, UInt16.reduceToNat, UInt8.reduceToNat, Int.reduceAdd, Int.reduceSub, Int.reduceMul, Nat.reduceMul, Qp0, Qp1, Ql0, Qe0, f0, f12, f13, f14, e2, hrd]
  refine fun xb hxb => ?_
  have hxb' : h'.top ≤ xb := hxb
  obtain ⟨h1, hh1⟩ : ∃ h1, h'.new xb ⟨[str u, .int .i64 m], 2⟩ = h1 := ⟨_, rfl⟩
  have hle1 : PH.Le h' h1 := by rw [← hh1]; exact (PH.Le.refl h').new _ _ hxb
  have hm1 : h1.m xb = some ⟨[str u, .int .i64 m], 2⟩ := by rw [← hh1, PH.new_m, if_pos rfl]
  have hs2 := hs'.newB hxb' ⟨[str u, .int .i64 m], 2⟩
  rw [hh1] at hs2
  have hbx : (h0.new xb ⟨[str u, .int .i64 m], 2⟩).m xb = some ⟨[str u, .int .i64 m], 2⟩ := by rw [PH.new_m, if_pos rfl]
  have hb0 : PH.Le h0 (h0.new xb ⟨[str u, .int .i64 m], 2⟩) := (PH.Le.refl h0).new _ _ (by have := hs'.le.top; omega)
  generalize h0.new xb ⟨[str u, .int .i64 m], 2⟩ = hb at *
  have hll : (s ++ (numB L.length ++ (L.take i).flatMap epB)).length ≤ 9000 := by
    have := flat_len_K (g := epB) (K := 50) (L.take i) fun y hy => epB_len (p2 y (List.mem_of_mem_take hy))
    have h9 : (L.take i).length ≤ 64 := by rw [List.length_take]; omega
    have : (L.take i).length * 50 ≤ 64 * 50 := Nat.mul_le_mul_right _ h9
    simp only [List.length_append]; omega
  simp -dsimp -implicitDefEqProofs (disch := first | omega | assumption | (simp only [Option.isSome_some, Qt0]; done) | (simp only [UInt64.reduceToNat, UInt32.reduceToNat, UInt8.reduceToNat, List.length_cons, List.length_nil, List.length_append, Int.toNat_natCast] <;> omega) | fail) only [Nat.reduceLT, Nat.reduceLeDiff, Nat.reduceEqDiff, ↓reduceIte, Int.reduceLT, Int.reduceLE, Int.reduceToNat, Int.reduceEq, Int.reduceNe, Nat.reduceAdd, UInt8.reduceOfNat, UInt16.reduceOfNat, UInt32.reduceOfNat, UInt64.reduceOfNat, UInt64.reduceToNat, UInt32.reduceToNat, UInt16.reduceToNat, UInt8.reduceToNat, Int.reduceAdd, Int.reduceSub, Int.reduceMul, Nat.reduceMul, Qp0, Qp1, Ql0, Qe0, f0, f12, f13, f14, List.set_cons_zero, List.set_cons_succ, List.take_zero, List.drop_succ_cons, List.drop_zero, List.drop_nil, List.nil_append, List.append_nil, List.take_succ_cons, ite_true, PH.new_new, hh1]
  refine PW_plan [0, 1, 2, 3, 4, 5] hb (by kernel_rfl) (by decide +kernel) (by kernel_rfl) (by kernel_rfl) (by kernel_rfl) (fun c f h hq => by simp only [thenC_panic, thenK_panic, inBlk_panic, thenN_panic, vcRet_panic] at hq) hs2.le.sub ?_
  simp -dsimp -implicitDefEqProofs (disch := first | omega | assumption | (simp only [Option.isSome_some, Qt0]; done) | (simp only [UInt64.reduceToNat, UInt32.reduceToNat, UInt8.reduceToNat, List.length_cons, List.length_nil, List.length_append, Int.toNat_natCast] <;> omega) | fail) only [Nat.reduceLT, Nat.reduceLeDiff, Nat.reduceEqDiff, ↓reduceIte, Int.reduceLT, Int.reduceLE, Int.reduceToNat, Int.reduceEq, Int.reduceNe, Nat.reduceAdd, UInt8.reduceOfNat, UInt16.reduceOfNat, UInt32.reduceOfNat, UInt64.reduceOfNat, UInt64.reduceToNat, UInt32.reduceToNat, UInt16.reduceToNat, UInt8.reduceToNat, Int.reduceAdd, Int.reduceSub, Int.reduceMul, Nat.reduceMul, Qp0, Qp1, Ql0, Qe0, f0, f12, f13, f14, rd_M, rdM_some, hbx]
  refine (wtext_any hb ob _ w0 _ hs2 u (by omega)).mono ?_
  intro r h3 hs3
  rw [textM_ok _ u (by omega) (by omega)] at hs3
  refine ⟨hs3.le.sub, ?_⟩
  simp -dsimp -implicitDefEqProofs (disch := first | omega | assumption | (simp only [Option.isSome_some, Qt0]; done) | (simp only [UInt64.reduceToNat, UInt32.reduceToNat, UInt8.reduceToNat, List.length_cons, List.length_nil, List.length_append, Int.toNat_natCast] <;> omega) | fail) only [Nat.reduceLT, Nat.reduceLeDiff, Nat.reduceEqDiff, ↓reduceIte, Int.reduceLT, Int.reduceLE, Int.reduceToNat, Int.reduceEq, Int.reduceNe, Nat.reduceAdd, UInt8.reduceOfNat, UInt16.reduceOfNat, UInt32.reduceOfNat, UInt64.reduceOfNat, UInt64.reduceToNat, UInt32.reduceToNat, UInt16.reduceToNat, UInt8.reduceToNat, Int.reduceAdd, Int.reduceSub, Int.reduceMul, Nat.reduceMul, Qp0, Qp1, Ql0, Qe0, f0, f12, f13, f14]
  refine PW_plan [0, 1, 2, 3, 4, 5] hb (by kernel_rfl) (by decide +kernel) (by kernel_rfl) (by kernel_rfl) (by kernel_rfl) (fun c f h hq => by simp only [thenC_panic, thenK_panic, inBlk_panic, thenN_panic, vcRet_panic] at hq) hs3.le.sub ?_
  simp -dsimp -implicitDefEqProofs (disch := first | omega | assumption | (simp only [Option.isSome_some, Qt0]; done) | (simp only [UInt64.reduceToNat, UInt32.reduceToNat, UInt8.reduceToNat, List.length_cons, List.length_nil, List.length_append, Int.toNat_natCast] <;> omega) | fail) only [Nat.reduceLT, Nat.reduceLeDiff, Nat.reduceEqDiff, ↓reduceIte, Int.reduceLT, Int.reduceLE, Int.reduceToNat, Int.reduceEq, Int.reduceNe, Nat.reduceAdd, UInt8.reduceOfNat, UInt16.reduceOfNat, UInt32.reduceOfNat, UInt64.reduceOfNat, UInt64.reduceToNat, UInt32.reduceToNat, UInt16.reduceToNat, UInt8.reduceToNat, Int.reduceAdd, Int.reduceSub, Int.reduceMul, Nat.reduceMul, Qp0, Qp1, Ql0, Qe0, f0, f12, f13, f14, rd_M, rdM_some, hbx]
  refine (num_any hb ob _ w0 _ hs3 m (by omega)).mono ?_
  intro r h4 hs4
  have htl := textB_len (y := u) (k := 32) (by omega) (by omega)
  rw [numM_ok _ m (by omega) (by omega) (by rw [List.length_append]; omega)] at hs4
  refine ⟨hs4.le.sub, ?_⟩
  have hcat : s ++ (numB L.length ++ (L.take i).flatMap epB) ++ textB u ++ numB m.toNat = s ++ (numB L.length ++ (L.take (i + 1)).flatMap epB) := by
    rw [List.take_add_one, hx]
    simp [epB, List.flatMap_append]
  rw [hcat] at hs4
  simp -dsimp -implicitDefEqProofs (disch := first | omega | assumption | (simp only [Option.isSome_some, Qt0]; done) | (simp only [UInt64.reduceToNat, UInt32.reduceToNat, UInt8.reduceToNat, List.length_cons, List.length_nil, List.length_append, Int.toNat_natCast] <;> omega) | fail) only [Nat.reduceLT, Nat.reduceLeDiff, Nat.reduceEqDiff, ↓reduceIte, Int.reduceLT, Int.reduceLE, Int.reduceToNat, Int.reduceEq, Int.reduceNe, Nat.reduceAdd, UInt8.reduceOfNat, UInt16.reduceOfNat, UInt32.reduceOfNat, UInt64.reduceOfNat, UInt64.reduceToNat, UInt32.reduceToNat, UInt16.reduceToNat, UInt8.reduceToNat, Int.reduceAdd, Int.reduceSub, Int.reduceMul, Nat.reduceMul, Qp0, Qp1, Ql0, Qe0, f0, f12, f13, f14]
  exact ⟨n - 1, _, by omega, PH.Le.refl _, i + 1, by omega, by trivial, by trivial, by trivial, by simp, hs4.weak hb0⟩
end
end Go.Proofs.Ytdhgmifgjaedbaa


/- Walk: talk.Encode. No condition. -/
namespace Go.Proofs.Ytdhgmifgjaedbaa
set_option linter.unusedVariables false
set_option linter.unusedSimpArgs false
open Go.RowKit Px Wr
theorem rightM_cases {k c t x : Int} {w : List Wt} {v : List Int} {e : List Ep} (h : rightM ⟨k, w, v, c, t, e, x⟩ = true) :
    (k = 1 ∧ rightWs w = true ∧ v = [] ∧ c = 0 ∧ t = 0 ∧ e = [] ∧ x = 0) ∨ (k = 2 ∧ w = [] ∧ trim v 1099511627776 = true ∧ isN c = true ∧ t = 0 ∧ e = [] ∧ x = 0) ∨
    (k = 3 ∧ w = [] ∧ v = [] ∧ c = 0 ∧ isN t = true ∧ e = [] ∧ x = 0) ∨ (k = 4 ∧ w = [] ∧ v = [] ∧ c = 0 ∧ isN t = true ∧ rightE e = true ∧ isN x = true) := by
  unfold rightM at h
  simp only at h
  split at h
  · rename_i hk
    simp only [Bool.and_eq_true, decide_eq_true_eq] at h
    exact .inl ⟨hk, h.1.1.1.1.1, h.1.1.1.1.2, h.1.1.1.2, h.1.1.2, h.1.2, h.2⟩
  split at h
  · rename_i hk
    simp only [Bool.and_eq_true, decide_eq_true_eq] at h
    exact .inr (.inl ⟨hk, h.1.1.1.1.1, h.1.1.1.1.2, h.1.1.1.2, h.1.1.2, h.1.2, h.2⟩)
  split at h
  · rename_i hk
    simp only [Bool.and_eq_true, decide_eq_true_eq] at h
    exact .inr (.inr (.inl ⟨hk, h.1.1.1.1.1, h.1.1.1.1.2, h.1.1.1.2, h.1.1.2, h.1.2, h.2⟩))
  split at h
  · rename_i hk
    simp only [Bool.and_eq_true, decide_eq_true_eq] at h
    exact .inr (.inr (.inr ⟨hk, h.1.1.1.1.1, h.1.1.1.1.2, h.1.1.1.2, h.1.1.2, h.1.2, h.2⟩))
  · cases h
theorem rightWs_parts {w : List Wt} (h : rightWs w = true) : 1 ≤ w.length ∧ w.length ≤ 8 ∧ (∀ x ∈ w, rightW x = true) ∧ ∀ x ∈ w, some x.r = w.head?.map (·.r) := by
  unfold rightWs at h
  simp only [Bool.and_eq_true, decide_eq_true_eq, List.all_eq_true] at h
  exact ⟨h.1.1, h.1.2, fun x hx => (h.2 x hx).1, fun x hx => (h.2 x hx).2⟩
def ENM (h : PH) (ok : Bool) (b : List UInt8) (v : Value) : Prop := if ok = true then v = .tuple #[str b, .nilIface] else ∃ ev, v = .tuple #[str [], ev] ∧ EV h (.wrap talkT 0 (.code 1)) ev
set_option maxRecDepth 20000 in
set_option maxHeartbeats 8000000 in
theorem enc23_any (w0 : World) (h : PH) (m : Ms) (p : Mp7) (hR : MsR w0 h m p) (hF : Fits m) : PCalls Try.prog w0 9 [.agg (msL m p).toArray] h fun r h' => ENM h' (rightM m) (bytesM m) r ∧ PH.Le h h' := by
  refine PCalls_upL fun q0 hlq hlow hut => ?_
  refine PCalls_body Try.func9 (by kernel_rfl) rfl _ Try.ntmps9 (by kernel_rfl) (by kernel_rfl) _ Try.results9 ?_
  have hR := hR.more hlq
  obtain ⟨k, w, v, c, t, e, x⟩ := m
  obtain ⟨wp, A, B, C, ca, cb, cc⟩ := p
  unfold msL
  simp only
  simp -dsimp -implicitDefEqProofs (disch := first | omega | assumption | (simp only [Option.isSome_some, Qt0]; done) | (simp only [UInt64.reduceToNat, UInt32.reduceToNat, UInt8.reduceToNat, List.length_cons, List.length_nil, List.length_append, Int.toNat_natCast] <;> omega) | fail) only [Nat.reduceLT, Nat.reduceLeDiff, Nat.reduceEqDiff, ↓reduceIte, Int.reduceLT, Int.reduceLE, Int.reduceToNat, Int.reduceEq, Int.reduceNe, Nat.reduceAdd, UInt8.reduceOfNat, UInt16.reduceOfNat, UInt32.reduceOfNat, UInt64.reduceOfNat, UInt64.reduceToNat, UInt32.reduceToNat, UInt16.reduceToNat, UInt8.reduceToNat, Int.reduceAdd, Int.reduceSub, Int.reduceMul, Nat.reduceMul, Qp0, Qp1, Ql0, Qe0]
  refine fun mb hmb => ?_
  have hmbt : q0.top ≤ mb := hmb
  have hle0 := (PH.Le.refl q0).new mb ⟨[.int .i64 k, .slice A w.length ca, .slice B v.length cb, .int .i64 c, .int .i64 t, .slice C e.length cc, .int .i64 x], 7⟩ hmb
  obtain ⟨q, hq⟩ : ∃ q, q0.new mb ⟨[.int .i64 k, .slice A w.length ca, .slice B v.length cb, .int .i64 c, .int .i64 t, .slice C e.length cc, .int .i64 x], 7⟩ = q := ⟨_, rfl⟩
  have hm : q.m mb = some ⟨[.int .i64 k, .slice A w.length ca, .slice B v.length cb, .int .i64 c, .int .i64 t, .slice C e.length cc, .int .i64 x], 7⟩ := by rw [← hq, PH.new_m, if_pos rfl]
  rw [hq] at hle0
  have hle := hlq.trans hle0
  have hs1 : rdN w0 q ⟨mb, 0, none⟩ 7 = some [.int .i64 k, .slice A w.length ca, .slice B v.length cb, .int .i64 c, .int .i64 t, .slice C e.length cc, .int .i64 x] := by unfold rdN; simp only [hm]; rfl
  have hRt := right_any w0 q _ _ (hR.more hle0) hF
  unfold msL at hRt
  simp only at hRt
  simp -dsimp -implicitDefEqProofs (disch := first | omega | assumption | (simp only [Option.isSome_some, Qt0]; done) | (simp only [UInt64.reduceToNat, UInt32.reduceToNat, UInt8.reduceToNat, List.length_cons, List.length_nil, List.length_append, Int.toNat_natCast] <;> omega) | fail) only [Nat.reduceLT, Nat.reduceLeDiff, Nat.reduceEqDiff, ↓reduceIte, Int.reduceLT, Int.reduceLE, Int.reduceToNat, Int.reduceEq, Int.reduceNe, Nat.reduceAdd, UInt8.reduceOfNat, UInt16.reduceOfNat, UInt32.reduceOfNat, UInt64.reduceOfNat, UInt64.reduceToNat, UInt32.reduceToNat, UInt16.reduceToNat, UInt8.reduceToNat, Int.reduceAdd, Int.reduceSub, Int.reduceMul, Nat.reduceMul, Qp0, Qp1, Ql0, Qe0, hq, hs1]
  refine hRt.mono ?_
  rintro r q2 ⟨rfl, hl2⟩
  have hR2 := hR.more (hle0.trans hl2)
  obtain ⟨g1, g2, g3, g4, g5, g6, g7, g8⟩ := hR2
  obtain ⟨F1, F2, F3, F4, F5⟩ := hF
  simp only at g1 g2 g3 g4 g5 g6 g7 g8 F1 F2 F3 F4 F5
  have hm2 := hl2.m _ _ hm
  have hle2 := hle.trans hl2
  have hut2 : w0.heap.size ≤ q2.top := by have := hle0.top; have := hl2.top; omega
  clear hRt hm hs1 hq
  cases hb : rightM ⟨k, w, v, c, t, e, x⟩ with
  | false =>
    simp -dsimp -implicitDefEqProofs (disch := first | omega | assumption | (simp only [Option.isSome_some, Qt0]; done) | (simp only [UInt64.reduceToNat, UInt32.reduceToNat, UInt8.reduceToNat, List.length_cons, List.length_nil, List.length_append, Int.toNat_natCast] <;> omega) | fail) only [Nat.reduceLT, Nat.reduceLeDiff, Nat.reduceEqDiff, ↓reduceIte, Int.reduceLT, Int.reduceLE, Int.reduceToNat, Int.reduceEq, Int.reduceNe, Nat.reduceAdd, UInt8.reduceOfNat, UInt16.reduceOfNat, UInt32.reduceOfNat, UInt64.reduceOfNat, UInt64.reduceToNat, UInt32.reduceToNat, UInt16.reduceToNat, UInt8.reduceToNat, Int.reduceAdd, Int.reduceSub, Int.reduceMul, Nat.reduceMul, Qp0, Qp1, Ql0, Qe0]
    refine (tbad_any 1 w0 _).mono ?_
    rintro z q3 ⟨⟨be, rfl, hbm⟩, hl3⟩
    unfold errV
    simp -dsimp -implicitDefEqProofs (disch := first | omega | assumption | (simp only [Option.isSome_some, Qt0]; done) | (simp only [UInt64.reduceToNat, UInt32.reduceToNat, UInt8.reduceToNat, List.length_cons, List.length_nil, List.length_append, Int.toNat_natCast] <;> omega) | fail) only [Nat.reduceLT, Nat.reduceLeDiff, Nat.reduceEqDiff, ↓reduceIte, Int.reduceLT, Int.reduceLE, Int.reduceToNat, Int.reduceEq, Int.reduceNe, Nat.reduceAdd, UInt8.reduceOfNat, UInt16.reduceOfNat, UInt32.reduceOfNat, UInt64.reduceOfNat, UInt64.reduceToNat, UInt32.reduceToNat, UInt16.reduceToNat, UInt8.reduceToNat, Int.reduceAdd, Int.reduceSub, Int.reduceMul, Nat.reduceMul, Qp0, Qp1, Ql0, Qe0]
    refine ⟨_, PH.Le.refl _, ?_, hle2.trans hl3⟩
    unfold ENM
    rw [if_neg (by simp)]
    exact ⟨_, by first | rfl | trivial, be, _, rfl, hbm, rfl⟩
  | true =>
  simp -dsimp -implicitDefEqProofs (disch := first | omega | assumption | (simp only [Option.isSome_some, Qt0]; done) | (simp only [UInt64.reduceToNat, UInt32.reduceToNat, UInt8.reduceToNat, List.length_cons, List.length_nil, List.length_append, Int.toNat_natCast] <;> omega) | fail) only [Nat.reduceLT, Nat.reduceLeDiff, Nat.reduceEqDiff, ↓reduceIte, Int.reduceLT, Int.reduceLE, Int.reduceToNat, Int.reduceEq, Int.reduceNe, Nat.reduceAdd, UInt8.reduceOfNat, UInt16.reduceOfNat, UInt32.reduceOfNat, UInt64.reduceOfNat, UInt64.reduceToNat, UInt32.reduceToNat, UInt16.reduceToNat, UInt8.reduceToNat, Int.reduceAdd, Int.reduceSub, Int.reduceMul, Nat.reduceMul, Qp0, Qp1, Ql0, Qe0]
  refine fun ob hob => ?_
  have hs0 := OS.init hob
  have hkb : 1 ≤ k ∧ k ≤ 4 := by rcases rightM_cases hb with h | h | h | h <;> (have := h.1; omega)
  simp -dsimp -implicitDefEqProofs (disch := first | omega | assumption | (simp only [Option.isSome_some, Qt0]; done) | (simp only [UInt64.reduceToNat, UInt32.reduceToNat, UInt8.reduceToNat, List.length_cons, List.length_nil, List.length_append, Int.toNat_natCast] <;> omega) | fail) only [Nat.reduceLT, Nat.reduceLeDiff, Nat.reduceEqDiff, ↓reduceIte, Int.reduceLT, Int.reduceLE, Int.reduceToNat, Int.reduceEq, Int.reduceNe, Nat.reduceAdd, UInt8.reduceOfNat, UInt16.reduceOfNat, UInt32.reduceOfNat, UInt64.reduceOfNat, UInt64.reduceToNat, UInt32.reduceToNat, UInt16.reduceToNat, UInt8.reduceToNat, Int.reduceAdd, Int.reduceSub, Int.reduceMul, Nat.reduceMul, Qp0, Qp1, Ql0, Qe0]
  generalize q2.new ob ⟨[.slice none 0 0, .nilIface], 2⟩ = q3 at *
  refine PW_plan [0, 1, 2, 3, 4, 5] q2 (by kernel_rfl) (by decide +kernel) (by kernel_rfl) (by kernel_rfl) (by kernel_rfl) (fun c f h hq => by simp only [thenC_panic, thenK_panic, inBlk_panic, thenN_panic, vcRet_panic] at hq) hs0.le.sub ?_
  simp -dsimp -implicitDefEqProofs (disch := first | omega | assumption | (simp only [Option.isSome_some, Qt0]; done) | (simp only [UInt64.reduceToNat, UInt32.reduceToNat, UInt8.reduceToNat, List.length_cons, List.length_nil, List.length_append, Int.toNat_natCast] <;> omega) | fail) only [Nat.reduceLT, Nat.reduceLeDiff, Nat.reduceEqDiff, ↓reduceIte, Int.reduceLT, Int.reduceLE, Int.reduceToNat, Int.reduceEq, Int.reduceNe, Nat.reduceAdd, UInt8.reduceOfNat, UInt16.reduceOfNat, UInt32.reduceOfNat, UInt64.reduceOfNat, UInt64.reduceToNat, UInt32.reduceToNat, UInt16.reduceToNat, UInt8.reduceToNat, Int.reduceAdd, Int.reduceSub, Int.reduceMul, Nat.reduceMul, Qp0, Qp1, Ql0, Qe0, rd_M, rdM_some, hm2]
  refine (num_any q2 ob _ w0 _ hs0 k (by omega)).mono ?_
  intro r q4 hs1
  rw [numM_ok [] k (by omega) (by omega) (by simp), List.nil_append] at hs1
  refine ⟨hs1.le.sub, ?_⟩
  have hm4 := hs1.le.m _ _ hm2
  have hk9 := numB_len9 (n := k.toNat) (by omega)
  rcases rightM_cases hb with ⟨rfl, h1, rfl, rfl, rfl, rfl, rfl⟩ | ⟨rfl, rfl, h1, h2, rfl, rfl, rfl⟩ | ⟨rfl, rfl, rfl, rfl, h1, rfl, rfl⟩ | ⟨rfl, rfl, rfl, rfl, h1, h2, h3⟩
  · obtain ⟨p1, p2, p3, p4⟩ := rightWs_parts h1
    have hwl : wp.length = w.length := by rw [← g1, List.length_map]
    have hl9 := numB_len9 (n := w.length) (by omega)
    simp -dsimp -implicitDefEqProofs (disch := first | omega | assumption | (simp only [Option.isSome_some, Qt0]; done) | (simp only [UInt64.reduceToNat, UInt32.reduceToNat, UInt8.reduceToNat, List.length_cons, List.length_nil, List.length_append, Int.toNat_natCast] <;> omega) | fail) only [Nat.reduceLT, Nat.reduceLeDiff, Nat.reduceEqDiff, ↓reduceIte, Int.reduceLT, Int.reduceLE, Int.reduceToNat, Int.reduceEq, Int.reduceNe, Nat.reduceAdd, UInt8.reduceOfNat, UInt16.reduceOfNat, UInt32.reduceOfNat, UInt64.reduceOfNat, UInt64.reduceToNat, UInt32.reduceToNat, UInt16.reduceToNat, UInt8.reduceToNat, Int.reduceAdd, Int.reduceSub, Int.reduceMul, Nat.reduceMul, Qp0, Qp1, Ql0, Qe0, rd_M, rdM_some, hm4]
    refine PW_plan [0, 1, 2, 3, 4, 5, 6] q2 (by kernel_rfl) (by decide +kernel) (by kernel_rfl) (by kernel_rfl) (by kernel_rfl) (fun c f h hq => by simp only [thenC_panic, thenK_panic, inBlk_panic, thenN_panic, vcRet_panic] at hq) hs1.le.sub ?_
    simp -dsimp -implicitDefEqProofs (disch := first | omega | assumption | (simp only [Option.isSome_some, Qt0]; done) | (simp only [UInt64.reduceToNat, UInt32.reduceToNat, UInt8.reduceToNat, List.length_cons, List.length_nil, List.length_append, Int.toNat_natCast] <;> omega) | fail) only [Nat.reduceLT, Nat.reduceLeDiff, Nat.reduceEqDiff, ↓reduceIte, Int.reduceLT, Int.reduceLE, Int.reduceToNat, Int.reduceEq, Int.reduceNe, Nat.reduceAdd, UInt8.reduceOfNat, UInt16.reduceOfNat, UInt32.reduceOfNat, UInt64.reduceOfNat, UInt64.reduceToNat, UInt32.reduceToNat, UInt16.reduceToNat, UInt8.reduceToNat, Int.reduceAdd, Int.reduceSub, Int.reduceMul, Nat.reduceMul, Qp0, Qp1, Ql0, Qe0, rd_M, rdM_some, hm2]
    refine (num_any q2 ob _ w0 _ hs1 w.length (by omega)).mono ?_
    intro r q5 hs2
    rw [numM_ok _ w.length (by omega) (by omega) (by omega), Int.toNat_natCast] at hs2
    refine ⟨hs2.le.sub, ?_⟩
    have hm5 := hs2.le.m _ _ hm2
    simp -dsimp -implicitDefEqProofs (disch := first | omega | assumption | (simp only [Option.isSome_some, Qt0]; done) | (simp only [UInt64.reduceToNat, UInt32.reduceToNat, UInt8.reduceToNat, List.length_cons, List.length_nil, List.length_append, Int.toNat_natCast] <;> omega) | fail) only [Nat.reduceLT, Nat.reduceLeDiff, Nat.reduceEqDiff, ↓reduceIte, Int.reduceLT, Int.reduceLE, Int.reduceToNat, Int.reduceEq, Int.reduceNe, Nat.reduceAdd, UInt8.reduceOfNat, UInt16.reduceOfNat, UInt32.reduceOfNat, UInt64.reduceOfNat, UInt64.reduceToNat, UInt32.reduceToNat, UInt16.reduceToNat, UInt8.reduceToNat, Int.reduceAdd, Int.reduceSub, Int.reduceMul, Nat.reduceMul, Qp0, Qp1, Ql0, Qe0, rd_M, rdM_some, hm5]
    refine PW_loopL (fun n f h' => ∃ i : Nat, n + i = w.length ∧ f 4 = some (.pointer (some ⟨ob, 0, none⟩)) ∧ f 39 = some (.slice A w.length ca) ∧ f 40 = some (.int .i64 w.length) ∧ f 41 = some (.int .i64 i) ∧ OS q2 h' ob (numB (1 : Int).toNat ++ (numB w.length ++ (w.take i).flatMap fun y => textB (bytesW y)), none)) (by kernel_rfl) w.length ⟨0, by omega, ?_, ?_, ?_, ?_, by simpa using hs2⟩ ?_
    · simp -dsimp -implicitDefEqProofs (disch := first | omega | assumption | (simp only [Option.isSome_some, Qt0]; done) | (simp only [UInt64.reduceToNat, UInt32.reduceToNat, UInt8.reduceToNat, List.length_cons, List.length_nil, List.length_append, Int.toNat_natCast] <;> omega) | fail) only [Nat.reduceLT, Nat.reduceLeDiff, Nat.reduceEqDiff, ↓reduceIte, Int.reduceLT, Int.reduceLE, Int.reduceToNat, Int.reduceEq, Int.reduceNe, Nat.reduceAdd, UInt8.reduceOfNat, UInt16.reduceOfNat, UInt32.reduceOfNat, UInt64.reduceOfNat, UInt64.reduceToNat, UInt32.reduceToNat, UInt16.reduceToNat, UInt8.reduceToNat, Int.reduceAdd, Int.reduceSub, Int.reduceMul, Nat.reduceMul, Qp0, Qp1, Ql0, Qe0]
    · simp -dsimp -implicitDefEqProofs (disch := first | omega | assumption | (simp only [Option.isSome_some, Qt0]; done) | (simp only [UInt64.reduceToNat, UInt32.reduceToNat, UInt8.reduceToNat, List.length_cons, List.length_nil, List.length_append, Int.toNat_natCast] <;> omega) | fail) only [Nat.reduceLT, Nat.reduceLeDiff, Nat.reduceEqDiff, ↓reduceIte, Int.reduceLT, Int.reduceLE, Int.reduceToNat, Int.reduceEq, Int.reduceNe, Nat.reduceAdd, UInt8.reduceOfNat, UInt16.reduceOfNat, UInt32.reduceOfNat, UInt64.reduceOfNat, UInt64.reduceToNat, UInt32.reduceToNat, UInt16.reduceToNat, UInt8.reduceToNat, Int.reduceAdd, Int.reduceSub, Int.reduceMul, Nat.reduceMul, Qp0, Qp1, Ql0, Qe0]
    · simp -dsimp -implicitDefEqProofs (disch := first | omega | assumption | (simp only [Option.isSome_some, Qt0]; done) | (simp only [UInt64.reduceToNat, UInt32.reduceToNat, UInt8.reduceToNat, List.length_cons, List.length_nil, List.length_append, Int.toNat_natCast] <;> omega) | fail) only [Nat.reduceLT, Nat.reduceLeDiff, Nat.reduceEqDiff, ↓reduceIte, Int.reduceLT, Int.reduceLE, Int.reduceToNat, Int.reduceEq, Int.reduceNe, Nat.reduceAdd, UInt8.reduceOfNat, UInt16.reduceOfNat, UInt32.reduceOfNat, UInt64.reduceOfNat, UInt64.reduceToNat, UInt32.reduceToNat, UInt16.reduceToNat, UInt8.reduceToNat, Int.reduceAdd, Int.reduceSub, Int.reduceMul, Nat.reduceMul, Qp0, Qp1, Ql0, Qe0]
    · simp -dsimp -implicitDefEqProofs (disch := first | omega | assumption | (simp only [Option.isSome_some, Qt0]; done) | (simp only [UInt64.reduceToNat, UInt32.reduceToNat, UInt8.reduceToNat, List.length_cons, List.length_nil, List.length_append, Int.toNat_natCast] <;> omega) | fail) only [Nat.reduceLT, Nat.reduceLeDiff, Nat.reduceEqDiff, ↓reduceIte, Int.reduceLT, Int.reduceLE, Int.reduceToNat, Int.reduceEq, Int.reduceNe, Nat.reduceAdd, UInt8.reduceOfNat, UInt16.reduceOfNat, UInt32.reduceOfNat, UInt64.reduceOfNat, UInt64.reduceToNat, UInt32.reduceToNat, UInt16.reduceToNat, UInt8.reduceToNat, Int.reduceAdd, Int.reduceSub, Int.reduceMul, Nat.reduceMul, Qp0, Qp1, Ql0, Qe0]
      try rfl
    rintro n f h' ⟨i, hni, f4, f39, f40, f41, hs3⟩ hlow'
    by_cases hi : i < w.length
    rotate_left
    · have e2 : decide ((i : Int) < (w.length : Int)) = false := decide_eq_false (by omega)
      rw [List.take_of_length_le (by omega)] at hs3
      simp -dsimp -implicitDefEqProofs (disch := first | omega | assumption | (simp only [Option.isSome_some, Qt0]; done) | (simp only [UInt64.reduceToNat, UInt32.reduceToNat, UInt8.reduceToNat, List.length_cons, List.length_nil, List.length_append, Int.toNat_natCast] <;> omega) | fail) only [Nat.reduceLT, Nat.reduceLeDiff, Nat.reduceEqDiff, ↓reduceIte, Int.reduceLT, Int.reduceLE, Int.reduceToNat, Int.reduceEq, Int.reduceNe, Nat.reduceAdd, UInt8.reduceOfNat, UInt16.reduceOfNat, UInt32.reduceOfNat, UInt64.reduceOfNat, UInt64.reduceToNat, UInt32.reduceToNat, UInt16.reduceToNat, UInt8.reduceToNat, Int.reduceAdd, Int.reduceSub, Int.reduceMul, Nat.reduceMul, Qp0, Qp1, Ql0, Qe0, f4, f39, f40, f41, e2]
      refine (done_any q2 ob _ w0 _ hs3).mono ?_
      rintro z q6 ⟨hd, hz⟩
      obtain rfl := hz.symm
      obtain rfl : z = .tuple #[str (numB (1 : Int).toNat ++ (numB w.length ++ w.flatMap fun y => textB (bytesW y))), .nilIface] := hd
      simp -dsimp -implicitDefEqProofs (disch := first | omega | assumption | (simp only [Option.isSome_some, Qt0]; done) | (simp only [UInt64.reduceToNat, UInt32.reduceToNat, UInt8.reduceToNat, List.length_cons, List.length_nil, List.length_append, Int.toNat_natCast] <;> omega) | fail) only [Nat.reduceLT, Nat.reduceLeDiff, Nat.reduceEqDiff, ↓reduceIte, Int.reduceLT, Int.reduceLE, Int.reduceToNat, Int.reduceEq, Int.reduceNe, Nat.reduceAdd, UInt8.reduceOfNat, UInt16.reduceOfNat, UInt32.reduceOfNat, UInt64.reduceOfNat, UInt64.reduceToNat, UInt32.reduceToNat, UInt16.reduceToNat, UInt8.reduceToNat, Int.reduceAdd, Int.reduceSub, Int.reduceMul, Nat.reduceMul, Qp0, Qp1, Ql0, Qe0]
      exact ⟨_, PH.Le.refl _, by unfold ENM; rw [if_pos rfl]; first | rfl | trivial, hle2.trans hs3.le⟩
    have e2 : decide ((i : Int) < (w.length : Int)) = true := decide_eq_true (by omega)
    obtain ⟨⟨y, Ai, ci⟩, hx⟩ : ∃ x, wp[i]? = some x := ⟨_, List.getElem?_eq_getElem (by omega)⟩
    have hwx : w[i]? = some y := by rw [← g1, List.getElem?_map, hx]; rfl
    have hry := p3 y (List.mem_of_getElem? hwx)
    obtain ⟨b, o, rfl⟩ := g3.addr_ wpL_length (by omega) hx
    have hrd := (g3.more hs3.le).chunk wpL_length (by omega) hlow' hx
    have hgx := (g2 _ (List.mem_of_getElem? hx)).more hs3.le
    have hdx := (F4 y (List.mem_of_getElem? hwx)).1
    have ha : allOne (wpL (y, Ai, ci)) := wpL_one _
    have hE := fun h1 (hg1 : GoodW w0 h1 (y, Ai, ci)) => encW_any w0 h1 y Ai ci hg1.2 hg1.1 (by omega)
    unfold wpL wtL at hrd ha
    unfold wtL at hE
    simp only at hrd ha hE
    have hT : (i : Int).toNat = i := Int.toNat_natCast i
    simp -dsimp -implicitDefEqProofs (disch := first | omega | assumption | (simp only [Option.isSome_some, Qt0]; done) | (simp only [UInt64.reduceToNat, UInt32.reduceToNat, UInt8.reduceToNat, List.length_cons, List.length_nil, List.length_append, Int.toNat_natCast] <;> omega) | fail) only [Nat.reduceLT, Nat.reduceLeDiff, Nat.reduceEqDiff, ↓reduceIte, Int.reduceLT, Int.reduceLE, Int.reduceToNat, Int.reduceEq, Int.reduceNe, Nat.reduceAdd, UInt8.reduceOfNat, UInt16.reduceOfNat, UInt32.reduceOfNat, UInt64.reduceOfNat, UInt64.reduceToNat, UInt32.reduceToNat, UInt16.reduceToNat, UInt8.reduceToNat, Int.reduceAdd, Int.reduceSub, Int.reduceMul, Nat.reduceMul, Qp0, Qp1, Ql0, Qe0, f4, f39, f40, f41, e2, hrd]
    refine fun xb hxb => ?_
    have hxb' : h'.top ≤ xb := hxb
    obtain ⟨h1, hh1⟩ : ∃ h1, h'.new xb ⟨[.int .i64 y.r, .int .i64 y.n, .int .i64 y.t, .int .i64 y.q, .slice Ai y.d.length ci, str y.s, str y.k, str y.v, .bool y.g, .int .i64 y.l], 10⟩ = h1 := ⟨_, rfl⟩
    have hl1 : PH.Le h' h1 := by rw [← hh1]; exact (PH.Le.refl h').new _ _ hxb
    have hm1 : h1.m xb = some ⟨[.int .i64 y.r, .int .i64 y.n, .int .i64 y.t, .int .i64 y.q, .slice Ai y.d.length ci, str y.s, str y.k, str y.v, .bool y.g, .int .i64 y.l], 10⟩ := by rw [← hh1, PH.new_m, if_pos rfl]
    have hs1' : rdN w0 h1 ⟨xb, 0, none⟩ 10 = some [.int .i64 y.r, .int .i64 y.n, .int .i64 y.t, .int .i64 y.q, .slice Ai y.d.length ci, str y.s, str y.k, str y.v, .bool y.g, .int .i64 y.l] := by unfold rdN; simp only [hm1]; rfl
    simp -dsimp -implicitDefEqProofs (disch := first | omega | assumption | (simp only [Option.isSome_some, Qt0]; done) | (simp only [UInt64.reduceToNat, UInt32.reduceToNat, UInt8.reduceToNat, List.length_cons, List.length_nil, List.length_append, Int.toNat_natCast] <;> omega) | fail) only [Nat.reduceLT, Nat.reduceLeDiff, Nat.reduceEqDiff, ↓reduceIte, Int.reduceLT, Int.reduceLE, Int.reduceToNat, Int.reduceEq, Int.reduceNe, Nat.reduceAdd, UInt8.reduceOfNat, UInt16.reduceOfNat, UInt32.reduceOfNat, UInt64.reduceOfNat, UInt64.reduceToNat, UInt32.reduceToNat, UInt16.reduceToNat, UInt8.reduceToNat, Int.reduceAdd, Int.reduceSub, Int.reduceMul, Nat.reduceMul, Qp0, Qp1, Ql0, Qe0, f4, f39, f40, f41, List.set_cons_zero, List.set_cons_succ, List.take_zero, List.drop_succ_cons, List.drop_zero, List.drop_nil, List.nil_append, List.append_nil, List.take_succ_cons, ite_true, PH.new_new, hh1, hs1']
    refine (hE h1 (hgx.more hl1)).mono ?_
    rintro z h2 ⟨hE, hle2'⟩
    have hs4 := (hs3.more hl1).more hle2'
    unfold ENC at hE
    rw [hry, if_pos rfl] at hE
    subst hE
    simp -dsimp -implicitDefEqProofs (disch := first | omega | assumption | (simp only [Option.isSome_some, Qt0]; done) | (simp only [UInt64.reduceToNat, UInt32.reduceToNat, UInt8.reduceToNat, List.length_cons, List.length_nil, List.length_append, Int.toNat_natCast] <;> omega) | fail) only [Nat.reduceLT, Nat.reduceLeDiff, Nat.reduceEqDiff, ↓reduceIte, Int.reduceLT, Int.reduceLE, Int.reduceToNat, Int.reduceEq, Int.reduceNe, Nat.reduceAdd, UInt8.reduceOfNat, UInt16.reduceOfNat, UInt32.reduceOfNat, UInt64.reduceOfNat, UInt64.reduceToNat, UInt32.reduceToNat, UInt16.reduceToNat, UInt8.reduceToNat, Int.reduceAdd, Int.reduceSub, Int.reduceMul, Nat.reduceMul, Qp0, Qp1, Ql0, Qe0, f4, f39, f40, f41]
    have hby := bytesW_len hry
    refine (wtext_any q2 ob _ w0 _ hs4 (bytesW y) (by omega)).mono ?_
    intro r h3 hs5
    have hll : ((w.take i).flatMap fun y => textB (bytesW y)).length ≤ 20000 := by
      have := flat_len_K (g := fun y => textB (bytesW y)) (K := 1009) (w.take i) fun z hz => textB_len (bytesW_len (p3 z (List.mem_of_mem_take hz))) (by omega)
      have h9 : (w.take i).length ≤ 8 := by rw [List.length_take]; omega
      have : (w.take i).length * 1009 ≤ 8 * 1009 := Nat.mul_le_mul_right _ h9
      omega
    rw [textM_ok _ (bytesW y) hby (by simp only [List.length_append]; omega)] at hs5
    have hcat : numB (1 : Int).toNat ++ (numB w.length ++ (w.take i).flatMap fun y => textB (bytesW y)) ++ textB (bytesW y) = numB (1 : Int).toNat ++ (numB w.length ++ (w.take (i + 1)).flatMap fun y => textB (bytesW y)) := by
      rw [List.take_add_one, hwx]
      simp [List.flatMap_append]
    rw [hcat] at hs5
    simp -dsimp -implicitDefEqProofs (disch := first | omega | assumption | (simp only [Option.isSome_some, Qt0]; done) | (simp only [UInt64.reduceToNat, UInt32.reduceToNat, UInt8.reduceToNat, List.length_cons, List.length_nil, List.length_append, Int.toNat_natCast] <;> omega) | fail) only [Nat.reduceLT, Nat.reduceLeDiff, Nat.reduceEqDiff, ↓reduceIte, Int.reduceLT, Int.reduceLE, Int.reduceToNat, Int.reduceEq, Int.reduceNe, Nat.reduceAdd, UInt8.reduceOfNat, UInt16.reduceOfNat, UInt32.reduceOfNat, UInt64.reduceOfNat, UInt64.reduceToNat, UInt32.reduceToNat, UInt16.reduceToNat, UInt8.reduceToNat, Int.reduceAdd, Int.reduceSub, Int.reduceMul, Nat.reduceMul, Qp0, Qp1, Ql0, Qe0, f4, f39, f40, f41]
    exact ⟨n - 1, _, by omega, PH.Le.refl _, i + 1, by omega, by trivial, by trivial, by trivial, by simp, hs5⟩
  · have hN := isN_iff.1 h2
    have hvl := vecB_len h1
    have hbm : bytesM ⟨2, [], v, c, 0, [], 0⟩ = numB (2 : Int).toNat ++ vecB v ++ numB c.toNat := by unfold bytesM; simp
    simp -dsimp -implicitDefEqProofs (disch := first | omega | assumption | (simp only [Option.isSome_some, Qt0]; done) | (simp only [UInt64.reduceToNat, UInt32.reduceToNat, UInt8.reduceToNat, List.length_cons, List.length_nil, List.length_append, Int.toNat_natCast] <;> omega) | fail) only [Nat.reduceLT, Nat.reduceLeDiff, Nat.reduceEqDiff, ↓reduceIte, Int.reduceLT, Int.reduceLE, Int.reduceToNat, Int.reduceEq, Int.reduceNe, Nat.reduceAdd, UInt8.reduceOfNat, UInt16.reduceOfNat, UInt32.reduceOfNat, UInt64.reduceOfNat, UInt64.reduceToNat, UInt32.reduceToNat, UInt16.reduceToNat, UInt8.reduceToNat, Int.reduceAdd, Int.reduceSub, Int.reduceMul, Nat.reduceMul, Qp0, Qp1, Ql0, Qe0, rd_M, rdM_some, hm4]
    refine PW_plan [0, 1, 2, 3, 4, 5] q2 (by kernel_rfl) (by decide +kernel) (by kernel_rfl) (by kernel_rfl) (by kernel_rfl) (fun c f h hq => by simp only [thenC_panic, thenK_panic, inBlk_panic, thenN_panic, vcRet_panic] at hq) hs1.le.sub ?_
    simp -dsimp -implicitDefEqProofs (disch := first | omega | assumption | (simp only [Option.isSome_some, Qt0]; done) | (simp only [UInt64.reduceToNat, UInt32.reduceToNat, UInt8.reduceToNat, List.length_cons, List.length_nil, List.length_append, Int.toNat_natCast] <;> omega) | fail) only [Nat.reduceLT, Nat.reduceLeDiff, Nat.reduceEqDiff, ↓reduceIte, Int.reduceLT, Int.reduceLE, Int.reduceToNat, Int.reduceEq, Int.reduceNe, Nat.reduceAdd, UInt8.reduceOfNat, UInt16.reduceOfNat, UInt32.reduceOfNat, UInt64.reduceOfNat, UInt64.reduceToNat, UInt32.reduceToNat, UInt16.reduceToNat, UInt8.reduceToNat, Int.reduceAdd, Int.reduceSub, Int.reduceMul, Nat.reduceMul, Qp0, Qp1, Ql0, Qe0, rd_M, rdM_some, hm2]
    refine (wvec_any q2 ob _ w0 _ hs1 B cb v (g4.more hs1.le) g7 (by omega)).mono ?_
    intro r q5 hs2
    rw [vecM_ok _ v h1 (by omega)] at hs2
    refine ⟨hs2.le.sub, ?_⟩
    simp -dsimp -implicitDefEqProofs (disch := first | omega | assumption | (simp only [Option.isSome_some, Qt0]; done) | (simp only [UInt64.reduceToNat, UInt32.reduceToNat, UInt8.reduceToNat, List.length_cons, List.length_nil, List.length_append, Int.toNat_natCast] <;> omega) | fail) only [Nat.reduceLT, Nat.reduceLeDiff, Nat.reduceEqDiff, ↓reduceIte, Int.reduceLT, Int.reduceLE, Int.reduceToNat, Int.reduceEq, Int.reduceNe, Nat.reduceAdd, UInt8.reduceOfNat, UInt16.reduceOfNat, UInt32.reduceOfNat, UInt64.reduceOfNat, UInt64.reduceToNat, UInt32.reduceToNat, UInt16.reduceToNat, UInt8.reduceToNat, Int.reduceAdd, Int.reduceSub, Int.reduceMul, Nat.reduceMul, Qp0, Qp1, Ql0, Qe0]
    refine PW_plan [0, 1, 2, 3, 4, 5] q2 (by kernel_rfl) (by decide +kernel) (by kernel_rfl) (by kernel_rfl) (by kernel_rfl) (fun c f h hq => by simp only [thenC_panic, thenK_panic, inBlk_panic, thenN_panic, vcRet_panic] at hq) hs2.le.sub ?_
    simp -dsimp -implicitDefEqProofs (disch := first | omega | assumption | (simp only [Option.isSome_some, Qt0]; done) | (simp only [UInt64.reduceToNat, UInt32.reduceToNat, UInt8.reduceToNat, List.length_cons, List.length_nil, List.length_append, Int.toNat_natCast] <;> omega) | fail) only [Nat.reduceLT, Nat.reduceLeDiff, Nat.reduceEqDiff, ↓reduceIte, Int.reduceLT, Int.reduceLE, Int.reduceToNat, Int.reduceEq, Int.reduceNe, Nat.reduceAdd, UInt8.reduceOfNat, UInt16.reduceOfNat, UInt32.reduceOfNat, UInt64.reduceOfNat, UInt64.reduceToNat, UInt32.reduceToNat, UInt16.reduceToNat, UInt8.reduceToNat, Int.reduceAdd, Int.reduceSub, Int.reduceMul, Nat.reduceMul, Qp0, Qp1, Ql0, Qe0, rd_M, rdM_some, hm2]
    refine (num_any q2 ob _ w0 _ hs2 c (by omega)).mono ?_
    intro r q6 hs9
    rw [numM_ok _ c (by omega) (by omega) (by rw [List.length_append]; omega)] at hs9
    refine ⟨hs9.le.sub, ?_⟩
    simp -dsimp -implicitDefEqProofs (disch := first | omega | assumption | (simp only [Option.isSome_some, Qt0]; done) | (simp only [UInt64.reduceToNat, UInt32.reduceToNat, UInt8.reduceToNat, List.length_cons, List.length_nil, List.length_append, Int.toNat_natCast] <;> omega) | fail) only [Nat.reduceLT, Nat.reduceLeDiff, Nat.reduceEqDiff, ↓reduceIte, Int.reduceLT, Int.reduceLE, Int.reduceToNat, Int.reduceEq, Int.reduceNe, Nat.reduceAdd, UInt8.reduceOfNat, UInt16.reduceOfNat, UInt32.reduceOfNat, UInt64.reduceOfNat, UInt64.reduceToNat, UInt32.reduceToNat, UInt16.reduceToNat, UInt8.reduceToNat, Int.reduceAdd, Int.reduceSub, Int.reduceMul, Nat.reduceMul, Qp0, Qp1, Ql0, Qe0]
    refine (done_any q2 ob _ w0 _ hs9).mono ?_
    rintro z q6 ⟨hd, hz⟩
    obtain rfl := hz.symm
    obtain rfl : z = .tuple #[str (numB (2 : Int).toNat ++ vecB v ++ numB c.toNat), .nilIface] := hd
    simp -dsimp -implicitDefEqProofs (disch := first | omega | assumption | (simp only [Option.isSome_some, Qt0]; done) | (simp only [UInt64.reduceToNat, UInt32.reduceToNat, UInt8.reduceToNat, List.length_cons, List.length_nil, List.length_append, Int.toNat_natCast] <;> omega) | fail) only [Nat.reduceLT, Nat.reduceLeDiff, Nat.reduceEqDiff, ↓reduceIte, Int.reduceLT, Int.reduceLE, Int.reduceToNat, Int.reduceEq, Int.reduceNe, Nat.reduceAdd, UInt8.reduceOfNat, UInt16.reduceOfNat, UInt32.reduceOfNat, UInt64.reduceOfNat, UInt64.reduceToNat, UInt32.reduceToNat, UInt16.reduceToNat, UInt8.reduceToNat, Int.reduceAdd, Int.reduceSub, Int.reduceMul, Nat.reduceMul, Qp0, Qp1, Ql0, Qe0]
    exact ⟨_, PH.Le.refl _, by unfold ENM; rw [if_pos rfl, hbm]; first | rfl | trivial, hle2.trans hs9.le⟩
  · have hN := isN_iff.1 h1
    have hbm : bytesM ⟨3, [], [], 0, t, [], 0⟩ = numB (3 : Int).toNat ++ numB t.toNat := by unfold bytesM; simp
    simp -dsimp -implicitDefEqProofs (disch := first | omega | assumption | (simp only [Option.isSome_some, Qt0]; done) | (simp only [UInt64.reduceToNat, UInt32.reduceToNat, UInt8.reduceToNat, List.length_cons, List.length_nil, List.length_append, Int.toNat_natCast] <;> omega) | fail) only [Nat.reduceLT, Nat.reduceLeDiff, Nat.reduceEqDiff, ↓reduceIte, Int.reduceLT, Int.reduceLE, Int.reduceToNat, Int.reduceEq, Int.reduceNe, Nat.reduceAdd, UInt8.reduceOfNat, UInt16.reduceOfNat, UInt32.reduceOfNat, UInt64.reduceOfNat, UInt64.reduceToNat, UInt32.reduceToNat, UInt16.reduceToNat, UInt8.reduceToNat, Int.reduceAdd, Int.reduceSub, Int.reduceMul, Nat.reduceMul, Qp0, Qp1, Ql0, Qe0, rd_M, rdM_some, hm4]
    refine PW_plan [0, 1, 2, 3, 4, 5] q2 (by kernel_rfl) (by decide +kernel) (by kernel_rfl) (by kernel_rfl) (by kernel_rfl) (fun c f h hq => by simp only [thenC_panic, thenK_panic, inBlk_panic, thenN_panic, vcRet_panic] at hq) hs1.le.sub ?_
    simp -dsimp -implicitDefEqProofs (disch := first | omega | assumption | (simp only [Option.isSome_some, Qt0]; done) | (simp only [UInt64.reduceToNat, UInt32.reduceToNat, UInt8.reduceToNat, List.length_cons, List.length_nil, List.length_append, Int.toNat_natCast] <;> omega) | fail) only [Nat.reduceLT, Nat.reduceLeDiff, Nat.reduceEqDiff, ↓reduceIte, Int.reduceLT, Int.reduceLE, Int.reduceToNat, Int.reduceEq, Int.reduceNe, Nat.reduceAdd, UInt8.reduceOfNat, UInt16.reduceOfNat, UInt32.reduceOfNat, UInt64.reduceOfNat, UInt64.reduceToNat, UInt32.reduceToNat, UInt16.reduceToNat, UInt8.reduceToNat, Int.reduceAdd, Int.reduceSub, Int.reduceMul, Nat.reduceMul, Qp0, Qp1, Ql0, Qe0, rd_M, rdM_some, hm2]
    refine (num_any q2 ob _ w0 _ hs1 t (by omega)).mono ?_
    intro r q6 hs9
    rw [numM_ok _ t (by omega) (by omega) (by omega)] at hs9
    refine ⟨hs9.le.sub, ?_⟩
    simp -dsimp -implicitDefEqProofs (disch := first | omega | assumption | (simp only [Option.isSome_some, Qt0]; done) | (simp only [UInt64.reduceToNat, UInt32.reduceToNat, UInt8.reduceToNat, List.length_cons, List.length_nil, List.length_append, Int.toNat_natCast] <;> omega) | fail) only [Nat.reduceLT, Nat.reduceLeDiff, Nat.reduceEqDiff, ↓reduceIte, Int.reduceLT, Int.reduceLE, Int.reduceToNat, Int.reduceEq, Int.reduceNe, Nat.reduceAdd, UInt8.reduceOfNat, UInt16.reduceOfNat, UInt32.reduceOfNat, UInt64.reduceOfNat, UInt64.reduceToNat, UInt32.reduceToNat, UInt16.reduceToNat, UInt8.reduceToNat, Int.reduceAdd, Int.reduceSub, Int.reduceMul, Nat.reduceMul, Qp0, Qp1, Ql0, Qe0]
    refine (done_any q2 ob _ w0 _ hs9).mono ?_
    rintro z q6 ⟨hd, hz⟩
    obtain rfl := hz.symm
    obtain rfl : z = .tuple #[str (numB (3 : Int).toNat ++ numB t.toNat), .nilIface] := hd
    simp -dsimp -implicitDefEqProofs (disch := first | omega | assumption | (simp only [Option.isSome_some, Qt0]; done) | (simp only [UInt64.reduceToNat, UInt32.reduceToNat, UInt8.reduceToNat, List.length_cons, List.length_nil, List.length_append, Int.toNat_natCast] <;> omega) | fail) only [Nat.reduceLT, Nat.reduceLeDiff, Nat.reduceEqDiff, ↓reduceIte, Int.reduceLT, Int.reduceLE, Int.reduceToNat, Int.reduceEq, Int.reduceNe, Nat.reduceAdd, UInt8.reduceOfNat, UInt16.reduceOfNat, UInt32.reduceOfNat, UInt64.reduceOfNat, UInt64.reduceToNat, UInt32.reduceToNat, UInt16.reduceToNat, UInt8.reduceToNat, Int.reduceAdd, Int.reduceSub, Int.reduceMul, Nat.reduceMul, Qp0, Qp1, Ql0, Qe0]
    exact ⟨_, PH.Le.refl _, by unfold ENM; rw [if_pos rfl, hbm]; first | rfl | trivial, hle2.trans hs9.le⟩
  · have hN := isN_iff.1 h1
    have hX := isN_iff.1 h3
    obtain ⟨p1, p2, p3⟩ := rightE_parts h2
    have hbm : bytesM ⟨4, [], [], 0, t, e, x⟩ = numB (4 : Int).toNat ++ epsB e ++ numB x.toNat ++ numB t.toNat := by unfold bytesM; simp
    have hel : (epsB e).length ≤ 9000 := by
      have := flat_len_K (g := epB) (K := 50) e fun y hy => epB_len (p2 y hy)
      have h9 := numB_len9 (n := e.length) (by omega)
      have : e.length * 50 ≤ 64 * 50 := Nat.mul_le_mul_right _ p1
      unfold epsB
      rw [List.length_append]; omega
    have hx9 := numB_len9 (n := x.toNat) (by omega)
    simp -dsimp -implicitDefEqProofs (disch := first | omega | assumption | (simp only [Option.isSome_some, Qt0]; done) | (simp only [UInt64.reduceToNat, UInt32.reduceToNat, UInt8.reduceToNat, List.length_cons, List.length_nil, List.length_append, Int.toNat_natCast] <;> omega) | fail) only [Nat.reduceLT, Nat.reduceLeDiff, Nat.reduceEqDiff, ↓reduceIte, Int.reduceLT, Int.reduceLE, Int.reduceToNat, Int.reduceEq, Int.reduceNe, Nat.reduceAdd, UInt8.reduceOfNat, UInt16.reduceOfNat, UInt32.reduceOfNat, UInt64.reduceOfNat, UInt64.reduceToNat, UInt32.reduceToNat, UInt16.reduceToNat, UInt8.reduceToNat, Int.reduceAdd, Int.reduceSub, Int.reduceMul, Nat.reduceMul, Qp0, Qp1, Ql0, Qe0, rd_M, rdM_some, hm4]
    refine (epochs_any q2 ob w0 _ _ hs1 (by omega) C cc e g5 g8 h2 hut2).mono ?_
    intro r q5 hs2
    simp -dsimp -implicitDefEqProofs (disch := first | omega | assumption | (simp only [Option.isSome_some, Qt0]; done) | (simp only [UInt64.reduceToNat, UInt32.reduceToNat, UInt8.reduceToNat, List.length_cons, List.length_nil, List.length_append, Int.toNat_natCast] <;> omega) | fail) only [Nat.reduceLT, Nat.reduceLeDiff, Nat.reduceEqDiff, ↓reduceIte, Int.reduceLT, Int.reduceLE, Int.reduceToNat, Int.reduceEq, Int.reduceNe, Nat.reduceAdd, UInt8.reduceOfNat, UInt16.reduceOfNat, UInt32.reduceOfNat, UInt64.reduceOfNat, UInt64.reduceToNat, UInt32.reduceToNat, UInt16.reduceToNat, UInt8.reduceToNat, Int.reduceAdd, Int.reduceSub, Int.reduceMul, Nat.reduceMul, Qp0, Qp1, Ql0, Qe0]
    refine PW_plan [0, 1, 2, 3, 4, 5] q2 (by kernel_rfl) (by decide +kernel) (by kernel_rfl) (by kernel_rfl) (by kernel_rfl) (fun c f h hq => by simp only [thenC_panic, thenK_panic, inBlk_panic, thenN_panic, vcRet_panic] at hq) hs2.le.sub ?_
    simp -dsimp -implicitDefEqProofs (disch := first | omega | assumption | (simp only [Option.isSome_some, Qt0]; done) | (simp only [UInt64.reduceToNat, UInt32.reduceToNat, UInt8.reduceToNat, List.length_cons, List.length_nil, List.length_append, Int.toNat_natCast] <;> omega) | fail) only [Nat.reduceLT, Nat.reduceLeDiff, Nat.reduceEqDiff, ↓reduceIte, Int.reduceLT, Int.reduceLE, Int.reduceToNat, Int.reduceEq, Int.reduceNe, Nat.reduceAdd, UInt8.reduceOfNat, UInt16.reduceOfNat, UInt32.reduceOfNat, UInt64.reduceOfNat, UInt64.reduceToNat, UInt32.reduceToNat, UInt16.reduceToNat, UInt8.reduceToNat, Int.reduceAdd, Int.reduceSub, Int.reduceMul, Nat.reduceMul, Qp0, Qp1, Ql0, Qe0, rd_M, rdM_some, hm2]
    refine (num_any q2 ob _ w0 _ hs2 x (by omega)).mono ?_
    intro r q6 hs3
    rw [numM_ok _ x (by omega) (by omega) (by rw [List.length_append]; omega)] at hs3
    refine ⟨hs3.le.sub, ?_⟩
    simp -dsimp -implicitDefEqProofs (disch := first | omega | assumption | (simp only [Option.isSome_some, Qt0]; done) | (simp only [UInt64.reduceToNat, UInt32.reduceToNat, UInt8.reduceToNat, List.length_cons, List.length_nil, List.length_append, Int.toNat_natCast] <;> omega) | fail) only [Nat.reduceLT, Nat.reduceLeDiff, Nat.reduceEqDiff, ↓reduceIte, Int.reduceLT, Int.reduceLE, Int.reduceToNat, Int.reduceEq, Int.reduceNe, Nat.reduceAdd, UInt8.reduceOfNat, UInt16.reduceOfNat, UInt32.reduceOfNat, UInt64.reduceOfNat, UInt64.reduceToNat, UInt32.reduceToNat, UInt16.reduceToNat, UInt8.reduceToNat, Int.reduceAdd, Int.reduceSub, Int.reduceMul, Nat.reduceMul, Qp0, Qp1, Ql0, Qe0]
    refine PW_plan [0, 1, 2, 3, 4, 5] q2 (by kernel_rfl) (by decide +kernel) (by kernel_rfl) (by kernel_rfl) (by kernel_rfl) (fun c f h hq => by simp only [thenC_panic, thenK_panic, inBlk_panic, thenN_panic, vcRet_panic] at hq) hs3.le.sub ?_
    simp -dsimp -implicitDefEqProofs (disch := first | omega | assumption | (simp only [Option.isSome_some, Qt0]; done) | (simp only [UInt64.reduceToNat, UInt32.reduceToNat, UInt8.reduceToNat, List.length_cons, List.length_nil, List.length_append, Int.toNat_natCast] <;> omega) | fail) only [Nat.reduceLT, Nat.reduceLeDiff, Nat.reduceEqDiff, ↓reduceIte, Int.reduceLT, Int.reduceLE, Int.reduceToNat, Int.reduceEq, Int.reduceNe, Nat.reduceAdd, UInt8.reduceOfNat, UInt16.reduceOfNat, UInt32.reduceOfNat, UInt64.reduceOfNat, UInt64.reduceToNat, UInt32.reduceToNat, UInt16.reduceToNat, UInt8.reduceToNat, Int.reduceAdd, Int.reduceSub, Int.reduceMul, Nat.reduceMul, Qp0, Qp1, Ql0, Qe0, rd_M, rdM_some, hm2]
    refine (num_any q2 ob _ w0 _ hs3 t (by omega)).mono ?_
    intro r q7 hs9
    rw [numM_ok _ t (by omega) (by omega) (by simp only [List.length_append]; omega)] at hs9
    refine ⟨hs9.le.sub, ?_⟩
    simp -dsimp -implicitDefEqProofs (disch := first | omega | assumption | (simp only [Option.isSome_some, Qt0]; done) | (simp only [UInt64.reduceToNat, UInt32.reduceToNat, UInt8.reduceToNat, List.length_cons, List.length_nil, List.length_append, Int.toNat_natCast] <;> omega) | fail) only [Nat.reduceLT, Nat.reduceLeDiff, Nat.reduceEqDiff, ↓reduceIte, Int.reduceLT, Int.reduceLE, Int.reduceToNat, Int.reduceEq, Int.reduceNe, Nat.reduceAdd, UInt8.reduceOfNat, UInt16.reduceOfNat, UInt32.reduceOfNat, UInt64.reduceOfNat, UInt64.reduceToNat, UInt32.reduceToNat, UInt16.reduceToNat, UInt8.reduceToNat, Int.reduceAdd, Int.reduceSub, Int.reduceMul, Nat.reduceMul, Qp0, Qp1, Ql0, Qe0]
    refine (done_any q2 ob _ w0 _ hs9).mono ?_
    rintro z q6 ⟨hd, hz⟩
    obtain rfl := hz.symm
    obtain rfl : z = .tuple #[str (numB (4 : Int).toNat ++ epsB e ++ numB x.toNat ++ numB t.toNat), .nilIface] := hd
    simp -dsimp -implicitDefEqProofs (disch := first | omega | assumption | (simp only [Option.isSome_some, Qt0]; done) | (simp only [UInt64.reduceToNat, UInt32.reduceToNat, UInt8.reduceToNat, List.length_cons, List.length_nil, List.length_append, Int.toNat_natCast] <;> omega) | fail) only [Nat.reduceLT, Nat.reduceLeDiff, Nat.reduceEqDiff, ↓reduceIte, Int.reduceLT, Int.reduceLE, Int.reduceToNat, Int.reduceEq, Int.reduceNe, Nat.reduceAdd, UInt8.reduceOfNat, UInt16.reduceOfNat, UInt32.reduceOfNat, UInt64.reduceOfNat, UInt64.reduceToNat, UInt32.reduceToNat, UInt16.reduceToNat, UInt8.reduceToNat, Int.reduceAdd, Int.reduceSub, Int.reduceMul, Nat.reduceMul, Qp0, Qp1, Ql0, Qe0]
    exact ⟨_, PH.Le.refl _, by unfold ENM; rw [if_pos rfl, hbm]; first | rfl | trivial, hle2.trans hs9.le⟩
end Go.Proofs.Ytdhgmifgjaedbaa

