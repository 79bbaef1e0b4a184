/- Parts TaH, Pt, Pu, joined. No condition. -/
import Derived.Test.YtdhgmifgjaedbaaM11C
import Derived.Test.YtdhgmifgjaedbaaM3C
/- Messages' bytes are no others' beginnings; which messages are alike: plain facts. No condition. -/
namespace Go.Proofs.Ytdhgmifgjaedbaa
set_option linter.unusedVariables false
set_option linter.unusedSimpArgs false
open Go.RowKit Px Wr
theorem WsRun.make {mt : Int} {len : Nat} (hm : 1000 ≤ mt) : ∀ {L : List Wt} {u : List UInt8}, (∀ y ∈ L, rightW y = true) → WsRun mt len L (.ok (L.flatMap wB ++ u)) (.ok u)
  | [], u, _ => rfl
  | y :: L, u, h => by
    have hy := h y (List.mem_cons_self ..)
    have hb := bytesW_len hy
    refine ⟨bytesW y, .ok (L.flatMap wB ++ u), ?_, ⟨hy, rfl⟩, WsRun.make hm fun z hz => h z (List.mem_cons_of_mem _ hz)⟩
    rw [List.flatMap_cons, List.append_assoc, wB, txtS_fwd (by omega) (by omega)]
theorem EpRun.make {mu mn : Int} {len : Nat} (hu : 32 ≤ mu) (hn : 1099511627776 ≤ mn) : ∀ {L : List Ep} {u : List UInt8}, (∀ y ∈ L, rightEp y = true) → EpRun mu mn len L (.ok (L.flatMap epB ++ u)) (.ok u)
  | [], u, _ => rfl
  | ⟨v, k⟩ :: L, u, h => by
    have hd := rightEp_iff.1 (h ⟨v, k⟩ (List.mem_cons_self ..))
    refine ⟨.ok (numB k.toNat ++ (L.flatMap epB ++ u)), k.toNat, .ok (L.flatMap epB ++ u), ?_, ?_, by show k = _; omega, EpRun.make hu hn fun z hz => h z (List.mem_cons_of_mem _ hz)⟩
    · rw [List.flatMap_cons, List.append_assoc, epB, List.append_assoc, txtS_fwd (by simp only; omega) (by simp only; omega)]
    · rw [numS_fwd (by omega) (by omega) (by omega)]
theorem RunM.make {d : Bd} (hd : d.Ok) {len : Nat} {m : Ms} (hr : rightM m = true) (u : List UInt8) : RunM d len (bytesM m ++ u) m (.ok u) := by
  obtain ⟨k, w, v, c, t, e, x⟩ := m
  have hk4 := hd.k
  rcases rightM_cases hr with ⟨rfl, g1, rfl, rfl, rfl, rfl, rfl⟩ | ⟨rfl, rfl, g1, g2, rfl, rfl, rfl⟩ | ⟨rfl, rfl, rfl, rfl, g1, rfl, rfl⟩ | ⟨rfl, rfl, rfl, rfl, g1, g2, g3⟩
  · obtain ⟨p1, p2, p3, p4⟩ := rightWs_parts g1
    have hb : bytesM ⟨1, w, [], 0, 0, [], 0⟩ ++ u = numB (1 : Nat) ++ (numB w.length ++ (w.flatMap wB ++ u)) := by unfold bytesM wsB; simp [show wB = (fun y => textB (bytesW y)) from rfl]
    rw [hb]
    exact ⟨1, _, numS_fit1 (by omega) (by omega), .inl ⟨rfl, w.length, _, w, numS_fit1 (by omega) (by omega), rfl, WsRun.make hd.t p3, rfl⟩⟩
  · have hN := isN_iff.1 g2
    have hb : bytesM ⟨2, [], v, c, 0, [], 0⟩ ++ u = numB (2 : Nat) ++ (vecB v ++ (numB c.toNat ++ u)) := by unfold bytesM; simp
    rw [hb]
    refine ⟨2, _, numS_fit1 (by omega) (by omega), .inr (.inl ⟨rfl, v, _, c.toNat, vecS_fwd g1, numS_fwd hN.1 hN.2 hN.2, ?_⟩)⟩
    simp only [Ms.mk.injEq, true_and, and_true]; omega
  · have hN := isN_iff.1 g1
    have hb : bytesM ⟨3, [], [], 0, t, [], 0⟩ ++ u = numB (3 : Nat) ++ (numB t.toNat ++ u) := by unfold bytesM; simp
    rw [hb]
    refine ⟨3, _, numS_fit1 (by omega) (by omega), .inr (.inr (.inl ⟨rfl, t.toNat, numS_fwd hN.1 hN.2 hN.2, ?_⟩))⟩
    simp only [Ms.mk.injEq, true_and, and_true]; omega
  · obtain ⟨p1, p2, p3⟩ := rightE_parts g2
    have hN := isN_iff.1 g1
    have hX := isN_iff.1 g3
    have hb : bytesM ⟨4, [], [], 0, t, e, x⟩ ++ u = numB (4 : Nat) ++ (numB e.length ++ (e.flatMap epB ++ (numB x.toNat ++ (numB t.toNat ++ u)))) := by unfold bytesM epsB; simp
    rw [hb]
    refine ⟨4, _, numS_fit1 (by omega) (by omega), .inr (.inr (.inr (.inl ⟨rfl, e.length, _, e, _, x.toNat, _, t.toNat, numS_fit1 (by omega) (by omega), rfl, EpRun.make hd.u (by omega) p2, numS_fwd hX.1 hX.2 hX.2, numS_fwd hN.1 hN.2 hN.2, ?_⟩)))⟩
    simp only [Ms.mk.injEq, true_and, and_true]; omega
theorem bytesM_free {m m' : Ms} {u : List UInt8} (h : rightM m = true) (h' : rightM m' = true) (e : bytesM m = bytesM m' ++ u) : m' = m ∧ u = [] := by
  have h1 := RunM.make (d := ⟨4, 1000, 32⟩) (len := 0) ⟨Int.le_refl _, Int.le_refl _, Int.le_refl _⟩ h' u
  rw [← e] at h1
  obtain ⟨h2, h3⟩ := h1.fwd ⟨Int.le_refl _, Int.le_refl _, Int.le_refl _⟩ h
  exact ⟨h2, by injection h3⟩
theorem bytesM_inj {m m' : Ms} (h : rightM m = true) (h' : rightM m' = true) (e : bytesM m = bytesM m') : m' = m :=
  (bytesM_free (u := []) h h' (by rw [List.append_nil]; exact e)).1
def sameM (a b : Ms) : Bool := decide (a.k = b.k) && sameL a.w b.w && decide (a.v = b.v) && decide (a.c = b.c) && decide (a.t = b.t) && decide (a.e = b.e) && decide (a.x = b.x)
theorem sameM_iff {a b : Ms} : sameM a b = true ↔ a = b := by
  unfold sameM
  simp only [Bool.and_eq_true, decide_eq_true_eq, sameL_iff]
  constructor
  · rintro ⟨⟨⟨⟨⟨⟨h1, h2⟩, h3⟩, h4⟩, h5⟩, h6⟩, h7⟩
    cases a; cases b; simp only at h1 h2 h3 h4 h5 h6 h7; subst h1 h2 h3 h4 h5 h6 h7; rfl
  · rintro rfl; simp
set_option maxRecDepth 20000 in
set_option maxHeartbeats 4000000 in
theorem same23_any (w0 : World) (h : PH) (a b : Ms) (pa pb : Mp7) (Ra : MsR w0 h a pa) (Rb : MsR w0 h b pb) (Fa : Fits a) : PCalls Try.prog w0 10 [.agg (msL a pa).toArray, .agg (msL b pb).toArray] h fun r h' => r = .bool (sameM a b) ∧ PH.Le h h' := by
  refine PCalls_body Try.func10 (by kernel_rfl) rfl _ Try.ntmps10 (by kernel_rfl) (by kernel_rfl) _ Try.results10 ?_
  obtain ⟨k, w, v, c, t, e, x⟩ := a
  obtain ⟨k', w', v', c', t', e', x'⟩ := b
  obtain ⟨wp, A, B, C, ca, cb, cc⟩ := pa
  obtain ⟨wq, A', B', C', ca', cb', cc'⟩ := pb
  unfold msL
  simp only
  simp -dsimp -implicitDefEqProofs (disch := first | omega | assumption | (simp only [Option.isSome_some, Qt0]; done) | (simp only [UInt64.reduceToNat, UInt32.reduceToNat, UInt8.reduceToNat, List.length_cons, List.length_nil, List.length_append, Int.toNat_natCast] <;> omega) | fail) only [Nat.reduceLT, Nat.reduceLeDiff, Nat.reduceEqDiff, ↓reduceIte, Int.reduceLT, Int.reduceLE, Int.reduceToNat, Int.reduceEq, Int.reduceNe, Nat.reduceAdd, UInt8.reduceOfNat, UInt16.reduceOfNat, UInt32.reduceOfNat, UInt64.reduceOfNat, UInt64.reduceToNat, UInt32.reduceToNat, UInt16.reduceToNat, UInt8.reduceToNat, Int.reduceAdd, Int.reduceSub, Int.reduceMul, Nat.reduceMul, Qp0, Qp1, Ql0, Qe0]
  refine fun mb hmb => ?_
  have hl1 := (PH.Le.refl h).new mb ⟨[.int .i64 k, .slice A w.length ca, .slice B v.length cb, .int .i64 c, .int .i64 t, .slice C e.length cc, .int .i64 x], 7⟩ hmb
  have hm : (h.new mb ⟨[.int .i64 k, .slice A w.length ca, .slice B v.length cb, .int .i64 c, .int .i64 t, .slice C e.length cc, .int .i64 x], 7⟩).m mb = some ⟨[.int .i64 k, .slice A w.length ca, .slice B v.length cb, .int .i64 c, .int .i64 t, .slice C e.length cc, .int .i64 x], 7⟩ := by rw [PH.new_m, if_pos rfl]
  simp -dsimp -implicitDefEqProofs (disch := first | omega | assumption | (simp only [Option.isSome_some, Qt0]; done) | (simp only [UInt64.reduceToNat, UInt32.reduceToNat, UInt8.reduceToNat, List.length_cons, List.length_nil, List.length_append, Int.toNat_natCast] <;> omega) | fail) only [Nat.reduceLT, Nat.reduceLeDiff, Nat.reduceEqDiff, ↓reduceIte, Int.reduceLT, Int.reduceLE, Int.reduceToNat, Int.reduceEq, Int.reduceNe, Nat.reduceAdd, UInt8.reduceOfNat, UInt16.reduceOfNat, UInt32.reduceOfNat, UInt64.reduceOfNat, UInt64.reduceToNat, UInt32.reduceToNat, UInt16.reduceToNat, UInt8.reduceToNat, Int.reduceAdd, Int.reduceSub, Int.reduceMul, Nat.reduceMul, Qp0, Qp1, Ql0, Qe0]
  generalize h.new mb ⟨[.int .i64 k, .slice A w.length ca, .slice B v.length cb, .int .i64 c, .int .i64 t, .slice C e.length cc, .int .i64 x], 7⟩ = q1 at *
  refine fun nb hnb => ?_
  have hl2 := (PH.Le.refl q1).new nb ⟨[.int .i64 k', .slice A' w'.length ca', .slice B' v'.length cb', .int .i64 c', .int .i64 t', .slice C' e'.length cc', .int .i64 x'], 7⟩ hnb
  have hm2 : (q1.new nb ⟨[.int .i64 k', .slice A' w'.length ca', .slice B' v'.length cb', .int .i64 c', .int .i64 t', .slice C' e'.length cc', .int .i64 x'], 7⟩).m nb = some ⟨[.int .i64 k', .slice A' w'.length ca', .slice B' v'.length cb', .int .i64 c', .int .i64 t', .slice C' e'.length cc', .int .i64 x'], 7⟩ := by rw [PH.new_m, if_pos rfl]
  have hm := hl2.m _ _ hm
  simp -dsimp -implicitDefEqProofs (disch := first | omega | assumption | (simp only [Option.isSome_some, Qt0]; done) | (simp only [UInt64.reduceToNat, UInt32.reduceToNat, UInt8.reduceToNat, List.length_cons, List.length_nil, List.length_append, Int.toNat_natCast] <;> omega) | fail) only [Nat.reduceLT, Nat.reduceLeDiff, Nat.reduceEqDiff, ↓reduceIte, Int.reduceLT, Int.reduceLE, Int.reduceToNat, Int.reduceEq, Int.reduceNe, Nat.reduceAdd, UInt8.reduceOfNat, UInt16.reduceOfNat, UInt32.reduceOfNat, UInt64.reduceOfNat, UInt64.reduceToNat, UInt32.reduceToNat, UInt16.reduceToNat, UInt8.reduceToNat, Int.reduceAdd, Int.reduceSub, Int.reduceMul, Nat.reduceMul, Qp0, Qp1, Ql0, Qe0]
  generalize q1.new nb ⟨[.int .i64 k', .slice A' w'.length ca', .slice B' v'.length cb', .int .i64 c', .int .i64 t', .slice C' e'.length cc', .int .i64 x'], 7⟩ = q at *
  have hle := hl1.trans hl2
  have Ra := Ra.more hle
  have Rb := Rb.more hle
  obtain ⟨g1, g2, g3, g4, g5, g6, g7, g8⟩ := Ra
  obtain ⟨k1, k2, k3, k4, k5, k6, k7, k8⟩ := Rb
  obtain ⟨F1, F2, F3, F4, F5⟩ := Fa
  simp only at g1 g2 g3 g4 g5 g6 g7 g8 k1 k2 k3 k4 k5 k6 k7 k8 F1 F2 F3 F4 F5
  have hwl : wp.length = w.length := by rw [← g1, List.length_map]
  have hwl' : wq.length = w'.length := by rw [← k1, List.length_map]
  have hW := sameWs_any w0 q A A' ca ca' wp wq g3 k3 g2 k2 (by omega) (by omega) (by omega) (fun y hy => by have := (F4 y.1 (by rw [← g1]; exact List.mem_map.2 ⟨y, hy, rfl⟩)).1; omega)
  rw [g1, k1, hwl, hwl'] at hW
  have hV := sameV_any w0 q B B' cb cb' v v' g4 k4 g7 k7 (by omega)
  have hE := same21_any w0 q C C' cc cc' e e' g5 k5 g8 k8 (by omega)
  unfold sameM
  simp only
  obtain ⟨b1, hb1⟩ : ∃ b, decide (k = k') = b := ⟨_, rfl⟩
  obtain ⟨b2, hb2⟩ : ∃ b, sameL w w' = b := ⟨_, rfl⟩
  obtain ⟨b3, hb3⟩ : ∃ b, decide (v = v') = b := ⟨_, rfl⟩
  obtain ⟨b4, hb4⟩ : ∃ b, decide (c = c') = b := ⟨_, rfl⟩
  obtain ⟨b5, hb5⟩ : ∃ b, decide (t = t') = b := ⟨_, rfl⟩
  obtain ⟨b6, hb6⟩ : ∃ b, decide (e = e') = b := ⟨_, rfl⟩
  obtain ⟨b7, hb7⟩ : ∃ b, decide (x = x') = b := ⟨_, rfl⟩
  rw [hb1, hb2, hb3, hb4, hb5, hb6, hb7]
  rw [hb2] at hW
  rw [hb3] at hV
  rw [hb6] at hE
  have hW := Lib.hid hW
  have hV := Lib.hid hV
  have hE := Lib.hid hE
  cases b1
  · simp -dsimp -implicitDefEqProofs (disch := first | omega | assumption | (simp only [Option.isSome_some, Qt0]; done) | (simp only [UInt64.reduceToNat, UInt32.reduceToNat, UInt8.reduceToNat, List.length_cons, List.length_nil, List.length_append, Int.toNat_natCast] <;> omega) | fail) only [Nat.reduceLT, Nat.reduceLeDiff, Nat.reduceEqDiff, ↓reduceIte, Int.reduceLT, Int.reduceLE, Int.reduceToNat, Int.reduceEq, Int.reduceNe, Nat.reduceAdd, UInt8.reduceOfNat, UInt16.reduceOfNat, UInt32.reduceOfNat, UInt64.reduceOfNat, UInt64.reduceToNat, UInt32.reduceToNat, UInt16.reduceToNat, UInt8.reduceToNat, Int.reduceAdd, Int.reduceSub, Int.reduceMul, Nat.reduceMul, Qp0, Qp1, Ql0, Qe0, rd_M, rdM_some, hm, hm2, hb1]
    exact ⟨_, PH.Le.refl _, by first | trivial | simp, hle⟩
  cases b2
  · simp -dsimp -implicitDefEqProofs (disch := first | omega | assumption | (simp only [Option.isSome_some, Qt0]; done) | (simp only [UInt64.reduceToNat, UInt32.reduceToNat, UInt8.reduceToNat, List.length_cons, List.length_nil, List.length_append, Int.toNat_natCast] <;> omega) | fail) only [Nat.reduceLT, Nat.reduceLeDiff, Nat.reduceEqDiff, ↓reduceIte, Int.reduceLT, Int.reduceLE, Int.reduceToNat, Int.reduceEq, Int.reduceNe, Nat.reduceAdd, UInt8.reduceOfNat, UInt16.reduceOfNat, UInt32.reduceOfNat, UInt64.reduceOfNat, UInt64.reduceToNat, UInt32.reduceToNat, UInt16.reduceToNat, UInt8.reduceToNat, Int.reduceAdd, Int.reduceSub, Int.reduceMul, Nat.reduceMul, Qp0, Qp1, Ql0, Qe0, rd_M, rdM_some, hm, hm2, hb1]
    refine hW.out.mono ?_
    rintro v hq ⟨rfl, hz⟩
    obtain rfl := hz.symm
    simp -dsimp -implicitDefEqProofs (disch := first | omega | assumption | (simp only [Option.isSome_some, Qt0]; done) | (simp only [UInt64.reduceToNat, UInt32.reduceToNat, UInt8.reduceToNat, List.length_cons, List.length_nil, List.length_append, Int.toNat_natCast] <;> omega) | fail) only [Nat.reduceLT, Nat.reduceLeDiff, Nat.reduceEqDiff, ↓reduceIte, Int.reduceLT, Int.reduceLE, Int.reduceToNat, Int.reduceEq, Int.reduceNe, Nat.reduceAdd, UInt8.reduceOfNat, UInt16.reduceOfNat, UInt32.reduceOfNat, UInt64.reduceOfNat, UInt64.reduceToNat, UInt32.reduceToNat, UInt16.reduceToNat, UInt8.reduceToNat, Int.reduceAdd, Int.reduceSub, Int.reduceMul, Nat.reduceMul, Qp0, Qp1, Ql0, Qe0, rd_M, rdM_some, hm, hm2, hb1]
    exact ⟨_, PH.Le.refl _, by first | trivial | simp, hle⟩
  simp -dsimp -implicitDefEqProofs (disch := first | omega | assumption | (simp only [Option.isSome_some, Qt0]; done) | (simp only [UInt64.reduceToNat, UInt32.reduceToNat, UInt8.reduceToNat, List.length_cons, List.length_nil, List.length_append, Int.toNat_natCast] <;> omega) | fail) only [Nat.reduceLT, Nat.reduceLeDiff, Nat.reduceEqDiff, ↓reduceIte, Int.reduceLT, Int.reduceLE, Int.reduceToNat, Int.reduceEq, Int.reduceNe, Nat.reduceAdd, UInt8.reduceOfNat, UInt16.reduceOfNat, UInt32.reduceOfNat, UInt64.reduceOfNat, UInt64.reduceToNat, UInt32.reduceToNat, UInt16.reduceToNat, UInt8.reduceToNat, Int.reduceAdd, Int.reduceSub, Int.reduceMul, Nat.reduceMul, Qp0, Qp1, Ql0, Qe0, rd_M, rdM_some, hm, hm2, hb1]
  refine hW.out.mono ?_
  rintro v hq ⟨rfl, hz⟩
  obtain rfl := hz.symm
  simp -dsimp -implicitDefEqProofs (disch := first | omega | assumption | (simp only [Option.isSome_some, Qt0]; done) | (simp only [UInt64.reduceToNat, UInt32.reduceToNat, UInt8.reduceToNat, List.length_cons, List.length_nil, List.length_append, Int.toNat_natCast] <;> omega) | fail) only [Nat.reduceLT, Nat.reduceLeDiff, Nat.reduceEqDiff, ↓reduceIte, Int.reduceLT, Int.reduceLE, Int.reduceToNat, Int.reduceEq, Int.reduceNe, Nat.reduceAdd, UInt8.reduceOfNat, UInt16.reduceOfNat, UInt32.reduceOfNat, UInt64.reduceOfNat, UInt64.reduceToNat, UInt32.reduceToNat, UInt16.reduceToNat, UInt8.reduceToNat, Int.reduceAdd, Int.reduceSub, Int.reduceMul, Nat.reduceMul, Qp0, Qp1, Ql0, Qe0, rd_M, rdM_some, hm, hm2, hb1]
  refine hV.out.mono ?_
  rintro r hq ⟨rfl, hz⟩; obtain rfl := hz.symm
  cases b3
  · simp -dsimp -implicitDefEqProofs (disch := first | omega | assumption | (simp only [Option.isSome_some, Qt0]; done) | (simp only [UInt64.reduceToNat, UInt32.reduceToNat, UInt8.reduceToNat, List.length_cons, List.length_nil, List.length_append, Int.toNat_natCast] <;> omega) | fail) only [Nat.reduceLT, Nat.reduceLeDiff, Nat.reduceEqDiff, ↓reduceIte, Int.reduceLT, Int.reduceLE, Int.reduceToNat, Int.reduceEq, Int.reduceNe, Nat.reduceAdd, UInt8.reduceOfNat, UInt16.reduceOfNat, UInt32.reduceOfNat, UInt64.reduceOfNat, UInt64.reduceToNat, UInt32.reduceToNat, UInt16.reduceToNat, UInt8.reduceToNat, Int.reduceAdd, Int.reduceSub, Int.reduceMul, Nat.reduceMul, Qp0, Qp1, Ql0, Qe0, rd_M, rdM_some, hm, hm2]
    exact ⟨_, PH.Le.refl _, by first | trivial | simp, hle⟩
  cases b4
  · simp -dsimp -implicitDefEqProofs (disch := first | omega | assumption | (simp only [Option.isSome_some, Qt0]; done) | (simp only [UInt64.reduceToNat, UInt32.reduceToNat, UInt8.reduceToNat, List.length_cons, List.length_nil, List.length_append, Int.toNat_natCast] <;> omega) | fail) only [Nat.reduceLT, Nat.reduceLeDiff, Nat.reduceEqDiff, ↓reduceIte, Int.reduceLT, Int.reduceLE, Int.reduceToNat, Int.reduceEq, Int.reduceNe, Nat.reduceAdd, UInt8.reduceOfNat, UInt16.reduceOfNat, UInt32.reduceOfNat, UInt64.reduceOfNat, UInt64.reduceToNat, UInt32.reduceToNat, UInt16.reduceToNat, UInt8.reduceToNat, Int.reduceAdd, Int.reduceSub, Int.reduceMul, Nat.reduceMul, Qp0, Qp1, Ql0, Qe0, rd_M, rdM_some, hm, hm2, hb4]
    exact ⟨_, PH.Le.refl _, by first | trivial | simp, hle⟩
  cases b5
  · simp -dsimp -implicitDefEqProofs (disch := first | omega | assumption | (simp only [Option.isSome_some, Qt0]; done) | (simp only [UInt64.reduceToNat, UInt32.reduceToNat, UInt8.reduceToNat, List.length_cons, List.length_nil, List.length_append, Int.toNat_natCast] <;> omega) | fail) only [Nat.reduceLT, Nat.reduceLeDiff, Nat.reduceEqDiff, ↓reduceIte, Int.reduceLT, Int.reduceLE, Int.reduceToNat, Int.reduceEq, Int.reduceNe, Nat.reduceAdd, UInt8.reduceOfNat, UInt16.reduceOfNat, UInt32.reduceOfNat, UInt64.reduceOfNat, UInt64.reduceToNat, UInt32.reduceToNat, UInt16.reduceToNat, UInt8.reduceToNat, Int.reduceAdd, Int.reduceSub, Int.reduceMul, Nat.reduceMul, Qp0, Qp1, Ql0, Qe0, rd_M, rdM_some, hm, hm2, hb4, hb5]
    exact ⟨_, PH.Le.refl _, by first | trivial | simp, hle⟩
  simp -dsimp -implicitDefEqProofs (disch := first | omega | assumption | (simp only [Option.isSome_some, Qt0]; done) | (simp only [UInt64.reduceToNat, UInt32.reduceToNat, UInt8.reduceToNat, List.length_cons, List.length_nil, List.length_append, Int.toNat_natCast] <;> omega) | fail) only [Nat.reduceLT, Nat.reduceLeDiff, Nat.reduceEqDiff, ↓reduceIte, Int.reduceLT, Int.reduceLE, Int.reduceToNat, Int.reduceEq, Int.reduceNe, Nat.reduceAdd, UInt8.reduceOfNat, UInt16.reduceOfNat, UInt32.reduceOfNat, UInt64.reduceOfNat, UInt64.reduceToNat, UInt32.reduceToNat, UInt16.reduceToNat, UInt8.reduceToNat, Int.reduceAdd, Int.reduceSub, Int.reduceMul, Nat.reduceMul, Qp0, Qp1, Ql0, Qe0, rd_M, rdM_some, hm, hm2, hb4, hb5]
  refine hE.out.mono ?_
  rintro r hq ⟨rfl, hz⟩; obtain rfl := hz.symm
  cases b6
  · simp -dsimp -implicitDefEqProofs (disch := first | omega | assumption | (simp only [Option.isSome_some, Qt0]; done) | (simp only [UInt64.reduceToNat, UInt32.reduceToNat, UInt8.reduceToNat, List.length_cons, List.length_nil, List.length_append, Int.toNat_natCast] <;> omega) | fail) only [Nat.reduceLT, Nat.reduceLeDiff, Nat.reduceEqDiff, ↓reduceIte, Int.reduceLT, Int.reduceLE, Int.reduceToNat, Int.reduceEq, Int.reduceNe, Nat.reduceAdd, UInt8.reduceOfNat, UInt16.reduceOfNat, UInt32.reduceOfNat, UInt64.reduceOfNat, UInt64.reduceToNat, UInt32.reduceToNat, UInt16.reduceToNat, UInt8.reduceToNat, Int.reduceAdd, Int.reduceSub, Int.reduceMul, Nat.reduceMul, Qp0, Qp1, Ql0, Qe0, rd_M, rdM_some, hm, hm2]
    exact ⟨_, PH.Le.refl _, by first | trivial | simp, hle⟩
  simp -dsimp -implicitDefEqProofs (disch := first | omega | assumption | (simp only [Option.isSome_some, Qt0]; done) | (simp only [UInt64.reduceToNat, UInt32.reduceToNat, UInt8.reduceToNat, List.length_cons, List.length_nil, List.length_append, Int.toNat_natCast] <;> omega) | fail) only [Nat.reduceLT, Nat.reduceLeDiff, Nat.reduceEqDiff, ↓reduceIte, Int.reduceLT, Int.reduceLE, Int.reduceToNat, Int.reduceEq, Int.reduceNe, Nat.reduceAdd, UInt8.reduceOfNat, UInt16.reduceOfNat, UInt32.reduceOfNat, UInt64.reduceOfNat, UInt64.reduceToNat, UInt32.reduceToNat, UInt16.reduceToNat, UInt8.reduceToNat, Int.reduceAdd, Int.reduceSub, Int.reduceMul, Nat.reduceMul, Qp0, Qp1, Ql0, Qe0, rd_M, rdM_some, hm, hm2, hb7]
  exact ⟨_, PH.Le.refl _, by first | trivial | simp, hle⟩
set_option maxRecDepth 20000 in
theorem plain_any (w0 : World) (h : PH) (m : Ms) (p : Mp7) : PCalls Try.prog w0 11 [.agg (msL m p).toArray] h fun r h' => r = .agg (msL m p).toArray ∧ PH.Le h h' := by
  refine PCalls_body Try.func11 (by kernel_rfl) rfl _ Try.ntmps11 (by kernel_rfl) (by kernel_rfl) _ Try.results11 ?_
  have ha := msL_one m p
  unfold msL at *
  simp -dsimp -implicitDefEqProofs (disch := first | omega | assumption | (simp only [Option.isSome_some, Qt0]; done) | (simp only [UInt64.reduceToNat, UInt32.reduceToNat, UInt8.reduceToNat, List.length_cons, List.length_nil, List.length_append, Int.toNat_natCast] <;> omega) | fail) only [Nat.reduceLT, Nat.reduceLeDiff, Nat.reduceEqDiff, ↓reduceIte, Int.reduceLT, Int.reduceLE, Int.reduceToNat, Int.reduceEq, Int.reduceNe, Nat.reduceAdd, UInt8.reduceOfNat, UInt16.reduceOfNat, UInt32.reduceOfNat, UInt64.reduceOfNat, UInt64.reduceToNat, UInt32.reduceToNat, UInt16.reduceToNat, UInt8.reduceToNat, Int.reduceAdd, Int.reduceSub, Int.reduceMul, Nat.reduceMul, Qp0, Qp1, Ql0, Qe0]
  refine fun mb hmb => ?_
  have hl1 := (PH.Le.refl h).new mb ⟨[.int .i64 m.k, .slice p.A m.w.length p.a, .slice p.B m.v.length p.b, .int .i64 m.c, .int .i64 m.t, .slice p.C m.e.length p.c, .int .i64 m.x], 7⟩ hmb
  have hm : (h.new mb ⟨[.int .i64 m.k, .slice p.A m.w.length p.a, .slice p.B m.v.length p.b, .int .i64 m.c, .int .i64 m.t, .slice p.C m.e.length p.c, .int .i64 m.x], 7⟩).m mb = some ⟨[.int .i64 m.k, .slice p.A m.w.length p.a, .slice p.B m.v.length p.b, .int .i64 m.c, .int .i64 m.t, .slice p.C m.e.length p.c, .int .i64 m.x], 7⟩ := by rw [PH.new_m, if_pos rfl]
  obtain ⟨q1, hq1⟩ : ∃ q1, h.new mb ⟨[.int .i64 m.k, .slice p.A m.w.length p.a, .slice p.B m.v.length p.b, .int .i64 m.c, .int .i64 m.t, .slice p.C m.e.length p.c, .int .i64 m.x], 7⟩ = q1 := ⟨_, rfl⟩
  rw [hq1] at hl1 hm
  simp -dsimp -implicitDefEqProofs (disch := first | omega | assumption | (simp only [Option.isSome_some, Qt0]; done) | (simp only [UInt64.reduceToNat, UInt32.reduceToNat, UInt8.reduceToNat, List.length_cons, List.length_nil, List.length_append, Int.toNat_natCast] <;> omega) | fail) only [Nat.reduceLT, Nat.reduceLeDiff, Nat.reduceEqDiff, ↓reduceIte, Int.reduceLT, Int.reduceLE, Int.reduceToNat, Int.reduceEq, Int.reduceNe, Nat.reduceAdd, UInt8.reduceOfNat, UInt16.reduceOfNat, UInt32.reduceOfNat, UInt64.reduceOfNat, UInt64.reduceToNat, UInt32.reduceToNat, UInt16.reduceToNat, UInt8.reduceToNat, Int.reduceAdd, Int.reduceSub, Int.reduceMul, Nat.reduceMul, Qp0, Qp1, Ql0, Qe0, hq1]
  refine fun nb hnb => ?_
  have hnb1 : q1.top ≤ nb := hnb
  have hne : mb ≠ nb := by have := q1.lt _ _ hm; omega
  have hl2 := fun k => (PH.Le.refl q1).new nb k hnb1
  have hm3 : ∀ k, (q1.new nb k).m mb = some ⟨[.int .i64 m.k, .slice p.A m.w.length p.a, .slice p.B m.v.length p.b, .int .i64 m.c, .int .i64 m.t, .slice p.C m.e.length p.c, .int .i64 m.x], 7⟩ := fun k => (hl2 k).m _ _ hm
  simp -dsimp -implicitDefEqProofs (disch := first | omega | assumption | (simp only [Option.isSome_some, Qt0]; done) | (simp only [UInt64.reduceToNat, UInt32.reduceToNat, UInt8.reduceToNat, List.length_cons, List.length_nil, List.length_append, Int.toNat_natCast] <;> omega) | fail) only [Nat.reduceLT, Nat.reduceLeDiff, Nat.reduceEqDiff, ↓reduceIte, Int.reduceLT, Int.reduceLE, Int.reduceToNat, Int.reduceEq, Int.reduceNe, Nat.reduceAdd, UInt8.reduceOfNat, UInt16.reduceOfNat, UInt32.reduceOfNat, UInt64.reduceOfNat, UInt64.reduceToNat, UInt32.reduceToNat, UInt16.reduceToNat, UInt8.reduceToNat, Int.reduceAdd, Int.reduceSub, Int.reduceMul, Nat.reduceMul, Qp0, Qp1, Ql0, Qe0, rd_M, rdM_some, hm, if_neg hne, hm3, rdN_new, List.set_cons_zero, List.set_cons_succ, List.take_zero, List.drop_succ_cons, List.drop_zero, List.drop_nil, List.nil_append, List.append_nil, List.take_succ_cons, ite_true, PH.new_new]
  exact ⟨_, PH.Le.refl _, by first | rfl | trivial, hl1.trans (hl2 _)⟩
end Go.Proofs.Ytdhgmifgjaedbaa


/- A drawn region by a tree of plans: two operations that make memory may be ready at once. No condition. -/
namespace Go.Proofs.Ytdhgmifgjaedbaa.Px
set_option linter.unusedVariables false
set_option linter.unusedSimpArgs false
open Go.RowKit
/-- A plan: take one operation; or two that are ready at once, each with what comes behind it. -/
inductive Pl where
  | done
  | take (i : Nat) (p : Pl)
  | both (i : Nat) (p : Pl) (j : Nat) (q : Pl)
  | only (i : Nat) (p : Pl)
section
variable {P : Program} {w0 : World} {h : PH} {N : Nat} {K : Fr → PH → Prop}
def Pl.len : Pl → Nat
  | .done => 0
  | .take _ p => p.len + 1
  | .both _ p _ q => max p.len q.len + 1
  | .only _ p => p.len + 1
end
end Go.Proofs.Ytdhgmifgjaedbaa.Px


/- A drawn region by a tree of plans whose last operation may undo what was held. No condition. -/
namespace Go.Proofs.Ytdhgmifgjaedbaa.Px
set_option linter.unusedVariables false
set_option linter.unusedSimpArgs false
open Go.RowKit
section
variable {P : Program} {ops : Array Oper} {Q : Exit → Act → World → Prop} {S : World → Prop}
def precB (ops : Array Oper) (i k : Nat) : Bool := match ops[k]? with
  | some o => o.after.any fun e => Region.binds .any e && e.on == i
  | none => false
def reachB (ops : Array Oper) : Nat → Nat → Nat → Bool
  | 0, _, _ => false
  | n + 1, i, k => precB ops i k || match ops[k]? with
    | some o => o.after.any fun e => Region.binds .any e && reachB ops n i e.on
    | none => false
/-- An operation that neither reads nor changes memory. -/
def pureB (P : Program) (o : Op) : Bool := match o with
  | .load .. => false
  | .lookup .. => false
  | .call { callee := .builtin .len, .. } => false
  | .convert s d _ => !isSliceB P d && !isSliceB P s
  | o => silentB P o
/-- All that reads memory comes ahead of operation j. -/
def sinkB (P : Program) (ops : Array Oper) (j : Nat) : Bool := (List.range ops.size).all fun i => i == j || (match ops[i]? with
  | some o => !silentB P o.op || pureB P o.op
  | none => true) || reachB ops ops.size i j
/-- What an operation waits for has come, if it has. -/
def Closed (ops : Array Oper) (listed : Array Bool) : Prop := ∀ k, listed.getD k false = true → ∀ o, ops[k]? = some o → ∀ e ∈ o.after, Region.binds .any e = true → listed.getD e.on false = true
theorem reach_listed {listed : Array Bool} (hc : Closed ops listed) : ∀ (n i k : Nat), (∀ o, ops[k]? = some o → ∀ e ∈ o.after, Region.binds .any e = true → listed.getD e.on false = true) → reachB ops n i k = true → listed.getD i false = true
  | 0, i, k, _, h => by simp [reachB] at h
  | n + 1, i, k, hp, h => by
    rw [reachB, Bool.or_eq_true] at h
    rcases h with h | h
    · unfold precB at h
      split at h
      · rename_i o ho
        simp only [Array.any_eq_true', Bool.and_eq_true, beq_iff_eq] at h
        obtain ⟨e, he, hb, rfl⟩ := h
        exact hp o ho e he hb
      · cases h
    · split at h
      · rename_i o ho
        simp only [Array.any_eq_true', Bool.and_eq_true] at h
        obtain ⟨e, he, hb, hr⟩ := h
        exact reach_listed hc n i e.on (hc e.on (hp o ho e he hb)) hr
      · cases h
theorem getD_both {listed : Array Bool} {i : Nat} (h : listed.getD i true = false) : listed.getD i false = false := by
  rcases Nat.lt_or_ge i listed.size with h' | h'
  · simp [h'] at h ⊢; exact h
  · simp [Array.getElem?_eq_none h'] at h
theorem Closed.set {listed : Array Bool} (hc : Closed ops listed) {i : Nat} (hi : i ∈ Region.ready .any ops listed) : Closed ops (listed.setIfInBounds i true) := by
  intro k hk o ho e he hb
  refine getD_set_true ?_
  by_cases hki : i = k
  · subst hki
    obtain ⟨_, o', ho', hall⟩ := mem_ready.1 hi
    rw [ho] at ho'
    obtain rfl := Option.some.inj ho'
    exact hall e he hb
  · exact hc k (by rw [getD_set_ne false hki] at hk; exact hk) o ho e he hb
/-- As the kit's walk of any order with what is held; a last operation need not keep it. -/
def wpAnyM (P : Program) (ops : Array Oper) (Q : Exit → Act → World → Prop) (S : World → Prop) : Nat → Array Bool → Act → World → Prop
  | 0, listed, a, w => Region.ready .any ops listed = [] ∧ Q .normal a w
  | n + 1, listed, a, w => (Region.ready .any ops listed = [] → Q .normal a w) ∧ ∀ i ∈ Region.ready .any ops listed,
      wpOp P ops Q i (fun a' w' => S w' ∧ wpAnyM P ops Q S n (listed.setIfInBounds i true) a' w') a w ∨
      (sinkB P ops i = true ∧ wpOp P ops Q i (wpAny P .any ops Q n (listed.setIfInBounds i true)) a w)
theorem wpAnyM_any : ∀ (n : Nat) (listed : Array Bool) (a : Act) (w : World), wpAnyM P ops Q S n listed a w → wpAny P .any ops Q n listed a w
  | 0, _, _, _, h => h
  | n + 1, _, _, _, h => ⟨h.1, fun i hi => (h.2 i hi).elim (wpOp_mono fun a' w' h' => wpAnyM_any n _ a' w' h'.2) (·.2)⟩
theorem wpAnyM_first {i : Nat} {oi : Oper} {v : Value} (hi : ops[i]? = some oi) (hsil : silentB P oi.op = true) (hpu : pureB P oi.op = false) (hsel : ∀ (j : Nat) (o : Oper) cs b, ops[j]? = some o → o.op ≠ .select cs b)
    (hQ : ∀ c a w, Q (.panic c) (a.put oi.dst v) w → Q (.panic c) a w) :
    ∀ (n : Nat) (listed : Array Bool) (a : Act) (w : World), Closed ops listed →
      (∀ j oj, ops[j]? = some oj → j ≠ i → listed.getD j true = false → (∀ e ∈ oj.after, Region.binds .any e = true → e.on ≠ i) → oi.apart ops oj = true) →
      i ∈ Region.ready .any ops listed → YieldsIf P ops S oi v a → S w →
      wpAnyM P ops Q S n (listed.setIfInBounds i true) (a.put oi.dst v) w → wpAnyM P ops Q S (n + 1) listed a w := by
  intro n
  induction n with
  | zero =>
    intro listed a w _ _ hr hy hS H
    refine ⟨fun h => (by rw [h] at hr; cases hr), fun j hj => ?_⟩
    by_cases hji : j = i
    · subst hji; exact .inl (hy.wpOp hi hS ⟨hS, H⟩)
    · have := ready_mono hj hji
      rw [H.1] at this
      cases this
  | succ n ih =>
    intro listed a w hc hfree hr hy hS H
    refine ⟨fun h => (by rw [h] at hr; cases hr), fun j hj => ?_⟩
    by_cases hji : j = i
    · subst hji; exact .inl (hy.wpOp hi hS ⟨hS, H⟩)
    · obtain ⟨hjun, oj, hoj, hall⟩ := mem_ready.1 hj
      have hiun := (mem_ready.1 hr).1
      rcases H.2 j (ready_mono hj hji) with h1 | ⟨hsk, _⟩
      · have hnot : ∀ e ∈ oj.after, Region.binds .any e = true → e.on ≠ i := fun e he hb heq => by
          have h1 := hall e he hb
          rw [heq, getD_both hiun] at h1
          cases h1
        have h2 := wpOp_putIf hoj (hfree j oj hoj hji hjun hnot) (fun cs b => hsel i oi cs b hi) (fun cs b => hsel j oj cs b hoj) hQ hy h1
        have hfree' : ∀ k ok, ops[k]? = some ok → k ≠ i → (listed.setIfInBounds j true).getD k true = false →
            (∀ e ∈ ok.after, Region.binds .any e = true → e.on ≠ i) → oi.apart ops ok = true := fun k ok hk hki hun hno => by
          refine hfree k ok hk hki ?_ hno
          by_cases hjk : j = k
          · subst hjk; exact hjun
          · rw [getD_set_ne true hjk] at hun; exact hun
        refine .inl (wpOp_mono (fun a' w' h3 => ⟨h3.2.1, ih (listed.setIfInBounds j true) a' w' (hc.set hj) hfree' (ready_mono hr (Ne.symm hji)) h3.1 h3.2.1 ?_⟩) h2)
        rw [Array.setIfInBounds_comm _ _ hji]
        exact h3.2.2
      · exfalso
        unfold sinkB at hsk
        simp only [List.all_eq_true, List.mem_range, Bool.or_eq_true, beq_iff_eq] at hsk
        have hlt : i < ops.size := (Array.getElem?_eq_some_iff.1 hi).1
        rcases hsk i hlt with (h | h) | h
        · exact hji h.symm
        · rw [hi] at h; simp [hsil, hpu] at h
        · have := reach_listed hc _ i j (fun o ho => by rw [hoj] at ho; obtain rfl := Option.some.inj ho; exact hall) h
          rw [getD_both hiun] at this
          cases this
/-- An operation that hangs on no memory may be taken first, whatever undoes what is held. -/
theorem wpAnyM_pure {i : Nat} {oi : Oper} {v : Value} (hi : ops[i]? = some oi) (hsel : ∀ (j : Nat) (o : Oper) cs b, ops[j]? = some o → o.op ≠ .select cs b)
    (hQ : ∀ c a w, Q (.panic c) (a.put oi.dst v) w → Q (.panic c) a w) :
    ∀ (n : Nat) (listed : Array Bool) (a : Act) (w : World), 
      (∀ j oj, ops[j]? = some oj → j ≠ i → listed.getD j true = false → (∀ e ∈ oj.after, Region.binds .any e = true → e.on ≠ i) → oi.apart ops oj = true) →
      i ∈ Region.ready .any ops listed → Yields P ops oi v a → S w →
      wpAnyM P ops Q S n (listed.setIfInBounds i true) (a.put oi.dst v) w → wpAnyM P ops Q S (n + 1) listed a w := by
  intro n
  induction n with
  | zero =>
    intro listed a w _ hr hy hS H
    refine ⟨fun h => (by rw [h] at hr; cases hr), fun j hj => ?_⟩
    by_cases hji : j = i
    · subst hji; exact .inl (hy.wpOp hi ⟨hS, H⟩)
    · have := ready_mono hj hji
      rw [H.1] at this
      cases this
  | succ n ih =>
    intro listed a w hfree hr hy hS H
    refine ⟨fun h => (by rw [h] at hr; cases hr), fun j hj => ?_⟩
    by_cases hji : j = i
    · subst hji; exact .inl (hy.wpOp hi ⟨hS, H⟩)
    · obtain ⟨hjun, oj, hoj, hall⟩ := mem_ready.1 hj
      have hiun := (mem_ready.1 hr).1
      have hnot : ∀ e ∈ oj.after, Region.binds .any e = true → e.on ≠ i := fun e he hb heq => by
        have h1 := hall e he hb
        rw [heq, getD_both hiun] at h1
        cases h1
      have hfree' : ∀ k ok, ops[k]? = some ok → k ≠ i → (listed.setIfInBounds j true).getD k true = false →
          (∀ e ∈ ok.after, Region.binds .any e = true → e.on ≠ i) → oi.apart ops ok = true := fun k ok hk hki hun hno => by
        refine hfree k ok hk hki ?_ hno
        by_cases hjk : j = k
        · subst hjk; exact hjun
        · rw [getD_set_ne true hjk] at hun; exact hun
      have hap := hfree j oj hoj hji hjun hnot
      rcases H.2 j (ready_mono hj hji) with h1 | ⟨hsk, h1⟩
      · have h2 := wpOp_put hoj hap (fun cs b => hsel i oi cs b hi) (fun cs b => hsel j oj cs b hoj) hQ hy h1
        refine .inl (wpOp_mono (fun a' w' h3 => ⟨h3.2.1, ih (listed.setIfInBounds j true) a' w' hfree' (ready_mono hr (Ne.symm hji)) h3.1 h3.2.1 ?_⟩) h2)
        rw [Array.setIfInBounds_comm _ _ hji]
        exact h3.2.2
      · have h2 := wpOp_put hoj hap (fun cs b => hsel i oi cs b hi) (fun cs b => hsel j oj cs b hoj) hQ hy h1
        refine .inr ⟨hsk, wpOp_mono (fun a' w' h3 => ?_) h2⟩
        refine wpAny_first hi hsel hQ n (listed.setIfInBounds j true) a' w' hfree' (ready_mono hr (Ne.symm hji)) h3.1 ?_
        rw [Array.setIfInBounds_comm _ _ hji]
        exact h3.2
end
/-- A plan: take one operation; the only one that is ready; two that are ready at once, each with what comes behind it; the last ones, each the only one that is ready. -/
inductive Tr where
  | done
  | take (i : Nat) (p : Tr)
  | only (i : Nat) (p : Tr)
  | both (i : Nat) (p : Tr) (j : Nat) (q : Tr)
  | cut (l : List Nat)
section
variable {P : Program} {w0 : World} {h : PH} {N : Nat} {K : Fr → PH → Prop}
def Tr.len : Tr → Nat
  | .done => 0
  | .take _ p => p.len + 1
  | .only _ p => p.len + 1
  | .both _ p _ q => max p.len q.len + 1
  | .cut l => l.length
def cutOk (ops : Array Oper) : List Nat → Array Bool → Bool
  | [], listed => (Region.ready .any ops listed).isEmpty
  | i :: l, listed => (Region.ready .any ops listed == [i]) && cutOk ops l (listed.setIfInBounds i true)
def trOk (P : Program) (ops : Array Oper) : Tr → Array Bool → Bool
  | .done, listed => (Region.ready .any ops listed).isEmpty
  | .take i p, listed => (match ops[i]? with
    | some o => if silentB P o.op = true then Region.free .any ops listed i && (Region.ready .any ops listed).contains i else Region.ready .any ops listed == [i]
    | none => false) && trOk P ops p (listed.setIfInBounds i true)
  | .only i p, listed => (Region.ready .any ops listed == [i]) && trOk P ops p (listed.setIfInBounds i true)
  | .both i p j q, listed => (Region.ready .any ops listed == [i, j]) && trOk P ops p (listed.setIfInBounds i true) && trOk P ops q (listed.setIfInBounds j true)
  | .cut l, listed => (match l with
    | [] => false
    | i :: _ => sinkB P ops i) && cutOk ops l listed
def vcCut (P : Program) (w0 : World) (ops : Array Oper) : List Nat → Fr → PH → (Fr → PH → Prop) → Prop
  | [], f, h, K => K f h
  | i :: l, f, h, K => match ops[i]? with
    | some o => vcG P w0 ops o f h fun f' h' => vcCut P w0 ops l f' h' K
    | none => False
def vcTr (P : Program) (w0 : World) (hS : PH) (ops : Array Oper) : Tr → Fr → PH → (Fr → PH → Prop) → Prop
  | .done, f, h, K => K f h
  | .take i p, f, h, K => match ops[i]? with
    | some o => if silentB P o.op = true then vcG P w0 ops o f hS fun f' _ => vcTr P w0 hS ops p f' h K
      else vcG P w0 ops o f h fun f' h' => PH.Sub w0 hS h' ∧ vcTr P w0 hS ops p f' h' K
    | none => False
  | .only i p, f, h, K => (match ops[i]? with
    | some o => vcG P w0 ops o f h fun f' h' => PH.Sub w0 hS h' ∧ vcTr P w0 hS ops p f' h' K
    | none => False)
  | .both i p j q, f, h, K => (match ops[i]? with
    | some o => vcG P w0 ops o f h fun f' h' => PH.Sub w0 hS h' ∧ vcTr P w0 hS ops p f' h' K
    | none => False) ∧ (match ops[j]? with
    | some o => vcG P w0 ops o f h fun f' h' => PH.Sub w0 hS h' ∧ vcTr P w0 hS ops q f' h' K
    | none => False)
  | .cut l, f, h, K => vcCut P w0 ops l f h K
/-- As vcOp_silent, of an operation that hangs on no memory. -/
def SP (P : Program) (N : Nat) (o : Oper) (f : Fr) (h : PH) (K : Fr → PH → Prop) : Prop :=
  ∃ v, K (f.put o.dst v) h ∧ ∀ a w, FSat f a N → (execOp a.eval o).run P w = .ok (.value v) w
theorem SP_value {o : Oper} {f : Fr} {v : Value} (hr : ∀ a w, FSat f a N → (execOp a.eval o).run P w = .ok (.value v) w) (hk : K (f.put o.dst v) h) : SP P N o f h K := ⟨v, hk, hr⟩
theorem SP_yld {o : Oper} {f : Fr} {m : Sem Value} (hr : ∀ a, FSat f a N → execOp a.eval o = (do pure (Next.value (← m)))) (hk : Yld P m fun r => K (f.put o.dst r) h) : SP P N o f h K := by
  obtain ⟨r, h1, h2⟩ := hk
  refine ⟨r, h2, fun a w fs => ?_⟩
  rw [hr a fs]
  simp only [Sem.run_bind, h1, Result.andThen_ok, Sem.run_pure]
theorem SP_bYld {o : Oper} {f : Fr} {m : Sem Value} {c : Call} {b : Builtin} {vs : List Value} (hb : c.callee = .builtin b) (he : evs f c.args = some vs) (ho : o.op = .call c)
    (hm : ∀ ks, builtin b c.argTypes o.type ks vs.toArray = (do pure (Next.value (← m)))) (hk : Yld P m fun r => K (f.put o.dst r) h) : SP P N o f h K := by
  obtain ⟨r, h1, h2⟩ := hk
  refine ⟨r, h2, fun a w fs => ?_⟩
  rw [builtin_run (g := fun _ _ => True) hb (evs_sound fs he) ho hm]
  simp only [Sem.run_bind, h1, Result.andThen_ok, Sem.run_pure]
set_option maxHeartbeats 1000000 in
theorem vcOp_pure {o : Oper} {f : Fr} (hs : pureB P o.op = true) (hv : vcOp P w0 o f h K) : SP P N o f h K := by
  unfold vcOp at hv
  cases ho : o.op
  all_goals simp only [ho] at hv
  case move x =>
    obtain ⟨v, h1, h2⟩ := vev_some hv
    exact SP_value (fun a w fs => by unfold execOp; simp only [ho, ev_sound fs h1, Sem.run_pure]) h2
  case assign x =>
    obtain ⟨v, h1, h2⟩ := vev_some hv
    exact SP_value (fun a w fs => by unfold execOp; simp only [ho, ev_sound fs h1, Sem.run_pure]) h2
  case pick c x y =>
    obtain ⟨t, h1, h2⟩ := vev_some hv
    obtain ⟨u, h3, h4⟩ := vev_some h2
    obtain ⟨v, h5, h6⟩ := vev_some h4
    split at h6
    · rename_i t
      refine SP_value (fun a w fs => ?_) h6
      unfold execOp
      simp only [ho, ev_sound fs h1, ev_sound fs h3, ev_sound fs h5, asBool, Sem.run_bind, Sem.run_pure, Result.andThen_ok]
    · exact h6.elim
  case nilCheck x =>
    obtain ⟨v, h1, r, h2, h3⟩ := vev_some hv
    exact SP_value (fun a w fs => nil_run ho (ev_sound fs h1) (h2 w)) h3
  case binOp op t x y yt =>
    obtain ⟨u, h1, h2⟩ := vev_some hv
    obtain ⟨v, h3, h4⟩ := vev_some h2
    exact SP_yld (fun a fs => by unfold execOp; simp only [ho, ev_sound fs h1, ev_sound fs h3]; rfl) h4
  case unOp op t x =>
    obtain ⟨v, h1, h2⟩ := vev_some hv
    exact SP_yld (fun a fs => by unfold execOp; simp only [ho, ev_sound fs h1]) h2
  case makeInterface t x =>
    obtain ⟨v, h1, h2⟩ := vev_some hv
    exact SP_yld (fun a fs => by unfold execOp; simp only [ho, ev_sound fs h1]) h2
  case makeFunc fn first cap =>
    obtain ⟨u, h1, h2⟩ := vevs_some hv
    obtain ⟨v, h3, h4⟩ := vevs_some h2
    exact SP_value (fun a w fs => by unfold execOp; simp only [ho, evs_sound fs h1, evs_sound fs h3, Instr.makeFunc, Sem.run_bind, Sem.run_pure, Result.andThen_ok]) h4
  case slice t x lo hi mx =>
    obtain ⟨v, h1, h2⟩ := vev_some hv
    obtain ⟨lo', l1, h2⟩ := vop_some h2
    obtain ⟨hi', l2, h2⟩ := vop_some h2
    obtain ⟨mx', l3, h2⟩ := vop_some h2
    exact SP_yld (fun a fs => by unfold execOp; simp only [ho, ev_sound fs h1, l1 fs, l2 fs, l3 fs]) h2
  case fieldAddr t x i =>
    obtain ⟨v, h1, h2⟩ := vev_some hv
    exact SP_yld (fun a fs => by unfold execOp; simp only [ho, ev_sound fs h1]) h2
  case field t x i =>
    obtain ⟨v, h1, h2⟩ := vev_some hv
    exact SP_yld (fun a fs => by unfold execOp; simp only [ho, ev_sound fs h1]) h2
  case indexAddr t x i =>
    obtain ⟨u, h1, h2⟩ := vev_some hv
    obtain ⟨v, h3, h4⟩ := vev_some h2
    exact SP_yld (fun a fs => by unfold execOp; simp only [ho, ev_sound fs h1, ev_sound fs h3]) h4
  case index t x i =>
    obtain ⟨u, h1, h2⟩ := vev_some hv
    obtain ⟨v, h3, h4⟩ := vev_some h2
    exact SP_yld (fun a fs => by unfold execOp; simp only [ho, ev_sound fs h1, ev_sound fs h3]) h4
  case extract x i =>
    obtain ⟨v, h1, h2⟩ := vev_some hv
    split at h2
    · rename_i vs
      split at h2
      · rename_i u hu
        exact SP_value (fun a w fs => by unfold execOp; simp only [ho, ev_sound fs h1, Instr.extract, hu, Sem.run_bind, Sem.run_pure, Result.andThen_ok]) h2
      · exact h2.elim
    · exact h2.elim
  case typeAssert x t u ok =>
    obtain ⟨v, h1, h2⟩ := vev_some hv
    exact SP_yld (fun a fs => by unfold execOp; simp only [ho, ev_sound fs h1]) h2
  case build t parts =>
    obtain ⟨vs, h1, h2⟩ := vevs_some hv
    exact SP_yld (fun a fs => by unfold execOp; simp only [ho, zip_parts fs h1]) h2
  case convert s d x =>
    rw [ho] at hs
    simp only [pureB, Bool.and_eq_true, Bool.not_eq_true'] at hs
    obtain ⟨v, h1, h2⟩ := vev_some hv
    rw [hs.1, vcIf_false, hs.2, vcIf_false] at h2
    exact SP_yld (fun a fs => by unfold execOp; simp only [ho, ev_sound fs h1]) h2
  case call c =>
    rw [ho] at hs
    unfold vcCall at hv
    obtain ⟨callee, args, argTypes⟩ := c
    cases callee with
    | value x => cases hs
    | invoke r n => cases hs
    | builtin b =>
      obtain ⟨vs, h1, h2⟩ := vevs_some hv
      cases b <;> first | (exact SP_bYld rfl h1 ho (fun _ => rfl) h2) | cases hs
  all_goals (rw [ho] at hs; cases hs)
/-- One operation that is carried out. -/
theorem vcG_op {hS : PH} {ops : Array Oper} {Q : Exit → Act → World → Prop} (hok : opsOk N ops.toList = true) {k : Nat} {f : Fr} {a : Act} {w : World} (fs : FSat f a N) (s : Sim w0 h w) {R : Fr → PH → Prop} {L : Act → World → Prop} (hv : (match ops[k]? with
    | some o => vcG P w0 ops o f h R
    | none => False)) (hL : ∀ f' h' a' w', R f' h' → FSat f' a' N → Sim w0 h' w' → L a' w') : wpOp P ops Q k L a w := by
  cases ho : ops[k]? with
  | none => rw [ho] at hv; exact hv.elim
  | some o =>
    have hdo : dstOk N o.dst = true := by
      simp only [opsOk, List.all_eq_true] at hok
      exact hok o (by rw [Array.mem_toList_iff]; exact Array.mem_of_getElem? ho)
    simp only [ho] at hv
    unfold wpOp
    simp only [ho]
    rcases vcG_wanted (N := N) hv with ⟨h1, h2⟩ | ⟨h1, h2⟩
    · rw [if_pos (h2 a fs)]
      exact .inl (vcOp_sound hdo h1 a w fs s _ _ fun f' h' a' w' q r t => hL f' h' a' w' q r t)
    · rw [if_neg (by rw [h2 a fs]; simp)]
      exact hL _ _ _ _ h1 (fs.put hdo _) s
theorem vcCut_sound {hS : PH} {ops : Array Oper} {Q : Exit → Act → World → Prop} (hok : opsOk N ops.toList = true) :
    ∀ (l : List Nat) (fuel : Nat) (listed : Array Bool) (f : Fr) (h : PH), l.length ≤ fuel → cutOk ops l listed = true → vcCut P w0 ops l f h K →
      ∀ a w, FSat f a N → Sim w0 h w → (∀ f' h' a' w', K f' h' → FSat f' a' N → Sim w0 h' w' → Q .normal a' w') → wpAny P .any ops Q fuel listed a w
  | [], fuel, listed, f, h, _, hp, hv, a, w, fs, s, hK => by
    simp only [cutOk, List.isEmpty_iff] at hp
    have := hK f h a w hv fs s
    cases fuel with
    | zero => exact ⟨hp, this⟩
    | succ n => exact ⟨fun _ => this, fun i hi => by rw [hp] at hi; cases hi⟩
  | i :: l, 0, listed, f, h, hlen, hp, hv, a, w, fs, s, hK => absurd hlen (by simp)
  | i :: l, fuel + 1, listed, f, h, hlen, hp, hv, a, w, fs, s, hK => by
    simp only [cutOk, Bool.and_eq_true] at hp
    simp only [vcCut] at hv
    have hr : Region.ready .any ops listed = [i] := by simpa using hp.1
    refine ⟨fun h0 => (by rw [hr] at h0; cases h0), fun j hj => ?_⟩
    obtain rfl : j = i := by rw [hr] at hj; simpa using hj
    exact vcG_op (hS := hS) hok fs s hv fun f' h' a' w' q r t => vcCut_sound (hS := hS) hok l fuel _ f' h' (by simpa using hlen) hp.2 q a' w' r t hK
theorem vcTr_sound {hS : PH} {ops : Array Oper} {Q : Exit → Act → World → Prop} (hok : opsOk N ops.toList = true) (hsel : Region.noSelect ops = true) (hQ : ∀ c a d v w, Q (.panic c) (Act.put a d v) w → Q (.panic c) a w) :
    ∀ (l : Tr) (fuel : Nat) (listed : Array Bool) (f : Fr) (h : PH), l.len ≤ fuel → trOk P ops l listed = true → Closed ops listed → vcTr P w0 hS ops l f h K → PH.Sub w0 hS h →
      ∀ a w, FSat f a N → Sim w0 h w → (∀ f' h' a' w', K f' h' → FSat f' a' N → Sim w0 h' w' → Q .normal a' w') → wpAnyM P ops Q (Sim w0 hS) fuel listed a w
  | .done, fuel, listed, f, h, _, hp, hc, hv, hl, a, w, fs, s, hK => by
    simp only [trOk, List.isEmpty_iff] at hp
    have := hK f h a w hv fs s
    cases fuel with
    | zero => exact ⟨hp, this⟩
    | succ n => exact ⟨fun _ => this, fun i hi => by rw [hp] at hi; cases hi⟩
  | .take i l, 0, listed, f, h, hlen, hp, hc, hv, hl, a, w, fs, s, hK => absurd hlen (by simp [Tr.len])
  | .only i l, 0, listed, f, h, hlen, hp, hc, hv, hl, a, w, fs, s, hK => absurd hlen (by simp [Tr.len])
  | .both i l j q, 0, listed, f, h, hlen, hp, hc, hv, hl, a, w, fs, s, hK => absurd hlen (by simp [Tr.len])
  | .take i l, fuel + 1, listed, f, h, hlen, hp, hc, hv, hl, a, w, fs, s, hK => by
    simp only [trOk, Bool.and_eq_true (a := match ops[i]? with | some o => _ | none => false)] at hp
    simp only [vcTr] at hv
    obtain ⟨hp1, hp2⟩ := hp
    have hlen' : l.len ≤ fuel := by simp only [Tr.len] at hlen; omega
    cases ho : ops[i]? with
    | none => rw [ho] at hp1; cases hp1
    | some o =>
      have hdo : dstOk N o.dst = true := by
        simp only [opsOk, List.all_eq_true] at hok
        exact hok o (by rw [Array.mem_toList_iff]; exact Array.mem_of_getElem? ho)
      simp only [ho] at hp1 hv
      by_cases hs : silentB P o.op = true
      · rw [if_pos hs] at hp1 hv
        simp only [Bool.and_eq_true] at hp1
        have hir : i ∈ Region.ready .any ops listed := by simpa using hp1.2
        rcases vcG_wanted (N := N) hv with ⟨h1, h2⟩ | ⟨h1, h2⟩
        · by_cases hpu : pureB P o.op = true
          · obtain ⟨v, h3, h4⟩ := vcOp_pure (N := N) hpu h1
            exact wpAnyM_pure ho (Region.noSelect_spec hsel) (fun c a w q => hQ c a _ v w q) fuel listed a w (Region.free_spec ho hp1.1) hir (.inl ⟨h2 a fs, fun w' => h4 a w' fs⟩) (hl _ s) (vcTr_sound hok hsel hQ l fuel _ _ h hlen' hp2 (hc.set hir) h3 hl _ w (fs.put hdo v) s hK)
          obtain ⟨v, h3, h4⟩ := vcOp_silent hs hdo h1
          exact wpAnyM_first ho hs (by simpa using hpu) (Region.noSelect_spec hsel) (fun c a w q => hQ c a _ v w q) fuel listed a w hc (Region.free_spec ho hp1.1) hir (.inl ⟨h2 a fs, fun w' s' => h4 a w' fs s'⟩) (hl _ s) (vcTr_sound hok hsel hQ l fuel _ _ h hlen' hp2 (hc.set hir) h3 hl _ w (fs.put hdo v) s hK)
        · exact wpAnyM_pure ho (Region.noSelect_spec hsel) (fun c a w q => hQ c a _ undef w q) fuel listed a w (Region.free_spec ho hp1.1) hir (.inr ⟨h2 a fs, rfl⟩) (hl _ s) (vcTr_sound hok hsel hQ l fuel _ _ h hlen' hp2 (hc.set hir) h1 hl _ w (fs.put hdo _) s hK)
      · rw [if_neg hs] at hp1 hv
        have hr : Region.ready .any ops listed = [i] := by simpa using hp1
        refine ⟨fun h0 => (by rw [hr] at h0; cases h0), fun j hj => ?_⟩
        obtain rfl : j = i := by rw [hr] at hj; simpa using hj
        exact .inl (vcG_op (hS := hS) hok fs s (R := fun f' h' => PH.Sub w0 hS h' ∧ vcTr P w0 hS ops l f' h' K) (by rw [ho]; exact hv) fun f' h' a' w' q r t => ⟨q.1 _ t, vcTr_sound hok hsel hQ l fuel _ f' h' hlen' hp2 (hc.set hj) q.2 q.1 a' w' r t hK⟩)
  | .only i l, fuel + 1, listed, f, h, hlen, hp, hc, hv, hl, a, w, fs, s, hK => by
    simp only [trOk, Bool.and_eq_true] at hp
    simp only [vcTr] at hv
    obtain ⟨hp1, hp2⟩ := hp
    have hlen' : l.len ≤ fuel := by simp only [Tr.len] at hlen; omega
    have hr : Region.ready .any ops listed = [i] := by simpa using hp1
    refine ⟨fun h0 => (by rw [hr] at h0; cases h0), fun j hj => ?_⟩
    obtain rfl : j = i := by rw [hr] at hj; simpa using hj
    exact .inl (vcG_op (hS := hS) hok fs s hv fun f' h' a' w' q r t => ⟨q.1 _ t, vcTr_sound hok hsel hQ l fuel _ f' h' hlen' hp2 (hc.set hj) q.2 q.1 a' w' r t hK⟩)
  | .cut l, fuel, listed, f, h, hlen, hp, hc, hv, hl, a, w, fs, s, hK => by
    simp only [trOk, Bool.and_eq_true] at hp
    simp only [vcTr] at hv
    cases l with
    | nil => exact absurd hp.1 (by simp)
    | cons i l =>
      obtain ⟨hsk, hp⟩ := hp
      simp only [cutOk, Bool.and_eq_true] at hp
      have hr : Region.ready .any ops listed = [i] := by simpa using hp.1
      cases fuel with
      | zero => simp [Tr.len] at hlen
      | succ fuel =>
        refine ⟨fun h0 => (by rw [hr] at h0; cases h0), fun j hj => ?_⟩
        obtain rfl : j = i := by rw [hr] at hj; simpa using hj
        refine .inr ⟨hsk, vcG_op (hS := hS) hok fs s hv fun f' h' a' w' q r t => ?_⟩
        exact vcCut_sound (hS := hS) hok l fuel _ f' h' (by simp only [Tr.len, List.length_cons] at hlen; omega) hp.2 q a' w' r t hK
  | .both i l j q, fuel + 1, listed, f, h, hlen, hp, hc, hv, hl, a, w, fs, s, hK => by
    simp only [trOk, Bool.and_eq_true] at hp
    simp only [vcTr] at hv
    obtain ⟨⟨hp1, hp2⟩, hp3⟩ := hp
    obtain ⟨hv1, hv2⟩ := hv
    have hl1 : l.len ≤ fuel := by simp only [Tr.len] at hlen; omega
    have hl2 : q.len ≤ fuel := by simp only [Tr.len] at hlen; omega
    have hr : Region.ready .any ops listed = [i, j] := by simpa using hp1
    refine ⟨fun h0 => (by rw [hr] at h0; cases h0), fun k hk => .inl ?_⟩
    have hk' : k = i ∨ k = j := by rw [hr] at hk; simpa using hk
    rcases hk' with rfl | rfl
    · exact vcG_op (hS := hS) hok fs s hv1 fun f' h' a' w' q' r t => ⟨q'.1 _ t, vcTr_sound hok hsel hQ l fuel _ f' h' hl1 hp2 (hc.set hk) q'.2 q'.1 a' w' r t hK⟩
    · exact vcG_op (hS := hS) hok fs s hv2 fun f' h' a' w' q' r t => ⟨q'.1 _ t, vcTr_sound hok hsel hQ q fuel _ f' h' hl2 hp3 (hc.set hk) q'.2 q'.1 a' w' r t hK⟩
def vcUS (P : Program) (w0 : World) (hS : PH) (ops : List Oper) (l : Tr) (f : Fr) (h : PH) (K : Fr → PH → Prop) (_ : Seal ops := ⟨⟩) (_ : Seal K := ⟨⟩) : Prop := vcTr P w0 hS ops.toArray l f h K
def vcUO (P : Program) (w0 : World) (hS : PH) (ops : List Oper) (o : Option Oper) (l : Tr) (f : Fr) (h : PH) (K : Fr → PH → Prop) (_ : Seal ops := ⟨⟩) (_ : Seal K := ⟨⟩) : Prop := match o with
  | some o => if silentB P o.op = true then vcG P w0 ops.toArray o f hS fun f' _ => vcTr P w0 hS ops.toArray l f' h K
      else vcG P w0 ops.toArray o f h fun f' h' => PH.Sub w0 hS h' ∧ vcTr P w0 hS ops.toArray l f' h' K
  | none => False
def vcUL (P : Program) (w0 : World) (hS : PH) (ops : List Oper) (o : Option Oper) (l : Tr) (f : Fr) (h : PH) (K : Fr → PH → Prop) (_ : Seal ops := ⟨⟩) (_ : Seal K := ⟨⟩) : Prop := match o with
  | some o => vcG P w0 ops.toArray o f h fun f' h' => PH.Sub w0 hS h' ∧ vcTr P w0 hS ops.toArray l f' h' K
  | none => False
def vcUE (P : Program) (w0 : World) (ops : List Oper) (o : Option Oper) (f : Fr) (h : PH) (K : Fr → PH → Prop) (_ : Seal ops := ⟨⟩) (_ : Seal K := ⟨⟩) : Prop := match o with
  | some o => vcG P w0 ops.toArray o f h K
  | none => False
def vcUC (P : Program) (w0 : World) (ops : List Oper) (l : List Nat) (f : Fr) (h : PH) (K : Fr → PH → Prop) (_ : Seal ops := ⟨⟩) (_ : Seal K := ⟨⟩) : Prop := vcCut P w0 ops.toArray l f h K
theorem vcUS_done {f : Fr} (hS : PH) (ops : List Oper) : vcUS P w0 hS ops .done f h K = K f h := rfl
theorem vcUS_take {f : Fr} (hS : PH) (ops : List Oper) (i : Nat) (l : Tr) : vcUS P w0 hS ops (.take i l) f h K = vcUO P w0 hS ops (nthO ops i) l f h K := by
  unfold vcUS vcUO
  rw [nthO_eq]
  rfl
theorem vcUS_only {f : Fr} (hS : PH) (ops : List Oper) (i : Nat) (l : Tr) : vcUS P w0 hS ops (.only i l) f h K = vcUL P w0 hS ops (nthO ops i) l f h K := by
  unfold vcUS vcUL
  rw [nthO_eq]
  rfl
theorem vcUS_both {f : Fr} (hS : PH) (ops : List Oper) (i : Nat) (l : Tr) (j : Nat) (q : Tr) : vcUS P w0 hS ops (.both i l j q) f h K = (vcUL P w0 hS ops (nthO ops i) l f h K ∧ vcUL P w0 hS ops (nthO ops j) q f h K) := by
  unfold vcUS vcUL
  rw [nthO_eq, nthO_eq]
  rfl
theorem vcUS_cut {f : Fr} (hS : PH) (ops : List Oper) (l : List Nat) : vcUS P w0 hS ops (.cut l) f h K = vcUC P w0 ops l f h K := rfl
theorem vcUC_nil {f : Fr} (ops : List Oper) : vcUC P w0 ops [] f h K = K f h := rfl
theorem vcUC_cons {f : Fr} (ops : List Oper) (i : Nat) (l : List Nat) : vcUC P w0 ops (i :: l) f h K = vcUE P w0 ops (nthO ops i) f h fun f' h' => vcUC P w0 ops l f' h' K := by
  unfold vcUC vcUE
  rw [nthO_eq]
  rfl
theorem vcUO_some {f : Fr} (hS : PH) (ops : List Oper) (o : Oper) (l : Tr) : vcUO P w0 hS ops (some o) l f h K = vcIf (silentB P o.op) (vcM P w0 ops.toArray [o] f hS fun f' _ => vcUS P w0 hS ops l f' h K) (vcM P w0 ops.toArray [o] f h fun f' h' => vcLe w0 hS h' (vcUS P w0 hS ops l f' h' K)) := by
  unfold vcUO
  cases hs : silentB P o.op
  · rw [vcIf_false, vcM_cons]; simp only [hs, Bool.false_eq_true, if_false]; rfl
  · rw [vcIf_true, vcM_cons]; simp only [hs, if_true]; rfl
theorem vcUL_some {f : Fr} (hS : PH) (ops : List Oper) (o : Oper) (l : Tr) : vcUL P w0 hS ops (some o) l f h K = vcM P w0 ops.toArray [o] f h fun f' h' => vcLe w0 hS h' (vcUS P w0 hS ops l f' h' K) := by
  unfold vcUL
  rw [vcM_cons]
  rfl
theorem vcUE_some {f : Fr} (ops : List Oper) (o : Oper) : vcUE P w0 ops (some o) f h K = vcM P w0 ops.toArray [o] f h K := by
  unfold vcUE
  rw [vcM_cons]
  rfl
theorem PW_tr {f : Fr} {id : Nat} {ops : List Oper} {Q : Exit → Fr → PH → Prop} (l : Tr) (hS : PH) (hm : P.follows .mixedOrders = true) (hp : trOk P ops.toArray l (Array.replicate ops.toArray.size false) = true) (hlen : Nat.ble l.len ops.toArray.size = true) (hok : opsOk N ops = true) (hsel : Region.noSelect ops.toArray = true)
    (hQ : ∀ c f h, ¬ Q (.panic c) f h) (hl : PH.Sub w0 hS h) (hv : vcUS P w0 hS ops l f h (Q .normal)) : PW P w0 N (.region id ops.toArray true) f h Q := by
  intro a w fs s
  refine wp_region_any hm (wpAnyM_any (S := Sim w0 hS) _ _ _ _ ?_)
  exact vcTr_sound (by simpa using hok) hsel (fun c a d v w => by rintro ⟨f', h', q, _⟩; exact absurd q (hQ c f' h')) l _ _ f h (Nat.le_of_ble_eq_true hlen) hp (fun k hk => by simp [Array.getD] at hk) hv hl a _ fs s.drew fun f' h' a' w' q r t => ⟨f', h', q, r, t⟩
end
end Go.Proofs.Ytdhgmifgjaedbaa.Px

