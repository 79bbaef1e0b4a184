/- Parts Ta2, Ta3, Ta4, Ta5, Ta6, joined. No condition. -/
import Derived.Test.YtdhgmifgjaedbaaM8C
/- Walks: numbers, vectors, epochs that are right. No condition. -/
namespace Go.Proofs.Ytdhgmifgjaedbaa
set_option linter.unusedVariables false
set_option linter.unusedSimpArgs false
open Go.RowKit Px Wr
set_option maxRecDepth 20000 in
theorem isNum_any (n : Int) (w0 : World) (h : PH) : PCalls Try.prog w0 35 [.int .i64 n] h fun r h' => r = .bool (isN n) ∧ h' = h := by
  refine PCalls_body Try.func35 (by kernel_rfl) rfl _ Try.ntmps35 (by kernel_rfl) (by kernel_rfl) _ Try.results35 ?_
  unfold isN
  obtain ⟨b1, hb1⟩ : ∃ b, decide (n ≥ 0) = b := ⟨_, rfl⟩
  rw [hb1]
  cases b1
  · simp -dsimp -implicitDefEqProofs (disch := first | omega | assumption | (simp only [Option.isSome_some, Qt0]; done) | (simp only [UInt64.reduceToNat, UInt32.reduceToNat, UInt8.reduceToNat, List.length_cons, List.length_nil, List.length_append, Int.toNat_natCast] <;> omega) | fail) only [Nat.reduceLT, Nat.reduceLeDiff, Nat.reduceEqDiff, ↓reduceIte, Int.reduceLT, Int.reduceLE, Int.reduceToNat, Int.reduceEq, Int.reduceNe, Nat.reduceAdd, UInt8.reduceOfNat, UInt16.reduceOfNat, UInt32.reduceOfNat, UInt64.reduceOfNat, UInt64.reduceToNat, UInt32.reduceToNat, UInt16.reduceToNat, UInt8.reduceToNat, Int.reduceAdd, Int.reduceSub, Int.reduceMul, Nat.reduceMul, Qp0, Qp1, Ql0, Qe0, hb1]
    exact ⟨_, PH.Le.refl _, by first | rfl | trivial, rfl⟩
  · simp -dsimp -implicitDefEqProofs (disch := first | omega | assumption | (simp only [Option.isSome_some, Qt0]; done) | (simp only [UInt64.reduceToNat, UInt32.reduceToNat, UInt8.reduceToNat, List.length_cons, List.length_nil, List.length_append, Int.toNat_natCast] <;> omega) | fail) only [Nat.reduceLT, Nat.reduceLeDiff, Nat.reduceEqDiff, ↓reduceIte, Int.reduceLT, Int.reduceLE, Int.reduceToNat, Int.reduceEq, Int.reduceNe, Nat.reduceAdd, UInt8.reduceOfNat, UInt16.reduceOfNat, UInt32.reduceOfNat, UInt64.reduceOfNat, UInt64.reduceToNat, UInt32.reduceToNat, UInt16.reduceToNat, UInt8.reduceToNat, Int.reduceAdd, Int.reduceSub, Int.reduceMul, Nat.reduceMul, Qp0, Qp1, Ql0, Qe0, hb1]
    exact ⟨_, PH.Le.refl _, by first | rfl | trivial, rfl⟩
set_option maxRecDepth 20000 in
theorem rnum23_any (n : Int) (w0 : World) (h : PH) : PCalls Try.prog w0 30 [.int .i64 n] h fun r h' => r = .bool (isN n) ∧ h' = h := by
  refine PCalls_body Try.func30 (by kernel_rfl) rfl _ Try.ntmps30 (by kernel_rfl) (by kernel_rfl) _ Try.results30 ?_
  unfold isN
  obtain ⟨b1, hb1⟩ : ∃ b, decide (n ≥ 0) = b := ⟨_, rfl⟩
  rw [hb1]
  cases b1
  · simp -dsimp -implicitDefEqProofs (disch := first | omega | assumption | (simp only [Option.isSome_some, Qt0]; done) | (simp only [UInt64.reduceToNat, UInt32.reduceToNat, UInt8.reduceToNat, List.length_cons, List.length_nil, List.length_append, Int.toNat_natCast] <;> omega) | fail) only [Nat.reduceLT, Nat.reduceLeDiff, Nat.reduceEqDiff, ↓reduceIte, Int.reduceLT, Int.reduceLE, Int.reduceToNat, Int.reduceEq, Int.reduceNe, Nat.reduceAdd, UInt8.reduceOfNat, UInt16.reduceOfNat, UInt32.reduceOfNat, UInt64.reduceOfNat, UInt64.reduceToNat, UInt32.reduceToNat, UInt16.reduceToNat, UInt8.reduceToNat, Int.reduceAdd, Int.reduceSub, Int.reduceMul, Nat.reduceMul, Qp0, Qp1, Ql0, Qe0, hb1]
    exact ⟨_, PH.Le.refl _, by first | rfl | trivial, rfl⟩
  · simp -dsimp -implicitDefEqProofs (disch := first | omega | assumption | (simp only [Option.isSome_some, Qt0]; done) | (simp only [UInt64.reduceToNat, UInt32.reduceToNat, UInt8.reduceToNat, List.length_cons, List.length_nil, List.length_append, Int.toNat_natCast] <;> omega) | fail) only [Nat.reduceLT, Nat.reduceLeDiff, Nat.reduceEqDiff, ↓reduceIte, Int.reduceLT, Int.reduceLE, Int.reduceToNat, Int.reduceEq, Int.reduceNe, Nat.reduceAdd, UInt8.reduceOfNat, UInt16.reduceOfNat, UInt32.reduceOfNat, UInt64.reduceOfNat, UInt64.reduceToNat, UInt32.reduceToNat, UInt16.reduceToNat, UInt8.reduceToNat, Int.reduceAdd, Int.reduceSub, Int.reduceMul, Nat.reduceMul, Qp0, Qp1, Ql0, Qe0, hb1]
    exact ⟨_, PH.Le.refl _, by first | rfl | trivial, rfl⟩
set_option maxRecDepth 20000 in
theorem right21_any (u : List UInt8) (n : Int) (w0 : World) (h : PH) : PCalls Try.prog w0 63 [str u, .int .i64 n] h fun r h' => r = .bool (rightEp ⟨u, n⟩) ∧ h' = h := by
  refine PCalls_body Try.func63 (by kernel_rfl) rfl _ Try.ntmps63 (by kernel_rfl) (by kernel_rfl) _ Try.results63 ?_
  have hR : rightEp ⟨u, n⟩ = (decide ((u.length : Int) ≥ 1) && decide ((u.length : Int) ≤ 32) && decide (n ≥ 1) && decide (n ≤ 1099511627776)) := by
    show (decide (1 ≤ u.length) && decide (u.length ≤ 32) && decide (1 ≤ n) && decide (n ≤ 1099511627776)) = _
    rw [decide_eq_decide.2 (show 1 ≤ u.length ↔ (u.length : Int) ≥ 1 by omega), decide_eq_decide.2 (show u.length ≤ 32 ↔ (u.length : Int) ≤ 32 by omega)]
  rw [hR]
  clear hR
  obtain ⟨b1, hb1⟩ : ∃ b, decide ((u.length : Int) ≥ 1) = b := ⟨_, rfl⟩
  obtain ⟨b2, hb2⟩ : ∃ b, decide ((u.length : Int) ≤ 32) = b := ⟨_, rfl⟩
  obtain ⟨b3, hb3⟩ : ∃ b, decide (n ≥ 1) = b := ⟨_, rfl⟩
  rw [hb1, hb2, hb3]
  cases b1
  · simp -dsimp -implicitDefEqProofs (disch := first | omega | assumption | (simp only [Option.isSome_some, Qt0]; done) | (simp only [UInt64.reduceToNat, UInt32.reduceToNat, UInt8.reduceToNat, List.length_cons, List.length_nil, List.length_append, Int.toNat_natCast] <;> omega) | fail) only [Nat.reduceLT, Nat.reduceLeDiff, Nat.reduceEqDiff, ↓reduceIte, Int.reduceLT, Int.reduceLE, Int.reduceToNat, Int.reduceEq, Int.reduceNe, Nat.reduceAdd, UInt8.reduceOfNat, UInt16.reduceOfNat, UInt32.reduceOfNat, UInt64.reduceOfNat, UInt64.reduceToNat, UInt32.reduceToNat, UInt16.reduceToNat, UInt8.reduceToNat, Int.reduceAdd, Int.reduceSub, Int.reduceMul, Nat.reduceMul, Qp0, Qp1, Ql0, Qe0, hb1]
    exact ⟨_, PH.Le.refl _, by first | rfl | trivial, rfl⟩
  cases b2
  · simp -dsimp -implicitDefEqProofs (disch := first | omega | assumption | (simp only [Option.isSome_some, Qt0]; done) | (simp only [UInt64.reduceToNat, UInt32.reduceToNat, UInt8.reduceToNat, List.length_cons, List.length_nil, List.length_append, Int.toNat_natCast] <;> omega) | fail) only [Nat.reduceLT, Nat.reduceLeDiff, Nat.reduceEqDiff, ↓reduceIte, Int.reduceLT, Int.reduceLE, Int.reduceToNat, Int.reduceEq, Int.reduceNe, Nat.reduceAdd, UInt8.reduceOfNat, UInt16.reduceOfNat, UInt32.reduceOfNat, UInt64.reduceOfNat, UInt64.reduceToNat, UInt32.reduceToNat, UInt16.reduceToNat, UInt8.reduceToNat, Int.reduceAdd, Int.reduceSub, Int.reduceMul, Nat.reduceMul, Qp0, Qp1, Ql0, Qe0, hb1, hb2]
    exact ⟨_, PH.Le.refl _, by first | rfl | trivial, rfl⟩
  cases b3
  · simp -dsimp -implicitDefEqProofs (disch := first | omega | assumption | (simp only [Option.isSome_some, Qt0]; done) | (simp only [UInt64.reduceToNat, UInt32.reduceToNat, UInt8.reduceToNat, List.length_cons, List.length_nil, List.length_append, Int.toNat_natCast] <;> omega) | fail) only [Nat.reduceLT, Nat.reduceLeDiff, Nat.reduceEqDiff, ↓reduceIte, Int.reduceLT, Int.reduceLE, Int.reduceToNat, Int.reduceEq, Int.reduceNe, Nat.reduceAdd, UInt8.reduceOfNat, UInt16.reduceOfNat, UInt32.reduceOfNat, UInt64.reduceOfNat, UInt64.reduceToNat, UInt32.reduceToNat, UInt16.reduceToNat, UInt8.reduceToNat, Int.reduceAdd, Int.reduceSub, Int.reduceMul, Nat.reduceMul, Qp0, Qp1, Ql0, Qe0, hb1, hb2, hb3]
    exact ⟨_, PH.Le.refl _, by first | rfl | trivial, rfl⟩
  · simp -dsimp -implicitDefEqProofs (disch := first | omega | assumption | (simp only [Option.isSome_some, Qt0]; done) | (simp only [UInt64.reduceToNat, UInt32.reduceToNat, UInt8.reduceToNat, List.length_cons, List.length_nil, List.length_append, Int.toNat_natCast] <;> omega) | fail) only [Nat.reduceLT, Nat.reduceLeDiff, Nat.reduceEqDiff, ↓reduceIte, Int.reduceLT, Int.reduceLE, Int.reduceToNat, Int.reduceEq, Int.reduceNe, Nat.reduceAdd, UInt8.reduceOfNat, UInt16.reduceOfNat, UInt32.reduceOfNat, UInt64.reduceOfNat, UInt64.reduceToNat, UInt32.reduceToNat, UInt16.reduceToNat, UInt8.reduceToNat, Int.reduceAdd, Int.reduceSub, Int.reduceMul, Nat.reduceMul, Qp0, Qp1, Ql0, Qe0, hb1, hb2, hb3]
    exact ⟨_, PH.Le.refl _, by first | rfl | trivial, rfl⟩
theorem isN_iff {n : Int} : isN n = true ↔ 0 ≤ n ∧ n ≤ 1099511627776 := by unfold isN; simp
theorem trim_both {v : List Int} (h1 : trim v 4611686018427387903 = true) (h2 : ∀ j, j < v.length → isN (v.getD j 0) = true) : trim v 1099511627776 = true :=
  trim_iff.2 ⟨(trim_iff.1 h1).1, (trim_iff.1 h1).2.1, fun j hj => isN_iff.1 (h2 j hj)⟩
set_option maxRecDepth 20000 in
set_option maxHeartbeats 2000000 in
theorem isVec_any (w0 : World) (h : PH) (A : Option Addr) (c : Nat) (v : List Int) (hr : Rv w0 h A (ints v)) (hn : v.length ≤ c) (hv : v.length ≤ 1000000) : PCalls Try.prog w0 34 [.slice A v.length c] h fun r h' => r = .bool (trim v 1099511627776) ∧ PH.Le h h' := by
  refine PCalls_body Try.func34 (by kernel_rfl) rfl _ Try.ntmps34 (by kernel_rfl) (by kernel_rfl) _ Try.results34 ?_
  simp -dsimp -implicitDefEqProofs (disch := first | omega | assumption | (simp only [Option.isSome_some, Qt0]; done) | (simp only [UInt64.reduceToNat, UInt32.reduceToNat, UInt8.reduceToNat, List.length_cons, List.length_nil, List.length_append, Int.toNat_natCast] <;> omega) | fail) only [Nat.reduceLT, Nat.reduceLeDiff, Nat.reduceEqDiff, ↓reduceIte, Int.reduceLT, Int.reduceLE, Int.reduceToNat, Int.reduceEq, Int.reduceNe, Nat.reduceAdd, UInt8.reduceOfNat, UInt16.reduceOfNat, UInt32.reduceOfNat, UInt64.reduceOfNat, UInt64.reduceToNat, UInt32.reduceToNat, UInt16.reduceToNat, UInt8.reduceToNat, Int.reduceAdd, Int.reduceSub, Int.reduceMul, Nat.reduceMul, Qp0, Qp1, Ql0, Qe0]
  refine fun ob hob => ?_
  have hs := OS.init hob
  simp -dsimp -implicitDefEqProofs (disch := first | omega | assumption | (simp only [Option.isSome_some, Qt0]; done) | (simp only [UInt64.reduceToNat, UInt32.reduceToNat, UInt8.reduceToNat, List.length_cons, List.length_nil, List.length_append, Int.toNat_natCast] <;> omega) | fail) only [Nat.reduceLT, Nat.reduceLeDiff, Nat.reduceEqDiff, ↓reduceIte, Int.reduceLT, Int.reduceLE, Int.reduceToNat, Int.reduceEq, Int.reduceNe, Nat.reduceAdd, UInt8.reduceOfNat, UInt16.reduceOfNat, UInt32.reduceOfNat, UInt64.reduceOfNat, UInt64.reduceToNat, UInt32.reduceToNat, UInt16.reduceToNat, UInt8.reduceToNat, Int.reduceAdd, Int.reduceSub, Int.reduceMul, Nat.reduceMul, Qp0, Qp1, Ql0, Qe0]
  generalize h.new ob ⟨[.slice none 0 0, .nilIface], 2⟩ = h2 at *
  refine (wvec_any h ob _ w0 _ hs A c v (hr.more hs.le) hn hv).mono ?_
  intro z q hs
  simp -dsimp -implicitDefEqProofs (disch := first | omega | assumption | (simp only [Option.isSome_some, Qt0]; done) | (simp only [UInt64.reduceToNat, UInt32.reduceToNat, UInt8.reduceToNat, List.length_cons, List.length_nil, List.length_append, Int.toNat_natCast] <;> omega) | fail) only [Nat.reduceLT, Nat.reduceLeDiff, Nat.reduceEqDiff, ↓reduceIte, Int.reduceLT, Int.reduceLE, Int.reduceToNat, Int.reduceEq, Int.reduceNe, Nat.reduceAdd, UInt8.reduceOfNat, UInt16.reduceOfNat, UInt32.reduceOfNat, UInt64.reduceOfNat, UInt64.reduceToNat, UInt32.reduceToNat, UInt16.reduceToNat, UInt8.reduceToNat, Int.reduceAdd, Int.reduceSub, Int.reduceMul, Nat.reduceMul, Qp0, Qp1, Ql0, Qe0]
  refine (done_any h ob _ w0 _ hs).mono ?_
  rintro z2 q2 ⟨hd, hz⟩
  obtain rfl := hz.symm
  obtain ⟨ev, y, rfl, hev⟩ : ∃ (ev : Value) (y : List UInt8), z2 = .tuple #[str y, ev] ∧ ((trim v 4611686018427387903 = true ∧ ev = .nilIface) ∨ (trim v 4611686018427387903 = false ∧ ∃ be, ev = errV be)) := by
    unfold vecM at hd
    simp only [Option.isSome_none, Bool.false_eq_true, if_false] at hd
    cases ht : trim v 4611686018427387903 with
    | true =>
      rw [ht, if_pos rfl, putM_ok [] (vecB v) (by
        have h1 := trim_len ht
        have h2 := flat_len_le v (fun n hn => by have := (trim_all ht n hn).2; omega)
        have h3 : (numB v.length).length ≤ 9 := numB_len9 (by omega)
        unfold vecB
        rw [List.length_append]
        simp only [List.length_nil]
        omega)] at hd
      exact ⟨_, _, hd, .inl ⟨rfl, rfl⟩⟩
    | false =>
      rw [ht, if_neg (by simp)] at hd
      obtain ⟨be, hd, _⟩ := hd
      exact ⟨_, _, hd, .inr ⟨rfl, be, rfl⟩⟩
  have hle := hs.le
  have hrq := hr.more hle
  clear hd hs
  simp -dsimp -implicitDefEqProofs (disch := first | omega | assumption | (simp only [Option.isSome_some, Qt0]; done) | (simp only [UInt64.reduceToNat, UInt32.reduceToNat, UInt8.reduceToNat, List.length_cons, List.length_nil, List.length_append, Int.toNat_natCast] <;> omega) | fail) only [Nat.reduceLT, Nat.reduceLeDiff, Nat.reduceEqDiff, ↓reduceIte, Int.reduceLT, Int.reduceLE, Int.reduceToNat, Int.reduceEq, Int.reduceNe, Nat.reduceAdd, UInt8.reduceOfNat, UInt16.reduceOfNat, UInt32.reduceOfNat, UInt64.reduceOfNat, UInt64.reduceToNat, UInt32.reduceToNat, UInt16.reduceToNat, UInt8.reduceToNat, Int.reduceAdd, Int.reduceSub, Int.reduceMul, Nat.reduceMul, Qp0, Qp1, Ql0, Qe0]
  refine PW_loopL (fun n f h' => ∃ i : Nat, n + i = v.length ∧ f 5 = some ev ∧ f 18 = some (.slice A v.length c) ∧ f 19 = some (.int .i64 v.length) ∧ f 20 = some (.int .i64 i) ∧ (∀ j, j < i → isN (v.getD j 0) = true) ∧ h' = q) (by kernel_rfl) v.length ⟨0, by omega, ?_, ?_, ?_, ?_, fun j hj => by omega, rfl⟩ ?_
  · simp -dsimp -implicitDefEqProofs (disch := first | omega | assumption | (simp only [Option.isSome_some, Qt0]; done) | (simp only [UInt64.reduceToNat, UInt32.reduceToNat, UInt8.reduceToNat, List.length_cons, List.length_nil, List.length_append, Int.toNat_natCast] <;> omega) | fail) only [Nat.reduceLT, Nat.reduceLeDiff, Nat.reduceEqDiff, ↓reduceIte, Int.reduceLT, Int.reduceLE, Int.reduceToNat, Int.reduceEq, Int.reduceNe, Nat.reduceAdd, UInt8.reduceOfNat, UInt16.reduceOfNat, UInt32.reduceOfNat, UInt64.reduceOfNat, UInt64.reduceToNat, UInt32.reduceToNat, UInt16.reduceToNat, UInt8.reduceToNat, Int.reduceAdd, Int.reduceSub, Int.reduceMul, Nat.reduceMul, Qp0, Qp1, Ql0, Qe0]
  · simp -dsimp -implicitDefEqProofs (disch := first | omega | assumption | (simp only [Option.isSome_some, Qt0]; done) | (simp only [UInt64.reduceToNat, UInt32.reduceToNat, UInt8.reduceToNat, List.length_cons, List.length_nil, List.length_append, Int.toNat_natCast] <;> omega) | fail) only [Nat.reduceLT, Nat.reduceLeDiff, Nat.reduceEqDiff, ↓reduceIte, Int.reduceLT, Int.reduceLE, Int.reduceToNat, Int.reduceEq, Int.reduceNe, Nat.reduceAdd, UInt8.reduceOfNat, UInt16.reduceOfNat, UInt32.reduceOfNat, UInt64.reduceOfNat, UInt64.reduceToNat, UInt32.reduceToNat, UInt16.reduceToNat, UInt8.reduceToNat, Int.reduceAdd, Int.reduceSub, Int.reduceMul, Nat.reduceMul, Qp0, Qp1, Ql0, Qe0]
  · simp -dsimp -implicitDefEqProofs (disch := first | omega | assumption | (simp only [Option.isSome_some, Qt0]; done) | (simp only [UInt64.reduceToNat, UInt32.reduceToNat, UInt8.reduceToNat, List.length_cons, List.length_nil, List.length_append, Int.toNat_natCast] <;> omega) | fail) only [Nat.reduceLT, Nat.reduceLeDiff, Nat.reduceEqDiff, ↓reduceIte, Int.reduceLT, Int.reduceLE, Int.reduceToNat, Int.reduceEq, Int.reduceNe, Nat.reduceAdd, UInt8.reduceOfNat, UInt16.reduceOfNat, UInt32.reduceOfNat, UInt64.reduceOfNat, UInt64.reduceToNat, UInt32.reduceToNat, UInt16.reduceToNat, UInt8.reduceToNat, Int.reduceAdd, Int.reduceSub, Int.reduceMul, Nat.reduceMul, Qp0, Qp1, Ql0, Qe0]
  · simp -dsimp -implicitDefEqProofs (disch := first | omega | assumption | (simp only [Option.isSome_some, Qt0]; done) | (simp only [UInt64.reduceToNat, UInt32.reduceToNat, UInt8.reduceToNat, List.length_cons, List.length_nil, List.length_append, Int.toNat_natCast] <;> omega) | fail) only [Nat.reduceLT, Nat.reduceLeDiff, Nat.reduceEqDiff, ↓reduceIte, Int.reduceLT, Int.reduceLE, Int.reduceToNat, Int.reduceEq, Int.reduceNe, Nat.reduceAdd, UInt8.reduceOfNat, UInt16.reduceOfNat, UInt32.reduceOfNat, UInt64.reduceOfNat, UInt64.reduceToNat, UInt32.reduceToNat, UInt16.reduceToNat, UInt8.reduceToNat, Int.reduceAdd, Int.reduceSub, Int.reduceMul, Nat.reduceMul, Qp0, Qp1, Ql0, Qe0]
    try rfl
  rintro n f h' ⟨i, hni, f5, f18, f19, f20, hall, rfl⟩ hl
  by_cases hi : i < v.length
  · have e2 : decide ((i : Int) < (v.length : Int)) = true := decide_eq_true (by omega)
    obtain ⟨b, o, rfl⟩ := hrq.addr (by simp [ints]; omega)
    have hg := hrq.get hl (j := i) (u := .int .i64 (v.getD i 0)) (by rw [ints, List.getElem?_map, List.getD, List.getElem?_eq_getElem hi]; rfl)
    have hN := isNum_any (v.getD i 0) w0 h'
    cases hb : isN (v.getD i 0) with
    | true =>
      rw [hb] at hN
      have hN := Lib.hid hN
      simp -dsimp -implicitDefEqProofs (disch := first | omega | assumption | (simp only [Option.isSome_some, Qt0]; done) | (simp only [UInt64.reduceToNat, UInt32.reduceToNat, UInt8.reduceToNat, List.length_cons, List.length_nil, List.length_append, Int.toNat_natCast] <;> omega) | fail) only [Nat.reduceLT, Nat.reduceLeDiff, Nat.reduceEqDiff, ↓reduceIte, Int.reduceLT, Int.reduceLE, Int.reduceToNat, Int.reduceEq, Int.reduceNe, Nat.reduceAdd, UInt8.reduceOfNat, UInt16.reduceOfNat, UInt32.reduceOfNat, UInt64.reduceOfNat, UInt64.reduceToNat, UInt32.reduceToNat, UInt16.reduceToNat, UInt8.reduceToNat, Int.reduceAdd, Int.reduceSub, Int.reduceMul, Nat.reduceMul, Qp0, Qp1, Ql0, Qe0, f5, f18, f19, f20, e2, rd_M, hg]
      refine hN.out.mono ?_
      rintro v hq ⟨rfl, hz⟩
      obtain rfl := hz.symm
      simp -dsimp -implicitDefEqProofs (disch := first | omega | assumption | (simp only [Option.isSome_some, Qt0]; done) | (simp only [UInt64.reduceToNat, UInt32.reduceToNat, UInt8.reduceToNat, List.length_cons, List.length_nil, List.length_append, Int.toNat_natCast] <;> omega) | fail) only [Nat.reduceLT, Nat.reduceLeDiff, Nat.reduceEqDiff, ↓reduceIte, Int.reduceLT, Int.reduceLE, Int.reduceToNat, Int.reduceEq, Int.reduceNe, Nat.reduceAdd, UInt8.reduceOfNat, UInt16.reduceOfNat, UInt32.reduceOfNat, UInt64.reduceOfNat, UInt64.reduceToNat, UInt32.reduceToNat, UInt16.reduceToNat, UInt8.reduceToNat, Int.reduceAdd, Int.reduceSub, Int.reduceMul, Nat.reduceMul, Qp0, Qp1, Ql0, Qe0, f5, f18, f19, f20]
      refine ⟨n - 1, _, by omega, PH.Le.refl _, i + 1, by omega, by trivial, by trivial, by trivial, by simp, fun j hj => ?_, rfl⟩
      by_cases hji : j = i
      · subst hji; exact hb
      · exact hall j (by omega)
    | false =>
      have ht : trim v 1099511627776 = false := by
        rw [Bool.eq_false_iff]; intro e
        have := (trim_iff.1 e).2.2 i hi
        rw [Bool.eq_false_iff] at hb
        exact hb (isN_iff.2 this)
      rw [hb] at hN
      rw [ht]
      have hN := Lib.hid hN
      simp -dsimp -implicitDefEqProofs (disch := first | omega | assumption | (simp only [Option.isSome_some, Qt0]; done) | (simp only [UInt64.reduceToNat, UInt32.reduceToNat, UInt8.reduceToNat, List.length_cons, List.length_nil, List.length_append, Int.toNat_natCast] <;> omega) | fail) only [Nat.reduceLT, Nat.reduceLeDiff, Nat.reduceEqDiff, ↓reduceIte, Int.reduceLT, Int.reduceLE, Int.reduceToNat, Int.reduceEq, Int.reduceNe, Nat.reduceAdd, UInt8.reduceOfNat, UInt16.reduceOfNat, UInt32.reduceOfNat, UInt64.reduceOfNat, UInt64.reduceToNat, UInt32.reduceToNat, UInt16.reduceToNat, UInt8.reduceToNat, Int.reduceAdd, Int.reduceSub, Int.reduceMul, Nat.reduceMul, Qp0, Qp1, Ql0, Qe0, f5, f18, f19, f20, e2, rd_M, hg]
      refine hN.out.mono ?_
      rintro v hq ⟨rfl, hz⟩
      obtain rfl := hz.symm
      simp -dsimp -implicitDefEqProofs (disch := first | omega | assumption | (simp only [Option.isSome_some, Qt0]; done) | (simp only [UInt64.reduceToNat, UInt32.reduceToNat, UInt8.reduceToNat, List.length_cons, List.length_nil, List.length_append, Int.toNat_natCast] <;> omega) | fail) only [Nat.reduceLT, Nat.reduceLeDiff, Nat.reduceEqDiff, ↓reduceIte, Int.reduceLT, Int.reduceLE, Int.reduceToNat, Int.reduceEq, Int.reduceNe, Nat.reduceAdd, UInt8.reduceOfNat, UInt16.reduceOfNat, UInt32.reduceOfNat, UInt64.reduceOfNat, UInt64.reduceToNat, UInt32.reduceToNat, UInt16.reduceToNat, UInt8.reduceToNat, Int.reduceAdd, Int.reduceSub, Int.reduceMul, Nat.reduceMul, Qp0, Qp1, Ql0, Qe0, f5, f18, f19, f20]
      exact ⟨_, PH.Le.refl _, by first | rfl | trivial, hle⟩
  · have e2 : decide ((i : Int) < (v.length : Int)) = false := decide_eq_false (by omega)
    rcases hev with ⟨ht, rfl⟩ | ⟨ht, be, rfl⟩
    · rw [trim_both ht fun j hj => hall j (by omega)]
      simp -dsimp -implicitDefEqProofs (disch := first | omega | assumption | (simp only [Option.isSome_some, Qt0]; done) | (simp only [UInt64.reduceToNat, UInt32.reduceToNat, UInt8.reduceToNat, List.length_cons, List.length_nil, List.length_append, Int.toNat_natCast] <;> omega) | fail) only [Nat.reduceLT, Nat.reduceLeDiff, Nat.reduceEqDiff, ↓reduceIte, Int.reduceLT, Int.reduceLE, Int.reduceToNat, Int.reduceEq, Int.reduceNe, Nat.reduceAdd, UInt8.reduceOfNat, UInt16.reduceOfNat, UInt32.reduceOfNat, UInt64.reduceOfNat, UInt64.reduceToNat, UInt32.reduceToNat, UInt16.reduceToNat, UInt8.reduceToNat, Int.reduceAdd, Int.reduceSub, Int.reduceMul, Nat.reduceMul, Qp0, Qp1, Ql0, Qe0, f5, f18, f19, f20, e2]
      exact ⟨_, PH.Le.refl _, by first | rfl | trivial, hle⟩
    · have ht2 : trim v 1099511627776 = false := by
        rw [Bool.eq_false_iff]; intro e
        rw [trim_up e (by omega)] at ht; cases ht
      rw [ht2]
      unfold errV at f5
      simp -dsimp -implicitDefEqProofs (disch := first | omega | assumption | (simp only [Option.isSome_some, Qt0]; done) | (simp only [UInt64.reduceToNat, UInt32.reduceToNat, UInt8.reduceToNat, List.length_cons, List.length_nil, List.length_append, Int.toNat_natCast] <;> omega) | fail) only [Nat.reduceLT, Nat.reduceLeDiff, Nat.reduceEqDiff, ↓reduceIte, Int.reduceLT, Int.reduceLE, Int.reduceToNat, Int.reduceEq, Int.reduceNe, Nat.reduceAdd, UInt8.reduceOfNat, UInt16.reduceOfNat, UInt32.reduceOfNat, UInt64.reduceOfNat, UInt64.reduceToNat, UInt32.reduceToNat, UInt16.reduceToNat, UInt8.reduceToNat, Int.reduceAdd, Int.reduceSub, Int.reduceMul, Nat.reduceMul, Qp0, Qp1, Ql0, Qe0, f5, f18, f19, f20, e2]
      exact ⟨_, PH.Le.refl _, by first | rfl | trivial, hle⟩
end Go.Proofs.Ytdhgmifgjaedbaa


/- Walks: writes and epochs that are right. No condition. -/
namespace Go.Proofs.Ytdhgmifgjaedbaa
set_option linter.unusedVariables false
set_option linter.unusedSimpArgs false
open Go.RowKit Px Wr
theorem rightWs_no {L : List Wt} {x : Wt} {i : Nat} (hx : L[i]? = some x) (h : rightW x = false ∨ some x.r ≠ L.head?.map (·.r)) : rightWs L = false := by
  unfold rightWs
  rw [Bool.and_eq_false_iff]
  right
  rw [Bool.eq_false_iff]
  intro e
  have := List.all_eq_true.1 e x (List.mem_of_getElem? hx)
  rw [Bool.and_eq_true, decide_eq_true_eq] at this
  rcases h with h | h
  · rw [h] at this; cases this.1
  · exact h this.2
theorem rightWs_all {L : List Wt} (h : ∀ (j : Nat) (x : Wt), L[j]? = some x → rightW x = true ∧ some x.r = L.head?.map (·.r)) : rightWs L = (decide ((L.length : Int) ≥ 1) && decide ((L.length : Int) ≤ 8)) := by
  unfold rightWs
  have : (L.all fun x => rightW x && decide (some x.r = L.head?.map (·.r))) = true := List.all_eq_true.2 fun x hx => by
    obtain ⟨j, hj, rfl⟩ := List.getElem_of_mem hx
    obtain ⟨h1, h2⟩ := h j _ (List.getElem?_eq_getElem hj)
    rw [h1, ← h2]; simp
  rw [this, Bool.and_true, decide_eq_decide.2 (show 1 ≤ L.length ↔ (L.length : Int) ≥ 1 by omega), decide_eq_decide.2 (show L.length ≤ 8 ↔ (L.length : Int) ≤ 8 by omega)]
set_option maxRecDepth 20000 in
set_option maxHeartbeats 4000000 in
theorem writes_any (w0 : World) (h : PH) (A : Option Addr) (c : Nat) (P : List Wp) (hr : Rv w0 h A (P.flatMap wpL)) (hg : ∀ q ∈ P, GoodW w0 h q) (hn : P.length ≤ c) (hL : P.length ≤ 1000000) (hd : ∀ q ∈ P, q.1.d.length ≤ 1000000) : PCalls Try.prog w0 33 [.slice A P.length c] h fun r h' => r = .bool (rightWs (P.map (·.1))) ∧ PH.Le h h' := by
  refine PCalls_upL fun q hlq hlow hut => ?_
  refine PCalls_body Try.func33 (by kernel_rfl) rfl _ Try.ntmps33 (by kernel_rfl) (by kernel_rfl) _ Try.results33 ?_
  have hrq := hr.more hlq
  simp -dsimp -implicitDefEqProofs (disch := first | omega | assumption | (simp only [Option.isSome_some, Qt0]; done) | (simp only [UInt64.reduceToNat, UInt32.reduceToNat, UInt8.reduceToNat, List.length_cons, List.length_nil, List.length_append, Int.toNat_natCast] <;> omega) | fail) only [Nat.reduceLT, Nat.reduceLeDiff, Nat.reduceEqDiff, ↓reduceIte, Int.reduceLT, Int.reduceLE, Int.reduceToNat, Int.reduceEq, Int.reduceNe, Nat.reduceAdd, UInt8.reduceOfNat, UInt16.reduceOfNat, UInt32.reduceOfNat, UInt64.reduceOfNat, UInt64.reduceToNat, UInt32.reduceToNat, UInt16.reduceToNat, UInt8.reduceToNat, Int.reduceAdd, Int.reduceSub, Int.reduceMul, Nat.reduceMul, Qp0, Qp1, Ql0, Qe0]
  refine PW_loopL (fun n f h' => ∃ i : Nat, n + i = P.length ∧ f 0 = some (.slice A P.length c) ∧ f 7 = some (.slice A P.length c) ∧ f 8 = some (.int .i64 P.length) ∧ f 9 = some (.int .i64 i) ∧ PH.Le q h' ∧ (∀ j x, j < i → P[j]? = some x → rightW x.1 = true ∧ some x.1.r = (P.map (·.1)).head?.map (·.r))) (by kernel_rfl) P.length ⟨0, by omega, ?_, ?_, ?_, ?_, PH.Le.refl _, fun j x hj => by omega⟩ ?_
  · simp -dsimp -implicitDefEqProofs (disch := first | omega | assumption | (simp only [Option.isSome_some, Qt0]; done) | (simp only [UInt64.reduceToNat, UInt32.reduceToNat, UInt8.reduceToNat, List.length_cons, List.length_nil, List.length_append, Int.toNat_natCast] <;> omega) | fail) only [Nat.reduceLT, Nat.reduceLeDiff, Nat.reduceEqDiff, ↓reduceIte, Int.reduceLT, Int.reduceLE, Int.reduceToNat, Int.reduceEq, Int.reduceNe, Nat.reduceAdd, UInt8.reduceOfNat, UInt16.reduceOfNat, UInt32.reduceOfNat, UInt64.reduceOfNat, UInt64.reduceToNat, UInt32.reduceToNat, UInt16.reduceToNat, UInt8.reduceToNat, Int.reduceAdd, Int.reduceSub, Int.reduceMul, Nat.reduceMul, Qp0, Qp1, Ql0, Qe0]
  · simp -dsimp -implicitDefEqProofs (disch := first | omega | assumption | (simp only [Option.isSome_some, Qt0]; done) | (simp only [UInt64.reduceToNat, UInt32.reduceToNat, UInt8.reduceToNat, List.length_cons, List.length_nil, List.length_append, Int.toNat_natCast] <;> omega) | fail) only [Nat.reduceLT, Nat.reduceLeDiff, Nat.reduceEqDiff, ↓reduceIte, Int.reduceLT, Int.reduceLE, Int.reduceToNat, Int.reduceEq, Int.reduceNe, Nat.reduceAdd, UInt8.reduceOfNat, UInt16.reduceOfNat, UInt32.reduceOfNat, UInt64.reduceOfNat, UInt64.reduceToNat, UInt32.reduceToNat, UInt16.reduceToNat, UInt8.reduceToNat, Int.reduceAdd, Int.reduceSub, Int.reduceMul, Nat.reduceMul, Qp0, Qp1, Ql0, Qe0]
  · simp -dsimp -implicitDefEqProofs (disch := first | omega | assumption | (simp only [Option.isSome_some, Qt0]; done) | (simp only [UInt64.reduceToNat, UInt32.reduceToNat, UInt8.reduceToNat, List.length_cons, List.length_nil, List.length_append, Int.toNat_natCast] <;> omega) | fail) only [Nat.reduceLT, Nat.reduceLeDiff, Nat.reduceEqDiff, ↓reduceIte, Int.reduceLT, Int.reduceLE, Int.reduceToNat, Int.reduceEq, Int.reduceNe, Nat.reduceAdd, UInt8.reduceOfNat, UInt16.reduceOfNat, UInt32.reduceOfNat, UInt64.reduceOfNat, UInt64.reduceToNat, UInt32.reduceToNat, UInt16.reduceToNat, UInt8.reduceToNat, Int.reduceAdd, Int.reduceSub, Int.reduceMul, Nat.reduceMul, Qp0, Qp1, Ql0, Qe0]
  · simp -dsimp -implicitDefEqProofs (disch := first | omega | assumption | (simp only [Option.isSome_some, Qt0]; done) | (simp only [UInt64.reduceToNat, UInt32.reduceToNat, UInt8.reduceToNat, List.length_cons, List.length_nil, List.length_append, Int.toNat_natCast] <;> omega) | fail) only [Nat.reduceLT, Nat.reduceLeDiff, Nat.reduceEqDiff, ↓reduceIte, Int.reduceLT, Int.reduceLE, Int.reduceToNat, Int.reduceEq, Int.reduceNe, Nat.reduceAdd, UInt8.reduceOfNat, UInt16.reduceOfNat, UInt32.reduceOfNat, UInt64.reduceOfNat, UInt64.reduceToNat, UInt32.reduceToNat, UInt16.reduceToNat, UInt8.reduceToNat, Int.reduceAdd, Int.reduceSub, Int.reduceMul, Nat.reduceMul, Qp0, Qp1, Ql0, Qe0]
    try rfl
  rintro n f h' ⟨i, hni, f0, f7, f8, f9, hl', hall⟩ hlow'
  by_cases hi : i < P.length
  rotate_left
  · have e2 : decide ((i : Int) < (P.length : Int)) = false := decide_eq_false (by omega)
    rw [rightWs_all (L := P.map (·.1)) fun j x hx => by
      rw [List.getElem?_map] at hx
      obtain ⟨y, hy, rfl⟩ := Option.map_eq_some_iff.1 hx
      exact hall j y (by have := (List.getElem?_eq_some_iff.1 hy).1; omega) hy]
    rw [List.length_map]
    obtain ⟨b1, hb1⟩ : ∃ b, decide ((P.length : Int) ≥ 1) = b := ⟨_, rfl⟩
    rw [hb1]
    cases b1
    · simp -dsimp -implicitDefEqProofs (disch := first | omega | assumption | (simp only [Option.isSome_some, Qt0]; done) | (simp only [UInt64.reduceToNat, UInt32.reduceToNat, UInt8.reduceToNat, List.length_cons, List.length_nil, List.length_append, Int.toNat_natCast] <;> omega) | fail) only [Nat.reduceLT, Nat.reduceLeDiff, Nat.reduceEqDiff, ↓reduceIte, Int.reduceLT, Int.reduceLE, Int.reduceToNat, Int.reduceEq, Int.reduceNe, Nat.reduceAdd, UInt8.reduceOfNat, UInt16.reduceOfNat, UInt32.reduceOfNat, UInt64.reduceOfNat, UInt64.reduceToNat, UInt32.reduceToNat, UInt16.reduceToNat, UInt8.reduceToNat, Int.reduceAdd, Int.reduceSub, Int.reduceMul, Nat.reduceMul, Qp0, Qp1, Ql0, Qe0, f0, f7, f8, f9, e2, hb1]
      exact ⟨_, PH.Le.refl _, by first | rfl | trivial, hlq.trans hl'⟩
    · simp -dsimp -implicitDefEqProofs (disch := first | omega | assumption | (simp only [Option.isSome_some, Qt0]; done) | (simp only [UInt64.reduceToNat, UInt32.reduceToNat, UInt8.reduceToNat, List.length_cons, List.length_nil, List.length_append, Int.toNat_natCast] <;> omega) | fail) only [Nat.reduceLT, Nat.reduceLeDiff, Nat.reduceEqDiff, ↓reduceIte, Int.reduceLT, Int.reduceLE, Int.reduceToNat, Int.reduceEq, Int.reduceNe, Nat.reduceAdd, UInt8.reduceOfNat, UInt16.reduceOfNat, UInt32.reduceOfNat, UInt64.reduceOfNat, UInt64.reduceToNat, UInt32.reduceToNat, UInt16.reduceToNat, UInt8.reduceToNat, Int.reduceAdd, Int.reduceSub, Int.reduceMul, Nat.reduceMul, Qp0, Qp1, Ql0, Qe0, f0, f7, f8, f9, e2, hb1]
      exact ⟨_, PH.Le.refl _, by first | rfl | trivial, hlq.trans hl'⟩
  have e2 : decide ((i : Int) < (P.length : Int)) = true := decide_eq_true (by omega)
  obtain ⟨⟨x, Ai, ci⟩, hx⟩ : ∃ x, P[i]? = some x := ⟨_, List.getElem?_eq_getElem hi⟩
  obtain ⟨⟨y, Ay, cy⟩, hy⟩ : ∃ x, P[0]? = some x := ⟨_, List.getElem?_eq_getElem (by omega)⟩
  obtain ⟨b, o, rfl⟩ := hrq.addr_ wpL_length (by omega) hx
  have hr' := hrq.more hl'
  have hrd := hr'.chunk wpL_length (by omega) hlow' hx
  have hgx := ((hg _ (List.mem_of_getElem? hx)).more hlq).more hl'
  have hdx := hd _ (List.mem_of_getElem? hx)
  simp only at hgx hdx
  have hh0 : (P.map (·.1)).head?.map (·.r) = some y.r := by
    rw [List.head?_eq_getElem?, List.getElem?_map, hy]; rfl
  rw [hh0] at hall
  have hmx : (P.map (·.1))[i]? = some x := by rw [List.getElem?_map, hx]; rfl
  have ha : allOne (wpL (x, Ai, ci)) := wpL_one _
  have hE := fun h1 (hg1 : GoodW w0 h1 (x, Ai, ci)) => encW_any w0 h1 x Ai ci hg1.2 hg1.1 hdx
  unfold wpL wtL at hrd ha
  unfold wtL at hE
  have hT : (i : Int).toNat = i := Int.toNat_natCast i
  have hutq : w0.heap.size ≤ h'.top := by have := hl'.top; omega
  simp -dsimp -implicitDefEqProofs (disch := first | omega | assumption | (simp only [Option.isSome_some, Qt0]; done) | (simp only [UInt64.reduceToNat, UInt32.reduceToNat, UInt8.reduceToNat, List.length_cons, List.length_nil, List.length_append, Int.toNat_natCast] <;> omega) | fail) only [Nat.reduceLT, Nat.reduceLeDiff, Nat.reduceEqDiff, ↓reduceIte, Int.reduceLT, Int.reduceLE, Int.reduceToNat, Int.reduceEq, Int.reduceNe, Nat.reduceAdd, UInt8.reduceOfNat, UInt16.reduceOfNat, UInt32.reduceOfNat, UInt64.reduceOfNat, UInt64.reduceToNat, UInt32.reduceToNat, UInt16.reduceToNat, UInt8.reduceToNat, Int.reduceAdd, Int.reduceSub, Int.reduceMul, Nat.reduceMul, Qp0, Qp1, Ql0, Qe0, f0, f7, f8, f9, e2, hrd]
  refine fun xb hxb => ?_
  have hxb' : h'.top ≤ xb := hxb
  obtain ⟨h1, hh1⟩ : ∃ h1, h'.new xb ⟨[.int .i64 x.r, .int .i64 x.n, .int .i64 x.t, .int .i64 x.q, .slice Ai x.d.length ci, str x.s, str x.k, str x.v, .bool x.g, .int .i64 x.l], 10⟩ = h1 := ⟨_, rfl⟩
  have hl1 : PH.Le h' h1 := by rw [← hh1]; exact (PH.Le.refl h').new _ _ hxb
  have hm1 : h1.m xb = some ⟨[.int .i64 x.r, .int .i64 x.n, .int .i64 x.t, .int .i64 x.q, .slice Ai x.d.length ci, str x.s, str x.k, str x.v, .bool x.g, .int .i64 x.l], 10⟩ := by rw [← hh1, PH.new_m, if_pos rfl]
  have hs1 : rdN w0 h1 ⟨xb, 0, none⟩ 10 = some [.int .i64 x.r, .int .i64 x.n, .int .i64 x.t, .int .i64 x.q, .slice Ai x.d.length ci, str x.s, str x.k, str x.v, .bool x.g, .int .i64 x.l] := by unfold rdN; simp only [hm1]; rfl
  simp -dsimp -implicitDefEqProofs (disch := first | omega | assumption | (simp only [Option.isSome_some, Qt0]; done) | (simp only [UInt64.reduceToNat, UInt32.reduceToNat, UInt8.reduceToNat, List.length_cons, List.length_nil, List.length_append, Int.toNat_natCast] <;> omega) | fail) only [Nat.reduceLT, Nat.reduceLeDiff, Nat.reduceEqDiff, ↓reduceIte, Int.reduceLT, Int.reduceLE, Int.reduceToNat, Int.reduceEq, Int.reduceNe, Nat.reduceAdd, UInt8.reduceOfNat, UInt16.reduceOfNat, UInt32.reduceOfNat, UInt64.reduceOfNat, UInt64.reduceToNat, UInt32.reduceToNat, UInt16.reduceToNat, UInt8.reduceToNat, Int.reduceAdd, Int.reduceSub, Int.reduceMul, Nat.reduceMul, Qp0, Qp1, Ql0, Qe0, f0, f7, f8, f9, List.set_cons_zero, List.set_cons_succ, List.take_zero, List.drop_succ_cons, List.drop_zero, List.drop_nil, List.nil_append, List.append_nil, List.take_succ_cons, ite_true, PH.new_new, hh1, hs1]
  refine (hE h1 (hgx.more hl1)).low.mono ?_
  rintro v h2 ⟨⟨hE, hle2⟩, hlow2⟩
  have hm2 := hle2.m _ _ hm1
  have hl2 := hl'.trans (hl1.trans hle2)
  have gg0 : rdM w0 (h2.m b) b o = some (.int .i64 y.r) := by
    have := (hrq.more hl2).chunkM wpL_length (by omega) hlow2 hy (j := 0) (u := .int .i64 y.r) rfl
    simpa using this
  unfold ENC at hE
  cases hb : rightW x with
  | false =>
    rw [hb, if_neg (by simp)] at hE
    obtain ⟨ev, rfl, be, ve, rfl, _, _⟩ := hE
    rw [rightWs_no hmx (.inl hb)]
    unfold errV
    simp -dsimp -implicitDefEqProofs (disch := first | omega | assumption | (simp only [Option.isSome_some, Qt0]; done) | (simp only [UInt64.reduceToNat, UInt32.reduceToNat, UInt8.reduceToNat, List.length_cons, List.length_nil, List.length_append, Int.toNat_natCast] <;> omega) | fail) only [Nat.reduceLT, Nat.reduceLeDiff, Nat.reduceEqDiff, ↓reduceIte, Int.reduceLT, Int.reduceLE, Int.reduceToNat, Int.reduceEq, Int.reduceNe, Nat.reduceAdd, UInt8.reduceOfNat, UInt16.reduceOfNat, UInt32.reduceOfNat, UInt64.reduceOfNat, UInt64.reduceToNat, UInt32.reduceToNat, UInt16.reduceToNat, UInt8.reduceToNat, Int.reduceAdd, Int.reduceSub, Int.reduceMul, Nat.reduceMul, Qp0, Qp1, Ql0, Qe0, f0, f7, f8, f9]
    refine PW_drawn 11 _ (by kernel_rfl) (by kernel_rfl) (by kernel_rfl) (by kernel_rfl) (by kernel_rfl) (fun c f h hq => by simp only [thenC_panic, thenK_panic, inBlk_panic, thenN_panic, vcRet_panic] at hq) (PH.Le.refl _).sub ?_
    simp -dsimp -implicitDefEqProofs (disch := first | omega | assumption | (simp only [Option.isSome_some, Qt0]; done) | (simp only [UInt64.reduceToNat, UInt32.reduceToNat, UInt8.reduceToNat, List.length_cons, List.length_nil, List.length_append, Int.toNat_natCast] <;> omega) | fail) only [Nat.reduceLT, Nat.reduceLeDiff, Nat.reduceEqDiff, ↓reduceIte, Int.reduceLT, Int.reduceLE, Int.reduceToNat, Int.reduceEq, Int.reduceNe, Nat.reduceAdd, UInt8.reduceOfNat, UInt16.reduceOfNat, UInt32.reduceOfNat, UInt64.reduceOfNat, UInt64.reduceToNat, UInt32.reduceToNat, UInt16.reduceToNat, UInt8.reduceToNat, Int.reduceAdd, Int.reduceSub, Int.reduceMul, Nat.reduceMul, Qp0, Qp1, Ql0, Qe0, f0, f7, f8, f9, rd_M, rdM_some, hm2, gg0]
    exact ⟨_, PH.Le.refl _, by first | rfl | trivial, hlq.trans hl2⟩
  | true =>
    rw [hb, if_pos rfl] at hE
    subst hE
    by_cases hr0 : x.r = y.r
    · have e3 : decide (¬ x.r = y.r) = false := decide_eq_false (by omega)
      simp -dsimp -implicitDefEqProofs (disch := first | omega | assumption | (simp only [Option.isSome_some, Qt0]; done) | (simp only [UInt64.reduceToNat, UInt32.reduceToNat, UInt8.reduceToNat, List.length_cons, List.length_nil, List.length_append, Int.toNat_natCast] <;> omega) | fail) only [Nat.reduceLT, Nat.reduceLeDiff, Nat.reduceEqDiff, ↓reduceIte, Int.reduceLT, Int.reduceLE, Int.reduceToNat, Int.reduceEq, Int.reduceNe, Nat.reduceAdd, UInt8.reduceOfNat, UInt16.reduceOfNat, UInt32.reduceOfNat, UInt64.reduceOfNat, UInt64.reduceToNat, UInt32.reduceToNat, UInt16.reduceToNat, UInt8.reduceToNat, Int.reduceAdd, Int.reduceSub, Int.reduceMul, Nat.reduceMul, Qp0, Qp1, Ql0, Qe0, f0, f7, f8, f9]
      refine PW_drawn 11 _ (by kernel_rfl) (by kernel_rfl) (by kernel_rfl) (by kernel_rfl) (by kernel_rfl) (fun c f h hq => by simp only [thenC_panic, thenK_panic, inBlk_panic, thenN_panic, vcRet_panic] at hq) (PH.Le.refl _).sub ?_
      simp -dsimp -implicitDefEqProofs (disch := first | omega | assumption | (simp only [Option.isSome_some, Qt0]; done) | (simp only [UInt64.reduceToNat, UInt32.reduceToNat, UInt8.reduceToNat, List.length_cons, List.length_nil, List.length_append, Int.toNat_natCast] <;> omega) | fail) only [Nat.reduceLT, Nat.reduceLeDiff, Nat.reduceEqDiff, ↓reduceIte, Int.reduceLT, Int.reduceLE, Int.reduceToNat, Int.reduceEq, Int.reduceNe, Nat.reduceAdd, UInt8.reduceOfNat, UInt16.reduceOfNat, UInt32.reduceOfNat, UInt64.reduceOfNat, UInt64.reduceToNat, UInt32.reduceToNat, UInt16.reduceToNat, UInt8.reduceToNat, Int.reduceAdd, Int.reduceSub, Int.reduceMul, Nat.reduceMul, Qp0, Qp1, Ql0, Qe0, f0, f7, f8, f9, rd_M, rdM_some, hm2, gg0, e3]
      refine ⟨n - 1, _, by omega, PH.Le.refl _, i + 1, by omega, by trivial, by trivial, by trivial, by simp, hl2, fun j z hj hz => ?_⟩
      by_cases hji : j = i
      · subst hji
        rw [hx] at hz
        obtain rfl := Option.some.inj hz
        rw [hh0]
        exact ⟨hb, by rw [hr0]⟩
      · rw [hh0]; exact hall j z (by omega) hz
    · have e3 : decide (¬ x.r = y.r) = true := decide_eq_true hr0
      rw [rightWs_no hmx (.inr (by rw [hh0]; intro e; exact hr0 (Option.some.inj e)))]
      simp -dsimp -implicitDefEqProofs (disch := first | omega | assumption | (simp only [Option.isSome_some, Qt0]; done) | (simp only [UInt64.reduceToNat, UInt32.reduceToNat, UInt8.reduceToNat, List.length_cons, List.length_nil, List.length_append, Int.toNat_natCast] <;> omega) | fail) only [Nat.reduceLT, Nat.reduceLeDiff, Nat.reduceEqDiff, ↓reduceIte, Int.reduceLT, Int.reduceLE, Int.reduceToNat, Int.reduceEq, Int.reduceNe, Nat.reduceAdd, UInt8.reduceOfNat, UInt16.reduceOfNat, UInt32.reduceOfNat, UInt64.reduceOfNat, UInt64.reduceToNat, UInt32.reduceToNat, UInt16.reduceToNat, UInt8.reduceToNat, Int.reduceAdd, Int.reduceSub, Int.reduceMul, Nat.reduceMul, Qp0, Qp1, Ql0, Qe0, f0, f7, f8, f9]
      refine PW_drawn 11 _ (by kernel_rfl) (by kernel_rfl) (by kernel_rfl) (by kernel_rfl) (by kernel_rfl) (fun c f h hq => by simp only [thenC_panic, thenK_panic, inBlk_panic, thenN_panic, vcRet_panic] at hq) (PH.Le.refl _).sub ?_
      simp -dsimp -implicitDefEqProofs (disch := first | omega | assumption | (simp only [Option.isSome_some, Qt0]; done) | (simp only [UInt64.reduceToNat, UInt32.reduceToNat, UInt8.reduceToNat, List.length_cons, List.length_nil, List.length_append, Int.toNat_natCast] <;> omega) | fail) only [Nat.reduceLT, Nat.reduceLeDiff, Nat.reduceEqDiff, ↓reduceIte, Int.reduceLT, Int.reduceLE, Int.reduceToNat, Int.reduceEq, Int.reduceNe, Nat.reduceAdd, UInt8.reduceOfNat, UInt16.reduceOfNat, UInt32.reduceOfNat, UInt64.reduceOfNat, UInt64.reduceToNat, UInt32.reduceToNat, UInt16.reduceToNat, UInt8.reduceToNat, Int.reduceAdd, Int.reduceSub, Int.reduceMul, Nat.reduceMul, Qp0, Qp1, Ql0, Qe0, f0, f7, f8, f9, rd_M, rdM_some, hm2, gg0, e3]
      exact ⟨_, PH.Le.refl _, by first | rfl | trivial, hlq.trans hl2⟩
end Go.Proofs.Ytdhgmifgjaedbaa


/- Walks: lists of epochs that are right. No condition. -/
namespace Go.Proofs.Ytdhgmifgjaedbaa
set_option linter.unusedVariables false
set_option linter.unusedSimpArgs false
open Go.RowKit Px Wr
theorem rises_iff : ∀ {L : List Ep}, rises L = true ↔ ∀ (j : Nat) (x y : Ep), L[j]? = some x → L[j + 1]? = some y → leB y.u x.u = false
  | [] => by simp [rises]
  | [a] => by simp [rises]
  | a :: b :: l => by
    rw [rises, Bool.and_eq_true, rises_iff, Bool.not_eq_true']
    constructor
    · rintro ⟨h1, h2⟩ j x y hx hy
      cases j with
      | zero =>
        simp only [List.getElem?_cons_zero, Option.some.injEq, Nat.zero_add, List.getElem?_cons_succ] at hx hy
        subst hx; subst hy; exact h1
      | succ j => exact h2 j x y (by simpa using hx) (by simpa using hy)
    · intro h
      exact ⟨h 0 a b rfl rfl, fun j x y hx hy => h (j + 1) x y (by simpa using hx) (by simpa using hy)⟩
theorem rightE_no1 {L : List Ep} {x : Ep} {i : Nat} (hx : L[i]? = some x) (h : rightEp x = false) : rightE L = false := by
  unfold rightE
  rw [Bool.eq_false_iff]
  intro e
  simp only [Bool.and_eq_true, List.all_eq_true] at e
  have := e.1.2 x (List.mem_of_getElem? hx)
  rw [h] at this; cases this
theorem rightE_no2 {L : List Ep} {x y : Ep} {i : Nat} (hx : L[i]? = some x) (hy : L[i + 1]? = some y) (h : leB y.u x.u = true) : rightE L = false := by
  unfold rightE
  rw [Bool.eq_false_iff]
  intro e
  simp only [Bool.and_eq_true] at e
  have := rises_iff.1 e.2 i x y hx hy
  rw [h] at this; cases this
theorem rightE_no3 {L : List Ep} (h : 64 < L.length) : rightE L = false := by
  unfold rightE
  rw [decide_eq_false (by omega)]; rfl
theorem rightE_yes {L : List Ep} (h : L.length ≤ 64) (h1 : ∀ j x, j < L.length → L[j]? = some x → rightEp x = true) (h2 : ∀ (j : Nat) (x y : Ep), j + 1 < L.length → L[j]? = some x → L[j + 1]? = some y → leB y.u x.u = false) : rightE L = true := by
  unfold rightE
  rw [decide_eq_true h, rises_iff.2 fun j x y hx hy => h2 j x y (List.getElem?_eq_some_iff.1 hy).1 hx hy, List.all_eq_true.2 fun x hx => by
    obtain ⟨j, hj, rfl⟩ := List.getElem_of_mem hx
    exact h1 j _ hj (List.getElem?_eq_getElem hj)]
  rfl
set_option maxRecDepth 20000 in
set_option maxHeartbeats 4000000 in
theorem right21R_any (w0 : World) (h : PH) (A : Option Addr) (c : Nat) (L : List Ep) (hr : Rv w0 h A (L.flatMap epL)) (hn : L.length ≤ c) : PCalls Try.prog w0 31 [.slice A L.length c] h fun r h' => r = .bool (rightE L) ∧ h' = h := by
  refine PCalls_low fun hl => ?_
  refine PCalls_body Try.func31 (by kernel_rfl) rfl _ Try.ntmps31 (by kernel_rfl) (by kernel_rfl) _ Try.results31 ?_
  by_cases h64 : 64 < L.length
  · have e1 : decide ((L.length : Int) > 64) = true := decide_eq_true (by omega)
    rw [rightE_no3 h64]
    simp -dsimp -implicitDefEqProofs (disch := first | omega | assumption | (simp only [Option.isSome_some, Qt0]; done) | (simp only [UInt64.reduceToNat, UInt32.reduceToNat, UInt8.reduceToNat, List.length_cons, List.length_nil, List.length_append, Int.toNat_natCast] <;> omega) | fail) only [Nat.reduceLT, Nat.reduceLeDiff, Nat.reduceEqDiff, ↓reduceIte, Int.reduceLT, Int.reduceLE, Int.reduceToNat, Int.reduceEq, Int.reduceNe, Nat.reduceAdd, UInt8.reduceOfNat, UInt16.reduceOfNat, UInt32.reduceOfNat, UInt64.reduceOfNat, UInt64.reduceToNat, UInt32.reduceToNat, UInt16.reduceToNat, UInt8.reduceToNat, Int.reduceAdd, Int.reduceSub, Int.reduceMul, Nat.reduceMul, Qp0, Qp1, Ql0, Qe0, e1]
    exact ⟨_, PH.Le.refl _, by first | rfl | trivial, rfl⟩
  have e1 : decide ((L.length : Int) > 64) = false := decide_eq_false (by omega)
  simp -dsimp -implicitDefEqProofs (disch := first | omega | assumption | (simp only [Option.isSome_some, Qt0]; done) | (simp only [UInt64.reduceToNat, UInt32.reduceToNat, UInt8.reduceToNat, List.length_cons, List.length_nil, List.length_append, Int.toNat_natCast] <;> omega) | fail) only [Nat.reduceLT, Nat.reduceLeDiff, Nat.reduceEqDiff, ↓reduceIte, Int.reduceLT, Int.reduceLE, Int.reduceToNat, Int.reduceEq, Int.reduceNe, Nat.reduceAdd, UInt8.reduceOfNat, UInt16.reduceOfNat, UInt32.reduceOfNat, UInt64.reduceOfNat, UInt64.reduceToNat, UInt32.reduceToNat, UInt16.reduceToNat, UInt8.reduceToNat, Int.reduceAdd, Int.reduceSub, Int.reduceMul, Nat.reduceMul, Qp0, Qp1, Ql0, Qe0, e1]
  refine PW_loop (fun n f h' => ∃ i : Nat, n + i = L.length ∧ f 0 = some (.slice A L.length c) ∧ f 3 = some (.int .i64 i) ∧ h' = h ∧ (∀ j x, j < i → L[j]? = some x → rightEp x = true) ∧ (∀ (j : Nat) (x y : Ep), j + 1 < i → L[j]? = some x → L[j + 1]? = some y → leB y.u x.u = false)) (by kernel_rfl) L.length ⟨0, by omega, ?_, ?_, rfl, fun j x hj => by omega, fun j x y hj => by omega⟩ ?_
  · simp -dsimp -implicitDefEqProofs (disch := first | omega | assumption | (simp only [Option.isSome_some, Qt0]; done) | (simp only [UInt64.reduceToNat, UInt32.reduceToNat, UInt8.reduceToNat, List.length_cons, List.length_nil, List.length_append, Int.toNat_natCast] <;> omega) | fail) only [Nat.reduceLT, Nat.reduceLeDiff, Nat.reduceEqDiff, ↓reduceIte, Int.reduceLT, Int.reduceLE, Int.reduceToNat, Int.reduceEq, Int.reduceNe, Nat.reduceAdd, UInt8.reduceOfNat, UInt16.reduceOfNat, UInt32.reduceOfNat, UInt64.reduceOfNat, UInt64.reduceToNat, UInt32.reduceToNat, UInt16.reduceToNat, UInt8.reduceToNat, Int.reduceAdd, Int.reduceSub, Int.reduceMul, Nat.reduceMul, Qp0, Qp1, Ql0, Qe0]
  · simp -dsimp -implicitDefEqProofs (disch := first | omega | assumption | (simp only [Option.isSome_some, Qt0]; done) | (simp only [UInt64.reduceToNat, UInt32.reduceToNat, UInt8.reduceToNat, List.length_cons, List.length_nil, List.length_append, Int.toNat_natCast] <;> omega) | fail) only [Nat.reduceLT, Nat.reduceLeDiff, Nat.reduceEqDiff, ↓reduceIte, Int.reduceLT, Int.reduceLE, Int.reduceToNat, Int.reduceEq, Int.reduceNe, Nat.reduceAdd, UInt8.reduceOfNat, UInt16.reduceOfNat, UInt32.reduceOfNat, UInt64.reduceOfNat, UInt64.reduceToNat, UInt32.reduceToNat, UInt16.reduceToNat, UInt8.reduceToNat, Int.reduceAdd, Int.reduceSub, Int.reduceMul, Nat.reduceMul, Qp0, Qp1, Ql0, Qe0]
    try rfl
  rintro n f h' ⟨i, hni, f0, f3, rfl, hall, hris⟩
  by_cases hi : i < L.length
  rotate_left
  · have e2 : decide ((i : Int) < (L.length : Int)) = false := decide_eq_false (by omega)
    rw [rightE_yes (by omega) (fun j x hj => hall j x (by omega)) (fun j x y hj => hris j x y (by omega))]
    simp -dsimp -implicitDefEqProofs (disch := first | omega | assumption | (simp only [Option.isSome_some, Qt0]; done) | (simp only [UInt64.reduceToNat, UInt32.reduceToNat, UInt8.reduceToNat, List.length_cons, List.length_nil, List.length_append, Int.toNat_natCast] <;> omega) | fail) only [Nat.reduceLT, Nat.reduceLeDiff, Nat.reduceEqDiff, ↓reduceIte, Int.reduceLT, Int.reduceLE, Int.reduceToNat, Int.reduceEq, Int.reduceNe, Nat.reduceAdd, UInt8.reduceOfNat, UInt16.reduceOfNat, UInt32.reduceOfNat, UInt64.reduceOfNat, UInt64.reduceToNat, UInt32.reduceToNat, UInt16.reduceToNat, UInt8.reduceToNat, Int.reduceAdd, Int.reduceSub, Int.reduceMul, Nat.reduceMul, Qp0, Qp1, Ql0, Qe0, f0, f3, e2]
    exact ⟨_, PH.Le.refl _, by first | rfl | trivial, rfl⟩
  have e2 : decide ((i : Int) < (L.length : Int)) = true := decide_eq_true (by omega)
  obtain ⟨⟨u, m⟩, hx⟩ : ∃ x, L[i]? = some x := ⟨_, List.getElem?_eq_getElem hi⟩
  obtain ⟨b, o, rfl⟩ := hr.addr_ epL_length (by omega) hx
  have hT : (i : Int).toNat = i := Int.toNat_natCast i
  have gu : rdM w0 (h'.m b) b (o + i * 2) = some (str u) := hr.chunkM epL_length (by omega) hl hx (j := 0) rfl
  have gm : rdM w0 (h'.m b) b (o + i * 2 + 1) = some (.int .i64 m) := hr.chunkM epL_length (by omega) hl hx (j := 1) rfl
  have hR := right21_any u m w0 h'
  simp -dsimp -implicitDefEqProofs (disch := first | omega | assumption | (simp only [Option.isSome_some, Qt0]; done) | (simp only [UInt64.reduceToNat, UInt32.reduceToNat, UInt8.reduceToNat, List.length_cons, List.length_nil, List.length_append, Int.toNat_natCast] <;> omega) | fail) only [Nat.reduceLT, Nat.reduceLeDiff, Nat.reduceEqDiff, ↓reduceIte, Int.reduceLT, Int.reduceLE, Int.reduceToNat, Int.reduceEq, Int.reduceNe, Nat.reduceAdd, UInt8.reduceOfNat, UInt16.reduceOfNat, UInt32.reduceOfNat, UInt64.reduceOfNat, UInt64.reduceToNat, UInt32.reduceToNat, UInt16.reduceToNat, UInt8.reduceToNat, Int.reduceAdd, Int.reduceSub, Int.reduceMul, Nat.reduceMul, Qp0, Qp1, Ql0, Qe0, f0, f3, e2]
  refine PW_plan [0, 1, 2, 3, 4, 5, 6, 7, 8, 9, 10, 11, 12, 13, 14, 15, 16, 17, 18, 19, 20, 21, 22, 23, 24, 25, 26, 27, 28, 29] h' (by kernel_rfl) (by decide +kernel) (by kernel_rfl) (by kernel_rfl) (by kernel_rfl) (fun c f h hq => by simp only [thenC_panic, thenK_panic, inBlk_panic, thenN_panic, vcRet_panic] at hq) (PH.Le.refl _).sub ?_
  cases hb : rightEp ⟨u, m⟩ with
  | false =>
    rw [hb] at hR
    have hR := Lib.hid hR
    rw [rightE_no1 hx hb]
    simp -dsimp -implicitDefEqProofs (disch := first | omega | assumption | (simp only [Option.isSome_some, Qt0]; done) | (simp only [UInt64.reduceToNat, UInt32.reduceToNat, UInt8.reduceToNat, List.length_cons, List.length_nil, List.length_append, Int.toNat_natCast] <;> omega) | fail) only [Nat.reduceLT, Nat.reduceLeDiff, Nat.reduceEqDiff, ↓reduceIte, Int.reduceLT, Int.reduceLE, Int.reduceToNat, Int.reduceEq, Int.reduceNe, Nat.reduceAdd, UInt8.reduceOfNat, UInt16.reduceOfNat, UInt32.reduceOfNat, UInt64.reduceOfNat, UInt64.reduceToNat, UInt32.reduceToNat, UInt16.reduceToNat, UInt8.reduceToNat, Int.reduceAdd, Int.reduceSub, Int.reduceMul, Nat.reduceMul, Qp0, Qp1, Ql0, Qe0, f0, f3, rd_M, gu, gm]
    refine hR.out.mono ?_
    rintro v hq ⟨rfl, hz⟩; obtain rfl := hz.symm
    refine ⟨(PH.Le.refl _).sub, ?_⟩
    simp -dsimp -implicitDefEqProofs (disch := first | omega | assumption | (simp only [Option.isSome_some, Qt0]; done) | (simp only [UInt64.reduceToNat, UInt32.reduceToNat, UInt8.reduceToNat, List.length_cons, List.length_nil, List.length_append, Int.toNat_natCast] <;> omega) | fail) only [Nat.reduceLT, Nat.reduceLeDiff, Nat.reduceEqDiff, ↓reduceIte, Int.reduceLT, Int.reduceLE, Int.reduceToNat, Int.reduceEq, Int.reduceNe, Nat.reduceAdd, UInt8.reduceOfNat, UInt16.reduceOfNat, UInt32.reduceOfNat, UInt64.reduceOfNat, UInt64.reduceToNat, UInt32.reduceToNat, UInt16.reduceToNat, UInt8.reduceToNat, Int.reduceAdd, Int.reduceSub, Int.reduceMul, Nat.reduceMul, Qp0, Qp1, Ql0, Qe0, f0, f3, rd_M, gu, gm]
    exact ⟨_, PH.Le.refl _, by first | rfl | trivial, rfl⟩
  | true =>
    rw [hb] at hR
    have hR := Lib.hid hR
    simp -dsimp -implicitDefEqProofs (disch := first | omega | assumption | (simp only [Option.isSome_some, Qt0]; done) | (simp only [UInt64.reduceToNat, UInt32.reduceToNat, UInt8.reduceToNat, List.length_cons, List.length_nil, List.length_append, Int.toNat_natCast] <;> omega) | fail) only [Nat.reduceLT, Nat.reduceLeDiff, Nat.reduceEqDiff, ↓reduceIte, Int.reduceLT, Int.reduceLE, Int.reduceToNat, Int.reduceEq, Int.reduceNe, Nat.reduceAdd, UInt8.reduceOfNat, UInt16.reduceOfNat, UInt32.reduceOfNat, UInt64.reduceOfNat, UInt64.reduceToNat, UInt32.reduceToNat, UInt16.reduceToNat, UInt8.reduceToNat, Int.reduceAdd, Int.reduceSub, Int.reduceMul, Nat.reduceMul, Qp0, Qp1, Ql0, Qe0, f0, f3, rd_M, gu, gm]
    refine hR.out.mono ?_
    rintro v hq ⟨rfl, hz⟩; obtain rfl := hz.symm
    refine ⟨(PH.Le.refl _).sub, ?_⟩
    have hnext : ∀ j x, j < i + 1 → L[j]? = some x → rightEp x = true := fun j x hj hz => by
      by_cases hji : j = i
      · subst hji; rw [hx] at hz; rw [← Option.some.inj hz]; exact hb
      · exact hall j x (by omega) hz
    by_cases hi0 : i = 0
    · have e3 : decide ((i : Int) > 0) = false := decide_eq_false (by omega)
      simp -dsimp -implicitDefEqProofs (disch := first | omega | assumption | (simp only [Option.isSome_some, Qt0]; done) | (simp only [UInt64.reduceToNat, UInt32.reduceToNat, UInt8.reduceToNat, List.length_cons, List.length_nil, List.length_append, Int.toNat_natCast] <;> omega) | fail) only [Nat.reduceLT, Nat.reduceLeDiff, Nat.reduceEqDiff, ↓reduceIte, Int.reduceLT, Int.reduceLE, Int.reduceToNat, Int.reduceEq, Int.reduceNe, Nat.reduceAdd, UInt8.reduceOfNat, UInt16.reduceOfNat, UInt32.reduceOfNat, UInt64.reduceOfNat, UInt64.reduceToNat, UInt32.reduceToNat, UInt16.reduceToNat, UInt8.reduceToNat, Int.reduceAdd, Int.reduceSub, Int.reduceMul, Nat.reduceMul, Qp0, Qp1, Ql0, Qe0, f0, f3, rd_M, gu, gm, e3]
      exact ⟨n - 1, _, by omega, PH.Le.refl _, i + 1, by omega, by trivial, by simp, rfl, hnext, fun j x y hj => by omega⟩
    obtain ⟨k, hk⟩ : ∃ k, k + 1 = i := ⟨i - 1, by omega⟩
    obtain ⟨⟨u2, m2⟩, hy⟩ : ∃ x, L[k]? = some x := ⟨_, List.getElem?_eq_getElem (by omega)⟩
    have e3 : decide ((i : Int) > 0) = true := decide_eq_true (by omega)
    have gy : rdM w0 (h'.m b) b (o + k * 2) = some (str u2) := hr.chunkM epL_length (by omega) hl hy (j := 0) rfl
    have hT2 : ((i : Int) - 1).toNat = k := by omega
    cases hle : leB u u2 with
    | true =>
      rw [rightE_no2 hy (by rw [hk]; exact hx) hle]
      simp -dsimp -implicitDefEqProofs (disch := first | omega | assumption | (simp only [Option.isSome_some, Qt0]; done) | (simp only [UInt64.reduceToNat, UInt32.reduceToNat, UInt8.reduceToNat, List.length_cons, List.length_nil, List.length_append, Int.toNat_natCast] <;> omega) | fail) only [Nat.reduceLT, Nat.reduceLeDiff, Nat.reduceEqDiff, ↓reduceIte, Int.reduceLT, Int.reduceLE, Int.reduceToNat, Int.reduceEq, Int.reduceNe, Nat.reduceAdd, UInt8.reduceOfNat, UInt16.reduceOfNat, UInt32.reduceOfNat, UInt64.reduceOfNat, UInt64.reduceToNat, UInt32.reduceToNat, UInt16.reduceToNat, UInt8.reduceToNat, Int.reduceAdd, Int.reduceSub, Int.reduceMul, Nat.reduceMul, Qp0, Qp1, Ql0, Qe0, f0, f3, rd_M, gu, gm, e3, gy, y_leqT, hle, hT2]
      exact ⟨_, PH.Le.refl _, by first | rfl | trivial, rfl⟩
    | false =>
      simp -dsimp -implicitDefEqProofs (disch := first | omega | assumption | (simp only [Option.isSome_some, Qt0]; done) | (simp only [UInt64.reduceToNat, UInt32.reduceToNat, UInt8.reduceToNat, List.length_cons, List.length_nil, List.length_append, Int.toNat_natCast] <;> omega) | fail) only [Nat.reduceLT, Nat.reduceLeDiff, Nat.reduceEqDiff, ↓reduceIte, Int.reduceLT, Int.reduceLE, Int.reduceToNat, Int.reduceEq, Int.reduceNe, Nat.reduceAdd, UInt8.reduceOfNat, UInt16.reduceOfNat, UInt32.reduceOfNat, UInt64.reduceOfNat, UInt64.reduceToNat, UInt32.reduceToNat, UInt16.reduceToNat, UInt8.reduceToNat, Int.reduceAdd, Int.reduceSub, Int.reduceMul, Nat.reduceMul, Qp0, Qp1, Ql0, Qe0, f0, f3, rd_M, gu, gm, e3, gy, y_leqT, hle, hT2]
      refine ⟨n - 1, _, by omega, PH.Le.refl _, i + 1, by omega, by trivial, by simp, rfl, hnext, fun j x y hj h1 h2 => ?_⟩
      by_cases hjk : j = k
      · subst hjk
        rw [hy] at h1
        rw [hk, hx] at h2
        rw [← Option.some.inj h1, ← Option.some.inj h2]; exact hle
      · exact hris j x y (by omega) h1 h2
end Go.Proofs.Ytdhgmifgjaedbaa


/- Walks: epoch's New and Can, over a map. No condition. -/
namespace Go.Proofs.Ytdhgmifgjaedbaa
set_option linter.unusedVariables false
set_option linter.unusedSimpArgs false
open Go.RowKit Go.Maps Go.WideMaps Px Wr
set_option maxRecDepth 20000 in
theorem ebad_any (k : Int) (w0 : World) (h : PH) : PCalls Try.prog w0 65 [.int .i64 k] h fun r h' => (∃ be, r = errV be) ∧ PH.Le h h' := by
  refine PCalls_body Try.func65 (by kernel_rfl) rfl _ Try.ntmps65 (by kernel_rfl) (by kernel_rfl) _ Try.results65 ?_
  simp -dsimp -implicitDefEqProofs (disch := first | omega | assumption | (simp only [Option.isSome_some, Qt0]; done) | (simp only [UInt64.reduceToNat, UInt32.reduceToNat, UInt8.reduceToNat, List.length_cons, List.length_nil, List.length_append, Int.toNat_natCast] <;> omega) | fail) only [Nat.reduceLT, Nat.reduceLeDiff, Nat.reduceEqDiff, ↓reduceIte, Int.reduceLT, Int.reduceLE, Int.reduceToNat, Int.reduceEq, Int.reduceNe, Nat.reduceAdd, UInt8.reduceOfNat, UInt16.reduceOfNat, UInt32.reduceOfNat, UInt64.reduceOfNat, UInt64.reduceToNat, UInt32.reduceToNat, UInt16.reduceToNat, UInt8.reduceToNat, Int.reduceAdd, Int.reduceSub, Int.reduceMul, Nat.reduceMul, Qp0, Qp1, Ql0, Qe0]
  refine (at_any _ _ _ _ w0 _).mono ?_
  rintro v hq ⟨be, rfl, hbe, rfl⟩
  unfold errV
  simp -dsimp -implicitDefEqProofs (disch := first | omega | assumption | (simp only [Option.isSome_some, Qt0]; done) | (simp only [UInt64.reduceToNat, UInt32.reduceToNat, UInt8.reduceToNat, List.length_cons, List.length_nil, List.length_append, Int.toNat_natCast] <;> omega) | fail) only [Nat.reduceLT, Nat.reduceLeDiff, Nat.reduceEqDiff, ↓reduceIte, Int.reduceLT, Int.reduceLE, Int.reduceToNat, Int.reduceEq, Int.reduceNe, Nat.reduceAdd, UInt8.reduceOfNat, UInt16.reduceOfNat, UInt32.reduceOfNat, UInt64.reduceOfNat, UInt64.reduceToNat, UInt32.reduceToNat, UInt16.reduceToNat, UInt8.reduceToNat, Int.reduceAdd, Int.reduceSub, Int.reduceMul, Nat.reduceMul, Qp0, Qp1, Ql0, Qe0]
  exact ⟨_, PH.Le.refl _, ⟨be, rfl⟩, (PH.Le.refl _).new _ _ hbe⟩
def mD (L : List Ep) : List (Value × Value) := L.map fun p => (str p.u, .int .i64 p.n)
theorem mkey : Keyed Try.prog 9 := string_keyed Try.underlying9
theorem key_str (l : List UInt8) (h : l.length ≤ 1000000) : ∃ q, keyOf Try.prog 9 (str l) = some q :=
  ⟨_, keyOf_string_mk Try.underlying9 (by show l.toArray.size ≤ maxLen; simp [maxLen]; omega)⟩
theorem zero_int (w : World) : (zeroValue 3).run Try.prog w = .ok (.int .i64 0) w := by kernel_rfl
theorem mD_keys {L : List Ep} (h : ∀ x ∈ L, rightEp x = true) : ∀ p ∈ mD L, ∃ q, keyOf Try.prog 9 p.1 = some q := fun p hp => by
  obtain ⟨x, hx, rfl⟩ := List.mem_map.1 hp
  have := h x hx
  unfold rightEp at this
  simp only [Bool.and_eq_true, decide_eq_true_eq] at this
  exact key_str _ (by omega)
theorem rightEp_iff {u : List UInt8} {n : Int} : rightEp ⟨u, n⟩ = true ↔ 1 ≤ u.length ∧ u.length ≤ 32 ∧ 1 ≤ n ∧ n ≤ 1099511627776 := by
  unfold rightEp
  simp only [Bool.and_eq_true, decide_eq_true_eq]
  constructor
  · rintro ⟨⟨⟨h1, h2⟩, h3⟩, h4⟩; exact ⟨h1, h2, h3, h4⟩
  · rintro ⟨h1, h2, h3, h4⟩; exact ⟨⟨⟨h1, h2⟩, h3⟩, h4⟩
/-- What Can tells of an epoch, over these. -/
def CAN (L : List Ep) (u : List UInt8) (n : Int) (v : Value) : Prop :=
  (v = .nilIface ∧ rightEp ⟨u, n⟩ = true ∧ ((∀ x ∈ L, x.u ≠ u) → L.length < 64)) ∨ ((∃ be, v = errV be) ∧ ((∀ x ∈ L, x.u ≠ u) → rightEp ⟨u, n⟩ = false ∨ 64 ≤ L.length))
set_option maxRecDepth 20000 in
set_option maxHeartbeats 4000000 in
theorem can_any (w0 : World) (h : PH) (tb B : Nat) (L : List Ep) (u : List UInt8) (n : Int) (ht : h.m tb = some ⟨[.map (some B)], 1⟩) (hM : Mp h B (mD L)) (hL : ∀ x ∈ L, rightEp x = true) (hd : L.Pairwise fun a b => a.u ≠ b.u) (hn : L.length ≤ 1000000) :
    PCalls Try.prog w0 64 [.pointer (some ⟨tb, 0, none⟩), str u, .int .i64 n] h fun r h' => CAN L u n r ∧ PH.Le h h' := by
  refine PCalls_body Try.func64 (by kernel_rfl) rfl _ Try.ntmps64 (by kernel_rfl) (by kernel_rfl) _ Try.results64 ?_
  have hno : ∀ e : rightEp ⟨u, n⟩ = false, ∀ (b : Nat) (hq : PH), PH.Le h hq → CAN L u n (errV b) ∧ PH.Le h hq := fun e b hq hl => ⟨.inr ⟨⟨b, rfl⟩, fun _ => .inl e⟩, hl⟩
  by_cases h1 : 1 ≤ u.length
  rotate_left
  · have e1 : decide ((u.length : Int) < 1) = true := decide_eq_true (by omega)
    have hR : rightEp ⟨u, n⟩ = false := by rw [Bool.eq_false_iff]; intro e; have := rightEp_iff.1 e; omega
    simp -dsimp -implicitDefEqProofs (disch := first | omega | assumption | (simp only [Option.isSome_some, Qt0]; done) | (simp only [UInt64.reduceToNat, UInt32.reduceToNat, UInt8.reduceToNat, List.length_cons, List.length_nil, List.length_append, Int.toNat_natCast] <;> omega) | fail) only [Nat.reduceLT, Nat.reduceLeDiff, Nat.reduceEqDiff, ↓reduceIte, Int.reduceLT, Int.reduceLE, Int.reduceToNat, Int.reduceEq, Int.reduceNe, Nat.reduceAdd, UInt8.reduceOfNat, UInt16.reduceOfNat, UInt32.reduceOfNat, UInt64.reduceOfNat, UInt64.reduceToNat, UInt32.reduceToNat, UInt16.reduceToNat, UInt8.reduceToNat, Int.reduceAdd, Int.reduceSub, Int.reduceMul, Nat.reduceMul, Qp0, Qp1, Ql0, Qe0, e1]
    refine (ebad_any 1 w0 _).mono ?_
    rintro v hq ⟨⟨be, rfl⟩, hl⟩
    have := hno hR be hq hl
    unfold errV at *
    simp -dsimp -implicitDefEqProofs (disch := first | omega | assumption | (simp only [Option.isSome_some, Qt0]; done) | (simp only [UInt64.reduceToNat, UInt32.reduceToNat, UInt8.reduceToNat, List.length_cons, List.length_nil, List.length_append, Int.toNat_natCast] <;> omega) | fail) only [Nat.reduceLT, Nat.reduceLeDiff, Nat.reduceEqDiff, ↓reduceIte, Int.reduceLT, Int.reduceLE, Int.reduceToNat, Int.reduceEq, Int.reduceNe, Nat.reduceAdd, UInt8.reduceOfNat, UInt16.reduceOfNat, UInt32.reduceOfNat, UInt64.reduceOfNat, UInt64.reduceToNat, UInt32.reduceToNat, UInt16.reduceToNat, UInt8.reduceToNat, Int.reduceAdd, Int.reduceSub, Int.reduceMul, Nat.reduceMul, Qp0, Qp1, Ql0, Qe0]
    exact ⟨_, PH.Le.refl _, this⟩
  have e1 : decide ((u.length : Int) < 1) = false := decide_eq_false (by omega)
  by_cases h2 : u.length ≤ 32
  rotate_left
  · have e2 : decide ((u.length : Int) > 32) = true := decide_eq_true (by omega)
    have hR : rightEp ⟨u, n⟩ = false := by rw [Bool.eq_false_iff]; intro e; have := rightEp_iff.1 e; omega
    simp -dsimp -implicitDefEqProofs (disch := first | omega | assumption | (simp only [Option.isSome_some, Qt0]; done) | (simp only [UInt64.reduceToNat, UInt32.reduceToNat, UInt8.reduceToNat, List.length_cons, List.length_nil, List.length_append, Int.toNat_natCast] <;> omega) | fail) only [Nat.reduceLT, Nat.reduceLeDiff, Nat.reduceEqDiff, ↓reduceIte, Int.reduceLT, Int.reduceLE, Int.reduceToNat, Int.reduceEq, Int.reduceNe, Nat.reduceAdd, UInt8.reduceOfNat, UInt16.reduceOfNat, UInt32.reduceOfNat, UInt64.reduceOfNat, UInt64.reduceToNat, UInt32.reduceToNat, UInt16.reduceToNat, UInt8.reduceToNat, Int.reduceAdd, Int.reduceSub, Int.reduceMul, Nat.reduceMul, Qp0, Qp1, Ql0, Qe0, e1, e2]
    refine (ebad_any 1 w0 _).mono ?_
    rintro v hq ⟨⟨be, rfl⟩, hl⟩
    have := hno hR be hq hl
    unfold errV at *
    simp -dsimp -implicitDefEqProofs (disch := first | omega | assumption | (simp only [Option.isSome_some, Qt0]; done) | (simp only [UInt64.reduceToNat, UInt32.reduceToNat, UInt8.reduceToNat, List.length_cons, List.length_nil, List.length_append, Int.toNat_natCast] <;> omega) | fail) only [Nat.reduceLT, Nat.reduceLeDiff, Nat.reduceEqDiff, ↓reduceIte, Int.reduceLT, Int.reduceLE, Int.reduceToNat, Int.reduceEq, Int.reduceNe, Nat.reduceAdd, UInt8.reduceOfNat, UInt16.reduceOfNat, UInt32.reduceOfNat, UInt64.reduceOfNat, UInt64.reduceToNat, UInt32.reduceToNat, UInt16.reduceToNat, UInt8.reduceToNat, Int.reduceAdd, Int.reduceSub, Int.reduceMul, Nat.reduceMul, Qp0, Qp1, Ql0, Qe0]
    exact ⟨_, PH.Le.refl _, this⟩
  have e2 : decide ((u.length : Int) > 32) = false := decide_eq_false (by omega)
  by_cases h3 : 1 ≤ n
  rotate_left
  · have e3 : decide (n < 1) = true := decide_eq_true (by omega)
    have hR : rightEp ⟨u, n⟩ = false := by rw [Bool.eq_false_iff]; intro e; have := rightEp_iff.1 e; omega
    simp -dsimp -implicitDefEqProofs (disch := first | omega | assumption | (simp only [Option.isSome_some, Qt0]; done) | (simp only [UInt64.reduceToNat, UInt32.reduceToNat, UInt8.reduceToNat, List.length_cons, List.length_nil, List.length_append, Int.toNat_natCast] <;> omega) | fail) only [Nat.reduceLT, Nat.reduceLeDiff, Nat.reduceEqDiff, ↓reduceIte, Int.reduceLT, Int.reduceLE, Int.reduceToNat, Int.reduceEq, Int.reduceNe, Nat.reduceAdd, UInt8.reduceOfNat, UInt16.reduceOfNat, UInt32.reduceOfNat, UInt64.reduceOfNat, UInt64.reduceToNat, UInt32.reduceToNat, UInt16.reduceToNat, UInt8.reduceToNat, Int.reduceAdd, Int.reduceSub, Int.reduceMul, Nat.reduceMul, Qp0, Qp1, Ql0, Qe0, e1, e2, e3]
    refine (ebad_any 1 w0 _).mono ?_
    rintro v hq ⟨⟨be, rfl⟩, hl⟩
    have := hno hR be hq hl
    unfold errV at *
    simp -dsimp -implicitDefEqProofs (disch := first | omega | assumption | (simp only [Option.isSome_some, Qt0]; done) | (simp only [UInt64.reduceToNat, UInt32.reduceToNat, UInt8.reduceToNat, List.length_cons, List.length_nil, List.length_append, Int.toNat_natCast] <;> omega) | fail) only [Nat.reduceLT, Nat.reduceLeDiff, Nat.reduceEqDiff, ↓reduceIte, Int.reduceLT, Int.reduceLE, Int.reduceToNat, Int.reduceEq, Int.reduceNe, Nat.reduceAdd, UInt8.reduceOfNat, UInt16.reduceOfNat, UInt32.reduceOfNat, UInt64.reduceOfNat, UInt64.reduceToNat, UInt32.reduceToNat, UInt16.reduceToNat, UInt8.reduceToNat, Int.reduceAdd, Int.reduceSub, Int.reduceMul, Nat.reduceMul, Qp0, Qp1, Ql0, Qe0]
    exact ⟨_, PH.Le.refl _, this⟩
  have e3 : decide (n < 1) = false := decide_eq_false (by omega)
  by_cases h4 : n ≤ 1099511627776
  rotate_left
  · have e4 : decide (n > 1099511627776) = true := decide_eq_true (by omega)
    have hR : rightEp ⟨u, n⟩ = false := by rw [Bool.eq_false_iff]; intro e; have := rightEp_iff.1 e; omega
    simp -dsimp -implicitDefEqProofs (disch := first | omega | assumption | (simp only [Option.isSome_some, Qt0]; done) | (simp only [UInt64.reduceToNat, UInt32.reduceToNat, UInt8.reduceToNat, List.length_cons, List.length_nil, List.length_append, Int.toNat_natCast] <;> omega) | fail) only [Nat.reduceLT, Nat.reduceLeDiff, Nat.reduceEqDiff, ↓reduceIte, Int.reduceLT, Int.reduceLE, Int.reduceToNat, Int.reduceEq, Int.reduceNe, Nat.reduceAdd, UInt8.reduceOfNat, UInt16.reduceOfNat, UInt32.reduceOfNat, UInt64.reduceOfNat, UInt64.reduceToNat, UInt32.reduceToNat, UInt16.reduceToNat, UInt8.reduceToNat, Int.reduceAdd, Int.reduceSub, Int.reduceMul, Nat.reduceMul, Qp0, Qp1, Ql0, Qe0, e1, e2, e3, e4]
    refine (ebad_any 1 w0 _).mono ?_
    rintro v hq ⟨⟨be, rfl⟩, hl⟩
    have := hno hR be hq hl
    unfold errV at *
    simp -dsimp -implicitDefEqProofs (disch := first | omega | assumption | (simp only [Option.isSome_some, Qt0]; done) | (simp only [UInt64.reduceToNat, UInt32.reduceToNat, UInt8.reduceToNat, List.length_cons, List.length_nil, List.length_append, Int.toNat_natCast] <;> omega) | fail) only [Nat.reduceLT, Nat.reduceLeDiff, Nat.reduceEqDiff, ↓reduceIte, Int.reduceLT, Int.reduceLE, Int.reduceToNat, Int.reduceEq, Int.reduceNe, Nat.reduceAdd, UInt8.reduceOfNat, UInt16.reduceOfNat, UInt32.reduceOfNat, UInt64.reduceOfNat, UInt64.reduceToNat, UInt32.reduceToNat, UInt16.reduceToNat, UInt8.reduceToNat, Int.reduceAdd, Int.reduceSub, Int.reduceMul, Nat.reduceMul, Qp0, Qp1, Ql0, Qe0]
    exact ⟨_, PH.Le.refl _, this⟩
  have e4 : decide (n > 1099511627776) = false := decide_eq_false (by omega)
  have hR : rightEp ⟨u, n⟩ = true := rightEp_iff.2 ⟨h1, h2, h3, h4⟩
  obtain ⟨kl, hkl⟩ := key_str u (by omega)
  have hpw : (mD L).Pairwise fun a b => a.1 ≠ b.1 := by
    unfold mD
    rw [List.pairwise_map]
    exact hd.imp fun hab e => hab (str_inj.1 e)
  simp -dsimp -implicitDefEqProofs (disch := first | omega | assumption | (simp only [Option.isSome_some, Qt0]; done) | (simp only [UInt64.reduceToNat, UInt32.reduceToNat, UInt8.reduceToNat, List.length_cons, List.length_nil, List.length_append, Int.toNat_natCast] <;> omega) | fail) only [Nat.reduceLT, Nat.reduceLeDiff, Nat.reduceEqDiff, ↓reduceIte, Int.reduceLT, Int.reduceLE, Int.reduceToNat, Int.reduceEq, Int.reduceNe, Nat.reduceAdd, UInt8.reduceOfNat, UInt16.reduceOfNat, UInt32.reduceOfNat, UInt64.reduceOfNat, UInt64.reduceToNat, UInt32.reduceToNat, UInt16.reduceToNat, UInt8.reduceToNat, Int.reduceAdd, Int.reduceSub, Int.reduceMul, Nat.reduceMul, Qp0, Qp1, Ql0, Qe0, e1, e2, e3, e4, rd_M, rdM_some, ht]
  refine Rds_lookup Try.underlying116 mkey hkl (mD_keys hL) hpw zero_int hM (fun hab => ?_) (fun v hv => ?_)
  · have habs : ∀ x ∈ L, x.u ≠ u := fun x hx e => hab (str x.u, .int .i64 x.n) (List.mem_map.2 ⟨x, hx, rfl⟩) (by rw [e])
    by_cases h5 : 64 ≤ L.length
    · have e5 : decide ((L.length : Int) ≥ 64) = true := decide_eq_true (by omega)
      simp -dsimp -implicitDefEqProofs (disch := first | omega | assumption | (simp only [Option.isSome_some, Qt0]; done) | (simp only [UInt64.reduceToNat, UInt32.reduceToNat, UInt8.reduceToNat, List.length_cons, List.length_nil, List.length_append, Int.toNat_natCast] <;> omega) | fail) only [Nat.reduceLT, Nat.reduceLeDiff, Nat.reduceEqDiff, ↓reduceIte, Int.reduceLT, Int.reduceLE, Int.reduceToNat, Int.reduceEq, Int.reduceNe, Nat.reduceAdd, UInt8.reduceOfNat, UInt16.reduceOfNat, UInt32.reduceOfNat, UInt64.reduceOfNat, UInt64.reduceToNat, UInt32.reduceToNat, UInt16.reduceToNat, UInt8.reduceToNat, Int.reduceAdd, Int.reduceSub, Int.reduceMul, Nat.reduceMul, Qp0, Qp1, Ql0, Qe0, rd_M, rdM_some, ht]
      refine Rds_lenM Try.underlying116 hM ?_
      have hlen : (mD L).length = L.length := by unfold mD; simp
      rw [hlen]
      simp -dsimp -implicitDefEqProofs (disch := first | omega | assumption | (simp only [Option.isSome_some, Qt0]; done) | (simp only [UInt64.reduceToNat, UInt32.reduceToNat, UInt8.reduceToNat, List.length_cons, List.length_nil, List.length_append, Int.toNat_natCast] <;> omega) | fail) only [Nat.reduceLT, Nat.reduceLeDiff, Nat.reduceEqDiff, ↓reduceIte, Int.reduceLT, Int.reduceLE, Int.reduceToNat, Int.reduceEq, Int.reduceNe, Nat.reduceAdd, UInt8.reduceOfNat, UInt16.reduceOfNat, UInt32.reduceOfNat, UInt64.reduceOfNat, UInt64.reduceToNat, UInt32.reduceToNat, UInt16.reduceToNat, UInt8.reduceToNat, Int.reduceAdd, Int.reduceSub, Int.reduceMul, Nat.reduceMul, Qp0, Qp1, Ql0, Qe0, e5]
      refine (ebad_any 4 w0 _).mono ?_
      rintro v hq ⟨⟨be, rfl⟩, hl⟩
      have : CAN L u n (errV be) ∧ PH.Le h hq := ⟨.inr ⟨⟨be, rfl⟩, fun _ => .inr h5⟩, hl⟩
      unfold errV at *
      simp -dsimp -implicitDefEqProofs (disch := first | omega | assumption | (simp only [Option.isSome_some, Qt0]; done) | (simp only [UInt64.reduceToNat, UInt32.reduceToNat, UInt8.reduceToNat, List.length_cons, List.length_nil, List.length_append, Int.toNat_natCast] <;> omega) | fail) only [Nat.reduceLT, Nat.reduceLeDiff, Nat.reduceEqDiff, ↓reduceIte, Int.reduceLT, Int.reduceLE, Int.reduceToNat, Int.reduceEq, Int.reduceNe, Nat.reduceAdd, UInt8.reduceOfNat, UInt16.reduceOfNat, UInt32.reduceOfNat, UInt64.reduceOfNat, UInt64.reduceToNat, UInt32.reduceToNat, UInt16.reduceToNat, UInt8.reduceToNat, Int.reduceAdd, Int.reduceSub, Int.reduceMul, Nat.reduceMul, Qp0, Qp1, Ql0, Qe0]
      exact ⟨_, PH.Le.refl _, this⟩
    · have e5 : decide ((L.length : Int) ≥ 64) = false := decide_eq_false (by omega)
      simp -dsimp -implicitDefEqProofs (disch := first | omega | assumption | (simp only [Option.isSome_some, Qt0]; done) | (simp only [UInt64.reduceToNat, UInt32.reduceToNat, UInt8.reduceToNat, List.length_cons, List.length_nil, List.length_append, Int.toNat_natCast] <;> omega) | fail) only [Nat.reduceLT, Nat.reduceLeDiff, Nat.reduceEqDiff, ↓reduceIte, Int.reduceLT, Int.reduceLE, Int.reduceToNat, Int.reduceEq, Int.reduceNe, Nat.reduceAdd, UInt8.reduceOfNat, UInt16.reduceOfNat, UInt32.reduceOfNat, UInt64.reduceOfNat, UInt64.reduceToNat, UInt32.reduceToNat, UInt16.reduceToNat, UInt8.reduceToNat, Int.reduceAdd, Int.reduceSub, Int.reduceMul, Nat.reduceMul, Qp0, Qp1, Ql0, Qe0, rd_M, rdM_some, ht]
      refine Rds_lenM Try.underlying116 hM ?_
      have hlen : (mD L).length = L.length := by unfold mD; simp
      rw [hlen]
      simp -dsimp -implicitDefEqProofs (disch := first | omega | assumption | (simp only [Option.isSome_some, Qt0]; done) | (simp only [UInt64.reduceToNat, UInt32.reduceToNat, UInt8.reduceToNat, List.length_cons, List.length_nil, List.length_append, Int.toNat_natCast] <;> omega) | fail) only [Nat.reduceLT, Nat.reduceLeDiff, Nat.reduceEqDiff, ↓reduceIte, Int.reduceLT, Int.reduceLE, Int.reduceToNat, Int.reduceEq, Int.reduceNe, Nat.reduceAdd, UInt8.reduceOfNat, UInt16.reduceOfNat, UInt32.reduceOfNat, UInt64.reduceOfNat, UInt64.reduceToNat, UInt32.reduceToNat, UInt16.reduceToNat, UInt8.reduceToNat, Int.reduceAdd, Int.reduceSub, Int.reduceMul, Nat.reduceMul, Qp0, Qp1, Ql0, Qe0, e5]
      exact ⟨_, PH.Le.refl _, .inl ⟨by first | rfl | trivial, hR, fun _ => by omega⟩, PH.Le.refl _⟩
  · obtain ⟨x, hx, hxe⟩ := List.mem_map.1 hv
    obtain ⟨hx1, hx2⟩ := Prod.mk.inj hxe
    subst hx2
    have hxn := (rightEp_iff (u := x.u) (n := x.n)).1 (hL x hx)
    have e6 : decide (x.n = 0) = false := decide_eq_false (by omega)
    simp -dsimp -implicitDefEqProofs (disch := first | omega | assumption | (simp only [Option.isSome_some, Qt0]; done) | (simp only [UInt64.reduceToNat, UInt32.reduceToNat, UInt8.reduceToNat, List.length_cons, List.length_nil, List.length_append, Int.toNat_natCast] <;> omega) | fail) only [Nat.reduceLT, Nat.reduceLeDiff, Nat.reduceEqDiff, ↓reduceIte, Int.reduceLT, Int.reduceLE, Int.reduceToNat, Int.reduceEq, Int.reduceNe, Nat.reduceAdd, UInt8.reduceOfNat, UInt16.reduceOfNat, UInt32.reduceOfNat, UInt64.reduceOfNat, UInt64.reduceToNat, UInt32.reduceToNat, UInt16.reduceToNat, UInt8.reduceToNat, Int.reduceAdd, Int.reduceSub, Int.reduceMul, Nat.reduceMul, Qp0, Qp1, Ql0, Qe0, e6]
    exact ⟨_, PH.Le.refl _, .inl ⟨by first | rfl | trivial, hR, fun hab => absurd (str_inj.1 hx1) (hab x hx)⟩, PH.Le.refl _⟩
end Go.Proofs.Ytdhgmifgjaedbaa


/- Walk: epoch's New. No condition. -/
namespace Go.Proofs.Ytdhgmifgjaedbaa
set_option linter.unusedVariables false
set_option linter.unusedSimpArgs false
open Go.RowKit Go.Maps Go.WideMaps Px Wr
theorem rises_lt {L : List Ep} (h : rises L = true) : ∀ (k j : Nat) (x y : Ep), j < k → L[j]? = some x → L[k]? = some y → ltB x.u y.u = true
  | 0, j, x, y, hj, _, _ => by omega
  | k + 1, j, x, y, hj, hx, hy => by
    obtain ⟨z, hz⟩ : ∃ z, L[k]? = some z := ⟨_, List.getElem?_eq_getElem (by have := (List.getElem?_eq_some_iff.1 hy).1; omega)⟩
    have h1 := leB_not.1 (rises_iff.1 h k z y hz hy)
    by_cases hjk : j = k
    · subst hjk
      rw [hx] at hz
      rw [Option.some.inj hz]; exact h1
    · exact ltB_trans (rises_lt h k j x z (by omega) hx hz) h1
theorem ltB_ne {a b : List UInt8} (h : ltB a b = true) : a ≠ b := fun e => by rw [e, ltB_irr] at h; cases h
/-- Whoever lies among the first ones. -/
theorem mem_take_get {L : List Ep} {i : Nat} {x : Ep} (h : x ∈ L.take i) : ∃ j, j < i ∧ L[j]? = some x := by
  obtain ⟨j, hj, rfl⟩ := List.getElem_of_mem h
  have hj' := hj
  rw [List.length_take] at hj'
  refine ⟨j, by omega, ?_⟩
  rw [List.getElem_take, List.getElem?_eq_getElem]
theorem take_pw {L : List Ep} {i : Nat} (h : ∀ (j k : Nat) (x y : Ep), j < k → k < i → L[j]? = some x → L[k]? = some y → ltB x.u y.u = true) : (L.take i).Pairwise fun a b => a.u ≠ b.u := by
  rw [List.pairwise_iff_getElem]
  intro j k hj hk hjk
  have hk' := hk
  rw [List.length_take] at hk'
  rw [List.getElem_take, List.getElem_take]
  exact ltB_ne (h j k _ _ hjk (by omega) (List.getElem?_eq_getElem (by omega)) (List.getElem?_eq_getElem (by omega)))
theorem rightE_parts {L : List Ep} (h : rightE L = true) : L.length ≤ 64 ∧ (∀ x ∈ L, rightEp x = true) ∧ rises L = true := by
  unfold rightE at h
  simp only [Bool.and_eq_true, decide_eq_true_eq] at h
  exact ⟨h.1.1, List.all_eq_true.1 h.1.2, h.2⟩
def NEW (L : List Ep) (r : Value) : Prop := ∃ p e, r = .tuple #[p, e] ∧ ((rightE L = true ∧ e = .nilIface) ∨ (rightE L = false ∧ ∃ be, e = errV be))
set_option maxRecDepth 20000 in
set_option maxHeartbeats 4000000 in
theorem new_any (w0 : World) (h : PH) (A : Option Addr) (c : Nat) (L : List Ep) (hr : Rv w0 h A (L.flatMap epL)) (hn : L.length ≤ c) (hL : L.length ≤ 1000000) : PCalls Try.prog w0 32 [.slice A L.length c] h fun r h' => NEW L r ∧ PH.Le h h' := by
  refine PCalls_upL fun q hlq hlow hut => ?_
  refine PCalls_body Try.func32 (by kernel_rfl) rfl _ Try.ntmps32 (by kernel_rfl) (by kernel_rfl) _ Try.results32 ?_
  have hrq := hr.more hlq
  simp -dsimp -implicitDefEqProofs (disch := first | omega | assumption | (simp only [Option.isSome_some, Qt0]; done) | (simp only [UInt64.reduceToNat, UInt32.reduceToNat, UInt8.reduceToNat, List.length_cons, List.length_nil, List.length_append, Int.toNat_natCast] <;> omega) | fail) only [Nat.reduceLT, Nat.reduceLeDiff, Nat.reduceEqDiff, ↓reduceIte, Int.reduceLT, Int.reduceLE, Int.reduceToNat, Int.reduceEq, Int.reduceNe, Nat.reduceAdd, UInt8.reduceOfNat, UInt16.reduceOfNat, UInt32.reduceOfNat, UInt64.reduceOfNat, UInt64.reduceToNat, UInt32.reduceToNat, UInt16.reduceToNat, UInt8.reduceToNat, Int.reduceAdd, Int.reduceSub, Int.reduceMul, Nat.reduceMul, Qp0, Qp1, Ql0, Qe0]
  refine Does_makeMap fun B hB => ?_
  have hM0 := Mp.made q B
  have hl1 : PH.Le q (q.new B (mapBk #[] 0)) := (PH.Le.refl q).new _ _ hB
  have hBt : B < (q.new B (mapBk #[] 0)).top := by simp only [PH.new_top]; omega
  generalize q.new B (mapBk #[] 0) = q1 at *
  simp -dsimp -implicitDefEqProofs (disch := first | omega | assumption | (simp only [Option.isSome_some, Qt0]; done) | (simp only [UInt64.reduceToNat, UInt32.reduceToNat, UInt8.reduceToNat, List.length_cons, List.length_nil, List.length_append, Int.toNat_natCast] <;> omega) | fail) only [Nat.reduceLT, Nat.reduceLeDiff, Nat.reduceEqDiff, ↓reduceIte, Int.reduceLT, Int.reduceLE, Int.reduceToNat, Int.reduceEq, Int.reduceNe, Nat.reduceAdd, UInt8.reduceOfNat, UInt16.reduceOfNat, UInt32.reduceOfNat, UInt64.reduceOfNat, UInt64.reduceToNat, UInt32.reduceToNat, UInt16.reduceToNat, UInt8.reduceToNat, Int.reduceAdd, Int.reduceSub, Int.reduceMul, Nat.reduceMul, Qp0, Qp1, Ql0, Qe0]
  refine fun tb htb => ?_
  have hl2 : PH.Le q1 (q1.new tb ⟨[.map (some B)], 1⟩) := (PH.Le.refl q1).new _ _ htb
  have ht2 : (q1.new tb ⟨[.map (some B)], 1⟩).m tb = some ⟨[.map (some B)], 1⟩ := by rw [PH.new_m, if_pos rfl]
  have hM2 := hM0.more hl2
  simp -dsimp -implicitDefEqProofs (disch := first | omega | assumption | (simp only [Option.isSome_some, Qt0]; done) | (simp only [UInt64.reduceToNat, UInt32.reduceToNat, UInt8.reduceToNat, List.length_cons, List.length_nil, List.length_append, Int.toNat_natCast] <;> omega) | fail) only [Nat.reduceLT, Nat.reduceLeDiff, Nat.reduceEqDiff, ↓reduceIte, Int.reduceLT, Int.reduceLE, Int.reduceToNat, Int.reduceEq, Int.reduceNe, Nat.reduceAdd, UInt8.reduceOfNat, UInt16.reduceOfNat, UInt32.reduceOfNat, UInt64.reduceOfNat, UInt64.reduceToNat, UInt32.reduceToNat, UInt16.reduceToNat, UInt8.reduceToNat, Int.reduceAdd, Int.reduceSub, Int.reduceMul, Nat.reduceMul, Qp0, Qp1, Ql0, Qe0]
  generalize q1.new tb ⟨[.map (some B)], 1⟩ = q2 at *
  have hBtb : tb ≠ B := by have : q1.top ≤ tb := htb; omega
  have hBq : q.top ≤ B := hB
  have hlq2 := hl1.trans hl2
  refine PW_loopL (fun n f h' => ∃ i : Nat, n + i = L.length ∧ f 0 = some (.slice A L.length c) ∧ f 4 = some (.pointer (some ⟨tb, 0, none⟩)) ∧ f 10 = some (.slice A L.length c) ∧ f 11 = some (.int .i64 L.length) ∧ f 12 = some (.int .i64 i) ∧ PH.Le q h' ∧ h'.m tb = some ⟨[.map (some B)], 1⟩ ∧ Mp h' B (mD (L.take i)) ∧ i ≤ 64 ∧ (∀ j x, j < i → L[j]? = some x → rightEp x = true) ∧ (∀ (j k : Nat) (x y : Ep), j < k → k < i → L[j]? = some x → L[k]? = some y → ltB x.u y.u = true)) (by kernel_rfl) L.length ⟨0, by omega, ?_, ?_, ?_, ?_, ?_, hlq2, ht2, hM2, by omega, fun j x hj => by omega, fun j k x y _ hk => by omega⟩ ?_
  · simp -dsimp -implicitDefEqProofs (disch := first | omega | assumption | (simp only [Option.isSome_some, Qt0]; done) | (simp only [UInt64.reduceToNat, UInt32.reduceToNat, UInt8.reduceToNat, List.length_cons, List.length_nil, List.length_append, Int.toNat_natCast] <;> omega) | fail) only [Nat.reduceLT, Nat.reduceLeDiff, Nat.reduceEqDiff, ↓reduceIte, Int.reduceLT, Int.reduceLE, Int.reduceToNat, Int.reduceEq, Int.reduceNe, Nat.reduceAdd, UInt8.reduceOfNat, UInt16.reduceOfNat, UInt32.reduceOfNat, UInt64.reduceOfNat, UInt64.reduceToNat, UInt32.reduceToNat, UInt16.reduceToNat, UInt8.reduceToNat, Int.reduceAdd, Int.reduceSub, Int.reduceMul, Nat.reduceMul, Qp0, Qp1, Ql0, Qe0]
  · simp -dsimp -implicitDefEqProofs (disch := first | omega | assumption | (simp only [Option.isSome_some, Qt0]; done) | (simp only [UInt64.reduceToNat, UInt32.reduceToNat, UInt8.reduceToNat, List.length_cons, List.length_nil, List.length_append, Int.toNat_natCast] <;> omega) | fail) only [Nat.reduceLT, Nat.reduceLeDiff, Nat.reduceEqDiff, ↓reduceIte, Int.reduceLT, Int.reduceLE, Int.reduceToNat, Int.reduceEq, Int.reduceNe, Nat.reduceAdd, UInt8.reduceOfNat, UInt16.reduceOfNat, UInt32.reduceOfNat, UInt64.reduceOfNat, UInt64.reduceToNat, UInt32.reduceToNat, UInt16.reduceToNat, UInt8.reduceToNat, Int.reduceAdd, Int.reduceSub, Int.reduceMul, Nat.reduceMul, Qp0, Qp1, Ql0, Qe0]
  · simp -dsimp -implicitDefEqProofs (disch := first | omega | assumption | (simp only [Option.isSome_some, Qt0]; done) | (simp only [UInt64.reduceToNat, UInt32.reduceToNat, UInt8.reduceToNat, List.length_cons, List.length_nil, List.length_append, Int.toNat_natCast] <;> omega) | fail) only [Nat.reduceLT, Nat.reduceLeDiff, Nat.reduceEqDiff, ↓reduceIte, Int.reduceLT, Int.reduceLE, Int.reduceToNat, Int.reduceEq, Int.reduceNe, Nat.reduceAdd, UInt8.reduceOfNat, UInt16.reduceOfNat, UInt32.reduceOfNat, UInt64.reduceOfNat, UInt64.reduceToNat, UInt32.reduceToNat, UInt16.reduceToNat, UInt8.reduceToNat, Int.reduceAdd, Int.reduceSub, Int.reduceMul, Nat.reduceMul, Qp0, Qp1, Ql0, Qe0]
  · simp -dsimp -implicitDefEqProofs (disch := first | omega | assumption | (simp only [Option.isSome_some, Qt0]; done) | (simp only [UInt64.reduceToNat, UInt32.reduceToNat, UInt8.reduceToNat, List.length_cons, List.length_nil, List.length_append, Int.toNat_natCast] <;> omega) | fail) only [Nat.reduceLT, Nat.reduceLeDiff, Nat.reduceEqDiff, ↓reduceIte, Int.reduceLT, Int.reduceLE, Int.reduceToNat, Int.reduceEq, Int.reduceNe, Nat.reduceAdd, UInt8.reduceOfNat, UInt16.reduceOfNat, UInt32.reduceOfNat, UInt64.reduceOfNat, UInt64.reduceToNat, UInt32.reduceToNat, UInt16.reduceToNat, UInt8.reduceToNat, Int.reduceAdd, Int.reduceSub, Int.reduceMul, Nat.reduceMul, Qp0, Qp1, Ql0, Qe0]
  · simp -dsimp -implicitDefEqProofs (disch := first | omega | assumption | (simp only [Option.isSome_some, Qt0]; done) | (simp only [UInt64.reduceToNat, UInt32.reduceToNat, UInt8.reduceToNat, List.length_cons, List.length_nil, List.length_append, Int.toNat_natCast] <;> omega) | fail) only [Nat.reduceLT, Nat.reduceLeDiff, Nat.reduceEqDiff, ↓reduceIte, Int.reduceLT, Int.reduceLE, Int.reduceToNat, Int.reduceEq, Int.reduceNe, Nat.reduceAdd, UInt8.reduceOfNat, UInt16.reduceOfNat, UInt32.reduceOfNat, UInt64.reduceOfNat, UInt64.reduceToNat, UInt32.reduceToNat, UInt16.reduceToNat, UInt8.reduceToNat, Int.reduceAdd, Int.reduceSub, Int.reduceMul, Nat.reduceMul, Qp0, Qp1, Ql0, Qe0]
    try rfl
  rintro n f h' ⟨i, hni, f0, f4, f10, f11, f12, hl', ht', hM', h64, hall, hris⟩ hlow'
  by_cases hi : i < L.length
  rotate_left
  · have e2 : decide ((i : Int) < (L.length : Int)) = false := decide_eq_false (by omega)
    have hE : rightE L = true := rightE_yes (by omega) (fun j x hj => hall j x (by omega)) (fun j x y hj h1 h2 => leB_not.2 (hris j (j + 1) x y (by omega) (by omega) h1 h2))
    simp -dsimp -implicitDefEqProofs (disch := first | omega | assumption | (simp only [Option.isSome_some, Qt0]; done) | (simp only [UInt64.reduceToNat, UInt32.reduceToNat, UInt8.reduceToNat, List.length_cons, List.length_nil, List.length_append, Int.toNat_natCast] <;> omega) | fail) only [Nat.reduceLT, Nat.reduceLeDiff, Nat.reduceEqDiff, ↓reduceIte, Int.reduceLT, Int.reduceLE, Int.reduceToNat, Int.reduceEq, Int.reduceNe, Nat.reduceAdd, UInt8.reduceOfNat, UInt16.reduceOfNat, UInt32.reduceOfNat, UInt64.reduceOfNat, UInt64.reduceToNat, UInt32.reduceToNat, UInt16.reduceToNat, UInt8.reduceToNat, Int.reduceAdd, Int.reduceSub, Int.reduceMul, Nat.reduceMul, Qp0, Qp1, Ql0, Qe0, f0, f4, f10, f11, f12, e2]
    exact ⟨_, PH.Le.refl _, ⟨_, _, by first | rfl | trivial, .inl ⟨hE, rfl⟩⟩, hlq.trans hl'⟩
  have e2 : decide ((i : Int) < (L.length : Int)) = true := decide_eq_true (by omega)
  obtain ⟨⟨u, m⟩, hx⟩ : ∃ x, L[i]? = some x := ⟨_, List.getElem?_eq_getElem hi⟩
  obtain ⟨b, o, rfl⟩ := hrq.addr_ epL_length (by omega) hx
  have hT : (i : Int).toNat = i := Int.toNat_natCast i
  have hrd := (hrq.more hl').chunk epL_length (by omega) hlow' hx
  have ha : allOne (epL ⟨u, m⟩) := epL_one _
  unfold epL at hrd ha
  simp only at hrd ha
  have hutq : w0.heap.size ≤ h'.top := by have := hl'.top; omega
  simp -dsimp -implicitDefEqProofs (disch := first | omega | assumption | (simp only [Option.isSome_some, Qt0]; done) | (simp only [UInt64.reduceToNat, UInt32.reduceToNat, UInt8.reduceToNat, List.length_cons, List.length_nil, List.length_append, Int.toNat_natCast] <;> omega) | fail) only [Nat.reduceLT, Nat.reduceLeDiff, Nat.reduceEqDiff, ↓reduceIte, Int.reduceLT, Int.reduceLE, Int.reduceToNat, Int.reduceEq, Int.reduceNe, Nat.reduceAdd, UInt8.reduceOfNat, UInt16.reduceOfNat, UInt32.reduceOfNat, UInt64.reduceOfNat, UInt64.reduceToNat, UInt32.reduceToNat, UInt16.reduceToNat, UInt8.reduceToNat, Int.reduceAdd, Int.reduceSub, Int.reduceMul, Nat.reduceMul, Qp0, Qp1, Ql0, Qe0, f0, f4, f10, f11, f12, e2, hrd]
  refine fun xb hxb => ?_
  have hxb' : h'.top ≤ xb := hxb
  obtain ⟨h1, hh1⟩ : ∃ h1, h'.new xb ⟨[str u, .int .i64 m], 2⟩ = h1 := ⟨_, rfl⟩
  have hle1 : PH.Le h' h1 := by rw [← hh1]; exact (PH.Le.refl h').new _ _ hxb
  have hm1 : h1.m xb = some ⟨[str u, .int .i64 m], 2⟩ := by rw [← hh1, PH.new_m, if_pos rfl]
  have ht1 := hle1.m _ _ ht'
  have hM1 := hM'.more hle1
  have hlow1 : Low w0 h1 := by rw [← hh1]; exact hlow'.new (by omega) _
  simp -dsimp -implicitDefEqProofs (disch := first | omega | assumption | (simp only [Option.isSome_some, Qt0]; done) | (simp only [UInt64.reduceToNat, UInt32.reduceToNat, UInt8.reduceToNat, List.length_cons, List.length_nil, List.length_append, Int.toNat_natCast] <;> omega) | fail) only [Nat.reduceLT, Nat.reduceLeDiff, Nat.reduceEqDiff, ↓reduceIte, Int.reduceLT, Int.reduceLE, Int.reduceToNat, Int.reduceEq, Int.reduceNe, Nat.reduceAdd, UInt8.reduceOfNat, UInt16.reduceOfNat, UInt32.reduceOfNat, UInt64.reduceOfNat, UInt64.reduceToNat, UInt32.reduceToNat, UInt16.reduceToNat, UInt8.reduceToNat, Int.reduceAdd, Int.reduceSub, Int.reduceMul, Nat.reduceMul, Qp0, Qp1, Ql0, Qe0, f0, f4, f10, f11, f12, List.set_cons_zero, List.set_cons_succ, List.take_zero, List.drop_succ_cons, List.drop_zero, List.drop_nil, List.nil_append, List.append_nil, List.take_succ_cons, ite_true, PH.new_new, hh1]
  refine PW_plan [0, 1, 2, 3, 4, 5, 6, 7, 8, 9, 10, 11, 12, 13, 14, 15, 16, 17, 18, 19, 20, 21] h1 (by kernel_rfl) (by decide +kernel) (by kernel_rfl) (by kernel_rfl) (by kernel_rfl) (fun c f h hq => by simp only [thenC_panic, thenK_panic, inBlk_panic, thenN_panic, vcRet_panic] at hq) (PH.Le.refl _).sub ?_
  simp -dsimp -implicitDefEqProofs (disch := first | omega | assumption | (simp only [Option.isSome_some, Qt0]; done) | (simp only [UInt64.reduceToNat, UInt32.reduceToNat, UInt8.reduceToNat, List.length_cons, List.length_nil, List.length_append, Int.toNat_natCast] <;> omega) | fail) only [Nat.reduceLT, Nat.reduceLeDiff, Nat.reduceEqDiff, ↓reduceIte, Int.reduceLT, Int.reduceLE, Int.reduceToNat, Int.reduceEq, Int.reduceNe, Nat.reduceAdd, UInt8.reduceOfNat, UInt16.reduceOfNat, UInt32.reduceOfNat, UInt64.reduceOfNat, UInt64.reduceToNat, UInt32.reduceToNat, UInt16.reduceToNat, UInt8.reduceToNat, Int.reduceAdd, Int.reduceSub, Int.reduceMul, Nat.reduceMul, Qp0, Qp1, Ql0, Qe0, f0, f4, f10, f11, f12, rd_M, rdM_some, hm1]
  have hallT : ∀ x ∈ L.take i, rightEp x = true := fun x hx => by
    obtain ⟨j, hj, he⟩ := mem_take_get hx
    exact hall j x hj he
  refine (can_any w0 h1 tb B (L.take i) u m ht1 hM1 hallT (take_pw hris) (by rw [List.length_take]; omega)).low.mono ?_
  rintro v h2 ⟨⟨hC, hle2⟩, hlow2⟩
  refine ⟨hle2.sub, ?_⟩
  have hl2' := hl'.trans (hle1.trans hle2)
  have hxB : xb ≠ B := by
    obtain ⟨es, clk, hb, _⟩ := hM'
    have := h'.lt _ _ hb
    omega
  rcases hC with ⟨rfl, hRt, hlt⟩ | ⟨⟨be, rfl⟩, hno⟩
  rotate_left
  · have hE : rightE L = false := by
      rw [Bool.eq_false_iff]; intro e
      obtain ⟨p1, p2, p3⟩ := rightE_parts e
      rcases hno (fun y hy => by
        obtain ⟨j, hj, he⟩ := mem_take_get hy
        exact ltB_ne (rises_lt p3 i j y ⟨u, m⟩ hj he hx)) with k | k
      · rw [p2 _ (List.mem_of_getElem? hx)] at k; cases k
      · rw [List.length_take] at k; omega
    unfold errV
    simp -dsimp -implicitDefEqProofs (disch := first | omega | assumption | (simp only [Option.isSome_some, Qt0]; done) | (simp only [UInt64.reduceToNat, UInt32.reduceToNat, UInt8.reduceToNat, List.length_cons, List.length_nil, List.length_append, Int.toNat_natCast] <;> omega) | fail) only [Nat.reduceLT, Nat.reduceLeDiff, Nat.reduceEqDiff, ↓reduceIte, Int.reduceLT, Int.reduceLE, Int.reduceToNat, Int.reduceEq, Int.reduceNe, Nat.reduceAdd, UInt8.reduceOfNat, UInt16.reduceOfNat, UInt32.reduceOfNat, UInt64.reduceOfNat, UInt64.reduceToNat, UInt32.reduceToNat, UInt16.reduceToNat, UInt8.reduceToNat, Int.reduceAdd, Int.reduceSub, Int.reduceMul, Nat.reduceMul, Qp0, Qp1, Ql0, Qe0, f0, f4, f10, f11, f12, rd_M, rdM_some, hm1]
    refine (ebad_any 1 w0 _).mono ?_
    rintro v hq ⟨⟨be2, rfl⟩, hl3⟩
    unfold errV
    simp -dsimp -implicitDefEqProofs (disch := first | omega | assumption | (simp only [Option.isSome_some, Qt0]; done) | (simp only [UInt64.reduceToNat, UInt32.reduceToNat, UInt8.reduceToNat, List.length_cons, List.length_nil, List.length_append, Int.toNat_natCast] <;> omega) | fail) only [Nat.reduceLT, Nat.reduceLeDiff, Nat.reduceEqDiff, ↓reduceIte, Int.reduceLT, Int.reduceLE, Int.reduceToNat, Int.reduceEq, Int.reduceNe, Nat.reduceAdd, UInt8.reduceOfNat, UInt16.reduceOfNat, UInt32.reduceOfNat, UInt64.reduceOfNat, UInt64.reduceToNat, UInt32.reduceToNat, UInt16.reduceToNat, UInt8.reduceToNat, Int.reduceAdd, Int.reduceSub, Int.reduceMul, Nat.reduceMul, Qp0, Qp1, Ql0, Qe0]
    exact ⟨_, PH.Le.refl _, ⟨_, _, by first | rfl | trivial, .inr ⟨hE, be2, rfl⟩⟩, hlq.trans (hl2'.trans hl3)⟩
  obtain ⟨kl, hkl⟩ := key_str u (by have := rightEp_iff.1 hRt; omega)
  by_cases hi0 : i = 0
  · have e3 : decide ((i : Int) > 0) = false := decide_eq_false (by omega)
    have hup : ∀ (j : Nat) (y : Ep), j < i → L[j]? = some y → ltB y.u u = true := fun j y hj => by omega
    have habs : ∀ y ∈ L.take i, y.u ≠ u := fun y hy => by
      obtain ⟨j, hj, he⟩ := mem_take_get hy
      exact ltB_ne (hup j y hj he)
    simp -dsimp -implicitDefEqProofs (disch := first | omega | assumption | (simp only [Option.isSome_some, Qt0]; done) | (simp only [UInt64.reduceToNat, UInt32.reduceToNat, UInt8.reduceToNat, List.length_cons, List.length_nil, List.length_append, Int.toNat_natCast] <;> omega) | fail) only [Nat.reduceLT, Nat.reduceLeDiff, Nat.reduceEqDiff, ↓reduceIte, Int.reduceLT, Int.reduceLE, Int.reduceToNat, Int.reduceEq, Int.reduceNe, Nat.reduceAdd, UInt8.reduceOfNat, UInt16.reduceOfNat, UInt32.reduceOfNat, UInt64.reduceOfNat, UInt64.reduceToNat, UInt32.reduceToNat, UInt16.reduceToNat, UInt8.reduceToNat, Int.reduceAdd, Int.reduceSub, Int.reduceMul, Nat.reduceMul, Qp0, Qp1, Ql0, Qe0, f0, f4, f10, f11, f12, rd_M, rdM_some, hm1, e3]
    have hS2 : (h2.del B).m tb = some ⟨[.map (some B)], 1⟩ := by rw [PH.del_m, if_neg hBtb]; exact hle2.m _ _ ht1
    have hS3 : (h2.del B).m xb = some ⟨[str u, .int .i64 m], 2⟩ := by rw [PH.del_m, if_neg hxB]; exact hle2.m _ _ hm1
    have hlt64 : i < 64 := by
      have := hlt habs
      rw [List.length_take] at this; omega
    refine PW_plan [0, 1, 2, 3, 4, 5, 6, 7, 8] (h2.del B) (by kernel_rfl) (by decide +kernel) (by kernel_rfl) (by kernel_rfl) (by kernel_rfl) (fun c f h hq => by simp only [thenC_panic, thenK_panic, inBlk_panic, thenN_panic, vcRet_panic] at hq) (fun w s => s.del B) ?_
    generalize hS : h2.del B = hS0 at *
    simp -dsimp -implicitDefEqProofs (disch := first | omega | assumption | (simp only [Option.isSome_some, Qt0]; done) | (simp only [UInt64.reduceToNat, UInt32.reduceToNat, UInt8.reduceToNat, List.length_cons, List.length_nil, List.length_append, Int.toNat_natCast] <;> omega) | fail) only [Nat.reduceLT, Nat.reduceLeDiff, Nat.reduceEqDiff, ↓reduceIte, Int.reduceLT, Int.reduceLE, Int.reduceToNat, Int.reduceEq, Int.reduceNe, Nat.reduceAdd, UInt8.reduceOfNat, UInt16.reduceOfNat, UInt32.reduceOfNat, UInt64.reduceOfNat, UInt64.reduceToNat, UInt32.reduceToNat, UInt16.reduceToNat, UInt8.reduceToNat, Int.reduceAdd, Int.reduceSub, Int.reduceMul, Nat.reduceMul, Qp0, Qp1, Ql0, Qe0, f0, f4, f10, f11, f12, rd_M, rdM_some, hS2, hS3]
    refine Does_update Try.underlying116 mkey hkl (mD_keys hallT) (hM1.more hle2) (fun p hp e => ?_) (fun h3 ht3 hM3 hk3 => ?_)
    · obtain ⟨y, hy, rfl⟩ := List.mem_map.1 hp
      exact habs y hy (str_inj.1 e)
    have hsub : PH.Le hS0 h3 := by
      rw [← hS]
      refine ⟨by rw [PH.del_top, ht3]; exact Nat.le_refl _, fun z k e => ?_⟩
      rw [PH.del_m] at e
      by_cases hz : z = B
      · rw [if_pos hz] at e; cases e
      · rw [if_neg hz] at e; rw [hk3 z hz]; exact e
    refine ⟨hsub.sub, ?_⟩
    have hmt : mD (L.take i) ++ [(str u, .int .i64 m)] = mD (L.take (i + 1)) := by
      unfold mD
      rw [List.take_add_one, hx]; simp
    rw [hmt] at hM3
    simp -dsimp -implicitDefEqProofs (disch := first | omega | assumption | (simp only [Option.isSome_some, Qt0]; done) | (simp only [UInt64.reduceToNat, UInt32.reduceToNat, UInt8.reduceToNat, List.length_cons, List.length_nil, List.length_append, Int.toNat_natCast] <;> omega) | fail) only [Nat.reduceLT, Nat.reduceLeDiff, Nat.reduceEqDiff, ↓reduceIte, Int.reduceLT, Int.reduceLE, Int.reduceToNat, Int.reduceEq, Int.reduceNe, Nat.reduceAdd, UInt8.reduceOfNat, UInt16.reduceOfNat, UInt32.reduceOfNat, UInt64.reduceOfNat, UInt64.reduceToNat, UInt32.reduceToNat, UInt16.reduceToNat, UInt8.reduceToNat, Int.reduceAdd, Int.reduceSub, Int.reduceMul, Nat.reduceMul, Qp0, Qp1, Ql0, Qe0, f0, f4, f10, f11, f12, rd_M, rdM_some]
    refine ⟨n - 1, _, by omega, PH.Le.refl _, i + 1, by omega, by trivial, by trivial, by trivial, by trivial, by simp, ⟨by rw [ht3]; exact hl2'.top, fun z k e => ?_⟩, by rw [hk3 tb hBtb]; exact hle2.m _ _ ht1, hM3, by omega, fun j y hj hy => ?_, fun j k y z hjk hk hy hz => ?_⟩
    · rw [hk3 z (by have := q.lt z k e; omega)]; exact hl2'.m z k e
    · by_cases hji : j = i
      · subst hji; rw [hx] at hy; rw [← Option.some.inj hy]; exact hRt
      · exact hall j y (by omega) hy
    · by_cases hki : k = i
      · subst hki
        rw [hx] at hz
        rw [← Option.some.inj hz]
        exact hup j y hjk hy
      · exact hris j k y z hjk (by omega) hy hz
  obtain ⟨k, hk⟩ : ∃ k, k + 1 = i := ⟨i - 1, by omega⟩
  obtain ⟨⟨u2, m2⟩, hy⟩ : ∃ x, L[k]? = some x := ⟨_, List.getElem?_eq_getElem (by omega)⟩
  have e3 : decide ((i : Int) > 0) = true := decide_eq_true (by omega)
  have hm2 := hle2.m _ _ hm1
  have gy : rdM w0 (h1.m b) b (o + k * 2) = some (str u2) := (hrq.more (hl'.trans hle1)).chunkM epL_length (by omega) hlow1 hy (j := 0) rfl
  have hT2 : ((i : Int) - 1).toNat = k := by omega
  cases hle : leB u u2 with
  | true =>
    have hE := rightE_no2 hy (by rw [hk]; exact hx) hle
    simp -dsimp -implicitDefEqProofs (disch := first | omega | assumption | (simp only [Option.isSome_some, Qt0]; done) | (simp only [UInt64.reduceToNat, UInt32.reduceToNat, UInt8.reduceToNat, List.length_cons, List.length_nil, List.length_append, Int.toNat_natCast] <;> omega) | fail) only [Nat.reduceLT, Nat.reduceLeDiff, Nat.reduceEqDiff, ↓reduceIte, Int.reduceLT, Int.reduceLE, Int.reduceToNat, Int.reduceEq, Int.reduceNe, Nat.reduceAdd, UInt8.reduceOfNat, UInt16.reduceOfNat, UInt32.reduceOfNat, UInt64.reduceOfNat, UInt64.reduceToNat, UInt32.reduceToNat, UInt16.reduceToNat, UInt8.reduceToNat, Int.reduceAdd, Int.reduceSub, Int.reduceMul, Nat.reduceMul, Qp0, Qp1, Ql0, Qe0, f0, f4, f10, f11, f12, rd_M, rdM_some, hm1, e3, gy, y_leqT, hle, hT2]
    refine (ebad_any 1 w0 _).mono ?_
    rintro v hq ⟨⟨be2, rfl⟩, hl3⟩
    unfold errV
    simp -dsimp -implicitDefEqProofs (disch := first | omega | assumption | (simp only [Option.isSome_some, Qt0]; done) | (simp only [UInt64.reduceToNat, UInt32.reduceToNat, UInt8.reduceToNat, List.length_cons, List.length_nil, List.length_append, Int.toNat_natCast] <;> omega) | fail) only [Nat.reduceLT, Nat.reduceLeDiff, Nat.reduceEqDiff, ↓reduceIte, Int.reduceLT, Int.reduceLE, Int.reduceToNat, Int.reduceEq, Int.reduceNe, Nat.reduceAdd, UInt8.reduceOfNat, UInt16.reduceOfNat, UInt32.reduceOfNat, UInt64.reduceOfNat, UInt64.reduceToNat, UInt32.reduceToNat, UInt16.reduceToNat, UInt8.reduceToNat, Int.reduceAdd, Int.reduceSub, Int.reduceMul, Nat.reduceMul, Qp0, Qp1, Ql0, Qe0]
    exact ⟨_, PH.Le.refl _, ⟨_, _, by first | rfl | trivial, .inr ⟨hE, be2, rfl⟩⟩, hlq.trans (hl2'.trans hl3)⟩
  | false =>
    have hup : ∀ (j : Nat) (y : Ep), j < i → L[j]? = some y → ltB y.u u = true := fun j y hj hyj => by
      have h9 := leB_not.1 hle
      by_cases hjk : j = k
      · subst hjk; rw [hy] at hyj; rw [← Option.some.inj hyj]; exact h9
      · exact ltB_trans (hris j k y ⟨u2, m2⟩ (by omega) (by omega) hyj hy) h9
    have habs : ∀ y ∈ L.take i, y.u ≠ u := fun y hy => by
      obtain ⟨j, hj, he⟩ := mem_take_get hy
      exact ltB_ne (hup j y hj he)
    simp -dsimp -implicitDefEqProofs (disch := first | omega | assumption | (simp only [Option.isSome_some, Qt0]; done) | (simp only [UInt64.reduceToNat, UInt32.reduceToNat, UInt8.reduceToNat, List.length_cons, List.length_nil, List.length_append, Int.toNat_natCast] <;> omega) | fail) only [Nat.reduceLT, Nat.reduceLeDiff, Nat.reduceEqDiff, ↓reduceIte, Int.reduceLT, Int.reduceLE, Int.reduceToNat, Int.reduceEq, Int.reduceNe, Nat.reduceAdd, UInt8.reduceOfNat, UInt16.reduceOfNat, UInt32.reduceOfNat, UInt64.reduceOfNat, UInt64.reduceToNat, UInt32.reduceToNat, UInt16.reduceToNat, UInt8.reduceToNat, Int.reduceAdd, Int.reduceSub, Int.reduceMul, Nat.reduceMul, Qp0, Qp1, Ql0, Qe0, f0, f4, f10, f11, f12, rd_M, rdM_some, hm1, e3, gy, y_leqT, hle, hT2]
    have hS2 : (h2.del B).m tb = some ⟨[.map (some B)], 1⟩ := by rw [PH.del_m, if_neg hBtb]; exact hle2.m _ _ ht1
    have hS3 : (h2.del B).m xb = some ⟨[str u, .int .i64 m], 2⟩ := by rw [PH.del_m, if_neg hxB]; exact hle2.m _ _ hm1
    have hlt64 : i < 64 := by
      have := hlt habs
      rw [List.length_take] at this; omega
    refine PW_plan [0, 1, 2, 3, 4, 5, 6, 7, 8] (h2.del B) (by kernel_rfl) (by decide +kernel) (by kernel_rfl) (by kernel_rfl) (by kernel_rfl) (fun c f h hq => by simp only [thenC_panic, thenK_panic, inBlk_panic, thenN_panic, vcRet_panic] at hq) (fun w s => s.del B) ?_
    generalize hS : h2.del B = hS0 at *
    simp -dsimp -implicitDefEqProofs (disch := first | omega | assumption | (simp only [Option.isSome_some, Qt0]; done) | (simp only [UInt64.reduceToNat, UInt32.reduceToNat, UInt8.reduceToNat, List.length_cons, List.length_nil, List.length_append, Int.toNat_natCast] <;> omega) | fail) only [Nat.reduceLT, Nat.reduceLeDiff, Nat.reduceEqDiff, ↓reduceIte, Int.reduceLT, Int.reduceLE, Int.reduceToNat, Int.reduceEq, Int.reduceNe, Nat.reduceAdd, UInt8.reduceOfNat, UInt16.reduceOfNat, UInt32.reduceOfNat, UInt64.reduceOfNat, UInt64.reduceToNat, UInt32.reduceToNat, UInt16.reduceToNat, UInt8.reduceToNat, Int.reduceAdd, Int.reduceSub, Int.reduceMul, Nat.reduceMul, Qp0, Qp1, Ql0, Qe0, f0, f4, f10, f11, f12, rd_M, rdM_some, hS2, hS3]
    refine Does_update Try.underlying116 mkey hkl (mD_keys hallT) (hM1.more hle2) (fun p hp e => ?_) (fun h3 ht3 hM3 hk3 => ?_)
    · obtain ⟨y, hy, rfl⟩ := List.mem_map.1 hp
      exact habs y hy (str_inj.1 e)
    have hsub : PH.Le hS0 h3 := by
      rw [← hS]
      refine ⟨by rw [PH.del_top, ht3]; exact Nat.le_refl _, fun z k e => ?_⟩
      rw [PH.del_m] at e
      by_cases hz : z = B
      · rw [if_pos hz] at e; cases e
      · rw [if_neg hz] at e; rw [hk3 z hz]; exact e
    refine ⟨hsub.sub, ?_⟩
    have hmt : mD (L.take i) ++ [(str u, .int .i64 m)] = mD (L.take (i + 1)) := by
      unfold mD
      rw [List.take_add_one, hx]; simp
    rw [hmt] at hM3
    simp -dsimp -implicitDefEqProofs (disch := first | omega | assumption | (simp only [Option.isSome_some, Qt0]; done) | (simp only [UInt64.reduceToNat, UInt32.reduceToNat, UInt8.reduceToNat, List.length_cons, List.length_nil, List.length_append, Int.toNat_natCast] <;> omega) | fail) only [Nat.reduceLT, Nat.reduceLeDiff, Nat.reduceEqDiff, ↓reduceIte, Int.reduceLT, Int.reduceLE, Int.reduceToNat, Int.reduceEq, Int.reduceNe, Nat.reduceAdd, UInt8.reduceOfNat, UInt16.reduceOfNat, UInt32.reduceOfNat, UInt64.reduceOfNat, UInt64.reduceToNat, UInt32.reduceToNat, UInt16.reduceToNat, UInt8.reduceToNat, Int.reduceAdd, Int.reduceSub, Int.reduceMul, Nat.reduceMul, Qp0, Qp1, Ql0, Qe0, f0, f4, f10, f11, f12, rd_M, rdM_some]
    refine ⟨n - 1, _, by omega, PH.Le.refl _, i + 1, by omega, by trivial, by trivial, by trivial, by trivial, by simp, ⟨by rw [ht3]; exact hl2'.top, fun z k e => ?_⟩, by rw [hk3 tb hBtb]; exact hle2.m _ _ ht1, hM3, by omega, fun j y hj hy => ?_, fun j k y z hjk hk hy hz => ?_⟩
    · rw [hk3 z (by have := q.lt z k e; omega)]; exact hl2'.m z k e
    · by_cases hji : j = i
      · subst hji; rw [hx] at hy; rw [← Option.some.inj hy]; exact hRt
      · exact hall j y (by omega) hy
    · by_cases hki : k = i
      · subst hki
        rw [hx] at hz
        rw [← Option.some.inj hz]
        exact hup j y hjk hy
      · exact hris j k y z hjk (by omega) hy hz
end Go.Proofs.Ytdhgmifgjaedbaa

