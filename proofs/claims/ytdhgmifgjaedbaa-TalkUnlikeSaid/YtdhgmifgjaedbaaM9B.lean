/- Parts Ta4, Ta5, Ta6, Ta7, joined. No condition. -/
import Derived.Test.YtdhgmifgjaedbaaM8B
/- Walks: lists of epochs that are right. No condition. -/
namespace Go.Proofs.Ytdhgmifgjaedbaa
set_option linter.unusedVariables false
set_option linter.unusedSimpArgs false
open Go.RowKit Px Wr
theorem rises_iff : ∀ {L : List Ep}, rises L = true ↔ ∀ (j : Nat) (x y : Ep), L[j]? = some x → L[j + 1]? = some y → leB y.u x.u = false
  | [] => by simp [rises]
  | [a] => by simp [rises]
  | a :: b :: l => by
    rw [rises, Bool.and_eq_true, rises_iff, Bool.not_eq_true']
    constructor
    · rintro ⟨h1, h2⟩ j x y hx hy
      cases j with
      | zero =>
        simp only [List.getElem?_cons_zero, Option.some.injEq, Nat.zero_add, List.getElem?_cons_succ] at hx hy
        subst hx; subst hy; exact h1
      | succ j => exact h2 j x y (by simpa using hx) (by simpa using hy)
    · intro h
      exact ⟨h 0 a b rfl rfl, fun j x y hx hy => h (j + 1) x y (by simpa using hx) (by simpa using hy)⟩
theorem rightE_no1 {L : List Ep} {x : Ep} {i : Nat} (hx : L[i]? = some x) (h : rightEp x = false) : rightE L = false := by
  unfold rightE
  rw [Bool.eq_false_iff]
  intro e
  simp only [Bool.and_eq_true, List.all_eq_true] at e
  have := e.1.2 x (List.mem_of_getElem? hx)
  rw [h] at this; cases this
theorem rightE_no2 {L : List Ep} {x y : Ep} {i : Nat} (hx : L[i]? = some x) (hy : L[i + 1]? = some y) (h : leB y.u x.u = true) : rightE L = false := by
  unfold rightE
  rw [Bool.eq_false_iff]
  intro e
  simp only [Bool.and_eq_true] at e
  have := rises_iff.1 e.2 i x y hx hy
  rw [h] at this; cases this
theorem rightE_no3 {L : List Ep} (h : 64 < L.length) : rightE L = false := by
  unfold rightE
  rw [decide_eq_false (by omega)]; rfl
theorem rightE_yes {L : List Ep} (h : L.length ≤ 64) (h1 : ∀ j x, j < L.length → L[j]? = some x → rightEp x = true) (h2 : ∀ (j : Nat) (x y : Ep), j + 1 < L.length → L[j]? = some x → L[j + 1]? = some y → leB y.u x.u = false) : rightE L = true := by
  unfold rightE
  rw [decide_eq_true h, rises_iff.2 fun j x y hx hy => h2 j x y (List.getElem?_eq_some_iff.1 hy).1 hx hy, List.all_eq_true.2 fun x hx => by
    obtain ⟨j, hj, rfl⟩ := List.getElem_of_mem hx
    exact h1 j _ hj (List.getElem?_eq_getElem hj)]
  rfl
set_option maxRecDepth 20000 in
set_option maxHeartbeats 4000000 in
theorem right21R_any (w0 : World) (h : PH) (A : Option Addr) (c : Nat) (L : List Ep) (hr : Rv w0 h A (L.flatMap epL)) (hn : L.length ≤ c) : PCalls Try.prog w0 31 [.slice A L.length c] h fun r h' => r = .bool (rightE L) ∧ h' = h := by
  refine PCalls_low fun hl => ?_
  refine PCalls_body Try.func31 (by kernel_rfl) rfl _ Try.ntmps31 (by kernel_rfl) (by kernel_rfl) _ Try.results31 ?_
  by_cases h64 : 64 < L.length
  · have e1 : decide ((L.length : Int) > 64) = true := decide_eq_true (by omega)
    rw [rightE_no3 h64]
    simp -dsimp -implicitDefEqProofs (disch := first | omega | assumption | (simp only [Option.isSome_some, Qt0]; done) | (simp only [UInt64.reduceToNat, UInt32.reduceToNat, UInt8.reduceToNat, List.length_cons, List.length_nil, List.length_append, Int.toNat_natCast] <;> omega) | fail) only [Nat.reduceLT, Nat.reduceLeDiff, Nat.reduceEqDiff, ↓reduceIte, Int.reduceLT, Int.reduceLE, Int.reduceToNat, Int.reduceEq, Int.reduceNe, Nat.reduceAdd, UInt8.reduceOfNat, UInt16.reduceOfNat, UInt32.reduceOfNat, UInt64.reduceOfNat, UInt64.reduceToNat, UInt32.reduceToNat, UInt16.reduceToNat, UInt8.reduceToNat, Int.reduceAdd, Int.reduceSub, Int.reduceMul, Nat.reduceMul, Qp0, Qp1, Ql0, Qe0, e1]
    exact ⟨_, PH.Le.refl _, by first | rfl | trivial, rfl⟩
  have e1 : decide ((L.length : Int) > 64) = false := decide_eq_false (by omega)
  simp -dsimp -implicitDefEqProofs (disch := first | omega | assumption | (simp only [Option.isSome_some, Qt0]; done) | (simp only [UInt64.reduceToNat, UInt32.reduceToNat, UInt8.reduceToNat, List.length_cons, List.length_nil, List.length_append, Int.toNat_natCast] <;> omega) | fail) only [Nat.reduceLT, Nat.reduceLeDiff, Nat.reduceEqDiff, ↓reduceIte, Int.reduceLT, Int.reduceLE, Int.reduceToNat, Int.reduceEq, Int.reduceNe, Nat.reduceAdd, UInt8.reduceOfNat, UInt16.reduceOfNat, UInt32.reduceOfNat, UInt64.reduceOfNat, UInt64.reduceToNat, UInt32.reduceToNat, UInt16.reduceToNat, UInt8.reduceToNat, Int.reduceAdd, Int.reduceSub, Int.reduceMul, Nat.reduceMul, Qp0, Qp1, Ql0, Qe0, e1]
  refine PW_loop (fun n f h' => ∃ i : Nat, n + i = L.length ∧ f 0 = some (.slice A L.length c) ∧ f 3 = some (.int .i64 i) ∧ h' = h ∧ (∀ j x, j < i → L[j]? = some x → rightEp x = true) ∧ (∀ (j : Nat) (x y : Ep), j + 1 < i → L[j]? = some x → L[j + 1]? = some y → leB y.u x.u = false)) (by kernel_rfl) L.length ⟨0, by omega, ?_, ?_, rfl, fun j x hj => by omega, fun j x y hj => by omega⟩ ?_
  · simp -dsimp -implicitDefEqProofs (disch := first | omega | assumption | (simp only [Option.isSome_some, Qt0]; done) | (simp only [UInt64.reduceToNat, UInt32.reduceToNat, UInt8.reduceToNat, List.length_cons, List.length_nil, List.length_append, Int.toNat_natCast] <;> omega) | fail) only [Nat.reduceLT, Nat.reduceLeDiff, Nat.reduceEqDiff, ↓reduceIte, Int.reduceLT, Int.reduceLE, Int.reduceToNat, Int.reduceEq, Int.reduceNe, Nat.reduceAdd, UInt8.reduceOfNat, UInt16.reduceOfNat, UInt32.reduceOfNat, UInt64.reduceOfNat, UInt64.reduceToNat, UInt32.reduceToNat, UInt16.reduceToNat, UInt8.reduceToNat, Int.reduceAdd, Int.reduceSub, Int.reduceMul, Nat.reduceMul, Qp0, Qp1, Ql0, Qe0]
  · simp -dsimp -implicitDefEqProofs (disch := first | omega | assumption | (simp only [Option.isSome_some, Qt0]; done) | (simp only [UInt64.reduceToNat, UInt32.reduceToNat, UInt8.reduceToNat, List.length_cons, List.length_nil, List.length_append, Int.toNat_natCast] <;> omega) | fail) only [Nat.reduceLT, Nat.reduceLeDiff, Nat.reduceEqDiff, ↓reduceIte, Int.reduceLT, Int.reduceLE, Int.reduceToNat, Int.reduceEq, Int.reduceNe, Nat.reduceAdd, UInt8.reduceOfNat, UInt16.reduceOfNat, UInt32.reduceOfNat, UInt64.reduceOfNat, UInt64.reduceToNat, UInt32.reduceToNat, UInt16.reduceToNat, UInt8.reduceToNat, Int.reduceAdd, Int.reduceSub, Int.reduceMul, Nat.reduceMul, Qp0, Qp1, Ql0, Qe0]
    try rfl
  rintro n f h' ⟨i, hni, f0, f3, rfl, hall, hris⟩
  by_cases hi : i < L.length
  rotate_left
  · have e2 : decide ((i : Int) < (L.length : Int)) = false := decide_eq_false (by omega)
    rw [rightE_yes (by omega) (fun j x hj => hall j x (by omega)) (fun j x y hj => hris j x y (by omega))]
    simp -dsimp -implicitDefEqProofs (disch := first | omega | assumption | (simp only [Option.isSome_some, Qt0]; done) | (simp only [UInt64.reduceToNat, UInt32.reduceToNat, UInt8.reduceToNat, List.length_cons, List.length_nil, List.length_append, Int.toNat_natCast] <;> omega) | fail) only [Nat.reduceLT, Nat.reduceLeDiff, Nat.reduceEqDiff, ↓reduceIte, Int.reduceLT, Int.reduceLE, Int.reduceToNat, Int.reduceEq, Int.reduceNe, Nat.reduceAdd, UInt8.reduceOfNat, UInt16.reduceOfNat, UInt32.reduceOfNat, UInt64.reduceOfNat, UInt64.reduceToNat, UInt32.reduceToNat, UInt16.reduceToNat, UInt8.reduceToNat, Int.reduceAdd, Int.reduceSub, Int.reduceMul, Nat.reduceMul, Qp0, Qp1, Ql0, Qe0, f0, f3, e2]
    exact ⟨_, PH.Le.refl _, by first | rfl | trivial, rfl⟩
  have e2 : decide ((i : Int) < (L.length : Int)) = true := decide_eq_true (by omega)
  obtain ⟨⟨u, m⟩, hx⟩ : ∃ x, L[i]? = some x := ⟨_, List.getElem?_eq_getElem hi⟩
  obtain ⟨b, o, rfl⟩ := hr.addr_ epL_length (by omega) hx
  have hT : (i : Int).toNat = i := Int.toNat_natCast i
  have gu : rdM w0 (h'.m b) b (o + i * 2) = some (str u) := hr.chunkM epL_length (by omega) hl hx (j := 0) rfl
  have gm : rdM w0 (h'.m b) b (o + i * 2 + 1) = some (.int .i64 m) := hr.chunkM epL_length (by omega) hl hx (j := 1) rfl
  have hR := right21_any u m w0 h'
  simp -dsimp -implicitDefEqProofs (disch := first | omega | assumption | (simp only [Option.isSome_some, Qt0]; done) | (simp only [UInt64.reduceToNat, UInt32.reduceToNat, UInt8.reduceToNat, List.length_cons, List.length_nil, List.length_append, Int.toNat_natCast] <;> omega) | fail) only [Nat.reduceLT, Nat.reduceLeDiff, Nat.reduceEqDiff, ↓reduceIte, Int.reduceLT, Int.reduceLE, Int.reduceToNat, Int.reduceEq, Int.reduceNe, Nat.reduceAdd, UInt8.reduceOfNat, UInt16.reduceOfNat, UInt32.reduceOfNat, UInt64.reduceOfNat, UInt64.reduceToNat, UInt32.reduceToNat, UInt16.reduceToNat, UInt8.reduceToNat, Int.reduceAdd, Int.reduceSub, Int.reduceMul, Nat.reduceMul, Qp0, Qp1, Ql0, Qe0, f0, f3, e2]
  refine PW_plan [0, 1, 2, 3, 4, 5, 6, 7, 8, 9, 10, 11, 12, 13, 14, 15, 16, 17, 18, 19, 20, 21, 22, 23, 24, 25, 26, 27, 28, 29] h' (by kernel_rfl) (by decide +kernel) (by kernel_rfl) (by kernel_rfl) (by kernel_rfl) (fun c f h hq => by simp only [thenC_panic, thenK_panic, inBlk_panic, thenN_panic, vcRet_panic] at hq) (PH.Le.refl _).sub ?_
  cases hb : rightEp ⟨u, m⟩ with
  | false =>
    rw [hb] at hR
    have hR := Lib.hid hR
    rw [rightE_no1 hx hb]
    simp -dsimp -implicitDefEqProofs (disch := first | omega | assumption | (simp only [Option.isSome_some, Qt0]; done) | (simp only [UInt64.reduceToNat, UInt32.reduceToNat, UInt8.reduceToNat, List.length_cons, List.length_nil, List.length_append, Int.toNat_natCast] <;> omega) | fail) only [Nat.reduceLT, Nat.reduceLeDiff, Nat.reduceEqDiff, ↓reduceIte, Int.reduceLT, Int.reduceLE, Int.reduceToNat, Int.reduceEq, Int.reduceNe, Nat.reduceAdd, UInt8.reduceOfNat, UInt16.reduceOfNat, UInt32.reduceOfNat, UInt64.reduceOfNat, UInt64.reduceToNat, UInt32.reduceToNat, UInt16.reduceToNat, UInt8.reduceToNat, Int.reduceAdd, Int.reduceSub, Int.reduceMul, Nat.reduceMul, Qp0, Qp1, Ql0, Qe0, f0, f3, rd_M, gu, gm]
    refine hR.out.mono ?_
    rintro v hq ⟨rfl, hz⟩; obtain rfl := hz.symm
    refine ⟨(PH.Le.refl _).sub, ?_⟩
    simp -dsimp -implicitDefEqProofs (disch := first | omega | assumption | (simp only [Option.isSome_some, Qt0]; done) | (simp only [UInt64.reduceToNat, UInt32.reduceToNat, UInt8.reduceToNat, List.length_cons, List.length_nil, List.length_append, Int.toNat_natCast] <;> omega) | fail) only [Nat.reduceLT, Nat.reduceLeDiff, Nat.reduceEqDiff, ↓reduceIte, Int.reduceLT, Int.reduceLE, Int.reduceToNat, Int.reduceEq, Int.reduceNe, Nat.reduceAdd, UInt8.reduceOfNat, UInt16.reduceOfNat, UInt32.reduceOfNat, UInt64.reduceOfNat, UInt64.reduceToNat, UInt32.reduceToNat, UInt16.reduceToNat, UInt8.reduceToNat, Int.reduceAdd, Int.reduceSub, Int.reduceMul, Nat.reduceMul, Qp0, Qp1, Ql0, Qe0, f0, f3, rd_M, gu, gm]
    exact ⟨_, PH.Le.refl _, by first | rfl | trivial, rfl⟩
  | true =>
    rw [hb] at hR
    have hR := Lib.hid hR
    simp -dsimp -implicitDefEqProofs (disch := first | omega | assumption | (simp only [Option.isSome_some, Qt0]; done) | (simp only [UInt64.reduceToNat, UInt32.reduceToNat, UInt8.reduceToNat, List.length_cons, List.length_nil, List.length_append, Int.toNat_natCast] <;> omega) | fail) only [Nat.reduceLT, Nat.reduceLeDiff, Nat.reduceEqDiff, ↓reduceIte, Int.reduceLT, Int.reduceLE, Int.reduceToNat, Int.reduceEq, Int.reduceNe, Nat.reduceAdd, UInt8.reduceOfNat, UInt16.reduceOfNat, UInt32.reduceOfNat, UInt64.reduceOfNat, UInt64.reduceToNat, UInt32.reduceToNat, UInt16.reduceToNat, UInt8.reduceToNat, Int.reduceAdd, Int.reduceSub, Int.reduceMul, Nat.reduceMul, Qp0, Qp1, Ql0, Qe0, f0, f3, rd_M, gu, gm]
    refine hR.out.mono ?_
    rintro v hq ⟨rfl, hz⟩; obtain rfl := hz.symm
    refine ⟨(PH.Le.refl _).sub, ?_⟩
    have hnext : ∀ j x, j < i + 1 → L[j]? = some x → rightEp x = true := fun j x hj hz => by
      by_cases hji : j = i
      · subst hji; rw [hx] at hz; rw [← Option.some.inj hz]; exact hb
      · exact hall j x (by omega) hz
    by_cases hi0 : i = 0
    · have e3 : decide ((i : Int) > 0) = false := decide_eq_false (by omega)
      simp -dsimp -implicitDefEqProofs (disch := first | omega | assumption | (simp only [Option.isSome_some, Qt0]; done) | (simp only [UInt64.reduceToNat, UInt32.reduceToNat, UInt8.reduceToNat, List.length_cons, List.length_nil, List.length_append, Int.toNat_natCast] <;> omega) | fail) only [Nat.reduceLT, Nat.reduceLeDiff, Nat.reduceEqDiff, ↓reduceIte, Int.reduceLT, Int.reduceLE, Int.reduceToNat, Int.reduceEq, Int.reduceNe, Nat.reduceAdd, UInt8.reduceOfNat, UInt16.reduceOfNat, UInt32.reduceOfNat, UInt64.reduceOfNat, UInt64.reduceToNat, UInt32.reduceToNat, UInt16.reduceToNat, UInt8.reduceToNat, Int.reduceAdd, Int.reduceSub, Int.reduceMul, Nat.reduceMul, Qp0, Qp1, Ql0, Qe0, f0, f3, rd_M, gu, gm, e3]
      exact ⟨n - 1, _, by omega, PH.Le.refl _, i + 1, by omega, by trivial, by simp, rfl, hnext, fun j x y hj => by omega⟩
    obtain ⟨k, hk⟩ : ∃ k, k + 1 = i := ⟨i - 1, by omega⟩
    obtain ⟨⟨u2, m2⟩, hy⟩ : ∃ x, L[k]? = some x := ⟨_, List.getElem?_eq_getElem (by omega)⟩
    have e3 : decide ((i : Int) > 0) = true := decide_eq_true (by omega)
    have gy : rdM w0 (h'.m b) b (o + k * 2) = some (str u2) := hr.chunkM epL_length (by omega) hl hy (j := 0) rfl
    have hT2 : ((i : Int) - 1).toNat = k := by omega
    cases hle : leB u u2 with
    | true =>
      rw [rightE_no2 hy (by rw [hk]; exact hx) hle]
      simp -dsimp -implicitDefEqProofs (disch := first | omega | assumption | (simp only [Option.isSome_some, Qt0]; done) | (simp only [UInt64.reduceToNat, UInt32.reduceToNat, UInt8.reduceToNat, List.length_cons, List.length_nil, List.length_append, Int.toNat_natCast] <;> omega) | fail) only [Nat.reduceLT, Nat.reduceLeDiff, Nat.reduceEqDiff, ↓reduceIte, Int.reduceLT, Int.reduceLE, Int.reduceToNat, Int.reduceEq, Int.reduceNe, Nat.reduceAdd, UInt8.reduceOfNat, UInt16.reduceOfNat, UInt32.reduceOfNat, UInt64.reduceOfNat, UInt64.reduceToNat, UInt32.reduceToNat, UInt16.reduceToNat, UInt8.reduceToNat, Int.reduceAdd, Int.reduceSub, Int.reduceMul, Nat.reduceMul, Qp0, Qp1, Ql0, Qe0, f0, f3, rd_M, gu, gm, e3, gy, y_leqT, hle, hT2]
      exact ⟨_, PH.Le.refl _, by first | rfl | trivial, rfl⟩
    | false =>
      simp -dsimp -implicitDefEqProofs (disch := first | omega | assumption | (simp only [Option.isSome_some, Qt0]; done) | (simp only [UInt64.reduceToNat, UInt32.reduceToNat, UInt8.reduceToNat, List.length_cons, List.length_nil, List.length_append, Int.toNat_natCast] <;> omega) | fail) only [Nat.reduceLT, Nat.reduceLeDiff, Nat.reduceEqDiff, ↓reduceIte, Int.reduceLT, Int.reduceLE, Int.reduceToNat, Int.reduceEq, Int.reduceNe, Nat.reduceAdd, UInt8.reduceOfNat, UInt16.reduceOfNat, UInt32.reduceOfNat, UInt64.reduceOfNat, UInt64.reduceToNat, UInt32.reduceToNat, UInt16.reduceToNat, UInt8.reduceToNat, Int.reduceAdd, Int.reduceSub, Int.reduceMul, Nat.reduceMul, Qp0, Qp1, Ql0, Qe0, f0, f3, rd_M, gu, gm, e3, gy, y_leqT, hle, hT2]
      refine ⟨n - 1, _, by omega, PH.Le.refl _, i + 1, by omega, by trivial, by simp, rfl, hnext, fun j x y hj h1 h2 => ?_⟩
      by_cases hjk : j = k
      · subst hjk
        rw [hy] at h1
        rw [hk, hx] at h2
        rw [← Option.some.inj h1, ← Option.some.inj h2]; exact hle
      · exact hris j x y (by omega) h1 h2
end Go.Proofs.Ytdhgmifgjaedbaa


/- Walks: epoch's New and Can, over a map. No condition. -/
namespace Go.Proofs.Ytdhgmifgjaedbaa
set_option linter.unusedVariables false
set_option linter.unusedSimpArgs false
open Go.RowKit Go.Maps Go.WideMaps Px Wr
set_option maxRecDepth 20000 in
theorem ebad_any (k : Int) (w0 : World) (h : PH) : PCalls Try.prog w0 65 [.int .i64 k] h fun r h' => (∃ be, r = errV be) ∧ PH.Le h h' := by
  refine PCalls_body Try.func65 (by kernel_rfl) rfl _ Try.ntmps65 (by kernel_rfl) (by kernel_rfl) _ Try.results65 ?_
  simp -dsimp -implicitDefEqProofs (disch := first | omega | assumption | (simp only [Option.isSome_some, Qt0]; done) | (simp only [UInt64.reduceToNat, UInt32.reduceToNat, UInt8.reduceToNat, List.length_cons, List.length_nil, List.length_append, Int.toNat_natCast] <;> omega) | fail) only [Nat.reduceLT, Nat.reduceLeDiff, Nat.reduceEqDiff, ↓reduceIte, Int.reduceLT, Int.reduceLE, Int.reduceToNat, Int.reduceEq, Int.reduceNe, Nat.reduceAdd, UInt8.reduceOfNat, UInt16.reduceOfNat, UInt32.reduceOfNat, UInt64.reduceOfNat, UInt64.reduceToNat, UInt32.reduceToNat, UInt16.reduceToNat, UInt8.reduceToNat, Int.reduceAdd, Int.reduceSub, Int.reduceMul, Nat.reduceMul, Qp0, Qp1, Ql0, Qe0]
  refine (at_any _ _ _ _ w0 _).mono ?_
  rintro v hq ⟨be, rfl, hbe, rfl⟩
  unfold errV
  simp -dsimp -implicitDefEqProofs (disch := first | omega | assumption | (simp only [Option.isSome_some, Qt0]; done) | (simp only [UInt64.reduceToNat, UInt32.reduceToNat, UInt8.reduceToNat, List.length_cons, List.length_nil, List.length_append, Int.toNat_natCast] <;> omega) | fail) only [Nat.reduceLT, Nat.reduceLeDiff, Nat.reduceEqDiff, ↓reduceIte, Int.reduceLT, Int.reduceLE, Int.reduceToNat, Int.reduceEq, Int.reduceNe, Nat.reduceAdd, UInt8.reduceOfNat, UInt16.reduceOfNat, UInt32.reduceOfNat, UInt64.reduceOfNat, UInt64.reduceToNat, UInt32.reduceToNat, UInt16.reduceToNat, UInt8.reduceToNat, Int.reduceAdd, Int.reduceSub, Int.reduceMul, Nat.reduceMul, Qp0, Qp1, Ql0, Qe0]
  exact ⟨_, PH.Le.refl _, ⟨be, rfl⟩, (PH.Le.refl _).new _ _ hbe⟩
def mD (L : List Ep) : List (Value × Value) := L.map fun p => (str p.u, .int .i64 p.n)
theorem mkey : Keyed Try.prog 9 := string_keyed Try.underlying9
theorem key_str (l : List UInt8) (h : l.length ≤ 1000000) : ∃ q, keyOf Try.prog 9 (str l) = some q :=
  ⟨_, keyOf_string_mk Try.underlying9 (by show l.toArray.size ≤ maxLen; simp [maxLen]; omega)⟩
theorem zero_int (w : World) : (zeroValue 3).run Try.prog w = .ok (.int .i64 0) w := by kernel_rfl
theorem mD_keys {L : List Ep} (h : ∀ x ∈ L, rightEp x = true) : ∀ p ∈ mD L, ∃ q, keyOf Try.prog 9 p.1 = some q := fun p hp => by
  obtain ⟨x, hx, rfl⟩ := List.mem_map.1 hp
  have := h x hx
  unfold rightEp at this
  simp only [Bool.and_eq_true, decide_eq_true_eq] at this
  exact key_str _ (by omega)
theorem rightEp_iff {u : List UInt8} {n : Int} : rightEp ⟨u, n⟩ = true ↔ 1 ≤ u.length ∧ u.length ≤ 32 ∧ 1 ≤ n ∧ n ≤ 1099511627776 := by
  unfold rightEp
  simp only [Bool.and_eq_true, decide_eq_true_eq]
  constructor
  · rintro ⟨⟨⟨h1, h2⟩, h3⟩, h4⟩; exact ⟨h1, h2, h3, h4⟩
  · rintro ⟨h1, h2, h3, h4⟩; exact ⟨⟨⟨h1, h2⟩, h3⟩, h4⟩
/-- What Can tells of an epoch, over these. -/
def CAN (L : List Ep) (u : List UInt8) (n : Int) (v : Value) : Prop :=
  (v = .nilIface ∧ rightEp ⟨u, n⟩ = true ∧ ((∀ x ∈ L, x.u ≠ u) → L.length < 64)) ∨ ((∃ be, v = errV be) ∧ ((∀ x ∈ L, x.u ≠ u) → rightEp ⟨u, n⟩ = false ∨ 64 ≤ L.length))
set_option maxRecDepth 20000 in
set_option maxHeartbeats 4000000 in
theorem can_any (w0 : World) (h : PH) (tb B : Nat) (L : List Ep) (u : List UInt8) (n : Int) (ht : h.m tb = some ⟨[.map (some B)], 1⟩) (hM : Mp h B (mD L)) (hL : ∀ x ∈ L, rightEp x = true) (hd : L.Pairwise fun a b => a.u ≠ b.u) (hn : L.length ≤ 1000000) :
    PCalls Try.prog w0 64 [.pointer (some ⟨tb, 0, none⟩), str u, .int .i64 n] h fun r h' => CAN L u n r ∧ PH.Le h h' := by
  refine PCalls_body Try.func64 (by kernel_rfl) rfl _ Try.ntmps64 (by kernel_rfl) (by kernel_rfl) _ Try.results64 ?_
  have hno : ∀ e : rightEp ⟨u, n⟩ = false, ∀ (b : Nat) (hq : PH), PH.Le h hq → CAN L u n (errV b) ∧ PH.Le h hq := fun e b hq hl => ⟨.inr ⟨⟨b, rfl⟩, fun _ => .inl e⟩, hl⟩
  by_cases h1 : 1 ≤ u.length
  rotate_left
  · have e1 : decide ((u.length : Int) < 1) = true := decide_eq_true (by omega)
    have hR : rightEp ⟨u, n⟩ = false := by rw [Bool.eq_false_iff]; intro e; have := rightEp_iff.1 e; omega
    simp -dsimp -implicitDefEqProofs (disch := first | omega | assumption | (simp only [Option.isSome_some, Qt0]; done) | (simp only [UInt64.reduceToNat, UInt32.reduceToNat, UInt8.reduceToNat, List.length_cons, List.length_nil, List.length_append, Int.toNat_natCast] <;> omega) | fail) only [Nat.reduceLT, Nat.reduceLeDiff, Nat.reduceEqDiff, ↓reduceIte, Int.reduceLT, Int.reduceLE, Int.reduceToNat, Int.reduceEq, Int.reduceNe, Nat.reduceAdd, UInt8.reduceOfNat, UInt16.reduceOfNat, UInt32.reduceOfNat, UInt64.reduceOfNat, UInt64.reduceToNat, UInt32.reduceToNat, UInt16.reduceToNat, UInt8.reduceToNat, Int.reduceAdd, Int.reduceSub, Int.reduceMul, Nat.reduceMul, Qp0, Qp1, Ql0, Qe0, e1]
    refine (ebad_any 1 w0 _).mono ?_
    rintro v hq ⟨⟨be, rfl⟩, hl⟩
    have := hno hR be hq hl
    unfold errV at *
    simp -dsimp -implicitDefEqProofs (disch := first | omega | assumption | (simp only [Option.isSome_some, Qt0]; done) | (simp only [UInt64.reduceToNat, UInt32.reduceToNat, UInt8.reduceToNat, List.length_cons, List.length_nil, List.length_append, Int.toNat_natCast] <;> omega) | fail) only [Nat.reduceLT, Nat.reduceLeDiff, Nat.reduceEqDiff, ↓reduceIte, Int.reduceLT, Int.reduceLE, Int.reduceToNat, Int.reduceEq, Int.reduceNe, Nat.reduceAdd, UInt8.reduceOfNat, UInt16.reduceOfNat, UInt32.reduceOfNat, UInt64.reduceOfNat, UInt64.reduceToNat, UInt32.reduceToNat, UInt16.reduceToNat, UInt8.reduceToNat, Int.reduceAdd, Int.reduceSub, Int.reduceMul, Nat.reduceMul, Qp0, Qp1, Ql0, Qe0]
    exact ⟨_, PH.Le.refl _, this⟩
  have e1 : decide ((u.length : Int) < 1) = false := decide_eq_false (by omega)
  by_cases h2 : u.length ≤ 32
  rotate_left
  · have e2 : decide ((u.length : Int) > 32) = true := decide_eq_true (by omega)
    have hR : rightEp ⟨u, n⟩ = false := by rw [Bool.eq_false_iff]; intro e; have := rightEp_iff.1 e; omega
    simp -dsimp -implicitDefEqProofs (disch := first | omega | assumption | (simp only [Option.isSome_some, Qt0]; done) | (simp only [UInt64.reduceToNat, UInt32.reduceToNat, UInt8.reduceToNat, List.length_cons, List.length_nil, List.length_append, Int.toNat_natCast] <;> omega) | fail) only [Nat.reduceLT, Nat.reduceLeDiff, Nat.reduceEqDiff, ↓reduceIte, Int.reduceLT, Int.reduceLE, Int.reduceToNat, Int.reduceEq, Int.reduceNe, Nat.reduceAdd, UInt8.reduceOfNat, UInt16.reduceOfNat, UInt32.reduceOfNat, UInt64.reduceOfNat, UInt64.reduceToNat, UInt32.reduceToNat, UInt16.reduceToNat, UInt8.reduceToNat, Int.reduceAdd, Int.reduceSub, Int.reduceMul, Nat.reduceMul, Qp0, Qp1, Ql0, Qe0, e1, e2]
    refine (ebad_any 1 w0 _).mono ?_
    rintro v hq ⟨⟨be, rfl⟩, hl⟩
    have := hno hR be hq hl
    unfold errV at *
    simp -dsimp -implicitDefEqProofs (disch := first | omega | assumption | (simp only [Option.isSome_some, Qt0]; done) | (simp only [UInt64.reduceToNat, UInt32.reduceToNat, UInt8.reduceToNat, List.length_cons, List.length_nil, List.length_append, Int.toNat_natCast] <;> omega) | fail) only [Nat.reduceLT, Nat.reduceLeDiff, Nat.reduceEqDiff, ↓reduceIte, Int.reduceLT, Int.reduceLE, Int.reduceToNat, Int.reduceEq, Int.reduceNe, Nat.reduceAdd, UInt8.reduceOfNat, UInt16.reduceOfNat, UInt32.reduceOfNat, UInt64.reduceOfNat, UInt64.reduceToNat, UInt32.reduceToNat, UInt16.reduceToNat, UInt8.reduceToNat, Int.reduceAdd, Int.reduceSub, Int.reduceMul, Nat.reduceMul, Qp0, Qp1, Ql0, Qe0]
    exact ⟨_, PH.Le.refl _, this⟩
  have e2 : decide ((u.length : Int) > 32) = false := decide_eq_false (by omega)
  by_cases h3 : 1 ≤ n
  rotate_left
  · have e3 : decide (n < 1) = true := decide_eq_true (by omega)
    have hR : rightEp ⟨u, n⟩ = false := by rw [Bool.eq_false_iff]; intro e; have := rightEp_iff.1 e; omega
    simp -dsimp -implicitDefEqProofs (disch := first | omega | assumption | (simp only [Option.isSome_some, Qt0]; done) | (simp only [UInt64.reduceToNat, UInt32.reduceToNat, UInt8.reduceToNat, List.length_cons, List.length_nil, List.length_append, Int.toNat_natCast] <;> omega) | fail) only [Nat.reduceLT, Nat.reduceLeDiff, Nat.reduceEqDiff, ↓reduceIte, Int.reduceLT, Int.reduceLE, Int.reduceToNat, Int.reduceEq, Int.reduceNe, Nat.reduceAdd, UInt8.reduceOfNat, UInt16.reduceOfNat, UInt32.reduceOfNat, UInt64.reduceOfNat, UInt64.reduceToNat, UInt32.reduceToNat, UInt16.reduceToNat, UInt8.reduceToNat, Int.reduceAdd, Int.reduceSub, Int.reduceMul, Nat.reduceMul, Qp0, Qp1, Ql0, Qe0, e1, e2, e3]
    refine (ebad_any 1 w0 _).mono ?_
    rintro v hq ⟨⟨be, rfl⟩, hl⟩
    have := hno hR be hq hl
    unfold errV at *
    simp -dsimp -implicitDefEqProofs (disch := first | omega | assumption | (simp only [Option.isSome_some, Qt0]; done) | (simp only [UInt64.reduceToNat, UInt32.reduceToNat, UInt8.reduceToNat, List.length_cons, List.length_nil, List.length_append, Int.toNat_natCast] <;> omega) | fail) only [Nat.reduceLT, Nat.reduceLeDiff, Nat.reduceEqDiff, ↓reduceIte, Int.reduceLT, Int.reduceLE, Int.reduceToNat, Int.reduceEq, Int.reduceNe, Nat.reduceAdd, UInt8.reduceOfNat, UInt16.reduceOfNat, UInt32.reduceOfNat, UInt64.reduceOfNat, UInt64.reduceToNat, UInt32.reduceToNat, UInt16.reduceToNat, UInt8.reduceToNat, Int.reduceAdd, Int.reduceSub, Int.reduceMul, Nat.reduceMul, Qp0, Qp1, Ql0, Qe0]
    exact ⟨_, PH.Le.refl _, this⟩
  have e3 : decide (n < 1) = false := decide_eq_false (by omega)
  by_cases h4 : n ≤ 1099511627776
  rotate_left
  · have e4 : decide (n > 1099511627776) = true := decide_eq_true (by omega)
    have hR : rightEp ⟨u, n⟩ = false := by rw [Bool.eq_false_iff]; intro e; have := rightEp_iff.1 e; omega
    simp -dsimp -implicitDefEqProofs (disch := first | omega | assumption | (simp only [Option.isSome_some, Qt0]; done) | (simp only [UInt64.reduceToNat, UInt32.reduceToNat, UInt8.reduceToNat, List.length_cons, List.length_nil, List.length_append, Int.toNat_natCast] <;> omega) | fail) only [Nat.reduceLT, Nat.reduceLeDiff, Nat.reduceEqDiff, ↓reduceIte, Int.reduceLT, Int.reduceLE, Int.reduceToNat, Int.reduceEq, Int.reduceNe, Nat.reduceAdd, UInt8.reduceOfNat, UInt16.reduceOfNat, UInt32.reduceOfNat, UInt64.reduceOfNat, UInt64.reduceToNat, UInt32.reduceToNat, UInt16.reduceToNat, UInt8.reduceToNat, Int.reduceAdd, Int.reduceSub, Int.reduceMul, Nat.reduceMul, Qp0, Qp1, Ql0, Qe0, e1, e2, e3, e4]
    refine (ebad_any 1 w0 _).mono ?_
    rintro v hq ⟨⟨be, rfl⟩, hl⟩
    have := hno hR be hq hl
    unfold errV at *
    simp -dsimp -implicitDefEqProofs (disch := first | omega | assumption | (simp only [Option.isSome_some, Qt0]; done) | (simp only [UInt64.reduceToNat, UInt32.reduceToNat, UInt8.reduceToNat, List.length_cons, List.length_nil, List.length_append, Int.toNat_natCast] <;> omega) | fail) only [Nat.reduceLT, Nat.reduceLeDiff, Nat.reduceEqDiff, ↓reduceIte, Int.reduceLT, Int.reduceLE, Int.reduceToNat, Int.reduceEq, Int.reduceNe, Nat.reduceAdd, UInt8.reduceOfNat, UInt16.reduceOfNat, UInt32.reduceOfNat, UInt64.reduceOfNat, UInt64.reduceToNat, UInt32.reduceToNat, UInt16.reduceToNat, UInt8.reduceToNat, Int.reduceAdd, Int.reduceSub, Int.reduceMul, Nat.reduceMul, Qp0, Qp1, Ql0, Qe0]
    exact ⟨_, PH.Le.refl _, this⟩
  have e4 : decide (n > 1099511627776) = false := decide_eq_false (by omega)
  have hR : rightEp ⟨u, n⟩ = true := rightEp_iff.2 ⟨h1, h2, h3, h4⟩
  obtain ⟨kl, hkl⟩ := key_str u (by omega)
  have hpw : (mD L).Pairwise fun a b => a.1 ≠ b.1 := by
    unfold mD
    rw [List.pairwise_map]
    exact hd.imp fun hab e => hab (str_inj.1 e)
  simp -dsimp -implicitDefEqProofs (disch := first | omega | assumption | (simp only [Option.isSome_some, Qt0]; done) | (simp only [UInt64.reduceToNat, UInt32.reduceToNat, UInt8.reduceToNat, List.length_cons, List.length_nil, List.length_append, Int.toNat_natCast] <;> omega) | fail) only [Nat.reduceLT, Nat.reduceLeDiff, Nat.reduceEqDiff, ↓reduceIte, Int.reduceLT, Int.reduceLE, Int.reduceToNat, Int.reduceEq, Int.reduceNe, Nat.reduceAdd, UInt8.reduceOfNat, UInt16.reduceOfNat, UInt32.reduceOfNat, UInt64.reduceOfNat, UInt64.reduceToNat, UInt32.reduceToNat, UInt16.reduceToNat, UInt8.reduceToNat, Int.reduceAdd, Int.reduceSub, Int.reduceMul, Nat.reduceMul, Qp0, Qp1, Ql0, Qe0, e1, e2, e3, e4, rd_M, rdM_some, ht]
  refine Rds_lookup Try.underlying116 mkey hkl (mD_keys hL) hpw zero_int hM (fun hab => ?_) (fun v hv => ?_)
  · have habs : ∀ x ∈ L, x.u ≠ u := fun x hx e => hab (str x.u, .int .i64 x.n) (List.mem_map.2 ⟨x, hx, rfl⟩) (by rw [e])
    by_cases h5 : 64 ≤ L.length
    · have e5 : decide ((L.length : Int) ≥ 64) = true := decide_eq_true (by omega)
      simp -dsimp -implicitDefEqProofs (disch := first | omega | assumption | (simp only [Option.isSome_some, Qt0]; done) | (simp only [UInt64.reduceToNat, UInt32.reduceToNat, UInt8.reduceToNat, List.length_cons, List.length_nil, List.length_append, Int.toNat_natCast] <;> omega) | fail) only [Nat.reduceLT, Nat.reduceLeDiff, Nat.reduceEqDiff, ↓reduceIte, Int.reduceLT, Int.reduceLE, Int.reduceToNat, Int.reduceEq, Int.reduceNe, Nat.reduceAdd, UInt8.reduceOfNat, UInt16.reduceOfNat, UInt32.reduceOfNat, UInt64.reduceOfNat, UInt64.reduceToNat, UInt32.reduceToNat, UInt16.reduceToNat, UInt8.reduceToNat, Int.reduceAdd, Int.reduceSub, Int.reduceMul, Nat.reduceMul, Qp0, Qp1, Ql0, Qe0, rd_M, rdM_some, ht]
      refine Rds_lenM Try.underlying116 hM ?_
      have hlen : (mD L).length = L.length := by unfold mD; simp
      rw [hlen]
      simp -dsimp -implicitDefEqProofs (disch := first | omega | assumption | (simp only [Option.isSome_some, Qt0]; done) | (simp only [UInt64.reduceToNat, UInt32.reduceToNat, UInt8.reduceToNat, List.length_cons, List.length_nil, List.length_append, Int.toNat_natCast] <;> omega) | fail) only [Nat.reduceLT, Nat.reduceLeDiff, Nat.reduceEqDiff, ↓reduceIte, Int.reduceLT, Int.reduceLE, Int.reduceToNat, Int.reduceEq, Int.reduceNe, Nat.reduceAdd, UInt8.reduceOfNat, UInt16.reduceOfNat, UInt32.reduceOfNat, UInt64.reduceOfNat, UInt64.reduceToNat, UInt32.reduceToNat, UInt16.reduceToNat, UInt8.reduceToNat, Int.reduceAdd, Int.reduceSub, Int.reduceMul, Nat.reduceMul, Qp0, Qp1, Ql0, Qe0, e5]
      refine (ebad_any 4 w0 _).mono ?_
      rintro v hq ⟨⟨be, rfl⟩, hl⟩
      have : CAN L u n (errV be) ∧ PH.Le h hq := ⟨.inr ⟨⟨be, rfl⟩, fun _ => .inr h5⟩, hl⟩
      unfold errV at *
      simp -dsimp -implicitDefEqProofs (disch := first | omega | assumption | (simp only [Option.isSome_some, Qt0]; done) | (simp only [UInt64.reduceToNat, UInt32.reduceToNat, UInt8.reduceToNat, List.length_cons, List.length_nil, List.length_append, Int.toNat_natCast] <;> omega) | fail) only [Nat.reduceLT, Nat.reduceLeDiff, Nat.reduceEqDiff, ↓reduceIte, Int.reduceLT, Int.reduceLE, Int.reduceToNat, Int.reduceEq, Int.reduceNe, Nat.reduceAdd, UInt8.reduceOfNat, UInt16.reduceOfNat, UInt32.reduceOfNat, UInt64.reduceOfNat, UInt64.reduceToNat, UInt32.reduceToNat, UInt16.reduceToNat, UInt8.reduceToNat, Int.reduceAdd, Int.reduceSub, Int.reduceMul, Nat.reduceMul, Qp0, Qp1, Ql0, Qe0]
      exact ⟨_, PH.Le.refl _, this⟩
    · have e5 : decide ((L.length : Int) ≥ 64) = false := decide_eq_false (by omega)
      simp -dsimp -implicitDefEqProofs (disch := first | omega | assumption | (simp only [Option.isSome_some, Qt0]; done) | (simp only [UInt64.reduceToNat, UInt32.reduceToNat, UInt8.reduceToNat, List.length_cons, List.length_nil, List.length_append, Int.toNat_natCast] <;> omega) | fail) only [Nat.reduceLT, Nat.reduceLeDiff, Nat.reduceEqDiff, ↓reduceIte, Int.reduceLT, Int.reduceLE, Int.reduceToNat, Int.reduceEq, Int.reduceNe, Nat.reduceAdd, UInt8.reduceOfNat, UInt16.reduceOfNat, UInt32.reduceOfNat, UInt64.reduceOfNat, UInt64.reduceToNat, UInt32.reduceToNat, UInt16.reduceToNat, UInt8.reduceToNat, Int.reduceAdd, Int.reduceSub, Int.reduceMul, Nat.reduceMul, Qp0, Qp1, Ql0, Qe0, rd_M, rdM_some, ht]
      refine Rds_lenM Try.underlying116 hM ?_
      have hlen : (mD L).length = L.length := by unfold mD; simp
      rw [hlen]
      simp -dsimp -implicitDefEqProofs (disch := first | omega | assumption | (simp only [Option.isSome_some, Qt0]; done) | (simp only [UInt64.reduceToNat, UInt32.reduceToNat, UInt8.reduceToNat, List.length_cons, List.length_nil, List.length_append, Int.toNat_natCast] <;> omega) | fail) only [Nat.reduceLT, Nat.reduceLeDiff, Nat.reduceEqDiff, ↓reduceIte, Int.reduceLT, Int.reduceLE, Int.reduceToNat, Int.reduceEq, Int.reduceNe, Nat.reduceAdd, UInt8.reduceOfNat, UInt16.reduceOfNat, UInt32.reduceOfNat, UInt64.reduceOfNat, UInt64.reduceToNat, UInt32.reduceToNat, UInt16.reduceToNat, UInt8.reduceToNat, Int.reduceAdd, Int.reduceSub, Int.reduceMul, Nat.reduceMul, Qp0, Qp1, Ql0, Qe0, e5]
      exact ⟨_, PH.Le.refl _, .inl ⟨by first | rfl | trivial, hR, fun _ => by omega⟩, PH.Le.refl _⟩
  · obtain ⟨x, hx, hxe⟩ := List.mem_map.1 hv
    obtain ⟨hx1, hx2⟩ := Prod.mk.inj hxe
    subst hx2
    have hxn := (rightEp_iff (u := x.u) (n := x.n)).1 (hL x hx)
    have e6 : decide (x.n = 0) = false := decide_eq_false (by omega)
    simp -dsimp -implicitDefEqProofs (disch := first | omega | assumption | (simp only [Option.isSome_some, Qt0]; done) | (simp only [UInt64.reduceToNat, UInt32.reduceToNat, UInt8.reduceToNat, List.length_cons, List.length_nil, List.length_append, Int.toNat_natCast] <;> omega) | fail) only [Nat.reduceLT, Nat.reduceLeDiff, Nat.reduceEqDiff, ↓reduceIte, Int.reduceLT, Int.reduceLE, Int.reduceToNat, Int.reduceEq, Int.reduceNe, Nat.reduceAdd, UInt8.reduceOfNat, UInt16.reduceOfNat, UInt32.reduceOfNat, UInt64.reduceOfNat, UInt64.reduceToNat, UInt32.reduceToNat, UInt16.reduceToNat, UInt8.reduceToNat, Int.reduceAdd, Int.reduceSub, Int.reduceMul, Nat.reduceMul, Qp0, Qp1, Ql0, Qe0, e6]
    exact ⟨_, PH.Le.refl _, .inl ⟨by first | rfl | trivial, hR, fun hab => absurd (str_inj.1 hx1) (hab x hx)⟩, PH.Le.refl _⟩
end Go.Proofs.Ytdhgmifgjaedbaa


/- Walk: epoch's New. No condition. -/
namespace Go.Proofs.Ytdhgmifgjaedbaa
set_option linter.unusedVariables false
set_option linter.unusedSimpArgs false
open Go.RowKit Go.Maps Go.WideMaps Px Wr
theorem rises_lt {L : List Ep} (h : rises L = true) : ∀ (k j : Nat) (x y : Ep), j < k → L[j]? = some x → L[k]? = some y → ltB x.u y.u = true
  | 0, j, x, y, hj, _, _ => by omega
  | k + 1, j, x, y, hj, hx, hy => by
    obtain ⟨z, hz⟩ : ∃ z, L[k]? = some z := ⟨_, List.getElem?_eq_getElem (by have := (List.getElem?_eq_some_iff.1 hy).1; omega)⟩
    have h1 := leB_not.1 (rises_iff.1 h k z y hz hy)
    by_cases hjk : j = k
    · subst hjk
      rw [hx] at hz
      rw [Option.some.inj hz]; exact h1
    · exact ltB_trans (rises_lt h k j x z (by omega) hx hz) h1
theorem ltB_ne {a b : List UInt8} (h : ltB a b = true) : a ≠ b := fun e => by rw [e, ltB_irr] at h; cases h
/-- Whoever lies among the first ones. -/
theorem mem_take_get {L : List Ep} {i : Nat} {x : Ep} (h : x ∈ L.take i) : ∃ j, j < i ∧ L[j]? = some x := by
  obtain ⟨j, hj, rfl⟩ := List.getElem_of_mem h
  have hj' := hj
  rw [List.length_take] at hj'
  refine ⟨j, by omega, ?_⟩
  rw [List.getElem_take, List.getElem?_eq_getElem]
theorem take_pw {L : List Ep} {i : Nat} (h : ∀ (j k : Nat) (x y : Ep), j < k → k < i → L[j]? = some x → L[k]? = some y → ltB x.u y.u = true) : (L.take i).Pairwise fun a b => a.u ≠ b.u := by
  rw [List.pairwise_iff_getElem]
  intro j k hj hk hjk
  have hk' := hk
  rw [List.length_take] at hk'
  rw [List.getElem_take, List.getElem_take]
  exact ltB_ne (h j k _ _ hjk (by omega) (List.getElem?_eq_getElem (by omega)) (List.getElem?_eq_getElem (by omega)))
theorem rightE_parts {L : List Ep} (h : rightE L = true) : L.length ≤ 64 ∧ (∀ x ∈ L, rightEp x = true) ∧ rises L = true := by
  unfold rightE at h
  simp only [Bool.and_eq_true, decide_eq_true_eq] at h
  exact ⟨h.1.1, List.all_eq_true.1 h.1.2, h.2⟩
def NEW (L : List Ep) (r : Value) : Prop := ∃ p e, r = .tuple #[p, e] ∧ ((rightE L = true ∧ e = .nilIface) ∨ (rightE L = false ∧ ∃ be, e = errV be))
set_option maxRecDepth 20000 in
set_option maxHeartbeats 4000000 in
theorem new_any (w0 : World) (h : PH) (A : Option Addr) (c : Nat) (L : List Ep) (hr : Rv w0 h A (L.flatMap epL)) (hn : L.length ≤ c) (hL : L.length ≤ 1000000) : PCalls Try.prog w0 32 [.slice A L.length c] h fun r h' => NEW L r ∧ PH.Le h h' := by
  refine PCalls_upL fun q hlq hlow hut => ?_
  refine PCalls_body Try.func32 (by kernel_rfl) rfl _ Try.ntmps32 (by kernel_rfl) (by kernel_rfl) _ Try.results32 ?_
  have hrq := hr.more hlq
  simp -dsimp -implicitDefEqProofs (disch := first | omega | assumption | (simp only [Option.isSome_some, Qt0]; done) | (simp only [UInt64.reduceToNat, UInt32.reduceToNat, UInt8.reduceToNat, List.length_cons, List.length_nil, List.length_append, Int.toNat_natCast] <;> omega) | fail) only [Nat.reduceLT, Nat.reduceLeDiff, Nat.reduceEqDiff, ↓reduceIte, Int.reduceLT, Int.reduceLE, Int.reduceToNat, Int.reduceEq, Int.reduceNe, Nat.reduceAdd, UInt8.reduceOfNat, UInt16.reduceOfNat, UInt32.reduceOfNat, UInt64.reduceOfNat, UInt64.reduceToNat, UInt32.reduceToNat, UInt16.reduceToNat, UInt8.reduceToNat, Int.reduceAdd, Int.reduceSub, Int.reduceMul, Nat.reduceMul, Qp0, Qp1, Ql0, Qe0]
  refine Does_makeMap fun B hB => ?_
  have hM0 := Mp.made q B
  have hl1 : PH.Le q (q.new B (mapBk #[] 0)) := (PH.Le.refl q).new _ _ hB
  have hBt : B < (q.new B (mapBk #[] 0)).top := by simp only [PH.new_top]; omega
  generalize q.new B (mapBk #[] 0) = q1 at *
  simp -dsimp -implicitDefEqProofs (disch := first | omega | assumption | (simp only [Option.isSome_some, Qt0]; done) | (simp only [UInt64.reduceToNat, UInt32.reduceToNat, UInt8.reduceToNat, List.length_cons, List.length_nil, List.length_append, Int.toNat_natCast] <;> omega) | fail) only [Nat.reduceLT, Nat.reduceLeDiff, Nat.reduceEqDiff, ↓reduceIte, Int.reduceLT, Int.reduceLE, Int.reduceToNat, Int.reduceEq, Int.reduceNe, Nat.reduceAdd, UInt8.reduceOfNat, UInt16.reduceOfNat, UInt32.reduceOfNat, UInt64.reduceOfNat, UInt64.reduceToNat, UInt32.reduceToNat, UInt16.reduceToNat, UInt8.reduceToNat, Int.reduceAdd, Int.reduceSub, Int.reduceMul, Nat.reduceMul, Qp0, Qp1, Ql0, Qe0]
  refine fun tb htb => ?_
  have hl2 : PH.Le q1 (q1.new tb ⟨[.map (some B)], 1⟩) := (PH.Le.refl q1).new _ _ htb
  have ht2 : (q1.new tb ⟨[.map (some B)], 1⟩).m tb = some ⟨[.map (some B)], 1⟩ := by rw [PH.new_m, if_pos rfl]
  have hM2 := hM0.more hl2
  simp -dsimp -implicitDefEqProofs (disch := first | omega | assumption | (simp only [Option.isSome_some, Qt0]; done) | (simp only [UInt64.reduceToNat, UInt32.reduceToNat, UInt8.reduceToNat, List.length_cons, List.length_nil, List.length_append, Int.toNat_natCast] <;> omega) | fail) only [Nat.reduceLT, Nat.reduceLeDiff, Nat.reduceEqDiff, ↓reduceIte, Int.reduceLT, Int.reduceLE, Int.reduceToNat, Int.reduceEq, Int.reduceNe, Nat.reduceAdd, UInt8.reduceOfNat, UInt16.reduceOfNat, UInt32.reduceOfNat, UInt64.reduceOfNat, UInt64.reduceToNat, UInt32.reduceToNat, UInt16.reduceToNat, UInt8.reduceToNat, Int.reduceAdd, Int.reduceSub, Int.reduceMul, Nat.reduceMul, Qp0, Qp1, Ql0, Qe0]
  generalize q1.new tb ⟨[.map (some B)], 1⟩ = q2 at *
  have hBtb : tb ≠ B := by have : q1.top ≤ tb := htb; omega
  have hBq : q.top ≤ B := hB
  have hlq2 := hl1.trans hl2
  refine PW_loopL (fun n f h' => ∃ i : Nat, n + i = L.length ∧ f 0 = some (.slice A L.length c) ∧ f 4 = some (.pointer (some ⟨tb, 0, none⟩)) ∧ f 10 = some (.slice A L.length c) ∧ f 11 = some (.int .i64 L.length) ∧ f 12 = some (.int .i64 i) ∧ PH.Le q h' ∧ h'.m tb = some ⟨[.map (some B)], 1⟩ ∧ Mp h' B (mD (L.take i)) ∧ i ≤ 64 ∧ (∀ j x, j < i → L[j]? = some x → rightEp x = true) ∧ (∀ (j k : Nat) (x y : Ep), j < k → k < i → L[j]? = some x → L[k]? = some y → ltB x.u y.u = true)) (by kernel_rfl) L.length ⟨0, by omega, ?_, ?_, ?_, ?_, ?_, hlq2, ht2, hM2, by omega, fun j x hj => by omega, fun j k x y _ hk => by omega⟩ ?_
  · simp -dsimp -implicitDefEqProofs (disch := first | omega | assumption | (simp only [Option.isSome_some, Qt0]; done) | (simp only [UInt64.reduceToNat, UInt32.reduceToNat, UInt8.reduceToNat, List.length_cons, List.length_nil, List.length_append, Int.toNat_natCast] <;> omega) | fail) only [Nat.reduceLT, Nat.reduceLeDiff, Nat.reduceEqDiff, ↓reduceIte, Int.reduceLT, Int.reduceLE, Int.reduceToNat, Int.reduceEq, Int.reduceNe, Nat.reduceAdd, UInt8.reduceOfNat, UInt16.reduceOfNat, UInt32.reduceOfNat, UInt64.reduceOfNat, UInt64.reduceToNat, UInt32.reduceToNat, UInt16.reduceToNat, UInt8.reduceToNat, Int.reduceAdd, Int.reduceSub, Int.reduceMul, Nat.reduceMul, Qp0, Qp1, Ql0, Qe0]
  · simp -dsimp -implicitDefEqProofs (disch := first | omega | assumption | (simp only [Option.isSome_some, Qt0]; done) | (simp only [UInt64.reduceToNat, UInt32.reduceToNat, UInt8.reduceToNat, List.length_cons, List.length_nil, List.length_append, Int.toNat_natCast] <;> omega) | fail) only [Nat.reduceLT, Nat.reduceLeDiff, Nat.reduceEqDiff, ↓reduceIte, Int.reduceLT, Int.reduceLE, Int.reduceToNat, Int.reduceEq, Int.reduceNe, Nat.reduceAdd, UInt8.reduceOfNat, UInt16.reduceOfNat, UInt32.reduceOfNat, UInt64.reduceOfNat, UInt64.reduceToNat, UInt32.reduceToNat, UInt16.reduceToNat, UInt8.reduceToNat, Int.reduceAdd, Int.reduceSub, Int.reduceMul, Nat.reduceMul, Qp0, Qp1, Ql0, Qe0]
  · simp -dsimp -implicitDefEqProofs (disch := first | omega | assumption | (simp only [Option.isSome_some, Qt0]; done) | (simp only [UInt64.reduceToNat, UInt32.reduceToNat, UInt8.reduceToNat, List.length_cons, List.length_nil, List.length_append, Int.toNat_natCast] <;> omega) | fail) only [Nat.reduceLT, Nat.reduceLeDiff, Nat.reduceEqDiff, ↓reduceIte, Int.reduceLT, Int.reduceLE, Int.reduceToNat, Int.reduceEq, Int.reduceNe, Nat.reduceAdd, UInt8.reduceOfNat, UInt16.reduceOfNat, UInt32.reduceOfNat, UInt64.reduceOfNat, UInt64.reduceToNat, UInt32.reduceToNat, UInt16.reduceToNat, UInt8.reduceToNat, Int.reduceAdd, Int.reduceSub, Int.reduceMul, Nat.reduceMul, Qp0, Qp1, Ql0, Qe0]
  · simp -dsimp -implicitDefEqProofs (disch := first | omega | assumption | (simp only [Option.isSome_some, Qt0]; done) | (simp only [UInt64.reduceToNat, UInt32.reduceToNat, UInt8.reduceToNat, List.length_cons, List.length_nil, List.length_append, Int.toNat_natCast] <;> omega) | fail) only [Nat.reduceLT, Nat.reduceLeDiff, Nat.reduceEqDiff, ↓reduceIte, Int.reduceLT, Int.reduceLE, Int.reduceToNat, Int.reduceEq, Int.reduceNe, Nat.reduceAdd, UInt8.reduceOfNat, UInt16.reduceOfNat, UInt32.reduceOfNat, UInt64.reduceOfNat, UInt64.reduceToNat, UInt32.reduceToNat, UInt16.reduceToNat, UInt8.reduceToNat, Int.reduceAdd, Int.reduceSub, Int.reduceMul, Nat.reduceMul, Qp0, Qp1, Ql0, Qe0]
  · simp -dsimp -implicitDefEqProofs (disch := first | omega | assumption | (simp only [Option.isSome_some, Qt0]; done) | (simp only [UInt64.reduceToNat, UInt32.reduceToNat, UInt8.reduceToNat, List.length_cons, List.length_nil, List.length_append, Int.toNat_natCast] <;> omega) | fail) only [Nat.reduceLT, Nat.reduceLeDiff, Nat.reduceEqDiff, ↓reduceIte, Int.reduceLT, Int.reduceLE, Int.reduceToNat, Int.reduceEq, Int.reduceNe, Nat.reduceAdd, UInt8.reduceOfNat, UInt16.reduceOfNat, UInt32.reduceOfNat, UInt64.reduceOfNat, UInt64.reduceToNat, UInt32.reduceToNat, UInt16.reduceToNat, UInt8.reduceToNat, Int.reduceAdd, Int.reduceSub, Int.reduceMul, Nat.reduceMul, Qp0, Qp1, Ql0, Qe0]
    try rfl
  rintro n f h' ⟨i, hni, f0, f4, f10, f11, f12, hl', ht', hM', h64, hall, hris⟩ hlow'
  by_cases hi : i < L.length
  rotate_left
  · have e2 : decide ((i : Int) < (L.length : Int)) = false := decide_eq_false (by omega)
    have hE : rightE L = true := rightE_yes (by omega) (fun j x hj => hall j x (by omega)) (fun j x y hj h1 h2 => leB_not.2 (hris j (j + 1) x y (by omega) (by omega) h1 h2))
    simp -dsimp -implicitDefEqProofs (disch := first | omega | assumption | (simp only [Option.isSome_some, Qt0]; done) | (simp only [UInt64.reduceToNat, UInt32.reduceToNat, UInt8.reduceToNat, List.length_cons, List.length_nil, List.length_append, Int.toNat_natCast] <;> omega) | fail) only [Nat.reduceLT, Nat.reduceLeDiff, Nat.reduceEqDiff, ↓reduceIte, Int.reduceLT, Int.reduceLE, Int.reduceToNat, Int.reduceEq, Int.reduceNe, Nat.reduceAdd, UInt8.reduceOfNat, UInt16.reduceOfNat, UInt32.reduceOfNat, UInt64.reduceOfNat, UInt64.reduceToNat, UInt32.reduceToNat, UInt16.reduceToNat, UInt8.reduceToNat, Int.reduceAdd, Int.reduceSub, Int.reduceMul, Nat.reduceMul, Qp0, Qp1, Ql0, Qe0, f0, f4, f10, f11, f12, e2]
    exact ⟨_, PH.Le.refl _, ⟨_, _, by first | rfl | trivial, .inl ⟨hE, rfl⟩⟩, hlq.trans hl'⟩
  have e2 : decide ((i : Int) < (L.length : Int)) = true := decide_eq_true (by omega)
  obtain ⟨⟨u, m⟩, hx⟩ : ∃ x, L[i]? = some x := ⟨_, List.getElem?_eq_getElem hi⟩
  obtain ⟨b, o, rfl⟩ := hrq.addr_ epL_length (by omega) hx
  have hT : (i : Int).toNat = i := Int.toNat_natCast i
  have hrd := (hrq.more hl').chunk epL_length (by omega) hlow' hx
  have ha : allOne (epL ⟨u, m⟩) := epL_one _
  unfold epL at hrd ha
  simp only at hrd ha
  have hutq : w0.heap.size ≤ h'.top := by have := hl'.top; omega
  simp -dsimp -implicitDefEqProofs (disch := first | omega | assumption | (simp only [Option.isSome_some, Qt0]; done) | (simp only [UInt64.reduceToNat, UInt32.reduceToNat, UInt8.reduceToNat, List.length_cons, List.length_nil, List.length_append, Int.toNat_natCast] <;> omega) | fail) only [Nat.reduceLT, Nat.reduceLeDiff, Nat.reduceEqDiff, ↓reduceIte, Int.reduceLT, Int.reduceLE, Int.reduceToNat, Int.reduceEq, Int.reduceNe, Nat.reduceAdd, UInt8.reduceOfNat, UInt16.reduceOfNat, UInt32.reduceOfNat, UInt64.reduceOfNat, UInt64.reduceToNat, UInt32.reduceToNat, UInt16.reduceToNat, UInt8.reduceToNat, Int.reduceAdd, Int.reduceSub, Int.reduceMul, Nat.reduceMul, Qp0, Qp1, Ql0, Qe0, f0, f4, f10, f11, f12, e2, hrd]
  refine fun xb hxb => ?_
  have hxb' : h'.top ≤ xb := hxb
  obtain ⟨h1, hh1⟩ : ∃ h1, h'.new xb ⟨[str u, .int .i64 m], 2⟩ = h1 := ⟨_, rfl⟩
  have hle1 : PH.Le h' h1 := by rw [← hh1]; exact (PH.Le.refl h').new _ _ hxb
  have hm1 : h1.m xb = some ⟨[str u, .int .i64 m], 2⟩ := by rw [← hh1, PH.new_m, if_pos rfl]
  have ht1 := hle1.m _ _ ht'
  have hM1 := hM'.more hle1
  have hlow1 : Low w0 h1 := by rw [← hh1]; exact hlow'.new (by omega) _
  simp -dsimp -implicitDefEqProofs (disch := first | omega | assumption | (simp only [Option.isSome_some, Qt0]; done) | (simp only [UInt64.reduceToNat, UInt32.reduceToNat, UInt8.reduceToNat, List.length_cons, List.length_nil, List.length_append, Int.toNat_natCast] <;> omega) | fail) only [Nat.reduceLT, Nat.reduceLeDiff, Nat.reduceEqDiff, ↓reduceIte, Int.reduceLT, Int.reduceLE, Int.reduceToNat, Int.reduceEq, Int.reduceNe, Nat.reduceAdd, UInt8.reduceOfNat, UInt16.reduceOfNat, UInt32.reduceOfNat, UInt64.reduceOfNat, UInt64.reduceToNat, UInt32.reduceToNat, UInt16.reduceToNat, UInt8.reduceToNat, Int.reduceAdd, Int.reduceSub, Int.reduceMul, Nat.reduceMul, Qp0, Qp1, Ql0, Qe0, f0, f4, f10, f11, f12, List.set_cons_zero, List.set_cons_succ, List.take_zero, List.drop_succ_cons, List.drop_zero, List.drop_nil, List.nil_append, List.append_nil, List.take_succ_cons, ite_true, PH.new_new, hh1]
  refine PW_plan [0, 1, 2, 3, 4, 5, 6, 7, 8, 9, 10, 11, 12, 13, 14, 15, 16, 17, 18, 19, 20, 21] h1 (by kernel_rfl) (by decide +kernel) (by kernel_rfl) (by kernel_rfl) (by kernel_rfl) (fun c f h hq => by simp only [thenC_panic, thenK_panic, inBlk_panic, thenN_panic, vcRet_panic] at hq) (PH.Le.refl _).sub ?_
  simp -dsimp -implicitDefEqProofs (disch := first | omega | assumption | (simp only [Option.isSome_some, Qt0]; done) | (simp only [UInt64.reduceToNat, UInt32.reduceToNat, UInt8.reduceToNat, List.length_cons, List.length_nil, List.length_append, Int.toNat_natCast] <;> omega) | fail) only [Nat.reduceLT, Nat.reduceLeDiff, Nat.reduceEqDiff, ↓reduceIte, Int.reduceLT, Int.reduceLE, Int.reduceToNat, Int.reduceEq, Int.reduceNe, Nat.reduceAdd, UInt8.reduceOfNat, UInt16.reduceOfNat, UInt32.reduceOfNat, UInt64.reduceOfNat, UInt64.reduceToNat, UInt32.reduceToNat, UInt16.reduceToNat, UInt8.reduceToNat, Int.reduceAdd, Int.reduceSub, Int.reduceMul, Nat.reduceMul, Qp0, Qp1, Ql0, Qe0, f0, f4, f10, f11, f12, rd_M, rdM_some, hm1]
  have hallT : ∀ x ∈ L.take i, rightEp x = true := fun x hx => by
    obtain ⟨j, hj, he⟩ := mem_take_get hx
    exact hall j x hj he
  refine (can_any w0 h1 tb B (L.take i) u m ht1 hM1 hallT (take_pw hris) (by rw [List.length_take]; omega)).low.mono ?_
  rintro v h2 ⟨⟨hC, hle2⟩, hlow2⟩
  refine ⟨hle2.sub, ?_⟩
  have hl2' := hl'.trans (hle1.trans hle2)
  have hxB : xb ≠ B := by
    obtain ⟨es, clk, hb, _⟩ := hM'
    have := h'.lt _ _ hb
    omega
  rcases hC with ⟨rfl, hRt, hlt⟩ | ⟨⟨be, rfl⟩, hno⟩
  rotate_left
  · have hE : rightE L = false := by
      rw [Bool.eq_false_iff]; intro e
      obtain ⟨p1, p2, p3⟩ := rightE_parts e
      rcases hno (fun y hy => by
        obtain ⟨j, hj, he⟩ := mem_take_get hy
        exact ltB_ne (rises_lt p3 i j y ⟨u, m⟩ hj he hx)) with k | k
      · rw [p2 _ (List.mem_of_getElem? hx)] at k; cases k
      · rw [List.length_take] at k; omega
    unfold errV
    simp -dsimp -implicitDefEqProofs (disch := first | omega | assumption | (simp only [Option.isSome_some, Qt0]; done) | (simp only [UInt64.reduceToNat, UInt32.reduceToNat, UInt8.reduceToNat, List.length_cons, List.length_nil, List.length_append, Int.toNat_natCast] <;> omega) | fail) only [Nat.reduceLT, Nat.reduceLeDiff, Nat.reduceEqDiff, ↓reduceIte, Int.reduceLT, Int.reduceLE, Int.reduceToNat, Int.reduceEq, Int.reduceNe, Nat.reduceAdd, UInt8.reduceOfNat, UInt16.reduceOfNat, UInt32.reduceOfNat, UInt64.reduceOfNat, UInt64.reduceToNat, UInt32.reduceToNat, UInt16.reduceToNat, UInt8.reduceToNat, Int.reduceAdd, Int.reduceSub, Int.reduceMul, Nat.reduceMul, Qp0, Qp1, Ql0, Qe0, f0, f4, f10, f11, f12, rd_M, rdM_some, hm1]
    refine (ebad_any 1 w0 _).mono ?_
    rintro v hq ⟨⟨be2, rfl⟩, hl3⟩
    unfold errV
    simp -dsimp -implicitDefEqProofs (disch := first | omega | assumption | (simp only [Option.isSome_some, Qt0]; done) | (simp only [UInt64.reduceToNat, UInt32.reduceToNat, UInt8.reduceToNat, List.length_cons, List.length_nil, List.length_append, Int.toNat_natCast] <;> omega) | fail) only [Nat.reduceLT, Nat.reduceLeDiff, Nat.reduceEqDiff, ↓reduceIte, Int.reduceLT, Int.reduceLE, Int.reduceToNat, Int.reduceEq, Int.reduceNe, Nat.reduceAdd, UInt8.reduceOfNat, UInt16.reduceOfNat, UInt32.reduceOfNat, UInt64.reduceOfNat, UInt64.reduceToNat, UInt32.reduceToNat, UInt16.reduceToNat, UInt8.reduceToNat, Int.reduceAdd, Int.reduceSub, Int.reduceMul, Nat.reduceMul, Qp0, Qp1, Ql0, Qe0]
    exact ⟨_, PH.Le.refl _, ⟨_, _, by first | rfl | trivial, .inr ⟨hE, be2, rfl⟩⟩, hlq.trans (hl2'.trans hl3)⟩
  obtain ⟨kl, hkl⟩ := key_str u (by have := rightEp_iff.1 hRt; omega)
  by_cases hi0 : i = 0
  · have e3 : decide ((i : Int) > 0) = false := decide_eq_false (by omega)
    have hup : ∀ (j : Nat) (y : Ep), j < i → L[j]? = some y → ltB y.u u = true := fun j y hj => by omega
    have habs : ∀ y ∈ L.take i, y.u ≠ u := fun y hy => by
      obtain ⟨j, hj, he⟩ := mem_take_get hy
      exact ltB_ne (hup j y hj he)
    simp -dsimp -implicitDefEqProofs (disch := first | omega | assumption | (simp only [Option.isSome_some, Qt0]; done) | (simp only [UInt64.reduceToNat, UInt32.reduceToNat, UInt8.reduceToNat, List.length_cons, List.length_nil, List.length_append, Int.toNat_natCast] <;> omega) | fail) only [Nat.reduceLT, Nat.reduceLeDiff, Nat.reduceEqDiff, ↓reduceIte, Int.reduceLT, Int.reduceLE, Int.reduceToNat, Int.reduceEq, Int.reduceNe, Nat.reduceAdd, UInt8.reduceOfNat, UInt16.reduceOfNat, UInt32.reduceOfNat, UInt64.reduceOfNat, UInt64.reduceToNat, UInt32.reduceToNat, UInt16.reduceToNat, UInt8.reduceToNat, Int.reduceAdd, Int.reduceSub, Int.reduceMul, Nat.reduceMul, Qp0, Qp1, Ql0, Qe0, f0, f4, f10, f11, f12, rd_M, rdM_some, hm1, e3]
    have hS2 : (h2.del B).m tb = some ⟨[.map (some B)], 1⟩ := by rw [PH.del_m, if_neg hBtb]; exact hle2.m _ _ ht1
    have hS3 : (h2.del B).m xb = some ⟨[str u, .int .i64 m], 2⟩ := by rw [PH.del_m, if_neg hxB]; exact hle2.m _ _ hm1
    have hlt64 : i < 64 := by
      have := hlt habs
      rw [List.length_take] at this; omega
    refine PW_plan [0, 1, 2, 3, 4, 5, 6, 7, 8] (h2.del B) (by kernel_rfl) (by decide +kernel) (by kernel_rfl) (by kernel_rfl) (by kernel_rfl) (fun c f h hq => by simp only [thenC_panic, thenK_panic, inBlk_panic, thenN_panic, vcRet_panic] at hq) (fun w s => s.del B) ?_
    generalize hS : h2.del B = hS0 at *
    simp -dsimp -implicitDefEqProofs (disch := first | omega | assumption | (simp only [Option.isSome_some, Qt0]; done) | (simp only [UInt64.reduceToNat, UInt32.reduceToNat, UInt8.reduceToNat, List.length_cons, List.length_nil, List.length_append, Int.toNat_natCast] <;> omega) | fail) only [Nat.reduceLT, Nat.reduceLeDiff, Nat.reduceEqDiff, ↓reduceIte, Int.reduceLT, Int.reduceLE, Int.reduceToNat, Int.reduceEq, Int.reduceNe, Nat.reduceAdd, UInt8.reduceOfNat, UInt16.reduceOfNat, UInt32.reduceOfNat, UInt64.reduceOfNat, UInt64.reduceToNat, UInt32.reduceToNat, UInt16.reduceToNat, UInt8.reduceToNat, Int.reduceAdd, Int.reduceSub, Int.reduceMul, Nat.reduceMul, Qp0, Qp1, Ql0, Qe0, f0, f4, f10, f11, f12, rd_M, rdM_some, hS2, hS3]
    refine Does_update Try.underlying116 mkey hkl (mD_keys hallT) (hM1.more hle2) (fun p hp e => ?_) (fun h3 ht3 hM3 hk3 => ?_)
    · obtain ⟨y, hy, rfl⟩ := List.mem_map.1 hp
      exact habs y hy (str_inj.1 e)
    have hsub : PH.Le hS0 h3 := by
      rw [← hS]
      refine ⟨by rw [PH.del_top, ht3]; exact Nat.le_refl _, fun z k e => ?_⟩
      rw [PH.del_m] at e
      by_cases hz : z = B
      · rw [if_pos hz] at e; cases e
      · rw [if_neg hz] at e; rw [hk3 z hz]; exact e
    refine ⟨hsub.sub, ?_⟩
    have hmt : mD (L.take i) ++ [(str u, .int .i64 m)] = mD (L.take (i + 1)) := by
      unfold mD
      rw [List.take_add_one, hx]; simp
    rw [hmt] at hM3
    simp -dsimp -implicitDefEqProofs (disch := first | omega | assumption | (simp only [Option.isSome_some, Qt0]; done) | (simp only [UInt64.reduceToNat, UInt32.reduceToNat, UInt8.reduceToNat, List.length_cons, List.length_nil, List.length_append, Int.toNat_natCast] <;> omega) | fail) only [Nat.reduceLT, Nat.reduceLeDiff, Nat.reduceEqDiff, ↓reduceIte, Int.reduceLT, Int.reduceLE, Int.reduceToNat, Int.reduceEq, Int.reduceNe, Nat.reduceAdd, UInt8.reduceOfNat, UInt16.reduceOfNat, UInt32.reduceOfNat, UInt64.reduceOfNat, UInt64.reduceToNat, UInt32.reduceToNat, UInt16.reduceToNat, UInt8.reduceToNat, Int.reduceAdd, Int.reduceSub, Int.reduceMul, Nat.reduceMul, Qp0, Qp1, Ql0, Qe0, f0, f4, f10, f11, f12, rd_M, rdM_some]
    refine ⟨n - 1, _, by omega, PH.Le.refl _, i + 1, by omega, by trivial, by trivial, by trivial, by trivial, by simp, ⟨by rw [ht3]; exact hl2'.top, fun z k e => ?_⟩, by rw [hk3 tb hBtb]; exact hle2.m _ _ ht1, hM3, by omega, fun j y hj hy => ?_, fun j k y z hjk hk hy hz => ?_⟩
    · rw [hk3 z (by have := q.lt z k e; omega)]; exact hl2'.m z k e
    · by_cases hji : j = i
      · subst hji; rw [hx] at hy; rw [← Option.some.inj hy]; exact hRt
      · exact hall j y (by omega) hy
    · by_cases hki : k = i
      · subst hki
        rw [hx] at hz
        rw [← Option.some.inj hz]
        exact hup j y hjk hy
      · exact hris j k y z hjk (by omega) hy hz
  obtain ⟨k, hk⟩ : ∃ k, k + 1 = i := ⟨i - 1, by omega⟩
  obtain ⟨⟨u2, m2⟩, hy⟩ : ∃ x, L[k]? = some x := ⟨_, List.getElem?_eq_getElem (by omega)⟩
  have e3 : decide ((i : Int) > 0) = true := decide_eq_true (by omega)
  have hm2 := hle2.m _ _ hm1
  have gy : rdM w0 (h1.m b) b (o + k * 2) = some (str u2) := (hrq.more (hl'.trans hle1)).chunkM epL_length (by omega) hlow1 hy (j := 0) rfl
  have hT2 : ((i : Int) - 1).toNat = k := by omega
  cases hle : leB u u2 with
  | true =>
    have hE := rightE_no2 hy (by rw [hk]; exact hx) hle
    simp -dsimp -implicitDefEqProofs (disch := first | omega | assumption | (simp only [Option.isSome_some, Qt0]; done) | (simp only [UInt64.reduceToNat, UInt32.reduceToNat, UInt8.reduceToNat, List.length_cons, List.length_nil, List.length_append, Int.toNat_natCast] <;> omega) | fail) only [Nat.reduceLT, Nat.reduceLeDiff, Nat.reduceEqDiff, ↓reduceIte, Int.reduceLT, Int.reduceLE, Int.reduceToNat, Int.reduceEq, Int.reduceNe, Nat.reduceAdd, UInt8.reduceOfNat, UInt16.reduceOfNat, UInt32.reduceOfNat, UInt64.reduceOfNat, UInt64.reduceToNat, UInt32.reduceToNat, UInt16.reduceToNat, UInt8.reduceToNat, Int.reduceAdd, Int.reduceSub, Int.reduceMul, Nat.reduceMul, Qp0, Qp1, Ql0, Qe0, f0, f4, f10, f11, f12, rd_M, rdM_some, hm1, e3, gy, y_leqT, hle, hT2]
    refine (ebad_any 1 w0 _).mono ?_
    rintro v hq ⟨⟨be2, rfl⟩, hl3⟩
    unfold errV
    simp -dsimp -implicitDefEqProofs (disch := first | omega | assumption | (simp only [Option.isSome_some, Qt0]; done) | (simp only [UInt64.reduceToNat, UInt32.reduceToNat, UInt8.reduceToNat, List.length_cons, List.length_nil, List.length_append, Int.toNat_natCast] <;> omega) | fail) only [Nat.reduceLT, Nat.reduceLeDiff, Nat.reduceEqDiff, ↓reduceIte, Int.reduceLT, Int.reduceLE, Int.reduceToNat, Int.reduceEq, Int.reduceNe, Nat.reduceAdd, UInt8.reduceOfNat, UInt16.reduceOfNat, UInt32.reduceOfNat, UInt64.reduceOfNat, UInt64.reduceToNat, UInt32.reduceToNat, UInt16.reduceToNat, UInt8.reduceToNat, Int.reduceAdd, Int.reduceSub, Int.reduceMul, Nat.reduceMul, Qp0, Qp1, Ql0, Qe0]
    exact ⟨_, PH.Le.refl _, ⟨_, _, by first | rfl | trivial, .inr ⟨hE, be2, rfl⟩⟩, hlq.trans (hl2'.trans hl3)⟩
  | false =>
    have hup : ∀ (j : Nat) (y : Ep), j < i → L[j]? = some y → ltB y.u u = true := fun j y hj hyj => by
      have h9 := leB_not.1 hle
      by_cases hjk : j = k
      · subst hjk; rw [hy] at hyj; rw [← Option.some.inj hyj]; exact h9
      · exact ltB_trans (hris j k y ⟨u2, m2⟩ (by omega) (by omega) hyj hy) h9
    have habs : ∀ y ∈ L.take i, y.u ≠ u := fun y hy => by
      obtain ⟨j, hj, he⟩ := mem_take_get hy
      exact ltB_ne (hup j y hj he)
    simp -dsimp -implicitDefEqProofs (disch := first | omega | assumption | (simp only [Option.isSome_some, Qt0]; done) | (simp only [UInt64.reduceToNat, UInt32.reduceToNat, UInt8.reduceToNat, List.length_cons, List.length_nil, List.length_append, Int.toNat_natCast] <;> omega) | fail) only [Nat.reduceLT, Nat.reduceLeDiff, Nat.reduceEqDiff, ↓reduceIte, Int.reduceLT, Int.reduceLE, Int.reduceToNat, Int.reduceEq, Int.reduceNe, Nat.reduceAdd, UInt8.reduceOfNat, UInt16.reduceOfNat, UInt32.reduceOfNat, UInt64.reduceOfNat, UInt64.reduceToNat, UInt32.reduceToNat, UInt16.reduceToNat, UInt8.reduceToNat, Int.reduceAdd, Int.reduceSub, Int.reduceMul, Nat.reduceMul, Qp0, Qp1, Ql0, Qe0, f0, f4, f10, f11, f12, rd_M, rdM_some, hm1, e3, gy, y_leqT, hle, hT2]
    have hS2 : (h2.del B).m tb = some ⟨[.map (some B)], 1⟩ := by rw [PH.del_m, if_neg hBtb]; exact hle2.m _ _ ht1
    have hS3 : (h2.del B).m xb = some ⟨[str u, .int .i64 m], 2⟩ := by rw [PH.del_m, if_neg hxB]; exact hle2.m _ _ hm1
    have hlt64 : i < 64 := by
      have := hlt habs
      rw [List.length_take] at this; omega
    refine PW_plan [0, 1, 2, 3, 4, 5, 6, 7, 8] (h2.del B) (by kernel_rfl) (by decide +kernel) (by kernel_rfl) (by kernel_rfl) (by kernel_rfl) (fun c f h hq => by simp only [thenC_panic, thenK_panic, inBlk_panic, thenN_panic, vcRet_panic] at hq) (fun w s => s.del B) ?_
    generalize hS : h2.del B = hS0 at *
    simp -dsimp -implicitDefEqProofs (disch := first | omega | assumption | (simp only [Option.isSome_some, Qt0]; done) | (simp only [UInt64.reduceToNat, UInt32.reduceToNat, UInt8.reduceToNat, List.length_cons, List.length_nil, List.length_append, Int.toNat_natCast] <;> omega) | fail) only [Nat.reduceLT, Nat.reduceLeDiff, Nat.reduceEqDiff, ↓reduceIte, Int.reduceLT, Int.reduceLE, Int.reduceToNat, Int.reduceEq, Int.reduceNe, Nat.reduceAdd, UInt8.reduceOfNat, UInt16.reduceOfNat, UInt32.reduceOfNat, UInt64.reduceOfNat, UInt64.reduceToNat, UInt32.reduceToNat, UInt16.reduceToNat, UInt8.reduceToNat, Int.reduceAdd, Int.reduceSub, Int.reduceMul, Nat.reduceMul, Qp0, Qp1, Ql0, Qe0, f0, f4, f10, f11, f12, rd_M, rdM_some, hS2, hS3]
    refine Does_update Try.underlying116 mkey hkl (mD_keys hallT) (hM1.more hle2) (fun p hp e => ?_) (fun h3 ht3 hM3 hk3 => ?_)
    · obtain ⟨y, hy, rfl⟩ := List.mem_map.1 hp
      exact habs y hy (str_inj.1 e)
    have hsub : PH.Le hS0 h3 := by
      rw [← hS]
      refine ⟨by rw [PH.del_top, ht3]; exact Nat.le_refl _, fun z k e => ?_⟩
      rw [PH.del_m] at e
      by_cases hz : z = B
      · rw [if_pos hz] at e; cases e
      · rw [if_neg hz] at e; rw [hk3 z hz]; exact e
    refine ⟨hsub.sub, ?_⟩
    have hmt : mD (L.take i) ++ [(str u, .int .i64 m)] = mD (L.take (i + 1)) := by
      unfold mD
      rw [List.take_add_one, hx]; simp
    rw [hmt] at hM3
    simp -dsimp -implicitDefEqProofs (disch := first | omega | assumption | (simp only [Option.isSome_some, Qt0]; done) | (simp only [UInt64.reduceToNat, UInt32.reduceToNat, UInt8.reduceToNat, List.length_cons, List.length_nil, List.length_append, Int.toNat_natCast] <;> omega) | fail) only [Nat.reduceLT, Nat.reduceLeDiff, Nat.reduceEqDiff, ↓reduceIte, Int.reduceLT, Int.reduceLE, Int.reduceToNat, Int.reduceEq, Int.reduceNe, Nat.reduceAdd, UInt8.reduceOfNat, UInt16.reduceOfNat, UInt32.reduceOfNat, UInt64.reduceOfNat, UInt64.reduceToNat, UInt32.reduceToNat, UInt16.reduceToNat, UInt8.reduceToNat, Int.reduceAdd, Int.reduceSub, Int.reduceMul, Nat.reduceMul, Qp0, Qp1, Ql0, Qe0, f0, f4, f10, f11, f12, rd_M, rdM_some]
    refine ⟨n - 1, _, by omega, PH.Le.refl _, i + 1, by omega, by trivial, by trivial, by trivial, by trivial, by simp, ⟨by rw [ht3]; exact hl2'.top, fun z k e => ?_⟩, by rw [hk3 tb hBtb]; exact hle2.m _ _ ht1, hM3, by omega, fun j y hj hy => ?_, fun j k y z hjk hk hy hz => ?_⟩
    · rw [hk3 z (by have := q.lt z k e; omega)]; exact hl2'.m z k e
    · by_cases hji : j = i
      · subst hji; rw [hx] at hy; rw [← Option.some.inj hy]; exact hRt
      · exact hall j y (by omega) hy
    · by_cases hki : k = i
      · subst hki
        rw [hx] at hz
        rw [← Option.some.inj hz]
        exact hup j y hjk hy
      · exact hris j k y z hjk (by omega) hy hz
end Go.Proofs.Ytdhgmifgjaedbaa


/- Walk: talk.Right. No condition. -/
namespace Go.Proofs.Ytdhgmifgjaedbaa
set_option linter.unusedVariables false
set_option linter.unusedSimpArgs false
open Go.RowKit Px Wr
theorem nil_len {α : Type} (l : List α) : (!decide ((l.length : Int) > 0)) = l.isEmpty := by cases l with
  | nil => rfl
  | cons a l => simp
theorem nil_len0 {α : Type} (l : List α) : decide ((l.length : Int) = 0) = l.isEmpty := by cases l with
  | nil => rfl
  | cons a l => simp; omega
theorem not_z (c : Int) : (!decide (¬ c = 0)) = decide (c = 0) := by by_cases h : c = 0 <;> simp [h]
theorem dec_nil' {α : Type} (l : List α) {d : Decidable (l = [])} : @decide (l = []) d = l.isEmpty := by cases l <;> simp
section
variable (w : List Wt) (v : List Int) (c t x : Int) (e : List Ep)
theorem rightM_1 : rightM ⟨1, w, v, c, t, e, x⟩ = (rightWs w && !decide ((v.length : Int) > 0) && !decide (¬ c = 0) && decide (t = 0) && decide ((e.length : Int) = 0) && decide (x = 0)) := by
  rw [nil_len, nil_len0, not_z]; unfold rightM; simp only [dec_nil']; rfl
theorem rightM_2 : rightM ⟨2, w, v, c, t, e, x⟩ = (!decide ((w.length : Int) > 0) && trim v 1099511627776 && isN c && decide (t = 0) && decide ((e.length : Int) = 0) && decide (x = 0)) := by
  rw [nil_len, nil_len0]; unfold rightM; simp only [dec_nil']; rfl
theorem rightM_3 : rightM ⟨3, w, v, c, t, e, x⟩ = (!decide ((w.length : Int) > 0) && !decide ((v.length : Int) > 0) && !decide (¬ c = 0) && isN t && decide ((e.length : Int) = 0) && decide (x = 0)) := by
  rw [nil_len, nil_len, nil_len0, not_z]; unfold rightM; simp only [dec_nil']; rfl
theorem rightM_4 : rightM ⟨4, w, v, c, t, e, x⟩ = (!decide ((w.length : Int) > 0) && !decide ((v.length : Int) > 0) && !decide (¬ c = 0) && isN t && rightE e && isN x) := by
  rw [nil_len, nil_len, not_z]; unfold rightM; simp only [dec_nil']; rfl
theorem rightM_5 {k : Int} (h1 : ¬ k = 1) (h2 : ¬ k = 2) (h3 : ¬ k = 3) (h4 : ¬ k = 4) : rightM ⟨k, w, v, c, t, e, x⟩ = false := by
  unfold rightM; simp only [h1, h2, h3, h4, if_false]
end
set_option maxRecDepth 20000 in
set_option maxHeartbeats 8000000 in
theorem right_any (w0 : World) (h : PH) (m : Ms) (p : Mp7) (hR : MsR w0 h m p) (hF : Fits m) : PCalls Try.prog w0 13 [.agg (msL m p).toArray] h fun r h' => r = .bool (rightM m) ∧ PH.Le h h' := by
  refine PCalls_body Try.func13 (by kernel_rfl) rfl _ Try.ntmps13 (by kernel_rfl) (by kernel_rfl) _ Try.results13 ?_
  obtain ⟨k, w, v, c, t, e, x⟩ := m
  obtain ⟨wp, A, B, C, ca, cb, cc⟩ := p
  obtain ⟨h1, h2, h3, h4, h5, h6, h7, h8⟩ := hR
  obtain ⟨f1, f2, f3, f4, f5⟩ := hF
  simp only at h1 h2 h3 h4 h5 h6 h7 h8 f1 f2 f3 f4 f5
  unfold msL
  simp only
  have hwl : wp.length = w.length := by rw [← h1, List.length_map]
  simp -dsimp -implicitDefEqProofs (disch := first | omega | assumption | (simp only [Option.isSome_some, Qt0]; done) | (simp only [UInt64.reduceToNat, UInt32.reduceToNat, UInt8.reduceToNat, List.length_cons, List.length_nil, List.length_append, Int.toNat_natCast] <;> omega) | fail) only [Nat.reduceLT, Nat.reduceLeDiff, Nat.reduceEqDiff, ↓reduceIte, Int.reduceLT, Int.reduceLE, Int.reduceToNat, Int.reduceEq, Int.reduceNe, Nat.reduceAdd, UInt8.reduceOfNat, UInt16.reduceOfNat, UInt32.reduceOfNat, UInt64.reduceOfNat, UInt64.reduceToNat, UInt32.reduceToNat, UInt16.reduceToNat, UInt8.reduceToNat, Int.reduceAdd, Int.reduceSub, Int.reduceMul, Nat.reduceMul, Qp0, Qp1, Ql0, Qe0]
  refine fun mb hmb => ?_
  have hle := (PH.Le.refl h).new mb ⟨[.int .i64 k, .slice A w.length ca, .slice B v.length cb, .int .i64 c, .int .i64 t, .slice C e.length cc, .int .i64 x], 7⟩ hmb
  obtain ⟨q, hq⟩ : ∃ q, h.new mb ⟨[.int .i64 k, .slice A w.length ca, .slice B v.length cb, .int .i64 c, .int .i64 t, .slice C e.length cc, .int .i64 x], 7⟩ = q := ⟨_, rfl⟩
  have hm : q.m mb = some ⟨[.int .i64 k, .slice A w.length ca, .slice B v.length cb, .int .i64 c, .int .i64 t, .slice C e.length cc, .int .i64 x], 7⟩ := by rw [← hq, PH.new_m, if_pos rfl]
  rw [hq] at hle
  simp -dsimp -implicitDefEqProofs (disch := first | omega | assumption | (simp only [Option.isSome_some, Qt0]; done) | (simp only [UInt64.reduceToNat, UInt32.reduceToNat, UInt8.reduceToNat, List.length_cons, List.length_nil, List.length_append, Int.toNat_natCast] <;> omega) | fail) only [Nat.reduceLT, Nat.reduceLeDiff, Nat.reduceEqDiff, ↓reduceIte, Int.reduceLT, Int.reduceLE, Int.reduceToNat, Int.reduceEq, Int.reduceNe, Nat.reduceAdd, UInt8.reduceOfNat, UInt16.reduceOfNat, UInt32.reduceOfNat, UInt64.reduceOfNat, UInt64.reduceToNat, UInt32.reduceToNat, UInt16.reduceToNat, UInt8.reduceToNat, Int.reduceAdd, Int.reduceSub, Int.reduceMul, Nat.reduceMul, Qp0, Qp1, Ql0, Qe0, hq]
  have hW : ∀ q', PH.Le q q' → PCalls Try.prog w0 33 [.slice A w.length ca] q' fun r h' => r = .bool (rightWs w) ∧ PH.Le q' h' := fun q' l => by
    have := writes_any w0 q' A ca wp (h3.more (hle.trans l)) (fun y hy => (h2 y hy).more (hle.trans l)) (by omega) (by omega) (fun y hy => by have := (f4 y.1 (by rw [← h1]; exact List.mem_map.2 ⟨y, hy, rfl⟩)).1; omega)
    rw [h1, hwl] at this
    exact this
  have hV := fun q' (l : PH.Le q q') => isVec_any w0 q' B cb v (h4.more (hle.trans l)) h7 (by omega)
  have hE := new_any w0 q C cc e (h5.more hle) h8 (by omega)
  have hW := Lib.hid hW
  have hV := Lib.hid hV
  have hE := Lib.hid hE
  clear h1 h2 h3 h4 h5
  clear hq
  by_cases k1 : k = 1
  · subst k1
    rw [rightM_1]
    obtain ⟨bv, hbv⟩ : ∃ b, decide ((v.length : Int) > 0) = b := ⟨_, rfl⟩
    try rw [hbv]
    obtain ⟨bc, hbc⟩ : ∃ b, decide (¬ c = 0) = b := ⟨_, rfl⟩
    try rw [hbc]
    cases bv
    rotate_left
    · simp -dsimp -implicitDefEqProofs (disch := first | omega | assumption | (simp only [Option.isSome_some, Qt0]; done) | (simp only [UInt64.reduceToNat, UInt32.reduceToNat, UInt8.reduceToNat, List.length_cons, List.length_nil, List.length_append, Int.toNat_natCast] <;> omega) | fail) only [Nat.reduceLT, Nat.reduceLeDiff, Nat.reduceEqDiff, ↓reduceIte, Int.reduceLT, Int.reduceLE, Int.reduceToNat, Int.reduceEq, Int.reduceNe, Nat.reduceAdd, UInt8.reduceOfNat, UInt16.reduceOfNat, UInt32.reduceOfNat, UInt64.reduceOfNat, UInt64.reduceToNat, UInt32.reduceToNat, UInt16.reduceToNat, UInt8.reduceToNat, Int.reduceAdd, Int.reduceSub, Int.reduceMul, Nat.reduceMul, Qp0, Qp1, Ql0, Qe0, rd_M, rdM_some, hm, hbv]
      exact ⟨_, PH.Le.refl _, by first | trivial | simp, hle⟩
    cases bc
    rotate_left
    · simp -dsimp -implicitDefEqProofs (disch := first | omega | assumption | (simp only [Option.isSome_some, Qt0]; done) | (simp only [UInt64.reduceToNat, UInt32.reduceToNat, UInt8.reduceToNat, List.length_cons, List.length_nil, List.length_append, Int.toNat_natCast] <;> omega) | fail) only [Nat.reduceLT, Nat.reduceLeDiff, Nat.reduceEqDiff, ↓reduceIte, Int.reduceLT, Int.reduceLE, Int.reduceToNat, Int.reduceEq, Int.reduceNe, Nat.reduceAdd, UInt8.reduceOfNat, UInt16.reduceOfNat, UInt32.reduceOfNat, UInt64.reduceOfNat, UInt64.reduceToNat, UInt32.reduceToNat, UInt16.reduceToNat, UInt8.reduceToNat, Int.reduceAdd, Int.reduceSub, Int.reduceMul, Nat.reduceMul, Qp0, Qp1, Ql0, Qe0, rd_M, rdM_some, hm, hbv, hbc]
      exact ⟨_, PH.Le.refl _, by first | trivial | simp, hle⟩
    simp -dsimp -implicitDefEqProofs (disch := first | omega | assumption | (simp only [Option.isSome_some, Qt0]; done) | (simp only [UInt64.reduceToNat, UInt32.reduceToNat, UInt8.reduceToNat, List.length_cons, List.length_nil, List.length_append, Int.toNat_natCast] <;> omega) | fail) only [Nat.reduceLT, Nat.reduceLeDiff, Nat.reduceEqDiff, ↓reduceIte, Int.reduceLT, Int.reduceLE, Int.reduceToNat, Int.reduceEq, Int.reduceNe, Nat.reduceAdd, UInt8.reduceOfNat, UInt16.reduceOfNat, UInt32.reduceOfNat, UInt64.reduceOfNat, UInt64.reduceToNat, UInt32.reduceToNat, UInt16.reduceToNat, UInt8.reduceToNat, Int.reduceAdd, Int.reduceSub, Int.reduceMul, Nat.reduceMul, Qp0, Qp1, Ql0, Qe0, rd_M, rdM_some, hm, hbv, hbc]
    refine hE.out.mono ?_
    rintro r q2 ⟨⟨pv, ev, rfl, hev⟩, hl2⟩
    have hm2 := hl2.m _ _ hm
    have hle2 := hle.trans hl2
    obtain ⟨bt, hbt⟩ : ∃ b, decide (t = 0) = b := ⟨_, rfl⟩
    rw [hbt]
    obtain ⟨be, hbe⟩ : ∃ b, decide ((e.length : Int) = 0) = b := ⟨_, rfl⟩
    rw [hbe]
    obtain ⟨bx, hbx⟩ : ∃ b, decide (x = 0) = b := ⟨_, rfl⟩
    rw [hbx]
    simp -dsimp -implicitDefEqProofs (disch := first | omega | assumption | (simp only [Option.isSome_some, Qt0]; done) | (simp only [UInt64.reduceToNat, UInt32.reduceToNat, UInt8.reduceToNat, List.length_cons, List.length_nil, List.length_append, Int.toNat_natCast] <;> omega) | fail) only [Nat.reduceLT, Nat.reduceLeDiff, Nat.reduceEqDiff, ↓reduceIte, Int.reduceLT, Int.reduceLE, Int.reduceToNat, Int.reduceEq, Int.reduceNe, Nat.reduceAdd, UInt8.reduceOfNat, UInt16.reduceOfNat, UInt32.reduceOfNat, UInt64.reduceOfNat, UInt64.reduceToNat, UInt32.reduceToNat, UInt16.reduceToNat, UInt8.reduceToNat, Int.reduceAdd, Int.reduceSub, Int.reduceMul, Nat.reduceMul, Qp0, Qp1, Ql0, Qe0, rd_M, rdM_some, hm2]
    refine (hW.out q2 hl2).mono ?_
    rintro r q3 ⟨rfl, hl3⟩
    have hm2 := hl3.m _ _ hm2
    have hle3 := hle2.trans hl3
    cases rightWs w
    · simp -dsimp -implicitDefEqProofs (disch := first | omega | assumption | (simp only [Option.isSome_some, Qt0]; done) | (simp only [UInt64.reduceToNat, UInt32.reduceToNat, UInt8.reduceToNat, List.length_cons, List.length_nil, List.length_append, Int.toNat_natCast] <;> omega) | fail) only [Nat.reduceLT, Nat.reduceLeDiff, Nat.reduceEqDiff, ↓reduceIte, Int.reduceLT, Int.reduceLE, Int.reduceToNat, Int.reduceEq, Int.reduceNe, Nat.reduceAdd, UInt8.reduceOfNat, UInt16.reduceOfNat, UInt32.reduceOfNat, UInt64.reduceOfNat, UInt64.reduceToNat, UInt32.reduceToNat, UInt16.reduceToNat, UInt8.reduceToNat, Int.reduceAdd, Int.reduceSub, Int.reduceMul, Nat.reduceMul, Qp0, Qp1, Ql0, Qe0, rd_M, rdM_some, hm2]
      exact ⟨_, PH.Le.refl _, by first | trivial | simp, hle3⟩
    cases bt
    · simp -dsimp -implicitDefEqProofs (disch := first | omega | assumption | (simp only [Option.isSome_some, Qt0]; done) | (simp only [UInt64.reduceToNat, UInt32.reduceToNat, UInt8.reduceToNat, List.length_cons, List.length_nil, List.length_append, Int.toNat_natCast] <;> omega) | fail) only [Nat.reduceLT, Nat.reduceLeDiff, Nat.reduceEqDiff, ↓reduceIte, Int.reduceLT, Int.reduceLE, Int.reduceToNat, Int.reduceEq, Int.reduceNe, Nat.reduceAdd, UInt8.reduceOfNat, UInt16.reduceOfNat, UInt32.reduceOfNat, UInt64.reduceOfNat, UInt64.reduceToNat, UInt32.reduceToNat, UInt16.reduceToNat, UInt8.reduceToNat, Int.reduceAdd, Int.reduceSub, Int.reduceMul, Nat.reduceMul, Qp0, Qp1, Ql0, Qe0, rd_M, rdM_some, hm2, hbt]
      exact ⟨_, PH.Le.refl _, by first | trivial | simp, hle3⟩
    cases be
    · simp -dsimp -implicitDefEqProofs (disch := first | omega | assumption | (simp only [Option.isSome_some, Qt0]; done) | (simp only [UInt64.reduceToNat, UInt32.reduceToNat, UInt8.reduceToNat, List.length_cons, List.length_nil, List.length_append, Int.toNat_natCast] <;> omega) | fail) only [Nat.reduceLT, Nat.reduceLeDiff, Nat.reduceEqDiff, ↓reduceIte, Int.reduceLT, Int.reduceLE, Int.reduceToNat, Int.reduceEq, Int.reduceNe, Nat.reduceAdd, UInt8.reduceOfNat, UInt16.reduceOfNat, UInt32.reduceOfNat, UInt64.reduceOfNat, UInt64.reduceToNat, UInt32.reduceToNat, UInt16.reduceToNat, UInt8.reduceToNat, Int.reduceAdd, Int.reduceSub, Int.reduceMul, Nat.reduceMul, Qp0, Qp1, Ql0, Qe0, rd_M, rdM_some, hm2, hbt, hbe]
      exact ⟨_, PH.Le.refl _, by first | trivial | simp, hle3⟩
    cases bx
    · simp -dsimp -implicitDefEqProofs (disch := first | omega | assumption | (simp only [Option.isSome_some, Qt0]; done) | (simp only [UInt64.reduceToNat, UInt32.reduceToNat, UInt8.reduceToNat, List.length_cons, List.length_nil, List.length_append, Int.toNat_natCast] <;> omega) | fail) only [Nat.reduceLT, Nat.reduceLeDiff, Nat.reduceEqDiff, ↓reduceIte, Int.reduceLT, Int.reduceLE, Int.reduceToNat, Int.reduceEq, Int.reduceNe, Nat.reduceAdd, UInt8.reduceOfNat, UInt16.reduceOfNat, UInt32.reduceOfNat, UInt64.reduceOfNat, UInt64.reduceToNat, UInt32.reduceToNat, UInt16.reduceToNat, UInt8.reduceToNat, Int.reduceAdd, Int.reduceSub, Int.reduceMul, Nat.reduceMul, Qp0, Qp1, Ql0, Qe0, rd_M, rdM_some, hm2, hbt, hbe, hbx]
      exact ⟨_, PH.Le.refl _, by first | trivial | simp, hle3⟩
    simp -dsimp -implicitDefEqProofs (disch := first | omega | assumption | (simp only [Option.isSome_some, Qt0]; done) | (simp only [UInt64.reduceToNat, UInt32.reduceToNat, UInt8.reduceToNat, List.length_cons, List.length_nil, List.length_append, Int.toNat_natCast] <;> omega) | fail) only [Nat.reduceLT, Nat.reduceLeDiff, Nat.reduceEqDiff, ↓reduceIte, Int.reduceLT, Int.reduceLE, Int.reduceToNat, Int.reduceEq, Int.reduceNe, Nat.reduceAdd, UInt8.reduceOfNat, UInt16.reduceOfNat, UInt32.reduceOfNat, UInt64.reduceOfNat, UInt64.reduceToNat, UInt32.reduceToNat, UInt16.reduceToNat, UInt8.reduceToNat, Int.reduceAdd, Int.reduceSub, Int.reduceMul, Nat.reduceMul, Qp0, Qp1, Ql0, Qe0, rd_M, rdM_some, hm2, hbt, hbe, hbx]
    exact ⟨_, PH.Le.refl _, by first | trivial | simp, hle3⟩
  have e1 : decide (¬ k = 1) = true := decide_eq_true k1
  have e1' : decide (k = 1) = false := decide_eq_false k1
  by_cases k2 : k = 2
  · subst k2
    rw [rightM_2]
    obtain ⟨bw, hbw⟩ : ∃ b, decide ((w.length : Int) > 0) = b := ⟨_, rfl⟩
    try rw [hbw]
    cases bw
    rotate_left
    · simp -dsimp -implicitDefEqProofs (disch := first | omega | assumption | (simp only [Option.isSome_some, Qt0]; done) | (simp only [UInt64.reduceToNat, UInt32.reduceToNat, UInt8.reduceToNat, List.length_cons, List.length_nil, List.length_append, Int.toNat_natCast] <;> omega) | fail) only [Nat.reduceLT, Nat.reduceLeDiff, Nat.reduceEqDiff, ↓reduceIte, Int.reduceLT, Int.reduceLE, Int.reduceToNat, Int.reduceEq, Int.reduceNe, Nat.reduceAdd, UInt8.reduceOfNat, UInt16.reduceOfNat, UInt32.reduceOfNat, UInt64.reduceOfNat, UInt64.reduceToNat, UInt32.reduceToNat, UInt16.reduceToNat, UInt8.reduceToNat, Int.reduceAdd, Int.reduceSub, Int.reduceMul, Nat.reduceMul, Qp0, Qp1, Ql0, Qe0, rd_M, rdM_some, hm, hbw]
      exact ⟨_, PH.Le.refl _, by first | trivial | simp, hle⟩
    simp -dsimp -implicitDefEqProofs (disch := first | omega | assumption | (simp only [Option.isSome_some, Qt0]; done) | (simp only [UInt64.reduceToNat, UInt32.reduceToNat, UInt8.reduceToNat, List.length_cons, List.length_nil, List.length_append, Int.toNat_natCast] <;> omega) | fail) only [Nat.reduceLT, Nat.reduceLeDiff, Nat.reduceEqDiff, ↓reduceIte, Int.reduceLT, Int.reduceLE, Int.reduceToNat, Int.reduceEq, Int.reduceNe, Nat.reduceAdd, UInt8.reduceOfNat, UInt16.reduceOfNat, UInt32.reduceOfNat, UInt64.reduceOfNat, UInt64.reduceToNat, UInt32.reduceToNat, UInt16.reduceToNat, UInt8.reduceToNat, Int.reduceAdd, Int.reduceSub, Int.reduceMul, Nat.reduceMul, Qp0, Qp1, Ql0, Qe0, rd_M, rdM_some, hm, hbw]
    refine hE.out.mono ?_
    rintro r q2 ⟨⟨pv, ev, rfl, hev⟩, hl2⟩
    have hm2 := hl2.m _ _ hm
    have hle2 := hle.trans hl2
    obtain ⟨bt, hbt⟩ : ∃ b, decide (t = 0) = b := ⟨_, rfl⟩
    rw [hbt]
    obtain ⟨be, hbe⟩ : ∃ b, decide ((e.length : Int) = 0) = b := ⟨_, rfl⟩
    rw [hbe]
    obtain ⟨bx, hbx⟩ : ∃ b, decide (x = 0) = b := ⟨_, rfl⟩
    rw [hbx]
    simp -dsimp -implicitDefEqProofs (disch := first | omega | assumption | (simp only [Option.isSome_some, Qt0]; done) | (simp only [UInt64.reduceToNat, UInt32.reduceToNat, UInt8.reduceToNat, List.length_cons, List.length_nil, List.length_append, Int.toNat_natCast] <;> omega) | fail) only [Nat.reduceLT, Nat.reduceLeDiff, Nat.reduceEqDiff, ↓reduceIte, Int.reduceLT, Int.reduceLE, Int.reduceToNat, Int.reduceEq, Int.reduceNe, Nat.reduceAdd, UInt8.reduceOfNat, UInt16.reduceOfNat, UInt32.reduceOfNat, UInt64.reduceOfNat, UInt64.reduceToNat, UInt32.reduceToNat, UInt16.reduceToNat, UInt8.reduceToNat, Int.reduceAdd, Int.reduceSub, Int.reduceMul, Nat.reduceMul, Qp0, Qp1, Ql0, Qe0, rd_M, rdM_some, hm2]
    refine (hV.out q2 hl2).mono ?_
    rintro r q3 ⟨rfl, hl3⟩
    have hm2 := hl3.m _ _ hm2
    have hle3 := hle2.trans hl3
    cases trim v 1099511627776
    · simp -dsimp -implicitDefEqProofs (disch := first | omega | assumption | (simp only [Option.isSome_some, Qt0]; done) | (simp only [UInt64.reduceToNat, UInt32.reduceToNat, UInt8.reduceToNat, List.length_cons, List.length_nil, List.length_append, Int.toNat_natCast] <;> omega) | fail) only [Nat.reduceLT, Nat.reduceLeDiff, Nat.reduceEqDiff, ↓reduceIte, Int.reduceLT, Int.reduceLE, Int.reduceToNat, Int.reduceEq, Int.reduceNe, Nat.reduceAdd, UInt8.reduceOfNat, UInt16.reduceOfNat, UInt32.reduceOfNat, UInt64.reduceOfNat, UInt64.reduceToNat, UInt32.reduceToNat, UInt16.reduceToNat, UInt8.reduceToNat, Int.reduceAdd, Int.reduceSub, Int.reduceMul, Nat.reduceMul, Qp0, Qp1, Ql0, Qe0, rd_M, rdM_some, hm2]
      exact ⟨_, PH.Le.refl _, by first | trivial | simp, hle3⟩
    have hN := isNum_any c w0 q3
    cases hbc : isN c
    · rw [hbc] at hN
      have hN := Lib.hid hN
      simp -dsimp -implicitDefEqProofs (disch := first | omega | assumption | (simp only [Option.isSome_some, Qt0]; done) | (simp only [UInt64.reduceToNat, UInt32.reduceToNat, UInt8.reduceToNat, List.length_cons, List.length_nil, List.length_append, Int.toNat_natCast] <;> omega) | fail) only [Nat.reduceLT, Nat.reduceLeDiff, Nat.reduceEqDiff, ↓reduceIte, Int.reduceLT, Int.reduceLE, Int.reduceToNat, Int.reduceEq, Int.reduceNe, Nat.reduceAdd, UInt8.reduceOfNat, UInt16.reduceOfNat, UInt32.reduceOfNat, UInt64.reduceOfNat, UInt64.reduceToNat, UInt32.reduceToNat, UInt16.reduceToNat, UInt8.reduceToNat, Int.reduceAdd, Int.reduceSub, Int.reduceMul, Nat.reduceMul, Qp0, Qp1, Ql0, Qe0, rd_M, rdM_some, hm2]
      refine hN.out.mono ?_
      rintro v hq ⟨rfl, hz⟩
      obtain rfl := hz.symm
      simp -dsimp -implicitDefEqProofs (disch := first | omega | assumption | (simp only [Option.isSome_some, Qt0]; done) | (simp only [UInt64.reduceToNat, UInt32.reduceToNat, UInt8.reduceToNat, List.length_cons, List.length_nil, List.length_append, Int.toNat_natCast] <;> omega) | fail) only [Nat.reduceLT, Nat.reduceLeDiff, Nat.reduceEqDiff, ↓reduceIte, Int.reduceLT, Int.reduceLE, Int.reduceToNat, Int.reduceEq, Int.reduceNe, Nat.reduceAdd, UInt8.reduceOfNat, UInt16.reduceOfNat, UInt32.reduceOfNat, UInt64.reduceOfNat, UInt64.reduceToNat, UInt32.reduceToNat, UInt16.reduceToNat, UInt8.reduceToNat, Int.reduceAdd, Int.reduceSub, Int.reduceMul, Nat.reduceMul, Qp0, Qp1, Ql0, Qe0, rd_M, rdM_some, hm2]
      exact ⟨_, PH.Le.refl _, by first | trivial | simp, hle3⟩
    rw [hbc] at hN
    have hN := Lib.hid hN
    simp -dsimp -implicitDefEqProofs (disch := first | omega | assumption | (simp only [Option.isSome_some, Qt0]; done) | (simp only [UInt64.reduceToNat, UInt32.reduceToNat, UInt8.reduceToNat, List.length_cons, List.length_nil, List.length_append, Int.toNat_natCast] <;> omega) | fail) only [Nat.reduceLT, Nat.reduceLeDiff, Nat.reduceEqDiff, ↓reduceIte, Int.reduceLT, Int.reduceLE, Int.reduceToNat, Int.reduceEq, Int.reduceNe, Nat.reduceAdd, UInt8.reduceOfNat, UInt16.reduceOfNat, UInt32.reduceOfNat, UInt64.reduceOfNat, UInt64.reduceToNat, UInt32.reduceToNat, UInt16.reduceToNat, UInt8.reduceToNat, Int.reduceAdd, Int.reduceSub, Int.reduceMul, Nat.reduceMul, Qp0, Qp1, Ql0, Qe0, rd_M, rdM_some, hm2]
    refine hN.out.mono ?_
    rintro v hq ⟨rfl, hz⟩
    obtain rfl := hz.symm
    cases bt
    · simp -dsimp -implicitDefEqProofs (disch := first | omega | assumption | (simp only [Option.isSome_some, Qt0]; done) | (simp only [UInt64.reduceToNat, UInt32.reduceToNat, UInt8.reduceToNat, List.length_cons, List.length_nil, List.length_append, Int.toNat_natCast] <;> omega) | fail) only [Nat.reduceLT, Nat.reduceLeDiff, Nat.reduceEqDiff, ↓reduceIte, Int.reduceLT, Int.reduceLE, Int.reduceToNat, Int.reduceEq, Int.reduceNe, Nat.reduceAdd, UInt8.reduceOfNat, UInt16.reduceOfNat, UInt32.reduceOfNat, UInt64.reduceOfNat, UInt64.reduceToNat, UInt32.reduceToNat, UInt16.reduceToNat, UInt8.reduceToNat, Int.reduceAdd, Int.reduceSub, Int.reduceMul, Nat.reduceMul, Qp0, Qp1, Ql0, Qe0, rd_M, rdM_some, hm2, hbt]
      exact ⟨_, PH.Le.refl _, by first | trivial | simp, hle3⟩
    cases be
    · simp -dsimp -implicitDefEqProofs (disch := first | omega | assumption | (simp only [Option.isSome_some, Qt0]; done) | (simp only [UInt64.reduceToNat, UInt32.reduceToNat, UInt8.reduceToNat, List.length_cons, List.length_nil, List.length_append, Int.toNat_natCast] <;> omega) | fail) only [Nat.reduceLT, Nat.reduceLeDiff, Nat.reduceEqDiff, ↓reduceIte, Int.reduceLT, Int.reduceLE, Int.reduceToNat, Int.reduceEq, Int.reduceNe, Nat.reduceAdd, UInt8.reduceOfNat, UInt16.reduceOfNat, UInt32.reduceOfNat, UInt64.reduceOfNat, UInt64.reduceToNat, UInt32.reduceToNat, UInt16.reduceToNat, UInt8.reduceToNat, Int.reduceAdd, Int.reduceSub, Int.reduceMul, Nat.reduceMul, Qp0, Qp1, Ql0, Qe0, rd_M, rdM_some, hm2, hbt, hbe]
      exact ⟨_, PH.Le.refl _, by first | trivial | simp, hle3⟩
    cases bx
    · simp -dsimp -implicitDefEqProofs (disch := first | omega | assumption | (simp only [Option.isSome_some, Qt0]; done) | (simp only [UInt64.reduceToNat, UInt32.reduceToNat, UInt8.reduceToNat, List.length_cons, List.length_nil, List.length_append, Int.toNat_natCast] <;> omega) | fail) only [Nat.reduceLT, Nat.reduceLeDiff, Nat.reduceEqDiff, ↓reduceIte, Int.reduceLT, Int.reduceLE, Int.reduceToNat, Int.reduceEq, Int.reduceNe, Nat.reduceAdd, UInt8.reduceOfNat, UInt16.reduceOfNat, UInt32.reduceOfNat, UInt64.reduceOfNat, UInt64.reduceToNat, UInt32.reduceToNat, UInt16.reduceToNat, UInt8.reduceToNat, Int.reduceAdd, Int.reduceSub, Int.reduceMul, Nat.reduceMul, Qp0, Qp1, Ql0, Qe0, rd_M, rdM_some, hm2, hbt, hbe, hbx]
      exact ⟨_, PH.Le.refl _, by first | trivial | simp, hle3⟩
    simp -dsimp -implicitDefEqProofs (disch := first | omega | assumption | (simp only [Option.isSome_some, Qt0]; done) | (simp only [UInt64.reduceToNat, UInt32.reduceToNat, UInt8.reduceToNat, List.length_cons, List.length_nil, List.length_append, Int.toNat_natCast] <;> omega) | fail) only [Nat.reduceLT, Nat.reduceLeDiff, Nat.reduceEqDiff, ↓reduceIte, Int.reduceLT, Int.reduceLE, Int.reduceToNat, Int.reduceEq, Int.reduceNe, Nat.reduceAdd, UInt8.reduceOfNat, UInt16.reduceOfNat, UInt32.reduceOfNat, UInt64.reduceOfNat, UInt64.reduceToNat, UInt32.reduceToNat, UInt16.reduceToNat, UInt8.reduceToNat, Int.reduceAdd, Int.reduceSub, Int.reduceMul, Nat.reduceMul, Qp0, Qp1, Ql0, Qe0, rd_M, rdM_some, hm2, hbt, hbe, hbx]
    exact ⟨_, PH.Le.refl _, by first | trivial | simp, hle3⟩
  have e2 : decide (¬ k = 2) = true := decide_eq_true k2
  have e2' : decide (k = 2) = false := decide_eq_false k2
  by_cases k4 : k = 4
  · subst k4
    rw [rightM_4]
    obtain ⟨bw, hbw⟩ : ∃ b, decide ((w.length : Int) > 0) = b := ⟨_, rfl⟩
    try rw [hbw]
    obtain ⟨bv, hbv⟩ : ∃ b, decide ((v.length : Int) > 0) = b := ⟨_, rfl⟩
    try rw [hbv]
    obtain ⟨bc, hbc⟩ : ∃ b, decide (¬ c = 0) = b := ⟨_, rfl⟩
    try rw [hbc]
    cases bw
    rotate_left
    · simp -dsimp -implicitDefEqProofs (disch := first | omega | assumption | (simp only [Option.isSome_some, Qt0]; done) | (simp only [UInt64.reduceToNat, UInt32.reduceToNat, UInt8.reduceToNat, List.length_cons, List.length_nil, List.length_append, Int.toNat_natCast] <;> omega) | fail) only [Nat.reduceLT, Nat.reduceLeDiff, Nat.reduceEqDiff, ↓reduceIte, Int.reduceLT, Int.reduceLE, Int.reduceToNat, Int.reduceEq, Int.reduceNe, Nat.reduceAdd, UInt8.reduceOfNat, UInt16.reduceOfNat, UInt32.reduceOfNat, UInt64.reduceOfNat, UInt64.reduceToNat, UInt32.reduceToNat, UInt16.reduceToNat, UInt8.reduceToNat, Int.reduceAdd, Int.reduceSub, Int.reduceMul, Nat.reduceMul, Qp0, Qp1, Ql0, Qe0, rd_M, rdM_some, hm, hbw]
      exact ⟨_, PH.Le.refl _, by first | trivial | simp, hle⟩
    cases bv
    rotate_left
    · simp -dsimp -implicitDefEqProofs (disch := first | omega | assumption | (simp only [Option.isSome_some, Qt0]; done) | (simp only [UInt64.reduceToNat, UInt32.reduceToNat, UInt8.reduceToNat, List.length_cons, List.length_nil, List.length_append, Int.toNat_natCast] <;> omega) | fail) only [Nat.reduceLT, Nat.reduceLeDiff, Nat.reduceEqDiff, ↓reduceIte, Int.reduceLT, Int.reduceLE, Int.reduceToNat, Int.reduceEq, Int.reduceNe, Nat.reduceAdd, UInt8.reduceOfNat, UInt16.reduceOfNat, UInt32.reduceOfNat, UInt64.reduceOfNat, UInt64.reduceToNat, UInt32.reduceToNat, UInt16.reduceToNat, UInt8.reduceToNat, Int.reduceAdd, Int.reduceSub, Int.reduceMul, Nat.reduceMul, Qp0, Qp1, Ql0, Qe0, rd_M, rdM_some, hm, hbw, hbv]
      exact ⟨_, PH.Le.refl _, by first | trivial | simp, hle⟩
    cases bc
    rotate_left
    · simp -dsimp -implicitDefEqProofs (disch := first | omega | assumption | (simp only [Option.isSome_some, Qt0]; done) | (simp only [UInt64.reduceToNat, UInt32.reduceToNat, UInt8.reduceToNat, List.length_cons, List.length_nil, List.length_append, Int.toNat_natCast] <;> omega) | fail) only [Nat.reduceLT, Nat.reduceLeDiff, Nat.reduceEqDiff, ↓reduceIte, Int.reduceLT, Int.reduceLE, Int.reduceToNat, Int.reduceEq, Int.reduceNe, Nat.reduceAdd, UInt8.reduceOfNat, UInt16.reduceOfNat, UInt32.reduceOfNat, UInt64.reduceOfNat, UInt64.reduceToNat, UInt32.reduceToNat, UInt16.reduceToNat, UInt8.reduceToNat, Int.reduceAdd, Int.reduceSub, Int.reduceMul, Nat.reduceMul, Qp0, Qp1, Ql0, Qe0, rd_M, rdM_some, hm, hbw, hbv, hbc]
      exact ⟨_, PH.Le.refl _, by first | trivial | simp, hle⟩
    simp -dsimp -implicitDefEqProofs (disch := first | omega | assumption | (simp only [Option.isSome_some, Qt0]; done) | (simp only [UInt64.reduceToNat, UInt32.reduceToNat, UInt8.reduceToNat, List.length_cons, List.length_nil, List.length_append, Int.toNat_natCast] <;> omega) | fail) only [Nat.reduceLT, Nat.reduceLeDiff, Nat.reduceEqDiff, ↓reduceIte, Int.reduceLT, Int.reduceLE, Int.reduceToNat, Int.reduceEq, Int.reduceNe, Nat.reduceAdd, UInt8.reduceOfNat, UInt16.reduceOfNat, UInt32.reduceOfNat, UInt64.reduceOfNat, UInt64.reduceToNat, UInt32.reduceToNat, UInt16.reduceToNat, UInt8.reduceToNat, Int.reduceAdd, Int.reduceSub, Int.reduceMul, Nat.reduceMul, Qp0, Qp1, Ql0, Qe0, rd_M, rdM_some, hm, hbw, hbv, hbc]
    refine hE.out.mono ?_
    rintro r q2 ⟨⟨pv, ev, rfl, hev⟩, hl2⟩
    have hm2 := hl2.m _ _ hm
    have hle2 := hle.trans hl2
    rcases hev with ⟨he, rfl⟩ | ⟨he, be, rfl⟩
    rotate_left
    · rw [he]
      unfold errV
      simp -dsimp -implicitDefEqProofs (disch := first | omega | assumption | (simp only [Option.isSome_some, Qt0]; done) | (simp only [UInt64.reduceToNat, UInt32.reduceToNat, UInt8.reduceToNat, List.length_cons, List.length_nil, List.length_append, Int.toNat_natCast] <;> omega) | fail) only [Nat.reduceLT, Nat.reduceLeDiff, Nat.reduceEqDiff, ↓reduceIte, Int.reduceLT, Int.reduceLE, Int.reduceToNat, Int.reduceEq, Int.reduceNe, Nat.reduceAdd, UInt8.reduceOfNat, UInt16.reduceOfNat, UInt32.reduceOfNat, UInt64.reduceOfNat, UInt64.reduceToNat, UInt32.reduceToNat, UInt16.reduceToNat, UInt8.reduceToNat, Int.reduceAdd, Int.reduceSub, Int.reduceMul, Nat.reduceMul, Qp0, Qp1, Ql0, Qe0, rd_M, rdM_some, hm2]
      exact ⟨_, PH.Le.refl _, by first | trivial | simp, hle2⟩
    rw [he]
    have hN := isNum_any x w0 q2
    have hT := fun q' => isNum_any t w0 q'
    cases hbx : isN x
    · rw [hbx] at hN
      have hN := Lib.hid hN
      simp -dsimp -implicitDefEqProofs (disch := first | omega | assumption | (simp only [Option.isSome_some, Qt0]; done) | (simp only [UInt64.reduceToNat, UInt32.reduceToNat, UInt8.reduceToNat, List.length_cons, List.length_nil, List.length_append, Int.toNat_natCast] <;> omega) | fail) only [Nat.reduceLT, Nat.reduceLeDiff, Nat.reduceEqDiff, ↓reduceIte, Int.reduceLT, Int.reduceLE, Int.reduceToNat, Int.reduceEq, Int.reduceNe, Nat.reduceAdd, UInt8.reduceOfNat, UInt16.reduceOfNat, UInt32.reduceOfNat, UInt64.reduceOfNat, UInt64.reduceToNat, UInt32.reduceToNat, UInt16.reduceToNat, UInt8.reduceToNat, Int.reduceAdd, Int.reduceSub, Int.reduceMul, Nat.reduceMul, Qp0, Qp1, Ql0, Qe0, rd_M, rdM_some, hm2]
      refine hN.out.mono ?_
      rintro v hq ⟨rfl, hz⟩
      obtain rfl := hz.symm
      simp -dsimp -implicitDefEqProofs (disch := first | omega | assumption | (simp only [Option.isSome_some, Qt0]; done) | (simp only [UInt64.reduceToNat, UInt32.reduceToNat, UInt8.reduceToNat, List.length_cons, List.length_nil, List.length_append, Int.toNat_natCast] <;> omega) | fail) only [Nat.reduceLT, Nat.reduceLeDiff, Nat.reduceEqDiff, ↓reduceIte, Int.reduceLT, Int.reduceLE, Int.reduceToNat, Int.reduceEq, Int.reduceNe, Nat.reduceAdd, UInt8.reduceOfNat, UInt16.reduceOfNat, UInt32.reduceOfNat, UInt64.reduceOfNat, UInt64.reduceToNat, UInt32.reduceToNat, UInt16.reduceToNat, UInt8.reduceToNat, Int.reduceAdd, Int.reduceSub, Int.reduceMul, Nat.reduceMul, Qp0, Qp1, Ql0, Qe0, rd_M, rdM_some, hm2]
      exact ⟨_, PH.Le.refl _, by first | trivial | simp, hle2⟩
    rw [hbx] at hN
    have hN := Lib.hid hN
    have hT := Lib.hid hT
    simp -dsimp -implicitDefEqProofs (disch := first | omega | assumption | (simp only [Option.isSome_some, Qt0]; done) | (simp only [UInt64.reduceToNat, UInt32.reduceToNat, UInt8.reduceToNat, List.length_cons, List.length_nil, List.length_append, Int.toNat_natCast] <;> omega) | fail) only [Nat.reduceLT, Nat.reduceLeDiff, Nat.reduceEqDiff, ↓reduceIte, Int.reduceLT, Int.reduceLE, Int.reduceToNat, Int.reduceEq, Int.reduceNe, Nat.reduceAdd, UInt8.reduceOfNat, UInt16.reduceOfNat, UInt32.reduceOfNat, UInt64.reduceOfNat, UInt64.reduceToNat, UInt32.reduceToNat, UInt16.reduceToNat, UInt8.reduceToNat, Int.reduceAdd, Int.reduceSub, Int.reduceMul, Nat.reduceMul, Qp0, Qp1, Ql0, Qe0, rd_M, rdM_some, hm2]
    refine hN.out.mono ?_
    rintro v hq ⟨rfl, hz⟩
    obtain rfl := hz.symm
    simp -dsimp -implicitDefEqProofs (disch := first | omega | assumption | (simp only [Option.isSome_some, Qt0]; done) | (simp only [UInt64.reduceToNat, UInt32.reduceToNat, UInt8.reduceToNat, List.length_cons, List.length_nil, List.length_append, Int.toNat_natCast] <;> omega) | fail) only [Nat.reduceLT, Nat.reduceLeDiff, Nat.reduceEqDiff, ↓reduceIte, Int.reduceLT, Int.reduceLE, Int.reduceToNat, Int.reduceEq, Int.reduceNe, Nat.reduceAdd, UInt8.reduceOfNat, UInt16.reduceOfNat, UInt32.reduceOfNat, UInt64.reduceOfNat, UInt64.reduceToNat, UInt32.reduceToNat, UInt16.reduceToNat, UInt8.reduceToNat, Int.reduceAdd, Int.reduceSub, Int.reduceMul, Nat.reduceMul, Qp0, Qp1, Ql0, Qe0, rd_M, rdM_some, hm2, List.set_cons_zero, List.set_cons_succ, List.take_zero, List.drop_succ_cons, List.drop_zero, List.drop_nil, List.nil_append, List.append_nil, List.take_succ_cons, ite_true, PH.new_new]
    refine (hT.out _).mono ?_
    rintro r q3 ⟨rfl, rfl⟩
    simp -dsimp -implicitDefEqProofs (disch := first | omega | assumption | (simp only [Option.isSome_some, Qt0]; done) | (simp only [UInt64.reduceToNat, UInt32.reduceToNat, UInt8.reduceToNat, List.length_cons, List.length_nil, List.length_append, Int.toNat_natCast] <;> omega) | fail) only [Nat.reduceLT, Nat.reduceLeDiff, Nat.reduceEqDiff, ↓reduceIte, Int.reduceLT, Int.reduceLE, Int.reduceToNat, Int.reduceEq, Int.reduceNe, Nat.reduceAdd, UInt8.reduceOfNat, UInt16.reduceOfNat, UInt32.reduceOfNat, UInt64.reduceOfNat, UInt64.reduceToNat, UInt32.reduceToNat, UInt16.reduceToNat, UInt8.reduceToNat, Int.reduceAdd, Int.reduceSub, Int.reduceMul, Nat.reduceMul, Qp0, Qp1, Ql0, Qe0]
    exact ⟨_, PH.Le.refl _, by first | trivial | simp, by first | exact hle2.new _ _ hmb | exact (hle2.new _ _ hmb).new _ _ hmb⟩
  have e4 : decide (k = 4) = false := decide_eq_false k4
  by_cases k3 : k = 3
  · subst k3
    rw [rightM_3]
    obtain ⟨bw, hbw⟩ : ∃ b, decide ((w.length : Int) > 0) = b := ⟨_, rfl⟩
    try rw [hbw]
    obtain ⟨bv, hbv⟩ : ∃ b, decide ((v.length : Int) > 0) = b := ⟨_, rfl⟩
    try rw [hbv]
    obtain ⟨bc, hbc⟩ : ∃ b, decide (¬ c = 0) = b := ⟨_, rfl⟩
    try rw [hbc]
    cases bw
    rotate_left
    · simp -dsimp -implicitDefEqProofs (disch := first | omega | assumption | (simp only [Option.isSome_some, Qt0]; done) | (simp only [UInt64.reduceToNat, UInt32.reduceToNat, UInt8.reduceToNat, List.length_cons, List.length_nil, List.length_append, Int.toNat_natCast] <;> omega) | fail) only [Nat.reduceLT, Nat.reduceLeDiff, Nat.reduceEqDiff, ↓reduceIte, Int.reduceLT, Int.reduceLE, Int.reduceToNat, Int.reduceEq, Int.reduceNe, Nat.reduceAdd, UInt8.reduceOfNat, UInt16.reduceOfNat, UInt32.reduceOfNat, UInt64.reduceOfNat, UInt64.reduceToNat, UInt32.reduceToNat, UInt16.reduceToNat, UInt8.reduceToNat, Int.reduceAdd, Int.reduceSub, Int.reduceMul, Nat.reduceMul, Qp0, Qp1, Ql0, Qe0, rd_M, rdM_some, hm, hbw]
      exact ⟨_, PH.Le.refl _, by first | trivial | simp, hle⟩
    cases bv
    rotate_left
    · simp -dsimp -implicitDefEqProofs (disch := first | omega | assumption | (simp only [Option.isSome_some, Qt0]; done) | (simp only [UInt64.reduceToNat, UInt32.reduceToNat, UInt8.reduceToNat, List.length_cons, List.length_nil, List.length_append, Int.toNat_natCast] <;> omega) | fail) only [Nat.reduceLT, Nat.reduceLeDiff, Nat.reduceEqDiff, ↓reduceIte, Int.reduceLT, Int.reduceLE, Int.reduceToNat, Int.reduceEq, Int.reduceNe, Nat.reduceAdd, UInt8.reduceOfNat, UInt16.reduceOfNat, UInt32.reduceOfNat, UInt64.reduceOfNat, UInt64.reduceToNat, UInt32.reduceToNat, UInt16.reduceToNat, UInt8.reduceToNat, Int.reduceAdd, Int.reduceSub, Int.reduceMul, Nat.reduceMul, Qp0, Qp1, Ql0, Qe0, rd_M, rdM_some, hm, hbw, hbv]
      exact ⟨_, PH.Le.refl _, by first | trivial | simp, hle⟩
    cases bc
    rotate_left
    · simp -dsimp -implicitDefEqProofs (disch := first | omega | assumption | (simp only [Option.isSome_some, Qt0]; done) | (simp only [UInt64.reduceToNat, UInt32.reduceToNat, UInt8.reduceToNat, List.length_cons, List.length_nil, List.length_append, Int.toNat_natCast] <;> omega) | fail) only [Nat.reduceLT, Nat.reduceLeDiff, Nat.reduceEqDiff, ↓reduceIte, Int.reduceLT, Int.reduceLE, Int.reduceToNat, Int.reduceEq, Int.reduceNe, Nat.reduceAdd, UInt8.reduceOfNat, UInt16.reduceOfNat, UInt32.reduceOfNat, UInt64.reduceOfNat, UInt64.reduceToNat, UInt32.reduceToNat, UInt16.reduceToNat, UInt8.reduceToNat, Int.reduceAdd, Int.reduceSub, Int.reduceMul, Nat.reduceMul, Qp0, Qp1, Ql0, Qe0, rd_M, rdM_some, hm, hbw, hbv, hbc]
      exact ⟨_, PH.Le.refl _, by first | trivial | simp, hle⟩
    simp -dsimp -implicitDefEqProofs (disch := first | omega | assumption | (simp only [Option.isSome_some, Qt0]; done) | (simp only [UInt64.reduceToNat, UInt32.reduceToNat, UInt8.reduceToNat, List.length_cons, List.length_nil, List.length_append, Int.toNat_natCast] <;> omega) | fail) only [Nat.reduceLT, Nat.reduceLeDiff, Nat.reduceEqDiff, ↓reduceIte, Int.reduceLT, Int.reduceLE, Int.reduceToNat, Int.reduceEq, Int.reduceNe, Nat.reduceAdd, UInt8.reduceOfNat, UInt16.reduceOfNat, UInt32.reduceOfNat, UInt64.reduceOfNat, UInt64.reduceToNat, UInt32.reduceToNat, UInt16.reduceToNat, UInt8.reduceToNat, Int.reduceAdd, Int.reduceSub, Int.reduceMul, Nat.reduceMul, Qp0, Qp1, Ql0, Qe0, rd_M, rdM_some, hm, hbw, hbv, hbc]
    refine hE.out.mono ?_
    rintro r q2 ⟨⟨pv, ev, rfl, hev⟩, hl2⟩
    have hm2 := hl2.m _ _ hm
    have hle2 := hle.trans hl2
    obtain ⟨be, hbe⟩ : ∃ b, decide ((e.length : Int) = 0) = b := ⟨_, rfl⟩
    rw [hbe]
    obtain ⟨bx, hbx⟩ : ∃ b, decide (x = 0) = b := ⟨_, rfl⟩
    rw [hbx]
    cases be
    · simp -dsimp -implicitDefEqProofs (disch := first | omega | assumption | (simp only [Option.isSome_some, Qt0]; done) | (simp only [UInt64.reduceToNat, UInt32.reduceToNat, UInt8.reduceToNat, List.length_cons, List.length_nil, List.length_append, Int.toNat_natCast] <;> omega) | fail) only [Nat.reduceLT, Nat.reduceLeDiff, Nat.reduceEqDiff, ↓reduceIte, Int.reduceLT, Int.reduceLE, Int.reduceToNat, Int.reduceEq, Int.reduceNe, Nat.reduceAdd, UInt8.reduceOfNat, UInt16.reduceOfNat, UInt32.reduceOfNat, UInt64.reduceOfNat, UInt64.reduceToNat, UInt32.reduceToNat, UInt16.reduceToNat, UInt8.reduceToNat, Int.reduceAdd, Int.reduceSub, Int.reduceMul, Nat.reduceMul, Qp0, Qp1, Ql0, Qe0, rd_M, rdM_some, hm2, hbe]
      exact ⟨_, PH.Le.refl _, by first | trivial | simp, hle2⟩
    cases bx
    · simp -dsimp -implicitDefEqProofs (disch := first | omega | assumption | (simp only [Option.isSome_some, Qt0]; done) | (simp only [UInt64.reduceToNat, UInt32.reduceToNat, UInt8.reduceToNat, List.length_cons, List.length_nil, List.length_append, Int.toNat_natCast] <;> omega) | fail) only [Nat.reduceLT, Nat.reduceLeDiff, Nat.reduceEqDiff, ↓reduceIte, Int.reduceLT, Int.reduceLE, Int.reduceToNat, Int.reduceEq, Int.reduceNe, Nat.reduceAdd, UInt8.reduceOfNat, UInt16.reduceOfNat, UInt32.reduceOfNat, UInt64.reduceOfNat, UInt64.reduceToNat, UInt32.reduceToNat, UInt16.reduceToNat, UInt8.reduceToNat, Int.reduceAdd, Int.reduceSub, Int.reduceMul, Nat.reduceMul, Qp0, Qp1, Ql0, Qe0, rd_M, rdM_some, hm2, hbe, hbx]
      exact ⟨_, PH.Le.refl _, by first | trivial | simp, hle2⟩
    have hT := Lib.hid (isNum_any t w0 q2)
    simp -dsimp -implicitDefEqProofs (disch := first | omega | assumption | (simp only [Option.isSome_some, Qt0]; done) | (simp only [UInt64.reduceToNat, UInt32.reduceToNat, UInt8.reduceToNat, List.length_cons, List.length_nil, List.length_append, Int.toNat_natCast] <;> omega) | fail) only [Nat.reduceLT, Nat.reduceLeDiff, Nat.reduceEqDiff, ↓reduceIte, Int.reduceLT, Int.reduceLE, Int.reduceToNat, Int.reduceEq, Int.reduceNe, Nat.reduceAdd, UInt8.reduceOfNat, UInt16.reduceOfNat, UInt32.reduceOfNat, UInt64.reduceOfNat, UInt64.reduceToNat, UInt32.reduceToNat, UInt16.reduceToNat, UInt8.reduceToNat, Int.reduceAdd, Int.reduceSub, Int.reduceMul, Nat.reduceMul, Qp0, Qp1, Ql0, Qe0, rd_M, rdM_some, hm2, hbe, hbx]
    refine hT.out.mono ?_
    rintro v hq ⟨rfl, hz⟩
    obtain rfl := hz.symm
    simp -dsimp -implicitDefEqProofs (disch := first | omega | assumption | (simp only [Option.isSome_some, Qt0]; done) | (simp only [UInt64.reduceToNat, UInt32.reduceToNat, UInt8.reduceToNat, List.length_cons, List.length_nil, List.length_append, Int.toNat_natCast] <;> omega) | fail) only [Nat.reduceLT, Nat.reduceLeDiff, Nat.reduceEqDiff, ↓reduceIte, Int.reduceLT, Int.reduceLE, Int.reduceToNat, Int.reduceEq, Int.reduceNe, Nat.reduceAdd, UInt8.reduceOfNat, UInt16.reduceOfNat, UInt32.reduceOfNat, UInt64.reduceOfNat, UInt64.reduceToNat, UInt32.reduceToNat, UInt16.reduceToNat, UInt8.reduceToNat, Int.reduceAdd, Int.reduceSub, Int.reduceMul, Nat.reduceMul, Qp0, Qp1, Ql0, Qe0, rd_M, rdM_some, hm2]
    exact ⟨_, PH.Le.refl _, by first | trivial | simp, hle2⟩
  have e3 : decide (k = 3) = false := decide_eq_false k3
  rw [rightM_5 w v c t x e k1 k2 k3 k4]
  obtain ⟨bw, hbw⟩ : ∃ b, decide ((w.length : Int) > 0) = b := ⟨_, rfl⟩
  try rw [hbw]
  obtain ⟨bv, hbv⟩ : ∃ b, decide ((v.length : Int) > 0) = b := ⟨_, rfl⟩
  try rw [hbv]
  obtain ⟨bc, hbc⟩ : ∃ b, decide (¬ c = 0) = b := ⟨_, rfl⟩
  try rw [hbc]
  cases bw
  rotate_left
  · simp -dsimp -implicitDefEqProofs (disch := first | omega | assumption | (simp only [Option.isSome_some, Qt0]; done) | (simp only [UInt64.reduceToNat, UInt32.reduceToNat, UInt8.reduceToNat, List.length_cons, List.length_nil, List.length_append, Int.toNat_natCast] <;> omega) | fail) only [Nat.reduceLT, Nat.reduceLeDiff, Nat.reduceEqDiff, ↓reduceIte, Int.reduceLT, Int.reduceLE, Int.reduceToNat, Int.reduceEq, Int.reduceNe, Nat.reduceAdd, UInt8.reduceOfNat, UInt16.reduceOfNat, UInt32.reduceOfNat, UInt64.reduceOfNat, UInt64.reduceToNat, UInt32.reduceToNat, UInt16.reduceToNat, UInt8.reduceToNat, Int.reduceAdd, Int.reduceSub, Int.reduceMul, Nat.reduceMul, Qp0, Qp1, Ql0, Qe0, rd_M, rdM_some, hm, e1, e2, hbw]
    exact ⟨_, PH.Le.refl _, by first | trivial | simp, hle⟩
  cases bv
  rotate_left
  · simp -dsimp -implicitDefEqProofs (disch := first | omega | assumption | (simp only [Option.isSome_some, Qt0]; done) | (simp only [UInt64.reduceToNat, UInt32.reduceToNat, UInt8.reduceToNat, List.length_cons, List.length_nil, List.length_append, Int.toNat_natCast] <;> omega) | fail) only [Nat.reduceLT, Nat.reduceLeDiff, Nat.reduceEqDiff, ↓reduceIte, Int.reduceLT, Int.reduceLE, Int.reduceToNat, Int.reduceEq, Int.reduceNe, Nat.reduceAdd, UInt8.reduceOfNat, UInt16.reduceOfNat, UInt32.reduceOfNat, UInt64.reduceOfNat, UInt64.reduceToNat, UInt32.reduceToNat, UInt16.reduceToNat, UInt8.reduceToNat, Int.reduceAdd, Int.reduceSub, Int.reduceMul, Nat.reduceMul, Qp0, Qp1, Ql0, Qe0, rd_M, rdM_some, hm, e1, e2, hbw, hbv]
    exact ⟨_, PH.Le.refl _, by first | trivial | simp, hle⟩
  cases bc
  rotate_left
  · simp -dsimp -implicitDefEqProofs (disch := first | omega | assumption | (simp only [Option.isSome_some, Qt0]; done) | (simp only [UInt64.reduceToNat, UInt32.reduceToNat, UInt8.reduceToNat, List.length_cons, List.length_nil, List.length_append, Int.toNat_natCast] <;> omega) | fail) only [Nat.reduceLT, Nat.reduceLeDiff, Nat.reduceEqDiff, ↓reduceIte, Int.reduceLT, Int.reduceLE, Int.reduceToNat, Int.reduceEq, Int.reduceNe, Nat.reduceAdd, UInt8.reduceOfNat, UInt16.reduceOfNat, UInt32.reduceOfNat, UInt64.reduceOfNat, UInt64.reduceToNat, UInt32.reduceToNat, UInt16.reduceToNat, UInt8.reduceToNat, Int.reduceAdd, Int.reduceSub, Int.reduceMul, Nat.reduceMul, Qp0, Qp1, Ql0, Qe0, rd_M, rdM_some, hm, e1, e2, hbw, hbv, hbc]
    exact ⟨_, PH.Le.refl _, by first | trivial | simp, hle⟩
  simp -dsimp -implicitDefEqProofs (disch := first | omega | assumption | (simp only [Option.isSome_some, Qt0]; done) | (simp only [UInt64.reduceToNat, UInt32.reduceToNat, UInt8.reduceToNat, List.length_cons, List.length_nil, List.length_append, Int.toNat_natCast] <;> omega) | fail) only [Nat.reduceLT, Nat.reduceLeDiff, Nat.reduceEqDiff, ↓reduceIte, Int.reduceLT, Int.reduceLE, Int.reduceToNat, Int.reduceEq, Int.reduceNe, Nat.reduceAdd, UInt8.reduceOfNat, UInt16.reduceOfNat, UInt32.reduceOfNat, UInt64.reduceOfNat, UInt64.reduceToNat, UInt32.reduceToNat, UInt16.reduceToNat, UInt8.reduceToNat, Int.reduceAdd, Int.reduceSub, Int.reduceMul, Nat.reduceMul, Qp0, Qp1, Ql0, Qe0, rd_M, rdM_some, hm, e1, e2, hbw, hbv, hbc]
  refine hE.out.mono ?_
  rintro r q2 ⟨⟨pv, ev, rfl, hev⟩, hl2⟩
  have hm2 := hl2.m _ _ hm
  have hle2 := hle.trans hl2
  simp -dsimp -implicitDefEqProofs (disch := first | omega | assumption | (simp only [Option.isSome_some, Qt0]; done) | (simp only [UInt64.reduceToNat, UInt32.reduceToNat, UInt8.reduceToNat, List.length_cons, List.length_nil, List.length_append, Int.toNat_natCast] <;> omega) | fail) only [Nat.reduceLT, Nat.reduceLeDiff, Nat.reduceEqDiff, ↓reduceIte, Int.reduceLT, Int.reduceLE, Int.reduceToNat, Int.reduceEq, Int.reduceNe, Nat.reduceAdd, UInt8.reduceOfNat, UInt16.reduceOfNat, UInt32.reduceOfNat, UInt64.reduceOfNat, UInt64.reduceToNat, UInt32.reduceToNat, UInt16.reduceToNat, UInt8.reduceToNat, Int.reduceAdd, Int.reduceSub, Int.reduceMul, Nat.reduceMul, Qp0, Qp1, Ql0, Qe0, rd_M, rdM_some, hm2, e1', e2', e3, e4]
  exact ⟨_, PH.Le.refl _, by first | trivial | simp, hle2⟩
end Go.Proofs.Ytdhgmifgjaedbaa

