/- Lists of ops, as they come in; great. No condition. -/
import Derived.Test.YtcjojkhieocehaaDoorBk8
import Derived.Test.YtcjojkhieocehaaDoorPh
namespace Go.Proofs.YtcjojkhieocehaaDoor
set_option linter.unusedVariables false
set_option linter.unusedSimpArgs false
open Go.RowKit Px
abbrev On := Int × List UInt8 × Int × Int
def opL (p : On) : List Value := [.int .i64 p.1, str p.2.1, .int .i64 p.2.2.1, .int .i64 p.2.2.2]
def opsL (l : List On) : List Value := l.flatMap opL
theorem opsL_length (l : List On) : (opsL l).length = l.length * 4 := by
  induction l with
  | nil => rfl
  | cons p l ih => rw [opsL, List.flatMap_cons, List.length_append, ← opsL, ih, List.length_cons, Nat.add_mul]; show 4 + _ = _; omega
theorem opsL_chunk : ∀ (l : List On) (i : Nat) (p : On), l[i]? = some p → ((opsL l).drop (i * 4)).take 4 = opL p
  | [], i, p, h => by simp at h
  | q :: l, 0, p, h => by
    simp at h; subst h
    rw [opsL, List.flatMap_cons, Nat.zero_mul, List.drop_zero]
    exact List.take_left (l₁ := opL q)
  | q :: l, i + 1, p, h => by
    have ih := opsL_chunk l i p (by simpa using h)
    have hl : (opL q).length = 4 := rfl
    rw [← ih, opsL, List.flatMap_cons, show (i + 1) * 4 = (opL q).length + i * 4 by rw [hl, Nat.add_mul]; omega, ← List.drop_drop, List.drop_left]
    rfl
theorem opsL_get (l : List On) (i : Nat) (p : On) (hp : l[i]? = some p) (j : Nat) (hj : j < 4) : (opsL l)[i * 4 + j]? = (opL p)[j]? := by
  rw [← opsL_chunk l i p hp, List.getElem?_take_of_lt hj, List.getElem?_drop]
set_option maxRecDepth 20000 in
set_option maxHeartbeats 2000000 in
theorem great_any (w0 : World) (h : PH) (A : Option Addr) (c : Nat) (l : List On) (hr : Rv w0 h A (opsL l)) (hc : l.length ≤ c) : PCalls Tryd.prog w0 8 [.slice A l.length c] h fun r h' => (r = .bool true ∨ (r = .bool false ∧ l.length ≤ 300 ∧ ∀ p ∈ l, p.2.1.length ≤ 3000)) ∧ h' = h := by
  refine PCalls_low fun hl => ?_
  refine PCalls_body Tryd.func8 (by kernel_rfl) rfl _ Tryd.ntmps8 (by kernel_rfl) (by kernel_rfl) _ Tryd.results8 ?_
  simp -dsimp -implicitDefEqProofs (disch := first | omega | assumption | (simp only [Option.isSome_some, Qt0]; done) | (simp only [UInt64.reduceToNat, UInt32.reduceToNat, UInt8.reduceToNat, List.length_cons, List.length_nil, List.length_append, Int.toNat_natCast] <;> omega) | fail) only [Nat.reduceLT, Nat.reduceLeDiff, Nat.reduceEqDiff, ↓reduceIte, Int.reduceLT, Int.reduceLE, Int.reduceToNat, Int.reduceEq, Int.reduceNe, Nat.reduceAdd, UInt8.reduceOfNat, UInt16.reduceOfNat, UInt32.reduceOfNat, UInt64.reduceOfNat, UInt64.reduceToNat, UInt32.reduceToNat, UInt16.reduceToNat, UInt8.reduceToNat, Int.reduceAdd, Int.reduceSub, Int.reduceMul, Nat.reduceMul, Qp0, Ql0, Qe0]
  refine PW_loop (fun n f h' => ∃ i : Nat, n + i = l.length ∧ f 0 = some (.slice A l.length c) ∧ f 5 = some (.int .i64 l.length) ∧ f 6 = some (.int .i64 i) ∧ h' = h ∧ i ≤ 300 ∧ ∀ p ∈ l.take i, p.2.1.length ≤ 3000) (by kernel_rfl) l.length ⟨0, by omega, ?_, ?_, ?_, rfl, by omega, by simp⟩ ?_
  · simp -dsimp -implicitDefEqProofs (disch := first | omega | assumption | (simp only [Option.isSome_some, Qt0]; done) | (simp only [UInt64.reduceToNat, UInt32.reduceToNat, UInt8.reduceToNat, List.length_cons, List.length_nil, List.length_append, Int.toNat_natCast] <;> omega) | fail) only [Nat.reduceLT, Nat.reduceLeDiff, Nat.reduceEqDiff, ↓reduceIte, Int.reduceLT, Int.reduceLE, Int.reduceToNat, Int.reduceEq, Int.reduceNe, Nat.reduceAdd, UInt8.reduceOfNat, UInt16.reduceOfNat, UInt32.reduceOfNat, UInt64.reduceOfNat, UInt64.reduceToNat, UInt32.reduceToNat, UInt16.reduceToNat, UInt8.reduceToNat, Int.reduceAdd, Int.reduceSub, Int.reduceMul, Nat.reduceMul, Qp0, Ql0, Qe0]
  · simp -dsimp -implicitDefEqProofs (disch := first | omega | assumption | (simp only [Option.isSome_some, Qt0]; done) | (simp only [UInt64.reduceToNat, UInt32.reduceToNat, UInt8.reduceToNat, List.length_cons, List.length_nil, List.length_append, Int.toNat_natCast] <;> omega) | fail) only [Nat.reduceLT, Nat.reduceLeDiff, Nat.reduceEqDiff, ↓reduceIte, Int.reduceLT, Int.reduceLE, Int.reduceToNat, Int.reduceEq, Int.reduceNe, Nat.reduceAdd, UInt8.reduceOfNat, UInt16.reduceOfNat, UInt32.reduceOfNat, UInt64.reduceOfNat, UInt64.reduceToNat, UInt32.reduceToNat, UInt16.reduceToNat, UInt8.reduceToNat, Int.reduceAdd, Int.reduceSub, Int.reduceMul, Nat.reduceMul, Qp0, Ql0, Qe0]
  · simp -dsimp -implicitDefEqProofs (disch := first | omega | assumption | (simp only [Option.isSome_some, Qt0]; done) | (simp only [UInt64.reduceToNat, UInt32.reduceToNat, UInt8.reduceToNat, List.length_cons, List.length_nil, List.length_append, Int.toNat_natCast] <;> omega) | fail) only [Nat.reduceLT, Nat.reduceLeDiff, Nat.reduceEqDiff, ↓reduceIte, Int.reduceLT, Int.reduceLE, Int.reduceToNat, Int.reduceEq, Int.reduceNe, Nat.reduceAdd, UInt8.reduceOfNat, UInt16.reduceOfNat, UInt32.reduceOfNat, UInt64.reduceOfNat, UInt64.reduceToNat, UInt32.reduceToNat, UInt16.reduceToNat, UInt8.reduceToNat, Int.reduceAdd, Int.reduceSub, Int.reduceMul, Nat.reduceMul, Qp0, Ql0, Qe0]
    try rfl
  rintro n f h' ⟨i, hni, f0, f5, f6, rfl, hi3, hsm⟩
  by_cases hi : i < l.length
  · have e1 : decide ((i : Int) < (l.length : Int)) = true := decide_eq_true (by omega)
    obtain ⟨p, hp⟩ : ∃ p, l[i]? = some p := ⟨_, List.getElem?_eq_getElem hi⟩
    obtain ⟨b, o, rfl⟩ := hr.addr (by rw [opsL_length]; omega)
    have q1 : rdM w0 (h'.m b) b (o + i * 4 + 1) = some (str p.2.1) := by rw [Nat.add_assoc]; exact hr.get hl (j := i * 4 + 1) (opsL_get l i p hp 1 (by omega))
    by_cases h3 : 300 ≤ i
    · have e2 : decide ((i : Int) ≥ 300) = true := decide_eq_true (by omega)
      simp -dsimp -implicitDefEqProofs (disch := first | omega | assumption | (simp only [Option.isSome_some, Qt0]; done) | (simp only [UInt64.reduceToNat, UInt32.reduceToNat, UInt8.reduceToNat, List.length_cons, List.length_nil, List.length_append, Int.toNat_natCast] <;> omega) | fail) only [Nat.reduceLT, Nat.reduceLeDiff, Nat.reduceEqDiff, ↓reduceIte, Int.reduceLT, Int.reduceLE, Int.reduceToNat, Int.reduceEq, Int.reduceNe, Nat.reduceAdd, UInt8.reduceOfNat, UInt16.reduceOfNat, UInt32.reduceOfNat, UInt64.reduceOfNat, UInt64.reduceToNat, UInt32.reduceToNat, UInt16.reduceToNat, UInt8.reduceToNat, Int.reduceAdd, Int.reduceSub, Int.reduceMul, Nat.reduceMul, Qp0, Ql0, Qe0, f0, f5, f6, e1, e2]
      exact ⟨_, PH.Le.refl _, .inl (by first | rfl | trivial), rfl⟩
    · have e2 : decide ((i : Int) ≥ 300) = false := decide_eq_false (by omega)
      by_cases hlong : 3000 < p.2.1.length
      · have e3 : decide ((p.2.1.length : Int) > 3000) = true := decide_eq_true (by omega)
        simp -dsimp -implicitDefEqProofs (disch := first | omega | assumption | (simp only [Option.isSome_some, Qt0]; done) | (simp only [UInt64.reduceToNat, UInt32.reduceToNat, UInt8.reduceToNat, List.length_cons, List.length_nil, List.length_append, Int.toNat_natCast] <;> omega) | fail) only [Nat.reduceLT, Nat.reduceLeDiff, Nat.reduceEqDiff, ↓reduceIte, Int.reduceLT, Int.reduceLE, Int.reduceToNat, Int.reduceEq, Int.reduceNe, Nat.reduceAdd, UInt8.reduceOfNat, UInt16.reduceOfNat, UInt32.reduceOfNat, UInt64.reduceOfNat, UInt64.reduceToNat, UInt32.reduceToNat, UInt16.reduceToNat, UInt8.reduceToNat, Int.reduceAdd, Int.reduceSub, Int.reduceMul, Nat.reduceMul, Qp0, Ql0, Qe0, f0, f5, f6, e1, e2, e3, rd_M, q1]
        exact ⟨_, PH.Le.refl _, .inl (by first | rfl | trivial), rfl⟩
      · have e3 : decide ((p.2.1.length : Int) > 3000) = false := decide_eq_false (by omega)
        simp -dsimp -implicitDefEqProofs (disch := first | omega | assumption | (simp only [Option.isSome_some, Qt0]; done) | (simp only [UInt64.reduceToNat, UInt32.reduceToNat, UInt8.reduceToNat, List.length_cons, List.length_nil, List.length_append, Int.toNat_natCast] <;> omega) | fail) only [Nat.reduceLT, Nat.reduceLeDiff, Nat.reduceEqDiff, ↓reduceIte, Int.reduceLT, Int.reduceLE, Int.reduceToNat, Int.reduceEq, Int.reduceNe, Nat.reduceAdd, UInt8.reduceOfNat, UInt16.reduceOfNat, UInt32.reduceOfNat, UInt64.reduceOfNat, UInt64.reduceToNat, UInt32.reduceToNat, UInt16.reduceToNat, UInt8.reduceToNat, Int.reduceAdd, Int.reduceSub, Int.reduceMul, Nat.reduceMul, Qp0, Ql0, Qe0, f0, f5, f6, e1, e2, e3, rd_M, q1]
        refine ⟨n - 1, _, by omega, PH.Le.refl _, i + 1, by omega, by trivial, by trivial, by simp, rfl, by omega, fun q hq => ?_⟩
        rw [List.take_add_one, hp] at hq
        rcases List.mem_append.1 hq with hq | hq
        · exact hsm q hq
        · simp only [Option.toList_some, List.mem_singleton] at hq
          subst hq; omega
  · have e1 : decide ((i : Int) < (l.length : Int)) = false := decide_eq_false (by omega)
    rw [List.take_of_length_le (by omega)] at hsm
    simp -dsimp -implicitDefEqProofs (disch := first | omega | assumption | (simp only [Option.isSome_some, Qt0]; done) | (simp only [UInt64.reduceToNat, UInt32.reduceToNat, UInt8.reduceToNat, List.length_cons, List.length_nil, List.length_append, Int.toNat_natCast] <;> omega) | fail) only [Nat.reduceLT, Nat.reduceLeDiff, Nat.reduceEqDiff, ↓reduceIte, Int.reduceLT, Int.reduceLE, Int.reduceToNat, Int.reduceEq, Int.reduceNe, Nat.reduceAdd, UInt8.reduceOfNat, UInt16.reduceOfNat, UInt32.reduceOfNat, UInt64.reduceOfNat, UInt64.reduceToNat, UInt32.reduceToNat, UInt16.reduceToNat, UInt8.reduceToNat, Int.reduceAdd, Int.reduceSub, Int.reduceMul, Nat.reduceMul, Qp0, Ql0, Qe0, f0, f5, f6, e1]
    exact ⟨_, PH.Le.refl _, .inr ⟨by first | rfl | trivial, by omega, hsm⟩, rfl⟩
end Go.Proofs.YtcjojkhieocehaaDoor
