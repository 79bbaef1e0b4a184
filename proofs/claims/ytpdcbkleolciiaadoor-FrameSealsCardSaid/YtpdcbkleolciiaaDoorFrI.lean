/- Walk of frame.Find. -/
import Derived.Test.YtpdcbkleolciiaaDoorFrA
import Derived.Lib.Bytealg
namespace Go.Proofs.YtpdcbkleolciiaaDoor
set_option linter.unusedVariables false
set_option linter.unusedSimpArgs false
open Go.RowKit Px
theorem ib_any (s : List UInt8) (c : UInt8) (w0 : World) (h : PH) : PCalls Tryd.prog w0 34 [str s, u8 c] h fun r h' => r = .int .i64 (Lib.indexByte s c) ∧ h' = h := by
  refine PCalls_value _ (fun w => ?_) ⟨rfl, rfl⟩
  rw [@run_callFunc_extern Tryd.prog 34 _ Extern.BytealgIndexByte.indexByte Tryd.func34 (by kernel_rfl) (by kernel_rfl) (by kernel_rfl) (by kernel_rfl)]
  have := Lib.run_indexByteString (P := Tryd.prog) ⟨s.toArray⟩ (c.toNat : Int) w
  unfold str u8
  rw [this]
  simp
set_option maxRecDepth 20000 in
theorem ib1_any (s : List UInt8) (c : UInt8) (w0 : World) (h : PH) : PCalls Tryd.prog w0 28 [str s, u8 c] h fun r h' => r = .int .i64 (Lib.indexByte s c) ∧ h' = h := by
  refine PCalls_body Tryd.func28 (by kernel_rfl) rfl _ Tryd.ntmps28 (by kernel_rfl) (by kernel_rfl) _ Tryd.results28 ?_
  have hI := Lib.hid (ib_any s c w0 h)
  simp -dsimp -implicitDefEqProofs (disch := first | omega | assumption | (simp only [Option.isSome_some, Qt0]; done) | (simp only [UInt64.reduceToNat, UInt32.reduceToNat, UInt8.reduceToNat, List.length_cons, List.length_nil, List.length_append, Int.toNat_natCast] <;> omega)) only [Nat.reduceLT, Nat.reduceLeDiff, Nat.reduceEqDiff, ↓reduceIte, Int.reduceLT, Int.reduceLE, Int.reduceToNat, Int.reduceEq, Int.reduceNe, Nat.reduceAdd, UInt8.reduceOfNat, UInt16.reduceOfNat, UInt32.reduceOfNat, UInt64.reduceOfNat, UInt64.reduceToNat, UInt32.reduceToNat, UInt16.reduceToNat, UInt8.reduceToNat, Int.reduceAdd, Int.reduceSub, Int.reduceMul, Nat.reduceMul, Qp0, Ql0, Qe0]
  refine hI.out.mono ?_
  rintro v hz ⟨rfl, rfl⟩
  simp -dsimp -implicitDefEqProofs (disch := first | omega | assumption | (simp only [Option.isSome_some, Qt0]; done) | (simp only [UInt64.reduceToNat, UInt32.reduceToNat, UInt8.reduceToNat, List.length_cons, List.length_nil, List.length_append, Int.toNat_natCast] <;> omega)) only [Nat.reduceLT, Nat.reduceLeDiff, Nat.reduceEqDiff, ↓reduceIte, Int.reduceLT, Int.reduceLE, Int.reduceToNat, Int.reduceEq, Int.reduceNe, Nat.reduceAdd, UInt8.reduceOfNat, UInt16.reduceOfNat, UInt32.reduceOfNat, UInt64.reduceOfNat, UInt64.reduceToNat, UInt32.reduceToNat, UInt16.reduceToNat, UInt8.reduceToNat, Int.reduceAdd, Int.reduceSub, Int.reduceMul, Nat.reduceMul, Qp0, Ql0, Qe0]
  exact ⟨_, PH.Le.refl _, by trivial, rfl⟩
set_option maxRecDepth 20000 in
theorem ib2_any (s : List UInt8) (c : UInt8) (w0 : World) (h : PH) : PCalls Tryd.prog w0 19 [str s, u8 c] h fun r h' => r = .int .i64 (Lib.indexByte s c) ∧ h' = h := by
  refine PCalls_body Tryd.func19 (by kernel_rfl) rfl _ Tryd.ntmps19 (by kernel_rfl) (by kernel_rfl) _ Tryd.results19 ?_
  have hI := Lib.hid (ib1_any s c w0 h)
  simp -dsimp -implicitDefEqProofs (disch := first | omega | assumption | (simp only [Option.isSome_some, Qt0]; done) | (simp only [UInt64.reduceToNat, UInt32.reduceToNat, UInt8.reduceToNat, List.length_cons, List.length_nil, List.length_append, Int.toNat_natCast] <;> omega)) only [Nat.reduceLT, Nat.reduceLeDiff, Nat.reduceEqDiff, ↓reduceIte, Int.reduceLT, Int.reduceLE, Int.reduceToNat, Int.reduceEq, Int.reduceNe, Nat.reduceAdd, UInt8.reduceOfNat, UInt16.reduceOfNat, UInt32.reduceOfNat, UInt64.reduceOfNat, UInt64.reduceToNat, UInt32.reduceToNat, UInt16.reduceToNat, UInt8.reduceToNat, Int.reduceAdd, Int.reduceSub, Int.reduceMul, Nat.reduceMul, Qp0, Ql0, Qe0]
  refine hI.out.mono ?_
  rintro v hz ⟨rfl, rfl⟩
  simp -dsimp -implicitDefEqProofs (disch := first | omega | assumption | (simp only [Option.isSome_some, Qt0]; done) | (simp only [UInt64.reduceToNat, UInt32.reduceToNat, UInt8.reduceToNat, List.length_cons, List.length_nil, List.length_append, Int.toNat_natCast] <;> omega)) only [Nat.reduceLT, Nat.reduceLeDiff, Nat.reduceEqDiff, ↓reduceIte, Int.reduceLT, Int.reduceLE, Int.reduceToNat, Int.reduceEq, Int.reduceNe, Nat.reduceAdd, UInt8.reduceOfNat, UInt16.reduceOfNat, UInt32.reduceOfNat, UInt64.reduceOfNat, UInt64.reduceToNat, UInt32.reduceToNat, UInt16.reduceToNat, UInt8.reduceToNat, Int.reduceAdd, Int.reduceSub, Int.reduceMul, Nat.reduceMul, Qp0, Ql0, Qe0]
  exact ⟨_, PH.Le.refl _, by trivial, rfl⟩
theorem index_hit : ∀ (l : List UInt8) (c : UInt8) (k : Nat), (∀ j, j < k → l[j]? ≠ some c) → l[k]? = some c → Lib.indexByte l c = k
  | [], c, k, _, h => by simp at h
  | b :: l, c, 0, _, h => by
    have : b = c := by simpa using h
    simp [Lib.indexByte, this]
  | b :: l, c, k + 1, hj, h => by
    have hb : (b == c) = false := by
      have := hj 0 (by omega)
      simpa using this
    have ih := index_hit l c k (fun j hjk => by have := hj (j + 1) (by omega); simpa using this) (by simpa using h)
    have hne : ((k : Int) == -1) = false := by rw [beq_eq_false_iff_ne]; omega
    unfold Lib.indexByte
    rw [hb, ih, hne]
    simp
theorem index_miss : ∀ (l : List UInt8) (c : UInt8), (∀ j : Nat, l[j]? ≠ some c) → Lib.indexByte l c = -1
  | [], c, _ => rfl
  | b :: l, c, hj => by
    have hb : (b == c) = false := by
      have := hj 0
      simpa using this
    have ih := index_miss l c (fun j => by have := hj (j + 1); simpa using this)
    unfold Lib.indexByte
    rw [hb, ih]
    simp
/-- v is the first place from a on where a 1 stands, or -1. -/
def First (s : List UInt8) (a v : Int) : Prop := (∃ k : Nat, v = k ∧ a ≤ k ∧ s[k]? = some 1 ∧ ∀ j : Nat, j < k → a ≤ j → s[j]? ≠ some 1) ∨ (v = -1 ∧ ∀ j : Nat, a ≤ j → s[j]? ≠ some 1)
set_option maxRecDepth 20000 in
theorem find_any (s : List UInt8) (a v : Int) (hs : s.length ≤ 1000000) (hv : First s a v) (w0 : World) (h : PH) : PCalls Tryd.prog w0 12 [str s, .int .i64 a] h fun r h' => r = .int .i64 v ∧ h' = h := by
  refine PCalls_body Tryd.func12 (by kernel_rfl) rfl _ Tryd.ntmps12 (by kernel_rfl) (by kernel_rfl) _ Tryd.results12 ?_
  obtain ⟨n, hn, hna⟩ : ∃ n : Nat, (if 0 > a then 0 else a) = (n : Int) ∧ (∀ j : Nat, a ≤ j ↔ n ≤ j) := by
    by_cases h0 : 0 > a
    · exact ⟨0, by rw [if_pos h0]; rfl, fun j => by omega⟩
    · exact ⟨a.toNat, by rw [if_neg h0]; omega, fun j => by omega⟩
  by_cases hl : (s.length : Int) ≤ (n : Int)
  · have d1 := decide_eq_true hl
    have hv1 : v = -1 := by
      rcases hv with ⟨k, _, hk, h1, _⟩ | ⟨h1, _⟩
      · have := (hna k).1 hk
        rw [List.getElem?_eq_none (by omega)] at h1; cases h1
      · exact h1
    subst hv1
    simp -dsimp -implicitDefEqProofs (disch := first | omega | assumption | (simp only [Option.isSome_some, Qt0]; done) | (simp only [UInt64.reduceToNat, UInt32.reduceToNat, UInt8.reduceToNat, List.length_cons, List.length_nil, List.length_append, Int.toNat_natCast] <;> omega)) only [Nat.reduceLT, Nat.reduceLeDiff, Nat.reduceEqDiff, ↓reduceIte, Int.reduceLT, Int.reduceLE, Int.reduceToNat, Int.reduceEq, Int.reduceNe, Nat.reduceAdd, UInt8.reduceOfNat, UInt16.reduceOfNat, UInt32.reduceOfNat, UInt64.reduceOfNat, UInt64.reduceToNat, UInt32.reduceToNat, UInt16.reduceToNat, UInt8.reduceToNat, Int.reduceAdd, Int.reduceSub, Int.reduceMul, Nat.reduceMul, Qp0, Ql0, Qe0, hn, d1]
    exact ⟨_, PH.Le.refl _, by trivial, rfl⟩
  have d1 := decide_eq_false hl
  have hI := ib2_any (s.drop n) 1 w0 h
  rcases hv with ⟨k, rfl, hk, h1, h2⟩ | ⟨rfl, h2⟩
  · have hk' := (hna k).1 hk
    have hkl := (List.getElem?_eq_some_iff.1 h1).1
    have hix : Lib.indexByte (s.drop n) 1 = ((k - n : Nat) : Int) := index_hit _ _ _ (fun j hj => by
      rw [List.getElem?_drop]; exact h2 (n + j) (by omega) ((hna _).2 (by omega))) (by rw [List.getElem?_drop, show n + (k - n) = k by omega]; exact h1)
    rw [hix] at hI
    have hI := Lib.hid hI
    have d2 : decide ((0 : Int) ≤ ((k - n : Nat) : Int)) = true := decide_eq_true (by omega)
    have e2 : (n : Int) + ((k - n : Nat) : Int) = (k : Int) := by omega
    simp -dsimp -implicitDefEqProofs (disch := first | omega | assumption | (simp only [Option.isSome_some, Qt0]; done) | (simp only [UInt64.reduceToNat, UInt32.reduceToNat, UInt8.reduceToNat, List.length_cons, List.length_nil, List.length_append, Int.toNat_natCast] <;> omega)) only [Nat.reduceLT, Nat.reduceLeDiff, Nat.reduceEqDiff, ↓reduceIte, Int.reduceLT, Int.reduceLE, Int.reduceToNat, Int.reduceEq, Int.reduceNe, Nat.reduceAdd, UInt8.reduceOfNat, UInt16.reduceOfNat, UInt32.reduceOfNat, UInt64.reduceOfNat, UInt64.reduceToNat, UInt32.reduceToNat, UInt16.reduceToNat, UInt8.reduceToNat, Int.reduceAdd, Int.reduceSub, Int.reduceMul, Nat.reduceMul, Qp0, Ql0, Qe0, hn, d1]
    refine hI.out.mono ?_
    rintro v hz ⟨rfl, rfl⟩
    simp -dsimp -implicitDefEqProofs (disch := first | omega | assumption | (simp only [Option.isSome_some, Qt0]; done) | (simp only [UInt64.reduceToNat, UInt32.reduceToNat, UInt8.reduceToNat, List.length_cons, List.length_nil, List.length_append, Int.toNat_natCast] <;> omega)) only [Nat.reduceLT, Nat.reduceLeDiff, Nat.reduceEqDiff, ↓reduceIte, Int.reduceLT, Int.reduceLE, Int.reduceToNat, Int.reduceEq, Int.reduceNe, Nat.reduceAdd, UInt8.reduceOfNat, UInt16.reduceOfNat, UInt32.reduceOfNat, UInt64.reduceOfNat, UInt64.reduceToNat, UInt32.reduceToNat, UInt16.reduceToNat, UInt8.reduceToNat, Int.reduceAdd, Int.reduceSub, Int.reduceMul, Nat.reduceMul, Qp0, Ql0, Qe0, d2, e2]
    exact ⟨_, PH.Le.refl _, by trivial, rfl⟩
  · have hix : Lib.indexByte (s.drop n) 1 = -1 := index_miss _ _ (fun j => by
      rw [List.getElem?_drop]; exact h2 (n + j) ((hna _).2 (by omega)))
    rw [hix] at hI
    have hI := Lib.hid hI
    simp -dsimp -implicitDefEqProofs (disch := first | omega | assumption | (simp only [Option.isSome_some, Qt0]; done) | (simp only [UInt64.reduceToNat, UInt32.reduceToNat, UInt8.reduceToNat, List.length_cons, List.length_nil, List.length_append, Int.toNat_natCast] <;> omega)) only [Nat.reduceLT, Nat.reduceLeDiff, Nat.reduceEqDiff, ↓reduceIte, Int.reduceLT, Int.reduceLE, Int.reduceToNat, Int.reduceEq, Int.reduceNe, Nat.reduceAdd, UInt8.reduceOfNat, UInt16.reduceOfNat, UInt32.reduceOfNat, UInt64.reduceOfNat, UInt64.reduceToNat, UInt32.reduceToNat, UInt16.reduceToNat, UInt8.reduceToNat, Int.reduceAdd, Int.reduceSub, Int.reduceMul, Nat.reduceMul, Qp0, Ql0, Qe0, hn, d1]
    refine hI.out.mono ?_
    rintro v hz ⟨rfl, rfl⟩
    simp -dsimp -implicitDefEqProofs (disch := first | omega | assumption | (simp only [Option.isSome_some, Qt0]; done) | (simp only [UInt64.reduceToNat, UInt32.reduceToNat, UInt8.reduceToNat, List.length_cons, List.length_nil, List.length_append, Int.toNat_natCast] <;> omega)) only [Nat.reduceLT, Nat.reduceLeDiff, Nat.reduceEqDiff, ↓reduceIte, Int.reduceLT, Int.reduceLE, Int.reduceToNat, Int.reduceEq, Int.reduceNe, Nat.reduceAdd, UInt8.reduceOfNat, UInt16.reduceOfNat, UInt32.reduceOfNat, UInt64.reduceOfNat, UInt64.reduceToNat, UInt32.reduceToNat, UInt16.reduceToNat, UInt8.reduceToNat, Int.reduceAdd, Int.reduceSub, Int.reduceMul, Nat.reduceMul, Qp0, Ql0, Qe0]
    exact ⟨_, PH.Le.refl _, by trivial, rfl⟩
end Go.Proofs.YtpdcbkleolciiaaDoor
