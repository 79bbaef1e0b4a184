/- Walks of the document's letter, and what its Enc and Dec share. -/
import Derived.Test.YtdagjjicejhplaaTxI
import Derived.Test.YtdagjjicejhplaaTxB
namespace Go.Proofs.Ytdagjjicejhplaa
set_option linter.unusedVariables false
set_option linter.unusedSimpArgs false
open Go.RowKit Px Tx
theorem let_a : ∀ n : Nat, n < 26 → UInt8.ofInt (65 + (n : Int)) = letters.getD n 0 := by decide +kernel
theorem let_b : ∀ n : Nat, n < 52 → 26 ≤ n → UInt8.ofInt (97 + (n : Int) - 26) = letters.getD n 0 := by decide +kernel
theorem let_c : ∀ n : Nat, n < 62 → 52 ≤ n → UInt8.ofInt (48 + (n : Int) - 52) = letters.getD n 0 := by decide +kernel
set_option maxRecDepth 20000 in
set_option maxHeartbeats 1000000 in
theorem letter_any (n : Nat) (hn : n < 64) (w0 : World) (h : PH) : PCalls Try.prog w0 31 [.int .i64 n] h fun v h' => v = u8 (letAt n) ∧ h' = h := by
  refine PCalls_body Try.func31 (by kernel_rfl) rfl _ Try.ntmps31 (by kernel_rfl) (by kernel_rfl) _ Try.results31 ?_
  have hL : letAt n = letters.getD n 0 := by unfold letAt; rw [Int.toNat_natCast]
  by_cases h1 : n < 26
  · simp -dsimp -implicitDefEqProofs (disch := first | omega | assumption | (simp only [Option.isSome_some, Qt0]; done) | (simp only [UInt64.reduceToNat, UInt32.reduceToNat, UInt8.reduceToNat, List.length_cons, List.length_nil, List.length_append, Int.toNat_natCast] <;> omega)) only [Nat.reduceLT, Nat.reduceLeDiff, Nat.reduceEqDiff, ↓reduceIte, Int.reduceLT, Int.reduceLE, Int.reduceToNat, Int.reduceEq, Int.reduceNe, Nat.reduceAdd, UInt8.reduceOfNat, UInt16.reduceOfNat, UInt32.reduceOfNat, UInt64.reduceOfNat, UInt64.reduceToNat, UInt32.reduceToNat, UInt16.reduceToNat, UInt8.reduceToNat, Int.reduceAdd, Int.reduceSub, Int.reduceMul, Nat.reduceMul, Qp0, Ql0, Qe0]
    exact ⟨_, PH.Le.refl _, by rw [hL, let_a n h1], rfl⟩
  by_cases h2 : n < 52
  · simp -dsimp -implicitDefEqProofs (disch := first | omega | assumption | (simp only [Option.isSome_some, Qt0]; done) | (simp only [UInt64.reduceToNat, UInt32.reduceToNat, UInt8.reduceToNat, List.length_cons, List.length_nil, List.length_append, Int.toNat_natCast] <;> omega)) only [Nat.reduceLT, Nat.reduceLeDiff, Nat.reduceEqDiff, ↓reduceIte, Int.reduceLT, Int.reduceLE, Int.reduceToNat, Int.reduceEq, Int.reduceNe, Nat.reduceAdd, UInt8.reduceOfNat, UInt16.reduceOfNat, UInt32.reduceOfNat, UInt64.reduceOfNat, UInt64.reduceToNat, UInt32.reduceToNat, UInt16.reduceToNat, UInt8.reduceToNat, Int.reduceAdd, Int.reduceSub, Int.reduceMul, Nat.reduceMul, Qp0, Ql0, Qe0]
    exact ⟨_, PH.Le.refl _, by rw [hL, let_b n h2 (by omega)], rfl⟩
  by_cases h3 : n < 62
  · simp -dsimp -implicitDefEqProofs (disch := first | omega | assumption | (simp only [Option.isSome_some, Qt0]; done) | (simp only [UInt64.reduceToNat, UInt32.reduceToNat, UInt8.reduceToNat, List.length_cons, List.length_nil, List.length_append, Int.toNat_natCast] <;> omega)) only [Nat.reduceLT, Nat.reduceLeDiff, Nat.reduceEqDiff, ↓reduceIte, Int.reduceLT, Int.reduceLE, Int.reduceToNat, Int.reduceEq, Int.reduceNe, Nat.reduceAdd, UInt8.reduceOfNat, UInt16.reduceOfNat, UInt32.reduceOfNat, UInt64.reduceOfNat, UInt64.reduceToNat, UInt32.reduceToNat, UInt16.reduceToNat, UInt8.reduceToNat, Int.reduceAdd, Int.reduceSub, Int.reduceMul, Nat.reduceMul, Qp0, Ql0, Qe0]
    exact ⟨_, PH.Le.refl _, by rw [hL, let_c n h3 (by omega)], rfl⟩
  by_cases h4 : n = 62
  · subst h4
    simp -dsimp -implicitDefEqProofs (disch := first | omega | assumption | (simp only [Option.isSome_some, Qt0]; done) | (simp only [UInt64.reduceToNat, UInt32.reduceToNat, UInt8.reduceToNat, List.length_cons, List.length_nil, List.length_append, Int.toNat_natCast] <;> omega)) only [Nat.reduceLT, Nat.reduceLeDiff, Nat.reduceEqDiff, ↓reduceIte, Int.reduceLT, Int.reduceLE, Int.reduceToNat, Int.reduceEq, Int.reduceNe, Nat.reduceAdd, UInt8.reduceOfNat, UInt16.reduceOfNat, UInt32.reduceOfNat, UInt64.reduceOfNat, UInt64.reduceToNat, UInt32.reduceToNat, UInt16.reduceToNat, UInt8.reduceToNat, Int.reduceAdd, Int.reduceSub, Int.reduceMul, Nat.reduceMul, Qp0, Ql0, Qe0]
    exact ⟨_, PH.Le.refl _, by rw [hL]; rfl, rfl⟩
  · obtain rfl : n = 63 := by omega
    simp -dsimp -implicitDefEqProofs (disch := first | omega | assumption | (simp only [Option.isSome_some, Qt0]; done) | (simp only [UInt64.reduceToNat, UInt32.reduceToNat, UInt8.reduceToNat, List.length_cons, List.length_nil, List.length_append, Int.toNat_natCast] <;> omega)) only [Nat.reduceLT, Nat.reduceLeDiff, Nat.reduceEqDiff, ↓reduceIte, Int.reduceLT, Int.reduceLE, Int.reduceToNat, Int.reduceEq, Int.reduceNe, Nat.reduceAdd, UInt8.reduceOfNat, UInt16.reduceOfNat, UInt32.reduceOfNat, UInt64.reduceOfNat, UInt64.reduceToNat, UInt32.reduceToNat, UInt16.reduceToNat, UInt8.reduceToNat, Int.reduceAdd, Int.reduceSub, Int.reduceMul, Nat.reduceMul, Qp0, Ql0, Qe0]
    exact ⟨_, PH.Le.refl _, by rw [hL]; rfl, rfl⟩
def is (l : List Int) : List Value := l.map fun n => .int .i64 n
theorem is_one (l : List Int) : allOne (is l) := by
  intro v hv
  obtain ⟨_, _, rfl⟩ := List.mem_map.1 hv
  rfl
theorem rd_is {w0 : World} {h : PH} {b lim : Nat} {N : List Int} (hb : h.m b = some ⟨is N, lim⟩) {j : Nat} (hj : j < N.length) : rd w0 h ⟨b, j, none⟩ = some (.int .i64 (N.getD j 0)) := by
  unfold rd
  simp only [if_true, hb]
  simp [is, List.getD, List.getElem?_eq_getElem hj]
theorem info_intt : (Try.prog.info? 3).map (fun i => (i.zero, i.size, i.bytes)) = some (some (.int .i64 0), 1, 8) := by kernel_rfl
theorem el_intt : El Try.prog 46 3 (.int .i64 0) 1 8 := ⟨Try.underlying46, info_parts info_intt, rfl, by decide⟩
theorem info_u8e : (Try.prog.info? 5).map (fun i => (i.zero, i.size, i.bytes)) = some (some (.int .u8 0), 1, 1) := by kernel_rfl
theorem el_u8e : El Try.prog 31 5 (.int .u8 0) 1 1 := ⟨Try.underlying31, info_parts info_u8e, rfl, by decide⟩
end Go.Proofs.Ytdagjjicejhplaa
