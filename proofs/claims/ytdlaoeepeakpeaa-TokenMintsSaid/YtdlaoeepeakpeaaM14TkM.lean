/- Parts TxRe, Pt, Tk5, Tk6, Base, Par, Pq, Wdo, Wrm, Tkp, Rgx, Base2, joined. No condition. -/
import Derived.Test.YtdlaoeepeakpeaaM13TkM
import Derived.Test.YtdlaoeepeakpeaaM12TkM
import Derived.Test.YtdlaoeepeakpeaaM3TkM
import Derived.Test.YtdlaoeepeakpeaaM6TkM
import Derived.Test.YtdlaoeepeakpeaaRows
import Derived.WalkKit
import Derived.ProofKit
import Derived.OpenShut
import Derived.SizedLaws
import Derived.OpenVars
import Derived.Lib.Hide
import Derived.Deep.Fields
import Derived.Deep.Slices
import Derived.Test.YtdlaoeepeakpeaaM5TkM
import Derived.Test.YtdlaoeepeakpeaaM7TkM
import Derived.Test.YtdlaoeepeakpeaaM11TkM
import Derived.Deep.MidRow
import Derived.Laws.ResultCell
/- Walk of the document's Enc. -/
namespace Go.Proofs.Ytdlaoeepeakpeaa
set_option linter.unusedVariables false
set_option linter.unusedSimpArgs false
open Go.RowKit Px Tx
theorem bit_eq (c : UInt8) (i : Nat) (hi : i < 8) : (((c >>> UInt8.ofNat (UInt64.ofInt ((i : Int))).toNat).toNat : Nat) : Int) % 2 = bit c i := by
  have e : (UInt64.ofInt ((i : Int))).toNat = i := by simp [UInt64.ofInt]; omega
  rw [e, UInt8.toNat_shiftRight, UInt8.toNat_ofNat', Nat.mod_eq_of_lt (show i % 2 ^ 8 < 8 by omega), Nat.mod_eq_of_lt (show i < 2 ^ 8 by omega), Nat.shiftRight_eq_div_pow]
  rfl
theorem ofInt64_lt (i : Nat) (hi : i < 8) : (UInt64.ofInt ((i : Int))).toNat < 8 := by simp [UInt64.ofInt]; omega
/-- The bits of a byte from the highest one on, all but the lowest j. -/
def top8 (c : UInt8) (j : Nat) : List Int := (bits8 c).take (8 - j)
theorem top8_succ (c : UInt8) (j : Nat) (hj : j < 8) : top8 c (j + 1) ++ [bit c j] = top8 c j := by
  unfold top8 bits8
  match j, hj with
  | 0, _ => rfl
  | 1, _ => rfl
  | 2, _ => rfl
  | 3, _ => rfl
  | 4, _ => rfl
  | 5, _ => rfl
  | 6, _ => rfl
  | 7, _ => rfl
theorem bitsAll_snoc (s : List UInt8) (k : Nat) (h : k < s.length) : bitsAll (s.take (k + 1)) = bitsAll (s.take k) ++ bits8 (s.getD k 0) := by
  rw [take_snoc8 s k h]; simp [bitsAll]
set_option maxRecDepth 20000 in
set_option maxHeartbeats 4000000 in
theorem renc_any (s : List UInt8) (w0 : World) (h : PH) (hs : s.length ≤ 1000000) : PCalls Try.prog w0 33 [str s] h fun v h' => v = str (refEnc s) ∧ h' = h := by
  refine PCalls_body Try.func33 (by kernel_rfl) rfl _ Try.ntmps33 (by kernel_rfl) (by kernel_rfl) _ Try.results33 ?_
  simp -dsimp -implicitDefEqProofs (disch := first | omega | assumption | (simp only [Option.isSome_some, Qt0]; done) | (simp only [UInt64.reduceToNat, UInt32.reduceToNat, UInt8.reduceToNat, List.length_cons, List.length_nil, List.length_append, Int.toNat_natCast] <;> omega)) only [Nat.reduceLT, Nat.reduceLeDiff, Nat.reduceEqDiff, ↓reduceIte, Int.reduceLT, Int.reduceLE, Int.reduceToNat, Int.reduceEq, Int.reduceNe, Nat.reduceAdd, UInt8.reduceOfNat, UInt16.reduceOfNat, UInt32.reduceOfNat, UInt64.reduceOfNat, UInt64.reduceToNat, UInt32.reduceToNat, UInt16.reduceToNat, UInt8.reduceToNat, Int.reduceAdd, Int.reduceSub, Int.reduceMul, Nat.reduceMul, Qp0, Ql0, Qe0]
  refine Does_zero el_intt (fun b0 hb0 => ?_)
  have how0 := OwnS.zero (h := h) 1 hb0
  simp -dsimp -implicitDefEqProofs (disch := first | omega | assumption | (simp only [Option.isSome_some, Qt0]; done) | (simp only [UInt64.reduceToNat, UInt32.reduceToNat, UInt8.reduceToNat, List.length_cons, List.length_nil, List.length_append, Int.toNat_natCast] <;> omega)) only [Nat.reduceLT, Nat.reduceLeDiff, Nat.reduceEqDiff, ↓reduceIte, Int.reduceLT, Int.reduceLE, Int.reduceToNat, Int.reduceEq, Int.reduceNe, Nat.reduceAdd, UInt8.reduceOfNat, UInt16.reduceOfNat, UInt32.reduceOfNat, UInt64.reduceOfNat, UInt64.reduceToNat, UInt32.reduceToNat, UInt16.reduceToNat, UInt8.reduceToNat, Int.reduceAdd, Int.reduceSub, Int.reduceMul, Nat.reduceMul, Qp0, Ql0, Qe0]
  refine PW_loop (fun n f h' => ∃ (k : Nat) (v : Value), k ≤ s.length ∧ n = s.length - k ∧ f 0 = some (str s) ∧ f 4 = some (.int .i64 k) ∧ f 3 = some v ∧ OwnS h h' 1 v (8 * k) (is (bitsAll (s.take k)))) (by kernel_rfl) s.length ⟨0, _, by omega, by omega, ?_, ?_, ?_, how0⟩ ?_
  · simp -dsimp -implicitDefEqProofs (disch := first | omega | assumption | (simp only [Option.isSome_some, Qt0]; done) | (simp only [UInt64.reduceToNat, UInt32.reduceToNat, UInt8.reduceToNat, List.length_cons, List.length_nil, List.length_append, Int.toNat_natCast] <;> omega)) only [Nat.reduceLT, Nat.reduceLeDiff, Nat.reduceEqDiff, ↓reduceIte, Int.reduceLT, Int.reduceLE, Int.reduceToNat, Int.reduceEq, Int.reduceNe, Nat.reduceAdd, UInt8.reduceOfNat, UInt16.reduceOfNat, UInt32.reduceOfNat, UInt64.reduceOfNat, UInt64.reduceToNat, UInt32.reduceToNat, UInt16.reduceToNat, UInt8.reduceToNat, Int.reduceAdd, Int.reduceSub, Int.reduceMul, Nat.reduceMul, Qp0, Ql0, Qe0]
  · simp -dsimp -implicitDefEqProofs (disch := first | omega | assumption | (simp only [Option.isSome_some, Qt0]; done) | (simp only [UInt64.reduceToNat, UInt32.reduceToNat, UInt8.reduceToNat, List.length_cons, List.length_nil, List.length_append, Int.toNat_natCast] <;> omega)) only [Nat.reduceLT, Nat.reduceLeDiff, Nat.reduceEqDiff, ↓reduceIte, Int.reduceLT, Int.reduceLE, Int.reduceToNat, Int.reduceEq, Int.reduceNe, Nat.reduceAdd, UInt8.reduceOfNat, UInt16.reduceOfNat, UInt32.reduceOfNat, UInt64.reduceOfNat, UInt64.reduceToNat, UInt32.reduceToNat, UInt16.reduceToNat, UInt8.reduceToNat, Int.reduceAdd, Int.reduceSub, Int.reduceMul, Nat.reduceMul, Qp0, Ql0, Qe0]
  · simp -dsimp -implicitDefEqProofs (disch := first | omega | assumption | (simp only [Option.isSome_some, Qt0]; done) | (simp only [UInt64.reduceToNat, UInt32.reduceToNat, UInt8.reduceToNat, List.length_cons, List.length_nil, List.length_append, Int.toNat_natCast] <;> omega)) only [Nat.reduceLT, Nat.reduceLeDiff, Nat.reduceEqDiff, ↓reduceIte, Int.reduceLT, Int.reduceLE, Int.reduceToNat, Int.reduceEq, Int.reduceNe, Nat.reduceAdd, UInt8.reduceOfNat, UInt16.reduceOfNat, UInt32.reduceOfNat, UInt64.reduceOfNat, UInt64.reduceToNat, UInt32.reduceToNat, UInt16.reduceToNat, UInt8.reduceToNat, Int.reduceAdd, Int.reduceSub, Int.reduceMul, Nat.reduceMul, Qp0, Ql0, Qe0]
    try rfl
  rintro n f h' ⟨k, v, hk, rfl, h0, h4, h3, how⟩
  by_cases hlt : k < s.length
  · have hbs := Lib.hid (bitsAll_snoc s k hlt)
    obtain ⟨c, hc⟩ : ∃ c, c = s.getD k 0 := ⟨_, rfl⟩
    rw [← hc] at hbs
    simp -dsimp -implicitDefEqProofs (disch := first | omega | assumption | (simp only [Option.isSome_some, Qt0]; done) | (simp only [UInt64.reduceToNat, UInt32.reduceToNat, UInt8.reduceToNat, List.length_cons, List.length_nil, List.length_append, Int.toNat_natCast] <;> omega)) only [Nat.reduceLT, Nat.reduceLeDiff, Nat.reduceEqDiff, ↓reduceIte, Int.reduceLT, Int.reduceLE, Int.reduceToNat, Int.reduceEq, Int.reduceNe, Nat.reduceAdd, UInt8.reduceOfNat, UInt16.reduceOfNat, UInt32.reduceOfNat, UInt64.reduceOfNat, UInt64.reduceToNat, UInt32.reduceToNat, UInt16.reduceToNat, UInt8.reduceToNat, Int.reduceAdd, Int.reduceSub, Int.reduceMul, Nat.reduceMul, Qp0, Ql0, Qe0, h0, h4, h3]
    refine PW_loop (fun n f h2 => ∃ (v : Value), n ≤ 8 ∧ f 0 = some (str s) ∧ f 4 = some (.int .i64 k) ∧ f 5 = some (.int .i64 ((n : Int) - 1)) ∧ f 3 = some v ∧ OwnS h h2 1 v (8 * k + (8 - n)) (is (bitsAll (s.take k) ++ top8 c n))) (by kernel_rfl) 8 ⟨v, by omega, ?_, ?_, ?_, ?_, by simpa [top8] using how⟩ ?_
    · simp -dsimp -implicitDefEqProofs (disch := first | omega | assumption | (simp only [Option.isSome_some, Qt0]; done) | (simp only [UInt64.reduceToNat, UInt32.reduceToNat, UInt8.reduceToNat, List.length_cons, List.length_nil, List.length_append, Int.toNat_natCast] <;> omega)) only [Nat.reduceLT, Nat.reduceLeDiff, Nat.reduceEqDiff, ↓reduceIte, Int.reduceLT, Int.reduceLE, Int.reduceToNat, Int.reduceEq, Int.reduceNe, Nat.reduceAdd, UInt8.reduceOfNat, UInt16.reduceOfNat, UInt32.reduceOfNat, UInt64.reduceOfNat, UInt64.reduceToNat, UInt32.reduceToNat, UInt16.reduceToNat, UInt8.reduceToNat, Int.reduceAdd, Int.reduceSub, Int.reduceMul, Nat.reduceMul, Qp0, Ql0, Qe0, h0]
    · simp -dsimp -implicitDefEqProofs (disch := first | omega | assumption | (simp only [Option.isSome_some, Qt0]; done) | (simp only [UInt64.reduceToNat, UInt32.reduceToNat, UInt8.reduceToNat, List.length_cons, List.length_nil, List.length_append, Int.toNat_natCast] <;> omega)) only [Nat.reduceLT, Nat.reduceLeDiff, Nat.reduceEqDiff, ↓reduceIte, Int.reduceLT, Int.reduceLE, Int.reduceToNat, Int.reduceEq, Int.reduceNe, Nat.reduceAdd, UInt8.reduceOfNat, UInt16.reduceOfNat, UInt32.reduceOfNat, UInt64.reduceOfNat, UInt64.reduceToNat, UInt32.reduceToNat, UInt16.reduceToNat, UInt8.reduceToNat, Int.reduceAdd, Int.reduceSub, Int.reduceMul, Nat.reduceMul, Qp0, Ql0, Qe0, h4]
    · simp -dsimp -implicitDefEqProofs (disch := first | omega | assumption | (simp only [Option.isSome_some, Qt0]; done) | (simp only [UInt64.reduceToNat, UInt32.reduceToNat, UInt8.reduceToNat, List.length_cons, List.length_nil, List.length_append, Int.toNat_natCast] <;> omega)) only [Nat.reduceLT, Nat.reduceLeDiff, Nat.reduceEqDiff, ↓reduceIte, Int.reduceLT, Int.reduceLE, Int.reduceToNat, Int.reduceEq, Int.reduceNe, Nat.reduceAdd, UInt8.reduceOfNat, UInt16.reduceOfNat, UInt32.reduceOfNat, UInt64.reduceOfNat, UInt64.reduceToNat, UInt32.reduceToNat, UInt16.reduceToNat, UInt8.reduceToNat, Int.reduceAdd, Int.reduceSub, Int.reduceMul, Nat.reduceMul, Qp0, Ql0, Qe0]
      try rfl
    · simp -dsimp -implicitDefEqProofs (disch := first | omega | assumption | (simp only [Option.isSome_some, Qt0]; done) | (simp only [UInt64.reduceToNat, UInt32.reduceToNat, UInt8.reduceToNat, List.length_cons, List.length_nil, List.length_append, Int.toNat_natCast] <;> omega)) only [Nat.reduceLT, Nat.reduceLeDiff, Nat.reduceEqDiff, ↓reduceIte, Int.reduceLT, Int.reduceLE, Int.reduceToNat, Int.reduceEq, Int.reduceNe, Nat.reduceAdd, UInt8.reduceOfNat, UInt16.reduceOfNat, UInt32.reduceOfNat, UInt64.reduceOfNat, UInt64.reduceToNat, UInt32.reduceToNat, UInt16.reduceToNat, UInt8.reduceToNat, Int.reduceAdd, Int.reduceSub, Int.reduceMul, Nat.reduceMul, Qp0, Ql0, Qe0, h3]
    rintro n f2 h2 ⟨v2, hn, g0, g4, g5, g3, how2⟩
    rcases n with _ | j
    · have e0 : top8 c 0 = bits8 c := rfl
      rw [e0, ← hbs.out] at how2
      simp -dsimp -implicitDefEqProofs (disch := first | omega | assumption | (simp only [Option.isSome_some, Qt0]; done) | (simp only [UInt64.reduceToNat, UInt32.reduceToNat, UInt8.reduceToNat, List.length_cons, List.length_nil, List.length_append, Int.toNat_natCast] <;> omega)) only [Nat.reduceLT, Nat.reduceLeDiff, Nat.reduceEqDiff, ↓reduceIte, Int.reduceLT, Int.reduceLE, Int.reduceToNat, Int.reduceEq, Int.reduceNe, Nat.reduceAdd, UInt8.reduceOfNat, UInt16.reduceOfNat, UInt32.reduceOfNat, UInt64.reduceOfNat, UInt64.reduceToNat, UInt32.reduceToNat, UInt16.reduceToNat, UInt8.reduceToNat, Int.reduceAdd, Int.reduceSub, Int.reduceMul, Nat.reduceMul, Qp0, Ql0, Qe0, g0, g4, g5, g3]
      exact ⟨_, h2, by omega, PH.Le.refl _, k + 1, v2, by omega, rfl, by simp [g0], by simp [g4], by simp [g3], how2⟩
    · have e5 : (((j + 1 : Nat) : Int) - 1) = (j : Int) := by omega
      have hbt := Lib.hid (bit_eq c j (by omega))
      have hol := ofInt64_lt j (by omega)
      rw [e5] at g5
      simp -dsimp -implicitDefEqProofs (disch := first | omega | assumption | (simp only [Option.isSome_some, Qt0]; done) | (simp only [UInt64.reduceToNat, UInt32.reduceToNat, UInt8.reduceToNat, List.length_cons, List.length_nil, List.length_append, Int.toNat_natCast] <;> omega)) only [Nat.reduceLT, Nat.reduceLeDiff, Nat.reduceEqDiff, ↓reduceIte, Int.reduceLT, Int.reduceLE, Int.reduceToNat, Int.reduceEq, Int.reduceNe, Nat.reduceAdd, UInt8.reduceOfNat, UInt16.reduceOfNat, UInt32.reduceOfNat, UInt64.reduceOfNat, UInt64.reduceToNat, UInt32.reduceToNat, UInt16.reduceToNat, UInt8.reduceToNat, Int.reduceAdd, Int.reduceSub, Int.reduceMul, Nat.reduceMul, Qp0, Ql0, Qe0, g0, g4, g5, g3, ← hc]
      rw [hbt.out]
      refine Does_one (v := .int .i64 _) el_intt rfl (by omega) (fun gb hgb => ?_)
      simp -dsimp -implicitDefEqProofs (disch := first | omega | assumption | (simp only [Option.isSome_some, Qt0]; done) | (simp only [UInt64.reduceToNat, UInt32.reduceToNat, UInt8.reduceToNat, List.length_cons, List.length_nil, List.length_append, Int.toNat_natCast] <;> omega)) only [Nat.reduceLT, Nat.reduceLeDiff, Nat.reduceEqDiff, ↓reduceIte, Int.reduceLT, Int.reduceLE, Int.reduceToNat, Int.reduceEq, Int.reduceNe, Nat.reduceAdd, UInt8.reduceOfNat, UInt16.reduceOfNat, UInt32.reduceOfNat, UInt64.reduceOfNat, UInt64.reduceToNat, UInt32.reduceToNat, UInt16.reduceToNat, UInt8.reduceToNat, Int.reduceAdd, Int.reduceSub, Int.reduceMul, Nat.reduceMul, Qp0, Ql0, Qe0, g0, g4, g5, g3]
      refine Does_app el_intt (how2.more ((PH.Le.refl _).new _ _ hgb)).own (Rs.blk (k := ⟨is [bit c j], 1⟩) (by rw [PH.new_m, if_pos rfl]; rfl) rfl) (is_one _) (by unfold maxLen; omega) (by omega) (fun v' h3' ho hst => ?_)
      have hou' := (how2.more ((PH.Le.refl _).new _ _ hgb)).stays hst ho
      have hq : is (bitsAll (s.take k) ++ top8 c (j + 1)) ++ is [bit c j] = is (bitsAll (s.take k) ++ top8 c j) := by
        rw [← top8_succ c j (by omega)]; simp [is]
      rw [hq, show 8 * k + (8 - (j + 1)) + 1 = 8 * k + (8 - j) by omega] at hou'
      simp -dsimp -implicitDefEqProofs (disch := first | omega | assumption | (simp only [Option.isSome_some, Qt0]; done) | (simp only [UInt64.reduceToNat, UInt32.reduceToNat, UInt8.reduceToNat, List.length_cons, List.length_nil, List.length_append, Int.toNat_natCast] <;> omega)) only [Nat.reduceLT, Nat.reduceLeDiff, Nat.reduceEqDiff, ↓reduceIte, Int.reduceLT, Int.reduceLE, Int.reduceToNat, Int.reduceEq, Int.reduceNe, Nat.reduceAdd, UInt8.reduceOfNat, UInt16.reduceOfNat, UInt32.reduceOfNat, UInt64.reduceOfNat, UInt64.reduceToNat, UInt32.reduceToNat, UInt16.reduceToNat, UInt8.reduceToNat, Int.reduceAdd, Int.reduceSub, Int.reduceMul, Nat.reduceMul, Qp0, Ql0, Qe0, g0, g4, g5, g3]
      exact ⟨j, h3', by omega, PH.Le.refl _, v', by omega, by simp [g0], by simp [g4], by simp, by simp, hou'⟩
  · obtain rfl : k = s.length := by omega
    rw [List.take_length] at how
    have hbl := bitsAll_length s
    simp -dsimp -implicitDefEqProofs (disch := first | omega | assumption | (simp only [Option.isSome_some, Qt0]; done) | (simp only [UInt64.reduceToNat, UInt32.reduceToNat, UInt8.reduceToNat, List.length_cons, List.length_nil, List.length_append, Int.toNat_natCast] <;> omega)) only [Nat.reduceLT, Nat.reduceLeDiff, Nat.reduceEqDiff, ↓reduceIte, Int.reduceLT, Int.reduceLE, Int.reduceToNat, Int.reduceEq, Int.reduceNe, Nat.reduceAdd, UInt8.reduceOfNat, UInt16.reduceOfNat, UInt32.reduceOfNat, UInt64.reduceOfNat, UInt64.reduceToNat, UInt32.reduceToNat, UInt16.reduceToNat, UInt8.reduceToNat, Int.reduceAdd, Int.reduceSub, Int.reduceMul, Nat.reduceMul, Qp0, Ql0, Qe0, h0, h4, h3]
    refine PW_loop (fun n f h2 => ∃ (j : Nat) (v : Value), j + n = (6 - 8 * s.length % 6) % 6 ∧ f 3 = some v ∧ OwnS h h2 1 v (8 * s.length + j) (is (bitsAll s ++ List.replicate j 0))) (by kernel_rfl) _ ⟨0, v, Nat.zero_add _, ?_, by simpa using how⟩ ?_
    · simp -dsimp -implicitDefEqProofs (disch := first | omega | assumption | (simp only [Option.isSome_some, Qt0]; done) | (simp only [UInt64.reduceToNat, UInt32.reduceToNat, UInt8.reduceToNat, List.length_cons, List.length_nil, List.length_append, Int.toNat_natCast] <;> omega)) only [Nat.reduceLT, Nat.reduceLeDiff, Nat.reduceEqDiff, ↓reduceIte, Int.reduceLT, Int.reduceLE, Int.reduceToNat, Int.reduceEq, Int.reduceNe, Nat.reduceAdd, UInt8.reduceOfNat, UInt16.reduceOfNat, UInt32.reduceOfNat, UInt64.reduceOfNat, UInt64.reduceToNat, UInt32.reduceToNat, UInt16.reduceToNat, UInt8.reduceToNat, Int.reduceAdd, Int.reduceSub, Int.reduceMul, Nat.reduceMul, Qp0, Ql0, Qe0, h3]
    rintro n f2 h2 ⟨j, v2, hj, g3, how2⟩
    obtain ⟨A, cp, rfl, hcp⟩ := how2.own.len
    by_cases hmore : (8 * s.length + j) % 6 = 0
    · have hpad := padded_at (bitsAll s) j (by rw [hbl]; exact hmore) (by omega)
      rw [← hpad] at how2
      have hL6 := padded_length (bitsAll s)
      have hLle := padded_le (bitsAll s)
      have hLeq : (padded (bitsAll s)).length = 8 * s.length + j := by rw [hpad]; simp [hbl]
      have hbits := padded_bits s
      have hre : refEnc s = grp (padded (bitsAll s)) := rfl
      generalize padded (bitsAll s) = l at hpad how2 hL6 hLle hLeq hbits hre
      rw [← hLeq] at how2 g3 hmore
      have hLeqI : (8 : Int) * (s.length : Int) + (j : Int) = (l.length : Int) := by omega
      clear hpad
      simp -dsimp -implicitDefEqProofs (disch := first | omega | assumption | (simp only [Option.isSome_some, Qt0]; done) | (simp only [UInt64.reduceToNat, UInt32.reduceToNat, UInt8.reduceToNat, List.length_cons, List.length_nil, List.length_append, Int.toNat_natCast] <;> omega)) only [Nat.reduceLT, Nat.reduceLeDiff, Nat.reduceEqDiff, ↓reduceIte, Int.reduceLT, Int.reduceLE, Int.reduceToNat, Int.reduceEq, Int.reduceNe, Nat.reduceAdd, UInt8.reduceOfNat, UInt16.reduceOfNat, UInt32.reduceOfNat, UInt64.reduceOfNat, UInt64.reduceToNat, UInt32.reduceToNat, UInt16.reduceToNat, UInt8.reduceToNat, Int.reduceAdd, Int.reduceSub, Int.reduceMul, Nat.reduceMul, Qp0, Ql0, Qe0, g3, hLeqI]
      obtain ⟨G, hG⟩ : ∃ G, l.length = 6 * G := ⟨l.length / 6, by omega⟩
      refine Does_zero el_u8e (fun b1 hb1 => ?_)
      have how3 := OwnS.zero (h := h2) 1 hb1
      simp -dsimp -implicitDefEqProofs (disch := first | omega | assumption | (simp only [Option.isSome_some, Qt0]; done) | (simp only [UInt64.reduceToNat, UInt32.reduceToNat, UInt8.reduceToNat, List.length_cons, List.length_nil, List.length_append, Int.toNat_natCast] <;> omega)) only [Nat.reduceLT, Nat.reduceLeDiff, Nat.reduceEqDiff, ↓reduceIte, Int.reduceLT, Int.reduceLE, Int.reduceToNat, Int.reduceEq, Int.reduceNe, Nat.reduceAdd, UInt8.reduceOfNat, UInt16.reduceOfNat, UInt32.reduceOfNat, UInt64.reduceOfNat, UInt64.reduceToNat, UInt32.reduceToNat, UInt16.reduceToNat, UInt8.reduceToNat, Int.reduceAdd, Int.reduceSub, Int.reduceMul, Nat.reduceMul, Qp0, Ql0, Qe0, g3]
      refine PW_loop (fun n f h4 => ∃ (g : Nat) (u : Value) (q : Nat), g ≤ G ∧ n = G - g ∧ q = 6 * g ∧ f 3 = some (.slice A l.length cp) ∧ f 7 = some (.int .i64 q) ∧ f 6 = some u ∧ OwnS h2 h4 1 u g (bs (grp (l.take q)))) (by kernel_rfl) G ⟨0, _, 0, by omega, by omega, rfl, ?_, ?_, ?_, how3⟩ ?_
      · simp -dsimp -implicitDefEqProofs (disch := first | omega | assumption | (simp only [Option.isSome_some, Qt0]; done) | (simp only [UInt64.reduceToNat, UInt32.reduceToNat, UInt8.reduceToNat, List.length_cons, List.length_nil, List.length_append, Int.toNat_natCast] <;> omega)) only [Nat.reduceLT, Nat.reduceLeDiff, Nat.reduceEqDiff, ↓reduceIte, Int.reduceLT, Int.reduceLE, Int.reduceToNat, Int.reduceEq, Int.reduceNe, Nat.reduceAdd, UInt8.reduceOfNat, UInt16.reduceOfNat, UInt32.reduceOfNat, UInt64.reduceOfNat, UInt64.reduceToNat, UInt32.reduceToNat, UInt16.reduceToNat, UInt8.reduceToNat, Int.reduceAdd, Int.reduceSub, Int.reduceMul, Nat.reduceMul, Qp0, Ql0, Qe0, g3]
      · simp -dsimp -implicitDefEqProofs (disch := first | omega | assumption | (simp only [Option.isSome_some, Qt0]; done) | (simp only [UInt64.reduceToNat, UInt32.reduceToNat, UInt8.reduceToNat, List.length_cons, List.length_nil, List.length_append, Int.toNat_natCast] <;> omega)) only [Nat.reduceLT, Nat.reduceLeDiff, Nat.reduceEqDiff, ↓reduceIte, Int.reduceLT, Int.reduceLE, Int.reduceToNat, Int.reduceEq, Int.reduceNe, Nat.reduceAdd, UInt8.reduceOfNat, UInt16.reduceOfNat, UInt32.reduceOfNat, UInt64.reduceOfNat, UInt64.reduceToNat, UInt32.reduceToNat, UInt16.reduceToNat, UInt8.reduceToNat, Int.reduceAdd, Int.reduceSub, Int.reduceMul, Nat.reduceMul, Qp0, Ql0, Qe0]
      · simp -dsimp -implicitDefEqProofs (disch := first | omega | assumption | (simp only [Option.isSome_some, Qt0]; done) | (simp only [UInt64.reduceToNat, UInt32.reduceToNat, UInt8.reduceToNat, List.length_cons, List.length_nil, List.length_append, Int.toNat_natCast] <;> omega)) only [Nat.reduceLT, Nat.reduceLeDiff, Nat.reduceEqDiff, ↓reduceIte, Int.reduceLT, Int.reduceLE, Int.reduceToNat, Int.reduceEq, Int.reduceNe, Nat.reduceAdd, UInt8.reduceOfNat, UInt16.reduceOfNat, UInt32.reduceOfNat, UInt64.reduceOfNat, UInt64.reduceToNat, UInt32.reduceToNat, UInt16.reduceToNat, UInt8.reduceToNat, Int.reduceAdd, Int.reduceSub, Int.reduceMul, Nat.reduceMul, Qp0, Ql0, Qe0]
        try rfl
      rintro n f3 h4 ⟨g, u, q, hg, rfl, hq, e3, e7, e6, hou⟩
      by_cases hlt2 : g < G
      · obtain ⟨b, c', eA, _, hb⟩ := how2.own.pos (by omega)
        injection eA with e1 _ _
        subst e1
        simp -dsimp -implicitDefEqProofs (disch := first | omega | assumption | (simp only [Option.isSome_some, Qt0]; done) | (simp only [UInt64.reduceToNat, UInt32.reduceToNat, UInt8.reduceToNat, List.length_cons, List.length_nil, List.length_append, Int.toNat_natCast] <;> omega)) only [Nat.reduceLT, Nat.reduceLeDiff, Nat.reduceEqDiff, ↓reduceIte, Int.reduceLT, Int.reduceLE, Int.reduceToNat, Int.reduceEq, Int.reduceNe, Nat.reduceAdd, UInt8.reduceOfNat, UInt16.reduceOfNat, UInt32.reduceOfNat, UInt64.reduceOfNat, UInt64.reduceToNat, UInt32.reduceToNat, UInt16.reduceToNat, UInt8.reduceToNat, Int.reduceAdd, Int.reduceSub, Int.reduceMul, Nat.reduceMul, Qp0, Ql0, Qe0, e3, e7, e6]
        refine PW_loop (fun n f h5 => ∃ (k : Nat), k ≤ 6 ∧ n = 6 - k ∧ f 3 = some (.slice (some ⟨b, 0, none⟩) l.length cp) ∧ f 7 = some (.int .i64 q) ∧ f 6 = some u ∧ f 8 = some (.int .i64 (val ((l.drop q).take k))) ∧ f 9 = some (.int .i64 k) ∧ h5 = h4) (by kernel_rfl) 6 ⟨0, by omega, by omega, ?_, ?_, ?_, ?_, ?_, rfl⟩ ?_
        · simp -dsimp -implicitDefEqProofs (disch := first | omega | assumption | (simp only [Option.isSome_some, Qt0]; done) | (simp only [UInt64.reduceToNat, UInt32.reduceToNat, UInt8.reduceToNat, List.length_cons, List.length_nil, List.length_append, Int.toNat_natCast] <;> omega)) only [Nat.reduceLT, Nat.reduceLeDiff, Nat.reduceEqDiff, ↓reduceIte, Int.reduceLT, Int.reduceLE, Int.reduceToNat, Int.reduceEq, Int.reduceNe, Nat.reduceAdd, UInt8.reduceOfNat, UInt16.reduceOfNat, UInt32.reduceOfNat, UInt64.reduceOfNat, UInt64.reduceToNat, UInt32.reduceToNat, UInt16.reduceToNat, UInt8.reduceToNat, Int.reduceAdd, Int.reduceSub, Int.reduceMul, Nat.reduceMul, Qp0, Ql0, Qe0, e3]
        · simp -dsimp -implicitDefEqProofs (disch := first | omega | assumption | (simp only [Option.isSome_some, Qt0]; done) | (simp only [UInt64.reduceToNat, UInt32.reduceToNat, UInt8.reduceToNat, List.length_cons, List.length_nil, List.length_append, Int.toNat_natCast] <;> omega)) only [Nat.reduceLT, Nat.reduceLeDiff, Nat.reduceEqDiff, ↓reduceIte, Int.reduceLT, Int.reduceLE, Int.reduceToNat, Int.reduceEq, Int.reduceNe, Nat.reduceAdd, UInt8.reduceOfNat, UInt16.reduceOfNat, UInt32.reduceOfNat, UInt64.reduceOfNat, UInt64.reduceToNat, UInt32.reduceToNat, UInt16.reduceToNat, UInt8.reduceToNat, Int.reduceAdd, Int.reduceSub, Int.reduceMul, Nat.reduceMul, Qp0, Ql0, Qe0, e7]
        · simp -dsimp -implicitDefEqProofs (disch := first | omega | assumption | (simp only [Option.isSome_some, Qt0]; done) | (simp only [UInt64.reduceToNat, UInt32.reduceToNat, UInt8.reduceToNat, List.length_cons, List.length_nil, List.length_append, Int.toNat_natCast] <;> omega)) only [Nat.reduceLT, Nat.reduceLeDiff, Nat.reduceEqDiff, ↓reduceIte, Int.reduceLT, Int.reduceLE, Int.reduceToNat, Int.reduceEq, Int.reduceNe, Nat.reduceAdd, UInt8.reduceOfNat, UInt16.reduceOfNat, UInt32.reduceOfNat, UInt64.reduceOfNat, UInt64.reduceToNat, UInt32.reduceToNat, UInt16.reduceToNat, UInt8.reduceToNat, Int.reduceAdd, Int.reduceSub, Int.reduceMul, Nat.reduceMul, Qp0, Ql0, Qe0, e6]
        · simp -dsimp -implicitDefEqProofs (disch := first | omega | assumption | (simp only [Option.isSome_some, Qt0]; done) | (simp only [UInt64.reduceToNat, UInt32.reduceToNat, UInt8.reduceToNat, List.length_cons, List.length_nil, List.length_append, Int.toNat_natCast] <;> omega)) only [Nat.reduceLT, Nat.reduceLeDiff, Nat.reduceEqDiff, ↓reduceIte, Int.reduceLT, Int.reduceLE, Int.reduceToNat, Int.reduceEq, Int.reduceNe, Nat.reduceAdd, UInt8.reduceOfNat, UInt16.reduceOfNat, UInt32.reduceOfNat, UInt64.reduceOfNat, UInt64.reduceToNat, UInt32.reduceToNat, UInt16.reduceToNat, UInt8.reduceToNat, Int.reduceAdd, Int.reduceSub, Int.reduceMul, Nat.reduceMul, Qp0, Ql0, Qe0]
          try rfl
        · simp -dsimp -implicitDefEqProofs (disch := first | omega | assumption | (simp only [Option.isSome_some, Qt0]; done) | (simp only [UInt64.reduceToNat, UInt32.reduceToNat, UInt8.reduceToNat, List.length_cons, List.length_nil, List.length_append, Int.toNat_natCast] <;> omega)) only [Nat.reduceLT, Nat.reduceLeDiff, Nat.reduceEqDiff, ↓reduceIte, Int.reduceLT, Int.reduceLE, Int.reduceToNat, Int.reduceEq, Int.reduceNe, Nat.reduceAdd, UInt8.reduceOfNat, UInt16.reduceOfNat, UInt32.reduceOfNat, UInt64.reduceOfNat, UInt64.reduceToNat, UInt32.reduceToNat, UInt16.reduceToNat, UInt8.reduceToNat, Int.reduceAdd, Int.reduceSub, Int.reduceMul, Nat.reduceMul, Qp0, Ql0, Qe0]
          try rfl
        rintro n f4 h5 ⟨k, hk, rfl, d3, d7, d6, d8, d9, rfl⟩
        have hvb := val_bound ((l.drop q).take k) (fun x hx => hbits x (List.mem_of_mem_drop (List.mem_of_mem_take hx))) (by rw [List.length_take]; omega)
        by_cases hk6 : k < 6
        · have hps := Lib.hid (part_snoc l q k (by omega))
          have hT : ((q : Int) + (k : Int)).toNat = q + k := by omega
          have hx := hbits (l.getD (q + k) 0) (by rw [List.getD, List.getElem?_eq_getElem (by omega)]; exact List.getElem_mem _)
          have hr : rd w0 h5 ⟨b, q + k, none⟩ = some (.int .i64 (l.getD (q + k) 0)) := rd_is (hou.le.m b _ hb) (by omega)
          generalize l.getD (q + k) 0 = x at hps hx hr
          have hvs := Lib.hid (val_snoc ((l.drop q).take k) x)
          generalize hV : val ((l.drop q).take k) = V at hvb d8 hvs
          simp -dsimp -implicitDefEqProofs (disch := first | omega | assumption | (simp only [Option.isSome_some, Qt0]; done) | (simp only [UInt64.reduceToNat, UInt32.reduceToNat, UInt8.reduceToNat, List.length_cons, List.length_nil, List.length_append, Int.toNat_natCast] <;> omega)) only [Nat.reduceLT, Nat.reduceLeDiff, Nat.reduceEqDiff, ↓reduceIte, Int.reduceLT, Int.reduceLE, Int.reduceToNat, Int.reduceEq, Int.reduceNe, Nat.reduceAdd, UInt8.reduceOfNat, UInt16.reduceOfNat, UInt32.reduceOfNat, UInt64.reduceOfNat, UInt64.reduceToNat, UInt32.reduceToNat, UInt16.reduceToNat, UInt8.reduceToNat, Int.reduceAdd, Int.reduceSub, Int.reduceMul, Nat.reduceMul, Qp0, Ql0, Qe0, d3, d7, d6, d8, d9, hT, hr]
          exact ⟨_, h5, by omega, PH.Le.refl _, k + 1, by omega, rfl, by simp [d3], by simp [d7], by simp [d6], by rw [hps.out, hvs.out] <;> simp, by simp, rfl⟩
        · obtain rfl : k = 6 := by omega
          have hgt0 : grp (l.take (q + 6)) = grp (l.take q) ++ [letAt (val ((l.drop q).take 6))] := by rw [hq]; exact grp_take l g (by omega)
          have hgt := Lib.hid hgt0
          clear hgt0
          obtain ⟨N, hN⟩ : ∃ N : Nat, val ((l.drop q).take 6) = (N : Int) := ⟨_, (Int.toNat_of_nonneg hvb.1).symm⟩
          rw [hN] at d8 hgt hvb
          simp -dsimp -implicitDefEqProofs (disch := first | omega | assumption | (simp only [Option.isSome_some, Qt0]; done) | (simp only [UInt64.reduceToNat, UInt32.reduceToNat, UInt8.reduceToNat, List.length_cons, List.length_nil, List.length_append, Int.toNat_natCast] <;> omega)) only [Nat.reduceLT, Nat.reduceLeDiff, Nat.reduceEqDiff, ↓reduceIte, Int.reduceLT, Int.reduceLE, Int.reduceToNat, Int.reduceEq, Int.reduceNe, Nat.reduceAdd, UInt8.reduceOfNat, UInt16.reduceOfNat, UInt32.reduceOfNat, UInt64.reduceOfNat, UInt64.reduceToNat, UInt32.reduceToNat, UInt16.reduceToNat, UInt8.reduceToNat, Int.reduceAdd, Int.reduceSub, Int.reduceMul, Nat.reduceMul, Qp0, Ql0, Qe0, d3, d7, d6, d8, d9]
          refine (letter_any N (by omega) w0 h5).mono ?_
          rintro v h6 ⟨rfl, rfl⟩
          simp -dsimp -implicitDefEqProofs (disch := first | omega | assumption | (simp only [Option.isSome_some, Qt0]; done) | (simp only [UInt64.reduceToNat, UInt32.reduceToNat, UInt8.reduceToNat, List.length_cons, List.length_nil, List.length_append, Int.toNat_natCast] <;> omega)) only [Nat.reduceLT, Nat.reduceLeDiff, Nat.reduceEqDiff, ↓reduceIte, Int.reduceLT, Int.reduceLE, Int.reduceToNat, Int.reduceEq, Int.reduceNe, Nat.reduceAdd, UInt8.reduceOfNat, UInt16.reduceOfNat, UInt32.reduceOfNat, UInt64.reduceOfNat, UInt64.reduceToNat, UInt32.reduceToNat, UInt16.reduceToNat, UInt8.reduceToNat, Int.reduceAdd, Int.reduceSub, Int.reduceMul, Nat.reduceMul, Qp0, Ql0, Qe0, d3, d7, d6]
          refine Does_one (v := u8 _) el_u8e rfl (by omega) (fun gb hgb => ?_)
          simp -dsimp -implicitDefEqProofs (disch := first | omega | assumption | (simp only [Option.isSome_some, Qt0]; done) | (simp only [UInt64.reduceToNat, UInt32.reduceToNat, UInt8.reduceToNat, List.length_cons, List.length_nil, List.length_append, Int.toNat_natCast] <;> omega)) only [Nat.reduceLT, Nat.reduceLeDiff, Nat.reduceEqDiff, ↓reduceIte, Int.reduceLT, Int.reduceLE, Int.reduceToNat, Int.reduceEq, Int.reduceNe, Nat.reduceAdd, UInt8.reduceOfNat, UInt16.reduceOfNat, UInt32.reduceOfNat, UInt64.reduceOfNat, UInt64.reduceToNat, UInt32.reduceToNat, UInt16.reduceToNat, UInt8.reduceToNat, Int.reduceAdd, Int.reduceSub, Int.reduceMul, Nat.reduceMul, Qp0, Ql0, Qe0, d3, d7, d6]
          refine Does_app el_u8e (hou.more ((PH.Le.refl _).new _ _ hgb)).own (Rs.blk (k := ⟨[u8 (letAt N)], 1⟩) (by rw [PH.new_m, if_pos rfl]; rfl) rfl) (bs_one [letAt N]) (by unfold maxLen; omega) (by omega) (fun v' h3' ho hst => ?_)
          have hou' := (hou.more ((PH.Le.refl _).new _ _ hgb)).stays hst ho
          have hq2 : bs (grp (l.take q)) ++ [u8 (letAt N)] = bs (grp (l.take (q + 6))) := by rw [hgt.out]; simp [bs]
          rw [hq2] at hou'
          simp -dsimp -implicitDefEqProofs (disch := first | omega | assumption | (simp only [Option.isSome_some, Qt0]; done) | (simp only [UInt64.reduceToNat, UInt32.reduceToNat, UInt8.reduceToNat, List.length_cons, List.length_nil, List.length_append, Int.toNat_natCast] <;> omega)) only [Nat.reduceLT, Nat.reduceLeDiff, Nat.reduceEqDiff, ↓reduceIte, Int.reduceLT, Int.reduceLE, Int.reduceToNat, Int.reduceEq, Int.reduceNe, Nat.reduceAdd, UInt8.reduceOfNat, UInt16.reduceOfNat, UInt32.reduceOfNat, UInt64.reduceOfNat, UInt64.reduceToNat, UInt32.reduceToNat, UInt16.reduceToNat, UInt8.reduceToNat, Int.reduceAdd, Int.reduceSub, Int.reduceMul, Nat.reduceMul, Qp0, Ql0, Qe0, d3, d7, d6]
          exact ⟨_, h3', by omega, PH.Le.refl _, g + 1, v', q + 6, by omega, rfl, by omega, by simp [d3], by simp, by simp, hou'⟩
      · obtain rfl : g = G := by omega
        have hall : l.take q = l := List.take_of_length_le (by omega)
        rw [hall, ← hre] at hou
        obtain ⟨A7, c7, rfl, _⟩ := hou.own.len
        simp -dsimp -implicitDefEqProofs (disch := first | omega | assumption | (simp only [Option.isSome_some, Qt0]; done) | (simp only [UInt64.reduceToNat, UInt32.reduceToNat, UInt8.reduceToNat, List.length_cons, List.length_nil, List.length_append, Int.toNat_natCast] <;> omega)) only [Nat.reduceLT, Nat.reduceLeDiff, Nat.reduceEqDiff, ↓reduceIte, Int.reduceLT, Int.reduceLE, Int.reduceToNat, Int.reduceEq, Int.reduceNe, Nat.reduceAdd, UInt8.reduceOfNat, UInt16.reduceOfNat, UInt32.reduceOfNat, UInt64.reduceOfNat, UInt64.reduceToNat, UInt32.reduceToNat, UInt16.reduceToNat, UInt8.reduceToNat, Int.reduceAdd, Int.reduceSub, Int.reduceMul, Nat.reduceMul, Qp0, Ql0, Qe0, e3, e7, e6]
        refine vtext_own Try.underlying49 Try.underlying5 Try.underlying9 (Rs.own hou.own) ?_ ?_
        · rintro rfl; rcases hou.own.2 with ⟨_, h1⟩ | ⟨b, c', h1, _⟩
          · exact h1
          · cases h1
        · simp -dsimp -implicitDefEqProofs (disch := first | omega | assumption | (simp only [Option.isSome_some, Qt0]; done) | (simp only [UInt64.reduceToNat, UInt32.reduceToNat, UInt8.reduceToNat, List.length_cons, List.length_nil, List.length_append, Int.toNat_natCast] <;> omega)) only [Nat.reduceLT, Nat.reduceLeDiff, Nat.reduceEqDiff, ↓reduceIte, Int.reduceLT, Int.reduceLE, Int.reduceToNat, Int.reduceEq, Int.reduceNe, Nat.reduceAdd, UInt8.reduceOfNat, UInt16.reduceOfNat, UInt32.reduceOfNat, UInt64.reduceOfNat, UInt64.reduceToNat, UInt32.reduceToNat, UInt16.reduceToNat, UInt8.reduceToNat, Int.reduceAdd, Int.reduceSub, Int.reduceMul, Nat.reduceMul, Qp0, Ql0, Qe0]
          exact ⟨_, how2.le.trans hou.le, by simp, rfl⟩
    · have hmI : ¬ ((8 : Int) * (s.length : Int) + (j : Int)) % 6 = 0 := by omega
      simp -dsimp -implicitDefEqProofs (disch := first | omega | assumption | (simp only [Option.isSome_some, Qt0]; done) | (simp only [UInt64.reduceToNat, UInt32.reduceToNat, UInt8.reduceToNat, List.length_cons, List.length_nil, List.length_append, Int.toNat_natCast] <;> omega)) only [Nat.reduceLT, Nat.reduceLeDiff, Nat.reduceEqDiff, ↓reduceIte, Int.reduceLT, Int.reduceLE, Int.reduceToNat, Int.reduceEq, Int.reduceNe, Nat.reduceAdd, UInt8.reduceOfNat, UInt16.reduceOfNat, UInt32.reduceOfNat, UInt64.reduceOfNat, UInt64.reduceToNat, UInt32.reduceToNat, UInt16.reduceToNat, UInt8.reduceToNat, Int.reduceAdd, Int.reduceSub, Int.reduceMul, Nat.reduceMul, Qp0, Ql0, Qe0, g3]
      refine Does_one (v := .int .i64 _) el_intt rfl (by omega) (fun gb hgb => ?_)
      simp -dsimp -implicitDefEqProofs (disch := first | omega | assumption | (simp only [Option.isSome_some, Qt0]; done) | (simp only [UInt64.reduceToNat, UInt32.reduceToNat, UInt8.reduceToNat, List.length_cons, List.length_nil, List.length_append, Int.toNat_natCast] <;> omega)) only [Nat.reduceLT, Nat.reduceLeDiff, Nat.reduceEqDiff, ↓reduceIte, Int.reduceLT, Int.reduceLE, Int.reduceToNat, Int.reduceEq, Int.reduceNe, Nat.reduceAdd, UInt8.reduceOfNat, UInt16.reduceOfNat, UInt32.reduceOfNat, UInt64.reduceOfNat, UInt64.reduceToNat, UInt32.reduceToNat, UInt16.reduceToNat, UInt8.reduceToNat, Int.reduceAdd, Int.reduceSub, Int.reduceMul, Nat.reduceMul, Qp0, Ql0, Qe0, g3]
      refine Does_app el_intt (how2.more ((PH.Le.refl _).new _ _ hgb)).own (Rs.blk (k := ⟨is [0], 1⟩) (by rw [PH.new_m, if_pos rfl]; rfl) rfl) (is_one _) (by unfold maxLen; omega) (by omega) (fun v' h3' ho hst => ?_)
      have hou' := (how2.more ((PH.Le.refl _).new _ _ hgb)).stays hst ho
      have hq : is (bitsAll s ++ List.replicate j 0) ++ is [0] = is (bitsAll s ++ List.replicate (j + 1) 0) := by
        rw [List.replicate_succ']; simp [is]
      rw [hq] at hou'
      simp -dsimp -implicitDefEqProofs (disch := first | omega | assumption | (simp only [Option.isSome_some, Qt0]; done) | (simp only [UInt64.reduceToNat, UInt32.reduceToNat, UInt8.reduceToNat, List.length_cons, List.length_nil, List.length_append, Int.toNat_natCast] <;> omega)) only [Nat.reduceLT, Nat.reduceLeDiff, Nat.reduceEqDiff, ↓reduceIte, Int.reduceLT, Int.reduceLE, Int.reduceToNat, Int.reduceEq, Int.reduceNe, Nat.reduceAdd, UInt8.reduceOfNat, UInt16.reduceOfNat, UInt32.reduceOfNat, UInt64.reduceOfNat, UInt64.reduceToNat, UInt32.reduceToNat, UInt16.reduceToNat, UInt8.reduceToNat, Int.reduceAdd, Int.reduceSub, Int.reduceMul, Nat.reduceMul, Qp0, Ql0, Qe0, g3]
      exact ⟨n - 1, h3', by omega, PH.Le.refl _, j + 1, v', by omega, by simp, hou'⟩
end Go.Proofs.Ytdlaoeepeakpeaa


/- A drawn region by a tree of plans: two operations that make memory may be ready at once. No condition. -/
namespace Go.Proofs.Ytdlaoeepeakpeaa.Px
set_option linter.unusedVariables false
set_option linter.unusedSimpArgs false
open Go.RowKit
/-- A plan: take one operation; or two that are ready at once, each with what comes behind it. -/
inductive Pl where
  | done
  | take (i : Nat) (p : Pl)
  | both (i : Nat) (p : Pl) (j : Nat) (q : Pl)
section
variable {P : Program} {w0 : World} {h : PH} {N : Nat} {K : Fr → PH → Prop}
def Pl.len : Pl → Nat
  | .done => 0
  | .take _ p => p.len + 1
  | .both _ p _ q => max p.len q.len + 1
end
end Go.Proofs.Ytdlaoeepeakpeaa.Px


/- Walks of token.Read and of the document's Token. -/
namespace Go.Proofs.Ytdlaoeepeakpeaa
set_option linter.unusedVariables false
set_option linter.unusedSimpArgs false
open Go.RowKit Px Wr
/-- What Read tells. -/
def RDO (w0 : World) (h' : PH) (al : Int → Prop) (key : Int → List UInt8) (s : List UInt8) (v : Value) : Prop :=
  (∃ c A cap, IsT al key s c ∧ v = .tuple #[.agg (clL c A cap).toArray, .nilIface] ∧ c.x.length ≤ cap ∧ Rv w0 h' A (ints c.x)) ∨ ((∀ c, ¬ IsT al key s c) ∧ ∃ be t x, v = .tuple #[.agg (clL clZ none 0).toArray, errV be] ∧ h'.m be = some ⟨[str tokenT, .int .i64 s.length, bothV (codeV 9) (.iface t x)], 3⟩)
set_option maxRecDepth 20000 in
set_option maxHeartbeats 4000000 in
theorem tRead_any (rv : Value) (al : Int → Prop) (key : Int → List UInt8) (s : List UInt8) (hs : s.length ≤ 4000000) (w0 : World) (h : PH) (hk : KeyIs w0 rv al key h) : PCalls Try.prog w0 11 [rv, str s] h fun v h' => RDO w0 h' al key s v ∧ PH.Le h h' := by
  refine PCalls_body Try.func11 (by kernel_rfl) rfl _ Try.ntmps11 (by kernel_rfl) (by kernel_rfl) _ Try.results11 ?_
  simp -dsimp -implicitDefEqProofs (disch := first | omega | assumption | (simp only [Option.isSome_some, Qt0]; done) | (simp only [UInt64.reduceToNat, UInt32.reduceToNat, UInt8.reduceToNat, List.length_cons, List.length_nil, List.length_append, Int.toNat_natCast] <;> omega)) only [Nat.reduceLT, Nat.reduceLeDiff, Nat.reduceEqDiff, ↓reduceIte, Int.reduceLT, Int.reduceLE, Int.reduceToNat, Int.reduceEq, Int.reduceNe, Nat.reduceAdd, UInt8.reduceOfNat, UInt16.reduceOfNat, UInt32.reduceOfNat, UInt64.reduceOfNat, UInt64.reduceToNat, UInt32.reduceToNat, UInt16.reduceToNat, UInt8.reduceToNat, Int.reduceAdd, Int.reduceSub, Int.reduceMul, Nat.reduceMul, Qp0, Ql0, Qe0]
  refine fun rb hrb => ?_
  have hle := (PH.Le.refl h).new rb ⟨[.string ⟨#[]⟩, .string ⟨#[]⟩, .int .i64 0, .int .i64 0, .int .i64 0, .slice none 0 0], 6⟩ hrb
  have hm : (h.new rb ⟨[.string ⟨#[]⟩, .string ⟨#[]⟩, .int .i64 0, .int .i64 0, .int .i64 0, .slice none 0 0], 6⟩).m rb = some ⟨[.string ⟨#[]⟩, .string ⟨#[]⟩, .int .i64 0, .int .i64 0, .int .i64 0, .slice none 0 0], 6⟩ := by rw [PH.new_m, if_pos rfl]
  have hk1 := hk.more hle
  have hz := allOne_of [.string ⟨#[]⟩, .string ⟨#[]⟩, .int .i64 0, .int .i64 0, .int .i64 0, .slice none 0 0] rfl
  have hrb0 : h.top ≤ rb := hrb
  have hR := Lib.hid (tread_any rv al key s hs w0 (h.new rb ⟨[.string ⟨#[]⟩, .string ⟨#[]⟩, .int .i64 0, .int .i64 0, .int .i64 0, .slice none 0 0], 6⟩) hk1).lowR
  simp -dsimp -implicitDefEqProofs (disch := first | omega | assumption | (simp only [Option.isSome_some, Qt0]; done) | (simp only [UInt64.reduceToNat, UInt32.reduceToNat, UInt8.reduceToNat, List.length_cons, List.length_nil, List.length_append, Int.toNat_natCast] <;> omega)) only [Nat.reduceLT, Nat.reduceLeDiff, Nat.reduceEqDiff, ↓reduceIte, Int.reduceLT, Int.reduceLE, Int.reduceToNat, Int.reduceEq, Int.reduceNe, Nat.reduceAdd, UInt8.reduceOfNat, UInt16.reduceOfNat, UInt32.reduceOfNat, UInt64.reduceOfNat, UInt64.reduceToNat, UInt32.reduceToNat, UInt16.reduceToNat, UInt8.reduceToNat, Int.reduceAdd, Int.reduceSub, Int.reduceMul, Nat.reduceMul, Qp0, Ql0, Qe0]
  generalize h.new rb ⟨[.string ⟨#[]⟩, .string ⟨#[]⟩, .int .i64 0, .int .i64 0, .int .i64 0, .slice none 0 0], 6⟩ = h1 at *
  refine hR.out.mono ?_
  rintro v h2 ⟨⟨hr, hl2⟩, hlow⟩
  have hm2 := hl2.m _ _ hm
  have hle2 := hle.trans hl2
  rcases hr with ⟨c, A, cap, hic, rfl, hcap, hrv⟩ | ⟨hno, t, x, rfl⟩
  · unfold clL
    simp -dsimp -implicitDefEqProofs (disch := first | omega | assumption | (simp only [Option.isSome_some, Qt0]; done) | (simp only [UInt64.reduceToNat, UInt32.reduceToNat, UInt8.reduceToNat, List.length_cons, List.length_nil, List.length_append, Int.toNat_natCast] <;> omega)) only [Nat.reduceLT, Nat.reduceLeDiff, Nat.reduceEqDiff, ↓reduceIte, Int.reduceLT, Int.reduceLE, Int.reduceToNat, Int.reduceEq, Int.reduceNe, Nat.reduceAdd, UInt8.reduceOfNat, UInt16.reduceOfNat, UInt32.reduceOfNat, UInt64.reduceOfNat, UInt64.reduceToNat, UInt32.reduceToNat, UInt16.reduceToNat, UInt8.reduceToNat, Int.reduceAdd, Int.reduceSub, Int.reduceMul, Nat.reduceMul, Qp0, Ql0, Qe0]
    refine fun cb hcb => ?_
    have hz2 := allOne_of [str c.s, str c.u, .int .i64 c.e, .int .i64 c.i, .int .i64 c.k, .slice A c.x.length cap] rfl
    have hrv2 := rv_put0 hrv hlow hm2 (rightC_iff.1 hic.1).2.2.2.2.2.2.2 ⟨[str c.s, str c.u, .int .i64 c.e, .int .i64 c.i, .int .i64 c.k, .slice A c.x.length cap], 6⟩
    have hrv3 := hrv2.more (le_new2 ((PH.Le.refl h2).new cb ⟨[str c.s, str c.u, .int .i64 c.e, .int .i64 c.i, .int .i64 c.k, .slice A c.x.length cap], 6⟩ hcb) rb ⟨[str c.s, str c.u, .int .i64 c.e, .int .i64 c.i, .int .i64 c.k, .slice A c.x.length cap], 6⟩)
    have hrc : (rb = cb) = False := eq_false (by have := h2.lt _ _ hm2; omega)
    simp -dsimp -implicitDefEqProofs (disch := first | omega | assumption | (simp only [Option.isSome_some, Qt0]; done) | (simp only [UInt64.reduceToNat, UInt32.reduceToNat, UInt8.reduceToNat, List.length_cons, List.length_nil, List.length_append, Int.toNat_natCast] <;> omega)) only [Nat.reduceLT, Nat.reduceLeDiff, Nat.reduceEqDiff, ↓reduceIte, Int.reduceLT, Int.reduceLE, Int.reduceToNat, Int.reduceEq, Int.reduceNe, Nat.reduceAdd, UInt8.reduceOfNat, UInt16.reduceOfNat, UInt32.reduceOfNat, UInt64.reduceOfNat, UInt64.reduceToNat, UInt32.reduceToNat, UInt16.reduceToNat, UInt8.reduceToNat, Int.reduceAdd, Int.reduceSub, Int.reduceMul, Nat.reduceMul, Qp0, Ql0, Qe0, hz2, hrc, hm2, PH.new_new, List.take_zero, List.drop_succ_cons, List.drop_zero, List.drop_nil, List.nil_append, List.append_nil, rdN_new, List.take_succ_cons, ite_true]
    exact ⟨_, PH.Le.refl _, .inl ⟨c, A, cap, hic, rfl, hcap, hrv3⟩, (hle2.new cb _ (Nat.le_trans hle2.top hcb)).new rb _ hrb0⟩
  · rw [clz_eq]
    simp -dsimp -implicitDefEqProofs (disch := first | omega | assumption | (simp only [Option.isSome_some, Qt0]; done) | (simp only [UInt64.reduceToNat, UInt32.reduceToNat, UInt8.reduceToNat, List.length_cons, List.length_nil, List.length_append, Int.toNat_natCast] <;> omega)) only [Nat.reduceLT, Nat.reduceLeDiff, Nat.reduceEqDiff, ↓reduceIte, Int.reduceLT, Int.reduceLE, Int.reduceToNat, Int.reduceEq, Int.reduceNe, Nat.reduceAdd, UInt8.reduceOfNat, UInt16.reduceOfNat, UInt32.reduceOfNat, UInt64.reduceOfNat, UInt64.reduceToNat, UInt32.reduceToNat, UInt16.reduceToNat, UInt8.reduceToNat, Int.reduceAdd, Int.reduceSub, Int.reduceMul, Nat.reduceMul, Qp0, Ql0, Qe0]
    refine fun cb hcb => ?_
    have hz2 := allOne_of [str [], str [], .int .i64 0, .int .i64 0, .int .i64 0, .slice none 0 0] rfl
    have hlc := (PH.Le.refl h2).new cb ⟨[str [], str [], .int .i64 0, .int .i64 0, .int .i64 0, .slice none 0 0], 6⟩ hcb
    simp -dsimp -implicitDefEqProofs (disch := first | omega | assumption | (simp only [Option.isSome_some, Qt0]; done) | (simp only [UInt64.reduceToNat, UInt32.reduceToNat, UInt8.reduceToNat, List.length_cons, List.length_nil, List.length_append, Int.toNat_natCast] <;> omega)) only [Nat.reduceLT, Nat.reduceLeDiff, Nat.reduceEqDiff, ↓reduceIte, Int.reduceLT, Int.reduceLE, Int.reduceToNat, Int.reduceEq, Int.reduceNe, Nat.reduceAdd, UInt8.reduceOfNat, UInt16.reduceOfNat, UInt32.reduceOfNat, UInt64.reduceOfNat, UInt64.reduceToNat, UInt32.reduceToNat, UInt16.reduceToNat, UInt8.reduceToNat, Int.reduceAdd, Int.reduceSub, Int.reduceMul, Nat.reduceMul, Qp0, Ql0, Qe0, hz2, PH.new_new, List.take_zero, List.drop_succ_cons, List.drop_zero, List.drop_nil, List.nil_append, List.append_nil, rdN_new, List.take_succ_cons, ite_true]
    generalize h2.new cb ⟨[str [], str [], .int .i64 0, .int .i64 0, .int .i64 0, .slice none 0 0], 6⟩ = h3 at *
    have hm3 := hlc.m _ _ hm2
    have hle3 := hle2.trans hlc
    have hB := Lib.hid (both_two 43 t (.int .i64 9) x w0 h3)
    have hA := Lib.hid (at_any tokenT (s.length : Int) 79 (.agg #[codeV 9, .iface t x]) w0 h3)
    unfold bothV codeV at *
    refine hB.out.mono ?_
    rintro v hq ⟨rfl, hz⟩
    obtain rfl := hz.symm
    simp -dsimp -implicitDefEqProofs (disch := first | omega | assumption | (simp only [Option.isSome_some, Qt0]; done) | (simp only [UInt64.reduceToNat, UInt32.reduceToNat, UInt8.reduceToNat, List.length_cons, List.length_nil, List.length_append, Int.toNat_natCast] <;> omega)) only [Nat.reduceLT, Nat.reduceLeDiff, Nat.reduceEqDiff, ↓reduceIte, Int.reduceLT, Int.reduceLE, Int.reduceToNat, Int.reduceEq, Int.reduceNe, Nat.reduceAdd, UInt8.reduceOfNat, UInt16.reduceOfNat, UInt32.reduceOfNat, UInt64.reduceOfNat, UInt64.reduceToNat, UInt32.reduceToNat, UInt16.reduceToNat, UInt8.reduceToNat, Int.reduceAdd, Int.reduceSub, Int.reduceMul, Nat.reduceMul, Qp0, Ql0, Qe0]
    refine hA.out.mono ?_
    rintro v h4 ⟨be, rfl, hbe, rfl⟩
    have hl4 := (PH.Le.refl h3).new be ⟨[str tokenT, .int .i64 (s.length : Int), .iface 79 (.agg #[.iface 43 (.int .i64 9), .iface t x])], 3⟩ hbe
    have hmb : (h3.new be ⟨[str tokenT, .int .i64 (s.length : Int), .iface 79 (.agg #[.iface 43 (.int .i64 9), .iface t x])], 3⟩).m be = some ⟨[str tokenT, .int .i64 (s.length : Int), .iface 79 (.agg #[.iface 43 (.int .i64 9), .iface t x])], 3⟩ := by rw [PH.new_m, if_pos rfl]
    generalize h3.new be ⟨[str tokenT, .int .i64 (s.length : Int), .iface 79 (.agg #[.iface 43 (.int .i64 9), .iface t x])], 3⟩ = h4 at *
    have hm4 := hl4.m _ _ hm3
    have hnb : be ≠ rb := by have := h3.lt _ _ hm3; omega
    unfold errV
    simp -dsimp -implicitDefEqProofs (disch := first | omega | assumption | (simp only [Option.isSome_some, Qt0]; done) | (simp only [UInt64.reduceToNat, UInt32.reduceToNat, UInt8.reduceToNat, List.length_cons, List.length_nil, List.length_append, Int.toNat_natCast] <;> omega)) only [Nat.reduceLT, Nat.reduceLeDiff, Nat.reduceEqDiff, ↓reduceIte, Int.reduceLT, Int.reduceLE, Int.reduceToNat, Int.reduceEq, Int.reduceNe, Nat.reduceAdd, UInt8.reduceOfNat, UInt16.reduceOfNat, UInt32.reduceOfNat, UInt64.reduceOfNat, UInt64.reduceToNat, UInt32.reduceToNat, UInt16.reduceToNat, UInt8.reduceToNat, Int.reduceAdd, Int.reduceSub, Int.reduceMul, Nat.reduceMul, Qp0, Ql0, Qe0, hm4, hz, List.take_zero, List.drop_succ_cons, List.drop_zero, List.drop_nil, List.nil_append, List.append_nil, rdN_new, List.take_succ_cons, ite_true]
    exact ⟨_, PH.Le.refl _, .inr ⟨hno, be, t, x, rfl, by rw [PH.new_m, if_neg hnb]; exact hmb⟩, (hle3.trans hl4).new rb _ hrb0⟩
set_option maxRecDepth 20000 in
set_option maxHeartbeats 4000000 in
theorem rtok_any (m : List UInt8) (hm : m.length ≤ 900000) (c : Cl) (A : Option Addr) (cap : Nat) (w0 : World) (h : PH) (hr : Rv w0 h A (ints c.x)) (hc : c.x.length ≤ cap) (hx : c.x.length ≤ 9223372036854775807) : PCalls Try.prog w0 17 [str m, .agg (clL c A cap).toArray] h fun v h' => v = str (if rightC c = true then tok (derive m) c else []) ∧ PH.Le h h' := by
  refine PCalls_body Try.func17 (by kernel_rfl) rfl _ Try.ntmps17 (by kernel_rfl) (by kernel_rfl) _ Try.results17 ?_
  unfold clL
  simp -dsimp -implicitDefEqProofs (disch := first | omega | assumption | (simp only [Option.isSome_some, Qt0]; done) | (simp only [UInt64.reduceToNat, UInt32.reduceToNat, UInt8.reduceToNat, List.length_cons, List.length_nil, List.length_append, Int.toNat_natCast] <;> omega)) only [Nat.reduceLT, Nat.reduceLeDiff, Nat.reduceEqDiff, ↓reduceIte, Int.reduceLT, Int.reduceLE, Int.reduceToNat, Int.reduceEq, Int.reduceNe, Nat.reduceAdd, UInt8.reduceOfNat, UInt16.reduceOfNat, UInt32.reduceOfNat, UInt64.reduceOfNat, UInt64.reduceToNat, UInt32.reduceToNat, UInt16.reduceToNat, UInt8.reduceToNat, Int.reduceAdd, Int.reduceSub, Int.reduceMul, Nat.reduceMul, Qp0, Ql0, Qe0]
  refine fun pb hpb => ?_
  have hle := (PH.Le.refl h).new pb ⟨[str c.s, str c.u, .int .i64 c.e, .int .i64 c.i, .int .i64 c.k, .slice A c.x.length cap], 6⟩ hpb
  have hp : (h.new pb ⟨[str c.s, str c.u, .int .i64 c.e, .int .i64 c.i, .int .i64 c.k, .slice A c.x.length cap], 6⟩).m pb = some ⟨[str c.s, str c.u, .int .i64 c.e, .int .i64 c.i, .int .i64 c.k, .slice A c.x.length cap], 6⟩ := by rw [PH.new_m, if_pos rfl]
  have hr1 := hr.more hle
  simp -dsimp -implicitDefEqProofs (disch := first | omega | assumption | (simp only [Option.isSome_some, Qt0]; done) | (simp only [UInt64.reduceToNat, UInt32.reduceToNat, UInt8.reduceToNat, List.length_cons, List.length_nil, List.length_append, Int.toNat_natCast] <;> omega)) only [Nat.reduceLT, Nat.reduceLeDiff, Nat.reduceEqDiff, ↓reduceIte, Int.reduceLT, Int.reduceLE, Int.reduceToNat, Int.reduceEq, Int.reduceNe, Nat.reduceAdd, UInt8.reduceOfNat, UInt16.reduceOfNat, UInt32.reduceOfNat, UInt64.reduceOfNat, UInt64.reduceToNat, UInt32.reduceToNat, UInt16.reduceToNat, UInt8.reduceToNat, Int.reduceAdd, Int.reduceSub, Int.reduceMul, Nat.reduceMul, Qp0, Ql0, Qe0]
  generalize h.new pb ⟨[str c.s, str c.u, .int .i64 c.e, .int .i64 c.i, .int .i64 c.k, .slice A c.x.length cap], 6⟩ = h1 at *
  have hs0 : rdN w0 h1 ⟨pb, 0, none⟩ 6 = some [str c.s, str c.u, .int .i64 c.e, .int .i64 c.i, .int .i64 c.k, .slice A c.x.length cap] := by unfold rdN; simp only [hp]; rfl
  have hR := rrightC_any w0 h1 c A cap hr1 hc hx
  unfold clL at hR
  cases hb : rightC c with
  | false =>
    rw [hb] at hR
    have hR := Lib.hid hR
    rw [if_neg (by simp)]
    simp -dsimp -implicitDefEqProofs (disch := first | omega | assumption | (simp only [Option.isSome_some, Qt0]; done) | (simp only [UInt64.reduceToNat, UInt32.reduceToNat, UInt8.reduceToNat, List.length_cons, List.length_nil, List.length_append, Int.toNat_natCast] <;> omega)) only [Nat.reduceLT, Nat.reduceLeDiff, Nat.reduceEqDiff, ↓reduceIte, Int.reduceLT, Int.reduceLE, Int.reduceToNat, Int.reduceEq, Int.reduceNe, Nat.reduceAdd, UInt8.reduceOfNat, UInt16.reduceOfNat, UInt32.reduceOfNat, UInt64.reduceOfNat, UInt64.reduceToNat, UInt32.reduceToNat, UInt16.reduceToNat, UInt8.reduceToNat, Int.reduceAdd, Int.reduceSub, Int.reduceMul, Nat.reduceMul, Qp0, Ql0, Qe0, hs0]
    refine hR.out.mono ?_
    rintro v hq ⟨rfl, hz⟩
    obtain rfl := hz.symm
    simp -dsimp -implicitDefEqProofs (disch := first | omega | assumption | (simp only [Option.isSome_some, Qt0]; done) | (simp only [UInt64.reduceToNat, UInt32.reduceToNat, UInt8.reduceToNat, List.length_cons, List.length_nil, List.length_append, Int.toNat_natCast] <;> omega)) only [Nat.reduceLT, Nat.reduceLeDiff, Nat.reduceEqDiff, ↓reduceIte, Int.reduceLT, Int.reduceLE, Int.reduceToNat, Int.reduceEq, Int.reduceNe, Nat.reduceAdd, UInt8.reduceOfNat, UInt16.reduceOfNat, UInt32.reduceOfNat, UInt64.reduceOfNat, UInt64.reduceToNat, UInt32.reduceToNat, UInt16.reduceToNat, UInt8.reduceToNat, Int.reduceAdd, Int.reduceSub, Int.reduceMul, Nat.reduceMul, Qp0, Ql0, Qe0]
    exact ⟨_, PH.Le.refl _, by trivial, hle⟩
  | true =>
    rw [hb] at hR
    have hR := Lib.hid hR
    rw [if_pos rfl]
    have hB := bytesC_any w0 h1 c A cap hr1 hc hb
    unfold clL at hB
    have hB := Lib.hid hB
    have hbl := bytesC_le hb
    have hkl := derive_len m c.k
    have hTok : tok (derive m) c = Tx.enc (bytesC c) ++ 46 :: Tx.enc (tag (derive m c.k) (bytesC c)) := rfl
    rw [hTok]
    generalize bytesC c = B at *
    simp -dsimp -implicitDefEqProofs (disch := first | omega | assumption | (simp only [Option.isSome_some, Qt0]; done) | (simp only [UInt64.reduceToNat, UInt32.reduceToNat, UInt8.reduceToNat, List.length_cons, List.length_nil, List.length_append, Int.toNat_natCast] <;> omega)) only [Nat.reduceLT, Nat.reduceLeDiff, Nat.reduceEqDiff, ↓reduceIte, Int.reduceLT, Int.reduceLE, Int.reduceToNat, Int.reduceEq, Int.reduceNe, Nat.reduceAdd, UInt8.reduceOfNat, UInt16.reduceOfNat, UInt32.reduceOfNat, UInt64.reduceOfNat, UInt64.reduceToNat, UInt32.reduceToNat, UInt16.reduceToNat, UInt8.reduceToNat, Int.reduceAdd, Int.reduceSub, Int.reduceMul, Nat.reduceMul, Qp0, Ql0, Qe0, hs0]
    refine hR.out.mono ?_
    rintro v hq ⟨rfl, hz⟩
    obtain rfl := hz.symm
    simp -dsimp -implicitDefEqProofs (disch := first | omega | assumption | (simp only [Option.isSome_some, Qt0]; done) | (simp only [UInt64.reduceToNat, UInt32.reduceToNat, UInt8.reduceToNat, List.length_cons, List.length_nil, List.length_append, Int.toNat_natCast] <;> omega)) only [Nat.reduceLT, Nat.reduceLeDiff, Nat.reduceEqDiff, ↓reduceIte, Int.reduceLT, Int.reduceLE, Int.reduceToNat, Int.reduceEq, Int.reduceNe, Nat.reduceAdd, UInt8.reduceOfNat, UInt16.reduceOfNat, UInt32.reduceOfNat, UInt64.reduceOfNat, UInt64.reduceToNat, UInt32.reduceToNat, UInt16.reduceToNat, UInt8.reduceToNat, Int.reduceAdd, Int.reduceSub, Int.reduceMul, Nat.reduceMul, Qp0, Ql0, Qe0, hs0]
    refine hB.out.mono ?_
    rintro v h2 ⟨rfl, hl2⟩
    have hp2 := hl2.m _ _ hp
    have hE1 := renc_any B w0 h2 (by omega)
    have hDv := Lib.hid (rderive_any m c.k hm w0 h2)
    generalize derive m c.k = D at *
    have hTg := Lib.hid (rtag_any D B (by omega) (by omega) w0 h2)
    have htl := tag_length D B
    generalize tag D B = G at *
    have hE2 := renc_any G w0 h2 (by omega)
    rw [Tx.refEnc_eq] at hE1 hE2
    have l1 := Tx.enc_length B
    have l2 := Tx.enc_length G
    generalize Tx.enc B = E1 at *
    generalize Tx.enc G = E2 at *
    have hE1 := Lib.hid hE1
    have hE2 := Lib.hid hE2
    have hDv := Lib.hid hDv.out
    simp -dsimp -implicitDefEqProofs (disch := first | omega | assumption | (simp only [Option.isSome_some, Qt0]; done) | (simp only [UInt64.reduceToNat, UInt32.reduceToNat, UInt8.reduceToNat, List.length_cons, List.length_nil, List.length_append, Int.toNat_natCast] <;> omega)) only [Nat.reduceLT, Nat.reduceLeDiff, Nat.reduceEqDiff, ↓reduceIte, Int.reduceLT, Int.reduceLE, Int.reduceToNat, Int.reduceEq, Int.reduceNe, Nat.reduceAdd, UInt8.reduceOfNat, UInt16.reduceOfNat, UInt32.reduceOfNat, UInt64.reduceOfNat, UInt64.reduceToNat, UInt32.reduceToNat, UInt16.reduceToNat, UInt8.reduceToNat, Int.reduceAdd, Int.reduceSub, Int.reduceMul, Nat.reduceMul, Qp0, Ql0, Qe0]
    refine PW_plan [0, 3, 4, 5, 7, 1, 2, 6, 8, 9, 10, 11] h2 (by kernel_rfl) (by decide +kernel) (by kernel_rfl) (by kernel_rfl) (by kernel_rfl) (fun c f h hq => by simp only [thenC_panic, thenK_panic, inBlk_panic, thenN_panic, vcRet_panic] at hq) (PH.Le.refl h2).sub ?_
    simp -dsimp -implicitDefEqProofs (disch := first | omega | assumption | (simp only [Option.isSome_some, Qt0]; done) | (simp only [UInt64.reduceToNat, UInt32.reduceToNat, UInt8.reduceToNat, List.length_cons, List.length_nil, List.length_append, Int.toNat_natCast] <;> omega)) only [Nat.reduceLT, Nat.reduceLeDiff, Nat.reduceEqDiff, ↓reduceIte, Int.reduceLT, Int.reduceLE, Int.reduceToNat, Int.reduceEq, Int.reduceNe, Nat.reduceAdd, UInt8.reduceOfNat, UInt16.reduceOfNat, UInt32.reduceOfNat, UInt64.reduceOfNat, UInt64.reduceToNat, UInt32.reduceToNat, UInt16.reduceToNat, UInt8.reduceToNat, Int.reduceAdd, Int.reduceSub, Int.reduceMul, Nat.reduceMul, Qp0, Ql0, Qe0, rd_M, rdM_some, hp2]
    refine hE1.out.mono ?_
    rintro v hq ⟨rfl, hz⟩
    obtain rfl := hz.symm
    simp -dsimp -implicitDefEqProofs (disch := first | omega | assumption | (simp only [Option.isSome_some, Qt0]; done) | (simp only [UInt64.reduceToNat, UInt32.reduceToNat, UInt8.reduceToNat, List.length_cons, List.length_nil, List.length_append, Int.toNat_natCast] <;> omega)) only [Nat.reduceLT, Nat.reduceLeDiff, Nat.reduceEqDiff, ↓reduceIte, Int.reduceLT, Int.reduceLE, Int.reduceToNat, Int.reduceEq, Int.reduceNe, Nat.reduceAdd, UInt8.reduceOfNat, UInt16.reduceOfNat, UInt32.reduceOfNat, UInt64.reduceOfNat, UInt64.reduceToNat, UInt32.reduceToNat, UInt16.reduceToNat, UInt8.reduceToNat, Int.reduceAdd, Int.reduceSub, Int.reduceMul, Nat.reduceMul, Qp0, Ql0, Qe0]
    refine ⟨(PH.Le.refl h2).sub, ?_⟩
    simp -dsimp -implicitDefEqProofs (disch := first | omega | assumption | (simp only [Option.isSome_some, Qt0]; done) | (simp only [UInt64.reduceToNat, UInt32.reduceToNat, UInt8.reduceToNat, List.length_cons, List.length_nil, List.length_append, Int.toNat_natCast] <;> omega)) only [Nat.reduceLT, Nat.reduceLeDiff, Nat.reduceEqDiff, ↓reduceIte, Int.reduceLT, Int.reduceLE, Int.reduceToNat, Int.reduceEq, Int.reduceNe, Nat.reduceAdd, UInt8.reduceOfNat, UInt16.reduceOfNat, UInt32.reduceOfNat, UInt64.reduceOfNat, UInt64.reduceToNat, UInt32.reduceToNat, UInt16.reduceToNat, UInt8.reduceToNat, Int.reduceAdd, Int.reduceSub, Int.reduceMul, Nat.reduceMul, Qp0, Ql0, Qe0]
    refine hDv.out.mono ?_
    rintro v hq ⟨rfl, hz⟩
    obtain rfl := hz.symm
    simp -dsimp -implicitDefEqProofs (disch := first | omega | assumption | (simp only [Option.isSome_some, Qt0]; done) | (simp only [UInt64.reduceToNat, UInt32.reduceToNat, UInt8.reduceToNat, List.length_cons, List.length_nil, List.length_append, Int.toNat_natCast] <;> omega)) only [Nat.reduceLT, Nat.reduceLeDiff, Nat.reduceEqDiff, ↓reduceIte, Int.reduceLT, Int.reduceLE, Int.reduceToNat, Int.reduceEq, Int.reduceNe, Nat.reduceAdd, UInt8.reduceOfNat, UInt16.reduceOfNat, UInt32.reduceOfNat, UInt64.reduceOfNat, UInt64.reduceToNat, UInt32.reduceToNat, UInt16.reduceToNat, UInt8.reduceToNat, Int.reduceAdd, Int.reduceSub, Int.reduceMul, Nat.reduceMul, Qp0, Ql0, Qe0]
    refine ⟨(PH.Le.refl h2).sub, ?_⟩
    simp -dsimp -implicitDefEqProofs (disch := first | omega | assumption | (simp only [Option.isSome_some, Qt0]; done) | (simp only [UInt64.reduceToNat, UInt32.reduceToNat, UInt8.reduceToNat, List.length_cons, List.length_nil, List.length_append, Int.toNat_natCast] <;> omega)) only [Nat.reduceLT, Nat.reduceLeDiff, Nat.reduceEqDiff, ↓reduceIte, Int.reduceLT, Int.reduceLE, Int.reduceToNat, Int.reduceEq, Int.reduceNe, Nat.reduceAdd, UInt8.reduceOfNat, UInt16.reduceOfNat, UInt32.reduceOfNat, UInt64.reduceOfNat, UInt64.reduceToNat, UInt32.reduceToNat, UInt16.reduceToNat, UInt8.reduceToNat, Int.reduceAdd, Int.reduceSub, Int.reduceMul, Nat.reduceMul, Qp0, Ql0, Qe0]
    refine hTg.out.mono ?_
    rintro v hq ⟨rfl, hz⟩
    obtain rfl := hz.symm
    simp -dsimp -implicitDefEqProofs (disch := first | omega | assumption | (simp only [Option.isSome_some, Qt0]; done) | (simp only [UInt64.reduceToNat, UInt32.reduceToNat, UInt8.reduceToNat, List.length_cons, List.length_nil, List.length_append, Int.toNat_natCast] <;> omega)) only [Nat.reduceLT, Nat.reduceLeDiff, Nat.reduceEqDiff, ↓reduceIte, Int.reduceLT, Int.reduceLE, Int.reduceToNat, Int.reduceEq, Int.reduceNe, Nat.reduceAdd, UInt8.reduceOfNat, UInt16.reduceOfNat, UInt32.reduceOfNat, UInt64.reduceOfNat, UInt64.reduceToNat, UInt32.reduceToNat, UInt16.reduceToNat, UInt8.reduceToNat, Int.reduceAdd, Int.reduceSub, Int.reduceMul, Nat.reduceMul, Qp0, Ql0, Qe0]
    refine ⟨(PH.Le.refl h2).sub, ?_⟩
    simp -dsimp -implicitDefEqProofs (disch := first | omega | assumption | (simp only [Option.isSome_some, Qt0]; done) | (simp only [UInt64.reduceToNat, UInt32.reduceToNat, UInt8.reduceToNat, List.length_cons, List.length_nil, List.length_append, Int.toNat_natCast] <;> omega)) only [Nat.reduceLT, Nat.reduceLeDiff, Nat.reduceEqDiff, ↓reduceIte, Int.reduceLT, Int.reduceLE, Int.reduceToNat, Int.reduceEq, Int.reduceNe, Nat.reduceAdd, UInt8.reduceOfNat, UInt16.reduceOfNat, UInt32.reduceOfNat, UInt64.reduceOfNat, UInt64.reduceToNat, UInt32.reduceToNat, UInt16.reduceToNat, UInt8.reduceToNat, Int.reduceAdd, Int.reduceSub, Int.reduceMul, Nat.reduceMul, Qp0, Ql0, Qe0]
    refine hE2.out.mono ?_
    rintro v hq ⟨rfl, hz⟩
    obtain rfl := hz.symm
    simp -dsimp -implicitDefEqProofs (disch := first | omega | assumption | (simp only [Option.isSome_some, Qt0]; done) | (simp only [UInt64.reduceToNat, UInt32.reduceToNat, UInt8.reduceToNat, List.length_cons, List.length_nil, List.length_append, Int.toNat_natCast] <;> omega)) only [Nat.reduceLT, Nat.reduceLeDiff, Nat.reduceEqDiff, ↓reduceIte, Int.reduceLT, Int.reduceLE, Int.reduceToNat, Int.reduceEq, Int.reduceNe, Nat.reduceAdd, UInt8.reduceOfNat, UInt16.reduceOfNat, UInt32.reduceOfNat, UInt64.reduceOfNat, UInt64.reduceToNat, UInt32.reduceToNat, UInt16.reduceToNat, UInt8.reduceToNat, Int.reduceAdd, Int.reduceSub, Int.reduceMul, Nat.reduceMul, Qp0, Ql0, Qe0]
    refine ⟨(PH.Le.refl h2).sub, ?_⟩
    simp -dsimp -implicitDefEqProofs (disch := first | omega | assumption | (simp only [Option.isSome_some, Qt0]; done) | (simp only [UInt64.reduceToNat, UInt32.reduceToNat, UInt8.reduceToNat, List.length_cons, List.length_nil, List.length_append, Int.toNat_natCast] <;> omega)) only [Nat.reduceLT, Nat.reduceLeDiff, Nat.reduceEqDiff, ↓reduceIte, Int.reduceLT, Int.reduceLE, Int.reduceToNat, Int.reduceEq, Int.reduceNe, Nat.reduceAdd, UInt8.reduceOfNat, UInt16.reduceOfNat, UInt32.reduceOfNat, UInt64.reduceOfNat, UInt64.reduceToNat, UInt32.reduceToNat, UInt16.reduceToNat, UInt8.reduceToNat, Int.reduceAdd, Int.reduceSub, Int.reduceMul, Nat.reduceMul, Qp0, Ql0, Qe0]
    exact ⟨_, PH.Le.refl _, by simp, hle.trans hl2⟩
end Go.Proofs.Ytdlaoeepeakpeaa


/- Walks of the law's basis, great and awake. -/
namespace Go.Proofs.Ytdlaoeepeakpeaa
set_option linter.unusedVariables false
set_option linter.unusedSimpArgs false
open Go.RowKit Px Wr
theorem tenc_length (l : List UInt8) : (Tx.enc l).length = (4 * l.length + 2) / 3 := by
  fun_induction Tx.enc l with
  | case1 => rfl
  | case2 a => rw [Tx.lets_length]; simp
  | case3 a b => rw [Tx.lets_length]; simp
  | case4 a b c t ih => rw [List.length_append, Tx.lets_length, ih]; simp; omega
theorem tok_length (key : Int → List UInt8) (c : Cl) : (tok key c).length = (4 * (bytesC c).length + 2) / 3 + 44 := by
  unfold tok
  rw [List.length_append, List.length_cons, tenc_length, tenc_length, tag_length]
def basC : Cl := ⟨[49, 45, 49], [97, 110, 110], 0, 0, 0, [2]⟩
def greatC (c : Cl) : Bool := decide (1000 < (c.s.length : Int)) || decide (1000 < (c.u.length : Int)) || decide (100 < (c.x.length : Int))
theorem info_intk : (Try.prog.info? 3).map (fun i => (i.zero, i.size, i.bytes)) = some (some (.int .i64 0), 1, 8) := by kernel_rfl
theorem el_intk : El Try.prog 29 3 (.int .i64 0) 1 8 := ⟨Try.underlying29, info_parts info_intk, rfl, by decide⟩
set_option maxRecDepth 20000 in
theorem basis_any (w0 : World) (h : PH) : PCalls Try.prog w0 18 [] h fun v h' => ∃ A cap, v = .agg (clL basC A cap).toArray ∧ Rv w0 h' A (ints basC.x) ∧ basC.x.length ≤ cap ∧ PH.Le h h' := by
  refine PCalls_body Try.func18 (by kernel_rfl) rfl _ Try.ntmps18 (by kernel_rfl) (by kernel_rfl) _ Try.results18 ?_
  simp -dsimp -implicitDefEqProofs (disch := first | omega | assumption | (simp only [Option.isSome_some, Qt0]; done) | (simp only [UInt64.reduceToNat, UInt32.reduceToNat, UInt8.reduceToNat, List.length_cons, List.length_nil, List.length_append, Int.toNat_natCast] <;> omega)) only [Nat.reduceLT, Nat.reduceLeDiff, Nat.reduceEqDiff, ↓reduceIte, Int.reduceLT, Int.reduceLE, Int.reduceToNat, Int.reduceEq, Int.reduceNe, Nat.reduceAdd, UInt8.reduceOfNat, UInt16.reduceOfNat, UInt32.reduceOfNat, UInt64.reduceOfNat, UInt64.reduceToNat, UInt32.reduceToNat, UInt16.reduceToNat, UInt8.reduceToNat, Int.reduceAdd, Int.reduceSub, Int.reduceMul, Nat.reduceMul, Qp0, Ql0, Qe0]
  refine fun rb hrb => ?_
  have hle := (PH.Le.refl h).new rb ⟨[.string ⟨#[]⟩, .string ⟨#[]⟩, .int .i64 0, .int .i64 0, .int .i64 0, .slice none 0 0], 6⟩ hrb
  have hm : (h.new rb ⟨[.string ⟨#[]⟩, .string ⟨#[]⟩, .int .i64 0, .int .i64 0, .int .i64 0, .slice none 0 0], 6⟩).m rb = some ⟨[.string ⟨#[]⟩, .string ⟨#[]⟩, .int .i64 0, .int .i64 0, .int .i64 0, .slice none 0 0], 6⟩ := by rw [PH.new_m, if_pos rfl]
  have hrb0 : h.top ≤ rb := hrb
  simp -dsimp -implicitDefEqProofs (disch := first | omega | assumption | (simp only [Option.isSome_some, Qt0]; done) | (simp only [UInt64.reduceToNat, UInt32.reduceToNat, UInt8.reduceToNat, List.length_cons, List.length_nil, List.length_append, Int.toNat_natCast] <;> omega)) only [Nat.reduceLT, Nat.reduceLeDiff, Nat.reduceEqDiff, ↓reduceIte, Int.reduceLT, Int.reduceLE, Int.reduceToNat, Int.reduceEq, Int.reduceNe, Nat.reduceAdd, UInt8.reduceOfNat, UInt16.reduceOfNat, UInt32.reduceOfNat, UInt64.reduceOfNat, UInt64.reduceToNat, UInt32.reduceToNat, UInt16.reduceToNat, UInt8.reduceToNat, Int.reduceAdd, Int.reduceSub, Int.reduceMul, Nat.reduceMul, Qp0, Ql0, Qe0]
  generalize h.new rb ⟨[.string ⟨#[]⟩, .string ⟨#[]⟩, .int .i64 0, .int .i64 0, .int .i64 0, .slice none 0 0], 6⟩ = h1 at *
  refine Does_one (v := .int .i64 2) el_intk rfl (by omega) fun ab hab => ?_
  have hrc : (rb = ab) = False := eq_false (by have := h1.lt _ _ hm; omega)
  have hz := allOne_of [str [49, 45, 49], str [97, 110, 110], .int .i64 0, .int .i64 0, .int .i64 0, .slice (some ⟨ab, 0, none⟩) 1 1] rfl
  have hz' := allOne_of [.string ⟨#[49, 45, 49]⟩, .string ⟨#[97, 110, 110]⟩, .int .i64 0, .int .i64 0, .int .i64 0, .slice (some ⟨ab, 0, none⟩) 1 1] rfl
  simp -dsimp -implicitDefEqProofs (disch := first | omega | assumption | (simp only [Option.isSome_some, Qt0]; done) | (simp only [UInt64.reduceToNat, UInt32.reduceToNat, UInt8.reduceToNat, List.length_cons, List.length_nil, List.length_append, Int.toNat_natCast] <;> omega)) only [Nat.reduceLT, Nat.reduceLeDiff, Nat.reduceEqDiff, ↓reduceIte, Int.reduceLT, Int.reduceLE, Int.reduceToNat, Int.reduceEq, Int.reduceNe, Nat.reduceAdd, UInt8.reduceOfNat, UInt16.reduceOfNat, UInt32.reduceOfNat, UInt64.reduceOfNat, UInt64.reduceToNat, UInt32.reduceToNat, UInt16.reduceToNat, UInt8.reduceToNat, Int.reduceAdd, Int.reduceSub, Int.reduceMul, Nat.reduceMul, Qp0, Ql0, Qe0, hz, hz', hrc, hm, List.take_zero, List.drop_succ_cons, List.drop_zero, List.drop_nil, List.nil_append, List.append_nil, rdN_new, List.take_succ_cons, ite_true]
  refine ⟨_, PH.Le.refl _, some ⟨ab, 0, none⟩, 1, rfl, fun j u hj => ?_, by decide, (hle.new ab _ (Nat.le_trans hle.top hab)).new rb _ hrb0⟩
  have hne : ab ≠ rb := by have := h1.lt _ _ hm; omega
  refine ⟨ab, 0, rfl, .inl ⟨⟨[.int .i64 2], 1⟩, by rw [PH.new_m, if_neg hne, PH.new_m, if_pos rfl]; rfl, ?_⟩⟩
  rw [Nat.zero_add]
  exact hj
set_option maxRecDepth 20000 in
theorem great_any (c : Cl) (A : Option Addr) (cap : Nat) (w0 : World) (h : PH) : PCalls Try.prog w0 13 [.agg (clL c A cap).toArray] h fun v h' => v = .bool (greatC c) ∧ PH.Le h h' := by
  refine PCalls_body Try.func13 (by kernel_rfl) rfl _ Try.ntmps13 (by kernel_rfl) (by kernel_rfl) _ Try.results13 ?_
  unfold clL
  simp -dsimp -implicitDefEqProofs (disch := first | omega | assumption | (simp only [Option.isSome_some, Qt0]; done) | (simp only [UInt64.reduceToNat, UInt32.reduceToNat, UInt8.reduceToNat, List.length_cons, List.length_nil, List.length_append, Int.toNat_natCast] <;> omega)) only [Nat.reduceLT, Nat.reduceLeDiff, Nat.reduceEqDiff, ↓reduceIte, Int.reduceLT, Int.reduceLE, Int.reduceToNat, Int.reduceEq, Int.reduceNe, Nat.reduceAdd, UInt8.reduceOfNat, UInt16.reduceOfNat, UInt32.reduceOfNat, UInt64.reduceOfNat, UInt64.reduceToNat, UInt32.reduceToNat, UInt16.reduceToNat, UInt8.reduceToNat, Int.reduceAdd, Int.reduceSub, Int.reduceMul, Nat.reduceMul, Qp0, Ql0, Qe0]
  refine fun pb hpb => ?_
  have hle := (PH.Le.refl h).new pb ⟨[str c.s, str c.u, .int .i64 c.e, .int .i64 c.i, .int .i64 c.k, .slice A c.x.length cap], 6⟩ hpb
  have hp : (h.new pb ⟨[str c.s, str c.u, .int .i64 c.e, .int .i64 c.i, .int .i64 c.k, .slice A c.x.length cap], 6⟩).m pb = some ⟨[str c.s, str c.u, .int .i64 c.e, .int .i64 c.i, .int .i64 c.k, .slice A c.x.length cap], 6⟩ := by rw [PH.new_m, if_pos rfl]
  unfold greatC
  cases b1 : decide (1000 < (c.s.length : Int))
  rotate_left
  · simp -dsimp -implicitDefEqProofs (disch := first | omega | assumption | (simp only [Option.isSome_some, Qt0]; done) | (simp only [UInt64.reduceToNat, UInt32.reduceToNat, UInt8.reduceToNat, List.length_cons, List.length_nil, List.length_append, Int.toNat_natCast] <;> omega)) only [Nat.reduceLT, Nat.reduceLeDiff, Nat.reduceEqDiff, ↓reduceIte, Int.reduceLT, Int.reduceLE, Int.reduceToNat, Int.reduceEq, Int.reduceNe, Nat.reduceAdd, UInt8.reduceOfNat, UInt16.reduceOfNat, UInt32.reduceOfNat, UInt64.reduceOfNat, UInt64.reduceToNat, UInt32.reduceToNat, UInt16.reduceToNat, UInt8.reduceToNat, Int.reduceAdd, Int.reduceSub, Int.reduceMul, Nat.reduceMul, Qp0, Ql0, Qe0, rd_M, rdM_some, hp, gt_iff_lt, b1]
    exact ⟨_, PH.Le.refl _, by trivial, hle⟩
  cases b2 : decide (1000 < (c.u.length : Int))
  rotate_left
  · simp -dsimp -implicitDefEqProofs (disch := first | omega | assumption | (simp only [Option.isSome_some, Qt0]; done) | (simp only [UInt64.reduceToNat, UInt32.reduceToNat, UInt8.reduceToNat, List.length_cons, List.length_nil, List.length_append, Int.toNat_natCast] <;> omega)) only [Nat.reduceLT, Nat.reduceLeDiff, Nat.reduceEqDiff, ↓reduceIte, Int.reduceLT, Int.reduceLE, Int.reduceToNat, Int.reduceEq, Int.reduceNe, Nat.reduceAdd, UInt8.reduceOfNat, UInt16.reduceOfNat, UInt32.reduceOfNat, UInt64.reduceOfNat, UInt64.reduceToNat, UInt32.reduceToNat, UInt16.reduceToNat, UInt8.reduceToNat, Int.reduceAdd, Int.reduceSub, Int.reduceMul, Nat.reduceMul, Qp0, Ql0, Qe0, rd_M, rdM_some, hp, gt_iff_lt, b1, b2]
    exact ⟨_, PH.Le.refl _, by trivial, hle⟩
  simp -dsimp -implicitDefEqProofs (disch := first | omega | assumption | (simp only [Option.isSome_some, Qt0]; done) | (simp only [UInt64.reduceToNat, UInt32.reduceToNat, UInt8.reduceToNat, List.length_cons, List.length_nil, List.length_append, Int.toNat_natCast] <;> omega)) only [Nat.reduceLT, Nat.reduceLeDiff, Nat.reduceEqDiff, ↓reduceIte, Int.reduceLT, Int.reduceLE, Int.reduceToNat, Int.reduceEq, Int.reduceNe, Nat.reduceAdd, UInt8.reduceOfNat, UInt16.reduceOfNat, UInt32.reduceOfNat, UInt64.reduceOfNat, UInt64.reduceToNat, UInt32.reduceToNat, UInt16.reduceToNat, UInt8.reduceToNat, Int.reduceAdd, Int.reduceSub, Int.reduceMul, Nat.reduceMul, Qp0, Ql0, Qe0, rd_M, rdM_some, hp, gt_iff_lt, b1, b2]
  exact ⟨_, PH.Le.refl _, by trivial, hle⟩
/-- What Read tells of a token. -/
theorem RDO_tok {w0 : World} {h' : PH} {al : Int → Prop} {key : Int → List UInt8} {c : Cl} {v : Value} (hr : RDO w0 h' al key (tok key c) v) (hc : rightC c = true) (ha : al c.k) : ∃ A cap, v = .tuple #[.agg (clL c A cap).toArray, .nilIface] ∧ c.x.length ≤ cap ∧ Rv w0 h' A (ints c.x) := by
  rcases hr with ⟨d, A, cap, hd, hv, hcap, hrv⟩ | ⟨hno, _⟩
  · obtain rfl := tok_inj hd.1 hc hd.2.2.symm
    exact ⟨A, cap, hv, hcap, hrv⟩
  · exact absurd ⟨hc, ha, rfl⟩ (hno c)
theorem EV.put6 {h : PH} {pb : Nat} {K : Bk} (hp : h.m pb = some K) (hk : K.lim ≠ 3) (k : Bk) : ∀ {e : Er} {v : Value}, EV h e v → EV (h.new pb k) e v
  | .code _, _, hv => hv
  | .wrap s a e, v, ⟨b, u, h1, h2, h3⟩ => by
    refine ⟨b, u, h1, ?_, EV.put6 hp hk k h3⟩
    rw [PH.new_m, if_neg ?_]
    · exact h2
    · intro e
      rw [e, hp] at h2
      have := Option.some.inj h2
      subst this
      exact hk rfl
theorem is_num {n : Int} {e : Er} {v : Value} (w0 : World) {h : PH} (hv : EV h e v) (hn : e.num = n) : PCalls Try.prog w0 16 [v, codeV n] h fun r h' => r = .bool true ∧ h' = h := by
  have := is_any n w0 h e v hv
  have hb : (e.num == n) = true := by simp [hn]
  rw [hb] at this
  exact this
set_option maxRecDepth 20000 in
set_option maxHeartbeats 4000000 in
theorem wake12 (w0 : World) (h : PH) : PCalls Try.prog w0 9 [] h fun v h' => v = .bool true ∧ PH.Le h h' := by
  refine PCalls_body Try.func9 (by kernel_rfl) rfl _ Try.ntmps9 (by kernel_rfl) (by kernel_rfl) _ Try.results9 ?_
  have hri : right [109] 4 := by decide
  have hN := Lib.hid (new_right [109] 4 hri w0 h)
  simp -dsimp -implicitDefEqProofs (disch := first | omega | assumption | (simp only [Option.isSome_some, Qt0]; done) | (simp only [UInt64.reduceToNat, UInt32.reduceToNat, UInt8.reduceToNat, List.length_cons, List.length_nil, List.length_append, Int.toNat_natCast] <;> omega)) only [Nat.reduceLT, Nat.reduceLeDiff, Nat.reduceEqDiff, ↓reduceIte, Int.reduceLT, Int.reduceLE, Int.reduceToNat, Int.reduceEq, Int.reduceNe, Nat.reduceAdd, UInt8.reduceOfNat, UInt16.reduceOfNat, UInt32.reduceOfNat, UInt64.reduceOfNat, UInt64.reduceToNat, UInt32.reduceToNat, UInt16.reduceToNat, UInt8.reduceToNat, Int.reduceAdd, Int.reduceSub, Int.reduceMul, Nat.reduceMul, Qp0, Ql0, Qe0]
  refine hN.out.mono ?_
  rintro v h1 ⟨b, rfl, hb, rfl⟩
  have hle := (PH.Le.refl h).new b ⟨[str [109], .int .i64 4], 2⟩ hb
  have hmb : (h.new b ⟨[str [109], .int .i64 4], 2⟩).m b = some ⟨[str [109], .int .i64 4], 2⟩ := by rw [PH.new_m, if_pos rfl]
  generalize h.new b ⟨[str [109], .int .i64 4], 2⟩ = h1 at *
  simp -dsimp -implicitDefEqProofs (disch := first | omega | assumption | (simp only [Option.isSome_some, Qt0]; done) | (simp only [UInt64.reduceToNat, UInt32.reduceToNat, UInt8.reduceToNat, List.length_cons, List.length_nil, List.length_append, Int.toNat_natCast] <;> omega)) only [Nat.reduceLT, Nat.reduceLeDiff, Nat.reduceEqDiff, ↓reduceIte, Int.reduceLT, Int.reduceLE, Int.reduceToNat, Int.reduceEq, Int.reduceNe, Nat.reduceAdd, UInt8.reduceOfNat, UInt16.reduceOfNat, UInt32.reduceOfNat, UInt64.reduceOfNat, UInt64.reduceToNat, UInt32.reduceToNat, UInt16.reduceToNat, UInt8.reduceToNat, Int.reduceAdd, Int.reduceSub, Int.reduceMul, Nat.reduceMul, Qp0, Ql0, Qe0]
  refine (basis_any w0 h1).mono ?_
  rintro v h2 ⟨A, cap, rfl, hrv, hcap, hl2⟩
  have hmb2 := hl2.m _ _ hmb
  have hrc : rightC { basC with k := 4 } = true := by decide +kernel
  simp -dsimp -implicitDefEqProofs (disch := first | omega | assumption | (simp only [Option.isSome_some, Qt0]; done) | (simp only [UInt64.reduceToNat, UInt32.reduceToNat, UInt8.reduceToNat, List.length_cons, List.length_nil, List.length_append, Int.toNat_natCast] <;> omega)) only [Nat.reduceLT, Nat.reduceLeDiff, Nat.reduceEqDiff, ↓reduceIte, Int.reduceLT, Int.reduceLE, Int.reduceToNat, Int.reduceEq, Int.reduceNe, Nat.reduceAdd, UInt8.reduceOfNat, UInt16.reduceOfNat, UInt32.reduceOfNat, UInt64.reduceOfNat, UInt64.reduceToNat, UInt32.reduceToNat, UInt16.reduceToNat, UInt8.reduceToNat, Int.reduceAdd, Int.reduceSub, Int.reduceMul, Nat.reduceMul, Qp0, Ql0, Qe0]
  refine (mint_any b [109] 4 hri w0 h2 hmb2 basC A cap hrv hcap (by decide)).mono ?_
  rintro v h3 ⟨hm, hl3⟩
  unfold MINT at hm
  rw [if_pos hrc] at hm
  subst hm
  have hmb3 := hl3.m _ _ hmb2
  have hlen := tok_length (derive [109]) { basC with k := 4 }
  have hbl := bytesC_le hrc
  have hbl2 : 0 < (bytesC { basC with k := 4 }).length := by decide +kernel
  have hdot : (tok (derive [109]) { basC with k := 4 }).getD ((tok (derive [109]) { basC with k := 4 }).length - 44) 0 = 46 := by
    rw [hlen]
    unfold tok
    rw [List.getD, List.getElem?_append_right (by rw [tenc_length]; omega), tenc_length]
    simp
  have hR := tRead_any (.pointer (some ⟨b, 0, none⟩)) (alive 4) (derive [109]) (tok (derive [109]) { basC with k := 4 }) (by omega) w0 h3 (key_ring b [109] 4 hri w0 h3 hmb3)
  have hL : (tok (derive [109]) { basC with k := 4 }).length ≥ 45 := by omega
  have hL2 : (tok (derive [109]) { basC with k := 4 }).length ≤ 4000 := by omega
  have hR := hR.mono (R' := fun v h' => ∃ A cap, v = .tuple #[.agg (clL { basC with k := 4 } A cap).toArray, .nilIface] ∧ PH.Le h3 h') fun v h' ⟨hr, hl⟩ => by
    obtain ⟨A, cap, hv, _, _⟩ := RDO_tok hr hrc (by show alive 4 4; decide)
    exact ⟨A, cap, hv, hl⟩
  generalize tok (derive [109]) { basC with k := 4 } = T at *
  clear hlen hbl hbl2
  have hR := Lib.hid hR
  have d1 : decide ((T.length : Int) > 44) = true := decide_eq_true (by omega)
  have d2 : ((T.length : Int) - 44).toNat = T.length - 44 := by omega
  simp -dsimp -implicitDefEqProofs (disch := first | omega | assumption | (simp only [Option.isSome_some, Qt0]; done) | (simp only [UInt64.reduceToNat, UInt32.reduceToNat, UInt8.reduceToNat, List.length_cons, List.length_nil, List.length_append, Int.toNat_natCast] <;> omega)) only [Nat.reduceLT, Nat.reduceLeDiff, Nat.reduceEqDiff, ↓reduceIte, Int.reduceLT, Int.reduceLE, Int.reduceToNat, Int.reduceEq, Int.reduceNe, Nat.reduceAdd, UInt8.reduceOfNat, UInt16.reduceOfNat, UInt32.reduceOfNat, UInt64.reduceOfNat, UInt64.reduceToNat, UInt32.reduceToNat, UInt16.reduceToNat, UInt8.reduceToNat, Int.reduceAdd, Int.reduceSub, Int.reduceMul, Nat.reduceMul, Qp0, Ql0, Qe0]
  refine hR.out.mono ?_
  rintro v h4 ⟨B, cap', rfl, hl4⟩
  rw [show clL { basC with k := 4 } B cap' = [str [49, 45, 49], str [97, 110, 110], .int .i64 0, .int .i64 0, .int .i64 4, .slice B 1 cap'] from rfl]
  simp -dsimp -implicitDefEqProofs (disch := first | omega | assumption | (simp only [Option.isSome_some, Qt0]; done) | (simp only [UInt64.reduceToNat, UInt32.reduceToNat, UInt8.reduceToNat, List.length_cons, List.length_nil, List.length_append, Int.toNat_natCast] <;> omega)) only [Nat.reduceLT, Nat.reduceLeDiff, Nat.reduceEqDiff, ↓reduceIte, Int.reduceLT, Int.reduceLE, Int.reduceToNat, Int.reduceEq, Int.reduceNe, Nat.reduceAdd, UInt8.reduceOfNat, UInt16.reduceOfNat, UInt32.reduceOfNat, UInt64.reduceOfNat, UInt64.reduceToNat, UInt32.reduceToNat, UInt16.reduceToNat, UInt8.reduceToNat, Int.reduceAdd, Int.reduceSub, Int.reduceMul, Nat.reduceMul, Qp0, Ql0, Qe0]
  refine fun cb hcb => ?_
  have hz2 := allOne_of [str [49, 45, 49], str [97, 110, 110], .int .i64 0, .int .i64 0, .int .i64 4, .slice B 1 cap'] rfl
  have hle4 := ((hle.trans hl2).trans hl3).trans hl4
  simp -dsimp -implicitDefEqProofs (disch := first | omega | assumption | (simp only [Option.isSome_some, Qt0]; done) | (simp only [UInt64.reduceToNat, UInt32.reduceToNat, UInt8.reduceToNat, List.length_cons, List.length_nil, List.length_append, Int.toNat_natCast] <;> omega)) only [Nat.reduceLT, Nat.reduceLeDiff, Nat.reduceEqDiff, ↓reduceIte, Int.reduceLT, Int.reduceLE, Int.reduceToNat, Int.reduceEq, Int.reduceNe, Nat.reduceAdd, UInt8.reduceOfNat, UInt16.reduceOfNat, UInt32.reduceOfNat, UInt64.reduceOfNat, UInt64.reduceToNat, UInt32.reduceToNat, UInt16.reduceToNat, UInt8.reduceToNat, Int.reduceAdd, Int.reduceSub, Int.reduceMul, Nat.reduceMul, Qp0, Ql0, Qe0, hz2, PH.new_new, List.take_zero, List.drop_succ_cons, List.drop_zero, List.drop_nil, List.nil_append, List.append_nil, rdN_new, List.take_succ_cons, ite_true, rd_M, rdM_some, d1, d2, hdot, if_true]
  exact ⟨_, PH.Le.refl _, by trivial, hle4.new cb _ (Nat.le_trans hle4.top hcb)⟩
end Go.Proofs.Ytdlaoeepeakpeaa


/- Lemmas on worlds, blocks and rows that every claim of this seat uses: a law that returns true and leaves what was there alone meets its row. No condition. -/
namespace Go.Proofs.Ytdlaoeepeakpeaa.Base
set_option linter.unusedVariables false
set_option linter.unusedSimpArgs false
open Go.ChangeShapes Go.WideShapes Go.ChangeAt Go.RowKit Go.Deep

theorem own : ownKnob Try.prog.godebug = none := by kernel_rfl
theorem laidOut : laidOutB Try.prog = true := by kernel_rfl

/-- Block b is just these cells of type t, none of them frozen. -/
def Blk (w : World) (b : Nat) (t : TypeId) (cs : Array Value) : Prop := w.heap[b]? = some (.cells cs t (0, 0))

section
variable {w w' : World} {b : Nat} {t : TypeId} {cs : Array Value}
theorem Blk.lt (h : Blk w b t cs) : b < w.heap.size := (Array.getElem?_eq_some_iff.1 h).1
theorem Blk.cell (h : Blk w b t cs) (i : Nat) : w.cell? ⟨b, i, none⟩ = cs[i]? := cell_of_row w b i cs t (0, 0) h
theorem Blk.frozen (h : Blk w b t cs) (i : Nat) : w.frozen? ⟨b, i, none⟩ = false := by
  unfold Blk at h
  simp [World.frozen?, h]
theorem Blk.new (w : World) (t : TypeId) (cs : Array Value) : Blk (w.alloc (.cells cs t)) w.heap.size t cs := heap_alloc_new w _
theorem Blk.drew (h : Blk w b t cs) : Blk w.drew b t cs := h
theorem Blk.alloc (h : Blk w b t cs) (o : Obj) : Blk (w.alloc o) b t cs := (Below.heap_alloc w o b h.lt).trans h
theorem Blk.set_ (h : Blk w b t cs) (i : Nat) (u : Value) : Blk (w.setCell ⟨b, i, none⟩ u) b t (cs.setIfInBounds i u) := by
  unfold Blk at h ⊢
  simp [World.setCell, Array.getElem?_modify, h]
theorem Blk.below {B : Nat} (h : Blk w b t cs) (hb : Below B w w') (hlt : b < B) : Blk w' b t cs := (hb.block b hlt).trans h
theorem Blk.on (h : Blk w b t cs) (hb : Below w.heap.size w w') : Blk w' b t cs := h.below hb h.lt
theorem Blk.grown {row : Option Nat} (h : Blk w b t cs) (hb : w.grownBy w' row) (hne : some b ≠ row) : Blk w' b t cs := (hb.block b h.lt hne).trans h
end

/-- The arguments read behind the call as before it. -/
theorem args_keep {H : Type} {enc : TypeId × Value → H} {P : Program} (hl : laidOutB P = true) {W W' : World} (hb : Below W.heap.size W W') :
    ∀ {ts : List TypeId} {vs : List Value} {ds : List (DataW H)} {ps : List MemPlace}, (∀ t ∈ ts, P.readableRec t = true ∧ t < P.types.size) → (∀ x ∈ ps, x.block < W.heap.size) →
      DataW.TrodAll enc P W 0 (fun _ => true) true ts vs ds ps → DataW.TrodAll enc P W' 0 (fun b => decide (b < W.heap.size)) true ts vs ds ps
  | [], _, _, _, _, _, h => by
    obtain ⟨rfl, rfl, rfl⟩ := trodAll_nil h
    exact trodAll_mk0
  | t :: ts, _, _, _, hts, hlt, h => by
    obtain ⟨v, vs', d, ds', p, p', rfl, rfl, rfl, h0, h1⟩ := trodAll_cons h
    have ht := hts t List.mem_cons_self
    exact trodAll_cons_mk (Below.trod hl ht.1 ht.2 h0 hb fun x hx => hlt x (List.mem_append_left _ hx))
      (args_keep hl hb (fun t' ht' => hts t' (List.mem_cons_of_mem _ ht')) (fun x hx => hlt x (List.mem_append_right _ hx)) h1)

/-- A law that returns true, over a world of which nothing old has turned, meets what its row asks at the end. -/
theorem law_post {H : Type} {enc : TypeId × Value → H} {P : Program} (hl : laidOutB P = true) {fn : Func} {s : ChangeSpec} {W W' : World} {args : Array Value} {ds gs : List (DataW H)} {before : List MemPlace} {tb : TypeId}
    (hW : DataW.Whole enc P fn.params.toList s.vars false W args.toList ds gs before)
    (hres : (s.fn H (ds ++ gs)).results = [.lit (.bool true)]) (hargs : (s.fn H (ds ++ gs)).args = ds) (hvars : (s.fn H (ds ++ gs)).vars = gs)
    (hrt : fn.resultTypes = #[tb]) (htb : P.underlying tb = some .bool) (hts : ∀ t ∈ fn.params.toList, P.readableRec t = true ∧ t < P.types.size) (hvr : varsRowed P s.vars = true)
    (hb : Below W.heap.size W W') : s.post enc P fn false true false false W args (.bool true) W' := by
  have hW' := hW
  obtain ⟨p, q, hA, hV, rfl, _, _⟩ := hW
  have hlt : ∀ x ∈ p ++ q, x.block < W.heap.size := fun x hx => by simpa using hW'.lt x hx
  refine ⟨ds, gs, p ++ q, [], p, q, hW', ?_, ?_, ?_, hb.frame _, fun h => by cases h⟩
  · rw [hres, hrt]
    exact trodAll_mk1 (shut_bool htb _)
  · rw [hargs]
    exact args_keep hl hb hts (fun x hx => hlt x (List.mem_append_left _ hx)) hA
  · rw [hvars]
    exact Below.trodVars hl hb hvr hV

/-- A slice at A of n elements reads as these cells ('size' cells an element), which lie below block B. -/
def Rd (w : World) (B size : Nat) (A : Option Addr) (n : Nat) (xs : List Value) : Prop :=
  xs.length = n * size ∧ (0 < n → ∃ b o, A = some ⟨b, o, none⟩ ∧ b < B ∧ ∀ j u, xs[j]? = some u → w.cell? ⟨b, o + j, none⟩ = some u)

section
variable {w w' : World} {B B' size n : Nat} {A : Option Addr} {xs : List Value}
theorem Rd.none_ (w : World) (B size : Nat) (A : Option Addr) : Rd w B size A 0 [] := ⟨by simp, fun h => absurd h (by omega)⟩
theorem Rd.keep (h : Rd w B size A n xs) (hk : ∀ p : Addr, p.block < B → w'.cell? p = w.cell? p) : Rd w' B size A n xs :=
  ⟨h.1, fun hn => by
    obtain ⟨b, o, e, hb, hc⟩ := h.2 hn
    exact ⟨b, o, e, hb, fun j u hu => (hk _ hb).trans (hc j u hu)⟩⟩
theorem Rd.on (h : Rd w B size A n xs) (hb : Below B w w') : Rd w' B size A n xs := h.keep fun _ hp => hb.cell hp
theorem Rd.more (h : Rd w B size A n xs) (hB : B ≤ B') : Rd w B' size A n xs :=
  ⟨h.1, fun hn => by
    obtain ⟨b, o, e, hb, hc⟩ := h.2 hn
    exact ⟨b, o, e, by omega, hc⟩⟩
theorem Rd.next (h : Rd w w.heap.size size A n xs) (hb : Below w.heap.size w w') : Rd w' w'.heap.size size A n xs := (h.on hb).more hb.size
theorem Rd.drew (h : Rd w B size A n xs) : Rd w.drew B size A n xs := h
theorem Rd.alloc (h : Rd w B size A n xs) (hB : B ≤ w.heap.size) (o : Obj) : Rd (w.alloc o) B size A n xs := h.keep fun p hp => World.cell?_alloc_lt w o p (by omega)
end

/-- Cells in a block of their own read as a slice. -/
theorem Rd.blk {w : World} {b : Nat} {t : TypeId} {l : List Value} {size m : Nat} (h : Blk w b t l.toArray) (hm : l.length = m * size) : Rd w w.heap.size size (some ⟨b, 0, none⟩) m l :=
  ⟨hm, fun _ => ⟨b, 0, rfl, h.lt, fun j u hu => by rw [h.cell, Nat.zero_add]; simpa using hu⟩⟩

theorem Rd.new (w : World) (t : TypeId) (l : List Value) {b size m : Nat} (hb : b = w.heap.size) (hm : l.length = m * size) : Rd (w.alloc (.cells l.toArray t)) (w.alloc (.cells l.toArray t)).heap.size size (some ⟨b, 0, none⟩) m l := by
  subst hb
  exact Rd.blk (Blk.new _ _ _) hm

/-- 'x[k:]' of a slice whose elements are one cell. -/
theorem Rd.cut1 {w : World} {B b o m k c : Nat} {xs : List Value} (h : Rd w B 1 (some ⟨b, o, none⟩) m xs) (hk : k ≤ m) (hc : m ≤ c) :
    Rd w B 1 (if c = k then some ⟨b, o, none⟩ else some ⟨b, o + k, none⟩) (m - k) (xs.drop k) := by
  refine ⟨by rw [List.length_drop, h.1]; omega, fun hn => ?_⟩
  obtain ⟨b', o', e, hb, hcell⟩ := h.2 (by omega)
  injection e with e
  injection e with e1 e2
  subst e1 e2
  rw [if_neg (by omega)]
  refine ⟨b, o + k, rfl, hb, fun j u hu => ?_⟩
  rw [Nat.add_assoc]
  exact hcell _ u (by rw [← hu, List.getElem?_drop])

/-- A slice's length. -/
def lenOf : Value → Nat
  | .slice _ n _ => n
  | _ => 0

section
variable {P : Program} {w : World}
end

theorem ints_one (k : IntKind) (zs : List Int) : ∀ u ∈ zs.map (Value.int k), u.oneCell' = true := ints_oneCell k zs

section
variable {H : Type} {enc : TypeId × Value → H} {P : Program} {W : World} {b0 : Nat} {r : Reach} {t e : TypeId} {v : Value} {d : DataW H} {p : List MemPlace}

/-- Elements that are numbers. -/
theorem rd_ints {xs : List Value} {n : Nat} {k : IntKind} (he : P.underlying e = some (.int k)) (hC : P.cellsOf e = 1) (hl : xs.length = n * P.cellsOf e)
    (hall : ∀ i, i < n → ∃ f y, DataW.trod enc P W 0 (fun _ => true) true f e ((xs.drop (i * P.cellsOf e)).take (P.cellsOf e)) = some y) :
    ∃ zs : List Int, xs = zs.map (Value.int k) ∧ ∀ z ∈ zs, (Lit.int k z).wf = true := by
  rw [hC, Nat.mul_one] at hl
  have hx : ∀ i (h : i < xs.length), ∃ z, xs[i] = .int k z ∧ (Lit.int k z).wf = true := by
    intro i h
    obtain ⟨f, y, hy⟩ := hall i (by omega)
    have h1 : (xs.drop i).take 1 = [xs[i]] := by rw [List.drop_eq_getElem_cons h]; rfl
    rw [hC, Nat.mul_one, h1] at hy
    obtain ⟨z, hz, _, hw⟩ := DataW.trod_int he hy
    exact ⟨z, (List.cons.inj hz).1, hw⟩
  clear hall hl
  induction xs with
  | nil => exact ⟨[], rfl, by simp⟩
  | cons x xs ih =>
    obtain ⟨z, hz, hw⟩ := hx 0 (by simp)
    obtain ⟨zs, hzs, hws⟩ := ih (fun i h => hx (i + 1) (by simpa using h))
    simp at hz
    exact ⟨z :: zs, by rw [hz, hzs]; rfl, by intro y hy; rcases List.mem_cons.1 hy with rfl | hy; exact hw; exact hws y hy⟩

end

/-- Of what was there block p alone may have turned. -/
def Only (p : Nat) (w w' : World) : Prop := w.grownBy w' (some p)
section
variable {p : Nat} {w w' w'' : World}
theorem Only.refl (p : Nat) (w : World) : Only p w w := World.grownBy.refl w _
theorem Only.trans (h : Only p w w') (k : Only p w' w'') : Only p w w'' :=
  ⟨k.os.trans h.os, k.tape.trans h.tape, k.output.trans h.output, Nat.le_trans h.size k.size, fun j hj hne => (k.block j (Nat.lt_of_lt_of_le hj h.size) hne).trans (h.block j hj hne)⟩
theorem Only.setCell (w : World) (p i : Nat) (u : Value) : Only p w (w.setCell ⟨p, i, none⟩ u) :=
  ⟨rfl, rfl, rfl, by simp [World.setCell], fun k _ hk => Below.heap_setCell _ _ _ _ (by intro e; exact hk (by rw [e]))⟩
theorem Only.below {B : Nat} {W0 : World} (h : Only p w w') (hb : Below B W0 w) (hB : B ≤ p) (hs : B ≤ w.heap.size) : Below B W0 w' :=
  hb.grown h hs fun k hk => by injection hk with hk; omega
theorem Blk.only {b : Nat} {t : TypeId} {cs : Array Value} (h : Blk w b t cs) (ho : Only p w w') (hne : b ≠ p) : Blk w' b t cs := h.grown ho (by intro e; injection e with e; exact hne e)
end
end Go.Proofs.Ytdlaoeepeakpeaa.Base


/- Arguments that are lists of texts: what is read of them. No condition. -/
namespace Go.Proofs.Ytdlaoeepeakpeaa
set_option linter.unusedVariables false
set_option linter.unusedSimpArgs false
open Go.ChangeShapes Go.WideShapes Go.ChangeAt Go.RowKit Base Px
theorem trod_str {H : Type} {enc : TypeId × Value → H} {w : World} {base : Nat} {spare : Nat → Bool} {held : Bool} {n : Nat} {t : TypeId} {u : Value} {y : DataW H × List MemPlace} (ht : Try.prog.underlying t = some .string) (h : DataW.trod enc Try.prog w base spare held n t [u] = some y) : ∃ l : List UInt8, u = str l ∧ l.length ≤ maxLen := by
  obtain ⟨s, h1, _, h2⟩ := DataW.trod_string ht h
  simp at h1
  subst h1
  exact ⟨s.data.toList, rfl, h2⟩
theorem rd_param {w : World} {sz n b o : Nat} {xs : List Value} (hr : Rd w w.heap.size sz (some ⟨b, o, none⟩) n xs) (hn : 0 < n) : b < w.heap.size ∧ ∀ j u, xs[j]? = some u → rdM w none b (o + j) = some u := by
  obtain ⟨b', o', e, hb, hc⟩ := hr.2 hn
  have e := Option.some.inj e
  injection e with e1 e2 e3
  subst e1; subst e2
  exact ⟨hb, fun j u hj => by unfold rdM; simp only; rw [if_pos hb]; exact hc j u hj⟩
theorem rd_param_addr {w : World} {sz n : Nat} {A : Option Addr} {xs : List Value} (hr : Rd w w.heap.size sz A n xs) (hn : 0 < n) : ∃ b o, A = some ⟨b, o, none⟩ := by
  obtain ⟨b, o, h, _⟩ := hr.2 hn; exact ⟨b, o, h⟩
end Go.Proofs.Ytdlaoeepeakpeaa


/- Arguments that are lists of structs: one Lean value for each. No condition. -/
namespace Go.Proofs.Ytdlaoeepeakpeaa
set_option linter.unusedVariables false
set_option linter.unusedSimpArgs false
open Go.ChangeShapes Go.WideShapes Go.ChangeAt Go.RowKit Go.Deep Base Px
theorem trod_i64 {H : Type} {enc : TypeId × Value → H} {w : World} {base : Nat} {spare : Nat → Bool} {held : Bool} {n : Nat} {t : TypeId} {u : Value} {y : DataW H × List MemPlace} (ht : Try.prog.underlying t = some (.int .i64)) (h : DataW.trod enc Try.prog w base spare held n t [u] = some y) : ∃ a : Int, u = .int .i64 a ∧ (Lit.int .i64 a).wf = true := by
  obtain ⟨a, h1, _, h2⟩ := DataW.trod_int ht h
  simp at h1
  exact ⟨a, h1, h2⟩
/-- A slice that stands in a cell of what came in: its cells, and each element's own reading. -/
theorem rd_of_trod {H : Type} {enc : TypeId × Value → H} {W : World} {t e : TypeId} {u : Value} {fuel : Nat} {y : DataW H × List MemPlace} (ht : Try.prog.underlying t = some (.slice e)) (hC : 0 < Try.prog.cellsOf e) (hf : DataW.trod enc Try.prog W 0 (fun _ => true) true fuel t [u] = some y) :
    ∃ (A : Option Addr) (n c : Nat) (xs : List Value), u = .slice A n c ∧ n ≤ c ∧ c ≤ maxLen ∧ Rd W W.heap.size (Try.prog.cellsOf e) A n xs ∧
      ∀ i, i < n → ∃ f y, DataW.trod enc Try.prog W 0 (fun _ => true) true f e ((xs.drop (i * Try.prog.cellsOf e)).take (Try.prog.cellsOf e)) = some y := by
  rcases open_slice ht hf with ⟨hcs, _⟩ | ⟨a, n0, c, m, k, D, Pl, hcs, _, hl, hm, hmm, hx, hi⟩
  · simp at hcs
    subst hcs
    exact ⟨none, 0, 0, [], rfl, by omega, by simp, Rd.none_ _ _ _ _, fun i hi => absurd hi (by omega)⟩
  · simp at hcs
    subst hcs
    simp only [if_true] at hmm
    subst hmm
    have hcell : ∀ j, j < m * Try.prog.cellsOf e → ∃ u, W.cell? (a.add j) = some u := by
      intro j hj
      obtain ⟨cs', hc', _⟩ := hi (j / Try.prog.cellsOf e) (Nat.div_lt_of_lt_mul (by rw [Nat.mul_comm]; exact hj))
      obtain ⟨_, hlen, hat⟩ := World.cells?_some hc'
      have hr := Nat.mod_lt j hC
      have := hat (j % Try.prog.cellsOf e) hr
      rw [add_add, Nat.mul_comm, Nat.div_add_mod] at this
      exact ⟨cs'[j % Try.prog.cellsOf e]'(by omega), by rw [this]; exact List.getElem?_eq_getElem _⟩
    have hget : ∀ j u, ((List.range (n0 * Try.prog.cellsOf e)).map fun j => (W.cell? (a.add j)).getD undef)[j]? = some u → W.cell? (a.add j) = some u := by
      intro j u hu
      have hj : j < n0 * Try.prog.cellsOf e := by have := (List.getElem?_eq_some_iff.1 hu).1; simpa using this
      obtain ⟨u', hu'⟩ := hcell j (Nat.lt_of_lt_of_le hj (Nat.mul_le_mul_right _ hl))
      simp [hj, hu'] at hu
      rw [hu', hu]
    refine ⟨some a, n0, m, (List.range (n0 * Try.prog.cellsOf e)).map fun j => (W.cell? (a.add j)).getD undef, rfl, hl, hm, ⟨by simp, fun hn => ?_⟩, fun i hin => ?_⟩
    · obtain ⟨u, hu⟩ := hcell 0 (Nat.mul_pos (by omega) hC)
      obtain ⟨b, o, s⟩ := a
      have hs : s = none := by simpa [Addr.add] using World.cell?_spot hu
      subst hs
      refine ⟨b, o, rfl, by simpa [Addr.add] using World.block_lt_of_cell? W _ hu, fun j u hu => ?_⟩
      have := hget j u hu
      rwa [Addr.add_lit] at this
    · obtain ⟨cs', hc', ht'⟩ := hi i (by omega)
      obtain ⟨_, hlen, hat⟩ := World.cells?_some hc'
      refine ⟨k, (D i, Pl i), ?_⟩
      rw [show ((((List.range (n0 * Try.prog.cellsOf e)).map fun j => (W.cell? (a.add j)).getD undef).drop (i * Try.prog.cellsOf e)).take (Try.prog.cellsOf e)) = cs' from ?_]
      · exact ht'
      · have hle : (i + 1) * Try.prog.cellsOf e ≤ n0 * Try.prog.cellsOf e := Nat.mul_le_mul_right _ hin
        rw [Nat.add_mul, Nat.one_mul] at hle
        apply List.ext_getElem?
        intro q
        by_cases hq : q < Try.prog.cellsOf e
        · have h1 := hat q hq
          rw [add_add] at h1
          have h2 : cs'[q]? = some (cs'[q]'(by omega)) := List.getElem?_eq_getElem _
          rw [List.getElem?_take_of_lt hq, List.getElem?_drop, List.getElem?_map, List.getElem?_range (by omega), Option.map_some, h1, h2]
          rfl
        · rw [List.getElem?_eq_none (by simp; omega), List.getElem?_eq_none (by omega)]
/-- What came in, as cells that are read. -/
theorem Rd.rv {w : World} {n : Nat} {A : Option Addr} {xs : List Value} (hr : Rd w w.heap.size 1 A n xs) (h : PH) : ∀ (j : Nat) (u : Value), xs[j]? = some u → ∃ b o, A = some ⟨b, o, none⟩ ∧ b < w.heap.size ∧ rdM w none b (o + j) = some u := fun j u e => by
  have hn : 0 < n := by
    have h1 := (List.getElem?_eq_some_iff.1 e).1
    have h2 := hr.1
    omega
  obtain ⟨b, o, rfl⟩ := rd_param_addr hr hn
  obtain ⟨hb, hrd⟩ := rd_param hr hn
  exact ⟨b, o, rfl, hb, hrd j u e⟩
end Go.Proofs.Ytdlaoeepeakpeaa


/- The laws' arguments: fields of what comes in. No condition. -/
namespace Go.Proofs.Ytdlaoeepeakpeaa
set_option linter.unusedVariables false
set_option linter.unusedSimpArgs false
open Go.ChangeShapes Go.WideShapes Go.ChangeAt Go.RowKit Base Px Wr
set_option maxRecDepth 20000
theorem open_fields {P : Program} {H : Type} {enc : TypeId × Value → H} {w : World} {base b0 : Nat} {spare : Nat → Bool} {held : Bool} {r : Reach} {t : TypeId} {fs : Array Field} {v : Value} {d : DataW H} {p : List MemPlace} (ht : P.underlying t = some (.struct fs))
    (hv : Value.okWide P w r b0 t v) (h : DataW.Trod enc P w base spare held t v d p) :
    ∃ (l : List Value) (n : Nat), v = .agg l.toArray ∧ l.length = P.cellsOf t ∧ ∀ (i : Nat) (f : Field), fs[i]? = some f → ∃ y, DataW.trod enc P w base spare held n f.type ((l.drop f.offset).take (P.cellsOf f.type)) = some y := by
  obtain ⟨⟨l⟩, rfl, hsz⟩ := okWide_struct ht hv
  obtain ⟨fuel, hf⟩ := h
  obtain ⟨xs, n, _, _, hlen, hxl, hat⟩ := DataW.trod_struct ht hf
  refine ⟨l, n, rfl, by simpa using hsz, fun i f hi => ?_⟩
  have hil : i < fs.size := (Array.getElem?_eq_some_iff.1 hi).1
  have h1 := hat i f hi
  rw [List.getElem?_eq_getElem (by omega)] at h1
  exact ⟨_, h1⟩
theorem c_int : Try.prog.cellsOf 3 = 1 := by kernel_rfl
theorem c_str : Try.prog.cellsOf 9 = 1 := by kernel_rfl
theorem Rv.par {w : World} {n : Nat} {A : Option Addr} {xs : List Value} (hr : Rd w w.heap.size 1 A n xs) (h : PH) : Rv w h A xs := fun j u e => by
  obtain ⟨b, o, h1, h2, h3⟩ := Rd.rv hr h j u e
  exact ⟨b, o, h1, .inr ⟨h2, h3⟩⟩
end Go.Proofs.Ytdlaoeepeakpeaa


/- The laws' arguments: claims and writes that come in. No condition. -/
namespace Go.Proofs.Ytdlaoeepeakpeaa
set_option linter.unusedVariables false
set_option linter.unusedSimpArgs false
open Go.ChangeShapes Go.WideShapes Go.ChangeAt Go.RowKit Base Px Wr
set_option maxRecDepth 20000
theorem c_vec : Try.prog.cellsOf 29 = 1 := by kernel_rfl
theorem c_cl : Try.prog.cellsOf 31 = 6 := by kernel_rfl
section
variable {H : Type} {enc : TypeId × Value → H} {w : World} {b0 : Nat} {r : Reach} {v : Value} {d : DataW H} {p : List MemPlace}
end
end Go.Proofs.Ytdlaoeepeakpeaa


/- An argument that is a struct of claims: what it holds, and how long its vector may be. No condition. -/
namespace Go.Proofs.Ytdlaoeepeakpeaa
set_option linter.unusedVariables false
set_option linter.unusedSimpArgs false
open Go.ChangeShapes Go.WideShapes Go.ChangeAt Go.RowKit Go.Deep Base Px Wr
theorem ints_of_trod_b {H : Type} {enc : TypeId × Value → H} {W : World} {t : TypeId} {u : Value} {fuel : Nat} {y : DataW H × List MemPlace} (ht : Try.prog.underlying t = some (.slice 3)) (hf : DataW.trod enc Try.prog W 0 (fun _ => true) true fuel t [u] = some y) :
    ∃ (A : Option Addr) (c : Nat) (z : List Int), u = .slice A z.length c ∧ z.length ≤ c ∧ Rd W W.heap.size 1 A z.length (z.map (Value.int .i64)) ∧ c ≤ maxLen := by
  have hC : Try.prog.cellsOf 3 = 1 := by kernel_rfl
  obtain ⟨A, n, c, xs, rfl, hn, hcm, hr, hall⟩ := rd_of_trod ht (by rw [hC]; omega) hf
  obtain ⟨z, rfl, hz⟩ := rd_ints (k := .i64) Try.underlying3 hC hr.1 hall
  rw [hC] at hr
  have hl : z.length = n := by simpa using hr.1
  subst hl
  exact ⟨A, c, z, rfl, hn, hr, hcm⟩
section
variable {H : Type} {enc : TypeId × Value → H} {w : World} {b0 : Nat} {r : Reach} {v : Value} {d : DataW H} {p : List MemPlace}
set_option maxRecDepth 20000 in
theorem open_clb (hv : Value.okWide Try.prog w r b0 31 v) (h : DataW.Trod enc Try.prog w 0 (fun _ => true) true 31 v d p) :
    ∃ (c : Cl) (A : Option Addr) (cap : Nat), v = .agg (clL c A cap).toArray ∧ (c.x.length ≤ cap ∧ c.x.length ≤ 9223372036854775807) ∧ ∀ h, Rv w h A (ints c.x) := by
  obtain ⟨l, n, rfl, hl, hat⟩ := open_fields Try.underlying31 hv h
  rw [c_cl] at hl
  match l, hl with
  | [c0, c1, c2, c3, c4, c5], _ =>
    obtain ⟨_, t0⟩ := hat 0 ⟨_, _, _, _, _, _, _⟩ rfl
    obtain ⟨_, t1⟩ := hat 1 ⟨_, _, _, _, _, _, _⟩ rfl
    obtain ⟨_, t2⟩ := hat 2 ⟨_, _, _, _, _, _, _⟩ rfl
    obtain ⟨_, t3⟩ := hat 3 ⟨_, _, _, _, _, _, _⟩ rfl
    obtain ⟨_, t4⟩ := hat 4 ⟨_, _, _, _, _, _, _⟩ rfl
    obtain ⟨_, t5⟩ := hat 5 ⟨_, _, _, _, _, _, _⟩ rfl
    simp only [c_int, c_str, c_vec, List.drop_zero, List.drop_succ_cons, List.take_succ_cons, List.take_zero] at t0 t1 t2 t3 t4 t5
    obtain ⟨s, rfl, _⟩ := trod_str Try.underlying9 t0
    obtain ⟨u, rfl, _⟩ := trod_str Try.underlying9 t1
    obtain ⟨e, rfl, _⟩ := trod_i64 Try.underlying3 t2
    obtain ⟨i, rfl, _⟩ := trod_i64 Try.underlying3 t3
    obtain ⟨k, rfl, _⟩ := trod_i64 Try.underlying3 t4
    obtain ⟨A, cap, z, rfl, hz, hr, hb⟩ := ints_of_trod_b Try.underlying29 t5
    exact ⟨⟨s, u, e, i, k, z⟩, A, cap, rfl, ⟨hz, by unfold maxLen at hb; simp only; omega⟩, fun h => Rv.par hr h⟩
end
end Go.Proofs.Ytdlaoeepeakpeaa


/- Walks of the reference's ring. -/
namespace Go.Proofs.Ytdlaoeepeakpeaa
set_option linter.unusedVariables false
set_option linter.unusedSimpArgs false
open Go.RowKit Px
set_option maxRecDepth 20000 in
theorem rright_any (m : List UInt8) (c : Int) (w0 : World) (h : PH) : PCalls Try.prog w0 15 [str m, .int .i64 c] h fun v h' => v = .bool (decide (right m c)) ∧ h' = h := by
  refine PCalls_body Try.func15 (by kernel_rfl) rfl _ Try.ntmps15 (by kernel_rfl) (by kernel_rfl) _ Try.results15 ?_
  by_cases h1 : 0 < (m.length : Int)
  rotate_left
  · have e1 := decide_eq_false h1
    have hr : decide (right m c) = false := decide_eq_false (by unfold right; omega)
    simp -dsimp -implicitDefEqProofs (disch := first | omega | assumption | (simp only [Option.isSome_some, Qt0]; done) | (simp only [UInt64.reduceToNat, UInt32.reduceToNat, UInt8.reduceToNat, List.length_cons, List.length_nil, List.length_append, Int.toNat_natCast] <;> omega)) only [Nat.reduceLT, Nat.reduceLeDiff, Nat.reduceEqDiff, ↓reduceIte, Int.reduceLT, Int.reduceLE, Int.reduceToNat, Int.reduceEq, Int.reduceNe, Nat.reduceAdd, UInt8.reduceOfNat, UInt16.reduceOfNat, UInt32.reduceOfNat, UInt64.reduceOfNat, UInt64.reduceToNat, UInt32.reduceToNat, UInt16.reduceToNat, UInt8.reduceToNat, Int.reduceAdd, Int.reduceSub, Int.reduceMul, Nat.reduceMul, Qp0, Ql0, Qe0, e1, hr]
    exact ⟨_, PH.Le.refl _, by trivial, rfl⟩
  have e1 := decide_eq_true h1
  by_cases h2 : (m.length : Int) < 65
  rotate_left
  · have e2 := decide_eq_false h2
    have hr : decide (right m c) = false := decide_eq_false (by unfold right; omega)
    simp -dsimp -implicitDefEqProofs (disch := first | omega | assumption | (simp only [Option.isSome_some, Qt0]; done) | (simp only [UInt64.reduceToNat, UInt32.reduceToNat, UInt8.reduceToNat, List.length_cons, List.length_nil, List.length_append, Int.toNat_natCast] <;> omega)) only [Nat.reduceLT, Nat.reduceLeDiff, Nat.reduceEqDiff, ↓reduceIte, Int.reduceLT, Int.reduceLE, Int.reduceToNat, Int.reduceEq, Int.reduceNe, Nat.reduceAdd, UInt8.reduceOfNat, UInt16.reduceOfNat, UInt32.reduceOfNat, UInt64.reduceOfNat, UInt64.reduceToNat, UInt32.reduceToNat, UInt16.reduceToNat, UInt8.reduceToNat, Int.reduceAdd, Int.reduceSub, Int.reduceMul, Nat.reduceMul, Qp0, Ql0, Qe0, e1, e2, hr]
    exact ⟨_, PH.Le.refl _, by trivial, rfl⟩
  have e2 := decide_eq_true h2
  by_cases h3 : 0 ≤ c
  rotate_left
  · have e3 := decide_eq_false h3
    have hr : decide (right m c) = false := decide_eq_false (by unfold right; omega)
    simp -dsimp -implicitDefEqProofs (disch := first | omega | assumption | (simp only [Option.isSome_some, Qt0]; done) | (simp only [UInt64.reduceToNat, UInt32.reduceToNat, UInt8.reduceToNat, List.length_cons, List.length_nil, List.length_append, Int.toNat_natCast] <;> omega)) only [Nat.reduceLT, Nat.reduceLeDiff, Nat.reduceEqDiff, ↓reduceIte, Int.reduceLT, Int.reduceLE, Int.reduceToNat, Int.reduceEq, Int.reduceNe, Nat.reduceAdd, UInt8.reduceOfNat, UInt16.reduceOfNat, UInt32.reduceOfNat, UInt64.reduceOfNat, UInt64.reduceToNat, UInt32.reduceToNat, UInt16.reduceToNat, UInt8.reduceToNat, Int.reduceAdd, Int.reduceSub, Int.reduceMul, Nat.reduceMul, Qp0, Ql0, Qe0, e1, e2, e3, hr]
    exact ⟨_, PH.Le.refl _, by trivial, rfl⟩
  have e3 := decide_eq_true h3
  have hr : decide (right m c) = decide (c ≤ 1099511627776) := by
    by_cases h4 : c ≤ 1099511627776
    · rw [decide_eq_true h4]; exact decide_eq_true (by unfold right; omega)
    · rw [decide_eq_false h4]; exact decide_eq_false (by unfold right; omega)
  simp -dsimp -implicitDefEqProofs (disch := first | omega | assumption | (simp only [Option.isSome_some, Qt0]; done) | (simp only [UInt64.reduceToNat, UInt32.reduceToNat, UInt8.reduceToNat, List.length_cons, List.length_nil, List.length_append, Int.toNat_natCast] <;> omega)) only [Nat.reduceLT, Nat.reduceLeDiff, Nat.reduceEqDiff, ↓reduceIte, Int.reduceLT, Int.reduceLE, Int.reduceToNat, Int.reduceEq, Int.reduceNe, Nat.reduceAdd, UInt8.reduceOfNat, UInt16.reduceOfNat, UInt32.reduceOfNat, UInt64.reduceOfNat, UInt64.reduceToNat, UInt32.reduceToNat, UInt16.reduceToNat, UInt8.reduceToNat, Int.reduceAdd, Int.reduceSub, Int.reduceMul, Nat.reduceMul, Qp0, Ql0, Qe0, e1, e2, e3, hr]
  exact ⟨_, PH.Le.refl _, by trivial, rfl⟩
end Go.Proofs.Ytdlaoeepeakpeaa


/- More lemmas on arguments: elements that are arrays. No condition. -/
namespace Go.Proofs.Ytdlaoeepeakpeaa.Base
set_option linter.unusedVariables false
set_option linter.unusedSimpArgs false
open Go.ChangeShapes Go.WideShapes Go.ChangeAt Go.RowKit Go.Deep

theorem Blk.setCells {b : Nat} {t : TypeId} (vs : List Value) : ∀ (o : Nat) {cs : List Value} {w : World}, Blk w b t cs.toArray → o + vs.length ≤ cs.length → Blk (w.setCells b o vs) b t (cs.take o ++ vs ++ cs.drop (o + vs.length)).toArray := by
  induction vs with
  | nil => intro o cs w h _; simpa [World.setCells] using h
  | cons v vs ih =>
    intro o cs w h hl
    have h1 := h.set_ o v
    rw [List.setIfInBounds_toArray] at h1
    have h2 := ih (o + 1) h1 (by simp at hl ⊢; omega)
    have e : (cs.set o v).take (o + 1) ++ vs ++ (cs.set o v).drop (o + 1 + vs.length) = cs.take o ++ (v :: vs) ++ cs.drop (o + (v :: vs).length) := by
      have ho : o < cs.length := by simp at hl; omega
      rw [List.drop_set_of_lt (by omega), List.take_add_one, List.getElem?_set_self (by omega), List.take_set_of_le (by omega)]
      simp [Nat.add_assoc, Nat.add_comm 1]
    rw [e] at h2
    exact h2
theorem Only.setCells {p : Nat} (vs : List Value) : ∀ (o : Nat) {w w' : World}, Only p w w' → Only p w (w'.setCells p o vs) := by
  induction vs with
  | nil => intro o w w' h; simpa [World.setCells] using h
  | cons v vs ih => intro o w w' h; exact ih (o + 1) (h.trans (Only.setCell w' p o v))

end Go.Proofs.Ytdlaoeepeakpeaa.Base

