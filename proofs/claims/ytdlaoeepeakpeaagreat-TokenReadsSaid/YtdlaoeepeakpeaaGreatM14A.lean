/- Parts TxRe, Pt, Tk5, Tk6, TxNv, TxRd, joined. No condition. -/
import Derived.Test.YtdlaoeepeakpeaaGreatM13A
import Derived.Test.YtdlaoeepeakpeaaGreatM12A
import Derived.Test.YtdlaoeepeakpeaaGreatM3A
import Derived.Test.YtdlaoeepeakpeaaGreatM7A
import Derived.Test.YtdlaoeepeakpeaaGreatM11A
/- Walk of the document's Enc. -/
namespace Go.Proofs.YtdlaoeepeakpeaaGreat
set_option linter.unusedVariables false
set_option linter.unusedSimpArgs false
open Go.RowKit Px Tx
theorem bit_eq (c : UInt8) (i : Nat) (hi : i < 8) : (((c >>> UInt8.ofNat (UInt64.ofInt ((i : Int))).toNat).toNat : Nat) : Int) % 2 = bit c i := by
  have e : (UInt64.ofInt ((i : Int))).toNat = i := by simp [UInt64.ofInt]; omega
  rw [e, UInt8.toNat_shiftRight, UInt8.toNat_ofNat', Nat.mod_eq_of_lt (show i % 2 ^ 8 < 8 by omega), Nat.mod_eq_of_lt (show i < 2 ^ 8 by omega), Nat.shiftRight_eq_div_pow]
  rfl
theorem ofInt64_lt (i : Nat) (hi : i < 8) : (UInt64.ofInt ((i : Int))).toNat < 8 := by simp [UInt64.ofInt]; omega
/-- The bits of a byte from the highest one on, all but the lowest j. -/
def top8 (c : UInt8) (j : Nat) : List Int := (bits8 c).take (8 - j)
theorem top8_succ (c : UInt8) (j : Nat) (hj : j < 8) : top8 c (j + 1) ++ [bit c j] = top8 c j := by
  unfold top8 bits8
  match j, hj with
  | 0, _ => rfl
  | 1, _ => rfl
  | 2, _ => rfl
  | 3, _ => rfl
  | 4, _ => rfl
  | 5, _ => rfl
  | 6, _ => rfl
  | 7, _ => rfl
theorem bitsAll_snoc (s : List UInt8) (k : Nat) (h : k < s.length) : bitsAll (s.take (k + 1)) = bitsAll (s.take k) ++ bits8 (s.getD k 0) := by
  rw [take_snoc8 s k h]; simp [bitsAll]
set_option maxRecDepth 20000 in
set_option maxHeartbeats 4000000 in
theorem renc_any (s : List UInt8) (w0 : World) (h : PH) (hs : s.length ≤ 1000000) : PCalls Tryz.prog w0 39 [str s] h fun v h' => v = str (refEnc s) ∧ h' = h := by
  refine PCalls_body Tryz.func39 (by kernel_rfl) rfl _ Tryz.ntmps39 (by kernel_rfl) (by kernel_rfl) _ Tryz.results39 ?_
  simp -dsimp -implicitDefEqProofs (disch := first | omega | assumption | (simp only [Option.isSome_some,Qt0]; done) | (simp only [List.length_cons,List.length_nil,List.length_append,Int.toNat_natCast] <;> omega)) only [Nat.reduceLT,Nat.reduceLeDiff,Nat.reduceEqDiff,↓reduceIte,Int.reduceLT,Int.reduceLE,Int.reduceToNat,Int.reduceEq,Int.reduceNe,Nat.reduceAdd,Int.reduceAdd,Int.reduceSub,Int.reduceMul,Nat.reduceMul,Qp0,Ql0,Qe0]
  refine Does_zero el_intt (fun b0 hb0 => ?_)
  have how0 := OwnS.zero (h := h) 1 hb0
  simp -dsimp -implicitDefEqProofs (disch := first | omega | assumption | (simp only [Option.isSome_some,Qt0]; done) | (simp only [List.length_cons,List.length_nil,List.length_append,Int.toNat_natCast] <;> omega)) only [Nat.reduceLT,Nat.reduceLeDiff,Nat.reduceEqDiff,↓reduceIte,Int.reduceLT,Int.reduceLE,Int.reduceToNat,Int.reduceEq,Int.reduceNe,Nat.reduceAdd,Int.reduceAdd,Int.reduceSub,Int.reduceMul,Nat.reduceMul,Qp0,Ql0,Qe0]
  refine PW_loop (fun n f h' => ∃ (k : Nat) (v : Value), k ≤ s.length ∧ n = s.length - k ∧ f 0 = some (str s) ∧ f 4 = some (.int .i64 k) ∧ f 3 = some v ∧ OwnS h h' 1 v (8 * k) (is (bitsAll (s.take k)))) (by kernel_rfl) s.length ⟨0, _, by omega, by omega, ?_, ?_, ?_, how0⟩ ?_
  · simp -dsimp -implicitDefEqProofs (disch := first | omega | assumption | (simp only [Option.isSome_some,Qt0]; done) | (simp only [List.length_cons,List.length_nil,List.length_append,Int.toNat_natCast] <;> omega)) only [Nat.reduceLT,Nat.reduceLeDiff,Nat.reduceEqDiff,↓reduceIte,Int.reduceLT,Int.reduceLE,Int.reduceToNat,Int.reduceEq,Int.reduceNe,Nat.reduceAdd,Int.reduceAdd,Int.reduceSub,Int.reduceMul,Nat.reduceMul,Qp0,Ql0,Qe0]
  · simp -dsimp -implicitDefEqProofs (disch := first | omega | assumption | (simp only [Option.isSome_some,Qt0]; done) | (simp only [List.length_cons,List.length_nil,List.length_append,Int.toNat_natCast] <;> omega)) only [Nat.reduceLT,Nat.reduceLeDiff,Nat.reduceEqDiff,↓reduceIte,Int.reduceLT,Int.reduceLE,Int.reduceToNat,Int.reduceEq,Int.reduceNe,Nat.reduceAdd,Int.reduceAdd,Int.reduceSub,Int.reduceMul,Nat.reduceMul,Qp0,Ql0,Qe0]
  · simp -dsimp -implicitDefEqProofs (disch := first | omega | assumption | (simp only [Option.isSome_some,Qt0]; done) | (simp only [List.length_cons,List.length_nil,List.length_append,Int.toNat_natCast] <;> omega)) only [Nat.reduceLT,Nat.reduceLeDiff,Nat.reduceEqDiff,↓reduceIte,Int.reduceLT,Int.reduceLE,Int.reduceToNat,Int.reduceEq,Int.reduceNe,Nat.reduceAdd,Int.reduceAdd,Int.reduceSub,Int.reduceMul,Nat.reduceMul,Qp0,Ql0,Qe0]
    try rfl
  rintro n f h' ⟨k, v, hk, rfl, h0, h4, h3, how⟩
  by_cases hlt : k < s.length
  · have hbs := Lib.hid (bitsAll_snoc s k hlt)
    obtain ⟨c, hc⟩ : ∃ c, c = s.getD k 0 := ⟨_, rfl⟩
    rw [← hc] at hbs
    simp -dsimp -implicitDefEqProofs (disch := first | omega | assumption | (simp only [Option.isSome_some,Qt0]; done) | (simp only [List.length_cons,List.length_nil,List.length_append,Int.toNat_natCast] <;> omega)) only [Nat.reduceLT,Nat.reduceLeDiff,Nat.reduceEqDiff,↓reduceIte,Int.reduceLT,Int.reduceLE,Int.reduceToNat,Int.reduceEq,Int.reduceNe,Nat.reduceAdd,Int.reduceAdd,Int.reduceSub,Int.reduceMul,Nat.reduceMul,Qp0,Ql0,Qe0,h0,h4,h3]
    refine PW_loop (fun n f h2 => ∃ (v : Value), n ≤ 8 ∧ f 0 = some (str s) ∧ f 4 = some (.int .i64 k) ∧ f 5 = some (.int .i64 ((n : Int) - 1)) ∧ f 3 = some v ∧ OwnS h h2 1 v (8 * k + (8 - n)) (is (bitsAll (s.take k) ++ top8 c n))) (by kernel_rfl) 8 ⟨v, by omega, ?_, ?_, ?_, ?_, by simpa [top8] using how⟩ ?_
    · simp -dsimp -implicitDefEqProofs (disch := first | omega | assumption | (simp only [Option.isSome_some,Qt0]; done) | (simp only [List.length_cons,List.length_nil,List.length_append,Int.toNat_natCast] <;> omega)) only [Nat.reduceLT,Nat.reduceLeDiff,Nat.reduceEqDiff,↓reduceIte,Int.reduceLT,Int.reduceLE,Int.reduceToNat,Int.reduceEq,Int.reduceNe,Nat.reduceAdd,Int.reduceAdd,Int.reduceSub,Int.reduceMul,Nat.reduceMul,Qp0,Ql0,Qe0,h0]
    · simp -dsimp -implicitDefEqProofs (disch := first | omega | assumption | (simp only [Option.isSome_some,Qt0]; done) | (simp only [List.length_cons,List.length_nil,List.length_append,Int.toNat_natCast] <;> omega)) only [Nat.reduceLT,Nat.reduceLeDiff,Nat.reduceEqDiff,↓reduceIte,Int.reduceLT,Int.reduceLE,Int.reduceToNat,Int.reduceEq,Int.reduceNe,Nat.reduceAdd,Int.reduceAdd,Int.reduceSub,Int.reduceMul,Nat.reduceMul,Qp0,Ql0,Qe0,h4]
    · simp -dsimp -implicitDefEqProofs (disch := first | omega | assumption | (simp only [Option.isSome_some,Qt0]; done) | (simp only [List.length_cons,List.length_nil,List.length_append,Int.toNat_natCast] <;> omega)) only [Nat.reduceLT,Nat.reduceLeDiff,Nat.reduceEqDiff,↓reduceIte,Int.reduceLT,Int.reduceLE,Int.reduceToNat,Int.reduceEq,Int.reduceNe,Nat.reduceAdd,Int.reduceAdd,Int.reduceSub,Int.reduceMul,Nat.reduceMul,Qp0,Ql0,Qe0]
      try rfl
    · simp -dsimp -implicitDefEqProofs (disch := first | omega | assumption | (simp only [Option.isSome_some,Qt0]; done) | (simp only [List.length_cons,List.length_nil,List.length_append,Int.toNat_natCast] <;> omega)) only [Nat.reduceLT,Nat.reduceLeDiff,Nat.reduceEqDiff,↓reduceIte,Int.reduceLT,Int.reduceLE,Int.reduceToNat,Int.reduceEq,Int.reduceNe,Nat.reduceAdd,Int.reduceAdd,Int.reduceSub,Int.reduceMul,Nat.reduceMul,Qp0,Ql0,Qe0,h3]
    rintro n f2 h2 ⟨v2, hn, g0, g4, g5, g3, how2⟩
    rcases n with _ | j
    · have e0 : top8 c 0 = bits8 c := rfl
      rw [e0, ← hbs.out] at how2
      simp -dsimp -implicitDefEqProofs (disch := first | omega | assumption | (simp only [Option.isSome_some,Qt0]; done) | (simp only [List.length_cons,List.length_nil,List.length_append,Int.toNat_natCast] <;> omega)) only [Nat.reduceLT,Nat.reduceLeDiff,Nat.reduceEqDiff,↓reduceIte,Int.reduceLT,Int.reduceLE,Int.reduceToNat,Int.reduceEq,Int.reduceNe,Nat.reduceAdd,Int.reduceAdd,Int.reduceSub,Int.reduceMul,Nat.reduceMul,Qp0,Ql0,Qe0,g0,g4,g5,g3]
      exact ⟨_, h2, by omega, PH.Le.refl _, k + 1, v2, by omega, rfl, by simp [g0], by simp [g4], by simp [g3], how2⟩
    · have e5 : (((j + 1 : Nat) : Int) - 1) = (j : Int) := by omega
      have hbt := Lib.hid (bit_eq c j (by omega))
      have hol := ofInt64_lt j (by omega)
      rw [e5] at g5
      simp -dsimp -implicitDefEqProofs (disch := first | omega | assumption | (simp only [Option.isSome_some,Qt0]; done) | (simp only [List.length_cons,List.length_nil,List.length_append,Int.toNat_natCast] <;> omega)) only [Nat.reduceLT,Nat.reduceLeDiff,Nat.reduceEqDiff,↓reduceIte,Int.reduceLT,Int.reduceLE,Int.reduceToNat,Int.reduceEq,Int.reduceNe,Nat.reduceAdd,Int.reduceAdd,Int.reduceSub,Int.reduceMul,Nat.reduceMul,Qp0,Ql0,Qe0,g0,g4,g5,g3,← hc]
      rw [hbt.out]
      refine Does_one (v := .int .i64 _) el_intt rfl (by omega) (fun gb hgb => ?_)
      simp -dsimp -implicitDefEqProofs (disch := first | omega | assumption | (simp only [Option.isSome_some,Qt0]; done) | (simp only [List.length_cons,List.length_nil,List.length_append,Int.toNat_natCast] <;> omega)) only [Nat.reduceLT,Nat.reduceLeDiff,Nat.reduceEqDiff,↓reduceIte,Int.reduceLT,Int.reduceLE,Int.reduceToNat,Int.reduceEq,Int.reduceNe,Nat.reduceAdd,Int.reduceAdd,Int.reduceSub,Int.reduceMul,Nat.reduceMul,Qp0,Ql0,Qe0,g0,g4,g5,g3]
      refine Does_app el_intt (how2.more ((PH.Le.refl _).new _ _ hgb)).own (Rs.blk (k := ⟨is [bit c j], 1⟩) (by rw [PH.new_m, if_pos rfl]; rfl) rfl) (is_one _) (by unfold maxLen; omega) (by omega) (fun v' h3' ho hst => ?_)
      have hou' := (how2.more ((PH.Le.refl _).new _ _ hgb)).stays hst ho
      have hq : is (bitsAll (s.take k) ++ top8 c (j + 1)) ++ is [bit c j] = is (bitsAll (s.take k) ++ top8 c j) := by
        rw [← top8_succ c j (by omega)]; simp [is]
      rw [hq, show 8 * k + (8 - (j + 1)) + 1 = 8 * k + (8 - j) by omega] at hou'
      simp -dsimp -implicitDefEqProofs (disch := first | omega | assumption | (simp only [Option.isSome_some,Qt0]; done) | (simp only [List.length_cons,List.length_nil,List.length_append,Int.toNat_natCast] <;> omega)) only [Nat.reduceLT,Nat.reduceLeDiff,Nat.reduceEqDiff,↓reduceIte,Int.reduceLT,Int.reduceLE,Int.reduceToNat,Int.reduceEq,Int.reduceNe,Nat.reduceAdd,Int.reduceAdd,Int.reduceSub,Int.reduceMul,Nat.reduceMul,Qp0,Ql0,Qe0,g0,g4,g5,g3]
      exact ⟨j, h3', by omega, PH.Le.refl _, v', by omega, by simp [g0], by simp [g4], by simp, by simp, hou'⟩
  · obtain rfl : k = s.length := by omega
    rw [List.take_length] at how
    have hbl := bitsAll_length s
    simp -dsimp -implicitDefEqProofs (disch := first | omega | assumption | (simp only [Option.isSome_some,Qt0]; done) | (simp only [List.length_cons,List.length_nil,List.length_append,Int.toNat_natCast] <;> omega)) only [Nat.reduceLT,Nat.reduceLeDiff,Nat.reduceEqDiff,↓reduceIte,Int.reduceLT,Int.reduceLE,Int.reduceToNat,Int.reduceEq,Int.reduceNe,Nat.reduceAdd,Int.reduceAdd,Int.reduceSub,Int.reduceMul,Nat.reduceMul,Qp0,Ql0,Qe0,h0,h4,h3]
    refine PW_loop (fun n f h2 => ∃ (j : Nat) (v : Value), j + n = (6 - 8 * s.length % 6) % 6 ∧ f 3 = some v ∧ OwnS h h2 1 v (8 * s.length + j) (is (bitsAll s ++ List.replicate j 0))) (by kernel_rfl) _ ⟨0, v, Nat.zero_add _, ?_, by simpa using how⟩ ?_
    · simp -dsimp -implicitDefEqProofs (disch := first | omega | assumption | (simp only [Option.isSome_some,Qt0]; done) | (simp only [List.length_cons,List.length_nil,List.length_append,Int.toNat_natCast] <;> omega)) only [Nat.reduceLT,Nat.reduceLeDiff,Nat.reduceEqDiff,↓reduceIte,Int.reduceLT,Int.reduceLE,Int.reduceToNat,Int.reduceEq,Int.reduceNe,Nat.reduceAdd,Int.reduceAdd,Int.reduceSub,Int.reduceMul,Nat.reduceMul,Qp0,Ql0,Qe0,h3]
    rintro n f2 h2 ⟨j, v2, hj, g3, how2⟩
    obtain ⟨A, cp, rfl, hcp⟩ := how2.own.len
    by_cases hmore : (8 * s.length + j) % 6 = 0
    · have hpad := padded_at (bitsAll s) j (by rw [hbl]; exact hmore) (by omega)
      rw [← hpad] at how2
      have hL6 := padded_length (bitsAll s)
      have hLle := padded_le (bitsAll s)
      have hLeq : (padded (bitsAll s)).length = 8 * s.length + j := by rw [hpad]; simp [hbl]
      have hbits := padded_bits s
      have hre : refEnc s = grp (padded (bitsAll s)) := rfl
      generalize padded (bitsAll s) = l at hpad how2 hL6 hLle hLeq hbits hre
      rw [← hLeq] at how2 g3 hmore
      have hLeqI : (8 : Int) * (s.length : Int) + (j : Int) = (l.length : Int) := by omega
      clear hpad
      simp -dsimp -implicitDefEqProofs (disch := first | omega | assumption | (simp only [Option.isSome_some,Qt0]; done) | (simp only [List.length_cons,List.length_nil,List.length_append,Int.toNat_natCast] <;> omega)) only [Nat.reduceLT,Nat.reduceLeDiff,Nat.reduceEqDiff,↓reduceIte,Int.reduceLT,Int.reduceLE,Int.reduceToNat,Int.reduceEq,Int.reduceNe,Nat.reduceAdd,Int.reduceAdd,Int.reduceSub,Int.reduceMul,Nat.reduceMul,Qp0,Ql0,Qe0,g3,hLeqI]
      obtain ⟨G, hG⟩ : ∃ G, l.length = 6 * G := ⟨l.length / 6, by omega⟩
      refine Does_zero el_u8e (fun b1 hb1 => ?_)
      have how3 := OwnS.zero (h := h2) 1 hb1
      simp -dsimp -implicitDefEqProofs (disch := first | omega | assumption | (simp only [Option.isSome_some,Qt0]; done) | (simp only [List.length_cons,List.length_nil,List.length_append,Int.toNat_natCast] <;> omega)) only [Nat.reduceLT,Nat.reduceLeDiff,Nat.reduceEqDiff,↓reduceIte,Int.reduceLT,Int.reduceLE,Int.reduceToNat,Int.reduceEq,Int.reduceNe,Nat.reduceAdd,Int.reduceAdd,Int.reduceSub,Int.reduceMul,Nat.reduceMul,Qp0,Ql0,Qe0,g3]
      refine PW_loop (fun n f h4 => ∃ (g : Nat) (u : Value) (q : Nat), g ≤ G ∧ n = G - g ∧ q = 6 * g ∧ f 3 = some (.slice A l.length cp) ∧ f 7 = some (.int .i64 q) ∧ f 6 = some u ∧ OwnS h2 h4 1 u g (bs (grp (l.take q)))) (by kernel_rfl) G ⟨0, _, 0, by omega, by omega, rfl, ?_, ?_, ?_, how3⟩ ?_
      · simp -dsimp -implicitDefEqProofs (disch := first | omega | assumption | (simp only [Option.isSome_some,Qt0]; done) | (simp only [List.length_cons,List.length_nil,List.length_append,Int.toNat_natCast] <;> omega)) only [Nat.reduceLT,Nat.reduceLeDiff,Nat.reduceEqDiff,↓reduceIte,Int.reduceLT,Int.reduceLE,Int.reduceToNat,Int.reduceEq,Int.reduceNe,Nat.reduceAdd,Int.reduceAdd,Int.reduceSub,Int.reduceMul,Nat.reduceMul,Qp0,Ql0,Qe0,g3]
      · simp -dsimp -implicitDefEqProofs (disch := first | omega | assumption | (simp only [Option.isSome_some,Qt0]; done) | (simp only [List.length_cons,List.length_nil,List.length_append,Int.toNat_natCast] <;> omega)) only [Nat.reduceLT,Nat.reduceLeDiff,Nat.reduceEqDiff,↓reduceIte,Int.reduceLT,Int.reduceLE,Int.reduceToNat,Int.reduceEq,Int.reduceNe,Nat.reduceAdd,Int.reduceAdd,Int.reduceSub,Int.reduceMul,Nat.reduceMul,Qp0,Ql0,Qe0]
      · simp -dsimp -implicitDefEqProofs (disch := first | omega | assumption | (simp only [Option.isSome_some,Qt0]; done) | (simp only [List.length_cons,List.length_nil,List.length_append,Int.toNat_natCast] <;> omega)) only [Nat.reduceLT,Nat.reduceLeDiff,Nat.reduceEqDiff,↓reduceIte,Int.reduceLT,Int.reduceLE,Int.reduceToNat,Int.reduceEq,Int.reduceNe,Nat.reduceAdd,Int.reduceAdd,Int.reduceSub,Int.reduceMul,Nat.reduceMul,Qp0,Ql0,Qe0]
        try rfl
      rintro n f3 h4 ⟨g, u, q, hg, rfl, hq, e3, e7, e6, hou⟩
      by_cases hlt2 : g < G
      · obtain ⟨b, c', eA, _, hb⟩ := how2.own.pos (by omega)
        injection eA with e1 _ _
        subst e1
        simp -dsimp -implicitDefEqProofs (disch := first | omega | assumption | (simp only [Option.isSome_some,Qt0]; done) | (simp only [List.length_cons,List.length_nil,List.length_append,Int.toNat_natCast] <;> omega)) only [Nat.reduceLT,Nat.reduceLeDiff,Nat.reduceEqDiff,↓reduceIte,Int.reduceLT,Int.reduceLE,Int.reduceToNat,Int.reduceEq,Int.reduceNe,Nat.reduceAdd,Int.reduceAdd,Int.reduceSub,Int.reduceMul,Nat.reduceMul,Qp0,Ql0,Qe0,e3,e7,e6]
        refine PW_loop (fun n f h5 => ∃ (k : Nat), k ≤ 6 ∧ n = 6 - k ∧ f 3 = some (.slice (some ⟨b, 0, none⟩) l.length cp) ∧ f 7 = some (.int .i64 q) ∧ f 6 = some u ∧ f 8 = some (.int .i64 (val ((l.drop q).take k))) ∧ f 9 = some (.int .i64 k) ∧ h5 = h4) (by kernel_rfl) 6 ⟨0, by omega, by omega, ?_, ?_, ?_, ?_, ?_, rfl⟩ ?_
        · simp -dsimp -implicitDefEqProofs (disch := first | omega | assumption | (simp only [Option.isSome_some,Qt0]; done) | (simp only [List.length_cons,List.length_nil,List.length_append,Int.toNat_natCast] <;> omega)) only [Nat.reduceLT,Nat.reduceLeDiff,Nat.reduceEqDiff,↓reduceIte,Int.reduceLT,Int.reduceLE,Int.reduceToNat,Int.reduceEq,Int.reduceNe,Nat.reduceAdd,Int.reduceAdd,Int.reduceSub,Int.reduceMul,Nat.reduceMul,Qp0,Ql0,Qe0,e3]
        · simp -dsimp -implicitDefEqProofs (disch := first | omega | assumption | (simp only [Option.isSome_some,Qt0]; done) | (simp only [List.length_cons,List.length_nil,List.length_append,Int.toNat_natCast] <;> omega)) only [Nat.reduceLT,Nat.reduceLeDiff,Nat.reduceEqDiff,↓reduceIte,Int.reduceLT,Int.reduceLE,Int.reduceToNat,Int.reduceEq,Int.reduceNe,Nat.reduceAdd,Int.reduceAdd,Int.reduceSub,Int.reduceMul,Nat.reduceMul,Qp0,Ql0,Qe0,e7]
        · simp -dsimp -implicitDefEqProofs (disch := first | omega | assumption | (simp only [Option.isSome_some,Qt0]; done) | (simp only [List.length_cons,List.length_nil,List.length_append,Int.toNat_natCast] <;> omega)) only [Nat.reduceLT,Nat.reduceLeDiff,Nat.reduceEqDiff,↓reduceIte,Int.reduceLT,Int.reduceLE,Int.reduceToNat,Int.reduceEq,Int.reduceNe,Nat.reduceAdd,Int.reduceAdd,Int.reduceSub,Int.reduceMul,Nat.reduceMul,Qp0,Ql0,Qe0,e6]
        · simp -dsimp -implicitDefEqProofs (disch := first | omega | assumption | (simp only [Option.isSome_some,Qt0]; done) | (simp only [List.length_cons,List.length_nil,List.length_append,Int.toNat_natCast] <;> omega)) only [Nat.reduceLT,Nat.reduceLeDiff,Nat.reduceEqDiff,↓reduceIte,Int.reduceLT,Int.reduceLE,Int.reduceToNat,Int.reduceEq,Int.reduceNe,Nat.reduceAdd,Int.reduceAdd,Int.reduceSub,Int.reduceMul,Nat.reduceMul,Qp0,Ql0,Qe0]
          try rfl
        · simp -dsimp -implicitDefEqProofs (disch := first | omega | assumption | (simp only [Option.isSome_some,Qt0]; done) | (simp only [List.length_cons,List.length_nil,List.length_append,Int.toNat_natCast] <;> omega)) only [Nat.reduceLT,Nat.reduceLeDiff,Nat.reduceEqDiff,↓reduceIte,Int.reduceLT,Int.reduceLE,Int.reduceToNat,Int.reduceEq,Int.reduceNe,Nat.reduceAdd,Int.reduceAdd,Int.reduceSub,Int.reduceMul,Nat.reduceMul,Qp0,Ql0,Qe0]
          try rfl
        rintro n f4 h5 ⟨k, hk, rfl, d3, d7, d6, d8, d9, rfl⟩
        have hvb := val_bound ((l.drop q).take k) (fun x hx => hbits x (List.mem_of_mem_drop (List.mem_of_mem_take hx))) (by rw [List.length_take]; omega)
        by_cases hk6 : k < 6
        · have hps := Lib.hid (part_snoc l q k (by omega))
          have hT : ((q : Int) + (k : Int)).toNat = q + k := by omega
          have hx := hbits (l.getD (q + k) 0) (by rw [List.getD, List.getElem?_eq_getElem (by omega)]; exact List.getElem_mem _)
          have hr : rd w0 h5 ⟨b, q + k, none⟩ = some (.int .i64 (l.getD (q + k) 0)) := rd_is (hou.le.m b _ hb) (by omega)
          generalize l.getD (q + k) 0 = x at hps hx hr
          have hvs := Lib.hid (val_snoc ((l.drop q).take k) x)
          generalize hV : val ((l.drop q).take k) = V at hvb d8 hvs
          simp -dsimp -implicitDefEqProofs (disch := first | omega | assumption | (simp only [Option.isSome_some,Qt0]; done) | (simp only [List.length_cons,List.length_nil,List.length_append,Int.toNat_natCast] <;> omega)) only [Nat.reduceLT,Nat.reduceLeDiff,Nat.reduceEqDiff,↓reduceIte,Int.reduceLT,Int.reduceLE,Int.reduceToNat,Int.reduceEq,Int.reduceNe,Nat.reduceAdd,Int.reduceAdd,Int.reduceSub,Int.reduceMul,Nat.reduceMul,Qp0,Ql0,Qe0,d3,d7,d6,d8,d9,hT,hr]
          exact ⟨_, h5, by omega, PH.Le.refl _, k + 1, by omega, rfl, by simp [d3], by simp [d7], by simp [d6], by rw [hps.out, hvs.out] <;> simp, by simp, rfl⟩
        · obtain rfl : k = 6 := by omega
          have hgt0 : grp (l.take (q + 6)) = grp (l.take q) ++ [letAt (val ((l.drop q).take 6))] := by rw [hq]; exact grp_take l g (by omega)
          have hgt := Lib.hid hgt0
          clear hgt0
          obtain ⟨N, hN⟩ : ∃ N : Nat, val ((l.drop q).take 6) = (N : Int) := ⟨_, (Int.toNat_of_nonneg hvb.1).symm⟩
          rw [hN] at d8 hgt hvb
          simp -dsimp -implicitDefEqProofs (disch := first | omega | assumption | (simp only [Option.isSome_some,Qt0]; done) | (simp only [List.length_cons,List.length_nil,List.length_append,Int.toNat_natCast] <;> omega)) only [Nat.reduceLT,Nat.reduceLeDiff,Nat.reduceEqDiff,↓reduceIte,Int.reduceLT,Int.reduceLE,Int.reduceToNat,Int.reduceEq,Int.reduceNe,Nat.reduceAdd,Int.reduceAdd,Int.reduceSub,Int.reduceMul,Nat.reduceMul,Qp0,Ql0,Qe0,d3,d7,d6,d8,d9]
          refine (letter_any N (by omega) w0 h5).mono ?_
          rintro v h6 ⟨rfl, rfl⟩
          simp -dsimp -implicitDefEqProofs (disch := first | omega | assumption | (simp only [Option.isSome_some,Qt0]; done) | (simp only [List.length_cons,List.length_nil,List.length_append,Int.toNat_natCast] <;> omega)) only [Nat.reduceLT,Nat.reduceLeDiff,Nat.reduceEqDiff,↓reduceIte,Int.reduceLT,Int.reduceLE,Int.reduceToNat,Int.reduceEq,Int.reduceNe,Nat.reduceAdd,Int.reduceAdd,Int.reduceSub,Int.reduceMul,Nat.reduceMul,Qp0,Ql0,Qe0,d3,d7,d6]
          refine Does_one (v := u8 _) el_u8e rfl (by omega) (fun gb hgb => ?_)
          simp -dsimp -implicitDefEqProofs (disch := first | omega | assumption | (simp only [Option.isSome_some,Qt0]; done) | (simp only [List.length_cons,List.length_nil,List.length_append,Int.toNat_natCast] <;> omega)) only [Nat.reduceLT,Nat.reduceLeDiff,Nat.reduceEqDiff,↓reduceIte,Int.reduceLT,Int.reduceLE,Int.reduceToNat,Int.reduceEq,Int.reduceNe,Nat.reduceAdd,Int.reduceAdd,Int.reduceSub,Int.reduceMul,Nat.reduceMul,Qp0,Ql0,Qe0,d3,d7,d6]
          refine Does_app el_u8e (hou.more ((PH.Le.refl _).new _ _ hgb)).own (Rs.blk (k := ⟨[u8 (letAt N)], 1⟩) (by rw [PH.new_m, if_pos rfl]; rfl) rfl) (bs_one [letAt N]) (by unfold maxLen; omega) (by omega) (fun v' h3' ho hst => ?_)
          have hou' := (hou.more ((PH.Le.refl _).new _ _ hgb)).stays hst ho
          have hq2 : bs (grp (l.take q)) ++ [u8 (letAt N)] = bs (grp (l.take (q + 6))) := by rw [hgt.out]; simp [bs]
          rw [hq2] at hou'
          simp -dsimp -implicitDefEqProofs (disch := first | omega | assumption | (simp only [Option.isSome_some,Qt0]; done) | (simp only [List.length_cons,List.length_nil,List.length_append,Int.toNat_natCast] <;> omega)) only [Nat.reduceLT,Nat.reduceLeDiff,Nat.reduceEqDiff,↓reduceIte,Int.reduceLT,Int.reduceLE,Int.reduceToNat,Int.reduceEq,Int.reduceNe,Nat.reduceAdd,Int.reduceAdd,Int.reduceSub,Int.reduceMul,Nat.reduceMul,Qp0,Ql0,Qe0,d3,d7,d6]
          exact ⟨_, h3', by omega, PH.Le.refl _, g + 1, v', q + 6, by omega, rfl, by omega, by simp [d3], by simp, by simp, hou'⟩
      · obtain rfl : g = G := by omega
        have hall : l.take q = l := List.take_of_length_le (by omega)
        rw [hall, ← hre] at hou
        obtain ⟨A7, c7, rfl, _⟩ := hou.own.len
        simp -dsimp -implicitDefEqProofs (disch := first | omega | assumption | (simp only [Option.isSome_some,Qt0]; done) | (simp only [List.length_cons,List.length_nil,List.length_append,Int.toNat_natCast] <;> omega)) only [Nat.reduceLT,Nat.reduceLeDiff,Nat.reduceEqDiff,↓reduceIte,Int.reduceLT,Int.reduceLE,Int.reduceToNat,Int.reduceEq,Int.reduceNe,Nat.reduceAdd,Int.reduceAdd,Int.reduceSub,Int.reduceMul,Nat.reduceMul,Qp0,Ql0,Qe0,e3,e7,e6]
        refine vtext_own Tryz.underlying74 Tryz.underlying5 Tryz.underlying9 (Rs.own hou.own) ?_ ?_
        · rintro rfl; rcases hou.own.2 with ⟨_, h1⟩ | ⟨b, c', h1, _⟩
          · exact h1
          · cases h1
        · simp -dsimp -implicitDefEqProofs (disch := first | omega | assumption | (simp only [Option.isSome_some,Qt0]; done) | (simp only [List.length_cons,List.length_nil,List.length_append,Int.toNat_natCast] <;> omega)) only [Nat.reduceLT,Nat.reduceLeDiff,Nat.reduceEqDiff,↓reduceIte,Int.reduceLT,Int.reduceLE,Int.reduceToNat,Int.reduceEq,Int.reduceNe,Nat.reduceAdd,Int.reduceAdd,Int.reduceSub,Int.reduceMul,Nat.reduceMul,Qp0,Ql0,Qe0]
          exact ⟨_, how2.le.trans hou.le, by simp, rfl⟩
    · have hmI : ¬ ((8 : Int) * (s.length : Int) + (j : Int)) % 6 = 0 := by omega
      simp -dsimp -implicitDefEqProofs (disch := first | omega | assumption | (simp only [Option.isSome_some,Qt0]; done) | (simp only [List.length_cons,List.length_nil,List.length_append,Int.toNat_natCast] <;> omega)) only [Nat.reduceLT,Nat.reduceLeDiff,Nat.reduceEqDiff,↓reduceIte,Int.reduceLT,Int.reduceLE,Int.reduceToNat,Int.reduceEq,Int.reduceNe,Nat.reduceAdd,Int.reduceAdd,Int.reduceSub,Int.reduceMul,Nat.reduceMul,Qp0,Ql0,Qe0,g3]
      refine Does_one (v := .int .i64 _) el_intt rfl (by omega) (fun gb hgb => ?_)
      simp -dsimp -implicitDefEqProofs (disch := first | omega | assumption | (simp only [Option.isSome_some,Qt0]; done) | (simp only [List.length_cons,List.length_nil,List.length_append,Int.toNat_natCast] <;> omega)) only [Nat.reduceLT,Nat.reduceLeDiff,Nat.reduceEqDiff,↓reduceIte,Int.reduceLT,Int.reduceLE,Int.reduceToNat,Int.reduceEq,Int.reduceNe,Nat.reduceAdd,Int.reduceAdd,Int.reduceSub,Int.reduceMul,Nat.reduceMul,Qp0,Ql0,Qe0,g3]
      refine Does_app el_intt (how2.more ((PH.Le.refl _).new _ _ hgb)).own (Rs.blk (k := ⟨is [0], 1⟩) (by rw [PH.new_m, if_pos rfl]; rfl) rfl) (is_one _) (by unfold maxLen; omega) (by omega) (fun v' h3' ho hst => ?_)
      have hou' := (how2.more ((PH.Le.refl _).new _ _ hgb)).stays hst ho
      have hq : is (bitsAll s ++ List.replicate j 0) ++ is [0] = is (bitsAll s ++ List.replicate (j + 1) 0) := by
        rw [List.replicate_succ']; simp [is]
      rw [hq] at hou'
      simp -dsimp -implicitDefEqProofs (disch := first | omega | assumption | (simp only [Option.isSome_some,Qt0]; done) | (simp only [List.length_cons,List.length_nil,List.length_append,Int.toNat_natCast] <;> omega)) only [Nat.reduceLT,Nat.reduceLeDiff,Nat.reduceEqDiff,↓reduceIte,Int.reduceLT,Int.reduceLE,Int.reduceToNat,Int.reduceEq,Int.reduceNe,Nat.reduceAdd,Int.reduceAdd,Int.reduceSub,Int.reduceMul,Nat.reduceMul,Qp0,Ql0,Qe0,g3]
      exact ⟨n - 1, h3', by omega, PH.Le.refl _, j + 1, v', by omega, by simp, hou'⟩
end Go.Proofs.YtdlaoeepeakpeaaGreat


/- A drawn region by a tree of plans: two operations that make memory may be ready at once. No condition. -/
namespace Go.Proofs.YtdlaoeepeakpeaaGreat.Px
set_option linter.unusedVariables false
set_option linter.unusedSimpArgs false
open Go.RowKit
/-- A plan: take one operation; or two that are ready at once, each with what comes behind it. -/
inductive Pl where
  | done
  | take (i : Nat) (p : Pl)
  | both (i : Nat) (p : Pl) (j : Nat) (q : Pl)
section
variable {P : Program} {w0 : World} {h : PH} {N : Nat} {K : Fr → PH → Prop}
def Pl.len : Pl → Nat
  | .done => 0
  | .take _ p => p.len + 1
  | .both _ p _ q => max p.len q.len + 1
end
end Go.Proofs.YtdlaoeepeakpeaaGreat.Px


/- Walks of token.Read and of the document's Token. -/
namespace Go.Proofs.YtdlaoeepeakpeaaGreat
set_option linter.unusedVariables false
set_option linter.unusedSimpArgs false
open Go.RowKit Px Wr
/-- What Read tells. -/
def RDO (w0 : World) (h0 h' : PH) (al : Int → Prop) (key : Int → List UInt8) (s : List UInt8) (v : Value) : Prop :=
  (∃ c A cap, IsT al key s c ∧ v = .tuple #[.agg (clL c A cap).toArray, .nilIface] ∧ c.x.length ≤ cap ∧ Rv w0 h' A (ints c.x) ∧ ∀ a, A = some a → h0.top ≤ a.block) ∨ ((∀ c, ¬ IsT al key s c) ∧ ∃ be t x, v = .tuple #[.agg (clL clZ none 0).toArray, errV be] ∧ h'.m be = some ⟨[str tokenT, .int .i64 s.length, bothV (codeV 9) (.iface t x)], 3⟩)
set_option maxRecDepth 20000 in
set_option maxHeartbeats 4000000 in
theorem tRead_any (rv : Value) (al : Int → Prop) (key : Int → List UInt8) (s : List UInt8) (hs : s.length ≤ 4000000) (w0 : World) (h : PH) (hk : KeyIs w0 rv al key h) : PCalls Tryz.prog w0 6 [rv, str s] h fun v h' => RDO w0 h h' al key s v ∧ PH.Le h h' := by
  refine PCalls_body Tryz.func6 (by kernel_rfl) rfl _ Tryz.ntmps6 (by kernel_rfl) (by kernel_rfl) _ Tryz.results6 ?_
  simp -dsimp -implicitDefEqProofs (disch := first | omega | assumption | (simp only [Option.isSome_some,Qt0]; done) | (simp only [List.length_cons,List.length_nil,List.length_append,Int.toNat_natCast] <;> omega)) only [Nat.reduceLT,Nat.reduceLeDiff,Nat.reduceEqDiff,↓reduceIte,Int.reduceLT,Int.reduceLE,Int.reduceToNat,Int.reduceEq,Int.reduceNe,Nat.reduceAdd,Int.reduceAdd,Int.reduceSub,Int.reduceMul,Nat.reduceMul,Qp0,Ql0,Qe0]
  refine fun rb hrb => ?_
  have hle := (PH.Le.refl h).new rb ⟨[.string ⟨#[]⟩, .string ⟨#[]⟩, .int .i64 0, .int .i64 0, .int .i64 0, .slice none 0 0], 6⟩ hrb
  have hm : (h.new rb ⟨[.string ⟨#[]⟩, .string ⟨#[]⟩, .int .i64 0, .int .i64 0, .int .i64 0, .slice none 0 0], 6⟩).m rb = some ⟨[.string ⟨#[]⟩, .string ⟨#[]⟩, .int .i64 0, .int .i64 0, .int .i64 0, .slice none 0 0], 6⟩ := by rw [PH.new_m, if_pos rfl]
  have hk1 := hk.more hle
  have hz := allOne_of [.string ⟨#[]⟩, .string ⟨#[]⟩, .int .i64 0, .int .i64 0, .int .i64 0, .slice none 0 0] rfl
  have hrb0 : h.top ≤ rb := hrb
  have hR := Lib.hid (tread_any rv al key s hs w0 (h.new rb ⟨[.string ⟨#[]⟩, .string ⟨#[]⟩, .int .i64 0, .int .i64 0, .int .i64 0, .slice none 0 0], 6⟩) hk1).lowR
  simp -dsimp -implicitDefEqProofs (disch := first | omega | assumption | (simp only [Option.isSome_some,Qt0]; done) | (simp only [List.length_cons,List.length_nil,List.length_append,Int.toNat_natCast] <;> omega)) only [Nat.reduceLT,Nat.reduceLeDiff,Nat.reduceEqDiff,↓reduceIte,Int.reduceLT,Int.reduceLE,Int.reduceToNat,Int.reduceEq,Int.reduceNe,Nat.reduceAdd,Int.reduceAdd,Int.reduceSub,Int.reduceMul,Nat.reduceMul,Qp0,Ql0,Qe0]
  generalize h.new rb ⟨[.string ⟨#[]⟩, .string ⟨#[]⟩, .int .i64 0, .int .i64 0, .int .i64 0, .slice none 0 0], 6⟩ = h1 at *
  refine hR.out.mono ?_
  rintro v h2 ⟨⟨hr, hl2⟩, hlow⟩
  have hm2 := hl2.m _ _ hm
  have hle2 := hle.trans hl2
  rcases hr with ⟨c, A, cap, hic, rfl, hcap, hrv, hfr⟩ | ⟨hno, t, x, rfl⟩
  · unfold clL
    simp -dsimp -implicitDefEqProofs (disch := first | omega | assumption | (simp only [Option.isSome_some,Qt0]; done) | (simp only [List.length_cons,List.length_nil,List.length_append,Int.toNat_natCast] <;> omega)) only [Nat.reduceLT,Nat.reduceLeDiff,Nat.reduceEqDiff,↓reduceIte,Int.reduceLT,Int.reduceLE,Int.reduceToNat,Int.reduceEq,Int.reduceNe,Nat.reduceAdd,Int.reduceAdd,Int.reduceSub,Int.reduceMul,Nat.reduceMul,Qp0,Ql0,Qe0]
    refine fun cb hcb => ?_
    have hz2 := allOne_of [str c.s, str c.u, .int .i64 c.e, .int .i64 c.i, .int .i64 c.k, .slice A c.x.length cap] rfl
    have hrv2 := rv_put0 hrv hlow hm2 (rightC_iff.1 hic.1).2.2.2.2.2.2.2 ⟨[str c.s, str c.u, .int .i64 c.e, .int .i64 c.i, .int .i64 c.k, .slice A c.x.length cap], 6⟩
    have hrv3 := hrv2.more (le_new2 ((PH.Le.refl h2).new cb ⟨[str c.s, str c.u, .int .i64 c.e, .int .i64 c.i, .int .i64 c.k, .slice A c.x.length cap], 6⟩ hcb) rb ⟨[str c.s, str c.u, .int .i64 c.e, .int .i64 c.i, .int .i64 c.k, .slice A c.x.length cap], 6⟩)
    have hrc : (rb = cb) = False := eq_false (by have := h2.lt _ _ hm2; omega)
    simp -dsimp -implicitDefEqProofs (disch := first | omega | assumption | (simp only [Option.isSome_some,Qt0]; done) | (simp only [List.length_cons,List.length_nil,List.length_append,Int.toNat_natCast] <;> omega)) only [Nat.reduceLT,Nat.reduceLeDiff,Nat.reduceEqDiff,↓reduceIte,Int.reduceLT,Int.reduceLE,Int.reduceToNat,Int.reduceEq,Int.reduceNe,Nat.reduceAdd,Int.reduceAdd,Int.reduceSub,Int.reduceMul,Nat.reduceMul,Qp0,Ql0,Qe0,hz2,hrc,hm2,PH.new_new,List.take_zero,List.drop_succ_cons,List.drop_zero,List.drop_nil,List.nil_append,List.append_nil,rdN_new,List.take_succ_cons,ite_true]
    exact ⟨_, PH.Le.refl _, .inl ⟨c, A, cap, hic, rfl, hcap, hrv3, fun a ea => Nat.le_trans hle.top (hfr a ea)⟩, (hle2.new cb _ (Nat.le_trans hle2.top hcb)).new rb _ hrb0⟩
  · rw [clz_eq]
    simp -dsimp -implicitDefEqProofs (disch := first | omega | assumption | (simp only [Option.isSome_some,Qt0]; done) | (simp only [List.length_cons,List.length_nil,List.length_append,Int.toNat_natCast] <;> omega)) only [Nat.reduceLT,Nat.reduceLeDiff,Nat.reduceEqDiff,↓reduceIte,Int.reduceLT,Int.reduceLE,Int.reduceToNat,Int.reduceEq,Int.reduceNe,Nat.reduceAdd,Int.reduceAdd,Int.reduceSub,Int.reduceMul,Nat.reduceMul,Qp0,Ql0,Qe0]
    refine fun cb hcb => ?_
    have hz2 := allOne_of [str [], str [], .int .i64 0, .int .i64 0, .int .i64 0, .slice none 0 0] rfl
    have hlc := (PH.Le.refl h2).new cb ⟨[str [], str [], .int .i64 0, .int .i64 0, .int .i64 0, .slice none 0 0], 6⟩ hcb
    simp -dsimp -implicitDefEqProofs (disch := first | omega | assumption | (simp only [Option.isSome_some,Qt0]; done) | (simp only [List.length_cons,List.length_nil,List.length_append,Int.toNat_natCast] <;> omega)) only [Nat.reduceLT,Nat.reduceLeDiff,Nat.reduceEqDiff,↓reduceIte,Int.reduceLT,Int.reduceLE,Int.reduceToNat,Int.reduceEq,Int.reduceNe,Nat.reduceAdd,Int.reduceAdd,Int.reduceSub,Int.reduceMul,Nat.reduceMul,Qp0,Ql0,Qe0,hz2,PH.new_new,List.take_zero,List.drop_succ_cons,List.drop_zero,List.drop_nil,List.nil_append,List.append_nil,rdN_new,List.take_succ_cons,ite_true]
    generalize h2.new cb ⟨[str [], str [], .int .i64 0, .int .i64 0, .int .i64 0, .slice none 0 0], 6⟩ = h3 at *
    have hm3 := hlc.m _ _ hm2
    have hle3 := hle2.trans hlc
    have hB := Lib.hid (both_two 37 t (.int .i64 9) x w0 h3)
    have hA := Lib.hid (at_any tokenT (s.length : Int) 71 (.agg #[codeV 9, .iface t x]) w0 h3)
    unfold bothV codeV at *
    refine hB.out.mono ?_
    rintro v hq ⟨rfl, hz⟩
    obtain rfl := hz.symm
    simp -dsimp -implicitDefEqProofs (disch := first | omega | assumption | (simp only [Option.isSome_some,Qt0]; done) | (simp only [List.length_cons,List.length_nil,List.length_append,Int.toNat_natCast] <;> omega)) only [Nat.reduceLT,Nat.reduceLeDiff,Nat.reduceEqDiff,↓reduceIte,Int.reduceLT,Int.reduceLE,Int.reduceToNat,Int.reduceEq,Int.reduceNe,Nat.reduceAdd,Int.reduceAdd,Int.reduceSub,Int.reduceMul,Nat.reduceMul,Qp0,Ql0,Qe0]
    refine hA.out.mono ?_
    rintro v h4 ⟨be, rfl, hbe, rfl⟩
    have hl4 := (PH.Le.refl h3).new be ⟨[str tokenT, .int .i64 (s.length : Int), .iface 71 (.agg #[.iface 37 (.int .i64 9), .iface t x])], 3⟩ hbe
    have hmb : (h3.new be ⟨[str tokenT, .int .i64 (s.length : Int), .iface 71 (.agg #[.iface 37 (.int .i64 9), .iface t x])], 3⟩).m be = some ⟨[str tokenT, .int .i64 (s.length : Int), .iface 71 (.agg #[.iface 37 (.int .i64 9), .iface t x])], 3⟩ := by rw [PH.new_m, if_pos rfl]
    generalize h3.new be ⟨[str tokenT, .int .i64 (s.length : Int), .iface 71 (.agg #[.iface 37 (.int .i64 9), .iface t x])], 3⟩ = h4 at *
    have hm4 := hl4.m _ _ hm3
    have hnb : be ≠ rb := by have := h3.lt _ _ hm3; omega
    unfold errV
    simp -dsimp -implicitDefEqProofs (disch := first | omega | assumption | (simp only [Option.isSome_some,Qt0]; done) | (simp only [List.length_cons,List.length_nil,List.length_append,Int.toNat_natCast] <;> omega)) only [Nat.reduceLT,Nat.reduceLeDiff,Nat.reduceEqDiff,↓reduceIte,Int.reduceLT,Int.reduceLE,Int.reduceToNat,Int.reduceEq,Int.reduceNe,Nat.reduceAdd,Int.reduceAdd,Int.reduceSub,Int.reduceMul,Nat.reduceMul,Qp0,Ql0,Qe0,hm4,hz,List.take_zero,List.drop_succ_cons,List.drop_zero,List.drop_nil,List.nil_append,List.append_nil,rdN_new,List.take_succ_cons,ite_true]
    exact ⟨_, PH.Le.refl _, .inr ⟨hno, be, t, x, rfl, by rw [PH.new_m, if_neg hnb]; exact hmb⟩, (hle3.trans hl4).new rb _ hrb0⟩
set_option maxRecDepth 20000 in
set_option maxHeartbeats 4000000 in
theorem rtok_any (m : List UInt8) (hm : m.length ≤ 900000) (c : Cl) (A : Option Addr) (cap : Nat) (w0 : World) (h : PH) (hr : Rv w0 h A (ints c.x)) (hc : c.x.length ≤ cap) (hx : c.x.length ≤ 9223372036854775807) : PCalls Tryz.prog w0 18 [str m, .agg (clL c A cap).toArray] h fun v h' => v = str (if rightC c = true then tok (derive m) c else []) ∧ PH.Le h h' := by
  refine PCalls_body Tryz.func18 (by kernel_rfl) rfl _ Tryz.ntmps18 (by kernel_rfl) (by kernel_rfl) _ Tryz.results18 ?_
  unfold clL
  simp -dsimp -implicitDefEqProofs (disch := first | omega | assumption | (simp only [Option.isSome_some,Qt0]; done) | (simp only [List.length_cons,List.length_nil,List.length_append,Int.toNat_natCast] <;> omega)) only [Nat.reduceLT,Nat.reduceLeDiff,Nat.reduceEqDiff,↓reduceIte,Int.reduceLT,Int.reduceLE,Int.reduceToNat,Int.reduceEq,Int.reduceNe,Nat.reduceAdd,Int.reduceAdd,Int.reduceSub,Int.reduceMul,Nat.reduceMul,Qp0,Ql0,Qe0]
  refine fun pb hpb => ?_
  have hle := (PH.Le.refl h).new pb ⟨[str c.s, str c.u, .int .i64 c.e, .int .i64 c.i, .int .i64 c.k, .slice A c.x.length cap], 6⟩ hpb
  have hp : (h.new pb ⟨[str c.s, str c.u, .int .i64 c.e, .int .i64 c.i, .int .i64 c.k, .slice A c.x.length cap], 6⟩).m pb = some ⟨[str c.s, str c.u, .int .i64 c.e, .int .i64 c.i, .int .i64 c.k, .slice A c.x.length cap], 6⟩ := by rw [PH.new_m, if_pos rfl]
  have hr1 := hr.more hle
  simp -dsimp -implicitDefEqProofs (disch := first | omega | assumption | (simp only [Option.isSome_some,Qt0]; done) | (simp only [List.length_cons,List.length_nil,List.length_append,Int.toNat_natCast] <;> omega)) only [Nat.reduceLT,Nat.reduceLeDiff,Nat.reduceEqDiff,↓reduceIte,Int.reduceLT,Int.reduceLE,Int.reduceToNat,Int.reduceEq,Int.reduceNe,Nat.reduceAdd,Int.reduceAdd,Int.reduceSub,Int.reduceMul,Nat.reduceMul,Qp0,Ql0,Qe0]
  generalize h.new pb ⟨[str c.s, str c.u, .int .i64 c.e, .int .i64 c.i, .int .i64 c.k, .slice A c.x.length cap], 6⟩ = h1 at *
  have hs0 : rdN w0 h1 ⟨pb, 0, none⟩ 6 = some [str c.s, str c.u, .int .i64 c.e, .int .i64 c.i, .int .i64 c.k, .slice A c.x.length cap] := by unfold rdN; simp only [hp]; rfl
  have hR := rrightC_any w0 h1 c A cap hr1 hc hx
  unfold clL at hR
  cases hb : rightC c with
  | false =>
    rw [hb] at hR
    have hR := Lib.hid hR
    rw [if_neg (by simp)]
    simp -dsimp -implicitDefEqProofs (disch := first | omega | assumption | (simp only [Option.isSome_some,Qt0]; done) | (simp only [List.length_cons,List.length_nil,List.length_append,Int.toNat_natCast] <;> omega)) only [Nat.reduceLT,Nat.reduceLeDiff,Nat.reduceEqDiff,↓reduceIte,Int.reduceLT,Int.reduceLE,Int.reduceToNat,Int.reduceEq,Int.reduceNe,Nat.reduceAdd,Int.reduceAdd,Int.reduceSub,Int.reduceMul,Nat.reduceMul,Qp0,Ql0,Qe0,hs0]
    refine hR.out.mono ?_
    rintro v hq ⟨rfl, hz⟩
    obtain rfl := hz.symm
    simp -dsimp -implicitDefEqProofs (disch := first | omega | assumption | (simp only [Option.isSome_some,Qt0]; done) | (simp only [List.length_cons,List.length_nil,List.length_append,Int.toNat_natCast] <;> omega)) only [Nat.reduceLT,Nat.reduceLeDiff,Nat.reduceEqDiff,↓reduceIte,Int.reduceLT,Int.reduceLE,Int.reduceToNat,Int.reduceEq,Int.reduceNe,Nat.reduceAdd,Int.reduceAdd,Int.reduceSub,Int.reduceMul,Nat.reduceMul,Qp0,Ql0,Qe0]
    exact ⟨_, PH.Le.refl _, by trivial, hle⟩
  | true =>
    rw [hb] at hR
    have hR := Lib.hid hR
    rw [if_pos rfl]
    have hB := bytesC_any w0 h1 c A cap hr1 hc hb
    unfold clL at hB
    have hB := Lib.hid hB
    have hbl := bytesC_le hb
    have hkl := derive_len m c.k
    have hTok : tok (derive m) c = Tx.enc (bytesC c) ++ 46 :: Tx.enc (tag (derive m c.k) (bytesC c)) := rfl
    rw [hTok]
    generalize bytesC c = B at *
    simp -dsimp -implicitDefEqProofs (disch := first | omega | assumption | (simp only [Option.isSome_some,Qt0]; done) | (simp only [List.length_cons,List.length_nil,List.length_append,Int.toNat_natCast] <;> omega)) only [Nat.reduceLT,Nat.reduceLeDiff,Nat.reduceEqDiff,↓reduceIte,Int.reduceLT,Int.reduceLE,Int.reduceToNat,Int.reduceEq,Int.reduceNe,Nat.reduceAdd,Int.reduceAdd,Int.reduceSub,Int.reduceMul,Nat.reduceMul,Qp0,Ql0,Qe0,hs0]
    refine hR.out.mono ?_
    rintro v hq ⟨rfl, hz⟩
    obtain rfl := hz.symm
    simp -dsimp -implicitDefEqProofs (disch := first | omega | assumption | (simp only [Option.isSome_some,Qt0]; done) | (simp only [List.length_cons,List.length_nil,List.length_append,Int.toNat_natCast] <;> omega)) only [Nat.reduceLT,Nat.reduceLeDiff,Nat.reduceEqDiff,↓reduceIte,Int.reduceLT,Int.reduceLE,Int.reduceToNat,Int.reduceEq,Int.reduceNe,Nat.reduceAdd,Int.reduceAdd,Int.reduceSub,Int.reduceMul,Nat.reduceMul,Qp0,Ql0,Qe0,hs0]
    refine hB.out.mono ?_
    rintro v h2 ⟨rfl, hl2⟩
    have hp2 := hl2.m _ _ hp
    have hE1 := renc_any B w0 h2 (by omega)
    have hDv := Lib.hid (rderive_any m c.k hm w0 h2)
    generalize derive m c.k = D at *
    have hTg := Lib.hid (rtag_any D B (by omega) (by omega) w0 h2)
    have htl := tag_length D B
    generalize tag D B = G at *
    have hE2 := renc_any G w0 h2 (by omega)
    rw [Tx.refEnc_eq] at hE1 hE2
    have l1 := Tx.enc_length B
    have l2 := Tx.enc_length G
    generalize Tx.enc B = E1 at *
    generalize Tx.enc G = E2 at *
    have hE1 := Lib.hid hE1
    have hE2 := Lib.hid hE2
    have hDv := Lib.hid hDv.out
    simp -dsimp -implicitDefEqProofs (disch := first | omega | assumption | (simp only [Option.isSome_some,Qt0]; done) | (simp only [List.length_cons,List.length_nil,List.length_append,Int.toNat_natCast] <;> omega)) only [Nat.reduceLT,Nat.reduceLeDiff,Nat.reduceEqDiff,↓reduceIte,Int.reduceLT,Int.reduceLE,Int.reduceToNat,Int.reduceEq,Int.reduceNe,Nat.reduceAdd,Int.reduceAdd,Int.reduceSub,Int.reduceMul,Nat.reduceMul,Qp0,Ql0,Qe0]
    refine PW_plan [0, 3, 4, 5, 7, 1, 2, 6, 8, 9, 10, 11] h2 (by kernel_rfl) (by decide +kernel) (by kernel_rfl) (by kernel_rfl) (by kernel_rfl) (fun c f h hq => by simp only [thenC_panic, thenK_panic, inBlk_panic, thenN_panic, vcRet_panic] at hq) (PH.Le.refl h2).sub ?_
    simp -dsimp -implicitDefEqProofs (disch := first | omega | assumption | (simp only [Option.isSome_some,Qt0]; done) | (simp only [List.length_cons,List.length_nil,List.length_append,Int.toNat_natCast] <;> omega)) only [Nat.reduceLT,Nat.reduceLeDiff,Nat.reduceEqDiff,↓reduceIte,Int.reduceLT,Int.reduceLE,Int.reduceToNat,Int.reduceEq,Int.reduceNe,Nat.reduceAdd,Int.reduceAdd,Int.reduceSub,Int.reduceMul,Nat.reduceMul,Qp0,Ql0,Qe0,rd_M,rdM_some,hp2]
    refine hE1.out.mono ?_
    rintro v hq ⟨rfl, hz⟩
    obtain rfl := hz.symm
    simp -dsimp -implicitDefEqProofs (disch := first | omega | assumption | (simp only [Option.isSome_some,Qt0]; done) | (simp only [List.length_cons,List.length_nil,List.length_append,Int.toNat_natCast] <;> omega)) only [Nat.reduceLT,Nat.reduceLeDiff,Nat.reduceEqDiff,↓reduceIte,Int.reduceLT,Int.reduceLE,Int.reduceToNat,Int.reduceEq,Int.reduceNe,Nat.reduceAdd,Int.reduceAdd,Int.reduceSub,Int.reduceMul,Nat.reduceMul,Qp0,Ql0,Qe0]
    refine ⟨(PH.Le.refl h2).sub, ?_⟩
    simp -dsimp -implicitDefEqProofs (disch := first | omega | assumption | (simp only [Option.isSome_some,Qt0]; done) | (simp only [List.length_cons,List.length_nil,List.length_append,Int.toNat_natCast] <;> omega)) only [Nat.reduceLT,Nat.reduceLeDiff,Nat.reduceEqDiff,↓reduceIte,Int.reduceLT,Int.reduceLE,Int.reduceToNat,Int.reduceEq,Int.reduceNe,Nat.reduceAdd,Int.reduceAdd,Int.reduceSub,Int.reduceMul,Nat.reduceMul,Qp0,Ql0,Qe0]
    refine hDv.out.mono ?_
    rintro v hq ⟨rfl, hz⟩
    obtain rfl := hz.symm
    simp -dsimp -implicitDefEqProofs (disch := first | omega | assumption | (simp only [Option.isSome_some,Qt0]; done) | (simp only [List.length_cons,List.length_nil,List.length_append,Int.toNat_natCast] <;> omega)) only [Nat.reduceLT,Nat.reduceLeDiff,Nat.reduceEqDiff,↓reduceIte,Int.reduceLT,Int.reduceLE,Int.reduceToNat,Int.reduceEq,Int.reduceNe,Nat.reduceAdd,Int.reduceAdd,Int.reduceSub,Int.reduceMul,Nat.reduceMul,Qp0,Ql0,Qe0]
    refine ⟨(PH.Le.refl h2).sub, ?_⟩
    simp -dsimp -implicitDefEqProofs (disch := first | omega | assumption | (simp only [Option.isSome_some,Qt0]; done) | (simp only [List.length_cons,List.length_nil,List.length_append,Int.toNat_natCast] <;> omega)) only [Nat.reduceLT,Nat.reduceLeDiff,Nat.reduceEqDiff,↓reduceIte,Int.reduceLT,Int.reduceLE,Int.reduceToNat,Int.reduceEq,Int.reduceNe,Nat.reduceAdd,Int.reduceAdd,Int.reduceSub,Int.reduceMul,Nat.reduceMul,Qp0,Ql0,Qe0]
    refine hTg.out.mono ?_
    rintro v hq ⟨rfl, hz⟩
    obtain rfl := hz.symm
    simp -dsimp -implicitDefEqProofs (disch := first | omega | assumption | (simp only [Option.isSome_some,Qt0]; done) | (simp only [List.length_cons,List.length_nil,List.length_append,Int.toNat_natCast] <;> omega)) only [Nat.reduceLT,Nat.reduceLeDiff,Nat.reduceEqDiff,↓reduceIte,Int.reduceLT,Int.reduceLE,Int.reduceToNat,Int.reduceEq,Int.reduceNe,Nat.reduceAdd,Int.reduceAdd,Int.reduceSub,Int.reduceMul,Nat.reduceMul,Qp0,Ql0,Qe0]
    refine ⟨(PH.Le.refl h2).sub, ?_⟩
    simp -dsimp -implicitDefEqProofs (disch := first | omega | assumption | (simp only [Option.isSome_some,Qt0]; done) | (simp only [List.length_cons,List.length_nil,List.length_append,Int.toNat_natCast] <;> omega)) only [Nat.reduceLT,Nat.reduceLeDiff,Nat.reduceEqDiff,↓reduceIte,Int.reduceLT,Int.reduceLE,Int.reduceToNat,Int.reduceEq,Int.reduceNe,Nat.reduceAdd,Int.reduceAdd,Int.reduceSub,Int.reduceMul,Nat.reduceMul,Qp0,Ql0,Qe0]
    refine hE2.out.mono ?_
    rintro v hq ⟨rfl, hz⟩
    obtain rfl := hz.symm
    simp -dsimp -implicitDefEqProofs (disch := first | omega | assumption | (simp only [Option.isSome_some,Qt0]; done) | (simp only [List.length_cons,List.length_nil,List.length_append,Int.toNat_natCast] <;> omega)) only [Nat.reduceLT,Nat.reduceLeDiff,Nat.reduceEqDiff,↓reduceIte,Int.reduceLT,Int.reduceLE,Int.reduceToNat,Int.reduceEq,Int.reduceNe,Nat.reduceAdd,Int.reduceAdd,Int.reduceSub,Int.reduceMul,Nat.reduceMul,Qp0,Ql0,Qe0]
    refine ⟨(PH.Le.refl h2).sub, ?_⟩
    simp -dsimp -implicitDefEqProofs (disch := first | omega | assumption | (simp only [Option.isSome_some,Qt0]; done) | (simp only [List.length_cons,List.length_nil,List.length_append,Int.toNat_natCast] <;> omega)) only [Nat.reduceLT,Nat.reduceLeDiff,Nat.reduceEqDiff,↓reduceIte,Int.reduceLT,Int.reduceLE,Int.reduceToNat,Int.reduceEq,Int.reduceNe,Nat.reduceAdd,Int.reduceAdd,Int.reduceSub,Int.reduceMul,Nat.reduceMul,Qp0,Ql0,Qe0]
    exact ⟨_, PH.Le.refl _, by simp, hle.trans hl2⟩
end Go.Proofs.YtdlaoeepeakpeaaGreat


/- Walks of the law's basis, great and awake. -/
namespace Go.Proofs.YtdlaoeepeakpeaaGreat
set_option linter.unusedVariables false
set_option linter.unusedSimpArgs false
open Go.RowKit Px Wr
theorem tenc_length (l : List UInt8) : (Tx.enc l).length = (4 * l.length + 2) / 3 := by
  fun_induction Tx.enc l with
  | case1 => rfl
  | case2 a => rw [Tx.lets_length]; simp
  | case3 a b => rw [Tx.lets_length]; simp
  | case4 a b c t ih => rw [List.length_append, Tx.lets_length, ih]; simp; omega
theorem tok_length (key : Int → List UInt8) (c : Cl) : (tok key c).length = (4 * (bytesC c).length + 2) / 3 + 44 := by
  unfold tok
  rw [List.length_append, List.length_cons, tenc_length, tenc_length, tag_length]
def basC : Cl := ⟨[49, 45, 49], [97, 110, 110], 0, 0, 0, [2]⟩
theorem info_intk : (Tryz.prog.info? 3).map (fun i => (i.zero, i.size, i.bytes)) = some (some (.int .i64 0), 1, 8) := by kernel_rfl
theorem el_intk : El Tryz.prog 29 3 (.int .i64 0) 1 8 := ⟨Tryz.underlying29, info_parts info_intk, rfl, by decide⟩
set_option maxRecDepth 20000 in
theorem basis_any (w0 : World) (h : PH) : PCalls Tryz.prog w0 11 [] h fun v h' => ∃ A cap, v = .agg (clL basC A cap).toArray ∧ Rv w0 h' A (ints basC.x) ∧ basC.x.length ≤ cap ∧ PH.Le h h' := by
  refine PCalls_body Tryz.func11 (by kernel_rfl) rfl _ Tryz.ntmps11 (by kernel_rfl) (by kernel_rfl) _ Tryz.results11 ?_
  simp -dsimp -implicitDefEqProofs (disch := first | omega | assumption | (simp only [Option.isSome_some,Qt0]; done) | (simp only [UInt64.reduceToNat,UInt32.reduceToNat,UInt8.reduceToNat,List.length_cons,List.length_nil,List.length_append,Int.toNat_natCast] <;> omega)) only [Nat.reduceLT,Nat.reduceLeDiff,Nat.reduceEqDiff,↓reduceIte,Int.reduceLT,Int.reduceLE,Int.reduceToNat,Int.reduceEq,Int.reduceNe,Nat.reduceAdd,UInt8.reduceOfNat,UInt16.reduceOfNat,UInt32.reduceOfNat,UInt64.reduceOfNat,UInt64.reduceToNat,UInt32.reduceToNat,UInt16.reduceToNat,UInt8.reduceToNat,Int.reduceAdd,Int.reduceSub,Int.reduceMul,Nat.reduceMul,Qp0,Ql0,Qe0]
  refine fun rb hrb => ?_
  have hle := (PH.Le.refl h).new rb ⟨[.string ⟨#[]⟩, .string ⟨#[]⟩, .int .i64 0, .int .i64 0, .int .i64 0, .slice none 0 0], 6⟩ hrb
  have hm : (h.new rb ⟨[.string ⟨#[]⟩, .string ⟨#[]⟩, .int .i64 0, .int .i64 0, .int .i64 0, .slice none 0 0], 6⟩).m rb = some ⟨[.string ⟨#[]⟩, .string ⟨#[]⟩, .int .i64 0, .int .i64 0, .int .i64 0, .slice none 0 0], 6⟩ := by rw [PH.new_m, if_pos rfl]
  have hrb0 : h.top ≤ rb := hrb
  simp -dsimp -implicitDefEqProofs (disch := first | omega | assumption | (simp only [Option.isSome_some,Qt0]; done) | (simp only [UInt64.reduceToNat,UInt32.reduceToNat,UInt8.reduceToNat,List.length_cons,List.length_nil,List.length_append,Int.toNat_natCast] <;> omega)) only [Nat.reduceLT,Nat.reduceLeDiff,Nat.reduceEqDiff,↓reduceIte,Int.reduceLT,Int.reduceLE,Int.reduceToNat,Int.reduceEq,Int.reduceNe,Nat.reduceAdd,UInt8.reduceOfNat,UInt16.reduceOfNat,UInt32.reduceOfNat,UInt64.reduceOfNat,UInt64.reduceToNat,UInt32.reduceToNat,UInt16.reduceToNat,UInt8.reduceToNat,Int.reduceAdd,Int.reduceSub,Int.reduceMul,Nat.reduceMul,Qp0,Ql0,Qe0]
  generalize h.new rb ⟨[.string ⟨#[]⟩, .string ⟨#[]⟩, .int .i64 0, .int .i64 0, .int .i64 0, .slice none 0 0], 6⟩ = h1 at *
  refine Does_one (v := .int .i64 2) el_intk rfl (by omega) fun ab hab => ?_
  have hrc : (rb = ab) = False := eq_false (by have := h1.lt _ _ hm; omega)
  have hz := allOne_of [str [49, 45, 49], str [97, 110, 110], .int .i64 0, .int .i64 0, .int .i64 0, .slice (some ⟨ab, 0, none⟩) 1 1] rfl
  have hz' := allOne_of [.string ⟨#[49, 45, 49]⟩, .string ⟨#[97, 110, 110]⟩, .int .i64 0, .int .i64 0, .int .i64 0, .slice (some ⟨ab, 0, none⟩) 1 1] rfl
  simp -dsimp -implicitDefEqProofs (disch := first | omega | assumption | (simp only [Option.isSome_some,Qt0]; done) | (simp only [UInt64.reduceToNat,UInt32.reduceToNat,UInt8.reduceToNat,List.length_cons,List.length_nil,List.length_append,Int.toNat_natCast] <;> omega)) only [Nat.reduceLT,Nat.reduceLeDiff,Nat.reduceEqDiff,↓reduceIte,Int.reduceLT,Int.reduceLE,Int.reduceToNat,Int.reduceEq,Int.reduceNe,Nat.reduceAdd,UInt8.reduceOfNat,UInt16.reduceOfNat,UInt32.reduceOfNat,UInt64.reduceOfNat,UInt64.reduceToNat,UInt32.reduceToNat,UInt16.reduceToNat,UInt8.reduceToNat,Int.reduceAdd,Int.reduceSub,Int.reduceMul,Nat.reduceMul,Qp0,Ql0,Qe0,hz,hz',hrc,hm,List.take_zero,List.drop_succ_cons,List.drop_zero,List.drop_nil,List.nil_append,List.append_nil,rdN_new,List.take_succ_cons,ite_true]
  refine ⟨_, PH.Le.refl _, some ⟨ab, 0, none⟩, 1, rfl, fun j u hj => ?_, by decide, (hle.new ab _ (Nat.le_trans hle.top hab)).new rb _ hrb0⟩
  have hne : ab ≠ rb := by have := h1.lt _ _ hm; omega
  refine ⟨ab, 0, rfl, .inl ⟨⟨[.int .i64 2], 1⟩, by rw [PH.new_m, if_neg hne, PH.new_m, if_pos rfl]; rfl, ?_⟩⟩
  rw [Nat.zero_add]
  exact hj
/-- What Read tells of a token. -/
theorem RDO_tok {w0 : World} {h0 h' : PH} {al : Int → Prop} {key : Int → List UInt8} {c : Cl} {v : Value} (hr : RDO w0 h0 h' al key (tok key c) v) (hc : rightC c = true) (ha : al c.k) : ∃ A cap, v = .tuple #[.agg (clL c A cap).toArray, .nilIface] ∧ c.x.length ≤ cap ∧ Rv w0 h' A (ints c.x) ∧ ∀ a, A = some a → h0.top ≤ a.block := by
  rcases hr with ⟨d, A, cap, hd, hv, hcap, hrv, hfr⟩ | ⟨hno, _⟩
  · obtain rfl := tok_inj hd.1 hc hd.2.2.symm
    exact ⟨A, cap, hv, hcap, hrv, hfr⟩
  · exact absurd ⟨hc, ha, rfl⟩ (hno c)
set_option maxRecDepth 20000 in
set_option maxHeartbeats 4000000 in
theorem wake12 (w0 : World) (h : PH) : PCalls Tryz.prog w0 4 [] h fun v h' => v = .bool true ∧ PH.Le h h' := by
  refine PCalls_body Tryz.func4 (by kernel_rfl) rfl _ Tryz.ntmps4 (by kernel_rfl) (by kernel_rfl) _ Tryz.results4 ?_
  have hri : right [109] 4 := by decide
  have hN := Lib.hid (new_right [109] 4 hri w0 h)
  simp -dsimp -implicitDefEqProofs (disch := first | omega | assumption | (simp only [Option.isSome_some,Qt0]; done) | (simp only [UInt64.reduceToNat,UInt32.reduceToNat,UInt8.reduceToNat,List.length_cons,List.length_nil,List.length_append,Int.toNat_natCast] <;> omega)) only [Nat.reduceLT,Nat.reduceLeDiff,Nat.reduceEqDiff,↓reduceIte,Int.reduceLT,Int.reduceLE,Int.reduceToNat,Int.reduceEq,Int.reduceNe,Nat.reduceAdd,UInt8.reduceOfNat,UInt16.reduceOfNat,UInt32.reduceOfNat,UInt64.reduceOfNat,UInt64.reduceToNat,UInt32.reduceToNat,UInt16.reduceToNat,UInt8.reduceToNat,Int.reduceAdd,Int.reduceSub,Int.reduceMul,Nat.reduceMul,Qp0,Ql0,Qe0]
  refine hN.out.mono ?_
  rintro v h1 ⟨b, rfl, hb, rfl⟩
  have hle := (PH.Le.refl h).new b ⟨[str [109], .int .i64 4], 2⟩ hb
  have hmb : (h.new b ⟨[str [109], .int .i64 4], 2⟩).m b = some ⟨[str [109], .int .i64 4], 2⟩ := by rw [PH.new_m, if_pos rfl]
  generalize h.new b ⟨[str [109], .int .i64 4], 2⟩ = h1 at *
  simp -dsimp -implicitDefEqProofs (disch := first | omega | assumption | (simp only [Option.isSome_some,Qt0]; done) | (simp only [UInt64.reduceToNat,UInt32.reduceToNat,UInt8.reduceToNat,List.length_cons,List.length_nil,List.length_append,Int.toNat_natCast] <;> omega)) only [Nat.reduceLT,Nat.reduceLeDiff,Nat.reduceEqDiff,↓reduceIte,Int.reduceLT,Int.reduceLE,Int.reduceToNat,Int.reduceEq,Int.reduceNe,Nat.reduceAdd,UInt8.reduceOfNat,UInt16.reduceOfNat,UInt32.reduceOfNat,UInt64.reduceOfNat,UInt64.reduceToNat,UInt32.reduceToNat,UInt16.reduceToNat,UInt8.reduceToNat,Int.reduceAdd,Int.reduceSub,Int.reduceMul,Nat.reduceMul,Qp0,Ql0,Qe0]
  refine (basis_any w0 h1).mono ?_
  rintro v h2 ⟨A, cap, rfl, hrv, hcap, hl2⟩
  have hmb2 := hl2.m _ _ hmb
  have hrc : rightC { basC with k := 4 } = true := by decide +kernel
  simp -dsimp -implicitDefEqProofs (disch := first | omega | assumption | (simp only [Option.isSome_some,Qt0]; done) | (simp only [UInt64.reduceToNat,UInt32.reduceToNat,UInt8.reduceToNat,List.length_cons,List.length_nil,List.length_append,Int.toNat_natCast] <;> omega)) only [Nat.reduceLT,Nat.reduceLeDiff,Nat.reduceEqDiff,↓reduceIte,Int.reduceLT,Int.reduceLE,Int.reduceToNat,Int.reduceEq,Int.reduceNe,Nat.reduceAdd,UInt8.reduceOfNat,UInt16.reduceOfNat,UInt32.reduceOfNat,UInt64.reduceOfNat,UInt64.reduceToNat,UInt32.reduceToNat,UInt16.reduceToNat,UInt8.reduceToNat,Int.reduceAdd,Int.reduceSub,Int.reduceMul,Nat.reduceMul,Qp0,Ql0,Qe0]
  refine (mint_any b [109] 4 hri w0 h2 hmb2 basC A cap hrv hcap (by decide)).mono ?_
  rintro v h3 ⟨hm, hl3⟩
  unfold MINT at hm
  rw [if_pos hrc] at hm
  subst hm
  have hmb3 := hl3.m _ _ hmb2
  have hlen := tok_length (derive [109]) { basC with k := 4 }
  have hbl := bytesC_le hrc
  have hbl2 : 0 < (bytesC { basC with k := 4 }).length := by decide +kernel
  have hdot : (tok (derive [109]) { basC with k := 4 }).getD ((tok (derive [109]) { basC with k := 4 }).length - 44) 0 = 46 := by
    rw [hlen]
    unfold tok
    rw [List.getD, List.getElem?_append_right (by rw [tenc_length]; omega), tenc_length]
    simp
  have hR := tRead_any (.pointer (some ⟨b, 0, none⟩)) (alive 4) (derive [109]) (tok (derive [109]) { basC with k := 4 }) (by omega) w0 h3 (key_ring b [109] 4 hri w0 h3 hmb3)
  have hL : (tok (derive [109]) { basC with k := 4 }).length ≥ 45 := by omega
  have hL2 : (tok (derive [109]) { basC with k := 4 }).length ≤ 4000 := by omega
  have hR := hR.mono (R' := fun v h' => ∃ A cap, v = .tuple #[.agg (clL { basC with k := 4 } A cap).toArray, .nilIface] ∧ PH.Le h3 h') fun v h' ⟨hr, hl⟩ => by
    obtain ⟨A, cap, hv, _, _, _⟩ := RDO_tok hr hrc (by show alive 4 4; decide)
    exact ⟨A, cap, hv, hl⟩
  generalize tok (derive [109]) { basC with k := 4 } = T at *
  clear hlen hbl hbl2
  have hR := Lib.hid hR
  have d1 : decide ((T.length : Int) > 44) = true := decide_eq_true (by omega)
  have d2 : ((T.length : Int) - 44).toNat = T.length - 44 := by omega
  simp -dsimp -implicitDefEqProofs (disch := first | omega | assumption | (simp only [Option.isSome_some,Qt0]; done) | (simp only [UInt64.reduceToNat,UInt32.reduceToNat,UInt8.reduceToNat,List.length_cons,List.length_nil,List.length_append,Int.toNat_natCast] <;> omega)) only [Nat.reduceLT,Nat.reduceLeDiff,Nat.reduceEqDiff,↓reduceIte,Int.reduceLT,Int.reduceLE,Int.reduceToNat,Int.reduceEq,Int.reduceNe,Nat.reduceAdd,UInt8.reduceOfNat,UInt16.reduceOfNat,UInt32.reduceOfNat,UInt64.reduceOfNat,UInt64.reduceToNat,UInt32.reduceToNat,UInt16.reduceToNat,UInt8.reduceToNat,Int.reduceAdd,Int.reduceSub,Int.reduceMul,Nat.reduceMul,Qp0,Ql0,Qe0]
  refine hR.out.mono ?_
  rintro v h4 ⟨B, cap', rfl, hl4⟩
  rw [show clL { basC with k := 4 } B cap' = [str [49, 45, 49], str [97, 110, 110], .int .i64 0, .int .i64 0, .int .i64 4, .slice B 1 cap'] from rfl]
  simp -dsimp -implicitDefEqProofs (disch := first | omega | assumption | (simp only [Option.isSome_some,Qt0]; done) | (simp only [UInt64.reduceToNat,UInt32.reduceToNat,UInt8.reduceToNat,List.length_cons,List.length_nil,List.length_append,Int.toNat_natCast] <;> omega)) only [Nat.reduceLT,Nat.reduceLeDiff,Nat.reduceEqDiff,↓reduceIte,Int.reduceLT,Int.reduceLE,Int.reduceToNat,Int.reduceEq,Int.reduceNe,Nat.reduceAdd,UInt8.reduceOfNat,UInt16.reduceOfNat,UInt32.reduceOfNat,UInt64.reduceOfNat,UInt64.reduceToNat,UInt32.reduceToNat,UInt16.reduceToNat,UInt8.reduceToNat,Int.reduceAdd,Int.reduceSub,Int.reduceMul,Nat.reduceMul,Qp0,Ql0,Qe0]
  refine fun cb hcb => ?_
  have hz2 := allOne_of [str [49, 45, 49], str [97, 110, 110], .int .i64 0, .int .i64 0, .int .i64 4, .slice B 1 cap'] rfl
  have hle4 := ((hle.trans hl2).trans hl3).trans hl4
  simp -dsimp -implicitDefEqProofs (disch := first | omega | assumption | (simp only [Option.isSome_some,Qt0]; done) | (simp only [UInt64.reduceToNat,UInt32.reduceToNat,UInt8.reduceToNat,List.length_cons,List.length_nil,List.length_append,Int.toNat_natCast] <;> omega)) only [Nat.reduceLT,Nat.reduceLeDiff,Nat.reduceEqDiff,↓reduceIte,Int.reduceLT,Int.reduceLE,Int.reduceToNat,Int.reduceEq,Int.reduceNe,Nat.reduceAdd,UInt8.reduceOfNat,UInt16.reduceOfNat,UInt32.reduceOfNat,UInt64.reduceOfNat,UInt64.reduceToNat,UInt32.reduceToNat,UInt16.reduceToNat,UInt8.reduceToNat,Int.reduceAdd,Int.reduceSub,Int.reduceMul,Nat.reduceMul,Qp0,Ql0,Qe0,hz2,PH.new_new,List.take_zero,List.drop_succ_cons,List.drop_zero,List.drop_nil,List.nil_append,List.append_nil,rdN_new,List.take_succ_cons,ite_true,rd_M,rdM_some,d1,d2,hdot,if_true]
  exact ⟨_, PH.Le.refl _, by trivial, hle4.new cb _ (Nat.le_trans hle4.top hcb)⟩
end Go.Proofs.YtdlaoeepeakpeaaGreat


/- Groups of eight bits: plain facts. No condition. -/
namespace Go.Proofs.YtdlaoeepeakpeaaGreat.Tx
set_option linter.unusedVariables false
set_option linter.unusedSimpArgs false
theorem val_bound8 (l : List Int) : (∀ x ∈ l, 0 ≤ x ∧ x ≤ 1) → l.length ≤ 8 → 0 ≤ val l ∧ val l < 256 := by
  intro h hl
  rcases l with _ | ⟨a, _ | ⟨b, _ | ⟨c, _ | ⟨d, _ | ⟨e, _ | ⟨f, _ | ⟨g, _ | ⟨i, _ | ⟨j, t⟩⟩⟩⟩⟩⟩⟩⟩⟩
  case cons.cons.cons.cons.cons.cons.cons.cons.cons => simp at hl
  all_goals
    simp at h
    simp only [val, List.foldl_cons, List.foldl_nil]
    omega
theorem by8_eight : ∀ (l : List Int), l.length = 8 → by8 l = [UInt8.ofInt (val l)]
  | [a, b, c, d, e, f, g, h], _ => rfl
theorem by8_append : ∀ (n : Nat) (a b : List Int), a.length = 8 * n → by8 (a ++ b) = by8 a ++ by8 b
  | 0, a, b, h => by have : a = [] := List.length_eq_zero_iff.1 (by omega); subst this; rfl
  | n + 1, a, b, h => by
    match a, h with
    | x0 :: x1 :: x2 :: x3 :: x4 :: x5 :: x6 :: x7 :: t, h =>
      simp only [List.cons_append, by8]
      rw [by8_append n t b (by simp at h; omega)]
theorem rest8_append : ∀ (n : Nat) (a b : List Int), a.length = 8 * n → rest8 (a ++ b) = rest8 b
  | 0, a, b, h => by have : a = [] := List.length_eq_zero_iff.1 (by omega); subst this; rfl
  | n + 1, a, b, h => by
    match a, h with
    | x0 :: x1 :: x2 :: x3 :: x4 :: x5 :: x6 :: x7 :: t, h =>
      simp only [List.cons_append, rest8]
      rw [rest8_append n t b (by simp at h; omega)]
theorem short8 (l : List Int) (h : l.length < 8) : by8 l = [] ∧ rest8 l = l := by
  rcases l with _ | ⟨a, _ | ⟨b, _ | ⟨c, _ | ⟨d, _ | ⟨e, _ | ⟨f, _ | ⟨g, _ | ⟨i, t⟩⟩⟩⟩⟩⟩⟩⟩
  case cons.cons.cons.cons.cons.cons.cons.cons => simp at h; omega
  all_goals exact ⟨rfl, rfl⟩
theorem by8_take (l : List Int) (g : Nat) (h : 8 * g + 8 ≤ l.length) : by8 (l.take (8 * g + 8)) = by8 (l.take (8 * g)) ++ [UInt8.ofInt (val ((l.drop (8 * g)).take 8))] := by
  rw [List.take_add, by8_append g _ _ (by rw [List.length_take]; omega), by8_eight ((l.drop (8 * g)).take 8) (by rw [List.length_take, List.length_drop]; omega)]
theorem by8_whole (l : List Int) (g : Nat) (h : 8 * g ≤ l.length) (h2 : l.length < 8 * g + 8) : by8 l = by8 (l.take (8 * g)) ∧ rest8 l = l.drop (8 * g) := by
  have hs := short8 (l.drop (8 * g)) (by simp; omega)
  have ha := by8_append g (l.take (8 * g)) (l.drop (8 * g)) (by simp; omega)
  have hr := rest8_append g (l.take (8 * g)) (l.drop (8 * g)) (by simp; omega)
  rw [List.take_append_drop] at ha hr
  rw [hs.1, List.append_nil] at ha
  rw [hs.2] at hr
  exact ⟨ha, hr⟩
theorem sixes_bits (s : List UInt8) : ∀ x ∈ sixes s, 0 ≤ x ∧ x ≤ 1 := by
  intro x hx
  obtain ⟨c, _, hc⟩ := List.mem_flatMap.1 hx
  have hb : ∀ n j, 0 ≤ b6 n j ∧ b6 n j ≤ 1 := fun n j => by unfold b6; omega
  simp only [bits6, List.mem_cons, List.not_mem_nil, or_false] at hc
  rcases hc with rfl | rfl | rfl | rfl | rfl | rfl <;> exact hb _ _
theorem sixes_snoc (s : List UInt8) (k : Nat) (h : k < s.length) : sixes (s.take (k + 1)) = sixes (s.take k) ++ bits6 (idx (s.getD k 0)) := by
  rw [take_snoc8 s k h]; simp [sixes]
/-- The bits of a number from the highest one on, all but the lowest j. -/
def top6 (n : Int) (j : Nat) : List Int := (bits6 n).take (6 - j)
theorem top6_succ (n : Int) (j : Nat) (hj : j < 6) : top6 n (j + 1) ++ [b6 n j] = top6 n j := by
  unfold top6 bits6
  match j, hj with
  | 0, _ => rfl
  | 1, _ => rfl
  | 2, _ => rfl
  | 3, _ => rfl
  | 4, _ => rfl
  | 5, _ => rfl
theorem idx_first : ∀ (l : List UInt8) (c : UInt8) (k : Nat), (∀ j, j < k → l[j]? ≠ some c) → l[k]? = some c → Lib.indexByte l c = k
  | [], c, k, _, h => by simp at h
  | b :: l, c, 0, _, h => by
    have : b = c := by simpa using h
    simp [Lib.indexByte, this]
  | b :: l, c, k + 1, hj, h => by
    have hb : (b == c) = false := by
      have := hj 0 (by omega)
      simpa using this
    have ih := idx_first l c k (fun j hjk => by have := hj (j + 1) (by omega); simpa using this) (by simpa using h)
    have hne : ((k : Int) == -1) = false := by rw [beq_eq_false_iff_ne]; omega
    unfold Lib.indexByte
    rw [hb, ih, hne]
    simp
theorem idx_no : ∀ (l : List UInt8) (c : UInt8), (∀ j : Nat, l[j]? ≠ some c) → Lib.indexByte l c = -1
  | [], c, _ => rfl
  | b :: l, c, hj => by
    have hb : (b == c) = false := by
      have := hj 0
      simpa using this
    have ih := idx_no l c (fun j => by have := hj (j + 1); simpa using this)
    unfold Lib.indexByte
    rw [hb, ih]
    simp
end Go.Proofs.YtdlaoeepeakpeaaGreat.Tx


/- Walks of the document's number and Dec. -/
namespace Go.Proofs.YtdlaoeepeakpeaaGreat
set_option linter.unusedVariables false
set_option linter.unusedSimpArgs false
open Go.RowKit Px Tx
set_option maxRecDepth 20000 in
set_option maxHeartbeats 1000000 in
theorem rletnum_any (c : UInt8) (w0 : World) (h : PH) : PCalls Tryz.prog w0 31 [u8 c] h fun v h' => v = .int .i64 (idx c) ∧ h' = h := by
  refine PCalls_body Tryz.func31 (by kernel_rfl) rfl _ Tryz.ntmps31 (by kernel_rfl) (by kernel_rfl) _ Tryz.results31 ?_
  simp -dsimp -implicitDefEqProofs (disch := first | omega | assumption | (simp only [Option.isSome_some,Qt0]; done) | (simp only [List.length_cons,List.length_nil,List.length_append,Int.toNat_natCast] <;> omega)) only [Nat.reduceLT,Nat.reduceLeDiff,Nat.reduceEqDiff,↓reduceIte,Int.reduceLT,Int.reduceLE,Int.reduceToNat,Int.reduceEq,Int.reduceNe,Nat.reduceAdd,Int.reduceAdd,Int.reduceSub,Int.reduceMul,Nat.reduceMul,Qp0,Ql0,Qe0]
  refine PW_loop (fun n f h' => ∃ k : Nat, k + n = 64 ∧ f 0 = some (u8 c) ∧ f 3 = some (.int .i64 k) ∧ (∀ j, j < k → letters[j]? ≠ some c) ∧ h' = h) (by kernel_rfl) 64 ⟨0, by omega, ?_, ?_, fun j hj => absurd hj (by omega), rfl⟩ ?_
  · simp -dsimp -implicitDefEqProofs (disch := first | omega | assumption | (simp only [Option.isSome_some,Qt0]; done) | (simp only [List.length_cons,List.length_nil,List.length_append,Int.toNat_natCast] <;> omega)) only [Nat.reduceLT,Nat.reduceLeDiff,Nat.reduceEqDiff,↓reduceIte,Int.reduceLT,Int.reduceLE,Int.reduceToNat,Int.reduceEq,Int.reduceNe,Nat.reduceAdd,Int.reduceAdd,Int.reduceSub,Int.reduceMul,Nat.reduceMul,Qp0,Ql0,Qe0]
  · simp -dsimp -implicitDefEqProofs (disch := first | omega | assumption | (simp only [Option.isSome_some,Qt0]; done) | (simp only [List.length_cons,List.length_nil,List.length_append,Int.toNat_natCast] <;> omega)) only [Nat.reduceLT,Nat.reduceLeDiff,Nat.reduceEqDiff,↓reduceIte,Int.reduceLT,Int.reduceLE,Int.reduceToNat,Int.reduceEq,Int.reduceNe,Nat.reduceAdd,Int.reduceAdd,Int.reduceSub,Int.reduceMul,Nat.reduceMul,Qp0,Ql0,Qe0]
    try rfl
  rintro n f h' ⟨k, hkn, f0, f3, hne, rfl⟩
  have hlen : letters.length = 64 := rfl
  by_cases hk : k < 64
  · have hL : letAt (k : Int) = letters.getD k 0 := by unfold letAt; rw [Int.toNat_natCast]
    have hLg : letters[k]? = some (letters.getD k 0) := by rw [List.getD, List.getElem?_eq_getElem (by omega)]; rfl
    have hI := Lib.hid (letter_any k hk w0 h')
    cases e : decide (letAt (k : Int) = c)
    · have hne' : letAt (k : Int) ≠ c := of_decide_eq_false e
      simp -dsimp -implicitDefEqProofs (disch := first | omega | assumption | (simp only [Option.isSome_some,Qt0]; done) | (simp only [List.length_cons,List.length_nil,List.length_append,Int.toNat_natCast] <;> omega)) only [Nat.reduceLT,Nat.reduceLeDiff,Nat.reduceEqDiff,↓reduceIte,Int.reduceLT,Int.reduceLE,Int.reduceToNat,Int.reduceEq,Int.reduceNe,Nat.reduceAdd,Int.reduceAdd,Int.reduceSub,Int.reduceMul,Nat.reduceMul,Qp0,Ql0,Qe0,f0,f3]
      refine hI.out.mono ?_
      rintro v hz ⟨rfl, rfl⟩
      simp -dsimp -implicitDefEqProofs (disch := first | omega | assumption | (simp only [Option.isSome_some,Qt0]; done) | (simp only [List.length_cons,List.length_nil,List.length_append,Int.toNat_natCast] <;> omega)) only [Nat.reduceLT,Nat.reduceLeDiff,Nat.reduceEqDiff,↓reduceIte,Int.reduceLT,Int.reduceLE,Int.reduceToNat,Int.reduceEq,Int.reduceNe,Nat.reduceAdd,Int.reduceAdd,Int.reduceSub,Int.reduceMul,Nat.reduceMul,Qp0,Ql0,Qe0,f0,f3,e]
      refine ⟨n - 1, _, by omega, PH.Le.refl _, k + 1, by omega, ?_, ?_, fun j hj => ?_, rfl⟩
      · first | rfl | (simp; done)
      · first | rfl | (simp; done)
      · rcases Nat.lt_or_ge j k with h1 | h1
        · exact hne j h1
        · obtain rfl : j = k := by omega
          rw [hLg, ← hL]; intro q; exact hne' (Option.some.inj q)
    · have he : letAt (k : Int) = c := of_decide_eq_true e
      have hi : idx c = k := idx_first _ _ _ hne (by rw [hLg, ← hL, he])
      simp -dsimp -implicitDefEqProofs (disch := first | omega | assumption | (simp only [Option.isSome_some,Qt0]; done) | (simp only [List.length_cons,List.length_nil,List.length_append,Int.toNat_natCast] <;> omega)) only [Nat.reduceLT,Nat.reduceLeDiff,Nat.reduceEqDiff,↓reduceIte,Int.reduceLT,Int.reduceLE,Int.reduceToNat,Int.reduceEq,Int.reduceNe,Nat.reduceAdd,Int.reduceAdd,Int.reduceSub,Int.reduceMul,Nat.reduceMul,Qp0,Ql0,Qe0,f0,f3]
      refine hI.out.mono ?_
      rintro v hz ⟨rfl, rfl⟩
      simp -dsimp -implicitDefEqProofs (disch := first | omega | assumption | (simp only [Option.isSome_some,Qt0]; done) | (simp only [List.length_cons,List.length_nil,List.length_append,Int.toNat_natCast] <;> omega)) only [Nat.reduceLT,Nat.reduceLeDiff,Nat.reduceEqDiff,↓reduceIte,Int.reduceLT,Int.reduceLE,Int.reduceToNat,Int.reduceEq,Int.reduceNe,Nat.reduceAdd,Int.reduceAdd,Int.reduceSub,Int.reduceMul,Nat.reduceMul,Qp0,Ql0,Qe0,f0,f3,e]
      exact ⟨_, PH.Le.refl _, by rw [hi], rfl⟩
  · obtain rfl : k = 64 := by omega
    have hi : idx c = -1 := idx_no _ _ fun j => by
      rcases Nat.lt_or_ge j 64 with h1 | h1
      · exact hne j h1
      · rw [List.getElem?_eq_none (by omega)]; simp
    simp -dsimp -implicitDefEqProofs (disch := first | omega | assumption | (simp only [Option.isSome_some,Qt0]; done) | (simp only [List.length_cons,List.length_nil,List.length_append,Int.toNat_natCast] <;> omega)) only [Nat.reduceLT,Nat.reduceLeDiff,Nat.reduceEqDiff,↓reduceIte,Int.reduceLT,Int.reduceLE,Int.reduceToNat,Int.reduceEq,Int.reduceNe,Nat.reduceAdd,Int.reduceAdd,Int.reduceSub,Int.reduceMul,Nat.reduceMul,Qp0,Ql0,Qe0,f0,f3]
    exact ⟨_, PH.Le.refl _, by rw [hi], rfl⟩
set_option maxRecDepth 20000 in
set_option maxHeartbeats 4000000 in
theorem rdec_bad (s : List UInt8) (q : Nat) (hq : q < s.length) (w0 : World) (h : PH) (hs : s.length ≤ 4000000) (hg : ∀ j, j < q → 0 ≤ idx (s.getD j 0)) (hb : idx (s.getD q 0) < 0) :
    PCalls Tryz.prog w0 15 [str s] h fun v h' => v = .tuple #[str [], .int .i64 q] ∧ h' = h := by
  refine PCalls_body Tryz.func15 (by kernel_rfl) rfl _ Tryz.ntmps15 (by kernel_rfl) (by kernel_rfl) _ Tryz.results15 ?_
  simp -dsimp -implicitDefEqProofs (disch := first | omega | assumption | (simp only [Option.isSome_some,Qt0]; done) | (simp only [List.length_cons,List.length_nil,List.length_append,Int.toNat_natCast] <;> omega)) only [Nat.reduceLT,Nat.reduceLeDiff,Nat.reduceEqDiff,↓reduceIte,Int.reduceLT,Int.reduceLE,Int.reduceToNat,Int.reduceEq,Int.reduceNe,Nat.reduceAdd,Int.reduceAdd,Int.reduceSub,Int.reduceMul,Nat.reduceMul,Qp0,Ql0,Qe0]
  refine PW_loop (fun n f h' => ∃ k : Nat, k + n = q ∧ f 0 = some (str s) ∧ f 4 = some (.int .i64 k) ∧ h' = h) (by kernel_rfl) q ⟨0, by omega, ?_, ?_, rfl⟩ ?_
  · simp -dsimp -implicitDefEqProofs (disch := first | omega | assumption | (simp only [Option.isSome_some,Qt0]; done) | (simp only [List.length_cons,List.length_nil,List.length_append,Int.toNat_natCast] <;> omega)) only [Nat.reduceLT,Nat.reduceLeDiff,Nat.reduceEqDiff,↓reduceIte,Int.reduceLT,Int.reduceLE,Int.reduceToNat,Int.reduceEq,Int.reduceNe,Nat.reduceAdd,Int.reduceAdd,Int.reduceSub,Int.reduceMul,Nat.reduceMul,Qp0,Ql0,Qe0]
  · simp -dsimp -implicitDefEqProofs (disch := first | omega | assumption | (simp only [Option.isSome_some,Qt0]; done) | (simp only [List.length_cons,List.length_nil,List.length_append,Int.toNat_natCast] <;> omega)) only [Nat.reduceLT,Nat.reduceLeDiff,Nat.reduceEqDiff,↓reduceIte,Int.reduceLT,Int.reduceLE,Int.reduceToNat,Int.reduceEq,Int.reduceNe,Nat.reduceAdd,Int.reduceAdd,Int.reduceSub,Int.reduceMul,Nat.reduceMul,Qp0,Ql0,Qe0]
    try rfl
  rintro n f h' ⟨k, hkq, f0, f4, rfl⟩
  have hI := Lib.hid (rletnum_any (s.getD k 0) w0 h')
  by_cases hk : k < q
  · have hge := hg k hk
    generalize idx (s.getD k 0) = z at hI hge
    have hI := Lib.hid hI.out
    simp -dsimp -implicitDefEqProofs (disch := first | omega | assumption | (simp only [Option.isSome_some,Qt0]; done) | (simp only [List.length_cons,List.length_nil,List.length_append,Int.toNat_natCast] <;> omega)) only [Nat.reduceLT,Nat.reduceLeDiff,Nat.reduceEqDiff,↓reduceIte,Int.reduceLT,Int.reduceLE,Int.reduceToNat,Int.reduceEq,Int.reduceNe,Nat.reduceAdd,Int.reduceAdd,Int.reduceSub,Int.reduceMul,Nat.reduceMul,Qp0,Ql0,Qe0,f0,f4]
    refine hI.out.mono ?_
    rintro v hz ⟨rfl, rfl⟩
    simp -dsimp -implicitDefEqProofs (disch := first | omega | assumption | (simp only [Option.isSome_some,Qt0]; done) | (simp only [List.length_cons,List.length_nil,List.length_append,Int.toNat_natCast] <;> omega)) only [Nat.reduceLT,Nat.reduceLeDiff,Nat.reduceEqDiff,↓reduceIte,Int.reduceLT,Int.reduceLE,Int.reduceToNat,Int.reduceEq,Int.reduceNe,Nat.reduceAdd,Int.reduceAdd,Int.reduceSub,Int.reduceMul,Nat.reduceMul,Qp0,Ql0,Qe0,f0,f4]
    exact ⟨n - 1, _, by omega, PH.Le.refl _, k + 1, by omega, by first | rfl | (simp; done), by first | rfl | (simp; done), rfl⟩
  · obtain rfl : k = q := by omega
    generalize idx (s.getD k 0) = z at hI hb
    have hI := Lib.hid hI.out
    simp -dsimp -implicitDefEqProofs (disch := first | omega | assumption | (simp only [Option.isSome_some,Qt0]; done) | (simp only [List.length_cons,List.length_nil,List.length_append,Int.toNat_natCast] <;> omega)) only [Nat.reduceLT,Nat.reduceLeDiff,Nat.reduceEqDiff,↓reduceIte,Int.reduceLT,Int.reduceLE,Int.reduceToNat,Int.reduceEq,Int.reduceNe,Nat.reduceAdd,Int.reduceAdd,Int.reduceSub,Int.reduceMul,Nat.reduceMul,Qp0,Ql0,Qe0,f0,f4]
    refine hI.out.mono ?_
    rintro v hz ⟨rfl, rfl⟩
    simp -dsimp -implicitDefEqProofs (disch := first | omega | assumption | (simp only [Option.isSome_some,Qt0]; done) | (simp only [List.length_cons,List.length_nil,List.length_append,Int.toNat_natCast] <;> omega)) only [Nat.reduceLT,Nat.reduceLeDiff,Nat.reduceEqDiff,↓reduceIte,Int.reduceLT,Int.reduceLE,Int.reduceToNat,Int.reduceEq,Int.reduceNe,Nat.reduceAdd,Int.reduceAdd,Int.reduceSub,Int.reduceMul,Nat.reduceMul,Qp0,Ql0,Qe0,f0,f4]
    exact ⟨_, PH.Le.refl _, by trivial, rfl⟩
theorem b6_eq (N : Nat) (j : Nat) (hj : j < 6) : (N : Int) / 2 ^ (UInt64.ofInt ((j : Int))).toNat % 2 = b6 (N : Int) j := by
  have e : (UInt64.ofInt ((j : Int))).toNat = j := by simp [UInt64.ofInt]; omega
  rw [e]; rfl
theorem ofInt64_lt6 (i : Nat) (hi : i < 8) : (UInt64.ofInt ((i : Int))).toNat < 64 := by simp [UInt64.ofInt]; omega
set_option maxRecDepth 20000 in
set_option maxHeartbeats 8000000 in
theorem rdec_good (s : List UInt8) (w0 : World) (h : PH) (hs : s.length ≤ 4000000) (hg : ∀ c ∈ s, 0 ≤ idx c) :
    PCalls Tryz.prog w0 15 [str s] h fun v h' => v = (match decN (nums s) with | some out => .tuple #[str out, .int .i64 (-1)] | none => .tuple #[str [], .int .i64 (decEnd s)]) ∧ h' = h := by
  refine PCalls_body Tryz.func15 (by kernel_rfl) rfl _ Tryz.ntmps15 (by kernel_rfl) (by kernel_rfl) _ Tryz.results15 ?_
  simp -dsimp -implicitDefEqProofs (disch := first | omega | assumption | (simp only [Option.isSome_some,Qt0]; done) | (simp only [List.length_cons,List.length_nil,List.length_append,Int.toNat_natCast] <;> omega)) only [Nat.reduceLT,Nat.reduceLeDiff,Nat.reduceEqDiff,↓reduceIte,Int.reduceLT,Int.reduceLE,Int.reduceToNat,Int.reduceEq,Int.reduceNe,Nat.reduceAdd,Int.reduceAdd,Int.reduceSub,Int.reduceMul,Nat.reduceMul,Qp0,Ql0,Qe0]
  refine PW_loop (fun n f h' => ∃ k : Nat, k + n = s.length ∧ f 0 = some (str s) ∧ f 4 = some (.int .i64 k) ∧ h' = h) (by kernel_rfl) s.length ⟨0, by omega, ?_, ?_, rfl⟩ ?_
  · simp -dsimp -implicitDefEqProofs (disch := first | omega | assumption | (simp only [Option.isSome_some,Qt0]; done) | (simp only [List.length_cons,List.length_nil,List.length_append,Int.toNat_natCast] <;> omega)) only [Nat.reduceLT,Nat.reduceLeDiff,Nat.reduceEqDiff,↓reduceIte,Int.reduceLT,Int.reduceLE,Int.reduceToNat,Int.reduceEq,Int.reduceNe,Nat.reduceAdd,Int.reduceAdd,Int.reduceSub,Int.reduceMul,Nat.reduceMul,Qp0,Ql0,Qe0]
  · simp -dsimp -implicitDefEqProofs (disch := first | omega | assumption | (simp only [Option.isSome_some,Qt0]; done) | (simp only [List.length_cons,List.length_nil,List.length_append,Int.toNat_natCast] <;> omega)) only [Nat.reduceLT,Nat.reduceLeDiff,Nat.reduceEqDiff,↓reduceIte,Int.reduceLT,Int.reduceLE,Int.reduceToNat,Int.reduceEq,Int.reduceNe,Nat.reduceAdd,Int.reduceAdd,Int.reduceSub,Int.reduceMul,Nat.reduceMul,Qp0,Ql0,Qe0]
    try rfl
  rintro n f h' ⟨k, hkq, f0, f4, rfl⟩
  have hI := Lib.hid (rletnum_any (s.getD k 0) w0 h')
  by_cases hk : k < s.length
  · have hge := hg (s.getD k 0) (by rw [List.getD, List.getElem?_eq_getElem hk]; exact List.getElem_mem hk)
    generalize idx (s.getD k 0) = z at hI hge
    have hI := Lib.hid hI.out
    simp -dsimp -implicitDefEqProofs (disch := first | omega | assumption | (simp only [Option.isSome_some,Qt0]; done) | (simp only [List.length_cons,List.length_nil,List.length_append,Int.toNat_natCast] <;> omega)) only [Nat.reduceLT,Nat.reduceLeDiff,Nat.reduceEqDiff,↓reduceIte,Int.reduceLT,Int.reduceLE,Int.reduceToNat,Int.reduceEq,Int.reduceNe,Nat.reduceAdd,Int.reduceAdd,Int.reduceSub,Int.reduceMul,Nat.reduceMul,Qp0,Ql0,Qe0,f0,f4]
    refine hI.out.mono ?_
    rintro v hz ⟨rfl, rfl⟩
    simp -dsimp -implicitDefEqProofs (disch := first | omega | assumption | (simp only [Option.isSome_some,Qt0]; done) | (simp only [List.length_cons,List.length_nil,List.length_append,Int.toNat_natCast] <;> omega)) only [Nat.reduceLT,Nat.reduceLeDiff,Nat.reduceEqDiff,↓reduceIte,Int.reduceLT,Int.reduceLE,Int.reduceToNat,Int.reduceEq,Int.reduceNe,Nat.reduceAdd,Int.reduceAdd,Int.reduceSub,Int.reduceMul,Nat.reduceMul,Qp0,Ql0,Qe0,f0,f4]
    exact ⟨n - 1, _, by omega, PH.Le.refl _, k + 1, by omega, by first | rfl | (simp; done), by first | rfl | (simp; done), rfl⟩
  obtain rfl : k = s.length := by omega
  clear hI
  by_cases hm : s.length % 4 = 1
  · have hn : decN (nums s) = none := decN_one s hm
    have hE : (s.length : Int) = decEnd s := by unfold decEnd; rw [if_pos hm]
    rw [hn, ← hE]
    have hmI : (s.length : Int) % 4 = 1 := by omega
    simp -dsimp -implicitDefEqProofs (disch := first | omega | assumption | (simp only [Option.isSome_some,Qt0]; done) | (simp only [List.length_cons,List.length_nil,List.length_append,Int.toNat_natCast] <;> omega)) only [Nat.reduceLT,Nat.reduceLeDiff,Nat.reduceEqDiff,↓reduceIte,Int.reduceLT,Int.reduceLE,Int.reduceToNat,Int.reduceEq,Int.reduceNe,Nat.reduceAdd,Int.reduceAdd,Int.reduceSub,Int.reduceMul,Nat.reduceMul,Qp0,Ql0,Qe0,f0,f4,hmI]
    exact ⟨_, PH.Le.refl _, by trivial, rfl⟩
  have hmI : ¬ (s.length : Int) % 4 = 1 := by omega
  have hE : (s.length : Int) - 1 = decEnd s := by unfold decEnd; rw [if_neg hm]
  rw [decN_ref s hg hm, ← hE]
  simp -dsimp -implicitDefEqProofs (disch := first | omega | assumption | (simp only [Option.isSome_some,Qt0]; done) | (simp only [List.length_cons,List.length_nil,List.length_append,Int.toNat_natCast] <;> omega)) only [Nat.reduceLT,Nat.reduceLeDiff,Nat.reduceEqDiff,↓reduceIte,Int.reduceLT,Int.reduceLE,Int.reduceToNat,Int.reduceEq,Int.reduceNe,Nat.reduceAdd,Int.reduceAdd,Int.reduceSub,Int.reduceMul,Nat.reduceMul,Qp0,Ql0,Qe0,f0,f4,hmI]
  refine Does_zero el_intt (fun b0 hb0 => ?_)
  have how0 := OwnS.zero (h := h') 1 hb0
  simp -dsimp -implicitDefEqProofs (disch := first | omega | assumption | (simp only [Option.isSome_some,Qt0]; done) | (simp only [List.length_cons,List.length_nil,List.length_append,Int.toNat_natCast] <;> omega)) only [Nat.reduceLT,Nat.reduceLeDiff,Nat.reduceEqDiff,↓reduceIte,Int.reduceLT,Int.reduceLE,Int.reduceToNat,Int.reduceEq,Int.reduceNe,Nat.reduceAdd,Int.reduceAdd,Int.reduceSub,Int.reduceMul,Nat.reduceMul,Qp0,Ql0,Qe0,f0]
  refine PW_loop (fun n f h2 => ∃ (k : Nat) (v : Value), k ≤ s.length ∧ n = s.length - k ∧ f 0 = some (str s) ∧ f 6 = some (.int .i64 k) ∧ f 5 = some v ∧ OwnS h' h2 1 v (6 * k) (is (sixes (s.take k)))) (by kernel_rfl) s.length ⟨0, _, by omega, by omega, ?_, ?_, ?_, how0⟩ ?_
  · simp -dsimp -implicitDefEqProofs (disch := first | omega | assumption | (simp only [Option.isSome_some,Qt0]; done) | (simp only [List.length_cons,List.length_nil,List.length_append,Int.toNat_natCast] <;> omega)) only [Nat.reduceLT,Nat.reduceLeDiff,Nat.reduceEqDiff,↓reduceIte,Int.reduceLT,Int.reduceLE,Int.reduceToNat,Int.reduceEq,Int.reduceNe,Nat.reduceAdd,Int.reduceAdd,Int.reduceSub,Int.reduceMul,Nat.reduceMul,Qp0,Ql0,Qe0,f0]
  · simp -dsimp -implicitDefEqProofs (disch := first | omega | assumption | (simp only [Option.isSome_some,Qt0]; done) | (simp only [List.length_cons,List.length_nil,List.length_append,Int.toNat_natCast] <;> omega)) only [Nat.reduceLT,Nat.reduceLeDiff,Nat.reduceEqDiff,↓reduceIte,Int.reduceLT,Int.reduceLE,Int.reduceToNat,Int.reduceEq,Int.reduceNe,Nat.reduceAdd,Int.reduceAdd,Int.reduceSub,Int.reduceMul,Nat.reduceMul,Qp0,Ql0,Qe0]
  · simp -dsimp -implicitDefEqProofs (disch := first | omega | assumption | (simp only [Option.isSome_some,Qt0]; done) | (simp only [List.length_cons,List.length_nil,List.length_append,Int.toNat_natCast] <;> omega)) only [Nat.reduceLT,Nat.reduceLeDiff,Nat.reduceEqDiff,↓reduceIte,Int.reduceLT,Int.reduceLE,Int.reduceToNat,Int.reduceEq,Int.reduceNe,Nat.reduceAdd,Int.reduceAdd,Int.reduceSub,Int.reduceMul,Nat.reduceMul,Qp0,Ql0,Qe0]
    try rfl
  clear f0 f4 hk hkq n f how0
  rintro n f h2 ⟨k, v, hk, rfl, f0, f6, f5, how⟩
  by_cases hlt : k < s.length
  · have hbs := Lib.hid (sixes_snoc s k hlt)
    have hge := hg (s.getD k 0) (by rw [List.getD, List.getElem?_eq_getElem hlt]; exact List.getElem_mem hlt)
    have hlt6 := idx_lt (s.getD k 0)
    have hI := Lib.hid (rletnum_any (s.getD k 0) w0 h2)
    obtain ⟨N, hN⟩ : ∃ N : Nat, idx (s.getD k 0) = (N : Int) := ⟨_, (Int.toNat_of_nonneg hge).symm⟩
    rw [hN] at hbs hge hlt6 hI
    have hI := Lib.hid hI.out
    simp -dsimp -implicitDefEqProofs (disch := first | omega | assumption | (simp only [Option.isSome_some,Qt0]; done) | (simp only [List.length_cons,List.length_nil,List.length_append,Int.toNat_natCast] <;> omega)) only [Nat.reduceLT,Nat.reduceLeDiff,Nat.reduceEqDiff,↓reduceIte,Int.reduceLT,Int.reduceLE,Int.reduceToNat,Int.reduceEq,Int.reduceNe,Nat.reduceAdd,Int.reduceAdd,Int.reduceSub,Int.reduceMul,Nat.reduceMul,Qp0,Ql0,Qe0,f0,f6,f5]
    refine hI.out.mono ?_
    rintro v0 hz ⟨rfl, rfl⟩
    simp -dsimp -implicitDefEqProofs (disch := first | omega | assumption | (simp only [Option.isSome_some,Qt0]; done) | (simp only [List.length_cons,List.length_nil,List.length_append,Int.toNat_natCast] <;> omega)) only [Nat.reduceLT,Nat.reduceLeDiff,Nat.reduceEqDiff,↓reduceIte,Int.reduceLT,Int.reduceLE,Int.reduceToNat,Int.reduceEq,Int.reduceNe,Nat.reduceAdd,Int.reduceAdd,Int.reduceSub,Int.reduceMul,Nat.reduceMul,Qp0,Ql0,Qe0,f0,f6,f5]
    refine PW_loop (fun n f h3 => ∃ (v : Value), n ≤ 6 ∧ f 0 = some (str s) ∧ f 6 = some (.int .i64 k) ∧ f 7 = some (.int .i64 N) ∧ f 8 = some (.int .i64 ((n : Int) - 1)) ∧ f 5 = some v ∧ OwnS h' h3 1 v (6 * k + (6 - n)) (is (sixes (s.take k) ++ top6 N n))) (by kernel_rfl) 6 ⟨v, by omega, ?_, ?_, ?_, ?_, ?_, by simpa [top6] using how⟩ ?_
    · simp -dsimp -implicitDefEqProofs (disch := first | omega | assumption | (simp only [Option.isSome_some,Qt0]; done) | (simp only [List.length_cons,List.length_nil,List.length_append,Int.toNat_natCast] <;> omega)) only [Nat.reduceLT,Nat.reduceLeDiff,Nat.reduceEqDiff,↓reduceIte,Int.reduceLT,Int.reduceLE,Int.reduceToNat,Int.reduceEq,Int.reduceNe,Nat.reduceAdd,Int.reduceAdd,Int.reduceSub,Int.reduceMul,Nat.reduceMul,Qp0,Ql0,Qe0,f0]
    · simp -dsimp -implicitDefEqProofs (disch := first | omega | assumption | (simp only [Option.isSome_some,Qt0]; done) | (simp only [List.length_cons,List.length_nil,List.length_append,Int.toNat_natCast] <;> omega)) only [Nat.reduceLT,Nat.reduceLeDiff,Nat.reduceEqDiff,↓reduceIte,Int.reduceLT,Int.reduceLE,Int.reduceToNat,Int.reduceEq,Int.reduceNe,Nat.reduceAdd,Int.reduceAdd,Int.reduceSub,Int.reduceMul,Nat.reduceMul,Qp0,Ql0,Qe0,f6]
    · simp -dsimp -implicitDefEqProofs (disch := first | omega | assumption | (simp only [Option.isSome_some,Qt0]; done) | (simp only [List.length_cons,List.length_nil,List.length_append,Int.toNat_natCast] <;> omega)) only [Nat.reduceLT,Nat.reduceLeDiff,Nat.reduceEqDiff,↓reduceIte,Int.reduceLT,Int.reduceLE,Int.reduceToNat,Int.reduceEq,Int.reduceNe,Nat.reduceAdd,Int.reduceAdd,Int.reduceSub,Int.reduceMul,Nat.reduceMul,Qp0,Ql0,Qe0]
    · simp -dsimp -implicitDefEqProofs (disch := first | omega | assumption | (simp only [Option.isSome_some,Qt0]; done) | (simp only [List.length_cons,List.length_nil,List.length_append,Int.toNat_natCast] <;> omega)) only [Nat.reduceLT,Nat.reduceLeDiff,Nat.reduceEqDiff,↓reduceIte,Int.reduceLT,Int.reduceLE,Int.reduceToNat,Int.reduceEq,Int.reduceNe,Nat.reduceAdd,Int.reduceAdd,Int.reduceSub,Int.reduceMul,Nat.reduceMul,Qp0,Ql0,Qe0]
      try rfl
    · simp -dsimp -implicitDefEqProofs (disch := first | omega | assumption | (simp only [Option.isSome_some,Qt0]; done) | (simp only [List.length_cons,List.length_nil,List.length_append,Int.toNat_natCast] <;> omega)) only [Nat.reduceLT,Nat.reduceLeDiff,Nat.reduceEqDiff,↓reduceIte,Int.reduceLT,Int.reduceLE,Int.reduceToNat,Int.reduceEq,Int.reduceNe,Nat.reduceAdd,Int.reduceAdd,Int.reduceSub,Int.reduceMul,Nat.reduceMul,Qp0,Ql0,Qe0,f5]
    rintro n f2 h3 ⟨v2, hn, g0, g6, g7, g8, g5, how2⟩
    rcases n with _ | j
    · have e0 : top6 N 0 = bits6 N := rfl
      rw [e0, ← hbs.out] at how2
      simp -dsimp -implicitDefEqProofs (disch := first | omega | assumption | (simp only [Option.isSome_some,Qt0]; done) | (simp only [List.length_cons,List.length_nil,List.length_append,Int.toNat_natCast] <;> omega)) only [Nat.reduceLT,Nat.reduceLeDiff,Nat.reduceEqDiff,↓reduceIte,Int.reduceLT,Int.reduceLE,Int.reduceToNat,Int.reduceEq,Int.reduceNe,Nat.reduceAdd,Int.reduceAdd,Int.reduceSub,Int.reduceMul,Nat.reduceMul,Qp0,Ql0,Qe0,g0,g6,g7,g8,g5]
      exact ⟨_, h3, by omega, PH.Le.refl _, k + 1, v2, by omega, rfl, by simp [g0], by simp [g6], by simp [g5], how2⟩
    · have e5 : (((j + 1 : Nat) : Int) - 1) = (j : Int) := by omega
      have hbt := Lib.hid (b6_eq N j (by omega))
      have hol := ofInt64_lt6 j (by omega)
      have hnn : 0 ≤ (N : Int) / 2 ^ (UInt64.ofInt ((j : Int))).toNat := Int.ediv_nonneg (by omega) (Int.le_of_lt (Int.pow_pos (by omega)))
      rw [e5] at g8
      simp -dsimp -implicitDefEqProofs (disch := first | omega | assumption | (simp only [Option.isSome_some,Qt0]; done) | (simp only [List.length_cons,List.length_nil,List.length_append,Int.toNat_natCast] <;> omega)) only [Nat.reduceLT,Nat.reduceLeDiff,Nat.reduceEqDiff,↓reduceIte,Int.reduceLT,Int.reduceLE,Int.reduceToNat,Int.reduceEq,Int.reduceNe,Nat.reduceAdd,Int.reduceAdd,Int.reduceSub,Int.reduceMul,Nat.reduceMul,Qp0,Ql0,Qe0,g0,g6,g7,g8,g5]
      rw [hbt.out]
      refine Does_one (v := .int .i64 _) el_intt rfl (by omega) (fun gb hgb => ?_)
      simp -dsimp -implicitDefEqProofs (disch := first | omega | assumption | (simp only [Option.isSome_some,Qt0]; done) | (simp only [List.length_cons,List.length_nil,List.length_append,Int.toNat_natCast] <;> omega)) only [Nat.reduceLT,Nat.reduceLeDiff,Nat.reduceEqDiff,↓reduceIte,Int.reduceLT,Int.reduceLE,Int.reduceToNat,Int.reduceEq,Int.reduceNe,Nat.reduceAdd,Int.reduceAdd,Int.reduceSub,Int.reduceMul,Nat.reduceMul,Qp0,Ql0,Qe0,g0,g6,g7,g8,g5]
      refine Does_app el_intt (how2.more ((PH.Le.refl _).new _ _ hgb)).own (Rs.blk (k := ⟨is [b6 N j], 1⟩) (by rw [PH.new_m, if_pos rfl]; rfl) rfl) (is_one _) (by unfold maxLen; omega) (by omega) (fun v' h3' ho hst => ?_)
      have hou' := (how2.more ((PH.Le.refl _).new _ _ hgb)).stays hst ho
      have hq : is (sixes (s.take k) ++ top6 N (j + 1)) ++ is [b6 N j] = is (sixes (s.take k) ++ top6 N j) := by
        rw [← top6_succ N j (by omega)]; simp [is]
      rw [hq, show 6 * k + (6 - (j + 1)) + 1 = 6 * k + (6 - j) by omega] at hou'
      simp -dsimp -implicitDefEqProofs (disch := first | omega | assumption | (simp only [Option.isSome_some,Qt0]; done) | (simp only [List.length_cons,List.length_nil,List.length_append,Int.toNat_natCast] <;> omega)) only [Nat.reduceLT,Nat.reduceLeDiff,Nat.reduceEqDiff,↓reduceIte,Int.reduceLT,Int.reduceLE,Int.reduceToNat,Int.reduceEq,Int.reduceNe,Nat.reduceAdd,Int.reduceAdd,Int.reduceSub,Int.reduceMul,Nat.reduceMul,Qp0,Ql0,Qe0,g0,g6,g7,g8,g5]
      exact ⟨j, h3', by omega, PH.Le.refl _, v', by omega, by simp [g0], by simp [g6], by simp [g7], by simp, by simp, hou'⟩
  obtain rfl : k = s.length := by omega
  rw [List.take_length] at how
  have hbl := sixes_length s
  have hbits := sixes_bits s
  generalize sixes s = l at how hbl hbits
  rw [← hbl] at how
  obtain ⟨A, cp, rfl, hcp⟩ := how.own.len
  have hlI : (l.length : Int) = 6 * (s.length : Int) := by omega
  obtain ⟨G, hG1, hG2⟩ : ∃ G, 8 * G ≤ l.length ∧ l.length < 8 * G + 8 := ⟨l.length / 8, by omega, by omega⟩
  obtain ⟨w1, w2⟩ := by8_whole l G hG1 hG2
  simp -dsimp -implicitDefEqProofs (disch := first | omega | assumption | (simp only [Option.isSome_some,Qt0]; done) | (simp only [List.length_cons,List.length_nil,List.length_append,Int.toNat_natCast] <;> omega)) only [Nat.reduceLT,Nat.reduceLeDiff,Nat.reduceEqDiff,↓reduceIte,Int.reduceLT,Int.reduceLE,Int.reduceToNat,Int.reduceEq,Int.reduceNe,Nat.reduceAdd,Int.reduceAdd,Int.reduceSub,Int.reduceMul,Nat.reduceMul,Qp0,Ql0,Qe0,f0,f6,f5]
  refine Does_zero el_u8e (fun b1 hb1 => ?_)
  have how3 := OwnS.zero (h := h2) 1 hb1
  simp -dsimp -implicitDefEqProofs (disch := first | omega | assumption | (simp only [Option.isSome_some,Qt0]; done) | (simp only [List.length_cons,List.length_nil,List.length_append,Int.toNat_natCast] <;> omega)) only [Nat.reduceLT,Nat.reduceLeDiff,Nat.reduceEqDiff,↓reduceIte,Int.reduceLT,Int.reduceLE,Int.reduceToNat,Int.reduceEq,Int.reduceNe,Nat.reduceAdd,Int.reduceAdd,Int.reduceSub,Int.reduceMul,Nat.reduceMul,Qp0,Ql0,Qe0,f0,f5]
  refine PW_loop (fun n f h4 => ∃ (g : Nat) (u : Value) (q : Nat), g ≤ G ∧ n = G - g ∧ q = 8 * g ∧ f 0 = some (str s) ∧ f 5 = some (.slice A l.length cp) ∧ f 10 = some (.int .i64 q) ∧ f 9 = some u ∧ OwnS h2 h4 1 u g (bs (by8 (l.take q)))) (by kernel_rfl) G ⟨0, _, 0, by omega, by omega, rfl, ?_, ?_, ?_, ?_, how3⟩ ?_
  · simp -dsimp -implicitDefEqProofs (disch := first | omega | assumption | (simp only [Option.isSome_some,Qt0]; done) | (simp only [List.length_cons,List.length_nil,List.length_append,Int.toNat_natCast] <;> omega)) only [Nat.reduceLT,Nat.reduceLeDiff,Nat.reduceEqDiff,↓reduceIte,Int.reduceLT,Int.reduceLE,Int.reduceToNat,Int.reduceEq,Int.reduceNe,Nat.reduceAdd,Int.reduceAdd,Int.reduceSub,Int.reduceMul,Nat.reduceMul,Qp0,Ql0,Qe0,f0]
  · simp -dsimp -implicitDefEqProofs (disch := first | omega | assumption | (simp only [Option.isSome_some,Qt0]; done) | (simp only [List.length_cons,List.length_nil,List.length_append,Int.toNat_natCast] <;> omega)) only [Nat.reduceLT,Nat.reduceLeDiff,Nat.reduceEqDiff,↓reduceIte,Int.reduceLT,Int.reduceLE,Int.reduceToNat,Int.reduceEq,Int.reduceNe,Nat.reduceAdd,Int.reduceAdd,Int.reduceSub,Int.reduceMul,Nat.reduceMul,Qp0,Ql0,Qe0,f5]
  · simp -dsimp -implicitDefEqProofs (disch := first | omega | assumption | (simp only [Option.isSome_some,Qt0]; done) | (simp only [List.length_cons,List.length_nil,List.length_append,Int.toNat_natCast] <;> omega)) only [Nat.reduceLT,Nat.reduceLeDiff,Nat.reduceEqDiff,↓reduceIte,Int.reduceLT,Int.reduceLE,Int.reduceToNat,Int.reduceEq,Int.reduceNe,Nat.reduceAdd,Int.reduceAdd,Int.reduceSub,Int.reduceMul,Nat.reduceMul,Qp0,Ql0,Qe0]
    try rfl
  · simp -dsimp -implicitDefEqProofs (disch := first | omega | assumption | (simp only [Option.isSome_some,Qt0]; done) | (simp only [List.length_cons,List.length_nil,List.length_append,Int.toNat_natCast] <;> omega)) only [Nat.reduceLT,Nat.reduceLeDiff,Nat.reduceEqDiff,↓reduceIte,Int.reduceLT,Int.reduceLE,Int.reduceToNat,Int.reduceEq,Int.reduceNe,Nat.reduceAdd,Int.reduceAdd,Int.reduceSub,Int.reduceMul,Nat.reduceMul,Qp0,Ql0,Qe0]
    try rfl
  clear f0 f6 f5 hk hlt f how3
  rintro n f h4 ⟨g, u, q, hg', rfl, hq, f0, f5, f10, f9, hou⟩
  by_cases hlt2 : g < G
  · obtain ⟨b, c', eA, _, hb⟩ := how.own.pos (by omega)
    injection eA with e1 _ _
    subst e1
    simp -dsimp -implicitDefEqProofs (disch := first | omega | assumption | (simp only [Option.isSome_some,Qt0]; done) | (simp only [List.length_cons,List.length_nil,List.length_append,Int.toNat_natCast] <;> omega)) only [Nat.reduceLT,Nat.reduceLeDiff,Nat.reduceEqDiff,↓reduceIte,Int.reduceLT,Int.reduceLE,Int.reduceToNat,Int.reduceEq,Int.reduceNe,Nat.reduceAdd,Int.reduceAdd,Int.reduceSub,Int.reduceMul,Nat.reduceMul,Qp0,Ql0,Qe0,f0,f5,f10,f9]
    refine PW_loop (fun n f h5 => ∃ (k : Nat), k ≤ 8 ∧ n = 8 - k ∧ f 0 = some (str s) ∧ f 5 = some (.slice (some ⟨b, 0, none⟩) l.length cp) ∧ f 10 = some (.int .i64 q) ∧ f 9 = some u ∧ f 11 = some (.int .i64 (val ((l.drop q).take k))) ∧ f 12 = some (.int .i64 k) ∧ h5 = h4) (by kernel_rfl) 8 ⟨0, by omega, by omega, ?_, ?_, ?_, ?_, ?_, ?_, rfl⟩ ?_
    · simp -dsimp -implicitDefEqProofs (disch := first | omega | assumption | (simp only [Option.isSome_some,Qt0]; done) | (simp only [List.length_cons,List.length_nil,List.length_append,Int.toNat_natCast] <;> omega)) only [Nat.reduceLT,Nat.reduceLeDiff,Nat.reduceEqDiff,↓reduceIte,Int.reduceLT,Int.reduceLE,Int.reduceToNat,Int.reduceEq,Int.reduceNe,Nat.reduceAdd,Int.reduceAdd,Int.reduceSub,Int.reduceMul,Nat.reduceMul,Qp0,Ql0,Qe0,f0]
    · simp -dsimp -implicitDefEqProofs (disch := first | omega | assumption | (simp only [Option.isSome_some,Qt0]; done) | (simp only [List.length_cons,List.length_nil,List.length_append,Int.toNat_natCast] <;> omega)) only [Nat.reduceLT,Nat.reduceLeDiff,Nat.reduceEqDiff,↓reduceIte,Int.reduceLT,Int.reduceLE,Int.reduceToNat,Int.reduceEq,Int.reduceNe,Nat.reduceAdd,Int.reduceAdd,Int.reduceSub,Int.reduceMul,Nat.reduceMul,Qp0,Ql0,Qe0,f5]
    · simp -dsimp -implicitDefEqProofs (disch := first | omega | assumption | (simp only [Option.isSome_some,Qt0]; done) | (simp only [List.length_cons,List.length_nil,List.length_append,Int.toNat_natCast] <;> omega)) only [Nat.reduceLT,Nat.reduceLeDiff,Nat.reduceEqDiff,↓reduceIte,Int.reduceLT,Int.reduceLE,Int.reduceToNat,Int.reduceEq,Int.reduceNe,Nat.reduceAdd,Int.reduceAdd,Int.reduceSub,Int.reduceMul,Nat.reduceMul,Qp0,Ql0,Qe0,f10]
    · simp -dsimp -implicitDefEqProofs (disch := first | omega | assumption | (simp only [Option.isSome_some,Qt0]; done) | (simp only [List.length_cons,List.length_nil,List.length_append,Int.toNat_natCast] <;> omega)) only [Nat.reduceLT,Nat.reduceLeDiff,Nat.reduceEqDiff,↓reduceIte,Int.reduceLT,Int.reduceLE,Int.reduceToNat,Int.reduceEq,Int.reduceNe,Nat.reduceAdd,Int.reduceAdd,Int.reduceSub,Int.reduceMul,Nat.reduceMul,Qp0,Ql0,Qe0,f9]
    · simp -dsimp -implicitDefEqProofs (disch := first | omega | assumption | (simp only [Option.isSome_some,Qt0]; done) | (simp only [List.length_cons,List.length_nil,List.length_append,Int.toNat_natCast] <;> omega)) only [Nat.reduceLT,Nat.reduceLeDiff,Nat.reduceEqDiff,↓reduceIte,Int.reduceLT,Int.reduceLE,Int.reduceToNat,Int.reduceEq,Int.reduceNe,Nat.reduceAdd,Int.reduceAdd,Int.reduceSub,Int.reduceMul,Nat.reduceMul,Qp0,Ql0,Qe0]
      try rfl
    · simp -dsimp -implicitDefEqProofs (disch := first | omega | assumption | (simp only [Option.isSome_some,Qt0]; done) | (simp only [List.length_cons,List.length_nil,List.length_append,Int.toNat_natCast] <;> omega)) only [Nat.reduceLT,Nat.reduceLeDiff,Nat.reduceEqDiff,↓reduceIte,Int.reduceLT,Int.reduceLE,Int.reduceToNat,Int.reduceEq,Int.reduceNe,Nat.reduceAdd,Int.reduceAdd,Int.reduceSub,Int.reduceMul,Nat.reduceMul,Qp0,Ql0,Qe0]
      try rfl
    rintro n f4 h5 ⟨k, hk, rfl, d0, d5, d10, d9, d11, d12, rfl⟩
    have hvb := val_bound8 ((l.drop q).take k) (fun x hx => hbits x (List.mem_of_mem_drop (List.mem_of_mem_take hx))) (by rw [List.length_take]; omega)
    by_cases hk6 : k < 8
    · have hps := Lib.hid (part_snoc l q k (by omega))
      have hT : ((q : Int) + (k : Int)).toNat = q + k := by omega
      have hx := hbits (l.getD (q + k) 0) (by rw [List.getD, List.getElem?_eq_getElem (by omega)]; exact List.getElem_mem _)
      have hr : rd w0 h5 ⟨b, q + k, none⟩ = some (.int .i64 (l.getD (q + k) 0)) := rd_is (hou.le.m b _ hb) (by omega)
      generalize l.getD (q + k) 0 = x at hps hx hr
      have hvs := Lib.hid (val_snoc ((l.drop q).take k) x)
      generalize hV : val ((l.drop q).take k) = V at hvb d11 hvs
      simp -dsimp -implicitDefEqProofs (disch := first | omega | assumption | (simp only [Option.isSome_some,Qt0]; done) | (simp only [List.length_cons,List.length_nil,List.length_append,Int.toNat_natCast] <;> omega)) only [Nat.reduceLT,Nat.reduceLeDiff,Nat.reduceEqDiff,↓reduceIte,Int.reduceLT,Int.reduceLE,Int.reduceToNat,Int.reduceEq,Int.reduceNe,Nat.reduceAdd,Int.reduceAdd,Int.reduceSub,Int.reduceMul,Nat.reduceMul,Qp0,Ql0,Qe0,d0,d5,d10,d9,d11,d12,hT,hr]
      exact ⟨_, h5, by omega, PH.Le.refl _, k + 1, by omega, rfl, by simp [d0], by simp [d5], by simp [d10], by simp [d9], by rw [hps.out, hvs.out] <;> simp, by simp, rfl⟩
    · obtain rfl : k = 8 := by omega
      have hgt0 : by8 (l.take (q + 8)) = by8 (l.take q) ++ [UInt8.ofInt (val ((l.drop q).take 8))] := by rw [hq]; exact by8_take l g (by omega)
      have hgt := Lib.hid hgt0
      clear hgt0
      generalize val ((l.drop q).take 8) = N at d11 hgt hvb
      simp -dsimp -implicitDefEqProofs (disch := first | omega | assumption | (simp only [Option.isSome_some,Qt0]; done) | (simp only [List.length_cons,List.length_nil,List.length_append,Int.toNat_natCast] <;> omega)) only [Nat.reduceLT,Nat.reduceLeDiff,Nat.reduceEqDiff,↓reduceIte,Int.reduceLT,Int.reduceLE,Int.reduceToNat,Int.reduceEq,Int.reduceNe,Nat.reduceAdd,Int.reduceAdd,Int.reduceSub,Int.reduceMul,Nat.reduceMul,Qp0,Ql0,Qe0,d0,d5,d10,d9,d11,d12]
      refine Does_one (v := u8 _) el_u8e rfl (by omega) (fun gb hgb => ?_)
      simp -dsimp -implicitDefEqProofs (disch := first | omega | assumption | (simp only [Option.isSome_some,Qt0]; done) | (simp only [List.length_cons,List.length_nil,List.length_append,Int.toNat_natCast] <;> omega)) only [Nat.reduceLT,Nat.reduceLeDiff,Nat.reduceEqDiff,↓reduceIte,Int.reduceLT,Int.reduceLE,Int.reduceToNat,Int.reduceEq,Int.reduceNe,Nat.reduceAdd,Int.reduceAdd,Int.reduceSub,Int.reduceMul,Nat.reduceMul,Qp0,Ql0,Qe0,d0,d5,d10,d9]
      refine Does_app el_u8e (hou.more ((PH.Le.refl _).new _ _ hgb)).own (Rs.blk (k := ⟨[u8 (UInt8.ofInt N)], 1⟩) (by rw [PH.new_m, if_pos rfl]; rfl) rfl) (bs_one [UInt8.ofInt N]) (by unfold maxLen; omega) (by omega) (fun v' h3' ho hst => ?_)
      have hou' := (hou.more ((PH.Le.refl _).new _ _ hgb)).stays hst ho
      have hq2 : bs (by8 (l.take q)) ++ [u8 (UInt8.ofInt N)] = bs (by8 (l.take (q + 8))) := by rw [hgt.out]; simp [bs]
      rw [hq2] at hou'
      simp -dsimp -implicitDefEqProofs (disch := first | omega | assumption | (simp only [Option.isSome_some,Qt0]; done) | (simp only [List.length_cons,List.length_nil,List.length_append,Int.toNat_natCast] <;> omega)) only [Nat.reduceLT,Nat.reduceLeDiff,Nat.reduceEqDiff,↓reduceIte,Int.reduceLT,Int.reduceLE,Int.reduceToNat,Int.reduceEq,Int.reduceNe,Nat.reduceAdd,Int.reduceAdd,Int.reduceSub,Int.reduceMul,Nat.reduceMul,Qp0,Ql0,Qe0,d0,d5,d10,d9]
      exact ⟨_, h3', by omega, PH.Le.refl _, g + 1, v', q + 8, by omega, rfl, by omega, by simp [d0], by simp [d5], by simp, by simp, hou'⟩
  obtain rfl : g = G := by omega
  rw [hq, ← w1] at hou
  rw [w2]
  rw [hq] at f10
  simp -dsimp -implicitDefEqProofs (disch := first | omega | assumption | (simp only [Option.isSome_some,Qt0]; done) | (simp only [List.length_cons,List.length_nil,List.length_append,Int.toNat_natCast] <;> omega)) only [Nat.reduceLT,Nat.reduceLeDiff,Nat.reduceEqDiff,↓reduceIte,Int.reduceLT,Int.reduceLE,Int.reduceToNat,Int.reduceEq,Int.reduceNe,Nat.reduceAdd,Int.reduceAdd,Int.reduceSub,Int.reduceMul,Nat.reduceMul,Qp0,Ql0,Qe0,f0,f5,f10,f9]
  refine PW_loop (fun n f h5 => ∃ (j : Nat), 8 * g ≤ j ∧ j + n = l.length ∧ f 0 = some (str s) ∧ f 5 = some (.slice A l.length cp) ∧ f 10 = some (.int .i64 j) ∧ f 9 = some u ∧ (∀ i, 8 * g ≤ i → i < j → l.getD i 0 = 0) ∧ h5 = h4) (by kernel_rfl) (l.length - 8 * g) ⟨8 * g, by omega, by omega, ?_, ?_, ?_, ?_, fun i h1 h2 => absurd h2 (by omega), rfl⟩ ?_
  · simp -dsimp -implicitDefEqProofs (disch := first | omega | assumption | (simp only [Option.isSome_some,Qt0]; done) | (simp only [List.length_cons,List.length_nil,List.length_append,Int.toNat_natCast] <;> omega)) only [Nat.reduceLT,Nat.reduceLeDiff,Nat.reduceEqDiff,↓reduceIte,Int.reduceLT,Int.reduceLE,Int.reduceToNat,Int.reduceEq,Int.reduceNe,Nat.reduceAdd,Int.reduceAdd,Int.reduceSub,Int.reduceMul,Nat.reduceMul,Qp0,Ql0,Qe0,f0]
  · simp -dsimp -implicitDefEqProofs (disch := first | omega | assumption | (simp only [Option.isSome_some,Qt0]; done) | (simp only [List.length_cons,List.length_nil,List.length_append,Int.toNat_natCast] <;> omega)) only [Nat.reduceLT,Nat.reduceLeDiff,Nat.reduceEqDiff,↓reduceIte,Int.reduceLT,Int.reduceLE,Int.reduceToNat,Int.reduceEq,Int.reduceNe,Nat.reduceAdd,Int.reduceAdd,Int.reduceSub,Int.reduceMul,Nat.reduceMul,Qp0,Ql0,Qe0,f5]
  · simp -dsimp -implicitDefEqProofs (disch := first | omega | assumption | (simp only [Option.isSome_some,Qt0]; done) | (simp only [List.length_cons,List.length_nil,List.length_append,Int.toNat_natCast] <;> omega)) only [Nat.reduceLT,Nat.reduceLeDiff,Nat.reduceEqDiff,↓reduceIte,Int.reduceLT,Int.reduceLE,Int.reduceToNat,Int.reduceEq,Int.reduceNe,Nat.reduceAdd,Int.reduceAdd,Int.reduceSub,Int.reduceMul,Nat.reduceMul,Qp0,Ql0,Qe0,f10]
  · simp -dsimp -implicitDefEqProofs (disch := first | omega | assumption | (simp only [Option.isSome_some,Qt0]; done) | (simp only [List.length_cons,List.length_nil,List.length_append,Int.toNat_natCast] <;> omega)) only [Nat.reduceLT,Nat.reduceLeDiff,Nat.reduceEqDiff,↓reduceIte,Int.reduceLT,Int.reduceLE,Int.reduceToNat,Int.reduceEq,Int.reduceNe,Nat.reduceAdd,Int.reduceAdd,Int.reduceSub,Int.reduceMul,Nat.reduceMul,Qp0,Ql0,Qe0,f9]
  clear f0 f5 f10 f9 hlt2 hg' f
  rintro n f h5 ⟨j, hj1, hj2, f0, f5, f10, f9, hz, rfl⟩
  by_cases hjl : j < l.length
  · obtain ⟨b, c', eA, _, hb⟩ := how.own.pos (by omega)
    injection eA with e1 _ _
    subst e1
    have hr : rd w0 h5 ⟨b, j, none⟩ = some (.int .i64 (l.getD j 0)) := rd_is (hou.le.m b _ hb) (by omega)
    by_cases h0 : l.getD j 0 = 0
    · rw [h0] at hr
      simp -dsimp -implicitDefEqProofs (disch := first | omega | assumption | (simp only [Option.isSome_some,Qt0]; done) | (simp only [List.length_cons,List.length_nil,List.length_append,Int.toNat_natCast] <;> omega)) only [Nat.reduceLT,Nat.reduceLeDiff,Nat.reduceEqDiff,↓reduceIte,Int.reduceLT,Int.reduceLE,Int.reduceToNat,Int.reduceEq,Int.reduceNe,Nat.reduceAdd,Int.reduceAdd,Int.reduceSub,Int.reduceMul,Nat.reduceMul,Qp0,Ql0,Qe0,f0,f5,f10,f9,hr]
      refine ⟨n - 1, _, by omega, PH.Le.refl _, j + 1, by omega, by omega, by simp [f0], by simp [f5], by simp, by simp [f9], fun i h1 h2 => ?_, rfl⟩
      rcases Nat.lt_or_ge i j with h3 | h3
      · exact hz i h1 h3
      · obtain rfl : i = j := by omega
        exact h0
    · have hno : ¬ ∀ x ∈ l.drop (8 * g), x = 0 := fun hall => h0 (hall _ (by
        rw [List.getD, List.getElem?_eq_getElem hjl]
        exact List.mem_iff_getElem?.2 ⟨j - 8 * g, by rw [List.getElem?_drop, show 8 * g + (j - 8 * g) = j by omega, List.getElem?_eq_getElem hjl]; rfl⟩))
      rw [if_neg hno]
      generalize l.getD j 0 = x at hr h0
      simp -dsimp -implicitDefEqProofs (disch := first | omega | assumption | (simp only [Option.isSome_some,Qt0]; done) | (simp only [List.length_cons,List.length_nil,List.length_append,Int.toNat_natCast] <;> omega)) only [Nat.reduceLT,Nat.reduceLeDiff,Nat.reduceEqDiff,↓reduceIte,Int.reduceLT,Int.reduceLE,Int.reduceToNat,Int.reduceEq,Int.reduceNe,Nat.reduceAdd,Int.reduceAdd,Int.reduceSub,Int.reduceMul,Nat.reduceMul,Qp0,Ql0,Qe0,f0,f5,f10,f9,hr,h0]
      exact ⟨_, how.le.trans hou.le, by trivial, rfl⟩
  · obtain rfl : j = l.length := by omega
    have hyes : ∀ x ∈ l.drop (8 * g), x = 0 := fun x hx => by
      obtain ⟨i, hi⟩ := List.mem_iff_getElem?.1 hx
      rw [List.getElem?_drop] at hi
      have hil := (List.getElem?_eq_some_iff.1 hi).1
      have := hz (8 * g + i) (by omega) hil
      rw [List.getD, hi] at this
      exact this
    rw [if_pos hyes]
    obtain ⟨A7, c7, rfl, _⟩ := hou.own.len
    simp -dsimp -implicitDefEqProofs (disch := first | omega | assumption | (simp only [Option.isSome_some,Qt0]; done) | (simp only [List.length_cons,List.length_nil,List.length_append,Int.toNat_natCast] <;> omega)) only [Nat.reduceLT,Nat.reduceLeDiff,Nat.reduceEqDiff,↓reduceIte,Int.reduceLT,Int.reduceLE,Int.reduceToNat,Int.reduceEq,Int.reduceNe,Nat.reduceAdd,Int.reduceAdd,Int.reduceSub,Int.reduceMul,Nat.reduceMul,Qp0,Ql0,Qe0,f0,f5,f10,f9]
    refine vtext_own Tryz.underlying74 Tryz.underlying5 Tryz.underlying9 (Rs.own (by simpa using hou.own)) ?_ ?_
    · intro hA; subst hA
      rcases hou.own.2 with ⟨_, h1⟩ | ⟨b, c', h1, _⟩
      · exact h1
      · cases h1
    · simp -dsimp -implicitDefEqProofs (disch := first | omega | assumption | (simp only [Option.isSome_some,Qt0]; done) | (simp only [List.length_cons,List.length_nil,List.length_append,Int.toNat_natCast] <;> omega)) only [Nat.reduceLT,Nat.reduceLeDiff,Nat.reduceEqDiff,↓reduceIte,Int.reduceLT,Int.reduceLE,Int.reduceToNat,Int.reduceEq,Int.reduceNe,Nat.reduceAdd,Int.reduceAdd,Int.reduceSub,Int.reduceMul,Nat.reduceMul,Qp0,Ql0,Qe0]
      exact ⟨_, how.le.trans hou.le, by trivial, rfl⟩
theorem rdec_any (s : List UInt8) (w0 : World) (h : PH) (hs : s.length ≤ 4000000) :
    PCalls Tryz.prog w0 15 [str s] h fun v h' => v = (match decR s with | .inl out => .tuple #[str out, .int .i64 (-1)] | .inr a => .tuple #[str [], .int .i64 a]) ∧ h' = h := by
  unfold decR
  cases hf : firstBad s with
  | some q =>
    obtain ⟨h1, h2, h3⟩ := firstBad_some hf
    exact rdec_bad s q h1 w0 h hs h3 h2
  | none =>
    have hg := firstBad_none hf
    have := rdec_good s w0 h hs hg
    cases hd : decN (nums s) with
    | some out => rw [hd] at this; exact this
    | none => rw [hd] at this; exact this
end Go.Proofs.YtdlaoeepeakpeaaGreat

