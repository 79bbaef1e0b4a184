/- The logic's equations for words: what XPo lacks. Printed by gen_pn.py. No condition. -/
import Derived.Test.YtcjojkhieocehaaDoorPm
namespace Go.Proofs.YtcjojkhieocehaaDoor.Px
set_option linter.unusedVariables false
set_option linter.unusedSimpArgs false
open Go.RowKit
section
variable {P : Program} {t : TypeId} {x y : Operand} {K : Value → Prop}
theorem y_quo8 (a b : UInt8) (hb : 0 < b.toNat) : Yld P (binS .quo t x y (u8 a) (u8 b)) K = K (u8 (a / b)) := Yld_eq fun w => by
  unfold u8; rw [binS_int]
  have h1 : (a.toNat : Int).tdiv (b.toNat : Int) = ((a.toNat / b.toNat : Nat) : Int) := by rw [Int.tdiv_eq_ediv_of_nonneg (by omega)]; rfl
  have h2 : a.toNat / b.toNat ≤ a.toNat := Nat.div_le_self _ _
  have h3 := a.toNat_lt
  have h7 : a.toNat / b.toNat < 256 := Nat.lt_of_le_of_lt h2 h3
  have h4 : ((a.toNat / b.toNat : Nat) : Int) % 256 = ((a.toNat / b.toNat : Nat) : Int) := by
    generalize a.toNat / b.toNat = q at h7
    omega
  have h5 : ¬ (b.toNat : Int) = 0 := by omega
  simp only [binOp, Op.intDiv, h1, h5, Sem.run_pure, wrapU8, h4, if_false, ne_eq, not_true_eq_false, UInt8.toNat_div]
theorem y_rem8 (a b : UInt8) (hb : 0 < b.toNat) : Yld P (binS .rem t x y (u8 a) (u8 b)) K = K (u8 (a % b)) := Yld_eq fun w => by
  unfold u8; rw [binS_int]
  have h1 : (a.toNat : Int).tmod (b.toNat : Int) = ((a.toNat % b.toNat : Nat) : Int) := by rw [Int.tmod_eq_emod_of_nonneg (by omega)]; rfl
  have h2 : a.toNat % b.toNat ≤ a.toNat := Nat.mod_le _ _
  have h3 := a.toNat_lt
  have h7 : a.toNat % b.toNat < 256 := Nat.lt_of_le_of_lt h2 h3
  have h4 : ((a.toNat % b.toNat : Nat) : Int) % 256 = ((a.toNat % b.toNat : Nat) : Int) := by
    generalize a.toNat % b.toNat = q at h7
    omega
  have h5 : ¬ (b.toNat : Int) = 0 := by omega
  simp only [binOp, Op.intDiv, h1, h5, Sem.run_pure, wrapU8, h4, if_false, ne_eq, not_true_eq_false, UInt8.toNat_mod]
theorem y_shl8 (a : UInt8) (n : UInt64) (h1 : n.toNat < 8) : Yld P (binS .shl t x y (u8 a) (u64 n)) K = K (u8 (a <<< UInt8.ofNat n.toNat)) := Yld_eq fun w => by
  unfold u8 u64; rw [binS_shift (.inl rfl)]
  simp only [binOp]
  rw [shift_shl .u8 .u64 _ _ (by omega) (by simp [IntKind.bits]; omega), Sem.run_pure, wrapU8]
  congr 3
  rw [UInt8.toNat_shiftLeft, UInt8.toNat_ofNat', Int.toNat_natCast, Nat.shiftLeft_eq]
  rw [Nat.mod_eq_of_lt (show n.toNat % 2 ^ 8 < 8 by omega), Nat.mod_eq_of_lt (show n.toNat < 2 ^ 8 by omega)]
  rw [Int.natCast_emod, Int.natCast_mul, Int.natCast_pow]; rfl
theorem y_shl8_8 (a : UInt8) (n : UInt8) (h1 : n.toNat < 8) : Yld P (binS .shl t x y (u8 a) (u8 n)) K = K (u8 (a <<< UInt8.ofNat n.toNat)) := Yld_eq fun w => by
  unfold u8; rw [binS_shift (.inl rfl)]
  simp only [binOp]
  rw [shift_shl .u8 .u8 _ _ (by omega) (by simp [IntKind.bits]; omega), Sem.run_pure, wrapU8]
  congr 3
  rw [UInt8.toNat_shiftLeft, UInt8.toNat_ofNat', Int.toNat_natCast, Nat.shiftLeft_eq]
  rw [Nat.mod_eq_of_lt (show n.toNat % 2 ^ 8 < 8 by omega), Nat.mod_eq_of_lt (show n.toNat < 2 ^ 8 by omega)]
  rw [Int.natCast_emod, Int.natCast_mul, Int.natCast_pow]; rfl
theorem y_shr8_8 (a : UInt8) (n : UInt8) (h1 : n.toNat < 8) : Yld P (binS .shr t x y (u8 a) (u8 n)) K = K (u8 (a >>> UInt8.ofNat n.toNat)) := Yld_eq fun w => by
  unfold u8; rw [binS_shift (.inr rfl)]
  simp only [binOp]
  rw [shift_shr .u8 .u8 _ _ (by omega) (by simp [IntKind.bits]; omega), Sem.run_pure]
  congr 3
  rw [UInt8.toNat_shiftRight, UInt8.toNat_ofNat', Int.toNat_natCast, Nat.shiftRight_eq_div_pow]
  rw [Nat.mod_eq_of_lt (show n.toNat % 2 ^ 8 < 8 by omega), Nat.mod_eq_of_lt (show n.toNat < 2 ^ 8 by omega)]
  push_cast; rfl
theorem y_shl8_32 (a : UInt8) (n : UInt32) (h1 : n.toNat < 8) : Yld P (binS .shl t x y (u8 a) (u32 n)) K = K (u8 (a <<< UInt8.ofNat n.toNat)) := Yld_eq fun w => by
  unfold u8 u32; rw [binS_shift (.inl rfl)]
  simp only [binOp]
  rw [shift_shl .u8 .u32 _ _ (by omega) (by simp [IntKind.bits]; omega), Sem.run_pure, wrapU8]
  congr 3
  rw [UInt8.toNat_shiftLeft, UInt8.toNat_ofNat', Int.toNat_natCast, Nat.shiftLeft_eq]
  rw [Nat.mod_eq_of_lt (show n.toNat % 2 ^ 8 < 8 by omega), Nat.mod_eq_of_lt (show n.toNat < 2 ^ 8 by omega)]
  rw [Int.natCast_emod, Int.natCast_mul, Int.natCast_pow]; rfl
theorem y_shr8_32 (a : UInt8) (n : UInt32) (h1 : n.toNat < 8) : Yld P (binS .shr t x y (u8 a) (u32 n)) K = K (u8 (a >>> UInt8.ofNat n.toNat)) := Yld_eq fun w => by
  unfold u8 u32; rw [binS_shift (.inr rfl)]
  simp only [binOp]
  rw [shift_shr .u8 .u32 _ _ (by omega) (by simp [IntKind.bits]; omega), Sem.run_pure]
  congr 3
  rw [UInt8.toNat_shiftRight, UInt8.toNat_ofNat', Int.toNat_natCast, Nat.shiftRight_eq_div_pow]
  rw [Nat.mod_eq_of_lt (show n.toNat % 2 ^ 8 < 8 by omega), Nat.mod_eq_of_lt (show n.toNat < 2 ^ 8 by omega)]
  push_cast; rfl
theorem y_shl8i (a : UInt8) (n : Int) (h0 : 0 ≤ n) (h1 : n < 8) : Yld P (binS .shl t x y (u8 a) (.int .i64 n)) K = K (u8 (a <<< UInt8.ofNat n.toNat)) := Yld_eq fun w => by
  unfold u8; rw [binS_shift (.inl rfl)]
  simp only [binOp]
  rw [shift_shl .u8 .i64 _ _ (by omega) (by simp [IntKind.bits]; omega), Sem.run_pure, wrapU8]
  congr 3
  rw [UInt8.toNat_shiftLeft, UInt8.toNat_ofNat', Nat.shiftLeft_eq]
  rw [Nat.mod_eq_of_lt (show n.toNat % 2 ^ 8 < 8 by omega), Nat.mod_eq_of_lt (show n.toNat < 2 ^ 8 by omega)]
  rw [Int.natCast_emod, Int.natCast_mul, Int.natCast_pow]; rfl
theorem y_shr8i (a : UInt8) (n : Int) (h0 : 0 ≤ n) (h1 : n < 8) : Yld P (binS .shr t x y (u8 a) (.int .i64 n)) K = K (u8 (a >>> UInt8.ofNat n.toNat)) := Yld_eq fun w => by
  unfold u8; rw [binS_shift (.inr rfl)]
  simp only [binOp]
  rw [shift_shr .u8 .i64 _ _ (by omega) (by simp [IntKind.bits]; omega), Sem.run_pure]
  congr 3
  rw [UInt8.toNat_shiftRight, UInt8.toNat_ofNat', Nat.shiftRight_eq_div_pow]
  rw [Nat.mod_eq_of_lt (show n.toNat % 2 ^ 8 < 8 by omega), Nat.mod_eq_of_lt (show n.toNat < 2 ^ 8 by omega)]
  push_cast; rfl
theorem y_neg8 (a : UInt8) : Yld P (Op.unary .neg (u8 a)) K = K (u8 (0 - a)) := Yld_eq fun w => by
  unfold u8
  have h0 := a.toNat_lt
  have h1 : IntKind.u8.wrap (0 - (a.toNat : Int)) = ((0 - a).toNat : Int) := by
    rw [wrapU8, UInt8.toNat_sub]; simp; omega
  exact congrArg (fun z => Result.ok (Value.int .u8 z) w) h1
theorem y_com8 (a : UInt8) : Yld P (Op.unary .xor (u8 a)) K = K (u8 (~~~a)) := Yld_eq fun w => by
  unfold u8; simp only [Op.unary, Op.intBits, ofInt8]
  have h1 : BitVec.ofInt IntKind.u8.bits (if IntKind.u8.signed = true then -1 else IntKind.u8.max) = BitVec.allOnes 8 := by
    show BitVec.ofInt 8 255 = BitVec.allOnes 8
    rfl
  rw [h1]
  have h2 : (BitVec.allOnes 8 ^^^ a.toBitVec) = (~~~a).toBitVec := by
    apply BitVec.eq_of_getLsbD_eq; intro i hi
    simp only [BitVec.getLsbD_xor, BitVec.getLsbD_allOnes, UInt8.toBitVec_not, BitVec.getLsbD_not, hi, decide_true, Bool.true_xor, Bool.true_and]
  exact congrArg (fun z => Result.ok (Value.int .u8 z) w) ((congrArg (fun z : BitVec 8 => IntKind.u8.wrap (z.toNat : Int)) h2).trans (back8 (~~~a)))
theorem y_c_8_8 (s : TypeId) (c : UInt8) (hs : (P.underlying s).isSome = true) (hd : P.underlying t = some (.int .u8)) : Yld P (convert s t (u8 c)) K = K (u8 c) := by
  unfold u8; rw [conv_int hs hd, wrapU8]; congr 2 <;> (have := c.toNat_lt; first | rfl | omega | (simp; done) | (simp; omega))
theorem y_c_8_16 (s : TypeId) (c : UInt8) (hs : (P.underlying s).isSome = true) (hd : P.underlying t = some (.int .u16)) : Yld P (convert s t (u8 c)) K = K (u16 c.toUInt16) := by
  unfold u8 u16; rw [conv_int hs hd, wrapU16]; congr 2 <;> (have := c.toNat_lt; first | rfl | omega | (simp; done) | (simp; omega))
theorem ofInt16 (a : UInt16) : BitVec.ofInt IntKind.u16.bits (a.toNat : Int) = a.toBitVec := by
  show BitVec.ofInt 16 (a.toNat : Int) = a.toBitVec
  rw [BitVec.ofInt_natCast]; apply BitVec.eq_of_toNat_eq; simp
theorem back16 (r : UInt16) : IntKind.u16.wrap (r.toBitVec.toNat : Int) = r.toNat := by
  rw [wrapU16]; have := r.toNat_lt; show ((r.toNat : Int) % 65536) = _; omega
theorem y_add16 (a b : UInt16) : Yld P (binS .add t x y (u16 a) (u16 b)) K = K (u16 (a + b)) := Yld_eq fun w => by
  unfold u16; rw [binS_int]; simp [binOp, Op.intArith, Sem.run_pure, wrapU16]
theorem y_mul16 (a b : UInt16) : Yld P (binS .mul t x y (u16 a) (u16 b)) K = K (u16 (a * b)) := Yld_eq fun w => by
  unfold u16; rw [binS_int]; simp [binOp, Op.intArith, Sem.run_pure, wrapU16]
theorem y_sub16 (a b : UInt16) : Yld P (binS .sub t x y (u16 a) (u16 b)) K = K (u16 (a - b)) := Yld_eq fun w => by
  unfold u16; rw [binS_int]; simp [binOp, Op.intArith, Sem.run_pure, wrapU16]
  have := a.toNat_lt; have := b.toNat_lt; rw [UInt16.toNat_sub]; omega
theorem y_eql16 (a b : UInt16) : Yld P (binS .eql t x y (u16 a) (u16 b)) K = K (.bool (decide (a = b))) := Yld_eq fun w => by
  unfold u16; rw [binS_int]; simp only [binOp, Op.intCmp, Sem.run_pure]; simp only [ne_eq, not_true_eq_false, if_false, Sem.run_pure, cmp_eq UInt16.toNat_inj]
theorem y_neq16 (a b : UInt16) : Yld P (binS .neq t x y (u16 a) (u16 b)) K = K (.bool (decide (a ≠ b))) := Yld_eq fun w => by
  unfold u16; rw [binS_int]; simp only [binOp, Op.intCmp, Sem.run_pure]; simp only [ne_eq, not_true_eq_false, if_false, Sem.run_pure, bne, cmp_eq UInt16.toNat_inj, decide_not]
theorem y_lss16 (a b : UInt16) : Yld P (binS .lss t x y (u16 a) (u16 b)) K = K (.bool (decide (a < b))) := Yld_eq fun w => by
  unfold u16; rw [binS_int]; simp [binOp, Op.intCmp, Sem.run_pure, UInt16.lt_iff_toNat_lt]
theorem y_leq16 (a b : UInt16) : Yld P (binS .leq t x y (u16 a) (u16 b)) K = K (.bool (decide (a ≤ b))) := Yld_eq fun w => by
  unfold u16; rw [binS_int]; simp [binOp, Op.intCmp, Sem.run_pure, UInt16.le_iff_toNat_le]
theorem y_gtr16 (a b : UInt16) : Yld P (binS .gtr t x y (u16 a) (u16 b)) K = K (.bool (decide (b < a))) := Yld_eq fun w => by
  unfold u16; rw [binS_int]; simp [binOp, Op.intCmp, Sem.run_pure, UInt16.lt_iff_toNat_lt]
theorem y_geq16 (a b : UInt16) : Yld P (binS .geq t x y (u16 a) (u16 b)) K = K (.bool (decide (b ≤ a))) := Yld_eq fun w => by
  unfold u16; rw [binS_int]; simp [binOp, Op.intCmp, Sem.run_pure, UInt16.le_iff_toNat_le]
theorem y_and16 (a b : UInt16) : Yld P (binS .and t x y (u16 a) (u16 b)) K = K (u16 (a &&& b)) := Yld_eq fun w => by
  unfold u16; rw [binS_int]; simp only [binOp, Op.intBits, ofInt16, ne_eq, not_true_eq_false, if_false]; exact congrArg (fun z => Result.ok (Value.int .u16 z) w) (back16 (a &&& b))
theorem y_or16 (a b : UInt16) : Yld P (binS .or t x y (u16 a) (u16 b)) K = K (u16 (a ||| b)) := Yld_eq fun w => by
  unfold u16; rw [binS_int]; simp only [binOp, Op.intBits, ofInt16, ne_eq, not_true_eq_false, if_false]; exact congrArg (fun z => Result.ok (Value.int .u16 z) w) (back16 (a ||| b))
theorem y_xor16 (a b : UInt16) : Yld P (binS .xor t x y (u16 a) (u16 b)) K = K (u16 (a ^^^ b)) := Yld_eq fun w => by
  unfold u16; rw [binS_int]; simp only [binOp, Op.intBits, ofInt16, ne_eq, not_true_eq_false, if_false]; exact congrArg (fun z => Result.ok (Value.int .u16 z) w) (back16 (a ^^^ b))
theorem y_quo16 (a b : UInt16) (hb : 0 < b.toNat) : Yld P (binS .quo t x y (u16 a) (u16 b)) K = K (u16 (a / b)) := Yld_eq fun w => by
  unfold u16; rw [binS_int]
  have h1 : (a.toNat : Int).tdiv (b.toNat : Int) = ((a.toNat / b.toNat : Nat) : Int) := by rw [Int.tdiv_eq_ediv_of_nonneg (by omega)]; rfl
  have h2 : a.toNat / b.toNat ≤ a.toNat := Nat.div_le_self _ _
  have h3 := a.toNat_lt
  have h7 : a.toNat / b.toNat < 65536 := Nat.lt_of_le_of_lt h2 h3
  have h4 : ((a.toNat / b.toNat : Nat) : Int) % 65536 = ((a.toNat / b.toNat : Nat) : Int) := by
    generalize a.toNat / b.toNat = q at h7
    omega
  have h5 : ¬ (b.toNat : Int) = 0 := by omega
  simp only [binOp, Op.intDiv, h1, h5, Sem.run_pure, wrapU16, h4, if_false, ne_eq, not_true_eq_false, UInt16.toNat_div]
theorem y_rem16 (a b : UInt16) (hb : 0 < b.toNat) : Yld P (binS .rem t x y (u16 a) (u16 b)) K = K (u16 (a % b)) := Yld_eq fun w => by
  unfold u16; rw [binS_int]
  have h1 : (a.toNat : Int).tmod (b.toNat : Int) = ((a.toNat % b.toNat : Nat) : Int) := by rw [Int.tmod_eq_emod_of_nonneg (by omega)]; rfl
  have h2 : a.toNat % b.toNat ≤ a.toNat := Nat.mod_le _ _
  have h3 := a.toNat_lt
  have h7 : a.toNat % b.toNat < 65536 := Nat.lt_of_le_of_lt h2 h3
  have h4 : ((a.toNat % b.toNat : Nat) : Int) % 65536 = ((a.toNat % b.toNat : Nat) : Int) := by
    generalize a.toNat % b.toNat = q at h7
    omega
  have h5 : ¬ (b.toNat : Int) = 0 := by omega
  simp only [binOp, Op.intDiv, h1, h5, Sem.run_pure, wrapU16, h4, if_false, ne_eq, not_true_eq_false, UInt16.toNat_mod]
theorem y_shl16 (a : UInt16) (n : UInt64) (h1 : n.toNat < 16) : Yld P (binS .shl t x y (u16 a) (u64 n)) K = K (u16 (a <<< UInt16.ofNat n.toNat)) := Yld_eq fun w => by
  unfold u16 u64; rw [binS_shift (.inl rfl)]
  simp only [binOp]
  rw [shift_shl .u16 .u64 _ _ (by omega) (by simp [IntKind.bits]; omega), Sem.run_pure, wrapU16]
  congr 3
  rw [UInt16.toNat_shiftLeft, UInt16.toNat_ofNat', Int.toNat_natCast, Nat.shiftLeft_eq]
  rw [Nat.mod_eq_of_lt (show n.toNat % 2 ^ 16 < 16 by omega), Nat.mod_eq_of_lt (show n.toNat < 2 ^ 16 by omega)]
  rw [Int.natCast_emod, Int.natCast_mul, Int.natCast_pow]; rfl
theorem y_shr16 (a : UInt16) (n : UInt64) (h1 : n.toNat < 16) : Yld P (binS .shr t x y (u16 a) (u64 n)) K = K (u16 (a >>> UInt16.ofNat n.toNat)) := Yld_eq fun w => by
  unfold u16 u64; rw [binS_shift (.inr rfl)]
  simp only [binOp]
  rw [shift_shr .u16 .u64 _ _ (by omega) (by simp [IntKind.bits]; omega), Sem.run_pure]
  congr 3
  rw [UInt16.toNat_shiftRight, UInt16.toNat_ofNat', Int.toNat_natCast, Nat.shiftRight_eq_div_pow]
  rw [Nat.mod_eq_of_lt (show n.toNat % 2 ^ 16 < 16 by omega), Nat.mod_eq_of_lt (show n.toNat < 2 ^ 16 by omega)]
  push_cast; rfl
theorem y_shl16_8 (a : UInt16) (n : UInt8) (h1 : n.toNat < 16) : Yld P (binS .shl t x y (u16 a) (u8 n)) K = K (u16 (a <<< UInt16.ofNat n.toNat)) := Yld_eq fun w => by
  unfold u16 u8; rw [binS_shift (.inl rfl)]
  simp only [binOp]
  rw [shift_shl .u16 .u8 _ _ (by omega) (by simp [IntKind.bits]; omega), Sem.run_pure, wrapU16]
  congr 3
  rw [UInt16.toNat_shiftLeft, UInt16.toNat_ofNat', Int.toNat_natCast, Nat.shiftLeft_eq]
  rw [Nat.mod_eq_of_lt (show n.toNat % 2 ^ 16 < 16 by omega), Nat.mod_eq_of_lt (show n.toNat < 2 ^ 16 by omega)]
  rw [Int.natCast_emod, Int.natCast_mul, Int.natCast_pow]; rfl
theorem y_shr16_8 (a : UInt16) (n : UInt8) (h1 : n.toNat < 16) : Yld P (binS .shr t x y (u16 a) (u8 n)) K = K (u16 (a >>> UInt16.ofNat n.toNat)) := Yld_eq fun w => by
  unfold u16 u8; rw [binS_shift (.inr rfl)]
  simp only [binOp]
  rw [shift_shr .u16 .u8 _ _ (by omega) (by simp [IntKind.bits]; omega), Sem.run_pure]
  congr 3
  rw [UInt16.toNat_shiftRight, UInt16.toNat_ofNat', Int.toNat_natCast, Nat.shiftRight_eq_div_pow]
  rw [Nat.mod_eq_of_lt (show n.toNat % 2 ^ 16 < 16 by omega), Nat.mod_eq_of_lt (show n.toNat < 2 ^ 16 by omega)]
  push_cast; rfl
theorem y_shl16_32 (a : UInt16) (n : UInt32) (h1 : n.toNat < 16) : Yld P (binS .shl t x y (u16 a) (u32 n)) K = K (u16 (a <<< UInt16.ofNat n.toNat)) := Yld_eq fun w => by
  unfold u16 u32; rw [binS_shift (.inl rfl)]
  simp only [binOp]
  rw [shift_shl .u16 .u32 _ _ (by omega) (by simp [IntKind.bits]; omega), Sem.run_pure, wrapU16]
  congr 3
  rw [UInt16.toNat_shiftLeft, UInt16.toNat_ofNat', Int.toNat_natCast, Nat.shiftLeft_eq]
  rw [Nat.mod_eq_of_lt (show n.toNat % 2 ^ 16 < 16 by omega), Nat.mod_eq_of_lt (show n.toNat < 2 ^ 16 by omega)]
  rw [Int.natCast_emod, Int.natCast_mul, Int.natCast_pow]; rfl
theorem y_shr16_32 (a : UInt16) (n : UInt32) (h1 : n.toNat < 16) : Yld P (binS .shr t x y (u16 a) (u32 n)) K = K (u16 (a >>> UInt16.ofNat n.toNat)) := Yld_eq fun w => by
  unfold u16 u32; rw [binS_shift (.inr rfl)]
  simp only [binOp]
  rw [shift_shr .u16 .u32 _ _ (by omega) (by simp [IntKind.bits]; omega), Sem.run_pure]
  congr 3
  rw [UInt16.toNat_shiftRight, UInt16.toNat_ofNat', Int.toNat_natCast, Nat.shiftRight_eq_div_pow]
  rw [Nat.mod_eq_of_lt (show n.toNat % 2 ^ 16 < 16 by omega), Nat.mod_eq_of_lt (show n.toNat < 2 ^ 16 by omega)]
  push_cast; rfl
theorem y_shl16i (a : UInt16) (n : Int) (h0 : 0 ≤ n) (h1 : n < 16) : Yld P (binS .shl t x y (u16 a) (.int .i64 n)) K = K (u16 (a <<< UInt16.ofNat n.toNat)) := Yld_eq fun w => by
  unfold u16; rw [binS_shift (.inl rfl)]
  simp only [binOp]
  rw [shift_shl .u16 .i64 _ _ (by omega) (by simp [IntKind.bits]; omega), Sem.run_pure, wrapU16]
  congr 3
  rw [UInt16.toNat_shiftLeft, UInt16.toNat_ofNat', Nat.shiftLeft_eq]
  rw [Nat.mod_eq_of_lt (show n.toNat % 2 ^ 16 < 16 by omega), Nat.mod_eq_of_lt (show n.toNat < 2 ^ 16 by omega)]
  rw [Int.natCast_emod, Int.natCast_mul, Int.natCast_pow]; rfl
theorem y_shr16i (a : UInt16) (n : Int) (h0 : 0 ≤ n) (h1 : n < 16) : Yld P (binS .shr t x y (u16 a) (.int .i64 n)) K = K (u16 (a >>> UInt16.ofNat n.toNat)) := Yld_eq fun w => by
  unfold u16; rw [binS_shift (.inr rfl)]
  simp only [binOp]
  rw [shift_shr .u16 .i64 _ _ (by omega) (by simp [IntKind.bits]; omega), Sem.run_pure]
  congr 3
  rw [UInt16.toNat_shiftRight, UInt16.toNat_ofNat', Nat.shiftRight_eq_div_pow]
  rw [Nat.mod_eq_of_lt (show n.toNat % 2 ^ 16 < 16 by omega), Nat.mod_eq_of_lt (show n.toNat < 2 ^ 16 by omega)]
  push_cast; rfl
theorem y_neg16 (a : UInt16) : Yld P (Op.unary .neg (u16 a)) K = K (u16 (0 - a)) := Yld_eq fun w => by
  unfold u16
  have h0 := a.toNat_lt
  have h1 : IntKind.u16.wrap (0 - (a.toNat : Int)) = ((0 - a).toNat : Int) := by
    rw [wrapU16, UInt16.toNat_sub]; simp; omega
  exact congrArg (fun z => Result.ok (Value.int .u16 z) w) h1
theorem y_com16 (a : UInt16) : Yld P (Op.unary .xor (u16 a)) K = K (u16 (~~~a)) := Yld_eq fun w => by
  unfold u16; simp only [Op.unary, Op.intBits, ofInt16]
  have h1 : BitVec.ofInt IntKind.u16.bits (if IntKind.u16.signed = true then -1 else IntKind.u16.max) = BitVec.allOnes 16 := by
    show BitVec.ofInt 16 65535 = BitVec.allOnes 16
    rfl
  rw [h1]
  have h2 : (BitVec.allOnes 16 ^^^ a.toBitVec) = (~~~a).toBitVec := by
    apply BitVec.eq_of_getLsbD_eq; intro i hi
    simp only [BitVec.getLsbD_xor, BitVec.getLsbD_allOnes, UInt16.toBitVec_not, BitVec.getLsbD_not, hi, decide_true, Bool.true_xor, Bool.true_and]
  exact congrArg (fun z => Result.ok (Value.int .u16 z) w) ((congrArg (fun z : BitVec 16 => IntKind.u16.wrap (z.toNat : Int)) h2).trans (back16 (~~~a)))
theorem y_c_16_8 (s : TypeId) (c : UInt16) (hs : (P.underlying s).isSome = true) (hd : P.underlying t = some (.int .u8)) : Yld P (convert s t (u16 c)) K = K (u8 c.toUInt8) := by
  unfold u16 u8; rw [conv_int hs hd, wrapU8]; congr 2 <;> (have := c.toNat_lt; first | rfl | omega | (simp; done) | (simp; omega))
theorem y_c_16_16 (s : TypeId) (c : UInt16) (hs : (P.underlying s).isSome = true) (hd : P.underlying t = some (.int .u16)) : Yld P (convert s t (u16 c)) K = K (u16 c) := by
  unfold u16; rw [conv_int hs hd, wrapU16]; congr 2 <;> (have := c.toNat_lt; first | rfl | omega | (simp; done) | (simp; omega))
theorem y_c_16_32 (s : TypeId) (c : UInt16) (hs : (P.underlying s).isSome = true) (hd : P.underlying t = some (.int .u32)) : Yld P (convert s t (u16 c)) K = K (u32 c.toUInt32) := by
  unfold u16 u32; rw [conv_int hs hd, wrapU32]; congr 2 <;> (have := c.toNat_lt; first | rfl | omega | (simp; done) | (simp; omega))
theorem y_c_16_64 (s : TypeId) (c : UInt16) (hs : (P.underlying s).isSome = true) (hd : P.underlying t = some (.int .u64)) : Yld P (convert s t (u16 c)) K = K (u64 c.toUInt64) := by
  unfold u16 u64; rw [conv_int hs hd, wrapU64]; congr 2 <;> (have := c.toNat_lt; first | rfl | omega | (simp; done) | (simp; omega))
theorem y_c_16i (s : TypeId) (c : UInt16) (hs : (P.underlying s).isSome = true) (hd : P.underlying t = some (.int .i64)) : Yld P (convert s t (u16 c)) K = K (.int .i64 c.toNat) := by
  unfold u16; rw [conv_int hs hd, wrap_in _ (by omega) (by have := c.toNat_lt; omega)]
theorem y_c_i_16 (s : TypeId) (n : Int) (hs : (P.underlying s).isSome = true) (hd : P.underlying t = some (.int .u16)) : Yld P (convert s t (.int .i64 n)) K = K (u16 (UInt16.ofInt n)) := by
  unfold u16; rw [conv_int hs hd, wrapU16]; congr 2
  have h1 : (n % 65536).toNat < 65536 := by omega
  simp [UInt16.ofInt, Nat.mod_eq_of_lt h1]
  omega
theorem y_lss32 (a b : UInt32) : Yld P (binS .lss t x y (u32 a) (u32 b)) K = K (.bool (decide (a < b))) := Yld_eq fun w => by
  unfold u32; rw [binS_int]; simp [binOp, Op.intCmp, Sem.run_pure, UInt32.lt_iff_toNat_lt]
theorem y_leq32 (a b : UInt32) : Yld P (binS .leq t x y (u32 a) (u32 b)) K = K (.bool (decide (a ≤ b))) := Yld_eq fun w => by
  unfold u32; rw [binS_int]; simp [binOp, Op.intCmp, Sem.run_pure, UInt32.le_iff_toNat_le]
theorem y_gtr32 (a b : UInt32) : Yld P (binS .gtr t x y (u32 a) (u32 b)) K = K (.bool (decide (b < a))) := Yld_eq fun w => by
  unfold u32; rw [binS_int]; simp [binOp, Op.intCmp, Sem.run_pure, UInt32.lt_iff_toNat_lt]
theorem y_geq32 (a b : UInt32) : Yld P (binS .geq t x y (u32 a) (u32 b)) K = K (.bool (decide (b ≤ a))) := Yld_eq fun w => by
  unfold u32; rw [binS_int]; simp [binOp, Op.intCmp, Sem.run_pure, UInt32.le_iff_toNat_le]
theorem y_quo32 (a b : UInt32) (hb : 0 < b.toNat) : Yld P (binS .quo t x y (u32 a) (u32 b)) K = K (u32 (a / b)) := Yld_eq fun w => by
  unfold u32; rw [binS_int]
  have h1 : (a.toNat : Int).tdiv (b.toNat : Int) = ((a.toNat / b.toNat : Nat) : Int) := by rw [Int.tdiv_eq_ediv_of_nonneg (by omega)]; rfl
  have h2 : a.toNat / b.toNat ≤ a.toNat := Nat.div_le_self _ _
  have h3 := a.toNat_lt
  have h7 : a.toNat / b.toNat < 4294967296 := Nat.lt_of_le_of_lt h2 h3
  have h4 : ((a.toNat / b.toNat : Nat) : Int) % 4294967296 = ((a.toNat / b.toNat : Nat) : Int) := by
    generalize a.toNat / b.toNat = q at h7
    omega
  have h5 : ¬ (b.toNat : Int) = 0 := by omega
  simp only [binOp, Op.intDiv, h1, h5, Sem.run_pure, wrapU32, h4, if_false, ne_eq, not_true_eq_false, UInt32.toNat_div]
theorem y_rem32 (a b : UInt32) (hb : 0 < b.toNat) : Yld P (binS .rem t x y (u32 a) (u32 b)) K = K (u32 (a % b)) := Yld_eq fun w => by
  unfold u32; rw [binS_int]
  have h1 : (a.toNat : Int).tmod (b.toNat : Int) = ((a.toNat % b.toNat : Nat) : Int) := by rw [Int.tmod_eq_emod_of_nonneg (by omega)]; rfl
  have h2 : a.toNat % b.toNat ≤ a.toNat := Nat.mod_le _ _
  have h3 := a.toNat_lt
  have h7 : a.toNat % b.toNat < 4294967296 := Nat.lt_of_le_of_lt h2 h3
  have h4 : ((a.toNat % b.toNat : Nat) : Int) % 4294967296 = ((a.toNat % b.toNat : Nat) : Int) := by
    generalize a.toNat % b.toNat = q at h7
    omega
  have h5 : ¬ (b.toNat : Int) = 0 := by omega
  simp only [binOp, Op.intDiv, h1, h5, Sem.run_pure, wrapU32, h4, if_false, ne_eq, not_true_eq_false, UInt32.toNat_mod]
theorem y_shl32_8 (a : UInt32) (n : UInt8) (h1 : n.toNat < 32) : Yld P (binS .shl t x y (u32 a) (u8 n)) K = K (u32 (a <<< UInt32.ofNat n.toNat)) := Yld_eq fun w => by
  unfold u32 u8; rw [binS_shift (.inl rfl)]
  simp only [binOp]
  rw [shift_shl .u32 .u8 _ _ (by omega) (by simp [IntKind.bits]; omega), Sem.run_pure, wrapU32]
  congr 3
  rw [UInt32.toNat_shiftLeft, UInt32.toNat_ofNat', Int.toNat_natCast, Nat.shiftLeft_eq]
  rw [Nat.mod_eq_of_lt (show n.toNat % 2 ^ 32 < 32 by omega), Nat.mod_eq_of_lt (show n.toNat < 2 ^ 32 by omega)]
  rw [Int.natCast_emod, Int.natCast_mul, Int.natCast_pow]; rfl
theorem y_shr32_8 (a : UInt32) (n : UInt8) (h1 : n.toNat < 32) : Yld P (binS .shr t x y (u32 a) (u8 n)) K = K (u32 (a >>> UInt32.ofNat n.toNat)) := Yld_eq fun w => by
  unfold u32 u8; rw [binS_shift (.inr rfl)]
  simp only [binOp]
  rw [shift_shr .u32 .u8 _ _ (by omega) (by simp [IntKind.bits]; omega), Sem.run_pure]
  congr 3
  rw [UInt32.toNat_shiftRight, UInt32.toNat_ofNat', Int.toNat_natCast, Nat.shiftRight_eq_div_pow]
  rw [Nat.mod_eq_of_lt (show n.toNat % 2 ^ 32 < 32 by omega), Nat.mod_eq_of_lt (show n.toNat < 2 ^ 32 by omega)]
  push_cast; rfl
theorem y_shl32_32 (a : UInt32) (n : UInt32) (h1 : n.toNat < 32) : Yld P (binS .shl t x y (u32 a) (u32 n)) K = K (u32 (a <<< UInt32.ofNat n.toNat)) := Yld_eq fun w => by
  unfold u32; rw [binS_shift (.inl rfl)]
  simp only [binOp]
  rw [shift_shl .u32 .u32 _ _ (by omega) (by simp [IntKind.bits]; omega), Sem.run_pure, wrapU32]
  congr 3
  rw [UInt32.toNat_shiftLeft, UInt32.toNat_ofNat', Int.toNat_natCast, Nat.shiftLeft_eq]
  rw [Nat.mod_eq_of_lt (show n.toNat % 2 ^ 32 < 32 by omega), Nat.mod_eq_of_lt (show n.toNat < 2 ^ 32 by omega)]
  rw [Int.natCast_emod, Int.natCast_mul, Int.natCast_pow]; rfl
theorem y_shr32_32 (a : UInt32) (n : UInt32) (h1 : n.toNat < 32) : Yld P (binS .shr t x y (u32 a) (u32 n)) K = K (u32 (a >>> UInt32.ofNat n.toNat)) := Yld_eq fun w => by
  unfold u32; rw [binS_shift (.inr rfl)]
  simp only [binOp]
  rw [shift_shr .u32 .u32 _ _ (by omega) (by simp [IntKind.bits]; omega), Sem.run_pure]
  congr 3
  rw [UInt32.toNat_shiftRight, UInt32.toNat_ofNat', Int.toNat_natCast, Nat.shiftRight_eq_div_pow]
  rw [Nat.mod_eq_of_lt (show n.toNat % 2 ^ 32 < 32 by omega), Nat.mod_eq_of_lt (show n.toNat < 2 ^ 32 by omega)]
  push_cast; rfl
theorem y_shl32i (a : UInt32) (n : Int) (h0 : 0 ≤ n) (h1 : n < 32) : Yld P (binS .shl t x y (u32 a) (.int .i64 n)) K = K (u32 (a <<< UInt32.ofNat n.toNat)) := Yld_eq fun w => by
  unfold u32; rw [binS_shift (.inl rfl)]
  simp only [binOp]
  rw [shift_shl .u32 .i64 _ _ (by omega) (by simp [IntKind.bits]; omega), Sem.run_pure, wrapU32]
  congr 3
  rw [UInt32.toNat_shiftLeft, UInt32.toNat_ofNat', Nat.shiftLeft_eq]
  rw [Nat.mod_eq_of_lt (show n.toNat % 2 ^ 32 < 32 by omega), Nat.mod_eq_of_lt (show n.toNat < 2 ^ 32 by omega)]
  rw [Int.natCast_emod, Int.natCast_mul, Int.natCast_pow]; rfl
theorem y_shr32i (a : UInt32) (n : Int) (h0 : 0 ≤ n) (h1 : n < 32) : Yld P (binS .shr t x y (u32 a) (.int .i64 n)) K = K (u32 (a >>> UInt32.ofNat n.toNat)) := Yld_eq fun w => by
  unfold u32; rw [binS_shift (.inr rfl)]
  simp only [binOp]
  rw [shift_shr .u32 .i64 _ _ (by omega) (by simp [IntKind.bits]; omega), Sem.run_pure]
  congr 3
  rw [UInt32.toNat_shiftRight, UInt32.toNat_ofNat', Nat.shiftRight_eq_div_pow]
  rw [Nat.mod_eq_of_lt (show n.toNat % 2 ^ 32 < 32 by omega), Nat.mod_eq_of_lt (show n.toNat < 2 ^ 32 by omega)]
  push_cast; rfl
theorem y_neg32 (a : UInt32) : Yld P (Op.unary .neg (u32 a)) K = K (u32 (0 - a)) := Yld_eq fun w => by
  unfold u32
  have h0 := a.toNat_lt
  have h1 : IntKind.u32.wrap (0 - (a.toNat : Int)) = ((0 - a).toNat : Int) := by
    rw [wrapU32, UInt32.toNat_sub]; simp; omega
  exact congrArg (fun z => Result.ok (Value.int .u32 z) w) h1
theorem y_c_32_16 (s : TypeId) (c : UInt32) (hs : (P.underlying s).isSome = true) (hd : P.underlying t = some (.int .u16)) : Yld P (convert s t (u32 c)) K = K (u16 c.toUInt16) := by
  unfold u32 u16; rw [conv_int hs hd, wrapU16]; congr 2 <;> (have := c.toNat_lt; first | rfl | omega | (simp; done) | (simp; omega))
theorem y_c_32_32 (s : TypeId) (c : UInt32) (hs : (P.underlying s).isSome = true) (hd : P.underlying t = some (.int .u32)) : Yld P (convert s t (u32 c)) K = K (u32 c) := by
  unfold u32; rw [conv_int hs hd, wrapU32]; congr 2 <;> (have := c.toNat_lt; first | rfl | omega | (simp; done) | (simp; omega))
theorem ofInt64 (a : UInt64) : BitVec.ofInt IntKind.u64.bits (a.toNat : Int) = a.toBitVec := by
  show BitVec.ofInt 64 (a.toNat : Int) = a.toBitVec
  rw [BitVec.ofInt_natCast]; apply BitVec.eq_of_toNat_eq; simp
theorem back64 (r : UInt64) : IntKind.u64.wrap (r.toBitVec.toNat : Int) = r.toNat := by
  rw [wrapU64]; have := r.toNat_lt; show ((r.toNat : Int) % 18446744073709551616) = _; omega
theorem y_add64 (a b : UInt64) : Yld P (binS .add t x y (u64 a) (u64 b)) K = K (u64 (a + b)) := Yld_eq fun w => by
  unfold u64; rw [binS_int]; simp [binOp, Op.intArith, Sem.run_pure, wrapU64]
theorem y_mul64 (a b : UInt64) : Yld P (binS .mul t x y (u64 a) (u64 b)) K = K (u64 (a * b)) := Yld_eq fun w => by
  unfold u64; rw [binS_int]; simp [binOp, Op.intArith, Sem.run_pure, wrapU64]
theorem y_sub64 (a b : UInt64) : Yld P (binS .sub t x y (u64 a) (u64 b)) K = K (u64 (a - b)) := Yld_eq fun w => by
  unfold u64; rw [binS_int]; simp [binOp, Op.intArith, Sem.run_pure, wrapU64]
  have := a.toNat_lt; have := b.toNat_lt; rw [UInt64.toNat_sub]; omega
theorem y_eql64 (a b : UInt64) : Yld P (binS .eql t x y (u64 a) (u64 b)) K = K (.bool (decide (a = b))) := Yld_eq fun w => by
  unfold u64; rw [binS_int]; simp only [binOp, Op.intCmp, Sem.run_pure]; simp only [ne_eq, not_true_eq_false, if_false, Sem.run_pure, cmp_eq UInt64.toNat_inj]
theorem y_neq64 (a b : UInt64) : Yld P (binS .neq t x y (u64 a) (u64 b)) K = K (.bool (decide (a ≠ b))) := Yld_eq fun w => by
  unfold u64; rw [binS_int]; simp only [binOp, Op.intCmp, Sem.run_pure]; simp only [ne_eq, not_true_eq_false, if_false, Sem.run_pure, bne, cmp_eq UInt64.toNat_inj, decide_not]
theorem y_lss64 (a b : UInt64) : Yld P (binS .lss t x y (u64 a) (u64 b)) K = K (.bool (decide (a < b))) := Yld_eq fun w => by
  unfold u64; rw [binS_int]; simp [binOp, Op.intCmp, Sem.run_pure, UInt64.lt_iff_toNat_lt]
theorem y_leq64 (a b : UInt64) : Yld P (binS .leq t x y (u64 a) (u64 b)) K = K (.bool (decide (a ≤ b))) := Yld_eq fun w => by
  unfold u64; rw [binS_int]; simp [binOp, Op.intCmp, Sem.run_pure, UInt64.le_iff_toNat_le]
theorem y_gtr64 (a b : UInt64) : Yld P (binS .gtr t x y (u64 a) (u64 b)) K = K (.bool (decide (b < a))) := Yld_eq fun w => by
  unfold u64; rw [binS_int]; simp [binOp, Op.intCmp, Sem.run_pure, UInt64.lt_iff_toNat_lt]
theorem y_geq64 (a b : UInt64) : Yld P (binS .geq t x y (u64 a) (u64 b)) K = K (.bool (decide (b ≤ a))) := Yld_eq fun w => by
  unfold u64; rw [binS_int]; simp [binOp, Op.intCmp, Sem.run_pure, UInt64.le_iff_toNat_le]
theorem y_and64 (a b : UInt64) : Yld P (binS .and t x y (u64 a) (u64 b)) K = K (u64 (a &&& b)) := Yld_eq fun w => by
  unfold u64; rw [binS_int]; simp only [binOp, Op.intBits, ofInt64, ne_eq, not_true_eq_false, if_false]; exact congrArg (fun z => Result.ok (Value.int .u64 z) w) (back64 (a &&& b))
theorem y_or64 (a b : UInt64) : Yld P (binS .or t x y (u64 a) (u64 b)) K = K (u64 (a ||| b)) := Yld_eq fun w => by
  unfold u64; rw [binS_int]; simp only [binOp, Op.intBits, ofInt64, ne_eq, not_true_eq_false, if_false]; exact congrArg (fun z => Result.ok (Value.int .u64 z) w) (back64 (a ||| b))
theorem y_xor64 (a b : UInt64) : Yld P (binS .xor t x y (u64 a) (u64 b)) K = K (u64 (a ^^^ b)) := Yld_eq fun w => by
  unfold u64; rw [binS_int]; simp only [binOp, Op.intBits, ofInt64, ne_eq, not_true_eq_false, if_false]; exact congrArg (fun z => Result.ok (Value.int .u64 z) w) (back64 (a ^^^ b))
theorem y_quo64 (a b : UInt64) (hb : 0 < b.toNat) : Yld P (binS .quo t x y (u64 a) (u64 b)) K = K (u64 (a / b)) := Yld_eq fun w => by
  unfold u64; rw [binS_int]
  have h1 : (a.toNat : Int).tdiv (b.toNat : Int) = ((a.toNat / b.toNat : Nat) : Int) := by rw [Int.tdiv_eq_ediv_of_nonneg (by omega)]; rfl
  have h2 : a.toNat / b.toNat ≤ a.toNat := Nat.div_le_self _ _
  have h3 := a.toNat_lt
  have h7 : a.toNat / b.toNat < 18446744073709551616 := Nat.lt_of_le_of_lt h2 h3
  have h4 : ((a.toNat / b.toNat : Nat) : Int) % 18446744073709551616 = ((a.toNat / b.toNat : Nat) : Int) := by
    generalize a.toNat / b.toNat = q at h7
    omega
  have h5 : ¬ (b.toNat : Int) = 0 := by omega
  simp only [binOp, Op.intDiv, h1, h5, Sem.run_pure, wrapU64, h4, if_false, ne_eq, not_true_eq_false, UInt64.toNat_div]
theorem y_rem64 (a b : UInt64) (hb : 0 < b.toNat) : Yld P (binS .rem t x y (u64 a) (u64 b)) K = K (u64 (a % b)) := Yld_eq fun w => by
  unfold u64; rw [binS_int]
  have h1 : (a.toNat : Int).tmod (b.toNat : Int) = ((a.toNat % b.toNat : Nat) : Int) := by rw [Int.tmod_eq_emod_of_nonneg (by omega)]; rfl
  have h2 : a.toNat % b.toNat ≤ a.toNat := Nat.mod_le _ _
  have h3 := a.toNat_lt
  have h7 : a.toNat % b.toNat < 18446744073709551616 := Nat.lt_of_le_of_lt h2 h3
  have h4 : ((a.toNat % b.toNat : Nat) : Int) % 18446744073709551616 = ((a.toNat % b.toNat : Nat) : Int) := by
    generalize a.toNat % b.toNat = q at h7
    omega
  have h5 : ¬ (b.toNat : Int) = 0 := by omega
  simp only [binOp, Op.intDiv, h1, h5, Sem.run_pure, wrapU64, h4, if_false, ne_eq, not_true_eq_false, UInt64.toNat_mod]
theorem y_shl64 (a : UInt64) (n : UInt64) (h1 : n.toNat < 64) : Yld P (binS .shl t x y (u64 a) (u64 n)) K = K (u64 (a <<< UInt64.ofNat n.toNat)) := Yld_eq fun w => by
  unfold u64; rw [binS_shift (.inl rfl)]
  simp only [binOp]
  rw [shift_shl .u64 .u64 _ _ (by omega) (by simp [IntKind.bits]; omega), Sem.run_pure, wrapU64]
  congr 3
  rw [UInt64.toNat_shiftLeft, UInt64.toNat_ofNat', Int.toNat_natCast, Nat.shiftLeft_eq]
  rw [Nat.mod_eq_of_lt (show n.toNat % 2 ^ 64 < 64 by omega), Nat.mod_eq_of_lt (show n.toNat < 2 ^ 64 by omega)]
  rw [Int.natCast_emod, Int.natCast_mul, Int.natCast_pow]; rfl
theorem y_shr64 (a : UInt64) (n : UInt64) (h1 : n.toNat < 64) : Yld P (binS .shr t x y (u64 a) (u64 n)) K = K (u64 (a >>> UInt64.ofNat n.toNat)) := Yld_eq fun w => by
  unfold u64; rw [binS_shift (.inr rfl)]
  simp only [binOp]
  rw [shift_shr .u64 .u64 _ _ (by omega) (by simp [IntKind.bits]; omega), Sem.run_pure]
  congr 3
  rw [UInt64.toNat_shiftRight, UInt64.toNat_ofNat', Int.toNat_natCast, Nat.shiftRight_eq_div_pow]
  rw [Nat.mod_eq_of_lt (show n.toNat % 2 ^ 64 < 64 by omega), Nat.mod_eq_of_lt (show n.toNat < 2 ^ 64 by omega)]
  push_cast; rfl
theorem y_shl64_8 (a : UInt64) (n : UInt8) (h1 : n.toNat < 64) : Yld P (binS .shl t x y (u64 a) (u8 n)) K = K (u64 (a <<< UInt64.ofNat n.toNat)) := Yld_eq fun w => by
  unfold u64 u8; rw [binS_shift (.inl rfl)]
  simp only [binOp]
  rw [shift_shl .u64 .u8 _ _ (by omega) (by simp [IntKind.bits]; omega), Sem.run_pure, wrapU64]
  congr 3
  rw [UInt64.toNat_shiftLeft, UInt64.toNat_ofNat', Int.toNat_natCast, Nat.shiftLeft_eq]
  rw [Nat.mod_eq_of_lt (show n.toNat % 2 ^ 64 < 64 by omega), Nat.mod_eq_of_lt (show n.toNat < 2 ^ 64 by omega)]
  rw [Int.natCast_emod, Int.natCast_mul, Int.natCast_pow]; rfl
theorem y_shr64_8 (a : UInt64) (n : UInt8) (h1 : n.toNat < 64) : Yld P (binS .shr t x y (u64 a) (u8 n)) K = K (u64 (a >>> UInt64.ofNat n.toNat)) := Yld_eq fun w => by
  unfold u64 u8; rw [binS_shift (.inr rfl)]
  simp only [binOp]
  rw [shift_shr .u64 .u8 _ _ (by omega) (by simp [IntKind.bits]; omega), Sem.run_pure]
  congr 3
  rw [UInt64.toNat_shiftRight, UInt64.toNat_ofNat', Int.toNat_natCast, Nat.shiftRight_eq_div_pow]
  rw [Nat.mod_eq_of_lt (show n.toNat % 2 ^ 64 < 64 by omega), Nat.mod_eq_of_lt (show n.toNat < 2 ^ 64 by omega)]
  push_cast; rfl
theorem y_shl64_32 (a : UInt64) (n : UInt32) (h1 : n.toNat < 64) : Yld P (binS .shl t x y (u64 a) (u32 n)) K = K (u64 (a <<< UInt64.ofNat n.toNat)) := Yld_eq fun w => by
  unfold u64 u32; rw [binS_shift (.inl rfl)]
  simp only [binOp]
  rw [shift_shl .u64 .u32 _ _ (by omega) (by simp [IntKind.bits]; omega), Sem.run_pure, wrapU64]
  congr 3
  rw [UInt64.toNat_shiftLeft, UInt64.toNat_ofNat', Int.toNat_natCast, Nat.shiftLeft_eq]
  rw [Nat.mod_eq_of_lt (show n.toNat % 2 ^ 64 < 64 by omega), Nat.mod_eq_of_lt (show n.toNat < 2 ^ 64 by omega)]
  rw [Int.natCast_emod, Int.natCast_mul, Int.natCast_pow]; rfl
theorem y_shr64_32 (a : UInt64) (n : UInt32) (h1 : n.toNat < 64) : Yld P (binS .shr t x y (u64 a) (u32 n)) K = K (u64 (a >>> UInt64.ofNat n.toNat)) := Yld_eq fun w => by
  unfold u64 u32; rw [binS_shift (.inr rfl)]
  simp only [binOp]
  rw [shift_shr .u64 .u32 _ _ (by omega) (by simp [IntKind.bits]; omega), Sem.run_pure]
  congr 3
  rw [UInt64.toNat_shiftRight, UInt64.toNat_ofNat', Int.toNat_natCast, Nat.shiftRight_eq_div_pow]
  rw [Nat.mod_eq_of_lt (show n.toNat % 2 ^ 64 < 64 by omega), Nat.mod_eq_of_lt (show n.toNat < 2 ^ 64 by omega)]
  push_cast; rfl
theorem y_shl64i (a : UInt64) (n : Int) (h0 : 0 ≤ n) (h1 : n < 64) : Yld P (binS .shl t x y (u64 a) (.int .i64 n)) K = K (u64 (a <<< UInt64.ofNat n.toNat)) := Yld_eq fun w => by
  unfold u64; rw [binS_shift (.inl rfl)]
  simp only [binOp]
  rw [shift_shl .u64 .i64 _ _ (by omega) (by simp [IntKind.bits]; omega), Sem.run_pure, wrapU64]
  congr 3
  rw [UInt64.toNat_shiftLeft, UInt64.toNat_ofNat', Nat.shiftLeft_eq]
  rw [Nat.mod_eq_of_lt (show n.toNat % 2 ^ 64 < 64 by omega), Nat.mod_eq_of_lt (show n.toNat < 2 ^ 64 by omega)]
  rw [Int.natCast_emod, Int.natCast_mul, Int.natCast_pow]; rfl
theorem y_shr64i (a : UInt64) (n : Int) (h0 : 0 ≤ n) (h1 : n < 64) : Yld P (binS .shr t x y (u64 a) (.int .i64 n)) K = K (u64 (a >>> UInt64.ofNat n.toNat)) := Yld_eq fun w => by
  unfold u64; rw [binS_shift (.inr rfl)]
  simp only [binOp]
  rw [shift_shr .u64 .i64 _ _ (by omega) (by simp [IntKind.bits]; omega), Sem.run_pure]
  congr 3
  rw [UInt64.toNat_shiftRight, UInt64.toNat_ofNat', Nat.shiftRight_eq_div_pow]
  rw [Nat.mod_eq_of_lt (show n.toNat % 2 ^ 64 < 64 by omega), Nat.mod_eq_of_lt (show n.toNat < 2 ^ 64 by omega)]
  push_cast; rfl
theorem y_neg64 (a : UInt64) : Yld P (Op.unary .neg (u64 a)) K = K (u64 (0 - a)) := Yld_eq fun w => by
  unfold u64
  have h0 := a.toNat_lt
  have h1 : IntKind.u64.wrap (0 - (a.toNat : Int)) = ((0 - a).toNat : Int) := by
    rw [wrapU64, UInt64.toNat_sub]; simp; omega
  exact congrArg (fun z => Result.ok (Value.int .u64 z) w) h1
theorem y_com64 (a : UInt64) : Yld P (Op.unary .xor (u64 a)) K = K (u64 (~~~a)) := Yld_eq fun w => by
  unfold u64; simp only [Op.unary, Op.intBits, ofInt64]
  have h1 : BitVec.ofInt IntKind.u64.bits (if IntKind.u64.signed = true then -1 else IntKind.u64.max) = BitVec.allOnes 64 := by
    show BitVec.ofInt 64 18446744073709551615 = BitVec.allOnes 64
    rfl
  rw [h1]
  have h2 : (BitVec.allOnes 64 ^^^ a.toBitVec) = (~~~a).toBitVec := by
    apply BitVec.eq_of_getLsbD_eq; intro i hi
    simp only [BitVec.getLsbD_xor, BitVec.getLsbD_allOnes, UInt64.toBitVec_not, BitVec.getLsbD_not, hi, decide_true, Bool.true_xor, Bool.true_and]
  exact congrArg (fun z => Result.ok (Value.int .u64 z) w) ((congrArg (fun z : BitVec 64 => IntKind.u64.wrap (z.toNat : Int)) h2).trans (back64 (~~~a)))
theorem y_c_64_16 (s : TypeId) (c : UInt64) (hs : (P.underlying s).isSome = true) (hd : P.underlying t = some (.int .u16)) : Yld P (convert s t (u64 c)) K = K (u16 c.toUInt16) := by
  unfold u64 u16; rw [conv_int hs hd, wrapU16]; congr 2 <;> (have := c.toNat_lt; first | rfl | omega | (simp; done) | (simp; omega))
theorem y_c_64_32 (s : TypeId) (c : UInt64) (hs : (P.underlying s).isSome = true) (hd : P.underlying t = some (.int .u32)) : Yld P (convert s t (u64 c)) K = K (u32 c.toUInt32) := by
  unfold u64 u32; rw [conv_int hs hd, wrapU32]; congr 2 <;> (have := c.toNat_lt; first | rfl | omega | (simp; done) | (simp; omega))
theorem y_c_64_64 (s : TypeId) (c : UInt64) (hs : (P.underlying s).isSome = true) (hd : P.underlying t = some (.int .u64)) : Yld P (convert s t (u64 c)) K = K (u64 c) := by
  unfold u64; rw [conv_int hs hd, wrapU64]; congr 2 <;> (have := c.toNat_lt; first | rfl | omega | (simp; done) | (simp; omega))
theorem y_c_64i (s : TypeId) (c : UInt64) (hs : (P.underlying s).isSome = true) (hd : P.underlying t = some (.int .i64)) : Yld P (convert s t (u64 c)) K = K (.int .i64 (IntKind.i64.wrap c.toNat)) := by
  unfold u64; rw [conv_int hs hd]
end
end Go.Proofs.YtcjojkhieocehaaDoor.Px
