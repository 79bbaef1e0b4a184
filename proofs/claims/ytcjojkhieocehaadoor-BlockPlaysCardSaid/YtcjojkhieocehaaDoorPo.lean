/- The logic's equations for single operations: numbers, truth values, texts, lengths, addresses. No condition. -/
import Derived.Test.YtcjojkhieocehaaDoorPs
import Derived.WalkLawsBesides
import Derived.WalkSpells
namespace Go.Proofs.YtcjojkhieocehaaDoor.Px
set_option linter.unusedVariables false
set_option linter.unusedSimpArgs false
open Go.RowKit

/-! ### looking up -/
theorem fr_put (f : Fr) (d : Tmp) (v : Value) (t : Tmp) : f.put (some d) v t = if t = d then some v else f t := rfl
theorem fr_put0 (f : Fr) (v : Value) : f.put none v = f := rfl
theorem fr_args (l : List Value) (n t : Nat) : Fr.args l n t = if t < n then some (l.getD t undef) else none := rfl
theorem vcIf_dt (p : Prop) [Decidable p] (X Y : Prop) (h : p) : vcIf (decide p) X Y = X := by rw [decide_eq_true h, vcIf_true]
theorem vcIf_df (p : Prop) [Decidable p] (X Y : Prop) (h : ¬ p) : vcIf (decide p) X Y = Y := by rw [decide_eq_false h, vcIf_false]
theorem vcIf_slT {P : Program} {t : TypeId} (X Y : Prop) (h : isSliceB P t = true) : vcIf (isSliceB P t) X Y = X := by rw [h, vcIf_true]
theorem vcIf_slF {P : Program} {t : TypeId} (X Y : Prop) (h : isSliceB P t = false) : vcIf (isSliceB P t) X Y = Y := by rw [h, vcIf_false]
theorem vcIf_beq (b : Bool) (X Y : Prop) : vcIf (b == true) X Y = vcIf b X Y := by cases b <;> rfl
theorem vcIf_bnq (b : Bool) (X Y : Prop) : vcIf (b == false) X Y = vcIf (!b) X Y := by cases b <;> rfl
theorem vcIf_not (b : Bool) (X Y : Prop) : vcIf (!b) X Y = vcIf b Y X := by cases b <;> simp [vcIf]
theorem emptyToList : (#[] : Array Value).toList = [] := rfl
theorem natCast0 : ((0 : Nat) : Int) = 0 := rfl
theorem natCast1 : ((1 : Nat) : Int) = 1 := rfl
theorem natCast2 : ((2 : Nat) : Int) = 2 := rfl
theorem natCast3 : ((3 : Nat) : Int) = 3 := rfl
/-! ### numbers as words -/
def u8 (c : UInt8) : Value := .int .u8 c.toNat
def u16 (c : UInt16) : Value := .int .u16 c.toNat
def u32 (c : UInt32) : Value := .int .u32 c.toNat
def u64 (c : UInt64) : Value := .int .u64 c.toNat
theorem ev_u8 (f : Fr) (k : Value → Prop) (n : Int) (h : 0 ≤ n) (h2 : n ≤ 255) : vev f (.const (.int .u8 n)) k = k ((u8 (UInt8.ofNat n.toNat))) := by
  have e : Value.int .u8 n = u8 (UInt8.ofNat n.toNat) := by unfold u8; congr 1; simp; omega
  show k _ = k _; rw [e]
theorem ev_u16 (f : Fr) (k : Value → Prop) (n : Int) (h : 0 ≤ n) (h2 : n ≤ 65535) : vev f (.const (.int .u16 n)) k = k ((u16 (UInt16.ofNat n.toNat))) := by
  have e : Value.int .u16 n = u16 (UInt16.ofNat n.toNat) := by unfold u16; congr 1; simp; omega
  show k _ = k _; rw [e]
theorem ev_u32 (f : Fr) (k : Value → Prop) (n : Int) (h : 0 ≤ n) (h2 : n ≤ 4294967295) : vev f (.const (.int .u32 n)) k = k ((u32 (UInt32.ofNat n.toNat))) := by
  have e : Value.int .u32 n = u32 (UInt32.ofNat n.toNat) := by unfold u32; congr 1; simp; omega
  show k _ = k _; rw [e]
theorem ev_u64 (f : Fr) (k : Value → Prop) (n : Int) (h : 0 ≤ n) (h2 : n ≤ 18446744073709551615) : vev f (.const (.int .u64 n)) k = k ((u64 (UInt64.ofNat n.toNat))) := by
  have e : Value.int .u64 n = u64 (UInt64.ofNat n.toNat) := by unfold u64; congr 1; simp; omega
  show k _ = k _; rw [e]
theorem ev_i64 (f : Fr) (k : Value → Prop) (n : Int) : vev f (.const (.int .i64 n)) k = k ((.int .i64 n)) := rfl
theorem ev_bool (f : Fr) (k : Value → Prop) (b : Bool) : vev f (.const (.bool b)) k = k ((.bool b)) := rfl
theorem ev_str (f : Fr) (k : Value → Prop) (b : ByteArray) : vev f (.const (.string b)) k = k ((.string b)) := rfl
theorem ev_sl (f : Fr) (k : Value → Prop) (a : Option Addr) (n c : Nat) : vev f (.const (.slice a n c)) k = k ((.slice a n c)) := rfl
theorem ev_ptr (f : Fr) (k : Value → Prop) (a : Option Addr) : vev f (.const (.pointer a)) k = k ((.pointer a)) := rfl
theorem ev_nilI (f : Fr) (k : Value → Prop) : vev f (.const .nilIface) k = k (.nilIface) := rfl
theorem ev_nilF (f : Fr) (k : Value → Prop) : vev f (.const .nilFunc) k = k (.nilFunc) := rfl
theorem ev_tup (f : Fr) (k : Value → Prop) (a : Array Value) : vev f (.const (.tuple a)) k = k ((.tuple a)) := rfl
theorem ev_ifc (f : Fr) (k : Value → Prop) (t : TypeId) (v : Value) : vev f (.const (.iface t v)) k = k ((.iface t v)) := rfl
theorem ev_agg (f : Fr) (k : Value → Prop) (a : Array Value) : vev f (.const (.agg a)) k = k ((.agg a)) := rfl

section
variable {P : Program} {t t2 : TypeId} {x y : Operand} {K : Value → Prop}
theorem binS_plain {op : BinOp} {u v : Value} (h1 : op ≠ .eql) (h2 : op ≠ .neq) : binS op t x y u v = binOp op t u v := by
  unfold binS eqGuard
  cases op <;> first | exact absurd rfl h1 | exact absurd rfl h2 | rfl
theorem binS_int {op : BinOp} {k k' : IntKind} {a b : Int} : binS op t x y (.int k a) (.int k' b) = binOp op t (.int k a) (.int k' b) := by
  unfold binS eqGuard
  cases op <;> rfl

/-! 64-bit numbers -/
theorem y_add (a b : Int) : Yld P (binS .add t x y (.int .i64 a) (.int .i64 b)) K = K (.int .i64 (IntKind.i64.wrap (a + b))) := Yld_eq fun w => by rw [binS_int]; rfl
theorem y_sub (a b : Int) : Yld P (binS .sub t x y (.int .i64 a) (.int .i64 b)) K = K (.int .i64 (IntKind.i64.wrap (a - b))) := Yld_eq fun w => by rw [binS_int]; rfl
theorem y_mul (a b : Int) : Yld P (binS .mul t x y (.int .i64 a) (.int .i64 b)) K = K (.int .i64 (IntKind.i64.wrap (a * b))) := Yld_eq fun w => by rw [binS_int]; rfl
theorem y_quo (a b : Int) (ha : 0 ≤ a) (h2 : a ≤ 9223372036854775807) (hb : 0 < b) : Yld P (binS .quo t x y (.int .i64 a) (.int .i64 b)) K = K (.int .i64 (a / b)) := Yld_eq fun w => by
  rw [binS_int]
  have h1 : a.tdiv b = a / b := Int.tdiv_eq_ediv_of_nonneg ha
  have h0 : 0 ≤ a / b := Int.ediv_nonneg ha (by omega)
  have h3 : a / b ≤ a := Int.ediv_le_self b ha
  simp [binOp, Op.intDiv, show ¬ b = 0 by omega, h1, Sem.run_pure, IntWalk.i64_in (a / b) ⟨by omega, by omega⟩]
theorem y_rem (a b : Int) (ha : 0 ≤ a) (hb : 0 < b) : Yld P (binS .rem t x y (.int .i64 a) (.int .i64 b)) K = K (.int .i64 (a % b)) := Yld_eq fun w => by
  rw [binS_int]
  have h1 : a.tmod b = a % b := Int.tmod_eq_emod_of_nonneg ha
  simp [binOp, Op.intDiv, show ¬ b = 0 by omega, h1, Sem.run_pure]
theorem y_eql (a b : Int) : Yld P (binS .eql t x y (.int .i64 a) (.int .i64 b)) K = K (.bool (decide (a = b))) := Yld_eq fun w => by rw [binS_int]; simp [binOp, Op.intCmp, Sem.run_pure]; by_cases h : a = b <;> simp [h]
theorem y_neq (a b : Int) : Yld P (binS .neq t x y (.int .i64 a) (.int .i64 b)) K = K (.bool (decide (a ≠ b))) := Yld_eq fun w => by rw [binS_int]; simp [binOp, Op.intCmp, Sem.run_pure]; by_cases h : a = b <;> simp [h]
theorem y_lss (a b : Int) : Yld P (binS .lss t x y (.int .i64 a) (.int .i64 b)) K = K (.bool (decide (a < b))) := Yld_eq fun w => by rw [binS_int]; rfl
theorem y_leq (a b : Int) : Yld P (binS .leq t x y (.int .i64 a) (.int .i64 b)) K = K (.bool (decide (a ≤ b))) := Yld_eq fun w => by rw [binS_int]; rfl
theorem y_gtr (a b : Int) : Yld P (binS .gtr t x y (.int .i64 a) (.int .i64 b)) K = K (.bool (decide (b < a))) := Yld_eq fun w => by rw [binS_int]; rfl
theorem y_geq (a b : Int) : Yld P (binS .geq t x y (.int .i64 a) (.int .i64 b)) K = K (.bool (decide (b ≤ a))) := Yld_eq fun w => by rw [binS_int]; rfl
theorem wrap_in (n : Int) (h1 : -9223372036854775808 ≤ n) (h2 : n ≤ 9223372036854775807) : IntKind.i64.wrap n = n := IntWalk.i64_in n ⟨h1, h2⟩

theorem wrapU8 (n : Int) : IntKind.u8.wrap n = n % 256 := by simp [IntKind.wrap, IntKind.bits, IntKind.signed]
theorem wrapU16 (n : Int) : IntKind.u16.wrap n = n % 65536 := by simp [IntKind.wrap, IntKind.bits, IntKind.signed]
theorem wrapU32 (n : Int) : IntKind.u32.wrap n = n % 4294967296 := by simp [IntKind.wrap, IntKind.bits, IntKind.signed]
theorem wrapU64 (n : Int) : IntKind.u64.wrap n = n % 18446744073709551616 := by simp [IntKind.wrap, IntKind.bits, IntKind.signed]

theorem cmp_eq {a b : Nat} {p : Prop} [Decidable p] (h : a = b ↔ p) : ((a : Int) == (b : Int)) = decide p := by
  by_cases hp : p
  · simp [hp, h.2 hp]
  · simp [hp]; intro e; exact hp (h.1 (by omega))

/-! bytes -/
theorem y_add8 (a b : UInt8) : Yld P (binS .add t x y (u8 a) (u8 b)) K = K (u8 (a + b)) := Yld_eq fun w => by
  unfold u8; rw [binS_int]; simp [binOp, Op.intArith, Sem.run_pure, wrapU8]
theorem y_sub8 (a b : UInt8) : Yld P (binS .sub t x y (u8 a) (u8 b)) K = K (u8 (a - b)) := Yld_eq fun w => by
  unfold u8; rw [binS_int]; simp [binOp, Op.intArith, Sem.run_pure, wrapU8]
  have := a.toNat_lt; have := b.toNat_lt; rw [UInt8.toNat_sub]; omega
theorem y_mul8 (a b : UInt8) : Yld P (binS .mul t x y (u8 a) (u8 b)) K = K (u8 (a * b)) := Yld_eq fun w => by
  unfold u8; rw [binS_int]; simp [binOp, Op.intArith, Sem.run_pure, wrapU8]
theorem y_eql8 (a b : UInt8) : Yld P (binS .eql t x y (u8 a) (u8 b)) K = K (.bool (decide (a = b))) := Yld_eq fun w => by
  unfold u8; rw [binS_int]; simp only [binOp, Op.intCmp, Sem.run_pure]; simp only [ne_eq, not_true_eq_false, if_false, Sem.run_pure, cmp_eq UInt8.toNat_inj]
theorem y_neq8 (a b : UInt8) : Yld P (binS .neq t x y (u8 a) (u8 b)) K = K (.bool (decide (a ≠ b))) := Yld_eq fun w => by
  unfold u8; rw [binS_int]; simp only [binOp, Op.intCmp, Sem.run_pure]; simp only [ne_eq, not_true_eq_false, if_false, Sem.run_pure, bne, cmp_eq UInt8.toNat_inj, decide_not]
theorem y_lss8 (a b : UInt8) : Yld P (binS .lss t x y (u8 a) (u8 b)) K = K (.bool (decide (a < b))) := Yld_eq fun w => by
  unfold u8; rw [binS_int]; simp [binOp, Op.intCmp, Sem.run_pure, UInt8.lt_iff_toNat_lt]
theorem y_leq8 (a b : UInt8) : Yld P (binS .leq t x y (u8 a) (u8 b)) K = K (.bool (decide (a ≤ b))) := Yld_eq fun w => by
  unfold u8; rw [binS_int]; simp [binOp, Op.intCmp, Sem.run_pure, UInt8.le_iff_toNat_le]
theorem y_gtr8 (a b : UInt8) : Yld P (binS .gtr t x y (u8 a) (u8 b)) K = K (.bool (decide (b < a))) := Yld_eq fun w => by
  unfold u8; rw [binS_int]; simp [binOp, Op.intCmp, Sem.run_pure, UInt8.lt_iff_toNat_lt]
theorem y_geq8 (a b : UInt8) : Yld P (binS .geq t x y (u8 a) (u8 b)) K = K (.bool (decide (b ≤ a))) := Yld_eq fun w => by
  unfold u8; rw [binS_int]; simp [binOp, Op.intCmp, Sem.run_pure, UInt8.le_iff_toNat_le]
theorem ofInt8 (a : UInt8) : BitVec.ofInt IntKind.u8.bits (a.toNat : Int) = a.toBitVec := by
  show BitVec.ofInt 8 (a.toNat : Int) = a.toBitVec
  rw [BitVec.ofInt_natCast]; apply BitVec.eq_of_toNat_eq; simp
theorem back8 (r : UInt8) : IntKind.u8.wrap (r.toBitVec.toNat : Int) = r.toNat := by
  rw [wrapU8]; have := r.toNat_lt; show ((r.toNat : Int) % 256) = _; omega
theorem y_and8 (a b : UInt8) : Yld P (binS .and t x y (u8 a) (u8 b)) K = K (u8 (a &&& b)) := Yld_eq fun w => by
  unfold u8; rw [binS_int]; simp only [binOp, Op.intBits, ofInt8, ne_eq, not_true_eq_false, if_false]; exact congrArg (fun z => Result.ok (Value.int .u8 z) w) (back8 (a &&& b))
theorem y_or8 (a b : UInt8) : Yld P (binS .or t x y (u8 a) (u8 b)) K = K (u8 (a ||| b)) := Yld_eq fun w => by
  unfold u8; rw [binS_int]; simp only [binOp, Op.intBits, ofInt8, ne_eq, not_true_eq_false, if_false]; exact congrArg (fun z => Result.ok (Value.int .u8 z) w) (back8 (a ||| b))
theorem y_xor8 (a b : UInt8) : Yld P (binS .xor t x y (u8 a) (u8 b)) K = K (u8 (a ^^^ b)) := Yld_eq fun w => by
  unfold u8; rw [binS_int]; simp only [binOp, Op.intBits, ofInt8, ne_eq, not_true_eq_false, if_false]; exact congrArg (fun z => Result.ok (Value.int .u8 z) w) (back8 (a ^^^ b))

/-! words of 32 bits -/
theorem y_add32 (a b : UInt32) : Yld P (binS .add t x y (u32 a) (u32 b)) K = K (u32 (a + b)) := Yld_eq fun w => by
  unfold u32; rw [binS_int]; simp [binOp, Op.intArith, Sem.run_pure, wrapU32]
theorem y_sub32 (a b : UInt32) : Yld P (binS .sub t x y (u32 a) (u32 b)) K = K (u32 (a - b)) := Yld_eq fun w => by
  unfold u32; rw [binS_int]; simp [binOp, Op.intArith, Sem.run_pure, wrapU32]
  have := a.toNat_lt; have := b.toNat_lt; rw [UInt32.toNat_sub]; omega
theorem y_mul32 (a b : UInt32) : Yld P (binS .mul t x y (u32 a) (u32 b)) K = K (u32 (a * b)) := Yld_eq fun w => by
  unfold u32; rw [binS_int]; simp [binOp, Op.intArith, Sem.run_pure, wrapU32]
theorem y_eql32 (a b : UInt32) : Yld P (binS .eql t x y (u32 a) (u32 b)) K = K (.bool (decide (a = b))) := Yld_eq fun w => by
  unfold u32; rw [binS_int]; simp only [binOp, Op.intCmp, Sem.run_pure]; simp only [ne_eq, not_true_eq_false, if_false, Sem.run_pure, cmp_eq UInt32.toNat_inj]
theorem y_neq32 (a b : UInt32) : Yld P (binS .neq t x y (u32 a) (u32 b)) K = K (.bool (decide (a ≠ b))) := Yld_eq fun w => by
  unfold u32; rw [binS_int]; simp only [binOp, Op.intCmp, Sem.run_pure]; simp only [ne_eq, not_true_eq_false, if_false, Sem.run_pure, bne, cmp_eq UInt32.toNat_inj, decide_not]
theorem ofInt32 (a : UInt32) : BitVec.ofInt IntKind.u32.bits (a.toNat : Int) = a.toBitVec := by
  show BitVec.ofInt 32 (a.toNat : Int) = a.toBitVec
  rw [BitVec.ofInt_natCast]; apply BitVec.eq_of_toNat_eq; simp
theorem back32 (r : UInt32) : IntKind.u32.wrap (r.toBitVec.toNat : Int) = r.toNat := by
  rw [wrapU32]; have := r.toNat_lt; show ((r.toNat : Int) % 4294967296) = _; omega
theorem y_and32 (a b : UInt32) : Yld P (binS .and t x y (u32 a) (u32 b)) K = K (u32 (a &&& b)) := Yld_eq fun w => by
  unfold u32; rw [binS_int]; simp only [binOp, Op.intBits, ofInt32, ne_eq, not_true_eq_false, if_false]; exact congrArg (fun z => Result.ok (Value.int .u32 z) w) (back32 (a &&& b))
theorem y_or32 (a b : UInt32) : Yld P (binS .or t x y (u32 a) (u32 b)) K = K (u32 (a ||| b)) := Yld_eq fun w => by
  unfold u32; rw [binS_int]; simp only [binOp, Op.intBits, ofInt32, ne_eq, not_true_eq_false, if_false]; exact congrArg (fun z => Result.ok (Value.int .u32 z) w) (back32 (a ||| b))
theorem y_xor32 (a b : UInt32) : Yld P (binS .xor t x y (u32 a) (u32 b)) K = K (u32 (a ^^^ b)) := Yld_eq fun w => by
  unfold u32; rw [binS_int]; simp only [binOp, Op.intBits, ofInt32, ne_eq, not_true_eq_false, if_false]; exact congrArg (fun z => Result.ok (Value.int .u32 z) w) (back32 (a ^^^ b))
theorem binS_shift {op : BinOp} {u v : Value} (h : op = .shl ∨ op = .shr) : binS op t x y u v = binOp op t u v := binS_plain (by rcases h with rfl | rfl <;> simp) (by rcases h with rfl | rfl <;> simp)
theorem y_shl32 (a : UInt32) (n : UInt64) (h1 : n.toNat < 32) : Yld P (binS .shl t x y (u32 a) (u64 n)) K = K (u32 (a <<< UInt32.ofNat n.toNat)) := Yld_eq fun w => by
  unfold u32 u64; rw [binS_shift (.inl rfl)]
  simp only [binOp]
  rw [shift_shl .u32 .u64 _ _ (by omega) (by simp [IntKind.bits]; omega), Sem.run_pure, wrapU32]
  congr 3
  rw [UInt32.toNat_shiftLeft, UInt32.toNat_ofNat', Int.toNat_natCast, Nat.shiftLeft_eq]
  rw [Nat.mod_eq_of_lt (show n.toNat % 2 ^ 32 < 32 by omega), Nat.mod_eq_of_lt (show n.toNat < 2 ^ 32 by omega)]
  rw [Int.natCast_emod, Int.natCast_mul, Int.natCast_pow]; rfl
theorem y_shr8 (a : UInt8) (n : UInt64) (h1 : n.toNat < 8) : Yld P (binS .shr t x y (u8 a) (u64 n)) K = K (u8 (a >>> UInt8.ofNat n.toNat)) := Yld_eq fun w => by
  unfold u8 u64; rw [binS_shift (.inr rfl)]
  simp only [binOp]
  rw [shift_shr .u8 .u64 _ _ (by omega) (by simp [IntKind.bits]; omega), Sem.run_pure]
  congr 3
  rw [UInt8.toNat_shiftRight, UInt8.toNat_ofNat', Int.toNat_natCast, Nat.shiftRight_eq_div_pow]
  rw [Nat.mod_eq_of_lt (show n.toNat % 2 ^ 8 < 8 by omega), Nat.mod_eq_of_lt (show n.toNat < 2 ^ 8 by omega)]
  push_cast; rfl
theorem y_shr32 (a : UInt32) (n : UInt64) (h1 : n.toNat < 32) : Yld P (binS .shr t x y (u32 a) (u64 n)) K = K (u32 (a >>> UInt32.ofNat n.toNat)) := Yld_eq fun w => by
  unfold u32 u64; rw [binS_shift (.inr rfl)]
  simp only [binOp]
  rw [shift_shr .u32 .u64 _ _ (by omega) (by simp [IntKind.bits]; omega), Sem.run_pure]
  congr 3
  rw [UInt32.toNat_shiftRight, UInt32.toNat_ofNat', Int.toNat_natCast, Nat.shiftRight_eq_div_pow]
  rw [Nat.mod_eq_of_lt (show n.toNat % 2 ^ 32 < 32 by omega), Nat.mod_eq_of_lt (show n.toNat < 2 ^ 32 by omega)]
  push_cast; rfl

/-! truth values -/
theorem y_not (b : Bool) : Yld P (Op.unary .not (.bool b)) K = K (.bool !b) := Yld_eq fun w => rfl
theorem y_eqlB (a b : Bool) (ht : P.underlying t = some .bool) : Yld P (binS .eql t x y (.bool a) (.bool b)) K = K (.bool (a == b)) := Yld_eq fun w => by
  unfold binS eqGuard; simp [run_eql_bool w t a b ht]
theorem y_neqB (a b : Bool) (ht : P.underlying t = some .bool) : Yld P (binS .neq t x y (.bool a) (.bool b)) K = K (.bool (!(a == b))) := Yld_eq fun w => by
  unfold binS eqGuard; simp [run_neq_bool w t a b ht]
theorem y_neg (n : Int) : Yld P (Op.unary .neg (.int .i64 n)) K = K (.int .i64 (IntKind.i64.wrap (0 - n))) := Yld_eq fun w => rfl
theorem y_com32 (a : UInt32) : Yld P (Op.unary .xor (u32 a)) K = K (u32 (~~~a)) := Yld_eq fun w => by
  unfold u32; simp only [Op.unary, Op.intBits, ofInt32]
  have h1 : BitVec.ofInt IntKind.u32.bits (if IntKind.u32.signed = true then -1 else IntKind.u32.max) = BitVec.allOnes 32 := by
    show BitVec.ofInt 32 4294967295 = BitVec.allOnes 32
    rfl
  rw [h1]
  have h2 : (BitVec.allOnes 32 ^^^ a.toBitVec) = (~~~a).toBitVec := by
    apply BitVec.eq_of_getLsbD_eq; intro i hi
    simp only [BitVec.getLsbD_xor, BitVec.getLsbD_allOnes, UInt32.toBitVec_not, BitVec.getLsbD_not, hi, decide_true, Bool.true_xor, Bool.true_and]
  exact congrArg (fun z => Result.ok (Value.int .u32 z) w) ((congrArg (fun z : BitVec 32 => IntKind.u32.wrap (z.toNat : Int)) h2).trans (back32 (~~~a)))

/-! errors against nil -/
theorem y_eqlNN (v : Value) (ht : P.underlying t = some (.interface (P.methodsAt t))) : Yld P (binS .eql t x (.const v) .nilIface .nilIface) K = K (.bool true) := Yld_eq fun w => by
  unfold binS eqGuard; simp [run_eql_nil_nil w t ht]
theorem y_neqNN (v : Value) (ht : P.underlying t = some (.interface (P.methodsAt t))) : Yld P (binS .neq t x (.const v) .nilIface .nilIface) K = K (.bool false) := Yld_eq fun w => by
  unfold binS eqGuard; simp [run_neq_nil_nil w t ht]
theorem y_eqlHN (v u : Value) (k : TypeId) (ht : P.underlying t = some (.interface (P.methodsAt t))) : Yld P (binS .eql t x (.const v) (.iface k u) .nilIface) K = K (.bool false) := Yld_eq fun w => by
  unfold binS eqGuard; simp [run_eql_held_nil w t k u ht]
theorem y_neqHN (v u : Value) (k : TypeId) (ht : P.underlying t = some (.interface (P.methodsAt t))) : Yld P (binS .neq t x (.const v) (.iface k u) .nilIface) K = K (.bool true) := Yld_eq fun w => by
  unfold binS eqGuard; simp [run_neq_held_nil w t k u ht]

/-! texts -/
theorem y_eqlS (a b : ByteArray) : Yld P (binS .eql t x y (.string a) (.string b)) K = K (.bool (decide (a = b))) := Yld_eq fun w => by
  unfold binS eqGuard
  simp [binOp_string_eql, Sem.run_pure, ByteArray.toList_eq]
  rcases a with ⟨⟨a⟩⟩; rcases b with ⟨⟨b⟩⟩; by_cases h : a = b <;> simp [h]
theorem y_neqS (a b : ByteArray) : Yld P (binS .neq t x y (.string a) (.string b)) K = K (.bool (decide (a ≠ b))) := Yld_eq fun w => by
  unfold binS eqGuard
  simp [binOp_string_neq, Sem.run_pure, ByteArray.toList_eq]
  rcases a with ⟨⟨a⟩⟩; rcases b with ⟨⟨b⟩⟩; by_cases h : a = b <;> simp [h]
theorem y_addS (a b : ByteArray) (h : a.size + b.size ≤ 9223372036854775807) : Yld P (binS .add t x y (.string a) (.string b)) K = K (.string (a ++ b)) := Yld_eq fun w => by
  rw [binS_plain (by simp) (by simp), binOp_string_add]
  simp only [Op.stringOp]
  rw [if_neg (by simp [IntKind.max, IntKind.signed, IntKind.bits]; omega)]
  rfl
theorem y_lenS (ty : TypeId) (s : ByteArray) (h : P.underlying t = some .string) : Yld P (Builtin.len_ #[t] ty #[.string s]) K = K (.int .i64 s.size) := Yld_eq fun w => run_len_string w t ty s h
theorem y_lenL (ty : TypeId) (a : Option Addr) (n c : Nat) (h : isSliceB P t = true) : Yld P (Builtin.len_ #[t] ty #[.slice a n c]) K = K (.int .i64 n) := Yld_eq fun w => by
  unfold isSliceB at h
  split at h
  · rename_i e he
    simp [Builtin.len_, run_underlying he]; rfl
  · cases h
theorem y_min2 (ts : Array TypeId) (k k' : IntKind) (a b : Int) : Yld P (Builtin.min_ ts t #[.int k a, .int k' b]) K = K (.int k (if b < a then b else a)) := Yld_eq fun w => run_min_int2 w ts t k k' a b
theorem y_max2 (ts : Array TypeId) (k k' : IntKind) (a b : Int) : Yld P (Builtin.max_ ts t #[.int k a, .int k' b]) K = K (.int k (if b > a then b else a)) := Yld_eq fun w => run_max_int2 w ts t k k' a b
theorem y_atS (s : ByteArray) (k : IntKind) (i : Int) (h : P.underlying t = some .string) (h0 : 0 ≤ i) (h1 : i < s.size) (hk : i.toNat < s.size) : Yld P (Instr.index t (.string s) (.int k i)) K = K (u8 (s[i.toNat]'hk)) := Yld_eq fun w => by
  simp [Instr.index, run_underlying h, asIntOf, h0, ByteArray.getElem?_lt' s i.toNat hk, u8, Sem.run_pure]
end
end Go.Proofs.YtcjojkhieocehaaDoor.Px
