/- Parts Po, Pm, Pn, Pa, Pc, joined. No condition. -/
import Derived.Test.YtblikpbaeippaaaM0K
import Derived.WalkLawsBesides
import Derived.WalkSpells
import Derived.Laws.IdiomStrings
import Derived.ArgAppend
import Derived.Lib.AppendStr
import Derived.Laws.MakeOwn
import Derived.Great.BuildSlice
import Derived.Laws.IdiomCopy
namespace Go.Proofs.Ytblikpbaeippaaa.Px
set_option linter.unusedVariables false
set_option linter.unusedSimpArgs false
open Go.RowKit

/-! ### looking up -/
theorem fr_put (f : Fr) (d : Tmp) (v : Value) (t : Tmp) : f.put (some d) v t = if t = d then some v else f t := rfl
theorem fr_put0 (f : Fr) (v : Value) : f.put none v = f := rfl
theorem fr_args (l : List Value) (n t : Nat) : Fr.args l n t = if t < n then some (l.getD t undef) else none := rfl
theorem vcIf_dt (p : Prop) [Decidable p] (X Y : Prop) (h : p) : vcIf (decide p) X Y = X := by rw [decide_eq_true h, zBn]
theorem vcIf_df (p : Prop) [Decidable p] (X Y : Prop) (h : ¬ p) : vcIf (decide p) X Y = Y := by rw [decide_eq_false h, zBj]
theorem vcIf_slT {P : Program} {t : TypeId} (X Y : Prop) (h : isSliceB P t = true) : vcIf (isSliceB P t) X Y = X := by rw [h, zBn]
theorem vcIf_slF {P : Program} {t : TypeId} (X Y : Prop) (h : isSliceB P t = false) : vcIf (isSliceB P t) X Y = Y := by rw [h, zBj]
theorem vcIf_beq (b : Bool) (X Y : Prop) : vcIf (b == true) X Y = vcIf b X Y := by cases b <;> rfl
theorem vcIf_bnq (b : Bool) (X Y : Prop) : vcIf (b == false) X Y = vcIf (!b) X Y := by cases b <;> rfl
theorem vcIf_not (b : Bool) (X Y : Prop) : vcIf (!b) X Y = vcIf b Y X := by cases b <;> simp [vcIf]
theorem zIi : (#[] : Array Value).toList = [] := rfl
theorem natCast0 : ((0 : Nat) : Int) = 0 := rfl
theorem natCast1 : ((1 : Nat) : Int) = 1 := rfl
theorem natCast2 : ((2 : Nat) : Int) = 2 := rfl
theorem natCast3 : ((3 : Nat) : Int) = 3 := rfl
/-! ### numbers as words -/
def u8 (c : UInt8) : Value := .int .u8 c.toNat
def u16 (c : UInt16) : Value := .int .u16 c.toNat
def u32 (c : UInt32) : Value := .int .u32 c.toNat
def u64 (c : UInt64) : Value := .int .u64 c.toNat
theorem ev_u8 (f : Fr) (k : Value → Prop) (n : Int) (h : 0 ≤ n) (h2 : n ≤ 255) : vev f (.const (.int .u8 n)) k = k ((u8 (UInt8.ofNat n.toNat))) := by
  have e : Value.int .u8 n = u8 (UInt8.ofNat n.toNat) := by unfold u8; congr 1; simp; omega
  show k _ = k _; rw [e]
theorem ev_u16 (f : Fr) (k : Value → Prop) (n : Int) (h : 0 ≤ n) (h2 : n ≤ 65535) : vev f (.const (.int .u16 n)) k = k ((u16 (UInt16.ofNat n.toNat))) := by
  have e : Value.int .u16 n = u16 (UInt16.ofNat n.toNat) := by unfold u16; congr 1; simp; omega
  show k _ = k _; rw [e]
theorem ev_u32 (f : Fr) (k : Value → Prop) (n : Int) (h : 0 ≤ n) (h2 : n ≤ 4294967295) : vev f (.const (.int .u32 n)) k = k ((u32 (UInt32.ofNat n.toNat))) := by
  have e : Value.int .u32 n = u32 (UInt32.ofNat n.toNat) := by unfold u32; congr 1; simp; omega
  show k _ = k _; rw [e]
theorem ev_u64 (f : Fr) (k : Value → Prop) (n : Int) (h : 0 ≤ n) (h2 : n ≤ 18446744073709551615) : vev f (.const (.int .u64 n)) k = k ((u64 (UInt64.ofNat n.toNat))) := by
  have e : Value.int .u64 n = u64 (UInt64.ofNat n.toNat) := by unfold u64; congr 1; simp; omega
  show k _ = k _; rw [e]
theorem ev_i64 (f : Fr) (k : Value → Prop) (n : Int) : vev f (.const (.int .i64 n)) k = k ((.int .i64 n)) := rfl
theorem ev_bool (f : Fr) (k : Value → Prop) (b : Bool) : vev f (.const (.bool b)) k = k ((.bool b)) := rfl
theorem ev_sl (f : Fr) (k : Value → Prop) (a : Option Addr) (n c : Nat) : vev f (.const (.slice a n c)) k = k ((.slice a n c)) := rfl
theorem ev_ptr (f : Fr) (k : Value → Prop) (a : Option Addr) : vev f (.const (.pointer a)) k = k ((.pointer a)) := rfl
theorem ev_nilI (f : Fr) (k : Value → Prop) : vev f (.const .nilIface) k = k (.nilIface) := rfl
theorem ev_nilF (f : Fr) (k : Value → Prop) : vev f (.const .nilFunc) k = k (.nilFunc) := rfl
theorem ev_tup (f : Fr) (k : Value → Prop) (a : Array Value) : vev f (.const (.tuple a)) k = k ((.tuple a)) := rfl
theorem ev_ifc (f : Fr) (k : Value → Prop) (t : TypeId) (v : Value) : vev f (.const (.iface t v)) k = k ((.iface t v)) := rfl
theorem ev_agg (f : Fr) (k : Value → Prop) (a : Array Value) : vev f (.const (.agg a)) k = k ((.agg a)) := rfl

section
variable {P : Program} {t t2 : TypeId} {x y : Operand} {K : Value → Prop}
theorem zGz {op : BinOp} {u v : Value} (h1 : op ≠ .eql) (h2 : op ≠ .neq) : binS op t x y u v = binOp op t u v := by
  unfold binS eqGuard
  cases op <;> first | exact absurd rfl h1 | exact absurd rfl h2 | rfl
theorem zAq {op : BinOp} {k k' : IntKind} {a b : Int} : binS op t x y (.int k a) (.int k' b) = binOp op t (.int k a) (.int k' b) := by
  unfold binS eqGuard
  cases op <;> rfl

/-! 64-bit numbers -/
theorem y_add (a b : Int) : Yld P (binS .add t x y (.int .i64 a) (.int .i64 b)) K = K (.int .i64 (IntKind.i64.wrap (a + b))) := zAc fun w => by rw [zAq]; rfl
theorem y_sub (a b : Int) : Yld P (binS .sub t x y (.int .i64 a) (.int .i64 b)) K = K (.int .i64 (IntKind.i64.wrap (a - b))) := zAc fun w => by rw [zAq]; rfl
theorem y_mul (a b : Int) : Yld P (binS .mul t x y (.int .i64 a) (.int .i64 b)) K = K (.int .i64 (IntKind.i64.wrap (a * b))) := zAc fun w => by rw [zAq]; rfl
theorem y_quo (a b : Int) (ha : 0 ≤ a) (h2 : a ≤ 9223372036854775807) (hb : 0 < b) : Yld P (binS .quo t x y (.int .i64 a) (.int .i64 b)) K = K (.int .i64 (a / b)) := zAc fun w => by
  rw [zAq]
  have h1 : a.tdiv b = a / b := Int.tdiv_eq_ediv_of_nonneg ha
  have h0 : 0 ≤ a / b := Int.ediv_nonneg ha (by omega)
  have h3 : a / b ≤ a := Int.ediv_le_self b ha
  simp [binOp, Op.intDiv, show ¬ b = 0 by omega, h1, Sem.run_pure, IntWalk.i64_in (a / b) ⟨by omega, by omega⟩]
theorem y_rem (a b : Int) (ha : 0 ≤ a) (hb : 0 < b) : Yld P (binS .rem t x y (.int .i64 a) (.int .i64 b)) K = K (.int .i64 (a % b)) := zAc fun w => by
  rw [zAq]
  have h1 : a.tmod b = a % b := Int.tmod_eq_emod_of_nonneg ha
  simp [binOp, Op.intDiv, show ¬ b = 0 by omega, h1, Sem.run_pure]
theorem y_eql (a b : Int) : Yld P (binS .eql t x y (.int .i64 a) (.int .i64 b)) K = K (.bool (decide (a = b))) := zAc fun w => by rw [zAq]; simp [binOp, Op.intCmp, Sem.run_pure]; by_cases h : a = b <;> simp [h]
theorem y_neq (a b : Int) : Yld P (binS .neq t x y (.int .i64 a) (.int .i64 b)) K = K (.bool (decide (a ≠ b))) := zAc fun w => by rw [zAq]; simp [binOp, Op.intCmp, Sem.run_pure]; by_cases h : a = b <;> simp [h]
theorem y_lss (a b : Int) : Yld P (binS .lss t x y (.int .i64 a) (.int .i64 b)) K = K (.bool (decide (a < b))) := zAc fun w => by rw [zAq]; rfl
theorem y_leq (a b : Int) : Yld P (binS .leq t x y (.int .i64 a) (.int .i64 b)) K = K (.bool (decide (a ≤ b))) := zAc fun w => by rw [zAq]; rfl
theorem y_gtr (a b : Int) : Yld P (binS .gtr t x y (.int .i64 a) (.int .i64 b)) K = K (.bool (decide (b < a))) := zAc fun w => by rw [zAq]; rfl
theorem y_geq (a b : Int) : Yld P (binS .geq t x y (.int .i64 a) (.int .i64 b)) K = K (.bool (decide (b ≤ a))) := zAc fun w => by rw [zAq]; rfl
theorem zCd (n : Int) (h1 : -9223372036854775808 ≤ n) (h2 : n ≤ 9223372036854775807) : IntKind.i64.wrap n = n := IntWalk.i64_in n ⟨h1, h2⟩

theorem zBe (n : Int) : IntKind.u8.wrap n = n % 256 := by simp [IntKind.wrap, IntKind.bits, IntKind.signed]
theorem zBd (n : Int) : IntKind.u16.wrap n = n % 65536 := by simp [IntKind.wrap, IntKind.bits, IntKind.signed]
theorem zBf (n : Int) : IntKind.u32.wrap n = n % 4294967296 := by simp [IntKind.wrap, IntKind.bits, IntKind.signed]
theorem zBb (n : Int) : IntKind.u64.wrap n = n % 18446744073709551616 := by simp [IntKind.wrap, IntKind.bits, IntKind.signed]

theorem zB5 {a b : Nat} {p : Prop} [Decidable p] (h : a = b ↔ p) : ((a : Int) == (b : Int)) = decide p := by
  by_cases hp : p
  · simp [hp, h.2 hp]
  · simp [hp]; intro e; exact hp (h.1 (by omega))

/-! bytes -/
theorem y_add8 (a b : UInt8) : Yld P (binS .add t x y (u8 a) (u8 b)) K = K (u8 (a + b)) := zAc fun w => by
  unfold u8; rw [zAq]; simp [binOp, Op.intArith, Sem.run_pure, zBe]
theorem y_sub8 (a b : UInt8) : Yld P (binS .sub t x y (u8 a) (u8 b)) K = K (u8 (a - b)) := zAc fun w => by
  unfold u8; rw [zAq]; simp [binOp, Op.intArith, Sem.run_pure, zBe]
  have := a.toNat_lt; have := b.toNat_lt; rw [UInt8.toNat_sub]; omega
theorem y_mul8 (a b : UInt8) : Yld P (binS .mul t x y (u8 a) (u8 b)) K = K (u8 (a * b)) := zAc fun w => by
  unfold u8; rw [zAq]; simp [binOp, Op.intArith, Sem.run_pure, zBe]
theorem y_eql8 (a b : UInt8) : Yld P (binS .eql t x y (u8 a) (u8 b)) K = K (.bool (decide (a = b))) := zAc fun w => by
  unfold u8; rw [zAq]; simp only [binOp, Op.intCmp, Sem.run_pure]; simp only [ne_eq, not_true_eq_false, if_false, Sem.run_pure, zB5 UInt8.toNat_inj]
theorem y_neq8 (a b : UInt8) : Yld P (binS .neq t x y (u8 a) (u8 b)) K = K (.bool (decide (a ≠ b))) := zAc fun w => by
  unfold u8; rw [zAq]; simp only [binOp, Op.intCmp, Sem.run_pure]; simp only [ne_eq, not_true_eq_false, if_false, Sem.run_pure, bne, zB5 UInt8.toNat_inj, decide_not]
theorem y_lss8 (a b : UInt8) : Yld P (binS .lss t x y (u8 a) (u8 b)) K = K (.bool (decide (a < b))) := zAc fun w => by
  unfold u8; rw [zAq]; simp [binOp, Op.intCmp, Sem.run_pure, UInt8.lt_iff_toNat_lt]
theorem y_leq8 (a b : UInt8) : Yld P (binS .leq t x y (u8 a) (u8 b)) K = K (.bool (decide (a ≤ b))) := zAc fun w => by
  unfold u8; rw [zAq]; simp [binOp, Op.intCmp, Sem.run_pure, UInt8.le_iff_toNat_le]
theorem y_gtr8 (a b : UInt8) : Yld P (binS .gtr t x y (u8 a) (u8 b)) K = K (.bool (decide (b < a))) := zAc fun w => by
  unfold u8; rw [zAq]; simp [binOp, Op.intCmp, Sem.run_pure, UInt8.lt_iff_toNat_lt]
theorem y_geq8 (a b : UInt8) : Yld P (binS .geq t x y (u8 a) (u8 b)) K = K (.bool (decide (b ≤ a))) := zAc fun w => by
  unfold u8; rw [zAq]; simp [binOp, Op.intCmp, Sem.run_pure, UInt8.le_iff_toNat_le]
theorem ofInt8 (a : UInt8) : BitVec.ofInt IntKind.u8.bits (a.toNat : Int) = a.toBitVec := by
  show BitVec.ofInt 8 (a.toNat : Int) = a.toBitVec
  rw [BitVec.ofInt_natCast]; apply BitVec.eq_of_toNat_eq; simp
theorem back8 (r : UInt8) : IntKind.u8.wrap (r.toBitVec.toNat : Int) = r.toNat := by
  rw [zBe]; have := r.toNat_lt; show ((r.toNat : Int) % 256) = _; omega
theorem y_and8 (a b : UInt8) : Yld P (binS .and t x y (u8 a) (u8 b)) K = K (u8 (a &&& b)) := zAc fun w => by
  unfold u8; rw [zAq]; simp only [binOp, Op.intBits, ofInt8, ne_eq, not_true_eq_false, if_false]; exact congrArg (fun z => Result.ok (Value.int .u8 z) w) (back8 (a &&& b))
theorem y_or8 (a b : UInt8) : Yld P (binS .or t x y (u8 a) (u8 b)) K = K (u8 (a ||| b)) := zAc fun w => by
  unfold u8; rw [zAq]; simp only [binOp, Op.intBits, ofInt8, ne_eq, not_true_eq_false, if_false]; exact congrArg (fun z => Result.ok (Value.int .u8 z) w) (back8 (a ||| b))
theorem y_xor8 (a b : UInt8) : Yld P (binS .xor t x y (u8 a) (u8 b)) K = K (u8 (a ^^^ b)) := zAc fun w => by
  unfold u8; rw [zAq]; simp only [binOp, Op.intBits, ofInt8, ne_eq, not_true_eq_false, if_false]; exact congrArg (fun z => Result.ok (Value.int .u8 z) w) (back8 (a ^^^ b))

/-! words of 32 bits -/
theorem y_add32 (a b : UInt32) : Yld P (binS .add t x y (u32 a) (u32 b)) K = K (u32 (a + b)) := zAc fun w => by
  unfold u32; rw [zAq]; simp [binOp, Op.intArith, Sem.run_pure, zBf]
theorem y_sub32 (a b : UInt32) : Yld P (binS .sub t x y (u32 a) (u32 b)) K = K (u32 (a - b)) := zAc fun w => by
  unfold u32; rw [zAq]; simp [binOp, Op.intArith, Sem.run_pure, zBf]
  have := a.toNat_lt; have := b.toNat_lt; rw [UInt32.toNat_sub]; omega
theorem y_mul32 (a b : UInt32) : Yld P (binS .mul t x y (u32 a) (u32 b)) K = K (u32 (a * b)) := zAc fun w => by
  unfold u32; rw [zAq]; simp [binOp, Op.intArith, Sem.run_pure, zBf]
theorem y_eql32 (a b : UInt32) : Yld P (binS .eql t x y (u32 a) (u32 b)) K = K (.bool (decide (a = b))) := zAc fun w => by
  unfold u32; rw [zAq]; simp only [binOp, Op.intCmp, Sem.run_pure]; simp only [ne_eq, not_true_eq_false, if_false, Sem.run_pure, zB5 UInt32.toNat_inj]
theorem y_neq32 (a b : UInt32) : Yld P (binS .neq t x y (u32 a) (u32 b)) K = K (.bool (decide (a ≠ b))) := zAc fun w => by
  unfold u32; rw [zAq]; simp only [binOp, Op.intCmp, Sem.run_pure]; simp only [ne_eq, not_true_eq_false, if_false, Sem.run_pure, bne, zB5 UInt32.toNat_inj, decide_not]
theorem ofInt32 (a : UInt32) : BitVec.ofInt IntKind.u32.bits (a.toNat : Int) = a.toBitVec := by
  show BitVec.ofInt 32 (a.toNat : Int) = a.toBitVec
  rw [BitVec.ofInt_natCast]; apply BitVec.eq_of_toNat_eq; simp
theorem back32 (r : UInt32) : IntKind.u32.wrap (r.toBitVec.toNat : Int) = r.toNat := by
  rw [zBf]; have := r.toNat_lt; show ((r.toNat : Int) % 4294967296) = _; omega
theorem y_and32 (a b : UInt32) : Yld P (binS .and t x y (u32 a) (u32 b)) K = K (u32 (a &&& b)) := zAc fun w => by
  unfold u32; rw [zAq]; simp only [binOp, Op.intBits, ofInt32, ne_eq, not_true_eq_false, if_false]; exact congrArg (fun z => Result.ok (Value.int .u32 z) w) (back32 (a &&& b))
theorem y_or32 (a b : UInt32) : Yld P (binS .or t x y (u32 a) (u32 b)) K = K (u32 (a ||| b)) := zAc fun w => by
  unfold u32; rw [zAq]; simp only [binOp, Op.intBits, ofInt32, ne_eq, not_true_eq_false, if_false]; exact congrArg (fun z => Result.ok (Value.int .u32 z) w) (back32 (a ||| b))
theorem y_xor32 (a b : UInt32) : Yld P (binS .xor t x y (u32 a) (u32 b)) K = K (u32 (a ^^^ b)) := zAc fun w => by
  unfold u32; rw [zAq]; simp only [binOp, Op.intBits, ofInt32, ne_eq, not_true_eq_false, if_false]; exact congrArg (fun z => Result.ok (Value.int .u32 z) w) (back32 (a ^^^ b))
theorem zA2 {op : BinOp} {u v : Value} (h : op = .shl ∨ op = .shr) : binS op t x y u v = binOp op t u v := zGz (by rcases h with rfl | rfl <;> simp) (by rcases h with rfl | rfl <;> simp)
theorem y_shl32 (a : UInt32) (n : UInt64) (h1 : n.toNat < 32) : Yld P (binS .shl t x y (u32 a) (u64 n)) K = K (u32 (a <<< UInt32.ofNat n.toNat)) := zAc fun w => by
  unfold u32 u64; rw [zA2 (.inl rfl)]
  simp only [binOp]
  rw [shift_shl .u32 .u64 _ _ (by omega) (by simp [IntKind.bits]; omega), Sem.run_pure, zBf]
  congr 3
  rw [UInt32.toNat_shiftLeft, UInt32.toNat_ofNat', Int.toNat_natCast, Nat.shiftLeft_eq]
  rw [Nat.mod_eq_of_lt (show n.toNat % 2 ^ 32 < 32 by omega), Nat.mod_eq_of_lt (show n.toNat < 2 ^ 32 by omega)]
  rw [Int.natCast_emod, Int.natCast_mul, Int.natCast_pow]; rfl
theorem y_shr8 (a : UInt8) (n : UInt64) (h1 : n.toNat < 8) : Yld P (binS .shr t x y (u8 a) (u64 n)) K = K (u8 (a >>> UInt8.ofNat n.toNat)) := zAc fun w => by
  unfold u8 u64; rw [zA2 (.inr rfl)]
  simp only [binOp]
  rw [shift_shr .u8 .u64 _ _ (by omega) (by simp [IntKind.bits]; omega), Sem.run_pure]
  congr 3
  rw [UInt8.toNat_shiftRight, UInt8.toNat_ofNat', Int.toNat_natCast, Nat.shiftRight_eq_div_pow]
  rw [Nat.mod_eq_of_lt (show n.toNat % 2 ^ 8 < 8 by omega), Nat.mod_eq_of_lt (show n.toNat < 2 ^ 8 by omega)]
  push_cast; rfl
theorem y_shr32 (a : UInt32) (n : UInt64) (h1 : n.toNat < 32) : Yld P (binS .shr t x y (u32 a) (u64 n)) K = K (u32 (a >>> UInt32.ofNat n.toNat)) := zAc fun w => by
  unfold u32 u64; rw [zA2 (.inr rfl)]
  simp only [binOp]
  rw [shift_shr .u32 .u64 _ _ (by omega) (by simp [IntKind.bits]; omega), Sem.run_pure]
  congr 3
  rw [UInt32.toNat_shiftRight, UInt32.toNat_ofNat', Int.toNat_natCast, Nat.shiftRight_eq_div_pow]
  rw [Nat.mod_eq_of_lt (show n.toNat % 2 ^ 32 < 32 by omega), Nat.mod_eq_of_lt (show n.toNat < 2 ^ 32 by omega)]
  push_cast; rfl

/-! truth values -/
theorem y_not (b : Bool) : Yld P (Op.unary .not (.bool b)) K = K (.bool !b) := zAc fun w => rfl
theorem y_eqlB (a b : Bool) (ht : P.underlying t = some .bool) : Yld P (binS .eql t x y (.bool a) (.bool b)) K = K (.bool (a == b)) := zAc fun w => by
  unfold binS eqGuard; simp [run_eql_bool w t a b ht]
theorem y_neqB (a b : Bool) (ht : P.underlying t = some .bool) : Yld P (binS .neq t x y (.bool a) (.bool b)) K = K (.bool (!(a == b))) := zAc fun w => by
  unfold binS eqGuard; simp [run_neq_bool w t a b ht]
theorem y_neg (n : Int) : Yld P (Op.unary .neg (.int .i64 n)) K = K (.int .i64 (IntKind.i64.wrap (0 - n))) := zAc fun w => rfl
theorem y_com32 (a : UInt32) : Yld P (Op.unary .xor (u32 a)) K = K (u32 (~~~a)) := zAc fun w => by
  unfold u32; simp only [Op.unary, Op.intBits, ofInt32]
  have h1 : BitVec.ofInt IntKind.u32.bits (if IntKind.u32.signed = true then -1 else IntKind.u32.max) = BitVec.allOnes 32 := by
    show BitVec.ofInt 32 4294967295 = BitVec.allOnes 32
    rfl
  rw [h1]
  have h2 : (BitVec.allOnes 32 ^^^ a.toBitVec) = (~~~a).toBitVec := by
    apply BitVec.eq_of_getLsbD_eq; intro i hi
    simp only [BitVec.getLsbD_xor, BitVec.getLsbD_allOnes, UInt32.toBitVec_not, BitVec.getLsbD_not, hi, decide_true, Bool.true_xor, Bool.true_and]
  exact congrArg (fun z => Result.ok (Value.int .u32 z) w) ((congrArg (fun z : BitVec 32 => IntKind.u32.wrap (z.toNat : Int)) h2).trans (back32 (~~~a)))

/-! errors against nil -/
theorem y_eqlNN (v : Value) (ht : P.underlying t = some (.interface (P.methodsAt t))) : Yld P (binS .eql t x (.const v) .nilIface .nilIface) K = K (.bool true) := zAc fun w => by
  unfold binS eqGuard; simp [run_eql_nil_nil w t ht]
theorem y_neqNN (v : Value) (ht : P.underlying t = some (.interface (P.methodsAt t))) : Yld P (binS .neq t x (.const v) .nilIface .nilIface) K = K (.bool false) := zAc fun w => by
  unfold binS eqGuard; simp [run_neq_nil_nil w t ht]
theorem y_eqlHN (v u : Value) (k : TypeId) (ht : P.underlying t = some (.interface (P.methodsAt t))) : Yld P (binS .eql t x (.const v) (.iface k u) .nilIface) K = K (.bool false) := zAc fun w => by
  unfold binS eqGuard; simp [run_eql_held_nil w t k u ht]
theorem y_neqHN (v u : Value) (k : TypeId) (ht : P.underlying t = some (.interface (P.methodsAt t))) : Yld P (binS .neq t x (.const v) (.iface k u) .nilIface) K = K (.bool true) := zAc fun w => by
  unfold binS eqGuard; simp [run_neq_held_nil w t k u ht]

/-! texts -/
theorem y_eqlS (a b : ByteArray) : Yld P (binS .eql t x y (.string a) (.string b)) K = K (.bool (decide (a = b))) := zAc fun w => by
  unfold binS eqGuard
  simp [binOp_string_eql, Sem.run_pure, ByteArray.toList_eq]
  rcases a with ⟨⟨a⟩⟩; rcases b with ⟨⟨b⟩⟩; by_cases h : a = b <;> simp [h]
theorem y_neqS (a b : ByteArray) : Yld P (binS .neq t x y (.string a) (.string b)) K = K (.bool (decide (a ≠ b))) := zAc fun w => by
  unfold binS eqGuard
  simp [binOp_string_neq, Sem.run_pure, ByteArray.toList_eq]
  rcases a with ⟨⟨a⟩⟩; rcases b with ⟨⟨b⟩⟩; by_cases h : a = b <;> simp [h]
theorem y_addS (a b : ByteArray) (h : a.size + b.size ≤ 9223372036854775807) : Yld P (binS .add t x y (.string a) (.string b)) K = K (.string (a ++ b)) := zAc fun w => by
  rw [zGz (by simp) (by simp), binOp_string_add]
  simp only [Op.stringOp]
  rw [if_neg (by simp [IntKind.max, IntKind.signed, IntKind.bits]; omega)]
  rfl
theorem y_lenS (ty : TypeId) (s : ByteArray) (h : P.underlying t = some .string) : Yld P (Builtin.len_ #[t] ty #[.string s]) K = K (.int .i64 s.size) := zAc fun w => run_len_string w t ty s h
theorem y_lenL (ty : TypeId) (a : Option Addr) (n c : Nat) (h : isSliceB P t = true) : Yld P (Builtin.len_ #[t] ty #[.slice a n c]) K = K (.int .i64 n) := zAc fun w => by
  unfold isSliceB at h
  split at h
  · rename_i e he
    simp [Builtin.len_, run_underlying he]; rfl
  · cases h
theorem y_min2 (ts : Array TypeId) (k k' : IntKind) (a b : Int) : Yld P (Builtin.min_ ts t #[.int k a, .int k' b]) K = K (.int k (if b < a then b else a)) := zAc fun w => run_min_int2 w ts t k k' a b
theorem y_max2 (ts : Array TypeId) (k k' : IntKind) (a b : Int) : Yld P (Builtin.max_ ts t #[.int k a, .int k' b]) K = K (.int k (if b > a then b else a)) := zAc fun w => run_max_int2 w ts t k k' a b
end
end Go.Proofs.Ytblikpbaeippaaa.Px


namespace Go.Proofs.Ytblikpbaeippaaa.Px
set_option linter.unusedVariables false
set_option linter.unusedSimpArgs false
open Go.RowKit

/-! ### texts as lists of bytes -/
def str (l : List UInt8) : Value := .string ⟨l.toArray⟩
theorem zA9 (l : List UInt8) : (ByteArray.mk l.toArray).size = l.length := rfl
section
variable {P : Program} {w0 : World} {h : PH} {t : TypeId} {x y : Operand} {K : Value → Prop}
theorem lenK_str (l : List UInt8) (A B : Prop) : lenK [str l] A B = B := rfl
theorem ev_cstr (f : Fr) (k : Value → Prop) (l : List UInt8) : vev f (.const (.string ⟨l.toArray⟩)) k = k (str l) := rfl
theorem y_eqlT (a b : List UInt8) : Yld P (binS .eql t x y (str a) (str b)) K = K (.bool (decide (a = b))) := by
  unfold str; rw [y_eqlS]; congr 2; by_cases e : a = b
  · simp [e]
  · have : ¬ (ByteArray.mk a.toArray = ByteArray.mk b.toArray) := by intro h; injection h with h; exact e (List.toArray_inj h)
    simp [e, this]
theorem y_neqT (a b : List UInt8) : Yld P (binS .neq t x y (str a) (str b)) K = K (.bool (decide (a ≠ b))) := by
  unfold str; rw [y_neqS]; congr 2; by_cases e : a = b
  · simp [e]
  · have : ¬ (ByteArray.mk a.toArray = ByteArray.mk b.toArray) := by intro h; injection h with h; exact e (List.toArray_inj h)
    simp [e, this]
theorem y_addT (a b : List UInt8) (h : a.length + b.length ≤ 9223372036854775807) : Yld P (binS .add t x y (str a) (str b)) K = K (str (a ++ b)) := by
  unfold str; rw [y_addS _ _ (by simpa [zA9] using h)]
  congr 1
theorem y_lenT (ty : TypeId) (l : List UInt8) (h : P.underlying t = some .string) : Yld P (Builtin.len_ #[t] ty #[str l]) K = K (.int .i64 l.length) := y_lenS ty ⟨l.toArray⟩ h
theorem get_mk (l : List UInt8) (i : Nat) (h : i < l.length) : (ByteArray.mk l.toArray)[i]? = some (l.getD i 0) := by
  rw [ByteArray.getElem?_lt' ⟨l.toArray⟩ i (show i < l.length from h)]
  congr 1
  rw [List.getD, List.getElem?_eq_getElem h]
  rfl
theorem y_atT (l : List UInt8) (k : IntKind) (i : Int) (h : P.underlying t = some .string) (h0 : 0 ≤ i) (h1 : i < l.length) : Yld P (Instr.index t (str l) (.int k i)) K = K (u8 (l.getD i.toNat 0)) := zAc fun w => by
  unfold str
  simp [Instr.index, run_underlying h, asIntOf, h0, get_mk l i.toNat (by omega), u8, Sem.run_pure]
theorem y_atT32 (l : List UInt8) (i : UInt32) (h : P.underlying t = some .string) (h1 : i.toNat < l.length) : Yld P (Instr.index t (str l) (u32 i)) K = K (u8 (l.getD i.toNat 0)) := by
  unfold u32; rw [y_atT l _ _ h (by omega) (by omega)]; rfl
theorem y_atT8 (l : List UInt8) (i : UInt8) (h : P.underlying t = some .string) (h1 : i.toNat < l.length) : Yld P (Instr.index t (str l) (u8 i)) K = K (u8 (l.getD i.toNat 0)) := by
  unfold u8; rw [y_atT l _ _ h (by omega) (by omega)]; rfl
theorem y_cutT (l : List UInt8) (k k' : IntKind) (i j : Int) (h : P.underlying t = some .string) (h0 : 0 ≤ i) (h1 : i ≤ j) (h2 : j ≤ l.length) : Yld P (Instr.sliceAt t (str l) (some (.int k i)) (some (.int k' j)) none) K = K (str ((l.drop i.toNat).take (j.toNat - i.toNat))) := zAc fun w => by
  unfold str
  rw [run_sliceAt_string _ _ _ _ _ _ h]
  rw [run_slice_string _ t ⟨l.toArray⟩ k k' i j h h0 h1 (by simpa [zA9] using h2)]
  simp [ByteArray.extract_mk]
theorem y_fromT (l : List UInt8) (k : IntKind) (i : Int) (h : P.underlying t = some .string) (h0 : 0 ≤ i) (h1 : i ≤ l.length) : Yld P (Instr.sliceAt t (str l) (some (.int k i)) none none) K = K (str (l.drop i.toNat)) := zAc fun w => by
  unfold str
  rw [run_sliceAt_string _ _ _ _ _ _ h, run_slice_string_from_if _ t ⟨l.toArray⟩ k i h]
  simp [h0, zA9, h1, ByteArray.extract_mk, List.take_of_length_le]
theorem y_toT (l : List UInt8) (k : IntKind) (j : Int) (h : P.underlying t = some .string) (h0 : 0 ≤ j) (h1 : j ≤ l.length) : Yld P (Instr.sliceAt t (str l) none (some (.int k j)) none) K = K (str (l.take j.toNat)) := zAc fun w => by
  unfold str
  rw [run_sliceAt_string _ _ _ _ _ _ h, run_slice_string_to_if _ t ⟨l.toArray⟩ k j h]
  simp [h0, zA9, h1, ByteArray.extract_mk]

/-! ### kinds of numbers turned into one another -/
theorem y_c_i64 (s : TypeId) (k : IntKind) (n : Int) (hs : (P.underlying s).isSome = true) (hd : P.underlying t = some (.int .i64)) : Yld P (convert s t (.int k n)) K = K (.int .i64 (IntKind.i64.wrap n)) := zAc fun w => by
  obtain ⟨d, hd'⟩ := Option.isSome_iff_exists.mp hs
  simp [convert, run_underlying hd', run_underlying hd, Conv.intToInt, Sem.run_pure]
theorem zA4 {s : TypeId} {k j : IntKind} {n : Int} (hs : (P.underlying s).isSome = true) (hd : P.underlying t = some (.int j)) : Yld P (convert s t (.int k n)) K = K (.int j (j.wrap n)) := zAc fun w => by
  obtain ⟨d, hd'⟩ := Option.isSome_iff_exists.mp hs
  simp [convert, run_underlying hd', run_underlying hd, Conv.intToInt, Sem.run_pure]
theorem y_c_8i (s : TypeId) (c : UInt8) (hs : (P.underlying s).isSome = true) (hd : P.underlying t = some (.int .i64)) : Yld P (convert s t (u8 c)) K = K (.int .i64 c.toNat) := by
  unfold u8; rw [zA4 hs hd, zCd _ (by omega) (by have := c.toNat_lt; omega)]
theorem y_c_32i (s : TypeId) (c : UInt32) (hs : (P.underlying s).isSome = true) (hd : P.underlying t = some (.int .i64)) : Yld P (convert s t (u32 c)) K = K (.int .i64 c.toNat) := by
  unfold u32; rw [zA4 hs hd, zCd _ (by omega) (by have := c.toNat_lt; omega)]
theorem y_c_8_32 (s : TypeId) (c : UInt8) (hs : (P.underlying s).isSome = true) (hd : P.underlying t = some (.int .u32)) : Yld P (convert s t (u8 c)) K = K (u32 c.toUInt32) := by
  unfold u8 u32; rw [zA4 hs hd, zBf]; congr 2; have := c.toNat_lt; simp; omega
theorem y_c_8_64 (s : TypeId) (c : UInt8) (hs : (P.underlying s).isSome = true) (hd : P.underlying t = some (.int .u64)) : Yld P (convert s t (u8 c)) K = K (u64 c.toUInt64) := by
  unfold u8 u64; rw [zA4 hs hd, zBb]; congr 2; have := c.toNat_lt; simp; omega
theorem y_c_32_64 (s : TypeId) (c : UInt32) (hs : (P.underlying s).isSome = true) (hd : P.underlying t = some (.int .u64)) : Yld P (convert s t (u32 c)) K = K (u64 c.toUInt64) := by
  unfold u32 u64; rw [zA4 hs hd, zBb]; congr 2; have := c.toNat_lt; simp; omega
theorem y_c_32_8 (s : TypeId) (c : UInt32) (hs : (P.underlying s).isSome = true) (hd : P.underlying t = some (.int .u8)) : Yld P (convert s t (u32 c)) K = K (u8 c.toUInt8) := by
  unfold u32 u8; rw [zA4 hs hd, zBe]; congr 2
theorem y_c_64_8 (s : TypeId) (c : UInt64) (hs : (P.underlying s).isSome = true) (hd : P.underlying t = some (.int .u8)) : Yld P (convert s t (u64 c)) K = K (u8 c.toUInt8) := by
  unfold u64 u8; rw [zA4 hs hd, zBe]; congr 2
theorem y_c_i_8 (s : TypeId) (n : Int) (hs : (P.underlying s).isSome = true) (hd : P.underlying t = some (.int .u8)) : Yld P (convert s t (.int .i64 n)) K = K (u8 (UInt8.ofInt n)) := by
  unfold u8; rw [zA4 hs hd, zBe]; congr 2
  have h1 : (n % 256).toNat < 256 := by omega
  simp [UInt8.ofInt, Nat.mod_eq_of_lt h1]
  omega
theorem y_c_i_32 (s : TypeId) (n : Int) (hs : (P.underlying s).isSome = true) (hd : P.underlying t = some (.int .u32)) : Yld P (convert s t (.int .i64 n)) K = K (u32 (UInt32.ofInt n)) := by
  unfold u32; rw [zA4 hs hd, zBf]; congr 2
  have h1 : (n % 4294967296).toNat < 4294967296 := by omega
  simp [UInt32.ofInt, Nat.mod_eq_of_lt h1]
  omega
theorem y_c_i_64 (s : TypeId) (n : Int) (hs : (P.underlying s).isSome = true) (hd : P.underlying t = some (.int .u64)) : Yld P (convert s t (.int .i64 n)) K = K (u64 (UInt64.ofInt n)) := by
  unfold u64; rw [zA4 hs hd, zBb]; congr 2
  have h1 : (n % 18446744073709551616).toNat < 18446744073709551616 := by omega
  simp [UInt64.ofInt, Nat.mod_eq_of_lt h1]
  omega
theorem y_iface (v : Value) (ht : P.concrete t = true) : Yld P (Instr.makeInterface t v) K = K (.iface t v) := zAc fun w => run_makeInterface w t v ht
end

/-! ### addresses -/
section
variable {P : Program} {w0 : World} {h : PH} {t e : TypeId} {K : Value → Prop} {sz : Nat}
theorem run_sizeOf (hz : szOf P e = some sz) (w : World) : (sizeOf e).run P w = .ok sz w := by
  obtain ⟨i, hi, hs⟩ := Option.map_eq_some_iff.1 hz
  simp [sizeOf, typeInfo, hi, hs]
theorem zCz (hu : P.underlying t = some (.slice e)) (hz : szOf P e = some sz) (b o n c : Nat) (k : IntKind) (i : Int) (h0 : 0 ≤ i) (h1 : i < n) : Yld P (Instr.indexAt t (.slice (some ⟨b, o, none⟩) n c) (.int k i)) K = K (.pointer (some ⟨b, o + i.toNat * sz, none⟩)) := zAc fun w => by
  simp [Instr.indexAt, run_underlying hu, asIntOf, h0, h1, run_sizeOf hz, Addr.add_mid]
theorem zD3 {m : Nat} (hu : P.underlying t = some (.array m e)) (hz : szOf P e = some sz) (b o : Nat) (k : IntKind) (i : Int) (h0 : 0 ≤ i) (h1 : i < m) : Yld P (Instr.indexAt t (.pointer (some ⟨b, o, none⟩)) (.int k i)) K = K (.pointer (some ⟨b, o + i.toNat * sz, none⟩)) := zAc fun w => by
  simp [Instr.indexAt, run_underlying hu, asIntOf, h0, h1, run_sizeOf hz, Addr.add_mid, Instr.sureAddr]
def sl1B (P : Program) (t : TypeId) : Bool := match P.underlying t with
  | some (.slice e) => szOf P e == some 1
  | _ => false
theorem y_index1 (hu : sl1B P t = true) (b o n c : Nat) (k : IntKind) (i : Int) (h0 : 0 ≤ i) (h1 : i < n) : Yld P (Instr.indexAt t (.slice (some ⟨b, o, none⟩) n c) (.int k i)) K = K (.pointer (some ⟨b, o + i.toNat, none⟩)) := by
  unfold sl1B at hu
  split at hu
  · rename_i e he
    rw [zCz he (by simpa using hu) b o n c k i h0 h1, Nat.mul_one]
  · cases hu
def cutAt (b o k : Nat) (whole : Bool) : Option Addr := some (if whole then ⟨b, o, none⟩ else ⟨b, o + k, none⟩)
theorem zDd (hu : P.underlying t = some (.slice e)) (hz : szOf P e = some sz) (b o n c : Nat) (k : IntKind) (i : Int) (h0 : 0 ≤ i) (h1 : i ≤ n) : Yld P (Instr.sliceAt t (.slice (some ⟨b, o, none⟩) n c) (some (.int k i)) none none) K = K (.slice (cutAt b o (i.toNat * sz) (decide (c = i.toNat))) (n - i.toNat) (c - i.toNat)) := zAc fun w => by
  obtain ⟨n', rfl⟩ := Int.eq_ofNat_of_zero_le h0
  have h2 : n' ≤ n := by omega
  simp [Instr.sliceAt, run_underlying hu, Instr.slice, Instr.sliceBounds, Instr.sliceBound, asIntOf, h2, run_sizeOf hz, cutAt, Addr.add_mid]
  split <;> rfl
theorem y_from1 (hu : sl1B P t = true) (b o n c : Nat) (k : IntKind) (i : Int) (h0 : 0 ≤ i) (h1 : i ≤ n) : Yld P (Instr.sliceAt t (.slice (some ⟨b, o, none⟩) n c) (some (.int k i)) none none) K = K (.slice (cutAt b o i.toNat (decide (c = i.toNat))) (n - i.toNat) (c - i.toNat)) := by
  unfold sl1B at hu
  split at hu
  · rename_i e he
    rw [zDd he (by simpa using hu) b o n c k i h0 h1, Nat.mul_one]
  · cases hu
end
/-! ### rows -/
structure El (P : Program) (t e : TypeId) (z : Value) (sz by_ : Nat) : Prop where
  under : P.underlying t = some (.slice e)
  info : ∃ i, P.info? e = some i ∧ i.zero = some z ∧ i.size = sz ∧ i.bytes = by_
  zero : z.cells.size = sz
  pos : 0 < sz
def bs (l : List UInt8) : List Value := l.map u8
theorem zBi (a b : List UInt8) : bs (a ++ b) = bs a ++ bs b := by simp [bs]
theorem zA0 (l : List UInt8) : (bs l).length = l.length := by simp [bs]
theorem zCj (l : List UInt8) : allOne (bs l) := by
  intro v hv
  obtain ⟨_, _, rfl⟩ := List.mem_map.1 hv
  rfl
def Rs (w0 : World) (h : PH) (sz : Nat) (A : Option Addr) (m : Nat) (ys : List Value) : Prop := ys.length = m * sz ∧ (0 < m → ∃ a, A = some a ∧ rdN w0 h a (m * sz) = some ys)
def Own (h : PH) (sz : Nat) (v : Value) (n : Nat) (xs : List Value) : Prop :=
  xs.length = n * sz ∧ ((v = .slice none 0 0 ∧ n = 0) ∨ ∃ b c, v = .slice (some ⟨b, 0, none⟩) n c ∧ n ≤ c ∧ c ≤ maxLen ∧ h.m b = some ⟨xs, c * sz⟩)
structure Stays (h h' : PH) (v v' : Value) : Prop where
  top : h.top ≤ h'.top
  keep : ∀ x k, h.m x = some k → v.ownBlock ≠ some x → h'.m x = some k
  fresh : ∀ x, v'.ownBlock = some x → v.ownBlock = some x ∨ h.top ≤ x
structure OwnS (h0 h : PH) (sz : Nat) (v : Value) (n : Nat) (xs : List Value) : Prop where
  le : PH.Le h0 h
  own : Own h sz v n xs
  new : ∀ x, v.ownBlock = some x → h0.top ≤ x
theorem Own.nil (h : PH) (sz : Nat) : Own h sz (.slice none 0 0) 0 [] := ⟨by simp, .inl ⟨rfl, rfl⟩⟩
theorem OwnS.nil (h : PH) (sz : Nat) : OwnS h h sz (.slice none 0 0) 0 [] := ⟨PH.Le.refl h, Own.nil h sz, fun x e => by cases e⟩
theorem OwnS.stays {h0 h h' : PH} {sz n m : Nat} {v v' : Value} {xs ys : List Value} (o : OwnS h0 h sz v n xs) (s : Stays h h' v v') (o' : Own h' sz v' m ys) : OwnS h0 h' sz v' m ys := by
  refine ⟨⟨Nat.le_trans o.le.top s.top, fun x k e => s.keep x k (o.le.m x k e) fun hv => ?_⟩, o', fun x e => ?_⟩
  · have := o.new x hv
    have := h0.lt x k e
    omega
  · rcases s.fresh x e with h1 | h1
    · exact o.new x h1
    · exact Nat.le_trans o.le.top h1
theorem OwnS.more {h0 h h' : PH} {sz n : Nat} {v : Value} {xs : List Value} (o : OwnS h0 h sz v n xs) (l : PH.Le h h') : OwnS h0 h' sz v n xs :=
  ⟨o.le.trans l, ⟨o.own.1, o.own.2.imp id fun ⟨b, c, h1, h2, h3, h4⟩ => ⟨b, c, h1, h2, h3, l.m _ _ h4⟩⟩, o.new⟩
theorem Own.len {h : PH} {sz n : Nat} {v : Value} {xs : List Value} (o : Own h sz v n xs) : ∃ A c, v = .slice A n c ∧ n ≤ c := by
  rcases o.2 with ⟨h1, h2⟩ | ⟨b, c, h1, h2, _⟩
  · exact ⟨none, 0, by rw [h1, h2], by omega⟩
  · exact ⟨_, c, h1, h2⟩
theorem Own.pos {h : PH} {sz n : Nat} {v : Value} {xs : List Value} (o : Own h sz v n xs) (hn : 0 < n) : ∃ b c, v = .slice (some ⟨b, 0, none⟩) n c ∧ n ≤ c ∧ h.m b = some ⟨xs, c * sz⟩ := by
  rcases o.2 with ⟨h1, h2⟩ | ⟨b, c, h1, h2, _, h3⟩
  · omega
  · exact ⟨b, c, h1, h2, h3⟩
theorem Rs.own {w0 : World} {h : PH} {sz n c : Nat} {A : Option Addr} {xs : List Value} (o : Own h sz (.slice A n c) n xs) : Rs w0 h sz A n xs := by
  refine ⟨o.1, fun hn => ?_⟩
  obtain ⟨b, c', e, _, hb⟩ := o.pos hn
  injection e with e1 e2 e3
  subst e1
  refine ⟨_, rfl, ?_⟩
  unfold rdN
  simp only [hb]
  rw [if_pos ⟨trivial, by simp [o.1]⟩]
  simp [← o.1]
theorem Rs.nil (w0 : World) (h : PH) (sz : Nat) (A : Option Addr) : Rs w0 h sz A 0 [] := ⟨by simp, fun e => absurd e (by omega)⟩
theorem Rs.blk {w0 : World} {h : PH} {sz m b : Nat} {k : Bk} (hb : h.m b = some k) (hl : k.xs.length = m * sz) : Rs w0 h sz (some ⟨b, 0, none⟩) m k.xs := by
  refine ⟨hl, fun _ => ⟨_, rfl, ?_⟩⟩
  unfold rdN
  simp only [hb]
  rw [if_pos ⟨trivial, by omega⟩, ← hl]
  simp

section
variable {w0 : World}
theorem PH.eq_of {h h' : PH} (h1 : h.top = h'.top) (h2 : ∀ x, h.m x = h'.m x) : h = h' := by
  obtain ⟨t, m, p⟩ := h
  obtain ⟨t', m', p'⟩ := h'
  simp only at h1 h2
  obtain rfl : m = m' := funext h2
  subst h1
  rfl
theorem PH.new_new (h : PH) (b : Nat) (k k' : Bk) : (h.new b k).new b k' = h.new b k' := by
  refine PH.eq_of ?_ fun x => ?_
  · simp only [PH.new_top]; omega
  · simp only [PH.new_m]; by_cases hx : x = b <;> simp [hx]
theorem PH.new_same {h : PH} {b : Nat} {k : Bk} (hb : h.m b = some k) : h.new b k = h := by
  refine PH.eq_of ?_ fun x => ?_
  · have := h.lt _ _ hb; simp only [PH.new_top]; omega
  · rw [PH.new_m]
    by_cases hx : x = b
    · rw [if_pos hx, hx, hb]
    · rw [if_neg hx]
theorem PH.sub_cut (h : PH) (b lim n : Nat) (xs : List Value) : PH.Sub w0 (h.new b ⟨xs.take n, lim⟩) (h.new b ⟨xs, lim⟩) := fun w s => by
  refine ⟨s.below, by have := s.top; simpa only [PH.new_top] using this, fun x k e => ?_⟩
  rw [PH.new_m] at e
  by_cases hx : x = b
  · rw [if_pos hx] at e
    obtain rfl := Option.some.inj e
    obtain ⟨h1, cur, t, lo, hi, h2, h3, h4, h5, h6⟩ := s.sat x ⟨xs, lim⟩ (by rw [PH.new_m, if_pos hx])
    simp only at h3 h4 h5 h6
    refine ⟨h1, cur, t, lo, hi, h2, h3, h4, ?_, ?_⟩
    · simp only [List.length_take]; omega
    · simp only [List.length_take]
      have h7 : cur.toList.take (min n xs.length) = (cur.toList.take xs.length).take n := by rw [List.take_take]
      rw [h7, h6]
  · rw [if_neg hx] at e
    exact s.sat x k (by rw [PH.new_m, if_neg hx]; exact e)
theorem PH.sub_in {w0 : World} (h : PH) (b lim : Nat) (xs ys : List Value) (hb : h.m b = some ⟨xs, lim⟩) : PH.Sub w0 h ((h.del b).new b ⟨xs ++ ys, lim⟩) := by
  have e1 : (h.del b).new b ⟨xs ++ ys, lim⟩ = h.new b ⟨xs ++ ys, lim⟩ := by
    refine PH.eq_of (by simp only [PH.new_top, PH.del_top]) fun x => ?_
    simp only [PH.new_m, PH.del_m]
    by_cases hx : x = b <;> simp [hx]
  have e2 := PH.sub_cut (w0 := w0) h b lim xs.length (xs ++ ys)
  rw [List.take_left, PH.new_same hb] at e2
  rw [e1]
  exact e2
end
section
variable {P : Program} {w0 : World} {h : PH} {t e ty : TypeId} {z : Value} {sz by_ : Nat} {K : Value → PH → Prop}
theorem Own.ofRow {w : World} {base n : Nat} {v : Value} {xs : List Value} (ho : w.ownsRow base e sz v n xs) (hn : 0 < n) : ∃ b c, v = .slice (some ⟨b, 0, none⟩) n c ∧ n ≤ c ∧ c ≤ maxLen ∧ base ≤ b ∧ BSat w b ⟨xs, c * sz⟩ := by
  rcases ho.2 with ⟨_, h0⟩ | ⟨g, cap, cur, hv, hb, hg, hnc, hcm, hcs, ht⟩
  · omega
  · refine ⟨g, cap, hv, hnc, hcm, hb, cur, e, 0, 0, hg, by simp [hcs], .inl (Nat.le_refl _), ?_, by rw [ho.1]; exact ht⟩
    show xs.length ≤ cap * sz
    rw [ho.1]; exact Nat.mul_le_mul_right _ hnc
theorem Does_app2 {v : Value} {n m c : Nat} {xs ys : List Value} {A : Option Addr} (hE : El P t e z sz by_) (ho : Own h sz v n xs) (hs : Rs w0 h sz A m ys) (h1 : allOne ys) (hsz : n + m ≤ maxLen) (hb : (n + m) * by_ ≤ 140737488355328)
    (hk : ∀ v' h', Own h' sz v' (n + m) (xs ++ ys) → Stays h h' v v' → PH.Sub w0 h h' → K v' h') : Does P w0 h (Builtin.append_ #[t, t] ty #[v, .slice A m c]) K := by
  intro w s
  obtain ⟨i, hi, hz, hsi, hby⟩ := hE.info
  rcases Nat.eq_zero_or_pos m with h0 | h0
  · subst h0
    have hn : ys = [] := List.eq_nil_of_length_eq_zero (by simpa using hs.1)
    subst hn
    refine ⟨v, w, h, ?_, hk v h (by simpa using ho) ⟨Nat.le_refl _, fun _ _ e _ => e, fun _ e => .inl e⟩ (PH.Le.refl h).sub, s⟩
    rcases ho.2 with ⟨rfl, rfl⟩ | ⟨b, c', rfl, hnc, _⟩
    · cases A <;> simp [Builtin.append_, run_underlying hE.under, sizeOf, typeInfo, hi, Builtin.lenOf, Builtin.firstCells, loadCells, loadCellsFrom, Sem.run_pure]
    · cases A <;> simp [Builtin.append_, run_underlying hE.under, sizeOf, typeInfo, hi, Builtin.lenOf, Builtin.firstCells, loadCells, loadCellsFrom, Sem.run_pure, hnc, storeCells]
  · obtain ⟨a, rfl, hrd⟩ := hs.2 h0
    obtain ⟨hl, hc⟩ := zCw s hrd
    rcases ho.2 with ⟨rfl, rfl⟩ | ⟨b, cp, rfl, hnc, hcm, hbk⟩
    · have hxs : xs = [] := List.eq_nil_of_length_eq_zero (by simpa using ho.1)
      subst hxs
      obtain ⟨v', w', hr, ho', hg, _⟩ := run_append_own (P := P) w w.heap.size t ty e i z sz by_ hE.under hi hz hsi hby hE.zero hE.pos (.slice none 0 0) 0 [] (World.ownsRow_nil _ _ _ _) a m c ys hl hc h1 hsz hb (Nat.le_refl _)
      obtain ⟨b', c', rfl, g1, g2, g3, g4⟩ := Own.ofRow ho' (by omega)
      have hne : h.m b' = none := by
        cases hx : h.m b' with
        | none => rfl
        | some k => have := h.lt b' k hx; have := s.top; omega
      refine ⟨_, w', h.new b' ⟨[] ++ ys, c' * sz⟩, hr, hk _ _ ⟨by simp [hl], .inr ⟨b', c', rfl, g1, g2, by simp [PH.new_m]⟩⟩ ⟨by simp only [PH.new_top]; omega, fun x k e _ => ?_, fun x e => ?_⟩ ((PH.Le.refl h).new _ _ (Nat.le_trans s.top g3)).sub, ?_⟩
      · rw [PH.new_m, if_neg (by have := h.lt x k e; have := s.top; omega)]; exact e
      · injection e with e; right; rw [← e]; exact Nat.le_trans s.top g3
      · exact (s.step (row := none) hg (fun _ e => by cases e)).put (Nat.le_trans s.base g3) g4
    · obtain ⟨q1, cur, ct, lo, hi', q2, q3, q4, q5, q6⟩ := s.sat b _ hbk
      have hlx : xs.length = n * sz := ho.1
      simp only at q3 q4 q5 q6
      by_cases hroom : n + m ≤ cp
      · have hmul : n * sz + m * sz ≤ cp * sz := by rw [← Nat.add_mul]; exact Nat.mul_le_mul_right _ hroom
        have hrun := run_append_room_cells (P := P) w t ty e i hE.under hi b 0 n cp a m c ys (by rw [hsi, hl]) hc h1 hroom
          (fun j hj => by
            rw [hsi, cell_of_row w b _ cur ct _ q2, Array.getElem?_eq_getElem (by omega)]; rfl)
          (fun j hj => by
            simp [World.frozen?, q2, hsi]
            omega)
        have hh := zEl (w := w) (b := b) (t := ct) (fz := (lo, hi')) (cs := cur.toList) ys (n * sz) (by simpa using q2) (by simp; omega)
        have hlen : (xs ++ ys).length = (n + m) * sz := by rw [List.length_append, hlx, hl, Nat.add_mul]
        refine ⟨_, _, (h.del b).new b ⟨xs ++ ys, cp * sz⟩, hrun, hk _ _ ⟨hlen, .inr ⟨b, cp, rfl, hroom, hcm, by simp [PH.new_m]⟩⟩ ⟨by simp only [PH.new_top, PH.del_top]; omega, fun x k e hx => ?_, fun x e => .inl e⟩ (PH.sub_in h b _ xs ys hbk), ?_⟩
        · have hxb : x ≠ b := fun e' => hx (by rw [e']; rfl)
          rw [PH.new_m, if_neg hxb, PH.del_m, if_neg hxb]; exact e
        · refine ((s.del b).step (row := some b) (by simpa [hsi] using zEv b ys (0 + n * i.size) w) (fun x e => ?_)).put q1 ⟨_, ct, lo, hi', by simpa [hsi] using hh, ?_, q4, ?_, ?_⟩
          · injection e with e; subst e; exact ⟨q1, by simp [PH.del_m]⟩
          · simp; omega
          · simp only; rw [hlen, Nat.add_mul]; exact hmul
          · simp only
            have e1 : cur.toList.take (n * sz) = xs := by rw [← hlx]; exact q6
            have e2 := List.take_left (l₁ := cur.toList.take (n * sz) ++ ys) (l₂ := cur.toList.drop (n * sz + ys.length))
            rw [e1] at e2
            rw [List.toList_toArray, e1]
            simpa [List.append_assoc] using e2
      · obtain ⟨v', w', hr, ho', hg⟩ := run_append_arg_grows (P := P) w t ty e i z sz by_ hE.under hi hz hsi hby hE.zero hE.pos ⟨b, 0, none⟩ n cp xs hlx
          (fun j u hu => by
            rw [Addr.add_mid, Nat.zero_add, cell_of_row w b j cur ct _ q2]
            rw [← q6, List.getElem?_take] at hu
            split at hu
            · simpa using hu
            · cases hu) a m c ys hl hc (by omega) hsz hb
        obtain ⟨b', c', rfl, g1, g2, g3, g4⟩ := Own.ofRow ho' (by omega)
        refine ⟨_, w', h.new b' ⟨xs ++ ys, c' * sz⟩, hr, hk _ _ ⟨by rw [List.length_append, hlx, hl, Nat.add_mul], .inr ⟨b', c', rfl, g1, g2, by simp [PH.new_m]⟩⟩ ⟨by simp only [PH.new_top]; omega, fun x k e _ => ?_, fun x e => ?_⟩ ((PH.Le.refl h).new _ _ (Nat.le_trans s.top g3)).sub, ?_⟩
        · rw [PH.new_m, if_neg (by have := h.lt x k e; have := s.top; omega)]; exact e
        · injection e with e; right; rw [← e]; exact Nat.le_trans s.top g3
        · exact (s.step (row := none) hg (fun _ e => by cases e)).put (Nat.le_trans s.base g3) g4

theorem zBk {v : Value} {n m c : Nat} {xs ys : List Value} {A : Option Addr} (hE : El P t e z sz by_) (ho : Own h sz v n xs) (hs : Rs w0 h sz A m ys) (h1 : allOne ys) (hsz : n + m ≤ maxLen) (hb : (n + m) * by_ ≤ 140737488355328)
    (hk : ∀ v' h', Own h' sz v' (n + m) (xs ++ ys) → Stays h h' v v' → K v' h') : Does P w0 h (Builtin.append_ #[t, t] ty #[v, .slice A m c]) K :=
  Does_app2 hE ho hs h1 hsz hb fun v' h' a b _ => hk v' h' a b

theorem fold_set : ∀ (l : List Value) (o : Nat) (cs : Array Value), o + l.length = cs.size → (l.zipIdx o).foldl (fun (cs : Array Value) (x : Value × Nat) => cs.setIfInBounds (0 + x.2) x.1) cs = (cs.toList.take o ++ l).toArray
  | [], o, cs, ho => by
    apply Array.ext'
    simp at ho
    simp [List.take_of_length_le, ← ho]
  | v :: l, o, cs, ho => by
    simp only [List.zipIdx_cons, List.foldl_cons, Nat.zero_add]
    have ih := fold_set l (o + 1) (cs.setIfInBounds o v) (by simp at ho ⊢; omega)
    simp only [Nat.zero_add] at ih
    rw [ih]
    apply Array.ext'
    have hlt : o < cs.toList.length := by simp at ho ⊢; omega
    simp only [Array.toList_setIfInBounds, List.toList_toArray]
    rw [List.take_add_one, List.getElem?_set_self hlt, List.take_set_of_le (Nat.le_refl _)]
    simp
theorem zBz {v : Value} (hE : El P t e z sz by_) (hv : v.cells.size = sz) (hs : sz ≤ 16777216) (hk : ∀ b, h.top ≤ b → K (.slice (some ⟨b, 0, none⟩) 1 1) (h.new b ⟨v.cells.toList, sz⟩)) : Does P w0 h (Instr.buildSlice t 1 #[(0, v)]) K := by
  intro w s
  obtain ⟨i, hi, hz, hsi, hby⟩ := hE.info
  have hpos := hE.pos
  have key : ∀ (cs : Array Value) (vs : Array Value), cs.size = vs.size → vs.zipIdx.foldl (fun cs (c, j) => cs.setIfInBounds (0 + j) c) cs = vs := by
    intro cs vs hcv
    have := fold_set vs.toList 0 cs (by simp [hcv])
    rw [← Array.foldl_toList]
    simpa using this
  have hf : Instr.fill (fun i => some (i * sz, sz)) ((Array.range (1 * sz)).map (z.cells[· % z.cells.size]!)) [(0, v)] = some v.cells := by
    simp only [Instr.fill, Nat.zero_mul]
    rw [if_neg (by simp [hv])]
    rw [key _ _ (by simp [hv])]
  have hr := run_buildSlice w t e 1 #[(0, v)] v.cells i z hE.under hi hz (by rw [hsi]; omega) (by rw [hsi]; omega) (by rw [hsi]; exact hf)
  refine ⟨_, _, _, hr, hk w.heap.size s.top, ?_⟩
  have := s.alloc e v.cells.toList
  simpa [hv] using this
theorem Does_cells {vs : List Value} {n : Nat} {parts : Array (Nat × Value)} (hE : El P t e z 1 by_) (hn : vs.length = n) (hpos : 0 < n) (hs : n ≤ 16777216) (hf : Instr.fill (fun i => some (i * 1, 1)) ((Array.range (n * 1)).map (z.cells[· % z.cells.size]!)) parts.toList = some vs.toArray)
    (hk : ∀ b, h.top ≤ b → K (.slice (some ⟨b, 0, none⟩) n n) (h.new b ⟨vs, n⟩)) : Does P w0 h (Instr.buildSlice t n parts) K := by
  intro w s
  obtain ⟨i, hi, hz, hsi, hby⟩ := hE.info
  have hr := run_buildSlice w t e n parts vs.toArray i z hE.under hi hz (by rw [hsi]; omega) (by rw [hsi]; omega) (by rw [hsi]; exact hf)
  refine ⟨_, _, _, hr, hk w.heap.size s.top, ?_⟩
  have := s.alloc e vs
  rwa [hn] at this
theorem Does_zero (hE : El P t e z sz by_) (hk : ∀ b, h.top ≤ b → K (.slice (some ⟨b, 0, none⟩) 0 0) (h.new b ⟨[], 0⟩)) : Does P w0 h (Instr.buildSlice t 0 #[]) K := by
  intro w s
  obtain ⟨i, hi, hz, hsi, hby⟩ := hE.info
  have hr : (Instr.buildSlice t 0 #[]).run P w = .ok (.slice (some ⟨w.heap.size, 0, none⟩) 0 0) (w.alloc (.cells #[] e)) := by
    simp [Instr.buildSlice, run_underlying hE.under, sizeOf, typeInfo, hi, Instr.fill, newRow, show Array.range 0 = #[] from rfl]
  exact ⟨_, _, _, hr, hk w.heap.size s.top, s.alloc e []⟩
theorem OwnS.zero {h : PH} {b : Nat} (sz : Nat) (hb : h.top ≤ b) : OwnS h (h.new b ⟨[], 0⟩) sz (.slice (some ⟨b, 0, none⟩) 0 0) 0 [] :=
  ⟨(PH.Le.refl h).new _ _ hb, ⟨by simp, .inr ⟨b, 0, rfl, Nat.le_refl _, by simp [maxLen], by rw [PH.new_m, if_pos rfl]; simp⟩⟩, fun x e => by cases e; exact hb⟩
theorem Does_make {n c : Nat} (hE : El P t e z sz by_) (hn : n ≤ c) (hc : c ≤ maxLen) (hb : by_ * c ≤ 281474976710656) {kl kc : IntKind}
    (hk : ∀ b, h.top ≤ b → K (.slice (some ⟨b, 0, none⟩) n c) (h.new b ⟨(madeCells z.cells (c * sz)).toList, c * sz⟩)) : Does P w0 h (Instr.makeSlice t (.int kl n) (.int kc c)) K := by
  intro w s
  obtain ⟨i, hi, hz, hsi, hby⟩ := hE.info
  have hcm : c ≤ 9223372036854775807 := by simp only [maxLen] at hc; omega
  have hb9 : (i.bytes : Int) * c ≤ 281474976710656 := by
    rw [hby]
    have h9 : ((by_ * c : Nat) : Int) ≤ 281474976710656 := by omega
    rwa [Int.natCast_mul] at h9
  have hr := run_make (P := P) w t e i z hE.under hi hz kl kc n c (by omega) (by omega) hb9 (by omega)
  simp only [Int.toNat_natCast, hsi] at hr
  refine ⟨_, _, _, hr, hk w.heap.size s.top, ?_⟩
  have := s.alloc e (madeCells z.cells (c * sz)).toList
  simpa [size_madeCells] using this
theorem zBx {s d : TypeId} {A : Option Addr} {n c : Nat} {l : List UInt8} {k : Value → Prop} (hs : P.underlying s = some (.slice e)) (he : P.underlying e = some (.int .u8)) (hd : P.underlying d = some .string) (hr : Rs w0 h 1 A n (bs l)) (hA : A = none → n = 0)
    (hk : k (str l)) : vtext P w0 h s d (.slice A n c) k := by
  refine ⟨e, hs, he, hd, ?_⟩
  have hn : l.length = n := by have := hr.1; simpa [bs] using this
  cases A with
  | none =>
    have h0 := hA rfl
    have : l = [] := List.eq_nil_of_length_eq_zero (by omega)
    subst this
    exact hk
  | some a =>
    rcases Nat.eq_zero_or_pos n with h0 | h0
    · have : l = [] := List.eq_nil_of_length_eq_zero (by omega)
      subst this
      subst h0
      exact ⟨[], rfl, fun e => absurd e (by omega), hk⟩
    · obtain ⟨a', ha, hrd⟩ := hr.2 h0
      injection ha with ha
      subst ha
      exact ⟨l, hn, fun _ => by rw [Nat.mul_one] at hrd; exact hrd, hk⟩
end
end Go.Proofs.Ytblikpbaeippaaa.Px


namespace Go.Proofs.Ytblikpbaeippaaa.Px
set_option linter.unusedVariables false
set_option linter.unusedSimpArgs false
open Go.RowKit
section
variable {P : Program} {t : TypeId} {x y : Operand} {K : Value → Prop}
theorem y_quo8 (a b : UInt8) (hb : 0 < b.toNat) : Yld P (binS .quo t x y (u8 a) (u8 b)) K = K (u8 (a / b)) := zAc fun w => by
  unfold u8; rw [zAq]
  have h1 : (a.toNat : Int).tdiv (b.toNat : Int) = ((a.toNat / b.toNat : Nat) : Int) := by rw [Int.tdiv_eq_ediv_of_nonneg (by omega)]; rfl
  have h2 : a.toNat / b.toNat ≤ a.toNat := Nat.div_le_self _ _
  have h3 := a.toNat_lt
  have h7 : a.toNat / b.toNat < 256 := Nat.lt_of_le_of_lt h2 h3
  have h4 : ((a.toNat / b.toNat : Nat) : Int) % 256 = ((a.toNat / b.toNat : Nat) : Int) := by
    generalize a.toNat / b.toNat = q at h7
    omega
  have h5 : ¬ (b.toNat : Int) = 0 := by omega
  simp only [binOp, Op.intDiv, h1, h5, Sem.run_pure, zBe, h4, if_false, ne_eq, not_true_eq_false, UInt8.toNat_div]
theorem y_rem8 (a b : UInt8) (hb : 0 < b.toNat) : Yld P (binS .rem t x y (u8 a) (u8 b)) K = K (u8 (a % b)) := zAc fun w => by
  unfold u8; rw [zAq]
  have h1 : (a.toNat : Int).tmod (b.toNat : Int) = ((a.toNat % b.toNat : Nat) : Int) := by rw [Int.tmod_eq_emod_of_nonneg (by omega)]; rfl
  have h2 : a.toNat % b.toNat ≤ a.toNat := Nat.mod_le _ _
  have h3 := a.toNat_lt
  have h7 : a.toNat % b.toNat < 256 := Nat.lt_of_le_of_lt h2 h3
  have h4 : ((a.toNat % b.toNat : Nat) : Int) % 256 = ((a.toNat % b.toNat : Nat) : Int) := by
    generalize a.toNat % b.toNat = q at h7
    omega
  have h5 : ¬ (b.toNat : Int) = 0 := by omega
  simp only [binOp, Op.intDiv, h1, h5, Sem.run_pure, zBe, h4, if_false, ne_eq, not_true_eq_false, UInt8.toNat_mod]
theorem y_shl8 (a : UInt8) (n : UInt64) (h1 : n.toNat < 8) : Yld P (binS .shl t x y (u8 a) (u64 n)) K = K (u8 (a <<< UInt8.ofNat n.toNat)) := zAc fun w => by
  unfold u8 u64; rw [zA2 (.inl rfl)]
  simp only [binOp]
  rw [shift_shl .u8 .u64 _ _ (by omega) (by simp [IntKind.bits]; omega), Sem.run_pure, zBe]
  congr 3
  rw [UInt8.toNat_shiftLeft, UInt8.toNat_ofNat', Int.toNat_natCast, Nat.shiftLeft_eq]
  rw [Nat.mod_eq_of_lt (show n.toNat % 2 ^ 8 < 8 by omega), Nat.mod_eq_of_lt (show n.toNat < 2 ^ 8 by omega)]
  rw [Int.natCast_emod, Int.natCast_mul, Int.natCast_pow]; rfl
theorem y_shl8_8 (a : UInt8) (n : UInt8) (h1 : n.toNat < 8) : Yld P (binS .shl t x y (u8 a) (u8 n)) K = K (u8 (a <<< UInt8.ofNat n.toNat)) := zAc fun w => by
  unfold u8; rw [zA2 (.inl rfl)]
  simp only [binOp]
  rw [shift_shl .u8 .u8 _ _ (by omega) (by simp [IntKind.bits]; omega), Sem.run_pure, zBe]
  congr 3
  rw [UInt8.toNat_shiftLeft, UInt8.toNat_ofNat', Int.toNat_natCast, Nat.shiftLeft_eq]
  rw [Nat.mod_eq_of_lt (show n.toNat % 2 ^ 8 < 8 by omega), Nat.mod_eq_of_lt (show n.toNat < 2 ^ 8 by omega)]
  rw [Int.natCast_emod, Int.natCast_mul, Int.natCast_pow]; rfl
theorem y_shr8_8 (a : UInt8) (n : UInt8) (h1 : n.toNat < 8) : Yld P (binS .shr t x y (u8 a) (u8 n)) K = K (u8 (a >>> UInt8.ofNat n.toNat)) := zAc fun w => by
  unfold u8; rw [zA2 (.inr rfl)]
  simp only [binOp]
  rw [shift_shr .u8 .u8 _ _ (by omega) (by simp [IntKind.bits]; omega), Sem.run_pure]
  congr 3
  rw [UInt8.toNat_shiftRight, UInt8.toNat_ofNat', Int.toNat_natCast, Nat.shiftRight_eq_div_pow]
  rw [Nat.mod_eq_of_lt (show n.toNat % 2 ^ 8 < 8 by omega), Nat.mod_eq_of_lt (show n.toNat < 2 ^ 8 by omega)]
  push_cast; rfl
theorem y_shl8_32 (a : UInt8) (n : UInt32) (h1 : n.toNat < 8) : Yld P (binS .shl t x y (u8 a) (u32 n)) K = K (u8 (a <<< UInt8.ofNat n.toNat)) := zAc fun w => by
  unfold u8 u32; rw [zA2 (.inl rfl)]
  simp only [binOp]
  rw [shift_shl .u8 .u32 _ _ (by omega) (by simp [IntKind.bits]; omega), Sem.run_pure, zBe]
  congr 3
  rw [UInt8.toNat_shiftLeft, UInt8.toNat_ofNat', Int.toNat_natCast, Nat.shiftLeft_eq]
  rw [Nat.mod_eq_of_lt (show n.toNat % 2 ^ 8 < 8 by omega), Nat.mod_eq_of_lt (show n.toNat < 2 ^ 8 by omega)]
  rw [Int.natCast_emod, Int.natCast_mul, Int.natCast_pow]; rfl
theorem y_shr8_32 (a : UInt8) (n : UInt32) (h1 : n.toNat < 8) : Yld P (binS .shr t x y (u8 a) (u32 n)) K = K (u8 (a >>> UInt8.ofNat n.toNat)) := zAc fun w => by
  unfold u8 u32; rw [zA2 (.inr rfl)]
  simp only [binOp]
  rw [shift_shr .u8 .u32 _ _ (by omega) (by simp [IntKind.bits]; omega), Sem.run_pure]
  congr 3
  rw [UInt8.toNat_shiftRight, UInt8.toNat_ofNat', Int.toNat_natCast, Nat.shiftRight_eq_div_pow]
  rw [Nat.mod_eq_of_lt (show n.toNat % 2 ^ 8 < 8 by omega), Nat.mod_eq_of_lt (show n.toNat < 2 ^ 8 by omega)]
  push_cast; rfl
theorem y_shl8i (a : UInt8) (n : Int) (h0 : 0 ≤ n) (h1 : n < 8) : Yld P (binS .shl t x y (u8 a) (.int .i64 n)) K = K (u8 (a <<< UInt8.ofNat n.toNat)) := zAc fun w => by
  unfold u8; rw [zA2 (.inl rfl)]
  simp only [binOp]
  rw [shift_shl .u8 .i64 _ _ (by omega) (by simp [IntKind.bits]; omega), Sem.run_pure, zBe]
  congr 3
  rw [UInt8.toNat_shiftLeft, UInt8.toNat_ofNat', Nat.shiftLeft_eq]
  rw [Nat.mod_eq_of_lt (show n.toNat % 2 ^ 8 < 8 by omega), Nat.mod_eq_of_lt (show n.toNat < 2 ^ 8 by omega)]
  rw [Int.natCast_emod, Int.natCast_mul, Int.natCast_pow]; rfl
theorem y_shr8i (a : UInt8) (n : Int) (h0 : 0 ≤ n) (h1 : n < 8) : Yld P (binS .shr t x y (u8 a) (.int .i64 n)) K = K (u8 (a >>> UInt8.ofNat n.toNat)) := zAc fun w => by
  unfold u8; rw [zA2 (.inr rfl)]
  simp only [binOp]
  rw [shift_shr .u8 .i64 _ _ (by omega) (by simp [IntKind.bits]; omega), Sem.run_pure]
  congr 3
  rw [UInt8.toNat_shiftRight, UInt8.toNat_ofNat', Nat.shiftRight_eq_div_pow]
  rw [Nat.mod_eq_of_lt (show n.toNat % 2 ^ 8 < 8 by omega), Nat.mod_eq_of_lt (show n.toNat < 2 ^ 8 by omega)]
  push_cast; rfl
theorem y_neg8 (a : UInt8) : Yld P (Op.unary .neg (u8 a)) K = K (u8 (0 - a)) := zAc fun w => by
  unfold u8
  have h0 := a.toNat_lt
  have h1 : IntKind.u8.wrap (0 - (a.toNat : Int)) = ((0 - a).toNat : Int) := by
    rw [zBe, UInt8.toNat_sub]; simp; omega
  exact congrArg (fun z => Result.ok (Value.int .u8 z) w) h1
theorem y_com8 (a : UInt8) : Yld P (Op.unary .xor (u8 a)) K = K (u8 (~~~a)) := zAc fun w => by
  unfold u8; simp only [Op.unary, Op.intBits, ofInt8]
  have h1 : BitVec.ofInt IntKind.u8.bits (if IntKind.u8.signed = true then -1 else IntKind.u8.max) = BitVec.allOnes 8 := by
    show BitVec.ofInt 8 255 = BitVec.allOnes 8
    rfl
  rw [h1]
  have h2 : (BitVec.allOnes 8 ^^^ a.toBitVec) = (~~~a).toBitVec := by
    apply BitVec.eq_of_getLsbD_eq; intro i hi
    simp only [BitVec.getLsbD_xor, BitVec.getLsbD_allOnes, UInt8.toBitVec_not, BitVec.getLsbD_not, hi, decide_true, Bool.true_xor, Bool.true_and]
  exact congrArg (fun z => Result.ok (Value.int .u8 z) w) ((congrArg (fun z : BitVec 8 => IntKind.u8.wrap (z.toNat : Int)) h2).trans (back8 (~~~a)))
theorem y_c_8_8 (s : TypeId) (c : UInt8) (hs : (P.underlying s).isSome = true) (hd : P.underlying t = some (.int .u8)) : Yld P (convert s t (u8 c)) K = K (u8 c) := by
  unfold u8; rw [zA4 hs hd, zBe]; congr 2 <;> (have := c.toNat_lt; first | rfl | omega | (simp; done) | (simp; omega))
theorem y_c_8_16 (s : TypeId) (c : UInt8) (hs : (P.underlying s).isSome = true) (hd : P.underlying t = some (.int .u16)) : Yld P (convert s t (u8 c)) K = K (u16 c.toUInt16) := by
  unfold u8 u16; rw [zA4 hs hd, zBd]; congr 2 <;> (have := c.toNat_lt; first | rfl | omega | (simp; done) | (simp; omega))
theorem ofInt16 (a : UInt16) : BitVec.ofInt IntKind.u16.bits (a.toNat : Int) = a.toBitVec := by
  show BitVec.ofInt 16 (a.toNat : Int) = a.toBitVec
  rw [BitVec.ofInt_natCast]; apply BitVec.eq_of_toNat_eq; simp
theorem back16 (r : UInt16) : IntKind.u16.wrap (r.toBitVec.toNat : Int) = r.toNat := by
  rw [zBd]; have := r.toNat_lt; show ((r.toNat : Int) % 65536) = _; omega
theorem y_add16 (a b : UInt16) : Yld P (binS .add t x y (u16 a) (u16 b)) K = K (u16 (a + b)) := zAc fun w => by
  unfold u16; rw [zAq]; simp [binOp, Op.intArith, Sem.run_pure, zBd]
theorem y_mul16 (a b : UInt16) : Yld P (binS .mul t x y (u16 a) (u16 b)) K = K (u16 (a * b)) := zAc fun w => by
  unfold u16; rw [zAq]; simp [binOp, Op.intArith, Sem.run_pure, zBd]
theorem y_sub16 (a b : UInt16) : Yld P (binS .sub t x y (u16 a) (u16 b)) K = K (u16 (a - b)) := zAc fun w => by
  unfold u16; rw [zAq]; simp [binOp, Op.intArith, Sem.run_pure, zBd]
  have := a.toNat_lt; have := b.toNat_lt; rw [UInt16.toNat_sub]; omega
theorem y_eql16 (a b : UInt16) : Yld P (binS .eql t x y (u16 a) (u16 b)) K = K (.bool (decide (a = b))) := zAc fun w => by
  unfold u16; rw [zAq]; simp only [binOp, Op.intCmp, Sem.run_pure]; simp only [ne_eq, not_true_eq_false, if_false, Sem.run_pure, zB5 UInt16.toNat_inj]
theorem y_neq16 (a b : UInt16) : Yld P (binS .neq t x y (u16 a) (u16 b)) K = K (.bool (decide (a ≠ b))) := zAc fun w => by
  unfold u16; rw [zAq]; simp only [binOp, Op.intCmp, Sem.run_pure]; simp only [ne_eq, not_true_eq_false, if_false, Sem.run_pure, bne, zB5 UInt16.toNat_inj, decide_not]
theorem y_lss16 (a b : UInt16) : Yld P (binS .lss t x y (u16 a) (u16 b)) K = K (.bool (decide (a < b))) := zAc fun w => by
  unfold u16; rw [zAq]; simp [binOp, Op.intCmp, Sem.run_pure, UInt16.lt_iff_toNat_lt]
theorem y_leq16 (a b : UInt16) : Yld P (binS .leq t x y (u16 a) (u16 b)) K = K (.bool (decide (a ≤ b))) := zAc fun w => by
  unfold u16; rw [zAq]; simp [binOp, Op.intCmp, Sem.run_pure, UInt16.le_iff_toNat_le]
theorem y_gtr16 (a b : UInt16) : Yld P (binS .gtr t x y (u16 a) (u16 b)) K = K (.bool (decide (b < a))) := zAc fun w => by
  unfold u16; rw [zAq]; simp [binOp, Op.intCmp, Sem.run_pure, UInt16.lt_iff_toNat_lt]
theorem y_geq16 (a b : UInt16) : Yld P (binS .geq t x y (u16 a) (u16 b)) K = K (.bool (decide (b ≤ a))) := zAc fun w => by
  unfold u16; rw [zAq]; simp [binOp, Op.intCmp, Sem.run_pure, UInt16.le_iff_toNat_le]
theorem y_and16 (a b : UInt16) : Yld P (binS .and t x y (u16 a) (u16 b)) K = K (u16 (a &&& b)) := zAc fun w => by
  unfold u16; rw [zAq]; simp only [binOp, Op.intBits, ofInt16, ne_eq, not_true_eq_false, if_false]; exact congrArg (fun z => Result.ok (Value.int .u16 z) w) (back16 (a &&& b))
theorem y_or16 (a b : UInt16) : Yld P (binS .or t x y (u16 a) (u16 b)) K = K (u16 (a ||| b)) := zAc fun w => by
  unfold u16; rw [zAq]; simp only [binOp, Op.intBits, ofInt16, ne_eq, not_true_eq_false, if_false]; exact congrArg (fun z => Result.ok (Value.int .u16 z) w) (back16 (a ||| b))
theorem y_xor16 (a b : UInt16) : Yld P (binS .xor t x y (u16 a) (u16 b)) K = K (u16 (a ^^^ b)) := zAc fun w => by
  unfold u16; rw [zAq]; simp only [binOp, Op.intBits, ofInt16, ne_eq, not_true_eq_false, if_false]; exact congrArg (fun z => Result.ok (Value.int .u16 z) w) (back16 (a ^^^ b))
theorem y_quo16 (a b : UInt16) (hb : 0 < b.toNat) : Yld P (binS .quo t x y (u16 a) (u16 b)) K = K (u16 (a / b)) := zAc fun w => by
  unfold u16; rw [zAq]
  have h1 : (a.toNat : Int).tdiv (b.toNat : Int) = ((a.toNat / b.toNat : Nat) : Int) := by rw [Int.tdiv_eq_ediv_of_nonneg (by omega)]; rfl
  have h2 : a.toNat / b.toNat ≤ a.toNat := Nat.div_le_self _ _
  have h3 := a.toNat_lt
  have h7 : a.toNat / b.toNat < 65536 := Nat.lt_of_le_of_lt h2 h3
  have h4 : ((a.toNat / b.toNat : Nat) : Int) % 65536 = ((a.toNat / b.toNat : Nat) : Int) := by
    generalize a.toNat / b.toNat = q at h7
    omega
  have h5 : ¬ (b.toNat : Int) = 0 := by omega
  simp only [binOp, Op.intDiv, h1, h5, Sem.run_pure, zBd, h4, if_false, ne_eq, not_true_eq_false, UInt16.toNat_div]
theorem y_rem16 (a b : UInt16) (hb : 0 < b.toNat) : Yld P (binS .rem t x y (u16 a) (u16 b)) K = K (u16 (a % b)) := zAc fun w => by
  unfold u16; rw [zAq]
  have h1 : (a.toNat : Int).tmod (b.toNat : Int) = ((a.toNat % b.toNat : Nat) : Int) := by rw [Int.tmod_eq_emod_of_nonneg (by omega)]; rfl
  have h2 : a.toNat % b.toNat ≤ a.toNat := Nat.mod_le _ _
  have h3 := a.toNat_lt
  have h7 : a.toNat % b.toNat < 65536 := Nat.lt_of_le_of_lt h2 h3
  have h4 : ((a.toNat % b.toNat : Nat) : Int) % 65536 = ((a.toNat % b.toNat : Nat) : Int) := by
    generalize a.toNat % b.toNat = q at h7
    omega
  have h5 : ¬ (b.toNat : Int) = 0 := by omega
  simp only [binOp, Op.intDiv, h1, h5, Sem.run_pure, zBd, h4, if_false, ne_eq, not_true_eq_false, UInt16.toNat_mod]
theorem y_shl16 (a : UInt16) (n : UInt64) (h1 : n.toNat < 16) : Yld P (binS .shl t x y (u16 a) (u64 n)) K = K (u16 (a <<< UInt16.ofNat n.toNat)) := zAc fun w => by
  unfold u16 u64; rw [zA2 (.inl rfl)]
  simp only [binOp]
  rw [shift_shl .u16 .u64 _ _ (by omega) (by simp [IntKind.bits]; omega), Sem.run_pure, zBd]
  congr 3
  rw [UInt16.toNat_shiftLeft, UInt16.toNat_ofNat', Int.toNat_natCast, Nat.shiftLeft_eq]
  rw [Nat.mod_eq_of_lt (show n.toNat % 2 ^ 16 < 16 by omega), Nat.mod_eq_of_lt (show n.toNat < 2 ^ 16 by omega)]
  rw [Int.natCast_emod, Int.natCast_mul, Int.natCast_pow]; rfl
theorem y_shr16 (a : UInt16) (n : UInt64) (h1 : n.toNat < 16) : Yld P (binS .shr t x y (u16 a) (u64 n)) K = K (u16 (a >>> UInt16.ofNat n.toNat)) := zAc fun w => by
  unfold u16 u64; rw [zA2 (.inr rfl)]
  simp only [binOp]
  rw [shift_shr .u16 .u64 _ _ (by omega) (by simp [IntKind.bits]; omega), Sem.run_pure]
  congr 3
  rw [UInt16.toNat_shiftRight, UInt16.toNat_ofNat', Int.toNat_natCast, Nat.shiftRight_eq_div_pow]
  rw [Nat.mod_eq_of_lt (show n.toNat % 2 ^ 16 < 16 by omega), Nat.mod_eq_of_lt (show n.toNat < 2 ^ 16 by omega)]
  push_cast; rfl
theorem y_shl16_8 (a : UInt16) (n : UInt8) (h1 : n.toNat < 16) : Yld P (binS .shl t x y (u16 a) (u8 n)) K = K (u16 (a <<< UInt16.ofNat n.toNat)) := zAc fun w => by
  unfold u16 u8; rw [zA2 (.inl rfl)]
  simp only [binOp]
  rw [shift_shl .u16 .u8 _ _ (by omega) (by simp [IntKind.bits]; omega), Sem.run_pure, zBd]
  congr 3
  rw [UInt16.toNat_shiftLeft, UInt16.toNat_ofNat', Int.toNat_natCast, Nat.shiftLeft_eq]
  rw [Nat.mod_eq_of_lt (show n.toNat % 2 ^ 16 < 16 by omega), Nat.mod_eq_of_lt (show n.toNat < 2 ^ 16 by omega)]
  rw [Int.natCast_emod, Int.natCast_mul, Int.natCast_pow]; rfl
theorem y_shr16_8 (a : UInt16) (n : UInt8) (h1 : n.toNat < 16) : Yld P (binS .shr t x y (u16 a) (u8 n)) K = K (u16 (a >>> UInt16.ofNat n.toNat)) := zAc fun w => by
  unfold u16 u8; rw [zA2 (.inr rfl)]
  simp only [binOp]
  rw [shift_shr .u16 .u8 _ _ (by omega) (by simp [IntKind.bits]; omega), Sem.run_pure]
  congr 3
  rw [UInt16.toNat_shiftRight, UInt16.toNat_ofNat', Int.toNat_natCast, Nat.shiftRight_eq_div_pow]
  rw [Nat.mod_eq_of_lt (show n.toNat % 2 ^ 16 < 16 by omega), Nat.mod_eq_of_lt (show n.toNat < 2 ^ 16 by omega)]
  push_cast; rfl
theorem zGy (a : UInt16) (n : UInt32) (h1 : n.toNat < 16) : Yld P (binS .shl t x y (u16 a) (u32 n)) K = K (u16 (a <<< UInt16.ofNat n.toNat)) := zAc fun w => by
  unfold u16 u32; rw [zA2 (.inl rfl)]
  simp only [binOp]
  rw [shift_shl .u16 .u32 _ _ (by omega) (by simp [IntKind.bits]; omega), Sem.run_pure, zBd]
  congr 3
  rw [UInt16.toNat_shiftLeft, UInt16.toNat_ofNat', Int.toNat_natCast, Nat.shiftLeft_eq]
  rw [Nat.mod_eq_of_lt (show n.toNat % 2 ^ 16 < 16 by omega), Nat.mod_eq_of_lt (show n.toNat < 2 ^ 16 by omega)]
  rw [Int.natCast_emod, Int.natCast_mul, Int.natCast_pow]; rfl
theorem zHe (a : UInt16) (n : UInt32) (h1 : n.toNat < 16) : Yld P (binS .shr t x y (u16 a) (u32 n)) K = K (u16 (a >>> UInt16.ofNat n.toNat)) := zAc fun w => by
  unfold u16 u32; rw [zA2 (.inr rfl)]
  simp only [binOp]
  rw [shift_shr .u16 .u32 _ _ (by omega) (by simp [IntKind.bits]; omega), Sem.run_pure]
  congr 3
  rw [UInt16.toNat_shiftRight, UInt16.toNat_ofNat', Int.toNat_natCast, Nat.shiftRight_eq_div_pow]
  rw [Nat.mod_eq_of_lt (show n.toNat % 2 ^ 16 < 16 by omega), Nat.mod_eq_of_lt (show n.toNat < 2 ^ 16 by omega)]
  push_cast; rfl
theorem y_shl16i (a : UInt16) (n : Int) (h0 : 0 ≤ n) (h1 : n < 16) : Yld P (binS .shl t x y (u16 a) (.int .i64 n)) K = K (u16 (a <<< UInt16.ofNat n.toNat)) := zAc fun w => by
  unfold u16; rw [zA2 (.inl rfl)]
  simp only [binOp]
  rw [shift_shl .u16 .i64 _ _ (by omega) (by simp [IntKind.bits]; omega), Sem.run_pure, zBd]
  congr 3
  rw [UInt16.toNat_shiftLeft, UInt16.toNat_ofNat', Nat.shiftLeft_eq]
  rw [Nat.mod_eq_of_lt (show n.toNat % 2 ^ 16 < 16 by omega), Nat.mod_eq_of_lt (show n.toNat < 2 ^ 16 by omega)]
  rw [Int.natCast_emod, Int.natCast_mul, Int.natCast_pow]; rfl
theorem y_shr16i (a : UInt16) (n : Int) (h0 : 0 ≤ n) (h1 : n < 16) : Yld P (binS .shr t x y (u16 a) (.int .i64 n)) K = K (u16 (a >>> UInt16.ofNat n.toNat)) := zAc fun w => by
  unfold u16; rw [zA2 (.inr rfl)]
  simp only [binOp]
  rw [shift_shr .u16 .i64 _ _ (by omega) (by simp [IntKind.bits]; omega), Sem.run_pure]
  congr 3
  rw [UInt16.toNat_shiftRight, UInt16.toNat_ofNat', Nat.shiftRight_eq_div_pow]
  rw [Nat.mod_eq_of_lt (show n.toNat % 2 ^ 16 < 16 by omega), Nat.mod_eq_of_lt (show n.toNat < 2 ^ 16 by omega)]
  push_cast; rfl
theorem y_neg16 (a : UInt16) : Yld P (Op.unary .neg (u16 a)) K = K (u16 (0 - a)) := zAc fun w => by
  unfold u16
  have h0 := a.toNat_lt
  have h1 : IntKind.u16.wrap (0 - (a.toNat : Int)) = ((0 - a).toNat : Int) := by
    rw [zBd, UInt16.toNat_sub]; simp; omega
  exact congrArg (fun z => Result.ok (Value.int .u16 z) w) h1
theorem y_com16 (a : UInt16) : Yld P (Op.unary .xor (u16 a)) K = K (u16 (~~~a)) := zAc fun w => by
  unfold u16; simp only [Op.unary, Op.intBits, ofInt16]
  have h1 : BitVec.ofInt IntKind.u16.bits (if IntKind.u16.signed = true then -1 else IntKind.u16.max) = BitVec.allOnes 16 := by
    show BitVec.ofInt 16 65535 = BitVec.allOnes 16
    rfl
  rw [h1]
  have h2 : (BitVec.allOnes 16 ^^^ a.toBitVec) = (~~~a).toBitVec := by
    apply BitVec.eq_of_getLsbD_eq; intro i hi
    simp only [BitVec.getLsbD_xor, BitVec.getLsbD_allOnes, UInt16.toBitVec_not, BitVec.getLsbD_not, hi, decide_true, Bool.true_xor, Bool.true_and]
  exact congrArg (fun z => Result.ok (Value.int .u16 z) w) ((congrArg (fun z : BitVec 16 => IntKind.u16.wrap (z.toNat : Int)) h2).trans (back16 (~~~a)))
theorem y_c_16_8 (s : TypeId) (c : UInt16) (hs : (P.underlying s).isSome = true) (hd : P.underlying t = some (.int .u8)) : Yld P (convert s t (u16 c)) K = K (u8 c.toUInt8) := by
  unfold u16 u8; rw [zA4 hs hd, zBe]; congr 2 <;> (have := c.toNat_lt; first | rfl | omega | (simp; done) | (simp; omega))
theorem y_c_16_16 (s : TypeId) (c : UInt16) (hs : (P.underlying s).isSome = true) (hd : P.underlying t = some (.int .u16)) : Yld P (convert s t (u16 c)) K = K (u16 c) := by
  unfold u16; rw [zA4 hs hd, zBd]; congr 2 <;> (have := c.toNat_lt; first | rfl | omega | (simp; done) | (simp; omega))
theorem y_c_16_32 (s : TypeId) (c : UInt16) (hs : (P.underlying s).isSome = true) (hd : P.underlying t = some (.int .u32)) : Yld P (convert s t (u16 c)) K = K (u32 c.toUInt32) := by
  unfold u16 u32; rw [zA4 hs hd, zBf]; congr 2 <;> (have := c.toNat_lt; first | rfl | omega | (simp; done) | (simp; omega))
theorem y_c_16_64 (s : TypeId) (c : UInt16) (hs : (P.underlying s).isSome = true) (hd : P.underlying t = some (.int .u64)) : Yld P (convert s t (u16 c)) K = K (u64 c.toUInt64) := by
  unfold u16 u64; rw [zA4 hs hd, zBb]; congr 2 <;> (have := c.toNat_lt; first | rfl | omega | (simp; done) | (simp; omega))
theorem y_c_16i (s : TypeId) (c : UInt16) (hs : (P.underlying s).isSome = true) (hd : P.underlying t = some (.int .i64)) : Yld P (convert s t (u16 c)) K = K (.int .i64 c.toNat) := by
  unfold u16; rw [zA4 hs hd, zCd _ (by omega) (by have := c.toNat_lt; omega)]
theorem y_c_i_16 (s : TypeId) (n : Int) (hs : (P.underlying s).isSome = true) (hd : P.underlying t = some (.int .u16)) : Yld P (convert s t (.int .i64 n)) K = K (u16 (UInt16.ofInt n)) := by
  unfold u16; rw [zA4 hs hd, zBd]; congr 2
  have h1 : (n % 65536).toNat < 65536 := by omega
  simp [UInt16.ofInt, Nat.mod_eq_of_lt h1]
  omega
theorem y_lss32 (a b : UInt32) : Yld P (binS .lss t x y (u32 a) (u32 b)) K = K (.bool (decide (a < b))) := zAc fun w => by
  unfold u32; rw [zAq]; simp [binOp, Op.intCmp, Sem.run_pure, UInt32.lt_iff_toNat_lt]
theorem y_leq32 (a b : UInt32) : Yld P (binS .leq t x y (u32 a) (u32 b)) K = K (.bool (decide (a ≤ b))) := zAc fun w => by
  unfold u32; rw [zAq]; simp [binOp, Op.intCmp, Sem.run_pure, UInt32.le_iff_toNat_le]
theorem y_gtr32 (a b : UInt32) : Yld P (binS .gtr t x y (u32 a) (u32 b)) K = K (.bool (decide (b < a))) := zAc fun w => by
  unfold u32; rw [zAq]; simp [binOp, Op.intCmp, Sem.run_pure, UInt32.lt_iff_toNat_lt]
theorem y_geq32 (a b : UInt32) : Yld P (binS .geq t x y (u32 a) (u32 b)) K = K (.bool (decide (b ≤ a))) := zAc fun w => by
  unfold u32; rw [zAq]; simp [binOp, Op.intCmp, Sem.run_pure, UInt32.le_iff_toNat_le]
theorem y_quo32 (a b : UInt32) (hb : 0 < b.toNat) : Yld P (binS .quo t x y (u32 a) (u32 b)) K = K (u32 (a / b)) := zAc fun w => by
  unfold u32; rw [zAq]
  have h1 : (a.toNat : Int).tdiv (b.toNat : Int) = ((a.toNat / b.toNat : Nat) : Int) := by rw [Int.tdiv_eq_ediv_of_nonneg (by omega)]; rfl
  have h2 : a.toNat / b.toNat ≤ a.toNat := Nat.div_le_self _ _
  have h3 := a.toNat_lt
  have h7 : a.toNat / b.toNat < 4294967296 := Nat.lt_of_le_of_lt h2 h3
  have h4 : ((a.toNat / b.toNat : Nat) : Int) % 4294967296 = ((a.toNat / b.toNat : Nat) : Int) := by
    generalize a.toNat / b.toNat = q at h7
    omega
  have h5 : ¬ (b.toNat : Int) = 0 := by omega
  simp only [binOp, Op.intDiv, h1, h5, Sem.run_pure, zBf, h4, if_false, ne_eq, not_true_eq_false, UInt32.toNat_div]
theorem y_rem32 (a b : UInt32) (hb : 0 < b.toNat) : Yld P (binS .rem t x y (u32 a) (u32 b)) K = K (u32 (a % b)) := zAc fun w => by
  unfold u32; rw [zAq]
  have h1 : (a.toNat : Int).tmod (b.toNat : Int) = ((a.toNat % b.toNat : Nat) : Int) := by rw [Int.tmod_eq_emod_of_nonneg (by omega)]; rfl
  have h2 : a.toNat % b.toNat ≤ a.toNat := Nat.mod_le _ _
  have h3 := a.toNat_lt
  have h7 : a.toNat % b.toNat < 4294967296 := Nat.lt_of_le_of_lt h2 h3
  have h4 : ((a.toNat % b.toNat : Nat) : Int) % 4294967296 = ((a.toNat % b.toNat : Nat) : Int) := by
    generalize a.toNat % b.toNat = q at h7
    omega
  have h5 : ¬ (b.toNat : Int) = 0 := by omega
  simp only [binOp, Op.intDiv, h1, h5, Sem.run_pure, zBf, h4, if_false, ne_eq, not_true_eq_false, UInt32.toNat_mod]
theorem y_shl32_8 (a : UInt32) (n : UInt8) (h1 : n.toNat < 32) : Yld P (binS .shl t x y (u32 a) (u8 n)) K = K (u32 (a <<< UInt32.ofNat n.toNat)) := zAc fun w => by
  unfold u32 u8; rw [zA2 (.inl rfl)]
  simp only [binOp]
  rw [shift_shl .u32 .u8 _ _ (by omega) (by simp [IntKind.bits]; omega), Sem.run_pure, zBf]
  congr 3
  rw [UInt32.toNat_shiftLeft, UInt32.toNat_ofNat', Int.toNat_natCast, Nat.shiftLeft_eq]
  rw [Nat.mod_eq_of_lt (show n.toNat % 2 ^ 32 < 32 by omega), Nat.mod_eq_of_lt (show n.toNat < 2 ^ 32 by omega)]
  rw [Int.natCast_emod, Int.natCast_mul, Int.natCast_pow]; rfl
theorem y_shr32_8 (a : UInt32) (n : UInt8) (h1 : n.toNat < 32) : Yld P (binS .shr t x y (u32 a) (u8 n)) K = K (u32 (a >>> UInt32.ofNat n.toNat)) := zAc fun w => by
  unfold u32 u8; rw [zA2 (.inr rfl)]
  simp only [binOp]
  rw [shift_shr .u32 .u8 _ _ (by omega) (by simp [IntKind.bits]; omega), Sem.run_pure]
  congr 3
  rw [UInt32.toNat_shiftRight, UInt32.toNat_ofNat', Int.toNat_natCast, Nat.shiftRight_eq_div_pow]
  rw [Nat.mod_eq_of_lt (show n.toNat % 2 ^ 32 < 32 by omega), Nat.mod_eq_of_lt (show n.toNat < 2 ^ 32 by omega)]
  push_cast; rfl
theorem zIj (a : UInt32) (n : UInt32) (h1 : n.toNat < 32) : Yld P (binS .shl t x y (u32 a) (u32 n)) K = K (u32 (a <<< UInt32.ofNat n.toNat)) := zAc fun w => by
  unfold u32; rw [zA2 (.inl rfl)]
  simp only [binOp]
  rw [shift_shl .u32 .u32 _ _ (by omega) (by simp [IntKind.bits]; omega), Sem.run_pure, zBf]
  congr 3
  rw [UInt32.toNat_shiftLeft, UInt32.toNat_ofNat', Int.toNat_natCast, Nat.shiftLeft_eq]
  rw [Nat.mod_eq_of_lt (show n.toNat % 2 ^ 32 < 32 by omega), Nat.mod_eq_of_lt (show n.toNat < 2 ^ 32 by omega)]
  rw [Int.natCast_emod, Int.natCast_mul, Int.natCast_pow]; rfl
theorem zGd (a : UInt32) (n : UInt32) (h1 : n.toNat < 32) : Yld P (binS .shr t x y (u32 a) (u32 n)) K = K (u32 (a >>> UInt32.ofNat n.toNat)) := zAc fun w => by
  unfold u32; rw [zA2 (.inr rfl)]
  simp only [binOp]
  rw [shift_shr .u32 .u32 _ _ (by omega) (by simp [IntKind.bits]; omega), Sem.run_pure]
  congr 3
  rw [UInt32.toNat_shiftRight, UInt32.toNat_ofNat', Int.toNat_natCast, Nat.shiftRight_eq_div_pow]
  rw [Nat.mod_eq_of_lt (show n.toNat % 2 ^ 32 < 32 by omega), Nat.mod_eq_of_lt (show n.toNat < 2 ^ 32 by omega)]
  push_cast; rfl
theorem y_shl32i (a : UInt32) (n : Int) (h0 : 0 ≤ n) (h1 : n < 32) : Yld P (binS .shl t x y (u32 a) (.int .i64 n)) K = K (u32 (a <<< UInt32.ofNat n.toNat)) := zAc fun w => by
  unfold u32; rw [zA2 (.inl rfl)]
  simp only [binOp]
  rw [shift_shl .u32 .i64 _ _ (by omega) (by simp [IntKind.bits]; omega), Sem.run_pure, zBf]
  congr 3
  rw [UInt32.toNat_shiftLeft, UInt32.toNat_ofNat', Nat.shiftLeft_eq]
  rw [Nat.mod_eq_of_lt (show n.toNat % 2 ^ 32 < 32 by omega), Nat.mod_eq_of_lt (show n.toNat < 2 ^ 32 by omega)]
  rw [Int.natCast_emod, Int.natCast_mul, Int.natCast_pow]; rfl
theorem y_shr32i (a : UInt32) (n : Int) (h0 : 0 ≤ n) (h1 : n < 32) : Yld P (binS .shr t x y (u32 a) (.int .i64 n)) K = K (u32 (a >>> UInt32.ofNat n.toNat)) := zAc fun w => by
  unfold u32; rw [zA2 (.inr rfl)]
  simp only [binOp]
  rw [shift_shr .u32 .i64 _ _ (by omega) (by simp [IntKind.bits]; omega), Sem.run_pure]
  congr 3
  rw [UInt32.toNat_shiftRight, UInt32.toNat_ofNat', Nat.shiftRight_eq_div_pow]
  rw [Nat.mod_eq_of_lt (show n.toNat % 2 ^ 32 < 32 by omega), Nat.mod_eq_of_lt (show n.toNat < 2 ^ 32 by omega)]
  push_cast; rfl
theorem y_neg32 (a : UInt32) : Yld P (Op.unary .neg (u32 a)) K = K (u32 (0 - a)) := zAc fun w => by
  unfold u32
  have h0 := a.toNat_lt
  have h1 : IntKind.u32.wrap (0 - (a.toNat : Int)) = ((0 - a).toNat : Int) := by
    rw [zBf, UInt32.toNat_sub]; simp; omega
  exact congrArg (fun z => Result.ok (Value.int .u32 z) w) h1
theorem y_c_32_16 (s : TypeId) (c : UInt32) (hs : (P.underlying s).isSome = true) (hd : P.underlying t = some (.int .u16)) : Yld P (convert s t (u32 c)) K = K (u16 c.toUInt16) := by
  unfold u32 u16; rw [zA4 hs hd, zBd]; congr 2 <;> (have := c.toNat_lt; first | rfl | omega | (simp; done) | (simp; omega))
theorem y_c_32_32 (s : TypeId) (c : UInt32) (hs : (P.underlying s).isSome = true) (hd : P.underlying t = some (.int .u32)) : Yld P (convert s t (u32 c)) K = K (u32 c) := by
  unfold u32; rw [zA4 hs hd, zBf]; congr 2 <;> (have := c.toNat_lt; first | rfl | omega | (simp; done) | (simp; omega))
theorem ofInt64 (a : UInt64) : BitVec.ofInt IntKind.u64.bits (a.toNat : Int) = a.toBitVec := by
  show BitVec.ofInt 64 (a.toNat : Int) = a.toBitVec
  rw [BitVec.ofInt_natCast]; apply BitVec.eq_of_toNat_eq; simp
theorem back64 (r : UInt64) : IntKind.u64.wrap (r.toBitVec.toNat : Int) = r.toNat := by
  rw [zBb]; have := r.toNat_lt; show ((r.toNat : Int) % 18446744073709551616) = _; omega
theorem y_add64 (a b : UInt64) : Yld P (binS .add t x y (u64 a) (u64 b)) K = K (u64 (a + b)) := zAc fun w => by
  unfold u64; rw [zAq]; simp [binOp, Op.intArith, Sem.run_pure, zBb]
theorem y_mul64 (a b : UInt64) : Yld P (binS .mul t x y (u64 a) (u64 b)) K = K (u64 (a * b)) := zAc fun w => by
  unfold u64; rw [zAq]; simp [binOp, Op.intArith, Sem.run_pure, zBb]
theorem y_sub64 (a b : UInt64) : Yld P (binS .sub t x y (u64 a) (u64 b)) K = K (u64 (a - b)) := zAc fun w => by
  unfold u64; rw [zAq]; simp [binOp, Op.intArith, Sem.run_pure, zBb]
  have := a.toNat_lt; have := b.toNat_lt; rw [UInt64.toNat_sub]; omega
theorem y_eql64 (a b : UInt64) : Yld P (binS .eql t x y (u64 a) (u64 b)) K = K (.bool (decide (a = b))) := zAc fun w => by
  unfold u64; rw [zAq]; simp only [binOp, Op.intCmp, Sem.run_pure]; simp only [ne_eq, not_true_eq_false, if_false, Sem.run_pure, zB5 UInt64.toNat_inj]
theorem y_neq64 (a b : UInt64) : Yld P (binS .neq t x y (u64 a) (u64 b)) K = K (.bool (decide (a ≠ b))) := zAc fun w => by
  unfold u64; rw [zAq]; simp only [binOp, Op.intCmp, Sem.run_pure]; simp only [ne_eq, not_true_eq_false, if_false, Sem.run_pure, bne, zB5 UInt64.toNat_inj, decide_not]
theorem y_lss64 (a b : UInt64) : Yld P (binS .lss t x y (u64 a) (u64 b)) K = K (.bool (decide (a < b))) := zAc fun w => by
  unfold u64; rw [zAq]; simp [binOp, Op.intCmp, Sem.run_pure, UInt64.lt_iff_toNat_lt]
theorem y_leq64 (a b : UInt64) : Yld P (binS .leq t x y (u64 a) (u64 b)) K = K (.bool (decide (a ≤ b))) := zAc fun w => by
  unfold u64; rw [zAq]; simp [binOp, Op.intCmp, Sem.run_pure, UInt64.le_iff_toNat_le]
theorem y_gtr64 (a b : UInt64) : Yld P (binS .gtr t x y (u64 a) (u64 b)) K = K (.bool (decide (b < a))) := zAc fun w => by
  unfold u64; rw [zAq]; simp [binOp, Op.intCmp, Sem.run_pure, UInt64.lt_iff_toNat_lt]
theorem y_geq64 (a b : UInt64) : Yld P (binS .geq t x y (u64 a) (u64 b)) K = K (.bool (decide (b ≤ a))) := zAc fun w => by
  unfold u64; rw [zAq]; simp [binOp, Op.intCmp, Sem.run_pure, UInt64.le_iff_toNat_le]
theorem y_and64 (a b : UInt64) : Yld P (binS .and t x y (u64 a) (u64 b)) K = K (u64 (a &&& b)) := zAc fun w => by
  unfold u64; rw [zAq]; simp only [binOp, Op.intBits, ofInt64, ne_eq, not_true_eq_false, if_false]; exact congrArg (fun z => Result.ok (Value.int .u64 z) w) (back64 (a &&& b))
theorem y_or64 (a b : UInt64) : Yld P (binS .or t x y (u64 a) (u64 b)) K = K (u64 (a ||| b)) := zAc fun w => by
  unfold u64; rw [zAq]; simp only [binOp, Op.intBits, ofInt64, ne_eq, not_true_eq_false, if_false]; exact congrArg (fun z => Result.ok (Value.int .u64 z) w) (back64 (a ||| b))
theorem y_xor64 (a b : UInt64) : Yld P (binS .xor t x y (u64 a) (u64 b)) K = K (u64 (a ^^^ b)) := zAc fun w => by
  unfold u64; rw [zAq]; simp only [binOp, Op.intBits, ofInt64, ne_eq, not_true_eq_false, if_false]; exact congrArg (fun z => Result.ok (Value.int .u64 z) w) (back64 (a ^^^ b))
theorem y_quo64 (a b : UInt64) (hb : 0 < b.toNat) : Yld P (binS .quo t x y (u64 a) (u64 b)) K = K (u64 (a / b)) := zAc fun w => by
  unfold u64; rw [zAq]
  have h1 : (a.toNat : Int).tdiv (b.toNat : Int) = ((a.toNat / b.toNat : Nat) : Int) := by rw [Int.tdiv_eq_ediv_of_nonneg (by omega)]; rfl
  have h2 : a.toNat / b.toNat ≤ a.toNat := Nat.div_le_self _ _
  have h3 := a.toNat_lt
  have h7 : a.toNat / b.toNat < 18446744073709551616 := Nat.lt_of_le_of_lt h2 h3
  have h4 : ((a.toNat / b.toNat : Nat) : Int) % 18446744073709551616 = ((a.toNat / b.toNat : Nat) : Int) := by
    generalize a.toNat / b.toNat = q at h7
    omega
  have h5 : ¬ (b.toNat : Int) = 0 := by omega
  simp only [binOp, Op.intDiv, h1, h5, Sem.run_pure, zBb, h4, if_false, ne_eq, not_true_eq_false, UInt64.toNat_div]
theorem y_rem64 (a b : UInt64) (hb : 0 < b.toNat) : Yld P (binS .rem t x y (u64 a) (u64 b)) K = K (u64 (a % b)) := zAc fun w => by
  unfold u64; rw [zAq]
  have h1 : (a.toNat : Int).tmod (b.toNat : Int) = ((a.toNat % b.toNat : Nat) : Int) := by rw [Int.tmod_eq_emod_of_nonneg (by omega)]; rfl
  have h2 : a.toNat % b.toNat ≤ a.toNat := Nat.mod_le _ _
  have h3 := a.toNat_lt
  have h7 : a.toNat % b.toNat < 18446744073709551616 := Nat.lt_of_le_of_lt h2 h3
  have h4 : ((a.toNat % b.toNat : Nat) : Int) % 18446744073709551616 = ((a.toNat % b.toNat : Nat) : Int) := by
    generalize a.toNat % b.toNat = q at h7
    omega
  have h5 : ¬ (b.toNat : Int) = 0 := by omega
  simp only [binOp, Op.intDiv, h1, h5, Sem.run_pure, zBb, h4, if_false, ne_eq, not_true_eq_false, UInt64.toNat_mod]
theorem y_shl64 (a : UInt64) (n : UInt64) (h1 : n.toNat < 64) : Yld P (binS .shl t x y (u64 a) (u64 n)) K = K (u64 (a <<< UInt64.ofNat n.toNat)) := zAc fun w => by
  unfold u64; rw [zA2 (.inl rfl)]
  simp only [binOp]
  rw [shift_shl .u64 .u64 _ _ (by omega) (by simp [IntKind.bits]; omega), Sem.run_pure, zBb]
  congr 3
  rw [UInt64.toNat_shiftLeft, UInt64.toNat_ofNat', Int.toNat_natCast, Nat.shiftLeft_eq]
  rw [Nat.mod_eq_of_lt (show n.toNat % 2 ^ 64 < 64 by omega), Nat.mod_eq_of_lt (show n.toNat < 2 ^ 64 by omega)]
  rw [Int.natCast_emod, Int.natCast_mul, Int.natCast_pow]; rfl
theorem y_shr64 (a : UInt64) (n : UInt64) (h1 : n.toNat < 64) : Yld P (binS .shr t x y (u64 a) (u64 n)) K = K (u64 (a >>> UInt64.ofNat n.toNat)) := zAc fun w => by
  unfold u64; rw [zA2 (.inr rfl)]
  simp only [binOp]
  rw [shift_shr .u64 .u64 _ _ (by omega) (by simp [IntKind.bits]; omega), Sem.run_pure]
  congr 3
  rw [UInt64.toNat_shiftRight, UInt64.toNat_ofNat', Int.toNat_natCast, Nat.shiftRight_eq_div_pow]
  rw [Nat.mod_eq_of_lt (show n.toNat % 2 ^ 64 < 64 by omega), Nat.mod_eq_of_lt (show n.toNat < 2 ^ 64 by omega)]
  push_cast; rfl
theorem y_shl64_8 (a : UInt64) (n : UInt8) (h1 : n.toNat < 64) : Yld P (binS .shl t x y (u64 a) (u8 n)) K = K (u64 (a <<< UInt64.ofNat n.toNat)) := zAc fun w => by
  unfold u64 u8; rw [zA2 (.inl rfl)]
  simp only [binOp]
  rw [shift_shl .u64 .u8 _ _ (by omega) (by simp [IntKind.bits]; omega), Sem.run_pure, zBb]
  congr 3
  rw [UInt64.toNat_shiftLeft, UInt64.toNat_ofNat', Int.toNat_natCast, Nat.shiftLeft_eq]
  rw [Nat.mod_eq_of_lt (show n.toNat % 2 ^ 64 < 64 by omega), Nat.mod_eq_of_lt (show n.toNat < 2 ^ 64 by omega)]
  rw [Int.natCast_emod, Int.natCast_mul, Int.natCast_pow]; rfl
theorem y_shr64_8 (a : UInt64) (n : UInt8) (h1 : n.toNat < 64) : Yld P (binS .shr t x y (u64 a) (u8 n)) K = K (u64 (a >>> UInt64.ofNat n.toNat)) := zAc fun w => by
  unfold u64 u8; rw [zA2 (.inr rfl)]
  simp only [binOp]
  rw [shift_shr .u64 .u8 _ _ (by omega) (by simp [IntKind.bits]; omega), Sem.run_pure]
  congr 3
  rw [UInt64.toNat_shiftRight, UInt64.toNat_ofNat', Int.toNat_natCast, Nat.shiftRight_eq_div_pow]
  rw [Nat.mod_eq_of_lt (show n.toNat % 2 ^ 64 < 64 by omega), Nat.mod_eq_of_lt (show n.toNat < 2 ^ 64 by omega)]
  push_cast; rfl
theorem zIp (a : UInt64) (n : UInt32) (h1 : n.toNat < 64) : Yld P (binS .shl t x y (u64 a) (u32 n)) K = K (u64 (a <<< UInt64.ofNat n.toNat)) := zAc fun w => by
  unfold u64 u32; rw [zA2 (.inl rfl)]
  simp only [binOp]
  rw [shift_shl .u64 .u32 _ _ (by omega) (by simp [IntKind.bits]; omega), Sem.run_pure, zBb]
  congr 3
  rw [UInt64.toNat_shiftLeft, UInt64.toNat_ofNat', Int.toNat_natCast, Nat.shiftLeft_eq]
  rw [Nat.mod_eq_of_lt (show n.toNat % 2 ^ 64 < 64 by omega), Nat.mod_eq_of_lt (show n.toNat < 2 ^ 64 by omega)]
  rw [Int.natCast_emod, Int.natCast_mul, Int.natCast_pow]; rfl
theorem zHu (a : UInt64) (n : UInt32) (h1 : n.toNat < 64) : Yld P (binS .shr t x y (u64 a) (u32 n)) K = K (u64 (a >>> UInt64.ofNat n.toNat)) := zAc fun w => by
  unfold u64 u32; rw [zA2 (.inr rfl)]
  simp only [binOp]
  rw [shift_shr .u64 .u32 _ _ (by omega) (by simp [IntKind.bits]; omega), Sem.run_pure]
  congr 3
  rw [UInt64.toNat_shiftRight, UInt64.toNat_ofNat', Int.toNat_natCast, Nat.shiftRight_eq_div_pow]
  rw [Nat.mod_eq_of_lt (show n.toNat % 2 ^ 64 < 64 by omega), Nat.mod_eq_of_lt (show n.toNat < 2 ^ 64 by omega)]
  push_cast; rfl
theorem y_shl64i (a : UInt64) (n : Int) (h0 : 0 ≤ n) (h1 : n < 64) : Yld P (binS .shl t x y (u64 a) (.int .i64 n)) K = K (u64 (a <<< UInt64.ofNat n.toNat)) := zAc fun w => by
  unfold u64; rw [zA2 (.inl rfl)]
  simp only [binOp]
  rw [shift_shl .u64 .i64 _ _ (by omega) (by simp [IntKind.bits]; omega), Sem.run_pure, zBb]
  congr 3
  rw [UInt64.toNat_shiftLeft, UInt64.toNat_ofNat', Nat.shiftLeft_eq]
  rw [Nat.mod_eq_of_lt (show n.toNat % 2 ^ 64 < 64 by omega), Nat.mod_eq_of_lt (show n.toNat < 2 ^ 64 by omega)]
  rw [Int.natCast_emod, Int.natCast_mul, Int.natCast_pow]; rfl
theorem y_shr64i (a : UInt64) (n : Int) (h0 : 0 ≤ n) (h1 : n < 64) : Yld P (binS .shr t x y (u64 a) (.int .i64 n)) K = K (u64 (a >>> UInt64.ofNat n.toNat)) := zAc fun w => by
  unfold u64; rw [zA2 (.inr rfl)]
  simp only [binOp]
  rw [shift_shr .u64 .i64 _ _ (by omega) (by simp [IntKind.bits]; omega), Sem.run_pure]
  congr 3
  rw [UInt64.toNat_shiftRight, UInt64.toNat_ofNat', Nat.shiftRight_eq_div_pow]
  rw [Nat.mod_eq_of_lt (show n.toNat % 2 ^ 64 < 64 by omega), Nat.mod_eq_of_lt (show n.toNat < 2 ^ 64 by omega)]
  push_cast; rfl
theorem y_neg64 (a : UInt64) : Yld P (Op.unary .neg (u64 a)) K = K (u64 (0 - a)) := zAc fun w => by
  unfold u64
  have h0 := a.toNat_lt
  have h1 : IntKind.u64.wrap (0 - (a.toNat : Int)) = ((0 - a).toNat : Int) := by
    rw [zBb, UInt64.toNat_sub]; simp; omega
  exact congrArg (fun z => Result.ok (Value.int .u64 z) w) h1
theorem y_com64 (a : UInt64) : Yld P (Op.unary .xor (u64 a)) K = K (u64 (~~~a)) := zAc fun w => by
  unfold u64; simp only [Op.unary, Op.intBits, ofInt64]
  have h1 : BitVec.ofInt IntKind.u64.bits (if IntKind.u64.signed = true then -1 else IntKind.u64.max) = BitVec.allOnes 64 := by
    show BitVec.ofInt 64 18446744073709551615 = BitVec.allOnes 64
    rfl
  rw [h1]
  have h2 : (BitVec.allOnes 64 ^^^ a.toBitVec) = (~~~a).toBitVec := by
    apply BitVec.eq_of_getLsbD_eq; intro i hi
    simp only [BitVec.getLsbD_xor, BitVec.getLsbD_allOnes, UInt64.toBitVec_not, BitVec.getLsbD_not, hi, decide_true, Bool.true_xor, Bool.true_and]
  exact congrArg (fun z => Result.ok (Value.int .u64 z) w) ((congrArg (fun z : BitVec 64 => IntKind.u64.wrap (z.toNat : Int)) h2).trans (back64 (~~~a)))
theorem y_c_64_16 (s : TypeId) (c : UInt64) (hs : (P.underlying s).isSome = true) (hd : P.underlying t = some (.int .u16)) : Yld P (convert s t (u64 c)) K = K (u16 c.toUInt16) := by
  unfold u64 u16; rw [zA4 hs hd, zBd]; congr 2 <;> (have := c.toNat_lt; first | rfl | omega | (simp; done) | (simp; omega))
theorem y_c_64_32 (s : TypeId) (c : UInt64) (hs : (P.underlying s).isSome = true) (hd : P.underlying t = some (.int .u32)) : Yld P (convert s t (u64 c)) K = K (u32 c.toUInt32) := by
  unfold u64 u32; rw [zA4 hs hd, zBf]; congr 2 <;> (have := c.toNat_lt; first | rfl | omega | (simp; done) | (simp; omega))
theorem y_c_64_64 (s : TypeId) (c : UInt64) (hs : (P.underlying s).isSome = true) (hd : P.underlying t = some (.int .u64)) : Yld P (convert s t (u64 c)) K = K (u64 c) := by
  unfold u64; rw [zA4 hs hd, zBb]; congr 2 <;> (have := c.toNat_lt; first | rfl | omega | (simp; done) | (simp; omega))
theorem y_c_64i (s : TypeId) (c : UInt64) (hs : (P.underlying s).isSome = true) (hd : P.underlying t = some (.int .i64)) : Yld P (convert s t (u64 c)) K = K (.int .i64 (IntKind.i64.wrap c.toNat)) := by
  unfold u64; rw [zA4 hs hd]
end
end Go.Proofs.Ytblikpbaeippaaa.Px


namespace Go.Proofs.Ytblikpbaeippaaa.Px
set_option linter.unusedVariables false
set_option linter.unusedSimpArgs false
open Go.RowKit
section
variable {P : Program} {w0 : World} {h : PH} {t e : TypeId} {K : Value → Prop} {sz : Nat}
theorem zFw {ops : Array Oper} {d : Option Tmp} {ty : TypeId} {pos : String} {af : Array Edge} {l : List Oper} {f : Fr} {K : Fr → PH → Prop} (t : TypeId) : vcM P w0 ops (⟨d, .alloc t, ty, pos, af, none⟩ :: l) f h K = ogetL (zcells P t) fun cs => vcNew h fun b => vcM P w0 ops l (f.put d (.pointer (some ⟨b, 0, none⟩))) (h.new b ⟨cs, cs.length⟩) K := by
  cases hz : zcells P t with
  | none =>
    rw [zBc]
    simp only [vcG, vcOp, hz]
    rfl
  | some cs => rw [vcM_alloc t hz, zEm]
theorem y_midL (hu : P.underlying t = some (.slice e)) (hz : szOf P e = some sz) (b o n c : Nat) (k k' : IntKind) (i j : Int) (h0 : 0 ≤ i) (h1 : i ≤ j) (h2 : j ≤ c) : Yld P (Instr.sliceAt t (.slice (some ⟨b, o, none⟩) n c) (some (.int k i)) (some (.int k' j)) none) K = K (.slice (cutAt b o (i.toNat * sz) (decide (c = i.toNat))) (j.toNat - i.toNat) (c - i.toNat)) := zAc fun w => by
  obtain ⟨i', rfl⟩ := Int.eq_ofNat_of_zero_le h0
  obtain ⟨j', rfl⟩ := Int.eq_ofNat_of_zero_le (Int.le_trans h0 h1)
  have h3 : i' ≤ j' := by omega
  have h4 : j' ≤ c := by omega
  simp [Instr.sliceAt, run_underlying hu, Instr.slice, Instr.sliceBounds, Instr.sliceBound, asIntOf, h3, h4, run_sizeOf hz, cutAt, Addr.add_mid]
  split <;> rfl
theorem y_toL (hu : P.underlying t = some (.slice e)) (hz : szOf P e = some sz) (b o n c : Nat) (k' : IntKind) (j : Int) (h1 : 0 ≤ j) (h2 : j ≤ c) : Yld P (Instr.sliceAt t (.slice (some ⟨b, o, none⟩) n c) none (some (.int k' j)) none) K = K (.slice (some ⟨b, o, none⟩) j.toNat c) := zAc fun w => by
  obtain ⟨j', rfl⟩ := Int.eq_ofNat_of_zero_le h1
  have h4 : j' ≤ c := by omega
  simp [Instr.sliceAt, run_underlying hu, Instr.slice, Instr.sliceBounds, Instr.sliceBound, asIntOf, h4, run_sizeOf hz, Addr.add_mid]
theorem y_to3L (hu : P.underlying t = some (.slice e)) (hz : szOf P e = some sz) (b o n c : Nat) (k k' : IntKind) (j m : Int) (h1 : 0 ≤ j) (h2 : j ≤ m) (h3 : m ≤ c) : Yld P (Instr.sliceAt t (.slice (some ⟨b, o, none⟩) n c) none (some (.int k' j)) (some (.int k m))) K = K (.slice (some ⟨b, o, none⟩) j.toNat m.toNat) := zAc fun w => by
  obtain ⟨j', rfl⟩ := Int.eq_ofNat_of_zero_le h1
  obtain ⟨m', rfl⟩ := Int.eq_ofNat_of_zero_le (Int.le_trans h1 h2)
  have h4 : j' ≤ m' := by omega
  have h5 : m' ≤ c := by omega
  simp [Instr.sliceAt, run_underlying hu, Instr.slice, Instr.sliceBounds, Instr.sliceBound, asIntOf, h4, h5, run_sizeOf hz, Addr.add_mid]
theorem zDw (hu : sl1B P t = true) : ∃ e, P.underlying t = some (.slice e) ∧ szOf P e = some 1 := by
  unfold sl1B at hu
  split at hu
  · rename_i e he
    exact ⟨e, he, by simpa using hu⟩
  · cases hu
theorem y_mid1 (hu : sl1B P t = true) (b o n c : Nat) (k k' : IntKind) (i j : Int) (h0 : 0 ≤ i) (h1 : i ≤ j) (h2 : j ≤ c) : Yld P (Instr.sliceAt t (.slice (some ⟨b, o, none⟩) n c) (some (.int k i)) (some (.int k' j)) none) K = K (.slice (cutAt b o i.toNat (decide (c = i.toNat))) (j.toNat - i.toNat) (c - i.toNat)) := by
  obtain ⟨e, h3, h4⟩ := zDw hu
  rw [y_midL h3 h4 b o n c k k' i j h0 h1 h2, Nat.mul_one]
theorem y_to1 (hu : sl1B P t = true) (b o n c : Nat) (k' : IntKind) (j : Int) (h1 : 0 ≤ j) (h2 : j ≤ c) : Yld P (Instr.sliceAt t (.slice (some ⟨b, o, none⟩) n c) none (some (.int k' j)) none) K = K (.slice (some ⟨b, o, none⟩) j.toNat c) := by
  obtain ⟨e, h3, h4⟩ := zDw hu
  rw [y_toL h3 h4 b o n c k' j h1 h2]
theorem y_to31 (hu : sl1B P t = true) (b o n c : Nat) (k k' : IntKind) (j m : Int) (h1 : 0 ≤ j) (h2 : j ≤ m) (h3 : m ≤ c) : Yld P (Instr.sliceAt t (.slice (some ⟨b, o, none⟩) n c) none (some (.int k' j)) (some (.int k m))) K = K (.slice (some ⟨b, o, none⟩) j.toNat m.toNat) := by
  obtain ⟨e, h4, h5⟩ := zDw hu
  rw [y_to3L h4 h5 b o n c k k' j m h1 h2 h3]
theorem zD1 {m : Nat} (hu : P.underlying t = some (.array m e)) (hz : szOf P e = some sz) (b o : Nat) : Yld P (Instr.sliceAt t (.pointer (some ⟨b, o, none⟩)) none none none) K = K (.slice (some ⟨b, o, none⟩) m m) := zAc fun w => by
  simp [Instr.sliceAt, run_underlying hu, Instr.sliceBounds, run_sizeOf hz, Instr.sureAddr, Addr.add_mid]
theorem zD9 {m : Nat} (hu : P.underlying t = some (.array m e)) (ha : aggB P e = some false) (hz : szOf P e = some 1) (cs : List Value) (hl : cs.length = m) (k : IntKind) (i : Int) (h0 : 0 ≤ i) (h1 : i < m) : Yld P (Instr.index t (.agg cs.toArray) (.int k i)) K = K (cs.getD i.toNat undef) := zAc fun w => by
  obtain ⟨i', rfl⟩ := Int.eq_ofNat_of_zero_le h0
  have h3 : i' < cs.length := by omega
  have h4 : (isAgg e).run P w = .ok false w := by
    unfold aggB at ha
    obtain ⟨d, hd, hd2⟩ := Option.map_eq_some_iff.1 ha
    unfold isAgg
    simp only [Sem.run_bind, run_underlying hd]
    cases d <;> first | rfl | cases hd2
  simp [Instr.index, run_underlying hu, asIntOf, h1, run_sizeOf hz, part, h4, h3, List.getD, List.getElem?_eq_getElem h3]
  intro h6
  omega
theorem run_isAgg {e : TypeId} (ha : aggB P e = some false) (w : World) : (isAgg e).run P w = .ok false w := by
  unfold aggB at ha
  obtain ⟨d, hd, hd2⟩ := Option.map_eq_some_iff.1 ha
  unfold isAgg
  simp only [Sem.run_bind, run_underlying hd]
  cases d <;> first | rfl | cases hd2
theorem zAd {fs : Array Field} {i off n : Nat} (hu : P.underlying t = some (.struct fs)) (hf : (fs[i]?).map (fun f => (f.offset, f.type)) = some (off, e)) (hz : szOf P e = some (n + 1)) (b o : Nat) : Yld P (Instr.fieldAt t (.pointer (some ⟨b, o, none⟩)) i) K = K (.pointer (some ⟨b, o + off, none⟩)) := zAc fun w => by
  obtain ⟨f, hf1, hf2⟩ := Option.map_eq_some_iff.1 hf
  obtain ⟨rfl, rfl⟩ := Prod.mk.injEq .. ▸ hf2
  simp [Instr.fieldAt, run_underlying hu, hf1, Instr.sureAddr, fieldPlace, run_sizeOf hz, Addr.add_mid]
theorem zAe {fs : Array Field} {i off n : Nat} (hu : P.underlying t = some (.struct fs)) (hf : (fs[i]?).map (fun f => (f.offset, f.type)) = some (off, e)) (ha : aggB P e = some false) (cs : List Value) (hl : cs.length = n) (hn : off < n) : Yld P (Instr.field t (.agg cs.toArray) i) K = K (cs.getD off undef) := zAc fun w => by
  obtain ⟨f, hf1, hf2⟩ := Option.map_eq_some_iff.1 hf
  obtain ⟨rfl, rfl⟩ := Prod.mk.injEq .. ▸ hf2
  have h3 : f.offset < cs.length := by omega
  simp [Instr.field, run_underlying hu, hf1, part, asAgg, run_isAgg ha, h3, List.getD, List.getElem?_eq_getElem h3]
def One (v : Value) : Prop := v.cells = #[v] ∧ v.oneCell' = true
theorem one_u8 (c : UInt8) : One (u8 c) = True := eq_true ⟨rfl, rfl⟩
theorem one_u16 (c : UInt16) : One (u16 c) = True := eq_true ⟨rfl, rfl⟩
theorem one_u32 (c : UInt32) : One (u32 c) = True := eq_true ⟨rfl, rfl⟩
theorem one_u64 (c : UInt64) : One (u64 c) = True := eq_true ⟨rfl, rfl⟩
theorem one_int (k : IntKind) (n : Int) : One (.int k n) = True := eq_true ⟨rfl, rfl⟩
theorem one_str (l : List UInt8) : One (str l) = True := eq_true ⟨rfl, rfl⟩
theorem one_bool (b : Bool) : One (.bool b) = True := eq_true ⟨rfl, rfl⟩
theorem one_ptr (a : Option Addr) : One (.pointer a) = True := eq_true ⟨rfl, rfl⟩
theorem one_sl (a : Option Addr) (n c : Nat) : One (.slice a n c) = True := eq_true ⟨rfl, rfl⟩
theorem one_ifc (t : TypeId) (v : Value) : One (.iface t v) = True := eq_true ⟨rfl, rfl⟩
theorem one_nilI : One .nilIface = True := eq_true ⟨rfl, rfl⟩
theorem one_map (m : Option Nat) : One (.map m) = True := eq_true ⟨rfl, rfl⟩
theorem one_nilF : One .nilFunc = True := eq_true ⟨rfl, rfl⟩
def ogetB (o : Option Bk) (k : Bk → Prop) (_ : Seal k := ⟨⟩) : Prop := match o with
  | some b => k b
  | none => False
theorem zEn (b : Bk) (k : Bk → Prop) : ogetB (some b) k = k b := rfl
theorem vstore_1 {k : PH → Prop} (hz : szOf P t = some 1) (v : Value) (h1 : One v) (b o : Nat) : vstore P w0 h t ⟨b, o, none⟩ v k = ogetB (h.m b) fun bk => vcIf (decide (o < bk.xs.length)) (k (h.new b (bk.as (bk.xs.set o v)))) False := by
  obtain ⟨h2, h3⟩ := h1
  have ha : allOne v.cells.toList := by rw [h2]; intro u hu; simp at hu; subst hu; exact h3
  unfold vstore
  cases hm : h.m b with
  | none => simp [ogetB]
  | some bk =>
    simp only [zEn, hz, h2, ha]
    by_cases ho : o < bk.xs.length
    · rw [decide_eq_true ho, zBn]
      have h5 : bk.xs.take o ++ [v] ++ bk.xs.drop (o + 1) = bk.xs.set o v := by rw [List.set_eq_take_append_cons_drop, if_pos ho]; simp
      have ha' : allOne (#[v] : Array Value).toList := by rw [← h2]; exact ha
      simp [h5, show o + 1 ≤ bk.xs.length from ho, show allOne [v] from ha']
    · rw [decide_eq_false ho, zBj]
      simp; omega
theorem zA1 {k : PH → Prop} {n : Nat} (hz : szOf P t = some n) (cs : List Value) (hl : cs.length = n) (h1 : allOne cs) (b o : Nat) : vstore P w0 h t ⟨b, o, none⟩ (.agg cs.toArray) k = ogetB (h.m b) fun bk => vcIf (decide (o + n ≤ bk.xs.length)) (k (h.new b (bk.as (bk.xs.take o ++ cs ++ bk.xs.drop (o + n))))) False := by
  have h2 : (Value.agg cs.toArray).cells = cs.toArray := rfl
  unfold vstore
  cases hm : h.m b with
  | none => simp [ogetB]
  | some bk =>
    simp only [zEn, hz, h2, List.size_toArray, hl]
    by_cases ho : o + n ≤ bk.xs.length
    · rw [decide_eq_true ho, zBn]; simp [ho, h1]
    · rw [decide_eq_false ho, zBj]; simp [ho]
theorem fill_seq : ∀ (us : List Value) (k : Nat) (ds rest : List Value), ds.length = k → us.length = rest.length → (∀ u ∈ us, u.cells = #[u]) →
    Instr.fill (fun i => some (i * 1, 1)) (ds ++ rest).toArray ((List.range' k us.length).zip us) = some (ds ++ us).toArray
  | [], k, ds, rest, _, hr, _ => by
    have : rest = [] := List.length_eq_zero_iff.1 hr.symm
    subst this
    simp [Instr.fill]
  | u :: us, k, ds, rest, hd, hr, hu => by
    obtain ⟨r, rest, rfl⟩ : ∃ r rest', rest = r :: rest' := by
      cases rest with
      | nil => simp at hr
      | cons r rest => exact ⟨r, rest, rfl⟩
    have hu1 := hu u List.mem_cons_self
    have key := fill_seq us (k + 1) (ds ++ [u]) rest (by simp [hd]) (by simpa using hr) (fun x hx => hu x (List.mem_cons_of_mem _ hx))
    simp only [List.append_assoc, List.singleton_append] at key
    rw [List.length_cons, List.range'_succ, List.zip_cons_cons]
    unfold Instr.fill
    simp only [hu1, Nat.mul_one]
    have hset : (ds ++ r :: rest).toArray.setIfInBounds k u = (ds ++ u :: rest).toArray := by
      rw [List.setIfInBounds_toArray, List.set_append_right _ _ (by omega)]; simp [hd]
    have hfold : (#[u] : Array Value).zipIdx.foldl (fun (cs : Array Value) (x : Value × Nat) => cs.setIfInBounds (k + x.2) x.1) (ds ++ r :: rest).toArray = (ds ++ u :: rest).toArray := by
      rw [← hset]; simp
    rw [if_neg (by simp [hd]), hfold]
    simp only [Nat.mul_one] at key
    exact key
theorem zEy {h : PH} {b n : Nat} {k : Bk} (hb : h.m b = some k) (hl : k.xs.length = n) : rdN w0 h ⟨b, 0, none⟩ n = some k.xs := by
  unfold rdN; simp only [hb]; rw [if_pos ⟨trivial, by omega⟩, List.drop_zero, List.take_of_length_le (by omega)]
theorem Does_seq {z : Value} {n by_ : Nat} {K : Value → PH → Prop} (hE : El P t e z 1 by_) (vs : List Value) (hl : vs.length = n) (h1 : ∀ v ∈ vs, One v) (hpos : 0 < n) (hs : n ≤ 16777216)
    (hk : ∀ b, h.top ≤ b → K (.slice (some ⟨b, 0, none⟩) n n) (h.new b ⟨vs, n⟩)) : Does P w0 h (Instr.buildSlice t n ((List.range' 0 n).zip vs).toArray) K := by
  refine Does_cells hE hl hpos hs ?_ hk
  have hf := fill_seq vs 0 [] ((Array.range (n * 1)).map (z.cells[· % z.cells.size]!)).toList rfl (by simp [hl]) (fun u hu => (h1 u hu).1)
  rw [hl, List.nil_append, List.nil_append, Array.toArray_toList] at hf
  exact hf
theorem made_one (z : Value) (n : Nat) : (madeCells #[z] n).toList = List.replicate n z := by
  apply List.ext_getElem
  · simp [size_madeCells]
  · intro i h1 h2
    simp [madeCells, Nat.mod_one]
def rdM (w0 : World) (k : Option Bk) (b o : Nat) : Option Value := match k with
  | some k => k.xs[o]?
  | none => if b < w0.heap.size then w0.cell? ⟨b, o, none⟩ else none
theorem zAa (h : PH) (b o : Nat) : rd w0 h ⟨b, o, none⟩ = rdM w0 (h.m b) b o := by
  unfold rd rdM; rw [if_pos rfl]; cases h.m b <;> rfl
theorem zAb (k : Bk) (b o : Nat) : rdM w0 (some k) b o = k.xs[o]? := rfl
/-! A drawn region by a plan: in which order its operations may be taken. -/
def nthO : List Oper → Nat → Option Oper
  | [], _ => none
  | o :: _, 0 => some o
  | _ :: l, n + 1 => nthO l n
theorem nthO_zero (o : Oper) (l : List Oper) : nthO (o :: l) 0 = some o := rfl
theorem nthO_succ (o : Oper) (l : List Oper) (n : Nat) : nthO (o :: l) (n + 1) = nthO l n := rfl
theorem zB6 : ∀ (l : List Oper) (i : Nat), nthO l i = l.toArray[i]?
  | [], i => by simp [nthO]
  | o :: l, 0 => by simp [nthO]
  | o :: l, i + 1 => by have := zB6 l i; simp [nthO] at this ⊢; exact this
def vcHR (P : Program) (w0 : World) (hS : PH) (ops : List Oper) : List Nat → Fr → PH → (Fr → PH → Prop) → Prop
  | [], f, h, K => K f h
  | i :: l, f, h, K => match nthO ops i with
    | some o => vcIf (silentB P o.op) (vcM P w0 ops.toArray [o] f hS fun f' _ => vcHR P w0 hS ops l f' h K) (vcM P w0 ops.toArray [o] f h fun f' h' => vcLe w0 hS h' (vcHR P w0 hS ops l f' h' K))
    | none => False
def vcHS (P : Program) (w0 : World) (hS : PH) (ops : List Oper) (l : List Nat) (f : Fr) (h : PH) (K : Fr → PH → Prop) (_ : Seal ops := ⟨⟩) (_ : Seal K := ⟨⟩) : Prop := vcHR P w0 hS ops l f h K
def vcHO (P : Program) (w0 : World) (hS : PH) (ops : List Oper) (o : Option Oper) (l : List Nat) (f : Fr) (h : PH) (K : Fr → PH → Prop) (_ : Seal ops := ⟨⟩) (_ : Seal K := ⟨⟩) : Prop := match o with
  | some o => vcIf (silentB P o.op) (vcM P w0 ops.toArray [o] f hS fun f' _ => vcHS P w0 hS ops l f' h K) (vcM P w0 ops.toArray [o] f h fun f' h' => vcLe w0 hS h' (vcHS P w0 hS ops l f' h' K))
  | none => False
theorem vcHS_nil {f : Fr} {K : Fr → PH → Prop} (hS : PH) (ops : List Oper) : vcHS P w0 hS ops [] f h K = K f h := rfl
theorem vcHS_cons {f : Fr} {K : Fr → PH → Prop} (hS : PH) (ops : List Oper) (i : Nat) (l : List Nat) : vcHS P w0 hS ops (i :: l) f h K = vcHO P w0 hS ops (nthO ops i) l f h K := rfl
theorem vcHO_some {f : Fr} {K : Fr → PH → Prop} (hS : PH) (ops : List Oper) (o : Oper) (l : List Nat) : vcHO P w0 hS ops (some o) l f h K = vcIf (silentB P o.op) (vcM P w0 ops.toArray [o] f hS fun f' _ => vcHS P w0 hS ops l f' h K) (vcM P w0 ops.toArray [o] f h fun f' h' => vcLe w0 hS h' (vcHS P w0 hS ops l f' h' K)) := rfl
theorem zF5 (t : TypeId) (x i : Operand) : silentB P (.indexAddr t x i) = true := rfl
theorem zF8 (t : TypeId) (x i : Operand) : silentB P (.index t x i) = true := rfl
theorem zHm (t : TypeId) (x : Operand) (a b c : Option Operand) : silentB P (.slice t x a b c) = true := rfl
theorem zIb (op : UnOp) (t : TypeId) (x : Operand) : silentB P (.unOp op t x) = true := rfl
theorem zHw (t : TypeId) (x : Operand) (i : Nat) : silentB P (.fieldAddr t x i) = true := rfl
theorem zGu (t : TypeId) (x : Operand) (i : Nat) : silentB P (.field t x i) = true := rfl
theorem zIu (x : Operand) : silentB P (.nilCheck x) = true := rfl
theorem zGg (t : TypeId) (x : Operand) : silentB P (.makeInterface t x) = true := rfl
theorem zIn (s d : TypeId) (x : Operand) : silentB P (.convert s d x) = !isSliceB P d := rfl
theorem vcHR_vcH {hS : PH} {ops : List Oper} {K : Fr → PH → Prop} : ∀ (l : List Nat) (f : Fr) (h : PH), vcHR P w0 hS ops l f h K = vcH P w0 hS ops.toArray l f h K
  | [], f, h => rfl
  | i :: l, f, h => by
    unfold vcHR vcH
    rw [← zB6]
    cases ho : nthO ops i with
    | none => rfl
    | some o =>
      simp only
      cases hs : silentB P o.op
      · rw [zBj, zBc]
        simp only [Bool.false_eq_true, if_false, vcM_nil]
        exact congrArg (fun k => vcG P w0 ops.toArray o f h k) (funext fun f' => funext fun h' => congrArg (fun X => PH.Sub w0 hS h' ∧ X) (vcHR_vcH l f' h'))
      · rw [zBn, zBc]
        simp only [if_true, vcM_nil]
        exact congrArg (fun k => vcG P w0 ops.toArray o f hS k) (funext fun f' => funext fun h' => vcHR_vcH l f' h)
theorem zBt {N : Nat} {f : Fr} {id : Nat} {ops : List Oper} {Q : Exit → Fr → PH → Prop} (l : List Nat) (hS : PH) (hm : P.follows .mixedOrders = true) (hp : planOk P ops.toArray l (Array.replicate ops.toArray.size false) = true) (hlen : Nat.ble l.length ops.toArray.size = true) (hok : opsOk N ops = true) (hsel : Region.noSelect ops.toArray = true)
    (hQ : ∀ c f h, ¬ Q (.panic c) f h) (hl : PH.Sub w0 hS h) (hv : vcHS P w0 hS ops l f h (Q .normal)) : PW P w0 N (.region id ops.toArray true) f h Q :=
  PW_held hS l hm hp (Nat.le_of_ble_eq_true hlen) (by simpa using hok) hsel hQ hl ((vcHR_vcH l f h).mp hv)
/-! A drawn region that is silent up to its last operations, which come in their order. -/
theorem vcL_eq {ops : Array Oper} {K : Fr → PH → Prop} : ∀ (l : List Oper) (f : Fr) (h : PH), vcL P w0 ops l f h K = vcM P w0 ops l f h K
  | [], f, h => rfl
  | o :: l, f, h => by
    rw [zBc]
    exact congrArg (fun k => vcG P w0 ops o f h k) (funext fun f' => funext fun h' => vcL_eq l f' h')
theorem vcT_eq {ops : Array Oper} {K : Fr → PH → Prop} : ∀ (n : Nat) (l : List Oper) (f : Fr) (h : PH), vcT P w0 ops n l f h K = vcM P w0 ops l f h K
  | 0, l, f, h => by rw [← vcL_eq]; cases l <;> rfl
  | n + 1, [], f, h => rfl
  | n + 1, o :: l, f, h => by
    rw [zBc]
    exact congrArg (fun k => vcG P w0 ops o f h k) (funext fun f' => funext fun h' => vcT_eq n l f' h')
theorem PW_tail1 {N : Nat} {f : Fr} {id : Nat} {l : List Oper} {Q : Exit → Fr → PH → Prop} (n : Nat) (hm : P.follows .mixedOrders = true) (hB : Region.lexTailB .any l.toArray n = true) (hok : opsOk N l = true) (hsil : ((l.take n).all fun o => silentB P o.op) = true)
    (hv : vcM P w0 l.toArray l f h (Q .normal)) : PW P w0 N (.region id l.toArray true) f h Q :=
  PW_tail n hm hB hok hsil (by rw [vcT_eq]; exact hv)
end
end Go.Proofs.Ytblikpbaeippaaa.Px


namespace Go.Proofs.Ytblikpbaeippaaa.Px
set_option linter.unusedVariables false
set_option linter.unusedSimpArgs false
open Go.RowKit
section
variable {P : Program} {w0 : World} {h : PH} {t e ty dT sT : TypeId} {K : Value → PH → Prop}
end
theorem Own.keep {h h' : PH} {v v' u : Value} {sz n : Nat} {xs : List Value} (o : Own h sz u n xs) (s : Stays h h' v v') (hs : ∀ x, v.ownBlock = some x → u.ownBlock ≠ some x) : Own h' sz u n xs :=
  ⟨o.1, o.2.imp id fun ⟨b, c, h1, h2, h3, h4⟩ => ⟨b, c, h1, h2, h3, s.keep _ _ h4 fun e => hs _ e (by rw [h1]; rfl)⟩⟩
theorem Own.block {h : PH} {v : Value} {sz n : Nat} {xs : List Value} (o : Own h sz v n xs) {x : Nat} (e : v.ownBlock = some x) : x < h.top := by
  rcases o.2 with ⟨h1, _⟩ | ⟨b, c, h1, _, _, h4⟩
  · rw [h1] at e; cases e
  · rw [h1] at e
    have : b = x := by injection e
    rw [← this]; exact h.lt _ _ h4
theorem Own.nil_zero {h : PH} {sz n c : Nat} {xs : List Value} {A : Option Addr} (o : Own h sz (.slice A n c) n xs) : A = none → n = 0 := by
  rintro rfl
  rcases o.2 with ⟨_, h1⟩ | ⟨b, c', h1, _⟩
  · exact h1
  · cases h1
structure Two (h0 h : PH) (sz sz' : Nat) (v : Value) (n : Nat) (xs : List Value) (v' : Value) (n' : Nat) (xs' : List Value) : Prop where
  one : OwnS h0 h sz v n xs
  two : OwnS h0 h sz' v' n' xs'
  apart : ∀ x, v.ownBlock = some x → v'.ownBlock ≠ some x
theorem Two.swap {h0 h : PH} {sz sz' n n' : Nat} {v v' : Value} {xs xs' : List Value} (t : Two h0 h sz sz' v n xs v' n' xs') : Two h0 h sz' sz v' n' xs' v n xs :=
  ⟨t.two, t.one, fun x e e' => t.apart x e' e⟩
theorem Two.more {h0 h h' : PH} {sz sz' n n' : Nat} {v v' : Value} {xs xs' : List Value} (t : Two h0 h sz sz' v n xs v' n' xs') (l : PH.Le h h') : Two h0 h' sz sz' v n xs v' n' xs' :=
  ⟨t.one.more l, t.two.more l, t.apart⟩
theorem Two.stays {h0 h h' : PH} {sz sz' n n' m : Nat} {v v' u : Value} {xs xs' ys : List Value} (t : Two h0 h sz sz' v n xs v' n' xs') (s : Stays h h' v u) (o : Own h' sz u m ys) : Two h0 h' sz sz' u m ys v' n' xs' := by
  refine ⟨t.one.stays s o, ⟨(t.one.stays s o).le, t.two.own.keep s t.apart, t.two.new⟩, fun x e e' => ?_⟩
  rcases s.fresh x e with h1 | h1
  · exact t.apart x h1 e'
  · have := t.two.own.block e'
    omega
end Go.Proofs.Ytblikpbaeippaaa.Px

