/- The program's errors: fail.At wraps a code with a place; errors.Is finds the code of an error that is wrapped once. No condition. -/
import Derived.Test.YtadbaohcniggmaaBase
import Derived.LaidEql
import Derived.Stop.Asserts
import Derived.RowKitTokens
import Derived.Handy
import Derived.WalkLawsBesides
import Derived.WalkSpells
namespace Go.Proofs.Ytadbaohcniggmaa
set_option linter.unusedVariables false
set_option linter.unusedSimpArgs false
open Go.RowKit Base Go.Extern.Stop Go.Stop Go.Extern

/-- A code as an error. -/
def codeV (k : Int) : Value := .iface 34 (.int .i64 k)
/-- v is an error of this code, wrapped once, met at this place. -/
def Wrap1 (w : World) (s : ByteArray) (a k : Int) (v : Value) : Prop :=
  ∃ b, v = .iface 45 (.pointer (some ⟨b, 0, none⟩)) ∧ Blk w b 47 #[.string s, .int .i64 a, codeV k]

theorem Wrap1.on {w w' : World} {s : ByteArray} {a k : Int} {v : Value} (h : Wrap1 w s a k v) (hb : Below w.heap.size w w') : Wrap1 w' s a k v := by
  obtain ⟨b, hv, hB⟩ := h
  exact ⟨b, hv, hB.on hb⟩

theorem at_code (s : ByteArray) (a k : Int) (w : World) :
    Calls Try.prog 12 #[.string s, .int .i64 a, codeV k] w fun e w' => ∃ v, e = .returned v ∧ Wrap1 w' s a k v ∧ Below w.heap.size w w' := by
  have hn := run_eql_held_nil (P := Try.prog) w
  unfold codeV
  go_enter Try.func12, Try.ntmps12
  go_wp2
  go_ret
  exact ⟨_, rfl, ⟨_, rfl, Blk.new _ _ _⟩, by go_grown⟩

/-! ### what errors.Is asks of the types of this program -/
theorem typeOf_code (k : Int) (w : World) : (ReflectliteType.typeOf #[.iface 34 (.int .i64 k)]).run Try.prog w = .ok (.iface 49 (.agg #[.pointer (some ⟨0, 34, none⟩)])) w := by kernel_rfl
theorem comp_code : (Try.prog.info? 34).map (·.comparable) = some true := by kernel_rfl
theorem comp_run (w : World) : ((ReflectliteType.method fun t => do Rtype.noPackHeld "Comparable" t; (fun a => Value.bool a.comparable) <$> typeInfo t) #[.agg #[.pointer (some ⟨0, 34, none⟩)]]).run Try.prog w = .ok (.bool true) w := by kernel_rfl
theorem noIs (v : Value) (xT : TypeId) (w : World) : (Instr.typeAssert (.iface 45 v) xT 51 true).run Try.prog w = .ok (.tuple #[.nilIface, .bool false]) w := run_typeAssert_lacksB Try.underlying51 (by kernel_rfl) (by kernel_rfl) v xT w
theorem hasUnwrap (v : Value) (xT : TypeId) (w : World) : (Instr.typeAssert (.iface 45 v) xT 54 true).run Try.prog w = .ok (.tuple #[.iface 45 v, .bool true]) w := run_typeAssert_hasB Try.underlying54 (by kernel_rfl) v xT w
theorem noIsC (v : Value) (xT : TypeId) (w : World) : (Instr.typeAssert (.iface 34 v) xT 51 true).run Try.prog w = .ok (.tuple #[.nilIface, .bool false]) w := run_typeAssert_lacksB Try.underlying51 (by kernel_rfl) (by kernel_rfl) v xT w
theorem noUnwrapC (v : Value) (xT : TypeId) (w : World) : (Instr.typeAssert (.iface 34 v) xT 54 true).run Try.prog w = .ok (.tuple #[.nilIface, .bool false]) w := run_typeAssert_lacksB Try.underlying54 (by kernel_rfl) (by kernel_rfl) v xT w
theorem noUnwrapsC (v : Value) (xT : TypeId) (w : World) : (Instr.typeAssert (.iface 34 v) xT 56 true).run Try.prog w = .ok (.tuple #[.nilIface, .bool false]) w := run_typeAssert_lacksB Try.underlying56 (by kernel_rfl) (by kernel_rfl) v xT w

theorem run_equalIn_iface_int (w : World) (d : Nat) {P : Program} {ti tn : TypeId} {ms : Array (String × TypeId)} {i : TypeInfo} {k : IntKind} (a b : Int)
    (hi : P.underlying ti = some (.interface ms)) (hn : P.underlying tn = some (.int k)) (hinfo : P.info? tn = some i) (hcomp : i.comparable = true) :
    (Op.equalIn (d + 2) ti (.iface tn (.int k a)) (.iface tn (.int k b))).run P w = .ok (a == b) w := by
  simp [Op.equalIn, run_underlying hi, run_underlying hn, typeInfo, hinfo, hcomp]
theorem run_equalIn_iface_other (w : World) (d : Nat) {P : Program} {ti tx ty : TypeId} {ms : Array (String × TypeId)} (x y : Value) (hi : P.underlying ti = some (.interface ms)) (hne : tx ≠ ty) :
    (Op.equalIn (d + 2) ti (.iface tx x) (.iface ty y)).run P w = .ok false w := by
  simp [Op.equalIn, run_underlying hi, hne]
theorem eql_code (a b : Int) (w : World) : (binOp .eql 26 (.iface 34 (.int .i64 a)) (.iface 34 (.int .i64 b))).run Try.prog w = .ok (.bool (a == b)) w := by
  obtain ⟨i, hi, hcmp⟩ := Option.map_eq_some_iff.1 comp_code
  simp only [binOp]
  simp [Op.equal, Op.maxDepth, run_equalIn_iface_int w 9998 a b Try.underlying26 Try.underlying34 hi hcmp]
theorem eql_other (v : Value) (b : Int) (w : World) : (binOp .eql 26 (.iface 45 v) (.iface 34 (.int .i64 b))).run Try.prog w = .ok (.bool false) w := by
  simp only [binOp]
  simp [Op.equal, Op.maxDepth, run_equalIn_iface_other w 9998 v (.int .i64 b) Try.underlying26 (show 45 ≠ 34 by decide)]

set_option maxHeartbeats 4000000 in
/-- errors.Is finds the code of an error that is wrapped once. -/
theorem is_wrap1 (s : ByteArray) (a k c : Int) (v : Value) (w : World) (h : Wrap1 w s a k v) :
    Calls Try.prog 10 #[v, .iface 34 (.int .i64 c)] w fun e w' => e = .returned (.bool (k == c)) ∧ Below w.heap.size w w' := by
  obtain ⟨b, rfl, hB⟩ := h
  have g0 : w.cell? ⟨b, 0, none⟩ = some (.string s) := hB.cell 0
  have g1 : w.cell? ⟨b, 1, none⟩ = some (.int .i64 a) := hB.cell 1
  have g2 : w.cell? ⟨b, 2, none⟩ = some (.iface 34 (.int .i64 k)) := hB.cell 2
  clear hB
  have hT := @run_callFunc_extern Try.prog 14 _ ReflectliteType.typeOf Try.func14 (by kernel_rfl) (by kernel_rfl) (by kernel_rfl) (by kernel_rfl)
  have hC := @run_callFunc_extern Try.prog 37 _ (ReflectliteType.method fun t => do Rtype.noPackHeld "Comparable" t; pure (.bool (← typeInfo t).comparable)) Try.func37 (by kernel_rfl) (by kernel_rfl) (by kernel_rfl) (by kernel_rfl)
  have tC := typeOf_code
  have tD := comp_run
  have n1 := noIs
  have n2 := hasUnwrap
  have n3 := noIsC
  have n4 := noUnwrapC
  have n5 := noUnwrapsC
  have q1 := eql_code k c
  have q2 := fun v => eql_other v c
  cases hkc : (k == c)
  all_goals
    go_enter Try.func10, Try.ntmps10
    go_wp2
    refine wp_loop_rounds 2 ?_
    rw [rounds_succ]
    go_wp2
    rw [rounds_succ]
    go_wp2
    go_ret
    exact ⟨rfl, Below.refl _ _⟩
end Go.Proofs.Ytadbaohcniggmaa
