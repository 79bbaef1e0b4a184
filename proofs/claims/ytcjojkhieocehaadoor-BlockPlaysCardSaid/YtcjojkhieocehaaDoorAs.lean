/- errors.As at a variable for the program's own error: which it finds, and what it leaves there; fail.Place. No condition. -/
import Derived.Test.YtcjojkhieocehaaDoorAg
namespace Go.Proofs.YtcjojkhieocehaaDoor.As
set_option linter.unusedVariables false
set_option linter.unusedSimpArgs false
open Go.RowKit Px Go.Extern.Stop Go.Stop Go.Extern
/-! ### closed facts on the model's entries, at this target's types -/
abbrev VP (a : Nat) : Value := .agg #[.pointer (some ⟨1, 80, none⟩), .pointer (some ⟨a, 0, none⟩), .int .u64 150]
abbrev VA (a : Nat) : Value := .agg #[.pointer (some ⟨1, 78, none⟩), .pointer (some ⟨a, 0, none⟩), .int .u64 406]
abbrev VE (a : Nat) : Value := .agg #[.pointer (some ⟨1, 78, none⟩), .pointer (some ⟨a, 0, none⟩), .int .u64 150]
theorem valueOfP (t : Nat) (w : World) : (ReflectliteValue.unpack (.iface 80 (.pointer (some ⟨t, 0, none⟩)))).run Tryd.prog w = .ok (VP w.heap.size) (w.alloc (.cells #[.pointer (some ⟨t, 0, none⟩)] 80)) := by kernel_rfl
theorem typeP (a : Nat) (w : World) : (ReflectliteValue.methodAny (ReflectliteValue.valueError "reflectlite.Value.Type" 0) (fun t _ _ _ => ReflectliteType.toType t) #[VP a]).run Tryd.prog w = .ok (rtV 80) w := by kernel_rfl
theorem kindP (w : World) : ((ReflectliteType.abiMethod fun t => (fun a : Nat => Value.int IntKind.u8 (a : Int)) <$> Rtype.kind t) #[.pointer (some ⟨1, 80, none⟩)]).run Tryd.prog w = .ok (.int .u8 22) w := by kernel_rfl
theorem kindE (w : World) : ((ReflectliteType.abiMethod fun t => (fun a : Nat => Value.int IntKind.u8 (a : Int)) <$> Rtype.kind t) #[.pointer (some ⟨1, 78, none⟩)]).run Tryd.prog w = .ok (.int .u8 22) w := by kernel_rfl
theorem partsP (a : Nat) (w : World) : (ReflectliteValue.parts (VP a)).run Tryd.prog w = .ok (some (80, ⟨a, 0, none⟩, 150)) w := by kernel_rfl
theorem partsA (a : Nat) (w : World) : (ReflectliteValue.parts (VA a)).run Tryd.prog w = .ok (some (78, ⟨a, 0, none⟩, 406)) w := by kernel_rfl
theorem partsE (a : Nat) (w : World) : (ReflectliteValue.parts (VE a)).run Tryd.prog w = .ok (some (78, ⟨a, 0, none⟩, 150)) w := by kernel_rfl
theorem isNilP (a : Nat) (p : Addr) (W : World) (ha : W.cell? ⟨a, 0, none⟩ = some (.pointer (some p))) : (ReflectliteValue.method (ReflectliteValue.valueError "reflectlite.Value.IsNil" 0) ReflectliteValue.isNil #[VP a]).run Tryd.prog W = .ok (.bool false) W := by
  rw [rlm]
  simp only [Sem.run_bind, partsP, Result.andThen]
  simp [ReflectliteValue.isNil, loadVar, isAgg, underlying, Tryd.underlying80, ha, Result.andThen]
theorem elemT (w : World) : (ReflectliteType.method ReflectliteType.elem #[.agg #[.pointer (some ⟨1, 80, none⟩)]]).run Tryd.prog w = .ok (rtV 78) w := by kernel_rfl
theorem implT (w : World) : (ReflectliteType.relation "Implements" ReflectliteType.implements_ #[.agg #[.pointer (some ⟨1, 78, none⟩)], rtV 26]).run Tryd.prog w = .ok (.bool true) w := by kernel_rfl
theorem assignE (w : World) : (ReflectliteType.relation "AssignableTo" ReflectliteType.assignableTo #[.agg #[.pointer (some ⟨1, 78, none⟩)], rtV 78]).run Tryd.prog w = .ok (.bool true) w := by kernel_rfl
theorem assignC (w : World) : (ReflectliteType.relation "AssignableTo" ReflectliteType.assignableTo #[.agg #[.pointer (some ⟨1, 33, none⟩)], rtV 78]).run Tryd.prog w = .ok (.bool false) w := by kernel_rfl
theorem valueOfE (v : Nat) (w : World) : (ReflectliteValue.unpack (.iface 78 (.pointer (some ⟨v, 0, none⟩)))).run Tryd.prog w = .ok (VE w.heap.size) (w.alloc (.cells #[.pointer (some ⟨v, 0, none⟩)] 78)) := by kernel_rfl
theorem elemOfP (w : World) : (Rtype.elem? 80).run Tryd.prog w = .ok (some 78) w := by kernel_rfl
theorem mkA (p : Nat) (w : World) : (ReflectliteValue.mk 78 ⟨p, 0, none⟩ ReflectliteValue.flagAddr).run Tryd.prog w = .ok (VA p) w := by kernel_rfl
theorem elemV (a p : Nat) (W : World) (ha : W.cell? ⟨a, 0, none⟩ = some (.pointer (some ⟨p, 0, none⟩))) : (ReflectliteValue.method (ReflectliteValue.valueError "reflectlite.Value.Elem" 0) ReflectliteValue.elem #[VP a]).run Tryd.prog W = .ok (VA p) W := by
  rw [rlm]
  simp only [Sem.run_bind, partsP, Result.andThen]
  simp [ReflectliteValue.elem, loadVar, isAgg, underlying, Tryd.underlying80, ha, Result.andThen, elemOfP, mkA]
theorem directE (w : World) : (Rtype.directlyAssignable 78 78).run Tryd.prog w = .ok true w := by kernel_rfl
theorem sizeE (w : World) : (sizeOf 78).run Tryd.prog w = .ok 1 w := by kernel_rfl
theorem setE (ta b : Nat) (v : Nat) (old : Value) (W : World) (hb : W.cell? ⟨b, 0, none⟩ = some (.pointer (some ⟨v, 0, none⟩))) (ht : W.cell? ⟨ta, 0, none⟩ = some old) (hf : W.frozen? ⟨ta, 0, none⟩ = false) :
    (ReflectliteValue.set #[VA ta, VE b]).run Tryd.prog W = .ok (.tuple #[]) (W.setCell ⟨ta, 0, none⟩ (.pointer (some ⟨v, 0, none⟩))) := by
  rw [rls]
  simp only [Sem.run_bind, partsA, partsE, Result.andThen]
  simp [ReflectliteValue.flagAddr, loadVar, isAgg, underlying, Tryd.underlying78, hb, Result.andThen, directE, storeVar, Value.cells, storeCells, Addr.add]
  rw [run_store Tryd.prog W ⟨ta, 0, none⟩ _ _ (by rfl)]
  simp [ht, hf]
/-! ### the library's functions in the logic -/
section
variable (w0 : World) (h : PH)
theorem c_valueOfP (t : Nat) : PCalls Tryd.prog w0 39 [.iface 80 (.pointer (some ⟨t, 0, none⟩))] h fun r h' => ∃ b, h.top ≤ b ∧ r = VP b ∧ h' = h.new b ⟨[.pointer (some ⟨t, 0, none⟩)], 1⟩ :=
  PCalls_extNew (e := fun args => ReflectliteValue.unpack (args.getD 0 (.tuple #[]))) Tryd.func39 (by kernel_rfl) (by kernel_rfl) (by kernel_rfl) (by kernel_rfl) 80 [.pointer (some ⟨t, 0, none⟩)] VP (fun w => valueOfP t w) fun b hb => ⟨b, hb, rfl, rfl⟩
theorem c_valueOfE (v : Nat) : PCalls Tryd.prog w0 39 [.iface 78 (.pointer (some ⟨v, 0, none⟩))] h fun r h' => ∃ b, h.top ≤ b ∧ r = VE b ∧ h' = h.new b ⟨[.pointer (some ⟨v, 0, none⟩)], 1⟩ :=
  PCalls_extNew (e := fun args => ReflectliteValue.unpack (args.getD 0 (.tuple #[]))) Tryd.func39 (by kernel_rfl) (by kernel_rfl) (by kernel_rfl) (by kernel_rfl) 78 [.pointer (some ⟨v, 0, none⟩)] VE (fun w => valueOfE v w) fun b hb => ⟨b, hb, rfl, rfl⟩
theorem c_typeP (a : Nat) : PCalls Tryd.prog w0 40 [VP a] h fun r h' => r = rtV 80 ∧ h' = h :=
  PCalls_ext (e := ReflectliteValue.methodAny (ReflectliteValue.valueError "reflectlite.Value.Type" 0) (fun t _ _ _ => ReflectliteType.toType t)) Tryd.func40 (by kernel_rfl) (by kernel_rfl) (by kernel_rfl) (by kernel_rfl) _ (fun w _ => typeP a w) ⟨rfl, rfl⟩
theorem c_kindP : PCalls Tryd.prog w0 59 [.pointer (some ⟨1, 80, none⟩)] h fun r h' => r = u8 22 ∧ h' = h :=
  PCalls_ext (e := ReflectliteType.abiMethod fun t => do pure (.int .u8 (← Rtype.kind t))) Tryd.func59 (by kernel_rfl) (by kernel_rfl) (by kernel_rfl) (by kernel_rfl) (.int .u8 22) (fun w _ => by have := kindP w; simp only [bind_pure_comp] at this ⊢; exact this) ⟨rfl, rfl⟩
theorem c_kindE : PCalls Tryd.prog w0 59 [.pointer (some ⟨1, 78, none⟩)] h fun r h' => r = u8 22 ∧ h' = h :=
  PCalls_ext (e := ReflectliteType.abiMethod fun t => do pure (.int .u8 (← Rtype.kind t))) Tryd.func59 (by kernel_rfl) (by kernel_rfl) (by kernel_rfl) (by kernel_rfl) (.int .u8 22) (fun w _ => by have := kindE w; simp only [bind_pure_comp] at this ⊢; exact this) ⟨rfl, rfl⟩
theorem c_isNilP (a p : Nat) (ha : h.m a = some ⟨[.pointer (some ⟨p, 0, none⟩)], 1⟩) : PCalls Tryd.prog w0 41 [VP a] h fun r h' => r = .bool false ∧ h' = h :=
  PCalls_ext (e := ReflectliteValue.method (ReflectliteValue.valueError "reflectlite.Value.IsNil" 0) ReflectliteValue.isNil) Tryd.func41 (by kernel_rfl) (by kernel_rfl) (by kernel_rfl) (by kernel_rfl) _ (fun w s => isNilP a ⟨p, 0, none⟩ w (rd_sound s (by simp [rd, ha]))) ⟨rfl, rfl⟩
theorem c_elemT : PCalls Tryd.prog w0 66 [.agg #[.pointer (some ⟨1, 80, none⟩)]] h fun r h' => r = rtV 78 ∧ h' = h :=
  PCalls_ext (e := ReflectliteType.method ReflectliteType.elem) Tryd.func66 (by kernel_rfl) (by kernel_rfl) (by kernel_rfl) (by kernel_rfl) _ (fun w _ => elemT w) ⟨rfl, rfl⟩
theorem c_implT : PCalls Tryd.prog w0 67 [.agg #[.pointer (some ⟨1, 78, none⟩)], rtV 26] h fun r h' => r = .bool true ∧ h' = h :=
  PCalls_ext (e := ReflectliteType.relation "Implements" ReflectliteType.implements_) Tryd.func67 (by kernel_rfl) (by kernel_rfl) (by kernel_rfl) (by kernel_rfl) _ (fun w _ => implT w) ⟨rfl, rfl⟩
theorem c_assignE : PCalls Tryd.prog w0 64 [.agg #[.pointer (some ⟨1, 78, none⟩)], rtV 78] h fun r h' => r = .bool true ∧ h' = h :=
  PCalls_ext (e := ReflectliteType.relation "AssignableTo" ReflectliteType.assignableTo) Tryd.func64 (by kernel_rfl) (by kernel_rfl) (by kernel_rfl) (by kernel_rfl) _ (fun w _ => assignE w) ⟨rfl, rfl⟩
theorem c_assignC : PCalls Tryd.prog w0 64 [.agg #[.pointer (some ⟨1, 33, none⟩)], rtV 78] h fun r h' => r = .bool false ∧ h' = h :=
  PCalls_ext (e := ReflectliteType.relation "AssignableTo" ReflectliteType.assignableTo) Tryd.func64 (by kernel_rfl) (by kernel_rfl) (by kernel_rfl) (by kernel_rfl) _ (fun w _ => assignC w) ⟨rfl, rfl⟩
theorem c_elemV (a p : Nat) (ha : h.m a = some ⟨[.pointer (some ⟨p, 0, none⟩)], 1⟩) : PCalls Tryd.prog w0 43 [VP a] h fun r h' => r = VA p ∧ h' = h :=
  PCalls_ext (e := ReflectliteValue.method (ReflectliteValue.valueError "reflectlite.Value.Elem" 0) ReflectliteValue.elem) Tryd.func43 (by kernel_rfl) (by kernel_rfl) (by kernel_rfl) (by kernel_rfl) _ (fun w s => elemV a p w (rd_sound s (by simp [rd, ha]))) ⟨rfl, rfl⟩
theorem c_setE (t b : Nat) (v : Nat) (old : Value) (lim : Nat) (ht : h.m t = some ⟨[old], lim⟩) (hb : h.m b = some ⟨[.pointer (some ⟨v, 0, none⟩)], 1⟩) : PCalls Tryd.prog w0 44 [VA t, VE b] h fun r h' => r = .tuple #[] ∧ h' = h.new t ⟨[.pointer (some ⟨v, 0, none⟩)], lim⟩ :=
  PCalls_extSet (e := ReflectliteValue.set) Tryd.func44 (by kernel_rfl) (by kernel_rfl) (by kernel_rfl) (by kernel_rfl) t lim (.pointer (some ⟨v, 0, none⟩)) old _ ht (fun w s h1 h2 => setE t b v old w (rd_sound s (by simp [rd, hb])) h1 h2) ⟨rfl, rfl⟩
end
theorem zcV : zcells Tryd.prog 86 = some [.pointer none, .pointer none, .int .u64 0] := by kernel_rfl
theorem ldT {w0 : World} {h : PH} {k : Value → Prop} (a : Addr) : vload Tryd.prog w0 h 53 a k = oget (rd w0 h a) k := vload_one (by kernel_rfl)
theorem allV (t a : Nat) (k : Int) : allOne [.pointer (some ⟨1, t, none⟩), .pointer (some ⟨a, 0, none⟩), .int .u64 k] := by
  intro u hu
  simp at hu
  rcases hu with rfl | rfl | rfl <;> trivial
theorem noAs (t : TypeId) (v : Value) (h0 : t = 33 ∨ t = 78) (xT : TypeId) {K : Value → Prop} : Yld Tryd.prog (Instr.typeAssert (.iface t v) xT 95 true) K = K (.tuple #[.nilIface, .bool false]) := Yld_eq fun w => by
  rcases h0 with rfl | rfl
  · exact run_typeAssert_lacksB Tryd.underlying95 (by kernel_rfl) (by kernel_rfl) _ xT w
  · exact run_typeAssert_lacksB Tryd.underlying95 (by kernel_rfl) (by kernel_rfl) _ xT w
theorem noUnwrapA (k : Int) (xT : TypeId) {K : Value → Prop} : Yld Tryd.prog (Instr.typeAssert (.iface 33 (.int .i64 k)) xT 71 true) K = K (.tuple #[.nilIface, .bool false]) := Yld_eq fun w => run_typeAssert_lacksB Tryd.underlying71 (by kernel_rfl) (by kernel_rfl) _ xT w
theorem noUnwrapsA (k : Int) (xT : TypeId) {K : Value → Prop} : Yld Tryd.prog (Instr.typeAssert (.iface 33 (.int .i64 k)) xT 72 true) K = K (.tuple #[.nilIface, .bool false]) := Yld_eq fun w => run_typeAssert_lacksB Tryd.underlying72 (by kernel_rfl) (by kernel_rfl) _ xT w
theorem hasUnwrapA (b : Nat) (xT : TypeId) {K : Value → Prop} : Yld Tryd.prog (Instr.typeAssert (.iface 78 (.pointer (some ⟨b, 0, none⟩))) xT 71 true) K = K (.tuple #[.iface 78 (.pointer (some ⟨b, 0, none⟩)), .bool true]) := Yld_eq fun w => run_typeAssert_hasB Tryd.underlying71 (by kernel_rfl) _ xT w
end Go.Proofs.YtcjojkhieocehaaDoor.As
