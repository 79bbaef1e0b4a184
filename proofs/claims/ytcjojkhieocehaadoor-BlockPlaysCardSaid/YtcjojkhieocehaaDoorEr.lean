/- The program's errors in the logic: errors.Is finds the code of an error however often it is wrapped. No condition. -/
import Derived.Test.YtcjojkhieocehaaDoorEa
import Derived.LaidEql
import Derived.Stop.Asserts
import Derived.Laws.Externs
namespace Go.Proofs.YtcjojkhieocehaaDoor
set_option linter.unusedVariables false
set_option linter.unusedSimpArgs false
open Go.RowKit Px Go.Extern.Stop Go.Stop Go.Extern
theorem noIs (b : Nat) (xT : TypeId) {K : Value → Prop} : Yld Tryd.prog (Instr.typeAssert (errV b) xT 68 true) K = K (.tuple #[.nilIface, .bool false]) := Yld_eq fun w => run_typeAssert_lacksB Tryd.underlying68 (by kernel_rfl) (by kernel_rfl) _ xT w
theorem hasUnwrap (b : Nat) (xT : TypeId) {K : Value → Prop} : Yld Tryd.prog (Instr.typeAssert (errV b) xT 71 true) K = K (.tuple #[errV b, .bool true]) := Yld_eq fun w => run_typeAssert_hasB Tryd.underlying71 (by kernel_rfl) _ xT w
theorem noIsC (k : Int) (xT : TypeId) {K : Value → Prop} : Yld Tryd.prog (Instr.typeAssert (codeV k) xT 68 true) K = K (.tuple #[.nilIface, .bool false]) := Yld_eq fun w => run_typeAssert_lacksB Tryd.underlying68 (by kernel_rfl) (by kernel_rfl) _ xT w
theorem noUnwrapC (k : Int) (xT : TypeId) {K : Value → Prop} : Yld Tryd.prog (Instr.typeAssert (codeV k) xT 71 true) K = K (.tuple #[.nilIface, .bool false]) := Yld_eq fun w => run_typeAssert_lacksB Tryd.underlying71 (by kernel_rfl) (by kernel_rfl) _ xT w
theorem noUnwrapsC (k : Int) (xT : TypeId) {K : Value → Prop} : Yld Tryd.prog (Instr.typeAssert (codeV k) xT 72 true) K = K (.tuple #[.nilIface, .bool false]) := Yld_eq fun w => run_typeAssert_lacksB Tryd.underlying72 (by kernel_rfl) (by kernel_rfl) _ xT w
theorem comp_code : (Tryd.prog.info? 33).map (·.comparable) = some true := by kernel_rfl
theorem run_equalIn_iface_int (w : World) (d : Nat) {P : Program} {ti tn : TypeId} {ms : Array (String × TypeId)} {i : TypeInfo} {k : IntKind} (a b : Int)
    (hi : P.underlying ti = some (.interface ms)) (hn : P.underlying tn = some (.int k)) (hinfo : P.info? tn = some i) (hcomp : i.comparable = true) :
    (Op.equalIn (d + 2) ti (.iface tn (.int k a)) (.iface tn (.int k b))).run P w = .ok (a == b) w := by
  simp [Op.equalIn, run_underlying hi, run_underlying hn, typeInfo, hinfo, hcomp]
theorem run_equalIn_iface_other (w : World) (d : Nat) {P : Program} {ti tx ty : TypeId} {ms : Array (String × TypeId)} (x y : Value) (hi : P.underlying ti = some (.interface ms)) (hne : tx ≠ ty) :
    (Op.equalIn (d + 2) ti (.iface tx x) (.iface ty y)).run P w = .ok false w := by
  simp [Op.equalIn, run_underlying hi, hne]
theorem eql_code (a b : Int) (w : World) : (binOp .eql 26 (codeV a) (codeV b)).run Tryd.prog w = .ok (.bool (a == b)) w := by
  obtain ⟨i, hi, hcmp⟩ := Option.map_eq_some_iff.1 comp_code
  unfold codeV
  simp only [binOp]
  simp [Op.equal, Op.maxDepth, run_equalIn_iface_int w 9998 a b Tryd.underlying26 Tryd.underlying33 hi hcmp]
theorem eql_other (v : Value) (b : Int) (w : World) : (binOp .eql 26 (.iface 78 v) (codeV b)).run Tryd.prog w = .ok (.bool false) w := by
  unfold codeV
  simp only [binOp]
  simp [Op.equal, Op.maxDepth, run_equalIn_iface_other w 9998 v (.int .i64 b) Tryd.underlying26 (show 78 ≠ 33 by decide)]
theorem y_eqlCC (x y : Tmp) (a b : Int) {K : Value → Prop} : Yld Tryd.prog (binS .eql 26 (.tmp x) (.tmp y) (codeV a) (codeV b)) K = K (.bool (a == b)) := Yld_eq fun w => by
  have := eql_code a b w
  unfold binS eqGuard codeV at *
  simp [this]
theorem y_eqlEC (x y : Tmp) (b : Nat) (c : Int) {K : Value → Prop} : Yld Tryd.prog (binS .eql 26 (.tmp x) (.tmp y) (errV b) (codeV c)) K = K (.bool false) := Yld_eq fun w => by
  have := eql_other (.pointer (some ⟨b, 0, none⟩)) c w
  unfold binS eqGuard errV codeV at *
  simp [this]
theorem unwrap_method (p : Value) (w : World) : (callMethod (.iface 78 p) "Unwrap" #[]).run Tryd.prog w = (callFunc 75 [p].toArray).run Tryd.prog w := by kernel_rfl
set_option maxRecDepth 20000 in
theorem unwrap_any (b : Nat) (s : List UInt8) (a : Int) (u : Value) (w0 : World) (h : PH) (hb : h.m b = some ⟨[str s, .int .i64 a, u], 3⟩) : PCalls Tryd.prog w0 75 [.pointer (some ⟨b, 0, none⟩)] h fun r h' => r = u ∧ h' = h := by
  refine PCalls_body Tryd.func75 (by kernel_rfl) rfl _ Tryd.ntmps75 (by kernel_rfl) (by kernel_rfl) _ Tryd.results75 ?_
  simp -dsimp -implicitDefEqProofs (disch := first | omega | assumption | (simp only [Option.isSome_some, Qt0]; done) | (simp only [UInt64.reduceToNat, UInt32.reduceToNat, UInt8.reduceToNat, List.length_cons, List.length_nil, List.length_append, Int.toNat_natCast] <;> omega) | fail) only [Nat.reduceLT, Nat.reduceLeDiff, Nat.reduceEqDiff, ↓reduceIte, Int.reduceLT, Int.reduceLE, Int.reduceToNat, Int.reduceEq, Int.reduceNe, Nat.reduceAdd, UInt8.reduceOfNat, UInt16.reduceOfNat, UInt32.reduceOfNat, UInt64.reduceOfNat, UInt64.reduceToNat, UInt32.reduceToNat, UInt16.reduceToNat, UInt8.reduceToNat, Int.reduceAdd, Int.reduceSub, Int.reduceMul, Nat.reduceMul, Qp0, Ql0, Qe0, rd_M, rdM_some, hb]
  exact ⟨_, PH.Le.refl _, by trivial, rfl⟩
set_option maxRecDepth 20000 in
/-- errors.is. -/
theorem is_any' (c : Int) (w0 : World) (h : PH) (e0 : Er) (v0 : Value) (hv0 : EV h e0 v0) : PCalls Tryd.prog w0 18 [v0, codeV c, .bool true] h fun r h' => r = .bool (e0.num == c) ∧ h' = h := by
  refine PCalls_body Tryd.func18 (by kernel_rfl) rfl _ Tryd.ntmps18 (by kernel_rfl) (by kernel_rfl) _ Tryd.results18 ?_
  simp -dsimp -implicitDefEqProofs (disch := first | omega | assumption | (simp only [Option.isSome_some, Qt0]; done) | (simp only [UInt64.reduceToNat, UInt32.reduceToNat, UInt8.reduceToNat, List.length_cons, List.length_nil, List.length_append, Int.toNat_natCast] <;> omega) | fail) only [Nat.reduceLT, Nat.reduceLeDiff, Nat.reduceEqDiff, ↓reduceIte, Int.reduceLT, Int.reduceLE, Int.reduceToNat, Int.reduceEq, Int.reduceNe, Nat.reduceAdd, UInt8.reduceOfNat, UInt16.reduceOfNat, UInt32.reduceOfNat, UInt64.reduceOfNat, UInt64.reduceToNat, UInt32.reduceToNat, UInt16.reduceToNat, UInt8.reduceToNat, Int.reduceAdd, Int.reduceSub, Int.reduceMul, Nat.reduceMul, Qp0, Ql0, Qe0]
  refine PW_loop (fun n f h' => ∃ (e : Er) (v : Value), e.deep = n ∧ e.num = e0.num ∧ EV h e v ∧ f 0 = some v ∧ f 1 = some (codeV c) ∧ f 2 = some (.bool true) ∧ h' = h) (by kernel_rfl) e0.deep ⟨e0, v0, rfl, rfl, hv0, ?_, ?_, ?_, rfl⟩ ?_
  · simp -dsimp -implicitDefEqProofs (disch := first | omega | assumption | (simp only [Option.isSome_some, Qt0]; done) | (simp only [UInt64.reduceToNat, UInt32.reduceToNat, UInt8.reduceToNat, List.length_cons, List.length_nil, List.length_append, Int.toNat_natCast] <;> omega) | fail) only [Nat.reduceLT, Nat.reduceLeDiff, Nat.reduceEqDiff, ↓reduceIte, Int.reduceLT, Int.reduceLE, Int.reduceToNat, Int.reduceEq, Int.reduceNe, Nat.reduceAdd, UInt8.reduceOfNat, UInt16.reduceOfNat, UInt32.reduceOfNat, UInt64.reduceOfNat, UInt64.reduceToNat, UInt32.reduceToNat, UInt16.reduceToNat, UInt8.reduceToNat, Int.reduceAdd, Int.reduceSub, Int.reduceMul, Nat.reduceMul, Qp0, Ql0, Qe0]
  · simp -dsimp -implicitDefEqProofs (disch := first | omega | assumption | (simp only [Option.isSome_some, Qt0]; done) | (simp only [UInt64.reduceToNat, UInt32.reduceToNat, UInt8.reduceToNat, List.length_cons, List.length_nil, List.length_append, Int.toNat_natCast] <;> omega) | fail) only [Nat.reduceLT, Nat.reduceLeDiff, Nat.reduceEqDiff, ↓reduceIte, Int.reduceLT, Int.reduceLE, Int.reduceToNat, Int.reduceEq, Int.reduceNe, Nat.reduceAdd, UInt8.reduceOfNat, UInt16.reduceOfNat, UInt32.reduceOfNat, UInt64.reduceOfNat, UInt64.reduceToNat, UInt32.reduceToNat, UInt16.reduceToNat, UInt8.reduceToNat, Int.reduceAdd, Int.reduceSub, Int.reduceMul, Nat.reduceMul, Qp0, Ql0, Qe0]
  · simp -dsimp -implicitDefEqProofs (disch := first | omega | assumption | (simp only [Option.isSome_some, Qt0]; done) | (simp only [UInt64.reduceToNat, UInt32.reduceToNat, UInt8.reduceToNat, List.length_cons, List.length_nil, List.length_append, Int.toNat_natCast] <;> omega) | fail) only [Nat.reduceLT, Nat.reduceLeDiff, Nat.reduceEqDiff, ↓reduceIte, Int.reduceLT, Int.reduceLE, Int.reduceToNat, Int.reduceEq, Int.reduceNe, Nat.reduceAdd, UInt8.reduceOfNat, UInt16.reduceOfNat, UInt32.reduceOfNat, UInt64.reduceOfNat, UInt64.reduceToNat, UInt32.reduceToNat, UInt16.reduceToNat, UInt8.reduceToNat, Int.reduceAdd, Int.reduceSub, Int.reduceMul, Nat.reduceMul, Qp0, Ql0, Qe0]
  rintro n f h' ⟨e, v, rfl, hn, hv, f0, f1, f2, rfl⟩
  rw [← hn]
  cases e with
  | code k =>
    obtain rfl : v = codeV k := hv
    have hnum : (Er.code k).num = k := rfl
    rw [hnum]
    cases hkc : (k == c)
    · simp -dsimp -implicitDefEqProofs (disch := first | omega | assumption | (simp only [Option.isSome_some, Qt0]; done) | (simp only [UInt64.reduceToNat, UInt32.reduceToNat, UInt8.reduceToNat, List.length_cons, List.length_nil, List.length_append, Int.toNat_natCast] <;> omega) | fail) only [Nat.reduceLT, Nat.reduceLeDiff, Nat.reduceEqDiff, ↓reduceIte, Int.reduceLT, Int.reduceLE, Int.reduceToNat, Int.reduceEq, Int.reduceNe, Nat.reduceAdd, UInt8.reduceOfNat, UInt16.reduceOfNat, UInt32.reduceOfNat, UInt64.reduceOfNat, UInt64.reduceToNat, UInt32.reduceToNat, UInt16.reduceToNat, UInt8.reduceToNat, Int.reduceAdd, Int.reduceSub, Int.reduceMul, Nat.reduceMul, Qp0, Ql0, Qe0, f0, f1, f2, y_eqlCC, hkc, noIsC, noUnwrapC, noUnwrapsC]
      exact ⟨_, PH.Le.refl _, by trivial, rfl⟩
    · simp -dsimp -implicitDefEqProofs (disch := first | omega | assumption | (simp only [Option.isSome_some, Qt0]; done) | (simp only [UInt64.reduceToNat, UInt32.reduceToNat, UInt8.reduceToNat, List.length_cons, List.length_nil, List.length_append, Int.toNat_natCast] <;> omega) | fail) only [Nat.reduceLT, Nat.reduceLeDiff, Nat.reduceEqDiff, ↓reduceIte, Int.reduceLT, Int.reduceLE, Int.reduceToNat, Int.reduceEq, Int.reduceNe, Nat.reduceAdd, UInt8.reduceOfNat, UInt16.reduceOfNat, UInt32.reduceOfNat, UInt64.reduceOfNat, UInt64.reduceToNat, UInt32.reduceToNat, UInt16.reduceToNat, UInt8.reduceToNat, Int.reduceAdd, Int.reduceSub, Int.reduceMul, Nat.reduceMul, Qp0, Ql0, Qe0, f0, f1, f2, y_eqlCC, hkc]
      exact ⟨_, PH.Le.refl _, by trivial, rfl⟩
  | wrap s a e =>
    obtain ⟨b, u, rfl, hb, hu⟩ := hv
    have hun := Lib.hid (@unwrap_any b s a u w0 h' hb)
    obtain ⟨t, x, rfl⟩ := hu.held
    simp -dsimp -implicitDefEqProofs (disch := first | omega | assumption | (simp only [Option.isSome_some, Qt0]; done) | (simp only [UInt64.reduceToNat, UInt32.reduceToNat, UInt8.reduceToNat, List.length_cons, List.length_nil, List.length_append, Int.toNat_natCast] <;> omega) | fail) only [Nat.reduceLT, Nat.reduceLeDiff, Nat.reduceEqDiff, ↓reduceIte, Int.reduceLT, Int.reduceLE, Int.reduceToNat, Int.reduceEq, Int.reduceNe, Nat.reduceAdd, UInt8.reduceOfNat, UInt16.reduceOfNat, UInt32.reduceOfNat, UInt64.reduceOfNat, UInt64.reduceToNat, UInt32.reduceToNat, UInt16.reduceToNat, UInt8.reduceToNat, Int.reduceAdd, Int.reduceSub, Int.reduceMul, Nat.reduceMul, Qp0, Ql0, Qe0, f0, f1, f2, y_eqlEC, noIs, hasUnwrap]
    refine ⟨_, _, unwrap_method _, hun.out.mono ?_⟩
    rintro v hz ⟨rfl, rfl⟩
    simp -dsimp -implicitDefEqProofs (disch := first | omega | assumption | (simp only [Option.isSome_some, Qt0]; done) | (simp only [UInt64.reduceToNat, UInt32.reduceToNat, UInt8.reduceToNat, List.length_cons, List.length_nil, List.length_append, Int.toNat_natCast] <;> omega) | fail) only [Nat.reduceLT, Nat.reduceLeDiff, Nat.reduceEqDiff, ↓reduceIte, Int.reduceLT, Int.reduceLE, Int.reduceToNat, Int.reduceEq, Int.reduceNe, Nat.reduceAdd, UInt8.reduceOfNat, UInt16.reduceOfNat, UInt32.reduceOfNat, UInt64.reduceOfNat, UInt64.reduceToNat, UInt32.reduceToNat, UInt16.reduceToNat, UInt8.reduceToNat, Int.reduceAdd, Int.reduceSub, Int.reduceMul, Nat.reduceMul, Qp0, Ql0, Qe0, f0, f1, f2]
    exact ⟨e.deep, _, Nat.lt_succ_self _, PH.Le.refl _, e, _, rfl, rfl, hu, rfl, by trivial, by trivial, rfl⟩
set_option maxRecDepth 20000 in
theorem typeOf_code (k : Int) (w : World) : (ReflectliteType.typeOf #[codeV k]).run Tryd.prog w = .ok (.iface 66 (.agg #[.pointer (some ⟨1, 33, none⟩)])) w := by kernel_rfl
theorem comp_run (w : World) : ((ReflectliteType.method fun t => do Rtype.noPackHeld "Comparable" t; (fun a => Value.bool a.comparable) <$> typeInfo t) #[.agg #[.pointer (some ⟨1, 33, none⟩)]]).run Tryd.prog w = .ok (.bool true) w := by kernel_rfl
theorem typeof_any (k : Int) (w0 : World) (h : PH) : PCalls Tryd.prog w0 17 [codeV k] h fun r h' => r = .iface 66 (.agg #[.pointer (some ⟨1, 33, none⟩)]) ∧ h' = h := by
  refine PCalls_value _ (fun w => ?_) ⟨rfl, rfl⟩
  rw [@run_callFunc_extern Tryd.prog 17 _ ReflectliteType.typeOf Tryd.func17 (by kernel_rfl) (by kernel_rfl) (by kernel_rfl) (by kernel_rfl), typeOf_code]
  rfl
theorem comp_any (w0 : World) (h : PH) : PCalls Tryd.prog w0 65 [.agg #[.pointer (some ⟨1, 33, none⟩)]] h fun r h' => r = .bool true ∧ h' = h := by
  refine PCalls_value _ (fun w => ?_) ⟨rfl, rfl⟩
  rw [@run_callFunc_extern Tryd.prog 65 _ (ReflectliteType.method fun t => do Rtype.noPackHeld "Comparable" t; pure (.bool (← typeInfo t).comparable)) Tryd.func65 (by kernel_rfl) (by kernel_rfl) (by kernel_rfl) (by kernel_rfl)]
  have := comp_run w
  simp only [bind_pure_comp] at this ⊢
  rw [this]
  rfl
theorem comp_method (w : World) : (callMethod (.iface 66 (.agg #[.pointer (some ⟨1, 33, none⟩)])) "Comparable" #[]).run Tryd.prog w = (callFunc 65 [.agg #[.pointer (some ⟨1, 33, none⟩)]].toArray).run Tryd.prog w := by kernel_rfl
/-- errors.Is. -/
theorem is_any (c : Int) (w0 : World) (h : PH) (e0 : Er) (v0 : Value) (hv0 : EV h e0 v0) : PCalls Tryd.prog w0 7 [v0, codeV c] h fun r h' => r = .bool (e0.num == c) ∧ h' = h := by
  refine PCalls_body Tryd.func7 (by kernel_rfl) rfl _ Tryd.ntmps7 (by kernel_rfl) (by kernel_rfl) _ Tryd.results7 ?_
  have hI := Lib.hid (@is_any' c w0 h e0 v0 hv0)
  obtain ⟨t, x, rfl⟩ := hv0.held
  unfold codeV
  simp -dsimp -implicitDefEqProofs (disch := first | omega | assumption | (simp only [Option.isSome_some, Qt0]; done) | (simp only [UInt64.reduceToNat, UInt32.reduceToNat, UInt8.reduceToNat, List.length_cons, List.length_nil, List.length_append, Int.toNat_natCast] <;> omega) | fail) only [Nat.reduceLT, Nat.reduceLeDiff, Nat.reduceEqDiff, ↓reduceIte, Int.reduceLT, Int.reduceLE, Int.reduceToNat, Int.reduceEq, Int.reduceNe, Nat.reduceAdd, UInt8.reduceOfNat, UInt16.reduceOfNat, UInt32.reduceOfNat, UInt64.reduceOfNat, UInt64.reduceToNat, UInt32.reduceToNat, UInt16.reduceToNat, UInt8.reduceToNat, Int.reduceAdd, Int.reduceSub, Int.reduceMul, Nat.reduceMul, Qp0, Ql0, Qe0]
  refine (typeof_any c w0 h).mono ?_
  rintro v hz hv
  obtain ⟨rfl, rfl⟩ := hv
  simp -dsimp -implicitDefEqProofs (disch := first | omega | assumption | (simp only [Option.isSome_some, Qt0]; done) | (simp only [UInt64.reduceToNat, UInt32.reduceToNat, UInt8.reduceToNat, List.length_cons, List.length_nil, List.length_append, Int.toNat_natCast] <;> omega) | fail) only [Nat.reduceLT, Nat.reduceLeDiff, Nat.reduceEqDiff, ↓reduceIte, Int.reduceLT, Int.reduceLE, Int.reduceToNat, Int.reduceEq, Int.reduceNe, Nat.reduceAdd, UInt8.reduceOfNat, UInt16.reduceOfNat, UInt32.reduceOfNat, UInt64.reduceOfNat, UInt64.reduceToNat, UInt32.reduceToNat, UInt16.reduceToNat, UInt8.reduceToNat, Int.reduceAdd, Int.reduceSub, Int.reduceMul, Nat.reduceMul, Qp0, Ql0, Qe0]
  refine ⟨_, _, comp_method, (comp_any w0 _).mono ?_⟩
  rintro v hy hv
  obtain ⟨rfl, rfl⟩ := hv
  simp -dsimp -implicitDefEqProofs (disch := first | omega | assumption | (simp only [Option.isSome_some, Qt0]; done) | (simp only [UInt64.reduceToNat, UInt32.reduceToNat, UInt8.reduceToNat, List.length_cons, List.length_nil, List.length_append, Int.toNat_natCast] <;> omega) | fail) only [Nat.reduceLT, Nat.reduceLeDiff, Nat.reduceEqDiff, ↓reduceIte, Int.reduceLT, Int.reduceLE, Int.reduceToNat, Int.reduceEq, Int.reduceNe, Nat.reduceAdd, UInt8.reduceOfNat, UInt16.reduceOfNat, UInt32.reduceOfNat, UInt64.reduceOfNat, UInt64.reduceToNat, UInt32.reduceToNat, UInt16.reduceToNat, UInt8.reduceToNat, Int.reduceAdd, Int.reduceSub, Int.reduceMul, Nat.reduceMul, Qp0, Ql0, Qe0]
  refine hI.out.mono ?_
  rintro v hx ⟨rfl, rfl⟩
  simp -dsimp -implicitDefEqProofs (disch := first | omega | assumption | (simp only [Option.isSome_some, Qt0]; done) | (simp only [UInt64.reduceToNat, UInt32.reduceToNat, UInt8.reduceToNat, List.length_cons, List.length_nil, List.length_append, Int.toNat_natCast] <;> omega) | fail) only [Nat.reduceLT, Nat.reduceLeDiff, Nat.reduceEqDiff, ↓reduceIte, Int.reduceLT, Int.reduceLE, Int.reduceToNat, Int.reduceEq, Int.reduceNe, Nat.reduceAdd, UInt8.reduceOfNat, UInt16.reduceOfNat, UInt32.reduceOfNat, UInt64.reduceOfNat, UInt64.reduceToNat, UInt32.reduceToNat, UInt16.reduceToNat, UInt8.reduceToNat, Int.reduceAdd, Int.reduceSub, Int.reduceMul, Nat.reduceMul, Qp0, Ql0, Qe0]
  exact ⟨_, PH.Le.refl _, by trivial, rfl⟩
end Go.Proofs.YtcjojkhieocehaaDoor
