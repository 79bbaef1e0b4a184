/- The program's errors in the logic: fail.At wraps an error with a place;  No condition. -/
import Derived.Test.YtcjojkhieocehaaDoorPb
namespace Go.Proofs.YtcjojkhieocehaaDoor
set_option linter.unusedVariables false
set_option linter.unusedSimpArgs false
open Go.RowKit Px
/-- A code with places around it, the outermost first. -/
inductive Er where
  | code (k : Int)
  | wrap (s : List UInt8) (a : Int) (e : Er)
def Er.num : Er → Int
  | .code k => k
  | .wrap _ _ e => e.num
def Er.deep : Er → Nat
  | .code _ => 0
  | .wrap _ _ e => e.deep + 1
def codeV (k : Int) : Value := .iface 33 (.int .i64 k)
def errV (b : Nat) : Value := .iface 78 (.pointer (some ⟨b, 0, none⟩))
/-- A value that is this error. -/
def EV (h : PH) : Er → Value → Prop
  | .code k, v => v = codeV k
  | .wrap s a e, v => ∃ b u, v = errV b ∧ h.m b = some ⟨[str s, .int .i64 a, u], 3⟩ ∧ EV h e u
theorem EV.more {h h' : PH} (l : PH.Le h h') : ∀ {e : Er} {v : Value}, EV h e v → EV h' e v
  | .code _, _, hv => hv
  | .wrap _ _ _, _, ⟨b, u, h1, h2, h3⟩ => ⟨b, u, h1, l.m _ _ h2, EV.more l h3⟩
theorem EV.held {h : PH} : ∀ {e : Er} {v : Value}, EV h e v → ∃ t x, v = .iface t x
  | .code k, _, hv => ⟨_, _, hv⟩
  | .wrap _ _ _, _, ⟨b, u, h1, h2, h3⟩ => ⟨_, _, h1⟩
theorem one_code (k : Int) : One (codeV k) = True := eq_true ⟨rfl, rfl⟩
theorem EV.at {h : PH} {s : List UInt8} {a : Int} {e : Er} {v : Value} (hv : EV h e v) {b : Nat} (hb : h.top ≤ b) : EV (h.new b ⟨[str s, .int .i64 a, v], 3⟩) (.wrap s a e) (errV b) :=
  ⟨b, v, rfl, by rw [PH.new_m, if_pos rfl], hv.more ((PH.Le.refl h).new _ _ hb)⟩
set_option maxRecDepth 20000 in
theorem at_any (s : List UInt8) (a : Int) (t : TypeId) (x : Value) (w0 : World) (h : PH) : PCalls Tryd.prog w0 37 [str s, .int .i64 a, .iface t x] h fun r h' => ∃ b, r = errV b ∧ h.top ≤ b ∧ h' = h.new b ⟨[str s, .int .i64 a, .iface t x], 3⟩ := by
  refine PCalls_body Tryd.func37 (by kernel_rfl) rfl _ Tryd.ntmps37 (by kernel_rfl) (by kernel_rfl) _ Tryd.results37 ?_
  simp -dsimp -implicitDefEqProofs (disch := first | omega | assumption | (simp only [Option.isSome_some, Qt0]; done) | (simp only [UInt64.reduceToNat, UInt32.reduceToNat, UInt8.reduceToNat, List.length_cons, List.length_nil, List.length_append, Int.toNat_natCast] <;> omega) | fail) only [Nat.reduceLT, Nat.reduceLeDiff, Nat.reduceEqDiff, ↓reduceIte, Int.reduceLT, Int.reduceLE, Int.reduceToNat, Int.reduceEq, Int.reduceNe, Nat.reduceAdd, UInt8.reduceOfNat, UInt16.reduceOfNat, UInt32.reduceOfNat, UInt64.reduceOfNat, UInt64.reduceToNat, UInt32.reduceToNat, UInt16.reduceToNat, UInt8.reduceToNat, Int.reduceAdd, Int.reduceSub, Int.reduceMul, Nat.reduceMul, Qp0, Ql0, Qe0]
  refine fun b hb => ?_
  simp -dsimp -implicitDefEqProofs (disch := first | omega | assumption | (simp only [Option.isSome_some, Qt0]; done) | (simp only [UInt64.reduceToNat, UInt32.reduceToNat, UInt8.reduceToNat, List.length_cons, List.length_nil, List.length_append, Int.toNat_natCast] <;> omega) | fail) only [Nat.reduceLT, Nat.reduceLeDiff, Nat.reduceEqDiff, ↓reduceIte, Int.reduceLT, Int.reduceLE, Int.reduceToNat, Int.reduceEq, Int.reduceNe, Nat.reduceAdd, UInt8.reduceOfNat, UInt16.reduceOfNat, UInt32.reduceOfNat, UInt64.reduceOfNat, UInt64.reduceToNat, UInt32.reduceToNat, UInt16.reduceToNat, UInt8.reduceToNat, Int.reduceAdd, Int.reduceSub, Int.reduceMul, Nat.reduceMul, Qp0, Ql0, Qe0]
  exact ⟨_, PH.Le.refl _, b, rfl, hb, rfl⟩
theorem at_ev (s : List UInt8) (a : Int) (e : Er) (v : Value) (w0 : World) (h : PH) (hv : EV h e v) : PCalls Tryd.prog w0 37 [str s, .int .i64 a, v] h fun r h' => ∃ b, r = errV b ∧ h.top ≤ b ∧ h' = h.new b ⟨[str s, .int .i64 a, v], 3⟩ := by
  obtain ⟨t, x, rfl⟩ := hv.held
  exact at_any s a t x w0 h
end Go.Proofs.YtcjojkhieocehaaDoor
