/- The program's errors in the logic: fail.At wraps an error with a place;  No condition. -/
import Derived.Test.YtdigpnmekdmjmaaDoorPb
namespace Go.Proofs.YtdigpnmekdmjmaaDoor
set_option linter.unusedVariables false
set_option linter.unusedSimpArgs false
open Go.RowKit Px
/-- A code with places around it, the outermost first. -/
inductive Er where
  | code (k : Int)
  | wrap (s : List UInt8) (a : Int) (e : Er)
def Er.num : Er → Int
  | .code k => k
  | .wrap _ _ e => e.num
def Er.deep : Er → Nat
  | .code _ => 0
  | .wrap _ _ e => e.deep + 1
def codeV (k : Int) : Value := .iface 32 (.int .i64 k)
def errV (b : Nat) : Value := .iface 34 (.pointer (some ⟨b, 0, none⟩))
/-- A value that is this error. -/
def EV (h : PH) : Er → Value → Prop
  | .code k, v => v = codeV k
  | .wrap s a e, v => ∃ b u, v = errV b ∧ h.m b = some ⟨[str s, .int .i64 a, u], 3⟩ ∧ EV h e u
theorem EV.more {h h' : PH} (l : PH.Le h h') : ∀ {e : Er} {v : Value}, EV h e v → EV h' e v
  | .code _, _, hv => hv
  | .wrap _ _ _, _, ⟨b, u, h1, h2, h3⟩ => ⟨b, u, h1, l.m _ _ h2, EV.more l h3⟩
theorem EV.held {h : PH} : ∀ {e : Er} {v : Value}, EV h e v → ∃ t x, v = .iface t x
  | .code k, _, hv => ⟨_, _, hv⟩
  | .wrap _ _ _, _, ⟨b, u, h1, h2, h3⟩ => ⟨_, _, h1⟩
theorem one_code (k : Int) : One (codeV k) = True := eq_true ⟨rfl, rfl⟩
theorem EV.at {h : PH} {s : List UInt8} {a : Int} {e : Er} {v : Value} (hv : EV h e v) {b : Nat} (hb : h.top ≤ b) : EV (h.new b ⟨[str s, .int .i64 a, v], 3⟩) (.wrap s a e) (errV b) :=
  ⟨b, v, rfl, by rw [PH.new_m, if_pos rfl], hv.more ((PH.Le.refl h).new _ _ hb)⟩
set_option maxRecDepth 20000 in
theorem at_any (s : List UInt8) (a : Int) (t : TypeId) (x : Value) (w0 : World) (h : PH) : PCalls Tryd.prog w0 12 [str s, .int .i64 a, .iface t x] h fun r h' => ∃ b, r = errV b ∧ h.top ≤ b ∧ h' = h.new b ⟨[str s, .int .i64 a, .iface t x], 3⟩ := by
  refine PCalls_body Tryd.func12 (by kernel_rfl) rfl _ Tryd.ntmps12 (by kernel_rfl) (by kernel_rfl) _ Tryd.results12 ?_
  simp -dsimp -implicitDefEqProofs (disch := first | omega | assumption | (simp only [Option.isSome_some, Qt0, Qt1, Qt2, Qt3, Qt4, Qt5, Qt6, Qt7, Qt8, Qt9]; done) | (simp only [UInt64.reduceToNat, UInt32.reduceToNat, UInt8.reduceToNat, List.length_cons, List.length_nil, List.length_append, Int.toNat_natCast] <;> omega)) only [Nat.reduceLT, Nat.reduceLeDiff, Nat.reduceEqDiff, ↓reduceIte, Bool.not_true, Bool.not_false, beq_self_eq_true, beq_true, beq_false, Bool.not_not, List.getD_cons_zero, List.getD_cons_succ, Int.reduceLT, Int.reduceLE, Int.reduceToNat, Int.reduceEq, Int.reduceNe, decide_true, decide_false, Option.bind_some, Int.toNat_natCast, List.map_cons, List.map_nil, List.zip_cons_cons, List.zip_nil_left, List.append_nil, List.nil_append, List.cons_append, List.length_cons, List.length_nil, Nat.reduceAdd, UInt8.reduceOfNat, UInt16.reduceOfNat, UInt32.reduceOfNat, UInt64.reduceOfNat, UInt64.reduceToNat, UInt32.reduceToNat, UInt16.reduceToNat, UInt8.reduceToNat, Int.natCast_add, Int.reduceAdd, Int.reduceSub, Int.reduceMul, Nat.mul_one, Nat.add_zero, Nat.zero_mul, Nat.reduceMul, Nat.zero_add, ne_eq, not_true_eq_false, not_false_eq_true, eq_self, Bool.false_eq_true, Bool.true_eq_false, Bool.or_true, Bool.or_false, Bool.and_true, Bool.and_false, Bool.true_and, Bool.false_and, Bool.true_or, Bool.false_or, Option.isNone_some, Option.isNone_none, List.length_set, List.length_replicate, List.getElem?_cons_zero, List.getElem?_cons_succ, Qp0, Qp1, Qp2, Qp3, Qp4, Qp5, Qp6, Qp7, Qp8, Qp9, Qp10, Qp11, Qp12, Qp13, Qp14, Qp15, Qp16, Qp17, Qp18, Qp19, Qp20, Qp21, Qp22, Qe0, Qe1, Qe2, Qe3, Qe4, Qe5, Qe6]
  refine fun b hb => ?_
  simp -dsimp -implicitDefEqProofs (disch := first | omega | assumption | (simp only [Option.isSome_some, Qt0, Qt1, Qt2, Qt3, Qt4, Qt5, Qt6, Qt7, Qt8, Qt9]; done) | (simp only [UInt64.reduceToNat, UInt32.reduceToNat, UInt8.reduceToNat, List.length_cons, List.length_nil, List.length_append, Int.toNat_natCast] <;> omega)) only [Nat.reduceLT, Nat.reduceLeDiff, Nat.reduceEqDiff, ↓reduceIte, Bool.not_true, Bool.not_false, beq_self_eq_true, beq_true, beq_false, Bool.not_not, List.getD_cons_zero, List.getD_cons_succ, Int.reduceLT, Int.reduceLE, Int.reduceToNat, Int.reduceEq, Int.reduceNe, decide_true, decide_false, Option.bind_some, Int.toNat_natCast, List.map_cons, List.map_nil, List.zip_cons_cons, List.zip_nil_left, List.append_nil, List.nil_append, List.cons_append, List.length_cons, List.length_nil, Nat.reduceAdd, UInt8.reduceOfNat, UInt16.reduceOfNat, UInt32.reduceOfNat, UInt64.reduceOfNat, UInt64.reduceToNat, UInt32.reduceToNat, UInt16.reduceToNat, UInt8.reduceToNat, Int.natCast_add, Int.reduceAdd, Int.reduceSub, Int.reduceMul, Nat.mul_one, Nat.add_zero, Nat.zero_mul, Nat.reduceMul, Nat.zero_add, ne_eq, not_true_eq_false, not_false_eq_true, eq_self, Bool.false_eq_true, Bool.true_eq_false, Bool.or_true, Bool.or_false, Bool.and_true, Bool.and_false, Bool.true_and, Bool.false_and, Bool.true_or, Bool.false_or, Option.isNone_some, Option.isNone_none, List.length_set, List.length_replicate, List.getElem?_cons_zero, List.getElem?_cons_succ, Qp0, Qp1, Qp2, Qp3, Qp4, Qp5, Qp6, Qp7, Qp8, Qp9, Qp10, Qp11, Qp12, Qp13, Qp14, Qp15, Qp16, Qp17, Qp18, Qp19, Qp20, Qp21, Qp22, Qe0, Qe1, Qe2, Qe3, Qe4, Qe5, Qe6]
  exact ⟨_, PH.Le.refl _, b, rfl, hb, rfl⟩
theorem at_ev (s : List UInt8) (a : Int) (e : Er) (v : Value) (w0 : World) (h : PH) (hv : EV h e v) : PCalls Tryd.prog w0 12 [str s, .int .i64 a, v] h fun r h' => ∃ b, r = errV b ∧ h.top ≤ b ∧ h' = h.new b ⟨[str s, .int .i64 a, v], 3⟩ := by
  obtain ⟨t, x, rfl⟩ := hv.held
  exact at_any s a t x w0 h
end Go.Proofs.YtdigpnmekdmjmaaDoor
