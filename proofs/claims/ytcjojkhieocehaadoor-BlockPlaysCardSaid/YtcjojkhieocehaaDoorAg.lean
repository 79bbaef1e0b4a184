/- Library functions without a body in the logic: what the model says of them, once; a variable of the package is read under what is known. No condition. -/
import Derived.Test.YtcjojkhieocehaaDoorEa
import Derived.LaidEql
import Derived.Stop.Asserts
import Derived.Laws.Externs
namespace Go.Proofs.YtcjojkhieocehaaDoor
set_option linter.unusedVariables false
set_option linter.unusedSimpArgs false
open Go.RowKit Px Go.Extern.Stop Go.Stop Go.Extern
section
variable {P : Program} {w0 : World} {h : PH} {g : FuncId} {fn : Func} {e : Array Value → Sem Value} {args : List Value} {R : Value → PH → Prop}
/-- It only tells. -/
theorem PCalls_ext (hf : P.funcs[g]? = some fn) (h1 : (fn.name == "runtime.NumGoroutine") = false) (h2 : fn.body.isNone = true) (h3 : Extern.findNext fn = none) (h4 : Extern.find fn = some e) (v : Value) (hr : ∀ w, Sim w0 h w → (e args.toArray).run P w = .ok v w) (hR : R v h) : PCalls P w0 g args h R :=
  fun w s => .inr ⟨v, w, h, by rw [run_callFunc_extern hf h1 h2 h3 h4, hr w s]; rfl, hR, s⟩
/-- It makes a block. -/
theorem PCalls_extNew (hf : P.funcs[g]? = some fn) (h1 : (fn.name == "runtime.NumGoroutine") = false) (h2 : fn.body.isNone = true) (h3 : Extern.findNext fn = none) (h4 : Extern.find fn = some e) (t : TypeId) (cs : List Value) (val : Nat → Value) (hr : ∀ w, (e args.toArray).run P w = .ok (val w.heap.size) (w.alloc (.cells cs.toArray t)))
    (hR : ∀ b, h.top ≤ b → R (val b) (h.new b ⟨cs, cs.length⟩)) : PCalls P w0 g args h R :=
  fun w s => .inr ⟨_, _, _, by rw [run_callFunc_extern hf h1 h2 h3 h4, hr w]; rfl, hR _ s.top, s.alloc t cs⟩
/-- It sets a cell that is a block. -/
theorem PCalls_extSet (hf : P.funcs[g]? = some fn) (h1 : (fn.name == "runtime.NumGoroutine") = false) (h2 : fn.body.isNone = true) (h3 : Extern.findNext fn = none) (h4 : Extern.find fn = some e) (b lim : Nat) (v old r : Value) (hb : h.m b = some ⟨[old], lim⟩)
    (hr : ∀ w, Sim w0 h w → w.cell? ⟨b, 0, none⟩ = some old → w.frozen? ⟨b, 0, none⟩ = false → (e args.toArray).run P w = .ok r (w.setCell ⟨b, 0, none⟩ v)) (hR : R r (h.new b ⟨[v], lim⟩)) : PCalls P w0 g args h R := by
  intro w s
  obtain ⟨h5, h6⟩ := s.store (b := b) (o := 0) [v] hb (by simp)
  have hc : w.cell? ⟨b, 0, none⟩ = some old := rd_sound s (by simp [rd, hb])
  refine .inr ⟨r, _, _, by rw [run_callFunc_extern hf h1 h2 h3 h4, hr w s hc (h5 0 (by simp)).2]; rfl, ?_, h6⟩
  simpa using hR
theorem Px.PH.Le.both {h h' : PH} (hl : PH.Le h h') (b : Nat) (k : Bk) : PH.Le (h.new b k) (h'.new b k) := by
  refine ⟨by have := hl.top; simp only [PH.new_top]; omega, fun x y e => ?_⟩
  rw [PH.new_m] at e ⊢
  by_cases hx : x = b
  · rw [if_pos hx] at e ⊢; exact e
  · rw [if_neg hx] at e ⊢; exact hl.m x y e
/-- All that was there lies below the top. -/
def Px.PH.lift (w0 : World) (h : PH) : PH := ⟨max h.top w0.heap.size, h.m, fun b k e => by have := h.lt b k e; omega⟩
theorem Px.PH.lift_m (w0 : World) (h : PH) : (h.lift w0).m = h.m := rfl
theorem Px.PH.lift_top (w0 : World) (h : PH) : w0.heap.size ≤ (h.lift w0).top := Nat.le_max_right _ _
theorem Px.PH.Le.lift (w0 : World) (h : PH) : PH.Le h (h.lift w0) := ⟨Nat.le_max_left _ _, fun _ _ e => e⟩
theorem PCalls_lift (hc : PCalls P w0 g args (h.lift w0) R) : PCalls P w0 g args h R :=
  fun w s => hc w ⟨s.below, by have h1 := s.top; have h2 := s.below.size; show max _ _ ≤ _; omega, s.sat⟩
/-- A cell that was there, of which nothing is known but what it held. -/
theorem PCalls_low {v : Value} (b : Nat) (hg : w0.cell? ⟨b, 0, none⟩ = some v) (hc : b < w0.heap.size → h.m b = none → PCalls P w0 g args h R) : PCalls P w0 g args h R := by
  have hlt : b < w0.heap.size := by
    rcases Nat.lt_or_ge b w0.heap.size with hb | hb
    · exact hb
    · simp [World.cell?, Array.getElem?_eq_none hb] at hg
  cases hm : h.m b with
  | none => exact hc hlt hm
  | some k =>
    intro w s
    have := (s.sat b k hm).1
    omega
end
theorem rlm (z : Sem Value) (f : TypeId → Addr → Nat → Nat → Sem Value) (v : Value) :
    ReflectliteValue.method z f #[v] = (do match ← ReflectliteValue.parts v with | none => z | some (t, a, fl) => f t a fl (fl % 32)) := rfl
theorem rls (v x : Value) : ReflectliteValue.set #[v, x] = (do
    let (some (dst, a, fl), some (src, b, _)) := (← ReflectliteValue.parts v, ← ReflectliteValue.parts x)
      | unsupported (.noEntry "extern/(internal/reflectlite.Value).Set.zeroValue")
    if fl / ReflectliteValue.flagAddr % 2 == 0 then unsupported (.noEntry "extern/(internal/reflectlite.Value).Set.unaddressable")
    let val ← loadVar src b
    if ← Rtype.directlyAssignable dst src then storeVar dst a val
    else if ← Rtype.implements dst src then
      if (← Rtype.kind src) == 20 then
        match val with
        | .nilIface => unsupported (.noEntry "extern/reflectlite: a nil value of one interface type handed on as a value of another")
        | _ => storeVar dst a val
      else storeVar dst a (.iface src val)
    else panicString ("reflectlite.Set: value of type " ++ (← Rtype.spelt src) ++ " is not assignable to type " ++ (← Rtype.spelt dst))
    pure (.tuple #[])) := rfl
/-- The handle of a type. -/
abbrev rtV (t : Nat) : Value := .iface 66 (.agg #[.pointer (some ⟨1, t, none⟩)])
theorem meth_Kind (t : Nat) (w : World) : (callMethod (rtV t) "Kind" #[]).run Tryd.prog w = (callFunc 59 [.pointer (some ⟨1, t, none⟩)].toArray).run Tryd.prog w := by kernel_rfl
theorem meth_Elem (t : Nat) (w : World) : (callMethod (rtV t) "Elem" #[]).run Tryd.prog w = (callFunc 66 [.agg #[.pointer (some ⟨1, t, none⟩)]].toArray).run Tryd.prog w := by kernel_rfl
theorem meth_Implements (t : Nat) (u : Value) (w : World) : (callMethod (rtV t) "Implements" #[u]).run Tryd.prog w = (callFunc 67 [.agg #[.pointer (some ⟨1, t, none⟩)], u].toArray).run Tryd.prog w := by kernel_rfl
theorem meth_Assignable (t : Nat) (u : Value) (w : World) : (callMethod (rtV t) "AssignableTo" #[u]).run Tryd.prog w = (callFunc 64 [.agg #[.pointer (some ⟨1, t, none⟩)], u].toArray).run Tryd.prog w := by kernel_rfl
theorem typeOf_run (t : TypeId) (v : Value) (h0 : t = 33 ∨ t = 78) (w : World) : (ReflectliteType.typeOf #[.iface t v]).run Tryd.prog w = .ok (rtV t) w := by
  rcases h0 with rfl | rfl <;> kernel_rfl
theorem c_typeOf (t : TypeId) (v : Value) (h0 : t = 33 ∨ t = 78) (w0 : World) (h : PH) : PCalls Tryd.prog w0 17 [.iface t v] h fun r h' => r = rtV t ∧ h' = h :=
  PCalls_ext (e := ReflectliteType.typeOf) Tryd.func17 (by kernel_rfl) (by kernel_rfl) (by kernel_rfl) (by kernel_rfl) _ (fun w _ => typeOf_run t v h0 w) ⟨rfl, rfl⟩
end Go.Proofs.YtcjojkhieocehaaDoor
