/- The logic's statements on calls, operations, regions and code, and what computes them off a function's own text. No condition. -/
import Derived.Test.YtcjojkhieocehaaDoorPx
namespace Go.Proofs.YtcjojkhieocehaaDoor.Px
set_option linter.unusedVariables false
set_option linter.unusedSimpArgs false
open Go.RowKit

/-- A part that simp need not look into: what a later argument's type names stays as it is. -/
structure Seal {α : Sort _} (a : α) : Type where
def entered (P : Program) (g : FuncId) : Bool := match P.funcs[g]? with
  | some fn => fn.name != "runtime.NumGoroutine" && fn.body.isSome
  | none => false
/-- A call of function g on these values, over what is known of memory, hands back a value v and leaves memory h' so that R v h'. -/
def PCalls (P : Program) (w0 : World) (g : FuncId) (args : List Value) (h : PH) (R : Value → PH → Prop) (_ : Seal R := ⟨⟩) : Prop :=
  ∀ w, Sim w0 h w → ((callFunc g args.toArray).run P w = .ok (.enter g args.toArray) w ∧ Calls P g args.toArray w fun e w' => ∃ v h', e = .returned v ∧ R v h' ∧ Sim w0 h' w') ∨
    ∃ v w' h', (callFunc g args.toArray).run P w = .ok (.value v) w' ∧ R v h' ∧ Sim w0 h' w'
def PW (P : Program) (w0 : World) (N : Nat) (c : Code) (f : Fr) (h : PH) (Q : Exit → Fr → PH → Prop) (_ : Seal c := ⟨⟩) (_ : Seal Q := ⟨⟩) : Prop :=
  ∀ a w, FSat f a N → Sim w0 h w → c.wp P (fun e a' w' => ∃ f' h', Q e f' h' ∧ FSat f' a' N ∧ Sim w0 h' w') a w
/-- A semantic step that leaves memory alone. -/
def Yld (P : Program) (m : Sem Value) (K : Value → Prop) (_ : Seal K := ⟨⟩) : Prop := ∃ r, (∀ w, m.run P w = .ok r w) ∧ K r
/-- A semantic step that may change memory. -/
def Does (P : Program) (w0 : World) (h : PH) (m : Sem Value) (K : Value → PH → Prop) (_ : Seal K := ⟨⟩) : Prop :=
  ∀ w, Sim w0 h w → ∃ v w' h', m.run P w = .ok v w' ∧ K v h' ∧ Sim w0 h' w'
def vcIf (b : Bool) (X Y : Prop) (_ : Seal X := ⟨⟩) (_ : Seal Y := ⟨⟩) : Prop := (b = true → X) ∧ (b = false → Y)

theorem Yld_eq {P : Program} {m : Sem Value} {K : Value → Prop} {r : Value} (hm : ∀ w, m.run P w = .ok r w) : Yld P m K = K r := by
  apply propext
  constructor
  · rintro ⟨r', h1, h2⟩
    have h3 := h1 default
    rw [hm] at h3
    injection h3 with h3
    rw [h3]; exact h2
  · exact fun h => ⟨r, hm, h⟩
theorem vcIf_true (X Y : Prop) : vcIf true X Y = X := by simp [vcIf]
theorem vcIf_false (X Y : Prop) : vcIf false X Y = Y := by simp [vcIf]
theorem vcIf_split {b : Bool} {X Y : Prop} (h1 : b = true → X) (h2 : b = false → Y) : vcIf b X Y := ⟨h1, h2⟩
theorem vcIf_t {b : Bool} {X Y : Prop} (hb : b = true) (h : X) : vcIf b X Y := by rw [hb]; simpa [vcIf] using h
theorem vcIf_f {b : Bool} {X Y : Prop} (hb : b = false) (h : Y) : vcIf b X Y := by rw [hb]; simpa [vcIf] using h

/-- Less may be known behind. -/
theorem PCalls.weak {P : Program} {w0 : World} {g : FuncId} {args : List Value} {h : PH} {R R' : Value → PH → Prop} (hc : PCalls P w0 g args h R) (hr : ∀ v h', R v h' → ∃ h2, PH.Le h2 h' ∧ R' v h2) : PCalls P w0 g args h R' := by
  intro w s
  rcases hc w s with ⟨h1, h2⟩ | ⟨v, w', h', h1, h2, h3⟩
  · refine .inl ⟨h1, h2.mono fun e w' ⟨v, h', e1, e2, e3⟩ => ?_⟩
    obtain ⟨h2, hl, hR⟩ := hr v h' e2
    exact ⟨v, h2, e1, hR, e3.weak hl⟩
  · obtain ⟨h4, hl, hR⟩ := hr v h' h2
    exact .inr ⟨v, w', h4, h1, hR, h3.weak hl⟩
theorem PCalls.mono {P : Program} {w0 : World} {g : FuncId} {args : List Value} {h : PH} {R R' : Value → PH → Prop} (hc : PCalls P w0 g args h R) (hr : ∀ v h', R v h' → R' v h') : PCalls P w0 g args h R' :=
  hc.weak fun v h' r => ⟨h', PH.Le.refl _, hr v h' r⟩
theorem PW.mono {P : Program} {w0 : World} {N : Nat} {c : Code} {f : Fr} {h : PH} {Q Q' : Exit → Fr → PH → Prop} (hc : PW P w0 N c f h Q) (hq : ∀ e f h, Q e f h → Q' e f h) : PW P w0 N c f h Q' :=
  fun a w fs s => wp_mono (hc a w fs s) fun e a w ⟨f', h', q, r⟩ => ⟨f', h', hq _ _ _ q, r⟩
theorem PW.weak {P : Program} {w0 : World} {N : Nat} {c : Code} {f : Fr} {h h' : PH} {Q : Exit → Fr → PH → Prop} (hl : PH.Le h h') (hc : PW P w0 N c f h Q) : PW P w0 N c f h' Q :=
  fun a w fs s => hc a w fs (s.weak hl)

/-! ### one operation -/
def oget (o : Option Value) (k : Value → Prop) (_ : Seal k := ⟨⟩) : Prop := match o with
  | some v => k v
  | none => False
def ogetL (o : Option (List Value)) (k : List Value → Prop) (_ : Seal k := ⟨⟩) : Prop := match o with
  | some v => k v
  | none => False
def vev (f : Fr) (x : Operand) (k : Value → Prop) (_ : Seal k := ⟨⟩) : Prop := oget (ev f x) k
def vevs (f : Fr) (xs : Array Operand) (k : List Value → Prop) (_ : Seal k := ⟨⟩) : Prop := ogetL (evs f xs) k
def vop (f : Fr) (x : Option Operand) (k : Option Value → Prop) (_ : Seal k := ⟨⟩) : Prop := match x with
  | some x => vev f x fun v => k (some v)
  | none => k none
/-- A new block, whichever number it gets. -/
def vcNew (h : PH) (K : Nat → Prop) (_ : Seal K := ⟨⟩) : Prop := ∀ b, h.top ≤ b → K b
def aggB (P : Program) (t : TypeId) : Option Bool := (P.underlying t).map fun d => match d with
  | .struct _ => true
  | .array _ _ => true
  | _ => false
def szOf (P : Program) (t : TypeId) : Option Nat := (P.info? t).map (·.size)
def zcells (P : Program) (t : TypeId) : Option (List Value) := (P.info? t).bind fun i => i.zero.map fun z => z.cells.toList
/-- A variable's value. -/
def vload (P : Program) (w0 : World) (h : PH) (t : TypeId) (a : Addr) (k : Value → Prop) (_ : Seal k := ⟨⟩) : Prop := match aggB P t with
  | some false => oget (rd w0 h a) k
  | some true => (match szOf P t with
    | some n => ogetL (rdN w0 h a n) fun cs => k (.agg cs.toArray)
    | none => False)
  | none => False
def allOne (cs : List Value) : Prop := ∀ v ∈ cs, v.oneCell' = true
def vstore (P : Program) (w0 : World) (h : PH) (t : TypeId) (a : Addr) (v : Value) (k : PH → Prop) (_ : Seal k := ⟨⟩) : Prop :=
  szOf P t = some v.cells.size ∧ allOne v.cells.toList ∧ a.spot = none ∧
    match h.m a.block with
    | some b => a.off + v.cells.size ≤ b.xs.length ∧ k (h.new a.block ⟨b.xs.take a.off ++ v.cells.toList ++ b.xs.drop (a.off + v.cells.size), b.lim⟩)
    | none => False
def isSliceB (P : Program) (t : TypeId) : Bool := match P.underlying t with
  | some (.slice _) => true
  | _ => false
/-- The bytes of a slice as a text. -/
def vtext (P : Program) (w0 : World) (h : PH) (s d : TypeId) (x : Value) (k : Value → Prop) (_ : Seal k := ⟨⟩) : Prop :=
  ∃ e, P.underlying s = some (.slice e) ∧ P.underlying e = some (.int .u8) ∧ P.underlying d = some .string ∧
  match x with
  | .slice none n _ => k (.string .empty)
  | .slice (some a) n _ => ∃ l : List UInt8, l.length = n ∧ (0 < n → rdN w0 h a n = some (l.map fun c => .int .u8 c.toNat)) ∧ k (.string ⟨l.toArray⟩)
  | _ => False
def binS (op : BinOp) (t : TypeId) (x y : Operand) (u v : Value) : Sem Value := do
  eqGuard op t x y u v
  binOp op t u v
def nilS (x : Value) : Sem Value := match x with
  | .pointer none | .nilIface | .nilFunc => runtimePanic .nilDeref
  | .func (.method _) _ _ => stuck "not here"
  | x => pure x
/-- A method called on a value behind an interface. -/
def vinvoke (P : Program) (w0 : World) (h : PH) (r : Value) (name : String) (args : List Value) (K : Value → PH → Prop) (_ : Seal K := ⟨⟩) : Prop :=
  ∃ g as, (∀ w, (callMethod r name args.toArray).run P w = (callFunc g as.toArray).run P w) ∧ PCalls P w0 g as h K

def vcCall (P : Program) (w0 : World) (f : Fr) (h : PH) (c : Call) (ty : TypeId) (K : Value → PH → Prop) (_ : Seal c := ⟨⟩) (_ : Seal K := ⟨⟩) : Prop :=
  match c.callee with
  | .value (.func g) => vevs f c.args fun vs => PCalls P w0 g vs h K
  | .value x => vev f x fun fv => vevs f c.args fun vs => match fv with
    | .func (.func g) first cap => PCalls P w0 g (first.toList ++ vs ++ cap.toList) h K
    | _ => False
  | .builtin b => vevs f c.args fun vs => match b with
    | .len => Yld P (Builtin.len_ c.argTypes ty vs.toArray) fun v => K v h
    | .cap => Yld P (Builtin.cap_ c.argTypes ty vs.toArray) fun v => K v h
    | .max => Yld P (Builtin.max_ c.argTypes ty vs.toArray) fun v => K v h
    | .min => Yld P (Builtin.min_ c.argTypes ty vs.toArray) fun v => K v h
    | .append => Does P w0 h (Builtin.append_ c.argTypes ty vs.toArray) K
    | .copy => Does P w0 h (Builtin.copy_ c.argTypes ty vs.toArray) K
    | _ => False
  | .invoke r name => vev f r fun rv => vevs f c.args fun vs => vinvoke P w0 h rv name vs K

def vcOp (P : Program) (w0 : World) (o : Oper) (f : Fr) (h : PH) (K : Fr → PH → Prop) (_ : Seal o := ⟨⟩) (_ : Seal K := ⟨⟩) : Prop :=
  let y (v : Value) : Prop := K (f.put o.dst v) h
  match o.op with
  | .move x => vev f x y
  | .assign x => vev f x y
  | .pick c a b => vev f c fun t => vev f a fun u => vev f b fun v => match t with
    | .bool t => y (if t then u else v)
    | _ => False
  | .alloc t => match zcells P t with
    | some cs => vcNew h fun b => K (f.put o.dst (.pointer (some ⟨b, 0, none⟩))) (h.new b ⟨cs, cs.length⟩)
    | none => False
  | .box t x => vev f x fun v => vcNew h fun b => K (f.put o.dst (.pointer (some ⟨b, 0, none⟩))) (h.new b ⟨v.cells.toList, v.cells.size⟩)
  | .load t x => vev f x fun v => match v with
    | .pointer (some a) => vload P w0 h t a y
    | _ => False
  | .store t x v => vev f x fun p => vev f v fun u => match p with
    | .pointer (some a) => vstore P w0 h t a u fun h' => K (f.put o.dst undef) h'
    | _ => False
  | .nilCheck x => vev f x fun v => Yld P (nilS v) y
  | .binOp op t a b _ => vev f a fun u => vev f b fun v => Yld P (binS op t a b u v) y
  | .unOp op _ x => vev f x fun v => Yld P (Op.unary op v) y
  | .convert s d x => vev f x fun v => vcIf (isSliceB P d) (Does P w0 h (convert s d v) (fun r h' => K (f.put o.dst r) h')) (vcIf (isSliceB P s) (vtext P w0 h s d v y) (Yld P (convert s d v) y))
  | .makeInterface t x => vev f x fun v => Yld P (Instr.makeInterface t v) y
  | .makeFunc fn first cap => vevs f first fun u => vevs f cap fun v => y (.func fn u.toArray v.toArray)
  | .slice t x lo hi mx => vev f x fun v => vop f lo fun lo => vop f hi fun hi => vop f mx fun mx => Yld P (Instr.sliceAt t v lo hi mx) y
  | .fieldAddr s x i => vev f x fun v => Yld P (Instr.fieldAt s v i) y
  | .field t x i => vev f x fun v => Yld P (Instr.field t v i) y
  | .indexAddr t x i => vev f x fun v => vev f i fun j => Yld P (Instr.indexAt t v j) y
  | .index t x i => vev f x fun v => vev f i fun j => Yld P (Instr.index t v j) y
  | .extract x i => vev f x fun v => match v with
    | .tuple vs => (match vs[i]? with
      | some u => y u
      | none => False)
    | _ => False
  | .typeAssert x t u ok => vev f x fun v => Yld P (Instr.typeAssert v t u ok) y
  | .build t parts => vevs f (parts.map (·.2)) fun vs => Yld P (Instr.build t ((parts.toList.map (·.1)).zip vs).toArray) y
  | .buildSlice t n parts => vevs f (parts.map (·.2)) fun vs => Does P w0 h (Instr.buildSlice t n ((parts.toList.map (·.1)).zip vs).toArray) fun r h' => K (f.put o.dst r) h'
  | .makeSlice t l c => vev f l fun u => vev f c fun v => Does P w0 h (Instr.makeSlice t u v) fun r h' => K (f.put o.dst r) h'
  | .call c => vcCall P w0 f h c o.type fun r h' => K (f.put o.dst r) h'
  | _ => False

section
variable {P : Program} {w0 : World} {h : PH} {f : Fr}
theorem oget_some (v : Value) (k : Value → Prop) : oget (some v) k = k v := rfl
theorem ogetL_some (v : List Value) (k : List Value → Prop) : ogetL (some v) k = k v := rfl
theorem vev_tmp (t : Tmp) (k : Value → Prop) : vev f (.tmp t) k = oget (f t) k := rfl
theorem vev_global (g : Nat) (k : Value → Prop) : vev f (.global g) k = k (.pointer (some ⟨g, 0, none⟩)) := rfl
theorem vev_func (g : Nat) (k : Value → Prop) : vev f (.func g) k = k (.func (.func g) #[] #[]) := rfl
theorem vev_const (v : Value) (k : Value → Prop) : vev f (.const v) k = k v := rfl
theorem vevs_nil (k : List Value → Prop) : vevs f #[] k = k [] := rfl
theorem vevs_cons (x : Operand) (l : List Operand) (k : List Value → Prop) : vevs f (x :: l).toArray k = vev f x fun u => vevs f l.toArray fun us => k (u :: us) := by
  unfold vevs vev evs
  simp only [List.mapM_cons]
  cases ev f x with
  | none => rfl
  | some u => cases h : List.mapM (ev f) l with
    | none => simp [h, ogetL, oget]
    | some us => simp [h, ogetL, oget]
theorem vevs_1 (a : Operand) (k : List Value → Prop) : vevs f #[a] k = vev f a fun u => k [u] := vevs_cons a [] k
theorem vevs_2 (a b : Operand) (k : List Value → Prop) : vevs f #[a, b] k = vev f a fun u => vev f b fun v => k [u, v] := (vevs_cons a [b] k).trans (congrArg (fun K => vev f a K) (funext fun u => vevs_1 b _))
theorem vevs_3 (a b c : Operand) (k : List Value → Prop) : vevs f #[a, b, c] k = vev f a fun u => vev f b fun v => vev f c fun w => k [u, v, w] := (vevs_cons a [b, c] k).trans (congrArg (fun K => vev f a K) (funext fun u => vevs_2 b c _))
theorem vevs_4 (a b c d : Operand) (k : List Value → Prop) : vevs f #[a, b, c, d] k = vev f a fun u => vev f b fun v => vev f c fun w => vev f d fun x => k [u, v, w, x] := (vevs_cons a [b, c, d] k).trans (congrArg (fun K => vev f a K) (funext fun u => vevs_3 b c d _))
theorem vevs_5 (a b c d e : Operand) (k : List Value → Prop) : vevs f #[a, b, c, d, e] k = vev f a fun u => vev f b fun v => vev f c fun w => vev f d fun x => vev f e fun y => k [u, v, w, x, y] := (vevs_cons a [b, c, d, e] k).trans (congrArg (fun K => vev f a K) (funext fun u => vevs_4 b c d e _))
theorem vevs_6 (a b c d e g : Operand) (k : List Value → Prop) : vevs f #[a, b, c, d, e, g] k = vev f a fun u => vev f b fun v => vev f c fun w => vev f d fun x => vev f e fun y => vev f g fun z => k [u, v, w, x, y, z] := (vevs_cons a [b, c, d, e, g] k).trans (congrArg (fun K => vev f a K) (funext fun u => vevs_5 b c d e g _))
theorem vop_none (k : Option Value → Prop) : vop f none k = k none := rfl
theorem vop_some' (x : Operand) (k : Option Value → Prop) : vop f (some x) k = vev f x fun v => k (some v) := rfl
theorem vload_one {t : TypeId} {a : Addr} {k : Value → Prop} (e : aggB P t = some false) : vload P w0 h t a k = oget (rd w0 h a) k := by unfold vload; rw [e]
theorem vload_agg {t : TypeId} {a : Addr} {k : Value → Prop} {n : Nat} (e : aggB P t = some true) (e2 : szOf P t = some n) : vload P w0 h t a k = ogetL (rdN w0 h a n) fun cs => k (.agg cs.toArray) := by unfold vload; rw [e, e2]
end

/-- An operation that is carried out. -/
def OW (P : Program) (w0 : World) (N : Nat) (o : Oper) (f : Fr) (h : PH) (K : Fr → PH → Prop) : Prop :=
  ∀ a w, FSat f a N → Sim w0 h w → ∀ (Kr : Act → World → Prop) (Qr : Exit → Act → World → Prop), (∀ f' h' a' w', K f' h' → FSat f' a' N → Sim w0 h' w' → Kr a' w') → o.wp P a w Kr Qr

section
variable {P : Program} {w0 : World} {N : Nat} {o : Oper} {f : Fr} {h : PH} {K : Fr → PH → Prop}
theorem vev_some {x : Operand} {k : Value → Prop} (hv : vev f x k) : ∃ v, ev f x = some v ∧ k v := by
  unfold vev oget at hv; split at hv
  · exact ⟨_, ‹_›, hv⟩
  · exact hv.elim
theorem vevs_some {x : Array Operand} {k : List Value → Prop} (hv : vevs f x k) : ∃ v, evs f x = some v ∧ k v := by
  unfold vevs ogetL at hv; split at hv
  · exact ⟨_, ‹_›, hv⟩
  · exact hv.elim
theorem vop_some {x : Option Operand} {k : Option Value → Prop} (hv : vop f x k) : ∃ v, (∀ {a : Act} {N : Nat}, FSat f a N → x.map a.eval = v) ∧ k v := by
  cases x with
  | none => exact ⟨none, fun _ => rfl, hv⟩
  | some x =>
    obtain ⟨v, h1, h2⟩ := vev_some hv
    exact ⟨some v, fun s => by rw [Option.map_some, ev_sound s h1], h2⟩
/-- An operation that yields a value and leaves the world alone. -/
theorem OW_value {v : Value} (hd : dstOk N o.dst = true) (hr : ∀ a w, FSat f a N → Sim w0 h w → (execOp a.eval o).run P w = .ok (.value v) w) (hk : K (f.put o.dst v) h) : OW P w0 N o f h K := by
  intro a w fs s Kr Qr hK
  unfold Oper.wp
  rw [hr a w fs s]
  exact hK _ _ _ _ hk (fs.put hd v) s
theorem OW_does {m : Sem Value} (hd : dstOk N o.dst = true) (hr : ∀ a w, FSat f a N → Sim w0 h w → execOp a.eval o = (do pure (Next.value (← m)))) (hk : Does P w0 h m fun r h' => K (f.put o.dst r) h') : OW P w0 N o f h K := by
  intro a w fs s Kr Qr hK
  unfold Oper.wp
  rw [hr a w fs s]
  obtain ⟨v, w', h', h1, h2, h3⟩ := hk w s
  simp only [Sem.run_bind, h1, Result.andThen_ok, Sem.run_pure]
  exact hK _ _ _ _ h2 (fs.put hd v) h3
theorem OW_yld {m : Sem Value} (hd : dstOk N o.dst = true) (hr : ∀ a w, FSat f a N → Sim w0 h w → execOp a.eval o = (do pure (Next.value (← m)))) (hk : Yld P m fun r => K (f.put o.dst r) h) : OW P w0 N o f h K := by
  obtain ⟨r, h1, h2⟩ := hk
  refine OW_value (v := r) hd (fun a w fs s => ?_) h2
  rw [hr a w fs s]
  simp only [Sem.run_bind, h1, Result.andThen_ok, Sem.run_pure]
theorem OW_calls {g : FuncId} {args : List Value} (hd : dstOk N o.dst = true) (hr : ∀ a w, FSat f a N → Sim w0 h w → (execOp a.eval o).run P w = (callFunc g args.toArray).run P w) (hk : PCalls P w0 g args h fun r h' => K (f.put o.dst r) h') : OW P w0 N o f h K := by
  intro a w fs s Kr Qr hK
  unfold Oper.wp
  rw [hr a w fs s]
  rcases hk w s with ⟨h1, h2⟩ | ⟨v, w', h', h1, h2, h3⟩
  · rw [h1]
    simp only [Oper.upon]
    refine h2.mono ?_
    rintro e w' ⟨v, h', rfl, h2, h3⟩
    exact hK _ _ _ _ h2 (fs.put hd v) h3
  · rw [h1]
    exact hK _ _ _ _ h2 (fs.put hd v) h3
theorem run_callFunc {g : FuncId} (he : entered P g = true) (args : Array Value) (w : World) : (callFunc g args).run P w = .ok (.enter g args) w := by
  unfold entered at he
  cases hf : P.funcs[g]? with
  | none => rw [hf] at he; cases he
  | some fn =>
    rw [hf] at he
    simp only [Bool.and_eq_true, bne_iff_ne, ne_eq] at he
    obtain ⟨h1, h2⟩ := he
    have h3 : fn.body.isNone = false := by cases hb : fn.body <;> simp_all
    simp [callFunc, hf, h1, h3]
    intro hb; simp [hb] at h2

theorem run_loadVar_agg {w : World} (t : TypeId) (a : Addr) (n : Nat) (cs : List Value) (ha : aggB P t = some true) (hs : szOf P t = some n) (hl : cs.length = n) (hc : ∀ j v, cs[j]? = some v → w.cell? (a.add j) = some v) : (loadVar t a).run P w = .ok (.agg cs.toArray) w := by
  obtain ⟨d, hd, hd'⟩ := Option.map_eq_some_iff.1 ha
  obtain ⟨i, hi, hi'⟩ := Option.map_eq_some_iff.1 hs
  have h1 := run_loadCells_list (P := P) w a cs hc
  rw [hl] at h1
  have h2 : (isAgg t).run P w = .ok true w := by
    simp only [isAgg, Sem.run_bind, run_underlying hd, Result.andThen_ok]
    cases d <;> simp_all
  simp [loadVar, h2, sizeOf, typeInfo, hi, hi', h1]
theorem run_loadVar_one {w : World} (t : TypeId) (a : Addr) (v : Value) (ha : aggB P t = some false) (hc : w.cell? a = some v) : (loadVar t a).run P w = .ok v w := by
  obtain ⟨d, hd, hd'⟩ := Option.map_eq_some_iff.1 ha
  have h2 : (isAgg t).run P w = .ok false w := by
    simp only [isAgg, Sem.run_bind, run_underlying hd, Result.andThen_ok]
    cases d <;> simp_all
  simp [loadVar, h2, hc]
theorem vload_sound {t : TypeId} {a : Addr} {k : Value → Prop} (hv : vload P w0 h t a k) : ∃ v, k v ∧ ∀ w, Sim w0 h w → (loadVar t a).run P w = .ok v w := by
  unfold vload at hv
  split at hv
  · rename_i ha
    unfold oget at hv
    split at hv
    · rename_i v hr
      exact ⟨v, hv, fun w s => run_loadVar_one t a v ha (rd_sound s hr)⟩
    · exact hv.elim
  · rename_i ha
    split at hv
    · rename_i n hs
      unfold ogetL at hv
      split at hv
      · rename_i cs hr
        refine ⟨_, hv, fun w s => ?_⟩
        obtain ⟨h1, h2⟩ := rdN_sound s hr
        exact run_loadVar_agg t a n cs ha hs h1 h2
      · exact hv.elim
    · exact hv.elim
  · exact hv.elim
theorem setCells_heap_any {b : Nat} {t : TypeId} {fz : Nat × Nat} (vs : List Value) : ∀ (o : Nat) {cs : List Value} {w : World}, w.heap[b]? = some (.cells cs.toArray t fz) → o + vs.length ≤ cs.length → (w.setCells b o vs).heap[b]? = some (.cells (cs.take o ++ vs ++ cs.drop (o + vs.length)).toArray t fz) := by
  induction vs with
  | nil => intro o cs w h _; simpa [World.setCells] using h
  | cons v vs ih =>
    intro o cs w h hl
    have h1 : (w.setCell ⟨b, o, none⟩ v).heap[b]? = some (.cells (cs.set o v).toArray t fz) := by
      simp [World.setCell, Array.getElem?_modify, h]
    have h2 := ih (o + 1) h1 (by simp at hl ⊢; omega)
    have e : (cs.set o v).take (o + 1) ++ vs ++ (cs.set o v).drop (o + 1 + vs.length) = cs.take o ++ (v :: vs) ++ cs.drop (o + (v :: vs).length) := by
      have ho : o < cs.length := by simp at hl; omega
      rw [List.drop_set_of_lt (by omega), List.take_add_one, List.getElem?_set_self (by omega), List.take_set_of_le (by omega)]
      simp [Nat.add_assoc, Nat.add_comm 1]
    rw [e] at h2
    exact h2
theorem grownBy_setCells (b : Nat) (vs : List Value) : ∀ (o : Nat) (w : World), w.grownBy (w.setCells b o vs) (some b) := by
  induction vs with
  | nil => intro o w; simpa [World.setCells] using World.grownBy.refl w _
  | cons v vs ih =>
    intro o w
    have h1 := ih (o + 1) (w.setCell ⟨b, o, none⟩ v)
    have hs : (w.setCell ⟨b, o, none⟩ v).heap.size = w.heap.size := by simp [World.setCell]
    refine ⟨h1.os, h1.tape, h1.output, by rw [← hs]; exact h1.size, fun k hk hne => (h1.block k (by rw [hs]; exact hk) hne).trans (Below.heap_setCell _ _ _ _ (by intro e; exact hne (by rw [e])))⟩
/-- Cells stored into a known block. -/
theorem Sim.store {w : World} (s : Sim w0 h w) {b o : Nat} {k : Bk} (vs : List Value) (hb : h.m b = some k) (hl : o + vs.length ≤ k.xs.length) :
    w.there b o vs.length ∧ Sim w0 (h.new b ⟨k.xs.take o ++ vs ++ k.xs.drop (o + vs.length), k.lim⟩) (w.setCells b o vs) := by
  obtain ⟨h1, cur, t, lo, hi, hc, g1, g2, g3, g4⟩ := s.sat b k hb
  have hcl : k.xs.length ≤ cur.toList.length := by simp; omega
  have hlt := (Array.getElem?_eq_some_iff.1 hc).1
  constructor
  · intro j hj
    rw [cell_of_row w b (o + j) cur t (lo, hi) hc]
    refine ⟨by simp at hcl ⊢; omega, ?_⟩
    simp [World.frozen?, hc]
    omega
  · have hh := setCells_heap_any (w := w) (b := b) (t := t) (fz := (lo, hi)) (cs := cur.toList) vs o (by simpa using hc) (by omega)
    have hg := grownBy_setCells b vs o w
    have s1 : Sim w0 (h.del b) (w.setCells b o vs) := (s.del b).step hg (fun x e => by injection e with e; subst e; exact ⟨h1, by simp [PH.del_m]⟩)
    have s2 := s1.put (b := b) (k := ⟨k.xs.take o ++ vs ++ k.xs.drop (o + vs.length), k.lim⟩) h1 ⟨_, t, lo, hi, hh, by simp; simp at hcl; omega, g2, by simp; omega, ?_⟩
    · refine s2.weak ⟨by simp only [PH.new_top, PH.del_top]; omega, fun x y e => ?_⟩
      rw [PH.new_m] at e ⊢
      by_cases hx : x = b
      · rw [if_pos hx] at e ⊢; exact e
      · rw [if_neg hx] at e ⊢; rw [PH.del_m, if_neg hx]; exact e
    · have e1 : (k.xs.take o ++ vs ++ k.xs.drop (o + vs.length)).length = k.xs.length := by simp; omega
      rw [e1]
      apply List.ext_getElem?
      intro j
      have e2 : ∀ j, j < k.xs.length → k.xs[j]? = cur.toList[j]? := by
        intro j hj
        conv => lhs; rw [← g4]
        rw [List.getElem?_take_of_lt hj]
      rw [List.getElem?_take]
      split
      · rename_i hj
        simp only [List.getElem?_append, List.length_append, List.length_take, List.getElem?_take, List.getElem?_drop]
        have m1 : min o cur.toList.length = o := by omega
        have m2 : min o k.xs.length = o := by omega
        rw [m1, m2]
        split
        · split
          · rw [← e2 j hj]
          · rfl
        · rw [e2 _ (by omega)]
      · rename_i hj
        rw [List.getElem?_eq_none (by rw [e1]; omega)]
theorem run_storeVar_there {w : World} {b o : Nat} (ty : TypeId) (u : Value) (ht : w.there b o u.cells.toList.length) (hi : szOf P ty = some u.cells.size) (h1 : allOne u.cells.toList) :
    (storeVar ty ⟨b, o, none⟩ u).run P w = .ok () (w.setCells b o u.cells.toList) := by
  have ha : u.cells.all (·.oneCell') = true := by
    have := all_oneCell_toArray h1
    simpa using this
  exact run_storeVar_mid (P := P) w b o ty u.cells (by simpa using ht) hi ha
theorem vstore_sound {t : TypeId} {a : Addr} {v : Value} {k : PH → Prop} (hv : vstore P w0 h t a v k) : ∃ h', k h' ∧ ∀ w, Sim w0 h w → ∃ w', (storeVar t a v).run P w = .ok () w' ∧ Sim w0 h' w' := by
  obtain ⟨h1, h2, h3, h4⟩ := hv
  split at h4
  · rename_i bk hb
    obtain ⟨h5, h6⟩ := h4
    obtain ⟨b, o, sp⟩ := a
    simp only at h3 hb h5 h6
    subst h3
    refine ⟨_, h6, fun w s => ?_⟩
    have := s.store v.cells.toList hb (o := o) (by simpa using h5)
    exact ⟨_, run_storeVar_there t v this.1 h1 h2, by simpa using this.2⟩
  · exact h4.elim
end
end Go.Proofs.YtcjojkhieocehaaDoor.Px
