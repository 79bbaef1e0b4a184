/- Parts Px, Pw, Ps, joined. No condition. -/
import Derived.WalkKit
import Derived.ProofKit
import Derived.OpenShut
import Derived.SizedLaws
import Derived.OpenVars
import Derived.Lib.Hide
import Derived.Deep.Fields
import Derived.Deep.Slices
import Derived.Deep.MidRow
import Derived.Laws.ResultCell
import Derived.StillTailTactics
namespace Go.Proofs.Ytblikpbaeippaaa.Px
set_option linter.unusedVariables false
set_option linter.unusedSimpArgs false
open Go.RowKit

/-! ### memory -/
class MapK where
  o : Option Obj
instance noMap : MapK := ⟨none⟩
structure Bk where
  xs : List Value
  lim : Nat
  [mp : MapK]
def Bk.as (k : Bk) (xs : List Value) : Bk := @Bk.mk xs k.lim k.mp
theorem Bk.as_mk (xs ys : List Value) (lim : Nat) : Bk.as ⟨xs, lim⟩ ys = ⟨ys, lim⟩ := rfl
structure PH where
  top : Nat
  m : Nat → Option Bk
  lt : ∀ b k, m b = some k → b < top

def BCells (w : World) (b : Nat) (k : Bk) : Prop :=
  ∃ (cur : Array Value) (t : TypeId) (lo hi : Nat), w.heap[b]? = some (.cells cur t (lo, hi)) ∧ k.lim ≤ cur.size ∧ (hi ≤ lo ∨ hi = 0) ∧ k.xs.length ≤ k.lim ∧ cur.toList.take k.xs.length = k.xs

def BSat (w : World) (b : Nat) (k : Bk) : Prop := match k.mp.o with
  | none => BCells w b k
  | some o => k.xs = [] ∧ w.heap[b]? = some o
theorem BCells.sat {w : World} {b : Nat} {k : Bk} (hk : k.mp.o = none) (s : BCells w b k) : BSat w b k := by
  unfold BSat; rw [hk]; exact s
theorem BSat.heap {w : World} {b : Nat} {k : Bk} (s : BSat w b k) : ∃ o, w.heap[b]? = some o := by
  unfold BSat at s
  split at s
  · obtain ⟨cur, t, lo, hi, hc, _⟩ := s; exact ⟨_, hc⟩
  · exact ⟨_, s.2⟩
theorem BSat.congr {w w' : World} {b : Nat} {k : Bk} (s : BSat w b k) (e : w'.heap[b]? = w.heap[b]?) : BSat w' b k := by
  unfold BSat BCells at *
  rw [e]; exact s
theorem BSat.cells {w : World} {b : Nat} {k : Bk} (s : BSat w b k) (h : 0 < k.xs.length) : BCells w b k := by
  unfold BSat at s
  split at s
  · exact s
  · rw [s.1] at h; simp at h

structure Sim (w0 : World) (h : PH) (w : World) : Prop where
  below : Below w0.heap.size w0 w
  top : h.top ≤ w.heap.size
  sat : ∀ b k, h.m b = some k → w0.heap.size ≤ b ∧ BSat w b k

def PH.empty (w0 : World) : PH := ⟨w0.heap.size, fun _ => none, fun _ _ h => by cases h⟩
theorem Sim.empty (w0 : World) : Sim w0 (PH.empty w0) w0 := ⟨Below.refl _ _, Nat.le_refl _, fun _ _ h => by cases h⟩

def PH.new (h : PH) (b : Nat) (k : Bk) : PH :=
  ⟨max h.top (b + 1), fun x => if x = b then some k else h.m x, fun x y e => by
    by_cases hx : x = b
    · omega
    · rw [if_neg hx] at e
      have := h.lt x y e
      omega⟩
def PH.del (h : PH) (b : Nat) : PH :=
  ⟨h.top, fun x => if x = b then none else h.m x, fun x y e => by
    by_cases hx : x = b
    · rw [if_pos hx] at e; cases e
    · rw [if_neg hx] at e; exact h.lt x y e⟩
theorem PH.new_m (h : PH) (b : Nat) (k : Bk) (x : Nat) : (h.new b k).m x = if x = b then some k else h.m x := rfl
theorem PH.new_top (h : PH) (b : Nat) (k : Bk) : (h.new b k).top = max h.top (b + 1) := rfl
theorem PH.del_m (h : PH) (b : Nat) (x : Nat) : (h.del b).m x = if x = b then none else h.m x := rfl
theorem PH.del_top (h : PH) (b : Nat) : (h.del b).top = h.top := rfl

structure PH.Le (h h' : PH) : Prop where
  top : h.top ≤ h'.top
  m : ∀ b k, h.m b = some k → h'.m b = some k
theorem PH.Le.refl (h : PH) : PH.Le h h := ⟨Nat.le_refl _, fun _ _ e => e⟩
theorem PH.Le.trans {a b c : PH} (h : PH.Le a b) (k : PH.Le b c) : PH.Le a c := ⟨Nat.le_trans h.top k.top, fun x y e => k.m x y (h.m x y e)⟩
theorem PH.Le.new {h h' : PH} (hl : PH.Le h h') (b : Nat) (k : Bk) (hb : h.top ≤ b) : PH.Le h (h'.new b k) := by
  refine ⟨?_, fun x y e => ?_⟩
  · have := hl.top
    simp only [PH.new_top]; omega
  · have := h.lt x y e
    rw [PH.new_m, if_neg (by omega)]
    exact hl.m x y e
theorem PH.Le.del {h h' : PH} (hl : PH.Le h h') (b : Nat) (hb : h.top ≤ b) : PH.Le h (h'.del b) := by
  refine ⟨hl.top, fun x y e => ?_⟩
  have := h.lt x y e
  rw [PH.del_m, if_neg (by omega)]
  exact hl.m x y e
theorem PH.Le.new1 {h h' : PH} {b : Nat} {k : Bk} (hl : PH.Le h h') (hb : h'.m b = some k) : PH.Le (h.new b k) h' := by
  have hb' := h'.lt b k hb
  have ht := hl.top
  refine ⟨by simp only [PH.new_top]; omega, fun x y e => ?_⟩
  rw [PH.new_m] at e
  by_cases hx : x = b
  · subst hx
    rw [if_pos rfl] at e
    rw [← Option.some.inj e]
    exact hb
  · rw [if_neg hx] at e
    exact hl.m x y e

section
variable {w0 w w' : World} {h h' : PH}
theorem Sim.weak (s : Sim w0 h w) (hl : PH.Le h' h) : Sim w0 h' w := ⟨s.below, Nat.le_trans hl.top s.top, fun b k e => s.sat b k (hl.m b k e)⟩
def PH.Sub (w0 : World) (h' h : PH) : Prop := ∀ w, Sim w0 h w → Sim w0 h' w
theorem PH.Le.sub {w0 : World} {h h' : PH} (hl : PH.Le h' h) : PH.Sub w0 h' h := fun _ s => s.weak hl
theorem Sim.drew (s : Sim w0 h w) : Sim w0 h w.drew := ⟨s.below.drew, s.top, s.sat⟩
theorem Sim.base (s : Sim w0 h w) : w0.heap.size ≤ w.heap.size := s.below.size
theorem Sim.step {row : Option Nat} (s : Sim w0 h w) (hg : w.grownBy w' row) (hr : ∀ b, row = some b → w0.heap.size ≤ b ∧ h.m b = none) : Sim w0 h w' := by
  refine ⟨s.below.grown hg s.base (fun k e => (hr k e).1), Nat.le_trans s.top hg.size, fun b k e => ?_⟩
  obtain ⟨h1, hs⟩ := s.sat b k e
  refine ⟨h1, hs.congr (hg.block b (Nat.lt_of_lt_of_le (h.lt b k e) s.top) ?_)⟩
  intro e'
  have := (hr b e'.symm).2
  rw [this] at e
  cases e
theorem Sim.put (s : Sim w0 h w) {b : Nat} {k : Bk} (hb : w0.heap.size ≤ b) (hs : BSat w b k) : Sim w0 (h.new b k) w := by
  refine ⟨s.below, ?_, fun x y e => ?_⟩
  · obtain ⟨o, hc⟩ := hs.heap
    have h1 := (Array.getElem?_eq_some_iff.1 hc).1
    have h2 := s.top
    simp only [PH.new_top]; omega
  · rw [PH.new_m] at e
    by_cases hx : x = b
    · subst hx
      rw [if_pos rfl] at e
      rw [← Option.some.inj e]
      exact ⟨hb, hs⟩
    · rw [if_neg hx] at e
      exact s.sat x y e
theorem Sim.del (s : Sim w0 h w) (b : Nat) : Sim w0 (h.del b) w := by
  refine ⟨s.below, s.top, fun x y e => ?_⟩
  rw [PH.del_m] at e
  by_cases hx : x = b
  · rw [if_pos hx] at e; cases e
  · rw [if_neg hx] at e; exact s.sat x y e
end

theorem zHc (w : World) (o : Obj) (row : Option Nat) : w.grownBy (w.alloc o) row :=
  ⟨rfl, rfl, rfl, by simp, fun k hk _ => heap_alloc_old w o hk⟩
theorem BSat.new (w : World) (t : TypeId) (cs : List Value) : BSat (w.alloc (.cells cs.toArray t)) w.heap.size ⟨cs, cs.length⟩ :=
  ⟨cs.toArray, t, 0, 0, heap_alloc_new w _, by simp, .inl (Nat.le_refl _), Nat.le_refl _, by simp⟩
theorem Sim.alloc {w0 w : World} {h : PH} (s : Sim w0 h w) (t : TypeId) (cs : List Value) : Sim w0 (h.new w.heap.size ⟨cs, cs.length⟩) (w.alloc (.cells cs.toArray t)) :=
  (s.step (zHc w _ none) (fun _ e => by cases e)).put s.base (BSat.new w t cs)

def rd (w0 : World) (h : PH) (a : Addr) : Option Value :=
  if a.spot = none then
    match h.m a.block with
    | some k => k.xs[a.off]?
    | none => if a.block < w0.heap.size then w0.cell? a else none
  else none
theorem rd_sound {w0 w : World} {h : PH} (s : Sim w0 h w) {a : Addr} {v : Value} (e : rd w0 h a = some v) : w.cell? a = some v := by
  unfold rd at e
  by_cases hs : a.spot = none
  · rw [if_pos hs] at e
    split at e
    · rename_i k hk
      obtain ⟨cur, t, lo, hi, hc, h1, h2, h3, h4⟩ := (s.sat _ _ hk).2.cells (by have := (List.getElem?_eq_some_iff.1 e).1; omega)
      obtain ⟨b, o, sp⟩ := a
      simp only at hs hk hc e
      subst hs
      rw [cell_of_row w b o cur t (lo, hi) hc]
      rw [← h4, List.getElem?_take] at e
      split at e
      · simpa using e
      · cases e
    · split at e
      · rename_i hlt
        rw [s.below.cell hlt]; exact e
      · cases e
  · rw [if_neg hs] at e; cases e
def rdN (w0 : World) (h : PH) (a : Addr) (n : Nat) : Option (List Value) :=
  match h.m a.block with
  | some k => if a.spot = none ∧ a.off + n ≤ k.xs.length then some ((k.xs.drop a.off).take n) else none
  | none => (List.range n).mapM fun j => rd w0 h (a.add j)
theorem zE5 {α β : Type} {f : α → Option β} : ∀ {l : List α} {r : List β}, l.mapM f = some r → r.length = l.length ∧ ∀ (j : Nat) (x : α), l[j]? = some x → ∃ y, r[j]? = some y ∧ f x = some y
  | [], r, h => by simp at h; subst h; simp
  | x :: l, r, h => by
    rw [List.mapM_cons] at h
    simp only [Option.bind_eq_bind, Option.bind_eq_some_iff, Option.pure_def, Option.some.injEq] at h
    obtain ⟨y, hy, ys, hys, rfl⟩ := h
    obtain ⟨h1, h2⟩ := zE5 hys
    refine ⟨by simp [h1], fun j z hz => ?_⟩
    cases j with
    | zero => simp at hz; subst hz; exact ⟨y, rfl, hy⟩
    | succ j => simpa using h2 j z (by simpa using hz)
theorem zCw {w0 w : World} {h : PH} (s : Sim w0 h w) {a : Addr} {n : Nat} {cs : List Value} (e : rdN w0 h a n = some cs) : cs.length = n ∧ ∀ j v, cs[j]? = some v → w.cell? (a.add j) = some v := by
  unfold rdN at e
  split at e
  · rename_i k hk
    split at e
    · rename_i hc
      obtain ⟨hs, hl⟩ := hc
      have e := Option.some.inj e
      subst e
      refine ⟨by simp; omega, fun j v hv => ?_⟩
      have hj : j < n := by
        have := (List.getElem?_eq_some_iff.1 hv).1
        simp at this; omega
      obtain ⟨b, o, sp⟩ := a
      simp only at hs hk hl hv ⊢
      subst hs
      rw [Addr.add_mid]
      refine rd_sound s ?_
      unfold rd
      simp only [if_true, hk]
      rw [← hv, List.getElem?_take_of_lt hj, List.getElem?_drop]
    · cases e
  · obtain ⟨h1, h2⟩ := zE5 e
    refine ⟨by simpa using h1, fun j v hv => ?_⟩
    have hj : j < n := by have := (List.getElem?_eq_some_iff.1 hv).1; simp at h1; omega
    obtain ⟨y, hy, hf⟩ := h2 j j (by rw [List.getElem?_range hj])
    rw [hv] at hy
    rw [Option.some.inj hy]
    exact rd_sound s hf

/-! ### frames -/
abbrev Fr := Nat → Option Value
def Fr.put (f : Fr) (d : Option Tmp) (v : Value) : Fr := match d with
  | some d => fun t => if t = d then some v else f t
  | none => f
def Fr.args (l : List Value) (n : Nat) : Fr := fun t => if t < n then some (l.getD t undef) else none
structure FSat (f : Fr) (a : Act) (N : Nat) : Prop where
  size : a.tmps.size = N
  defers : a.defers = []
  at_ : ∀ t v, f t = some v → a.tmps[t]? = some v
def ev (f : Fr) : Operand → Option Value
  | .tmp t => f t
  | .const v => some v
  | .global g => some (.pointer (some ⟨g, 0, none⟩))
  | .func g => some (.func (.func g) #[] #[])
theorem zAr {f : Fr} {a : Act} {N : Nat} (s : FSat f a N) {x : Operand} {v : Value} (e : ev f x = some v) : a.eval x = v := by
  cases x with
  | tmp t =>
    have := s.at_ t v e
    simp [Act.eval, Array.getD_eq_getD_getElem?, this]
  | const u => simpa [ev, Act.eval] using e
  | global g => simpa [ev, Act.eval] using e
  | func g => simpa [ev, Act.eval] using e
def evs (f : Fr) (xs : Array Operand) : Option (List Value) := xs.toList.mapM (ev f)
theorem zBl {f : Fr} {a : Act} {N : Nat} (s : FSat f a N) {xs : Array Operand} {vs : List Value} (e : evs f xs = some vs) : xs.map a.eval = vs.toArray := by
  obtain ⟨h1, h2⟩ := zE5 e
  apply Array.ext'
  simp only [Array.toList_map]
  apply List.ext_getElem?
  intro j
  rw [List.getElem?_map]
  cases hx : xs.toList[j]? with
  | none =>
    simp only [Option.map_none]
    rw [List.getElem?_eq_none]
    have := List.getElem?_eq_none_iff.1 hx
    omega
  | some x =>
    obtain ⟨y, hy, hf⟩ := h2 j x hx
    simp only [Option.map_some, hy, zAr s hf]
def dstOk (N : Nat) (d : Option Tmp) : Bool := match d with
  | some d => decide (d < N)
  | none => true
theorem FSat.put {f : Fr} {a : Act} {N : Nat} (s : FSat f a N) {d : Option Tmp} (hd : dstOk N d = true) (v : Value) : FSat (f.put d v) (a.put d v) N := by
  cases d with
  | none => exact s
  | some d =>
    have hd' : d < N := by simpa [dstOk] using hd
    refine ⟨by simp [Act.put, s.size], by simp [Act.put, s.defers], fun t u e => ?_⟩
    simp only [Fr.put] at e
    simp only [Act.put]
    by_cases ht : t = d
    · subst ht
      rw [if_pos rfl] at e
      rw [← Option.some.inj e, Array.getElem?_setIfInBounds_self_of_lt (by rw [s.size]; exact hd')]
    · rw [if_neg ht] at e
      rw [Array.getElem?_setIfInBounds_ne (Ne.symm ht)]
      exact s.at_ t u e
theorem FSat.args {args : List Value} {N : Nat} (hn : args.length ≤ N) : FSat (Fr.args args N) { tmps := args.toArray ++ Array.replicate (N - args.toArray.size) undef, defers := [] } N := by
  refine ⟨by simp; omega, rfl, fun t v e => ?_⟩
  unfold Fr.args at e
  by_cases ht : t < N
  · rw [if_pos ht] at e
    have e := Option.some.inj e
    subst e
    rcases Nat.lt_or_ge t args.length with h | h
    · rw [Array.getElem?_append_left (by simpa using h)]
      simp [List.getD, List.getElem?_eq_getElem h]
    · rw [Array.getElem?_append_right (by simpa using h)]
      rw [Array.getElem?_replicate, if_pos (by simp at h ⊢; omega)]
      simp [List.getD, List.getElem?_eq_none h]
  · rw [if_neg ht] at e; cases e
end Go.Proofs.Ytblikpbaeippaaa.Px


namespace Go.Proofs.Ytblikpbaeippaaa.Px
set_option linter.unusedVariables false
set_option linter.unusedSimpArgs false
open Go.RowKit

structure Seal {α : Sort _} (a : α) : Type where
def entered (P : Program) (g : FuncId) : Bool := match P.funcs[g]? with
  | some fn => fn.name != "runtime.NumGoroutine" && fn.body.isSome
  | none => false
def PCalls (P : Program) (w0 : World) (g : FuncId) (args : List Value) (h : PH) (R : Value → PH → Prop) (_ : Seal R := ⟨⟩) : Prop :=
  ∀ w, Sim w0 h w → ((callFunc g args.toArray).run P w = .ok (.enter g args.toArray) w ∧ Calls P g args.toArray w fun e w' => ∃ v h', e = .returned v ∧ R v h' ∧ Sim w0 h' w') ∨
    ∃ v w' h', (callFunc g args.toArray).run P w = .ok (.value v) w' ∧ R v h' ∧ Sim w0 h' w'
def PW (P : Program) (w0 : World) (N : Nat) (c : Code) (f : Fr) (h : PH) (Q : Exit → Fr → PH → Prop) (_ : Seal c := ⟨⟩) (_ : Seal Q := ⟨⟩) : Prop :=
  ∀ a w, FSat f a N → Sim w0 h w → c.wp P (fun e a' w' => ∃ f' h', Q e f' h' ∧ FSat f' a' N ∧ Sim w0 h' w') a w
def Yld (P : Program) (m : Sem Value) (K : Value → Prop) (_ : Seal K := ⟨⟩) : Prop := ∃ r, (∀ w, m.run P w = .ok r w) ∧ K r
def Does (P : Program) (w0 : World) (h : PH) (m : Sem Value) (K : Value → PH → Prop) (_ : Seal K := ⟨⟩) : Prop :=
  ∀ w, Sim w0 h w → ∃ v w' h', m.run P w = .ok v w' ∧ K v h' ∧ Sim w0 h' w'
def Rds (P : Program) (w0 : World) (h : PH) (m : Sem Value) (K : Value → Prop) (_ : Seal K := ⟨⟩) : Prop := ∃ r, (∀ w, Sim w0 h w → m.run P w = .ok r w) ∧ K r
def lenK (vs : List Value) (A B : Prop) (_ : Seal A := ⟨⟩) (_ : Seal B := ⟨⟩) : Prop := match vs with
  | [.map (some _)] => A
  | _ => B
theorem zF4 (a : Option Addr) (n c : Nat) (A B : Prop) : lenK [.slice a n c] A B = B := rfl
theorem zHj (s : ByteArray) (A B : Prop) : lenK [.string s] A B = B := rfl
theorem lenK_map (b : Nat) (A B : Prop) : lenK [.map (some b)] A B = A := rfl
theorem lenK_mapN (A B : Prop) : lenK [.map none] A B = B := rfl
theorem lenK_agg (s : Array Value) (A B : Prop) : lenK [.agg s] A B = B := rfl
theorem lenK_ptr (a : Option Addr) (A B : Prop) : lenK [.pointer a] A B = B := rfl
def updateK (t : TypeId) (m k v : Value) : Sem Value := do
  Instr.mapUpdate t m k v
  pure undef
def vcIf (b : Bool) (X Y : Prop) (_ : Seal X := ⟨⟩) (_ : Seal Y := ⟨⟩) : Prop := (b = true → X) ∧ (b = false → Y)

theorem zAc {P : Program} {m : Sem Value} {K : Value → Prop} {r : Value} (hm : ∀ w, m.run P w = .ok r w) : Yld P m K = K r := by
  apply propext
  constructor
  · rintro ⟨r', h1, h2⟩
    have h3 := h1 default
    rw [hm] at h3
    injection h3 with h3
    rw [h3]; exact h2
  · exact fun h => ⟨r, hm, h⟩
theorem zBn (X Y : Prop) : vcIf true X Y = X := by simp [vcIf]
theorem zBj (X Y : Prop) : vcIf false X Y = Y := by simp [vcIf]
theorem PCalls.weak {P : Program} {w0 : World} {g : FuncId} {args : List Value} {h : PH} {R R' : Value → PH → Prop} (hc : PCalls P w0 g args h R) (hr : ∀ v h', R v h' → ∃ h2, PH.Le h2 h' ∧ R' v h2) : PCalls P w0 g args h R' := by
  intro w s
  rcases hc w s with ⟨h1, h2⟩ | ⟨v, w', h', h1, h2, h3⟩
  · refine .inl ⟨h1, h2.mono fun e w' ⟨v, h', e1, e2, e3⟩ => ?_⟩
    obtain ⟨h2, hl, hR⟩ := hr v h' e2
    exact ⟨v, h2, e1, hR, e3.weak hl⟩
  · obtain ⟨h4, hl, hR⟩ := hr v h' h2
    exact .inr ⟨v, w', h4, h1, hR, h3.weak hl⟩
theorem PCalls.mono {P : Program} {w0 : World} {g : FuncId} {args : List Value} {h : PH} {R R' : Value → PH → Prop} (hc : PCalls P w0 g args h R) (hr : ∀ v h', R v h' → R' v h') : PCalls P w0 g args h R' :=
  hc.weak fun v h' r => ⟨h', PH.Le.refl _, hr v h' r⟩
theorem PW.mono {P : Program} {w0 : World} {N : Nat} {c : Code} {f : Fr} {h : PH} {Q Q' : Exit → Fr → PH → Prop} (hc : PW P w0 N c f h Q) (hq : ∀ e f h, Q e f h → Q' e f h) : PW P w0 N c f h Q' :=
  fun a w fs s => wp_mono (hc a w fs s) fun e a w ⟨f', h', q, r⟩ => ⟨f', h', hq _ _ _ q, r⟩
theorem PW.weak {P : Program} {w0 : World} {N : Nat} {c : Code} {f : Fr} {h h' : PH} {Q : Exit → Fr → PH → Prop} (hl : PH.Le h h') (hc : PW P w0 N c f h Q) : PW P w0 N c f h' Q :=
  fun a w fs s => hc a w fs (s.weak hl)

/-! ### one operation -/
def oget (o : Option Value) (k : Value → Prop) (_ : Seal k := ⟨⟩) : Prop := match o with
  | some v => k v
  | none => False
def ogetL (o : Option (List Value)) (k : List Value → Prop) (_ : Seal k := ⟨⟩) : Prop := match o with
  | some v => k v
  | none => False
def vev (f : Fr) (x : Operand) (k : Value → Prop) (_ : Seal k := ⟨⟩) : Prop := oget (ev f x) k
def vevs (f : Fr) (xs : Array Operand) (k : List Value → Prop) (_ : Seal k := ⟨⟩) : Prop := ogetL (evs f xs) k
def vop (f : Fr) (x : Option Operand) (k : Option Value → Prop) (_ : Seal k := ⟨⟩) : Prop := match x with
  | some x => vev f x fun v => k (some v)
  | none => k none
def vcNew (h : PH) (K : Nat → Prop) (_ : Seal K := ⟨⟩) : Prop := ∀ b, h.top ≤ b → K b
def aggB (P : Program) (t : TypeId) : Option Bool := (P.underlying t).map fun d => match d with
  | .struct _ => true
  | .array _ _ => true
  | _ => false
def szOf (P : Program) (t : TypeId) : Option Nat := (P.info? t).map (·.size)
def zcells (P : Program) (t : TypeId) : Option (List Value) := (P.info? t).bind fun i => i.zero.map fun z => z.cells.toList
def vload (P : Program) (w0 : World) (h : PH) (t : TypeId) (a : Addr) (k : Value → Prop) (_ : Seal k := ⟨⟩) : Prop := match aggB P t with
  | some false => oget (rd w0 h a) k
  | some true => (match szOf P t with
    | some n => ogetL (rdN w0 h a n) fun cs => k (.agg cs.toArray)
    | none => False)
  | none => False
def allOne (cs : List Value) : Prop := ∀ v ∈ cs, v.oneCell' = true
def vstore (P : Program) (w0 : World) (h : PH) (t : TypeId) (a : Addr) (v : Value) (k : PH → Prop) (_ : Seal k := ⟨⟩) : Prop :=
  szOf P t = some v.cells.size ∧ allOne v.cells.toList ∧ a.spot = none ∧
    match h.m a.block with
    | some b => a.off + v.cells.size ≤ b.xs.length ∧ k (h.new a.block (b.as (b.xs.take a.off ++ v.cells.toList ++ b.xs.drop (a.off + v.cells.size))))
    | none => False
def isSliceB (P : Program) (t : TypeId) : Bool := match P.underlying t with
  | some (.slice _) => true
  | _ => false
def vtext (P : Program) (w0 : World) (h : PH) (s d : TypeId) (x : Value) (k : Value → Prop) (_ : Seal k := ⟨⟩) : Prop :=
  ∃ e, P.underlying s = some (.slice e) ∧ P.underlying e = some (.int .u8) ∧ P.underlying d = some .string ∧
  match x with
  | .slice none n _ => k (.string .empty)
  | .slice (some a) n _ => ∃ l : List UInt8, l.length = n ∧ (0 < n → rdN w0 h a n = some (l.map fun c => .int .u8 c.toNat)) ∧ k (.string ⟨l.toArray⟩)
  | _ => False
def binS (op : BinOp) (t : TypeId) (x y : Operand) (u v : Value) : Sem Value := do
  eqGuard op t x y u v
  binOp op t u v
def nilS (x : Value) : Sem Value := match x with
  | .pointer none | .nilIface | .nilFunc => runtimePanic .nilDeref
  | .func (.method _) _ _ => stuck "not here"
  | x => pure x
def vinvoke (P : Program) (w0 : World) (h : PH) (r : Value) (name : String) (args : List Value) (K : Value → PH → Prop) (_ : Seal K := ⟨⟩) : Prop :=
  ∃ g as, (∀ w, (callMethod r name args.toArray).run P w = (callFunc g as.toArray).run P w) ∧ PCalls P w0 g as h K

def vcCall (P : Program) (w0 : World) (f : Fr) (h : PH) (c : Call) (ty : TypeId) (K : Value → PH → Prop) (_ : Seal c := ⟨⟩) (_ : Seal K := ⟨⟩) : Prop :=
  match c.callee with
  | .value (.func g) => vevs f c.args fun vs => PCalls P w0 g vs h K
  | .value x => vev f x fun fv => vevs f c.args fun vs => match fv with
    | .func (.func g) first cap => PCalls P w0 g (first.toList ++ vs ++ cap.toList) h K
    | _ => False
  | .builtin b => vevs f c.args fun vs => match b with
    | .len => lenK vs (Rds P w0 h (Builtin.len_ c.argTypes ty vs.toArray) fun v => K v h) (Yld P (Builtin.len_ c.argTypes ty vs.toArray) fun v => K v h)
    | .cap => Yld P (Builtin.cap_ c.argTypes ty vs.toArray) fun v => K v h
    | .max => Yld P (Builtin.max_ c.argTypes ty vs.toArray) fun v => K v h
    | .min => Yld P (Builtin.min_ c.argTypes ty vs.toArray) fun v => K v h
    | .append => Does P w0 h (Builtin.append_ c.argTypes ty vs.toArray) K
    | .copy => Does P w0 h (Builtin.copy_ c.argTypes ty vs.toArray) K
    | _ => False
  | .invoke r name => vev f r fun rv => vevs f c.args fun vs => vinvoke P w0 h rv name vs K

def vcOp (P : Program) (w0 : World) (o : Oper) (f : Fr) (h : PH) (K : Fr → PH → Prop) (_ : Seal o := ⟨⟩) (_ : Seal K := ⟨⟩) : Prop :=
  let y (v : Value) : Prop := K (f.put o.dst v) h
  match o.op with
  | .move x => vev f x y
  | .assign x => vev f x y
  | .pick c a b => vev f c fun t => vev f a fun u => vev f b fun v => match t with
    | .bool t => y (if t then u else v)
    | _ => False
  | .alloc t => match zcells P t with
    | some cs => vcNew h fun b => K (f.put o.dst (.pointer (some ⟨b, 0, none⟩))) (h.new b ⟨cs, cs.length⟩)
    | none => False
  | .box t x => vev f x fun v => vcNew h fun b => K (f.put o.dst (.pointer (some ⟨b, 0, none⟩))) (h.new b ⟨v.cells.toList, v.cells.size⟩)
  | .load t x => vev f x fun v => match v with
    | .pointer (some a) => vload P w0 h t a y
    | _ => False
  | .store t x v => vev f x fun p => vev f v fun u => match p with
    | .pointer (some a) => vstore P w0 h t a u fun h' => K (f.put o.dst undef) h'
    | _ => False
  | .nilCheck x => vev f x fun v => Yld P (nilS v) y
  | .binOp op t a b _ => vev f a fun u => vev f b fun v => Yld P (binS op t a b u v) y
  | .unOp op _ x => vev f x fun v => Yld P (Op.unary op v) y
  | .convert s d x => vev f x fun v => vcIf (isSliceB P d) (Does P w0 h (convert s d v) (fun r h' => K (f.put o.dst r) h')) (vcIf (isSliceB P s) (vtext P w0 h s d v y) (Yld P (convert s d v) y))
  | .makeInterface t x => vev f x fun v => Yld P (Instr.makeInterface t v) y
  | .makeFunc fn first cap => vevs f first fun u => vevs f cap fun v => y (.func fn u.toArray v.toArray)
  | .slice t x lo hi mx => vev f x fun v => vop f lo fun lo => vop f hi fun hi => vop f mx fun mx => Yld P (Instr.sliceAt t v lo hi mx) y
  | .fieldAddr s x i => vev f x fun v => Yld P (Instr.fieldAt s v i) y
  | .field t x i => vev f x fun v => Yld P (Instr.field t v i) y
  | .indexAddr t x i => vev f x fun v => vev f i fun j => Yld P (Instr.indexAt t v j) y
  | .index t x i => vev f x fun v => vev f i fun j => Yld P (Instr.index t v j) y
  | .extract x i => vev f x fun v => match v with
    | .tuple vs => (match vs[i]? with
      | some u => y u
      | none => False)
    | _ => False
  | .typeAssert x t u ok => vev f x fun v => Yld P (Instr.typeAssert v t u ok) y
  | .build t parts => vevs f (parts.map (·.2)) fun vs => Yld P (Instr.build t ((parts.toList.map (·.1)).zip vs).toArray) y
  | .buildSlice t n parts => vevs f (parts.map (·.2)) fun vs => Does P w0 h (Instr.buildSlice t n ((parts.toList.map (·.1)).zip vs).toArray) fun r h' => K (f.put o.dst r) h'
  | .makeSlice t l c => vev f l fun u => vev f c fun v => Does P w0 h (Instr.makeSlice t u v) fun r h' => K (f.put o.dst r) h'
  | .call c => vcCall P w0 f h c o.type fun r h' => K (f.put o.dst r) h'
  | .makeMap t none => Does P w0 h (Instr.makeMap t none) fun r h' => K (f.put o.dst r) h'
  | .lookup t x i ok => vev f x fun u => vev f i fun v => Rds P w0 h (Instr.lookup t u v ok) y
  | .mapUpdate t x i e => vev f x fun u => vev f i fun v => vev f e fun r => Does P w0 h (updateK t u v r) fun _ h' => K (f.put o.dst undef) h'
  | _ => False

section
variable {P : Program} {w0 : World} {h : PH} {f : Fr}
theorem oget_some (v : Value) (k : Value → Prop) : oget (some v) k = k v := rfl
theorem zEm (v : List Value) (k : List Value → Prop) : ogetL (some v) k = k v := rfl
theorem vev_tmp (t : Tmp) (k : Value → Prop) : vev f (.tmp t) k = oget (f t) k := rfl
theorem zGx (g : Nat) (k : Value → Prop) : vev f (.global g) k = k (.pointer (some ⟨g, 0, none⟩)) := rfl
theorem vev_func (g : Nat) (k : Value → Prop) : vev f (.func g) k = k (.func (.func g) #[] #[]) := rfl
theorem vevs_nil (k : List Value → Prop) : vevs f #[] k = k [] := rfl
theorem zCf (x : Operand) (l : List Operand) (k : List Value → Prop) : vevs f (x :: l).toArray k = vev f x fun u => vevs f l.toArray fun us => k (u :: us) := by
  unfold vevs vev evs
  simp only [List.mapM_cons]
  cases ev f x with
  | none => rfl
  | some u => cases h : List.mapM (ev f) l with
    | none => simp [h, ogetL, oget]
    | some us => simp [h, ogetL, oget]
theorem vevs_1 (a : Operand) (k : List Value → Prop) : vevs f #[a] k = vev f a fun u => k [u] := zCf a [] k
theorem vevs_2 (a b : Operand) (k : List Value → Prop) : vevs f #[a, b] k = vev f a fun u => vev f b fun v => k [u, v] := (zCf a [b] k).trans (congrArg (fun K => vev f a K) (funext fun u => vevs_1 b _))
theorem vevs_3 (a b c : Operand) (k : List Value → Prop) : vevs f #[a, b, c] k = vev f a fun u => vev f b fun v => vev f c fun w => k [u, v, w] := (zCf a [b, c] k).trans (congrArg (fun K => vev f a K) (funext fun u => vevs_2 b c _))
theorem vevs_4 (a b c d : Operand) (k : List Value → Prop) : vevs f #[a, b, c, d] k = vev f a fun u => vev f b fun v => vev f c fun w => vev f d fun x => k [u, v, w, x] := (zCf a [b, c, d] k).trans (congrArg (fun K => vev f a K) (funext fun u => vevs_3 b c d _))
theorem vevs_5 (a b c d e : Operand) (k : List Value → Prop) : vevs f #[a, b, c, d, e] k = vev f a fun u => vev f b fun v => vev f c fun w => vev f d fun x => vev f e fun y => k [u, v, w, x, y] := (zCf a [b, c, d, e] k).trans (congrArg (fun K => vev f a K) (funext fun u => vevs_4 b c d e _))
theorem vevs_6 (a b c d e g : Operand) (k : List Value → Prop) : vevs f #[a, b, c, d, e, g] k = vev f a fun u => vev f b fun v => vev f c fun w => vev f d fun x => vev f e fun y => vev f g fun z => k [u, v, w, x, y, z] := (zCf a [b, c, d, e, g] k).trans (congrArg (fun K => vev f a K) (funext fun u => vevs_5 b c d e g _))
theorem vop_none (k : Option Value → Prop) : vop f none k = k none := rfl
theorem vop_some' (x : Operand) (k : Option Value → Prop) : vop f (some x) k = vev f x fun v => k (some v) := rfl
theorem vload_one {t : TypeId} {a : Addr} {k : Value → Prop} (e : aggB P t = some false) : vload P w0 h t a k = oget (rd w0 h a) k := by unfold vload; rw [e]
theorem zAz {t : TypeId} {a : Addr} {k : Value → Prop} {n : Nat} (e : aggB P t = some true) (e2 : szOf P t = some n) : vload P w0 h t a k = ogetL (rdN w0 h a n) fun cs => k (.agg cs.toArray) := by unfold vload; rw [e, e2]
end

def OW (P : Program) (w0 : World) (N : Nat) (o : Oper) (f : Fr) (h : PH) (K : Fr → PH → Prop) : Prop :=
  ∀ a w, FSat f a N → Sim w0 h w → ∀ (Kr : Act → World → Prop) (Qr : Exit → Act → World → Prop), (∀ f' h' a' w', K f' h' → FSat f' a' N → Sim w0 h' w' → Kr a' w') → o.wp P a w Kr Qr

section
variable {P : Program} {w0 : World} {N : Nat} {o : Oper} {f : Fr} {h : PH} {K : Fr → PH → Prop}
theorem zAs {x : Operand} {k : Value → Prop} (hv : vev f x k) : ∃ v, ev f x = some v ∧ k v := by
  unfold vev oget at hv; split at hv
  · exact ⟨_, ‹_›, hv⟩
  · exact hv.elim
theorem zBm {x : Array Operand} {k : List Value → Prop} (hv : vevs f x k) : ∃ v, evs f x = some v ∧ k v := by
  unfold vevs ogetL at hv; split at hv
  · exact ⟨_, ‹_›, hv⟩
  · exact hv.elim
theorem zDe {x : Option Operand} {k : Option Value → Prop} (hv : vop f x k) : ∃ v, (∀ {a : Act} {N : Nat}, FSat f a N → x.map a.eval = v) ∧ k v := by
  cases x with
  | none => exact ⟨none, fun _ => rfl, hv⟩
  | some x =>
    obtain ⟨v, h1, h2⟩ := zAs hv
    exact ⟨some v, fun s => by rw [Option.map_some, zAr s h1], h2⟩
theorem zDy {v : Value} (hd : dstOk N o.dst = true) (hr : ∀ a w, FSat f a N → Sim w0 h w → (execOp a.eval o).run P w = .ok (.value v) w) (hk : K (f.put o.dst v) h) : OW P w0 N o f h K := by
  intro a w fs s Kr Qr hK
  unfold Oper.wp
  rw [hr a w fs s]
  exact hK _ _ _ _ hk (fs.put hd v) s
theorem zDc {m : Sem Value} (hd : dstOk N o.dst = true) (hr : ∀ a w, FSat f a N → Sim w0 h w → execOp a.eval o = (do pure (Next.value (← m)))) (hk : Does P w0 h m fun r h' => K (f.put o.dst r) h') : OW P w0 N o f h K := by
  intro a w fs s Kr Qr hK
  unfold Oper.wp
  rw [hr a w fs s]
  obtain ⟨v, w', h', h1, h2, h3⟩ := hk w s
  simp only [Sem.run_bind, h1, Result.andThen_ok, Sem.run_pure]
  exact hK _ _ _ _ h2 (fs.put hd v) h3
theorem OW_calls {g : FuncId} {args : List Value} (hd : dstOk N o.dst = true) (hr : ∀ a w, FSat f a N → Sim w0 h w → (execOp a.eval o).run P w = (callFunc g args.toArray).run P w) (hk : PCalls P w0 g args h fun r h' => K (f.put o.dst r) h') : OW P w0 N o f h K := by
  intro a w fs s Kr Qr hK
  unfold Oper.wp
  rw [hr a w fs s]
  rcases hk w s with ⟨h1, h2⟩ | ⟨v, w', h', h1, h2, h3⟩
  · rw [h1]
    simp only [Oper.upon]
    refine h2.mono ?_
    rintro e w' ⟨v, h', rfl, h2, h3⟩
    exact hK _ _ _ _ h2 (fs.put hd v) h3
  · rw [h1]
    exact hK _ _ _ _ h2 (fs.put hd v) h3
theorem zIx {g : FuncId} (he : entered P g = true) (args : Array Value) (w : World) : (callFunc g args).run P w = .ok (.enter g args) w := by
  unfold entered at he
  cases hf : P.funcs[g]? with
  | none => rw [hf] at he; cases he
  | some fn =>
    rw [hf] at he
    simp only [Bool.and_eq_true, bne_iff_ne, ne_eq] at he
    obtain ⟨h1, h2⟩ := he
    have h3 : fn.body.isNone = false := by cases hb : fn.body <;> simp_all
    simp [callFunc, hf, h1, h3]
    intro hb; simp [hb] at h2

theorem zI4 {w : World} (t : TypeId) (a : Addr) (n : Nat) (cs : List Value) (ha : aggB P t = some true) (hs : szOf P t = some n) (hl : cs.length = n) (hc : ∀ j v, cs[j]? = some v → w.cell? (a.add j) = some v) : (loadVar t a).run P w = .ok (.agg cs.toArray) w := by
  obtain ⟨d, hd, hd'⟩ := Option.map_eq_some_iff.1 ha
  obtain ⟨i, hi, hi'⟩ := Option.map_eq_some_iff.1 hs
  have h1 := run_loadCells_list (P := P) w a cs hc
  rw [hl] at h1
  have h2 : (isAgg t).run P w = .ok true w := by
    simp only [isAgg, Sem.run_bind, run_underlying hd, Result.andThen_ok]
    cases d <;> simp_all
  simp [loadVar, h2, sizeOf, typeInfo, hi, hi', h1]
theorem zJa {w : World} (t : TypeId) (a : Addr) (v : Value) (ha : aggB P t = some false) (hc : w.cell? a = some v) : (loadVar t a).run P w = .ok v w := by
  obtain ⟨d, hd, hd'⟩ := Option.map_eq_some_iff.1 ha
  have h2 : (isAgg t).run P w = .ok false w := by
    simp only [isAgg, Sem.run_bind, run_underlying hd, Result.andThen_ok]
    cases d <;> simp_all
  simp [loadVar, h2, hc]
theorem zIq {t : TypeId} {a : Addr} {k : Value → Prop} (hv : vload P w0 h t a k) : ∃ v, k v ∧ ∀ w, Sim w0 h w → (loadVar t a).run P w = .ok v w := by
  unfold vload at hv
  split at hv
  · rename_i ha
    unfold oget at hv
    split at hv
    · rename_i v hr
      exact ⟨v, hv, fun w s => zJa t a v ha (rd_sound s hr)⟩
    · exact hv.elim
  · rename_i ha
    split at hv
    · rename_i n hs
      unfold ogetL at hv
      split at hv
      · rename_i cs hr
        refine ⟨_, hv, fun w s => ?_⟩
        obtain ⟨h1, h2⟩ := zCw s hr
        exact zI4 t a n cs ha hs h1 h2
      · exact hv.elim
    · exact hv.elim
  · exact hv.elim
theorem zEl {b : Nat} {t : TypeId} {fz : Nat × Nat} (vs : List Value) : ∀ (o : Nat) {cs : List Value} {w : World}, w.heap[b]? = some (.cells cs.toArray t fz) → o + vs.length ≤ cs.length → (w.setCells b o vs).heap[b]? = some (.cells (cs.take o ++ vs ++ cs.drop (o + vs.length)).toArray t fz) := by
  induction vs with
  | nil => intro o cs w h _; simpa [World.setCells] using h
  | cons v vs ih =>
    intro o cs w h hl
    have h1 : (w.setCell ⟨b, o, none⟩ v).heap[b]? = some (.cells (cs.set o v).toArray t fz) := by
      simp [World.setCell, Array.getElem?_modify, h]
    have h2 := ih (o + 1) h1 (by simp at hl ⊢; omega)
    have e : (cs.set o v).take (o + 1) ++ vs ++ (cs.set o v).drop (o + 1 + vs.length) = cs.take o ++ (v :: vs) ++ cs.drop (o + (v :: vs).length) := by
      have ho : o < cs.length := by simp at hl; omega
      rw [List.drop_set_of_lt (by omega), List.take_add_one, List.getElem?_set_self (by omega), List.take_set_of_le (by omega)]
      simp [Nat.add_assoc, Nat.add_comm 1]
    rw [e] at h2
    exact h2
theorem zEv (b : Nat) (vs : List Value) : ∀ (o : Nat) (w : World), w.grownBy (w.setCells b o vs) (some b) := by
  induction vs with
  | nil => intro o w; simpa [World.setCells] using World.grownBy.refl w _
  | cons v vs ih =>
    intro o w
    have h1 := ih (o + 1) (w.setCell ⟨b, o, none⟩ v)
    have hs : (w.setCell ⟨b, o, none⟩ v).heap.size = w.heap.size := by simp [World.setCell]
    refine ⟨h1.os, h1.tape, h1.output, by rw [← hs]; exact h1.size, fun k hk hne => (h1.block k (by rw [hs]; exact hk) hne).trans (Below.heap_setCell _ _ _ _ (by intro e; exact hne (by rw [e])))⟩
theorem Sim.store {w : World} (s : Sim w0 h w) {b o : Nat} {k : Bk} (vs : List Value) (hb : h.m b = some k) (hl : o + vs.length ≤ k.xs.length) :
    w.there b o vs.length ∧ Sim w0 (h.new b (k.as (k.xs.take o ++ vs ++ k.xs.drop (o + vs.length)))) (w.setCells b o vs) := by
  obtain ⟨h1, hs0⟩ := s.sat b k hb
  cases hmp : k.mp.o with
  | some ob =>
    have hx : k.xs = [] := by unfold BSat at hs0; rw [hmp] at hs0; exact hs0.1
    rw [hx] at hl
    have hl' : o + vs.length ≤ 0 := hl
    have hv : vs = [] := List.eq_nil_of_length_eq_zero (by omega)
    have ho : o = 0 := by omega
    subst hv; subst ho
    refine ⟨fun j hj => by simp at hj, ?_⟩
    have e1 : k.as (k.xs.take 0 ++ [] ++ k.xs.drop (0 + ([] : List Value).length)) = k := by rw [hx]; cases k; subst hx; rfl
    rw [e1]
    have s2 := s.put h1 hs0
    simpa [World.setCells] using s2
  | none =>
  have hs1 : BCells w b k := by unfold BSat at hs0; rw [hmp] at hs0; exact hs0
  obtain ⟨cur, t, lo, hi, hc, g1, g2, g3, g4⟩ := hs1
  have hcl : k.xs.length ≤ cur.toList.length := by simp; omega
  have hlt := (Array.getElem?_eq_some_iff.1 hc).1
  constructor
  · intro j hj
    rw [cell_of_row w b (o + j) cur t (lo, hi) hc]
    refine ⟨by simp at hcl ⊢; omega, ?_⟩
    simp [World.frozen?, hc]
    omega
  · have hh := zEl (w := w) (b := b) (t := t) (fz := (lo, hi)) (cs := cur.toList) vs o (by simpa using hc) (by omega)
    have hg := zEv b vs o w
    have s1 : Sim w0 (h.del b) (w.setCells b o vs) := (s.del b).step hg (fun x e => by injection e with e; subst e; exact ⟨h1, by simp [PH.del_m]⟩)
    have s2 := s1.put (b := b) (k := k.as (k.xs.take o ++ vs ++ k.xs.drop (o + vs.length))) h1 (BCells.sat (by show k.mp.o = none; exact hmp) ⟨_, t, lo, hi, hh, by simp only [Bk.as]; simp at hcl ⊢; omega, g2, by simp only [Bk.as]; simp; omega, ?_⟩)
    · refine s2.weak ⟨by simp only [PH.new_top, PH.del_top]; omega, fun x y e => ?_⟩
      rw [PH.new_m] at e ⊢
      by_cases hx : x = b
      · rw [if_pos hx] at e ⊢; exact e
      · rw [if_neg hx] at e ⊢; rw [PH.del_m, if_neg hx]; exact e
    · have e1 : (k.xs.take o ++ vs ++ k.xs.drop (o + vs.length)).length = k.xs.length := by simp; omega
      show List.take (k.xs.take o ++ vs ++ k.xs.drop (o + vs.length)).length _ = k.xs.take o ++ vs ++ k.xs.drop (o + vs.length)
      rw [e1]
      apply List.ext_getElem?
      intro j
      have e2 : ∀ j, j < k.xs.length → k.xs[j]? = cur.toList[j]? := by
        intro j hj
        conv => lhs; rw [← g4]
        rw [List.getElem?_take_of_lt hj]
      rw [List.getElem?_take]
      split
      · rename_i hj
        simp only [List.getElem?_append, List.length_append, List.length_take, List.getElem?_take, List.getElem?_drop]
        have m1 : min o cur.toList.length = o := by omega
        have m2 : min o k.xs.length = o := by omega
        rw [m1, m2]
        split
        · split
          · rw [← e2 j hj]
          · rfl
        · rw [e2 _ (by omega)]
      · rename_i hj
        rw [List.getElem?_eq_none (by rw [e1]; omega)]
theorem zI5 {w : World} {b o : Nat} (ty : TypeId) (u : Value) (ht : w.there b o u.cells.toList.length) (hi : szOf P ty = some u.cells.size) (h1 : allOne u.cells.toList) :
    (storeVar ty ⟨b, o, none⟩ u).run P w = .ok () (w.setCells b o u.cells.toList) := by
  have ha : u.cells.all (·.oneCell') = true := by
    have := all_oneCell_toArray h1
    simpa using this
  exact run_storeVar_mid (P := P) w b o ty u.cells (by simpa using ht) hi ha
theorem vstore_sound {t : TypeId} {a : Addr} {v : Value} {k : PH → Prop} (hv : vstore P w0 h t a v k) : ∃ h', k h' ∧ ∀ w, Sim w0 h w → ∃ w', (storeVar t a v).run P w = .ok () w' ∧ Sim w0 h' w' := by
  obtain ⟨h1, h2, h3, h4⟩ := hv
  split at h4
  · rename_i bk hb
    obtain ⟨h5, h6⟩ := h4
    obtain ⟨b, o, sp⟩ := a
    simp only at h3 hb h5 h6
    subst h3
    refine ⟨_, h6, fun w s => ?_⟩
    have := s.store v.cells.toList hb (o := o) (by simpa using h5)
    exact ⟨_, zI5 t v this.1 h1 h2, by simpa using this.2⟩
  · exact h4.elim
end
end Go.Proofs.Ytblikpbaeippaaa.Px


namespace Go.Proofs.Ytblikpbaeippaaa.Px
set_option linter.unusedVariables false
set_option linter.unusedSimpArgs false
open Go.RowKit

section
variable {P : Program} {w0 : World} {N : Nat} {o : Oper} {f : Fr} {h : PH} {K : Fr → PH → Prop}

theorem zE3 {f : Fr} {a : Act} {N : Nat} (s : FSat f a N) {parts : Array (Nat × Operand)} {vs : List Value} (e : evs f (parts.map (·.2)) = some vs) :
    parts.map (fun p => (p.1, a.eval p.2)) = ((parts.toList.map (·.1)).zip vs).toArray := by
  have h1 := zBl s e
  have h2 : vs = parts.toList.map fun p => a.eval p.2 := by
    have := congrArg Array.toList h1
    simp at this
    rw [← this]; rfl
  subst h2
  apply Array.ext'
  simp only [Array.toList_map]
  generalize parts.toList = l
  clear h1 e
  induction l with
  | nil => rfl
  | cons x l ih => simp at ih ⊢; exact ih

theorem zCv {m : Sem Value} {g : Value → PH → Prop} {c : Call} {b : Builtin} {vs : List Value} {a : Act} {w : World} (hb : c.callee = .builtin b) (he : c.args.map a.eval = vs.toArray) (ho : o.op = .call c)
    (hm : ∀ ks, builtin b c.argTypes o.type ks vs.toArray = (do pure (Next.value (← m)))) : (execOp a.eval o).run P w = (do pure (Next.value (← m)) : Sem Next).run P w := by
  unfold execOp
  simp only [ho, resolve, hb, invoke, Sem.run_bind, Sem.run_pure, Result.andThen_ok, he, hm]

theorem OW_bYld {m : Sem Value} {c : Call} {b : Builtin} {vs : List Value} (hd : dstOk N o.dst = true) (hb : c.callee = .builtin b) (he : evs f c.args = some vs) (ho : o.op = .call c)
    (hm : ∀ ks, builtin b c.argTypes o.type ks vs.toArray = (do pure (Next.value (← m)))) (hk : Yld P m fun r => K (f.put o.dst r) h) : OW P w0 N o f h K := by
  obtain ⟨r, h1, h2⟩ := hk
  refine zDy (v := r) hd (fun a w fs s => ?_) h2
  rw [zCv (g := fun _ _ => True) hb (zBl fs he) ho hm]
  simp only [Sem.run_bind, h1, Result.andThen_ok, Sem.run_pure]
theorem OW_bRds {m : Sem Value} {c : Call} {b : Builtin} {vs : List Value} (hd : dstOk N o.dst = true) (hb : c.callee = .builtin b) (he : evs f c.args = some vs) (ho : o.op = .call c)
    (hm : ∀ ks, builtin b c.argTypes o.type ks vs.toArray = (do pure (Next.value (← m)))) (hk : Rds P w0 h m fun r => K (f.put o.dst r) h) : OW P w0 N o f h K := by
  obtain ⟨r, h1, h2⟩ := hk
  refine zDy (v := r) hd (fun a w fs s => ?_) h2
  rw [zCv (g := fun _ _ => True) hb (zBl fs he) ho hm]
  simp only [Sem.run_bind, h1 w s, Result.andThen_ok, Sem.run_pure]
theorem OW_bDoes {m : Sem Value} {c : Call} {b : Builtin} {vs : List Value} (hd : dstOk N o.dst = true) (hb : c.callee = .builtin b) (he : evs f c.args = some vs) (ho : o.op = .call c)
    (hm : ∀ ks, builtin b c.argTypes o.type ks vs.toArray = (do pure (Next.value (← m)))) (hk : Does P w0 h m fun r h' => K (f.put o.dst r) h') : OW P w0 N o f h K := by
  intro a w fs s Kr Qr hK
  unfold Oper.wp
  rw [zCv (g := fun _ _ => True) hb (zBl fs he) ho hm]
  obtain ⟨v, w', h', h1, h2, h3⟩ := hk w s
  simp only [Sem.run_bind, h1, Result.andThen_ok, Sem.run_pure]
  exact hK _ _ _ _ h2 (fs.put hd v) h3

theorem vcCall_sound {c : Call} (ho : o.op = .call c) (hd : dstOk N o.dst = true) (hv : vcCall P w0 f h c o.type fun r h' => K (f.put o.dst r) h') : OW P w0 N o f h K := by
  unfold vcCall at hv
  split at hv
  · rename_i g hc
    obtain ⟨vs, h1, h2⟩ := zBm hv
    refine OW_calls hd (fun a w fs s => ?_) h2
    unfold execOp
    simp only [ho, resolve, hc, Act.eval, Deferred.ofValue, Sem.run_bind, Sem.run_pure, Result.andThen_ok, invoke, Array.empty_append, Array.append_empty, zBl fs h1]
  · rename_i x _ hc
    obtain ⟨fv, h1, h2⟩ := zAs hv
    obtain ⟨vs, h3, h4⟩ := zBm h2
    split at h4
    · rename_i g first cap
      refine OW_calls hd (fun a w fs s => ?_) h4
      unfold execOp
      simp only [ho, resolve, hc, zAr fs h1, Deferred.ofValue, Sem.run_bind, Sem.run_pure, Result.andThen_ok, invoke, zBl fs h3]
      congr 2
      simp
    · exact h4.elim
  · rename_i b hc
    obtain ⟨vs, h1, h2⟩ := zBm hv
    split at h2
    · unfold lenK at h2
      split at h2
      · exact OW_bRds hd hc h1 ho (fun _ => rfl) h2
      · exact OW_bYld hd hc h1 ho (fun _ => rfl) h2
    · exact OW_bYld hd hc h1 ho (fun _ => rfl) h2
    · exact OW_bYld hd hc h1 ho (fun _ => rfl) h2
    · exact OW_bYld hd hc h1 ho (fun _ => rfl) h2
    · exact OW_bDoes hd hc h1 ho (fun _ => rfl) h2
    · exact OW_bDoes hd hc h1 ho (fun _ => rfl) h2
    · exact h2.elim
  · rename_i r name hc
    obtain ⟨rv, h1, h2⟩ := zAs hv
    obtain ⟨vs, h3, h4⟩ := zBm h2
    obtain ⟨g, as, h5, h6⟩ := h4
    refine OW_calls hd (fun a w fs s => ?_) h6
    unfold execOp
    simp only [ho, resolve, hc, zAr fs h1, Sem.run_bind, Sem.run_pure, Result.andThen_ok, invoke, zBl fs h3]
    have := h5 w
    simpa using this


theorem fold_push (l : List UInt8) : ∀ s : ByteArray, (l.map fun c => (c.toNat : Int)).foldl (fun r n => r.push (UInt8.ofNat n.toNat)) s = ⟨s.data ++ l.toArray⟩ := by
  induction l with
  | nil => intro s; simp
  | cons c l ih =>
    intro s
    simp only [List.map_cons, List.foldl_cons, ih]
    simp [ByteArray.push]
theorem vtext_sound {s d : TypeId} {x : Value} {k : Value → Prop} (hv : vtext P w0 h s d x k) : ∃ v, k v ∧ ∀ w, Sim w0 h w → (convert s d x).run P w = .ok v w := by
  obtain ⟨e, hs, he, hd, hx⟩ := hv
  split at hx
  · exact ⟨_, hx, fun w _ => by rw [run_convert_bytes_string w s d e _ _ _ hs he hd]; simp [Conv.bytesToString]⟩
  · rename_i a n c
    obtain ⟨l, hln, h1, h2⟩ := hx
    refine ⟨_, h2, fun w sm => ?_⟩
    have h34 : (l.map fun c : UInt8 => Value.int .u8 c.toNat).length = n ∧ ∀ j v, (l.map fun c : UInt8 => Value.int .u8 c.toNat)[j]? = some v → w.cell? (a.add j) = some v := by
      rcases Nat.eq_zero_or_pos n with h0 | h0
      · have : l = [] := List.eq_nil_of_length_eq_zero (by omega)
        subst this
        exact ⟨by simpa using hln, fun j v e => by simp at e⟩
      · exact zCw sm (h1 h0)
    obtain ⟨h3, h4⟩ := h34
    rw [run_convert_bytes_string w s d e _ _ _ hs he hd]
    have h5 := run_loadCells_list (P := P) w a _ h4
    rw [h3] at h5
    rw [run_bytesToString w a n c (l.map fun c => (c.toNat : Int)) (by rw [h5]; simp [List.map_map, Function.comp_def]), fold_push]
    simp [ByteArray.empty, ByteArray.emptyWithCapacity]
    rfl
  · exact hx.elim

theorem nil_run {x : Operand} {v : Value} {a : Act} {w : World} (ho : o.op = .nilCheck x) (hx : a.eval x = v) {r : Value} (hr : (nilS v).run P w = .ok r w) : (execOp a.eval o).run P w = .ok (.value r) w := by
  unfold execOp
  simp only [ho, hx]
  unfold nilS at hr
  split at hr
  · cases hr
  · cases hr
  · cases hr
  · cases hr
  · rename_i h1 h2 h3 h4
    simp only [Sem.run_pure] at hr
    injection hr with hr
    subst hr
    cases v with
    | pointer p => cases p with
      | none => exact absurd rfl h1
      | some p => rfl
    | nilIface => exact absurd rfl h2
    | nilFunc => exact absurd rfl h3
    | func fn a b => cases fn with
      | method n => exact absurd rfl (h4 n a b)
      | _ => rfl
    | _ => rfl


def silentB (P : Program) (o : Op) : Bool := match o with
  | .move _ | .assign _ | .pick .. | .load .. | .nilCheck _ | .binOp .. | .unOp .. | .makeInterface .. | .makeFunc .. | .slice .. | .fieldAddr .. | .field .. | .indexAddr .. | .index .. | .lookup .. | .extract .. | .typeAssert .. | .build .. => true
  | .convert _ d _ => !isSliceB P d
  | .call { callee := .builtin .len, .. } | .call { callee := .builtin .cap, .. } | .call { callee := .builtin .max, .. } | .call { callee := .builtin .min, .. } => true
  | _ => false
def SW (P : Program) (w0 : World) (N : Nat) (o : Oper) (f : Fr) (h : PH) (K : Fr → PH → Prop) : Prop :=
  ∃ v, K (f.put o.dst v) h ∧ ∀ a w, FSat f a N → Sim w0 h w → (execOp a.eval o).run P w = .ok (.value v) w
theorem SW.ow (hd : dstOk N o.dst = true) (hs : SW P w0 N o f h K) : OW P w0 N o f h K := by
  obtain ⟨v, h1, h2⟩ := hs
  exact zDy hd h2 h1
theorem zCe {v : Value} (hd : dstOk N o.dst = true) (hr : ∀ a w, FSat f a N → Sim w0 h w → (execOp a.eval o).run P w = .ok (.value v) w) (hk : K (f.put o.dst v) h) : SW P w0 N o f h K := ⟨v, hk, hr⟩
theorem zBw {m : Sem Value} (hd : dstOk N o.dst = true) (hr : ∀ a w, FSat f a N → Sim w0 h w → execOp a.eval o = (do pure (Next.value (← m)))) (hk : Yld P m fun r => K (f.put o.dst r) h) : SW P w0 N o f h K := by
  obtain ⟨r, h1, h2⟩ := hk
  refine ⟨r, h2, fun a w fs s => ?_⟩
  rw [hr a w fs s]
  simp only [Sem.run_bind, h1, Result.andThen_ok, Sem.run_pure]
theorem SW_rds {m : Sem Value} (hd : dstOk N o.dst = true) (hr : ∀ a w, FSat f a N → Sim w0 h w → execOp a.eval o = (do pure (Next.value (← m)))) (hk : Rds P w0 h m fun r => K (f.put o.dst r) h) : SW P w0 N o f h K := by
  obtain ⟨r, h1, h2⟩ := hk
  refine ⟨r, h2, fun a w fs s => ?_⟩
  rw [hr a w fs s]
  simp only [Sem.run_bind, h1 w s, Result.andThen_ok, Sem.run_pure]
theorem SW_bRds {m : Sem Value} {c : Call} {b : Builtin} {vs : List Value} (hb : c.callee = .builtin b) (he : evs f c.args = some vs) (ho : o.op = .call c)
    (hm : ∀ ks, builtin b c.argTypes o.type ks vs.toArray = (do pure (Next.value (← m)))) (hk : Rds P w0 h m fun r => K (f.put o.dst r) h) : SW P w0 N o f h K := by
  obtain ⟨r, h1, h2⟩ := hk
  refine ⟨r, h2, fun a w fs s => ?_⟩
  rw [zCv (g := fun _ _ => True) hb (zBl fs he) ho hm]
  simp only [Sem.run_bind, h1 w s, Result.andThen_ok, Sem.run_pure]
theorem SW_bYld {m : Sem Value} {c : Call} {b : Builtin} {vs : List Value} (hb : c.callee = .builtin b) (he : evs f c.args = some vs) (ho : o.op = .call c)
    (hm : ∀ ks, builtin b c.argTypes o.type ks vs.toArray = (do pure (Next.value (← m)))) (hk : Yld P m fun r => K (f.put o.dst r) h) : SW P w0 N o f h K := by
  obtain ⟨r, h1, h2⟩ := hk
  refine ⟨r, h2, fun a w fs s => ?_⟩
  rw [zCv (g := fun _ _ => True) hb (zBl fs he) ho hm]
  simp only [Sem.run_bind, h1, Result.andThen_ok, Sem.run_pure]

set_option maxHeartbeats 1000000 in
theorem zCu (hs : silentB P o.op = true) (hd : dstOk N o.dst = true) (hv : vcOp P w0 o f h K) : SW P w0 N o f h K := by
  unfold vcOp at hv
  cases ho : o.op
  all_goals simp only [ho] at hv
  case move x =>
    obtain ⟨v, h1, h2⟩ := zAs hv
    exact zCe hd (fun a w fs s => by unfold execOp; simp only [ho, zAr fs h1, Sem.run_pure]) h2
  case assign x =>
    obtain ⟨v, h1, h2⟩ := zAs hv
    exact zCe hd (fun a w fs s => by unfold execOp; simp only [ho, zAr fs h1, Sem.run_pure]) h2
  case pick c x y =>
    obtain ⟨t, h1, h2⟩ := zAs hv
    obtain ⟨u, h3, h4⟩ := zAs h2
    obtain ⟨v, h5, h6⟩ := zAs h4
    split at h6
    · rename_i t
      refine zCe hd (fun a w fs s => ?_) h6
      unfold execOp
      simp only [ho, zAr fs h1, zAr fs h3, zAr fs h5, asBool, Sem.run_bind, Sem.run_pure, Result.andThen_ok]
    · exact h6.elim
  case load t x =>
    obtain ⟨v, h1, h2⟩ := zAs hv
    split at h2
    · rename_i a
      obtain ⟨r, h3, h4⟩ := zIq h2
      refine zCe hd (fun ac w fs s => ?_) h3
      unfold execOp
      simp only [ho, zAr fs h1, Instr.loadAt, Instr.sureAddr, Sem.run_bind, Sem.run_pure, Result.andThen_ok, h4 w s]
    · exact h2.elim
  case nilCheck x =>
    obtain ⟨v, h1, r, h2, h3⟩ := zAs hv
    exact zCe hd (fun a w fs s => nil_run ho (zAr fs h1) (h2 w)) h3
  case binOp op t x y yt =>
    obtain ⟨u, h1, h2⟩ := zAs hv
    obtain ⟨v, h3, h4⟩ := zAs h2
    exact zBw hd (fun a w fs s => by unfold execOp; simp only [ho, zAr fs h1, zAr fs h3]; rfl) h4
  case unOp op t x =>
    obtain ⟨v, h1, h2⟩ := zAs hv
    exact zBw hd (fun a w fs s => by unfold execOp; simp only [ho, zAr fs h1]) h2
  case makeInterface t x =>
    obtain ⟨v, h1, h2⟩ := zAs hv
    exact zBw hd (fun a w fs s => by unfold execOp; simp only [ho, zAr fs h1]) h2
  case makeFunc fn first cap =>
    obtain ⟨u, h1, h2⟩ := zBm hv
    obtain ⟨v, h3, h4⟩ := zBm h2
    exact zCe hd (fun a w fs s => by unfold execOp; simp only [ho, zBl fs h1, zBl fs h3, Instr.makeFunc, Sem.run_bind, Sem.run_pure, Result.andThen_ok]) h4
  case slice t x lo hi mx =>
    obtain ⟨v, h1, h2⟩ := zAs hv
    obtain ⟨lo', l1, h2⟩ := zDe h2
    obtain ⟨hi', l2, h2⟩ := zDe h2
    obtain ⟨mx', l3, h2⟩ := zDe h2
    exact zBw hd (fun a w fs s => by unfold execOp; simp only [ho, zAr fs h1, l1 fs, l2 fs, l3 fs]) h2
  case fieldAddr t x i =>
    obtain ⟨v, h1, h2⟩ := zAs hv
    exact zBw hd (fun a w fs s => by unfold execOp; simp only [ho, zAr fs h1]) h2
  case field t x i =>
    obtain ⟨v, h1, h2⟩ := zAs hv
    exact zBw hd (fun a w fs s => by unfold execOp; simp only [ho, zAr fs h1]) h2
  case indexAddr t x i =>
    obtain ⟨u, h1, h2⟩ := zAs hv
    obtain ⟨v, h3, h4⟩ := zAs h2
    exact zBw hd (fun a w fs s => by unfold execOp; simp only [ho, zAr fs h1, zAr fs h3]) h4
  case index t x i =>
    obtain ⟨u, h1, h2⟩ := zAs hv
    obtain ⟨v, h3, h4⟩ := zAs h2
    exact zBw hd (fun a w fs s => by unfold execOp; simp only [ho, zAr fs h1, zAr fs h3]) h4
  case lookup t x i ok =>
    obtain ⟨u, h1, h2⟩ := zAs hv
    obtain ⟨v, h3, h4⟩ := zAs h2
    exact SW_rds hd (fun a w fs s => by unfold execOp; simp only [ho, zAr fs h1, zAr fs h3]) h4
  case extract x i =>
    obtain ⟨v, h1, h2⟩ := zAs hv
    split at h2
    · rename_i vs
      split at h2
      · rename_i u hu
        exact zCe hd (fun a w fs s => by unfold execOp; simp only [ho, zAr fs h1, Instr.extract, hu, Sem.run_bind, Sem.run_pure, Result.andThen_ok]) h2
      · exact h2.elim
    · exact h2.elim
  case typeAssert x t u ok =>
    obtain ⟨v, h1, h2⟩ := zAs hv
    exact zBw hd (fun a w fs s => by unfold execOp; simp only [ho, zAr fs h1]) h2
  case build t parts =>
    obtain ⟨vs, h1, h2⟩ := zBm hv
    exact zBw hd (fun a w fs s => by unfold execOp; simp only [ho, zE3 fs h1]) h2
  case convert s d x =>
    obtain ⟨v, h1, h2⟩ := zAs hv
    cases hsd : isSliceB P d <;> rw [hsd] at h2
    · rw [zBj] at h2
      cases hss : isSliceB P s <;> rw [hss] at h2
      rotate_left
      · rw [zBn] at h2
        obtain ⟨r, h3, h4⟩ := vtext_sound h2
        refine zCe hd (fun a w fs s => ?_) h3
        unfold execOp
        simp only [ho, zAr fs h1, Sem.run_bind, Sem.run_pure, Result.andThen_ok, h4 w s]
      · rw [zBj] at h2
        exact zBw hd (fun a w fs s => by unfold execOp; simp only [ho, zAr fs h1]) h2
    · rw [ho] at hs
      simp [silentB, hsd] at hs
  case call c =>
    rw [ho] at hs
    unfold vcCall at hv
    obtain ⟨callee, args, argTypes⟩ := c
    cases callee with
    | value x => cases hs
    | invoke r n => cases hs
    | builtin b =>
      obtain ⟨vs, h1, h2⟩ := zBm hv
      cases b
      case len =>
        simp only at h2
        unfold lenK at h2
        split at h2
        · exact SW_bRds rfl h1 ho (fun _ => rfl) h2
        · exact SW_bYld rfl h1 ho (fun _ => rfl) h2
      all_goals first | (exact SW_bYld rfl h1 ho (fun _ => rfl) h2) | cases hs
  all_goals (rw [ho] at hs; cases hs)

set_option maxHeartbeats 1000000 in
theorem zC8 (hd : dstOk N o.dst = true) (hv : vcOp P w0 o f h K) : OW P w0 N o f h K := by
  by_cases hs : silentB P o.op = true
  · exact (zCu hs hd hv).ow hd
  unfold vcOp at hv
  cases ho : o.op
  all_goals simp only [ho] at hv
  all_goals rw [ho] at hs
  case alloc t =>
    split at hv
    · rename_i cs hz
      obtain ⟨i, hi, hz'⟩ := Option.bind_eq_some_iff.1 hz
      obtain ⟨z, hz, hc⟩ := Option.map_eq_some_iff.1 hz'
      refine zDc (m := Instr.alloc t true (.tuple #[])) hd (fun a w fs s => by unfold execOp; simp only [ho]) (fun w s => ?_)
      refine ⟨_, _, _, ?_, hv w.heap.size s.top, s.alloc t cs⟩
      simp [Instr.alloc, zeroValue, typeInfo, hi, hz, newVar, newRow, ← hc]
    · exact hv.elim
  case box t x =>
    obtain ⟨v, h1, h2⟩ := zAs hv
    refine zDc (m := Instr.box t v) hd (fun a w fs s => by unfold execOp; simp only [ho, zAr fs h1]) (fun w s => ?_)
    refine ⟨_, _, _, ?_, h2 w.heap.size s.top, by have := s.alloc t v.cells.toList; simpa using this⟩
    simp [Instr.box, newVar, newRow]
  case store t x y =>
    obtain ⟨p, h1, h2⟩ := zAs hv
    obtain ⟨u, h3, h4⟩ := zAs h2
    split at h4
    · rename_i a
      obtain ⟨h', h5, h6⟩ := vstore_sound h4
      intro ac w fs s Kr Qr hK
      obtain ⟨w', h7, h8⟩ := h6 w s
      unfold Oper.wp execOp
      simp only [ho, zAr fs h1, zAr fs h3, Instr.storeAt, Instr.sureAddr, Sem.run_bind, Sem.run_pure, Result.andThen_ok, h7]
      exact hK _ _ _ _ h5 (fs.put hd _) h8
    · exact h4.elim
  case buildSlice t n parts =>
    obtain ⟨vs, h1, h2⟩ := zBm hv
    exact zDc hd (fun a w fs s => by unfold execOp; simp only [ho, zE3 fs h1]) h2
  case makeSlice t l c =>
    obtain ⟨u, h1, h2⟩ := zAs hv
    obtain ⟨v, h3, h4⟩ := zAs h2
    exact zDc hd (fun a w fs s => by unfold execOp; simp only [ho, zAr fs h1, zAr fs h3]) h4
  case call c => exact vcCall_sound ho hd hv
  case makeMap t r =>
    cases r with
    | none => exact zDc hd (fun a w fs s => by unfold execOp; simp only [ho, Option.map_none]) hv
    | some x => exact hv.elim
  case mapUpdate t x i e =>
    obtain ⟨u, h1, h2⟩ := zAs hv
    obtain ⟨v, h3, h4⟩ := zAs h2
    obtain ⟨r, h5, h6⟩ := zAs h4
    intro ac w fs s Kr Qr hK
    obtain ⟨z, w', h', h7, h8, h9⟩ := h6 w s
    have h7' : (Instr.mapUpdate t u v r).run P w = .ok () w' := by
      unfold updateK at h7
      rw [Sem.run_bind] at h7
      cases hm : (Instr.mapUpdate t u v r).run P w with
      | ok a w1 => rw [hm, Result.andThen_ok, Sem.run_pure] at h7; injection h7 with _ h7; rw [h7]
      | _ => rw [hm] at h7; first | (cases h7; done) | (simp [Result.andThen] at h7; done)
    unfold Oper.wp execOp
    simp only [ho, zAr fs h1, zAr fs h3, zAr fs h5, Sem.run_bind, Sem.run_pure, Result.andThen_ok, h7']
    exact hK _ _ _ _ h8 (fs.put hd _) h9
  case convert s d x =>
    obtain ⟨v, h1, h2⟩ := zAs hv
    cases hsd : isSliceB P d
    · simp [silentB, hsd] at hs
    · rw [hsd, zBn] at h2
      exact zDc hd (fun a w fs s => by unfold execOp; simp only [ho, zAr fs h1]) h2
  all_goals exact absurd rfl hs

/-! ### regions -/
def vcG (P : Program) (w0 : World) (ops : Array Oper) (o : Oper) (f : Fr) (h : PH) (K : Fr → PH → Prop) (_ : Seal ops := ⟨⟩) (_ : Seal o := ⟨⟩) (_ : Seal K := ⟨⟩) : Prop := match o.guard with
  | none => vcOp P w0 o f h K
  | some (j, want) => match ((ops[j]?).bind (·.dst)).bind f with
    | some (.bool b) => vcIf (b == want) (vcOp P w0 o f h K) (K (f.put o.dst undef) h)
    | some _ => K (f.put o.dst undef) h
    | none => False
def vcL (P : Program) (w0 : World) (ops : Array Oper) : List Oper → Fr → PH → (Fr → PH → Prop) → Prop
  | [], f, h, K => K f h
  | o :: l, f, h, K => vcG P w0 ops o f h fun f' h' => vcL P w0 ops l f' h' K
theorem zBr {ops : Array Oper} (hv : vcG P w0 ops o f h K) :
    (vcOp P w0 o f h K ∧ ∀ a, FSat f a N → Region.wanted o (yielded ops a.tmps) = true) ∨ (K (f.put o.dst undef) h ∧ ∀ a, FSat f a N → Region.wanted o (yielded ops a.tmps) = false) := by
  unfold vcG at hv
  split at hv
  · rename_i hg
    exact .inl ⟨hv, fun a fs => by simp [Region.wanted, hg]⟩
  · rename_i j want hg
    have key : ∀ v, ((ops[j]?).bind (·.dst)).bind f = some v → ∀ a, FSat f a N → ((ops[j]?).bind (·.dst)).bind (a.tmps[·]?) = some v := by
      intro v hv a fs
      obtain ⟨t, h1, h2⟩ := Option.bind_eq_some_iff.1 hv
      rw [h1]
      exact fs.at_ t v h2
    split at hv
    · rename_i b hb
      cases hbw : (b == want)
      · rw [hbw, zBj] at hv
        refine .inr ⟨hv, fun a fs => ?_⟩
        simp only [Region.wanted, hg, yielded, key _ hb a fs]
        cases b <;> cases want <;> simp_all
      · rw [hbw, zBn] at hv
        refine .inl ⟨hv, fun a fs => ?_⟩
        simp only [Region.wanted, hg, yielded, key _ hb a fs]
        cases b <;> cases want <;> simp_all
    · rename_i v hnb hb
      refine .inr ⟨hv, fun a fs => ?_⟩
      have h1 := key _ hb a fs
      simp only [Region.wanted, hg, yielded, h1]
      cases v <;> first | rfl | exact absurd rfl (hnb _)
    · exact hv.elim
def opsOk (N : Nat) (l : List Oper) : Bool := l.all fun o => dstOk N o.dst
theorem zEb {ops : Array Oper} {Q : Exit → Act → World → Prop} : ∀ (l : List Oper) (f : Fr) (h : PH), opsOk N l = true → vcL P w0 ops l f h K → ∀ a w, FSat f a N → Sim w0 h w → (∀ f' h' a' w', K f' h' → FSat f' a' N → Sim w0 h' w' → Q .normal a' w') → wpList P ops Q l a w
  | [], f, h, _, hv, a, w, fs, s, hK => hK f h a w hv fs s
  | o :: l, f, h, hok, hv, a, w, fs, s, hK => by
    simp only [opsOk, List.all_cons, Bool.and_eq_true] at hok
    refine wpList_step fun K' hK' => ?_
    rcases zBr (N := N) hv with ⟨h1, h2⟩ | ⟨h1, h2⟩
    · rw [if_pos (h2 a fs)]
      exact zC8 hok.1 h1 a w fs s K' Q fun f' h' a' w' q r t => hK' _ _ (zEb l f' h' hok.2 q a' w' r t hK)
    · rw [if_neg (by rw [h2 a fs]; simp)]
      exact hK' _ _ (zEb l _ h hok.2 h1 _ w (fs.put hok.1 _) s hK)

/-! ### code -/
def codeOk (N : Nat) : Code → Bool
  | .region _ ops _ => opsOk N ops.toList
  | .seq a b => codeOk N a && codeOk N b
  | .cond _ a b => codeOk N a && codeOk N b
  | .block _ c => codeOk N c
  | .loop c => codeOk N c
  | _ => true
def thenK (K : Fr → PH → Prop) (Q : Exit → Fr → PH → Prop) (_ : Seal K := ⟨⟩) (_ : Seal Q := ⟨⟩) : Exit → Fr → PH → Prop
  | .normal, f, h => K f h
  | e, f, h => Q e f h
def inBlk (id : Nat) (Q : Exit → Fr → PH → Prop) (_ : Seal Q := ⟨⟩) : Exit → Fr → PH → Prop
  | .exit i, f, h => if i = id then Q .normal f h else Q (.exit i) f h
  | e, f, h => Q e f h
theorem zAt (K : Fr → PH → Prop) (Q : Exit → Fr → PH → Prop) (f : Fr) (h : PH) : thenK K Q ⟨⟩ ⟨⟩ .normal f h = K f h := rfl
theorem thenK_ret (K : Fr → PH → Prop) (Q : Exit → Fr → PH → Prop) (f : Fr) (h : PH) : thenK K Q ⟨⟩ ⟨⟩ .ret f h = Q .ret f h := rfl
theorem zHr (K : Fr → PH → Prop) (Q : Exit → Fr → PH → Prop) (i : Nat) (f : Fr) (h : PH) : thenK K Q ⟨⟩ ⟨⟩ (.exit i) f h = Q (.exit i) f h := rfl
theorem zGq (id : Nat) (Q : Exit → Fr → PH → Prop) (f : Fr) (h : PH) : inBlk id Q ⟨⟩ .normal f h = Q .normal f h := rfl
theorem inBlk_ret (id : Nat) (Q : Exit → Fr → PH → Prop) (f : Fr) (h : PH) : inBlk id Q ⟨⟩ .ret f h = Q .ret f h := rfl
theorem zEo (id i : Nat) (Q : Exit → Fr → PH → Prop) (f : Fr) (h : PH) : inBlk id Q ⟨⟩ (.exit i) f h = if i = id then Q .normal f h else Q (.exit i) f h := rfl

def vc (P : Program) (w0 : World) (N : Nat) : Code → Fr → PH → (Exit → Fr → PH → Prop) → Prop
  | .skip, f, h, Q => Q .normal f h
  | .seq x y, f, h, Q => vc P w0 N x f h (thenK (fun f' h' => vc P w0 N y f' h' Q) Q)
  | .cond c x y, f, h, Q => vev f c fun b => match b with
    | .bool b => vcIf b (vc P w0 N x f h Q) (vc P w0 N y f h Q)
    | _ => False
  | .block id c, f, h, Q => vc P w0 N c f h (inBlk id Q)
  | .exit id, f, h, Q => Q (.exit id) f h
  | .ret, f, h, Q => Q .ret f h
  | .region id ops false, f, h, Q => vcL P w0 ops ops.toList f h (Q .normal)
  | c, f, h, Q => PW P w0 N c f h Q

theorem zBv : ∀ {c : Code} {f : Fr} {h : PH} {Q : Exit → Fr → PH → Prop}, codeOk N c = true → vc P w0 N c f h Q → PW P w0 N c f h Q
  | .skip, f, h, Q, _, hv => fun a w fs s => wp_skip ⟨f, h, hv, fs, s⟩
  | .seq x y, f, h, Q, hok, hv => by
    simp only [codeOk, Bool.and_eq_true] at hok
    intro a w fs s
    refine wp_seq (wp_mono (zBv (c := x) hok.1 hv a w fs s) ?_)
    rintro e a' w' ⟨f', h', q, fs', s'⟩
    cases e
    case normal => exact zBv (c := y) hok.2 q a' w' fs' s'
    all_goals exact ⟨f', h', q, fs', s'⟩
  | .cond c x y, f, h, Q, hok, hv => by
    simp only [codeOk, Bool.and_eq_true] at hok
    simp only [vc] at hv
    obtain ⟨b, h1, h2⟩ := zAs hv
    intro a w fs s
    cases b <;> simp only at h2
    case bool b =>
      exact wp_cond_split (zAr fs h1) (fun hb => zBv (c := x) hok.1 (h2.1 hb) a w fs s) (fun hb => zBv (c := y) hok.2 (h2.2 hb) a w fs s)
  | .block id c, f, h, Q, hok, hv => by
    intro a w fs s
    refine wp_block (wp_mono (zBv (c := c) hok hv a w fs s) ?_)
    rintro e a' w' ⟨f', h', q, fs', s'⟩
    cases e
    case exit i =>
      simp only [zEo] at q
      simp only [Exit.inBlock]
      split
      · rename_i hi; rw [if_pos hi] at q; exact ⟨f', h', q, fs', s'⟩
      · rename_i hi; rw [if_neg hi] at q; exact ⟨f', h', q, fs', s'⟩
    all_goals exact ⟨f', h', q, fs', s'⟩
  | .exit id, f, h, Q, _, hv => fun a w fs s => wp_exit ⟨f, h, hv, fs, s⟩
  | .ret, f, h, Q, _, hv => fun a w fs s => wp_ret ⟨f, h, hv, fs, s⟩
  | .region id ops false, f, h, Q, hok, hv => by
    intro a w fs s
    exact wp_region_list (zEb ops.toList f h hok hv a w fs s fun f' h' a' w' q r t => ⟨f', h', q, r, t⟩)
  | .region id ops true, f, h, Q, hok, hv => hv
  | .loop c, f, h, Q, _, hv => hv
  | .rangeFunc .., f, h, Q, _, hv => hv
  | .scope _, f, h, Q, _, hv => hv
  | .label _, f, h, Q, _, hv => hv
  | .goto _, f, h, Q, _, hv => hv
  | .refuse _, f, h, Q, _, hv => hv


/-! ### the same with parts that simp need not look into -/
def vcM (P : Program) (w0 : World) (ops : Array Oper) (l : List Oper) (f : Fr) (h : PH) (K : Fr → PH → Prop) (_ : Seal ops := ⟨⟩) (_ : Seal l := ⟨⟩) (_ : Seal K := ⟨⟩) : Prop := vcL P w0 ops l f h K
def vcC (P : Program) (w0 : World) (N : Nat) (c : Code) (f : Fr) (h : PH) (Q : Exit → Fr → PH → Prop) (_ : Seal c := ⟨⟩) (_ : Seal Q := ⟨⟩) : Prop := vc P w0 N c f h Q
theorem vcM_nil (ops : Array Oper) : vcM P w0 ops [] f h K = K f h := rfl
theorem zBc (ops : Array Oper) (l : List Oper) : vcM P w0 ops (o :: l) f h K = vcG P w0 ops o f h fun f' h' => vcM P w0 ops l f' h' K := rfl
def vcGd (o : Option Value) (want : Bool) (X Y : Prop) (_ : Seal X := ⟨⟩) (_ : Seal Y := ⟨⟩) : Prop := match o with
  | some (.bool b) => vcIf (b == want) X Y
  | some _ => Y
  | none => False
theorem vcGd_bool (b want : Bool) (X Y : Prop) : vcGd (some (.bool b)) want X Y = vcIf (b == want) X Y := rfl
theorem zHn (want : Bool) (X Y : Prop) : vcGd (some undef) want X Y = Y := rfl
theorem zGb (a : Array Value) (want : Bool) (X Y : Prop) : vcGd (some (.tuple a)) want X Y = Y := rfl
def vcPick (t : Value) (u v : Value) (k : Value → Prop) (_ : Seal k := ⟨⟩) : Prop := match t with
  | .bool t => k (if t then u else v)
  | _ => False
theorem zFv (u v : Value) (k : Value → Prop) : vcPick (.bool true) u v k = k u := rfl
theorem zHs (u v : Value) (k : Value → Prop) : vcPick (.bool false) u v k = k v := rfl
theorem zIk (t a b : Bool) (k : Value → Prop) : vcPick (.bool t) (.bool a) (.bool b) k = k (.bool (if t then a else b)) := by cases t <;> rfl
def vcPtr (v : Value) (k : Addr → Prop) (_ : Seal k := ⟨⟩) : Prop := match v with
  | .pointer (some a) => k a
  | _ => False
theorem zIz (a : Addr) (k : Addr → Prop) : vcPtr (.pointer (some a)) k = k a := rfl
def vcTup (v : Value) (i : Nat) (k : Value → Prop) (_ : Seal k := ⟨⟩) : Prop := match v with
  | .tuple vs => (match vs[i]? with
    | some u => k u
    | none => False)
  | _ => False
theorem zGt (u : Value) (l : List Value) (k : Value → Prop) : vcTup (.tuple (u :: l).toArray) 0 k = k u := rfl
theorem vcTup_one (a u : Value) (l : List Value) (k : Value → Prop) : vcTup (.tuple (a :: u :: l).toArray) 1 k = k u := rfl
theorem vcTup_two (a b u : Value) (l : List Value) (k : Value → Prop) : vcTup (.tuple (a :: b :: u :: l).toArray) 2 k = k u := rfl
theorem zHl (a b c u : Value) (l : List Value) (k : Value → Prop) : vcTup (.tuple (a :: b :: c :: u :: l).toArray) 3 k = k u := rfl
def vcBool (v : Value) (k : Bool → Prop) (_ : Seal k := ⟨⟩) : Prop := match v with
  | .bool b => k b
  | _ => False
theorem zIy (b : Bool) (k : Bool → Prop) : vcBool (.bool b) k = k b := rfl
def vcClo (fv : Value) (k : FuncId → Array Value → Array Value → Prop) (_ : Seal k := ⟨⟩) : Prop := match fv with
  | .func (.func g) first cap => k g first cap
  | _ => False
theorem vcClo_def (g : FuncId) (a b : Array Value) (k : FuncId → Array Value → Array Value → Prop) : vcClo (.func (.func g) a b) k = k g a b := rfl
section
variable {ops : Array Oper} {l : List Oper} {d : Option Tmp} {ty : TypeId} {pos : String} {af : Array Edge}
theorem vcM_move (x : Operand) : vcM P w0 ops (⟨d, .move x, ty, pos, af, none⟩ :: l) f h K = vev f x fun v => vcM P w0 ops l (f.put d v) h K := rfl
theorem zIm (x : Operand) : vcM P w0 ops (⟨d, .assign x, ty, pos, af, none⟩ :: l) f h K = vev f x fun v => vcM P w0 ops l (f.put d v) h K := rfl
theorem vcM_pick (c a b : Operand) : vcM P w0 ops (⟨d, .pick c a b, ty, pos, af, none⟩ :: l) f h K = vev f c fun t => vev f a fun u => vev f b fun v => vcPick t u v fun r => vcM P w0 ops l (f.put d r) h K := rfl
theorem vcM_alloc (t : TypeId) {cs : List Value} (hz : zcells P t = some cs) : vcM P w0 ops (⟨d, .alloc t, ty, pos, af, none⟩ :: l) f h K = vcNew h fun b => vcM P w0 ops l (f.put d (.pointer (some ⟨b, 0, none⟩))) (h.new b ⟨cs, cs.length⟩) K := by
  rw [zBc]
  simp only [vcG, vcOp, hz]
theorem vcM_box (t : TypeId) (x : Operand) : vcM P w0 ops (⟨d, .box t x, ty, pos, af, none⟩ :: l) f h K = vev f x fun v => vcNew h fun b => vcM P w0 ops l (f.put d (.pointer (some ⟨b, 0, none⟩))) (h.new b ⟨v.cells.toList, v.cells.size⟩) K := rfl
theorem vcM_load (t : TypeId) (x : Operand) : vcM P w0 ops (⟨d, .load t x, ty, pos, af, none⟩ :: l) f h K = vev f x fun v => vcPtr v fun a => vload P w0 h t a fun r => vcM P w0 ops l (f.put d r) h K := rfl
theorem vcM_store (t : TypeId) (x v : Operand) : vcM P w0 ops (⟨d, .store t x v, ty, pos, af, none⟩ :: l) f h K = vev f x fun p => vev f v fun u => vcPtr p fun a => vstore P w0 h t a u fun h' => vcM P w0 ops l (f.put d undef) h' K := rfl
theorem zGh (x : Operand) : vcM P w0 ops (⟨d, .nilCheck x, ty, pos, af, none⟩ :: l) f h K = vev f x fun v => Yld P (nilS v) fun r => vcM P w0 ops l (f.put d r) h K := rfl
theorem vcM_binOp (op : BinOp) (t u : TypeId) (a b : Operand) : vcM P w0 ops (⟨d, .binOp op t a b u, ty, pos, af, none⟩ :: l) f h K = vev f a fun x => vev f b fun y => Yld P (binS op t a b x y) fun r => vcM P w0 ops l (f.put d r) h K := rfl
theorem vcM_unOp (op : UnOp) (t : TypeId) (x : Operand) : vcM P w0 ops (⟨d, .unOp op t x, ty, pos, af, none⟩ :: l) f h K = vev f x fun v => Yld P (Op.unary op v) fun r => vcM P w0 ops l (f.put d r) h K := rfl
theorem zF7 (s t : TypeId) (x : Operand) : vcM P w0 ops (⟨d, .convert s t x, ty, pos, af, none⟩ :: l) f h K = vev f x fun v => vcIf (isSliceB P t) (Does P w0 h (convert s t v) fun r h' => vcM P w0 ops l (f.put d r) h' K) (vcIf (isSliceB P s) (vtext P w0 h s t v fun r => vcM P w0 ops l (f.put d r) h K) (Yld P (convert s t v) fun r => vcM P w0 ops l (f.put d r) h K)) := rfl
theorem vcM_iface (t : TypeId) (x : Operand) : vcM P w0 ops (⟨d, .makeInterface t x, ty, pos, af, none⟩ :: l) f h K = vev f x fun v => Yld P (Instr.makeInterface t v) fun r => vcM P w0 ops l (f.put d r) h K := rfl
theorem zI1 (fn : Fn) (first cap : Array Operand) : vcM P w0 ops (⟨d, .makeFunc fn first cap, ty, pos, af, none⟩ :: l) f h K = vevs f first fun u => vevs f cap fun v => vcM P w0 ops l (f.put d (.func fn u.toArray v.toArray)) h K := rfl
theorem vcM_slice (t : TypeId) (x : Operand) (lo hi mx : Option Operand) : vcM P w0 ops (⟨d, .slice t x lo hi mx, ty, pos, af, none⟩ :: l) f h K = vev f x fun v => vop f lo fun lo => vop f hi fun hi => vop f mx fun mx => Yld P (Instr.sliceAt t v lo hi mx) fun r => vcM P w0 ops l (f.put d r) h K := rfl
theorem zId (t : TypeId) (x : Operand) (i : Nat) : vcM P w0 ops (⟨d, .fieldAddr t x i, ty, pos, af, none⟩ :: l) f h K = vev f x fun v => Yld P (Instr.fieldAt t v i) fun r => vcM P w0 ops l (f.put d r) h K := rfl
theorem vcM_field (t : TypeId) (x : Operand) (i : Nat) : vcM P w0 ops (⟨d, .field t x i, ty, pos, af, none⟩ :: l) f h K = vev f x fun v => Yld P (Instr.field t v i) fun r => vcM P w0 ops l (f.put d r) h K := rfl
theorem zIl (t : TypeId) (x i : Operand) : vcM P w0 ops (⟨d, .indexAddr t x i, ty, pos, af, none⟩ :: l) f h K = vev f x fun v => vev f i fun j => Yld P (Instr.indexAt t v j) fun r => vcM P w0 ops l (f.put d r) h K := rfl
theorem vcM_index (t : TypeId) (x i : Operand) : vcM P w0 ops (⟨d, .index t x i, ty, pos, af, none⟩ :: l) f h K = vev f x fun v => vev f i fun j => Yld P (Instr.index t v j) fun r => vcM P w0 ops l (f.put d r) h K := rfl
theorem zH5 (x : Operand) (i : Nat) : vcM P w0 ops (⟨d, .extract x i, ty, pos, af, none⟩ :: l) f h K = vev f x fun v => vcTup v i fun r => vcM P w0 ops l (f.put d r) h K := rfl
theorem zF0 (x : Operand) (t u : TypeId) (ok : Bool) : vcM P w0 ops (⟨d, .typeAssert x t u ok, ty, pos, af, none⟩ :: l) f h K = vev f x fun v => Yld P (Instr.typeAssert v t u ok) fun r => vcM P w0 ops l (f.put d r) h K := rfl
theorem vcM_build (t : TypeId) (ps : List (Nat × Operand)) : vcM P w0 ops (⟨d, .build t ps.toArray, ty, pos, af, none⟩ :: l) f h K = vevs f (ps.map (·.2)).toArray fun vs => Yld P (Instr.build t ((ps.map (·.1)).zip vs).toArray) fun r => vcM P w0 ops l (f.put d r) h K := by
  rw [zBc]
  simp only [vcG, vcOp, List.map_toArray]
theorem zH9 (t : TypeId) (n : Nat) (ps : List (Nat × Operand)) : vcM P w0 ops (⟨d, .buildSlice t n ps.toArray, ty, pos, af, none⟩ :: l) f h K = vevs f (ps.map (·.2)).toArray fun vs => Does P w0 h (Instr.buildSlice t n ((ps.map (·.1)).zip vs).toArray) fun r h' => vcM P w0 ops l (f.put d r) h' K := by
  rw [zBc]
  simp only [vcG, vcOp, List.map_toArray]
theorem zG1 (t : TypeId) (a b : Operand) : vcM P w0 ops (⟨d, .makeSlice t a b, ty, pos, af, none⟩ :: l) f h K = vev f a fun u => vev f b fun v => Does P w0 h (Instr.makeSlice t u v) fun r h' => vcM P w0 ops l (f.put d r) h' K := rfl
theorem vcM_call (g : FuncId) (as : Array Operand) (ts : Array TypeId) : vcM P w0 ops (⟨d, .call ⟨.value (.func g), as, ts⟩, ty, pos, af, none⟩ :: l) f h K = vevs f as fun vs => PCalls P w0 g vs h fun r h' => vcM P w0 ops l (f.put d r) h' K := rfl
theorem zIv (x : Tmp) (as : Array Operand) (ts : Array TypeId) : vcM P w0 ops (⟨d, .call ⟨.value (.tmp x), as, ts⟩, ty, pos, af, none⟩ :: l) f h K = vev f (.tmp x) fun fv => vevs f as fun vs => vcClo fv fun g first cap => PCalls P w0 g (first.toList ++ vs ++ cap.toList) h fun r h' => vcM P w0 ops l (f.put d r) h' K := rfl
theorem vcM_len (as : Array Operand) (ts : Array TypeId) : vcM P w0 ops (⟨d, .call ⟨.builtin .len, as, ts⟩, ty, pos, af, none⟩ :: l) f h K = vevs f as fun vs => lenK vs (Rds P w0 h (Builtin.len_ ts ty vs.toArray) fun r => vcM P w0 ops l (f.put d r) h K) (Yld P (Builtin.len_ ts ty vs.toArray) fun r => vcM P w0 ops l (f.put d r) h K) := rfl
theorem zGw (t : TypeId) : vcM P w0 ops (⟨d, .makeMap t none, ty, pos, af, none⟩ :: l) f h K = Does P w0 h (Instr.makeMap t none) fun r h' => vcM P w0 ops l (f.put d r) h' K := rfl
theorem zHf (t : TypeId) (x i : Operand) (ok : Bool) : vcM P w0 ops (⟨d, .lookup t x i ok, ty, pos, af, none⟩ :: l) f h K = vev f x fun u => vev f i fun v => Rds P w0 h (Instr.lookup t u v ok) fun r => vcM P w0 ops l (f.put d r) h K := rfl
theorem zH4 (t : TypeId) (x i e : Operand) : vcM P w0 ops (⟨d, .mapUpdate t x i e, ty, pos, af, none⟩ :: l) f h K = vev f x fun u => vev f i fun v => vev f e fun r => Does P w0 h (updateK t u v r) fun _ h' => vcM P w0 ops l (f.put d undef) h' K := rfl
theorem vcM_cap (as : Array Operand) (ts : Array TypeId) : vcM P w0 ops (⟨d, .call ⟨.builtin .cap, as, ts⟩, ty, pos, af, none⟩ :: l) f h K = vevs f as fun vs => Yld P (Builtin.cap_ ts ty vs.toArray) fun r => vcM P w0 ops l (f.put d r) h K := rfl
theorem vcM_max (as : Array Operand) (ts : Array TypeId) : vcM P w0 ops (⟨d, .call ⟨.builtin .max, as, ts⟩, ty, pos, af, none⟩ :: l) f h K = vevs f as fun vs => Yld P (Builtin.max_ ts ty vs.toArray) fun r => vcM P w0 ops l (f.put d r) h K := rfl
theorem vcM_min (as : Array Operand) (ts : Array TypeId) : vcM P w0 ops (⟨d, .call ⟨.builtin .min, as, ts⟩, ty, pos, af, none⟩ :: l) f h K = vevs f as fun vs => Yld P (Builtin.min_ ts ty vs.toArray) fun r => vcM P w0 ops l (f.put d r) h K := rfl
theorem zGa (as : Array Operand) (ts : Array TypeId) : vcM P w0 ops (⟨d, .call ⟨.builtin .append, as, ts⟩, ty, pos, af, none⟩ :: l) f h K = vevs f as fun vs => Does P w0 h (Builtin.append_ ts ty vs.toArray) fun r h' => vcM P w0 ops l (f.put d r) h' K := rfl
theorem vcM_copy (as : Array Operand) (ts : Array TypeId) : vcM P w0 ops (⟨d, .call ⟨.builtin .copy, as, ts⟩, ty, pos, af, none⟩ :: l) f h K = vevs f as fun vs => Does P w0 h (Builtin.copy_ ts ty vs.toArray) fun r h' => vcM P w0 ops l (f.put d r) h' K := rfl
theorem zHv (x : Operand) (n : String) (as : Array Operand) (ts : Array TypeId) : vcM P w0 ops (⟨d, .call ⟨.invoke x n, as, ts⟩, ty, pos, af, none⟩ :: l) f h K = vev f x fun rv => vevs f as fun vs => vinvoke P w0 h rv n vs fun r h' => vcM P w0 ops l (f.put d r) h' K := rfl
def nthD : List Oper → Nat → Option Tmp
  | [], _ => none
  | o :: _, 0 => o.dst
  | _ :: l, n + 1 => nthD l n
theorem nthD_eq : ∀ (l : List Oper) (j : Nat), (l.toArray[j]?).bind (·.dst) = nthD l j
  | [], j => by simp [nthD]
  | o :: l, 0 => by simp [nthD]
  | o :: l, j + 1 => by have := nthD_eq l j; simp [nthD] at this ⊢; exact this
theorem nthD_zero (op : Op) (g : Option (Nat × Bool)) (l : List Oper) : nthD (⟨d, op, ty, pos, af, g⟩ :: l) 0 = d := rfl
theorem nthD_succ (o : Oper) (l : List Oper) (n : Nat) : nthD (o :: l) (n + 1) = nthD l n := rfl
theorem vcM_guard (os : List Oper) (op : Op) (j : Nat) (want : Bool) : vcM P w0 os.toArray (⟨d, op, ty, pos, af, some (j, want)⟩ :: l) f h K = vcGd ((nthD os j).bind f) want (vcM P w0 os.toArray (⟨d, op, ty, pos, af, none⟩ :: l) f h K) (vcM P w0 os.toArray l (f.put d undef) h K) := by
  rw [zBc, ← nthD_eq]
  unfold vcG vcGd
  simp only
  split <;> rfl
end
section
variable {Q : Exit → Fr → PH → Prop} {c x y : Code} {id : Nat}
theorem vcC_skip : vcC P w0 N .skip f h Q = Q .normal f h := rfl
def thenC (P : Program) (w0 : World) (N : Nat) (y : Code) (Q : Exit → Fr → PH → Prop) (_ : Seal y := ⟨⟩) (_ : Seal Q := ⟨⟩) : Exit → Fr → PH → Prop := thenK (fun f' h' => vcC P w0 N y f' h' Q) Q
theorem vcC_seq : vcC P w0 N (.seq x y) f h Q = vcC P w0 N x f h (thenC P w0 N y Q) := rfl
theorem zE1 : thenC P w0 N y Q ⟨⟩ ⟨⟩ .normal f h = vcC P w0 N y f h Q := rfl
theorem thenC_ret : thenC P w0 N y Q ⟨⟩ ⟨⟩ .ret f h = Q .ret f h := rfl
theorem zAy (i : List PanicEntry) : thenC P w0 N y Q ⟨⟩ ⟨⟩ (.panic i) f h = Q (.panic i) f h := rfl
theorem zAv (K : Fr → PH → Prop) (i : List PanicEntry) : thenK K Q ⟨⟩ ⟨⟩ (.panic i) f h = Q (.panic i) f h := rfl
theorem zAw (id : Nat) (i : List PanicEntry) : inBlk id Q ⟨⟩ (.panic i) f h = Q (.panic i) f h := rfl
theorem zF1 (i : Nat) : thenC P w0 N y Q ⟨⟩ ⟨⟩ (.exit i) f h = Q (.exit i) f h := rfl
theorem vcC_cond (b : Operand) : vcC P w0 N (.cond b x y) f h Q = vev f b fun b => vcBool b fun b => vcIf b (vcC P w0 N x f h Q) (vcC P w0 N y f h Q) := rfl
theorem vcC_block : vcC P w0 N (.block id c) f h Q = vcC P w0 N c f h (inBlk id Q) := rfl
theorem vcC_exit : vcC P w0 N (.exit id) f h Q = Q (.exit id) f h := rfl
theorem vcC_ret : vcC P w0 N .ret f h Q = Q .ret f h := rfl
theorem zGi (l : List Oper) : vcC P w0 N (.region id l.toArray false) f h Q = vcM P w0 l.toArray l f h (Q .normal) := rfl
theorem vcC_drawn (ops : Array Oper) : vcC P w0 N (.region id ops true) f h Q = PW P w0 N (.region id ops true) f h Q := rfl
theorem vcC_loop : vcC P w0 N (.loop c) f h Q = PW P w0 N (.loop c) f h Q := rfl
end

/-! ### loops -/
theorem zFe {c : Code} {Q : Exit → Act → World → Prop} : ∀ {n m : Nat}, n ≤ m → ∀ a w, Code.rounds P c Q n a w → Code.rounds P c Q m a w
  | 0, _, _, _, _, h => h.elim
  | n + 1, 0, hnm, _, _, _ => absurd hnm (by omega)
  | n + 1, m + 1, hnm, a, w, h => by
    rw [rounds_succ] at h ⊢
    refine wp_mono h fun e a' w' q => ?_
    cases e
    case normal => exact zFe (Nat.le_of_succ_le_succ hnm) a' w' q
    all_goals exact q
theorem zBs {c : Code} {Q : Exit → Fr → PH → Prop} (I : Nat → Fr → PH → Prop) (hok : codeOk N c = true) (n : Nat) (h0 : I n f h)
    (round : ∀ n f h, I n f h → vcC P w0 N c f h (thenK (fun f' h' => ∃ m h2, m < n ∧ PH.Le h2 h' ∧ I m f' h2) Q)) : PW P w0 N (.loop c) f h Q := by
  intro a w fs s
  refine wp_loop_rounds (n + 1) ?_
  have key : ∀ n f h a w, I n f h → FSat f a N → Sim w0 h w → Code.rounds P c (fun e a' w' => ∃ f' h', Q e f' h' ∧ FSat f' a' N ∧ Sim w0 h' w') (n + 1) a w := by
    intro n
    induction n using Nat.strongRecOn with
    | _ n ih =>
      intro f h a w hI fs s
      rw [rounds_succ]
      refine wp_mono (zBv hok (round n f h hI) a w fs s) ?_
      rintro e a' w' ⟨f', h', q, fs', s'⟩
      cases e
      case normal =>
        obtain ⟨m, h2, hm, hl, hI'⟩ := q
        exact zFe (by omega) a' w' (ih m hm f' h2 a' w' hI' fs' (s'.weak hl))
      all_goals exact ⟨f', h', q, fs', s'⟩
  exact key n f h a w h0 fs s
theorem PW_seq {x y : Code} {Q : Exit → Fr → PH → Prop} (M : Fr → PH → Prop) (hx : PW P w0 N x f h (thenK M Q)) (hy : ∀ f' h', M f' h' → PW P w0 N y f' h' Q) : PW P w0 N (.seq x y) f h Q := by
  intro a w fs s
  refine wp_seq (wp_mono (hx a w fs s) ?_)
  rintro e a' w' ⟨f', h', q, fs', s'⟩
  cases e
  case normal => exact hy f' h' q a' w' fs' s'
  all_goals exact ⟨f', h', q, fs', s'⟩

/-! ### regions whose order is open -/
def vcT (P : Program) (w0 : World) (ops : Array Oper) : Nat → List Oper → Fr → PH → (Fr → PH → Prop) → Prop
  | 0, l, f, h, K => vcL P w0 ops l f h K
  | n + 1, o :: l, f, h, K => vcG P w0 ops o f h fun f' h' => vcT P w0 ops n l f' h' K
  | _ + 1, [], f, h, K => K f h
theorem zFq {ops : Array Oper} {L : Act → Prop} {w : World} {tl : List Oper} : ∀ (hd : List Oper) (f : Fr), opsOk N hd = true → (hd.all fun o => silentB P o.op) = true → vcT P w0 ops hd.length (hd ++ tl) f h K →
    ∀ a, FSat f a N → Sim w0 h w → (∀ f' a', vcL P w0 ops tl f' h K → FSat f' a' N → L a') → wpStill P ops w L hd a
  | [], f, _, _, hv, a, fs, s, hL => hL f a hv fs
  | o :: hd, f, hok, hsil, hv, a, fs, s, hL => by
    simp only [opsOk, List.all_cons, Bool.and_eq_true] at hok hsil
    simp only [List.length_cons, List.cons_append, vcT] at hv
    refine wpStill_step fun K' hK' => ?_
    rcases zBr (N := N) hv with ⟨h1, h2⟩ | ⟨h1, h2⟩
    · rw [if_pos (h2 a fs)]
      obtain ⟨v, h3, h4⟩ := zCu hsil.1 hok.1 h1
      unfold Oper.still
      rw [h4 a w fs s, Oper.stillUpon_value]
      exact hK' _ (zFq hd _ hok.2 hsil.2 h3 _ (fs.put hok.1 v) s hL)
    · rw [if_neg (by rw [h2 a fs]; simp)]
      exact hK' _ (zFq hd _ hok.2 hsil.2 h1 _ (fs.put hok.1 _) s hL)
theorem PW_tail {id : Nat} {l : List Oper} {Q : Exit → Fr → PH → Prop} (n : Nat) (hm : P.follows .mixedOrders = true) (hB : Region.lexTailB .any l.toArray n = true) (hok : opsOk N l = true) (hsil : ((l.take n).all fun o => silentB P o.op) = true)
    (hv : vcT P w0 l.toArray n l f h (Q .normal)) : PW P w0 N (.region id l.toArray true) f h Q := by
  intro a w fs s
  have hn : n ≤ l.length := by
    simp only [Region.lexTailB, Bool.and_eq_true, decide_eq_true_eq] at hB
    have := hB.1.1.1.2
    simp at this; omega
  have hok1 : opsOk N (l.take n) = true := by
    simp only [opsOk, List.all_eq_true] at hok ⊢
    exact fun x hx => hok x (List.mem_of_mem_take hx)
  have hok2 : opsOk N (l.drop n) = true := by
    simp only [opsOk, List.all_eq_true] at hok ⊢
    exact fun x hx => hok x (List.mem_of_mem_drop hx)
  refine wp_region_still_tail n hm hB ?_
  have e1 : (l.take n).length = n := by simp; omega
  have hv' : vcT P w0 l.toArray (l.take n).length (l.take n ++ l.drop n) f h (Q .normal) := by rw [e1, List.take_append_drop]; exact hv
  exact zFq (l.take n) f hok1 hsil hv' a fs s.drew fun f' a' hv' fs' => zEb (l.drop n) f' h hok2 hv' a' _ fs' s.drew fun f' h' a' w' q r t => ⟨f', h', q, r, t⟩

def planOk (P : Program) (ops : Array Oper) : List Nat → Array Bool → Bool
  | [], listed => (Region.ready .any ops listed).isEmpty
  | i :: l, listed => (match ops[i]? with
    | some o => if silentB P o.op then Region.free .any ops listed i && (Region.ready .any ops listed).contains i else Region.ready .any ops listed == [i]
    | none => false) && planOk P ops l (listed.setIfInBounds i true)
def vcH (P : Program) (w0 : World) (hS : PH) (ops : Array Oper) : List Nat → Fr → PH → (Fr → PH → Prop) → Prop
  | [], f, h, K => K f h
  | i :: l, f, h, K => match ops[i]? with
    | some o => if silentB P o.op then vcG P w0 ops o f hS fun f' _ => vcH P w0 hS ops l f' h K
      else vcG P w0 ops o f h fun f' h' => PH.Sub w0 hS h' ∧ vcH P w0 hS ops l f' h' K
    | none => False
theorem zDj {hS : PH} {ops : Array Oper} {Q : Exit → Act → World → Prop} (hok : opsOk N ops.toList = true) (hsel : Region.noSelect ops = true) (hQ : ∀ c a d v w, Q (.panic c) (Act.put a d v) w → Q (.panic c) a w) :
    ∀ (l : List Nat) (fuel : Nat) (listed : Array Bool) (f : Fr) (h : PH), l.length ≤ fuel → planOk P ops l listed = true → vcH P w0 hS ops l f h K → PH.Sub w0 hS h →
      ∀ a w, FSat f a N → Sim w0 h w → (∀ f' h' a' w', K f' h' → FSat f' a' N → Sim w0 h' w' → Q .normal a' w') → wpAnyH P .any ops Q (Sim w0 hS) fuel listed a w
  | [], fuel, listed, f, h, _, hp, hv, hl, a, w, fs, s, hK => by
    simp only [planOk, List.isEmpty_iff] at hp
    exact wpAnyH_done hp (hK f h a w hv fs s) fuel
  | i :: l, 0, listed, f, h, hlen, hp, hv, hl, a, w, fs, s, hK => absurd hlen (by simp)
  | i :: l, fuel + 1, listed, f, h, hlen, hp, hv, hl, a, w, fs, s, hK => by
    simp only [planOk, Bool.and_eq_true] at hp
    simp only [vcH] at hv
    obtain ⟨hp1, hp2⟩ := hp
    cases ho : ops[i]? with
    | none => rw [ho] at hp1; cases hp1
    | some o =>
      have hdo : dstOk N o.dst = true := by
        simp only [opsOk, List.all_eq_true] at hok
        exact hok o (by rw [Array.mem_toList_iff]; exact Array.mem_of_getElem? ho)
      simp only [ho] at hp1 hv
      have hlen' : l.length ≤ fuel := by simpa using hlen
      by_cases hs : silentB P o.op = true
      · rw [if_pos hs] at hp1 hv
        simp only [Bool.and_eq_true] at hp1
        rcases zBr (N := N) hv with ⟨h1, h2⟩ | ⟨h1, h2⟩
        · obtain ⟨v, h3, h4⟩ := zCu hs hdo h1
          exact wpAnyH_take ho hsel hp1.1 hp1.2 (fun c a w q => hQ c a _ v w q) (.inl ⟨h2 a fs, fun w' s' => h4 a w' fs s'⟩) (hl _ s) (zDj hok hsel hQ l fuel _ _ h hlen' hp2 h3 hl _ w (fs.put hdo v) s hK)
        · exact wpAnyH_take ho hsel hp1.1 hp1.2 (fun c a w q => hQ c a _ undef w q) (.inr ⟨h2 a fs, rfl⟩) (hl _ s) (zDj hok hsel hQ l fuel _ _ h hlen' hp2 h1 hl _ w (fs.put hdo _) s hK)
      · rw [if_neg hs] at hp1 hv
        refine wpAnyH_all (rs := [i]) (by simpa using hp1) (by simp) fun j hj => ?_
        obtain rfl : j = i := by simpa using hj
        unfold wpOp
        simp only [ho]
        rcases zBr (N := N) hv with ⟨h1, h2⟩ | ⟨h1, h2⟩
        · rw [if_pos (h2 a fs)]
          exact .inl (zC8 hdo h1 a w fs s _ _ fun f' h' a' w' q r t => ⟨q.1 _ t, zDj hok hsel hQ l fuel _ f' h' hlen' hp2 q.2 q.1 a' w' r t hK⟩)
        · rw [if_neg (by rw [h2 a fs]; simp)]
          exact ⟨hl _ s, zDj hok hsel hQ l fuel _ _ h hlen' hp2 h1.2 hl _ w (fs.put hdo _) s hK⟩
theorem PW_held {id : Nat} {ops : Array Oper} {Q : Exit → Fr → PH → Prop} (hS : PH) (l : List Nat) (hm : P.follows .mixedOrders = true) (hp : planOk P ops l (Array.replicate ops.size false) = true) (hlen : l.length ≤ ops.size) (hok : opsOk N ops.toList = true) (hsel : Region.noSelect ops = true)
    (hQ : ∀ c f h, ¬ Q (.panic c) f h) (hl : PH.Sub w0 hS h) (hv : vcH P w0 hS ops l f h (Q .normal)) : PW P w0 N (.region id ops true) f h Q := by
  intro a w fs s
  refine wp_region_held (S := Sim w0 hS) hm ?_
  exact zDj hok hsel (fun c a d v w => by rintro ⟨f', h', q, _⟩; exact absurd q (hQ c f' h')) l _ _ f h hlen hp hv hl a _ fs s.drew fun f' h' a' w' q r t => ⟨f', h', q, r, t⟩

def vcLe (w0 : World) (hS h : PH) (X : Prop) (_ : Seal X := ⟨⟩) : Prop := PH.Sub w0 hS h ∧ X
def vcX (P : Program) (w0 : World) (hS : PH) (ops : Array Oper) : List Oper → Fr → PH → (Fr → PH → Prop) → Prop
  | [], f, h, K => K f h
  | o :: l, f, h, K => vcIf (silentB P o.op) (vcM P w0 ops [o] f hS fun f' _ => vcX P w0 hS ops l f' h K) (vcM P w0 ops [o] f h fun f' h' => vcLe w0 hS h' (vcX P w0 hS ops l f' h' K))
def vcXS (P : Program) (w0 : World) (hS : PH) (ops : Array Oper) (l : List Oper) (f : Fr) (h : PH) (K : Fr → PH → Prop) (_ : Seal ops := ⟨⟩) (_ : Seal l := ⟨⟩) (_ : Seal K := ⟨⟩) : Prop := vcX P w0 hS ops l f h K
theorem vcXS_nil (hS : PH) (ops : Array Oper) : vcXS P w0 hS ops [] f h K = K f h := rfl
theorem vcXS_cons (hS : PH) (ops : Array Oper) (l : List Oper) : vcXS P w0 hS ops (o :: l) f h K = vcIf (silentB P o.op) (vcM P w0 ops [o] f hS fun f' _ => vcXS P w0 hS ops l f' h K) (vcM P w0 ops [o] f h fun f' h' => vcLe w0 hS h' (vcXS P w0 hS ops l f' h' K)) := rfl
theorem zGf (x : Operand) : silentB P (.move x) = true := rfl
theorem zH8 (x : Operand) : silentB P (.assign x) = true := rfl
theorem zG6 (op : BinOp) (t u : TypeId) (x y : Operand) : silentB P (.binOp op t x y u) = true := rfl
theorem zG0 (t : TypeId) (x : Operand) : silentB P (.load t x) = true := rfl
theorem zI3 (x : Operand) (i : Nat) : silentB P (.extract x i) = true := rfl
theorem zH7 (x y z : Operand) : silentB P (.pick x y z) = true := rfl
theorem zIt (t : TypeId) (x y : Operand) : silentB P (.store t x y) = false := rfl
theorem zGv (t : TypeId) : silentB P (.alloc t) = false := rfl
theorem zHb (t : TypeId) (x : Operand) : silentB P (.box t x) = false := rfl
theorem zHk (t : TypeId) (x i : Operand) (ok : Bool) : silentB P (.lookup t x i ok) = true := rfl
theorem zG3 (t : TypeId) (x i e : Operand) : silentB P (.mapUpdate t x i e) = false := rfl
theorem zG7 (t : TypeId) (x : Option Operand) : silentB P (.makeMap t x) = false := rfl
theorem zIa (t : TypeId) (n : Nat) (ps : Array (Nat × Operand)) : silentB P (.buildSlice t n ps) = false := rfl
theorem zIw (as : Array Operand) (ts : Array TypeId) : silentB P (.call ⟨.builtin .append, as, ts⟩) = false := rfl
theorem zI0 (as : Array Operand) (ts : Array TypeId) : silentB P (.call ⟨.builtin .copy, as, ts⟩) = false := rfl
theorem zHg (x : Operand) (as : Array Operand) (ts : Array TypeId) : silentB P (.call ⟨.value x, as, ts⟩) = false := rfl
theorem zGo (as : Array Operand) (ts : Array TypeId) : silentB P (.call ⟨.builtin .len, as, ts⟩) = true := rfl
def vcY (P : Program) (w0 : World) (hS : PH) (ops : Array Oper) : Nat → List Oper → Fr → PH → (Fr → PH → Prop) → Prop
  | 0, l, f, h, K => vcX P w0 hS ops l f h K
  | n + 1, o :: l, f, h, K => vcG P w0 ops o f hS fun f' _ => vcY P w0 hS ops n l f' h K
  | _ + 1, [], f, h, K => K f h
def vcYS (P : Program) (w0 : World) (hS : PH) (ops : Array Oper) (n : Nat) (l : List Oper) (f : Fr) (h : PH) (K : Fr → PH → Prop) (_ : Seal ops := ⟨⟩) (_ : Seal l := ⟨⟩) (_ : Seal K := ⟨⟩) : Prop := vcY P w0 hS ops n l f h K
theorem vcYS_zero (hS : PH) (ops : Array Oper) (l : List Oper) : vcYS P w0 hS ops 0 l f h K = vcXS P w0 hS ops l f h K := by cases l <;> rfl
theorem vcYS_succ (hS : PH) (ops : Array Oper) (n : Nat) (l : List Oper) : vcYS P w0 hS ops (n + 1) (o :: l) f h K = vcM P w0 ops [o] f hS fun f' _ => vcYS P w0 hS ops n l f' h K := rfl
theorem zCi {hS : PH} {ops : Array Oper} {Q : Exit → Act → World → Prop} (hok : opsOk N ops.toList = true) (hsel : Region.noSelect ops = true) (hQ : ∀ c a d v w, Q (.panic c) (Act.put a d v) w → Q (.panic c) a w) :
    ∀ (l : List Oper) (n k fuel : Nat) (listed : Array Bool) (f : Fr) (h : PH), (∀ j, l[j]? = ops[k + j]?) → l.length ≤ fuel → ((l.take n).all fun o => silentB P o.op) = true → planOk P ops (List.range' k l.length) listed = true → vcY P w0 hS ops n l f h K → PH.Sub w0 hS h →
      ∀ a w, FSat f a N → Sim w0 h w → (∀ f' h' a' w', K f' h' → FSat f' a' N → Sim w0 h' w' → Q .normal a' w') → wpAnyH P .any ops Q (Sim w0 hS) fuel listed a w
  | [], n, k, fuel, listed, f, h, _, _, _, hp, hv, hl, a, w, fs, s, hK => by
    simp only [List.length_nil, List.range'_zero, planOk, List.isEmpty_iff] at hp
    have hv' : K f h := by cases n <;> exact hv
    exact wpAnyH_done hp (hK f h a w hv' fs s) fuel
  | o :: l, n, k, 0, listed, f, h, _, hlen, _, hp, hv, hl, a, w, fs, s, hK => absurd hlen (by simp)
  | o :: l, n, k, fuel + 1, listed, f, h, hlk, hlen, hsil, hp, hv, hl, a, w, fs, s, hK => by
    have ho : ops[k]? = some o := by simpa using (hlk 0).symm
    have hlk' : ∀ j, l[j]? = ops[k + 1 + j]? := fun j => by have := hlk (j + 1); simpa [Nat.add_assoc, Nat.add_comm 1 j] using this
    simp only [List.length_cons, List.range'_succ, planOk, Bool.and_eq_true, ho] at hp
    obtain ⟨hp1, hp2⟩ := hp
    have hdo : dstOk N o.dst = true := by
      simp only [opsOk, List.all_eq_true] at hok
      exact hok o (by rw [Array.mem_toList_iff]; exact Array.mem_of_getElem? ho)
    have hlen' : l.length ≤ fuel := by simpa using hlen
    have take (h1s : silentB P o.op = true) {v : Value} (hy : YieldsIf P ops (Sim w0 hS) o v a) (hr : wpAnyH P .any ops Q (Sim w0 hS) fuel (listed.setIfInBounds k true) (a.put o.dst v) w) : wpAnyH P .any ops Q (Sim w0 hS) (fuel + 1) listed a w := by
      rw [if_pos h1s] at hp1
      simp only [Bool.and_eq_true] at hp1
      exact wpAnyH_take ho hsel hp1.1 hp1.2 (fun c a w q => hQ c a _ v w q) hy (hl _ s) hr
    cases n with
    | succ n =>
      simp only [List.take_succ_cons, List.all_cons, Bool.and_eq_true] at hsil
      rcases zBr (N := N) (show vcG P w0 ops o f hS _ from hv) with ⟨h1, h2⟩ | ⟨h1, h2⟩
      · obtain ⟨v, h3, h4⟩ := zCu hsil.1 hdo h1
        exact take hsil.1 (.inl ⟨h2 a fs, fun w' s' => h4 a w' fs s'⟩) (zCi hok hsel hQ l n (k + 1) fuel _ _ h hlk' hlen' hsil.2 hp2 h3 hl _ w (fs.put hdo v) s hK)
      · exact take hsil.1 (.inr ⟨h2 a fs, rfl⟩) (zCi hok hsel hQ l n (k + 1) fuel _ _ h hlk' hlen' hsil.2 hp2 h1 hl _ w (fs.put hdo _) s hK)
    | zero =>
      have hall : ((l.take 0).all fun o => silentB P o.op) = true := rfl
      by_cases hs : silentB P o.op = true
      · have hv1 := hv
        simp only [vcY, vcX, hs, zBn] at hv1
        rcases zBr (N := N) (show vcG P w0 ops o f hS _ from hv1) with ⟨h1, h2⟩ | ⟨h1, h2⟩
        · obtain ⟨v, h3, h4⟩ := zCu hs hdo h1
          exact take hs (.inl ⟨h2 a fs, fun w' s' => h4 a w' fs s'⟩) (zCi hok hsel hQ l 0 (k + 1) fuel _ _ h hlk' hlen' hall hp2 h3 hl _ w (fs.put hdo v) s hK)
        · exact take hs (.inr ⟨h2 a fs, rfl⟩) (zCi hok hsel hQ l 0 (k + 1) fuel _ _ h hlk' hlen' hall hp2 h1 hl _ w (fs.put hdo _) s hK)
      · rw [if_neg hs] at hp1
        refine wpAnyH_all (rs := [k]) (by simpa using hp1) (by simp) fun j hj => ?_
        obtain rfl : j = k := by simpa using hj
        unfold wpOp
        simp only [ho]
        have hsf : silentB P o.op = false := by simpa using hs
        have hv1 := hv
        simp only [vcY, vcX, hsf, zBj] at hv1
        rcases zBr (N := N) (show vcG P w0 ops o f h _ from hv1) with ⟨h1, h2⟩ | ⟨h1, h2⟩
        · rw [if_pos (h2 a fs)]
          exact .inl (zC8 hdo h1 a w fs s _ _ fun f' h' a' w' q r t => ⟨q.1 _ t, zCi hok hsel hQ l 0 (j + 1) fuel _ f' h' hlk' hlen' hall hp2 q.2 q.1 a' w' r t hK⟩)
        · rw [if_neg (by rw [h2 a fs]; simp)]
          exact ⟨hl _ s, zCi hok hsel hQ l 0 (j + 1) fuel _ _ h hlk' hlen' hall hp2 h1.2 hl _ w (fs.put hdo _) s hK⟩
theorem zA3 {id : Nat} {l : List Oper} {Q : Exit → Fr → PH → Prop} (n : Nat) (hS : PH) (hm : P.follows .mixedOrders = true) (hp : planOk P l.toArray (List.range' 0 l.length) (Array.replicate l.toArray.size false) = true) (hsil : ((l.take n).all fun o => silentB P o.op) = true) (hok : opsOk N l = true) (hsel : Region.noSelect l.toArray = true)
    (hQ : ∀ c f h, ¬ Q (.panic c) f h) (hl : PH.Sub w0 hS h) (hv : vcYS P w0 hS l.toArray n l f h (Q .normal)) : PW P w0 N (.region id l.toArray true) f h Q := by
  intro a w fs s
  refine wp_region_held (S := Sim w0 hS) hm ?_
  exact zCi (N := N) (by simpa using hok) hsel (fun c a d v w => by rintro ⟨f', h', q, _⟩; exact absurd q (hQ c f' h')) l n 0 _ _ f h (fun j => by simp) (by simp) hsil hp hv hl a _ fs s.drew fun f' h' a' w' q r t => ⟨f', h', q, r, t⟩

/-! ### calls -/
def rval (P : Program) (w0 : World) (f : Fr) (h : PH) (r : ResultVar) (k : Value → Prop) (_ : Seal k := ⟨⟩) : Prop := match r with
  | .tmp t => oget (f t) k
  | .cell t ty => oget (f t) fun v => match v with
    | .pointer (some a) => vload P w0 h ty a k
    | _ => False
def rvals (P : Program) (w0 : World) (f : Fr) (h : PH) : List ResultVar → (List Value → Prop) → Prop
  | [], k => k []
  | r :: rs, k => rval P w0 f h r fun v => rvals P w0 f h rs fun vs => k (v :: vs)
def asOne : List Value → Value
  | [v] => v
  | vs => .tuple vs.toArray
def vcRet (P : Program) (w0 : World) (rs : List ResultVar) (R : Value → PH → Prop) (_ : Seal R := ⟨⟩) : Exit → Fr → PH → Prop
  | .normal, f, h => rvals P w0 f h rs fun vs => R (asOne vs) h
  | .ret, f, h => rvals P w0 f h rs fun vs => R (asOne vs) h
  | _, _, _ => False
theorem zE7 : ∀ {rs : List ResultVar} {k : List Value → Prop}, rvals P w0 f h rs k → ∃ vs, k vs ∧ ∀ a w, FSat f a N → Sim w0 h w →
    (rs.mapM (m := Sem) fun | .tmp t => pure (a.tmps.getD t undef) | .cell x t => do loadVar t (← asAddr (a.tmps.getD x undef))).run P w = .ok vs w
  | [], k, hv => ⟨[], hv, fun a w _ _ => by simp [Sem.run_pure]⟩
  | r :: rs, k, hv => by
    simp only [rvals] at hv
    have hr : ∃ v, (rvals P w0 f h rs fun vs => k (v :: vs)) ∧ ∀ a w, FSat f a N → Sim w0 h w → ((fun | .tmp t => pure (a.tmps.getD t undef) | .cell x t => do loadVar t (← asAddr (a.tmps.getD x undef)) : ResultVar → Sem Value) r).run P w = .ok v w := by
      unfold rval at hv
      split at hv
      · rename_i t
        unfold oget at hv
        split at hv
        · rename_i v hf
          exact ⟨v, hv, fun a w fs s => by simp [Sem.run_pure, Array.getD_eq_getD_getElem?, fs.at_ t v hf]⟩
        · exact hv.elim
      · rename_i t ty
        unfold oget at hv
        split at hv
        · rename_i u hf
          split at hv
          case h_2 => exact hv.elim
          rename_i ad
          obtain ⟨v, h1, h2⟩ := zIq hv
          refine ⟨v, h1, fun a w fs s => ?_⟩
          have h3 : a.tmps.getD t undef = .pointer (some ad) := by simp [Array.getD_eq_getD_getElem?, fs.at_ t _ hf]
          simp only [h3, asAddr, Sem.run_bind, Sem.run_pure, Result.andThen_ok, h2 w s]
        · exact hv.elim
    obtain ⟨v, h1, h2⟩ := hr
    obtain ⟨vs, h3, h4⟩ := zE7 h1
    refine ⟨v :: vs, h3, fun a w fs s => ?_⟩
    rw [List.mapM_cons]
    simp only [Sem.run_bind, h2 a w fs s, h4 a w fs s, Result.andThen_ok, Sem.run_pure]
theorem zH2 (R : Value → PH → Prop) : vcRet P w0 [] R ⟨⟩ .ret f h = R (.tuple #[]) h := rfl
theorem zHy (R : Value → PH → Prop) : vcRet P w0 [] R ⟨⟩ .normal f h = R (.tuple #[]) h := rfl
theorem zGj (R : Value → PH → Prop) (t : Nat) : vcRet P w0 [.tmp t] R ⟨⟩ .ret f h = (oget (f t) fun v => R v h) := rfl
theorem zH0 (R : Value → PH → Prop) (t : Nat) : vcRet P w0 [.tmp t] R ⟨⟩ .normal f h = (oget (f t) fun v => R v h) := rfl
theorem zHh (R : Value → PH → Prop) (t u : Nat) : vcRet P w0 [.tmp t, .tmp u] R ⟨⟩ .ret f h = (oget (f t) fun v => oget (f u) fun w => R (.tuple #[v, w]) h) := rfl
theorem zFy (R : Value → PH → Prop) (t u : Nat) : vcRet P w0 [.tmp t, .tmp u] R ⟨⟩ .normal f h = (oget (f t) fun v => oget (f u) fun w => R (.tuple #[v, w]) h) := rfl
theorem zF3 (R : Value → PH → Prop) (t u x : Nat) : vcRet P w0 [.tmp t, .tmp u, .tmp x] R ⟨⟩ .ret f h = (oget (f t) fun v => oget (f u) fun w => oget (f x) fun y => R (.tuple #[v, w, y]) h) := rfl
theorem zIg (R : Value → PH → Prop) (t u x : Nat) : vcRet P w0 [.tmp t, .tmp u, .tmp x] R ⟨⟩ .normal f h = (oget (f t) fun v => oget (f u) fun w => oget (f x) fun y => R (.tuple #[v, w, y]) h) := rfl
theorem zH6 (R : Value → PH → Prop) (t u x z : Nat) : vcRet P w0 [.tmp t, .tmp u, .tmp x, .tmp z] R ⟨⟩ .ret f h = (oget (f t) fun v => oget (f u) fun w => oget (f x) fun y => oget (f z) fun q => R (.tuple #[v, w, y, q]) h) := rfl
theorem zIr (R : Value → PH → Prop) (t u x z : Nat) : vcRet P w0 [.tmp t, .tmp u, .tmp x, .tmp z] R ⟨⟩ .normal f h = (oget (f t) fun v => oget (f u) fun w => oget (f x) fun y => oget (f z) fun q => R (.tuple #[v, w, y, q]) h) := rfl
theorem zF6 (R : Value → PH → Prop) (t u : Nat) : vcRet P w0 [.cell t u] R ⟨⟩ .ret f h = (oget (f t) fun v => vcPtr v fun a => vload P w0 h u a fun r => R r h) := rfl
theorem zHo (R : Value → PH → Prop) (t u : Nat) : vcRet P w0 [.cell t u] R ⟨⟩ .normal f h = (oget (f t) fun v => vcPtr v fun a => vload P w0 h u a fun r => R r h) := rfl
theorem zIo (R : Value → PH → Prop) (t u x : Nat) : vcRet P w0 [.cell t u, .tmp x] R ⟨⟩ .ret f h = (oget (f t) fun v => vcPtr v fun a => vload P w0 h u a fun r => oget (f x) fun y => R (.tuple #[r, y]) h) := rfl
theorem zG9 (R : Value → PH → Prop) (t u x : Nat) : vcRet P w0 [.cell t u, .tmp x] R ⟨⟩ .normal f h = (oget (f t) fun v => vcPtr v fun a => vload P w0 h u a fun r => oget (f x) fun y => R (.tuple #[r, y]) h) := rfl
theorem zIh (R : Value → PH → Prop) (t u x : Nat) : vcRet P w0 [.tmp x, .cell t u] R ⟨⟩ .ret f h = (oget (f x) fun y => oget (f t) fun v => vcPtr v fun a => vload P w0 h u a fun r => R (.tuple #[y, r]) h) := rfl
theorem zGn (R : Value → PH → Prop) (t u x : Nat) : vcRet P w0 [.tmp x, .cell t u] R ⟨⟩ .normal f h = (oget (f x) fun y => oget (f t) fun v => vcPtr v fun a => vload P w0 h u a fun r => R (.tuple #[y, r]) h) := rfl
theorem zIc {g : FuncId} {fn : Func} {c : Code} {args : List Value} {R : Value → PH → Prop} (hf : P.funcs[g]? = some fn) (hb : fn.body = some c) (N : Nat) (hN : fn.ntmps = N) (hok : codeOk N c = true) (hn : Nat.ble args.length N = true)
    (rs : List ResultVar) (hrs : fn.results = rs.toArray) (hv : vcC P w0 N c (Fr.args args N) h (vcRet P w0 rs (fun v h' => ∃ h2, PH.Le h2 h' ∧ R v h2))) : ∀ w, Sim w0 h w → Calls P g args.toArray w fun e w' => ∃ v h', e = .returned v ∧ R v h' ∧ Sim w0 h' w' := by
  subst hN
  have hrs' : rs = fn.results.toList := by rw [hrs]
  subst hrs'
  intro w s
  refine calls_of_wp hf hb (wp_mono (zBv hok hv _ w (FSat.args (Nat.le_of_ble_eq_true hn)) s) ?_)
  rintro e a' w' ⟨f', h', q, fs, s'⟩
  have key : rvals P w0 f' h' fn.results.toList (fun vs => ∃ h2, PH.Le h2 h' ∧ R (asOne vs) h2) → a'.defers = [] ∧ ∃ v, (results fn a'.tmps).run P w' = .ok v w' ∧ ∃ v' h'', Ending.returned v = .returned v' ∧ R v' h'' ∧ Sim w0 h'' w' := by
    intro q
    obtain ⟨vs, ⟨h2, hl, hR⟩, h3⟩ := zE7 (N := fn.ntmps) q
    refine ⟨fs.defers, asOne vs, ?_, asOne vs, h2, rfl, hR, s'.weak hl⟩
    have h4 := h3 a' w' fs s'
    unfold results
    rw [Array.mapM_eq_mapM_toList]
    simp only [map_eq_pure_bind, bind_assoc, pure_bind, Sem.run_bind]
    erw [h4]
    simp only [Result.andThen_ok]
    unfold asOne
    rcases vs with _ | ⟨v, _ | ⟨u, vs⟩⟩ <;> simp [Sem.run_pure]
  cases e
  case normal => exact key q
  case ret => exact key q
  all_goals exact q.elim
theorem zAp {g : FuncId} {fn : Func} {c : Code} {args : List Value} {R : Value → PH → Prop} (hf : P.funcs[g]? = some fn) (he : entered P g = true) (hb : fn.body = some c) (N : Nat) (hN : fn.ntmps = N) (hok : codeOk N c = true) (hn : Nat.ble args.length N = true)
    (rs : List ResultVar) (hrs : fn.results = rs.toArray) (hv : vcC P w0 N c (Fr.args args N) h (vcRet P w0 rs (fun v h' => ∃ h2, PH.Le h2 h' ∧ R v h2))) : PCalls P w0 g args h R := fun w s => .inl ⟨zIx he _ w, zIc hf hb N hN hok hn rs hrs hv w s⟩
theorem law_calls {g : FuncId} {args : List Value} {w : World} (hc : Calls P g args.toArray w fun e w' => ∃ v h', e = .returned v ∧ v = .bool true ∧ Sim w h' w') : Calls P g args.toArray w fun e w' => e = .returned (.bool true) ∧ Below w.heap.size w w' :=
  hc.mono fun e w' ⟨v, h', he, hv, hs⟩ => ⟨by rw [he, hv], hs.below⟩
theorem zEw {g : FuncId} {args : List Value} {R : Value → PH → Prop} (v : Value) (hr : ∀ w, (callFunc g args.toArray).run P w = .ok (.value v) w) (hR : R v h) : PCalls P w0 g args h R :=
  fun w s => .inr ⟨v, w, h, hr w, hR, s⟩
def vcR (P : Program) (w0 : World) (N : Nat) (c : Code) (Q : Exit → Fr → PH → Prop) : Nat → Fr → PH → Prop
  | 0, _, _ => False
  | n + 1, f, h => vcC P w0 N c f h (thenK (vcR P w0 N c Q n) Q)
def vcN (P : Program) (w0 : World) (N : Nat) (c : Code) (n : Nat) (f : Fr) (h : PH) (Q : Exit → Fr → PH → Prop) (_ : Seal c := ⟨⟩) (_ : Seal Q := ⟨⟩) : Prop := vcR P w0 N c Q n f h
def thenN (P : Program) (w0 : World) (N : Nat) (c : Code) (n : Nat) (Q : Exit → Fr → PH → Prop) (_ : Seal c := ⟨⟩) (_ : Seal Q := ⟨⟩) : Exit → Fr → PH → Prop := thenK (vcR P w0 N c Q n) Q
theorem vcN_succ (c : Code) (n : Nat) (Q : Exit → Fr → PH → Prop) : vcN P w0 N c (n + 1) f h Q = vcC P w0 N c f h (thenN P w0 N c n Q) := rfl
theorem zFx (c : Code) (n : Nat) (Q : Exit → Fr → PH → Prop) : thenN P w0 N c n Q ⟨⟩ ⟨⟩ .normal f h = vcN P w0 N c n f h Q := rfl
theorem thenN_ret (c : Code) (n : Nat) (Q : Exit → Fr → PH → Prop) : thenN P w0 N c n Q ⟨⟩ ⟨⟩ .ret f h = Q .ret f h := rfl
theorem zGp (c : Code) (n : Nat) (Q : Exit → Fr → PH → Prop) (i : Nat) : thenN P w0 N c n Q ⟨⟩ ⟨⟩ (.exit i) f h = Q (.exit i) f h := rfl
theorem zAu (c : Code) (n : Nat) (Q : Exit → Fr → PH → Prop) (i : List PanicEntry) : thenN P w0 N c n Q ⟨⟩ ⟨⟩ (.panic i) f h = Q (.panic i) f h := rfl
theorem zAx (rs : List ResultVar) (R : Value → PH → Prop) (i : List PanicEntry) : vcRet P w0 rs R ⟨⟩ (.panic i) f h = False := rfl
theorem PW_rounds {c : Code} {Q : Exit → Fr → PH → Prop} (n : Nat) (hok : codeOk N c = true) (hv : vcN P w0 N c n f h Q) : PW P w0 N (.loop c) f h Q := by
  intro a w fs s
  refine wp_loop_rounds n ?_
  have key : ∀ n f h a w, vcR P w0 N c Q n f h → FSat f a N → Sim w0 h w → Code.rounds P c (fun e a' w' => ∃ f' h', Q e f' h' ∧ FSat f' a' N ∧ Sim w0 h' w') n a w := by
    intro n
    induction n with
    | zero => intro f h a w hv _ _; exact hv.elim
    | succ n ih =>
      intro f h a w hv fs s
      rw [rounds_succ]
      refine wp_mono (zBv hok hv a w fs s) ?_
      rintro e a' w' ⟨f', h', q, fs', s'⟩
      cases e
      case normal => exact ih f' h' a' w' q fs' s'
      all_goals exact ⟨f', h', q, fs', s'⟩
  exact key n f h a w hv fs s
end
end Go.Proofs.Ytblikpbaeippaaa.Px

