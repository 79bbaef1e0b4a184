/- Parts Px, Pw, joined. No condition. -/
import Derived.WalkKit
import Derived.ProofKit
import Derived.OpenShut
import Derived.SizedLaws
import Derived.OpenVars
import Derived.Lib.Hide
import Derived.Deep.Fields
import Derived.Deep.Slices
import Derived.Deep.MidRow
import Derived.Laws.ResultCell
import Derived.StillTailTactics
/- A logic of memory as a partial map, for functions that hand plain data on: what a call needs of the world is which blocks hold which cells; all else is forgotten. Every rule is shown of the model's own run. No condition. -/
namespace Go.Proofs.Ytblikpbaeippaaa.Px
set_option linter.unusedVariables false
set_option linter.unusedSimpArgs false
open Go.RowKit

/-! ### memory -/
/-- What else may be known of a block: that it is a map, and which. -/
class MapK where
  o : Option Obj
instance noMap : MapK := ⟨none⟩
/-- A block: its first cells, and how many cells of it may be written; or a map. -/
structure Bk where
  xs : List Value
  lim : Nat
  [mp : MapK]
/-- A block with other cells. -/
def Bk.as (k : Bk) (xs : List Value) : Bk := @Bk.mk xs k.lim k.mp
theorem Bk.as_mk (xs ys : List Value) (lim : Nat) : Bk.as ⟨xs, lim⟩ ys = ⟨ys, lim⟩ := rfl
/-- Known blocks; all lie below top. -/
structure PH where
  top : Nat
  m : Nat → Option Bk
  lt : ∀ b k, m b = some k → b < top

def BCells (w : World) (b : Nat) (k : Bk) : Prop :=
  ∃ (cur : Array Value) (t : TypeId) (lo hi : Nat), w.heap[b]? = some (.cells cur t (lo, hi)) ∧ k.lim ≤ cur.size ∧ (hi ≤ lo ∨ hi = 0) ∧ k.xs.length ≤ k.lim ∧ cur.toList.take k.xs.length = k.xs

def BSat (w : World) (b : Nat) (k : Bk) : Prop := match k.mp.o with
  | none => BCells w b k
  | some o => k.xs = [] ∧ w.heap[b]? = some o
theorem BCells.sat {w : World} {b : Nat} {k : Bk} (hk : k.mp.o = none) (s : BCells w b k) : BSat w b k := by
  unfold BSat; rw [hk]; exact s
theorem BSat.heap {w : World} {b : Nat} {k : Bk} (s : BSat w b k) : ∃ o, w.heap[b]? = some o := by
  unfold BSat at s
  split at s
  · obtain ⟨cur, t, lo, hi, hc, _⟩ := s; exact ⟨_, hc⟩
  · exact ⟨_, s.2⟩
theorem BSat.congr {w w' : World} {b : Nat} {k : Bk} (s : BSat w b k) (e : w'.heap[b]? = w.heap[b]?) : BSat w' b k := by
  unfold BSat BCells at *
  rw [e]; exact s
theorem BSat.cells {w : World} {b : Nat} {k : Bk} (s : BSat w b k) (h : 0 < k.xs.length) : BCells w b k := by
  unfold BSat at s
  split at s
  · exact s
  · rw [s.1] at h; simp at h

structure Sim (w0 : World) (h : PH) (w : World) : Prop where
  below : Below w0.heap.size w0 w
  top : h.top ≤ w.heap.size
  sat : ∀ b k, h.m b = some k → w0.heap.size ≤ b ∧ BSat w b k

def PH.empty (w0 : World) : PH := ⟨w0.heap.size, fun _ => none, fun _ _ h => by cases h⟩
theorem Sim.empty (w0 : World) : Sim w0 (PH.empty w0) w0 := ⟨Below.refl _ _, Nat.le_refl _, fun _ _ h => by cases h⟩

/-- A block put in. -/
def PH.new (h : PH) (b : Nat) (k : Bk) : PH :=
  ⟨max h.top (b + 1), fun x => if x = b then some k else h.m x, fun x y e => by
    by_cases hx : x = b
    · omega
    · rw [if_neg hx] at e
      have := h.lt x y e
      omega⟩
/-- A block put out. -/
def PH.del (h : PH) (b : Nat) : PH :=
  ⟨h.top, fun x => if x = b then none else h.m x, fun x y e => by
    by_cases hx : x = b
    · rw [if_pos hx] at e; cases e
    · rw [if_neg hx] at e; exact h.lt x y e⟩
theorem PH.new_m (h : PH) (b : Nat) (k : Bk) (x : Nat) : (h.new b k).m x = if x = b then some k else h.m x := rfl
theorem PH.new_top (h : PH) (b : Nat) (k : Bk) : (h.new b k).top = max h.top (b + 1) := rfl
theorem PH.del_m (h : PH) (b : Nat) (x : Nat) : (h.del b).m x = if x = b then none else h.m x := rfl
theorem PH.del_top (h : PH) (b : Nat) : (h.del b).top = h.top := rfl

/-- Less is known. -/
structure PH.Le (h h' : PH) : Prop where
  top : h.top ≤ h'.top
  m : ∀ b k, h.m b = some k → h'.m b = some k
theorem PH.Le.refl (h : PH) : PH.Le h h := ⟨Nat.le_refl _, fun _ _ e => e⟩
theorem PH.Le.trans {a b c : PH} (h : PH.Le a b) (k : PH.Le b c) : PH.Le a c := ⟨Nat.le_trans h.top k.top, fun x y e => k.m x y (h.m x y e)⟩
theorem PH.Le.new {h h' : PH} (hl : PH.Le h h') (b : Nat) (k : Bk) (hb : h.top ≤ b) : PH.Le h (h'.new b k) := by
  refine ⟨?_, fun x y e => ?_⟩
  · have := hl.top
    simp only [PH.new_top]; omega
  · have := h.lt x y e
    rw [PH.new_m, if_neg (by omega)]
    exact hl.m x y e
theorem PH.Le.del {h h' : PH} (hl : PH.Le h h') (b : Nat) (hb : h.top ≤ b) : PH.Le h (h'.del b) := by
  refine ⟨hl.top, fun x y e => ?_⟩
  have := h.lt x y e
  rw [PH.del_m, if_neg (by omega)]
  exact hl.m x y e
/-- One block kept of what came. -/
theorem PH.Le.new1 {h h' : PH} {b : Nat} {k : Bk} (hl : PH.Le h h') (hb : h'.m b = some k) : PH.Le (h.new b k) h' := by
  have hb' := h'.lt b k hb
  have ht := hl.top
  refine ⟨by simp only [PH.new_top]; omega, fun x y e => ?_⟩
  rw [PH.new_m] at e
  by_cases hx : x = b
  · subst hx
    rw [if_pos rfl] at e
    rw [← Option.some.inj e]
    exact hb
  · rw [if_neg hx] at e
    exact hl.m x y e

section
variable {w0 w w' : World} {h h' : PH}
theorem Sim.weak (s : Sim w0 h w) (hl : PH.Le h' h) : Sim w0 h' w := ⟨s.below, Nat.le_trans hl.top s.top, fun b k e => s.sat b k (hl.m b k e)⟩
/-- Whatever meets h meets h'. -/
def PH.Sub (w0 : World) (h' h : PH) : Prop := ∀ w, Sim w0 h w → Sim w0 h' w
theorem PH.Le.sub {w0 : World} {h h' : PH} (hl : PH.Le h' h) : PH.Sub w0 h' h := fun _ s => s.weak hl
theorem Sim.drew (s : Sim w0 h w) : Sim w0 h w.drew := ⟨s.below.drew, s.top, s.sat⟩
theorem Sim.base (s : Sim w0 h w) : w0.heap.size ≤ w.heap.size := s.below.size
/-- The world has changed at block b alone, beside what is new. -/
theorem Sim.step {row : Option Nat} (s : Sim w0 h w) (hg : w.grownBy w' row) (hr : ∀ b, row = some b → w0.heap.size ≤ b ∧ h.m b = none) : Sim w0 h w' := by
  refine ⟨s.below.grown hg s.base (fun k e => (hr k e).1), Nat.le_trans s.top hg.size, fun b k e => ?_⟩
  obtain ⟨h1, hs⟩ := s.sat b k e
  refine ⟨h1, hs.congr (hg.block b (Nat.lt_of_lt_of_le (h.lt b k e) s.top) ?_)⟩
  intro e'
  have := (hr b e'.symm).2
  rw [this] at e
  cases e
theorem Sim.put (s : Sim w0 h w) {b : Nat} {k : Bk} (hb : w0.heap.size ≤ b) (hs : BSat w b k) : Sim w0 (h.new b k) w := by
  refine ⟨s.below, ?_, fun x y e => ?_⟩
  · obtain ⟨o, hc⟩ := hs.heap
    have h1 := (Array.getElem?_eq_some_iff.1 hc).1
    have h2 := s.top
    simp only [PH.new_top]; omega
  · rw [PH.new_m] at e
    by_cases hx : x = b
    · subst hx
      rw [if_pos rfl] at e
      rw [← Option.some.inj e]
      exact ⟨hb, hs⟩
    · rw [if_neg hx] at e
      exact s.sat x y e
theorem Sim.del (s : Sim w0 h w) (b : Nat) : Sim w0 (h.del b) w := by
  refine ⟨s.below, s.top, fun x y e => ?_⟩
  rw [PH.del_m] at e
  by_cases hx : x = b
  · rw [if_pos hx] at e; cases e
  · rw [if_neg hx] at e; exact s.sat x y e
end

theorem grownBy_alloc (w : World) (o : Obj) (row : Option Nat) : w.grownBy (w.alloc o) row :=
  ⟨rfl, rfl, rfl, by simp, fun k hk _ => heap_alloc_old w o hk⟩
theorem BSat.new (w : World) (t : TypeId) (cs : List Value) : BSat (w.alloc (.cells cs.toArray t)) w.heap.size ⟨cs, cs.length⟩ :=
  ⟨cs.toArray, t, 0, 0, heap_alloc_new w _, by simp, .inl (Nat.le_refl _), Nat.le_refl _, by simp⟩
/-- A new block. -/
theorem Sim.alloc {w0 w : World} {h : PH} (s : Sim w0 h w) (t : TypeId) (cs : List Value) : Sim w0 (h.new w.heap.size ⟨cs, cs.length⟩) (w.alloc (.cells cs.toArray t)) :=
  (s.step (grownBy_alloc w _ none) (fun _ e => by cases e)).put s.base (BSat.new w t cs)

/-- What is read at an address. -/
def rd (w0 : World) (h : PH) (a : Addr) : Option Value :=
  if a.spot = none then
    match h.m a.block with
    | some k => k.xs[a.off]?
    | none => if a.block < w0.heap.size then w0.cell? a else none
  else none
theorem rd_sound {w0 w : World} {h : PH} (s : Sim w0 h w) {a : Addr} {v : Value} (e : rd w0 h a = some v) : w.cell? a = some v := by
  unfold rd at e
  by_cases hs : a.spot = none
  · rw [if_pos hs] at e
    split at e
    · rename_i k hk
      obtain ⟨cur, t, lo, hi, hc, h1, h2, h3, h4⟩ := (s.sat _ _ hk).2.cells (by have := (List.getElem?_eq_some_iff.1 e).1; omega)
      obtain ⟨b, o, sp⟩ := a
      simp only at hs hk hc e
      subst hs
      rw [cell_of_row w b o cur t (lo, hi) hc]
      rw [← h4, List.getElem?_take] at e
      split at e
      · simpa using e
      · cases e
    · split at e
      · rename_i hlt
        rw [s.below.cell hlt]; exact e
      · cases e
  · rw [if_neg hs] at e; cases e
/-- So many cells from an address on. -/
def rdN (w0 : World) (h : PH) (a : Addr) (n : Nat) : Option (List Value) :=
  match h.m a.block with
  | some k => if a.spot = none ∧ a.off + n ≤ k.xs.length then some ((k.xs.drop a.off).take n) else none
  | none => (List.range n).mapM fun j => rd w0 h (a.add j)
theorem mapM_some {α β : Type} {f : α → Option β} : ∀ {l : List α} {r : List β}, l.mapM f = some r → r.length = l.length ∧ ∀ (j : Nat) (x : α), l[j]? = some x → ∃ y, r[j]? = some y ∧ f x = some y
  | [], r, h => by simp at h; subst h; simp
  | x :: l, r, h => by
    rw [List.mapM_cons] at h
    simp only [Option.bind_eq_bind, Option.bind_eq_some_iff, Option.pure_def, Option.some.injEq] at h
    obtain ⟨y, hy, ys, hys, rfl⟩ := h
    obtain ⟨h1, h2⟩ := mapM_some hys
    refine ⟨by simp [h1], fun j z hz => ?_⟩
    cases j with
    | zero => simp at hz; subst hz; exact ⟨y, rfl, hy⟩
    | succ j => simpa using h2 j z (by simpa using hz)
theorem rdN_sound {w0 w : World} {h : PH} (s : Sim w0 h w) {a : Addr} {n : Nat} {cs : List Value} (e : rdN w0 h a n = some cs) : cs.length = n ∧ ∀ j v, cs[j]? = some v → w.cell? (a.add j) = some v := by
  unfold rdN at e
  split at e
  · rename_i k hk
    split at e
    · rename_i hc
      obtain ⟨hs, hl⟩ := hc
      have e := Option.some.inj e
      subst e
      refine ⟨by simp; omega, fun j v hv => ?_⟩
      have hj : j < n := by
        have := (List.getElem?_eq_some_iff.1 hv).1
        simp at this; omega
      obtain ⟨b, o, sp⟩ := a
      simp only at hs hk hl hv ⊢
      subst hs
      rw [Addr.add_mid]
      refine rd_sound s ?_
      unfold rd
      simp only [if_true, hk]
      rw [← hv, List.getElem?_take_of_lt hj, List.getElem?_drop]
    · cases e
  · obtain ⟨h1, h2⟩ := mapM_some e
    refine ⟨by simpa using h1, fun j v hv => ?_⟩
    have hj : j < n := by have := (List.getElem?_eq_some_iff.1 hv).1; simp at h1; omega
    obtain ⟨y, hy, hf⟩ := h2 j j (by rw [List.getElem?_range hj])
    rw [hv] at hy
    rw [Option.some.inj hy]
    exact rd_sound s hf

/-! ### frames -/
abbrev Fr := Nat → Option Value
def Fr.put (f : Fr) (d : Option Tmp) (v : Value) : Fr := match d with
  | some d => fun t => if t = d then some v else f t
  | none => f
def Fr.args (l : List Value) (n : Nat) : Fr := fun t => if t < n then some (l.getD t undef) else none
structure FSat (f : Fr) (a : Act) (N : Nat) : Prop where
  size : a.tmps.size = N
  defers : a.defers = []
  at_ : ∀ t v, f t = some v → a.tmps[t]? = some v
def ev (f : Fr) : Operand → Option Value
  | .tmp t => f t
  | .const v => some v
  | .global g => some (.pointer (some ⟨g, 0, none⟩))
  | .func g => some (.func (.func g) #[] #[])
theorem ev_sound {f : Fr} {a : Act} {N : Nat} (s : FSat f a N) {x : Operand} {v : Value} (e : ev f x = some v) : a.eval x = v := by
  cases x with
  | tmp t =>
    have := s.at_ t v e
    simp [Act.eval, Array.getD_eq_getD_getElem?, this]
  | const u => simpa [ev, Act.eval] using e
  | global g => simpa [ev, Act.eval] using e
  | func g => simpa [ev, Act.eval] using e
/-- All of some operands. -/
def evs (f : Fr) (xs : Array Operand) : Option (List Value) := xs.toList.mapM (ev f)
theorem evs_sound {f : Fr} {a : Act} {N : Nat} (s : FSat f a N) {xs : Array Operand} {vs : List Value} (e : evs f xs = some vs) : xs.map a.eval = vs.toArray := by
  obtain ⟨h1, h2⟩ := mapM_some e
  apply Array.ext'
  simp only [Array.toList_map]
  apply List.ext_getElem?
  intro j
  rw [List.getElem?_map]
  cases hx : xs.toList[j]? with
  | none =>
    simp only [Option.map_none]
    rw [List.getElem?_eq_none]
    have := List.getElem?_eq_none_iff.1 hx
    omega
  | some x =>
    obtain ⟨y, hy, hf⟩ := h2 j x hx
    simp only [Option.map_some, hy, ev_sound s hf]
/-- Which slots an operation may fill. -/
def dstOk (N : Nat) (d : Option Tmp) : Bool := match d with
  | some d => decide (d < N)
  | none => true
theorem FSat.put {f : Fr} {a : Act} {N : Nat} (s : FSat f a N) {d : Option Tmp} (hd : dstOk N d = true) (v : Value) : FSat (f.put d v) (a.put d v) N := by
  cases d with
  | none => exact s
  | some d =>
    have hd' : d < N := by simpa [dstOk] using hd
    refine ⟨by simp [Act.put, s.size], by simp [Act.put, s.defers], fun t u e => ?_⟩
    simp only [Fr.put] at e
    simp only [Act.put]
    by_cases ht : t = d
    · subst ht
      rw [if_pos rfl] at e
      rw [← Option.some.inj e, Array.getElem?_setIfInBounds_self_of_lt (by rw [s.size]; exact hd')]
    · rw [if_neg ht] at e
      rw [Array.getElem?_setIfInBounds_ne (Ne.symm ht)]
      exact s.at_ t u e
theorem FSat.args {args : List Value} {N : Nat} (hn : args.length ≤ N) : FSat (Fr.args args N) { tmps := args.toArray ++ Array.replicate (N - args.toArray.size) undef, defers := [] } N := by
  refine ⟨by simp; omega, rfl, fun t v e => ?_⟩
  unfold Fr.args at e
  by_cases ht : t < N
  · rw [if_pos ht] at e
    have e := Option.some.inj e
    subst e
    rcases Nat.lt_or_ge t args.length with h | h
    · rw [Array.getElem?_append_left (by simpa using h)]
      simp [List.getD, List.getElem?_eq_getElem h]
    · rw [Array.getElem?_append_right (by simpa using h)]
      rw [Array.getElem?_replicate, if_pos (by simp at h ⊢; omega)]
      simp [List.getD, List.getElem?_eq_none h]
  · rw [if_neg ht] at e; cases e
end Go.Proofs.Ytblikpbaeippaaa.Px


/- The logic's statements on calls, operations, regions and code, and what computes them off a function's own text. No condition. -/
namespace Go.Proofs.Ytblikpbaeippaaa.Px
set_option linter.unusedVariables false
set_option linter.unusedSimpArgs false
open Go.RowKit

/-- A part that simp need not look into: what a later argument's type names stays as it is. -/
structure Seal {α : Sort _} (a : α) : Type where
def entered (P : Program) (g : FuncId) : Bool := match P.funcs[g]? with
  | some fn => fn.name != "runtime.NumGoroutine" && fn.body.isSome
  | none => false
/-- A call of function g on these values, over what is known of memory, hands back a value v and leaves memory h' so that R v h'. -/
def PCalls (P : Program) (w0 : World) (g : FuncId) (args : List Value) (h : PH) (R : Value → PH → Prop) (_ : Seal R := ⟨⟩) : Prop :=
  ∀ w, Sim w0 h w → ((callFunc g args.toArray).run P w = .ok (.enter g args.toArray) w ∧ Calls P g args.toArray w fun e w' => ∃ v h', e = .returned v ∧ R v h' ∧ Sim w0 h' w') ∨
    ∃ v w' h', (callFunc g args.toArray).run P w = .ok (.value v) w' ∧ R v h' ∧ Sim w0 h' w'
def PW (P : Program) (w0 : World) (N : Nat) (c : Code) (f : Fr) (h : PH) (Q : Exit → Fr → PH → Prop) (_ : Seal c := ⟨⟩) (_ : Seal Q := ⟨⟩) : Prop :=
  ∀ a w, FSat f a N → Sim w0 h w → c.wp P (fun e a' w' => ∃ f' h', Q e f' h' ∧ FSat f' a' N ∧ Sim w0 h' w') a w
/-- A semantic step that leaves memory alone. -/
def Yld (P : Program) (m : Sem Value) (K : Value → Prop) (_ : Seal K := ⟨⟩) : Prop := ∃ r, (∀ w, m.run P w = .ok r w) ∧ K r
/-- A semantic step that may change memory. -/
def Does (P : Program) (w0 : World) (h : PH) (m : Sem Value) (K : Value → PH → Prop) (_ : Seal K := ⟨⟩) : Prop :=
  ∀ w, Sim w0 h w → ∃ v w' h', m.run P w = .ok v w' ∧ K v h' ∧ Sim w0 h' w'
/-- A semantic step that reads memory. -/
def Rds (P : Program) (w0 : World) (h : PH) (m : Sem Value) (K : Value → Prop) (_ : Seal K := ⟨⟩) : Prop := ∃ r, (∀ w, Sim w0 h w → m.run P w = .ok r w) ∧ K r
/-- Whose length is asked: a map's, which is read, or another's. -/
def lenK (vs : List Value) (A B : Prop) (_ : Seal A := ⟨⟩) (_ : Seal B := ⟨⟩) : Prop := match vs with
  | [.map (some _)] => A
  | _ => B
theorem lenK_slice (a : Option Addr) (n c : Nat) (A B : Prop) : lenK [.slice a n c] A B = B := rfl
theorem lenK_string (s : ByteArray) (A B : Prop) : lenK [.string s] A B = B := rfl
theorem lenK_map (b : Nat) (A B : Prop) : lenK [.map (some b)] A B = A := rfl
theorem lenK_mapN (A B : Prop) : lenK [.map none] A B = B := rfl
theorem lenK_agg (s : Array Value) (A B : Prop) : lenK [.agg s] A B = B := rfl
theorem lenK_ptr (a : Option Addr) (A B : Prop) : lenK [.pointer a] A B = B := rfl
/-- A map's entry set. -/
def updateK (t : TypeId) (m k v : Value) : Sem Value := do
  Instr.mapUpdate t m k v
  pure undef
def vcIf (b : Bool) (X Y : Prop) (_ : Seal X := ⟨⟩) (_ : Seal Y := ⟨⟩) : Prop := (b = true → X) ∧ (b = false → Y)

theorem Yld_eq {P : Program} {m : Sem Value} {K : Value → Prop} {r : Value} (hm : ∀ w, m.run P w = .ok r w) : Yld P m K = K r := by
  apply propext
  constructor
  · rintro ⟨r', h1, h2⟩
    have h3 := h1 default
    rw [hm] at h3
    injection h3 with h3
    rw [h3]; exact h2
  · exact fun h => ⟨r, hm, h⟩
theorem vcIf_true (X Y : Prop) : vcIf true X Y = X := by simp [vcIf]
theorem vcIf_false (X Y : Prop) : vcIf false X Y = Y := by simp [vcIf]
/-- Less may be known behind. -/
theorem PCalls.weak {P : Program} {w0 : World} {g : FuncId} {args : List Value} {h : PH} {R R' : Value → PH → Prop} (hc : PCalls P w0 g args h R) (hr : ∀ v h', R v h' → ∃ h2, PH.Le h2 h' ∧ R' v h2) : PCalls P w0 g args h R' := by
  intro w s
  rcases hc w s with ⟨h1, h2⟩ | ⟨v, w', h', h1, h2, h3⟩
  · refine .inl ⟨h1, h2.mono fun e w' ⟨v, h', e1, e2, e3⟩ => ?_⟩
    obtain ⟨h2, hl, hR⟩ := hr v h' e2
    exact ⟨v, h2, e1, hR, e3.weak hl⟩
  · obtain ⟨h4, hl, hR⟩ := hr v h' h2
    exact .inr ⟨v, w', h4, h1, hR, h3.weak hl⟩
theorem PCalls.mono {P : Program} {w0 : World} {g : FuncId} {args : List Value} {h : PH} {R R' : Value → PH → Prop} (hc : PCalls P w0 g args h R) (hr : ∀ v h', R v h' → R' v h') : PCalls P w0 g args h R' :=
  hc.weak fun v h' r => ⟨h', PH.Le.refl _, hr v h' r⟩
theorem PW.mono {P : Program} {w0 : World} {N : Nat} {c : Code} {f : Fr} {h : PH} {Q Q' : Exit → Fr → PH → Prop} (hc : PW P w0 N c f h Q) (hq : ∀ e f h, Q e f h → Q' e f h) : PW P w0 N c f h Q' :=
  fun a w fs s => wp_mono (hc a w fs s) fun e a w ⟨f', h', q, r⟩ => ⟨f', h', hq _ _ _ q, r⟩
theorem PW.weak {P : Program} {w0 : World} {N : Nat} {c : Code} {f : Fr} {h h' : PH} {Q : Exit → Fr → PH → Prop} (hl : PH.Le h h') (hc : PW P w0 N c f h Q) : PW P w0 N c f h' Q :=
  fun a w fs s => hc a w fs (s.weak hl)

/-! ### one operation -/
def oget (o : Option Value) (k : Value → Prop) (_ : Seal k := ⟨⟩) : Prop := match o with
  | some v => k v
  | none => False
def ogetL (o : Option (List Value)) (k : List Value → Prop) (_ : Seal k := ⟨⟩) : Prop := match o with
  | some v => k v
  | none => False
def vev (f : Fr) (x : Operand) (k : Value → Prop) (_ : Seal k := ⟨⟩) : Prop := oget (ev f x) k
def vevs (f : Fr) (xs : Array Operand) (k : List Value → Prop) (_ : Seal k := ⟨⟩) : Prop := ogetL (evs f xs) k
def vop (f : Fr) (x : Option Operand) (k : Option Value → Prop) (_ : Seal k := ⟨⟩) : Prop := match x with
  | some x => vev f x fun v => k (some v)
  | none => k none
/-- A new block, whichever number it gets. -/
def vcNew (h : PH) (K : Nat → Prop) (_ : Seal K := ⟨⟩) : Prop := ∀ b, h.top ≤ b → K b
def aggB (P : Program) (t : TypeId) : Option Bool := (P.underlying t).map fun d => match d with
  | .struct _ => true
  | .array _ _ => true
  | _ => false
def szOf (P : Program) (t : TypeId) : Option Nat := (P.info? t).map (·.size)
def zcells (P : Program) (t : TypeId) : Option (List Value) := (P.info? t).bind fun i => i.zero.map fun z => z.cells.toList
/-- A variable's value. -/
def vload (P : Program) (w0 : World) (h : PH) (t : TypeId) (a : Addr) (k : Value → Prop) (_ : Seal k := ⟨⟩) : Prop := match aggB P t with
  | some false => oget (rd w0 h a) k
  | some true => (match szOf P t with
    | some n => ogetL (rdN w0 h a n) fun cs => k (.agg cs.toArray)
    | none => False)
  | none => False
def allOne (cs : List Value) : Prop := ∀ v ∈ cs, v.oneCell' = true
def vstore (P : Program) (w0 : World) (h : PH) (t : TypeId) (a : Addr) (v : Value) (k : PH → Prop) (_ : Seal k := ⟨⟩) : Prop :=
  szOf P t = some v.cells.size ∧ allOne v.cells.toList ∧ a.spot = none ∧
    match h.m a.block with
    | some b => a.off + v.cells.size ≤ b.xs.length ∧ k (h.new a.block (b.as (b.xs.take a.off ++ v.cells.toList ++ b.xs.drop (a.off + v.cells.size))))
    | none => False
def isSliceB (P : Program) (t : TypeId) : Bool := match P.underlying t with
  | some (.slice _) => true
  | _ => false
/-- The bytes of a slice as a text. -/
def vtext (P : Program) (w0 : World) (h : PH) (s d : TypeId) (x : Value) (k : Value → Prop) (_ : Seal k := ⟨⟩) : Prop :=
  ∃ e, P.underlying s = some (.slice e) ∧ P.underlying e = some (.int .u8) ∧ P.underlying d = some .string ∧
  match x with
  | .slice none n _ => k (.string .empty)
  | .slice (some a) n _ => ∃ l : List UInt8, l.length = n ∧ (0 < n → rdN w0 h a n = some (l.map fun c => .int .u8 c.toNat)) ∧ k (.string ⟨l.toArray⟩)
  | _ => False
def binS (op : BinOp) (t : TypeId) (x y : Operand) (u v : Value) : Sem Value := do
  eqGuard op t x y u v
  binOp op t u v
def nilS (x : Value) : Sem Value := match x with
  | .pointer none | .nilIface | .nilFunc => runtimePanic .nilDeref
  | .func (.method _) _ _ => stuck "not here"
  | x => pure x
/-- A method called on a value behind an interface. -/
def vinvoke (P : Program) (w0 : World) (h : PH) (r : Value) (name : String) (args : List Value) (K : Value → PH → Prop) (_ : Seal K := ⟨⟩) : Prop :=
  ∃ g as, (∀ w, (callMethod r name args.toArray).run P w = (callFunc g as.toArray).run P w) ∧ PCalls P w0 g as h K

def vcCall (P : Program) (w0 : World) (f : Fr) (h : PH) (c : Call) (ty : TypeId) (K : Value → PH → Prop) (_ : Seal c := ⟨⟩) (_ : Seal K := ⟨⟩) : Prop :=
  match c.callee with
  | .value (.func g) => vevs f c.args fun vs => PCalls P w0 g vs h K
  | .value x => vev f x fun fv => vevs f c.args fun vs => match fv with
    | .func (.func g) first cap => PCalls P w0 g (first.toList ++ vs ++ cap.toList) h K
    | _ => False
  | .builtin b => vevs f c.args fun vs => match b with
    | .len => lenK vs (Rds P w0 h (Builtin.len_ c.argTypes ty vs.toArray) fun v => K v h) (Yld P (Builtin.len_ c.argTypes ty vs.toArray) fun v => K v h)
    | .cap => Yld P (Builtin.cap_ c.argTypes ty vs.toArray) fun v => K v h
    | .max => Yld P (Builtin.max_ c.argTypes ty vs.toArray) fun v => K v h
    | .min => Yld P (Builtin.min_ c.argTypes ty vs.toArray) fun v => K v h
    | .append => Does P w0 h (Builtin.append_ c.argTypes ty vs.toArray) K
    | .copy => Does P w0 h (Builtin.copy_ c.argTypes ty vs.toArray) K
    | _ => False
  | .invoke r name => vev f r fun rv => vevs f c.args fun vs => vinvoke P w0 h rv name vs K

def vcOp (P : Program) (w0 : World) (o : Oper) (f : Fr) (h : PH) (K : Fr → PH → Prop) (_ : Seal o := ⟨⟩) (_ : Seal K := ⟨⟩) : Prop :=
  let y (v : Value) : Prop := K (f.put o.dst v) h
  match o.op with
  | .move x => vev f x y
  | .assign x => vev f x y
  | .pick c a b => vev f c fun t => vev f a fun u => vev f b fun v => match t with
    | .bool t => y (if t then u else v)
    | _ => False
  | .alloc t => match zcells P t with
    | some cs => vcNew h fun b => K (f.put o.dst (.pointer (some ⟨b, 0, none⟩))) (h.new b ⟨cs, cs.length⟩)
    | none => False
  | .box t x => vev f x fun v => vcNew h fun b => K (f.put o.dst (.pointer (some ⟨b, 0, none⟩))) (h.new b ⟨v.cells.toList, v.cells.size⟩)
  | .load t x => vev f x fun v => match v with
    | .pointer (some a) => vload P w0 h t a y
    | _ => False
  | .store t x v => vev f x fun p => vev f v fun u => match p with
    | .pointer (some a) => vstore P w0 h t a u fun h' => K (f.put o.dst undef) h'
    | _ => False
  | .nilCheck x => vev f x fun v => Yld P (nilS v) y
  | .binOp op t a b _ => vev f a fun u => vev f b fun v => Yld P (binS op t a b u v) y
  | .unOp op _ x => vev f x fun v => Yld P (Op.unary op v) y
  | .convert s d x => vev f x fun v => vcIf (isSliceB P d) (Does P w0 h (convert s d v) (fun r h' => K (f.put o.dst r) h')) (vcIf (isSliceB P s) (vtext P w0 h s d v y) (Yld P (convert s d v) y))
  | .makeInterface t x => vev f x fun v => Yld P (Instr.makeInterface t v) y
  | .makeFunc fn first cap => vevs f first fun u => vevs f cap fun v => y (.func fn u.toArray v.toArray)
  | .slice t x lo hi mx => vev f x fun v => vop f lo fun lo => vop f hi fun hi => vop f mx fun mx => Yld P (Instr.sliceAt t v lo hi mx) y
  | .fieldAddr s x i => vev f x fun v => Yld P (Instr.fieldAt s v i) y
  | .field t x i => vev f x fun v => Yld P (Instr.field t v i) y
  | .indexAddr t x i => vev f x fun v => vev f i fun j => Yld P (Instr.indexAt t v j) y
  | .index t x i => vev f x fun v => vev f i fun j => Yld P (Instr.index t v j) y
  | .extract x i => vev f x fun v => match v with
    | .tuple vs => (match vs[i]? with
      | some u => y u
      | none => False)
    | _ => False
  | .typeAssert x t u ok => vev f x fun v => Yld P (Instr.typeAssert v t u ok) y
  | .build t parts => vevs f (parts.map (·.2)) fun vs => Yld P (Instr.build t ((parts.toList.map (·.1)).zip vs).toArray) y
  | .buildSlice t n parts => vevs f (parts.map (·.2)) fun vs => Does P w0 h (Instr.buildSlice t n ((parts.toList.map (·.1)).zip vs).toArray) fun r h' => K (f.put o.dst r) h'
  | .makeSlice t l c => vev f l fun u => vev f c fun v => Does P w0 h (Instr.makeSlice t u v) fun r h' => K (f.put o.dst r) h'
  | .call c => vcCall P w0 f h c o.type fun r h' => K (f.put o.dst r) h'
  | .makeMap t none => Does P w0 h (Instr.makeMap t none) fun r h' => K (f.put o.dst r) h'
  | .lookup t x i ok => vev f x fun u => vev f i fun v => Rds P w0 h (Instr.lookup t u v ok) y
  | .mapUpdate t x i e => vev f x fun u => vev f i fun v => vev f e fun r => Does P w0 h (updateK t u v r) fun _ h' => K (f.put o.dst undef) h'
  | _ => False

section
variable {P : Program} {w0 : World} {h : PH} {f : Fr}
theorem oget_some (v : Value) (k : Value → Prop) : oget (some v) k = k v := rfl
theorem ogetL_some (v : List Value) (k : List Value → Prop) : ogetL (some v) k = k v := rfl
theorem vev_tmp (t : Tmp) (k : Value → Prop) : vev f (.tmp t) k = oget (f t) k := rfl
theorem vev_global (g : Nat) (k : Value → Prop) : vev f (.global g) k = k (.pointer (some ⟨g, 0, none⟩)) := rfl
theorem vev_func (g : Nat) (k : Value → Prop) : vev f (.func g) k = k (.func (.func g) #[] #[]) := rfl
theorem vevs_nil (k : List Value → Prop) : vevs f #[] k = k [] := rfl
theorem vevs_cons (x : Operand) (l : List Operand) (k : List Value → Prop) : vevs f (x :: l).toArray k = vev f x fun u => vevs f l.toArray fun us => k (u :: us) := by
  unfold vevs vev evs
  simp only [List.mapM_cons]
  cases ev f x with
  | none => rfl
  | some u => cases h : List.mapM (ev f) l with
    | none => simp [h, ogetL, oget]
    | some us => simp [h, ogetL, oget]
theorem vevs_1 (a : Operand) (k : List Value → Prop) : vevs f #[a] k = vev f a fun u => k [u] := vevs_cons a [] k
theorem vevs_2 (a b : Operand) (k : List Value → Prop) : vevs f #[a, b] k = vev f a fun u => vev f b fun v => k [u, v] := (vevs_cons a [b] k).trans (congrArg (fun K => vev f a K) (funext fun u => vevs_1 b _))
theorem vevs_3 (a b c : Operand) (k : List Value → Prop) : vevs f #[a, b, c] k = vev f a fun u => vev f b fun v => vev f c fun w => k [u, v, w] := (vevs_cons a [b, c] k).trans (congrArg (fun K => vev f a K) (funext fun u => vevs_2 b c _))
theorem vevs_4 (a b c d : Operand) (k : List Value → Prop) : vevs f #[a, b, c, d] k = vev f a fun u => vev f b fun v => vev f c fun w => vev f d fun x => k [u, v, w, x] := (vevs_cons a [b, c, d] k).trans (congrArg (fun K => vev f a K) (funext fun u => vevs_3 b c d _))
theorem vevs_5 (a b c d e : Operand) (k : List Value → Prop) : vevs f #[a, b, c, d, e] k = vev f a fun u => vev f b fun v => vev f c fun w => vev f d fun x => vev f e fun y => k [u, v, w, x, y] := (vevs_cons a [b, c, d, e] k).trans (congrArg (fun K => vev f a K) (funext fun u => vevs_4 b c d e _))
theorem vevs_6 (a b c d e g : Operand) (k : List Value → Prop) : vevs f #[a, b, c, d, e, g] k = vev f a fun u => vev f b fun v => vev f c fun w => vev f d fun x => vev f e fun y => vev f g fun z => k [u, v, w, x, y, z] := (vevs_cons a [b, c, d, e, g] k).trans (congrArg (fun K => vev f a K) (funext fun u => vevs_5 b c d e g _))
theorem vop_none (k : Option Value → Prop) : vop f none k = k none := rfl
theorem vop_some' (x : Operand) (k : Option Value → Prop) : vop f (some x) k = vev f x fun v => k (some v) := rfl
theorem vload_one {t : TypeId} {a : Addr} {k : Value → Prop} (e : aggB P t = some false) : vload P w0 h t a k = oget (rd w0 h a) k := by unfold vload; rw [e]
theorem vload_agg {t : TypeId} {a : Addr} {k : Value → Prop} {n : Nat} (e : aggB P t = some true) (e2 : szOf P t = some n) : vload P w0 h t a k = ogetL (rdN w0 h a n) fun cs => k (.agg cs.toArray) := by unfold vload; rw [e, e2]
end

/-- An operation that is carried out. -/
def OW (P : Program) (w0 : World) (N : Nat) (o : Oper) (f : Fr) (h : PH) (K : Fr → PH → Prop) : Prop :=
  ∀ a w, FSat f a N → Sim w0 h w → ∀ (Kr : Act → World → Prop) (Qr : Exit → Act → World → Prop), (∀ f' h' a' w', K f' h' → FSat f' a' N → Sim w0 h' w' → Kr a' w') → o.wp P a w Kr Qr

section
variable {P : Program} {w0 : World} {N : Nat} {o : Oper} {f : Fr} {h : PH} {K : Fr → PH → Prop}
theorem vev_some {x : Operand} {k : Value → Prop} (hv : vev f x k) : ∃ v, ev f x = some v ∧ k v := by
  unfold vev oget at hv; split at hv
  · exact ⟨_, ‹_›, hv⟩
  · exact hv.elim
theorem vevs_some {x : Array Operand} {k : List Value → Prop} (hv : vevs f x k) : ∃ v, evs f x = some v ∧ k v := by
  unfold vevs ogetL at hv; split at hv
  · exact ⟨_, ‹_›, hv⟩
  · exact hv.elim
theorem vop_some {x : Option Operand} {k : Option Value → Prop} (hv : vop f x k) : ∃ v, (∀ {a : Act} {N : Nat}, FSat f a N → x.map a.eval = v) ∧ k v := by
  cases x with
  | none => exact ⟨none, fun _ => rfl, hv⟩
  | some x =>
    obtain ⟨v, h1, h2⟩ := vev_some hv
    exact ⟨some v, fun s => by rw [Option.map_some, ev_sound s h1], h2⟩
/-- An operation that yields a value and leaves the world alone. -/
theorem OW_value {v : Value} (hd : dstOk N o.dst = true) (hr : ∀ a w, FSat f a N → Sim w0 h w → (execOp a.eval o).run P w = .ok (.value v) w) (hk : K (f.put o.dst v) h) : OW P w0 N o f h K := by
  intro a w fs s Kr Qr hK
  unfold Oper.wp
  rw [hr a w fs s]
  exact hK _ _ _ _ hk (fs.put hd v) s
theorem OW_does {m : Sem Value} (hd : dstOk N o.dst = true) (hr : ∀ a w, FSat f a N → Sim w0 h w → execOp a.eval o = (do pure (Next.value (← m)))) (hk : Does P w0 h m fun r h' => K (f.put o.dst r) h') : OW P w0 N o f h K := by
  intro a w fs s Kr Qr hK
  unfold Oper.wp
  rw [hr a w fs s]
  obtain ⟨v, w', h', h1, h2, h3⟩ := hk w s
  simp only [Sem.run_bind, h1, Result.andThen_ok, Sem.run_pure]
  exact hK _ _ _ _ h2 (fs.put hd v) h3
theorem OW_calls {g : FuncId} {args : List Value} (hd : dstOk N o.dst = true) (hr : ∀ a w, FSat f a N → Sim w0 h w → (execOp a.eval o).run P w = (callFunc g args.toArray).run P w) (hk : PCalls P w0 g args h fun r h' => K (f.put o.dst r) h') : OW P w0 N o f h K := by
  intro a w fs s Kr Qr hK
  unfold Oper.wp
  rw [hr a w fs s]
  rcases hk w s with ⟨h1, h2⟩ | ⟨v, w', h', h1, h2, h3⟩
  · rw [h1]
    simp only [Oper.upon]
    refine h2.mono ?_
    rintro e w' ⟨v, h', rfl, h2, h3⟩
    exact hK _ _ _ _ h2 (fs.put hd v) h3
  · rw [h1]
    exact hK _ _ _ _ h2 (fs.put hd v) h3
theorem run_callFunc {g : FuncId} (he : entered P g = true) (args : Array Value) (w : World) : (callFunc g args).run P w = .ok (.enter g args) w := by
  unfold entered at he
  cases hf : P.funcs[g]? with
  | none => rw [hf] at he; cases he
  | some fn =>
    rw [hf] at he
    simp only [Bool.and_eq_true, bne_iff_ne, ne_eq] at he
    obtain ⟨h1, h2⟩ := he
    have h3 : fn.body.isNone = false := by cases hb : fn.body <;> simp_all
    simp [callFunc, hf, h1, h3]
    intro hb; simp [hb] at h2

theorem run_loadVar_agg {w : World} (t : TypeId) (a : Addr) (n : Nat) (cs : List Value) (ha : aggB P t = some true) (hs : szOf P t = some n) (hl : cs.length = n) (hc : ∀ j v, cs[j]? = some v → w.cell? (a.add j) = some v) : (loadVar t a).run P w = .ok (.agg cs.toArray) w := by
  obtain ⟨d, hd, hd'⟩ := Option.map_eq_some_iff.1 ha
  obtain ⟨i, hi, hi'⟩ := Option.map_eq_some_iff.1 hs
  have h1 := run_loadCells_list (P := P) w a cs hc
  rw [hl] at h1
  have h2 : (isAgg t).run P w = .ok true w := by
    simp only [isAgg, Sem.run_bind, run_underlying hd, Result.andThen_ok]
    cases d <;> simp_all
  simp [loadVar, h2, sizeOf, typeInfo, hi, hi', h1]
theorem run_loadVar_one {w : World} (t : TypeId) (a : Addr) (v : Value) (ha : aggB P t = some false) (hc : w.cell? a = some v) : (loadVar t a).run P w = .ok v w := by
  obtain ⟨d, hd, hd'⟩ := Option.map_eq_some_iff.1 ha
  have h2 : (isAgg t).run P w = .ok false w := by
    simp only [isAgg, Sem.run_bind, run_underlying hd, Result.andThen_ok]
    cases d <;> simp_all
  simp [loadVar, h2, hc]
theorem vload_sound {t : TypeId} {a : Addr} {k : Value → Prop} (hv : vload P w0 h t a k) : ∃ v, k v ∧ ∀ w, Sim w0 h w → (loadVar t a).run P w = .ok v w := by
  unfold vload at hv
  split at hv
  · rename_i ha
    unfold oget at hv
    split at hv
    · rename_i v hr
      exact ⟨v, hv, fun w s => run_loadVar_one t a v ha (rd_sound s hr)⟩
    · exact hv.elim
  · rename_i ha
    split at hv
    · rename_i n hs
      unfold ogetL at hv
      split at hv
      · rename_i cs hr
        refine ⟨_, hv, fun w s => ?_⟩
        obtain ⟨h1, h2⟩ := rdN_sound s hr
        exact run_loadVar_agg t a n cs ha hs h1 h2
      · exact hv.elim
    · exact hv.elim
  · exact hv.elim
theorem setCells_heap_any {b : Nat} {t : TypeId} {fz : Nat × Nat} (vs : List Value) : ∀ (o : Nat) {cs : List Value} {w : World}, w.heap[b]? = some (.cells cs.toArray t fz) → o + vs.length ≤ cs.length → (w.setCells b o vs).heap[b]? = some (.cells (cs.take o ++ vs ++ cs.drop (o + vs.length)).toArray t fz) := by
  induction vs with
  | nil => intro o cs w h _; simpa [World.setCells] using h
  | cons v vs ih =>
    intro o cs w h hl
    have h1 : (w.setCell ⟨b, o, none⟩ v).heap[b]? = some (.cells (cs.set o v).toArray t fz) := by
      simp [World.setCell, Array.getElem?_modify, h]
    have h2 := ih (o + 1) h1 (by simp at hl ⊢; omega)
    have e : (cs.set o v).take (o + 1) ++ vs ++ (cs.set o v).drop (o + 1 + vs.length) = cs.take o ++ (v :: vs) ++ cs.drop (o + (v :: vs).length) := by
      have ho : o < cs.length := by simp at hl; omega
      rw [List.drop_set_of_lt (by omega), List.take_add_one, List.getElem?_set_self (by omega), List.take_set_of_le (by omega)]
      simp [Nat.add_assoc, Nat.add_comm 1]
    rw [e] at h2
    exact h2
theorem grownBy_setCells (b : Nat) (vs : List Value) : ∀ (o : Nat) (w : World), w.grownBy (w.setCells b o vs) (some b) := by
  induction vs with
  | nil => intro o w; simpa [World.setCells] using World.grownBy.refl w _
  | cons v vs ih =>
    intro o w
    have h1 := ih (o + 1) (w.setCell ⟨b, o, none⟩ v)
    have hs : (w.setCell ⟨b, o, none⟩ v).heap.size = w.heap.size := by simp [World.setCell]
    refine ⟨h1.os, h1.tape, h1.output, by rw [← hs]; exact h1.size, fun k hk hne => (h1.block k (by rw [hs]; exact hk) hne).trans (Below.heap_setCell _ _ _ _ (by intro e; exact hne (by rw [e])))⟩
/-- Cells stored into a known block. -/
theorem Sim.store {w : World} (s : Sim w0 h w) {b o : Nat} {k : Bk} (vs : List Value) (hb : h.m b = some k) (hl : o + vs.length ≤ k.xs.length) :
    w.there b o vs.length ∧ Sim w0 (h.new b (k.as (k.xs.take o ++ vs ++ k.xs.drop (o + vs.length)))) (w.setCells b o vs) := by
  obtain ⟨h1, hs0⟩ := s.sat b k hb
  cases hmp : k.mp.o with
  | some ob =>
    have hx : k.xs = [] := by unfold BSat at hs0; rw [hmp] at hs0; exact hs0.1
    rw [hx] at hl
    have hl' : o + vs.length ≤ 0 := hl
    have hv : vs = [] := List.eq_nil_of_length_eq_zero (by omega)
    have ho : o = 0 := by omega
    subst hv; subst ho
    refine ⟨fun j hj => by simp at hj, ?_⟩
    have e1 : k.as (k.xs.take 0 ++ [] ++ k.xs.drop (0 + ([] : List Value).length)) = k := by rw [hx]; cases k; subst hx; rfl
    rw [e1]
    have s2 := s.put h1 hs0
    simpa [World.setCells] using s2
  | none =>
  have hs1 : BCells w b k := by unfold BSat at hs0; rw [hmp] at hs0; exact hs0
  obtain ⟨cur, t, lo, hi, hc, g1, g2, g3, g4⟩ := hs1
  have hcl : k.xs.length ≤ cur.toList.length := by simp; omega
  have hlt := (Array.getElem?_eq_some_iff.1 hc).1
  constructor
  · intro j hj
    rw [cell_of_row w b (o + j) cur t (lo, hi) hc]
    refine ⟨by simp at hcl ⊢; omega, ?_⟩
    simp [World.frozen?, hc]
    omega
  · have hh := setCells_heap_any (w := w) (b := b) (t := t) (fz := (lo, hi)) (cs := cur.toList) vs o (by simpa using hc) (by omega)
    have hg := grownBy_setCells b vs o w
    have s1 : Sim w0 (h.del b) (w.setCells b o vs) := (s.del b).step hg (fun x e => by injection e with e; subst e; exact ⟨h1, by simp [PH.del_m]⟩)
    have s2 := s1.put (b := b) (k := k.as (k.xs.take o ++ vs ++ k.xs.drop (o + vs.length))) h1 (BCells.sat (by show k.mp.o = none; exact hmp) ⟨_, t, lo, hi, hh, by simp only [Bk.as]; simp at hcl ⊢; omega, g2, by simp only [Bk.as]; simp; omega, ?_⟩)
    · refine s2.weak ⟨by simp only [PH.new_top, PH.del_top]; omega, fun x y e => ?_⟩
      rw [PH.new_m] at e ⊢
      by_cases hx : x = b
      · rw [if_pos hx] at e ⊢; exact e
      · rw [if_neg hx] at e ⊢; rw [PH.del_m, if_neg hx]; exact e
    · have e1 : (k.xs.take o ++ vs ++ k.xs.drop (o + vs.length)).length = k.xs.length := by simp; omega
      show List.take (k.xs.take o ++ vs ++ k.xs.drop (o + vs.length)).length _ = k.xs.take o ++ vs ++ k.xs.drop (o + vs.length)
      rw [e1]
      apply List.ext_getElem?
      intro j
      have e2 : ∀ j, j < k.xs.length → k.xs[j]? = cur.toList[j]? := by
        intro j hj
        conv => lhs; rw [← g4]
        rw [List.getElem?_take_of_lt hj]
      rw [List.getElem?_take]
      split
      · rename_i hj
        simp only [List.getElem?_append, List.length_append, List.length_take, List.getElem?_take, List.getElem?_drop]
        have m1 : min o cur.toList.length = o := by omega
        have m2 : min o k.xs.length = o := by omega
        rw [m1, m2]
        split
        · split
          · rw [← e2 j hj]
          · rfl
        · rw [e2 _ (by omega)]
      · rename_i hj
        rw [List.getElem?_eq_none (by rw [e1]; omega)]
theorem run_storeVar_there {w : World} {b o : Nat} (ty : TypeId) (u : Value) (ht : w.there b o u.cells.toList.length) (hi : szOf P ty = some u.cells.size) (h1 : allOne u.cells.toList) :
    (storeVar ty ⟨b, o, none⟩ u).run P w = .ok () (w.setCells b o u.cells.toList) := by
  have ha : u.cells.all (·.oneCell') = true := by
    have := all_oneCell_toArray h1
    simpa using this
  exact run_storeVar_mid (P := P) w b o ty u.cells (by simpa using ht) hi ha
theorem vstore_sound {t : TypeId} {a : Addr} {v : Value} {k : PH → Prop} (hv : vstore P w0 h t a v k) : ∃ h', k h' ∧ ∀ w, Sim w0 h w → ∃ w', (storeVar t a v).run P w = .ok () w' ∧ Sim w0 h' w' := by
  obtain ⟨h1, h2, h3, h4⟩ := hv
  split at h4
  · rename_i bk hb
    obtain ⟨h5, h6⟩ := h4
    obtain ⟨b, o, sp⟩ := a
    simp only at h3 hb h5 h6
    subst h3
    refine ⟨_, h6, fun w s => ?_⟩
    have := s.store v.cells.toList hb (o := o) (by simpa using h5)
    exact ⟨_, run_storeVar_there t v this.1 h1 h2, by simpa using this.2⟩
  · exact h4.elim
end
end Go.Proofs.Ytblikpbaeippaaa.Px

