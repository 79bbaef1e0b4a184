/- A logic of memory as a partial map, for functions that hand plain data on: what a call needs of the world is which blocks hold which cells; all else is forgotten. Every rule is shown of the model's own run. No condition. -/
import Derived.WalkKit
import Derived.ProofKit
import Derived.OpenShut
import Derived.SizedLaws
import Derived.OpenVars
import Derived.Lib.Hide
import Derived.Deep.Fields
import Derived.Deep.Slices
import Derived.Deep.MidRow
import Derived.Laws.ResultCell
import Derived.StillTailTactics
namespace Go.Proofs.YtcjojkhieocehaaDoor.Px
set_option linter.unusedVariables false
set_option linter.unusedSimpArgs false
open Go.RowKit

/-! ### memory -/
/-- A block: its first cells, and how many cells of it may be written. -/
structure Bk where
  xs : List Value
  lim : Nat

/-- Known blocks; all lie below top. -/
structure PH where
  top : Nat
  m : Nat → Option Bk
  lt : ∀ b k, m b = some k → b < top

def BSat (w : World) (b : Nat) (k : Bk) : Prop :=
  ∃ (cur : Array Value) (t : TypeId) (lo hi : Nat), w.heap[b]? = some (.cells cur t (lo, hi)) ∧ k.lim ≤ cur.size ∧ (hi ≤ lo ∨ k.lim ≤ lo) ∧ k.xs.length ≤ k.lim ∧ cur.toList.take k.xs.length = k.xs

structure Sim (w0 : World) (h : PH) (w : World) : Prop where
  below : Below w0.heap.size w0 w
  top : h.top ≤ w.heap.size
  sat : ∀ b k, h.m b = some k → w0.heap.size ≤ b ∧ BSat w b k

def PH.empty (w0 : World) : PH := ⟨w0.heap.size, fun _ => none, fun _ _ h => by cases h⟩
theorem Sim.empty (w0 : World) : Sim w0 (PH.empty w0) w0 := ⟨Below.refl _ _, Nat.le_refl _, fun _ _ h => by cases h⟩

/-- A block put in. -/
def PH.new (h : PH) (b : Nat) (k : Bk) : PH :=
  ⟨max h.top (b + 1), fun x => if x = b then some k else h.m x, fun x y e => by
    by_cases hx : x = b
    · omega
    · rw [if_neg hx] at e
      have := h.lt x y e
      omega⟩
/-- A block put out. -/
def PH.del (h : PH) (b : Nat) : PH :=
  ⟨h.top, fun x => if x = b then none else h.m x, fun x y e => by
    by_cases hx : x = b
    · rw [if_pos hx] at e; cases e
    · rw [if_neg hx] at e; exact h.lt x y e⟩
theorem PH.new_m (h : PH) (b : Nat) (k : Bk) (x : Nat) : (h.new b k).m x = if x = b then some k else h.m x := rfl
theorem PH.new_top (h : PH) (b : Nat) (k : Bk) : (h.new b k).top = max h.top (b + 1) := rfl
theorem PH.del_m (h : PH) (b : Nat) (x : Nat) : (h.del b).m x = if x = b then none else h.m x := rfl
theorem PH.del_top (h : PH) (b : Nat) : (h.del b).top = h.top := rfl

/-- Less is known. -/
structure PH.Le (h h' : PH) : Prop where
  top : h.top ≤ h'.top
  m : ∀ b k, h.m b = some k → h'.m b = some k
theorem PH.Le.refl (h : PH) : PH.Le h h := ⟨Nat.le_refl _, fun _ _ e => e⟩
theorem PH.Le.trans {a b c : PH} (h : PH.Le a b) (k : PH.Le b c) : PH.Le a c := ⟨Nat.le_trans h.top k.top, fun x y e => k.m x y (h.m x y e)⟩
theorem PH.Le.new {h h' : PH} (hl : PH.Le h h') (b : Nat) (k : Bk) (hb : h.top ≤ b) : PH.Le h (h'.new b k) := by
  refine ⟨?_, fun x y e => ?_⟩
  · have := hl.top
    simp only [PH.new_top]; omega
  · have := h.lt x y e
    rw [PH.new_m, if_neg (by omega)]
    exact hl.m x y e
theorem PH.Le.del {h h' : PH} (hl : PH.Le h h') (b : Nat) (hb : h.top ≤ b) : PH.Le h (h'.del b) := by
  refine ⟨hl.top, fun x y e => ?_⟩
  have := h.lt x y e
  rw [PH.del_m, if_neg (by omega)]
  exact hl.m x y e
/-- One block kept of what came. -/
theorem PH.Le.new1 {h h' : PH} {b : Nat} {k : Bk} (hl : PH.Le h h') (hb : h'.m b = some k) : PH.Le (h.new b k) h' := by
  have hb' := h'.lt b k hb
  have ht := hl.top
  refine ⟨by simp only [PH.new_top]; omega, fun x y e => ?_⟩
  rw [PH.new_m] at e
  by_cases hx : x = b
  · subst hx
    rw [if_pos rfl] at e
    rw [← Option.some.inj e]
    exact hb
  · rw [if_neg hx] at e
    exact hl.m x y e

section
variable {w0 w w' : World} {h h' : PH}
theorem Sim.weak (s : Sim w0 h w) (hl : PH.Le h' h) : Sim w0 h' w := ⟨s.below, Nat.le_trans hl.top s.top, fun b k e => s.sat b k (hl.m b k e)⟩
/-- Whatever meets h meets h'. -/
def PH.Sub (w0 : World) (h' h : PH) : Prop := ∀ w, Sim w0 h w → Sim w0 h' w
theorem PH.Le.sub {w0 : World} {h h' : PH} (hl : PH.Le h' h) : PH.Sub w0 h' h := fun _ s => s.weak hl
theorem Sim.drew (s : Sim w0 h w) : Sim w0 h w.drew := ⟨s.below.drew, s.top, s.sat⟩
theorem Sim.base (s : Sim w0 h w) : w0.heap.size ≤ w.heap.size := s.below.size
/-- The world has changed at block b alone, beside what is new. -/
theorem Sim.step {row : Option Nat} (s : Sim w0 h w) (hg : w.grownBy w' row) (hr : ∀ b, row = some b → w0.heap.size ≤ b ∧ h.m b = none) : Sim w0 h w' := by
  refine ⟨s.below.grown hg s.base (fun k e => (hr k e).1), Nat.le_trans s.top hg.size, fun b k e => ?_⟩
  obtain ⟨h1, cur, t, lo, hi, hc, rest⟩ := s.sat b k e
  refine ⟨h1, cur, t, lo, hi, (hg.block b (Nat.lt_of_lt_of_le (h.lt b k e) s.top) ?_).trans hc, rest⟩
  intro e'
  have := (hr b e'.symm).2
  rw [this] at e
  cases e
theorem Sim.put (s : Sim w0 h w) {b : Nat} {k : Bk} (hb : w0.heap.size ≤ b) (hs : BSat w b k) : Sim w0 (h.new b k) w := by
  refine ⟨s.below, ?_, fun x y e => ?_⟩
  · obtain ⟨cur, t, lo, hi, hc, _⟩ := hs
    have h1 := (Array.getElem?_eq_some_iff.1 hc).1
    have h2 := s.top
    simp only [PH.new_top]; omega
  · rw [PH.new_m] at e
    by_cases hx : x = b
    · subst hx
      rw [if_pos rfl] at e
      rw [← Option.some.inj e]
      exact ⟨hb, hs⟩
    · rw [if_neg hx] at e
      exact s.sat x y e
theorem Sim.del (s : Sim w0 h w) (b : Nat) : Sim w0 (h.del b) w := by
  refine ⟨s.below, s.top, fun x y e => ?_⟩
  rw [PH.del_m] at e
  by_cases hx : x = b
  · rw [if_pos hx] at e; cases e
  · rw [if_neg hx] at e; exact s.sat x y e
end

theorem grownBy_alloc (w : World) (o : Obj) (row : Option Nat) : w.grownBy (w.alloc o) row :=
  ⟨rfl, rfl, rfl, by simp, fun k hk _ => heap_alloc_old w o hk⟩
theorem BSat.new (w : World) (t : TypeId) (cs : List Value) : BSat (w.alloc (.cells cs.toArray t)) w.heap.size ⟨cs, cs.length⟩ :=
  ⟨cs.toArray, t, 0, 0, heap_alloc_new w _, by simp, .inl (Nat.le_refl _), Nat.le_refl _, by simp⟩
/-- A new block. -/
theorem Sim.alloc {w0 w : World} {h : PH} (s : Sim w0 h w) (t : TypeId) (cs : List Value) : Sim w0 (h.new w.heap.size ⟨cs, cs.length⟩) (w.alloc (.cells cs.toArray t)) :=
  (s.step (grownBy_alloc w _ none) (fun _ e => by cases e)).put s.base (BSat.new w t cs)

/-- What is read at an address. -/
def rd (w0 : World) (h : PH) (a : Addr) : Option Value :=
  if a.spot = none then
    match h.m a.block with
    | some k => k.xs[a.off]?
    | none => if a.block < w0.heap.size then w0.cell? a else none
  else none
theorem rd_sound {w0 w : World} {h : PH} (s : Sim w0 h w) {a : Addr} {v : Value} (e : rd w0 h a = some v) : w.cell? a = some v := by
  unfold rd at e
  by_cases hs : a.spot = none
  · rw [if_pos hs] at e
    split at e
    · rename_i k hk
      obtain ⟨_, cur, t, lo, hi, hc, h1, h2, h3, h4⟩ := s.sat _ _ hk
      obtain ⟨b, o, sp⟩ := a
      simp only at hs hk hc e
      subst hs
      rw [cell_of_row w b o cur t (lo, hi) hc]
      rw [← h4, List.getElem?_take] at e
      split at e
      · simpa using e
      · cases e
    · split at e
      · rename_i hlt
        rw [s.below.cell hlt]; exact e
      · cases e
  · rw [if_neg hs] at e; cases e
/-- So many cells from an address on. -/
def rdN (w0 : World) (h : PH) (a : Addr) (n : Nat) : Option (List Value) :=
  match h.m a.block with
  | some k => if a.spot = none ∧ a.off + n ≤ k.xs.length then some ((k.xs.drop a.off).take n) else none
  | none => (List.range n).mapM fun j => rd w0 h (a.add j)
theorem mapM_some {α β : Type} {f : α → Option β} : ∀ {l : List α} {r : List β}, l.mapM f = some r → r.length = l.length ∧ ∀ (j : Nat) (x : α), l[j]? = some x → ∃ y, r[j]? = some y ∧ f x = some y
  | [], r, h => by simp at h; subst h; simp
  | x :: l, r, h => by
    rw [List.mapM_cons] at h
    simp only [Option.bind_eq_bind, Option.bind_eq_some_iff, Option.pure_def, Option.some.injEq] at h
    obtain ⟨y, hy, ys, hys, rfl⟩ := h
    obtain ⟨h1, h2⟩ := mapM_some hys
    refine ⟨by simp [h1], fun j z hz => ?_⟩
    cases j with
    | zero => simp at hz; subst hz; exact ⟨y, rfl, hy⟩
    | succ j => simpa using h2 j z (by simpa using hz)
theorem rdN_sound {w0 w : World} {h : PH} (s : Sim w0 h w) {a : Addr} {n : Nat} {cs : List Value} (e : rdN w0 h a n = some cs) : cs.length = n ∧ ∀ j v, cs[j]? = some v → w.cell? (a.add j) = some v := by
  unfold rdN at e
  split at e
  · rename_i k hk
    split at e
    · rename_i hc
      obtain ⟨hs, hl⟩ := hc
      have e := Option.some.inj e
      subst e
      refine ⟨by simp; omega, fun j v hv => ?_⟩
      have hj : j < n := by
        have := (List.getElem?_eq_some_iff.1 hv).1
        simp at this; omega
      obtain ⟨b, o, sp⟩ := a
      simp only at hs hk hl hv ⊢
      subst hs
      rw [Addr.add_mid]
      refine rd_sound s ?_
      unfold rd
      simp only [if_true, hk]
      rw [← hv, List.getElem?_take_of_lt hj, List.getElem?_drop]
    · cases e
  · obtain ⟨h1, h2⟩ := mapM_some e
    refine ⟨by simpa using h1, fun j v hv => ?_⟩
    have hj : j < n := by have := (List.getElem?_eq_some_iff.1 hv).1; simp at h1; omega
    obtain ⟨y, hy, hf⟩ := h2 j j (by rw [List.getElem?_range hj])
    rw [hv] at hy
    rw [Option.some.inj hy]
    exact rd_sound s hf

/-! ### frames -/
abbrev Fr := Nat → Option Value
def Fr.put (f : Fr) (d : Option Tmp) (v : Value) : Fr := match d with
  | some d => fun t => if t = d then some v else f t
  | none => f
def Fr.args (l : List Value) (n : Nat) : Fr := fun t => if t < n then some (l.getD t undef) else none
structure FSat (f : Fr) (a : Act) (N : Nat) : Prop where
  size : a.tmps.size = N
  defers : a.defers = []
  at_ : ∀ t v, f t = some v → a.tmps[t]? = some v
def ev (f : Fr) : Operand → Option Value
  | .tmp t => f t
  | .const v => some v
  | .global g => some (.pointer (some ⟨g, 0, none⟩))
  | .func g => some (.func (.func g) #[] #[])
theorem ev_sound {f : Fr} {a : Act} {N : Nat} (s : FSat f a N) {x : Operand} {v : Value} (e : ev f x = some v) : a.eval x = v := by
  cases x with
  | tmp t =>
    have := s.at_ t v e
    simp [Act.eval, Array.getD_eq_getD_getElem?, this]
  | const u => simpa [ev, Act.eval] using e
  | global g => simpa [ev, Act.eval] using e
  | func g => simpa [ev, Act.eval] using e
/-- All of some operands. -/
def evs (f : Fr) (xs : Array Operand) : Option (List Value) := xs.toList.mapM (ev f)
theorem evs_sound {f : Fr} {a : Act} {N : Nat} (s : FSat f a N) {xs : Array Operand} {vs : List Value} (e : evs f xs = some vs) : xs.map a.eval = vs.toArray := by
  obtain ⟨h1, h2⟩ := mapM_some e
  apply Array.ext'
  simp only [Array.toList_map]
  apply List.ext_getElem?
  intro j
  rw [List.getElem?_map]
  cases hx : xs.toList[j]? with
  | none =>
    simp only [Option.map_none]
    rw [List.getElem?_eq_none]
    have := List.getElem?_eq_none_iff.1 hx
    omega
  | some x =>
    obtain ⟨y, hy, hf⟩ := h2 j x hx
    simp only [Option.map_some, hy, ev_sound s hf]
/-- Which slots an operation may fill. -/
def dstOk (N : Nat) (d : Option Tmp) : Bool := match d with
  | some d => decide (d < N)
  | none => true
theorem FSat.put {f : Fr} {a : Act} {N : Nat} (s : FSat f a N) {d : Option Tmp} (hd : dstOk N d = true) (v : Value) : FSat (f.put d v) (a.put d v) N := by
  cases d with
  | none => exact s
  | some d =>
    have hd' : d < N := by simpa [dstOk] using hd
    refine ⟨by simp [Act.put, s.size], by simp [Act.put, s.defers], fun t u e => ?_⟩
    simp only [Fr.put] at e
    simp only [Act.put]
    by_cases ht : t = d
    · subst ht
      rw [if_pos rfl] at e
      rw [← Option.some.inj e, Array.getElem?_setIfInBounds_self_of_lt (by rw [s.size]; exact hd')]
    · rw [if_neg ht] at e
      rw [Array.getElem?_setIfInBounds_ne (Ne.symm ht)]
      exact s.at_ t u e
theorem FSat.args {args : List Value} {N : Nat} (hn : args.length ≤ N) : FSat (Fr.args args N) { tmps := args.toArray ++ Array.replicate (N - args.toArray.size) undef, defers := [] } N := by
  refine ⟨by simp; omega, rfl, fun t v e => ?_⟩
  unfold Fr.args at e
  by_cases ht : t < N
  · rw [if_pos ht] at e
    have e := Option.some.inj e
    subst e
    rcases Nat.lt_or_ge t args.length with h | h
    · rw [Array.getElem?_append_left (by simpa using h)]
      simp [List.getD, List.getElem?_eq_getElem h]
    · rw [Array.getElem?_append_right (by simpa using h)]
      rw [Array.getElem?_replicate, if_pos (by simp at h ⊢; omega)]
      simp [List.getD, List.getElem?_eq_none h]
  · rw [if_neg ht] at e; cases e
end Go.Proofs.YtcjojkhieocehaaDoor.Px
