/- Lemmas on worlds, blocks and rows that every claim of this seat uses: a law that returns true and leaves what was there alone meets its row. No condition. -/
import Derived.Test.YtcjojkhieocehaaDoorRows
import Derived.WalkKit
import Derived.ProofKit
import Derived.OpenShut
import Derived.SizedLaws
import Derived.OpenVars
import Derived.Lib.Hide
import Derived.Deep.Fields
import Derived.Deep.Slices
namespace Go.Proofs.YtcjojkhieocehaaDoor.Base
set_option linter.unusedVariables false
set_option linter.unusedSimpArgs false
open Go.ChangeShapes Go.WideShapes Go.ChangeAt Go.RowKit Go.Deep

theorem own : ownKnob Tryd.prog.godebug = none := by kernel_rfl
theorem laidOut : laidOutB Tryd.prog = true := by kernel_rfl

theorem below_trans {a b c : World} (h : Below a.heap.size a b) (k : Below b.heap.size b c) : Below a.heap.size a c := h.trans (k.mono h.size)
theorem below_step {B : Nat} {a b c : World} (h : Below B a b) (k : Below b.heap.size b c) (hB : B ≤ b.heap.size) : Below B a c := h.trans (k.mono hB)

/-- Block b is just these cells of type t, none of them frozen. -/
def Blk (w : World) (b : Nat) (t : TypeId) (cs : Array Value) : Prop := w.heap[b]? = some (.cells cs t (0, 0))

section
variable {w w' : World} {b : Nat} {t : TypeId} {cs : Array Value}
theorem Blk.lt (h : Blk w b t cs) : b < w.heap.size := (Array.getElem?_eq_some_iff.1 h).1
theorem Blk.cell (h : Blk w b t cs) (i : Nat) : w.cell? ⟨b, i, none⟩ = cs[i]? := cell_of_row w b i cs t (0, 0) h
theorem Blk.frozen (h : Blk w b t cs) (i : Nat) : w.frozen? ⟨b, i, none⟩ = false := by
  unfold Blk at h
  simp [World.frozen?, h]
theorem Blk.new (w : World) (t : TypeId) (cs : Array Value) : Blk (w.alloc (.cells cs t)) w.heap.size t cs := heap_alloc_new w _
theorem Blk.drew (h : Blk w b t cs) : Blk w.drew b t cs := h
theorem Blk.alloc (h : Blk w b t cs) (o : Obj) : Blk (w.alloc o) b t cs := (Below.heap_alloc w o b h.lt).trans h
theorem Blk.set_ (h : Blk w b t cs) (i : Nat) (u : Value) : Blk (w.setCell ⟨b, i, none⟩ u) b t (cs.setIfInBounds i u) := by
  unfold Blk at h ⊢
  simp [World.setCell, Array.getElem?_modify, h]
theorem Blk.far (h : Blk w b t cs) {p : Addr} (hp : b ≠ p.block) (u : Value) : Blk (w.setCell p u) b t cs := (Below.heap_setCell w p u b hp).trans h
theorem Blk.below {B : Nat} (h : Blk w b t cs) (hb : Below B w w') (hlt : b < B) : Blk w' b t cs := (hb.block b hlt).trans h
theorem Blk.on (h : Blk w b t cs) (hb : Below w.heap.size w w') : Blk w' b t cs := h.below hb h.lt
theorem Blk.grown {row : Option Nat} (h : Blk w b t cs) (hb : w.grownBy w' row) (hne : some b ≠ row) : Blk w' b t cs := (hb.block b h.lt hne).trans h
end

/-- The arguments read behind the call as before it. -/
theorem args_keep {H : Type} {enc : TypeId × Value → H} {P : Program} (hl : laidOutB P = true) {W W' : World} (hb : Below W.heap.size W W') :
    ∀ {ts : List TypeId} {vs : List Value} {ds : List (DataW H)} {ps : List MemPlace}, (∀ t ∈ ts, P.readableRec t = true ∧ t < P.types.size) → (∀ x ∈ ps, x.block < W.heap.size) →
      DataW.TrodAll enc P W 0 (fun _ => true) true ts vs ds ps → DataW.TrodAll enc P W' 0 (fun b => decide (b < W.heap.size)) true ts vs ds ps
  | [], _, _, _, _, _, h => by
    obtain ⟨rfl, rfl, rfl⟩ := trodAll_nil h
    exact trodAll_mk0
  | t :: ts, _, _, _, hts, hlt, h => by
    obtain ⟨v, vs', d, ds', p, p', rfl, rfl, rfl, h0, h1⟩ := trodAll_cons h
    have ht := hts t List.mem_cons_self
    exact trodAll_cons_mk (Below.trod hl ht.1 ht.2 h0 hb fun x hx => hlt x (List.mem_append_left _ hx))
      (args_keep hl hb (fun t' ht' => hts t' (List.mem_cons_of_mem _ ht')) (fun x hx => hlt x (List.mem_append_right _ hx)) h1)

/-- A law that returns true, over a world of which nothing old has turned, meets what its row asks at the end. -/
theorem law_post {H : Type} {enc : TypeId × Value → H} {P : Program} (hl : laidOutB P = true) {fn : Func} {s : ChangeSpec} {W W' : World} {args : Array Value} {ds gs : List (DataW H)} {before : List MemPlace} {tb : TypeId}
    (hW : DataW.Whole enc P fn.params.toList s.vars false W args.toList ds gs before)
    (hres : (s.fn H (ds ++ gs)).results = [.lit (.bool true)]) (hargs : (s.fn H (ds ++ gs)).args = ds) (hvars : (s.fn H (ds ++ gs)).vars = gs)
    (hrt : fn.resultTypes = #[tb]) (htb : P.underlying tb = some .bool) (hts : ∀ t ∈ fn.params.toList, P.readableRec t = true ∧ t < P.types.size) (hvr : varsRowed P s.vars = true)
    (hb : Below W.heap.size W W') : s.post enc P fn false true false false W args (.bool true) W' := by
  have hW' := hW
  obtain ⟨p, q, hA, hV, rfl, _, _⟩ := hW
  have hlt : ∀ x ∈ p ++ q, x.block < W.heap.size := fun x hx => by simpa using hW'.lt x hx
  refine ⟨ds, gs, p ++ q, [], p, q, hW', ?_, ?_, ?_, hb.frame _, fun h => by cases h⟩
  · rw [hres, hrt]
    exact trodAll_mk1 (shut_bool htb _)
  · rw [hargs]
    exact args_keep hl hb hts (fun x hx => hlt x (List.mem_append_left _ hx)) hA
  · rw [hvars]
    exact Below.trodVars hl hb hvr hV

theorem ret_bool {a b : Bool} (h : a = b) : Ending.returned (.bool a) = .returned (.bool b) := by rw [h]
theorem ret_int {k : IntKind} {a b : Int} (h : a = b) : Ending.returned (.int k a) = .returned (.int k b) := by rw [h]
theorem ret_str {a b : ByteArray} (h : a = b) : Ending.returned (.string a) = .returned (.string b) := by rw [h]
/-- The bounds of a 64-bit number. -/
theorem i64_bounds {n : Int} (h : (Lit.int .i64 n).wf = true) : -9223372036854775808 ≤ n ∧ n ≤ 9223372036854775807 := by
  simpa [Lit.wf, IntKind.min, IntKind.max, IntKind.signed, IntKind.bits] using h
theorem u8_bounds {n : Int} (h : (Lit.int .u8 n).wf = true) : 0 ≤ n ∧ n ≤ 255 := by
  simpa [Lit.wf, IntKind.min, IntKind.max, IntKind.signed, IntKind.bits] using h
theorem u16_bounds {n : Int} (h : (Lit.int .u16 n).wf = true) : 0 ≤ n ∧ n ≤ 65535 := by
  simpa [Lit.wf, IntKind.min, IntKind.max, IntKind.signed, IntKind.bits] using h

/-- A struct by value whose fields are all one cell: its cells, and each field's own reading. -/
theorem open_struct {H : Type} {enc : TypeId × Value → H} {P : Program} {w : World} {base b0 : Nat} {spare : Nat → Bool} {held : Bool} {r : Reach} {t : TypeId} {fs : Array Field} {v : Value} {d : DataW H} {p : List MemPlace}
    (ht : P.underlying t = some (.struct fs)) (hone : oneCellFields P fs = true) (hC : P.cellsOf t = fs.size) (hv : Value.okWide P w r b0 t v) (h : DataW.Trod enc P w base spare held t v d p) :
    ∃ (l : List Value) (n : Nat), v = .agg l.toArray ∧ l.length = fs.size ∧ ∀ (i : Nat) (f : Field), fs[i]? = some f → ∃ u y, l[i]? = some u ∧ DataW.trod enc P w base spare held n f.type [u] = some y := by
  obtain ⟨⟨l⟩, rfl, hsz⟩ := okWide_struct ht hv
  obtain ⟨fuel, hf⟩ := h
  obtain ⟨xs, n, _, _, hlen, hxl, hat⟩ := DataW.trod_struct ht hf
  have hsz' : l.length = fs.size := by simpa using hsz.trans hC
  refine ⟨l, n, rfl, hsz', fun i f hi => ?_⟩
  obtain ⟨ho, hk⟩ := hone_of hone i f hi
  have hil : i < fs.size := (Array.getElem?_eq_some_iff.1 hi).1
  have h1 := hat i f hi
  rw [ho, hk] at h1
  have hl : (Value.agg l.toArray).cells.toList = l := by simp [Value.cells]
  rw [hl, List.drop_eq_getElem_cons (by omega)] at h1
  refine ⟨l[i]'(by omega), xs[i]'(by omega), List.getElem?_eq_getElem _, ?_⟩
  rw [List.getElem?_eq_getElem (by omega)] at h1
  exact h1

/-- A slice at A of n elements reads as these cells ('size' cells an element), which lie below block B. -/
def Rd (w : World) (B size : Nat) (A : Option Addr) (n : Nat) (xs : List Value) : Prop :=
  xs.length = n * size ∧ (0 < n → ∃ b o, A = some ⟨b, o, none⟩ ∧ b < B ∧ ∀ j u, xs[j]? = some u → w.cell? ⟨b, o + j, none⟩ = some u)

section
variable {w w' : World} {B B' size n : Nat} {A : Option Addr} {xs : List Value}
theorem Rd.none_ (w : World) (B size : Nat) (A : Option Addr) : Rd w B size A 0 [] := ⟨by simp, fun h => absurd h (by omega)⟩
theorem Rd.keep (h : Rd w B size A n xs) (hk : ∀ p : Addr, p.block < B → w'.cell? p = w.cell? p) : Rd w' B size A n xs :=
  ⟨h.1, fun hn => by
    obtain ⟨b, o, e, hb, hc⟩ := h.2 hn
    exact ⟨b, o, e, hb, fun j u hu => (hk _ hb).trans (hc j u hu)⟩⟩
theorem Rd.on (h : Rd w B size A n xs) (hb : Below B w w') : Rd w' B size A n xs := h.keep fun _ hp => hb.cell hp
theorem Rd.more (h : Rd w B size A n xs) (hB : B ≤ B') : Rd w B' size A n xs :=
  ⟨h.1, fun hn => by
    obtain ⟨b, o, e, hb, hc⟩ := h.2 hn
    exact ⟨b, o, e, by omega, hc⟩⟩
theorem Rd.next (h : Rd w w.heap.size size A n xs) (hb : Below w.heap.size w w') : Rd w' w'.heap.size size A n xs := (h.on hb).more hb.size
theorem Rd.drew (h : Rd w B size A n xs) : Rd w.drew B size A n xs := h
theorem Rd.alloc (h : Rd w B size A n xs) (hB : B ≤ w.heap.size) (o : Obj) : Rd (w.alloc o) B size A n xs := h.keep fun p hp => World.cell?_alloc_lt w o p (by omega)
theorem Rd.of_own {base : Nat} {e : TypeId} {v : Value} {c : Nat} (hv : v = .slice A n c) (h : w.ownsRow base e size v n xs) : Rd w w.heap.size size A n xs := by
  refine ⟨h.1, fun hn => ?_⟩
  rcases h.2 with ⟨_, h0⟩ | ⟨g, cap, cur, rfl, hb, hg, _⟩
  · omega
  · injection hv with hA
    subst hA
    refine ⟨g, 0, rfl, (Array.getElem?_eq_some_iff.1 hg).1, fun j u hu => ?_⟩
    have := h.cells (g := g) rfl j u hu
    rw [Addr.add_lit] at this
    simpa using this
end

/-- The shape of what a call owns. -/
theorem own_shape {w : World} {base : Nat} {e : TypeId} {size n : Nat} {v : Value} {xs : List Value} (h : w.ownsRow base e size v n xs) : ∃ A c, v = .slice A n c ∧ Rd w w.heap.size size A n xs := by
  rcases h.2 with ⟨hv, h0⟩ | ⟨g, cap, cur, hv, _⟩
  · exact ⟨none, 0, by rw [hv, h0], Rd.of_own (c := 0) (by rw [hv, h0]) h⟩
  · exact ⟨_, _, hv, Rd.of_own hv h⟩

/-- A slice type t over elements e: their zero value, their cells, their bytes. -/
structure Elem (P : Program) (t e : TypeId) (z : Value) (size bytes : Nat) : Prop where
  under : P.underlying t = some (.slice e)
  info : ∃ i, P.info? e = some i ∧ i.zero = some z ∧ i.size = size ∧ i.bytes = bytes
  zero : z.cells.size = size
  pos : 0 < size

/-- Cells in a block of their own read as a slice. -/
theorem Rd.blk {w : World} {b : Nat} {t : TypeId} {l : List Value} {size m : Nat} (h : Blk w b t l.toArray) (hm : l.length = m * size) : Rd w w.heap.size size (some ⟨b, 0, none⟩) m l :=
  ⟨hm, fun _ => ⟨b, 0, rfl, h.lt, fun j u hu => by rw [h.cell, Nat.zero_add]; simpa using hu⟩⟩

theorem Rd.new (w : World) (t : TypeId) (l : List Value) {b size m : Nat} (hb : b = w.heap.size) (hm : l.length = m * size) : Rd (w.alloc (.cells l.toArray t)) (w.alloc (.cells l.toArray t)).heap.size size (some ⟨b, 0, none⟩) m l := by
  subst hb
  exact Rd.blk (Blk.new _ _ _) hm

/-- 'x[k:]' of a slice whose elements are one cell. -/
theorem Rd.cut1 {w : World} {B b o m k c : Nat} {xs : List Value} (h : Rd w B 1 (some ⟨b, o, none⟩) m xs) (hk : k ≤ m) (hc : m ≤ c) :
    Rd w B 1 (if c = k then some ⟨b, o, none⟩ else some ⟨b, o + k, none⟩) (m - k) (xs.drop k) := by
  refine ⟨by rw [List.length_drop, h.1]; omega, fun hn => ?_⟩
  obtain ⟨b', o', e, hb, hcell⟩ := h.2 (by omega)
  injection e with e
  injection e with e1 e2
  subst e1 e2
  rw [if_neg (by omega)]
  refine ⟨b, o + k, rfl, hb, fun j u hu => ?_⟩
  rw [Nat.add_assoc]
  exact hcell _ u (by rw [← hu, List.getElem?_drop])

/-- A slice's length. -/
def lenOf : Value → Nat
  | .slice _ n _ => n
  | _ => 0

section
variable {P : Program} {w : World}
theorem run_app {base : Nat} {t ty e : TypeId} {z : Value} {size bytes : Nat} (hE : Elem P t e z size bytes)
    {v : Value} {n : Nat} {xs : List Value} (hown : w.ownsRow base e size v n xs) {A : Option Addr} {m c : Nat} {news : List Value} (hr : Rd w w.heap.size size A m news) (h1 : ∀ u ∈ news, u.oneCell' = true)
    (hb : (n + m) * bytes ≤ 140737488355328) (hsz : n + m ≤ maxLen) (hbase : base ≤ w.heap.size) :
    ∃ v' w', (Builtin.append_ #[t, t] ty #[v, .slice A m c]).run P w = .ok v' w' ∧ w'.ownsRow base e size v' (n + m) (xs ++ news) ∧ w.grownBy w' v.ownBlock := by
  obtain ⟨i, hi, hz, hs, hby⟩ := hE.info
  rcases Nat.eq_zero_or_pos m with h0 | h0
  · subst h0
    have hn : news = [] := List.eq_nil_of_length_eq_zero (by simpa using hr.1)
    subst hn
    rcases A with _ | a
    · refine ⟨v, w, ?_, by simpa using hown, World.grownBy.refl w _⟩
      rcases hown.2 with ⟨rfl, rfl⟩ | ⟨g, cap, cur, rfl, _, _, hnc, _⟩
      · simp [Builtin.append_, run_underlying hE.under, sizeOf, typeInfo, hi, Builtin.lenOf, Builtin.firstCells]
      · simp [Builtin.append_, run_underlying hE.under, sizeOf, typeInfo, hi, Builtin.lenOf, Builtin.firstCells, hnc, storeCells]
    · obtain ⟨v', w', hr', h2, h3, _⟩ := run_append_own (P := P) w base t ty e i z size bytes hE.under hi hz hs hby hE.zero hE.pos v n xs hown a 0 c [] (by simp) (by simp) (by simp) hsz hb hbase
      exact ⟨v', w', hr', h2, h3⟩
  · obtain ⟨b, o, rfl, _, hc⟩ := hr.2 h0
    obtain ⟨v', w', hr', h2, h3, _⟩ := run_append_own (P := P) w base t ty e i z size bytes hE.under hi hz hs hby hE.zero hE.pos v n xs hown ⟨b, o, none⟩ m c news hr.1 (fun j u hu => by rw [Addr.add_lit]; exact hc j u hu) h1 hsz hb hbase
    exact ⟨v', w', hr', h2, h3⟩

/-- append onto a row of the call's own, whatever is appended. -/
theorem wpList_app {ops : Array Oper} {rest : List Oper} {o : Oper} {a : Act} {Q : Exit → Act → World → Prop} {base : Nat} {t e : TypeId} {z : Value} {size bytes : Nat} (hE : Elem P t e z size bytes)
    (hgd : o.guard = none) (s x : Operand) (ho : o.op = .call { callee := .builtin .append, args := #[s, x], argTypes := #[t, t] })
    {v : Value} {n : Nat} {xs : List Value} (hs : a.eval s = v) (hown : w.ownsRow base e size v n xs) {A : Option Addr} {m c : Nat} {news : List Value} (hx : a.eval x = .slice A m c) (hr : Rd w w.heap.size size A m news)
    (h1 : ∀ u ∈ news, u.oneCell' = true) (hb : (n + m) * bytes ≤ 140737488355328) (hsz : n + m ≤ maxLen) (hbase : base ≤ w.heap.size)
    (h : ∀ v' w', w'.ownsRow base e size v' (n + m) (xs ++ news) → w.grownBy w' v.ownBlock → (∀ B W0, Below B W0 w → B ≤ base → Below B W0 w') → wpList P ops Q rest (a.put o.dst v') w') : wpList P ops Q (o :: rest) a w := by
  refine wpList_plain hgd fun K hK => ?_
  obtain ⟨v', w', hr', h2, h3⟩ := run_app (ty := o.type) hE hown hr h1 hb hsz hbase (c := c)
  unfold Oper.wp execOp
  simp only [ho, resolve, invoke, builtin, Sem.run_bind, Sem.run_pure, Result.andThen_ok, List.map_toArray, List.map_cons, List.map_nil, hs, hx, hr']
  exact hK _ _ (h v' w' h2 h3 fun B W0 hB hle => hB.grown h3 (by omega) fun k hk => by have := (hown.lt k hk).1; omega)
end

theorem cell_on {w w' : World} {B : Nat} {p : Addr} {v : Value} (h : w.cell? p = some v) (hb : Below B w w') (hp : p.block < B) : w'.cell? p = some v := (hb.cell hp).trans h

/-- The same in a region that draws its order. -/
theorem step_app {P : Program} {w : World} {ops : Array Oper} {o : Oper} {a : Act} {K : Act → World → Prop} {Q : Exit → Act → World → Prop} {E : Prop} {base : Nat} {t e : TypeId} {z : Value} {size bytes : Nat} (hE : Elem P t e z size bytes)
    (hgd : o.guard = none) (s x : Operand) (ho : o.op = .call { callee := .builtin .append, args := #[s, x], argTypes := #[t, t] })
    {v : Value} {n : Nat} {xs : List Value} (hs : a.eval s = v) (hown : w.ownsRow base e size v n xs) {A : Option Addr} {m c : Nat} {news : List Value} (hx : a.eval x = .slice A m c) (hr : Rd w w.heap.size size A m news)
    (h1 : ∀ u ∈ news, u.oneCell' = true) (hb : (n + m) * bytes ≤ 140737488355328) (hsz : n + m ≤ maxLen) (hbase : base ≤ w.heap.size)
    (h : ∀ v' w', w'.ownsRow base e size v' (n + m) (xs ++ news) → w.grownBy w' v.ownBlock → (∀ B W0, Below B W0 w → B ≤ base → Below B W0 w') → K (a.put o.dst v') w') :
    if Region.wanted o (yielded ops a.tmps) = true then Oper.wp P o a w K Q else E := by
  have hw : Region.wanted o (yielded ops a.tmps) = true := by simp [Region.wanted, hgd]
  rw [if_pos hw]
  obtain ⟨v', w', hr', h2, h3⟩ := run_app (ty := o.type) hE hown hr h1 hb hsz hbase (c := c)
  unfold Oper.wp execOp
  simp only [ho, resolve, invoke, builtin, Sem.run_bind, Sem.run_pure, Result.andThen_ok, List.map_toArray, List.map_cons, List.map_nil, hs, hx, hr']
  exact h v' w' h2 h3 fun B W0 hB hle => hB.grown h3 (by omega) fun k hk => by have := (hown.lt k hk).1; omega

theorem own_shape2 {w : World} {base : Nat} {e : TypeId} {size n : Nat} {v : Value} {xs : List Value} (h : w.ownsRow base e size v n xs) : ∃ A c, v = .slice A n c ∧ n ≤ c ∧ c ≤ maxLen ∧ Rd w w.heap.size size A n xs := by
  rcases h.2 with ⟨hv, h0⟩ | ⟨g, cap, cur, hv, _, _, hnc, hc, _⟩
  · exact ⟨none, 0, by rw [hv, h0], by omega, by simp, Rd.of_own (c := 0) (by rw [hv, h0]) h⟩
  · exact ⟨_, _, hv, hnc, hc, Rd.of_own hv h⟩

/-- What is owned stays owned where nothing old turns. -/
theorem own_on {w w' : World} {base : Nat} {e : TypeId} {size n : Nat} {v : Value} {xs : List Value} (h : w.ownsRow base e size v n xs) (hb : Below w.heap.size w w') : w'.ownsRow base e size v n xs := by
  refine ⟨h.1, ?_⟩
  rcases h.2 with hn | ⟨g, cap, cur, hv, hg, hh, rest⟩
  · exact Or.inl hn
  · exact Or.inr ⟨g, cap, cur, hv, hg, (hb.block g (Array.getElem?_eq_some_iff.1 hh).1).trans hh, rest⟩

theorem ints_one (k : IntKind) (zs : List Int) : ∀ u ∈ zs.map (Value.int k), u.oneCell' = true := ints_oneCell k zs

section
variable {H : Type} {enc : TypeId × Value → H} {P : Program} {W : World} {b0 : Nat} {r : Reach} {t e : TypeId} {v : Value} {d : DataW H} {p : List MemPlace}

/-- An argument that is a slice: its cells, and each element's own reading. -/
theorem open_rd (ht : P.underlying t = some (.slice e)) (hC : 0 < P.cellsOf e) (hval : Value.okWide P W r b0 t v) (h : DataW.Trod enc P W 0 (fun _ => true) true t v d p) :
    ∃ (A : Option Addr) (n c : Nat) (xs : List Value), v = .slice A n c ∧ n ≤ c ∧ c ≤ maxLen ∧ Rd W W.heap.size (P.cellsOf e) A n xs ∧ (c = 0 ∨ ∃ el sp, d = .slice el sp ∧ el.length + sp.length = c) ∧
      ∀ i, i < n → ∃ f y, DataW.trod enc P W 0 (fun _ => true) true f e ((xs.drop (i * P.cellsOf e)).take (P.cellsOf e)) = some y := by
  obtain ⟨a0, n0, c0, rfl⟩ := okWide_slice ht hval
  obtain ⟨fuel, hf⟩ := h
  rcases open_slice ht hf with ⟨hcs, _⟩ | ⟨a, n, c, m, k, D, Pl, hcs, _, hl, hm, hmm, hx, hi⟩
  · simp [Value.cells] at hcs
    obtain ⟨rfl, rfl, rfl⟩ := hcs
    exact ⟨none, 0, 0, [], rfl, by omega, by simp, Rd.none_ _ _ _ _, Or.inl rfl, fun i hi => absurd hi (by omega)⟩
  · simp [Value.cells] at hcs
    obtain ⟨rfl, rfl, rfl⟩ := hcs
    simp only [if_true] at hmm
    subst hmm
    have hcell : ∀ j, j < m * P.cellsOf e → ∃ u, W.cell? (a.add j) = some u := by
      intro j hj
      obtain ⟨cs', hc', _⟩ := hi (j / P.cellsOf e) (Nat.div_lt_of_lt_mul (by rw [Nat.mul_comm]; exact hj))
      obtain ⟨_, hlen, hat⟩ := World.cells?_some hc'
      have hr := Nat.mod_lt j hC
      have := hat (j % P.cellsOf e) hr
      rw [add_add, Nat.mul_comm, Nat.div_add_mod] at this
      exact ⟨cs'[j % P.cellsOf e]'(by omega), by rw [this]; exact List.getElem?_eq_getElem _⟩
    have hget : ∀ j u, ((List.range (n0 * P.cellsOf e)).map fun j => (W.cell? (a.add j)).getD undef)[j]? = some u → W.cell? (a.add j) = some u := by
      intro j u hu
      have hj : j < n0 * P.cellsOf e := by have := (List.getElem?_eq_some_iff.1 hu).1; simpa using this
      obtain ⟨u', hu'⟩ := hcell j (Nat.lt_of_lt_of_le hj (Nat.mul_le_mul_right _ hl))
      simp [hj, hu'] at hu
      rw [hu', hu]
    refine ⟨some a, n0, m, (List.range (n0 * P.cellsOf e)).map fun j => (W.cell? (a.add j)).getD undef, rfl, hl, hm, ⟨by simp, fun hn => ?_⟩, Or.inr ⟨_, _, (Prod.mk.inj hx).1, by simp; omega⟩, fun i hin => ?_⟩
    · obtain ⟨u, hu⟩ := hcell 0 (Nat.mul_pos (by omega) hC)
      obtain ⟨b, o, s⟩ := a
      have hs : s = none := by simpa [Addr.add] using World.cell?_spot hu
      subst hs
      refine ⟨b, o, rfl, by simpa [Addr.add] using World.block_lt_of_cell? W _ hu, fun j u hu => ?_⟩
      have := hget j u hu
      rwa [Addr.add_lit] at this
    · obtain ⟨cs', hc', ht'⟩ := hi i (by omega)
      obtain ⟨_, hlen, hat⟩ := World.cells?_some hc'
      refine ⟨k, (D i, Pl i), ?_⟩
      rw [show ((((List.range (n0 * P.cellsOf e)).map fun j => (W.cell? (a.add j)).getD undef).drop (i * P.cellsOf e)).take (P.cellsOf e)) = cs' from ?_]
      · exact ht'
      · have hle : (i + 1) * P.cellsOf e ≤ n0 * P.cellsOf e := Nat.mul_le_mul_right _ hin
        rw [Nat.add_mul, Nat.one_mul] at hle
        apply List.ext_getElem?
        intro q
        by_cases hq : q < P.cellsOf e
        · have h1 := hat q hq
          rw [add_add] at h1
          have h2 : cs'[q]? = some (cs'[q]'(by omega)) := List.getElem?_eq_getElem _
          rw [List.getElem?_take_of_lt hq, List.getElem?_drop, List.getElem?_map, List.getElem?_range (by omega), Option.map_some, h1, h2]
          rfl
        · rw [List.getElem?_eq_none (by simp; omega), List.getElem?_eq_none (by omega)]

/-- Elements that are numbers. -/
theorem rd_ints {xs : List Value} {n : Nat} {k : IntKind} (he : P.underlying e = some (.int k)) (hC : P.cellsOf e = 1) (hl : xs.length = n * P.cellsOf e)
    (hall : ∀ i, i < n → ∃ f y, DataW.trod enc P W 0 (fun _ => true) true f e ((xs.drop (i * P.cellsOf e)).take (P.cellsOf e)) = some y) :
    ∃ zs : List Int, xs = zs.map (Value.int k) ∧ ∀ z ∈ zs, (Lit.int k z).wf = true := by
  rw [hC, Nat.mul_one] at hl
  have hx : ∀ i (h : i < xs.length), ∃ z, xs[i] = .int k z ∧ (Lit.int k z).wf = true := by
    intro i h
    obtain ⟨f, y, hy⟩ := hall i (by omega)
    have h1 : (xs.drop i).take 1 = [xs[i]] := by rw [List.drop_eq_getElem_cons h]; rfl
    rw [hC, Nat.mul_one, h1] at hy
    obtain ⟨z, hz, _, hw⟩ := DataW.trod_int he hy
    exact ⟨z, (List.cons.inj hz).1, hw⟩
  clear hall hl
  induction xs with
  | nil => exact ⟨[], rfl, by simp⟩
  | cons x xs ih =>
    obtain ⟨z, hz, hw⟩ := hx 0 (by simp)
    obtain ⟨zs, hzs, hws⟩ := ih (fun i h => hx (i + 1) (by simpa using h))
    simp at hz
    exact ⟨z :: zs, by rw [hz, hzs]; rfl, by intro y hy; rcases List.mem_cons.1 hy with rfl | hy; exact hw; exact hws y hy⟩

theorem map_of_all {xs : List Value} {k : IntKind} (hx : ∀ i (h : i < xs.length), ∃ z, xs[i] = .int k z ∧ (Lit.int k z).wf = true) : ∃ zs : List Int, xs = zs.map (Value.int k) ∧ ∀ z ∈ zs, (Lit.int k z).wf = true := by
  induction xs with
  | nil => exact ⟨[], rfl, by simp⟩
  | cons x xs ih =>
    obtain ⟨z, hz, hw⟩ := hx 0 (by simp)
    obtain ⟨zs, hzs, hws⟩ := ih (fun i h => hx (i + 1) (by simpa using h))
    simp at hz
    exact ⟨z :: zs, by rw [hz, hzs]; rfl, by intro y hy; rcases List.mem_cons.1 hy with rfl | hy; exact hw; exact hws y hy⟩

/-- Elements that are structs of one-cell fields: each field's own reading. -/
theorem rd_fields {xs : List Value} {n : Nat} {fs : Array Field} (he : P.underlying e = some (.struct fs)) (hone : oneCellFields P fs = true) (hC : P.cellsOf e = fs.size) (hl : xs.length = n * P.cellsOf e)
    (hall : ∀ i, i < n → ∃ f y, DataW.trod enc P W 0 (fun _ => true) true f e ((xs.drop (i * P.cellsOf e)).take (P.cellsOf e)) = some y) :
    ∀ (i q : Nat) (ft : Field), i < n → fs[q]? = some ft → ∃ u f y, xs[i * fs.size + q]? = some u ∧ DataW.trod enc P W 0 (fun _ => true) true f ft.type [u] = some y := by
  intro i q ft hi hq
  obtain ⟨f, y, hy⟩ := hall i hi
  obtain ⟨ys, m, _, _, _, hyl, hat⟩ := DataW.trod_struct he hy
  obtain ⟨ho, hk⟩ := hone_of hone q ft hq
  have hqs : q < fs.size := (Array.getElem?_eq_some_iff.1 hq).1
  have h1 := hat q ft hq
  have hlt : i * fs.size + q < xs.length := by
    rw [hl, hC]
    have : (i + 1) * fs.size ≤ n * fs.size := Nat.mul_le_mul_right _ hi
    rw [Nat.add_mul, Nat.one_mul] at this
    omega
  have h2 : ((((xs.drop (i * P.cellsOf e)).take (P.cellsOf e)).drop ft.offset).take (P.cellsOf ft.type)) = [xs[i * fs.size + q]] := by
    rw [ho, hk, hC]
    apply List.ext_getElem?
    intro j
    cases j with
    | zero => simp [List.getElem?_take, hqs, List.getElem?_eq_getElem hlt]
    | succ j => simp [List.getElem?_take]
  rw [h2, List.getElem?_eq_getElem (by omega)] at h1
  exact ⟨_, m, _, List.getElem?_eq_getElem hlt, h1⟩

/-- Elements that are structs of numbers of one kind. -/
theorem rd_int_fields {xs : List Value} {n : Nat} {fs : Array Field} {k : IntKind} (he : P.underlying e = some (.struct fs)) (hone : oneCellFields P fs = true) (hC : P.cellsOf e = fs.size) (hl : xs.length = n * P.cellsOf e) (h0 : 0 < fs.size)
    (hk : ∀ (q : Nat) (ft : Field), fs[q]? = some ft → P.underlying ft.type = some (.int k))
    (hall : ∀ i, i < n → ∃ f y, DataW.trod enc P W 0 (fun _ => true) true f e ((xs.drop (i * P.cellsOf e)).take (P.cellsOf e)) = some y) : ∃ zs : List Int, xs = zs.map (Value.int k) ∧ ∀ z ∈ zs, (Lit.int k z).wf = true := by
  refine map_of_all fun j hj => ?_
  have hq : j % fs.size < fs.size := Nat.mod_lt _ h0
  have hi : j / fs.size < n := by
    rw [hl, hC] at hj
    exact Nat.div_lt_of_lt_mul (by rw [Nat.mul_comm]; exact hj)
  have hft : fs[j % fs.size]? = some (fs[j % fs.size]'hq) := Array.getElem?_eq_getElem hq
  obtain ⟨u, f, y, hu, hy⟩ := rd_fields he hone hC hl hall _ _ _ hi hft
  obtain ⟨z, hz, _, hw⟩ := DataW.trod_int (hk _ _ hft) hy
  rw [Nat.mul_comm, Nat.div_add_mod, List.getElem?_eq_getElem hj] at hu
  exact ⟨z, by rw [Option.some.inj hu]; exact (List.cons.inj hz).1, hw⟩
end

/-- An element of an array of one-cell numbers. -/
theorem run_index_num {P : Program} (w : World) {t e : TypeId} {n : Nat} {k kk : IntKind} (ht : P.underlying t = some (.array n e)) (he : P.underlying e = some (.int k)) (hs : (P.info? e).map (·.size) = some 1) (cs : List Value) (i : Nat) (v : Value) (hi : i < n) (hv : cs[i]? = some v) :
    (Instr.index t (.agg cs.toArray) (.int kk i)).run P w = .ok v w := by
  obtain ⟨inf, hinf, hsz⟩ := Option.map_eq_some_iff.1 hs
  have h1 : (i : Int) < n := by omega
  simp [Instr.index, asIntOf, run_underlying ht, sizeOf, typeInfo, hinf, hsz, h1, part, isAgg, run_underlying he, hv, Result.andThen]
  intro h
  omega

/-- Of what was there block p alone may have turned. -/
def Only (p : Nat) (w w' : World) : Prop := w.grownBy w' (some p)
section
variable {p : Nat} {w w' w'' : World}
theorem Only.refl (p : Nat) (w : World) : Only p w w := World.grownBy.refl w _
theorem Only.of_below (hb : Below w.heap.size w w') : Only p w w' := ⟨hb.os, hb.tape, hb.output, hb.size, fun k hk _ => hb.block k hk⟩
theorem Only.trans (h : Only p w w') (k : Only p w' w'') : Only p w w'' :=
  ⟨k.os.trans h.os, k.tape.trans h.tape, k.output.trans h.output, Nat.le_trans h.size k.size, fun j hj hne => (k.block j (Nat.lt_of_lt_of_le hj h.size) hne).trans (h.block j hj hne)⟩
theorem Only.setCell (w : World) (p i : Nat) (u : Value) : Only p w (w.setCell ⟨p, i, none⟩ u) :=
  ⟨rfl, rfl, rfl, by simp [World.setCell], fun k _ hk => Below.heap_setCell _ _ _ _ (by intro e; exact hk (by rw [e]))⟩
theorem Only.below {B : Nat} {W0 : World} (h : Only p w w') (hb : Below B W0 w) (hB : B ≤ p) (hs : B ≤ w.heap.size) : Below B W0 w' :=
  hb.grown h hs fun k hk => by injection hk with hk; omega
theorem Blk.only {b : Nat} {t : TypeId} {cs : Array Value} (h : Blk w b t cs) (ho : Only p w w') (hne : b ≠ p) : Blk w' b t cs := h.grown ho (by intro e; injection e with e; exact hne e)
end
end Go.Proofs.YtcjojkhieocehaaDoor.Base
