/- Parts Base, Par, Pq, Wdo, Jq1, Base2, joined. No condition. -/
import Derived.Test.YtblikpbaeippaaaRows
import Derived.WalkKit
import Derived.ProofKit
import Derived.OpenShut
import Derived.SizedLaws
import Derived.OpenVars
import Derived.Lib.Hide
import Derived.Deep.Fields
import Derived.Deep.Slices
import Derived.Test.YtblikpbaeippaaaM3T
import Derived.Test.YtblikpbaeippaaaM5T
import Derived.Test.YtblikpbaeippaaaM13T
import Derived.Deep.MidRow
import Derived.Laws.ResultCell
namespace Go.Proofs.Ytblikpbaeippaaa.Base
set_option linter.unusedVariables false
set_option linter.unusedSimpArgs false
open Go.ChangeShapes Go.WideShapes Go.ChangeAt Go.RowKit Go.Deep

theorem own : ownKnob Try.prog.godebug = none := by kernel_rfl
theorem laidOut : laidOutB Try.prog = true := by kernel_rfl

def Blk (w : World) (b : Nat) (t : TypeId) (cs : Array Value) : Prop := w.heap[b]? = some (.cells cs t (0, 0))

section
variable {w w' : World} {b : Nat} {t : TypeId} {cs : Array Value}
theorem Blk.lt (h : Blk w b t cs) : b < w.heap.size := (Array.getElem?_eq_some_iff.1 h).1
theorem Blk.cell (h : Blk w b t cs) (i : Nat) : w.cell? ⟨b, i, none⟩ = cs[i]? := cell_of_row w b i cs t (0, 0) h
theorem Blk.frozen (h : Blk w b t cs) (i : Nat) : w.frozen? ⟨b, i, none⟩ = false := by
  unfold Blk at h
  simp [World.frozen?, h]
theorem Blk.new (w : World) (t : TypeId) (cs : Array Value) : Blk (w.alloc (.cells cs t)) w.heap.size t cs := heap_alloc_new w _
theorem Blk.drew (h : Blk w b t cs) : Blk w.drew b t cs := h
theorem Blk.alloc (h : Blk w b t cs) (o : Obj) : Blk (w.alloc o) b t cs := (Below.heap_alloc w o b h.lt).trans h
theorem Blk.set_ (h : Blk w b t cs) (i : Nat) (u : Value) : Blk (w.setCell ⟨b, i, none⟩ u) b t (cs.setIfInBounds i u) := by
  unfold Blk at h ⊢
  simp [World.setCell, Array.getElem?_modify, h]
theorem Blk.below {B : Nat} (h : Blk w b t cs) (hb : Below B w w') (hlt : b < B) : Blk w' b t cs := (hb.block b hlt).trans h
theorem Blk.on (h : Blk w b t cs) (hb : Below w.heap.size w w') : Blk w' b t cs := h.below hb h.lt
theorem Blk.grown {row : Option Nat} (h : Blk w b t cs) (hb : w.grownBy w' row) (hne : some b ≠ row) : Blk w' b t cs := (hb.block b h.lt hne).trans h
end

theorem args_keep {H : Type} {enc : TypeId × Value → H} {P : Program} (hl : laidOutB P = true) {W W' : World} (hb : Below W.heap.size W W') :
    ∀ {ts : List TypeId} {vs : List Value} {ds : List (DataW H)} {ps : List MemPlace}, (∀ t ∈ ts, P.readableRec t = true ∧ t < P.types.size) → (∀ x ∈ ps, x.block < W.heap.size) →
      DataW.TrodAll enc P W 0 (fun _ => true) true ts vs ds ps → DataW.TrodAll enc P W' 0 (fun b => decide (b < W.heap.size)) true ts vs ds ps
  | [], _, _, _, _, _, h => by
    obtain ⟨rfl, rfl, rfl⟩ := trodAll_nil h
    exact trodAll_mk0
  | t :: ts, _, _, _, hts, hlt, h => by
    obtain ⟨v, vs', d, ds', p, p', rfl, rfl, rfl, h0, h1⟩ := trodAll_cons h
    have ht := hts t List.mem_cons_self
    exact trodAll_cons_mk (Below.trod hl ht.1 ht.2 h0 hb fun x hx => hlt x (List.mem_append_left _ hx))
      (args_keep hl hb (fun t' ht' => hts t' (List.mem_cons_of_mem _ ht')) (fun x hx => hlt x (List.mem_append_right _ hx)) h1)

theorem law_post {H : Type} {enc : TypeId × Value → H} {P : Program} (hl : laidOutB P = true) {fn : Func} {s : ChangeSpec} {W W' : World} {args : Array Value} {ds gs : List (DataW H)} {before : List MemPlace} {tb : TypeId}
    (hW : DataW.Whole enc P fn.params.toList s.vars false W args.toList ds gs before)
    (hres : (s.fn H (ds ++ gs)).results = [.lit (.bool true)]) (hargs : (s.fn H (ds ++ gs)).args = ds) (hvars : (s.fn H (ds ++ gs)).vars = gs)
    (hrt : fn.resultTypes = #[tb]) (htb : P.underlying tb = some .bool) (hts : ∀ t ∈ fn.params.toList, P.readableRec t = true ∧ t < P.types.size) (hvr : varsRowed P s.vars = true)
    (hb : Below W.heap.size W W') : s.post enc P fn false true false false W args (.bool true) W' := by
  have hW' := hW
  obtain ⟨p, q, hA, hV, rfl, _, _⟩ := hW
  have hlt : ∀ x ∈ p ++ q, x.block < W.heap.size := fun x hx => by simpa using hW'.lt x hx
  refine ⟨ds, gs, p ++ q, [], p, q, hW', ?_, ?_, ?_, hb.frame _, fun h => by cases h⟩
  · rw [hres, hrt]
    exact trodAll_mk1 (shut_bool htb _)
  · rw [hargs]
    exact args_keep hl hb hts (fun x hx => hlt x (List.mem_append_left _ hx)) hA
  · rw [hvars]
    exact Below.trodVars hl hb hvr hV

theorem u8_bounds {n : Int} (h : (Lit.int .u8 n).wf = true) : 0 ≤ n ∧ n ≤ 255 := by
  simpa [Lit.wf, IntKind.min, IntKind.max, IntKind.signed, IntKind.bits] using h
def Rd (w : World) (B size : Nat) (A : Option Addr) (n : Nat) (xs : List Value) : Prop :=
  xs.length = n * size ∧ (0 < n → ∃ b o, A = some ⟨b, o, none⟩ ∧ b < B ∧ ∀ j u, xs[j]? = some u → w.cell? ⟨b, o + j, none⟩ = some u)

section
variable {w w' : World} {B B' size n : Nat} {A : Option Addr} {xs : List Value}
theorem Rd.none_ (w : World) (B size : Nat) (A : Option Addr) : Rd w B size A 0 [] := ⟨by simp, fun h => absurd h (by omega)⟩
theorem Rd.keep (h : Rd w B size A n xs) (hk : ∀ p : Addr, p.block < B → w'.cell? p = w.cell? p) : Rd w' B size A n xs :=
  ⟨h.1, fun hn => by
    obtain ⟨b, o, e, hb, hc⟩ := h.2 hn
    exact ⟨b, o, e, hb, fun j u hu => (hk _ hb).trans (hc j u hu)⟩⟩
theorem Rd.on (h : Rd w B size A n xs) (hb : Below B w w') : Rd w' B size A n xs := h.keep fun _ hp => hb.cell hp
theorem Rd.more (h : Rd w B size A n xs) (hB : B ≤ B') : Rd w B' size A n xs :=
  ⟨h.1, fun hn => by
    obtain ⟨b, o, e, hb, hc⟩ := h.2 hn
    exact ⟨b, o, e, by omega, hc⟩⟩
theorem Rd.drew (h : Rd w B size A n xs) : Rd w.drew B size A n xs := h
theorem Rd.alloc (h : Rd w B size A n xs) (hB : B ≤ w.heap.size) (o : Obj) : Rd (w.alloc o) B size A n xs := h.keep fun p hp => World.cell?_alloc_lt w o p (by omega)
end

theorem Rd.blk {w : World} {b : Nat} {t : TypeId} {l : List Value} {size m : Nat} (h : Blk w b t l.toArray) (hm : l.length = m * size) : Rd w w.heap.size size (some ⟨b, 0, none⟩) m l :=
  ⟨hm, fun _ => ⟨b, 0, rfl, h.lt, fun j u hu => by rw [h.cell, Nat.zero_add]; simpa using hu⟩⟩

theorem Rd.new (w : World) (t : TypeId) (l : List Value) {b size m : Nat} (hb : b = w.heap.size) (hm : l.length = m * size) : Rd (w.alloc (.cells l.toArray t)) (w.alloc (.cells l.toArray t)).heap.size size (some ⟨b, 0, none⟩) m l := by
  subst hb
  exact Rd.blk (Blk.new _ _ _) hm

def lenOf : Value → Nat
  | .slice _ n _ => n
  | _ => 0

section
variable {P : Program} {w : World}
end

theorem zEn (k : IntKind) (zs : List Int) : ∀ u ∈ zs.map (Value.int k), u.oneCell' = true := ints_oneCell k zs

section
variable {H : Type} {enc : TypeId × Value → H} {P : Program} {W : World} {b0 : Nat} {r : Reach} {t e : TypeId} {v : Value} {d : DataW H} {p : List MemPlace}

theorem open_rd (ht : P.underlying t = some (.slice e)) (hC : 0 < P.cellsOf e) (hval : Value.okWide P W r b0 t v) (h : DataW.Trod enc P W 0 (fun _ => true) true t v d p) :
    ∃ (A : Option Addr) (n c : Nat) (xs : List Value), v = .slice A n c ∧ n ≤ c ∧ c ≤ maxLen ∧ Rd W W.heap.size (P.cellsOf e) A n xs ∧ (c = 0 ∨ ∃ el sp, d = .slice el sp ∧ el.length + sp.length = c) ∧
      ∀ i, i < n → ∃ f y, DataW.trod enc P W 0 (fun _ => true) true f e ((xs.drop (i * P.cellsOf e)).take (P.cellsOf e)) = some y := by
  obtain ⟨a0, n0, c0, rfl⟩ := okWide_slice ht hval
  obtain ⟨fuel, hf⟩ := h
  rcases open_slice ht hf with ⟨hcs, _⟩ | ⟨a, n, c, m, k, D, Pl, hcs, _, hl, hm, hmm, hx, hi⟩
  · simp [Value.cells] at hcs
    obtain ⟨rfl, rfl, rfl⟩ := hcs
    exact ⟨none, 0, 0, [], rfl, by omega, by simp, Rd.none_ _ _ _ _, Or.inl rfl, fun i hi => absurd hi (by omega)⟩
  · simp [Value.cells] at hcs
    obtain ⟨rfl, rfl, rfl⟩ := hcs
    simp only [if_true] at hmm
    subst hmm
    have hcell : ∀ j, j < m * P.cellsOf e → ∃ u, W.cell? (a.add j) = some u := by
      intro j hj
      obtain ⟨cs', hc', _⟩ := hi (j / P.cellsOf e) (Nat.div_lt_of_lt_mul (by rw [Nat.mul_comm]; exact hj))
      obtain ⟨_, hlen, hat⟩ := World.cells?_some hc'
      have hr := Nat.mod_lt j hC
      have := hat (j % P.cellsOf e) hr
      rw [add_add, Nat.mul_comm, Nat.div_add_mod] at this
      exact ⟨cs'[j % P.cellsOf e]'(by omega), by rw [this]; exact List.getElem?_eq_getElem _⟩
    have hget : ∀ j u, ((List.range (n0 * P.cellsOf e)).map fun j => (W.cell? (a.add j)).getD undef)[j]? = some u → W.cell? (a.add j) = some u := by
      intro j u hu
      have hj : j < n0 * P.cellsOf e := by have := (List.getElem?_eq_some_iff.1 hu).1; simpa using this
      obtain ⟨u', hu'⟩ := hcell j (Nat.lt_of_lt_of_le hj (Nat.mul_le_mul_right _ hl))
      simp [hj, hu'] at hu
      rw [hu', hu]
    refine ⟨some a, n0, m, (List.range (n0 * P.cellsOf e)).map fun j => (W.cell? (a.add j)).getD undef, rfl, hl, hm, ⟨by simp, fun hn => ?_⟩, Or.inr ⟨_, _, (Prod.mk.inj hx).1, by simp; omega⟩, fun i hin => ?_⟩
    · obtain ⟨u, hu⟩ := hcell 0 (Nat.mul_pos (by omega) hC)
      obtain ⟨b, o, s⟩ := a
      have hs : s = none := by simpa [Addr.add] using World.cell?_spot hu
      subst hs
      refine ⟨b, o, rfl, by simpa [Addr.add] using World.block_lt_of_cell? W _ hu, fun j u hu => ?_⟩
      have := hget j u hu
      rwa [Addr.add_lit] at this
    · obtain ⟨cs', hc', ht'⟩ := hi i (by omega)
      obtain ⟨_, hlen, hat⟩ := World.cells?_some hc'
      refine ⟨k, (D i, Pl i), ?_⟩
      rw [show ((((List.range (n0 * P.cellsOf e)).map fun j => (W.cell? (a.add j)).getD undef).drop (i * P.cellsOf e)).take (P.cellsOf e)) = cs' from ?_]
      · exact ht'
      · have hle : (i + 1) * P.cellsOf e ≤ n0 * P.cellsOf e := Nat.mul_le_mul_right _ hin
        rw [Nat.add_mul, Nat.one_mul] at hle
        apply List.ext_getElem?
        intro q
        by_cases hq : q < P.cellsOf e
        · have h1 := hat q hq
          rw [add_add] at h1
          have h2 : cs'[q]? = some (cs'[q]'(by omega)) := List.getElem?_eq_getElem _
          rw [List.getElem?_take_of_lt hq, List.getElem?_drop, List.getElem?_map, List.getElem?_range (by omega), Option.map_some, h1, h2]
          rfl
        · rw [List.getElem?_eq_none (by simp; omega), List.getElem?_eq_none (by omega)]

end

def Only (p : Nat) (w w' : World) : Prop := w.grownBy w' (some p)
section
variable {p : Nat} {w w' w'' : World}
theorem Only.refl (p : Nat) (w : World) : Only p w w := World.grownBy.refl w _
theorem Only.trans (h : Only p w w') (k : Only p w' w'') : Only p w w'' :=
  ⟨k.os.trans h.os, k.tape.trans h.tape, k.output.trans h.output, Nat.le_trans h.size k.size, fun j hj hne => (k.block j (Nat.lt_of_lt_of_le hj h.size) hne).trans (h.block j hj hne)⟩
theorem Only.setCell (w : World) (p i : Nat) (u : Value) : Only p w (w.setCell ⟨p, i, none⟩ u) :=
  ⟨rfl, rfl, rfl, by simp [World.setCell], fun k _ hk => Below.heap_setCell _ _ _ _ (by intro e; exact hk (by rw [e]))⟩
theorem Only.below {B : Nat} {W0 : World} (h : Only p w w') (hb : Below B W0 w) (hB : B ≤ p) (hs : B ≤ w.heap.size) : Below B W0 w' :=
  hb.grown h hs fun k hk => by injection hk with hk; omega
theorem Blk.only {b : Nat} {t : TypeId} {cs : Array Value} (h : Blk w b t cs) (ho : Only p w w') (hne : b ≠ p) : Blk w' b t cs := h.grown ho (by intro e; injection e with e; exact hne e)
end
end Go.Proofs.Ytblikpbaeippaaa.Base


namespace Go.Proofs.Ytblikpbaeippaaa
set_option linter.unusedVariables false
set_option linter.unusedSimpArgs false
open Go.ChangeShapes Go.WideShapes Go.ChangeAt Go.RowKit Base Px
theorem trod_str {H : Type} {enc : TypeId × Value → H} {w : World} {base : Nat} {spare : Nat → Bool} {held : Bool} {n : Nat} {t : TypeId} {u : Value} {y : DataW H × List MemPlace} (ht : Try.prog.underlying t = some .string) (h : DataW.trod enc Try.prog w base spare held n t [u] = some y) : ∃ l : List UInt8, u = str l ∧ l.length ≤ maxLen := by
  obtain ⟨s, h1, _, h2⟩ := DataW.trod_string ht h
  simp at h1
  subst h1
  exact ⟨s.data.toList, rfl, h2⟩
theorem rd_param {w : World} {sz n b o : Nat} {xs : List Value} (hr : Rd w w.heap.size sz (some ⟨b, o, none⟩) n xs) (hn : 0 < n) : b < w.heap.size ∧ ∀ j u, xs[j]? = some u → rdM w none b (o + j) = some u := by
  obtain ⟨b', o', e, hb, hc⟩ := hr.2 hn
  have e := Option.some.inj e
  injection e with e1 e2 e3
  subst e1; subst e2
  exact ⟨hb, fun j u hj => by unfold rdM; simp only; rw [if_pos hb]; exact hc j u hj⟩
theorem rd_param_addr {w : World} {sz n : Nat} {A : Option Addr} {xs : List Value} (hr : Rd w w.heap.size sz A n xs) (hn : 0 < n) : ∃ b o, A = some ⟨b, o, none⟩ := by
  obtain ⟨b, o, h, _⟩ := hr.2 hn; exact ⟨b, o, h⟩
end Go.Proofs.Ytblikpbaeippaaa


namespace Go.Proofs.Ytblikpbaeippaaa
set_option linter.unusedVariables false
set_option linter.unusedSimpArgs false
open Go.ChangeShapes Go.WideShapes Go.ChangeAt Go.RowKit Go.Deep Base Px
theorem zE7 {α : Type} (Q : Nat → α → Prop) : ∀ (n : Nat), (∀ i, i < n → ∃ a, Q i a) → ∃ L : List α, L.length = n ∧ ∀ i a, L[i]? = some a → Q i a
  | 0, _ => ⟨[], rfl, fun i a h => by simp at h⟩
  | n + 1, h => by
    obtain ⟨L, h1, h2⟩ := zE7 Q n fun i hi => h i (by omega)
    obtain ⟨a, ha⟩ := h n (by omega)
    refine ⟨L ++ [a], by simp [h1], fun i b hb => ?_⟩
    rcases Nat.lt_or_ge i n with hi | hi
    · rw [List.getElem?_append_left (by omega)] at hb
      exact h2 i b hb
    · rw [List.getElem?_append_right (by omega)] at hb
      by_cases hin : i = n
      · subst hin
        simp [h1] at hb
        subst hb; exact ha
      · rw [List.getElem?_eq_none (by simp; omega)] at hb; cases hb
theorem trod_i64 {H : Type} {enc : TypeId × Value → H} {w : World} {base : Nat} {spare : Nat → Bool} {held : Bool} {n : Nat} {t : TypeId} {u : Value} {y : DataW H × List MemPlace} (ht : Try.prog.underlying t = some (.int .i64)) (h : DataW.trod enc Try.prog w base spare held n t [u] = some y) : ∃ a : Int, u = .int .i64 a ∧ (Lit.int .i64 a).wf = true := by
  obtain ⟨a, h1, _, h2⟩ := DataW.trod_int ht h
  simp at h1
  exact ⟨a, h1, h2⟩
theorem rd_of_trod {H : Type} {enc : TypeId × Value → H} {W : World} {t e : TypeId} {u : Value} {fuel : Nat} {y : DataW H × List MemPlace} (ht : Try.prog.underlying t = some (.slice e)) (hC : 0 < Try.prog.cellsOf e) (hf : DataW.trod enc Try.prog W 0 (fun _ => true) true fuel t [u] = some y) :
    ∃ (A : Option Addr) (n c : Nat) (xs : List Value), u = .slice A n c ∧ n ≤ c ∧ c ≤ maxLen ∧ Rd W W.heap.size (Try.prog.cellsOf e) A n xs ∧
      ∀ i, i < n → ∃ f y, DataW.trod enc Try.prog W 0 (fun _ => true) true f e ((xs.drop (i * Try.prog.cellsOf e)).take (Try.prog.cellsOf e)) = some y := by
  rcases open_slice ht hf with ⟨hcs, _⟩ | ⟨a, n0, c, m, k, D, Pl, hcs, _, hl, hm, hmm, hx, hi⟩
  · simp at hcs
    subst hcs
    exact ⟨none, 0, 0, [], rfl, by omega, by simp, Rd.none_ _ _ _ _, fun i hi => absurd hi (by omega)⟩
  · simp at hcs
    subst hcs
    simp only [if_true] at hmm
    subst hmm
    have hcell : ∀ j, j < m * Try.prog.cellsOf e → ∃ u, W.cell? (a.add j) = some u := by
      intro j hj
      obtain ⟨cs', hc', _⟩ := hi (j / Try.prog.cellsOf e) (Nat.div_lt_of_lt_mul (by rw [Nat.mul_comm]; exact hj))
      obtain ⟨_, hlen, hat⟩ := World.cells?_some hc'
      have hr := Nat.mod_lt j hC
      have := hat (j % Try.prog.cellsOf e) hr
      rw [add_add, Nat.mul_comm, Nat.div_add_mod] at this
      exact ⟨cs'[j % Try.prog.cellsOf e]'(by omega), by rw [this]; exact List.getElem?_eq_getElem _⟩
    have hget : ∀ j u, ((List.range (n0 * Try.prog.cellsOf e)).map fun j => (W.cell? (a.add j)).getD undef)[j]? = some u → W.cell? (a.add j) = some u := by
      intro j u hu
      have hj : j < n0 * Try.prog.cellsOf e := by have := (List.getElem?_eq_some_iff.1 hu).1; simpa using this
      obtain ⟨u', hu'⟩ := hcell j (Nat.lt_of_lt_of_le hj (Nat.mul_le_mul_right _ hl))
      simp [hj, hu'] at hu
      rw [hu', hu]
    refine ⟨some a, n0, m, (List.range (n0 * Try.prog.cellsOf e)).map fun j => (W.cell? (a.add j)).getD undef, rfl, hl, hm, ⟨by simp, fun hn => ?_⟩, fun i hin => ?_⟩
    · obtain ⟨u, hu⟩ := hcell 0 (Nat.mul_pos (by omega) hC)
      obtain ⟨b, o, s⟩ := a
      have hs : s = none := by simpa [Addr.add] using World.cell?_spot hu
      subst hs
      refine ⟨b, o, rfl, by simpa [Addr.add] using World.block_lt_of_cell? W _ hu, fun j u hu => ?_⟩
      have := hget j u hu
      rwa [Addr.add_lit] at this
    · obtain ⟨cs', hc', ht'⟩ := hi i (by omega)
      obtain ⟨_, hlen, hat⟩ := World.cells?_some hc'
      refine ⟨k, (D i, Pl i), ?_⟩
      rw [show ((((List.range (n0 * Try.prog.cellsOf e)).map fun j => (W.cell? (a.add j)).getD undef).drop (i * Try.prog.cellsOf e)).take (Try.prog.cellsOf e)) = cs' from ?_]
      · exact ht'
      · have hle : (i + 1) * Try.prog.cellsOf e ≤ n0 * Try.prog.cellsOf e := Nat.mul_le_mul_right _ hin
        rw [Nat.add_mul, Nat.one_mul] at hle
        apply List.ext_getElem?
        intro q
        by_cases hq : q < Try.prog.cellsOf e
        · have h1 := hat q hq
          rw [add_add] at h1
          have h2 : cs'[q]? = some (cs'[q]'(by omega)) := List.getElem?_eq_getElem _
          rw [List.getElem?_take_of_lt hq, List.getElem?_drop, List.getElem?_map, List.getElem?_range (by omega), Option.map_some, h1, h2]
          rfl
        · rw [List.getElem?_eq_none (by simp; omega), List.getElem?_eq_none (by omega)]
theorem trod_bool {H : Type} {enc : TypeId × Value → H} {w : World} {base : Nat} {spare : Nat → Bool} {held : Bool} {n : Nat} {t : TypeId} {u : Value} {y : DataW H × List MemPlace} (ht : Try.prog.underlying t = some .bool) (h : DataW.trod enc Try.prog w base spare held n t [u] = some y) : ∃ a : Bool, u = .bool a := by
  obtain ⟨a, h1, _⟩ := DataW.trod_bool ht h
  simp at h1
  exact ⟨a, h1⟩
theorem Rd.rv {w : World} {n : Nat} {A : Option Addr} {xs : List Value} (hr : Rd w w.heap.size 1 A n xs) (h : PH) : ∀ (j : Nat) (u : Value), xs[j]? = some u → ∃ b o, A = some ⟨b, o, none⟩ ∧ b < w.heap.size ∧ rdM w none b (o + j) = some u := fun j u e => by
  have hn : 0 < n := by
    have h1 := (List.getElem?_eq_some_iff.1 e).1
    have h2 := hr.1
    omega
  obtain ⟨b, o, rfl⟩ := rd_param_addr hr hn
  obtain ⟨hb, hrd⟩ := rd_param hr hn
  exact ⟨b, o, rfl, hb, hrd j u e⟩
end Go.Proofs.Ytblikpbaeippaaa


namespace Go.Proofs.Ytblikpbaeippaaa
set_option linter.unusedVariables false
set_option linter.unusedSimpArgs false
open Go.ChangeShapes Go.WideShapes Go.ChangeAt Go.RowKit Base Px Wr
set_option maxRecDepth 20000
theorem c_int : Try.prog.cellsOf 3 = 1 := by kernel_rfl
theorem c_str : Try.prog.cellsOf 9 = 1 := by kernel_rfl
theorem c_bool : Try.prog.cellsOf 4 = 1 := by kernel_rfl
theorem Rv.par {w : World} {n : Nat} {A : Option Addr} {xs : List Value} (hr : Rd w w.heap.size 1 A n xs) (h : PH) : Rv w h A xs := fun j u e => by
  obtain ⟨b, o, h1, h2, h3⟩ := Rd.rv hr h j u e
  exact ⟨b, o, h1, .inr ⟨h2, h3⟩⟩
end Go.Proofs.Ytblikpbaeippaaa


namespace Go.Proofs.Ytblikpbaeippaaa
set_option linter.unusedVariables false
set_option linter.unusedSimpArgs false
open Go.ChangeShapes Go.WideShapes Go.ChangeAt Go.RowKit Go.Deep Base Px Wr
set_option maxRecDepth 20000
theorem zFc {α : Type} (g : α → List Value) (m : Nat) : ∀ (L : List α) (xs : List Value), xs.length = L.length * m → (∀ i p, L[i]? = some p → (xs.drop (i * m)).take m = g p) → xs = L.flatMap g
  | [], xs, hl, _ => List.eq_nil_of_length_eq_zero (by simpa using hl)
  | p :: L, xs, hl, h => by
    have h0 := h 0 p rfl
    rw [Nat.zero_mul, List.drop_zero] at h0
    have ih := zFc g m L (xs.drop m) (by rw [List.length_drop, hl, List.length_cons, Nat.add_mul]; omega) fun i q hq => by
      have := h (i + 1) q (by simpa using hq)
      rw [List.drop_drop, ← this, Nat.add_mul]
      congr 2
      omega
    rw [List.flatMap_cons, ← ih, ← h0, List.take_append_drop]
theorem c_strsJ : Try.prog.cellsOf 34 = 1 := by kernel_rfl
theorem c_opJ : Try.prog.cellsOf 41 = 6 := by kernel_rfl
section
variable {H : Type} {enc : TypeId × Value → H} {W : World} {b0 : Nat} {r : Reach} {v : Value} {d : DataW H} {p : List MemPlace}
theorem flat_strs : ∀ z : List (List UInt8), z.flatMap (fun p => [str p]) = z.map str
  | [] => rfl
  | a :: l => by rw [List.flatMap_cons, flat_strs l]; rfl
theorem strs_of_trod {u : Value} {fuel : Nat} {y : DataW H × List MemPlace} (hf : DataW.trod enc Try.prog W 0 (fun _ => true) true fuel 34 [u] = some y) :
    ∃ (A : Option Addr) (c : Nat) (z : List (List UInt8)), u = .slice A z.length c ∧ z.length ≤ c ∧ ∀ h, Rv W h A (z.map str) := by
  obtain ⟨A, n, c, xs, rfl, hnc, _, hr, hall⟩ := rd_of_trod Try.underlying34 (by rw [c_str]; omega) hf
  rw [c_str] at hr hall
  obtain ⟨z, hz, hzq⟩ := zE7 (fun i (p : List UInt8) => (xs.drop (i * 1)).take 1 = [str p]) n fun i hi => by
    obtain ⟨f, y, hy⟩ := hall i hi
    have hl : ((xs.drop (i * 1)).take 1).length = 1 := by rw [List.length_take, List.length_drop, hr.1]; omega
    match hm : (xs.drop (i * 1)).take 1, hl with
    | [c0], _ =>
      rw [hm] at hy
      obtain ⟨s, rfl, _⟩ := trod_str Try.underlying9 hy
      exact ⟨s, rfl⟩
  subst hz
  obtain rfl := zFc (fun p => [str p]) 1 z xs hr.1 hzq
  have e : z.flatMap (fun p => [str p]) = z.map str := flat_strs z
  rw [e] at hr
  exact ⟨A, c, z, rfl, hnc, fun h => Rv.par hr h⟩
theorem open_opJ {l : List Value} (hl : l.length = 6) {f : Nat} {y : DataW H × List MemPlace} (h : DataW.trod enc Try.prog W 0 (fun _ => true) true f 41 l = some y) : ∃ p : Ojp, l = ojL p ∧ ∀ h, GoodO W h p := by
  obtain ⟨ys, m, _, _, _, hyl, hat⟩ := DataW.trod_struct Try.underlying41 h
  match l, hl with
  | [c0, c1, c2, c3, c4, c5], _ =>
    have hyl2 : ys.length = 6 := hyl
    have t0 := hat 0 ⟨_, _, _, _, _, _, _⟩ rfl
    have t1 := hat 1 ⟨_, _, _, _, _, _, _⟩ rfl
    have t2 := hat 2 ⟨_, _, _, _, _, _, _⟩ rfl
    have t3 := hat 3 ⟨_, _, _, _, _, _, _⟩ rfl
    have t4 := hat 4 ⟨_, _, _, _, _, _, _⟩ rfl
    have t5 := hat 5 ⟨_, _, _, _, _, _, _⟩ rfl
    simp only [c_int, c_str, c_bool, c_strsJ, List.drop_zero, List.drop_succ_cons, List.take_succ_cons, List.take_zero] at t0 t1 t2 t3 t4 t5
    rw [List.getElem?_eq_getElem (by omega)] at t0 t1 t2 t3 t4 t5
    obtain ⟨a0, rfl, _⟩ := trod_i64 Try.underlying3 t0
    obtain ⟨A, cap, z, rfl, hz, hr⟩ := strs_of_trod t1
    obtain ⟨g, rfl⟩ := trod_bool Try.underlying4 t2
    obtain ⟨a3, rfl, _⟩ := trod_i64 Try.underlying3 t3
    obtain ⟨a4, rfl, _⟩ := trod_i64 Try.underlying3 t4
    obtain ⟨s, rfl, _⟩ := trod_str Try.underlying9 t5
    exact ⟨(⟨a0, z, g, a3, a4, s⟩, A, cap), rfl, fun h => ⟨hz, hr h⟩⟩
theorem open_script (hv : Value.okWide Try.prog W r b0 22 v) (h : DataW.Trod enc Try.prog W 0 (fun _ => true) true 22 v d p) :
    ∃ (A : Option Addr) (c : Nat) (z : List Ojp), v = .slice A z.length c ∧ z.length ≤ c ∧ ∀ h, Scr W h A z := by
  obtain ⟨A, n, c, xs, rfl, hnc, _, hr, _, hall⟩ := open_rd Try.underlying22 (by rw [c_opJ]; omega) hv h
  rw [c_opJ] at hr hall
  obtain ⟨z, hz, hzq⟩ := zE7 (fun i (p : Ojp) => (xs.drop (i * 6)).take 6 = ojL p ∧ ∀ h, GoodO W h p) n fun i hi => by
    obtain ⟨f, y, hy⟩ := hall i hi
    have hl : ((xs.drop (i * 6)).take 6).length = 6 := by rw [List.length_take, List.length_drop, hr.1]; have : (i + 1) * 6 ≤ n * 6 := Nat.mul_le_mul_right _ hi; omega
    exact open_opJ hl hy
  subst hz
  obtain rfl := zFc ojL 6 z xs hr.1 fun i p hp => (hzq i p hp).1
  have hr1 : Rd W W.heap.size 1 A (z.length * 6) (z.flatMap ojL) := ⟨by rw [hr.1, Nat.mul_one], fun h => hr.2 (by omega)⟩
  refine ⟨A, c, z, rfl, hnc, fun h => ⟨Rv.par hr1 h, fun p hp => ?_⟩⟩
  obtain ⟨j, hj, rfl⟩ := List.getElem_of_mem hp
  exact (hzq j _ (List.getElem?_eq_getElem hj)).2 h
end
end Go.Proofs.Ytblikpbaeippaaa


namespace Go.Proofs.Ytblikpbaeippaaa.Base
set_option linter.unusedVariables false
set_option linter.unusedSimpArgs false
open Go.ChangeShapes Go.WideShapes Go.ChangeAt Go.RowKit Go.Deep

theorem Blk.setCells {b : Nat} {t : TypeId} (vs : List Value) : ∀ (o : Nat) {cs : List Value} {w : World}, Blk w b t cs.toArray → o + vs.length ≤ cs.length → Blk (w.setCells b o vs) b t (cs.take o ++ vs ++ cs.drop (o + vs.length)).toArray := by
  induction vs with
  | nil => intro o cs w h _; simpa [World.setCells] using h
  | cons v vs ih =>
    intro o cs w h hl
    have h1 := h.set_ o v
    rw [List.setIfInBounds_toArray] at h1
    have h2 := ih (o + 1) h1 (by simp at hl ⊢; omega)
    have e : (cs.set o v).take (o + 1) ++ vs ++ (cs.set o v).drop (o + 1 + vs.length) = cs.take o ++ (v :: vs) ++ cs.drop (o + (v :: vs).length) := by
      have ho : o < cs.length := by simp at hl; omega
      rw [List.drop_set_of_lt (by omega), List.take_add_one, List.getElem?_set_self (by omega), List.take_set_of_le (by omega)]
      simp [Nat.add_assoc, Nat.add_comm 1]
    rw [e] at h2
    exact h2
theorem Only.setCells {p : Nat} (vs : List Value) : ∀ (o : Nat) {w w' : World}, Only p w w' → Only p w (w'.setCells p o vs) := by
  induction vs with
  | nil => intro o w w' h; simpa [World.setCells] using h
  | cons v vs ih => intro o w w' h; exact ih (o + 1) (h.trans (Only.setCell w' p o v))

theorem u8_lit {n : Int} (h : (Lit.int .u8 n).wf = true) : ∃ x : UInt8, n = (x.toNat : Int) := by
  obtain ⟨h0, h1⟩ := u8_bounds h
  refine ⟨UInt8.ofNat n.toNat, ?_⟩
  rw [UInt8.toNat_ofNat']
  omega
end Go.Proofs.Ytblikpbaeippaaa.Base

