/- Arguments that are lists of structs: one Lean value for each. No condition. -/
import Derived.Test.YtcjojkhieocehaaDoorPar
namespace Go.Proofs.YtcjojkhieocehaaDoor
set_option linter.unusedVariables false
set_option linter.unusedSimpArgs false
open Go.ChangeShapes Go.WideShapes Go.ChangeAt Go.RowKit Go.Deep Base Px
theorem list_of_all {α : Type} (Q : Nat → α → Prop) : ∀ (n : Nat), (∀ i, i < n → ∃ a, Q i a) → ∃ L : List α, L.length = n ∧ ∀ i a, L[i]? = some a → Q i a
  | 0, _ => ⟨[], rfl, fun i a h => by simp at h⟩
  | n + 1, h => by
    obtain ⟨L, h1, h2⟩ := list_of_all Q n fun i hi => h i (by omega)
    obtain ⟨a, ha⟩ := h n (by omega)
    refine ⟨L ++ [a], by simp [h1], fun i b hb => ?_⟩
    rcases Nat.lt_or_ge i n with hi | hi
    · rw [List.getElem?_append_left (by omega)] at hb
      exact h2 i b hb
    · rw [List.getElem?_append_right (by omega)] at hb
      by_cases hin : i = n
      · subst hin
        simp [h1] at hb
        subst hb; exact ha
      · rw [List.getElem?_eq_none (by simp; omega)] at hb; cases hb
theorem trod_i64 {H : Type} {enc : TypeId × Value → H} {w : World} {base : Nat} {spare : Nat → Bool} {held : Bool} {n : Nat} {t : TypeId} {u : Value} {y : DataW H × List MemPlace} (ht : Tryd.prog.underlying t = some (.int .i64)) (h : DataW.trod enc Tryd.prog w base spare held n t [u] = some y) : ∃ a : Int, u = .int .i64 a ∧ (Lit.int .i64 a).wf = true := by
  obtain ⟨a, h1, _, h2⟩ := DataW.trod_int ht h
  simp at h1
  exact ⟨a, h1, h2⟩
/-- A slice that stands in a cell of what came in: its cells, and each element's own reading. -/
theorem rd_of_trod {H : Type} {enc : TypeId × Value → H} {W : World} {t e : TypeId} {u : Value} {fuel : Nat} {y : DataW H × List MemPlace} (ht : Tryd.prog.underlying t = some (.slice e)) (hC : 0 < Tryd.prog.cellsOf e) (hf : DataW.trod enc Tryd.prog W 0 (fun _ => true) true fuel t [u] = some y) :
    ∃ (A : Option Addr) (n c : Nat) (xs : List Value), u = .slice A n c ∧ n ≤ c ∧ c ≤ maxLen ∧ Rd W W.heap.size (Tryd.prog.cellsOf e) A n xs ∧
      ∀ i, i < n → ∃ f y, DataW.trod enc Tryd.prog W 0 (fun _ => true) true f e ((xs.drop (i * Tryd.prog.cellsOf e)).take (Tryd.prog.cellsOf e)) = some y := by
  rcases open_slice ht hf with ⟨hcs, _⟩ | ⟨a, n0, c, m, k, D, Pl, hcs, _, hl, hm, hmm, hx, hi⟩
  · simp at hcs
    subst hcs
    exact ⟨none, 0, 0, [], rfl, by omega, by simp, Rd.none_ _ _ _ _, fun i hi => absurd hi (by omega)⟩
  · simp at hcs
    subst hcs
    simp only [if_true] at hmm
    subst hmm
    have hcell : ∀ j, j < m * Tryd.prog.cellsOf e → ∃ u, W.cell? (a.add j) = some u := by
      intro j hj
      obtain ⟨cs', hc', _⟩ := hi (j / Tryd.prog.cellsOf e) (Nat.div_lt_of_lt_mul (by rw [Nat.mul_comm]; exact hj))
      obtain ⟨_, hlen, hat⟩ := World.cells?_some hc'
      have hr := Nat.mod_lt j hC
      have := hat (j % Tryd.prog.cellsOf e) hr
      rw [add_add, Nat.mul_comm, Nat.div_add_mod] at this
      exact ⟨cs'[j % Tryd.prog.cellsOf e]'(by omega), by rw [this]; exact List.getElem?_eq_getElem _⟩
    have hget : ∀ j u, ((List.range (n0 * Tryd.prog.cellsOf e)).map fun j => (W.cell? (a.add j)).getD undef)[j]? = some u → W.cell? (a.add j) = some u := by
      intro j u hu
      have hj : j < n0 * Tryd.prog.cellsOf e := by have := (List.getElem?_eq_some_iff.1 hu).1; simpa using this
      obtain ⟨u', hu'⟩ := hcell j (Nat.lt_of_lt_of_le hj (Nat.mul_le_mul_right _ hl))
      simp [hj, hu'] at hu
      rw [hu', hu]
    refine ⟨some a, n0, m, (List.range (n0 * Tryd.prog.cellsOf e)).map fun j => (W.cell? (a.add j)).getD undef, rfl, hl, hm, ⟨by simp, fun hn => ?_⟩, fun i hin => ?_⟩
    · obtain ⟨u, hu⟩ := hcell 0 (Nat.mul_pos (by omega) hC)
      obtain ⟨b, o, s⟩ := a
      have hs : s = none := by simpa [Addr.add] using World.cell?_spot hu
      subst hs
      refine ⟨b, o, rfl, by simpa [Addr.add] using World.block_lt_of_cell? W _ hu, fun j u hu => ?_⟩
      have := hget j u hu
      rwa [Addr.add_lit] at this
    · obtain ⟨cs', hc', ht'⟩ := hi i (by omega)
      obtain ⟨_, hlen, hat⟩ := World.cells?_some hc'
      refine ⟨k, (D i, Pl i), ?_⟩
      rw [show ((((List.range (n0 * Tryd.prog.cellsOf e)).map fun j => (W.cell? (a.add j)).getD undef).drop (i * Tryd.prog.cellsOf e)).take (Tryd.prog.cellsOf e)) = cs' from ?_]
      · exact ht'
      · have hle : (i + 1) * Tryd.prog.cellsOf e ≤ n0 * Tryd.prog.cellsOf e := Nat.mul_le_mul_right _ hin
        rw [Nat.add_mul, Nat.one_mul] at hle
        apply List.ext_getElem?
        intro q
        by_cases hq : q < Tryd.prog.cellsOf e
        · have h1 := hat q hq
          rw [add_add] at h1
          have h2 : cs'[q]? = some (cs'[q]'(by omega)) := List.getElem?_eq_getElem _
          rw [List.getElem?_take_of_lt hq, List.getElem?_drop, List.getElem?_map, List.getElem?_range (by omega), Option.map_some, h1, h2]
          rfl
        · rw [List.getElem?_eq_none (by simp; omega), List.getElem?_eq_none (by omega)]
/-- .. of numbers. -/
theorem ints_of_trod {H : Type} {enc : TypeId × Value → H} {W : World} {t : TypeId} {u : Value} {fuel : Nat} {y : DataW H × List MemPlace} (ht : Tryd.prog.underlying t = some (.slice 3)) (hf : DataW.trod enc Tryd.prog W 0 (fun _ => true) true fuel t [u] = some y) :
    ∃ (A : Option Addr) (c : Nat) (z : List Int), u = .slice A z.length c ∧ z.length ≤ c ∧ Rd W W.heap.size 1 A z.length (z.map (Value.int .i64)) ∧ ∀ x ∈ z, (Lit.int .i64 x).wf = true := by
  have hC : Tryd.prog.cellsOf 3 = 1 := by kernel_rfl
  obtain ⟨A, n, c, xs, rfl, hn, _, hr, hall⟩ := rd_of_trod ht (by rw [hC]; omega) hf
  obtain ⟨z, rfl, hz⟩ := rd_ints (k := .i64) Tryd.underlying3 hC hr.1 hall
  rw [hC] at hr
  have hl : z.length = n := by simpa using hr.1
  subst hl
  exact ⟨A, c, z, rfl, hn, hr, hz⟩
theorem trod_bool {H : Type} {enc : TypeId × Value → H} {w : World} {base : Nat} {spare : Nat → Bool} {held : Bool} {n : Nat} {t : TypeId} {u : Value} {y : DataW H × List MemPlace} (ht : Tryd.prog.underlying t = some .bool) (h : DataW.trod enc Tryd.prog w base spare held n t [u] = some y) : ∃ a : Bool, u = .bool a := by
  obtain ⟨a, h1, _⟩ := DataW.trod_bool ht h
  simp at h1
  exact ⟨a, h1⟩
/-- What came in, as cells that are read. -/
theorem Rd.rv {w : World} {n : Nat} {A : Option Addr} {xs : List Value} (hr : Rd w w.heap.size 1 A n xs) (h : PH) : ∀ (j : Nat) (u : Value), xs[j]? = some u → ∃ b o, A = some ⟨b, o, none⟩ ∧ b < w.heap.size ∧ rdM w none b (o + j) = some u := fun j u e => by
  have hn : 0 < n := by
    have h1 := (List.getElem?_eq_some_iff.1 e).1
    have h2 := hr.1
    omega
  obtain ⟨b, o, rfl⟩ := rd_param_addr hr hn
  obtain ⟨hb, hrd⟩ := rd_param hr hn
  exact ⟨b, o, rfl, hb, hrd j u e⟩
end Go.Proofs.YtcjojkhieocehaaDoor
