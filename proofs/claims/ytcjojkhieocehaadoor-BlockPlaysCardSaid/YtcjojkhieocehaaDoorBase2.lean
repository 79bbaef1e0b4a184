/- More lemmas on arguments: elements that are arrays. No condition. -/
import Derived.Test.YtcjojkhieocehaaDoorBase
import Derived.Deep.MidRow
import Derived.Laws.ResultCell
namespace Go.Proofs.YtcjojkhieocehaaDoor.Base
set_option linter.unusedVariables false
set_option linter.unusedSimpArgs false
open Go.ChangeShapes Go.WideShapes Go.ChangeAt Go.RowKit Go.Deep

/-- Elements that are arrays of numbers. -/
theorem rd_arr_ints {H : Type} {enc : TypeId × Value → H} {P : Program} {W : World} {e ee : TypeId} {xs : List Value} {n m : Nat} {k : IntKind} (he : P.underlying e = some (.array m ee)) (hee : P.underlying ee = some (.int k)) (hC : P.cellsOf e = m) (hCe : P.cellsOf ee = 1) (hl : xs.length = n * P.cellsOf e) (h0 : 0 < m)
    (hall : ∀ i, i < n → ∃ f y, DataW.trod enc P W 0 (fun _ => true) true f e ((xs.drop (i * P.cellsOf e)).take (P.cellsOf e)) = some y) : ∃ zs : List Int, xs = zs.map (Value.int k) ∧ ∀ z ∈ zs, (Lit.int k z).wf = true := by
  refine map_of_all fun j hj => ?_
  have hq : j % m < m := Nat.mod_lt _ h0
  have hi : j / m < n := by
    rw [hl, hC] at hj
    exact Nat.div_lt_of_lt_mul (by rw [Nat.mul_comm]; exact hj)
  obtain ⟨f, y, hy⟩ := hall (j / m) hi
  obtain ⟨ys, q, _, _, _, hyl, hat⟩ := DataW.trod_array he hy
  have h1 := hat (j % m) hq
  have h2 : (((xs.drop (j / m * P.cellsOf e)).take (P.cellsOf e)).drop ((j % m) * P.cellsOf ee)).take (P.cellsOf ee) = [xs[j]] := by
    rw [hC, hCe]
    apply List.ext_getElem?
    intro i
    cases i with
    | zero => simp [List.getElem?_take, hq, Nat.div_add_mod', List.getElem?_eq_getElem hj]
    | succ i => simp [List.getElem?_take]
  rw [h2] at h1
  obtain ⟨z, hz, _, hw⟩ := DataW.trod_int hee (h1.trans (List.getElem?_eq_getElem (by omega)))
  exact ⟨z, (List.cons.inj hz).1, hw⟩

theorem Blk.setCells {b : Nat} {t : TypeId} (vs : List Value) : ∀ (o : Nat) {cs : List Value} {w : World}, Blk w b t cs.toArray → o + vs.length ≤ cs.length → Blk (w.setCells b o vs) b t (cs.take o ++ vs ++ cs.drop (o + vs.length)).toArray := by
  induction vs with
  | nil => intro o cs w h _; simpa [World.setCells] using h
  | cons v vs ih =>
    intro o cs w h hl
    have h1 := h.set_ o v
    rw [List.setIfInBounds_toArray] at h1
    have h2 := ih (o + 1) h1 (by simp at hl ⊢; omega)
    have e : (cs.set o v).take (o + 1) ++ vs ++ (cs.set o v).drop (o + 1 + vs.length) = cs.take o ++ (v :: vs) ++ cs.drop (o + (v :: vs).length) := by
      have ho : o < cs.length := by simp at hl; omega
      rw [List.drop_set_of_lt (by omega), List.take_add_one, List.getElem?_set_self (by omega), List.take_set_of_le (by omega)]
      simp [Nat.add_assoc, Nat.add_comm 1]
    rw [e] at h2
    exact h2
theorem Only.setCells {p : Nat} (vs : List Value) : ∀ (o : Nat) {w w' : World}, Only p w w' → Only p w (w'.setCells p o vs) := by
  induction vs with
  | nil => intro o w w' h; simpa [World.setCells] using h
  | cons v vs ih => intro o w w' h; exact ih (o + 1) (h.trans (Only.setCell w' p o v))

/-- A whole row stored into a block that it fills. -/
theorem wpList_store_all {P : Program} {w : World} {ops : Array Oper} {rest : List Oper} {op : Oper} {a : Act} {Q : Exit → Act → World → Prop} (hgd : op.guard = none) (ty : TypeId) (x y : Operand) (ho : op.op = .store ty x y)
    (b : Nat) (cs old : List Value) {t : TypeId} (hx : a.eval x = .pointer (some ⟨b, 0, none⟩)) (hy : a.eval y = .agg cs.toArray) (hB : Blk w b t old.toArray) (hlen : old.length = cs.length) (hi : (P.info? ty).map (·.size) = some cs.length) (h1 : ∀ v ∈ cs, v.oneCell' = true)
    (h : ∀ w', Blk w' b t cs.toArray → Only b w w' → wpList P ops Q rest (a.put op.dst undef) w') : wpList P ops Q (op :: rest) a w := by
  refine wpList_store_mid hgd ty x y ho b 0 cs.toArray hx hy ?_ (by simpa using hi) (all_oneCell_toArray h1) (h _ ?_ (Only.setCells cs 0 (Only.refl _ _)))
  · intro j hj
    rw [Nat.zero_add, hB.cell, hB.frozen]
    simp at hj ⊢
    omega
  · have := Blk.setCells cs 0 hB (by omega)
    rw [List.drop_of_length_le (by omega)] at this
    simpa using this

/-- An operation that yields a value, which the kernel reckons. -/
theorem wpList_value {P : Program} {w : World} {ops : Array Oper} {rest : List Oper} {o : Oper} {a : Act} {Q : Exit → Act → World → Prop} (v : Value) (hgd : o.guard = none) (hrun : (execOp a.eval o).run P w = .ok (.value v) w)
    (h : wpList P ops Q rest (a.put o.dst v) w) : wpList P ops Q (o :: rest) a w := by
  refine wpList_plain hgd fun K hK => ?_
  unfold Oper.wp
  rw [hrun]
  exact hK _ _ h

/-- An operation that makes one new row and yields a value, which the kernel reckons. -/
theorem wpList_make_row {P : Program} {w : World} {ops : Array Oper} {rest : List Oper} {o : Oper} {a : Act} {Q : Exit → Act → World → Prop} {t : TypeId} (cs : List Value) (v : Value) (hgd : o.guard = none) (hrun : (execOp a.eval o).run P w = .ok (.value v) (w.alloc (.cells cs.toArray t)))
    (h : wpList P ops Q rest (a.put o.dst v) (w.alloc (.cells cs.toArray t))) : wpList P ops Q (o :: rest) a w := by
  refine wpList_plain hgd fun K hK => ?_
  unfold Oper.wp
  rw [hrun]
  exact hK _ _ h

theorem Blk.new_ {w : World} {b : Nat} {t : TypeId} {cs : Array Value} (hb : b = w.heap.size) : Blk (w.alloc (.cells cs t)) b t cs := by subst hb; exact Blk.new _ _ _

theorem setCell_twice (w : World) (a : Addr) (u v : Value) : (w.setCell a u).setCell a v = w.setCell a v := by
  unfold World.setCell
  congr 1
  apply Array.ext_getElem?
  intro i
  simp only [Array.getElem?_modify]
  split
  · rename_i h
    subst h
    cases w.heap[a.block]? with
    | none => rfl
    | some o => cases o <;> simp <;> split <;> simp_all
  · rfl
theorem u8_lit {n : Int} (h : (Lit.int .u8 n).wf = true) : ∃ x : UInt8, n = (x.toNat : Int) := by
  obtain ⟨h0, h1⟩ := u8_bounds h
  refine ⟨UInt8.ofNat n.toNat, ?_⟩
  rw [UInt8.toNat_ofNat']
  omega
theorem u16_lit {n : Int} (h : (Lit.int .u16 n).wf = true) : ∃ x : UInt16, n = (x.toNat : Int) := by
  obtain ⟨h0, h1⟩ := u16_bounds h
  refine ⟨UInt16.ofNat n.toNat, ?_⟩
  rw [UInt16.toNat_ofNat']
  omega
end Go.Proofs.YtcjojkhieocehaaDoor.Base
