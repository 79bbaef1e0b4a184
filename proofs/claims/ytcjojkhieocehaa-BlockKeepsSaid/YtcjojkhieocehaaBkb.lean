/- BlockKeeps' arguments, opened. No condition. -/
import Derived.Test.YtcjojkhieocehaaBka
namespace Go.Proofs.Ytcjojkhieocehaa
set_option linter.unusedVariables false
set_option linter.unusedSimpArgs false
open Go.ChangeShapes Go.WideShapes Go.ChangeAt Go.RowKit Go.Deep Base Px
set_option maxRecDepth 20000
theorem read_allK (d : Dk) (h : d.down = false) : d.read 0 d.l.length = (d.l, none) := by
  unfold Dk.read
  rw [if_neg (by rw [h]; decide), if_neg (by omega)]
  simp
section
variable {H : Type} {enc : TypeId × Value → H} {W : World} {b0 : Nat} {r : Reach} {v : Value} {d : DataW H} {p : List MemPlace}
theorem open_ops (hv : Value.okWide Try.prog W r b0 22 v) (h : DataW.Trod enc Try.prog W 0 (fun _ => true) true 22 v d p) :
    ∃ (A : Option Addr) (c : Nat) (z : List On), v = .slice A z.length c ∧ z.length ≤ c ∧ ∀ h, Rv W h A (opsL z) := by
  obtain ⟨A, n, c, xs, rfl, hnc, _, hr, _, hall⟩ := open_rd Try.underlying22 (by rw [c_op]; omega) hv h
  rw [c_op] at hr hall
  obtain ⟨z, hz, hzq⟩ := list_of_all (fun i (p : On) => (xs.drop (i * 4)).take 4 = opL p) n fun i hi => by
    obtain ⟨f, y, hy⟩ := hall i hi
    have hl : ((xs.drop (i * 4)).take 4).length = 4 := by rw [List.length_take, List.length_drop, hr.1]; have : (i + 1) * 4 ≤ n * 4 := Nat.mul_le_mul_right _ hi; omega
    exact open_opc hl hy
  subst hz
  obtain rfl := flat_of_parts opL 4 z xs hr.1 hzq
  have hr1 : Rd W W.heap.size 1 A (z.length * 4) (z.flatMap opL) := ⟨by rw [hr.1, Nat.mul_one], fun h => hr.2 (by omega)⟩
  exact ⟨A, c, z, rfl, hnc, fun h => Rv.par hr1 h⟩
theorem struct_cells {P : Program} {t : TypeId} {fs : Array Field} {base : Nat} {spare : Nat → Bool} {held : Bool} (ht : P.underlying t = some (.struct fs)) (hv : Value.okWide P W r b0 t v) (h : DataW.Trod enc P W base spare held t v d p) : ∃ (l : List Value) (n : Nat) (y : DataW H × List MemPlace), v = .agg l.toArray ∧ l.length = P.cellsOf t ∧ DataW.trod enc P W base spare held n t l = some y := by
  obtain ⟨⟨l⟩, rfl, hsz⟩ := okWide_struct ht hv
  obtain ⟨fuel, hf⟩ := h
  exact ⟨l, fuel, _, rfl, by simpa using hsz, hf⟩
abbrev Lo := List UInt8 × Int × List UInt8
theorem open_lo (hv : Value.okWide Try.prog W r b0 24 v) (h : DataW.Trod enc Try.prog W 0 (fun _ => true) true 24 v d p) : ∃ q : Lo, v = .agg #[str q.1, .int .i64 q.2.1, str q.2.2] := by
  obtain ⟨l, n, y, rfl, hl, hf⟩ := struct_cells Try.underlying24 hv h
  rw [c_lo] at hl
  obtain ⟨ys, m, _, _, _, hyl, hat⟩ := DataW.trod_struct Try.underlying24 hf
  have hyl2 : ys.length = 3 := hyl
  match l, hl with
  | [c0, c1, c2], _ =>
    have t0 := hat 0 ⟨_, _, _, _, _, _, _⟩ rfl
    have t1 := hat 1 ⟨_, _, _, _, _, _, _⟩ rfl
    have t2 := hat 2 ⟨_, _, _, _, _, _, _⟩ rfl
    simp only [c_int, c_str, List.drop_zero, List.drop_succ_cons, List.take_succ_cons, List.take_zero] at t0 t1 t2
    rw [List.getElem?_eq_getElem (by omega)] at t0 t1 t2
    obtain ⟨a0, rfl, _⟩ := trod_str Try.underlying9 t0
    obtain ⟨a1, rfl, _⟩ := trod_i64 Try.underlying3 t1
    obtain ⟨a2, rfl, _⟩ := trod_str Try.underlying9 t2
    exact ⟨(a0, a1, a2), rfl⟩
end
end Go.Proofs.Ytcjojkhieocehaa
