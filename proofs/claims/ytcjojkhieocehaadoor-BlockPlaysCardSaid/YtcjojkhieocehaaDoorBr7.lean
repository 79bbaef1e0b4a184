/- BlockPlays' arguments, opened. No condition. -/
import Derived.Test.YtcjojkhieocehaaDoorBka
import Derived.Test.YtcjojkhieocehaaDoorBk9
namespace Go.Proofs.YtcjojkhieocehaaDoor
set_option linter.unusedVariables false
set_option linter.unusedSimpArgs false
open Go.ChangeShapes Go.WideShapes Go.ChangeAt Go.RowKit Go.Deep Base Px
set_option maxRecDepth 20000
theorem trod_i64w {H : Type} {enc : TypeId × Value → H} {w : World} {base : Nat} {spare : Nat → Bool} {held : Bool} {n : Nat} {t : TypeId} {u : Value} {y : DataW H × List MemPlace} (ht : Tryd.prog.underlying t = some (.int .i64)) (h : DataW.trod enc Tryd.prog w base spare held n t [u] = some y) : ∃ a : Int, u = .int .i64 a ∧ a ≤ 9223372036854775807 := by
  obtain ⟨a, h1, _, h2⟩ := DataW.trod_int ht h
  simp at h1
  refine ⟨a, h1, ?_⟩
  have h3 : (decide ((-9223372036854775808 : Int) ≤ a) && decide (a ≤ 9223372036854775807)) = true := h2
  simp at h3
  exact h3.2
section
variable {H : Type} {enc : TypeId × Value → H} {W : World} {b0 : Nat} {r : Reach} {v : Value} {d : DataW H} {p : List MemPlace}
theorem open_opcw {l : List Value} (hl : l.length = 4) {f : Nat} {y : DataW H × List MemPlace} (h : DataW.trod enc Tryd.prog W 0 (fun _ => true) true f 36 l = some y) : ∃ p : On, l = opL p ∧ p.2.2.1 ≤ 9223372036854775807 := by
  obtain ⟨ys, m, _, _, _, hyl, hat⟩ := DataW.trod_struct Tryd.underlying36 h
  have hyl2 : ys.length = 4 := hyl
  match l, hl with
  | [c0, c1, c2, c3], _ =>
    have t0 := hat 0 ⟨_, _, _, _, _, _, _⟩ rfl
    have t1 := hat 1 ⟨_, _, _, _, _, _, _⟩ rfl
    have t2 := hat 2 ⟨_, _, _, _, _, _, _⟩ rfl
    have t3 := hat 3 ⟨_, _, _, _, _, _, _⟩ rfl
    simp only [c_int, c_str, List.drop_zero, List.drop_succ_cons, List.take_succ_cons, List.take_zero] at t0 t1 t2 t3
    rw [List.getElem?_eq_getElem (by omega)] at t0 t1 t2 t3
    obtain ⟨a0, rfl, _⟩ := trod_i64 Tryd.underlying3 t0
    obtain ⟨a1, rfl, _⟩ := trod_str Tryd.underlying9 t1
    obtain ⟨a2, rfl, hw⟩ := trod_i64w Tryd.underlying3 t2
    obtain ⟨a3, rfl, _⟩ := trod_i64 Tryd.underlying3 t3
    exact ⟨(a0, a1, a2, a3), rfl, hw⟩
theorem open_opsw (hv : Value.okWide Tryd.prog W r b0 22 v) (h : DataW.Trod enc Tryd.prog W 0 (fun _ => true) true 22 v d p) :
    ∃ (A : Option Addr) (c : Nat) (z : List On), v = .slice A z.length c ∧ z.length ≤ c ∧ (∀ h, Rv W h A (opsL z)) ∧ ∀ p ∈ z, p.2.2.1 ≤ 9223372036854775807 := by
  obtain ⟨A, n, c, xs, rfl, hnc, _, hr, _, hall⟩ := open_rd Tryd.underlying22 (by rw [c_op]; omega) hv h
  rw [c_op] at hr hall
  obtain ⟨z, hz, hzq⟩ := list_of_all (fun i (p : On) => (xs.drop (i * 4)).take 4 = opL p ∧ p.2.2.1 ≤ 9223372036854775807) n fun i hi => by
    obtain ⟨f, y, hy⟩ := hall i hi
    have hl : ((xs.drop (i * 4)).take 4).length = 4 := by rw [List.length_take, List.length_drop, hr.1]; have : (i + 1) * 4 ≤ n * 4 := Nat.mul_le_mul_right _ hi; omega
    exact open_opcw hl hy
  subst hz
  obtain rfl := flat_of_parts opL 4 z xs hr.1 fun i p hp => (hzq i p hp).1
  have hr1 : Rd W W.heap.size 1 A (z.length * 4) (z.flatMap opL) := ⟨by rw [hr.1, Nat.mul_one], fun h => hr.2 (by omega)⟩
  refine ⟨A, c, z, rfl, hnc, fun h => Rv.par hr1 h, fun p hp => ?_⟩
  obtain ⟨i, hi⟩ := List.getElem?_of_mem hp
  exact (hzq i p hi).2
end
end Go.Proofs.YtcjojkhieocehaaDoor
