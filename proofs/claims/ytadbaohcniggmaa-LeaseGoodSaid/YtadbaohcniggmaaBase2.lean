/- More lemmas on arguments: elements that are arrays. No condition. -/
import Derived.Test.YtadbaohcniggmaaBase
namespace Go.Proofs.Ytadbaohcniggmaa.Base
set_option linter.unusedVariables false
set_option linter.unusedSimpArgs false
open Go.ChangeShapes Go.WideShapes Go.ChangeAt Go.RowKit Go.Deep

/-- Elements that are arrays of numbers. -/
theorem rd_arr_ints {H : Type} {enc : TypeId × Value → H} {P : Program} {W : World} {e ee : TypeId} {xs : List Value} {n m : Nat} {k : IntKind} (he : P.underlying e = some (.array m ee)) (hee : P.underlying ee = some (.int k)) (hC : P.cellsOf e = m) (hCe : P.cellsOf ee = 1) (hl : xs.length = n * P.cellsOf e) (h0 : 0 < m)
    (hall : ∀ i, i < n → ∃ f y, DataW.trod enc P W 0 (fun _ => true) true f e ((xs.drop (i * P.cellsOf e)).take (P.cellsOf e)) = some y) : ∃ zs : List Int, xs = zs.map (Value.int k) ∧ ∀ z ∈ zs, (Lit.int k z).wf = true := by
  refine map_of_all fun j hj => ?_
  have hq : j % m < m := Nat.mod_lt _ h0
  have hi : j / m < n := by
    rw [hl, hC] at hj
    exact Nat.div_lt_of_lt_mul (by rw [Nat.mul_comm]; exact hj)
  obtain ⟨f, y, hy⟩ := hall (j / m) hi
  obtain ⟨ys, q, _, _, _, hyl, hat⟩ := DataW.trod_array he hy
  have h1 := hat (j % m) hq
  have h2 : (((xs.drop (j / m * P.cellsOf e)).take (P.cellsOf e)).drop ((j % m) * P.cellsOf ee)).take (P.cellsOf ee) = [xs[j]] := by
    rw [hC, hCe]
    apply List.ext_getElem?
    intro i
    cases i with
    | zero => simp [List.getElem?_take, hq, Nat.div_add_mod', List.getElem?_eq_getElem hj]
    | succ i => simp [List.getElem?_take]
  rw [h2] at h1
  obtain ⟨z, hz, _, hw⟩ := DataW.trod_int hee (h1.trans (List.getElem?_eq_getElem (by omega)))
  exact ⟨z, (List.cons.inj hz).1, hw⟩
end Go.Proofs.Ytadbaohcniggmaa.Base
