/- Cookie headers: one pair among others: the plain law and the slices. No condition. -/
import Derived.Test.YtefkgpcdabmkkaaCkb
import Derived.Test.YtefkgpcdabmkkaaCkd
import Derived.Test.YtefkgpcdabmkkaaPt
namespace Go.Proofs.Ytefkgpcdabmkkaa
set_option linter.unusedVariables false
set_option linter.unusedSimpArgs false
open Go.ChangeShapes Go.WideShapes Go.ChangeAt Go.RowKit Go.Deep Base Px Ck
set_option maxRecDepth 20000
theorem sz_pr : szOf Try.prog 31 = some 2 := by kernel_rfl
theorem y_toPr (A : Option Addr) (n c : Nat) (k' : IntKind) (j : Nat) (h2 : j ≤ c) {K : Value → Prop} : Yld Try.prog (Instr.sliceAt 23 (.slice A n c) none (some (.int k' (j : Int))) none) K = K (.slice A j c) := Yld_eq fun w => by
  cases A <;> simp [Instr.sliceAt, run_underlying Try.underlying23, Instr.slice, Instr.sliceBounds, Instr.sliceBound, asIntOf, h2, Px.run_sizeOf sz_pr, Addr.add]
theorem y_fromPr (A : Option Addr) (n c k : Nat) (hk : k ≤ n) (hn : n ≤ c) (hA : n = 0 ∨ ∃ b o, A = some ⟨b, o, none⟩) :
    ∃ (A' : Option Addr) (c' : Nat), (∀ K : Value → Prop, Yld Try.prog (Instr.sliceAt 23 (.slice A n c) (some (.int .i64 (k : Int))) none none) K = K (.slice A' (n - k) c')) ∧ (k < n → ∃ b o, A = some ⟨b, o, none⟩ ∧ A' = some ⟨b, o + k * 2, none⟩) := by
  rcases hA with rfl | ⟨b, o, rfl⟩
  · obtain rfl : k = 0 := by omega
    refine ⟨A, c, fun K => Yld_eq fun w => ?_, fun h => absurd h (by omega)⟩
    cases A <;> simp [Instr.sliceAt, run_underlying Try.underlying23, Instr.slice, Instr.sliceBounds, Instr.sliceBound, asIntOf, Px.run_sizeOf sz_pr, Addr.add]
  · refine ⟨cutAt b o (k * 2) (decide (c = k)), c - k, fun K => ?_, fun h => ⟨b, o, rfl, ?_⟩⟩
    · rw [y_fromL Try.underlying23 sz_pr b o n c .i64 k (by omega) (by omega)]
      simp
    · unfold cutAt
      rw [decide_eq_false (by omega)]; rfl
theorem Rv_left {w0 : World} {h : PH} {A : Option Addr} {xs ys : List Value} (r : Rv w0 h A (xs ++ ys)) : Rv w0 h A xs := fun j u e => r j u (by rw [List.getElem?_append_left (List.getElem?_eq_some_iff.1 e).1]; exact e)
theorem Rv_right {w0 : World} {h : PH} {b o : Nat} {xs ys : List Value} (r : Rv w0 h (some ⟨b, o, none⟩) (xs ++ ys)) : Rv w0 h (some ⟨b, o + xs.length, none⟩) ys := fun j u e => by
  obtain ⟨b', o', h1, h2⟩ := r (xs.length + j) u (by rw [List.getElem?_append_right (by omega)]; simpa using e)
  injection h1 with h1
  injection h1 with h1 h3
  subst h1; subst h3
  exact ⟨b, o + xs.length, rfl, by rw [Nat.add_assoc]; exact h2⟩
theorem prs_app (a b : List Pr) : prs (a ++ b) = prs a ++ prs b := by simp [prs]
def cost (l : List Pr) : Nat := (l.map fun q => q.1.length + q.2.length + 3).sum
theorem cost_app (a b : List Pr) : cost (a ++ b) = cost a + cost b := by simp [cost]
theorem cost_le (l : List Pr) (h : ∀ q ∈ l, q.1.length ≤ 60 ∧ q.2.length ≤ 60) : cost l ≤ 123 * l.length := by
  induction l with
  | nil => simp [cost]
  | cons q l ih =>
    have h1 := h q List.mem_cons_self
    have h2 := ih fun x hx => h x (List.mem_cons_of_mem _ hx)
    have h3 : cost (q :: l) = q.1.length + q.2.length + 3 + cost l := by simp [cost]
    rw [h3, List.length_cons]; omega
theorem header_cost : ∀ (l : List Pr), l ≠ [] → (header l).length + 2 = cost l
  | [], h => absurd rfl h
  | [p], _ => by rw [header_one]; simp [elem, cost]; omega
  | p :: q :: r, _ => by
    have ih := header_cost (q :: r) (by simp)
    have h3 : cost (p :: q :: r) = p.1.length + p.2.length + 3 + cost (q :: r) := by simp [cost]
    rw [header_cons, h3, ← ih]
    have : sepT.length = 2 := rfl
    simp only [List.length_append, elem, List.length_cons, this]; omega
theorem filter_others (l : List Pr) (name : List UInt8) (h : ∀ q ∈ l, q.1 ≠ name) : l.filter (fun p => decide (p.1 = name)) = [] := by
  rw [List.filter_eq_nil_iff]
  intro q hq
  simpa using h q hq
section
variable {H : Type} {enc : TypeId × Value → H} {W : World} {b0 : Nat} {r : Reach} {v : Value} {d : DataW H} {p : List MemPlace}
theorem open_rvs (hv : Value.okWide Try.prog W r b0 23 v) (h : DataW.Trod enc Try.prog W 0 (fun _ => true) true 23 v d p) :
    ∃ (A : Option Addr) (c : Nat) (z : List Pr), v = .slice A z.length c ∧ z.length ≤ c ∧ ∀ h, Rv W h A (prs z) := by
  obtain ⟨A, n, c, xs, rfl, hnc, _, hr, _, hall⟩ := open_rd Try.underlying23 (by rw [c_pr]; omega) hv h
  rw [c_pr] at hr hall
  obtain ⟨z, hz, hzq⟩ := list_of_all (fun i (p : Pr) => (xs.drop (i * 2)).take 2 = pr1 p) n fun i hi => by
    obtain ⟨f, y, hy⟩ := hall i hi
    have hl : ((xs.drop (i * 2)).take 2).length = 2 := by rw [List.length_take, List.length_drop, hr.1]; have : (i + 1) * 2 ≤ n * 2 := Nat.mul_le_mul_right _ hi; omega
    exact open_pair hl hy
  subst hz
  obtain rfl := flat_of_parts pr1 2 z xs hr.1 hzq
  have hr1 : Rd W W.heap.size 1 A (z.length * 2) (z.flatMap pr1) := ⟨by rw [hr.1, Nat.mul_one], fun h => hr.2 (by omega)⟩
  exact ⟨A, c, z, rfl, hnc, fun h => Rv.par hr1 h⟩
theorem struct_cells {P : Program} {t : TypeId} {fs : Array Field} {base : Nat} {spare : Nat → Bool} {held : Bool} (ht : P.underlying t = some (.struct fs)) (hv : Value.okWide P W r b0 t v) (h : DataW.Trod enc P W base spare held t v d p) : ∃ (l : List Value) (n : Nat) (y : DataW H × List MemPlace), v = .agg l.toArray ∧ l.length = P.cellsOf t ∧ DataW.trod enc P W base spare held n t l = some y := by
  obtain ⟨⟨l⟩, rfl, hsz⟩ := okWide_struct ht hv
  obtain ⟨fuel, hf⟩ := h
  exact ⟨l, fuel, _, rfl, by simpa using hsz, hf⟩
theorem open_pv (hv : Value.okWide Try.prog W r b0 31 v) (h : DataW.Trod enc Try.prog W 0 (fun _ => true) true 31 v d p) : ∃ q : Pr, v = .agg (pr1 q).toArray := by
  obtain ⟨l, n, y, rfl, hl, hf⟩ := struct_cells Try.underlying31 hv h
  rw [c_pr] at hl
  obtain ⟨q, rfl⟩ := open_pair hl hf
  exact ⟨q, rfl⟩
end
end Go.Proofs.Ytefkgpcdabmkkaa
