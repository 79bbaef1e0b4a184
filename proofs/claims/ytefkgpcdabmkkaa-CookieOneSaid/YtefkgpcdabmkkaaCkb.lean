/- Lists of pairs, as they come in. No condition. -/
import Derived.Test.YtefkgpcdabmkkaaCke
import Derived.Test.YtefkgpcdabmkkaaCkc
import Derived.Test.YtefkgpcdabmkkaaPq
namespace Go.Proofs.Ytefkgpcdabmkkaa
set_option linter.unusedVariables false
set_option linter.unusedSimpArgs false
open Go.ChangeShapes Go.WideShapes Go.ChangeAt Go.RowKit Go.Deep Base Px Ck
set_option maxRecDepth 20000
theorem flat_of_parts {α : Type} (g : α → List Value) (m : Nat) : ∀ (L : List α) (xs : List Value), xs.length = L.length * m → (∀ i p, L[i]? = some p → (xs.drop (i * m)).take m = g p) → xs = L.flatMap g
  | [], xs, hl, _ => List.eq_nil_of_length_eq_zero (by simpa using hl)
  | p :: L, xs, hl, h => by
    have h0 := h 0 p rfl
    rw [Nat.zero_mul, List.drop_zero] at h0
    have ih := flat_of_parts g m L (xs.drop m) (by rw [List.length_drop, hl, List.length_cons, Nat.add_mul]; omega) fun i q hq => by
      have := h (i + 1) q (by simpa using hq)
      rw [List.drop_drop, ← this, Nat.add_mul]
      congr 2
      omega
    rw [List.flatMap_cons, ← ih, ← h0, List.take_append_drop]
theorem header_le {l : List Pr} (h1 : l.length ≤ 100) (h2 : ∀ p ∈ l, p.1.length ≤ 1000 ∧ p.2.length ≤ 1000) : (header l).length ≤ 1000000 := by
  unfold header
  cases l with
  | nil => simp [Lib.join]
  | cons p r =>
    rw [List.map_cons, Lib.join_cons, List.length_append]
    have h3 := h2 p List.mem_cons_self
    have h4 := joinTail_len sepT (r.map elem) 2001 fun x hx => by
      obtain ⟨q, hq, rfl⟩ := List.mem_map.1 hx
      have := h2 q (List.mem_cons_of_mem _ hq)
      unfold elem; simp only [List.length_append, List.length_cons]; omega
    have h5 : sepT.length = 2 := rfl
    rw [List.length_map, h5] at h4
    simp only [List.length_cons] at h1
    have h6 : (elem p).length ≤ 2001 := by unfold elem; simp only [List.length_append, List.length_cons]; omega
    have h7 : r.length * (2 + 2001) ≤ 100 * (2 + 2001) := Nat.mul_le_mul_right _ (by omega)
    omega
theorem c_str : Try.prog.cellsOf 9 = 1 := by kernel_rfl
theorem c_pr : Try.prog.cellsOf 31 = 2 := by kernel_rfl
theorem Prs_of_rv {w : World} {A : Option Addr} {l : List Pr} (hr : ∀ h, Rv w h A (prs l)) (h : PH) : Prs w h A l := fun i p e => by
  have hi := (List.getElem?_eq_some_iff.1 e).1
  obtain ⟨b, o, hA⟩ := (hr h).addr (by rw [prs_length]; omega)
  subst hA
  refine ⟨b, o, rfl, fun h' _ hl => ?_⟩
  have hc : Rv w h' (some ⟨b, o + i * 2, none⟩) (pr1 p) := fun j u eu => by
    have hj : j < 2 := (List.getElem?_eq_some_iff.1 eu).1
    have e2 := prs_get l i p e j hj
    rw [eu] at e2
    obtain ⟨b', o', h1, h2⟩ := hr h' (i * 2 + j) u e2
    injection h1 with h1
    injection h1 with h1 h3
    subst h1; subst h3
    exact ⟨b, o + i * 2, rfl, by rw [Nat.add_assoc]; exact h2⟩
  exact hc.rdN hl rfl (by omega)
theorem Rv.par {w : World} {n : Nat} {A : Option Addr} {xs : List Value} (hr : Rd w w.heap.size 1 A n xs) (h : PH) : Rv w h A xs := fun j u e => by
  obtain ⟨b, o, h1, h2, h3⟩ := Rd.rv hr h j u e
  exact ⟨b, o, h1, .inr ⟨h2, h3⟩⟩
section
variable {H : Type} {enc : TypeId × Value → H} {W : World} {b0 : Nat} {r : Reach} {v : Value} {d : DataW H} {p : List MemPlace}
theorem open_pair {l : List Value} (hl : l.length = 2) {f : Nat} {y : DataW H × List MemPlace} (h : DataW.trod enc Try.prog W 0 (fun _ => true) true f 31 l = some y) : ∃ p : Pr, l = pr1 p := by
  obtain ⟨ys, m, _, _, _, hyl, hat⟩ := DataW.trod_struct Try.underlying31 h
  have hyl2 : ys.length = 2 := hyl
  match l, hl with
  | [c0, c1], _ =>
    have t0 := hat 0 ⟨_, _, _, _, _, _, _⟩ rfl
    have t1 := hat 1 ⟨_, _, _, _, _, _, _⟩ rfl
    simp only [c_str, List.drop_zero, List.drop_succ_cons, List.take_succ_cons, List.take_zero] at t0 t1
    rw [List.getElem?_eq_getElem (by omega)] at t0 t1
    obtain ⟨a0, rfl, _⟩ := trod_str Try.underlying9 t0
    obtain ⟨a1, rfl, _⟩ := trod_str Try.underlying9 t1
    exact ⟨(a0, a1), rfl⟩
theorem open_pairs (hv : Value.okWide Try.prog W r b0 23 v) (h : DataW.Trod enc Try.prog W 0 (fun _ => true) true 23 v d p) :
    ∃ (A : Option Addr) (c : Nat) (z : List Pr), v = .slice A z.length c ∧ z.length ≤ c ∧ ∀ h, Prs W h A z := by
  obtain ⟨A, n, c, xs, rfl, hnc, _, hr, _, hall⟩ := open_rd Try.underlying23 (by rw [c_pr]; omega) hv h
  rw [c_pr] at hr hall
  obtain ⟨z, hz, hzq⟩ := list_of_all (fun i (p : Pr) => (xs.drop (i * 2)).take 2 = pr1 p) n fun i hi => by
    obtain ⟨f, y, hy⟩ := hall i hi
    have hl : ((xs.drop (i * 2)).take 2).length = 2 := by rw [List.length_take, List.length_drop, hr.1]; have : (i + 1) * 2 ≤ n * 2 := Nat.mul_le_mul_right _ hi; omega
    exact open_pair hl hy
  subst hz
  obtain rfl := flat_of_parts pr1 2 z xs hr.1 hzq
  have hr1 : Rd W W.heap.size 1 A (z.length * 2) (z.flatMap pr1) := ⟨by rw [hr.1, Nat.mul_one], fun h => hr.2 (by omega)⟩
  exact ⟨A, c, z, rfl, hnc, Prs_of_rv fun h => Rv.par hr1 h⟩
end
end Go.Proofs.Ytefkgpcdabmkkaa
