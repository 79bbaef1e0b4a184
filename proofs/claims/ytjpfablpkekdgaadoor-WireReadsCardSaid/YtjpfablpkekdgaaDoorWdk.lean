/- Things that are asked for, as they come in. No condition. -/
import Derived.Test.YtjpfablpkekdgaaDoorWdo
import Derived.Test.YtjpfablpkekdgaaDoorWdi
import Derived.Test.YtjpfablpkekdgaaDoorWdt
namespace Go.Proofs.YtjpfablpkekdgaaDoor
set_option linter.unusedVariables false
set_option linter.unusedSimpArgs false
open Go.ChangeShapes Go.WideShapes Go.ChangeAt Go.RowKit Go.Deep Base Px Wr
set_option maxRecDepth 20000
theorem flat_of_parts {α : Type} (g : α → List Value) (m : Nat) : ∀ (L : List α) (xs : List Value), xs.length = L.length * m → (∀ i p, L[i]? = some p → (xs.drop (i * m)).take m = g p) → xs = L.flatMap g
  | [], xs, hl, _ => List.eq_nil_of_length_eq_zero (by simpa using hl)
  | p :: L, xs, hl, h => by
    have h0 := h 0 p rfl
    rw [Nat.zero_mul, List.drop_zero] at h0
    have ih := flat_of_parts g m L (xs.drop m) (by rw [List.length_drop, hl, List.length_cons, Nat.add_mul]; omega) fun i q hq => by
      have := h (i + 1) q (by simpa using hq)
      rw [List.drop_drop, ← this, Nat.add_mul]
      congr 2
      omega
    rw [List.flatMap_cons, ← ih, ← h0, List.take_append_drop]
def asL (p : Int × Int) : List Value := [.int .i64 p.1, .int .i64 p.2]
theorem c_ask : Tryd.prog.cellsOf 48 = 2 := by kernel_rfl
theorem ask_get (L : List (Int × Int)) (i : Nat) (p : Int × Int) (hp : L[i]? = some p) (j : Nat) (hj : j < 2) : (L.flatMap asL)[i * 2 + j]? = (asL p)[j]? := by
  have h := (flat_chunk asL 2 (fun _ => rfl) L i p hp).1
  rw [← h, List.getElem?_take_of_lt hj, List.getElem?_drop]
section
variable {H : Type} {enc : TypeId × Value → H} {W : World} {b0 : Nat} {r : Reach} {v : Value} {d : DataW H} {p : List MemPlace}
theorem open_ask {l : List Value} (hl : l.length = 2) {f : Nat} {y : DataW H × List MemPlace} (h : DataW.trod enc Tryd.prog W 0 (fun _ => true) true f 48 l = some y) : ∃ p : Int × Int, l = asL p := by
  obtain ⟨ys, m, _, _, _, hyl, hat⟩ := DataW.trod_struct Tryd.underlying48 h
  have hyl2 : ys.length = 2 := hyl
  match l, hl with
  | [c0, c1], _ =>
    have t0 := hat 0 ⟨_, _, _, _, _, _, _⟩ rfl
    have t1 := hat 1 ⟨_, _, _, _, _, _, _⟩ rfl
    simp only [c_int, List.drop_zero, List.drop_succ_cons, List.take_succ_cons, List.take_zero] at t0 t1
    rw [List.getElem?_eq_getElem (by omega)] at t0 t1
    obtain ⟨a0, rfl, _⟩ := trod_i64 Tryd.underlying3 t0
    obtain ⟨a1, rfl, _⟩ := trod_i64 Tryd.underlying3 t1
    exact ⟨(a0, a1), rfl⟩
theorem open_asks (hv : Value.okWide Tryd.prog W r b0 42 v) (h : DataW.Trod enc Tryd.prog W 0 (fun _ => true) true 42 v d p) :
    ∃ (A : Option Addr) (c : Nat) (z : List (Int × Int)), v = .slice A z.length c ∧ z.length ≤ c ∧ ∀ h, Rv W h A (z.flatMap asL) := by
  obtain ⟨A, n, c, xs, rfl, hnc, _, hr, _, hall⟩ := open_rd Tryd.underlying42 (by rw [c_ask]; omega) hv h
  rw [c_ask] at hr hall
  obtain ⟨z, hz, hzq⟩ := list_of_all (fun i (p : Int × Int) => (xs.drop (i * 2)).take 2 = asL p) n fun i hi => by
    obtain ⟨f, y, hy⟩ := hall i hi
    have hl : ((xs.drop (i * 2)).take 2).length = 2 := by rw [List.length_take, List.length_drop, hr.1]; have : (i + 1) * 2 ≤ n * 2 := Nat.mul_le_mul_right _ hi; omega
    exact open_ask hl hy
  subst hz
  obtain rfl := flat_of_parts asL 2 z xs hr.1 hzq
  have hr1 : Rd W W.heap.size 1 A (z.length * 2) (z.flatMap asL) := ⟨by rw [hr.1, Nat.mul_one], fun h => hr.2 (by omega)⟩
  exact ⟨A, c, z, rfl, hnc, fun h => Rv.par hr1 h⟩
end
theorem IS_chg {h h' : PH} {ib rb : Nat} {s s' : List UInt8} {st st' : St} (i : IS h ib s st) (r : RI h rb s' st') (hne : ¬ ib = rb) (c : Chg (· = rb) h h') : IS h' ib s st := by
  cases st with
  | ok t => obtain ⟨a, h1, h2, h3⟩ := i; exact ⟨a, h1, h2, c.m _ _ h3 hne⟩
  | bad p =>
    obtain ⟨a, be, h1, h2, h3, h4⟩ := i
    refine ⟨a, be, h1, h2, c.m _ _ h3 hne, c.m _ _ h4 fun e => ?_⟩
    subst e
    cases st' with
    | ok t => obtain ⟨_, _, _, h5⟩ := r; rw [h4] at h5; injection h5 with h5; injection h5 with h5; simp [codeV] at h5
    | bad q => obtain ⟨_, _, h5⟩ := r; rw [h4] at h5; injection h5 with h5; injection h5 with h5; simp [codeV] at h5
end Go.Proofs.YtjpfablpkekdgaaDoor
