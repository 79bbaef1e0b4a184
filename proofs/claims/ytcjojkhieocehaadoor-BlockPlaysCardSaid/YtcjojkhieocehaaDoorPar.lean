/- Arguments that are lists of texts: what is read of them. No condition. -/
import Derived.Test.YtcjojkhieocehaaDoorPb
import Derived.Test.YtcjojkhieocehaaDoorBase
namespace Go.Proofs.YtcjojkhieocehaaDoor
set_option linter.unusedVariables false
set_option linter.unusedSimpArgs false
open Go.ChangeShapes Go.WideShapes Go.ChangeAt Go.RowKit Base Px
theorem trod_str {H : Type} {enc : TypeId × Value → H} {w : World} {base : Nat} {spare : Nat → Bool} {held : Bool} {n : Nat} {t : TypeId} {u : Value} {y : DataW H × List MemPlace} (ht : Tryd.prog.underlying t = some .string) (h : DataW.trod enc Tryd.prog w base spare held n t [u] = some y) : ∃ l : List UInt8, u = str l ∧ l.length ≤ maxLen := by
  obtain ⟨s, h1, _, h2⟩ := DataW.trod_string ht h
  simp at h1
  subst h1
  exact ⟨s.data.toList, rfl, h2⟩
theorem rd_strs {H : Type} {enc : TypeId × Value → H} {W : World} {e : TypeId} {xs : List Value} {n : Nat} (he : Tryd.prog.underlying e = some .string) (hC : Tryd.prog.cellsOf e = 1) (hl : xs.length = n * Tryd.prog.cellsOf e)
    (hall : ∀ i, i < n → ∃ f y, DataW.trod enc Tryd.prog W 0 (fun _ => true) true f e ((xs.drop (i * Tryd.prog.cellsOf e)).take (Tryd.prog.cellsOf e)) = some y) :
    ∃ zs : List (List UInt8), xs = zs.map str := by
  rw [hC, Nat.mul_one] at hl
  have hx : ∀ i (h : i < xs.length), ∃ z, xs[i] = str z := by
    intro i h
    obtain ⟨f, y, hy⟩ := hall i (by omega)
    have h1 : (xs.drop i).take 1 = [xs[i]] := by rw [List.drop_eq_getElem_cons h]; rfl
    rw [hC, Nat.mul_one, h1] at hy
    obtain ⟨z, hz, _⟩ := trod_str he hy
    exact ⟨z, hz⟩
  clear hall hl
  induction xs with
  | nil => exact ⟨[], rfl⟩
  | cons x xs ih =>
    obtain ⟨z, hz⟩ := hx 0 (by simp)
    obtain ⟨zs, hzs⟩ := ih (fun i h => hx (i + 1) (by simpa using h))
    simp at hz
    exact ⟨z :: zs, by rw [hz, hzs]; rfl⟩
theorem rd_param {w : World} {sz n b o : Nat} {xs : List Value} (hr : Rd w w.heap.size sz (some ⟨b, o, none⟩) n xs) (hn : 0 < n) : b < w.heap.size ∧ ∀ j u, xs[j]? = some u → rdM w none b (o + j) = some u := by
  obtain ⟨b', o', e, hb, hc⟩ := hr.2 hn
  have e := Option.some.inj e
  injection e with e1 e2 e3
  subst e1; subst e2
  exact ⟨hb, fun j u hj => by unfold rdM; simp only; rw [if_pos hb]; exact hc j u hj⟩
theorem rd_param_addr {w : World} {sz n : Nat} {A : Option Addr} {xs : List Value} (hr : Rd w w.heap.size sz A n xs) (hn : 0 < n) : ∃ b o, A = some ⟨b, o, none⟩ := by
  obtain ⟨b, o, h, _⟩ := hr.2 hn; exact ⟨b, o, h⟩
end Go.Proofs.YtcjojkhieocehaaDoor
