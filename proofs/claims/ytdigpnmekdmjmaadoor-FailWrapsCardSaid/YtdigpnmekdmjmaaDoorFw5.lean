/- FailWraps's own parts: its argument opened, the plain facts on places. No condition. -/
import Derived.Test.YtdigpnmekdmjmaaDoorFw4
import Derived.Test.YtdigpnmekdmjmaaDoorPq
namespace Go.Proofs.YtdigpnmekdmjmaaDoor
set_option linter.unusedVariables false
set_option linter.unusedSimpArgs false
open Go.ChangeShapes Go.WideShapes Go.ChangeAt Go.RowKit Base Px Ac
theorem open_places {H : Type} {enc : TypeId × Value → H} {W : World} {xs : List Value} {n : Nat} (hl : xs.length = n * Tryd.prog.cellsOf 27)
    (hall : ∀ i, i < n → ∃ f y, DataW.trod enc Tryd.prog W 0 (fun _ => true) true f 27 ((xs.drop (i * Tryd.prog.cellsOf 27)).take (Tryd.prog.cellsOf 27)) = some y) :
    ∃ L : List (List UInt8 × Int), L.length = n ∧ ∀ (i : Nat) (p : List UInt8 × Int), L[i]? = some p → xs[i * 2 + 0]? = some (str p.1) ∧ xs[i * 2 + 1]? = some (.int .i64 p.2) := by
  refine list_of_all _ n fun i hi => ?_
  have hf := rd_fields Tryd.underlying27 (by kernel_rfl) (by kernel_rfl) hl hall i
  obtain ⟨u, f, y, hu, hy⟩ := hf 0 _ hi rfl
  obtain ⟨v, g, z, hv, hz⟩ := hf 1 _ hi rfl
  obtain ⟨s, rfl, _⟩ := trod_str Tryd.underlying9 hy
  obtain ⟨a, rfl, _⟩ := trod_i64 Tryd.underlying3 hz
  exact ⟨(s, a), hu, hv⟩
theorem placesP_of {W : World} {A : Option Addr} {n : Nat} {xs : List Value} {L : List (List UInt8 × Int)} (hr : Rd W W.heap.size 2 A n xs) (hL : L.length = n) (hx : ∀ (i : Nat) (p : List UInt8 × Int), L[i]? = some p → xs[i * 2 + 0]? = some (str p.1) ∧ xs[i * 2 + 1]? = some (.int .i64 p.2)) : PlacesP W A L := fun i s a hi => by
  have hn : 0 < n := by have := (List.getElem?_eq_some_iff.1 hi).1; omega
  obtain ⟨b, o, rfl⟩ := rd_param_addr hr hn
  obtain ⟨hb, hrd⟩ := rd_param hr hn
  obtain ⟨h1, h2⟩ := hx i _ hi
  exact ⟨b, o, rfl, hb, hrd _ _ h1, by rw [Nat.add_assoc]; exact hrd _ _ h2⟩
def mkE (k : Int) : List (List UInt8 × Int) → Er
  | [] => .code k
  | (s, a) :: l => .wrap s a (mkE k l)
theorem mkE_num (k : Int) : ∀ l, (mkE k l).num = k
  | [] => rfl
  | (s, a) :: l => by show (mkE k l).num = k; exact mkE_num k l
theorem mkE_ev {k : Int} (hk : k ≠ 0) {h : PH} : ∀ {l : List (List UInt8 × Int)} {v : Value}, CV h (mk k l) v → EV h (mkE k l) v
  | [], v, hv => by rw [mk, if_neg hk] at hv; exact hv
  | (s, a) :: l, v, hv => by
    rw [mk_cons hk] at hv
    obtain ⟨b, u, h1, h2, h3⟩ := hv
    exact ⟨b, u, h1, h2, mkE_ev hk h3⟩
theorem mk_trail {k : Int} (hk : k ≠ 0) : ∀ (n : Nat) (l : List (List UInt8 × Int)), Ch.trail n (mk k l) = (l.map (·.1)).take n
  | 0, l => by cases h : mk k l <;> simp [Ch.trail]
  | n + 1, [] => by rw [mk, if_neg hk]; rfl
  | n + 1, (s, a) :: l => by
    rw [mk_cons hk]
    simp [Ch.trail, mk_trail hk n l]
end Go.Proofs.YtdigpnmekdmjmaaDoor
