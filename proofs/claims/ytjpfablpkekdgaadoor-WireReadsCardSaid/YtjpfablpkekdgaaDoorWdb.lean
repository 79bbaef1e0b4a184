/- What a writer has behind it: the plain law of one thing. No condition. -/
import Derived.Test.YtjpfablpkekdgaaDoorWr7
namespace Go.Proofs.YtjpfablpkekdgaaDoor
set_option linter.unusedVariables false
set_option linter.unusedSimpArgs false
open Go.RowKit Px Wr
theorem allOne_of (l : List Value) (h : (l.all fun v => v.oneCell') = true) : allOne l := fun v hv => List.all_eq_true.1 h v hv
def textB (y : List UInt8) : List UInt8 := numB y.length ++ y
theorem putM_ok (l y : List UInt8) (h : l.length + y.length ≤ 65536) : putM (l, none) y = (l ++ y, none) := by
  unfold putM; rw [if_neg (by simp), if_neg (by simp only; omega)]
theorem numM_ok (l : List UInt8) (n : Int) (h0 : 0 ≤ n) (h1 : n ≤ 1099511627776) (h : l.length ≤ 60000) : numM (l, none) n = (l ++ numB n.toNat, none) := by
  unfold numM
  have := numB_len9 (n := n.toNat) (by omega)
  rw [if_neg (by simp), if_neg (by omega), putM_ok _ _ (by omega)]
theorem textM_ok (l y : List UInt8) (h1 : y.length ≤ 1000) (h : l.length ≤ 60000) : textM (l, none) y = (l ++ textB y, none) := by
  unfold textM textB
  have := numB_len9 (n := y.length) (by omega)
  rw [putM_ok _ _ (by simp; omega)]
theorem flagM_ok (l : List UInt8) (b : Bool) (h : l.length ≤ 60000) : flagM (l, none) b = (l ++ flagB b, none) := by
  unfold flagM flagB
  cases b
  · exact numM_ok l 0 (by omega) (by omega) h
  · exact numM_ok l 1 (by omega) (by omega) h
theorem trim_up {v : List Int} {a b : Int} (h : trim v a = true) (hab : a ≤ b) : trim v b = true := by
  rw [trim_iff] at h ⊢
  exact ⟨h.1, h.2.1, fun j hj => by have := h.2.2 j hj; omega⟩
theorem vecB_len {v : List Int} (h : trim v 1099511627776 = true) : (vecB v).length ≤ 160 := by
  unfold vecB
  have h1 := trim_len h
  have h2 := numB_len9 (n := v.length) (by omega)
  have h3 := flat_len_le v (fun n hn => by have := trim_all h n hn; omega)
  simp only [List.length_append]; omega
theorem vecM_ok (l : List UInt8) (v : List Int) (h1 : trim v 1099511627776 = true) (h : l.length ≤ 60000) : vecM (l, none) v = (l ++ vecB v, none) := by
  unfold vecM
  have := vecB_len h1
  rw [if_neg (by simp), if_pos (trim_up h1 (by omega)), putM_ok _ _ (by omega)]
theorem OS.init {h : PH} {ob : Nat} (hb : h.top ≤ ob) : OS h (h.new ob ⟨[.slice none 0 0, .nilIface], 2⟩) ob ([], none) :=
  ⟨(PH.Le.refl h).new _ _ hb, hb, by simp, none, 0, .nilIface, by rw [PH.new_m, if_pos rfl]; rfl, Own.nil _ 1, (fun a e => by cases e), rfl⟩
end Go.Proofs.YtjpfablpkekdgaaDoor
