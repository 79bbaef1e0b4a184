/- BlockKeeps' arguments; a device that only grows and is cut. No condition. -/
import Derived.Test.YtcjojkhieocehaaDoorBk9
import Derived.Test.YtcjojkhieocehaaDoorBk6
import Derived.Test.YtcjojkhieocehaaDoorPq
namespace Go.Proofs.YtcjojkhieocehaaDoor
set_option linter.unusedVariables false
set_option linter.unusedSimpArgs false
open Go.ChangeShapes Go.WideShapes Go.ChangeAt Go.RowKit Go.Deep Base Px
set_option maxRecDepth 20000
theorem DS_le {h0 h : PH} {b : Nat} {d : Dk} (hd : DS h0 h b d) : PH.Le h0 h := ⟨hd.top, hd.same⟩
def dk (l : List UInt8) (s : Nat) : Dk := ⟨l, s, 1048576, -1, false⟩
theorem dk_good {l : List UInt8} {s : Nat} (h : l.length ≤ 1048576) (hs : s ≤ l.length) : Good (dk l s) := ⟨by simp [dk], by simp [dk]; omega, h, by simp [dk], by simp [dk], by simp [dk]⟩
theorem dk_op (l : List UInt8) (s : Nat) : (dk l s).op = (dk l s, true) := by unfold Dk.op dk; simp
theorem dk_append {l y : List UInt8} {s : Nat} (h : l.length + y.length ≤ 1048576) : (dk l s).append y = (dk (l ++ y) s, none) := by
  unfold Dk.append
  rw [dk_op, if_neg (by simp [dk]; omega), if_pos rfl]; rfl
theorem dk_sync (l : List UInt8) (s : Nat) : (dk l s).sync = (dk l l.length, none) := by unfold Dk.sync; rw [dk_op, if_pos rfl]; rfl
theorem dk_cut (l : List UInt8) (n : Int) : ∃ l', l'.length ≤ l.length ∧ ((dk l 0).cut n).1 = dk l' 0 := by
  unfold Dk.cut
  split
  · exact ⟨l, Nat.le_refl _, rfl⟩
  · rename_i hn
    rw [dk_op, if_pos rfl]
    refine ⟨l.take n.toNat, by rw [List.length_take]; omega, ?_⟩
    have : ¬ n < 0 := fun h => hn ⟨rfl, .inl h⟩
    simp [dk, this]
theorem c_int : Tryd.prog.cellsOf 3 = 1 := by kernel_rfl
theorem c_str : Tryd.prog.cellsOf 9 = 1 := by kernel_rfl
theorem c_op : Tryd.prog.cellsOf 36 = 4 := by kernel_rfl
theorem Rv.par {w : World} {n : Nat} {A : Option Addr} {xs : List Value} (hr : Rd w w.heap.size 1 A n xs) (h : PH) : Rv w h A xs := fun j u e => by
  obtain ⟨b, o, h1, h2, h3⟩ := Rd.rv hr h j u e
  exact ⟨b, o, h1, .inr ⟨h2, h3⟩⟩
theorem flat_of_parts {α : Type} (g : α → List Value) (m : Nat) : ∀ (L : List α) (xs : List Value), xs.length = L.length * m → (∀ i p, L[i]? = some p → (xs.drop (i * m)).take m = g p) → xs = L.flatMap g
  | [], xs, hl, _ => List.eq_nil_of_length_eq_zero (by simpa using hl)
  | p :: L, xs, hl, h => by
    have h0 := h 0 p rfl
    rw [Nat.zero_mul, List.drop_zero] at h0
    have ih := flat_of_parts g m L (xs.drop m) (by rw [List.length_drop, hl, List.length_cons, Nat.add_mul]; omega) fun i q hq => by
      have := h (i + 1) q (by simpa using hq)
      rw [List.drop_drop, ← this, Nat.add_mul]
      congr 2
      omega
    rw [List.flatMap_cons, ← ih, ← h0, List.take_append_drop]
section
variable {H : Type} {enc : TypeId × Value → H} {W : World} {b0 : Nat} {r : Reach} {v : Value} {d : DataW H} {p : List MemPlace}
theorem open_opc {l : List Value} (hl : l.length = 4) {f : Nat} {y : DataW H × List MemPlace} (h : DataW.trod enc Tryd.prog W 0 (fun _ => true) true f 36 l = some y) : ∃ p : On, l = opL p := by
  obtain ⟨ys, m, _, _, _, hyl, hat⟩ := DataW.trod_struct Tryd.underlying36 h
  have hyl2 : ys.length = 4 := hyl
  match l, hl with
  | [c0, c1, c2, c3], _ =>
    have t0 := hat 0 ⟨_, _, _, _, _, _, _⟩ rfl
    have t1 := hat 1 ⟨_, _, _, _, _, _, _⟩ rfl
    have t2 := hat 2 ⟨_, _, _, _, _, _, _⟩ rfl
    have t3 := hat 3 ⟨_, _, _, _, _, _, _⟩ rfl
    simp only [c_int, c_str, List.drop_zero, List.drop_succ_cons, List.take_succ_cons, List.take_zero] at t0 t1 t2 t3
    rw [List.getElem?_eq_getElem (by omega)] at t0 t1 t2 t3
    obtain ⟨a0, rfl, _⟩ := trod_i64 Tryd.underlying3 t0
    obtain ⟨a1, rfl, _⟩ := trod_str Tryd.underlying9 t1
    obtain ⟨a2, rfl, _⟩ := trod_i64 Tryd.underlying3 t2
    obtain ⟨a3, rfl, _⟩ := trod_i64 Tryd.underlying3 t3
    exact ⟨(a0, a1, a2, a3), rfl⟩
end
end Go.Proofs.YtcjojkhieocehaaDoor
