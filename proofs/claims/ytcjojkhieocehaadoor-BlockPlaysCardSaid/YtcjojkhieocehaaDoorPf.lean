/- Slices of known cells. No condition. -/
import Derived.Test.YtcjojkhieocehaaDoorPe
namespace Go.Proofs.YtcjojkhieocehaaDoor.Px
set_option linter.unusedVariables false
set_option linter.unusedSimpArgs false
open Go.RowKit
/-- A slice whose cells are known, in a known block. -/
def Kn (h : PH) (v : Value) (l : List Value) : Prop := ∃ b o c X lim, v = .slice (some ⟨b, o, none⟩) l.length c ∧ l.length ≤ c ∧ h.m b = some ⟨X, lim⟩ ∧ o + l.length ≤ X.length ∧ (X.drop o).take l.length = l
theorem Kn.more {h h' : PH} {v : Value} {l : List Value} (k : Kn h v l) (hl : PH.Le h h') : Kn h' v l := by
  obtain ⟨b, o, c, X, lim, h1, h2, h3, h4, h5⟩ := k
  exact ⟨b, o, c, X, lim, h1, h2, hl.m _ _ h3, h4, h5⟩
theorem Kn.blk {h : PH} {b c lim : Nat} {X : List Value} (hb : h.m b = some ⟨X, lim⟩) (hc : X.length ≤ c) : Kn h (.slice (some ⟨b, 0, none⟩) X.length c) X :=
  ⟨b, 0, c, X, lim, rfl, hc, hb, by omega, by simp⟩
theorem Kn.rs {w0 : World} {h : PH} {A : Option Addr} {n c : Nat} {l : List Value} (k : Kn h (.slice A n c) l) : Rs w0 h 1 A n l := by
  obtain ⟨b, o, c', X, lim, h1, h2, h3, h4, h5⟩ := k
  injection h1 with e1 e2 e3
  subst e1; subst e2
  refine ⟨by omega, fun _ => ⟨_, rfl, ?_⟩⟩
  unfold rdN
  simp only [h3]
  rw [if_pos ⟨trivial, by omega⟩, Nat.mul_one, h5]
theorem Kn.get {X : List Value} {o n : Nat} {l : List Value} (hX : (X.drop o).take l.length = l) {j : Nat} (hj : j < l.length) : X[o + j]? = l[j]? := by
  have h := congrArg (fun l => l[j]?) hX
  simp only [List.getElem?_take_of_lt hj, List.getElem?_drop] at h
  exact h
theorem bs_get (l : List UInt8) (j : Nat) (hj : j < l.length) : (bs l)[j]? = some (u8 (l.getD j 0)) := by
  simp [bs, List.getElem?_eq_getElem hj, List.getD]
section
variable {P : Program} {w0 : World} {h : PH} {t u e ty : TypeId} {z : Value} {by_ : Nat} {K : Value → PH → Prop}
/-- Appending nothing. -/
theorem Does_app0 {n c c' : Nat} {A A' : Option Addr} (hE : El P t e z 1 by_) (hn : n ≤ c) (hk : K (.slice A n c) h) : Does P w0 h (Builtin.append_ #[t, t] ty #[.slice A n c, .slice A' 0 c']) K := by
  intro w s
  obtain ⟨i, hi, hz, hsi, hby⟩ := hE.info
  refine ⟨_, w, h, ?_, hk, s⟩
  cases A <;> cases A' <;> simp [Builtin.append_, run_underlying hE.under, sizeOf, typeInfo, hi, Builtin.lenOf, Builtin.firstCells, loadCells, loadCellsFrom, Sem.run_pure, hn, storeCells]
theorem Does_app0T {n c : Nat} {A : Option Addr} (hE : El P t e (.int .u8 0) 1 1) (hu : P.underlying u = some .string) (hn : n ≤ c) (hk : K (.slice A n c) h) : Does P w0 h (Builtin.append_ #[t, u] ty #[.slice A n c, str []]) K := by
  intro w s
  obtain ⟨i, hi, hz, hsi, hby⟩ := hE.info
  refine ⟨_, w, h, ?_, hk, s⟩
  have hf := Lib.run_firstCells_string (P := P) w 1 ⟨([] : List UInt8).toArray⟩
  rw [cells_str, size_mk] at hf
  simp only [List.length_nil] at hf
  unfold str
  cases A <;> simp [Builtin.append_, run_underlying hE.under, run_underlying hu, sizeOf, typeInfo, hi, hsi, Builtin.lenOf, size_mk, hf, hn, storeCells, bs]
/-- Two slices behind one another, the first one without room: a slice that is known. -/
theorem Does_cat {n m c : Nat} {b o lim : Nat} {A : Option Addr} {X xs ys : List Value} (hE : El P t e z 1 by_) (hb : h.m b = some ⟨X, lim⟩) (ho : o + n ≤ X.length) (hX : (X.drop o).take n = xs) (hys : Kn h (.slice A m c) ys) (hsz : n + m ≤ maxLen) (hby : (n + m) * by_ ≤ 140737488355328)
    (hk : ∀ v' h', Kn h' v' (xs ++ ys) → PH.Le h h' → K v' h') : Does P w0 h (Builtin.append_ #[t, t] ty #[.slice (some ⟨b, o, none⟩) n n, .slice A m c]) K := by
  have hrs := hys.rs (w0 := w0)
  have hxl : xs.length = n := by rw [← hX]; simp; omega
  have hyl : ys.length = m := by have := hrs.1; omega
  rcases Nat.eq_zero_or_pos m with h0 | h0
  · have hy : ys = [] := List.eq_nil_of_length_eq_zero (by omega)
    subst hy
    subst h0
    refine Does_app0 hE (Nat.le_refl _) (hk _ _ ?_ (PH.Le.refl h))
    rw [List.append_nil]
    exact ⟨b, o, n, X, lim, by rw [hxl], by omega, hb, by omega, by rw [hxl, hX]⟩
  · refine Does_grow hE (xs := xs) ?_ hrs h0 (by omega) hsz hby fun b' c' g1 g2 g3 => ?_
    · unfold rdN; simp only [hb]; rw [if_pos ⟨trivial, by omega⟩, Nat.mul_one, hX]
    · refine hk _ _ ?_ ((PH.Le.refl h).new _ _ g1)
      have hl : (xs ++ ys).length = n + m := by simp; omega
      have := Kn.blk (h := h.new b' ⟨xs ++ ys, c' * 1⟩) (b := b') (c := c') (lim := c' * 1) (X := xs ++ ys) (by rw [PH.new_m, if_pos rfl]) (by omega)
      rwa [hl] at this
/-- .. a text behind a slice. -/
theorem Does_catT {n : Nat} {b o lim : Nat} {X xs : List Value} {l : List UInt8} (hE : El P t e (.int .u8 0) 1 1) (hu : P.underlying u = some .string) (hb : h.m b = some ⟨X, lim⟩) (ho : o + n ≤ X.length) (hX : (X.drop o).take n = xs) (hsz : n + l.length ≤ 1000000000)
    (hk : ∀ v' h', Kn h' v' (xs ++ bs l) → PH.Le h h' → K v' h') : Does P w0 h (Builtin.append_ #[t, u] ty #[.slice (some ⟨b, o, none⟩) n n, str l]) K := by
  have hxl : xs.length = n := by rw [← hX]; simp; omega
  rcases Nat.eq_zero_or_pos l.length with h0 | h0
  · have hy : l = [] := List.eq_nil_of_length_eq_zero h0
    subst hy
    refine Does_app0T hE hu (Nat.le_refl _) (hk _ _ ?_ (PH.Le.refl h))
    rw [show bs [] = [] from rfl, List.append_nil]
    exact ⟨b, o, n, X, lim, by rw [hxl], by omega, hb, by omega, by rw [hxl, hX]⟩
  · refine Does_growT hE hu (xs := xs) ?_ (by omega) hsz fun b' c' g1 g2 g3 => ?_
    · unfold rdN; simp only [hb]; rw [if_pos ⟨trivial, by omega⟩, hX]
    · refine hk _ _ ?_ ((PH.Le.refl h).new _ _ g1)
      have hl : (xs ++ bs l).length = n + l.length := by rw [List.length_append, bs_length]; omega
      have := Kn.blk (h := h.new b' ⟨xs ++ bs l, c'⟩) (b := b') (c := c') (lim := c') (X := xs ++ bs l) (by rw [PH.new_m, if_pos rfl]) (by omega)
      rwa [hl] at this
end
end Go.Proofs.YtcjojkhieocehaaDoor.Px
