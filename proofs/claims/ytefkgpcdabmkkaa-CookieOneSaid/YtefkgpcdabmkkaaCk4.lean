/- A header byte by byte: the plain law of the document's reader. No condition. -/
import Derived.Test.YtefkgpcdabmkkaaCk2
namespace Go.Proofs.Ytefkgpcdabmkkaa
set_option linter.unusedVariables false
set_option linter.unusedSimpArgs false
open Go.RowKit Px Tx Ck
theorem pars_stop {n : Nat} {t a q : List UInt8} (ht : t = a ++ q) (hp : a.all tokc = true) (hs : q = [] ∨ ∃ c r, q = c :: r ∧ tokc c = false) (h : a = [] ∨ q.head? ≠ some 61) : pars (n + 1) t = .inr q.length := by
  have htw : t.takeWhile tokc = a := by rw [ht]; exact tw_app tokc a q hp hs
  unfold pars
  rw [htw, show t.drop a.length = q by rw [ht, List.drop_left], if_pos h]
theorem pars_val {n : Nat} {t a v q : List UInt8} (ht : t = a ++ 61 :: (v ++ q)) (ha : a ≠ []) (hp : a.all tokc = true) (hv : v.all oct = true) (hs : q = [] ∨ ∃ c r, q = c :: r ∧ oct c = false) :
    pars (n + 1) t = if q = [] then .inl [(a, v)] else if q.head? ≠ some 59 then .inr q.length else if q.tail.head? ≠ some 32 then .inr (q.length - 1) else pmap [(a, v)] (pars n q.tail.tail) := by
  have htw : t.takeWhile tokc = a := by rw [ht]; exact tw_app tokc a _ hp (.inr ⟨61, _, rfl, tok61⟩)
  have hd : t.drop a.length = 61 :: (v ++ q) := by rw [ht, List.drop_left]
  have hvw : (v ++ q).takeWhile oct = v := tw_app oct v q hv hs
  have hdr : (v ++ q).drop v.length = q := List.drop_left
  conv => lhs; unfold pars
  rw [htw, hd, if_neg (by simp [ha])]
  simp only [List.tail_cons, hvw, hdr]
  by_cases h1 : q = []
  · rw [if_pos h1, if_pos h1]
  rw [if_neg h1, if_neg h1]
  by_cases h2 : q.head? ≠ some 59
  · rw [if_pos h2, if_pos h2]
  rw [if_neg h2, if_neg h2]
  by_cases h3 : q.tail.head? ≠ some 32
  · rw [if_pos h3, if_pos h3]
  rw [if_neg h3, if_neg h3]
  cases pars n q.tail.tail <;> rfl
theorem pmap_nil (x : List Pr ⊕ Nat) : pmap [] x = x := by cases x <;> rfl
theorem pmap_pmap (a : List Pr) (p : Pr) (x : List Pr ⊕ Nat) : pmap a (pmap [p] x) = pmap (a ++ [p]) x := by cases x <;> simp [pmap]
theorem drop_split (s : List UInt8) {fr i : Nat} (h : fr ≤ i) : s.drop fr = (s.drop fr).take (i - fr) ++ s.drop i := by
  conv => lhs; rw [← List.take_append_drop (i - fr) (s.drop fr), List.drop_drop, show fr + (i - fr) = i by omega]
theorem drop_at {s : List UInt8} {i : Nat} (h : i < s.length) : s.drop i = s.getD i 0 :: s.drop (i + 1) := by
  rw [List.drop_eq_getElem_cons h, List.getD, List.getElem?_eq_getElem h]; rfl
theorem take_one_more {s : List UInt8} {fr i : Nat} (h : fr ≤ i) (hi : i < s.length) : (s.drop fr).take (i + 1 - fr) = (s.drop fr).take (i - fr) ++ [s.getD i 0] := by
  rw [show i + 1 - fr = i - fr + 1 by omega, List.take_add_one, List.getElem?_drop, show fr + (i - fr) = i by omega, List.getElem?_eq_getElem hi, List.getD, List.getElem?_eq_getElem hi]
  rfl
def R0 (s : List UInt8) (out : List Pr) (i fr : Nat) : Prop := fr ≤ i ∧ ((s.drop fr).take (i - fr)).all tokc = true ∧ ∃ m, (s.drop fr).length < m ∧ parse s = pmap out (pars m (s.drop fr))
def R1 (s : List UInt8) (out : List Pr) (i fr : Nat) (nm : List UInt8) : Prop := fr ≤ i ∧ nm ≠ [] ∧ nm.all tokc = true ∧ ((s.drop fr).take (i - fr)).all oct = true ∧ ∃ m, (nm ++ 61 :: s.drop fr).length < m ∧ parse s = pmap out (pars m (nm ++ 61 :: s.drop fr))
def R2 (s : List UInt8) (out : List Pr) (i : Nat) : Prop := ∃ m, (s.drop i).length < m ∧ parse s = if (s.drop i).head? ≠ some 32 then .inr (s.drop i).length else pmap out (pars m (s.drop i).tail)
section
variable {s : List UInt8} {out : List Pr} {i fr : Nat} {nm : List UInt8}
theorem R0.init (h : s ≠ []) : R0 s [] 0 0 := ⟨by omega, by simp, s.length + 1, by simp, by rw [pmap_nil, List.drop_zero]; unfold parse; rw [if_neg h]⟩
theorem R0.step (r : R0 s out i fr) (hi : i < s.length) (hc : tokc (s.getD i 0) = true) : R0 s out (i + 1) fr :=
  ⟨by have := r.1; omega, by rw [take_one_more r.1 hi, List.all_append, r.2.1]; simp only [List.all_cons, List.all_nil, hc, Bool.and_self], r.2.2⟩
theorem R0.bad (r : R0 s out i fr) (hi : i < s.length) (hc : tokc (s.getD i 0) = false) (h : s.getD i 0 ≠ 61 ∨ i = fr) : parse s = .inr (s.length - i) := by
  obtain ⟨h1, h2, m, h3, h4⟩ := r
  obtain ⟨m, rfl⟩ : ∃ k, m = k + 1 := ⟨m - 1, by omega⟩
  rw [h4, pars_stop (drop_split s h1) h2 (.inr ⟨_, _, drop_at hi, hc⟩)]
  · simp [pmap]
  · rcases h with h | h
    · right; rw [drop_at hi]; simpa using h
    · left; rw [h, Nat.sub_self]; rfl
theorem R0.end (r : R0 s out s.length fr) : parse s = .inr 0 := by
  obtain ⟨h1, h2, m, h3, h4⟩ := r
  obtain ⟨m, rfl⟩ : ∃ k, m = k + 1 := ⟨m - 1, by omega⟩
  rw [h4, pars_stop (drop_split s h1) h2 (.inl (by simp)) (.inr (by simp))]
  simp [pmap]
theorem R0.eq (r : R0 s out i fr) (hi : i < s.length) (hc : s.getD i 0 = 61) (h : i ≠ fr) : R1 s out (i + 1) (i + 1) ((s.drop fr).take (i - fr)) := by
  obtain ⟨h1, h2, m, h3, h4⟩ := r
  have hs := drop_split s h1
  rw [drop_at hi, hc] at hs
  refine ⟨by omega, ?_, h2, by simp, m, by rw [← hs]; exact h3, by rw [← hs]; exact h4⟩
  intro e
  have := congrArg List.length e
  simp only [List.length_take, List.length_drop, List.length_nil] at this
  omega
theorem R1.step (r : R1 s out i fr nm) (hi : i < s.length) (hc : oct (s.getD i 0) = true) : R1 s out (i + 1) fr nm :=
  ⟨by have := r.1; omega, r.2.1, r.2.2.1, by rw [take_one_more r.1 hi, List.all_append, r.2.2.2.1]; simp only [List.all_cons, List.all_nil, hc, Bool.and_self], r.2.2.2.2⟩
theorem R1.bad (r : R1 s out i fr nm) (hi : i < s.length) (hc : oct (s.getD i 0) = false) (h : s.getD i 0 ≠ 59) : parse s = .inr (s.length - i) := by
  obtain ⟨h1, h2, h3, h4, m, h5, h6⟩ := r
  obtain ⟨m, rfl⟩ : ∃ k, m = k + 1 := ⟨m - 1, by omega⟩
  rw [h6, pars_val (by rw [← drop_split s h1]) h2 h3 h4 (.inr ⟨_, _, drop_at hi, hc⟩), if_neg (by rw [drop_at hi]; simp), if_pos (by rw [drop_at hi]; simpa using h)]
  simp [pmap]
theorem R1.end (r : R1 s out s.length fr nm) : parse s = .inl (out ++ [(nm, s.drop fr)]) := by
  obtain ⟨h1, h2, h3, h4, m, h5, h6⟩ := r
  obtain ⟨m, rfl⟩ : ∃ k, m = k + 1 := ⟨m - 1, by omega⟩
  rw [List.take_of_length_le (by simp)] at h4
  rw [h6, pars_val (v := s.drop fr) (q := []) (by rw [List.append_nil]) h2 h3 h4 (.inl rfl), if_pos rfl]
  rfl
theorem R1.semi (r : R1 s out i fr nm) (hi : i < s.length) (h : s.getD i 0 = 59) : R2 s (out ++ [(nm, (s.drop fr).take (i - fr))]) (i + 1) := by
  obtain ⟨h1, h2, h3, h4, m, h5, h6⟩ := r
  obtain ⟨m, rfl⟩ : ∃ k, m = k + 1 := ⟨m - 1, by omega⟩
  have hd := drop_at hi
  rw [h] at hd
  have hv := pars_val (n := m) (t := nm ++ 61 :: s.drop fr) (v := (s.drop fr).take (i - fr)) (q := s.drop i) (by rw [← drop_split s h1]) h2 h3 h4 (.inr ⟨_, _, hd, oct59⟩)
  rw [if_neg (by rw [hd]; simp), if_neg (by rw [hd]; simp)] at hv
  refine ⟨m, ?_, ?_⟩
  · simp only [List.length_append, List.length_cons, List.length_drop] at h5 ⊢
    omega
  · rw [h6, hv, hd]
    simp only [List.tail_cons, List.length_cons, Nat.add_sub_cancel]
    by_cases hh : (s.drop (i + 1)).head? ≠ some 32
    · rw [if_pos hh, if_pos hh]; rfl
    · rw [if_neg hh, if_neg hh, pmap_pmap]
theorem R2.bad (r : R2 s out i) (hi : i < s.length) (h : s.getD i 0 ≠ 32) : parse s = .inr (s.length - i) := by
  obtain ⟨m, h1, h2⟩ := r
  rw [h2, if_pos (by rw [drop_at hi]; simpa using h), List.length_drop]
theorem R2.end (r : R2 s out s.length) : parse s = .inr 0 := by
  obtain ⟨m, h1, h2⟩ := r
  rw [h2, if_pos (by simp), List.length_drop, Nat.sub_self]
theorem R2.blank (r : R2 s out i) (hi : i < s.length) (h : s.getD i 0 = 32) : R0 s out (i + 1) (i + 1) := by
  obtain ⟨m, h1, h2⟩ := r
  have hd := drop_at hi
  rw [if_neg (by rw [hd]; simpa using h), hd, List.tail_cons] at h2
  rw [hd, List.length_cons] at h1
  exact ⟨by omega, by simp, m, by omega, h2⟩
end
end Go.Proofs.Ytefkgpcdabmkkaa
