/- Cookie headers: what is written is read back: the plain law. No condition. -/
import Derived.Test.YtefkgpcdabmkkaaCk9
namespace Go.Proofs.Ytefkgpcdabmkkaa
set_option linter.unusedVariables false
set_option linter.unusedSimpArgs false
open Go.RowKit Px Tx Ck
theorem header_cons (q r : Pr) (L : List Pr) : header (q :: r :: L) = elem q ++ (sepT ++ header (r :: L)) := by
  unfold header; rw [List.map_cons, List.map_cons, join_more]
theorem header_one (q : Pr) : header [q] = elem q := by unfold header; rw [List.map_cons, List.map_nil, Lib.join_one]
theorem header_snoc : ∀ (L : List Pr) (p : Pr), L ≠ [] → header (L ++ [p]) = header L ++ (sepT ++ elem p)
  | [], p, h => absurd rfl h
  | [q], p, _ => by rw [List.cons_append, List.nil_append, header_cons, header_one, header_one]
  | q :: r :: L, p, _ => by
    have ih := header_snoc (r :: L) p (by simp)
    rw [List.cons_append, List.cons_append, header_cons, header_cons, ← List.cons_append, ih]
    simp only [List.append_assoc]
theorem okP_parts {p : Pr} (h : okP p = true) : p.1 ≠ [] ∧ p.1.all tokc = true ∧ p.2.all oct = true := by
  unfold okP token at h
  simp only [Bool.and_eq_true, decide_eq_true_eq] at h
  exact ⟨h.1.2, h.1.1, h.2⟩
theorem pars_header : ∀ (l : List Pr) (n : Nat), l ≠ [] → l.all okP = true → (header l).length < n → pars n (header l) = .inl l
  | [], _, h, _, _ => absurd rfl h
  | _ :: _, 0, _, _, h => absurd h (by omega)
  | [p], n + 1, _, ha, _ => by
    rw [List.all_cons, Bool.and_eq_true] at ha
    obtain ⟨h1, h2, h3⟩ := okP_parts ha.1
    rw [header_one, pars_val (a := p.1) (v := p.2) (q := []) (by rw [List.append_nil]; rfl) h1 h2 h3 (.inl rfl), if_pos rfl]
  | p :: q :: r, n + 1, _, ha, hn => by
    rw [List.all_cons, Bool.and_eq_true] at ha
    obtain ⟨h1, h2, h3⟩ := okP_parts ha.1
    have hh : header (p :: q :: r) = p.1 ++ 61 :: (p.2 ++ 59 :: 32 :: header (q :: r)) := by rw [header_cons]; simp [elem, sepT]
    have ih := pars_header (q :: r) n (by simp) ha.2 (by rw [hh] at hn; simp only [List.length_append, List.length_cons] at hn; omega)
    rw [hh, pars_val (a := p.1) (v := p.2) (q := 59 :: 32 :: header (q :: r)) rfl h1 h2 h3 (.inr ⟨59, _, rfl, oct59⟩), if_neg (by simp), if_neg (by simp), if_neg (by simp)]
    simp only [List.tail_cons]
    rw [ih]; rfl
theorem header_pos {l : List Pr} (h : l ≠ []) : header l ≠ [] := by
  cases l with
  | nil => exact absurd rfl h
  | cons p r =>
    cases r with
    | nil => rw [header_one]; simp [elem]
    | cons q r => rw [header_cons]; simp [elem]
theorem parse_header {l : List Pr} (ha : l.all okP = true) : parse (header l) = .inl l := by
  unfold parse
  cases l with
  | nil => rfl
  | cons p r => rw [if_neg (header_pos (by simp)), pars_header _ _ (by simp) ha (by omega)]
theorem firstBad_all : ∀ (l : List Pr), firstBad l = none → l.all okP = true
  | [], _ => rfl
  | p :: l, h => by
    rw [firstBad] at h
    split at h
    · rename_i hp
      rw [List.all_cons, hp, firstBad_all l (by simpa using h)]; rfl
    · cases h
theorem Fits.take {l : List Pr} (h : Fits l) (i : Nat) : Fits (l.take i) := ⟨by rw [List.length_take]; have := h.1; omega, fun p hp => h.2 p (List.mem_of_mem_take hp)⟩
end Go.Proofs.Ytefkgpcdabmkkaa
