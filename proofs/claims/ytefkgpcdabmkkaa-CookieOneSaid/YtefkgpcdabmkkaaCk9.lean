/- Cookie headers: what is parsed makes just that text. The plain law. No condition. -/
import Derived.Test.YtefkgpcdabmkkaaCk8
import Derived.Test.YtefkgpcdabmkkaaCk4
namespace Go.Proofs.Ytefkgpcdabmkkaa
set_option linter.unusedVariables false
set_option linter.unusedSimpArgs false
open Go.RowKit Px Tx Ck
theorem join_more (x y : List UInt8) (r : List (List UInt8)) (sep : List UInt8) : Lib.join (x :: y :: r) sep = x ++ (sep ++ Lib.join (y :: r) sep) := by
  rw [Lib.join_cons, Lib.join_cons]
  simp [Lib.joinTail]
theorem okP_of {a v : List UInt8} (ha : a ≠ []) (hp : a.all tokc = true) (hv : v.all oct = true) : okP (a, v) = true := by
  unfold okP token
  simp only [hp, hv, Bool.and_true, Bool.true_and]
  cases a with
  | nil => exact absurd rfl ha
  | cons x r => simp
theorem pars_law : ∀ (n : Nat) (t : List UInt8) (l : List Pr), pars n t = .inl l → l ≠ [] ∧ l.all okP = true ∧ header l = t ∧ (∀ p ∈ l, p.1.length ≤ t.length ∧ p.2.length ≤ t.length)
  | 0, t, l, h => by simp [pars] at h
  | n + 1, t, l, h => by
    cases step_of t with
    | noName hh e => rw [e] at h; cases h
    | noEq a r ht ha hp hh hr hs e => rw [e] at h; cases h
    | last a v ht ha hp hv hh h2 e =>
      rw [e] at h
      injection h with h
      subst h
      refine ⟨by simp, by simp [okP_of ha hp hv], ?_, fun p hq => ?_⟩
      · unfold header elem
        rw [List.map_cons, List.map_nil, Lib.join_one, ht]
      · simp only [List.mem_singleton] at hq
        subst hq
        rw [ht]; simp only [List.length_append, List.length_cons]; omega
    | noSemi a v c r ht ha hp hv hh h2 hc h59 e => rw [e] at h; cases h
    | noBlank a v r ht ha hp hv hh h2 hr e => rw [e] at h; cases h
    | more a v r ht ha hp hv hh h2 e =>
      rw [e] at h
      cases hr : pars n r with
      | inr k => rw [hr] at h; cases h
      | inl m =>
        rw [hr] at h
        injection h with h
        subst h
        obtain ⟨i1, i2, i3, i4⟩ := pars_law n r m hr
        have htl : t.length = a.length + (v.length + (r.length + 2) + 1) := by rw [ht]; simp only [List.length_append, List.length_cons]
        refine ⟨by simp, ?_, ?_, fun p hq => ?_⟩
        · rw [List.all_cons, okP_of ha hp hv, i2]; rfl
        · cases m with
          | nil => exact absurd rfl i1
          | cons q m =>
            unfold header at i3 ⊢
            rw [List.map_cons] at i3
            rw [List.map_cons, List.map_cons, join_more, i3, ht]
            simp [elem, sepT]
        · rcases List.mem_cons.1 hq with rfl | hq
          · simp only; omega
          · have := i4 p hq; omega
theorem parse_law {s : List UInt8} {l : List Pr} (h : parse s = .inl l) : l.all okP = true ∧ header l = s ∧ (∀ p ∈ l, p.1.length ≤ s.length ∧ p.2.length ≤ s.length) := by
  unfold parse at h
  split at h
  · rename_i h0
    injection h with h
    subst h
    exact ⟨rfl, by rw [h0]; rfl, fun p hp => by simp at hp⟩
  · obtain ⟨_, h1, h2, h3⟩ := pars_law _ _ _ h
    exact ⟨h1, h2, h3⟩
end Go.Proofs.Ytefkgpcdabmkkaa
