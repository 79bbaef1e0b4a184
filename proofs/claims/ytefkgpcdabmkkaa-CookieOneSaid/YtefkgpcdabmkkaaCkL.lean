/- Cookie headers: what a text is as pairs; plain facts, no program in sight. No condition. -/
import Derived.Test.YtefkgpcdabmkkaaTxS
namespace Go.Proofs.Ytefkgpcdabmkkaa.Ck
set_option linter.unusedVariables false
set_option linter.unusedSimpArgs false
open Tx
abbrev Pr := List UInt8 × List UInt8
theorem take_tw (p : UInt8 → Bool) : ∀ t : List UInt8, t.take (t.takeWhile p).length = t.takeWhile p
  | [] => rfl
  | c :: t => by
    by_cases h : p c = true
    · rw [List.takeWhile_cons_of_pos h]; simp [take_tw p t]
    · rw [List.takeWhile_cons_of_neg h]; simp
theorem tw_le (p : UInt8 → Bool) (t : List UInt8) : (t.takeWhile p).length ≤ t.length := by
  have := congrArg List.length (take_tw p t)
  rw [List.length_take] at this; omega
theorem tw_all (p : UInt8 → Bool) : ∀ t : List UInt8, (t.takeWhile p).all p = true
  | [] => rfl
  | c :: t => by
    by_cases h : p c = true
    · rw [List.takeWhile_cons_of_pos h]; simp [h]
    · rw [List.takeWhile_cons_of_neg h]; rfl
theorem tw_stop (p : UInt8 → Bool) : ∀ (t : List UInt8) (c : UInt8) (r : List UInt8), t.drop (t.takeWhile p).length = c :: r → p c = false
  | [], c, r, h => by simp at h
  | d :: t, c, r, h => by
    by_cases hd : p d = true
    · rw [List.takeWhile_cons_of_pos hd] at h
      exact tw_stop p t c r (by simpa using h)
    · rw [List.takeWhile_cons_of_neg hd] at h
      simp at h
      rw [← h.1]; simpa using hd
/-- A text whose first bytes are so, and the next one is not. -/
theorem tw_app (p : UInt8 → Bool) : ∀ (a r : List UInt8), a.all p = true → (r = [] ∨ ∃ c r', r = c :: r' ∧ p c = false) → (a ++ r).takeWhile p = a
  | [], r, _, h => by
    rcases h with rfl | ⟨c, r', rfl, hc⟩
    · rfl
    · rw [List.nil_append, List.takeWhile_cons_of_neg (by simp [hc])]
  | c :: a, r, ha, h => by
    simp at ha
    rw [List.cons_append, List.takeWhile_cons_of_pos ha.1, tw_app p a r (List.all_eq_true.2 ha.2) h]
/-- The pairs of a text; or how many bytes are ahead where it can't be. -/
def pars : Nat → List UInt8 → List Pr ⊕ Nat
  | 0, t => .inr t.length
  | n + 1, t =>
    if t.takeWhile tokc = [] ∨ (t.drop (t.takeWhile tokc).length).head? ≠ some 61 then .inr (t.drop (t.takeWhile tokc).length).length
    else if (t.drop (t.takeWhile tokc).length).tail.drop ((t.drop (t.takeWhile tokc).length).tail.takeWhile oct).length = [] then .inl [(t.takeWhile tokc, (t.drop (t.takeWhile tokc).length).tail.takeWhile oct)]
    else if ((t.drop (t.takeWhile tokc).length).tail.drop ((t.drop (t.takeWhile tokc).length).tail.takeWhile oct).length).head? ≠ some 59 then .inr ((t.drop (t.takeWhile tokc).length).tail.drop ((t.drop (t.takeWhile tokc).length).tail.takeWhile oct).length).length
    else if ((t.drop (t.takeWhile tokc).length).tail.drop ((t.drop (t.takeWhile tokc).length).tail.takeWhile oct).length).tail.head? ≠ some 32 then .inr (((t.drop (t.takeWhile tokc).length).tail.drop ((t.drop (t.takeWhile tokc).length).tail.takeWhile oct).length).length - 1)
    else match pars n ((t.drop (t.takeWhile tokc).length).tail.drop ((t.drop (t.takeWhile tokc).length).tail.takeWhile oct).length).tail.tail with
      | .inl l => .inl ((t.takeWhile tokc, (t.drop (t.takeWhile tokc).length).tail.takeWhile oct) :: l)
      | .inr k => .inr k
/-- One step, by the parts of the text. -/
inductive Step (t : List UInt8) : Prop where
  | noName (h : t.takeWhile tokc = []) (e : ∀ n, pars (n + 1) t = .inr t.length)
  | noEq (a r : List UInt8) (ht : t = a ++ r) (ha : a ≠ []) (hp : a.all tokc = true) (h : t.takeWhile tokc = a) (hr : r.head? ≠ some 61) (hs : r = [] ∨ ∃ c r', r = c :: r' ∧ tokc c = false) (e : ∀ n, pars (n + 1) t = .inr r.length)
  | last (a v : List UInt8) (ht : t = a ++ 61 :: v) (ha : a ≠ []) (hp : a.all tokc = true) (hv : v.all oct = true) (h : t.takeWhile tokc = a) (h2 : v.takeWhile oct = v) (e : ∀ n, pars (n + 1) t = .inl [(a, v)])
  | noSemi (a v : List UInt8) (c : UInt8) (r : List UInt8) (ht : t = a ++ 61 :: (v ++ c :: r)) (ha : a ≠ []) (hp : a.all tokc = true) (hv : v.all oct = true) (h : t.takeWhile tokc = a) (h2 : (v ++ c :: r).takeWhile oct = v) (hc : oct c = false) (h59 : c ≠ 59) (e : ∀ n, pars (n + 1) t = .inr (r.length + 1))
  | noBlank (a v r : List UInt8) (ht : t = a ++ 61 :: (v ++ 59 :: r)) (ha : a ≠ []) (hp : a.all tokc = true) (hv : v.all oct = true) (h : t.takeWhile tokc = a) (h2 : (v ++ 59 :: r).takeWhile oct = v) (hr : r.head? ≠ some 32) (e : ∀ n, pars (n + 1) t = .inr r.length)
  | more (a v r : List UInt8) (ht : t = a ++ 61 :: (v ++ 59 :: 32 :: r)) (ha : a ≠ []) (hp : a.all tokc = true) (hv : v.all oct = true) (h : t.takeWhile tokc = a) (h2 : (v ++ 59 :: 32 :: r).takeWhile oct = v) (e : ∀ n, pars (n + 1) t = match pars n r with
      | .inl l => .inl ((a, v) :: l)
      | .inr k => .inr k)
theorem head_split {r : List UInt8} {c : UInt8} (h : r.head? = some c) : r = c :: r.tail := by cases r <;> simp_all
theorem step_of (t : List UInt8) : Step t := by
  obtain ⟨a, ha⟩ : ∃ a, a = t.takeWhile tokc := ⟨_, rfl⟩
  obtain ⟨r, hr⟩ : ∃ r, r = t.drop a.length := ⟨_, rfl⟩
  have ht : t = a ++ r := by rw [hr]; conv => lhs; rw [← List.take_append_drop a.length t]
                             rw [show t.take a.length = a by rw [ha]; exact take_tw _ _]
  have hpa : a.all tokc = true := by rw [ha]; exact tw_all _ _
  by_cases h0 : a = []
  · refine .noName (by rw [← ha, h0]) fun n => ?_
    unfold pars
    rw [← ha, if_pos (.inl h0), h0]; rfl
  have hstop : r = [] ∨ ∃ c r', r = c :: r' ∧ tokc c = false := by
    cases hc : r with
    | nil => exact .inl rfl
    | cons c r' => exact .inr ⟨c, r', rfl, tw_stop tokc t c r' (by rw [← ha, ← hr, hc])⟩
  by_cases h1 : r.head? = some 61
  · obtain ⟨v, hv⟩ : ∃ v, v = r.tail.takeWhile oct := ⟨_, rfl⟩
    obtain ⟨q, hq⟩ : ∃ q, q = r.tail.drop v.length := ⟨_, rfl⟩
    have hrt : r.tail = v ++ q := by rw [hq]; conv => lhs; rw [← List.take_append_drop v.length r.tail]
                                     rw [show r.tail.take v.length = v by rw [hv]; exact take_tw _ _]
    have hpv : v.all oct = true := by rw [hv]; exact tw_all _ _
    have hsp := head_split h1
    have ht2 : t = a ++ 61 :: (v ++ q) := by rw [← hrt, ← hsp]; exact ht
    have hpars : ∀ n, pars (n + 1) t = if q = [] then .inl [(a, v)] else if q.head? ≠ some 59 then .inr q.length else if q.tail.head? ≠ some 32 then .inr (q.length - 1) else match pars n q.tail.tail with
      | .inl l => .inl ((a, v) :: l)
      | .inr k => .inr k := fun n => by
      conv => lhs; unfold pars
      rw [← ha, ← hr, ← hv, ← hq, if_neg (by simp [h0, h1])]
    have h2 : (v ++ q).takeWhile oct = v := by rw [← hrt]; exact hv.symm
    cases hqc : q with
    | nil =>
      subst hqc
      rw [List.append_nil] at ht2 h2
      exact .last a v ht2 h0 hpa hpv ha.symm h2 fun n => by rw [hpars, if_pos rfl]
    | cons c q' =>
      subst hqc
      have hoc := tw_stop oct r.tail c q' (by rw [← hv, ← hq])
      by_cases h59 : c = 59
      · subst h59
        by_cases h32 : q'.head? = some 32
        · have hs2 := head_split h32
          rw [hs2] at ht2 h2
          exact .more a v q'.tail ht2 h0 hpa hpv ha.symm h2 fun n => by
            rw [hpars, if_neg (by simp), if_neg (by simp), if_neg (by simp [h32])]
            rfl
        · exact .noBlank a v q' ht2 h0 hpa hpv ha.symm h2 h32 fun n => by rw [hpars, if_neg (by simp), if_neg (by simp), if_pos (by simpa using h32)]; simp
      · exact .noSemi a v c q' ht2 h0 hpa hpv ha.symm h2 hoc h59 fun n => by rw [hpars, if_neg (by simp), if_pos (by simpa using h59)]; simp
  · refine .noEq a r ht h0 hpa ha.symm h1 hstop fun n => ?_
    unfold pars
    rw [← ha, ← hr, if_pos (.inr h1)]
def parse (s : List UInt8) : List Pr ⊕ Nat := if s = [] then .inl [] else pars (s.length + 1) s
theorem pars_fuel : ∀ (n m : Nat) (t : List UInt8), t.length < n → t.length < m → pars n t = pars m t
  | 0, _, _, h, _ => absurd h (by omega)
  | _, 0, _, _, h => absurd h (by omega)
  | n + 1, m + 1, t, hn, hm => by
    cases step_of t with
    | noName h e => rw [e, e]
    | noEq a r ht ha hp h hr hs e => rw [e, e]
    | last a v ht ha hp hv h h2 e => rw [e, e]
    | noSemi a v c r ht ha hp hv h h2 hc h59 e => rw [e, e]
    | noBlank a v r ht ha hp hv h h2 hr e => rw [e, e]
    | more a v r ht ha hp hv h h2 e =>
      have hl := congrArg List.length ht
      simp at hl
      rw [e, e, pars_fuel n m r (by omega) (by omega)]
/-- Two headers with a semicolon and a blank between. -/
theorem oct59 : oct 59 = false := by decide
theorem tok59 : tokc 59 = false := by decide +kernel
theorem tok61 : tokc 61 = false := by decide +kernel
theorem pars_join (t : List UInt8) : ∀ (n : Nat) (s : List UInt8), s.length + t.length + 2 < n → (match pars n s with
    | .inr _ => ∃ k, pars n (s ++ 59 :: 32 :: t) = .inr k
    | .inl l => pars n (s ++ 59 :: 32 :: t) = match pars n t with
      | .inl m => .inl (l ++ m)
      | .inr k => .inr k)
  | 0, _, h => absurd h (by omega)
  | n + 1, s, hn => by
    have tw : ∀ (a r : List UInt8), a.all tokc = true → (r = [] ∨ ∃ c r', r = c :: r' ∧ tokc c = false) → (a ++ r).takeWhile tokc = a := tw_app tokc
    have ow : ∀ (a r : List UInt8), a.all oct = true → (r = [] ∨ ∃ c r', r = c :: r' ∧ oct c = false) → (a ++ r).takeWhile oct = a := tw_app oct
    cases step_of s with
    | noName h e =>
      rw [e]
      cases s with
      | nil =>
        cases step_of (59 :: 32 :: t) with
        | noName _ e2 => exact ⟨_, e2 n⟩
        | noEq a r ht ha hp h hr hs e2 => exact ⟨_, e2 n⟩
        | last a v ht ha hp hv h h2 e2 => rw [List.takeWhile_cons_of_neg (by simp [tok59])] at h; exact absurd h.symm ha
        | noSemi a v c r ht ha hp hv h h2 hc h59 e2 => exact ⟨_, e2 n⟩
        | noBlank a v r ht ha hp hv h h2 hr e2 => exact ⟨_, e2 n⟩
        | more a v r ht ha hp hv h h2 e2 => rw [List.takeWhile_cons_of_neg (by simp [tok59])] at h; exact absurd h.symm ha
      | cons c s =>
        have hc : tokc c = false := by
          cases hcc : tokc c with
          | false => rfl
          | true => rw [List.takeWhile_cons_of_pos hcc] at h; cases h
        refine ⟨(c :: s ++ 59 :: 32 :: t).length, ?_⟩
        unfold pars
        rw [List.cons_append, List.takeWhile_cons_of_neg (by simp [hc]), if_pos (.inl rfl)]; rfl
    | noEq a r ht ha hp h hr hs e =>
      rw [e]
      have h1 : (s ++ 59 :: 32 :: t).takeWhile tokc = a := by
        rw [ht, List.append_assoc]
        refine tw a _ hp (.inr ?_)
        rcases hs with rfl | ⟨c, r', rfl, hc⟩
        · exact ⟨59, _, rfl, tok59⟩
        · exact ⟨c, _, rfl, hc⟩
      refine ⟨(r ++ 59 :: 32 :: t).length, ?_⟩
      unfold pars
      have hd : (s ++ 59 :: 32 :: t).drop a.length = r ++ 59 :: 32 :: t := by rw [ht, List.append_assoc, List.drop_left]
      have hx : (r ++ 59 :: 32 :: t).head? ≠ some 61 := by
        cases r with
        | nil => simp
        | cons c r => simpa using hr
      rw [h1, hd, if_pos (.inr hx)]
    | last a v ht ha hp hv h h2 e =>
      rw [e]
      have h1 : (s ++ 59 :: 32 :: t).takeWhile tokc = a := by
        rw [ht, List.append_assoc]
        exact tw a _ hp (.inr ⟨61, _, rfl, tok61⟩)
      have hd : (s ++ 59 :: 32 :: t).drop a.length = 61 :: (v ++ 59 :: 32 :: t) := by rw [ht, List.append_assoc, List.drop_left]; rfl
      have h3 : (v ++ 59 :: 32 :: t).takeWhile oct = v := ow v _ hv (.inr ⟨59, _, rfl, oct59⟩)
      have hl := congrArg List.length ht
      simp at hl
      have key : pars (n + 1) (s ++ 59 :: 32 :: t) = match pars n t with
        | .inl l => .inl ((a, v) :: l)
        | .inr k => .inr k := by
        conv => lhs; unfold pars
        rw [h1, hd, if_neg (by simp [ha])]
        simp only [List.tail_cons, h3, List.drop_left]
        rw [if_neg (by simp), if_neg (by simp), if_neg (by simp)]
      rw [key, pars_fuel n (n + 1) t (by omega) (by omega)]
      cases pars (n + 1) t <;> rfl
    | noSemi a v c r ht ha hp hv h h2 hc h59 e =>
      rw [e]
      have h1 : (s ++ 59 :: 32 :: t).takeWhile tokc = a := by
        rw [ht, List.append_assoc]
        exact tw a _ hp (.inr ⟨61, _, rfl, tok61⟩)
      have hd : (s ++ 59 :: 32 :: t).drop a.length = 61 :: (v ++ c :: (r ++ 59 :: 32 :: t)) := by rw [ht, List.append_assoc, List.drop_left]; simp
      have h3 : (v ++ c :: (r ++ 59 :: 32 :: t)).takeWhile oct = v := ow v _ hv (.inr ⟨c, _, rfl, hc⟩)
      refine ⟨(c :: (r ++ 59 :: 32 :: t)).length, ?_⟩
      unfold pars
      rw [h1, hd, if_neg (by simp [ha])]
      simp only [List.tail_cons, h3, List.drop_left]
      rw [if_neg (by simp), if_pos (by simpa using h59)]
    | noBlank a v r ht ha hp hv h h2 hr e =>
      rw [e]
      have h1 : (s ++ 59 :: 32 :: t).takeWhile tokc = a := by
        rw [ht, List.append_assoc]
        exact tw a _ hp (.inr ⟨61, _, rfl, tok61⟩)
      have hd : (s ++ 59 :: 32 :: t).drop a.length = 61 :: (v ++ 59 :: (r ++ 59 :: 32 :: t)) := by rw [ht, List.append_assoc, List.drop_left]; simp
      have h3 : (v ++ 59 :: (r ++ 59 :: 32 :: t)).takeWhile oct = v := ow v _ hv (.inr ⟨59, _, rfl, oct59⟩)
      refine ⟨(59 :: (r ++ 59 :: 32 :: t)).length - 1, ?_⟩
      unfold pars
      rw [h1, hd, if_neg (by simp [ha])]
      simp only [List.tail_cons, h3, List.drop_left]
      rw [if_neg (by simp), if_neg (by simp), if_pos ?_]
      cases r with
      | nil => simp
      | cons c r => simpa using hr
    | more a v r ht ha hp hv h h2 e =>
      rw [e]
      have h1 : (s ++ 59 :: 32 :: t).takeWhile tokc = a := by
        rw [ht, List.append_assoc]
        exact tw a _ hp (.inr ⟨61, _, rfl, tok61⟩)
      have hd : (s ++ 59 :: 32 :: t).drop a.length = 61 :: (v ++ 59 :: 32 :: (r ++ 59 :: 32 :: t)) := by rw [ht, List.append_assoc, List.drop_left]; simp
      have h3 : (v ++ 59 :: 32 :: (r ++ 59 :: 32 :: t)).takeWhile oct = v := ow v _ hv (.inr ⟨59, _, rfl, oct59⟩)
      have hl := congrArg List.length ht
      simp at hl
      have key : pars (n + 1) (s ++ 59 :: 32 :: t) = match pars n (r ++ 59 :: 32 :: t) with
        | .inl l => .inl ((a, v) :: l)
        | .inr k => .inr k := by
        conv => lhs; unfold pars
        rw [h1, hd, if_neg (by simp [ha])]
        simp only [List.tail_cons, h3, List.drop_left]
        rw [if_neg (by simp), if_neg (by simp), if_neg (by simp)]
      have ih := pars_join t n r (by omega)
      rw [key, pars_fuel (n + 1) n t (by omega) (by omega)]
      cases hr : pars n r with
      | inr k =>
        rw [hr] at ih
        obtain ⟨k', hk⟩ := ih
        rw [hk]
        exact ⟨_, rfl⟩
      | inl l =>
        rw [hr] at ih
        simp only at ih ⊢
        rw [ih]
        cases pars n t <;> rfl
end Go.Proofs.Ytefkgpcdabmkkaa.Ck
