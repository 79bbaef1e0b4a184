/- Of frames: a frame opens, whatever stands behind it; one of which a byte was turned, one that was cut, and one of which bytes were lost, does not. No condition. -/
import Derived.Test.YtpdcbkleolciiaaDoorFrP
namespace Go.Proofs.YtpdcbkleolciiaaDoor
set_option linter.unusedVariables false
set_option linter.unusedSimpArgs false
open Go.RowKit Px Fm
theorem openO_some {s : List UInt8} {q : List UInt8 × Nat} (h : openO s 0 = some q) : s.getD 0 0 = 1 ∧ ∃ p t, p.length ≤ 8192 ∧ s.drop 1 = enc (raw p) ++ t := by
  unfold openO at h
  by_cases hc : (0 : Int) ≤ 0 ∧ (0 : Int) < s.length ∧ s.getD (0 : Int).toNat 0 = 1
  · rw [if_pos hc] at h
    obtain ⟨p, k⟩ := q
    obtain ⟨h1, _, t, h2⟩ := open_some s 1 p k h
    exact ⟨hc.2.2, p, t, h1, h2⟩
  · rw [if_neg hc] at h; cases h
theorem openO_frame (p t : List UInt8) (hp : p.length ≤ 8192) : openO (frame p ++ t) 0 = some (p, 2 * p.length + 21) := by
  unfold openO
  rw [if_pos ⟨by omega, by rw [List.length_append, frame_length]; omega, rfl⟩]
  rw [open_frame (frame p ++ t) ((0 : Int).toNat + 1) p t hp rfl]
  congr 2
  simp; omega
theorem enc_get0 : ∀ (r : List UInt8) (k : Nat), (enc r)[2 * k]? = r[k]?.map fun c : UInt8 => (64 : UInt8) ||| c >>> 4
  | [], k => by simp [enc]
  | c :: r, 0 => rfl
  | c :: r, k + 1 => by rw [enc_cons, show 2 * (k + 1) = 2 * k + 1 + 1 by omega, List.getElem?_cons_succ, List.getElem?_cons_succ, List.getElem?_cons_succ]; exact enc_get0 r k
theorem enc_get1 : ∀ (r : List UInt8) (k : Nat), (enc r)[2 * k + 1]? = r[k]?.map fun c : UInt8 => (64 : UInt8) ||| c &&& 15
  | [], k => by simp [enc]
  | c :: r, 0 => rfl
  | c :: r, k + 1 => by rw [enc_cons, show 2 * (k + 1) + 1 = 2 * k + 1 + 1 + 1 by omega, List.getElem?_cons_succ, List.getElem?_cons_succ, List.getElem?_cons_succ]; exact enc_get1 r k
theorem byte_eq {a b : Option UInt8} (h0 : (a.map fun c : UInt8 => (64 : UInt8) ||| c >>> 4) = b.map fun c : UInt8 => (64 : UInt8) ||| c >>> 4) (h1 : (a.map fun c : UInt8 => (64 : UInt8) ||| c &&& 15) = b.map fun c : UInt8 => (64 : UInt8) ||| c &&& 15) : a = b := by
  cases a with
  | none => cases b with
    | none => rfl
    | some y => simp at h0
  | some x => cases b with
    | none => simp at h0
    | some y =>
      have e0 : (64 : UInt8) ||| x >>> 4 = (64 : UInt8) ||| y >>> 4 := Option.some.inj h0
      have e1 : (64 : UInt8) ||| x &&& 15 = (64 : UInt8) ||| y &&& 15 := Option.some.inj h1
      rw [← two_back x, ← two_back y, e0, e1]
theorem enc_letter (r : List UInt8) (j : Nat) (a : UInt8) (h : (enc r)[j]? = some a) : lettered a = true := by
  rcases (show j = 2 * (j / 2) ∨ j = 2 * (j / 2) + 1 by omega) with e | e
  · rw [e, enc_get0] at h
    obtain ⟨c, _, rfl⟩ := Option.map_eq_some_iff.1 h
    exact hi_letter c
  · rw [e, enc_get1] at h
    obtain ⟨c, _, rfl⟩ := Option.map_eq_some_iff.1 h
    exact lo_letter c
theorem seg_eq {R S : List UInt8} (a n : Nat) (h : ∀ k : Nat, a ≤ k → k < a + n → R[k]? = S[k]?) : (R.drop a).take n = (S.drop a).take n := by
  apply List.ext_getElem?
  intro k
  rw [List.getElem?_take, List.getElem?_take]
  split
  · rw [List.getElem?_drop, List.getElem?_drop]
    exact h _ (by omega) (by omega)
  · rfl
theorem sum_diff {l l' : List UInt8} (i : Nat) (hl : l.length = l'.length) (h : ∀ k : Nat, k ≠ i → l[k]? = l'[k]?) (hs : sum l = sum l') : l = l' := by
  rcases Nat.lt_or_ge i l.length with hi | hi
  · have t1 : l.take i = l'.take i := by
      have := seg_eq (R := l) (S := l') 0 i (fun k _ hk => h k (by omega))
      simpa using this
    have t2 : l.drop (i + 1) = l'.drop (i + 1) := by
      apply List.ext_getElem?
      intro k
      rw [List.getElem?_drop, List.getElem?_drop]
      exact h _ (by omega)
    have e1 : l = l.take i ++ l[i] :: l.drop (i + 1) := by rw [← List.drop_eq_getElem_cons hi, List.take_append_drop]
    have e2 : l' = l'.take i ++ l'[i] :: l'.drop (i + 1) := by rw [← List.drop_eq_getElem_cons (by omega), List.take_append_drop]
    rw [e1, e2, ← t1, ← t2] at hs
    have := sum_one hs
    rw [e1, e2, ← t1, ← t2, this]
  · apply List.ext_getElem?
    intro k
    by_cases hk : k = i
    · subst hk
      rw [List.getElem?_eq_none hi, List.getElem?_eq_none (by omega)]
    · exact h k hk
theorem raw_head (p : List UInt8) : ((raw p).drop 0).take 2 = head p.length := rfl
theorem raw_sum1 (p : List UInt8) : ((raw p).drop 2).take 4 = four (sum (head p.length)) := rfl
theorem raw_pay (p : List UInt8) : ((raw p).drop 6).take p.length = p := by
  unfold raw
  rw [List.append_assoc, List.drop_append_of_le_length (by simp [head_length, four_length]), List.drop_of_length_le (by simp [head_length, four_length]), List.nil_append, List.take_left']
  rfl
theorem raw_sum2 (p : List UInt8) : ((raw p).drop (6 + p.length)).take 4 = four (sum (head p.length ++ p)) := by
  unfold raw
  rw [List.drop_append_of_le_length (by simp [head_length, four_length]; omega), List.drop_of_length_le (by simp [head_length, four_length]; omega), List.nil_append]
  rfl
theorem head_len {m n : Nat} (hm : m ≤ 8192) (hn : n ≤ 8192) (h : head m = head n) : m = n := by
  have := head_num m hm
  rw [h, head_num n hn] at this
  exact this.symm
/-- Two rows of raw bytes that agree but at one place are one row. -/
theorem raw_diff {p p' : List UInt8} (i : Nat) (hp : p.length ≤ 8192) (hp' : p'.length ≤ 8192) (h : ∀ k : Nat, k ≠ i → k < p.length + 10 → k < p'.length + 10 → (raw p)[k]? = (raw p')[k]?) : p.length = p'.length ∧ raw p = raw p' := by
  have key : head p.length = head p'.length := by
    by_cases hi : i < 2
    · have hs := seg_eq (R := raw p) (S := raw p') 2 4 (fun k h1 h2 => h k (by omega) (by omega) (by omega))
      rw [raw_sum1, raw_sum1] at hs
      refine sum_diff i rfl (fun k hk => ?_) (four_inj hs)
      rcases Nat.lt_or_ge k 2 with h2 | h2
      · have := h k hk (by omega) (by omega)
        have e1 : (raw p)[k]? = (head p.length)[k]? := by rw [← raw_head p, List.drop_zero, List.getElem?_take_of_lt h2]
        have e2 : (raw p')[k]? = (head p'.length)[k]? := by rw [← raw_head p', List.drop_zero, List.getElem?_take_of_lt h2]
        rw [← e1, ← e2, this]
      · rw [List.getElem?_eq_none (by rw [head_length]; omega), List.getElem?_eq_none (by rw [head_length]; omega)]
    · have hs := seg_eq (R := raw p) (S := raw p') 0 2 (fun k h1 h2 => h k (by omega) (by omega) (by omega))
      rwa [raw_head, raw_head] at hs
  have hl := head_len hp hp' key
  refine ⟨hl, ?_⟩
  have hpp : p = p' := by
    by_cases hi : 6 ≤ i ∧ i < 6 + p.length
    · have hs := seg_eq (R := raw p) (S := raw p') (6 + p.length) 4 (fun k h1 h2 => h k (by omega) (by omega) (by omega))
      rw [raw_sum2] at hs
      rw [hl, raw_sum2] at hs
      have hm := sum_diff (l := head p'.length ++ p) (l' := head p'.length ++ p') (i - 4) (by simp [hl]) (fun k hk => ?_) (by
        exact four_inj hs)
      · exact List.append_cancel_left hm
      · rcases Nat.lt_or_ge k 2 with h2 | h2
        · rw [List.getElem?_append_left (by rw [head_length]; omega), List.getElem?_append_left (by rw [head_length]; omega)]
        · rw [List.getElem?_append_right (by rw [head_length]; omega), List.getElem?_append_right (by rw [head_length]; omega), head_length]
          rcases Nat.lt_or_ge (k - 2) p.length with h3 | h3
          · have := h (k + 4) (by omega) (by omega) (by omega)
            have e1 : (raw p)[k + 4]? = p[k - 2]? := by
              conv => rhs; rw [← raw_pay p]
              rw [List.getElem?_take_of_lt h3, List.getElem?_drop]
              congr 1; omega
            have e2 : (raw p')[k + 4]? = p'[k - 2]? := by
              conv => rhs; rw [← raw_pay p']
              rw [List.getElem?_take_of_lt (by omega), List.getElem?_drop]
              congr 1; omega
            rw [← e1, ← e2, this]
          · rw [List.getElem?_eq_none h3, List.getElem?_eq_none (by omega)]
    · have hs := seg_eq (R := raw p) (S := raw p') 6 p.length (fun k h1 h2 => h k (by omega) (by omega) (by omega))
      rw [raw_pay] at hs
      rw [hs, hl, raw_pay]
  rw [hpp]
theorem turned_no (p more : List UInt8) (hp : p.length ≤ 8192) (j : Nat) (hj : j < (frame p).length) (y : UInt8) (hy : (frame p)[j]? ≠ some y) : openO ((frame p).set j y ++ more) 0 = none := by
  cases ho : openO ((frame p).set j y ++ more) 0 with
  | none => rfl
  | some q =>
    exfalso
    obtain ⟨h1, p', t, hp', h2⟩ := openO_some ho
    have hfl := frame_length p
    rcases j with _ | j
    · have : y = 1 := by simpa [frame] using h1
      exact hy (by rw [this]; rfl)
    have hE : (frame p).set (j + 1) y = 1 :: (enc (raw p)).set j y := rfl
    rw [hE, List.cons_append, List.drop_succ_cons, List.drop_zero] at h2
    have hjl : j < (enc (raw p)).length := by rw [enc_length, raw_length]; omega
    have hlen : (enc (raw p)).length = 2 * (p.length + 10) := by rw [enc_length, raw_length]
    have hlen' : (enc (raw p')).length = 2 * (p'.length + 10) := by rw [enc_length, raw_length]
    have hg : ∀ k : Nat, k ≠ j → k < 2 * (p.length + 10) → k < 2 * (p'.length + 10) → (enc (raw p))[k]? = (enc (raw p'))[k]? := fun k hk k1 k2 => by
      have := congrArg (fun l => l[k]?) h2
      try simp only at this
      rw [List.getElem?_append_left (by rw [List.length_set]; omega), List.getElem?_append_left (by omega), List.getElem?_set_ne (by omega)] at this
      exact this
    obtain ⟨hl, hr⟩ := raw_diff (j / 2) hp hp' (fun k hk k1 k2 => byte_eq (by
      have := hg (2 * k) (by omega) (by omega) (by omega)
      rwa [enc_get0, enc_get0] at this) (by
      have := hg (2 * k + 1) (by omega) (by omega) (by omega)
      rwa [enc_get1, enc_get1] at this))
    have := congrArg (fun l => l[j]?) h2
    try simp only at this
    rw [List.getElem?_append_left (by rw [List.length_set]; omega), List.getElem?_append_left (by omega), List.getElem?_set_self hjl, ← hr] at this
    exact hy (by rw [frame, List.getElem?_cons_succ, ← this])
theorem cut_no (p : List UInt8) (hp : p.length ≤ 8192) (j : Nat) (hj : j < (frame p).length) : openO ((frame p).take j) 0 = none := by
  cases ho : openO ((frame p).take j) 0 with
  | none => rfl
  | some q =>
    exfalso
    obtain ⟨h1, p', t, hp', h2⟩ := openO_some ho
    have hfl := frame_length p
    rcases j with _ | j
    · simp at h1
    rw [frame, List.take_succ_cons, List.drop_succ_cons, List.drop_zero] at h2
    have hlen : (enc (raw p)).length = 2 * (p.length + 10) := by rw [enc_length, raw_length]
    have hlen' : (enc (raw p')).length = 2 * (p'.length + 10) := by rw [enc_length, raw_length]
    have hln := congrArg List.length h2
    rw [List.length_take, List.length_append, hlen, hlen'] at hln
    have hg : ∀ k : Nat, k < 2 * (p.length + 10) → k < 2 * (p'.length + 10) → (enc (raw p))[k]? = (enc (raw p'))[k]? := fun k k1 k2 => by
      have := congrArg (fun l => l[k]?) h2
      try simp only at this
      rw [List.getElem?_append_left (by omega), List.getElem?_take_of_lt (by omega)] at this
      exact this
    obtain ⟨hl, hr⟩ := raw_diff (p.length + 20) hp hp' (fun k hk k1 k2 => byte_eq (by
      have := hg (2 * k) (by omega) (by omega)
      rwa [enc_get0, enc_get0] at this) (by
      have := hg (2 * k + 1) (by omega) (by omega)
      rwa [enc_get1, enc_get1] at this))
    omega
theorem lost_no (p b more : List UInt8) (hp : p.length ≤ 8192) (hb : b.length = (frame p).length) (hk : ∀ k : Nat, b[k]? = (frame p)[k]? ∨ b[k]? = some 0) (j : Nat) (hj : b[j]? = some 0) : openO (b ++ more) 0 = none := by
  cases ho : openO (b ++ more) 0 with
  | none => rfl
  | some q =>
    exfalso
    obtain ⟨h1, p', t, hp', h2⟩ := openO_some ho
    have hfl := frame_length p
    have hjl : j < b.length := (List.getElem?_eq_some_iff.1 hj).1
    have hlen' : (enc (raw p')).length = 2 * (p'.length + 10) := by rw [enc_length, raw_length]
    have hg : ∀ k : Nat, k < 2 * (p'.length + 10) → k + 1 < b.length → b[k + 1]? = (enc (raw p'))[k]? := fun k k1 k2 => by
      have := congrArg (fun l => l[k]?) h2
      try simp only at this
      rw [List.getElem?_drop, List.getElem?_append_left (by omega), List.getElem?_append_left (by omega), Nat.add_comm] at this
      exact this
    rcases j with _ | j
    · have : (b ++ more).getD 0 0 = 0 := by
        rw [List.getD, List.getElem?_append_left hjl, hj]; rfl
      rw [this] at h1
      exact absurd h1 (by decide)
    have hbig : 2 * (p'.length + 10) ≤ j := by
      rcases Nat.lt_or_ge j (2 * (p'.length + 10)) with h3 | h3
      · have := hg j h3 hjl
        rw [hj] at this
        exact absurd rfl (letter_ne 0 (enc_letter _ _ _ this.symm)).1
      · exact h3
    have hg2 : ∀ k : Nat, k < 4 → (enc (raw p))[k]? = (enc (raw p'))[k]? := fun k k1 => by
      have := hg k (by omega) (by omega)
      rcases hk (k + 1) with h3 | h3
      · rw [← this, h3]; rfl
      · rw [h3] at this
        exact absurd rfl (letter_ne 0 (enc_letter _ _ _ this.symm)).1
    have hh : head p.length = head p'.length := by
      rw [← raw_head, ← raw_head]
      refine seg_eq 0 2 fun k _ hk => byte_eq ?_ ?_
      · have := hg2 (2 * k) (by omega); rwa [enc_get0, enc_get0] at this
      · have := hg2 (2 * k + 1) (by omega); rwa [enc_get1, enc_get1] at this
    have := head_len hp hp' hh
    omega
end Go.Proofs.YtpdcbkleolciiaaDoor
