/- Frames as plain functions on lists of bytes: the sum is injective in one byte; a text begins with a frame just if it opens. No condition. -/
import Derived.Test.YtpdcbkleolciiaaDoorProg
namespace Go.Proofs.YtpdcbkleolciiaaDoor.Fm
set_option linter.unusedVariables false
set_option linter.unusedSimpArgs false
def bit (s : UInt32) : UInt32 := s >>> 1 ^^^ (2197175160 &&& -(s &&& 1))
def bits : Nat → UInt32 → UInt32
  | 0, s => s
  | n + 1, s => bit (bits n s)
def step (s : UInt32) (c : UInt8) : UInt32 := ~~~(bits 8 (~~~s ^^^ c.toUInt32))
def sum (l : List UInt8) : UInt32 := l.foldl step 0
def four (s : UInt32) : List UInt8 := [s.toUInt8, (s >>> 8).toUInt8, (s >>> 16).toUInt8, (s >>> 24).toUInt8]
def head (n : Nat) : List UInt8 := [UInt8.ofNat (n / 256), UInt8.ofNat n]
def raw (p : List UInt8) : List UInt8 := head p.length ++ four (sum (head p.length)) ++ p ++ four (sum (head p.length ++ p))
def two (c : UInt8) : List UInt8 := [(64 : UInt8) ||| c >>> 4, (64 : UInt8) ||| c &&& 15]
def enc (r : List UInt8) : List UInt8 := r.flatMap two
def frame (p : List UInt8) : List UInt8 := 1 :: enc (raw p)
theorem four_length (s : UInt32) : (four s).length = 4 := rfl
theorem head_length (n : Nat) : (head n).length = 2 := rfl
theorem raw_length (p : List UInt8) : (raw p).length = p.length + 10 := by simp [raw, four_length, head_length]; omega
theorem enc_nil : enc [] = [] := rfl
theorem enc_cons (c : UInt8) (r : List UInt8) : enc (c :: r) = ((64 : UInt8) ||| c >>> 4) :: ((64 : UInt8) ||| c &&& 15) :: enc r := rfl
theorem enc_append (a b : List UInt8) : enc (a ++ b) = enc a ++ enc b := by simp [enc]
theorem enc_length : ∀ r : List UInt8, (enc r).length = 2 * r.length
  | [] => rfl
  | c :: r => by rw [enc_cons, List.length_cons, List.length_cons, enc_length r, List.length_cons]; omega
theorem frame_length (p : List UInt8) : (frame p).length = 2 * p.length + 21 := by
  rw [frame, List.length_cons, enc_length, raw_length]; omega
/-! letters -/
def lettered (a : UInt8) : Bool := a &&& ~~~15 == 64
theorem all8 {p : UInt8 → Prop} [∀ a, Decidable (p a)] (h : ∀ i : Fin 256, p (UInt8.ofNat i.val)) (a : UInt8) : p a := by
  have := h ⟨a.toNat, a.toNat_lt⟩
  simpa using this
theorem hi_letter (c : UInt8) : lettered ((64 : UInt8) ||| c >>> 4) = true := all8 (p := fun c => lettered ((64 : UInt8) ||| c >>> 4) = true) (by decide +kernel) c
theorem lo_letter (c : UInt8) : lettered ((64 : UInt8) ||| c &&& 15) = true := all8 (p := fun c => lettered ((64 : UInt8) ||| c &&& 15) = true) (by decide +kernel) c
theorem letter_ne (a : UInt8) (h : lettered a = true) : a ≠ 0 ∧ a ≠ 1 := by
  have := all8 (p := fun a => lettered a = true → a ≠ 0 ∧ a ≠ 1) (by decide +kernel) a
  exact this h
theorem hi_back (a : UInt8) (h : lettered a = true) : (64 : UInt8) ||| (a &&& 15) = a := by
  have := all8 (p := fun a => lettered a = true → (64 : UInt8) ||| (a &&& 15) = a) (by decide +kernel) a
  exact this h
theorem un_hi (a b : UInt8) : (a <<< 4 ||| b &&& 15) >>> 4 = a &&& 15 := by
  apply UInt8.toBitVec_inj.1
  apply BitVec.eq_of_getLsbD_eq
  intro i hi
  rcases (show i = 0 ∨ i = 1 ∨ i = 2 ∨ i = 3 ∨ i = 4 ∨ i = 5 ∨ i = 6 ∨ i = 7 by omega) with rfl | rfl | rfl | rfl | rfl | rfl | rfl | rfl <;> simp <;> decide
theorem un_lo (a b : UInt8) : (a <<< 4 ||| b &&& 15) &&& 15 = b &&& 15 := by
  apply UInt8.toBitVec_inj.1
  apply BitVec.eq_of_getLsbD_eq
  intro i hi
  rcases (show i = 0 ∨ i = 1 ∨ i = 2 ∨ i = 3 ∨ i = 4 ∨ i = 5 ∨ i = 6 ∨ i = 7 by omega) with rfl | rfl | rfl | rfl | rfl | rfl | rfl | rfl <;> simp <;> decide
theorem two_back (c : UInt8) : ((64 : UInt8) ||| c >>> 4) <<< 4 ||| ((64 : UInt8) ||| c &&& 15) &&& 15 = c := all8 (p := fun c => ((64 : UInt8) ||| c >>> 4) <<< 4 ||| ((64 : UInt8) ||| c &&& 15) &&& 15 = c) (by decide +kernel) c
theorem two_of (a b : UInt8) (ha : lettered a = true) (hb : lettered b = true) : two (a <<< 4 ||| b &&& 15) = [a, b] := by
  unfold two
  rw [un_hi, un_lo, hi_back a ha, hi_back b hb]
/-- So many raw bytes. -/
def raws : Nat → List UInt8 → Option (List UInt8)
  | 0, _ => some []
  | n + 1, a :: b :: l => if lettered a = true ∧ lettered b = true then (raws n l).map ((a <<< 4 ||| b &&& 15) :: ·) else none
  | _ + 1, _ => none
theorem raws_enc : ∀ (r t : List UInt8), raws r.length (enc r ++ t) = some r
  | [], t => rfl
  | c :: r, t => by
    rw [enc_cons, List.length_cons, List.cons_append, List.cons_append, raws, if_pos ⟨hi_letter c, lo_letter c⟩, raws_enc r t, two_back]
    rfl
theorem raws_some : ∀ (n : Nat) (l r : List UInt8), raws n l = some r → r.length = n ∧ l.take (2 * n) = enc r ∧ 2 * n ≤ l.length
  | 0, l, r, h => by
    simp [raws] at h; subst h; simp [enc]
  | n + 1, [], r, h => by simp [raws] at h
  | n + 1, [a], r, h => by simp [raws] at h
  | n + 1, a :: b :: l, r, h => by
    rw [raws] at h
    by_cases hab : lettered a = true ∧ lettered b = true
    · rw [if_pos hab] at h
      obtain ⟨r', hr', rfl⟩ := Option.map_eq_some_iff.1 h
      obtain ⟨h1, h2, h3⟩ := raws_some n l r' hr'
      have ht := two_of a b hab.1 hab.2
      unfold two at ht
      injection ht with e1 ht
      injection ht with e2 _
      refine ⟨by simp [h1], ?_, by simp; omega⟩
      rw [enc_cons, e1, e2, show 2 * (n + 1) = 2 * n + 1 + 1 by omega, List.take_succ_cons, List.take_succ_cons, h2]
    · rw [if_neg hab] at h; cases h
theorem raws_step : ∀ (i : Nat) (l r : List UInt8), raws i l = some r → 2 * i + 2 ≤ l.length → raws (i + 1) l = if lettered (l.getD (2 * i) 0) = true ∧ lettered (l.getD (2 * i + 1) 0) = true then some (r ++ [l.getD (2 * i) 0 <<< 4 ||| l.getD (2 * i + 1) 0 &&& 15]) else none
  | 0, [], r, h, hl => by simp at hl
  | 0, [a], r, h, hl => by simp at hl
  | 0, a :: b :: l, r, h, hl => by
    have : r = [] := by simpa [raws] using h.symm
    subst this
    simp [raws]
  | i + 1, [], r, h, hl => by simp at hl
  | i + 1, [a], r, h, hl => by simp at hl
  | i + 1, a :: b :: l, r, h, hl => by
    rw [raws] at h
    by_cases hab : lettered a = true ∧ lettered b = true
    · rw [if_pos hab] at h
      obtain ⟨r', hr', rfl⟩ := Option.map_eq_some_iff.1 h
      have ih := raws_step i l r' hr' (by simp at hl; omega)
      have e1 : (a :: b :: l).getD (2 * (i + 1)) 0 = l.getD (2 * i) 0 := by rw [show 2 * (i + 1) = 2 * i + 1 + 1 by omega, List.getD_cons_succ, List.getD_cons_succ]
      have e2 : (a :: b :: l).getD (2 * (i + 1) + 1) 0 = l.getD (2 * i + 1) 0 := by rw [show 2 * (i + 1) + 1 = 2 * i + 1 + 1 + 1 by omega, List.getD_cons_succ, List.getD_cons_succ]
      rw [raws, if_pos hab, ih, e1, e2]
      split <;> simp
    · rw [if_neg hab] at h; cases h
theorem raws_more : ∀ (i : Nat) (l : List UInt8), raws i l = none → raws (i + 1) l = none
  | 0, l, h => by simp [raws] at h
  | i + 1, [], h => rfl
  | i + 1, [a], h => rfl
  | i + 1, a :: b :: l, h => by
    rw [raws] at h ⊢
    by_cases hab : lettered a = true ∧ lettered b = true
    · rw [if_pos hab] at h ⊢
      rw [raws_more i l (by simpa using h)]
      rfl
    · rw [if_neg hab]
theorem raws_mono {i n : Nat} {l : List UInt8} (h : raws i l = none) (hi : i ≤ n) : raws n l = none := by
  induction n with
  | zero => obtain rfl : i = 0 := by omega
            exact h
  | succ n ih =>
    by_cases e : i = n + 1
    · rw [← e]; exact h
    · exact raws_more n l (ih (by omega))
theorem raws_short (n : Nat) (l : List UInt8) (h : l.length < 2 * n) : raws n l = none := by
  cases e : raws n l with
  | none => rfl
  | some r => have := (raws_some n l r e).2.2; omega
/-- What the code's open answers. -/
def openL (s : List UInt8) (at_ : Nat) : Option (List UInt8 × Nat) :=
  match raws 6 (s.drop at_) with
  | none => none
  | some hd => if four (sum (hd.take 2)) = hd.drop 2 then
      match raws ((hd.getD 0 0).toNat * 256 + (hd.getD 1 0).toNat + 4) (s.drop (at_ + 12)) with
      | none => none
      | some rest => if (hd.getD 0 0).toNat * 256 + (hd.getD 1 0).toNat ≤ 8192 ∧ four (sum (hd.take 2 ++ rest.take ((hd.getD 0 0).toNat * 256 + (hd.getD 1 0).toNat))) = rest.drop ((hd.getD 0 0).toNat * 256 + (hd.getD 1 0).toNat) then some (rest.take ((hd.getD 0 0).toNat * 256 + (hd.getD 1 0).toNat), at_ + 12 + 2 * ((hd.getD 0 0).toNat * 256 + (hd.getD 1 0).toNat + 4)) else none
    else none
theorem head_num (n : Nat) (h : n ≤ 8192) : ((head n).getD 0 0).toNat * 256 + ((head n).getD 1 0).toNat = n := by
  simp [head]; omega
theorem head_eq (a b : UInt8) : head (a.toNat * 256 + b.toNat) = [a, b] := by
  have ha := a.toNat_lt
  have hb := b.toNat_lt
  unfold head
  congr 1
  · apply UInt8.toNat_inj.1; simp; omega
  · congr 1
    apply UInt8.toNat_inj.1; simp
/-- What begins with a frame opens. -/
theorem open_frame (s : List UInt8) (at_ : Nat) (p t : List UInt8) (hp : p.length ≤ 8192) (hs : s.drop at_ = enc (raw p) ++ t) : openL s at_ = some (p, at_ + 2 * (p.length + 10)) := by
  have h1 : raws 6 (s.drop at_) = some (head p.length ++ four (sum (head p.length))) := by
    rw [hs, raw, List.append_assoc, enc_append, List.append_assoc]
    exact raws_enc (head p.length ++ four (sum (head p.length))) _
  have h2 : s.drop (at_ + 12) = enc (p ++ four (sum (head p.length ++ p))) ++ t := by
    rw [← List.drop_drop, hs, raw, List.append_assoc (head p.length ++ four (sum (head p.length))), enc_append, List.append_assoc, List.drop_append_of_le_length (by rw [enc_length]; simp [head_length, four_length]), List.drop_of_length_le (by rw [enc_length]; simp [head_length, four_length])]
    rfl
  have hn := head_num p.length hp
  have e0 : (head p.length ++ four (sum (head p.length))).getD 0 0 = (head p.length).getD 0 0 := rfl
  have e1 : (head p.length ++ four (sum (head p.length))).getD 1 0 = (head p.length).getD 1 0 := rfl
  have h3 : raws (p.length + 4) (s.drop (at_ + 12)) = some (p ++ four (sum (head p.length ++ p))) := by
    rw [h2]
    have := raws_enc (p ++ four (sum (head p.length ++ p))) t
    rwa [List.length_append, four_length] at this
  unfold openL
  rw [h1]
  simp only [e0, e1, hn]
  have e2 : (head p.length ++ four (sum (head p.length))).take 2 = head p.length := rfl
  have e3 : (head p.length ++ four (sum (head p.length))).drop 2 = four (sum (head p.length)) := rfl
  rw [e2, e3, if_pos rfl, h3]
  simp only [List.take_left', List.drop_left']
  rw [if_pos ⟨hp, by simp⟩]
  simp; omega
theorem sublist_len (l : List UInt8) (h : l.length = 6) : ∃ a b c, l = a :: b :: c ∧ c.length = 4 := by
  match l, h with
  | [a, b, c, d, e, f], _ => exact ⟨a, b, [c, d, e, f], rfl, rfl⟩
/-- What opens begins with a frame. -/
theorem open_some (s : List UInt8) (at_ : Nat) (p : List UInt8) (k : Nat) (h : openL s at_ = some (p, k)) : p.length ≤ 8192 ∧ k = at_ + 2 * (p.length + 10) ∧ ∃ t, s.drop at_ = enc (raw p) ++ t := by
  unfold openL at h
  split at h
  · cases h
  rename_i hd h1
  obtain ⟨l1, t1, g1⟩ := raws_some _ _ _ h1
  obtain ⟨a, b, c, rfl, hc⟩ := sublist_len hd l1
  simp only [List.getD_cons_zero, List.getD_cons_succ, List.take_succ_cons, List.take_zero, List.drop_succ_cons, List.drop_zero] at h
  by_cases hh : four (sum [a, b]) = c
  · rw [if_pos hh] at h
    split at h
    · cases h
    rename_i rest h2
    obtain ⟨l2, t2, g2⟩ := raws_some _ _ _ h2
    obtain ⟨n, hn⟩ : ∃ n, n = a.toNat * 256 + b.toNat := ⟨_, rfl⟩
    rw [← hn] at h h2 l2 t2 g2
    by_cases hq : n ≤ 8192 ∧ four (sum ([a, b] ++ rest.take n)) = rest.drop n
    · rw [if_pos hq] at h
      have h := Option.some.inj h
      have hpe : rest.take n = p := congrArg Prod.fst h
      have hke : at_ + 12 + 2 * (n + 4) = k := congrArg Prod.snd h
      have hpl : p.length = n := by rw [← hpe, List.length_take]; omega
      have hhd : head p.length = [a, b] := by rw [hpl, hn, head_eq]
      refine ⟨by omega, by omega, (s.drop (at_ + 12)).drop (2 * (n + 4)), ?_⟩
      have hr : raw p = (a :: b :: c) ++ rest := by
        unfold raw
        rw [hhd, hh, ← hpe, hq.2, List.append_assoc, List.take_append_drop]
        rfl
      rw [hr, enc_append, ← t1, ← t2, List.append_assoc, List.take_append_drop, ← List.drop_drop, List.take_append_drop]
    · rw [if_neg hq] at h; cases h
  · rw [if_neg hh] at h; cases h
/-! the sum -/
theorem bit_alt (s : UInt32) : bit s = if s.toNat % 2 = 1 then s >>> 1 ^^^ 2197175160 else s >>> 1 := by
  have h1 : s &&& 1 = if s.toNat % 2 = 1 then 1 else 0 := by
    apply UInt32.toNat_inj.1
    rw [UInt32.toNat_and]
    have : s.toNat &&& 1 = s.toNat % 2 := Nat.and_one_is_mod _
    show s.toNat &&& 1 = _
    rw [this]
    split <;> simp <;> omega
  unfold bit
  rw [h1]
  split
  · rfl
  · simp
theorem bit_inj {s t : UInt32} (h : bit s = bit t) : s = t := by
  rw [bit_alt, bit_alt] at h
  have hs : (s >>> 1).toNat = s.toNat / 2 := by simp [Nat.shiftRight_eq_div_pow]
  have ht : (t >>> 1).toNat = t.toNat / 2 := by simp [Nat.shiftRight_eq_div_pow]
  have hs2 := s.toNat_lt
  have ht2 := t.toNat_lt
  have key : ∀ u v : UInt32, u.toNat < 2147483648 → v.toNat < 2147483648 → u ^^^ 2197175160 ≠ v := by
    intro u v hu hv e
    have e2 := congrArg UInt32.toNat e
    rw [UInt32.toNat_xor] at e2
    have b1 : Nat.testBit (u.toNat ^^^ (2197175160 : UInt32).toNat) 31 = true := by
      rw [Nat.testBit_xor, Nat.testBit_lt_two_pow (show u.toNat < 2 ^ 31 by omega)]
      decide
    rw [e2, Nat.testBit_lt_two_pow (show v.toNat < 2 ^ 31 by omega)] at b1
    cases b1
  apply UInt32.toNat_inj.1
  by_cases h1 : s.toNat % 2 = 1 <;> by_cases h2 : t.toNat % 2 = 1
  · rw [if_pos h1, if_pos h2] at h
    have e := congrArg (· ^^^ (2197175160 : UInt32)) h
    simp only [UInt32.xor_assoc, UInt32.xor_self, UInt32.xor_zero] at e
    have := congrArg UInt32.toNat e
    rw [hs, ht] at this
    omega
  · rw [if_pos h1, if_neg h2] at h
    exact absurd h (key _ _ (by omega) (by omega))
  · rw [if_neg h1, if_pos h2] at h
    exact absurd h.symm (key _ _ (by omega) (by omega))
  · rw [if_neg h1, if_neg h2] at h
    have := congrArg UInt32.toNat h
    rw [hs, ht] at this
    omega
theorem bits_inj : ∀ (n : Nat) {s t : UInt32}, bits n s = bits n t → s = t
  | 0, _, _, h => h
  | n + 1, s, t, h => bits_inj n (bit_inj h)
theorem not_inj {s t : UInt32} (h : ~~~s = ~~~t) : s = t := by
  have := congrArg (~~~ ·) h
  simpa using this
theorem xor_inj {s t c : UInt32} (h : s ^^^ c = t ^^^ c) : s = t := by
  have e := congrArg (· ^^^ c) h
  simpa only [UInt32.xor_assoc, UInt32.xor_self, UInt32.xor_zero] using e
theorem step_inj {s t : UInt32} {c : UInt8} (h : step s c = step t c) : s = t := not_inj (xor_inj (bits_inj 8 (not_inj h)))
theorem step_inj2 {s : UInt32} {c d : UInt8} (h : step s c = step s d) : c = d := by
  have h1 := bits_inj 8 (not_inj h)
  rw [UInt32.xor_comm _ c.toUInt32, UInt32.xor_comm _ d.toUInt32] at h1
  have h2 := xor_inj h1
  have := congrArg UInt32.toNat h2
  simp at this
  exact UInt8.toNat_inj.1 this
theorem fold_inj : ∀ (l : List UInt8) {s t : UInt32}, l.foldl step s = l.foldl step t → s = t
  | [], _, _, h => h
  | c :: l, s, t, h => step_inj (fold_inj l h)
theorem sum_one {a b : List UInt8} {c d : UInt8} (h : sum (a ++ c :: b) = sum (a ++ d :: b)) : c = d := by
  unfold sum at h
  rw [List.foldl_append, List.foldl_append, List.foldl_cons, List.foldl_cons] at h
  exact step_inj2 (fold_inj b h)
theorem four_inj {s t : UInt32} (h : four s = four t) : s = t := by
  unfold four at h
  injection h with h0 h
  injection h with h1 h
  injection h with h2 h
  injection h with h3 _
  have g0 := congrArg UInt8.toNat h0
  have g1 := congrArg UInt8.toNat h1
  have g2 := congrArg UInt8.toNat h2
  have g3 := congrArg UInt8.toNat h3
  simp [Nat.shiftRight_eq_div_pow] at g0 g1 g2 g3
  apply UInt32.toNat_inj.1
  have := s.toNat_lt
  have := t.toNat_lt
  omega
end Go.Proofs.YtpdcbkleolciiaaDoor.Fm
