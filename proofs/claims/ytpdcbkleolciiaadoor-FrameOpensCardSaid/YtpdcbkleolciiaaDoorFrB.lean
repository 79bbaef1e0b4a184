/- The sum of bytes as a division of polynomials, bit by bit. No condition. -/
import Derived.Test.YtpdcbkleolciiaaDoorFrS
namespace Go.Proofs.YtpdcbkleolciiaaDoor.Fm
set_option linter.unusedVariables false
set_option linter.unusedSimpArgs false
/-- So many bits of a number, the lowest first. -/
def bitsN : Nat → Nat → List Bool
  | 0, _ => []
  | n + 1, c => (c % 2 == 1) :: bitsN n (c / 2)
def msg (l : List UInt8) : List Bool := l.flatMap fun c => bitsN 8 c.toNat
def pw : List Nat := [28, 27, 26, 25, 23, 22, 20, 19, 18, 14, 13, 11, 10, 9, 8, 6, 0]
def flip (l : List Bool) (k : Nat) : List Bool := l.set k (!(l.getD k false))
def flips (i : Nat) (l : List Bool) (ps : List Nat) : List Bool := ps.foldl (fun l p => flip l (i + 32 - p)) l
def firsts (l : List Bool) (n : Nat) : List Bool := (List.range n).foldl flip l
def divs (l : List Bool) : Nat → List Bool
  | 0 => l
  | i + 1 => if (divs l i).getD i false then flips i (divs l i) pw else divs l i
theorem bitsN_length : ∀ n c, (bitsN n c).length = n
  | 0, _ => rfl
  | n + 1, c => by simp [bitsN, bitsN_length n]
theorem msg_length (l : List UInt8) : (msg l).length = 8 * l.length := by
  induction l with
  | nil => rfl
  | cons c t ih =>
    have : msg (c :: t) = bitsN 8 c.toNat ++ msg t := rfl
    rw [this, List.length_append, bitsN_length, ih, List.length_cons]
    omega
theorem flip_length (l : List Bool) (k : Nat) : (flip l k).length = l.length := by simp [flip]
theorem flips_length (i : Nat) : ∀ (ps : List Nat) (l : List Bool), (flips i l ps).length = l.length
  | [], _ => rfl
  | p :: ps, l => by
    have : flips i l (p :: ps) = flips i (flip l (i + 32 - p)) ps := rfl
    rw [this, flips_length i ps, flip_length]
theorem divs_length (l : List Bool) : ∀ i, (divs l i).length = l.length
  | 0 => rfl
  | i + 1 => by
    unfold divs
    split
    · rw [flips_length, divs_length l i]
    · exact divs_length l i
theorem flip_get (l : List Bool) (k j : Nat) (hk : k < l.length) : (flip l k).getD j false = (l.getD j false ^^ (j == k)) := by
  unfold flip
  by_cases h : j = k
  · subst h
    rw [beq_self_eq_true, Bool.xor_true]
    simp only [List.getD]
    rw [List.getElem?_set_self hk]
    rfl
  · have h2 : (j == k) = false := by simpa using h
    simp [List.getD, List.getElem?_set_ne (fun e => h e.symm), h2]
theorem flips_get (i j : Nat) : ∀ (ps : List Nat) (l : List Bool), (∀ p ∈ ps, i + 32 - p < l.length) → (flips i l ps).getD j false = (l.getD j false ^^ ps.foldl (fun a p => a ^^ (j == i + 32 - p)) false)
  | [], l, _ => by simp [flips]
  | p :: ps, l, h => by
    have e : flips i l (p :: ps) = flips i (flip l (i + 32 - p)) ps := rfl
    rw [e, flips_get i j ps _ (fun q hq => by rw [flip_length]; exact h q (by simp [hq])), flip_get _ _ _ (h p (by simp)), List.foldl_cons]
    have g : ∀ (qs : List Nat) (a b : Bool), qs.foldl (fun a p => a ^^ (j == i + 32 - p)) (a ^^ b) = (a ^^ qs.foldl (fun a p => a ^^ (j == i + 32 - p)) b) := by
      intro qs
      induction qs with
      | nil => intro a b; rfl
      | cons q qs ih => intro a b; rw [List.foldl_cons, List.foldl_cons, Bool.xor_assoc, ih]
    have := g ps (j == i + 32 - p) false
    rw [Bool.xor_false] at this
    rw [Bool.false_xor, this, Bool.xor_assoc]
theorem firsts_length (l : List Bool) : ∀ n, (firsts l n).length = l.length
  | 0 => rfl
  | n + 1 => by
    unfold firsts
    rw [List.range_succ, List.foldl_append, List.foldl_cons, List.foldl_nil, flip_length]
    exact firsts_length l n
theorem firsts_succ (l : List Bool) (n : Nat) : firsts l (n + 1) = flip (firsts l n) n := by
  unfold firsts
  rw [List.range_succ, List.foldl_append]
  rfl
theorem firsts_get (l : List Bool) (j : Nat) : ∀ n, n ≤ l.length → (firsts l n).getD j false = (l.getD j false ^^ decide (j < n))
  | 0, _ => by simp [firsts]
  | n + 1, h => by
    rw [firsts_succ, flip_get _ _ _ (by rw [firsts_length]; omega), firsts_get l j n (by omega), Bool.xor_assoc]
    congr 1
    by_cases h1 : j = n
    · subst h1; simp
    · have h2 : (j == n) = false := by simpa using h1
      rw [h2, Bool.xor_false]
      by_cases h3 : j < n
      · rw [decide_eq_true h3, decide_eq_true (show j < n + 1 by omega)]
      · rw [decide_eq_false h3, decide_eq_false (show ¬ j < n + 1 by omega)]
/-- A bit as a number. -/
def one (b : Bool) : UInt32 := if b then 1 else 0
/-- The register, behind so many bits. -/
def reg (l : List Bool) : UInt32 := l.foldl (fun r b => bit (r ^^^ one b)) 4294967295
theorem testBit_shr (s : UInt32) (k : Nat) : (s >>> 1).toNat.testBit k = s.toNat.testBit (k + 1) := by
  have : (s >>> 1).toNat = s.toNat >>> 1 := by simp
  rw [this, Nat.testBit_shiftRight, Nat.add_comm]
theorem poly_bit : ∀ t, t < 32 → (2197175160 : UInt32).toNat.testBit t = pw.foldl (fun a p => a ^^ (t == 31 - p)) false := by decide +kernel
theorem bit_get (s : UInt32) (b : Bool) (k : Nat) : (bit (s ^^^ one b)).toNat.testBit k = (s.toNat.testBit (k + 1) ^^ ((s.toNat.testBit 0 ^^ b) && (2197175160 : UInt32).toNat.testBit k)) := by
  have hone : ∀ j, (one b).toNat.testBit (j + 1) = false := by
    intro j
    cases b
    · show (0 : Nat).testBit (j + 1) = false
      simp
    · show (1 : Nat).testBit (j + 1) = false
      rw [Nat.testBit_succ]; simp
  have hone0 : (one b).toNat.testBit 0 = b := by cases b <;> rfl
  have h0 : ((s ^^^ one b).toNat % 2 = 1) ↔ ((s.toNat.testBit 0 ^^ b) = true) := by
    have := Nat.testBit_zero (s ^^^ one b).toNat
    rw [UInt32.toNat_xor, Nat.testBit_xor, hone0] at this
    rw [this, UInt32.toNat_xor]
    simp
  rw [bit_alt]
  by_cases h : (s ^^^ one b).toNat % 2 = 1
  · rw [if_pos h, h0.1 h, UInt32.toNat_xor, Nat.testBit_xor, testBit_shr, UInt32.toNat_xor, Nat.testBit_xor, hone]
    simp
  · have h1 : (s.toNat.testBit 0 ^^ b) = false := by
      cases e : (s.toNat.testBit 0 ^^ b)
      · rfl
      · exact absurd (h0.2 e) h
    rw [if_neg h, h1, testBit_shr, UInt32.toNat_xor, Nat.testBit_xor, hone]
    simp
theorem getD_pad (m : List Bool) (n j : Nat) : (m ++ List.replicate n false).getD j false = m.getD j false := by
  by_cases h : j < m.length
  · simp [List.getD, List.getElem?_append_left h]
  · simp only [List.getD]
    rw [List.getElem?_append_right (by omega), List.getElem?_replicate, List.getElem?_eq_none (show m.length ≤ j by omega)]
    split <;> rfl
theorem reg_nil (j : Nat) : (reg []).toNat.testBit j = decide (j < 32) := by
  have hr : (reg []).toNat = 2 ^ 32 - 1 := by decide +kernel
  rw [hr]
  exact Nat.testBit_two_pow_sub_one 32 j
/-- The division, up to a place: what follows is the message's bits and the register's. -/
theorem divs_get (m : List Bool) : ∀ i, i ≤ m.length → ∀ j, i ≤ j → (divs (firsts (m ++ List.replicate 32 false) 32) i).getD j false = (m.getD j false ^^ (reg (m.take i)).toNat.testBit (j - i))
  | 0, _, j, _ => by
    have : divs (firsts (m ++ List.replicate 32 false) 32) 0 = firsts (m ++ List.replicate 32 false) 32 := rfl
    rw [this, firsts_get _ _ _ (by simp), getD_pad]
    rw [show m.take 0 = [] from rfl, reg_nil, Nat.sub_zero]
  | i + 1, hi, j, hj => by
    have hlen := divs_length (firsts (m ++ List.replicate 32 false) 32) i
    rw [firsts_length, List.length_append, List.length_replicate] at hlen
    have h1 := divs_get m i (by omega) i (Nat.le_refl _)
    have h2 := divs_get m i (by omega) j (by omega)
    rw [Nat.sub_self] at h1
    have htk : m.take (i + 1) = m.take i ++ [m.getD i false] := by
      rw [List.take_succ_eq_append_getElem (by omega)]
      simp [List.getD, List.getElem?_eq_getElem (show i < m.length by omega)]
    have hreg : reg (m.take (i + 1)) = bit (reg (m.take i) ^^^ one (m.getD i false)) := by
      unfold reg
      rw [htk, List.foldl_append]
      rfl
    rw [hreg, bit_get, show j - (i + 1) + 1 = j - i by omega]
    unfold divs
    rw [Bool.xor_comm ((reg (m.take i)).toNat.testBit 0), ← h1, ← Bool.xor_assoc, ← h2]
    cases hb : (divs (firsts (m ++ List.replicate 32 false) 32) i).getD i false
    · simp
    · rw [if_pos rfl, flips_get _ _ _ _ (fun p hp => by rw [hlen]; omega), Bool.true_and]
      congr 1
      obtain ⟨t, rfl⟩ : ∃ t, j = i + 1 + t := ⟨j - (i + 1), by omega⟩
      rw [show i + 1 + t - (i + 1) = t by omega]
      by_cases ht : t < 32
      · rw [poly_bit t ht]
        have : ∀ (qs : List Nat) (a : Bool), (∀ p ∈ qs, p ≤ 31) → qs.foldl (fun a p => a ^^ (i + 1 + t == i + 32 - p)) a = qs.foldl (fun a p => a ^^ (t == 31 - p)) a := by
          intro qs
          induction qs with
          | nil => intro a _; rfl
          | cons q qs ih =>
            intro a h
            have hq := h q (by simp)
            have : (i + 1 + t == i + 32 - q) = (t == 31 - q) := by
              rw [Bool.eq_iff_iff]
              simp only [beq_iff_eq]
              omega
            rw [List.foldl_cons, List.foldl_cons, this, ih _ fun p hp => h p (by simp [hp])]
        exact this pw false (by decide)
      · have hp : (2197175160 : UInt32).toNat.testBit t = false := Nat.testBit_lt_two_pow (Nat.lt_of_lt_of_le (show (2197175160 : UInt32).toNat < 2 ^ 32 by decide) (Nat.pow_le_pow_right (by omega) (by omega)))
        rw [hp]
        have : ∀ (qs : List Nat), qs.foldl (fun a p => a ^^ (i + 1 + t == i + 32 - p)) false = false := by
          intro qs
          induction qs with
          | nil => rfl
          | cons q qs ih =>
            have : (i + 1 + t == i + 32 - q) = false := by
              rw [beq_eq_false_iff_ne]
              omega
            rw [List.foldl_cons, this, Bool.xor_false, ih]
        exact this pw
/-- Eight bits at once. -/
theorem bits_succ : ∀ (n : Nat) (s : UInt32), bits (n + 1) s = bits n (bit s)
  | 0, _ => rfl
  | n + 1, s => by
    have := bits_succ n s
    show bit (bits (n + 1) s) = bit (bits n (bit s))
    rw [this]
theorem u32_ext {a b : UInt32} (h : ∀ k, a.toNat.testBit k = b.toNat.testBit k) : a = b := UInt32.toNat_inj.1 (Nat.eq_of_testBit_eq h)
theorem bit_low (r c : UInt32) : bit (r ^^^ c) = bit (r ^^^ one (c.toNat % 2 == 1)) ^^^ (c >>> 1) := by
  apply u32_ext
  intro k
  have h0 := Nat.testBit_zero c.toNat
  have hd : (c.toNat % 2 == 1) = c.toNat.testBit 0 := by rw [h0]; rfl
  rw [UInt32.toNat_xor, Nat.testBit_xor, bit_get, testBit_shr, hd]
  have hx := bit_get (r ^^^ c) false k
  have ho : r ^^^ c ^^^ one false = r ^^^ c := by simp [one]
  rw [ho] at hx
  rw [hx, UInt32.toNat_xor, Nat.testBit_xor, Nat.testBit_xor, Bool.xor_false]
  cases r.toNat.testBit (k + 1) <;> cases c.toNat.testBit (k + 1) <;> cases ((r.toNat.testBit 0 ^^ c.toNat.testBit 0) && (2197175160 : UInt32).toNat.testBit k) <;> rfl
theorem bits_fold : ∀ (n : Nat) (r c : UInt32), c.toNat < 2 ^ n → (bitsN n c.toNat).foldl (fun r b => bit (r ^^^ one b)) r = bits n (r ^^^ c)
  | 0, r, c, h => by
    have : c = 0 := UInt32.toNat_inj.1 (by simp at h ⊢; exact h)
    subst this
    simp [bitsN, bits]
  | n + 1, r, c, h => by
    have hc : (c >>> 1).toNat = c.toNat / 2 := by simp [Nat.shiftRight_eq_div_pow]
    rw [bits_succ, bit_low, ← bits_fold n _ (c >>> 1) (by rw [hc, Nat.pow_succ] at *; omega), hc]
    rfl
theorem reg_msg (l : List UInt8) : reg (msg l) = ~~~(sum l) := by
  have key : ∀ (l : List UInt8) (s : UInt32), (msg l).foldl (fun r b => bit (r ^^^ one b)) (~~~s) = ~~~(l.foldl step s) := by
    intro l
    induction l with
    | nil => intro s; rfl
    | cons c t ih =>
      intro s
      have e : msg (c :: t) = bitsN 8 c.toNat ++ msg t := rfl
      have hc : c.toUInt32.toNat = c.toNat := by simp
      have h8 := bits_fold 8 (~~~s) c.toUInt32 (by rw [hc]; exact c.toNat_lt)
      rw [hc] at h8
      rw [e, List.foldl_append, h8, List.foldl_cons, ← ih (step s c)]
      unfold step
      rw [UInt32.not_not]
  have := key l 0
  rw [show ~~~(0 : UInt32) = 4294967295 from rfl] at this
  exact this
/-- What is left of the division tells the sum. -/
theorem last_get (l : List UInt8) (k : Nat) (hk : k < 32) : (divs (firsts (msg l ++ List.replicate 32 false) 32) (8 * l.length)).getD (8 * l.length + k) false = !((sum l).toNat.testBit k) := by
  have h := divs_get (msg l) (8 * l.length) (by rw [msg_length]; exact Nat.le_refl _) (8 * l.length + k) (by omega)
  rw [h, show (8 * l.length + k - 8 * l.length) = k by omega, List.take_of_length_le (by rw [msg_length]; exact Nat.le_refl _), reg_msg]
  have hm : (msg l).getD (8 * l.length + k) false = false := by
    simp only [List.getD]
    rw [List.getElem?_eq_none (by rw [msg_length]; omega)]
    rfl
  rw [hm, Bool.false_xor]
  have : (~~~(sum l)).toNat = 2 ^ 32 - 1 - (sum l).toNat := by
    rw [UInt32.toNat_not]
  have h32 := (sum l).toNat_lt
  rw [this, show 2 ^ 32 - 1 - (sum l).toNat = 2 ^ 32 - ((sum l).toNat + 1) by omega, Nat.testBit_two_pow_sub_succ h32]
  simp [hk]
/-- The sum, taken together of its bits. -/
def low (x : UInt32) (k : Nat) : UInt32 := UInt32.ofNat (x.toNat % 2 ^ k)
def wei (k : Nat) : UInt32 := UInt32.ofNat (2 ^ k)
theorem low_zero (x : UInt32) : low x 0 = 0 := by simp [low, Nat.mod_one]
theorem mod_succ (x k : Nat) : x % 2 ^ (k + 1) = x % 2 ^ k + (if x.testBit k then 2 ^ k else 0) := by
  have h1 : x % 2 ^ (k + 1) = x % 2 ^ k + 2 ^ k * (x / 2 ^ k % 2) := by rw [Nat.pow_succ, Nat.mod_mul]
  rw [h1, Nat.testBit_eq_decide_div_mod_eq]
  rcases Nat.mod_two_eq_zero_or_one (x / 2 ^ k) with h | h
  · rw [h]; simp
  · rw [h]; simp
theorem low_succ (x : UInt32) (k : Nat) : low x (k + 1) = if x.toNat.testBit k then low x k + wei k else low x k := by
  unfold low wei
  rw [mod_succ]
  split
  · rw [UInt32.ofNat_add]
  · rfl
theorem wei_succ (k : Nat) : wei (k + 1) = wei k * 2 := by
  unfold wei
  rw [Nat.pow_succ, UInt32.ofNat_mul]
  rfl
theorem low_all (x : UInt32) : low x 32 = x := by
  unfold low
  rw [Nat.mod_eq_of_lt x.toNat_lt]
  simp
end Go.Proofs.YtpdcbkleolciiaaDoor.Fm
