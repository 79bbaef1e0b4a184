/- Parts FrB, FrC, FrG, Jt0, Jt1, joined. No condition. -/
import Derived.Test.YtblikpbaeippaaaM5T
import Derived.Test.YtblikpbaeippaaaM13T
namespace Go.Proofs.Ytblikpbaeippaaa.Fm
set_option linter.unusedVariables false
set_option linter.unusedSimpArgs false
def bitsN : Nat → Nat → List Bool
  | 0, _ => []
  | n + 1, c => (c % 2 == 1) :: bitsN n (c / 2)
def msg (l : List UInt8) : List Bool := l.flatMap fun c => bitsN 8 c.toNat
def pw : List Nat := [28, 27, 26, 25, 23, 22, 20, 19, 18, 14, 13, 11, 10, 9, 8, 6, 0]
def flip (l : List Bool) (k : Nat) : List Bool := l.set k (!(l.getD k false))
def flips (i : Nat) (l : List Bool) (ps : List Nat) : List Bool := ps.foldl (fun l p => flip l (i + 32 - p)) l
def firsts (l : List Bool) (n : Nat) : List Bool := (List.range n).foldl flip l
def divs (l : List Bool) : Nat → List Bool
  | 0 => l
  | i + 1 => if (divs l i).getD i false then flips i (divs l i) pw else divs l i
theorem zFr : ∀ n c, (bitsN n c).length = n
  | 0, _ => rfl
  | n + 1, c => by simp [bitsN, zFr n]
theorem msg_length (l : List UInt8) : (msg l).length = 8 * l.length := by
  induction l with
  | nil => rfl
  | cons c t ih =>
    have : msg (c :: t) = bitsN 8 c.toNat ++ msg t := rfl
    rw [this, List.length_append, zFr, ih, List.length_cons]
    omega
theorem zE6 (l : List Bool) (k : Nat) : (flip l k).length = l.length := by simp [flip]
theorem flips_length (i : Nat) : ∀ (ps : List Nat) (l : List Bool), (flips i l ps).length = l.length
  | [], _ => rfl
  | p :: ps, l => by
    have : flips i l (p :: ps) = flips i (flip l (i + 32 - p)) ps := rfl
    rw [this, flips_length i ps, zE6]
theorem divs_length (l : List Bool) : ∀ i, (divs l i).length = l.length
  | 0 => rfl
  | i + 1 => by
    unfold divs
    split
    · rw [flips_length, divs_length l i]
    · exact divs_length l i
theorem flip_get (l : List Bool) (k j : Nat) (hk : k < l.length) : (flip l k).getD j false = (l.getD j false ^^ (j == k)) := by
  unfold flip
  by_cases h : j = k
  · subst h
    rw [beq_self_eq_true, Bool.xor_true]
    simp only [List.getD]
    rw [List.getElem?_set_self hk]
    rfl
  · have h2 : (j == k) = false := by simpa using h
    simp [List.getD, List.getElem?_set_ne (fun e => h e.symm), h2]
theorem flips_get (i j : Nat) : ∀ (ps : List Nat) (l : List Bool), (∀ p ∈ ps, i + 32 - p < l.length) → (flips i l ps).getD j false = (l.getD j false ^^ ps.foldl (fun a p => a ^^ (j == i + 32 - p)) false)
  | [], l, _ => by simp [flips]
  | p :: ps, l, h => by
    have e : flips i l (p :: ps) = flips i (flip l (i + 32 - p)) ps := rfl
    rw [e, flips_get i j ps _ (fun q hq => by rw [zE6]; exact h q (by simp [hq])), flip_get _ _ _ (h p (by simp)), List.foldl_cons]
    have g : ∀ (qs : List Nat) (a b : Bool), qs.foldl (fun a p => a ^^ (j == i + 32 - p)) (a ^^ b) = (a ^^ qs.foldl (fun a p => a ^^ (j == i + 32 - p)) b) := by
      intro qs
      induction qs with
      | nil => intro a b; rfl
      | cons q qs ih => intro a b; rw [List.foldl_cons, List.foldl_cons, Bool.xor_assoc, ih]
    have := g ps (j == i + 32 - p) false
    rw [Bool.xor_false] at this
    rw [Bool.false_xor, this, Bool.xor_assoc]
theorem firsts_length (l : List Bool) : ∀ n, (firsts l n).length = l.length
  | 0 => rfl
  | n + 1 => by
    unfold firsts
    rw [List.range_succ, List.foldl_append, List.foldl_cons, List.foldl_nil, zE6]
    exact firsts_length l n
theorem firsts_succ (l : List Bool) (n : Nat) : firsts l (n + 1) = flip (firsts l n) n := by
  unfold firsts
  rw [List.range_succ, List.foldl_append]
  rfl
theorem zHb (l : List Bool) (j : Nat) : ∀ n, n ≤ l.length → (firsts l n).getD j false = (l.getD j false ^^ decide (j < n))
  | 0, _ => by simp [firsts]
  | n + 1, h => by
    rw [firsts_succ, flip_get _ _ _ (by rw [firsts_length]; omega), zHb l j n (by omega), Bool.xor_assoc]
    congr 1
    by_cases h1 : j = n
    · subst h1; simp
    · have h2 : (j == n) = false := by simpa using h1
      rw [h2, Bool.xor_false]
      by_cases h3 : j < n
      · rw [decide_eq_true h3, decide_eq_true (show j < n + 1 by omega)]
      · rw [decide_eq_false h3, decide_eq_false (show ¬ j < n + 1 by omega)]
def one (b : Bool) : UInt32 := if b then 1 else 0
def reg (l : List Bool) : UInt32 := l.foldl (fun r b => bit (r ^^^ one b)) 4294967295
theorem zEz (s : UInt32) (k : Nat) : (s >>> 1).toNat.testBit k = s.toNat.testBit (k + 1) := by
  have : (s >>> 1).toNat = s.toNat >>> 1 := by simp
  rw [this, Nat.testBit_shiftRight, Nat.add_comm]
theorem poly_bit : ∀ t, t < 32 → (2197175160 : UInt32).toNat.testBit t = pw.foldl (fun a p => a ^^ (t == 31 - p)) false := by decide +kernel
theorem bit_get (s : UInt32) (b : Bool) (k : Nat) : (bit (s ^^^ one b)).toNat.testBit k = (s.toNat.testBit (k + 1) ^^ ((s.toNat.testBit 0 ^^ b) && (2197175160 : UInt32).toNat.testBit k)) := by
  have hone : ∀ j, (one b).toNat.testBit (j + 1) = false := by
    intro j
    cases b
    · show (0 : Nat).testBit (j + 1) = false
      simp
    · show (1 : Nat).testBit (j + 1) = false
      rw [Nat.testBit_succ]; simp
  have hone0 : (one b).toNat.testBit 0 = b := by cases b <;> rfl
  have h0 : ((s ^^^ one b).toNat % 2 = 1) ↔ ((s.toNat.testBit 0 ^^ b) = true) := by
    have := Nat.testBit_zero (s ^^^ one b).toNat
    rw [UInt32.toNat_xor, Nat.testBit_xor, hone0] at this
    rw [this, UInt32.toNat_xor]
    simp
  rw [bit_alt]
  by_cases h : (s ^^^ one b).toNat % 2 = 1
  · rw [if_pos h, h0.1 h, UInt32.toNat_xor, Nat.testBit_xor, zEz, UInt32.toNat_xor, Nat.testBit_xor, hone]
    simp
  · have h1 : (s.toNat.testBit 0 ^^ b) = false := by
      cases e : (s.toNat.testBit 0 ^^ b)
      · rfl
      · exact absurd (h0.2 e) h
    rw [if_neg h, h1, zEz, UInt32.toNat_xor, Nat.testBit_xor, hone]
    simp
theorem getD_pad (m : List Bool) (n j : Nat) : (m ++ List.replicate n false).getD j false = m.getD j false := by
  by_cases h : j < m.length
  · simp [List.getD, List.getElem?_append_left h]
  · simp only [List.getD]
    rw [List.getElem?_append_right (by omega), List.getElem?_replicate, List.getElem?_eq_none (show m.length ≤ j by omega)]
    split <;> rfl
theorem reg_nil (j : Nat) : (reg []).toNat.testBit j = decide (j < 32) := by
  have hr : (reg []).toNat = 2 ^ 32 - 1 := by decide +kernel
  rw [hr]
  exact Nat.testBit_two_pow_sub_one 32 j
theorem divs_get (m : List Bool) : ∀ i, i ≤ m.length → ∀ j, i ≤ j → (divs (firsts (m ++ List.replicate 32 false) 32) i).getD j false = (m.getD j false ^^ (reg (m.take i)).toNat.testBit (j - i))
  | 0, _, j, _ => by
    have : divs (firsts (m ++ List.replicate 32 false) 32) 0 = firsts (m ++ List.replicate 32 false) 32 := rfl
    rw [this, zHb _ _ _ (by simp), getD_pad]
    rw [show m.take 0 = [] from rfl, reg_nil, Nat.sub_zero]
  | i + 1, hi, j, hj => by
    have hlen := divs_length (firsts (m ++ List.replicate 32 false) 32) i
    rw [firsts_length, List.length_append, List.length_replicate] at hlen
    have h1 := divs_get m i (by omega) i (Nat.le_refl _)
    have h2 := divs_get m i (by omega) j (by omega)
    rw [Nat.sub_self] at h1
    have htk : m.take (i + 1) = m.take i ++ [m.getD i false] := by
      rw [List.take_succ_eq_append_getElem (by omega)]
      simp [List.getD, List.getElem?_eq_getElem (show i < m.length by omega)]
    have hreg : reg (m.take (i + 1)) = bit (reg (m.take i) ^^^ one (m.getD i false)) := by
      unfold reg
      rw [htk, List.foldl_append]
      rfl
    rw [hreg, bit_get, show j - (i + 1) + 1 = j - i by omega]
    unfold divs
    rw [Bool.xor_comm ((reg (m.take i)).toNat.testBit 0), ← h1, ← Bool.xor_assoc, ← h2]
    cases hb : (divs (firsts (m ++ List.replicate 32 false) 32) i).getD i false
    · simp
    · rw [if_pos rfl, flips_get _ _ _ _ (fun p hp => by rw [hlen]; omega), Bool.true_and]
      congr 1
      obtain ⟨t, rfl⟩ : ∃ t, j = i + 1 + t := ⟨j - (i + 1), by omega⟩
      rw [show i + 1 + t - (i + 1) = t by omega]
      by_cases ht : t < 32
      · rw [poly_bit t ht]
        have : ∀ (qs : List Nat) (a : Bool), (∀ p ∈ qs, p ≤ 31) → qs.foldl (fun a p => a ^^ (i + 1 + t == i + 32 - p)) a = qs.foldl (fun a p => a ^^ (t == 31 - p)) a := by
          intro qs
          induction qs with
          | nil => intro a _; rfl
          | cons q qs ih =>
            intro a h
            have hq := h q (by simp)
            have : (i + 1 + t == i + 32 - q) = (t == 31 - q) := by
              rw [Bool.eq_iff_iff]
              simp only [beq_iff_eq]
              omega
            rw [List.foldl_cons, List.foldl_cons, this, ih _ fun p hp => h p (by simp [hp])]
        exact this pw false (by decide)
      · have hp : (2197175160 : UInt32).toNat.testBit t = false := Nat.testBit_lt_two_pow (Nat.lt_of_lt_of_le (show (2197175160 : UInt32).toNat < 2 ^ 32 by decide) (Nat.pow_le_pow_right (by omega) (by omega)))
        rw [hp]
        have : ∀ (qs : List Nat), qs.foldl (fun a p => a ^^ (i + 1 + t == i + 32 - p)) false = false := by
          intro qs
          induction qs with
          | nil => rfl
          | cons q qs ih =>
            have : (i + 1 + t == i + 32 - q) = false := by
              rw [beq_eq_false_iff_ne]
              omega
            rw [List.foldl_cons, this, Bool.xor_false, ih]
        exact this pw
theorem bits_succ : ∀ (n : Nat) (s : UInt32), bits (n + 1) s = bits n (bit s)
  | 0, _ => rfl
  | n + 1, s => by
    have := bits_succ n s
    show bit (bits (n + 1) s) = bit (bits n (bit s))
    rw [this]
theorem u32_ext {a b : UInt32} (h : ∀ k, a.toNat.testBit k = b.toNat.testBit k) : a = b := UInt32.toNat_inj.1 (Nat.eq_of_testBit_eq h)
theorem bit_low (r c : UInt32) : bit (r ^^^ c) = bit (r ^^^ one (c.toNat % 2 == 1)) ^^^ (c >>> 1) := by
  apply u32_ext
  intro k
  have h0 := Nat.testBit_zero c.toNat
  have hd : (c.toNat % 2 == 1) = c.toNat.testBit 0 := by rw [h0]; rfl
  rw [UInt32.toNat_xor, Nat.testBit_xor, bit_get, zEz, hd]
  have hx := bit_get (r ^^^ c) false k
  have ho : r ^^^ c ^^^ one false = r ^^^ c := by simp [one]
  rw [ho] at hx
  rw [hx, UInt32.toNat_xor, Nat.testBit_xor, Nat.testBit_xor, Bool.xor_false]
  cases r.toNat.testBit (k + 1) <;> cases c.toNat.testBit (k + 1) <;> cases ((r.toNat.testBit 0 ^^ c.toNat.testBit 0) && (2197175160 : UInt32).toNat.testBit k) <;> rfl
theorem bits_fold : ∀ (n : Nat) (r c : UInt32), c.toNat < 2 ^ n → (bitsN n c.toNat).foldl (fun r b => bit (r ^^^ one b)) r = bits n (r ^^^ c)
  | 0, r, c, h => by
    have : c = 0 := UInt32.toNat_inj.1 (by simp at h ⊢; exact h)
    subst this
    simp [bitsN, bits]
  | n + 1, r, c, h => by
    have hc : (c >>> 1).toNat = c.toNat / 2 := by simp [Nat.shiftRight_eq_div_pow]
    rw [bits_succ, bit_low, ← bits_fold n _ (c >>> 1) (by rw [hc, Nat.pow_succ] at *; omega), hc]
    rfl
theorem reg_msg (l : List UInt8) : reg (msg l) = ~~~(sum l) := by
  have key : ∀ (l : List UInt8) (s : UInt32), (msg l).foldl (fun r b => bit (r ^^^ one b)) (~~~s) = ~~~(l.foldl step s) := by
    intro l
    induction l with
    | nil => intro s; rfl
    | cons c t ih =>
      intro s
      have e : msg (c :: t) = bitsN 8 c.toNat ++ msg t := rfl
      have hc : c.toUInt32.toNat = c.toNat := by simp
      have h8 := bits_fold 8 (~~~s) c.toUInt32 (by rw [hc]; exact c.toNat_lt)
      rw [hc] at h8
      rw [e, List.foldl_append, h8, List.foldl_cons, ← ih (step s c)]
      unfold step
      rw [UInt32.not_not]
  have := key l 0
  rw [show ~~~(0 : UInt32) = 4294967295 from rfl] at this
  exact this
theorem last_get (l : List UInt8) (k : Nat) (hk : k < 32) : (divs (firsts (msg l ++ List.replicate 32 false) 32) (8 * l.length)).getD (8 * l.length + k) false = !((sum l).toNat.testBit k) := by
  have h := divs_get (msg l) (8 * l.length) (by rw [msg_length]; exact Nat.le_refl _) (8 * l.length + k) (by omega)
  rw [h, show (8 * l.length + k - 8 * l.length) = k by omega, List.take_of_length_le (by rw [msg_length]; exact Nat.le_refl _), reg_msg]
  have hm : (msg l).getD (8 * l.length + k) false = false := by
    simp only [List.getD]
    rw [List.getElem?_eq_none (by rw [msg_length]; omega)]
    rfl
  rw [hm, Bool.false_xor]
  have : (~~~(sum l)).toNat = 2 ^ 32 - 1 - (sum l).toNat := by
    rw [UInt32.toNat_not]
  have h32 := (sum l).toNat_lt
  rw [this, show 2 ^ 32 - 1 - (sum l).toNat = 2 ^ 32 - ((sum l).toNat + 1) by omega, Nat.testBit_two_pow_sub_succ h32]
  simp [hk]
def low (x : UInt32) (k : Nat) : UInt32 := UInt32.ofNat (x.toNat % 2 ^ k)
def wei (k : Nat) : UInt32 := UInt32.ofNat (2 ^ k)
theorem low_zero (x : UInt32) : low x 0 = 0 := by simp [low, Nat.mod_one]
theorem mod_succ (x k : Nat) : x % 2 ^ (k + 1) = x % 2 ^ k + (if x.testBit k then 2 ^ k else 0) := by
  have h1 : x % 2 ^ (k + 1) = x % 2 ^ k + 2 ^ k * (x / 2 ^ k % 2) := by rw [Nat.pow_succ, Nat.mod_mul]
  rw [h1, Nat.testBit_eq_decide_div_mod_eq]
  rcases Nat.mod_two_eq_zero_or_one (x / 2 ^ k) with h | h
  · rw [h]; simp
  · rw [h]; simp
theorem low_succ (x : UInt32) (k : Nat) : low x (k + 1) = if x.toNat.testBit k then low x k + wei k else low x k := by
  unfold low wei
  rw [mod_succ]
  split
  · rw [UInt32.ofNat_add]
  · rfl
theorem wei_succ (k : Nat) : wei (k + 1) = wei k * 2 := by
  unfold wei
  rw [Nat.pow_succ, UInt32.ofNat_mul]
  rfl
theorem low_all (x : UInt32) : low x 32 = x := by
  unfold low
  rw [Nat.mod_eq_of_lt x.toNat_lt]
  simp
end Go.Proofs.Ytblikpbaeippaaa.Fm


namespace Go.Proofs.Ytblikpbaeippaaa
set_option linter.unusedVariables false
set_option linter.unusedSimpArgs false
open Go.RowKit Px
theorem info_intf : (Try.prog.info? 3).map (fun i => (i.zero, i.size, i.bytes)) = some (some (.int .i64 0), 1, 8) := by kernel_rfl
theorem zC6 : El Try.prog 62 3 (.int .i64 0) 1 8 := ⟨Try.underlying62, info_parts info_intf, rfl, by decide⟩
def ib (b : Bool) : Value := .int .i64 (if b then 1 else 0)
def ibs (l : List Bool) : List Value := l.map ib
theorem zE1 (l : List Bool) : (ibs l).length = l.length := by simp [ibs]
theorem zHp (a b : List Bool) : ibs (a ++ b) = ibs a ++ ibs b := by simp [ibs]
theorem ibs_one (l : List Bool) : allOne (ibs l) := by
  intro v hv
  obtain ⟨b, _, rfl⟩ := List.mem_map.1 hv
  cases b <;> rfl
theorem ib_mod (C : Nat) : Value.int .i64 ((C : Int) % 2) = ib (C % 2 == 1) := by
  unfold ib
  rcases Nat.mod_two_eq_zero_or_one C with h | h
  · rw [h, show (C : Int) % 2 = 0 by omega]; rfl
  · rw [h, show (C : Int) % 2 = 1 by omega]; rfl
theorem rd_ib {w0 : World} {h : PH} {b k lim : Nat} {L : List Bool} {x : Bool} (hb : h.m b = some ⟨ibs L, lim⟩) (hk : k < L.length) (hx : L.getD k false = x) : rd w0 h ⟨b, k, none⟩ = some (ib x) := by
  have : (ibs L)[k]? = some (ib x) := by
    subst hx
    simp [ibs, List.getD, List.getElem?_eq_getElem hk]
  simp [zAa, hb, zAb, this]
theorem set_ib {L : List Bool} {k : Nat} {x : Bool} (hx : L.getD k false = x) : (ibs L).set k (ib (!x)) = ibs (Fm.flip L k) := by
  unfold Fm.flip ibs
  rw [hx, List.map_set]
theorem set0 {L : List Bool} {k : Nat} (hx : L.getD k false = false) : (ibs L).set k (.int .i64 1) = ibs (Fm.flip L k) := set_ib hx
theorem set1 {L : List Bool} {k : Nat} (hx : L.getD k false = true) : (ibs L).set k (.int .i64 0) = ibs (Fm.flip L k) := set_ib hx
theorem rd0 {w0 : World} {h : PH} {b k lim : Nat} {L : List Bool} (hb : h.m b = some ⟨ibs L, lim⟩) (hk : k < L.length) (hx : L.getD k false = false) : rd w0 h ⟨b, k, none⟩ = some (.int .i64 0) := rd_ib hb hk hx
theorem rd1 {w0 : World} {h : PH} {b k lim : Nat} {L : List Bool} (hb : h.m b = some ⟨ibs L, lim⟩) (hk : k < L.length) (hx : L.getD k false = true) : rd w0 h ⟨b, k, none⟩ = some (.int .i64 1) := rd_ib hb hk hx
def pws : List Value := [.int .i64 28, .int .i64 27, .int .i64 26, .int .i64 25, .int .i64 23, .int .i64 22, .int .i64 20, .int .i64 19, .int .i64 18, .int .i64 14, .int .i64 13, .int .i64 11, .int .i64 10, .int .i64 9, .int .i64 8, .int .i64 6, .int .i64 0]
theorem pws_get (j : Nat) (hj : j < 17) : pws[j]? = some (.int .i64 (Fm.pw.getD j 0 : Nat)) ∧ Fm.pw.getD j 0 ≤ 28 ∧ Fm.pw.take (j + 1) = Fm.pw.take j ++ [Fm.pw.getD j 0] := by
  have : ∀ j, j < 17 → Fm.pw.getD j 0 ≤ 28 ∧ Fm.pw.take (j + 1) = Fm.pw.take j ++ [Fm.pw.getD j 0] := by decide
  refine ⟨?_, this j hj⟩
  rcases j with _|_|_|_|_|_|_|_|_|_|_|_|_|_|_|_|_|j <;> first | rfl | omega
theorem msg_next (l : List UInt8) (k : Nat) (hk : k < l.length) : Fm.msg (l.take (k + 1)) = Fm.msg (l.take k) ++ Fm.bitsN 8 (l.getD k 0).toNat := by
  unfold Fm.msg
  rw [List.take_succ_eq_append_getElem hk, List.flatMap_append]
  simp [List.getD, List.getElem?_eq_getElem hk]
set_option maxRecDepth 100000 in
set_option maxHeartbeats 4000000 in
theorem rsum_any (l : List UInt8) (hl : l.length ≤ 20000) (v0 : Value) (w0 : World) (h : PH) (hv : Kn h v0 (bs l)) : PCalls Try.prog w0 70 [v0] h fun v h' => v = u32 (Fm.sum l) ∧ h' = h := by
  obtain ⟨b, o, c, X, lim, rfl, hc, hb, ho, hX⟩ := hv
  rw [zAs] at hc ho ⊢
  refine zAp Try.func70 (by kernel_rfl) rfl _ Try.ntmps70 (by kernel_rfl) (by kernel_rfl) _ Try.results70 ?_
  simp -dsimp -implicitDefEqProofs (disch := first | omega | assumption | (simp only [Option.isSome_some,Qt0]; done) | (simp only [List.length_cons,List.length_nil,List.length_append,Int.toNat_natCast] <;> omega) | fail) only [Nat.reduceLT,Nat.reduceLeDiff,Nat.reduceEqDiff,↓reduceIte,Int.reduceLT,Int.reduceLE,Int.reduceToNat,Int.reduceEq,Int.reduceNe,Nat.reduceAdd,Int.reduceAdd,Int.reduceSub,Int.reduceMul,Nat.reduceMul,Qp0,Qp1,Ql0,Qe0]
  refine zD2 zC6 (fun b0 hb0 => ?_)
  have how0 := OwnS.zero (h := h) 1 hb0
  simp -dsimp -implicitDefEqProofs (disch := first | omega | assumption | (simp only [Option.isSome_some,Qt0]; done) | (simp only [List.length_cons,List.length_nil,List.length_append,Int.toNat_natCast] <;> omega) | fail) only [Nat.reduceLT,Nat.reduceLeDiff,Nat.reduceEqDiff,↓reduceIte,Int.reduceLT,Int.reduceLE,Int.reduceToNat,Int.reduceEq,Int.reduceNe,Nat.reduceAdd,Int.reduceAdd,Int.reduceSub,Int.reduceMul,Nat.reduceMul,Qp0,Qp1,Ql0,Qe0]
  refine zBa (fun n f h2 => ∃ (k : Nat) (v : Value), k + n = l.length ∧ f 0 = some (.slice (some ⟨b, o, none⟩) l.length c) ∧ f 4 = some (.int .i64 k) ∧ f 3 = some v ∧ OwnS h h2 1 v (8 * k) (ibs (Fm.msg (l.take k)))) (by kernel_rfl) l.length ⟨0, _, by omega, ?_, ?_, ?_, how0⟩ ?_
  · simp -dsimp -implicitDefEqProofs (disch := first | omega | assumption | (simp only [Option.isSome_some,Qt0]; done) | (simp only [List.length_cons,List.length_nil,List.length_append,Int.toNat_natCast] <;> omega) | fail) only [Nat.reduceLT,Nat.reduceLeDiff,Nat.reduceEqDiff,↓reduceIte,Int.reduceLT,Int.reduceLE,Int.reduceToNat,Int.reduceEq,Int.reduceNe,Nat.reduceAdd,Int.reduceAdd,Int.reduceSub,Int.reduceMul,Nat.reduceMul,Qp0,Qp1,Ql0,Qe0]
  · simp -dsimp -implicitDefEqProofs (disch := first | omega | assumption | (simp only [Option.isSome_some,Qt0]; done) | (simp only [List.length_cons,List.length_nil,List.length_append,Int.toNat_natCast] <;> omega) | fail) only [Nat.reduceLT,Nat.reduceLeDiff,Nat.reduceEqDiff,↓reduceIte,Int.reduceLT,Int.reduceLE,Int.reduceToNat,Int.reduceEq,Int.reduceNe,Nat.reduceAdd,Int.reduceAdd,Int.reduceSub,Int.reduceMul,Nat.reduceMul,Qp0,Qp1,Ql0,Qe0]
    try rfl
  · simp -dsimp -implicitDefEqProofs (disch := first | omega | assumption | (simp only [Option.isSome_some,Qt0]; done) | (simp only [List.length_cons,List.length_nil,List.length_append,Int.toNat_natCast] <;> omega) | fail) only [Nat.reduceLT,Nat.reduceLeDiff,Nat.reduceEqDiff,↓reduceIte,Int.reduceLT,Int.reduceLE,Int.reduceToNat,Int.reduceEq,Int.reduceNe,Nat.reduceAdd,Int.reduceAdd,Int.reduceSub,Int.reduceMul,Nat.reduceMul,Qp0,Qp1,Ql0,Qe0]
    try rfl
  clear how0
  rintro n f h2 ⟨k, v, hk, f0, f4, f3, how⟩
  by_cases hlt : k < l.length
  · have hI : decide ((k : Int) < (l.length : Int)) = true := decide_eq_true (by omega)
    have hg : X[o + k]? = some (u8 (l.getD k 0)) := by
      rw [Kn.get (n := 0) hX (by rw [zAs]; exact hlt), bs_get l k hlt]
    have hb2 := how.le.m _ _ hb
    have hms := Lib.hid (msg_next l k hlt)
    have hc8 := (l.getD k 0).toNat_lt
    generalize l.getD k 0 = q at hg hms hc8
    simp -dsimp -implicitDefEqProofs (disch := first | omega | assumption | (simp only [Option.isSome_some,Qt0]; done) | (simp only [List.length_cons,List.length_nil,List.length_append,Int.toNat_natCast] <;> omega) | fail) only [Nat.reduceLT,Nat.reduceLeDiff,Nat.reduceEqDiff,↓reduceIte,Int.reduceLT,Int.reduceLE,Int.reduceToNat,Int.reduceEq,Int.reduceNe,Nat.reduceAdd,Int.reduceAdd,Int.reduceSub,Int.reduceMul,Nat.reduceMul,Qp0,Qp1,Ql0,Qe0,f0,f4,f3,hI,zAa,zAb,hb2,hg]
    refine zBa (fun n f h3 => ∃ (C : Nat) (pre : List Bool) (v : Value), n ≤ 8 ∧ C < 256 ∧ f 0 = some (.slice (some ⟨b, o, none⟩) l.length c) ∧ f 4 = some (.int .i64 k) ∧ f 6 = some (.int .i64 (8 - n : Nat)) ∧ f 5 = some (.int .i64 C) ∧ f 3 = some v ∧ pre ++ Fm.bitsN n C = Fm.bitsN 8 q.toNat ∧ OwnS h h3 1 v (8 * k + (8 - n)) (ibs (Fm.msg (l.take k) ++ pre))) (by kernel_rfl) 8 ⟨q.toNat, [], v, by omega, hc8, ?_, ?_, ?_, ?_, ?_, by simp, by simpa using how⟩ ?_
    · simp -dsimp -implicitDefEqProofs (disch := first | omega | assumption | (simp only [Option.isSome_some,Qt0]; done) | (simp only [List.length_cons,List.length_nil,List.length_append,Int.toNat_natCast] <;> omega) | fail) only [Nat.reduceLT,Nat.reduceLeDiff,Nat.reduceEqDiff,↓reduceIte,Int.reduceLT,Int.reduceLE,Int.reduceToNat,Int.reduceEq,Int.reduceNe,Nat.reduceAdd,Int.reduceAdd,Int.reduceSub,Int.reduceMul,Nat.reduceMul,Qp0,Qp1,Ql0,Qe0,f0]
    · simp -dsimp -implicitDefEqProofs (disch := first | omega | assumption | (simp only [Option.isSome_some,Qt0]; done) | (simp only [List.length_cons,List.length_nil,List.length_append,Int.toNat_natCast] <;> omega) | fail) only [Nat.reduceLT,Nat.reduceLeDiff,Nat.reduceEqDiff,↓reduceIte,Int.reduceLT,Int.reduceLE,Int.reduceToNat,Int.reduceEq,Int.reduceNe,Nat.reduceAdd,Int.reduceAdd,Int.reduceSub,Int.reduceMul,Nat.reduceMul,Qp0,Qp1,Ql0,Qe0,f4]
    · simp -dsimp -implicitDefEqProofs (disch := first | omega | assumption | (simp only [Option.isSome_some,Qt0]; done) | (simp only [List.length_cons,List.length_nil,List.length_append,Int.toNat_natCast] <;> omega) | fail) only [Nat.reduceLT,Nat.reduceLeDiff,Nat.reduceEqDiff,↓reduceIte,Int.reduceLT,Int.reduceLE,Int.reduceToNat,Int.reduceEq,Int.reduceNe,Nat.reduceAdd,Int.reduceAdd,Int.reduceSub,Int.reduceMul,Nat.reduceMul,Qp0,Qp1,Ql0,Qe0]
      try rfl
    · simp -dsimp -implicitDefEqProofs (disch := first | omega | assumption | (simp only [Option.isSome_some,Qt0]; done) | (simp only [List.length_cons,List.length_nil,List.length_append,Int.toNat_natCast] <;> omega) | fail) only [Nat.reduceLT,Nat.reduceLeDiff,Nat.reduceEqDiff,↓reduceIte,Int.reduceLT,Int.reduceLE,Int.reduceToNat,Int.reduceEq,Int.reduceNe,Nat.reduceAdd,Int.reduceAdd,Int.reduceSub,Int.reduceMul,Nat.reduceMul,Qp0,Qp1,Ql0,Qe0]
    · simp -dsimp -implicitDefEqProofs (disch := first | omega | assumption | (simp only [Option.isSome_some,Qt0]; done) | (simp only [List.length_cons,List.length_nil,List.length_append,Int.toNat_natCast] <;> omega) | fail) only [Nat.reduceLT,Nat.reduceLeDiff,Nat.reduceEqDiff,↓reduceIte,Int.reduceLT,Int.reduceLE,Int.reduceToNat,Int.reduceEq,Int.reduceNe,Nat.reduceAdd,Int.reduceAdd,Int.reduceSub,Int.reduceMul,Nat.reduceMul,Qp0,Qp1,Ql0,Qe0,f3]
    clear hg hb2 f0 f4 f3 how
    rintro n2 f2 h3 ⟨C, pre, v2, hn, hC, g0, g4, g6, g5, g3, hpre, how2⟩
    rcases n2 with _ | m
    · have hI2 : decide (((8 - 0 : Nat) : Int) < 8) = false := rfl
      have he : Fm.msg (l.take k) ++ pre = Fm.msg (l.take (k + 1)) := by
        rw [hms.out, ← hpre]
        simp [Fm.bitsN]
      rw [he, show 8 * k + (8 - 0) = 8 * (k + 1) by omega] at how2
      simp -dsimp -implicitDefEqProofs (disch := first | omega | assumption | (simp only [Option.isSome_some,Qt0]; done) | (simp only [List.length_cons,List.length_nil,List.length_append,Int.toNat_natCast] <;> omega) | fail) only [Nat.reduceLT,Nat.reduceLeDiff,Nat.reduceEqDiff,↓reduceIte,Int.reduceLT,Int.reduceLE,Int.reduceToNat,Int.reduceEq,Int.reduceNe,Nat.reduceAdd,Int.reduceAdd,Int.reduceSub,Int.reduceMul,Nat.reduceMul,Qp0,Qp1,Ql0,Qe0,g0,g4,g6,g5,g3,hI2]
      exact ⟨n - 1, h3, by omega, PH.Le.refl _, k + 1, v2, by omega, by simp [g0], by simp, by simp [g3], how2⟩
    · have hI2 : decide (((8 - (m + 1) : Nat) : Int) < 8) = true := decide_eq_true (by omega)
      have hr0 : (0 : Int) ≤ (C : Int) := by omega
      simp -dsimp -implicitDefEqProofs (disch := first | omega | assumption | (simp only [Option.isSome_some,Qt0]; done) | (simp only [List.length_cons,List.length_nil,List.length_append,Int.toNat_natCast] <;> omega) | fail) only [Nat.reduceLT,Nat.reduceLeDiff,Nat.reduceEqDiff,↓reduceIte,Int.reduceLT,Int.reduceLE,Int.reduceToNat,Int.reduceEq,Int.reduceNe,Nat.reduceAdd,Int.reduceAdd,Int.reduceSub,Int.reduceMul,Nat.reduceMul,Qp0,Qp1,Ql0,Qe0,g0,g4,g6,g5,g3,hI2]
      rw [ib_mod]
      refine zBj (v := ib _) zC6 rfl (by omega) (fun gb hgb => ?_)
      rw [show (ib (C % 2 == 1)).cells.toList = ibs [C % 2 == 1] from rfl]
      simp -dsimp -implicitDefEqProofs (disch := first | omega | assumption | (simp only [Option.isSome_some,Qt0]; done) | (simp only [List.length_cons,List.length_nil,List.length_append,Int.toNat_natCast] <;> omega) | fail) only [Nat.reduceLT,Nat.reduceLeDiff,Nat.reduceEqDiff,↓reduceIte,Int.reduceLT,Int.reduceLE,Int.reduceToNat,Int.reduceEq,Int.reduceNe,Nat.reduceAdd,Int.reduceAdd,Int.reduceSub,Int.reduceMul,Nat.reduceMul,Qp0,Qp1,Ql0,Qe0,g0,g4,g6,g5,g3]
      refine zBd zC6 (how2.more ((PH.Le.refl _).new _ _ hgb)).own (Rs.blk (k := ⟨ibs [C % 2 == 1], 1⟩) (by rw [PH.new_m, if_pos rfl]) rfl) (ibs_one _) (by unfold maxLen; omega) (by omega) (fun v' h3' ho hst => ?_)
      have hou := (how2.more ((PH.Le.refl _).new _ _ hgb)).stays hst ho
      rw [← zHp, List.append_assoc, show 8 * k + (8 - (m + 1)) + 1 = 8 * k + (8 - m) by omega] at hou
      have e8 : ((8 - (m + 1) : Nat) : Int) + 1 = ((8 - m : Nat) : Int) := by omega
      simp -dsimp -implicitDefEqProofs (disch := first | omega | assumption | (simp only [Option.isSome_some,Qt0]; done) | (simp only [List.length_cons,List.length_nil,List.length_append,Int.toNat_natCast] <;> omega) | fail) only [Nat.reduceLT,Nat.reduceLeDiff,Nat.reduceEqDiff,↓reduceIte,Int.reduceLT,Int.reduceLE,Int.reduceToNat,Int.reduceEq,Int.reduceNe,Nat.reduceAdd,Int.reduceAdd,Int.reduceSub,Int.reduceMul,Nat.reduceMul,Qp0,Qp1,Ql0,Qe0,g0,g4,g6,g5,g3]
      exact ⟨m, h3', by omega, PH.Le.refl _, C / 2, pre ++ [C % 2 == 1], v', by omega, by omega, by simp [g0], by simp [g4], by simp <;> omega, by simp, by simp, by rw [List.append_assoc]; exact hpre, hou⟩
  obtain rfl : k = l.length := by omega
  obtain rfl : n = 0 := by omega
  have hI : decide ((l.length : Int) < (l.length : Int)) = false := decide_eq_false (by omega)
  rw [List.take_length] at how
  clear hb hX hlt hk
  have hml := Fm.msg_length l
  have hlast := Fm.last_get l
  generalize Fm.msg l = M at *
  simp -dsimp -implicitDefEqProofs (disch := first | omega | assumption | (simp only [Option.isSome_some,Qt0]; done) | (simp only [List.length_cons,List.length_nil,List.length_append,Int.toNat_natCast] <;> omega) | fail) only [Nat.reduceLT,Nat.reduceLeDiff,Nat.reduceEqDiff,↓reduceIte,Int.reduceLT,Int.reduceLE,Int.reduceToNat,Int.reduceEq,Int.reduceNe,Nat.reduceAdd,Int.reduceAdd,Int.reduceSub,Int.reduceMul,Nat.reduceMul,Qp0,Qp1,Ql0,Qe0,f0,f4,f3,hI]
  clear f0 f4
  refine zBa (fun n f h2 => ∃ (v : Value), n ≤ 32 ∧ f 7 = some (.int .i64 (32 - n : Nat)) ∧ f 3 = some v ∧ OwnS h h2 1 v (8 * l.length + (32 - n)) (ibs (M ++ List.replicate (32 - n) false))) (by kernel_rfl) 32 ⟨v, by omega, ?_, ?_, by simpa using how⟩ ?_
  · simp -dsimp -implicitDefEqProofs (disch := first | omega | assumption | (simp only [Option.isSome_some,Qt0]; done) | (simp only [List.length_cons,List.length_nil,List.length_append,Int.toNat_natCast] <;> omega) | fail) only [Nat.reduceLT,Nat.reduceLeDiff,Nat.reduceEqDiff,↓reduceIte,Int.reduceLT,Int.reduceLE,Int.reduceToNat,Int.reduceEq,Int.reduceNe,Nat.reduceAdd,Int.reduceAdd,Int.reduceSub,Int.reduceMul,Nat.reduceMul,Qp0,Qp1,Ql0,Qe0]
    try rfl
  · simp -dsimp -implicitDefEqProofs (disch := first | omega | assumption | (simp only [Option.isSome_some,Qt0]; done) | (simp only [List.length_cons,List.length_nil,List.length_append,Int.toNat_natCast] <;> omega) | fail) only [Nat.reduceLT,Nat.reduceLeDiff,Nat.reduceEqDiff,↓reduceIte,Int.reduceLT,Int.reduceLE,Int.reduceToNat,Int.reduceEq,Int.reduceNe,Nat.reduceAdd,Int.reduceAdd,Int.reduceSub,Int.reduceMul,Nat.reduceMul,Qp0,Qp1,Ql0,Qe0,f3]
  clear f3 how
  rintro n f h3 ⟨v2, hn, f7, f3, how⟩
  rcases n with _ | m
  rotate_left
  · have hI2 : decide (((32 - (m + 1) : Nat) : Int) < 32) = true := decide_eq_true (by omega)
    have e0 : Value.int .i64 0 = ib false := rfl
    simp -dsimp -implicitDefEqProofs (disch := first | omega | assumption | (simp only [Option.isSome_some,Qt0]; done) | (simp only [List.length_cons,List.length_nil,List.length_append,Int.toNat_natCast] <;> omega) | fail) only [Nat.reduceLT,Nat.reduceLeDiff,Nat.reduceEqDiff,↓reduceIte,Int.reduceLT,Int.reduceLE,Int.reduceToNat,Int.reduceEq,Int.reduceNe,Nat.reduceAdd,Int.reduceAdd,Int.reduceSub,Int.reduceMul,Nat.reduceMul,Qp0,Qp1,Ql0,Qe0,f7,f3,hI2]
    rw [e0]
    refine zBj (v := ib _) zC6 rfl (by omega) (fun gb hgb => ?_)
    rw [show (ib false).cells.toList = ibs [false] from rfl]
    simp -dsimp -implicitDefEqProofs (disch := first | omega | assumption | (simp only [Option.isSome_some,Qt0]; done) | (simp only [List.length_cons,List.length_nil,List.length_append,Int.toNat_natCast] <;> omega) | fail) only [Nat.reduceLT,Nat.reduceLeDiff,Nat.reduceEqDiff,↓reduceIte,Int.reduceLT,Int.reduceLE,Int.reduceToNat,Int.reduceEq,Int.reduceNe,Nat.reduceAdd,Int.reduceAdd,Int.reduceSub,Int.reduceMul,Nat.reduceMul,Qp0,Qp1,Ql0,Qe0,f7,f3]
    refine zBd zC6 (how.more ((PH.Le.refl _).new _ _ hgb)).own (Rs.blk (k := ⟨ibs [false], 1⟩) (by rw [PH.new_m, if_pos rfl]) rfl) (ibs_one _) (by unfold maxLen; omega) (by omega) (fun v' h3' ho hst => ?_)
    have hou := (how.more ((PH.Le.refl _).new _ _ hgb)).stays hst ho
    have er : List.replicate (32 - (m + 1)) false ++ [false] = List.replicate (32 - m) false := by rw [← List.replicate_succ', show 32 - (m + 1) + 1 = 32 - m by omega]
    rw [← zHp, List.append_assoc, er, show 8 * l.length + (32 - (m + 1)) + 1 = 8 * l.length + (32 - m) by omega] at hou
    have e8 : ((32 - (m + 1) : Nat) : Int) + 1 = ((32 - m : Nat) : Int) := by omega
    simp -dsimp -implicitDefEqProofs (disch := first | omega | assumption | (simp only [Option.isSome_some,Qt0]; done) | (simp only [List.length_cons,List.length_nil,List.length_append,Int.toNat_natCast] <;> omega) | fail) only [Nat.reduceLT,Nat.reduceLeDiff,Nat.reduceEqDiff,↓reduceIte,Int.reduceLT,Int.reduceLE,Int.reduceToNat,Int.reduceEq,Int.reduceNe,Nat.reduceAdd,Int.reduceAdd,Int.reduceSub,Int.reduceMul,Nat.reduceMul,Qp0,Qp1,Ql0,Qe0,f7,f3]
    exact ⟨m, h3', by omega, PH.Le.refl _, v', by omega, by simp <;> omega, by simp, hou⟩
  have hI2 : decide (((32 - 0 : Nat) : Int) < 32) = false := rfl
  rw [Nat.sub_zero] at how
  have hL : (M ++ List.replicate 32 false).length = 8 * l.length + 32 := by rw [List.length_append, hml, List.length_replicate]
  generalize M ++ List.replicate 32 false = L at *
  obtain ⟨bb, cc, rfl, hcc, hbb⟩ := how.own.pos (by omega)
  have hnew := how.new bb rfl
  have hle3 := how.le
  rw [Nat.mul_one] at hbb
  clear how
  generalize hN : 8 * l.length = N at *
  simp -dsimp -implicitDefEqProofs (disch := first | omega | assumption | (simp only [Option.isSome_some,Qt0]; done) | (simp only [List.length_cons,List.length_nil,List.length_append,Int.toNat_natCast] <;> omega) | fail) only [Nat.reduceLT,Nat.reduceLeDiff,Nat.reduceEqDiff,↓reduceIte,Int.reduceLT,Int.reduceLE,Int.reduceToNat,Int.reduceEq,Int.reduceNe,Nat.reduceAdd,Int.reduceAdd,Int.reduceSub,Int.reduceMul,Nat.reduceMul,Qp0,Qp1,Ql0,Qe0,f7,f3,hI2]
  clear f7
  refine zBa (fun n f h2 => n ≤ 32 ∧ f 8 = some (.int .i64 (32 - n : Nat)) ∧ f 3 = some (.slice (some ⟨bb, 0, none⟩) (N + 32) cc) ∧ h2 = h3.new bb ⟨ibs (Fm.firsts L (32 - n)), cc⟩) (by kernel_rfl) 32 ⟨by omega, ?_, ?_, by rw [show Fm.firsts L (32 - 32) = L from rfl, PH.new_same hbb]⟩ ?_
  · simp -dsimp -implicitDefEqProofs (disch := first | omega | assumption | (simp only [Option.isSome_some,Qt0]; done) | (simp only [List.length_cons,List.length_nil,List.length_append,Int.toNat_natCast] <;> omega) | fail) only [Nat.reduceLT,Nat.reduceLeDiff,Nat.reduceEqDiff,↓reduceIte,Int.reduceLT,Int.reduceLE,Int.reduceToNat,Int.reduceEq,Int.reduceNe,Nat.reduceAdd,Int.reduceAdd,Int.reduceSub,Int.reduceMul,Nat.reduceMul,Qp0,Qp1,Ql0,Qe0]
    try rfl
  · simp -dsimp -implicitDefEqProofs (disch := first | omega | assumption | (simp only [Option.isSome_some,Qt0]; done) | (simp only [List.length_cons,List.length_nil,List.length_append,Int.toNat_natCast] <;> omega) | fail) only [Nat.reduceLT,Nat.reduceLeDiff,Nat.reduceEqDiff,↓reduceIte,Int.reduceLT,Int.reduceLE,Int.reduceToNat,Int.reduceEq,Int.reduceNe,Nat.reduceAdd,Int.reduceAdd,Int.reduceSub,Int.reduceMul,Nat.reduceMul,Qp0,Qp1,Ql0,Qe0,f3]
  clear f3
  rintro n f h4 ⟨hn, f8, f3, rfl⟩
  rcases n with _ | m
  rotate_left
  · have hI3 : decide (((32 - (m + 1) : Nat) : Int) < 32) = true := decide_eq_true (by omega)
    have e8 : ((32 - (m + 1) : Nat) : Int) + 1 = ((32 - m : Nat) : Int) := by omega
    have hfs := Fm.firsts_succ L (32 - (m + 1))
    rw [show 32 - (m + 1) + 1 = 32 - m by omega] at hfs
    have hfl := Fm.firsts_length L (32 - (m + 1))
    have hq : 32 - (m + 1) < N + 32 := by omega
    generalize 32 - (m + 1) = q at *
    generalize Fm.firsts L q = D at *
    have hmD : (h3.new bb ⟨ibs D, cc⟩).m bb = some ⟨ibs D, cc⟩ := by rw [PH.new_m, if_pos rfl]
    have hlD := zE1 D
    cases hx : D.getD q false
    · have hrd := rd0 (w0 := w0) hmD (by omega) hx
      have hst := set0 hx
      simp -dsimp -implicitDefEqProofs (disch := first | omega | assumption | (simp only [Option.isSome_some,Qt0]; done) | (simp only [List.length_cons,List.length_nil,List.length_append,Int.toNat_natCast] <;> omega) | fail) only [Nat.reduceLT,Nat.reduceLeDiff,Nat.reduceEqDiff,↓reduceIte,Int.reduceLT,Int.reduceLE,Int.reduceToNat,Int.reduceEq,Int.reduceNe,Nat.reduceAdd,Int.reduceAdd,Int.reduceSub,Int.reduceMul,Nat.reduceMul,Qp0,Qp1,Ql0,Qe0,f8,f3,hI3,hrd,hmD,hlD,hst]
      exact ⟨m, _, by omega, PH.Le.refl _, by omega, by simp <;> omega, by simp [f3], by rw [hfs, PH.new_new] <;> rw [hst]⟩
    · have hrd := rd1 (w0 := w0) hmD (by omega) hx
      have hst := set1 hx
      simp -dsimp -implicitDefEqProofs (disch := first | omega | assumption | (simp only [Option.isSome_some,Qt0]; done) | (simp only [List.length_cons,List.length_nil,List.length_append,Int.toNat_natCast] <;> omega) | fail) only [Nat.reduceLT,Nat.reduceLeDiff,Nat.reduceEqDiff,↓reduceIte,Int.reduceLT,Int.reduceLE,Int.reduceToNat,Int.reduceEq,Int.reduceNe,Nat.reduceAdd,Int.reduceAdd,Int.reduceSub,Int.reduceMul,Nat.reduceMul,Qp0,Qp1,Ql0,Qe0,f8,f3,hI3,hrd,hmD,hlD,hst]
      exact ⟨m, _, by omega, PH.Le.refl _, by omega, by simp <;> omega, by simp [f3], by rw [hfs, PH.new_new] <;> rw [hst]⟩
  have hFl := Fm.firsts_length L 32
  rw [Nat.sub_zero] at *
  generalize Fm.firsts L 32 = F at *
  simp -dsimp -implicitDefEqProofs (disch := first | omega | assumption | (simp only [Option.isSome_some,Qt0]; done) | (simp only [List.length_cons,List.length_nil,List.length_append,Int.toNat_natCast] <;> omega) | fail) only [Nat.reduceLT,Nat.reduceLeDiff,Nat.reduceEqDiff,↓reduceIte,Int.reduceLT,Int.reduceLE,Int.reduceToNat,Int.reduceEq,Int.reduceNe,Nat.reduceAdd,Int.reduceAdd,Int.reduceSub,Int.reduceMul,Nat.reduceMul,Qp0,Qp1,Ql0,Qe0,f8,f3]
  clear f8
  have hp17 : pws.length = 17 := rfl
  refine zCv zC6 pws rfl (fun v hv => by simp [pws] at hv; rcases hv with rfl|rfl|rfl|rfl|rfl|rfl|rfl|rfl|rfl|rfl|rfl|rfl|rfl|rfl|rfl|rfl|rfl <;> exact ⟨rfl, rfl⟩) (by omega) (by omega) fun pb hpb => ?_
  have hbF : (h3.new bb ⟨ibs F, cc⟩).m bb = some ⟨ibs F, cc⟩ := by rw [PH.new_m, if_pos rfl]
  have hlt3 := (h3.new bb ⟨ibs F, cc⟩).lt _ _ hbF
  have hbp : bb ≠ pb := by omega
  have hb4 : ((h3.new bb ⟨ibs F, cc⟩).new pb ⟨pws, 17⟩).m bb = some ⟨ibs F, cc⟩ := by rw [PH.new_m, if_neg hbp]; exact hbF
  have hp4 : ((h3.new bb ⟨ibs F, cc⟩).new pb ⟨pws, 17⟩).m pb = some ⟨pws, 17⟩ := by rw [PH.new_m, if_pos rfl]
  have hle4 : PH.Le h ((h3.new bb ⟨ibs F, cc⟩).new pb ⟨pws, 17⟩) := (hle3.new _ _ hnew).new _ _ (Nat.le_trans (hle3.new bb ⟨ibs F, cc⟩ hnew).top hpb)
  generalize (h3.new bb ⟨ibs F, cc⟩).new pb ⟨pws, 17⟩ = h4 at *
  simp -dsimp -implicitDefEqProofs (disch := first | omega | assumption | (simp only [Option.isSome_some,Qt0]; done) | (simp only [List.length_cons,List.length_nil,List.length_append,Int.toNat_natCast] <;> omega) | fail) only [Nat.reduceLT,Nat.reduceLeDiff,Nat.reduceEqDiff,↓reduceIte,Int.reduceLT,Int.reduceLE,Int.reduceToNat,Int.reduceEq,Int.reduceNe,Nat.reduceAdd,Int.reduceAdd,Int.reduceSub,Int.reduceMul,Nat.reduceMul,Qp0,Qp1,Ql0,Qe0,f3]
  refine zBa (fun n f h2 => ∃ i, i + n = N ∧ f 10 = some (.int .i64 i) ∧ f 9 = some (.slice (some ⟨pb, 0, none⟩) 17 17) ∧ f 3 = some (.slice (some ⟨bb, 0, none⟩) (N + 32) cc) ∧ h2 = h4.new bb ⟨ibs (Fm.divs F i), cc⟩) (by kernel_rfl) N ⟨0, by omega, ?_, ?_, ?_, by rw [show Fm.divs F 0 = F from rfl, PH.new_same hb4]⟩ ?_
  · simp -dsimp -implicitDefEqProofs (disch := first | omega | assumption | (simp only [Option.isSome_some,Qt0]; done) | (simp only [List.length_cons,List.length_nil,List.length_append,Int.toNat_natCast] <;> omega) | fail) only [Nat.reduceLT,Nat.reduceLeDiff,Nat.reduceEqDiff,↓reduceIte,Int.reduceLT,Int.reduceLE,Int.reduceToNat,Int.reduceEq,Int.reduceNe,Nat.reduceAdd,Int.reduceAdd,Int.reduceSub,Int.reduceMul,Nat.reduceMul,Qp0,Qp1,Ql0,Qe0]
    try rfl
  · simp -dsimp -implicitDefEqProofs (disch := first | omega | assumption | (simp only [Option.isSome_some,Qt0]; done) | (simp only [List.length_cons,List.length_nil,List.length_append,Int.toNat_natCast] <;> omega) | fail) only [Nat.reduceLT,Nat.reduceLeDiff,Nat.reduceEqDiff,↓reduceIte,Int.reduceLT,Int.reduceLE,Int.reduceToNat,Int.reduceEq,Int.reduceNe,Nat.reduceAdd,Int.reduceAdd,Int.reduceSub,Int.reduceMul,Nat.reduceMul,Qp0,Qp1,Ql0,Qe0]
  · simp -dsimp -implicitDefEqProofs (disch := first | omega | assumption | (simp only [Option.isSome_some,Qt0]; done) | (simp only [List.length_cons,List.length_nil,List.length_append,Int.toNat_natCast] <;> omega) | fail) only [Nat.reduceLT,Nat.reduceLeDiff,Nat.reduceEqDiff,↓reduceIte,Int.reduceLT,Int.reduceLE,Int.reduceToNat,Int.reduceEq,Int.reduceNe,Nat.reduceAdd,Int.reduceAdd,Int.reduceSub,Int.reduceMul,Nat.reduceMul,Qp0,Qp1,Ql0,Qe0,f3]
  clear f3
  rintro n f h5 ⟨i, hi, f10, f9, f3, rfl⟩
  have hDl := Fm.divs_length F i
  have hmD : (h4.new bb ⟨ibs (Fm.divs F i), cc⟩).m bb = some ⟨ibs (Fm.divs F i), cc⟩ := by rw [PH.new_m, if_pos rfl]
  have hlD := zE1 (Fm.divs F i)
  by_cases hlt : i < N
  · have hI4 : decide ((i : Int) + 32 < ((N + 32 : Nat) : Int)) = true := decide_eq_true (by omega)
    have hds : Fm.divs F (i + 1) = if (Fm.divs F i).getD i false then Fm.flips i (Fm.divs F i) Fm.pw else Fm.divs F i := rfl
    generalize Fm.divs F i = D at *
    cases hx : D.getD i false
    · have hrd := rd0 (w0 := w0) hmD (by omega) hx
      rw [hx, if_neg (by simp)] at hds
      simp -dsimp -implicitDefEqProofs (disch := first | omega | assumption | (simp only [Option.isSome_some,Qt0]; done) | (simp only [List.length_cons,List.length_nil,List.length_append,Int.toNat_natCast] <;> omega) | fail) only [Nat.reduceLT,Nat.reduceLeDiff,Nat.reduceEqDiff,↓reduceIte,Int.reduceLT,Int.reduceLE,Int.reduceToNat,Int.reduceEq,Int.reduceNe,Nat.reduceAdd,Int.reduceAdd,Int.reduceSub,Int.reduceMul,Nat.reduceMul,Qp0,Qp1,Ql0,Qe0,f10,f9,f3,hI4,hrd]
      exact ⟨n - 1, _, by omega, PH.Le.refl _, i + 1, by omega, by simp, by simp [f9], by simp [f3], by rw [hds]⟩
    have hrd := rd1 (w0 := w0) hmD (by omega) hx
    rw [hx, if_pos rfl] at hds
    simp -dsimp -implicitDefEqProofs (disch := first | omega | assumption | (simp only [Option.isSome_some,Qt0]; done) | (simp only [List.length_cons,List.length_nil,List.length_append,Int.toNat_natCast] <;> omega) | fail) only [Nat.reduceLT,Nat.reduceLeDiff,Nat.reduceEqDiff,↓reduceIte,Int.reduceLT,Int.reduceLE,Int.reduceToNat,Int.reduceEq,Int.reduceNe,Nat.reduceAdd,Int.reduceAdd,Int.reduceSub,Int.reduceMul,Nat.reduceMul,Qp0,Qp1,Ql0,Qe0,f10,f9,f3,hI4,hrd]
    clear hrd hI4
    refine zBa (fun n f h2 => n ≤ 17 ∧ f 71 = some (.slice (some ⟨pb, 0, none⟩) 17 17) ∧ f 72 = some (.int .i64 17) ∧ f 73 = some (.int .i64 (17 - n : Nat)) ∧ f 10 = some (.int .i64 i) ∧ f 9 = some (.slice (some ⟨pb, 0, none⟩) 17 17) ∧ f 3 = some (.slice (some ⟨bb, 0, none⟩) (N + 32) cc) ∧ h2 = h4.new bb ⟨ibs (Fm.flips i D (Fm.pw.take (17 - n))), cc⟩) (by kernel_rfl) 17 ⟨by omega, ?_, ?_, ?_, ?_, ?_, ?_, rfl⟩ ?_
    · simp -dsimp -implicitDefEqProofs (disch := first | omega | assumption | (simp only [Option.isSome_some,Qt0]; done) | (simp only [List.length_cons,List.length_nil,List.length_append,Int.toNat_natCast] <;> omega) | fail) only [Nat.reduceLT,Nat.reduceLeDiff,Nat.reduceEqDiff,↓reduceIte,Int.reduceLT,Int.reduceLE,Int.reduceToNat,Int.reduceEq,Int.reduceNe,Nat.reduceAdd,Int.reduceAdd,Int.reduceSub,Int.reduceMul,Nat.reduceMul,Qp0,Qp1,Ql0,Qe0,f9]
    · simp -dsimp -implicitDefEqProofs (disch := first | omega | assumption | (simp only [Option.isSome_some,Qt0]; done) | (simp only [List.length_cons,List.length_nil,List.length_append,Int.toNat_natCast] <;> omega) | fail) only [Nat.reduceLT,Nat.reduceLeDiff,Nat.reduceEqDiff,↓reduceIte,Int.reduceLT,Int.reduceLE,Int.reduceToNat,Int.reduceEq,Int.reduceNe,Nat.reduceAdd,Int.reduceAdd,Int.reduceSub,Int.reduceMul,Nat.reduceMul,Qp0,Qp1,Ql0,Qe0]
      try rfl
    · simp -dsimp -implicitDefEqProofs (disch := first | omega | assumption | (simp only [Option.isSome_some,Qt0]; done) | (simp only [List.length_cons,List.length_nil,List.length_append,Int.toNat_natCast] <;> omega) | fail) only [Nat.reduceLT,Nat.reduceLeDiff,Nat.reduceEqDiff,↓reduceIte,Int.reduceLT,Int.reduceLE,Int.reduceToNat,Int.reduceEq,Int.reduceNe,Nat.reduceAdd,Int.reduceAdd,Int.reduceSub,Int.reduceMul,Nat.reduceMul,Qp0,Qp1,Ql0,Qe0]
      try rfl
    · simp -dsimp -implicitDefEqProofs (disch := first | omega | assumption | (simp only [Option.isSome_some,Qt0]; done) | (simp only [List.length_cons,List.length_nil,List.length_append,Int.toNat_natCast] <;> omega) | fail) only [Nat.reduceLT,Nat.reduceLeDiff,Nat.reduceEqDiff,↓reduceIte,Int.reduceLT,Int.reduceLE,Int.reduceToNat,Int.reduceEq,Int.reduceNe,Nat.reduceAdd,Int.reduceAdd,Int.reduceSub,Int.reduceMul,Nat.reduceMul,Qp0,Qp1,Ql0,Qe0,f10]
    · simp -dsimp -implicitDefEqProofs (disch := first | omega | assumption | (simp only [Option.isSome_some,Qt0]; done) | (simp only [List.length_cons,List.length_nil,List.length_append,Int.toNat_natCast] <;> omega) | fail) only [Nat.reduceLT,Nat.reduceLeDiff,Nat.reduceEqDiff,↓reduceIte,Int.reduceLT,Int.reduceLE,Int.reduceToNat,Int.reduceEq,Int.reduceNe,Nat.reduceAdd,Int.reduceAdd,Int.reduceSub,Int.reduceMul,Nat.reduceMul,Qp0,Qp1,Ql0,Qe0,f9]
    · simp -dsimp -implicitDefEqProofs (disch := first | omega | assumption | (simp only [Option.isSome_some,Qt0]; done) | (simp only [List.length_cons,List.length_nil,List.length_append,Int.toNat_natCast] <;> omega) | fail) only [Nat.reduceLT,Nat.reduceLeDiff,Nat.reduceEqDiff,↓reduceIte,Int.reduceLT,Int.reduceLE,Int.reduceToNat,Int.reduceEq,Int.reduceNe,Nat.reduceAdd,Int.reduceAdd,Int.reduceSub,Int.reduceMul,Nat.reduceMul,Qp0,Qp1,Ql0,Qe0,f3]
    clear f10 f9 f3
    rintro n2 f2 h6 ⟨hn2, g71, g72, g73, g10, g9, g3, rfl⟩
    rcases n2 with _ | m
    · have hI5 : decide (((17 - 0 : Nat) : Int) < 17) = false := rfl
      rw [show Fm.pw.take (17 - 0) = Fm.pw from rfl, ← hds]
      simp -dsimp -implicitDefEqProofs (disch := first | omega | assumption | (simp only [Option.isSome_some,Qt0]; done) | (simp only [List.length_cons,List.length_nil,List.length_append,Int.toNat_natCast] <;> omega) | fail) only [Nat.reduceLT,Nat.reduceLeDiff,Nat.reduceEqDiff,↓reduceIte,Int.reduceLT,Int.reduceLE,Int.reduceToNat,Int.reduceEq,Int.reduceNe,Nat.reduceAdd,Int.reduceAdd,Int.reduceSub,Int.reduceMul,Nat.reduceMul,Qp0,Qp1,Ql0,Qe0,g71,g72,g73,g10,g9,g3,hI5]
      exact ⟨n - 1, _, by omega, PH.Le.refl _, i + 1, by omega, by simp, by simp [g9], by simp [g3], rfl⟩
    have hI5 : decide (((17 - (m + 1) : Nat) : Int) < 17) = true := decide_eq_true (by omega)
    obtain ⟨hp1, hp2, hp3⟩ := pws_get (17 - (m + 1)) (by omega)
    have hfl := Fm.flips_length i (Fm.pw.take (17 - (m + 1))) D
    have hfs : Fm.flips i D (Fm.pw.take (17 - m)) = Fm.flip (Fm.flips i D (Fm.pw.take (17 - (m + 1)))) (i + 32 - Fm.pw.getD (17 - (m + 1)) 0) := by
      rw [show 17 - m = 17 - (m + 1) + 1 by omega, hp3]
      unfold Fm.flips
      rw [List.foldl_append]
      rfl
    have hq : 17 - (m + 1) < 17 := by omega
    have hq2 : 17 - (m + 1) + 1 = 17 - m := by omega
    generalize 17 - (m + 1) = q at *
    generalize Fm.flips i D (Fm.pw.take q) = E at *
    generalize Fm.pw.getD q 0 = p at *
    have hmE : (h4.new bb ⟨ibs E, cc⟩).m bb = some ⟨ibs E, cc⟩ := by rw [PH.new_m, if_pos rfl]
    have hpE : (h4.new bb ⟨ibs E, cc⟩).m pb = some ⟨pws, 17⟩ := by rw [PH.new_m, if_neg (fun e => hbp e.symm)]; exact hp4
    have hlE := zE1 E
    have hrp : rd w0 (h4.new bb ⟨ibs E, cc⟩) ⟨pb, q, none⟩ = some (.int .i64 (p : Int)) := by simp [zAa, hpE, zAb, hp1]
    have hT : ((i : Int) + 32 - (p : Int)).toNat = i + 32 - p := by omega
    cases hy : E.getD (i + 32 - p) false
    · have hrd := rd0 (w0 := w0) hmE (by omega) hy
      have hst := set0 hy
      simp -dsimp -implicitDefEqProofs (disch := first | omega | assumption | (simp only [Option.isSome_some,Qt0]; done) | (simp only [List.length_cons,List.length_nil,List.length_append,Int.toNat_natCast] <;> omega) | fail) only [Nat.reduceLT,Nat.reduceLeDiff,Nat.reduceEqDiff,↓reduceIte,Int.reduceLT,Int.reduceLE,Int.reduceToNat,Int.reduceEq,Int.reduceNe,Nat.reduceAdd,Int.reduceAdd,Int.reduceSub,Int.reduceMul,Nat.reduceMul,Qp0,Qp1,Ql0,Qe0,g71,g72,g73,g10,g9,g3,hI5,hrp,hT,hrd,hmE,hlE,hst]
      exact ⟨m, _, by omega, PH.Le.refl _, by omega, by simp [g71], by simp [g72], by simp <;> omega, by simp [g10], by simp [g9], by simp [g3], by rw [hfs, PH.new_new]⟩
    · have hrd := rd1 (w0 := w0) hmE (by omega) hy
      have hst := set1 hy
      simp -dsimp -implicitDefEqProofs (disch := first | omega | assumption | (simp only [Option.isSome_some,Qt0]; done) | (simp only [List.length_cons,List.length_nil,List.length_append,Int.toNat_natCast] <;> omega) | fail) only [Nat.reduceLT,Nat.reduceLeDiff,Nat.reduceEqDiff,↓reduceIte,Int.reduceLT,Int.reduceLE,Int.reduceToNat,Int.reduceEq,Int.reduceNe,Nat.reduceAdd,Int.reduceAdd,Int.reduceSub,Int.reduceMul,Nat.reduceMul,Qp0,Qp1,Ql0,Qe0,g71,g72,g73,g10,g9,g3,hI5,hrp,hT,hrd,hmE,hlE,hst]
      exact ⟨m, _, by omega, PH.Le.refl _, by omega, by simp [g71], by simp [g72], by simp <;> omega, by simp [g10], by simp [g9], by simp [g3], by rw [hfs, PH.new_new]⟩
  obtain rfl : i = N := by omega
  have hI4 : decide ((i : Int) + 32 < ((i + 32 : Nat) : Int)) = false := decide_eq_false (by omega)
  have hle5 : PH.Le h (h4.new bb ⟨ibs (Fm.divs F i), cc⟩) := hle4.new _ _ hnew
  generalize Fm.divs F i = D at *
  generalize h4.new bb ⟨ibs D, cc⟩ = h5 at *
  simp -dsimp -implicitDefEqProofs (disch := first | omega | assumption | (simp only [Option.isSome_some,Qt0]; done) | (simp only [List.length_cons,List.length_nil,List.length_append,Int.toNat_natCast] <;> omega) | fail) only [Nat.reduceLT,Nat.reduceLeDiff,Nat.reduceEqDiff,↓reduceIte,Int.reduceLT,Int.reduceLE,Int.reduceToNat,Int.reduceEq,Int.reduceNe,Nat.reduceAdd,Int.reduceAdd,Int.reduceSub,Int.reduceMul,Nat.reduceMul,Qp0,Qp1,Ql0,Qe0,f10,f9,f3,hI4]
  clear f10 f9 hI4
  generalize Fm.sum l = S at *
  have hl0 : Fm.low S (32 - 32) = 0 := Fm.low_zero S
  refine zBa (fun n f h2 => n ≤ 32 ∧ f 13 = some (u32 (Fm.low S (32 - n))) ∧ f 14 = some (u32 (Fm.wei (32 - n))) ∧ f 15 = some (.int .i64 (i + (32 - n) : Nat)) ∧ f 3 = some (.slice (some ⟨bb, 0, none⟩) (i + 32) cc) ∧ h2 = h5) (by kernel_rfl) 32 ⟨by omega, ?_, ?_, ?_, ?_, rfl⟩ ?_
  · rw [hl0]
    simp -dsimp -implicitDefEqProofs (disch := first | omega | assumption | (simp only [Option.isSome_some,Qt0]; done) | (simp only [List.length_cons,List.length_nil,List.length_append,Int.toNat_natCast] <;> omega) | fail) only [Nat.reduceLT,Nat.reduceLeDiff,Nat.reduceEqDiff,↓reduceIte,Int.reduceLT,Int.reduceLE,Int.reduceToNat,Int.reduceEq,Int.reduceNe,Nat.reduceAdd,Int.reduceAdd,Int.reduceSub,Int.reduceMul,Nat.reduceMul,Qp0,Qp1,Ql0,Qe0]
    try rfl
  · simp -dsimp -implicitDefEqProofs (disch := first | omega | assumption | (simp only [Option.isSome_some,Qt0]; done) | (simp only [List.length_cons,List.length_nil,List.length_append,Int.toNat_natCast] <;> omega) | fail) only [Nat.reduceLT,Nat.reduceLeDiff,Nat.reduceEqDiff,↓reduceIte,Int.reduceLT,Int.reduceLE,Int.reduceToNat,Int.reduceEq,Int.reduceNe,Nat.reduceAdd,Int.reduceAdd,Int.reduceSub,Int.reduceMul,Nat.reduceMul,Qp0,Qp1,Ql0,Qe0]
    try rfl
  · simp -dsimp -implicitDefEqProofs (disch := first | omega | assumption | (simp only [Option.isSome_some,Qt0]; done) | (simp only [List.length_cons,List.length_nil,List.length_append,Int.toNat_natCast] <;> omega) | fail) only [Nat.reduceLT,Nat.reduceLeDiff,Nat.reduceEqDiff,↓reduceIte,Int.reduceLT,Int.reduceLE,Int.reduceToNat,Int.reduceEq,Int.reduceNe,Nat.reduceAdd,Int.reduceAdd,Int.reduceSub,Int.reduceMul,Nat.reduceMul,Qp0,Qp1,Ql0,Qe0]
    simp <;> omega
  · simp -dsimp -implicitDefEqProofs (disch := first | omega | assumption | (simp only [Option.isSome_some,Qt0]; done) | (simp only [List.length_cons,List.length_nil,List.length_append,Int.toNat_natCast] <;> omega) | fail) only [Nat.reduceLT,Nat.reduceLeDiff,Nat.reduceEqDiff,↓reduceIte,Int.reduceLT,Int.reduceLE,Int.reduceToNat,Int.reduceEq,Int.reduceNe,Nat.reduceAdd,Int.reduceAdd,Int.reduceSub,Int.reduceMul,Nat.reduceMul,Qp0,Qp1,Ql0,Qe0,f3]
  clear f3
  rintro n f h6 ⟨hn, f13, f14, f15, f3, rfl⟩
  rcases n with _ | m
  · have hI6 : decide (((i + (32 - 0) : Nat) : Int) < ((i + 32 : Nat) : Int)) = false := decide_eq_false (by omega)
    rw [Nat.sub_zero, Fm.low_all] at f13
    simp -dsimp -implicitDefEqProofs (disch := first | omega | assumption | (simp only [Option.isSome_some,Qt0]; done) | (simp only [List.length_cons,List.length_nil,List.length_append,Int.toNat_natCast] <;> omega) | fail) only [Nat.reduceLT,Nat.reduceLeDiff,Nat.reduceEqDiff,↓reduceIte,Int.reduceLT,Int.reduceLE,Int.reduceToNat,Int.reduceEq,Int.reduceNe,Nat.reduceAdd,Int.reduceAdd,Int.reduceSub,Int.reduceMul,Nat.reduceMul,Qp0,Qp1,Ql0,Qe0,f13,f14,f15,f3,hI6]
    exact ⟨_, hle5, by trivial, rfl⟩
  have hI6 : decide (((i + (32 - (m + 1)) : Nat) : Int) < ((i + 32 : Nat) : Int)) = true := decide_eq_true (by omega)
  have hlk := hlast (32 - (m + 1)) (by omega)
  have hls := Fm.low_succ S (32 - (m + 1))
  have hws := Fm.wei_succ (32 - (m + 1))
  have hq : 32 - (m + 1) < 32 := by omega
  have hq2 : 32 - (m + 1) + 1 = 32 - m := by omega
  rw [hq2] at hls hws
  generalize 32 - (m + 1) = q at *
  generalize Fm.low S q = a at *
  generalize Fm.wei q = g at *
  have hT : ((i : Int) + (q : Int)).toNat = i + q := by omega
  cases hy : S.toNat.testBit q
  · rw [hy] at hlk hls
    have hrd := rd1 (w0 := w0) hmD (by omega) hlk
    rw [if_neg (by simp)] at hls
    simp -dsimp -implicitDefEqProofs (disch := first | omega | assumption | (simp only [Option.isSome_some,Qt0]; done) | (simp only [List.length_cons,List.length_nil,List.length_append,Int.toNat_natCast] <;> omega) | fail) only [Nat.reduceLT,Nat.reduceLeDiff,Nat.reduceEqDiff,↓reduceIte,Int.reduceLT,Int.reduceLE,Int.reduceToNat,Int.reduceEq,Int.reduceNe,Nat.reduceAdd,Int.reduceAdd,Int.reduceSub,Int.reduceMul,Nat.reduceMul,Qp0,Qp1,Ql0,Qe0,f13,f14,f15,f3,hI6,hT,hrd]
    exact ⟨m, _, by omega, PH.Le.refl _, by omega, by simp [hls, f13], by simp [hws], by simp <;> omega, by simp [f3], rfl⟩
  · rw [hy] at hlk hls
    have hrd := rd0 (w0 := w0) hmD (by omega) hlk
    rw [if_pos rfl] at hls
    simp -dsimp -implicitDefEqProofs (disch := first | omega | assumption | (simp only [Option.isSome_some,Qt0]; done) | (simp only [List.length_cons,List.length_nil,List.length_append,Int.toNat_natCast] <;> omega) | fail) only [Nat.reduceLT,Nat.reduceLeDiff,Nat.reduceEqDiff,↓reduceIte,Int.reduceLT,Int.reduceLE,Int.reduceToNat,Int.reduceEq,Int.reduceNe,Nat.reduceAdd,Int.reduceAdd,Int.reduceSub,Int.reduceMul,Nat.reduceMul,Qp0,Qp1,Ql0,Qe0,f13,f14,f15,f3,hI6,hT,hrd]
    exact ⟨m, _, by omega, PH.Le.refl _, by omega, by simp [hls], by simp [hws], by simp <;> omega, by simp [f3], rfl⟩
end Go.Proofs.Ytblikpbaeippaaa


namespace Go.Proofs.Ytblikpbaeippaaa
set_option linter.unusedVariables false
set_option linter.unusedSimpArgs false
open Go.RowKit Px
theorem OwnS_from {h0 h1 h : PH} {sz n : Nat} {v : Value} {xs : List Value} (o : OwnS h1 h sz v n xs) (l : PH.Le h0 h1) : OwnS h0 h sz v n xs := ⟨l.trans o.le, o.own, fun x e => Nat.le_trans l.top (o.new x e)⟩
theorem by0 (s : UInt32) : (s % 256).toUInt8 = s.toUInt8 := by
  apply UInt8.toNat_inj.1
  simp
theorem by1 (s : UInt32) : (s / 256 % 256).toUInt8 = (s >>> 8).toUInt8 := by
  apply UInt8.toNat_inj.1
  simp [Nat.shiftRight_eq_div_pow]
theorem by2 (s : UInt32) : (s / 65536 % 256).toUInt8 = (s >>> 16).toUInt8 := by
  apply UInt8.toNat_inj.1
  simp [Nat.shiftRight_eq_div_pow]
theorem by3 (s : UInt32) : (s / 16777216).toUInt8 = (s >>> 24).toUInt8 := by
  apply UInt8.toNat_inj.1
  simp [Nat.shiftRight_eq_div_pow]
theorem head1m (n : Nat) : UInt8.ofInt ((n : Int) % 256) = UInt8.ofNat n := by
  apply UInt8.toNat_inj.1
  simp [UInt8.ofInt]
  omega
theorem hi_add (c : UInt8) : (64 : UInt8) + c / (16 : UInt8) = (64 : UInt8) ||| c >>> 4 := Fm.all8 (p := fun c => (64 : UInt8) + c / (16 : UInt8) = (64 : UInt8) ||| c >>> 4) (by decide +kernel) c
theorem lo_add (c : UInt8) : (64 : UInt8) + c % (16 : UInt8) = (64 : UInt8) ||| c &&& 15 := Fm.all8 (p := fun c => (64 : UInt8) + c % (16 : UInt8) = (64 : UInt8) ||| c &&& 15) (by decide +kernel) c
set_option maxRecDepth 20000 in
theorem rfour_any (s : UInt32) (w0 : World) (h : PH) : PCalls Try.prog w0 69 [u32 s] h fun v h' => ∃ b, v = .slice (some ⟨b, 0, none⟩) 4 4 ∧ h.top ≤ b ∧ h' = h.new b ⟨bs (Fm.four s), 4⟩ := by
  refine zAp Try.func69 (by kernel_rfl) rfl _ Try.ntmps69 (by kernel_rfl) (by kernel_rfl) _ Try.results69 ?_
  have b0 := by0 s
  have b1 := by1 s
  have b2 := by2 s
  have b3 := by3 s
  simp -dsimp -implicitDefEqProofs (disch := first | omega | assumption | (simp only [Option.isSome_some,Qt0]; done) | (simp only [UInt64.reduceToNat,UInt32.reduceToNat,UInt8.reduceToNat,List.length_cons,List.length_nil,List.length_append,Int.toNat_natCast] <;> omega) | fail) only [Nat.reduceLT,Nat.reduceLeDiff,Nat.reduceEqDiff,↓reduceIte,Int.reduceLT,Int.reduceLE,Int.reduceToNat,Int.reduceEq,Int.reduceNe,Nat.reduceAdd,UInt8.reduceOfNat,UInt16.reduceOfNat,UInt32.reduceOfNat,UInt64.reduceOfNat,UInt64.reduceToNat,UInt32.reduceToNat,UInt16.reduceToNat,UInt8.reduceToNat,Int.reduceAdd,Int.reduceSub,Int.reduceMul,Nat.reduceMul,Qp0,Qp1,Ql0,Qe0,b0,b1,b2,b3]
  refine zCv zA2 (bs (Fm.four s)) rfl (fun v hv => by obtain ⟨_, _, rfl⟩ := List.mem_map.1 hv; exact ⟨rfl, rfl⟩) (by omega) (by omega) (fun b hb => ?_)
  generalize Fm.four s = F at *
  simp -dsimp -implicitDefEqProofs (disch := first | omega | assumption | (simp only [Option.isSome_some,Qt0]; done) | (simp only [UInt64.reduceToNat,UInt32.reduceToNat,UInt8.reduceToNat,List.length_cons,List.length_nil,List.length_append,Int.toNat_natCast] <;> omega) | fail) only [Nat.reduceLT,Nat.reduceLeDiff,Nat.reduceEqDiff,↓reduceIte,Int.reduceLT,Int.reduceLE,Int.reduceToNat,Int.reduceEq,Int.reduceNe,Nat.reduceAdd,UInt8.reduceOfNat,UInt16.reduceOfNat,UInt32.reduceOfNat,UInt64.reduceOfNat,UInt64.reduceToNat,UInt32.reduceToNat,UInt16.reduceToNat,UInt8.reduceToNat,Int.reduceAdd,Int.reduceSub,Int.reduceMul,Nat.reduceMul,Qp0,Qp1,Ql0,Qe0]
  exact ⟨_, PH.Le.refl _, b, rfl, hb, rfl⟩
set_option maxRecDepth 20000 in
set_option maxHeartbeats 1000000 in
theorem rraw_any (p : List UInt8) (hp : p.length ≤ 10000) (w0 : World) (h : PH) : PCalls Try.prog w0 56 [str p] h fun v h' => OwnS h h' 1 v (p.length + 10) (bs (Fm.raw p)) := by
  refine zAp Try.func56 (by kernel_rfl) rfl _ Try.ntmps56 (by kernel_rfl) (by kernel_rfl) _ Try.results56 ?_
  have hh0 := head0 p.length
  have hh1 := head1m p.length
  simp -dsimp -implicitDefEqProofs (disch := first | omega | assumption | (simp only [Option.isSome_some,Qt0]; done) | (simp only [UInt64.reduceToNat,UInt32.reduceToNat,UInt8.reduceToNat,List.length_cons,List.length_nil,List.length_append,Int.toNat_natCast] <;> omega) | fail) only [Nat.reduceLT,Nat.reduceLeDiff,Nat.reduceEqDiff,↓reduceIte,Int.reduceLT,Int.reduceLE,Int.reduceToNat,Int.reduceEq,Int.reduceNe,Nat.reduceAdd,UInt8.reduceOfNat,UInt16.reduceOfNat,UInt32.reduceOfNat,UInt64.reduceOfNat,UInt64.reduceToNat,UInt32.reduceToNat,UInt16.reduceToNat,UInt8.reduceToNat,Int.reduceAdd,Int.reduceSub,Int.reduceMul,Nat.reduceMul,Qp0,Qp1,Ql0,Qe0,hh0,hh1]
  refine zCv zA2 (bs (Fm.head p.length)) rfl (fun v hv => by obtain ⟨_, _, rfl⟩ := List.mem_map.1 hv; exact ⟨rfl, rfl⟩) (by omega) (by omega) (fun b5 hb5 => ?_)
  have hraw : Fm.raw p = Fm.head p.length ++ Fm.four (Fm.sum (Fm.head p.length)) ++ p ++ Fm.four (Fm.sum (Fm.head p.length ++ p)) := rfl
  have hH2 : (Fm.head p.length).length = 2 := rfl
  rw [hraw]
  clear hraw hh0 hh1
  generalize Fm.head p.length = H at *
  have hle1 : PH.Le h (h.new b5 ⟨bs H, 2⟩) := (PH.Le.refl h).new _ _ hb5
  have hm5 : (h.new b5 ⟨bs H, 2⟩).m b5 = some ⟨bs H, 2⟩ := by rw [PH.new_m, if_pos rfl]
  generalize h.new b5 ⟨bs H, 2⟩ = h1 at *
  have hKH : Kn h1 (.slice (some ⟨b5, 0, none⟩) 2 2) (bs H) := by
    have := Kn.blk (h := h1) (b := b5) (c := 2) hm5 (by rw [zAs]; omega)
    rwa [zAs, hH2] at this
  simp -dsimp -implicitDefEqProofs (disch := first | omega | assumption | (simp only [Option.isSome_some,Qt0]; done) | (simp only [UInt64.reduceToNat,UInt32.reduceToNat,UInt8.reduceToNat,List.length_cons,List.length_nil,List.length_append,Int.toNat_natCast] <;> omega) | fail) only [Nat.reduceLT,Nat.reduceLeDiff,Nat.reduceEqDiff,↓reduceIte,Int.reduceLT,Int.reduceLE,Int.reduceToNat,Int.reduceEq,Int.reduceNe,Nat.reduceAdd,UInt8.reduceOfNat,UInt16.reduceOfNat,UInt32.reduceOfNat,UInt64.reduceOfNat,UInt64.reduceToNat,UInt32.reduceToNat,UInt16.reduceToNat,UInt8.reduceToNat,Int.reduceAdd,Int.reduceSub,Int.reduceMul,Nat.reduceMul,Qp0,Qp1,Ql0,Qe0]
  refine zD2 zA2 (fun b6 hb6 => ?_)
  have how := OwnS.zero (h := h1) 1 hb6
  generalize h1.new b6 ⟨[], 0⟩ = h2 at *
  simp -dsimp -implicitDefEqProofs (disch := first | omega | assumption | (simp only [Option.isSome_some,Qt0]; done) | (simp only [UInt64.reduceToNat,UInt32.reduceToNat,UInt8.reduceToNat,List.length_cons,List.length_nil,List.length_append,Int.toNat_natCast] <;> omega) | fail) only [Nat.reduceLT,Nat.reduceLeDiff,Nat.reduceEqDiff,↓reduceIte,Int.reduceLT,Int.reduceLE,Int.reduceToNat,Int.reduceEq,Int.reduceNe,Nat.reduceAdd,UInt8.reduceOfNat,UInt16.reduceOfNat,UInt32.reduceOfNat,UInt64.reduceOfNat,UInt64.reduceToNat,UInt32.reduceToNat,UInt16.reduceToNat,UInt8.reduceToNat,Int.reduceAdd,Int.reduceSub,Int.reduceMul,Nat.reduceMul,Qp0,Qp1,Ql0,Qe0]
  refine zBd zA2 how.own (Rs.blk (k := ⟨bs H, 2⟩) (how.le.m _ _ hm5) (by simp only [zAs]; omega)) (zBu _) (by unfold maxLen; omega) (by omega) (fun v3 h3 ho hst => ?_)
  have how3 := how.stays hst ho
  rw [List.nil_append] at how3
  clear ho hst how hb6
  simp -dsimp -implicitDefEqProofs (disch := first | omega | assumption | (simp only [Option.isSome_some,Qt0]; done) | (simp only [UInt64.reduceToNat,UInt32.reduceToNat,UInt8.reduceToNat,List.length_cons,List.length_nil,List.length_append,Int.toNat_natCast] <;> omega) | fail) only [Nat.reduceLT,Nat.reduceLeDiff,Nat.reduceEqDiff,↓reduceIte,Int.reduceLT,Int.reduceLE,Int.reduceToNat,Int.reduceEq,Int.reduceNe,Nat.reduceAdd,UInt8.reduceOfNat,UInt16.reduceOfNat,UInt32.reduceOfNat,UInt64.reduceOfNat,UInt64.reduceToNat,UInt32.reduceToNat,UInt16.reduceToNat,UInt8.reduceToNat,Int.reduceAdd,Int.reduceSub,Int.reduceMul,Nat.reduceMul,Qp0,Qp1,Ql0,Qe0]
  refine (rsum_any H (by omega) _ w0 _ (hKH.more how3.le)).mono ?_
  rintro v hz ⟨rfl, rfl⟩
  simp -dsimp -implicitDefEqProofs (disch := first | omega | assumption | (simp only [Option.isSome_some,Qt0]; done) | (simp only [UInt64.reduceToNat,UInt32.reduceToNat,UInt8.reduceToNat,List.length_cons,List.length_nil,List.length_append,Int.toNat_natCast] <;> omega) | fail) only [Nat.reduceLT,Nat.reduceLeDiff,Nat.reduceEqDiff,↓reduceIte,Int.reduceLT,Int.reduceLE,Int.reduceToNat,Int.reduceEq,Int.reduceNe,Nat.reduceAdd,UInt8.reduceOfNat,UInt16.reduceOfNat,UInt32.reduceOfNat,UInt64.reduceOfNat,UInt64.reduceToNat,UInt32.reduceToNat,UInt16.reduceToNat,UInt8.reduceToNat,Int.reduceAdd,Int.reduceSub,Int.reduceMul,Nat.reduceMul,Qp0,Qp1,Ql0,Qe0]
  refine (rfour_any (Fm.sum H) w0 _).mono ?_
  rintro v h4 ⟨b8, rfl, hb8, rfl⟩
  have hF4 := Fm.four_length (Fm.sum H)
  generalize Fm.four (Fm.sum H) = F at *
  have how4 := how3.more ((PH.Le.refl _).new b8 ⟨bs F, 4⟩ hb8)
  have hm8 : (hz.new b8 ⟨bs F, 4⟩).m b8 = some ⟨bs F, 4⟩ := by rw [PH.new_m, if_pos rfl]
  generalize hz.new b8 ⟨bs F, 4⟩ = h4 at *
  clear how3 hb8
  simp -dsimp -implicitDefEqProofs (disch := first | omega | assumption | (simp only [Option.isSome_some,Qt0]; done) | (simp only [UInt64.reduceToNat,UInt32.reduceToNat,UInt8.reduceToNat,List.length_cons,List.length_nil,List.length_append,Int.toNat_natCast] <;> omega) | fail) only [Nat.reduceLT,Nat.reduceLeDiff,Nat.reduceEqDiff,↓reduceIte,Int.reduceLT,Int.reduceLE,Int.reduceToNat,Int.reduceEq,Int.reduceNe,Nat.reduceAdd,UInt8.reduceOfNat,UInt16.reduceOfNat,UInt32.reduceOfNat,UInt64.reduceOfNat,UInt64.reduceToNat,UInt32.reduceToNat,UInt16.reduceToNat,UInt8.reduceToNat,Int.reduceAdd,Int.reduceSub,Int.reduceMul,Nat.reduceMul,Qp0,Qp1,Ql0,Qe0]
  refine zBd zA2 how4.own (Rs.blk (k := ⟨bs F, 4⟩) hm8 (by simp only [zAs]; omega)) (zBu _) (by unfold maxLen; omega) (by omega) (fun v5 h5 ho hst => ?_)
  have how5 := how4.stays hst ho
  rw [← zBb] at how5
  clear ho hst how4 hm8
  simp -dsimp -implicitDefEqProofs (disch := first | omega | assumption | (simp only [Option.isSome_some,Qt0]; done) | (simp only [UInt64.reduceToNat,UInt32.reduceToNat,UInt8.reduceToNat,List.length_cons,List.length_nil,List.length_append,Int.toNat_natCast] <;> omega) | fail) only [Nat.reduceLT,Nat.reduceLeDiff,Nat.reduceEqDiff,↓reduceIte,Int.reduceLT,Int.reduceLE,Int.reduceToNat,Int.reduceEq,Int.reduceNe,Nat.reduceAdd,UInt8.reduceOfNat,UInt16.reduceOfNat,UInt32.reduceOfNat,UInt64.reduceOfNat,UInt64.reduceToNat,UInt32.reduceToNat,UInt16.reduceToNat,UInt8.reduceToNat,Int.reduceAdd,Int.reduceSub,Int.reduceMul,Nat.reduceMul,Qp0,Qp1,Ql0,Qe0]
  refine zDb zA2 Try.underlying9 how5.own (by omega) (fun v6 h6 ho hst hsb => ?_)
  have how6 := how5.stays hst ho
  rw [← zBb] at how6
  clear ho hst hsb how5
  simp -dsimp -implicitDefEqProofs (disch := first | omega | assumption | (simp only [Option.isSome_some,Qt0]; done) | (simp only [UInt64.reduceToNat,UInt32.reduceToNat,UInt8.reduceToNat,List.length_cons,List.length_nil,List.length_append,Int.toNat_natCast] <;> omega) | fail) only [Nat.reduceLT,Nat.reduceLeDiff,Nat.reduceEqDiff,↓reduceIte,Int.reduceLT,Int.reduceLE,Int.reduceToNat,Int.reduceEq,Int.reduceNe,Nat.reduceAdd,UInt8.reduceOfNat,UInt16.reduceOfNat,UInt32.reduceOfNat,UInt64.reduceOfNat,UInt64.reduceToNat,UInt32.reduceToNat,UInt16.reduceToNat,UInt8.reduceToNat,Int.reduceAdd,Int.reduceSub,Int.reduceMul,Nat.reduceMul,Qp0,Qp1,Ql0,Qe0]
  refine zD2 zA2 (fun b9 hb9 => ?_)
  have hoz := OwnS.zero (h := h6) 1 hb9
  generalize h6.new b9 ⟨[], 0⟩ = h7 at *
  simp -dsimp -implicitDefEqProofs (disch := first | omega | assumption | (simp only [Option.isSome_some,Qt0]; done) | (simp only [UInt64.reduceToNat,UInt32.reduceToNat,UInt8.reduceToNat,List.length_cons,List.length_nil,List.length_append,Int.toNat_natCast] <;> omega) | fail) only [Nat.reduceLT,Nat.reduceLeDiff,Nat.reduceEqDiff,↓reduceIte,Int.reduceLT,Int.reduceLE,Int.reduceToNat,Int.reduceEq,Int.reduceNe,Nat.reduceAdd,UInt8.reduceOfNat,UInt16.reduceOfNat,UInt32.reduceOfNat,UInt64.reduceOfNat,UInt64.reduceToNat,UInt32.reduceToNat,UInt16.reduceToNat,UInt8.reduceToNat,Int.reduceAdd,Int.reduceSub,Int.reduceMul,Nat.reduceMul,Qp0,Qp1,Ql0,Qe0]
  refine zBd zA2 hoz.own (Rs.blk (k := ⟨bs H, 2⟩) ((how6.le.trans hoz.le).m _ _ hm5) (by simp only [zAs]; omega)) (zBu _) (by unfold maxLen; omega) (by omega) (fun v8 h8 ho hst => ?_)
  have hoz1 := hoz.stays hst ho
  rw [List.nil_append] at hoz1
  clear ho hst hoz hb9
  simp -dsimp -implicitDefEqProofs (disch := first | omega | assumption | (simp only [Option.isSome_some,Qt0]; done) | (simp only [UInt64.reduceToNat,UInt32.reduceToNat,UInt8.reduceToNat,List.length_cons,List.length_nil,List.length_append,Int.toNat_natCast] <;> omega) | fail) only [Nat.reduceLT,Nat.reduceLeDiff,Nat.reduceEqDiff,↓reduceIte,Int.reduceLT,Int.reduceLE,Int.reduceToNat,Int.reduceEq,Int.reduceNe,Nat.reduceAdd,UInt8.reduceOfNat,UInt16.reduceOfNat,UInt32.reduceOfNat,UInt64.reduceOfNat,UInt64.reduceToNat,UInt32.reduceToNat,UInt16.reduceToNat,UInt8.reduceToNat,Int.reduceAdd,Int.reduceSub,Int.reduceMul,Nat.reduceMul,Qp0,Qp1,Ql0,Qe0]
  refine zDb zA2 Try.underlying9 hoz1.own (by omega) (fun v9 h9 ho hst hsb => ?_)
  have hoz2 := hoz1.stays hst ho
  rw [← zBb] at hoz2
  clear ho hst hsb hoz1
  obtain ⟨bA, cA, rfl, hcA, hmA⟩ := hoz2.own.pos (by omega)
  have hlA : (H ++ p).length = 0 + 2 + p.length := by rw [List.length_append]; omega
  have hKA : Kn h9 (.slice (some ⟨bA, 0, none⟩) (0 + 2 + p.length) cA) (bs (H ++ p)) := by
    have := Kn.blk (h := h9) (b := bA) (c := cA) hmA (by rw [zAs]; omega)
    rwa [zAs, hlA] at this
  simp -dsimp -implicitDefEqProofs (disch := first | omega | assumption | (simp only [Option.isSome_some,Qt0]; done) | (simp only [UInt64.reduceToNat,UInt32.reduceToNat,UInt8.reduceToNat,List.length_cons,List.length_nil,List.length_append,Int.toNat_natCast] <;> omega) | fail) only [Nat.reduceLT,Nat.reduceLeDiff,Nat.reduceEqDiff,↓reduceIte,Int.reduceLT,Int.reduceLE,Int.reduceToNat,Int.reduceEq,Int.reduceNe,Nat.reduceAdd,UInt8.reduceOfNat,UInt16.reduceOfNat,UInt32.reduceOfNat,UInt64.reduceOfNat,UInt64.reduceToNat,UInt32.reduceToNat,UInt16.reduceToNat,UInt8.reduceToNat,Int.reduceAdd,Int.reduceSub,Int.reduceMul,Nat.reduceMul,Qp0,Qp1,Ql0,Qe0]
  refine (rsum_any (H ++ p) (by omega) _ w0 _ (by simpa using hKA)).mono ?_
  rintro v hz ⟨rfl, rfl⟩
  simp -dsimp -implicitDefEqProofs (disch := first | omega | assumption | (simp only [Option.isSome_some,Qt0]; done) | (simp only [UInt64.reduceToNat,UInt32.reduceToNat,UInt8.reduceToNat,List.length_cons,List.length_nil,List.length_append,Int.toNat_natCast] <;> omega) | fail) only [Nat.reduceLT,Nat.reduceLeDiff,Nat.reduceEqDiff,↓reduceIte,Int.reduceLT,Int.reduceLE,Int.reduceToNat,Int.reduceEq,Int.reduceNe,Nat.reduceAdd,UInt8.reduceOfNat,UInt16.reduceOfNat,UInt32.reduceOfNat,UInt64.reduceOfNat,UInt64.reduceToNat,UInt32.reduceToNat,UInt16.reduceToNat,UInt8.reduceToNat,Int.reduceAdd,Int.reduceSub,Int.reduceMul,Nat.reduceMul,Qp0,Qp1,Ql0,Qe0]
  refine (rfour_any (Fm.sum (H ++ p)) w0 _).mono ?_
  rintro v h10 ⟨b10, rfl, hb10, rfl⟩
  have hF5 := Fm.four_length (Fm.sum (H ++ p))
  generalize Fm.four (Fm.sum (H ++ p)) = F2 at *
  have how10 := (how6.more hoz2.le).more ((PH.Le.refl _).new b10 ⟨bs F2, 4⟩ hb10)
  have hm10 : (hz.new b10 ⟨bs F2, 4⟩).m b10 = some ⟨bs F2, 4⟩ := by rw [PH.new_m, if_pos rfl]
  generalize hz.new b10 ⟨bs F2, 4⟩ = h10 at *
  simp -dsimp -implicitDefEqProofs (disch := first | omega | assumption | (simp only [Option.isSome_some,Qt0]; done) | (simp only [UInt64.reduceToNat,UInt32.reduceToNat,UInt8.reduceToNat,List.length_cons,List.length_nil,List.length_append,Int.toNat_natCast] <;> omega) | fail) only [Nat.reduceLT,Nat.reduceLeDiff,Nat.reduceEqDiff,↓reduceIte,Int.reduceLT,Int.reduceLE,Int.reduceToNat,Int.reduceEq,Int.reduceNe,Nat.reduceAdd,UInt8.reduceOfNat,UInt16.reduceOfNat,UInt32.reduceOfNat,UInt64.reduceOfNat,UInt64.reduceToNat,UInt32.reduceToNat,UInt16.reduceToNat,UInt8.reduceToNat,Int.reduceAdd,Int.reduceSub,Int.reduceMul,Nat.reduceMul,Qp0,Qp1,Ql0,Qe0]
  refine zBd zA2 how10.own (Rs.blk (k := ⟨bs F2, 4⟩) hm10 (by simp only [zAs]; omega)) (zBu _) (by unfold maxLen; omega) (by omega) (fun v11 h11 ho hst => ?_)
  have how11 := how10.stays hst ho
  rw [← zBb] at how11
  simp -dsimp -implicitDefEqProofs (disch := first | omega | assumption | (simp only [Option.isSome_some,Qt0]; done) | (simp only [UInt64.reduceToNat,UInt32.reduceToNat,UInt8.reduceToNat,List.length_cons,List.length_nil,List.length_append,Int.toNat_natCast] <;> omega) | fail) only [Nat.reduceLT,Nat.reduceLeDiff,Nat.reduceEqDiff,↓reduceIte,Int.reduceLT,Int.reduceLE,Int.reduceToNat,Int.reduceEq,Int.reduceNe,Nat.reduceAdd,UInt8.reduceOfNat,UInt16.reduceOfNat,UInt32.reduceOfNat,UInt64.reduceOfNat,UInt64.reduceToNat,UInt32.reduceToNat,UInt16.reduceToNat,UInt8.reduceToNat,Int.reduceAdd,Int.reduceSub,Int.reduceMul,Nat.reduceMul,Qp0,Qp1,Ql0,Qe0]
  refine ⟨_, PH.Le.refl _, ?_⟩
  have := OwnS_from how11 hle1
  rwa [show 0 + 2 + 4 + p.length + 4 = p.length + 10 by omega] at this
set_option maxRecDepth 20000 in
set_option maxHeartbeats 1000000 in
theorem rseal_any (p : List UInt8) (hp : p.length ≤ 10000) (w0 : World) (h : PH) : PCalls Try.prog w0 43 [str p] h fun v h' => v = str (Fm.frame p) ∧ h' = h := by
  refine zAp Try.func43 (by kernel_rfl) rfl _ Try.ntmps43 (by kernel_rfl) (by kernel_rfl) _ Try.results43 ?_
  simp -dsimp -implicitDefEqProofs (disch := first | omega | assumption | (simp only [Option.isSome_some,Qt0]; done) | (simp only [UInt64.reduceToNat,UInt32.reduceToNat,UInt8.reduceToNat,List.length_cons,List.length_nil,List.length_append,Int.toNat_natCast] <;> omega) | fail) only [Nat.reduceLT,Nat.reduceLeDiff,Nat.reduceEqDiff,↓reduceIte,Int.reduceLT,Int.reduceLE,Int.reduceToNat,Int.reduceEq,Int.reduceNe,Nat.reduceAdd,UInt8.reduceOfNat,UInt16.reduceOfNat,UInt32.reduceOfNat,UInt64.reduceOfNat,UInt64.reduceToNat,UInt32.reduceToNat,UInt16.reduceToNat,UInt8.reduceToNat,Int.reduceAdd,Int.reduceSub,Int.reduceMul,Nat.reduceMul,Qp0,Qp1,Ql0,Qe0]
  refine (rraw_any p hp w0 h).mono ?_
  rintro v h7 how7
  have hrl := Fm.raw_length p
  rw [← hrl] at how7
  obtain ⟨R, hR⟩ : ∃ R, R = Fm.raw p := ⟨_, rfl⟩
  have hfr : Fm.frame p = 1 :: Fm.enc R := by rw [hR]; rfl
  rw [hfr]
  rw [← hR] at how7 hrl
  clear hfr hR
  obtain ⟨bR, cR, rfl, hcR, hmR⟩ := how7.own.pos (by omega)
  simp -dsimp -implicitDefEqProofs (disch := first | omega | assumption | (simp only [Option.isSome_some,Qt0]; done) | (simp only [UInt64.reduceToNat,UInt32.reduceToNat,UInt8.reduceToNat,List.length_cons,List.length_nil,List.length_append,Int.toNat_natCast] <;> omega) | fail) only [Nat.reduceLT,Nat.reduceLeDiff,Nat.reduceEqDiff,↓reduceIte,Int.reduceLT,Int.reduceLE,Int.reduceToNat,Int.reduceEq,Int.reduceNe,Nat.reduceAdd,UInt8.reduceOfNat,UInt16.reduceOfNat,UInt32.reduceOfNat,UInt64.reduceOfNat,UInt64.reduceToNat,UInt32.reduceToNat,UInt16.reduceToNat,UInt8.reduceToNat,Int.reduceAdd,Int.reduceSub,Int.reduceMul,Nat.reduceMul,Qp0,Qp1,Ql0,Qe0]
  refine zBj (v := u8 1) zA2 rfl (by omega) (fun b9 hb9 => ?_)
  have hown : OwnS h7 (h7.new b9 ⟨[u8 1], 1⟩) 1 (.slice (some ⟨b9, 0, none⟩) 1 1) (1 + 2 * 0) (bs (1 :: Fm.enc (R.take 0))) := ⟨(PH.Le.refl h7).new _ _ hb9, ⟨rfl, .inr ⟨b9, 1, rfl, Nat.le_refl _, by unfold maxLen; omega, by rw [PH.new_m, if_pos rfl]; rfl⟩⟩, fun x e => by cases e; exact hb9⟩
  have hcell : (u8 1).cells.toList = [u8 1] := rfl
  rw [hcell]
  generalize h7.new b9 ⟨[u8 1], 1⟩ = h8 at *
  simp -dsimp -implicitDefEqProofs (disch := first | omega | assumption | (simp only [Option.isSome_some,Qt0]; done) | (simp only [UInt64.reduceToNat,UInt32.reduceToNat,UInt8.reduceToNat,List.length_cons,List.length_nil,List.length_append,Int.toNat_natCast] <;> omega) | fail) only [Nat.reduceLT,Nat.reduceLeDiff,Nat.reduceEqDiff,↓reduceIte,Int.reduceLT,Int.reduceLE,Int.reduceToNat,Int.reduceEq,Int.reduceNe,Nat.reduceAdd,UInt8.reduceOfNat,UInt16.reduceOfNat,UInt32.reduceOfNat,UInt64.reduceOfNat,UInt64.reduceToNat,UInt32.reduceToNat,UInt16.reduceToNat,UInt8.reduceToNat,Int.reduceAdd,Int.reduceSub,Int.reduceMul,Nat.reduceMul,Qp0,Qp1,Ql0,Qe0]
  refine zBa (fun n f h' => ∃ (i : Nat) (v : Value), i + n = R.length ∧ f 4 = some v ∧ f 3 = some (.slice (some ⟨bR, 0, none⟩) R.length cR) ∧ f 5 = some (.int .i64 i) ∧ OwnS h7 h' 1 v (1 + 2 * i) (bs (1 :: Fm.enc (R.take i)))) (by kernel_rfl) R.length ⟨0, _, by omega, ?_, ?_, ?_, hown⟩ ?_
  · simp -dsimp -implicitDefEqProofs (disch := first | omega | assumption | (simp only [Option.isSome_some,Qt0]; done) | (simp only [UInt64.reduceToNat,UInt32.reduceToNat,UInt8.reduceToNat,List.length_cons,List.length_nil,List.length_append,Int.toNat_natCast] <;> omega) | fail) only [Nat.reduceLT,Nat.reduceLeDiff,Nat.reduceEqDiff,↓reduceIte,Int.reduceLT,Int.reduceLE,Int.reduceToNat,Int.reduceEq,Int.reduceNe,Nat.reduceAdd,UInt8.reduceOfNat,UInt16.reduceOfNat,UInt32.reduceOfNat,UInt64.reduceOfNat,UInt64.reduceToNat,UInt32.reduceToNat,UInt16.reduceToNat,UInt8.reduceToNat,Int.reduceAdd,Int.reduceSub,Int.reduceMul,Nat.reduceMul,Qp0,Qp1,Ql0,Qe0]
  · simp -dsimp -implicitDefEqProofs (disch := first | omega | assumption | (simp only [Option.isSome_some,Qt0]; done) | (simp only [UInt64.reduceToNat,UInt32.reduceToNat,UInt8.reduceToNat,List.length_cons,List.length_nil,List.length_append,Int.toNat_natCast] <;> omega) | fail) only [Nat.reduceLT,Nat.reduceLeDiff,Nat.reduceEqDiff,↓reduceIte,Int.reduceLT,Int.reduceLE,Int.reduceToNat,Int.reduceEq,Int.reduceNe,Nat.reduceAdd,UInt8.reduceOfNat,UInt16.reduceOfNat,UInt32.reduceOfNat,UInt64.reduceOfNat,UInt64.reduceToNat,UInt32.reduceToNat,UInt16.reduceToNat,UInt8.reduceToNat,Int.reduceAdd,Int.reduceSub,Int.reduceMul,Nat.reduceMul,Qp0,Qp1,Ql0,Qe0]
    try rfl
  · simp -dsimp -implicitDefEqProofs (disch := first | omega | assumption | (simp only [Option.isSome_some,Qt0]; done) | (simp only [UInt64.reduceToNat,UInt32.reduceToNat,UInt8.reduceToNat,List.length_cons,List.length_nil,List.length_append,Int.toNat_natCast] <;> omega) | fail) only [Nat.reduceLT,Nat.reduceLeDiff,Nat.reduceEqDiff,↓reduceIte,Int.reduceLT,Int.reduceLE,Int.reduceToNat,Int.reduceEq,Int.reduceNe,Nat.reduceAdd,UInt8.reduceOfNat,UInt16.reduceOfNat,UInt32.reduceOfNat,UInt64.reduceOfNat,UInt64.reduceToNat,UInt32.reduceToNat,UInt16.reduceToNat,UInt8.reduceToNat,Int.reduceAdd,Int.reduceSub,Int.reduceMul,Nat.reduceMul,Qp0,Qp1,Ql0,Qe0]
    try rfl
  clear hown
  rintro n f h9 ⟨i, v, hin, f4, f3, f5, how⟩
  by_cases hi : i < R.length
  · have e2 : decide ((i : Int) < (R.length : Int)) = true := decide_eq_true (by omega)
    obtain ⟨c, hc⟩ : ∃ c, R[i]? = some c := ⟨_, List.getElem?_eq_getElem hi⟩
    have hc' : (bs R)[i]? = some (u8 c) := by simp [bs, hc]
    have hnx := enc_next R i c hc
    have hi1 := hi_add c
    have hi2 := lo_add c
    simp -dsimp -implicitDefEqProofs (disch := first | omega | assumption | (simp only [Option.isSome_some,Qt0]; done) | (simp only [UInt64.reduceToNat,UInt32.reduceToNat,UInt8.reduceToNat,List.length_cons,List.length_nil,List.length_append,Int.toNat_natCast] <;> omega) | fail) only [Nat.reduceLT,Nat.reduceLeDiff,Nat.reduceEqDiff,↓reduceIte,Int.reduceLT,Int.reduceLE,Int.reduceToNat,Int.reduceEq,Int.reduceNe,Nat.reduceAdd,UInt8.reduceOfNat,UInt16.reduceOfNat,UInt32.reduceOfNat,UInt64.reduceOfNat,UInt64.reduceToNat,UInt32.reduceToNat,UInt16.reduceToNat,UInt8.reduceToNat,Int.reduceAdd,Int.reduceSub,Int.reduceMul,Nat.reduceMul,Qp0,Qp1,Ql0,Qe0,f4,f3,f5,e2]
    refine zBq [0, 1, 2, 3, 4, 5, 6, 7, 8, 9, 10, 11, 12, 13, 14, 15] h7 (by kernel_rfl) (by decide +kernel) (by kernel_rfl) (by kernel_rfl) (by kernel_rfl) (fun c f h hq => by simp only [zA0, zAy, zAv, zAw, zAx] at hq) how.le.sub ?_
    simp -dsimp -implicitDefEqProofs (disch := first | omega | assumption | (simp only [Option.isSome_some,Qt0]; done) | (simp only [UInt64.reduceToNat,UInt32.reduceToNat,UInt8.reduceToNat,List.length_cons,List.length_nil,List.length_append,Int.toNat_natCast] <;> omega) | fail) only [Nat.reduceLT,Nat.reduceLeDiff,Nat.reduceEqDiff,↓reduceIte,Int.reduceLT,Int.reduceLE,Int.reduceToNat,Int.reduceEq,Int.reduceNe,Nat.reduceAdd,UInt8.reduceOfNat,UInt16.reduceOfNat,UInt32.reduceOfNat,UInt64.reduceOfNat,UInt64.reduceToNat,UInt32.reduceToNat,UInt16.reduceToNat,UInt8.reduceToNat,Int.reduceAdd,Int.reduceSub,Int.reduceMul,Nat.reduceMul,Qp0,Qp1,Ql0,Qe0,f4,f3,f5,zAa,zAb,hmR,hc',hi1,hi2]
    refine zCv zA2 (bs [(64 : UInt8) ||| c >>> 4, (64 : UInt8) ||| c &&& 15]) rfl (fun v hv => by obtain ⟨_, _, rfl⟩ := List.mem_map.1 hv; exact ⟨rfl, rfl⟩) (by omega) (by omega) (fun gb hgb => ?_)
    have howg := how.more ((PH.Le.refl _).new gb ⟨bs [(64 : UInt8) ||| c >>> 4, (64 : UInt8) ||| c &&& 15], 2⟩ hgb)
    simp -dsimp -implicitDefEqProofs (disch := first | omega | assumption | (simp only [Option.isSome_some,Qt0]; done) | (simp only [UInt64.reduceToNat,UInt32.reduceToNat,UInt8.reduceToNat,List.length_cons,List.length_nil,List.length_append,Int.toNat_natCast] <;> omega) | fail) only [Nat.reduceLT,Nat.reduceLeDiff,Nat.reduceEqDiff,↓reduceIte,Int.reduceLT,Int.reduceLE,Int.reduceToNat,Int.reduceEq,Int.reduceNe,Nat.reduceAdd,UInt8.reduceOfNat,UInt16.reduceOfNat,UInt32.reduceOfNat,UInt64.reduceOfNat,UInt64.reduceToNat,UInt32.reduceToNat,UInt16.reduceToNat,UInt8.reduceToNat,Int.reduceAdd,Int.reduceSub,Int.reduceMul,Nat.reduceMul,Qp0,Qp1,Ql0,Qe0,f4,f3,f5]
    refine ⟨howg.le.sub, ?_⟩
    simp -dsimp -implicitDefEqProofs (disch := first | omega | assumption | (simp only [Option.isSome_some,Qt0]; done) | (simp only [UInt64.reduceToNat,UInt32.reduceToNat,UInt8.reduceToNat,List.length_cons,List.length_nil,List.length_append,Int.toNat_natCast] <;> omega) | fail) only [Nat.reduceLT,Nat.reduceLeDiff,Nat.reduceEqDiff,↓reduceIte,Int.reduceLT,Int.reduceLE,Int.reduceToNat,Int.reduceEq,Int.reduceNe,Nat.reduceAdd,UInt8.reduceOfNat,UInt16.reduceOfNat,UInt32.reduceOfNat,UInt64.reduceOfNat,UInt64.reduceToNat,UInt32.reduceToNat,UInt16.reduceToNat,UInt8.reduceToNat,Int.reduceAdd,Int.reduceSub,Int.reduceMul,Nat.reduceMul,Qp0,Qp1,Ql0,Qe0,f4,f3,f5]
    refine zBd zA2 howg.own (Rs.blk (k := ⟨bs [(64 : UInt8) ||| c >>> 4, (64 : UInt8) ||| c &&& 15], 2⟩) (by rw [PH.new_m, if_pos rfl]) rfl) (zBu _) (by unfold maxLen; omega) (by omega) (fun v10 h10 ho hst => ?_)
    have how10 := howg.stays hst ho
    rw [← hnx] at how10
    simp -dsimp -implicitDefEqProofs (disch := first | omega | assumption | (simp only [Option.isSome_some,Qt0]; done) | (simp only [UInt64.reduceToNat,UInt32.reduceToNat,UInt8.reduceToNat,List.length_cons,List.length_nil,List.length_append,Int.toNat_natCast] <;> omega) | fail) only [Nat.reduceLT,Nat.reduceLeDiff,Nat.reduceEqDiff,↓reduceIte,Int.reduceLT,Int.reduceLE,Int.reduceToNat,Int.reduceEq,Int.reduceNe,Nat.reduceAdd,UInt8.reduceOfNat,UInt16.reduceOfNat,UInt32.reduceOfNat,UInt64.reduceOfNat,UInt64.reduceToNat,UInt32.reduceToNat,UInt16.reduceToNat,UInt8.reduceToNat,Int.reduceAdd,Int.reduceSub,Int.reduceMul,Nat.reduceMul,Qp0,Qp1,Ql0,Qe0,f4,f3,f5]
    refine ⟨how10.le.sub, ?_⟩
    simp -dsimp -implicitDefEqProofs (disch := first | omega | assumption | (simp only [Option.isSome_some,Qt0]; done) | (simp only [UInt64.reduceToNat,UInt32.reduceToNat,UInt8.reduceToNat,List.length_cons,List.length_nil,List.length_append,Int.toNat_natCast] <;> omega) | fail) only [Nat.reduceLT,Nat.reduceLeDiff,Nat.reduceEqDiff,↓reduceIte,Int.reduceLT,Int.reduceLE,Int.reduceToNat,Int.reduceEq,Int.reduceNe,Nat.reduceAdd,UInt8.reduceOfNat,UInt16.reduceOfNat,UInt32.reduceOfNat,UInt64.reduceOfNat,UInt64.reduceToNat,UInt32.reduceToNat,UInt16.reduceToNat,UInt8.reduceToNat,Int.reduceAdd,Int.reduceSub,Int.reduceMul,Nat.reduceMul,Qp0,Qp1,Ql0,Qe0,f4,f3,f5]
    refine ⟨n - 1, h10, by omega, PH.Le.refl _, i + 1, v10, by omega, by simp, by simp [f3], by simp, ?_⟩
    rw [show 1 + 2 * (i + 1) = 1 + 2 * i + 2 by omega]
    exact how10
  · obtain rfl : i = R.length := by omega
    have e2 : decide ((R.length : Int) < (R.length : Int)) = false := decide_eq_false (by omega)
    rw [List.take_length] at how
    obtain ⟨A, c2, rfl, hc2⟩ := how.own.len
    simp -dsimp -implicitDefEqProofs (disch := first | omega | assumption | (simp only [Option.isSome_some,Qt0]; done) | (simp only [UInt64.reduceToNat,UInt32.reduceToNat,UInt8.reduceToNat,List.length_cons,List.length_nil,List.length_append,Int.toNat_natCast] <;> omega) | fail) only [Nat.reduceLT,Nat.reduceLeDiff,Nat.reduceEqDiff,↓reduceIte,Int.reduceLT,Int.reduceLE,Int.reduceToNat,Int.reduceEq,Int.reduceNe,Nat.reduceAdd,UInt8.reduceOfNat,UInt16.reduceOfNat,UInt32.reduceOfNat,UInt64.reduceOfNat,UInt64.reduceToNat,UInt32.reduceToNat,UInt16.reduceToNat,UInt8.reduceToNat,Int.reduceAdd,Int.reduceSub,Int.reduceMul,Nat.reduceMul,Qp0,Qp1,Ql0,Qe0,f4,f3,f5,e2]
    refine zBo Try.underlying77 Try.underlying5 Try.underlying9 (Rs.own how.own) how.own.nil_zero ?_
    simp -dsimp -implicitDefEqProofs (disch := first | omega | assumption | (simp only [Option.isSome_some,Qt0]; done) | (simp only [UInt64.reduceToNat,UInt32.reduceToNat,UInt8.reduceToNat,List.length_cons,List.length_nil,List.length_append,Int.toNat_natCast] <;> omega) | fail) only [Nat.reduceLT,Nat.reduceLeDiff,Nat.reduceEqDiff,↓reduceIte,Int.reduceLT,Int.reduceLE,Int.reduceToNat,Int.reduceEq,Int.reduceNe,Nat.reduceAdd,UInt8.reduceOfNat,UInt16.reduceOfNat,UInt32.reduceOfNat,UInt64.reduceOfNat,UInt64.reduceToNat,UInt32.reduceToNat,UInt16.reduceToNat,UInt8.reduceToNat,Int.reduceAdd,Int.reduceSub,Int.reduceMul,Nat.reduceMul,Qp0,Qp1,Ql0,Qe0]
    exact ⟨_, how7.le.trans how.le, by trivial, rfl⟩
end Go.Proofs.Ytblikpbaeippaaa


namespace Go.Proofs.Ytblikpbaeippaaa
set_option linter.unusedVariables false
set_option linter.unusedSimpArgs false
open Go.RowKit Px Wr
section
variable (h0 : PH) (b : Nat) (d : Dk) (w0 : World) (h : PH)
set_option maxRecDepth 20000 in
set_option maxHeartbeats 1000000 in
theorem rot_any (hd : DS h0 h b d) (g : Good d) (n : Int) (x : UInt8) : PCalls Try.prog w0 22 [.pointer (some ⟨b, 0, none⟩), .int .i64 n, u8 x] h fun v h' => v = .bool (d.rot n x).2 ∧ DS h0 h' b (d.rot n x).1 := by
  refine zAp Try.func22 (by kernel_rfl) rfl _ Try.ntmps22 (by kernel_rfl) (by kernel_rfl) _ Try.results22 ?_
  have hD := Lib.hid (zB2 h0 b d w0 h hd)
  obtain ⟨A, c, hb, hr, hA⟩ := hd.cells
  have hs0 := g.safe0
  have hs1 := g.safe1
  unfold Dk.rot
  cases hdn : d.down
  rotate_left
  · rw [if_pos (.inl rfl)]
    rw [hdn] at hD
    simp -dsimp -implicitDefEqProofs (disch := first | omega | assumption | (simp only [Option.isSome_some,Qt0]; done) | (simp only [List.length_cons,List.length_nil,List.length_append,Int.toNat_natCast] <;> omega) | fail) only [Nat.reduceLT,Nat.reduceLeDiff,Nat.reduceEqDiff,↓reduceIte,Int.reduceLT,Int.reduceLE,Int.reduceToNat,Int.reduceEq,Int.reduceNe,Nat.reduceAdd,Int.reduceAdd,Int.reduceSub,Int.reduceMul,Nat.reduceMul,Qp0,Qp1,Ql0,Qe0]
    refine hD.out.mono ?_
    rintro v hq ⟨rfl, hz⟩
    obtain rfl := hz.symm
    simp -dsimp -implicitDefEqProofs (disch := first | omega | assumption | (simp only [Option.isSome_some,Qt0]; done) | (simp only [List.length_cons,List.length_nil,List.length_append,Int.toNat_natCast] <;> omega) | fail) only [Nat.reduceLT,Nat.reduceLeDiff,Nat.reduceEqDiff,↓reduceIte,Int.reduceLT,Int.reduceLE,Int.reduceToNat,Int.reduceEq,Int.reduceNe,Nat.reduceAdd,Int.reduceAdd,Int.reduceSub,Int.reduceMul,Nat.reduceMul,Qp0,Qp1,Ql0,Qe0]
    exact ⟨_, PH.Le.refl _, by trivial, hd⟩
  rw [hdn] at hD
  by_cases hn0 : n < 0
  · rw [if_pos (.inr (.inl hn0))]
    have d1 := decide_eq_true hn0
    simp -dsimp -implicitDefEqProofs (disch := first | omega | assumption | (simp only [Option.isSome_some,Qt0]; done) | (simp only [List.length_cons,List.length_nil,List.length_append,Int.toNat_natCast] <;> omega) | fail) only [Nat.reduceLT,Nat.reduceLeDiff,Nat.reduceEqDiff,↓reduceIte,Int.reduceLT,Int.reduceLE,Int.reduceToNat,Int.reduceEq,Int.reduceNe,Nat.reduceAdd,Int.reduceAdd,Int.reduceSub,Int.reduceMul,Nat.reduceMul,Qp0,Qp1,Ql0,Qe0]
    refine hD.out.mono ?_
    rintro v hq ⟨rfl, hz⟩
    obtain rfl := hz.symm
    simp -dsimp -implicitDefEqProofs (disch := first | omega | assumption | (simp only [Option.isSome_some,Qt0]; done) | (simp only [List.length_cons,List.length_nil,List.length_append,Int.toNat_natCast] <;> omega) | fail) only [Nat.reduceLT,Nat.reduceLeDiff,Nat.reduceEqDiff,↓reduceIte,Int.reduceLT,Int.reduceLE,Int.reduceToNat,Int.reduceEq,Int.reduceNe,Nat.reduceAdd,Int.reduceAdd,Int.reduceSub,Int.reduceMul,Nat.reduceMul,Qp0,Qp1,Ql0,Qe0,d1]
    exact ⟨_, PH.Le.refl _, by trivial, hd⟩
  have d1 := decide_eq_false hn0
  obtain ⟨j, rfl⟩ := Int.eq_ofNat_of_zero_le (show 0 ≤ n by omega)
  by_cases h1 : d.safe ≤ j
  · rw [if_pos (.inr (.inr (.inl h1)))]
    have d2 : decide (d.safe ≤ (j : Int)) = true := decide_eq_true h1
    unfold DKc at hb
    simp -dsimp -implicitDefEqProofs (disch := first | omega | assumption | (simp only [Option.isSome_some,Qt0]; done) | (simp only [List.length_cons,List.length_nil,List.length_append,Int.toNat_natCast] <;> omega) | fail) only [Nat.reduceLT,Nat.reduceLeDiff,Nat.reduceEqDiff,↓reduceIte,Int.reduceLT,Int.reduceLE,Int.reduceToNat,Int.reduceEq,Int.reduceNe,Nat.reduceAdd,Int.reduceAdd,Int.reduceSub,Int.reduceMul,Nat.reduceMul,Qp0,Qp1,Ql0,Qe0]
    refine hD.out.mono ?_
    rintro v hq ⟨rfl, hz⟩
    obtain rfl := hz.symm
    simp -dsimp -implicitDefEqProofs (disch := first | omega | assumption | (simp only [Option.isSome_some,Qt0]; done) | (simp only [List.length_cons,List.length_nil,List.length_append,Int.toNat_natCast] <;> omega) | fail) only [Nat.reduceLT,Nat.reduceLeDiff,Nat.reduceEqDiff,↓reduceIte,Int.reduceLT,Int.reduceLE,Int.reduceToNat,Int.reduceEq,Int.reduceNe,Nat.reduceAdd,Int.reduceAdd,Int.reduceSub,Int.reduceMul,Nat.reduceMul,Qp0,Qp1,Ql0,Qe0,d1,zAa,zAb,hb,ge_iff_le,d2]
    exact ⟨_, PH.Le.refl _, by trivial, hd⟩
  have d2 : decide (d.safe ≤ (j : Int)) = false := decide_eq_false h1
  by_cases h2 : x = 0
  · rw [if_pos (.inr (.inr (.inr h2)))]
    have d3 := decide_eq_true h2
    unfold DKc at hb
    simp -dsimp -implicitDefEqProofs (disch := first | omega | assumption | (simp only [Option.isSome_some,Qt0]; done) | (simp only [List.length_cons,List.length_nil,List.length_append,Int.toNat_natCast] <;> omega) | fail) only [Nat.reduceLT,Nat.reduceLeDiff,Nat.reduceEqDiff,↓reduceIte,Int.reduceLT,Int.reduceLE,Int.reduceToNat,Int.reduceEq,Int.reduceNe,Nat.reduceAdd,Int.reduceAdd,Int.reduceSub,Int.reduceMul,Nat.reduceMul,Qp0,Qp1,Ql0,Qe0]
    refine hD.out.mono ?_
    rintro v hq ⟨rfl, hz⟩
    obtain rfl := hz.symm
    simp -dsimp -implicitDefEqProofs (disch := first | omega | assumption | (simp only [Option.isSome_some,Qt0]; done) | (simp only [List.length_cons,List.length_nil,List.length_append,Int.toNat_natCast] <;> omega) | fail) only [Nat.reduceLT,Nat.reduceLeDiff,Nat.reduceEqDiff,↓reduceIte,Int.reduceLT,Int.reduceLE,Int.reduceToNat,Int.reduceEq,Int.reduceNe,Nat.reduceAdd,Int.reduceAdd,Int.reduceSub,Int.reduceMul,Nat.reduceMul,Qp0,Qp1,Ql0,Qe0,d1,zAa,zAb,hb,ge_iff_le,d2,d3]
    exact ⟨_, PH.Le.refl _, by trivial, hd⟩
  have d3 := decide_eq_false h2
  rw [if_neg (by simp [hn0, h1, h2]), Int.toNat_natCast]
  obtain ⟨y, hy⟩ : ∃ y, d.l.getD j 0 = y := ⟨_, rfl⟩
  rw [hy]
  rcases hr with ⟨_, hl, _⟩ | ⟨bl, X, lim, rfl, r1, r2, r3, r4, r5, r6⟩
  · exfalso; rw [hl] at hs1; simp at hs1; omega
  have hrow := hd.row hb (hA _ rfl) r1 r2 r4 r5 r6 j (y ^^^ x) (by omega)
  rw [hdn] at hrow
  have hXj : X[j]? = some (u8 y) := by
    have e : (X.take d.l.length)[j]? = (bs d.l)[j]? := by rw [r5]
    rw [List.getElem?_take_of_lt (by omega)] at e
    rw [e, ← hy]
    simp [bs, List.getD, List.getElem?_eq_getElem (show j < d.l.length by omega)]
  unfold DKc at hb
  simp -dsimp -implicitDefEqProofs (disch := first | omega | assumption | (simp only [Option.isSome_some,Qt0]; done) | (simp only [List.length_cons,List.length_nil,List.length_append,Int.toNat_natCast] <;> omega) | fail) only [Nat.reduceLT,Nat.reduceLeDiff,Nat.reduceEqDiff,↓reduceIte,Int.reduceLT,Int.reduceLE,Int.reduceToNat,Int.reduceEq,Int.reduceNe,Nat.reduceAdd,Int.reduceAdd,Int.reduceSub,Int.reduceMul,Nat.reduceMul,Qp0,Qp1,Ql0,Qe0]
  refine hD.out.mono ?_
  rintro v hq ⟨rfl, hz⟩
  obtain rfl := hz.symm
  simp -dsimp -implicitDefEqProofs (disch := first | omega | assumption | (simp only [Option.isSome_some,Qt0]; done) | (simp only [List.length_cons,List.length_nil,List.length_append,Int.toNat_natCast] <;> omega) | fail) only [Nat.reduceLT,Nat.reduceLeDiff,Nat.reduceEqDiff,↓reduceIte,Int.reduceLT,Int.reduceLE,Int.reduceToNat,Int.reduceEq,Int.reduceNe,Nat.reduceAdd,Int.reduceAdd,Int.reduceSub,Int.reduceMul,Nat.reduceMul,Qp0,Qp1,Ql0,Qe0,d1,zAa,zAb,hb,ge_iff_le,d2,d3,r3,hXj]
  refine ⟨_, PH.Le.refl _, by trivial, ?_⟩
  exact hrow
end
theorem jrot2_any {h0 : PH} {a b : Nat} {da db : Dk} (n : Int) (x : UInt8) (w0 : World) (h : PH) (hd : D2 h0 h a da b db) (g : Good da) : PCalls Try.prog w0 22 [.pointer (some ⟨a, 0, none⟩), .int .i64 n, u8 x] h fun v h' => v = .bool (da.rot n x).2 ∧ D2 h0 h' a (da.rot n x).1 b db := by
  obtain ⟨h1, q1, q2, q3⟩ := hd.use
  exact (rot_any h1 a da w0 h q1 g n x).mono fun v h' r => ⟨r.1, q3 h' _ r.2⟩
set_option maxRecDepth 20000 in
set_option maxHeartbeats 4000000 in
theorem zIa (x : Pt) (hx : x.Ok) (w0 : World) (h : PH) : PCalls Try.prog w0 20 [.agg (ptL x).toArray] h fun v h' => v = str (sealP x) ∧ PH.Le h h' := by
  have hk1 := hx.k1
  have hg1 := hx.g1
  have hp1 := hx.p1
  have ht1 := hx.t1
  refine zAp Try.func20 (by kernel_rfl) rfl _ Try.ntmps20 (by kernel_rfl) (by kernel_rfl) _ Try.results20 ?_
  unfold ptL
  simp -dsimp -implicitDefEqProofs (disch := first | omega | assumption | (simp only [Option.isSome_some,Qt0]; done) | (simp only [List.length_cons,List.length_nil,List.length_append,Int.toNat_natCast] <;> omega) | fail) only [Nat.reduceLT,Nat.reduceLeDiff,Nat.reduceEqDiff,↓reduceIte,Int.reduceLT,Int.reduceLE,Int.reduceToNat,Int.reduceEq,Int.reduceNe,Nat.reduceAdd,Int.reduceAdd,Int.reduceSub,Int.reduceMul,Nat.reduceMul,Qp0,Qp1,Ql0,Qe0]
  refine fun pb hpb => ?_
  have hle := (PH.Le.refl h).new pb ⟨[.int .i64 x.k, .int .i64 x.g, .int .i64 x.p, str x.t], 4⟩ hpb
  have hp : (h.new pb ⟨[.int .i64 x.k, .int .i64 x.g, .int .i64 x.p, str x.t], 4⟩).m pb = some ⟨[.int .i64 x.k, .int .i64 x.g, .int .i64 x.p, str x.t], 4⟩ := by rw [PH.new_m, if_pos rfl]
  simp -dsimp -implicitDefEqProofs (disch := first | omega | assumption | (simp only [Option.isSome_some,Qt0]; done) | (simp only [List.length_cons,List.length_nil,List.length_append,Int.toNat_natCast] <;> omega) | fail) only [Nat.reduceLT,Nat.reduceLeDiff,Nat.reduceEqDiff,↓reduceIte,Int.reduceLT,Int.reduceLE,Int.reduceToNat,Int.reduceEq,Int.reduceNe,Nat.reduceAdd,Int.reduceAdd,Int.reduceSub,Int.reduceMul,Nat.reduceMul,Qp0,Qp1,Ql0,Qe0]
  generalize h.new pb ⟨[.int .i64 x.k, .int .i64 x.g, .int .i64 x.p, str x.t], 4⟩ = h1 at *
  simp -dsimp -implicitDefEqProofs (disch := first | omega | assumption | (simp only [Option.isSome_some,Qt0]; done) | (simp only [List.length_cons,List.length_nil,List.length_append,Int.toNat_natCast] <;> omega) | fail) only [Nat.reduceLT,Nat.reduceLeDiff,Nat.reduceEqDiff,↓reduceIte,Int.reduceLT,Int.reduceLE,Int.reduceToNat,Int.reduceEq,Int.reduceNe,Nat.reduceAdd,Int.reduceAdd,Int.reduceSub,Int.reduceMul,Nat.reduceMul,Qp0,Qp1,Ql0,Qe0,zAa,zAb,hp]
  refine Does_lit (vs := [.agg (itL (nI x.k) none 0).toArray, .agg (itL (nI x.g) none 0).toArray, .agg (itL (nI x.p) none 0).toArray, .agg (itL (tI x.t) none 0).toArray]) (sz := 5) (n := 4) el_it rfl rfl (by simp [cellsL, Value.cells, itL]) (by omega) (by omega) (fun lb hlb => ?_)
  have hl2 := (PH.Le.refl h1).new lb ⟨[.agg (itL (nI x.k) none 0).toArray, .agg (itL (nI x.g) none 0).toArray, .agg (itL (nI x.p) none 0).toArray, .agg (itL (tI x.t) none 0).toArray].flatMap cellsL, 4 * 5⟩ hlb
  have hm2 : (h1.new lb ⟨[.agg (itL (nI x.k) none 0).toArray, .agg (itL (nI x.g) none 0).toArray, .agg (itL (nI x.p) none 0).toArray, .agg (itL (tI x.t) none 0).toArray].flatMap cellsL, 4 * 5⟩).m lb = some ⟨[(nI x.k, none, 0), (nI x.g, none, 0), (nI x.p, none, 0), (tI x.t, none, 0)].flatMap fun p : It × Option Addr × Nat => itL p.1 p.2.1 p.2.2, 4 * 5⟩ := by rw [PH.new_m, if_pos rfl]; rfl
  generalize h1.new lb ⟨[.agg (itL (nI x.k) none 0).toArray, .agg (itL (nI x.g) none 0).toArray, .agg (itL (nI x.p) none 0).toArray, .agg (itL (tI x.t) none 0).toArray].flatMap cellsL, 4 * 5⟩ = h2 at *
  have hI := Items.lit (w0 := w0) _ hm2 (fun p hp => by
    simp only [List.mem_cons, List.not_mem_nil, or_false] at hp
    rcases hp with rfl | rfl | rfl | rfl
    all_goals
      simp only [tI, nI, List.length_nil]
      refine ⟨by omega, by omega, by omega, by omega, ?_⟩
      exact Rv.nil _ _ _)
  have hW := written_any w0 h2 _ 4 _ (by simp) hI
  have hch : writtenM [nI x.k, nI x.g, nI x.p, tI x.t] = (payload x, none) := by
    unfold writtenM
    simp only [List.foldl_cons, List.foldl_nil, step_t, step_n]
    exact zG0 hx
  simp only [List.map_cons, List.map_nil, List.length_cons, List.length_nil, Nat.zero_add, Nat.reduceAdd, hch] at hW
  have hW := Lib.hid hW
  simp -dsimp -implicitDefEqProofs (disch := first | omega | assumption | (simp only [Option.isSome_some,Qt0]; done) | (simp only [List.length_cons,List.length_nil,List.length_append,Int.toNat_natCast] <;> omega) | fail) only [Nat.reduceLT,Nat.reduceLeDiff,Nat.reduceEqDiff,↓reduceIte,Int.reduceLT,Int.reduceLE,Int.reduceToNat,Int.reduceEq,Int.reduceNe,Nat.reduceAdd,Int.reduceAdd,Int.reduceSub,Int.reduceMul,Nat.reduceMul,Qp0,Qp1,Ql0,Qe0]
  refine hW.out.mono ?_
  rintro v q ⟨hv, hl3⟩
  have hv : v = .tuple #[str (payload x), .int .i64 0, .int .i64 0] := by
    rw [hv]
    first | rw [hch] | (show wres (writtenM [nI x.k, nI x.g, nI x.p, tI x.t]) = _; rw [hch])
    rfl
  subst hv
  simp -dsimp -implicitDefEqProofs (disch := first | omega | assumption | (simp only [Option.isSome_some,Qt0]; done) | (simp only [List.length_cons,List.length_nil,List.length_append,Int.toNat_natCast] <;> omega) | fail) only [Nat.reduceLT,Nat.reduceLeDiff,Nat.reduceEqDiff,↓reduceIte,Int.reduceLT,Int.reduceLE,Int.reduceToNat,Int.reduceEq,Int.reduceNe,Nat.reduceAdd,Int.reduceAdd,Int.reduceSub,Int.reduceMul,Nat.reduceMul,Qp0,Qp1,Ql0,Qe0]
  refine (rseal_any (payload x) (by have := zDi hx; omega) w0 q).mono ?_
  rintro v q2 ⟨rfl, rfl⟩
  simp -dsimp -implicitDefEqProofs (disch := first | omega | assumption | (simp only [Option.isSome_some,Qt0]; done) | (simp only [List.length_cons,List.length_nil,List.length_append,Int.toNat_natCast] <;> omega) | fail) only [Nat.reduceLT,Nat.reduceLeDiff,Nat.reduceEqDiff,↓reduceIte,Int.reduceLT,Int.reduceLE,Int.reduceToNat,Int.reduceEq,Int.reduceNe,Nat.reduceAdd,Int.reduceAdd,Int.reduceSub,Int.reduceMul,Nat.reduceMul,Qp0,Qp1,Ql0,Qe0]
  exact ⟨_, PH.Le.refl _, by first | rfl | trivial, (hle.trans hl2).trans hl3⟩
end Go.Proofs.Ytblikpbaeippaaa


namespace Go.Proofs.Ytblikpbaeippaaa
set_option linter.unusedVariables false
set_option linter.unusedSimpArgs false
open Go.RowKit Px Wr
theorem numB_mono : ∀ (m n : Nat), n ≤ m → (numB n).length ≤ (numB m).length := by
  intro m
  induction m using Nat.strongRecOn with
  | _ m ih =>
    intro n h
    by_cases hm : m < 128
    · rw [zBx hm, zBx (by omega)]; simp
    · by_cases hn : n < 128
      · rw [zBx hn]
        have := numB_pos m
        simp only [List.length_cons, List.length_nil]; omega
      · rw [zCa hm, zCa hn]
        have := ih (m / 128) (by omega) (n / 128) (Nat.div_le_div_right h)
        simp only [List.length_cons]; omega
theorem mark_mono (g p q : Nat) (h : p ≤ q) : (sealP ⟨4, g, p, []⟩).length ≤ (sealP ⟨4, g, q, []⟩).length := by
  have := numB_mono q p h
  rw [zCm, zCm]
  unfold payload
  simp only [List.length_append]
  omega
theorem find_part : ∀ (ps : List Pt) (k : Nat), k < (flatP ps).length → ∃ pre x post, ps = pre ++ x :: post ∧ (flatP pre).length ≤ k ∧ k < (flatP pre).length + (sealP x).length
  | [], k, h => by simp [flatP] at h
  | y :: ps, k, h => by
    by_cases hk : k < (sealP y).length
    · exact ⟨[], y, ps, rfl, by simp [flatP], by simp [flatP]; exact hk⟩
    · rw [zBm, List.length_append] at h
      obtain ⟨pre, x, post, h1, h2, h3⟩ := find_part ps (k - (sealP y).length) (by omega)
      refine ⟨y :: pre, x, post, by rw [h1]; rfl, ?_, ?_⟩
      · rw [zBm, List.length_append]; omega
      · rw [zBm, List.length_append]; omega
theorem genP_pre {pre : List Pt} {x : Pt} {l : List Pt} : pre = [] ∨ genP pre = genP (pre ++ x :: l) := by
  cases pre with
  | nil => exact .inl rfl
  | cons y r => exact .inr rfl
theorem turned_scan {ps0 : List Pt} {m : Pt} (hk : AllOk (ps0 ++ [m])) (hm : m.p = (flatP ps0).length) {k : Nat} (hkl : k < (flatP ps0).length) {y : UInt8} (hy : (flatP (ps0 ++ [m]))[k]? ≠ some y) {ps' : List Pt} {c : Bool} (hs : ScanK ((flatP (ps0 ++ [m])).set k y) ps' c) :
    c = true ∧ (ps' = [] ∨ genP ps' = genP (ps0 ++ [m])) := by
  obtain ⟨pre, x, post, rfl, h2, h3⟩ := find_part ps0 k hkl
  have e1 : flatP (pre ++ x :: post ++ [m]) = flatP pre ++ (sealP x ++ (flatP post ++ sealP m)) := by
    simp only [zB0, zBm, zD7, List.append_assoc, List.append_nil]
  have hxk : x.Ok := hk x (by simp)
  have hpre : AllOk pre := fun z hz => hk z (by simp [hz])
  have e2 : (flatP (pre ++ x :: post ++ [m])).set k y = flatP pre ++ ((sealP x).set (k - (flatP pre).length) y ++ (flatP post ++ sealP m)) := by
    rw [e1, List.set_append_right _ _ h2, List.set_append_left _ _ (by omega)]
  have hyx : (sealP x)[k - (flatP pre).length]? ≠ some y := by
    rw [e1, List.getElem?_append_right h2, List.getElem?_append_left (by omega)] at hy
    exact hy
  have hno : openO ((sealP x).set (k - (flatP pre).length) y ++ (flatP post ++ sealP m)) 0 = none := turned_no (payload x) (flatP post ++ sealP m) (by have := zDi hxk; omega) _ (by show _ < (sealP x).length; omega) y hyx
  have hp0 : partAt ((sealP x).set (k - (flatP pre).length) y ++ (flatP post ++ sealP m)) 0 = none := by
    unfold partAt
    show (match openO ((sealP x).set (k - (flatP pre).length) y ++ (flatP post ++ sealP m)) 0 with | none => none | some (t, n) => (partP t).map fun x => (x, n)) = none
    rw [hno]
  have hscan : Scan ((flatP (pre ++ x :: post ++ [m])).set k y) pre := ⟨hpre, _, e2, fun z hz r => by
    have := zI4 hp0 hz r
    rwa [List.drop_zero] at this⟩
  obtain rfl := hs.1.one hscan
  refine ⟨hs.2.2 ⟨(flatP (ps' ++ x :: post)).length, m, (flatP (ps' ++ x :: post)).length + (sealP m).length, ?_, ?_, ?_⟩, ?_⟩
  · rw [zB0, zBm, List.length_append, List.length_append]
    have := zCi x; omega
  · refine zDx (r := []) (hk m (by simp)) ?_
    rw [e2, List.append_nil]
    have e3 : flatP ps' ++ ((sealP x).set (k - (flatP ps').length) y ++ (flatP post ++ sealP m)) = (flatP ps' ++ ((sealP x).set (k - (flatP ps').length) y ++ flatP post)) ++ sealP m := by simp only [List.append_assoc]
    rw [e3, List.drop_left' ]
    rw [zB0, zBm]
    simp only [List.length_append, List.length_set]
  · rw [hm, zB0, zBm, List.length_append, List.length_append]
    have := zCi x; omega
  · rw [List.append_assoc]; exact genP_pre
theorem rot_good {d : Dk} (g : Good d) (n : Int) (x : UInt8) : Good (d.rot n x).1 := by
  unfold Dk.rot
  split
  · exact g
  · exact ⟨g.safe0, by show d.safe ≤ ((d.l.set n.toNat _).length : Nat); rw [List.length_set]; exact g.safe1, by show (d.l.set n.toNat _).length ≤ _; rw [List.length_set]; exact g.len, g.room0, g.room1, g.fuse⟩
theorem xor_ne {a x : UInt8} (h : x ≠ 0) : a ^^^ x ≠ a := fun e => h (by
  have h1 : a ^^^ (a ^^^ x) = a ^^^ a := by rw [e]
  rw [← UInt8.xor_assoc, UInt8.xor_self, UInt8.zero_xor] at h1
  exact h1)
theorem rot_turned {d : Dk} {g : Nat} {l : List (List UInt8)} {ps : List Pt} (p : Pres d g l ps) {k : Nat} {x : UInt8} (hx : x ≠ 0) (hk : k < (flatP ps).length) : d.rot k x = ({ d with l := (flatP ps).set k ((flatP ps).getD k 0 ^^^ x) }, true) ∧ (flatP ps)[k]? ≠ some ((flatP ps).getD k 0 ^^^ x) := by
  constructor
  · unfold Dk.rot
    rw [if_neg, p.clean.txt, Int.toNat_natCast]
    rw [p.clean.up, p.clean.safe]
    rintro (h | h | h | h)
    · cases h
    · omega
    · omega
    · exact hx h
  · rw [List.getD, List.getElem?_eq_getElem hk]
    intro e
    injection e with e
    exact xor_ne hx e.symm
theorem open_turnedL {d db da' db' : Dk} {g g' : Nat} {l l' : List (List UInt8)} {ps : List Pt} {e : Option Int} {sw : Bool} {t : List UInt8} (p : Pres d g l ps) (hb : db.down = false) (ho : Old db.l g)
    (ht : ∀ ps' c, ScanK t ps' c → c = true ∧ (ps' = [] ∨ genP ps' = genP ps)) (h : OpenR { d with l := t } db da' db' e sw g' l') : e = some 6 := by
  obtain ⟨qs0, hq, hqn, hqg⟩ := ho
  have key : ∀ {ps' qs cx cy}, ScanK t ps' cx → ScanK db.l qs cy → badC cx cy ps' qs = false → False := fun {ps' qs cx cy} hx hy hbc => by
    obtain ⟨rfl, hg⟩ := ht _ _ hx
    obtain rfl := zCy hy hq
    unfold badC at hbc
    rw [Bool.or_eq_false_iff] at hbc
    have h1 := hbc.1
    unfold badX at h1
    simp only [Bool.true_and, Bool.not_eq_false', Bool.and_eq_true, decide_eq_true_eq] at h1
    obtain ⟨⟨h2, h3⟩, h4⟩ := h1
    unfold wh at h3
    simp only [Bool.and_eq_true] at h3
    have h5 := hqg h3.2
    rcases hg with rfl | hg
    · exact absurd h2 (by simp [genP])
    · rw [hg, p.gen] at h4; omega
  cases h with
  | down h => rcases h with h | h
              · have : d.down = true := h
                rw [p.clean.up] at this; cases this
              · rw [hb] at h; cases h
  | corrupt ps' qs cx cy hu hx hy hbc => rfl
  | anew ps' qs cx cy hu hx hy hbc h1 h2 => exact (key hx hy hbc).elim
  | left ps' qs cx cy hu hx hy hbc hw hsw ht => exact (key hx hy hbc).elim
  | right ps' qs cx cy hu hx hy hbc hw hsw ht => exact (key hx hy hbc).elim
theorem open_turnedR {d db da' db' : Dk} {g g' : Nat} {l l' : List (List UInt8)} {ps : List Pt} {e : Option Int} {sw : Bool} {t : List UInt8} (p : Pres d g l ps) (hb : db.down = false) (ho : Old db.l g)
    (ht : ∀ ps' c, ScanK t ps' c → c = true ∧ (ps' = [] ∨ genP ps' = genP ps)) (h : OpenR db { d with l := t } da' db' e sw g' l') : e = some 6 := by
  obtain ⟨qs0, hq, hqn, hqg⟩ := ho
  have key : ∀ {ps' qs cx cy}, ScanK db.l qs cy → ScanK t ps' cx → badC cy cx qs ps' = false → False := fun {ps' qs cx cy} hy hx hbc => by
    obtain ⟨rfl, hg⟩ := ht _ _ hx
    obtain rfl := zCy hy hq
    unfold badC at hbc
    rw [Bool.or_eq_false_iff] at hbc
    have h1 := hbc.2
    unfold badX at h1
    simp only [Bool.true_and, Bool.not_eq_false', Bool.and_eq_true, decide_eq_true_eq] at h1
    obtain ⟨⟨h2, h3⟩, h4⟩ := h1
    unfold wh at h3
    simp only [Bool.and_eq_true] at h3
    have h5 := hqg h3.2
    rcases hg with rfl | hg
    · exact absurd h2 (by simp [genP])
    · rw [hg, p.gen] at h4; omega
  cases h with
  | down h => rcases h with h | h
              · rw [hb] at h; cases h
              · have : d.down = true := h
                rw [p.clean.up] at this; cases this
  | corrupt ps' qs cx cy hu hx hy hbc => rfl
  | anew ps' qs cx cy hu hx hy hbc h1 h2 => exact (key hx hy hbc).elim
  | left ps' qs cx cy hu hx hy hbc hw hsw ht => exact (key hx hy hbc).elim
  | right ps' qs cx cy hu hx hy hbc hw hsw ht => exact (key hx hy hbc).elim
theorem zH7 {d : Dk} {g : Nat} {l : List (List UInt8)} {ps : List Pt} (p : Pres d g l ps) {k : Nat} {x : UInt8} (hx : x ≠ 0) (hk : k + (sealP ⟨4, g, (flatP ps).length, []⟩).length < (flatP ps).length) :
    ∃ t, d.rot k x = ({ d with l := t }, true) ∧ ∀ ps' c, ScanK t ps' c → c = true ∧ (ps' = [] ∨ genP ps' = genP ps) := by
  obtain ⟨h1, h2⟩ := rot_turned p hx (k := k) (by omega)
  refine ⟨_, h1, fun ps' c hs => ?_⟩
  obtain ⟨ps0, he⟩ := p.last
  have hok := p.ok
  have hlen : (flatP ps).length = (flatP ps0).length + (sealP ⟨4, g, (flatP ps0).length, []⟩).length := by
    rw [he, zB0, zBm, zD7, List.append_nil, List.length_append]
  have hm := mark_mono g (flatP ps0).length (flatP ps).length (by omega)
  rw [he] at hs h2 hok
  rw [he]
  exact turned_scan hok rfl (by omega) h2 hs
end Go.Proofs.Ytblikpbaeippaaa

