/- The logic's rules for numbers' bits, for texts appended to rows, and for appending to a row that is full. No condition. -/
import Derived.Test.YtcjojkhieocehaaDoorPd
namespace Go.Proofs.YtcjojkhieocehaaDoor.Px
set_option linter.unusedVariables false
set_option linter.unusedSimpArgs false
open Go.RowKit
section
variable {P : Program} {t : TypeId} {x y : Operand} {K : Value → Prop}
theorem y_shrI (a : Int) (n : UInt64) (h1 : n.toNat < 64) (h0 : 0 ≤ a) : Yld P (binS .shr t x y (.int .i64 a) (u64 n)) K = K (.int .i64 (a / 2 ^ n.toNat)) := Yld_eq fun w => by
  unfold u64; rw [binS_shift (.inr rfl)]
  simp only [binOp]
  have hn : min ((n.toNat : Int)).toNat IntKind.i64.bits = n.toNat := by
    rw [Int.toNat_natCast]; simp [IntKind.bits]; omega
  unfold Op.shift
  rw [if_neg (by omega), hn]
  simp only [Sem.run_pure]
  rw [Int.fdiv_eq_ediv_of_nonneg _ (Int.pow_nonneg (by omega))]
theorem y_shlI (a : Int) (n : UInt64) (h1 : n.toNat < 64) (h0 : 0 ≤ a) (h2 : a * 2 ^ n.toNat ≤ 9223372036854775807) : Yld P (binS .shl t x y (.int .i64 a) (u64 n)) K = K (.int .i64 (a * 2 ^ n.toNat)) := Yld_eq fun w => by
  unfold u64; rw [binS_shift (.inl rfl)]
  simp only [binOp]
  have hn : min ((n.toNat : Int)).toNat IntKind.i64.bits = n.toNat := by
    rw [Int.toNat_natCast]; simp [IntKind.bits]; omega
  unfold Op.shift
  rw [if_neg (by omega), hn]
  simp only [Sem.run_pure]
  have hp : (0 : Int) ≤ a * 2 ^ n.toNat := Int.mul_nonneg h0 (Int.pow_nonneg (by omega))
  rw [wrap_in _ (by omega) h2]
theorem bits_i64 (a b : Nat) (ha : a < 9223372036854775808) (hb : b < 9223372036854775808) : bits .or .i64 (a : Int) (b : Int) = ((a ||| b : Nat) : Int) := by
  have hx : a ||| b < 2 ^ 63 := Nat.or_lt_two_pow (by omega) (by omega)
  have h1 : (BitVec.ofInt 64 (a : Int)).toNat = a := by
    rw [BitVec.ofInt_natCast, BitVec.toNat_ofNat]; exact Nat.mod_eq_of_lt (by omega)
  have h2 : (BitVec.ofInt 64 (b : Int)).toNat = b := by
    rw [BitVec.ofInt_natCast, BitVec.toNat_ofNat]; exact Nat.mod_eq_of_lt (by omega)
  show IntKind.i64.wrap ((BitVec.ofInt 64 (a : Int) ||| BitVec.ofInt 64 (b : Int)).toNat : Int) = _
  rw [BitVec.toNat_or, h1, h2, wrap_in _ (by omega) (by omega)]
theorem y_orI (a b : Int) (h0 : 0 ≤ a) (h1 : 0 ≤ b) (h2 : a ≤ 9223372036854775807) (h3 : b ≤ 9223372036854775807) : Yld P (binS .or t x y (.int .i64 a) (.int .i64 b)) K = K (.int .i64 ((a.toNat ||| b.toNat : Nat) : Int)) := Yld_eq fun w => by
  obtain ⟨a, rfl⟩ := Int.eq_ofNat_of_zero_le h0
  obtain ⟨b, rfl⟩ := Int.eq_ofNat_of_zero_le h1
  rw [binS_int]; simp only [binOp, Op.intBits, ne_eq, not_true_eq_false, if_false]; exact congrArg (fun z => Result.ok (Value.int .i64 z) w) (bits_i64 a b (by omega) (by omega))
theorem y_andNot8 (a b : UInt8) : Yld P (binS .andNot t x y (u8 a) (u8 b)) K = K (u8 (a &&& ~~~b)) := Yld_eq fun w => by
  unfold u8; rw [binS_int]; simp only [binOp, Op.intBits, ofInt8, ne_eq, not_true_eq_false, if_false]; exact congrArg (fun z => Result.ok (Value.int .u8 z) w) (back8 (a &&& ~~~b))
end
section
variable {P : Program} {w0 : World} {h : PH} {t u e ty : TypeId} {z : Value} {sz by_ : Nat} {K : Value → PH → Prop}
/-- Appending to a row that has no room: all goes into a new block. -/
theorem Does_grow {n cp m c : Nat} {a : Addr} {A : Option Addr} {xs ys : List Value} (hE : El P t e z sz by_) (hx : rdN w0 h a (n * sz) = some xs) (hs : Rs w0 h sz A m ys) (hm : 0 < m) (hcp : cp < n + m) (hsz : n + m ≤ maxLen) (hb : (n + m) * by_ ≤ 140737488355328)
    (hk : ∀ b' c', h.top ≤ b' → n + m ≤ c' → c' ≤ maxLen → K (.slice (some ⟨b', 0, none⟩) (n + m) c') (h.new b' ⟨xs ++ ys, c' * sz⟩)) : Does P w0 h (Builtin.append_ #[t, t] ty #[.slice (some a) n cp, .slice A m c]) K := by
  intro w s
  obtain ⟨i, hi, hz, hsi, hby⟩ := hE.info
  obtain ⟨aa, rfl, hrd⟩ := hs.2 hm
  obtain ⟨hl, hc⟩ := rdN_sound s hrd
  obtain ⟨hl0, hc0⟩ := rdN_sound s hx
  obtain ⟨v', w', hr, ho', hg⟩ := run_append_arg_grows (P := P) w t ty e i z sz by_ hE.under hi hz hsi hby hE.zero hE.pos a n cp xs hl0 hc0 aa m c ys hl hc hcp hsz hb
  obtain ⟨b', c', rfl, g1, g2, g3, g4⟩ := Own.ofRow ho' (by omega)
  exact ⟨_, w', h.new b' ⟨xs ++ ys, c' * sz⟩, hr, hk _ _ (Nat.le_trans s.top g3) g1 g2, (s.step (row := none) hg (fun _ e => by cases e)).put (Nat.le_trans s.base g3) g4⟩
theorem cells_str (l : List UInt8) : Lib.strCells ⟨l.toArray⟩ = bs l := by simp [Lib.strCells, bs, u8]
/-- What a new block holds that a text was appended into. -/
theorem BSat_grown {w : World} {e : TypeId} {xs : List Value} {l : List UInt8} {c : Nat} (hc : xs.length + l.length ≤ c) :
    BSat (w.drew.alloc (.cells (xs.toArray ++ (bs l).toArray ++ Builtin.zeroCells (Value.int .u8 0).cells (c - (xs.length + l.length))) e)) w.heap.size ⟨xs ++ bs l, c⟩ := by
  have hz1 : (Value.int IntKind.u8 0).cells.size = 1 := rfl
  refine ⟨_, e, _, _, heap_alloc_new w.drew _, ?_, .inl (Nat.le_refl _), ?_, ?_⟩
  · simp only [Array.size_append, List.size_toArray, size_zeroCells, hz1, bs_length]; omega
  · simp only [List.length_append, bs_length]; exact hc
  · simp only [Array.toList_append, List.toList_toArray]
    exact List.take_left
theorem Does_growT {n cp : Nat} {a : Addr} {xs : List Value} {l : List UInt8} (hE : El P t e (.int .u8 0) 1 1) (hu : P.underlying u = some .string) (hx : rdN w0 h a n = some xs) (hcp : cp < n + l.length) (hsz : n + l.length ≤ 1000000000)
    (hk : ∀ b' c', h.top ≤ b' → n + l.length ≤ c' → c' ≤ maxLen → K (.slice (some ⟨b', 0, none⟩) (n + l.length) c') (h.new b' ⟨xs ++ bs l, c'⟩)) : Does P w0 h (Builtin.append_ #[t, u] ty #[.slice (some a) n cp, str l]) K := by
  intro w s
  obtain ⟨i, hi, hz, hsi, hby⟩ := hE.info
  obtain ⟨hl0, hc0⟩ := rdN_sound s hx
  have hr := Lib.run_append_grow_string (P := P) w t u ty e i (.int .u8 0) hE.under hu hi hz a n cp xs (by rw [hsi, Nat.mul_one]; exact hl0) hc0 ⟨l.toArray⟩ (by rw [size_mk]; omega) (by rw [size_mk]; omega) (by rw [size_mk, hby]; exact growslice_fits hcp (by omega))
  rw [size_mk, cells_str] at hr
  have hge := grownCap_ge w (n + l.length) cp e
  have hcm := grownCap_le_maxLen w (n + l.length) cp e (by unfold maxLen; omega)
  have hB := BSat_grown (w := w) (e := e) (xs := xs) (l := l) (c := grownCap w (n + l.length) cp e) (by omega)
  rw [hl0] at hB
  exact ⟨_, _, h.new w.heap.size ⟨xs ++ bs l, grownCap w (n + l.length) cp e⟩, hr, hk _ _ s.top hge hcm, (s.drew.step (row := none) (grownBy_alloc w.drew _ none) (fun _ e => by cases e)).put s.base hB⟩
/-- A text appended to a row of the call's own. -/
theorem Does_appT {v : Value} {n : Nat} {xs : List Value} {l : List UInt8} (hE : El P t e (.int .u8 0) 1 1) (hu : P.underlying u = some .string) (ho : Own h 1 v n xs) (hsz : n + l.length ≤ 1000000000)
    (hk : ∀ v' h', Own h' 1 v' (n + l.length) (xs ++ bs l) → Stays h h' v v' → PH.Sub w0 h h' → K v' h') : Does P w0 h (Builtin.append_ #[t, u] ty #[v, str l]) K := by
  have hsz' : n + l.length ≤ maxLen := by unfold maxLen; omega
  rcases ho.2 with ⟨rfl, rfl⟩ | ⟨b, cp, rfl, hnc, hcm, hbk⟩
  · have hxs : xs = [] := List.eq_nil_of_length_eq_zero (by simpa using ho.1)
    subst hxs
    intro w s
    obtain ⟨i, hi, hz, hsi, hby⟩ := hE.info
    obtain ⟨v', w', hr, ho', hg, hn⟩ := Lib.run_append_own_string (P := P) w w.heap.size t u ty e i hE.under hu hi hz hsi hby (.slice none 0 0) 0 [] (World.ownsRow_nil _ _ _ _) ⟨l.toArray⟩ (by rw [size_mk]; exact hsz') (by rw [size_mk]; omega) (Nat.le_refl _)
    rw [size_mk, cells_str] at ho'
    rcases Nat.eq_zero_or_pos l.length with h0 | h0
    · have hl : l = [] := List.eq_nil_of_length_eq_zero h0
      subst hl
      obtain rfl := hn.2 ⟨rfl, rfl⟩
      refine ⟨_, w', h, hr, hk _ h (by simpa [bs] using Own.nil h 1) ⟨Nat.le_refl _, fun _ _ e _ => e, fun _ e => .inl e⟩ (PH.Le.refl h).sub, ?_⟩
      have := (s.step (row := none) hg (fun _ e => by cases e))
      exact this
    · obtain ⟨b', c', rfl, g1, g2, g3, g4⟩ := Own.ofRow ho' (by omega)
      refine ⟨_, w', h.new b' ⟨[] ++ bs l, c' * 1⟩, hr, hk _ _ ⟨by simp [bs_length], .inr ⟨b', c', rfl, g1, g2, by simp [PH.new_m]⟩⟩ ⟨by simp only [PH.new_top]; omega, fun x k e _ => ?_, fun x e => ?_⟩ ((PH.Le.refl h).new _ _ (Nat.le_trans s.top g3)).sub, (s.step (row := none) hg (fun _ e => by cases e)).put (Nat.le_trans s.base g3) g4⟩
      · rw [PH.new_m, if_neg (by have := h.lt x k e; have := s.top; omega)]; exact e
      · injection e with e; right; rw [← e]; exact Nat.le_trans s.top g3
  · have hlx : xs.length = n := by simpa using ho.1
    by_cases hroom : n + l.length ≤ cp
    · intro w s
      obtain ⟨i, hi, hz, hsi, hby⟩ := hE.info
      obtain ⟨q1, cur, ct, lo, hi', q2, q3, q4, q5, q6⟩ := s.sat b _ hbk
      simp only at q3 q4 q5 q6
      have hbl := bs_length l
      have hf := Lib.run_firstCells_string (P := P) w 1 ⟨l.toArray⟩
      rw [cells_str, size_mk] at hf
      have hst := run_storeCells_cells (P := P) b n (bs l) 0 w (fun j hj => by
          rw [cell_of_row w b _ cur ct _ q2, Array.getElem?_eq_getElem (by omega)]; rfl) (fun j hj => by
          simp [World.frozen?, q2]; omega) (by
        intro v hv
        obtain ⟨x, _, rfl⟩ := List.mem_map.1 hv
        rfl)
      have hrun : (Builtin.append_ #[t, u] ty #[.slice (some ⟨b, 0, none⟩) n cp, str l]).run P w = .ok (.slice (some ⟨b, 0, none⟩) (n + l.length) cp) (w.setCells b (n + 0) (bs l)) := by
        unfold str
        simp [Builtin.append_, run_underlying hE.under, run_underlying hu, sizeOf, typeInfo, hi, hsi, Builtin.lenOf, size_mk, hroom, hf, Addr.add_mid, hst]
      rw [Nat.add_zero] at hrun
      have hh := setCells_heap_any (w := w) (b := b) (t := ct) (fz := (lo, hi')) (cs := cur.toList) (bs l) n (by simpa using q2) (by simp; omega)
      have hlen : (xs ++ bs l).length = n + l.length := by rw [List.length_append, hlx, hbl]
      refine ⟨_, _, (h.del b).new b ⟨xs ++ bs l, cp * 1⟩, hrun, hk _ _ ⟨by rw [hlen, Nat.mul_one], .inr ⟨b, cp, rfl, hroom, hcm, by simp [PH.new_m]⟩⟩ ⟨by simp only [PH.new_top, PH.del_top]; omega, fun x k e hx => ?_, fun x e => .inl e⟩ (PH.sub_in h b _ xs _ hbk), ?_⟩
      · have hxb : x ≠ b := fun e' => hx (by rw [e']; rfl)
        rw [PH.new_m, if_neg hxb, PH.del_m, if_neg hxb]; exact e
      · refine ((s.del b).step (row := some b) (grownBy_setCells b (bs l) n w) (fun x e => ?_)).put q1 ⟨_, ct, lo, hi', by simpa using hh, ?_, q4, ?_, ?_⟩
        · injection e with e; subst e; exact ⟨q1, by simp [PH.del_m]⟩
        · simp; omega
        · simp only; rw [hlen]; omega
        · simp only
          have e1 : cur.toList.take n = xs := by rw [← hlx]; exact q6
          have e2 := List.take_left (l₁ := cur.toList.take n ++ bs l) (l₂ := cur.toList.drop (n + (bs l).length))
          rw [e1] at e2
          rw [List.toList_toArray, e1]
          simpa [List.append_assoc] using e2
    · refine Does_growT hE hu (rdN_known hbk hlx) (by omega) hsz fun b' c' g1 g2 g3 => ?_
      refine hk _ _ ⟨by rw [List.length_append, hlx, bs_length, Nat.mul_one], .inr ⟨b', c', rfl, g2, g3, by simp [PH.new_m]⟩⟩ ⟨by simp only [PH.new_top]; omega, fun x k e _ => ?_, fun x e => ?_⟩ ((PH.Le.refl h).new _ _ g1).sub
      · rw [PH.new_m, if_neg (by have := h.lt x k e; omega)]; exact e
      · injection e with e; right; rw [← e]; exact g1
end
end Go.Proofs.YtcjojkhieocehaaDoor.Px
