/- The reference's Open: its letters, and its walk. No condition. -/
import Derived.Test.YtpdcbkleolciiaaDoorFrG
import Derived.Test.YtpdcbkleolciiaaDoorFrP
import Derived.Test.YtpdcbkleolciiaaDoorPt
namespace Go.Proofs.YtpdcbkleolciiaaDoor
set_option linter.unusedVariables false
set_option linter.unusedSimpArgs false
open Go.RowKit Px Fm
/-- The bytes of the letters that a text begins with. -/
def lets : List UInt8 → List UInt8
  | x :: y :: t => if lettered x = true ∧ lettered y = true then (x <<< 4 ||| y &&& 15) :: lets t else []
  | _ => []
theorem lets_enc : ∀ (r t : List UInt8), lets (enc r ++ t) = r ++ lets t
  | [], t => rfl
  | c :: r, t => by
    rw [enc_cons, List.cons_append, List.cons_append, lets, if_pos ⟨hi_letter c, lo_letter c⟩, two_back, lets_enc r t]
    rfl
theorem enc_lets : ∀ (n : Nat) (l : List UInt8), l.length ≤ n → ∃ t, l = enc (lets l) ++ t
  | _, [], _ => ⟨[], rfl⟩
  | _, [x], _ => ⟨[x], rfl⟩
  | 0, _ :: _ :: _, h => by simp at h
  | n + 1, x :: y :: t, h => by
    unfold lets
    by_cases hx : lettered x = true ∧ lettered y = true
    · obtain ⟨t2, ht2⟩ := enc_lets n t (by simp at h; omega)
      rw [if_pos hx]
      refine ⟨t2, ?_⟩
      have := two_of x y hx.1 hx.2
      have he : enc ((x <<< 4 ||| y &&& 15) :: lets t) = two (x <<< 4 ||| y &&& 15) ++ enc (lets t) := rfl
      rw [he, this]
      simp [← ht2]
    · rw [if_neg hx]
      exact ⟨_, rfl⟩
theorem enc_drop (R : List UInt8) (n : Nat) : enc R = enc (R.take n) ++ enc (R.drop n) := by rw [← enc_append, List.take_append_drop]
/-- What the reference makes of the bytes is what the code makes of the text. -/
theorem open_no1 {s : List UInt8} {a : Nat} (h : (lets (s.drop a)).length < 10) : openL s a = none := by
  cases e : openL s a with
  | none => rfl
  | some q =>
    obtain ⟨h1, h2, t, ht⟩ := open_some s a q.1 q.2 e
    rw [ht, lets_enc, List.length_append, raw_length] at h
    omega
theorem open_val {s : List UInt8} {a : Nat} {p : List UInt8} {k : Nat} (e : openL s a = some (p, k)) : p.length ≤ 8192 ∧ k = a + 2 * (p.length + 10) ∧ ∃ t, lets (s.drop a) = raw p ++ t := by
  obtain ⟨h1, h2, t, ht⟩ := open_some s a p k e
  exact ⟨h1, h2, lets t, by rw [ht, lets_enc]⟩
theorem num_raw (p t : List UInt8) (hp : p.length ≤ 8192) : ((raw p ++ t).getD 0 0).toNat * 256 + ((raw p ++ t).getD 1 0).toNat = p.length := head_num p.length hp
theorem pay_raw (p t : List UInt8) : ((raw p ++ t).drop 6).take p.length = p := by
  have hl := raw_length p
  have e : raw p = (head p.length ++ four (sum (head p.length))) ++ (p ++ four (sum (head p.length ++ p))) := by unfold raw; simp [List.append_assoc]
  rw [e, List.append_assoc]
  have h6 : (head p.length ++ four (sum (head p.length))).length = 6 := rfl
  rw [List.drop_append_of_le_length (by omega), List.drop_of_length_le (by omega)]
  simp [List.append_assoc]
theorem open_no2 {s : List UInt8} {a n : Nat} (hn : ((lets (s.drop a)).getD 0 0).toNat * 256 + ((lets (s.drop a)).getD 1 0).toNat = n) (h : 8192 < n ∨ (lets (s.drop a)).length < n + 10) : openL s a = none := by
  cases e : openL s a with
  | none => rfl
  | some q =>
    obtain ⟨h1, h2, t, ht⟩ := open_val (p := q.1) (k := q.2) e
    rw [ht, num_raw _ _ h1] at hn
    rw [ht, List.length_append, raw_length] at h
    omega
theorem open_yes {s : List UInt8} {a n : Nat} (h1 : n ≤ 8192) (h2 : n + 10 ≤ (lets (s.drop a)).length) (h : raw (((lets (s.drop a)).drop 6).take n) = (lets (s.drop a)).take (10 + n)) : openL s a = some (((lets (s.drop a)).drop 6).take n, a + 2 * (10 + n)) := by
  obtain ⟨t, ht⟩ := enc_lets _ (s.drop a) (Nat.le_refl _)
  have hl : (((lets (s.drop a)).drop 6).take n).length = n := by rw [List.length_take, List.length_drop]; omega
  have := open_frame s a (((lets (s.drop a)).drop 6).take n) (enc ((lets (s.drop a)).drop (10 + n)) ++ t) (by omega) (by rw [h, ← List.append_assoc, ← enc_drop]; exact ht)
  rw [this, hl, show n + 10 = 10 + n by omega]
theorem open_no3 {s : List UInt8} {a n : Nat} (hn : ((lets (s.drop a)).getD 0 0).toNat * 256 + ((lets (s.drop a)).getD 1 0).toNat = n) (h : raw (((lets (s.drop a)).drop 6).take n) ≠ (lets (s.drop a)).take (10 + n)) : openL s a = none := by
  cases e : openL s a with
  | none => rfl
  | some q =>
    obtain ⟨h1, h2, t, ht⟩ := open_val (p := q.1) (k := q.2) e
    rw [ht] at hn h
    rw [num_raw _ _ h1] at hn
    subst hn
    refine absurd ?_ h
    rw [pay_raw, List.take_append_of_le_length (by rw [raw_length]; omega), List.take_of_length_le (by rw [raw_length]; omega)]
theorem letter_num (x : UInt8) : lettered x = (decide (¬ (x.toNat : Int) - 64 < 0) && decide (¬ 15 < (x.toNat : Int) - 64)) := all8 (p := fun x => lettered x = (decide (¬ (x.toNat : Int) - 64 < 0) && decide (¬ 15 < (x.toNat : Int) - 64))) (by decide +kernel) x
theorem byte_num (x y : UInt8) (hx : lettered x = true) (hy : lettered y = true) : UInt8.ofInt (16 * ((x.toNat : Int) - 64) + ((y.toNat : Int) - 64)) = x <<< 4 ||| y &&& 15 := by
  have key : ∀ i : Fin 16, ∀ j : Fin 16, UInt8.ofInt (16 * (i.val : Int) + (j.val : Int)) = UInt8.ofNat (64 + i.val) <<< 4 ||| UInt8.ofNat (64 + j.val) &&& 15 := by decide +kernel
  rw [letter_num] at hx hy
  simp only [Bool.and_eq_true, decide_eq_true_eq] at hx hy
  have h := key ⟨x.toNat - 64, by omega⟩ ⟨y.toNat - 64, by omega⟩
  simp only at h
  rw [show ((x.toNat - 64 : Nat) : Int) = (x.toNat : Int) - 64 by omega, show ((y.toNat - 64 : Nat) : Int) = (y.toNat : Int) - 64 by omega, show 64 + (x.toNat - 64) = x.toNat by omega, show 64 + (y.toNat - 64) = y.toNat by omega] at h
  rw [h]
  simp
theorem lets_step {s : List UInt8} {i : Nat} (h : i + 1 < s.length) : lets (s.drop i) = if lettered (s.getD i 0) = true ∧ lettered (s.getD (i + 1) 0) = true then (s.getD i 0 <<< 4 ||| s.getD (i + 1) 0 &&& 15) :: lets (s.drop (i + 2)) else [] := by
  have h1 : s.drop i = s.getD i 0 :: s.getD (i + 1) 0 :: s.drop (i + 2) := by
    rw [List.drop_eq_getElem_cons (show i < s.length by omega), List.drop_eq_getElem_cons h]
    simp [List.getD, List.getElem?_eq_getElem h, List.getElem?_eq_getElem (show i < s.length by omega)]
  rw [h1, lets]
theorem lets_end {s : List UInt8} {i : Nat} (h : s.length ≤ i + 1) : lets (s.drop i) = [] := by
  have hl : (s.drop i).length ≤ 1 := by rw [List.length_drop]; omega
  match e : s.drop i with
  | [] => rfl
  | [x] => rfl
  | _ :: _ :: _ => rw [e] at hl; simp at hl
theorem lets_len : ∀ (n : Nat) (l : List UInt8), l.length ≤ n → 2 * (lets l).length ≤ l.length := fun n l h => by
  obtain ⟨t, ht⟩ := enc_lets n l h
  have := congrArg List.length ht
  rw [List.length_append, enc_length] at this
  omega
def RO (s : List UInt8) (a : Int) (v : Value) : Prop := match openO s a with
  | some (p, k) => v = .tuple #[str p, .int .i64 k, .bool true]
  | none => v = .tuple #[str [], .int .i64 a, .bool false]
theorem RO_no {s : List UInt8} {a : Int} {v : Value} (h : openO s a = none) (hv : v = .tuple #[str [], .int .i64 a, .bool false]) : RO s a v := by unfold RO; rw [h]; exact hv
theorem RO_yes {s : List UInt8} {a : Int} {v : Value} {p : List UInt8} {k : Nat} (h : openO s a = some (p, k)) (hv : v = .tuple #[str p, .int .i64 k, .bool true]) : RO s a v := by unfold RO; rw [h]; exact hv
theorem RO_some {s : List UInt8} {a : Int} {v : Value} {p : List UInt8} {k : Nat} (h : openO s a = some (p, k)) (hv : RO s a v) : v = .tuple #[str p, .int .i64 k, .bool true] := by unfold RO at hv; rw [h] at hv; exact hv
theorem RO_none {s : List UInt8} {a : Int} {v : Value} (h : openO s a = none) (hv : RO s a v) : v = .tuple #[str [], .int .i64 a, .bool false] := by unfold RO at hv; rw [h] at hv; exact hv
set_option maxRecDepth 20000 in
set_option maxHeartbeats 4000000 in
theorem ropen_any (s : List UInt8) (a : Int) (hs : s.length ≤ 5000) (w0 : World) (h : PH) : PCalls Tryd.prog w0 11 [str s, .int .i64 a] h fun v h' => RO s a v ∧ h' = h := by
  refine PCalls_body Tryd.func11 (by kernel_rfl) rfl _ Tryd.ntmps11 (by kernel_rfl) (by kernel_rfl) _ Tryd.results11 ?_
  by_cases h1 : a < 0
  · have d1 := decide_eq_true h1
    have ho : openO s a = none := by unfold openO; rw [if_neg (by omega)]
    simp -dsimp -implicitDefEqProofs (disch := first | omega | assumption | (simp only [Option.isSome_some, Qt0]; done) | (simp only [UInt64.reduceToNat, UInt32.reduceToNat, UInt8.reduceToNat, List.length_cons, List.length_nil, List.length_append, Int.toNat_natCast] <;> omega)) only [Nat.reduceLT, Nat.reduceLeDiff, Nat.reduceEqDiff, ↓reduceIte, Int.reduceLT, Int.reduceLE, Int.reduceToNat, Int.reduceEq, Int.reduceNe, Nat.reduceAdd, UInt8.reduceOfNat, UInt16.reduceOfNat, UInt32.reduceOfNat, UInt64.reduceOfNat, UInt64.reduceToNat, UInt32.reduceToNat, UInt16.reduceToNat, UInt8.reduceToNat, Int.reduceAdd, Int.reduceSub, Int.reduceMul, Nat.reduceMul, Qp0, Ql0, Qe0, d1]
    exact ⟨_, PH.Le.refl _, RO_no ho rfl, rfl⟩
  have d1 := decide_eq_false h1
  obtain ⟨j, rfl⟩ := Int.eq_ofNat_of_zero_le (show 0 ≤ a by omega)
  by_cases h2 : (s.length : Int) ≤ (j : Int)
  · have d2 := decide_eq_true h2
    have ho : openO s j = none := by unfold openO; rw [if_neg (by omega)]
    simp -dsimp -implicitDefEqProofs (disch := first | omega | assumption | (simp only [Option.isSome_some, Qt0]; done) | (simp only [UInt64.reduceToNat, UInt32.reduceToNat, UInt8.reduceToNat, List.length_cons, List.length_nil, List.length_append, Int.toNat_natCast] <;> omega)) only [Nat.reduceLT, Nat.reduceLeDiff, Nat.reduceEqDiff, ↓reduceIte, Int.reduceLT, Int.reduceLE, Int.reduceToNat, Int.reduceEq, Int.reduceNe, Nat.reduceAdd, UInt8.reduceOfNat, UInt16.reduceOfNat, UInt32.reduceOfNat, UInt64.reduceOfNat, UInt64.reduceToNat, UInt32.reduceToNat, UInt16.reduceToNat, UInt8.reduceToNat, Int.reduceAdd, Int.reduceSub, Int.reduceMul, Nat.reduceMul, Qp0, Ql0, Qe0, d1, d2]
    exact ⟨_, PH.Le.refl _, RO_no ho rfl, rfl⟩
  have d2 := decide_eq_false h2
  cases b3 : decide (s.getD j 0 = 1)
  · have d3 := of_decide_eq_false b3
    have ho : openO s j = none := by unfold openO; rw [if_neg (fun e => d3 e.2.2)]
    have b3' := decide_eq_true d3
    simp -dsimp -implicitDefEqProofs (disch := first | omega | assumption | (simp only [Option.isSome_some, Qt0]; done) | (simp only [UInt64.reduceToNat, UInt32.reduceToNat, UInt8.reduceToNat, List.length_cons, List.length_nil, List.length_append, Int.toNat_natCast] <;> omega)) only [Nat.reduceLT, Nat.reduceLeDiff, Nat.reduceEqDiff, ↓reduceIte, Int.reduceLT, Int.reduceLE, Int.reduceToNat, Int.reduceEq, Int.reduceNe, Nat.reduceAdd, UInt8.reduceOfNat, UInt16.reduceOfNat, UInt32.reduceOfNat, UInt64.reduceOfNat, UInt64.reduceToNat, UInt32.reduceToNat, UInt16.reduceToNat, UInt8.reduceToNat, Int.reduceAdd, Int.reduceSub, Int.reduceMul, Nat.reduceMul, Qp0, Ql0, Qe0, d1, d2, b3, b3']
    exact ⟨_, PH.Le.refl _, RO_no ho rfl, rfl⟩
  have d3 := of_decide_eq_true b3
  have b3' : decide (¬ s.getD j 0 = 1) = false := decide_eq_false (fun e => e d3)
  have ho : openO s j = openL s (j + 1) := by unfold openO; rw [if_pos ⟨by omega, by omega, d3⟩]; rfl
  have n1 := @open_no1 s (j + 1)
  have n2 := @open_no2 s (j + 1)
  have n3 := @open_no3 s (j + 1)
  have ny := @open_yes s (j + 1)
  have hRl := lets_len _ (s.drop (j + 1)) (Nat.le_refl _)
  rw [List.length_drop] at hRl
  obtain ⟨R, hR⟩ : ∃ R, lets (s.drop (j + 1)) = R := ⟨_, rfl⟩
  rw [hR] at hRl
  simp only [hR] at n1 n2 n3 ny
  simp -dsimp -implicitDefEqProofs (disch := first | omega | assumption | (simp only [Option.isSome_some, Qt0]; done) | (simp only [UInt64.reduceToNat, UInt32.reduceToNat, UInt8.reduceToNat, List.length_cons, List.length_nil, List.length_append, Int.toNat_natCast] <;> omega)) only [Nat.reduceLT, Nat.reduceLeDiff, Nat.reduceEqDiff, ↓reduceIte, Int.reduceLT, Int.reduceLE, Int.reduceToNat, Int.reduceEq, Int.reduceNe, Nat.reduceAdd, UInt8.reduceOfNat, UInt16.reduceOfNat, UInt32.reduceOfNat, UInt64.reduceOfNat, UInt64.reduceToNat, UInt32.reduceToNat, UInt16.reduceToNat, UInt8.reduceToNat, Int.reduceAdd, Int.reduceSub, Int.reduceMul, Nat.reduceMul, Qp0, Ql0, Qe0, d1, d2, b3, b3']
  refine Does_zero el_u8 (fun b0 hb0 => ?_)
  have how0 := OwnS.zero (h := h) 1 hb0
  simp -dsimp -implicitDefEqProofs (disch := first | omega | assumption | (simp only [Option.isSome_some, Qt0]; done) | (simp only [UInt64.reduceToNat, UInt32.reduceToNat, UInt8.reduceToNat, List.length_cons, List.length_nil, List.length_append, Int.toNat_natCast] <;> omega)) only [Nat.reduceLT, Nat.reduceLeDiff, Nat.reduceEqDiff, ↓reduceIte, Int.reduceLT, Int.reduceLE, Int.reduceToNat, Int.reduceEq, Int.reduceNe, Nat.reduceAdd, UInt8.reduceOfNat, UInt16.reduceOfNat, UInt32.reduceOfNat, UInt64.reduceOfNat, UInt64.reduceToNat, UInt32.reduceToNat, UInt16.reduceToNat, UInt8.reduceToNat, Int.reduceAdd, Int.reduceSub, Int.reduceMul, Nat.reduceMul, Qp0, Ql0, Qe0]
  refine PW_mono (Q := fun e f h2 => e = .exit 0 ∧ ∃ v, f 0 = some (str s) ∧ f 1 = some (.int .i64 j) ∧ f 7 = some v ∧ OwnS h h2 1 v R.length (bs R)) ?_ (fun e f h2 ⟨he, v, f0, f1, f7, how⟩ => ?_)
  · refine PW_loop (fun n f h2 => ∃ (i k : Nat) (pre : List UInt8) (v : Value), i = j + 1 + 2 * k ∧ n = s.length - i ∧ k = pre.length ∧ R = pre ++ lets (s.drop i) ∧ f 0 = some (str s) ∧ f 1 = some (.int .i64 j) ∧ f 8 = some (.int .i64 i) ∧ f 7 = some v ∧ OwnS h h2 1 v k (bs pre)) (by kernel_rfl) (s.length - (j + 1)) ⟨j + 1, 0, [], _, rfl, rfl, rfl, by rw [hR]; rfl, ?_, ?_, ?_, ?_, how0⟩ ?_
    · simp -dsimp -implicitDefEqProofs (disch := first | omega | assumption | (simp only [Option.isSome_some, Qt0]; done) | (simp only [UInt64.reduceToNat, UInt32.reduceToNat, UInt8.reduceToNat, List.length_cons, List.length_nil, List.length_append, Int.toNat_natCast] <;> omega)) only [Nat.reduceLT, Nat.reduceLeDiff, Nat.reduceEqDiff, ↓reduceIte, Int.reduceLT, Int.reduceLE, Int.reduceToNat, Int.reduceEq, Int.reduceNe, Nat.reduceAdd, UInt8.reduceOfNat, UInt16.reduceOfNat, UInt32.reduceOfNat, UInt64.reduceOfNat, UInt64.reduceToNat, UInt32.reduceToNat, UInt16.reduceToNat, UInt8.reduceToNat, Int.reduceAdd, Int.reduceSub, Int.reduceMul, Nat.reduceMul, Qp0, Ql0, Qe0]
    · simp -dsimp -implicitDefEqProofs (disch := first | omega | assumption | (simp only [Option.isSome_some, Qt0]; done) | (simp only [UInt64.reduceToNat, UInt32.reduceToNat, UInt8.reduceToNat, List.length_cons, List.length_nil, List.length_append, Int.toNat_natCast] <;> omega)) only [Nat.reduceLT, Nat.reduceLeDiff, Nat.reduceEqDiff, ↓reduceIte, Int.reduceLT, Int.reduceLE, Int.reduceToNat, Int.reduceEq, Int.reduceNe, Nat.reduceAdd, UInt8.reduceOfNat, UInt16.reduceOfNat, UInt32.reduceOfNat, UInt64.reduceOfNat, UInt64.reduceToNat, UInt32.reduceToNat, UInt16.reduceToNat, UInt8.reduceToNat, Int.reduceAdd, Int.reduceSub, Int.reduceMul, Nat.reduceMul, Qp0, Ql0, Qe0]
    · simp -dsimp -implicitDefEqProofs (disch := first | omega | assumption | (simp only [Option.isSome_some, Qt0]; done) | (simp only [UInt64.reduceToNat, UInt32.reduceToNat, UInt8.reduceToNat, List.length_cons, List.length_nil, List.length_append, Int.toNat_natCast] <;> omega)) only [Nat.reduceLT, Nat.reduceLeDiff, Nat.reduceEqDiff, ↓reduceIte, Int.reduceLT, Int.reduceLE, Int.reduceToNat, Int.reduceEq, Int.reduceNe, Nat.reduceAdd, UInt8.reduceOfNat, UInt16.reduceOfNat, UInt32.reduceOfNat, UInt64.reduceOfNat, UInt64.reduceToNat, UInt32.reduceToNat, UInt16.reduceToNat, UInt8.reduceToNat, Int.reduceAdd, Int.reduceSub, Int.reduceMul, Nat.reduceMul, Qp0, Ql0, Qe0]
    · simp -dsimp -implicitDefEqProofs (disch := first | omega | assumption | (simp only [Option.isSome_some, Qt0]; done) | (simp only [UInt64.reduceToNat, UInt32.reduceToNat, UInt8.reduceToNat, List.length_cons, List.length_nil, List.length_append, Int.toNat_natCast] <;> omega)) only [Nat.reduceLT, Nat.reduceLeDiff, Nat.reduceEqDiff, ↓reduceIte, Int.reduceLT, Int.reduceLE, Int.reduceToNat, Int.reduceEq, Int.reduceNe, Nat.reduceAdd, UInt8.reduceOfNat, UInt16.reduceOfNat, UInt32.reduceOfNat, UInt64.reduceOfNat, UInt64.reduceToNat, UInt32.reduceToNat, UInt16.reduceToNat, UInt8.reduceToNat, Int.reduceAdd, Int.reduceSub, Int.reduceMul, Nat.reduceMul, Qp0, Ql0, Qe0]
      try rfl
    rintro n f h2 ⟨i, k, pre, v, hi, hn, hk, hpre, f0, f1, f8, f7, how⟩
    have hkl : k ≤ 5000 := by
      have := congrArg List.length hpre
      rw [List.length_append] at this
      omega
    by_cases hlt : i + 1 < s.length
    rotate_left
    · have e1 : decide ((i : Int) + 1 < (s.length : Int)) = false := decide_eq_false (by omega)
      rw [lets_end (by omega), List.append_nil] at hpre
      simp -dsimp -implicitDefEqProofs (disch := first | omega | assumption | (simp only [Option.isSome_some, Qt0]; done) | (simp only [UInt64.reduceToNat, UInt32.reduceToNat, UInt8.reduceToNat, List.length_cons, List.length_nil, List.length_append, Int.toNat_natCast] <;> omega)) only [Nat.reduceLT, Nat.reduceLeDiff, Nat.reduceEqDiff, ↓reduceIte, Int.reduceLT, Int.reduceLE, Int.reduceToNat, Int.reduceEq, Int.reduceNe, Nat.reduceAdd, UInt8.reduceOfNat, UInt16.reduceOfNat, UInt32.reduceOfNat, UInt64.reduceOfNat, UInt64.reduceToNat, UInt32.reduceToNat, UInt16.reduceToNat, UInt8.reduceToNat, Int.reduceAdd, Int.reduceSub, Int.reduceMul, Nat.reduceMul, Qp0, Ql0, Qe0, f0, f1, f8, f7, e1]
      exact ⟨by trivial, v, by simp [f0], by simp [f1], by simp [f7], by rw [hpre, ← hk]; exact how⟩
    have e1 : decide ((i : Int) + 1 < (s.length : Int)) = true := decide_eq_true (by omega)
    have hst := lets_step hlt
    have hT : ((i : Int) + 1).toNat = i + 1 := by omega
    have hT0 : ((i : Int)).toNat = i := by omega
    simp -dsimp -implicitDefEqProofs (disch := first | omega | assumption | (simp only [Option.isSome_some, Qt0]; done) | (simp only [UInt64.reduceToNat, UInt32.reduceToNat, UInt8.reduceToNat, List.length_cons, List.length_nil, List.length_append, Int.toNat_natCast] <;> omega)) only [Nat.reduceLT, Nat.reduceLeDiff, Nat.reduceEqDiff, ↓reduceIte, Int.reduceLT, Int.reduceLE, Int.reduceToNat, Int.reduceEq, Int.reduceNe, Nat.reduceAdd, UInt8.reduceOfNat, UInt16.reduceOfNat, UInt32.reduceOfNat, UInt64.reduceOfNat, UInt64.reduceToNat, UInt32.reduceToNat, UInt16.reduceToNat, UInt8.reduceToNat, Int.reduceAdd, Int.reduceSub, Int.reduceMul, Nat.reduceMul, Qp0, Ql0, Qe0, f0, f1, f8, f7, e1]
    refine PW_plan [0, 1, 2, 3, 4, 5, 6, 7, 8, 9, 10, 11, 12] h2 (by kernel_rfl) (by decide +kernel) (by kernel_rfl) (by kernel_rfl) (by kernel_rfl) (fun c f h hq => by simp only [thenC_panic, thenK_panic, inBlk_panic, thenN_panic, vcRet_panic] at hq; cases hq.1) (PH.Le.refl _).sub ?_
    have lx := letter_num (s.getD i 0)
    have ly := letter_num (s.getD (i + 1) 0)
    have hbn := byte_num (s.getD i 0) (s.getD (i + 1) 0)
    have hx8 := (s.getD i 0).toNat_lt
    have hy8 := (s.getD (i + 1) 0).toNat_lt
    obtain ⟨x, hx⟩ : ∃ x, s.getD i 0 = x := ⟨_, rfl⟩
    obtain ⟨y, hy⟩ : ∃ y, s.getD (i + 1) 0 = y := ⟨_, rfl⟩
    rw [hx] at lx hbn hx8 hst
    rw [hy] at ly hbn hy8 hst
    simp -dsimp -implicitDefEqProofs (disch := first | omega | assumption | (simp only [Option.isSome_some, Qt0]; done) | (simp only [UInt64.reduceToNat, UInt32.reduceToNat, UInt8.reduceToNat, List.length_cons, List.length_nil, List.length_append, Int.toNat_natCast] <;> omega)) only [Nat.reduceLT, Nat.reduceLeDiff, Nat.reduceEqDiff, ↓reduceIte, Int.reduceLT, Int.reduceLE, Int.reduceToNat, Int.reduceEq, Int.reduceNe, Nat.reduceAdd, UInt8.reduceOfNat, UInt16.reduceOfNat, UInt32.reduceOfNat, UInt64.reduceOfNat, UInt64.reduceToNat, UInt32.reduceToNat, UInt16.reduceToNat, UInt8.reduceToNat, Int.reduceAdd, Int.reduceSub, Int.reduceMul, Nat.reduceMul, Qp0, Ql0, Qe0, f0, f1, f8, f7, hT, hT0, hx, hy]
    by_cases hxl : lettered x = true
    rotate_left
    · rw [if_neg (fun e => hxl e.1)] at hst
      rw [hst, List.append_nil] at hpre
      by_cases c1 : (x.toNat : Int) - 64 < 0
      · have c1' := decide_eq_true c1
        simp -dsimp -implicitDefEqProofs (disch := first | omega | assumption | (simp only [Option.isSome_some, Qt0]; done) | (simp only [UInt64.reduceToNat, UInt32.reduceToNat, UInt8.reduceToNat, List.length_cons, List.length_nil, List.length_append, Int.toNat_natCast] <;> omega)) only [Nat.reduceLT, Nat.reduceLeDiff, Nat.reduceEqDiff, ↓reduceIte, Int.reduceLT, Int.reduceLE, Int.reduceToNat, Int.reduceEq, Int.reduceNe, Nat.reduceAdd, UInt8.reduceOfNat, UInt16.reduceOfNat, UInt32.reduceOfNat, UInt64.reduceOfNat, UInt64.reduceToNat, UInt32.reduceToNat, UInt16.reduceToNat, UInt8.reduceToNat, Int.reduceAdd, Int.reduceSub, Int.reduceMul, Nat.reduceMul, Qp0, Ql0, Qe0, f0, f1, f8, f7, c1']
        exact ⟨by trivial, v, by simp [f0], by simp [f1], by simp [f7], by rw [hpre, ← hk]; exact how⟩
      have c1' := decide_eq_false c1
      by_cases c2 : 15 < (x.toNat : Int) - 64
      · have c2' := decide_eq_true c2
        simp -dsimp -implicitDefEqProofs (disch := first | omega | assumption | (simp only [Option.isSome_some, Qt0]; done) | (simp only [UInt64.reduceToNat, UInt32.reduceToNat, UInt8.reduceToNat, List.length_cons, List.length_nil, List.length_append, Int.toNat_natCast] <;> omega)) only [Nat.reduceLT, Nat.reduceLeDiff, Nat.reduceEqDiff, ↓reduceIte, Int.reduceLT, Int.reduceLE, Int.reduceToNat, Int.reduceEq, Int.reduceNe, Nat.reduceAdd, UInt8.reduceOfNat, UInt16.reduceOfNat, UInt32.reduceOfNat, UInt64.reduceOfNat, UInt64.reduceToNat, UInt32.reduceToNat, UInt16.reduceToNat, UInt8.reduceToNat, Int.reduceAdd, Int.reduceSub, Int.reduceMul, Nat.reduceMul, Qp0, Ql0, Qe0, f0, f1, f8, f7, c1', c2']
        exact ⟨by trivial, v, by simp [f0], by simp [f1], by simp [f7], by rw [hpre, ← hk]; exact how⟩
      exact absurd (by rw [lx]; simp [c1, c2]) hxl
    have hx2 : (¬ (x.toNat : Int) - 64 < 0) ∧ (¬ 15 < (x.toNat : Int) - 64) := by rw [lx] at hxl; simpa using hxl
    have c1' := decide_eq_false hx2.1
    have c2' := decide_eq_false hx2.2
    by_cases hyl : lettered y = true
    rotate_left
    · rw [if_neg (fun e => hyl e.2)] at hst
      rw [hst, List.append_nil] at hpre
      by_cases c3 : (y.toNat : Int) - 64 < 0
      · have c3' := decide_eq_true c3
        simp -dsimp -implicitDefEqProofs (disch := first | omega | assumption | (simp only [Option.isSome_some, Qt0]; done) | (simp only [UInt64.reduceToNat, UInt32.reduceToNat, UInt8.reduceToNat, List.length_cons, List.length_nil, List.length_append, Int.toNat_natCast] <;> omega)) only [Nat.reduceLT, Nat.reduceLeDiff, Nat.reduceEqDiff, ↓reduceIte, Int.reduceLT, Int.reduceLE, Int.reduceToNat, Int.reduceEq, Int.reduceNe, Nat.reduceAdd, UInt8.reduceOfNat, UInt16.reduceOfNat, UInt32.reduceOfNat, UInt64.reduceOfNat, UInt64.reduceToNat, UInt32.reduceToNat, UInt16.reduceToNat, UInt8.reduceToNat, Int.reduceAdd, Int.reduceSub, Int.reduceMul, Nat.reduceMul, Qp0, Ql0, Qe0, f0, f1, f8, f7, c1', c2', c3']
        exact ⟨by trivial, v, by simp [f0], by simp [f1], by simp [f7], by rw [hpre, ← hk]; exact how⟩
      have c3' := decide_eq_false c3
      by_cases c4 : 15 < (y.toNat : Int) - 64
      · have c4' := decide_eq_true c4
        simp -dsimp -implicitDefEqProofs (disch := first | omega | assumption | (simp only [Option.isSome_some, Qt0]; done) | (simp only [UInt64.reduceToNat, UInt32.reduceToNat, UInt8.reduceToNat, List.length_cons, List.length_nil, List.length_append, Int.toNat_natCast] <;> omega)) only [Nat.reduceLT, Nat.reduceLeDiff, Nat.reduceEqDiff, ↓reduceIte, Int.reduceLT, Int.reduceLE, Int.reduceToNat, Int.reduceEq, Int.reduceNe, Nat.reduceAdd, UInt8.reduceOfNat, UInt16.reduceOfNat, UInt32.reduceOfNat, UInt64.reduceOfNat, UInt64.reduceToNat, UInt32.reduceToNat, UInt16.reduceToNat, UInt8.reduceToNat, Int.reduceAdd, Int.reduceSub, Int.reduceMul, Nat.reduceMul, Qp0, Ql0, Qe0, f0, f1, f8, f7, c1', c2', c3', c4']
        exact ⟨by trivial, v, by simp [f0], by simp [f1], by simp [f7], by rw [hpre, ← hk]; exact how⟩
      exact absurd (by rw [ly]; simp [c3, c4]) hyl
    have hy2 : (¬ (y.toNat : Int) - 64 < 0) ∧ (¬ 15 < (y.toNat : Int) - 64) := by rw [ly] at hyl; simpa using hyl
    have c3' := decide_eq_false hy2.1
    have c4' := decide_eq_false hy2.2
    have hB := hbn hxl hyl
    rw [if_pos ⟨hxl, hyl⟩] at hst
    generalize (x <<< 4 ||| y &&& 15) = z at hB hst
    simp -dsimp -implicitDefEqProofs (disch := first | omega | assumption | (simp only [Option.isSome_some, Qt0]; done) | (simp only [UInt64.reduceToNat, UInt32.reduceToNat, UInt8.reduceToNat, List.length_cons, List.length_nil, List.length_append, Int.toNat_natCast] <;> omega)) only [Nat.reduceLT, Nat.reduceLeDiff, Nat.reduceEqDiff, ↓reduceIte, Int.reduceLT, Int.reduceLE, Int.reduceToNat, Int.reduceEq, Int.reduceNe, Nat.reduceAdd, UInt8.reduceOfNat, UInt16.reduceOfNat, UInt32.reduceOfNat, UInt64.reduceOfNat, UInt64.reduceToNat, UInt32.reduceToNat, UInt16.reduceToNat, UInt8.reduceToNat, Int.reduceAdd, Int.reduceSub, Int.reduceMul, Nat.reduceMul, Qp0, Ql0, Qe0, f0, f1, f8, f7, c1', c2', c3', c4', hB]
    refine Does_one (v := u8 z) el_u8 rfl (by omega) (fun gb hgb => ?_)
    rw [show (u8 z).cells.toList = bs [z] from rfl]
    have howg := how.more ((PH.Le.refl _).new gb ⟨bs [z], 1⟩ hgb)
    simp -dsimp -implicitDefEqProofs (disch := first | omega | assumption | (simp only [Option.isSome_some, Qt0]; done) | (simp only [UInt64.reduceToNat, UInt32.reduceToNat, UInt8.reduceToNat, List.length_cons, List.length_nil, List.length_append, Int.toNat_natCast] <;> omega)) only [Nat.reduceLT, Nat.reduceLeDiff, Nat.reduceEqDiff, ↓reduceIte, Int.reduceLT, Int.reduceLE, Int.reduceToNat, Int.reduceEq, Int.reduceNe, Nat.reduceAdd, UInt8.reduceOfNat, UInt16.reduceOfNat, UInt32.reduceOfNat, UInt64.reduceOfNat, UInt64.reduceToNat, UInt32.reduceToNat, UInt16.reduceToNat, UInt8.reduceToNat, Int.reduceAdd, Int.reduceSub, Int.reduceMul, Nat.reduceMul, Qp0, Ql0, Qe0, f0, f1, f8, f7]
    refine Does_app el_u8 howg.own (Rs.blk (k := ⟨bs [z], 1⟩) (by rw [PH.new_m, if_pos rfl]) rfl) (bs_one _) (by unfold maxLen; omega) (by omega) (fun v10 h10 ho hst2 => ?_)
    have how10 := howg.stays hst2 ho
    rw [← bs_append] at how10
    simp -dsimp -implicitDefEqProofs (disch := first | omega | assumption | (simp only [Option.isSome_some, Qt0]; done) | (simp only [UInt64.reduceToNat, UInt32.reduceToNat, UInt8.reduceToNat, List.length_cons, List.length_nil, List.length_append, Int.toNat_natCast] <;> omega)) only [Nat.reduceLT, Nat.reduceLeDiff, Nat.reduceEqDiff, ↓reduceIte, Int.reduceLT, Int.reduceLE, Int.reduceToNat, Int.reduceEq, Int.reduceNe, Nat.reduceAdd, UInt8.reduceOfNat, UInt16.reduceOfNat, UInt32.reduceOfNat, UInt64.reduceOfNat, UInt64.reduceToNat, UInt32.reduceToNat, UInt16.reduceToNat, UInt8.reduceToNat, Int.reduceAdd, Int.reduceSub, Int.reduceMul, Nat.reduceMul, Qp0, Ql0, Qe0, f0, f1, f8, f7]
    exact ⟨s.length - (i + 2), h10, by omega, PH.Le.refl _, i + 2, k + 1, pre ++ [z], v10, by omega, rfl, by rw [List.length_append, ← hk]; rfl, by rw [hpre, hst, List.append_assoc]; rfl, by simp [f0], by simp [f1], by simp, by simp, how10⟩
  subst he
  obtain ⟨A, c, rfl, hc⟩ := how.own.len
  simp -dsimp -implicitDefEqProofs (disch := first | omega | assumption | (simp only [Option.isSome_some, Qt0]; done) | (simp only [UInt64.reduceToNat, UInt32.reduceToNat, UInt8.reduceToNat, List.length_cons, List.length_nil, List.length_append, Int.toNat_natCast] <;> omega)) only [Nat.reduceLT, Nat.reduceLeDiff, Nat.reduceEqDiff, ↓reduceIte, Int.reduceLT, Int.reduceLE, Int.reduceToNat, Int.reduceEq, Int.reduceNe, Nat.reduceAdd, UInt8.reduceOfNat, UInt16.reduceOfNat, UInt32.reduceOfNat, UInt64.reduceOfNat, UInt64.reduceToNat, UInt32.reduceToNat, UInt16.reduceToNat, UInt8.reduceToNat, Int.reduceAdd, Int.reduceSub, Int.reduceMul, Nat.reduceMul, Qp0, Ql0, Qe0, f0, f1, f7]
  by_cases g1 : R.length < 10
  · have e1 : decide ((R.length : Int) < 10) = true := decide_eq_true (by omega)
    simp -dsimp -implicitDefEqProofs (disch := first | omega | assumption | (simp only [Option.isSome_some, Qt0]; done) | (simp only [UInt64.reduceToNat, UInt32.reduceToNat, UInt8.reduceToNat, List.length_cons, List.length_nil, List.length_append, Int.toNat_natCast] <;> omega)) only [Nat.reduceLT, Nat.reduceLeDiff, Nat.reduceEqDiff, ↓reduceIte, Int.reduceLT, Int.reduceLE, Int.reduceToNat, Int.reduceEq, Int.reduceNe, Nat.reduceAdd, UInt8.reduceOfNat, UInt16.reduceOfNat, UInt32.reduceOfNat, UInt64.reduceOfNat, UInt64.reduceToNat, UInt32.reduceToNat, UInt16.reduceToNat, UInt8.reduceToNat, Int.reduceAdd, Int.reduceSub, Int.reduceMul, Nat.reduceMul, Qp0, Ql0, Qe0, f0, f1, f7, e1]
    exact ⟨_, how.le, RO_no (ho.trans (n1 g1)) rfl, rfl⟩
  have e1 : decide ((R.length : Int) < 10) = false := decide_eq_false (by omega)
  obtain ⟨bR, cR, eA, hcR, hmR⟩ := how.own.pos (by omega)
  injection eA with e2 _ e3
  subst e2
  subst e3
  rw [Nat.mul_one] at hmR
  obtain ⟨r0, hr0⟩ : ∃ r, R[0]? = some r := ⟨_, List.getElem?_eq_getElem (by omega)⟩
  obtain ⟨r1, hr1⟩ : ∃ r, R[1]? = some r := ⟨_, List.getElem?_eq_getElem (by omega)⟩
  have q0 : (bs R)[0]? = some (u8 r0) := by simp [bs, hr0]
  have q1 : (bs R)[1]? = some (u8 r1) := by simp [bs, hr1]
  have l0 := r0.toNat_lt
  have l1 := r1.toNat_lt
  obtain ⟨n, hn⟩ : ∃ n, r0.toNat * 256 + r1.toNat = n := ⟨_, rfl⟩
  have hnum : (R.getD 0 0).toNat * 256 + (R.getD 1 0).toNat = n := by simp [List.getD, hr0, hr1, hn]
  have hnI : (r0.toNat : Int) * 256 + (r1.toNat : Int) = (n : Int) := by omega
  simp -dsimp -implicitDefEqProofs (disch := first | omega | assumption | (simp only [Option.isSome_some, Qt0]; done) | (simp only [UInt64.reduceToNat, UInt32.reduceToNat, UInt8.reduceToNat, List.length_cons, List.length_nil, List.length_append, Int.toNat_natCast] <;> omega)) only [Nat.reduceLT, Nat.reduceLeDiff, Nat.reduceEqDiff, ↓reduceIte, Int.reduceLT, Int.reduceLE, Int.reduceToNat, Int.reduceEq, Int.reduceNe, Nat.reduceAdd, UInt8.reduceOfNat, UInt16.reduceOfNat, UInt32.reduceOfNat, UInt64.reduceOfNat, UInt64.reduceToNat, UInt32.reduceToNat, UInt16.reduceToNat, UInt8.reduceToNat, Int.reduceAdd, Int.reduceSub, Int.reduceMul, Nat.reduceMul, Qp0, Ql0, Qe0, f0, f1, f7, e1]
  refine PW_plan [0, 1, 2, 3, 4, 5, 6, 7, 8, 9, 10] h2 (by kernel_rfl) (by decide +kernel) (by kernel_rfl) (by kernel_rfl) (by kernel_rfl) (fun c f h hq => by simp only [thenC_panic, thenK_panic, inBlk_panic, thenN_panic, vcRet_panic] at hq) (PH.Le.refl _).sub ?_
  simp -dsimp -implicitDefEqProofs (disch := first | omega | assumption | (simp only [Option.isSome_some, Qt0]; done) | (simp only [UInt64.reduceToNat, UInt32.reduceToNat, UInt8.reduceToNat, List.length_cons, List.length_nil, List.length_append, Int.toNat_natCast] <;> omega)) only [Nat.reduceLT, Nat.reduceLeDiff, Nat.reduceEqDiff, ↓reduceIte, Int.reduceLT, Int.reduceLE, Int.reduceToNat, Int.reduceEq, Int.reduceNe, Nat.reduceAdd, UInt8.reduceOfNat, UInt16.reduceOfNat, UInt32.reduceOfNat, UInt64.reduceOfNat, UInt64.reduceToNat, UInt32.reduceToNat, UInt16.reduceToNat, UInt8.reduceToNat, Int.reduceAdd, Int.reduceSub, Int.reduceMul, Nat.reduceMul, Qp0, Ql0, Qe0, f0, f1, f7, rd_M, rdM_some, hmR, q0, q1, hnI]
  by_cases g2 : 8192 < n
  · have e2 : decide ((8192 : Int) < (n : Int)) = true := decide_eq_true (by omega)
    simp -dsimp -implicitDefEqProofs (disch := first | omega | assumption | (simp only [Option.isSome_some, Qt0]; done) | (simp only [UInt64.reduceToNat, UInt32.reduceToNat, UInt8.reduceToNat, List.length_cons, List.length_nil, List.length_append, Int.toNat_natCast] <;> omega)) only [Nat.reduceLT, Nat.reduceLeDiff, Nat.reduceEqDiff, ↓reduceIte, Int.reduceLT, Int.reduceLE, Int.reduceToNat, Int.reduceEq, Int.reduceNe, Nat.reduceAdd, UInt8.reduceOfNat, UInt16.reduceOfNat, UInt32.reduceOfNat, UInt64.reduceOfNat, UInt64.reduceToNat, UInt32.reduceToNat, UInt16.reduceToNat, UInt8.reduceToNat, Int.reduceAdd, Int.reduceSub, Int.reduceMul, Nat.reduceMul, Qp0, Ql0, Qe0, f0, f1, f7, e2]
    exact ⟨_, how.le, RO_no (ho.trans (n2 hnum (.inl g2))) rfl, rfl⟩
  have e2 : decide ((8192 : Int) < (n : Int)) = false := decide_eq_false (by omega)
  by_cases g3 : R.length < n + 10
  · have e3 : decide ((R.length : Int) - 10 < (n : Int)) = true := decide_eq_true (by omega)
    simp -dsimp -implicitDefEqProofs (disch := first | omega | assumption | (simp only [Option.isSome_some, Qt0]; done) | (simp only [UInt64.reduceToNat, UInt32.reduceToNat, UInt8.reduceToNat, List.length_cons, List.length_nil, List.length_append, Int.toNat_natCast] <;> omega)) only [Nat.reduceLT, Nat.reduceLeDiff, Nat.reduceEqDiff, ↓reduceIte, Int.reduceLT, Int.reduceLE, Int.reduceToNat, Int.reduceEq, Int.reduceNe, Nat.reduceAdd, UInt8.reduceOfNat, UInt16.reduceOfNat, UInt32.reduceOfNat, UInt64.reduceOfNat, UInt64.reduceToNat, UInt32.reduceToNat, UInt16.reduceToNat, UInt8.reduceToNat, Int.reduceAdd, Int.reduceSub, Int.reduceMul, Nat.reduceMul, Qp0, Ql0, Qe0, f0, f1, f7, e2, e3]
    exact ⟨_, how.le, RO_no (ho.trans (n2 hnum (.inr g3))) rfl, rfl⟩
  have e3 : decide ((R.length : Int) - 10 < (n : Int)) = false := decide_eq_false (by omega)
  have t6 : ((6 : Int) + (n : Int)).toNat = 6 + n := by omega
  have t10 : ((10 : Int) + (n : Int)).toNat = 10 + n := by omega
  have c6 : decide (c = 6) = false := decide_eq_false (by omega)
  have hlR := bs_length R
  have hdl : ((R.drop 6).take n).length = n := by rw [List.length_take, List.length_drop]; omega
  have htl : (R.take (10 + n)).length = 10 + n := by rw [List.length_take]; omega
  have hK6 : Kn h2 (.slice (some ⟨bR, 6, none⟩) n (c - 6)) (bs ((R.drop 6).take n)) := by
    refine ⟨bR, 6, c - 6, bs R, c, by rw [bs_length, hdl], by rw [bs_length, hdl]; omega, hmR, by rw [bs_length, hdl, hlR]; omega, ?_⟩
    rw [bs_length, hdl]
    simp [bs, List.map_take, List.map_drop]
  have hK10 : Kn h2 (.slice (some ⟨bR, 0, none⟩) (10 + n) c) (bs (R.take (10 + n))) := by
    refine ⟨bR, 0, c, bs R, c, by rw [bs_length, htl], by rw [bs_length, htl]; omega, hmR, by rw [bs_length, htl, hlR]; omega, ?_⟩
    rw [bs_length, htl]
    simp [bs, List.map_take]
  have e66 : 6 + n - 6 = n := by omega
  have t66 : (6 : Int).toNat = 6 := rfl
  simp -dsimp -implicitDefEqProofs (disch := first | omega | assumption | (simp only [Option.isSome_some, Qt0]; done) | (simp only [UInt64.reduceToNat, UInt32.reduceToNat, UInt8.reduceToNat, List.length_cons, List.length_nil, List.length_append, Int.toNat_natCast] <;> omega)) only [Nat.reduceLT, Nat.reduceLeDiff, Nat.reduceEqDiff, ↓reduceIte, Int.reduceLT, Int.reduceLE, Int.reduceToNat, Int.reduceEq, Int.reduceNe, Nat.reduceAdd, UInt8.reduceOfNat, UInt16.reduceOfNat, UInt32.reduceOfNat, UInt64.reduceOfNat, UInt64.reduceToNat, UInt32.reduceToNat, UInt16.reduceToNat, UInt8.reduceToNat, Int.reduceAdd, Int.reduceSub, Int.reduceMul, Nat.reduceMul, Qp0, Ql0, Qe0, f0, f1, f7, e2, e3, t6, c6, cutAt, e66, t66]
  refine vtext_own Tryd.underlying41 Tryd.underlying5 Tryd.underlying9 hK6.rs (fun e => by cases e) ?_
  have hyes := @ny n (by omega) (by omega)
  have hno := n3 hnum
  have hRaw := Lib.hid (rraw_any ((R.drop 6).take n) (by omega) w0 h2)
  have hrl := raw_length ((R.drop 6).take n)
  rw [hdl] at hrl
  generalize (R.drop 6).take n = P at *
  obtain ⟨W, hW⟩ : ∃ W, raw P = W := ⟨_, rfl⟩
  rw [hW] at hrl hyes hno
  simp -dsimp -implicitDefEqProofs (disch := first | omega | assumption | (simp only [Option.isSome_some, Qt0]; done) | (simp only [UInt64.reduceToNat, UInt32.reduceToNat, UInt8.reduceToNat, List.length_cons, List.length_nil, List.length_append, Int.toNat_natCast] <;> omega)) only [Nat.reduceLT, Nat.reduceLeDiff, Nat.reduceEqDiff, ↓reduceIte, Int.reduceLT, Int.reduceLE, Int.reduceToNat, Int.reduceEq, Int.reduceNe, Nat.reduceAdd, UInt8.reduceOfNat, UInt16.reduceOfNat, UInt32.reduceOfNat, UInt64.reduceOfNat, UInt64.reduceToNat, UInt32.reduceToNat, UInt16.reduceToNat, UInt8.reduceToNat, Int.reduceAdd, Int.reduceSub, Int.reduceMul, Nat.reduceMul, Qp0, Ql0, Qe0, f0, f1, f7]
  refine PW_plan2 [(0, false), (3, false), (4, false), (5, false), (6, false), (7, false), (1, false), (2, true), (8, false)] h2 (by kernel_rfl) (by decide +kernel) (by kernel_rfl) (by kernel_rfl) (by kernel_rfl) (fun c f h hq => by simp only [thenC_panic, thenK_panic, inBlk_panic, thenN_panic, vcRet_panic] at hq) (PH.Le.refl _).sub ?_
  simp -dsimp -implicitDefEqProofs (disch := first | omega | assumption | (simp only [Option.isSome_some, Qt0]; done) | (simp only [UInt64.reduceToNat, UInt32.reduceToNat, UInt8.reduceToNat, List.length_cons, List.length_nil, List.length_append, Int.toNat_natCast] <;> omega)) only [Nat.reduceLT, Nat.reduceLeDiff, Nat.reduceEqDiff, ↓reduceIte, Int.reduceLT, Int.reduceLE, Int.reduceToNat, Int.reduceEq, Int.reduceNe, Nat.reduceAdd, UInt8.reduceOfNat, UInt16.reduceOfNat, UInt32.reduceOfNat, UInt64.reduceOfNat, UInt64.reduceToNat, UInt32.reduceToNat, UInt16.reduceToNat, UInt8.reduceToNat, Int.reduceAdd, Int.reduceSub, Int.reduceMul, Nat.reduceMul, Qp0, Ql0, Qe0, f0, f1, f7, t10]
  refine vtext_own Tryd.underlying41 Tryd.underlying5 Tryd.underlying9 hK10.rs (fun e => by cases e) ?_
  simp -dsimp -implicitDefEqProofs (disch := first | omega | assumption | (simp only [Option.isSome_some, Qt0]; done) | (simp only [UInt64.reduceToNat, UInt32.reduceToNat, UInt8.reduceToNat, List.length_cons, List.length_nil, List.length_append, Int.toNat_natCast] <;> omega)) only [Nat.reduceLT, Nat.reduceLeDiff, Nat.reduceEqDiff, ↓reduceIte, Int.reduceLT, Int.reduceLE, Int.reduceToNat, Int.reduceEq, Int.reduceNe, Nat.reduceAdd, UInt8.reduceOfNat, UInt16.reduceOfNat, UInt32.reduceOfNat, UInt64.reduceOfNat, UInt64.reduceToNat, UInt32.reduceToNat, UInt16.reduceToNat, UInt8.reduceToNat, Int.reduceAdd, Int.reduceSub, Int.reduceMul, Nat.reduceMul, Qp0, Ql0, Qe0, f0, f1, f7]
  refine hRaw.out.mono ?_
  rintro v h3 how3
  rw [hW] at how3
  obtain ⟨A3, c3, rfl, hc3⟩ := how3.own.len
  simp -dsimp -implicitDefEqProofs (disch := first | omega | assumption | (simp only [Option.isSome_some, Qt0]; done) | (simp only [UInt64.reduceToNat, UInt32.reduceToNat, UInt8.reduceToNat, List.length_cons, List.length_nil, List.length_append, Int.toNat_natCast] <;> omega)) only [Nat.reduceLT, Nat.reduceLeDiff, Nat.reduceEqDiff, ↓reduceIte, Int.reduceLT, Int.reduceLE, Int.reduceToNat, Int.reduceEq, Int.reduceNe, Nat.reduceAdd, UInt8.reduceOfNat, UInt16.reduceOfNat, UInt32.reduceOfNat, UInt64.reduceOfNat, UInt64.reduceToNat, UInt32.reduceToNat, UInt16.reduceToNat, UInt8.reduceToNat, Int.reduceAdd, Int.reduceSub, Int.reduceMul, Nat.reduceMul, Qp0, Ql0, Qe0, f0, f1, f7]
  refine ⟨how3.le.sub, ?_⟩
  simp -dsimp -implicitDefEqProofs (disch := first | omega | assumption | (simp only [Option.isSome_some, Qt0]; done) | (simp only [UInt64.reduceToNat, UInt32.reduceToNat, UInt8.reduceToNat, List.length_cons, List.length_nil, List.length_append, Int.toNat_natCast] <;> omega)) only [Nat.reduceLT, Nat.reduceLeDiff, Nat.reduceEqDiff, ↓reduceIte, Int.reduceLT, Int.reduceLE, Int.reduceToNat, Int.reduceEq, Int.reduceNe, Nat.reduceAdd, UInt8.reduceOfNat, UInt16.reduceOfNat, UInt32.reduceOfNat, UInt64.reduceOfNat, UInt64.reduceToNat, UInt32.reduceToNat, UInt16.reduceToNat, UInt8.reduceToNat, Int.reduceAdd, Int.reduceSub, Int.reduceMul, Nat.reduceMul, Qp0, Ql0, Qe0, f0, f1, f7]
  refine vtext_own Tryd.underlying41 Tryd.underlying5 Tryd.underlying9 (Rs.own how3.own) how3.own.nil_zero ?_
  simp -dsimp -implicitDefEqProofs (disch := first | omega | assumption | (simp only [Option.isSome_some, Qt0]; done) | (simp only [UInt64.reduceToNat, UInt32.reduceToNat, UInt8.reduceToNat, List.length_cons, List.length_nil, List.length_append, Int.toNat_natCast] <;> omega)) only [Nat.reduceLT, Nat.reduceLeDiff, Nat.reduceEqDiff, ↓reduceIte, Int.reduceLT, Int.reduceLE, Int.reduceToNat, Int.reduceEq, Int.reduceNe, Nat.reduceAdd, UInt8.reduceOfNat, UInt16.reduceOfNat, UInt32.reduceOfNat, UInt64.reduceOfNat, UInt64.reduceToNat, UInt32.reduceToNat, UInt16.reduceToNat, UInt8.reduceToNat, Int.reduceAdd, Int.reduceSub, Int.reduceMul, Nat.reduceMul, Qp0, Ql0, Qe0, f0, f1, f7]
  refine ⟨how3.le.sub, ?_⟩
  have hle := how.le.trans how3.le
  by_cases g4 : W = R.take (10 + n)
  · have d4 : decide (¬ W = R.take (10 + n)) = false := decide_eq_false (fun e => e g4)
    simp -dsimp -implicitDefEqProofs (disch := first | omega | assumption | (simp only [Option.isSome_some, Qt0]; done) | (simp only [UInt64.reduceToNat, UInt32.reduceToNat, UInt8.reduceToNat, List.length_cons, List.length_nil, List.length_append, Int.toNat_natCast] <;> omega)) only [Nat.reduceLT, Nat.reduceLeDiff, Nat.reduceEqDiff, ↓reduceIte, Int.reduceLT, Int.reduceLE, Int.reduceToNat, Int.reduceEq, Int.reduceNe, Nat.reduceAdd, UInt8.reduceOfNat, UInt16.reduceOfNat, UInt32.reduceOfNat, UInt64.reduceOfNat, UInt64.reduceToNat, UInt32.reduceToNat, UInt16.reduceToNat, UInt8.reduceToNat, Int.reduceAdd, Int.reduceSub, Int.reduceMul, Nat.reduceMul, Qp0, Ql0, Qe0, f0, f1, f7, d4]
    exact ⟨_, hle, RO_yes (ho.trans (hyes g4)) (by congr 4), rfl⟩
  · have d4 : decide (¬ W = R.take (10 + n)) = true := decide_eq_true g4
    simp -dsimp -implicitDefEqProofs (disch := first | omega | assumption | (simp only [Option.isSome_some, Qt0]; done) | (simp only [UInt64.reduceToNat, UInt32.reduceToNat, UInt8.reduceToNat, List.length_cons, List.length_nil, List.length_append, Int.toNat_natCast] <;> omega)) only [Nat.reduceLT, Nat.reduceLeDiff, Nat.reduceEqDiff, ↓reduceIte, Int.reduceLT, Int.reduceLE, Int.reduceToNat, Int.reduceEq, Int.reduceNe, Nat.reduceAdd, UInt8.reduceOfNat, UInt16.reduceOfNat, UInt32.reduceOfNat, UInt64.reduceOfNat, UInt64.reduceToNat, UInt32.reduceToNat, UInt16.reduceToNat, UInt8.reduceToNat, Int.reduceAdd, Int.reduceSub, Int.reduceMul, Nat.reduceMul, Qp0, Ql0, Qe0, f0, f1, f7, d4]
    exact ⟨_, hle, RO_no (ho.trans (hno g4)) rfl, rfl⟩
end Go.Proofs.YtpdcbkleolciiaaDoor
