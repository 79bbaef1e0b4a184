/- Parts Wr6, Wr7, Wr8, Wr9, Wdv, Wra, Wdb, joined. No condition. -/
import Derived.Test.YtdhgmifgjaedbaaM5C
import Derived.Laws.StructEq
/- The document's reader: Read, Num, Text, Flag, Fault; Trimmed. No condition. -/
namespace Go.Proofs.Ytdhgmifgjaedbaa
set_option linter.unusedVariables false
set_option linter.unusedSimpArgs false
open Go.RowKit Px Wr
/-- The document's reader in memory. -/
def RI (h : PH) (ib : Nat) (s : List UInt8) : St → Prop
  | .ok t => ∃ at_ : Nat, at_ ≤ s.length ∧ s.drop at_ = t ∧ h.m ib = some ⟨[str s, .int .i64 at_, .int .i64 (-1)], 3⟩
  | .bad p => ∃ at_ : Nat, at_ ≤ s.length ∧ h.m ib = some ⟨[str s, .int .i64 at_, .int .i64 (p : Nat)], 3⟩
theorem RI.chg {h h' : PH} {F : Nat → Prop} {ib : Nat} {s : List UInt8} {st : St} (i : RI h ib s st) (c : Chg F h h') (hF : ¬ F ib) : RI h' ib s st := by
  cases st with
  | ok t => obtain ⟨a, h1, h2, h3⟩ := i; exact ⟨a, h1, h2, c.m _ _ h3 hF⟩
  | bad p => obtain ⟨a, h1, h3⟩ := i; exact ⟨a, h1, c.m _ _ h3 hF⟩
theorem RI.more {h h' : PH} {ib : Nat} {s : List UInt8} {st : St} (i : RI h ib s st) (l : PH.Le h h') : RI h' ib s st := i.chg (F := fun _ => False) (.le l) id
theorem rib_lt {h : PH} {ib : Nat} {s : List UInt8} {st : St} (hi : RI h ib s st) : ib < h.top := by
  cases st with
  | ok t => obtain ⟨a, _, _, h3⟩ := hi; exact h.lt _ _ h3
  | bad p => obtain ⟨a, _, h3⟩ := hi; exact h.lt _ _ h3
section
variable (w0 : World) (h : PH) (ib : Nat) (s : List UInt8)
set_option maxRecDepth 20000 in
theorem rread_any : PCalls Try.prog w0 48 [str s] h fun r h' => ∃ ib, r = .pointer (some ⟨ib, 0, none⟩) ∧ h.top ≤ ib ∧ PH.Le h h' ∧ RI h' ib s (.ok s) := by
  refine PCalls_body Try.func48 (by kernel_rfl) rfl _ Try.ntmps48 (by kernel_rfl) (by kernel_rfl) _ Try.results48 ?_
  simp -dsimp -implicitDefEqProofs (disch := first | omega | assumption | (simp only [Option.isSome_some, Qt0]; done) | (simp only [UInt64.reduceToNat, UInt32.reduceToNat, UInt8.reduceToNat, List.length_cons, List.length_nil, List.length_append, Int.toNat_natCast] <;> omega) | fail) only [Nat.reduceLT, Nat.reduceLeDiff, Nat.reduceEqDiff, ↓reduceIte, Int.reduceLT, Int.reduceLE, Int.reduceToNat, Int.reduceEq, Int.reduceNe, Nat.reduceAdd, UInt8.reduceOfNat, UInt16.reduceOfNat, UInt32.reduceOfNat, UInt64.reduceOfNat, UInt64.reduceToNat, UInt32.reduceToNat, UInt16.reduceToNat, UInt8.reduceToNat, Int.reduceAdd, Int.reduceSub, Int.reduceMul, Nat.reduceMul, Qp0, Qp1, Ql0, Qe0]
  refine fun b hb => ?_
  simp -dsimp -implicitDefEqProofs (disch := first | omega | assumption | (simp only [Option.isSome_some, Qt0]; done) | (simp only [UInt64.reduceToNat, UInt32.reduceToNat, UInt8.reduceToNat, List.length_cons, List.length_nil, List.length_append, Int.toNat_natCast] <;> omega) | fail) only [Nat.reduceLT, Nat.reduceLeDiff, Nat.reduceEqDiff, ↓reduceIte, Int.reduceLT, Int.reduceLE, Int.reduceToNat, Int.reduceEq, Int.reduceNe, Nat.reduceAdd, UInt8.reduceOfNat, UInt16.reduceOfNat, UInt32.reduceOfNat, UInt64.reduceOfNat, UInt64.reduceToNat, UInt32.reduceToNat, UInt16.reduceToNat, UInt8.reduceToNat, Int.reduceAdd, Int.reduceSub, Int.reduceMul, Nat.reduceMul, Qp0, Qp1, Ql0, Qe0]
  exact ⟨_, PH.Le.refl _, b, rfl, hb, (PH.Le.refl h).new b _ hb, 0, by omega, rfl, by rw [PH.new_m, if_pos rfl]; rfl⟩
set_option maxRecDepth 20000 in
set_option maxHeartbeats 2000000 in
theorem rnum_any (hs : s.length ≤ 1000000000) (most : Int) (st : St) (hi : RI h ib s st) : PCalls Try.prog w0 49 [.pointer (some ⟨ib, 0, none⟩), .int .i64 most] h fun r h' => r = .int .i64 (numS most s.length st).1 ∧ RI h' ib s (numS most s.length st).2 ∧ Chg (· = ib) h h' := by
  refine PCalls_body Try.func49 (by kernel_rfl) rfl _ Try.ntmps49 (by kernel_rfl) (by kernel_rfl) _ Try.results49 ?_
  cases st with
  | bad p =>
    have hn : numS most s.length (.bad p) = (0, .bad p) := rfl
    rw [hn]
    obtain ⟨a, h1, h3⟩ := id hi
    have e0 : decide ((p : Int) ≥ 0) = true := decide_eq_true (by omega)
    simp -dsimp -implicitDefEqProofs (disch := first | omega | assumption | (simp only [Option.isSome_some, Qt0]; done) | (simp only [UInt64.reduceToNat, UInt32.reduceToNat, UInt8.reduceToNat, List.length_cons, List.length_nil, List.length_append, Int.toNat_natCast] <;> omega) | fail) only [Nat.reduceLT, Nat.reduceLeDiff, Nat.reduceEqDiff, ↓reduceIte, Int.reduceLT, Int.reduceLE, Int.reduceToNat, Int.reduceEq, Int.reduceNe, Nat.reduceAdd, UInt8.reduceOfNat, UInt16.reduceOfNat, UInt32.reduceOfNat, UInt64.reduceOfNat, UInt64.reduceToNat, UInt32.reduceToNat, UInt16.reduceToNat, UInt8.reduceToNat, Int.reduceAdd, Int.reduceSub, Int.reduceMul, Nat.reduceMul, Qp0, Qp1, Ql0, Qe0, rd_M, rdM_some, h3, e0]
    exact ⟨_, PH.Le.refl _, by first | rfl | trivial, hi, Chg.refl _ _⟩
  | ok t =>
    obtain ⟨a0, h1, rfl, h3⟩ := hi
    have hfl : s.length - (s.drop a0).length = a0 := by simp; omega
    simp -dsimp -implicitDefEqProofs (disch := first | omega | assumption | (simp only [Option.isSome_some, Qt0]; done) | (simp only [UInt64.reduceToNat, UInt32.reduceToNat, UInt8.reduceToNat, List.length_cons, List.length_nil, List.length_append, Int.toNat_natCast] <;> omega) | fail) only [Nat.reduceLT, Nat.reduceLeDiff, Nat.reduceEqDiff, ↓reduceIte, Int.reduceLT, Int.reduceLE, Int.reduceToNat, Int.reduceEq, Int.reduceNe, Nat.reduceAdd, UInt8.reduceOfNat, UInt16.reduceOfNat, UInt32.reduceOfNat, UInt64.reduceOfNat, UInt64.reduceToNat, UInt32.reduceToNat, UInt16.reduceToNat, UInt8.reduceToNat, Int.reduceAdd, Int.reduceSub, Int.reduceMul, Nat.reduceMul, Qp0, Qp1, Ql0, Qe0, rd_M, rdM_some, h3]
    refine PW_loop (fun n f h' => ∃ k acc wt : Nat, n + k = 9 ∧ f 0 = some (.pointer (some ⟨ib, 0, none⟩)) ∧ f 1 = some (.int .i64 most) ∧ f 5 = some (.int .i64 acc) ∧ f 6 = some (.int .i64 wt) ∧ f 7 = some (.int .i64 k) ∧ (k < 9 → wt = 128 ^ k) ∧ acc < 128 ^ k ∧ scan 0 0 (s.drop a0) = scan k acc (s.drop (a0 + k)) ∧ a0 + k ≤ s.length ∧ h' = h) (by kernel_rfl) 9 ⟨0, 0, 1, rfl, ?_, ?_, ?_, ?_, ?_, fun _ => rfl, by omega, rfl, h1, rfl⟩ ?_
    · simp -dsimp -implicitDefEqProofs (disch := first | omega | assumption | (simp only [Option.isSome_some, Qt0]; done) | (simp only [UInt64.reduceToNat, UInt32.reduceToNat, UInt8.reduceToNat, List.length_cons, List.length_nil, List.length_append, Int.toNat_natCast] <;> omega) | fail) only [Nat.reduceLT, Nat.reduceLeDiff, Nat.reduceEqDiff, ↓reduceIte, Int.reduceLT, Int.reduceLE, Int.reduceToNat, Int.reduceEq, Int.reduceNe, Nat.reduceAdd, UInt8.reduceOfNat, UInt16.reduceOfNat, UInt32.reduceOfNat, UInt64.reduceOfNat, UInt64.reduceToNat, UInt32.reduceToNat, UInt16.reduceToNat, UInt8.reduceToNat, Int.reduceAdd, Int.reduceSub, Int.reduceMul, Nat.reduceMul, Qp0, Qp1, Ql0, Qe0]
    · simp -dsimp -implicitDefEqProofs (disch := first | omega | assumption | (simp only [Option.isSome_some, Qt0]; done) | (simp only [UInt64.reduceToNat, UInt32.reduceToNat, UInt8.reduceToNat, List.length_cons, List.length_nil, List.length_append, Int.toNat_natCast] <;> omega) | fail) only [Nat.reduceLT, Nat.reduceLeDiff, Nat.reduceEqDiff, ↓reduceIte, Int.reduceLT, Int.reduceLE, Int.reduceToNat, Int.reduceEq, Int.reduceNe, Nat.reduceAdd, UInt8.reduceOfNat, UInt16.reduceOfNat, UInt32.reduceOfNat, UInt64.reduceOfNat, UInt64.reduceToNat, UInt32.reduceToNat, UInt16.reduceToNat, UInt8.reduceToNat, Int.reduceAdd, Int.reduceSub, Int.reduceMul, Nat.reduceMul, Qp0, Qp1, Ql0, Qe0]
    · simp -dsimp -implicitDefEqProofs (disch := first | omega | assumption | (simp only [Option.isSome_some, Qt0]; done) | (simp only [UInt64.reduceToNat, UInt32.reduceToNat, UInt8.reduceToNat, List.length_cons, List.length_nil, List.length_append, Int.toNat_natCast] <;> omega) | fail) only [Nat.reduceLT, Nat.reduceLeDiff, Nat.reduceEqDiff, ↓reduceIte, Int.reduceLT, Int.reduceLE, Int.reduceToNat, Int.reduceEq, Int.reduceNe, Nat.reduceAdd, UInt8.reduceOfNat, UInt16.reduceOfNat, UInt32.reduceOfNat, UInt64.reduceOfNat, UInt64.reduceToNat, UInt32.reduceToNat, UInt16.reduceToNat, UInt8.reduceToNat, Int.reduceAdd, Int.reduceSub, Int.reduceMul, Nat.reduceMul, Qp0, Qp1, Ql0, Qe0]
      try rfl
    · simp -dsimp -implicitDefEqProofs (disch := first | omega | assumption | (simp only [Option.isSome_some, Qt0]; done) | (simp only [UInt64.reduceToNat, UInt32.reduceToNat, UInt8.reduceToNat, List.length_cons, List.length_nil, List.length_append, Int.toNat_natCast] <;> omega) | fail) only [Nat.reduceLT, Nat.reduceLeDiff, Nat.reduceEqDiff, ↓reduceIte, Int.reduceLT, Int.reduceLE, Int.reduceToNat, Int.reduceEq, Int.reduceNe, Nat.reduceAdd, UInt8.reduceOfNat, UInt16.reduceOfNat, UInt32.reduceOfNat, UInt64.reduceOfNat, UInt64.reduceToNat, UInt32.reduceToNat, UInt16.reduceToNat, UInt8.reduceToNat, Int.reduceAdd, Int.reduceSub, Int.reduceMul, Nat.reduceMul, Qp0, Qp1, Ql0, Qe0]
      try rfl
    · simp -dsimp -implicitDefEqProofs (disch := first | omega | assumption | (simp only [Option.isSome_some, Qt0]; done) | (simp only [UInt64.reduceToNat, UInt32.reduceToNat, UInt8.reduceToNat, List.length_cons, List.length_nil, List.length_append, Int.toNat_natCast] <;> omega) | fail) only [Nat.reduceLT, Nat.reduceLeDiff, Nat.reduceEqDiff, ↓reduceIte, Int.reduceLT, Int.reduceLE, Int.reduceToNat, Int.reduceEq, Int.reduceNe, Nat.reduceAdd, UInt8.reduceOfNat, UInt16.reduceOfNat, UInt32.reduceOfNat, UInt64.reduceOfNat, UInt64.reduceToNat, UInt32.reduceToNat, UInt16.reduceToNat, UInt8.reduceToNat, Int.reduceAdd, Int.reduceSub, Int.reduceMul, Nat.reduceMul, Qp0, Qp1, Ql0, Qe0]
      try rfl
    rintro n f h' ⟨k, acc, wt, hnk, f0, f1, f5, f6, f7, hwt, hacc, hsc, hak, rfl⟩
    have hbad : RI (h'.new ib ⟨[str s, .int .i64 a0, .int .i64 a0], 3⟩) ib s (.bad a0) := ⟨a0, h1, by rw [PH.new_m, if_pos rfl]⟩
    have hcb := (Chg.refl (· = ib) h').one ⟨[str s, .int .i64 a0, .int .i64 a0], 3⟩
    by_cases hk : k < 9
    · have e1 : decide ((k : Int) < 9) = true := decide_eq_true (by omega)
      have hwt := hwt hk
      by_cases hlt : a0 + k < s.length
      · have e2 : decide ((a0 : Int) + (k : Int) < (s.length : Int)) = true := decide_eq_true (by omega)
        obtain ⟨c, hc⟩ : ∃ c, c = s.getD (a0 + k) 0 := ⟨_, rfl⟩
        have hdr : s.drop (a0 + k) = c :: s.drop (a0 + k + 1) := by rw [List.drop_eq_getElem_cons hlt, hc, List.getD, List.getElem?_eq_getElem hlt]; rfl
        rw [hdr, scan, if_neg (by omega)] at hsc
        have hc128 := c.toNat_lt
        obtain ⟨x, hx⟩ : ∃ x : Nat, x = (c.toNat % 128) * 128 ^ k := ⟨_, rfl⟩
        have hp9 := pow9 hk (c.toNat % 128) (Nat.mod_lt _ (by omega))
        rw [Nat.add_mul, Nat.one_mul, ← hx, ← hwt] at hp9
        have hmul : ∀ {t : TypeId} {x' y : Operand} {K : Value → Prop}, Yld Try.prog (binS .mul t x' y (.int .i64 ((c.toNat : Int) % 128)) (.int .i64 (wt : Nat))) K = K (.int .i64 (x : Nat)) := fun {t x' y K} => by
          have e3 : ((c.toNat : Int) % 128) * (wt : Int) = (x : Int) := by rw [hx, hwt]; push_cast; rfl
          rw [y_mul, e3, wrap_in _ (by omega) (by omega)]
        obtain ⟨q, hq⟩ : ∃ q : Nat, q = acc + x := ⟨_, rfl⟩
        have hor : ∀ {t : TypeId} {x' y : Operand} {K : Value → Prop}, Yld Try.prog (binS .add t x' y (.int .i64 (acc : Nat)) (.int .i64 (x : Nat))) K = K (.int .i64 (q : Nat)) := fun {t x' y K} => by
          rw [y_add, show (acc : Int) + (x : Int) = (q : Int) by omega, wrap_in _ (by omega) (by omega)]
        have hq1 : q < 128 ^ (k + 1) := by
          have h5 : (c.toNat % 128 + 1) * 128 ^ k ≤ 128 * 128 ^ k := Nat.mul_le_mul_right _ (by omega)
          rw [Nat.add_mul, Nat.one_mul, ← hx] at h5
          rw [Nat.pow_succ]; omega
        rw [← hx, ← hq] at hsc
        have hga : s.getD ((a0 : Int) + (k : Int)).toNat 0 = c := by rw [show ((a0 : Int) + (k : Int)).toNat = a0 + k by omega]; exact hc.symm
        have hat : (a0 : Int) + (k : Int) < (s.length : Int) := by omega
        by_cases hc1 : 128 ≤ c.toNat
        · have p1 : decide ((c.toNat : Int) < 128) = false := decide_eq_false (by omega)
          rw [if_pos hc1] at hsc
          by_cases hk8 : k < 8
          · have e8 : decide ((k : Int) < 8) = true := decide_eq_true (by omega)
            have hw : (wt : Int) * 128 = ((128 ^ (k + 1) : Nat) : Int) := by rw [hwt, Nat.pow_succ]; push_cast; rfl
            have hwb : 128 ^ (k + 1) ≤ 128 ^ 8 := Nat.pow_le_pow_right (by omega) (by omega)
            have hmul2 : ∀ {t : TypeId} {x' y : Operand} {K : Value → Prop}, Yld Try.prog (binS .mul t x' y (.int .i64 (wt : Nat)) (.int .i64 128)) K = K (.int .i64 ((128 ^ (k + 1) : Nat))) := fun {t x' y K} => by
              rw [y_mul, hw, wrap_in _ (by omega) (by omega)]
            obtain ⟨wt2, hwt2⟩ : ∃ w2, w2 = 128 ^ (k + 1) := ⟨_, rfl⟩
            rw [← hwt2] at hmul2
            simp -dsimp -implicitDefEqProofs (disch := first | omega | assumption | (simp only [Option.isSome_some, Qt0]; done) | (simp only [UInt64.reduceToNat, UInt32.reduceToNat, UInt8.reduceToNat, List.length_cons, List.length_nil, List.length_append, Int.toNat_natCast] <;> omega) | fail) only [Nat.reduceLT, Nat.reduceLeDiff, Nat.reduceEqDiff, ↓reduceIte, Int.reduceLT, Int.reduceLE, Int.reduceToNat, Int.reduceEq, Int.reduceNe, Nat.reduceAdd, UInt8.reduceOfNat, UInt16.reduceOfNat, UInt32.reduceOfNat, UInt64.reduceOfNat, UInt64.reduceToNat, UInt32.reduceToNat, UInt16.reduceToNat, UInt8.reduceToNat, Int.reduceAdd, Int.reduceSub, Int.reduceMul, Nat.reduceMul, Qp0, Qp1, Ql0, Qe0, f0, f1, f5, f6, f7, e1]
            refine PW_drawn 16 _ (by kernel_rfl) (by kernel_rfl) (by kernel_rfl) (by kernel_rfl) (by kernel_rfl) (fun c f h hq => by simp only [thenC_panic, thenK_panic, inBlk_panic, thenN_panic, vcRet_panic] at hq) (PH.Le.refl _).sub ?_
            simp -dsimp -implicitDefEqProofs (disch := first | omega | assumption | (simp only [Option.isSome_some, Qt0]; done) | (simp only [UInt64.reduceToNat, UInt32.reduceToNat, UInt8.reduceToNat, List.length_cons, List.length_nil, List.length_append, Int.toNat_natCast] <;> omega) | fail) only [Nat.reduceLT, Nat.reduceLeDiff, Nat.reduceEqDiff, ↓reduceIte, Int.reduceLT, Int.reduceLE, Int.reduceToNat, Int.reduceEq, Int.reduceNe, Nat.reduceAdd, UInt8.reduceOfNat, UInt16.reduceOfNat, UInt32.reduceOfNat, UInt64.reduceOfNat, UInt64.reduceToNat, UInt32.reduceToNat, UInt16.reduceToNat, UInt8.reduceToNat, Int.reduceAdd, Int.reduceSub, Int.reduceMul, Nat.reduceMul, Qp0, Qp1, Ql0, Qe0, f0, f1, f5, f6, f7, e1, rd_M, rdM_some, h3, e2]
            refine PW_drawn 13 _ (by kernel_rfl) (by kernel_rfl) (by kernel_rfl) (by kernel_rfl) (by kernel_rfl) (fun c f h hq => by simp only [thenC_panic, thenK_panic, inBlk_panic, thenN_panic, vcRet_panic] at hq) (PH.Le.refl _).sub ?_
            simp -dsimp -implicitDefEqProofs (disch := first | omega | assumption | (simp only [Option.isSome_some, Qt0]; done) | (simp only [UInt64.reduceToNat, UInt32.reduceToNat, UInt8.reduceToNat, List.length_cons, List.length_nil, List.length_append, Int.toNat_natCast] <;> omega) | fail) only [Nat.reduceLT, Nat.reduceLeDiff, Nat.reduceEqDiff, ↓reduceIte, Int.reduceLT, Int.reduceLE, Int.reduceToNat, Int.reduceEq, Int.reduceNe, Nat.reduceAdd, UInt8.reduceOfNat, UInt16.reduceOfNat, UInt32.reduceOfNat, UInt64.reduceOfNat, UInt64.reduceToNat, UInt32.reduceToNat, UInt16.reduceToNat, UInt8.reduceToNat, Int.reduceAdd, Int.reduceSub, Int.reduceMul, Nat.reduceMul, Qp0, Qp1, Ql0, Qe0, f0, f1, f5, f6, f7, rd_M, rdM_some, h3, hga, hmul, hor, p1, e8, hmul2]
            exact ⟨n - 1, _, by omega, PH.Le.refl _, k + 1, q, wt2, by omega, by trivial, by trivial, by trivial, by trivial, by simp, fun _ => hwt2, hq1, by rw [hsc]; rfl, by omega, rfl⟩
          · have e8 : decide ((k : Int) < 8) = false := decide_eq_false (by omega)
            simp -dsimp -implicitDefEqProofs (disch := first | omega | assumption | (simp only [Option.isSome_some, Qt0]; done) | (simp only [UInt64.reduceToNat, UInt32.reduceToNat, UInt8.reduceToNat, List.length_cons, List.length_nil, List.length_append, Int.toNat_natCast] <;> omega) | fail) only [Nat.reduceLT, Nat.reduceLeDiff, Nat.reduceEqDiff, ↓reduceIte, Int.reduceLT, Int.reduceLE, Int.reduceToNat, Int.reduceEq, Int.reduceNe, Nat.reduceAdd, UInt8.reduceOfNat, UInt16.reduceOfNat, UInt32.reduceOfNat, UInt64.reduceOfNat, UInt64.reduceToNat, UInt32.reduceToNat, UInt16.reduceToNat, UInt8.reduceToNat, Int.reduceAdd, Int.reduceSub, Int.reduceMul, Nat.reduceMul, Qp0, Qp1, Ql0, Qe0, f0, f1, f5, f6, f7, e1]
            refine PW_drawn 16 _ (by kernel_rfl) (by kernel_rfl) (by kernel_rfl) (by kernel_rfl) (by kernel_rfl) (fun c f h hq => by simp only [thenC_panic, thenK_panic, inBlk_panic, thenN_panic, vcRet_panic] at hq) (PH.Le.refl _).sub ?_
            simp -dsimp -implicitDefEqProofs (disch := first | omega | assumption | (simp only [Option.isSome_some, Qt0]; done) | (simp only [UInt64.reduceToNat, UInt32.reduceToNat, UInt8.reduceToNat, List.length_cons, List.length_nil, List.length_append, Int.toNat_natCast] <;> omega) | fail) only [Nat.reduceLT, Nat.reduceLeDiff, Nat.reduceEqDiff, ↓reduceIte, Int.reduceLT, Int.reduceLE, Int.reduceToNat, Int.reduceEq, Int.reduceNe, Nat.reduceAdd, UInt8.reduceOfNat, UInt16.reduceOfNat, UInt32.reduceOfNat, UInt64.reduceOfNat, UInt64.reduceToNat, UInt32.reduceToNat, UInt16.reduceToNat, UInt8.reduceToNat, Int.reduceAdd, Int.reduceSub, Int.reduceMul, Nat.reduceMul, Qp0, Qp1, Ql0, Qe0, f0, f1, f5, f6, f7, e1, rd_M, rdM_some, h3, e2]
            refine PW_drawn 13 _ (by kernel_rfl) (by kernel_rfl) (by kernel_rfl) (by kernel_rfl) (by kernel_rfl) (fun c f h hq => by simp only [thenC_panic, thenK_panic, inBlk_panic, thenN_panic, vcRet_panic] at hq) (PH.Le.refl _).sub ?_
            simp -dsimp -implicitDefEqProofs (disch := first | omega | assumption | (simp only [Option.isSome_some, Qt0]; done) | (simp only [UInt64.reduceToNat, UInt32.reduceToNat, UInt8.reduceToNat, List.length_cons, List.length_nil, List.length_append, Int.toNat_natCast] <;> omega) | fail) only [Nat.reduceLT, Nat.reduceLeDiff, Nat.reduceEqDiff, ↓reduceIte, Int.reduceLT, Int.reduceLE, Int.reduceToNat, Int.reduceEq, Int.reduceNe, Nat.reduceAdd, UInt8.reduceOfNat, UInt16.reduceOfNat, UInt32.reduceOfNat, UInt64.reduceOfNat, UInt64.reduceToNat, UInt32.reduceToNat, UInt16.reduceToNat, UInt8.reduceToNat, Int.reduceAdd, Int.reduceSub, Int.reduceMul, Nat.reduceMul, Qp0, Qp1, Ql0, Qe0, f0, f1, f5, f6, f7, rd_M, rdM_some, h3, hga, hmul, hor, p1, e8]
            exact ⟨n - 1, _, by omega, PH.Le.refl _, k + 1, q, wt, by omega, by trivial, by trivial, by trivial, by trivial, by simp, fun _ => by omega, hq1, by rw [hsc]; rfl, by omega, rfl⟩
        have p1 : decide ((c.toNat : Int) < 128) = true := decide_eq_true (by omega)
        rw [if_neg hc1] at hsc
        have hqc : acc + c.toNat * 128 ^ k = q := by rw [hq, hx, Nat.mod_eq_of_lt (by omega)]
        rw [hqc] at hsc
        obtain ⟨b1, hb1⟩ : ∃ b, decide ((c.toNat : Int) = 0) = b := ⟨_, rfl⟩
        obtain ⟨b2, hb2⟩ : ∃ b, decide ((k : Int) > 0) = b := ⟨_, rfl⟩
        obtain ⟨b3, hb3⟩ : ∃ b, decide ((q : Int) > most) = b := ⟨_, rfl⟩
        obtain ⟨b4, hb4⟩ : ∃ b, decide ((q : Int) > 4611686018427387903) = b := ⟨_, rfl⟩
        have b5 : decide ((q : Int) < 0) = false := decide_eq_false (by omega)
        have hnum : numP (s.drop a0) most = if (b1 && b2) || b3 || b4 then none else some (q, s.drop (a0 + k + 1)) := by
          by_cases hz : c.toNat = 0 ∧ 0 < k
          · rw [if_pos hz] at hsc
            rw [numP_scan hsc, ← hb1, ← hb2, decide_eq_true (by omega), decide_eq_true (by omega)]; rfl
          · rw [if_neg hz] at hsc
            rw [numP_scan2 hsc]
            have hz' : (b1 && b2) = false := by
              rw [← hb1, ← hb2, Bool.and_eq_false_iff, decide_eq_false_iff_not, decide_eq_false_iff_not]; omega
            rw [hz', ← hb3, ← hb4]
            unfold top62
            simp only [Bool.false_or, Bool.or_eq_true, decide_eq_true_eq]
            congr 1
            apply propext; omega
        have hok : RI (h'.new ib ⟨[str s, .int .i64 ((a0 : Int) + (k : Int) + 1), .int .i64 (-1)], 3⟩) ib s (.ok (s.drop (a0 + k + 1))) := ⟨a0 + k + 1, by omega, rfl, by rw [PH.new_m, if_pos rfl]; rfl⟩
        have hco := (Chg.refl (· = ib) h').one ⟨[str s, .int .i64 ((a0 : Int) + (k : Int) + 1), .int .i64 (-1)], 3⟩
        simp -dsimp -implicitDefEqProofs (disch := first | omega | assumption | (simp only [Option.isSome_some, Qt0]; done) | (simp only [UInt64.reduceToNat, UInt32.reduceToNat, UInt8.reduceToNat, List.length_cons, List.length_nil, List.length_append, Int.toNat_natCast] <;> omega) | fail) only [Nat.reduceLT, Nat.reduceLeDiff, Nat.reduceEqDiff, ↓reduceIte, Int.reduceLT, Int.reduceLE, Int.reduceToNat, Int.reduceEq, Int.reduceNe, Nat.reduceAdd, UInt8.reduceOfNat, UInt16.reduceOfNat, UInt32.reduceOfNat, UInt64.reduceOfNat, UInt64.reduceToNat, UInt32.reduceToNat, UInt16.reduceToNat, UInt8.reduceToNat, Int.reduceAdd, Int.reduceSub, Int.reduceMul, Nat.reduceMul, Qp0, Qp1, Ql0, Qe0, f0, f1, f5, f6, f7, e1]
        refine PW_drawn 16 _ (by kernel_rfl) (by kernel_rfl) (by kernel_rfl) (by kernel_rfl) (by kernel_rfl) (fun c f h hq => by simp only [thenC_panic, thenK_panic, inBlk_panic, thenN_panic, vcRet_panic] at hq) (PH.Le.refl _).sub ?_
        simp -dsimp -implicitDefEqProofs (disch := first | omega | assumption | (simp only [Option.isSome_some, Qt0]; done) | (simp only [UInt64.reduceToNat, UInt32.reduceToNat, UInt8.reduceToNat, List.length_cons, List.length_nil, List.length_append, Int.toNat_natCast] <;> omega) | fail) only [Nat.reduceLT, Nat.reduceLeDiff, Nat.reduceEqDiff, ↓reduceIte, Int.reduceLT, Int.reduceLE, Int.reduceToNat, Int.reduceEq, Int.reduceNe, Nat.reduceAdd, UInt8.reduceOfNat, UInt16.reduceOfNat, UInt32.reduceOfNat, UInt64.reduceOfNat, UInt64.reduceToNat, UInt32.reduceToNat, UInt16.reduceToNat, UInt8.reduceToNat, Int.reduceAdd, Int.reduceSub, Int.reduceMul, Nat.reduceMul, Qp0, Qp1, Ql0, Qe0, f0, f1, f5, f6, f7, e1, rd_M, rdM_some, h3, e2]
        refine PW_drawn 13 _ (by kernel_rfl) (by kernel_rfl) (by kernel_rfl) (by kernel_rfl) (by kernel_rfl) (fun c f h hq => by simp only [thenC_panic, thenK_panic, inBlk_panic, thenN_panic, vcRet_panic] at hq) (PH.Le.refl _).sub ?_
        simp -dsimp -implicitDefEqProofs (disch := first | omega | assumption | (simp only [Option.isSome_some, Qt0]; done) | (simp only [UInt64.reduceToNat, UInt32.reduceToNat, UInt8.reduceToNat, List.length_cons, List.length_nil, List.length_append, Int.toNat_natCast] <;> omega) | fail) only [Nat.reduceLT, Nat.reduceLeDiff, Nat.reduceEqDiff, ↓reduceIte, Int.reduceLT, Int.reduceLE, Int.reduceToNat, Int.reduceEq, Int.reduceNe, Nat.reduceAdd, UInt8.reduceOfNat, UInt16.reduceOfNat, UInt32.reduceOfNat, UInt64.reduceOfNat, UInt64.reduceToNat, UInt32.reduceToNat, UInt16.reduceToNat, UInt8.reduceToNat, Int.reduceAdd, Int.reduceSub, Int.reduceMul, Nat.reduceMul, Qp0, Qp1, Ql0, Qe0, f0, f1, f5, f6, f7, rd_M, rdM_some, h3, hga, hmul, hor, p1]
        cases b3
        · cases b4
          · cases b1
            · rw [numS_ok _ hnum]
              simp -dsimp -implicitDefEqProofs (disch := first | omega | assumption | (simp only [Option.isSome_some, Qt0]; done) | (simp only [UInt64.reduceToNat, UInt32.reduceToNat, UInt8.reduceToNat, List.length_cons, List.length_nil, List.length_append, Int.toNat_natCast] <;> omega) | fail) only [Nat.reduceLT, Nat.reduceLeDiff, Nat.reduceEqDiff, ↓reduceIte, Int.reduceLT, Int.reduceLE, Int.reduceToNat, Int.reduceEq, Int.reduceNe, Nat.reduceAdd, UInt8.reduceOfNat, UInt16.reduceOfNat, UInt32.reduceOfNat, UInt64.reduceOfNat, UInt64.reduceToNat, UInt32.reduceToNat, UInt16.reduceToNat, UInt8.reduceToNat, Int.reduceAdd, Int.reduceSub, Int.reduceMul, Nat.reduceMul, Qp0, Qp1, Ql0, Qe0, f0, f1, f5, f6, f7, hb1, hb2, hb3, hb4, b5, rd_M, rdM_some, h3, List.set_cons_zero, List.set_cons_succ]
              exact ⟨_, PH.Le.refl _, by first | rfl | trivial, hok, hco⟩
            · cases b2
              · rw [numS_ok _ hnum]
                simp -dsimp -implicitDefEqProofs (disch := first | omega | assumption | (simp only [Option.isSome_some, Qt0]; done) | (simp only [UInt64.reduceToNat, UInt32.reduceToNat, UInt8.reduceToNat, List.length_cons, List.length_nil, List.length_append, Int.toNat_natCast] <;> omega) | fail) only [Nat.reduceLT, Nat.reduceLeDiff, Nat.reduceEqDiff, ↓reduceIte, Int.reduceLT, Int.reduceLE, Int.reduceToNat, Int.reduceEq, Int.reduceNe, Nat.reduceAdd, UInt8.reduceOfNat, UInt16.reduceOfNat, UInt32.reduceOfNat, UInt64.reduceOfNat, UInt64.reduceToNat, UInt32.reduceToNat, UInt16.reduceToNat, UInt8.reduceToNat, Int.reduceAdd, Int.reduceSub, Int.reduceMul, Nat.reduceMul, Qp0, Qp1, Ql0, Qe0, f0, f1, f5, f6, f7, hb1, hb2, hb3, hb4, b5, rd_M, rdM_some, h3, List.set_cons_zero, List.set_cons_succ]
                exact ⟨_, PH.Le.refl _, by first | rfl | trivial, hok, hco⟩
              · rw [numS_fail _ hnum, hfl]
                simp -dsimp -implicitDefEqProofs (disch := first | omega | assumption | (simp only [Option.isSome_some, Qt0]; done) | (simp only [UInt64.reduceToNat, UInt32.reduceToNat, UInt8.reduceToNat, List.length_cons, List.length_nil, List.length_append, Int.toNat_natCast] <;> omega) | fail) only [Nat.reduceLT, Nat.reduceLeDiff, Nat.reduceEqDiff, ↓reduceIte, Int.reduceLT, Int.reduceLE, Int.reduceToNat, Int.reduceEq, Int.reduceNe, Nat.reduceAdd, UInt8.reduceOfNat, UInt16.reduceOfNat, UInt32.reduceOfNat, UInt64.reduceOfNat, UInt64.reduceToNat, UInt32.reduceToNat, UInt16.reduceToNat, UInt8.reduceToNat, Int.reduceAdd, Int.reduceSub, Int.reduceMul, Nat.reduceMul, Qp0, Qp1, Ql0, Qe0, f0, f1, f5, f6, f7, hb1, hb2, hb3, hb4, b5, rd_M, rdM_some, h3, List.set_cons_zero, List.set_cons_succ]
                exact ⟨_, PH.Le.refl _, by first | rfl | trivial, hbad, hcb⟩
          · rw [numS_fail _ (by rw [hnum]; simp), hfl]
            cases b1 <;> cases b2
            all_goals
              simp -dsimp -implicitDefEqProofs (disch := first | omega | assumption | (simp only [Option.isSome_some, Qt0]; done) | (simp only [UInt64.reduceToNat, UInt32.reduceToNat, UInt8.reduceToNat, List.length_cons, List.length_nil, List.length_append, Int.toNat_natCast] <;> omega) | fail) only [Nat.reduceLT, Nat.reduceLeDiff, Nat.reduceEqDiff, ↓reduceIte, Int.reduceLT, Int.reduceLE, Int.reduceToNat, Int.reduceEq, Int.reduceNe, Nat.reduceAdd, UInt8.reduceOfNat, UInt16.reduceOfNat, UInt32.reduceOfNat, UInt64.reduceOfNat, UInt64.reduceToNat, UInt32.reduceToNat, UInt16.reduceToNat, UInt8.reduceToNat, Int.reduceAdd, Int.reduceSub, Int.reduceMul, Nat.reduceMul, Qp0, Qp1, Ql0, Qe0, f0, f1, f5, f6, f7, hb1, hb2, hb3, hb4, b5, rd_M, rdM_some, h3, List.set_cons_zero, List.set_cons_succ]
              exact ⟨_, PH.Le.refl _, by first | rfl | trivial, hbad, hcb⟩
        · rw [numS_fail _ (by rw [hnum]; simp), hfl]
          cases b1 <;> cases b2
          all_goals
            simp -dsimp -implicitDefEqProofs (disch := first | omega | assumption | (simp only [Option.isSome_some, Qt0]; done) | (simp only [UInt64.reduceToNat, UInt32.reduceToNat, UInt8.reduceToNat, List.length_cons, List.length_nil, List.length_append, Int.toNat_natCast] <;> omega) | fail) only [Nat.reduceLT, Nat.reduceLeDiff, Nat.reduceEqDiff, ↓reduceIte, Int.reduceLT, Int.reduceLE, Int.reduceToNat, Int.reduceEq, Int.reduceNe, Nat.reduceAdd, UInt8.reduceOfNat, UInt16.reduceOfNat, UInt32.reduceOfNat, UInt64.reduceOfNat, UInt64.reduceToNat, UInt32.reduceToNat, UInt16.reduceToNat, UInt8.reduceToNat, Int.reduceAdd, Int.reduceSub, Int.reduceMul, Nat.reduceMul, Qp0, Qp1, Ql0, Qe0, f0, f1, f5, f6, f7, hb1, hb2, hb3, hb4, b5, rd_M, rdM_some, h3, List.set_cons_zero, List.set_cons_succ]
            exact ⟨_, PH.Le.refl _, by first | rfl | trivial, hbad, hcb⟩
      · have e2 : decide ((a0 : Int) + (k : Int) < (s.length : Int)) = false := decide_eq_false (by omega)
        rw [show s.drop (a0 + k) = [] from List.drop_eq_nil_of_le (by omega), scan_end] at hsc
        rw [numS_fail _ (numP_scan hsc), hfl]
        simp -dsimp -implicitDefEqProofs (disch := first | omega | assumption | (simp only [Option.isSome_some, Qt0]; done) | (simp only [UInt64.reduceToNat, UInt32.reduceToNat, UInt8.reduceToNat, List.length_cons, List.length_nil, List.length_append, Int.toNat_natCast] <;> omega) | fail) only [Nat.reduceLT, Nat.reduceLeDiff, Nat.reduceEqDiff, ↓reduceIte, Int.reduceLT, Int.reduceLE, Int.reduceToNat, Int.reduceEq, Int.reduceNe, Nat.reduceAdd, UInt8.reduceOfNat, UInt16.reduceOfNat, UInt32.reduceOfNat, UInt64.reduceOfNat, UInt64.reduceToNat, UInt32.reduceToNat, UInt16.reduceToNat, UInt8.reduceToNat, Int.reduceAdd, Int.reduceSub, Int.reduceMul, Nat.reduceMul, Qp0, Qp1, Ql0, Qe0, f0, f1, f5, f6, f7, e1]
        refine PW_drawn 16 _ (by kernel_rfl) (by kernel_rfl) (by kernel_rfl) (by kernel_rfl) (by kernel_rfl) (fun c f h hq => by simp only [thenC_panic, thenK_panic, inBlk_panic, thenN_panic, vcRet_panic] at hq) (PH.Le.refl _).sub ?_
        simp -dsimp -implicitDefEqProofs (disch := first | omega | assumption | (simp only [Option.isSome_some, Qt0]; done) | (simp only [UInt64.reduceToNat, UInt32.reduceToNat, UInt8.reduceToNat, List.length_cons, List.length_nil, List.length_append, Int.toNat_natCast] <;> omega) | fail) only [Nat.reduceLT, Nat.reduceLeDiff, Nat.reduceEqDiff, ↓reduceIte, Int.reduceLT, Int.reduceLE, Int.reduceToNat, Int.reduceEq, Int.reduceNe, Nat.reduceAdd, UInt8.reduceOfNat, UInt16.reduceOfNat, UInt32.reduceOfNat, UInt64.reduceOfNat, UInt64.reduceToNat, UInt32.reduceToNat, UInt16.reduceToNat, UInt8.reduceToNat, Int.reduceAdd, Int.reduceSub, Int.reduceMul, Nat.reduceMul, Qp0, Qp1, Ql0, Qe0, f0, f1, f5, f6, f7, e1, rd_M, rdM_some, h3, e2, List.set_cons_zero, List.set_cons_succ]
        exact ⟨_, PH.Le.refl _, by first | rfl | trivial, hbad, hcb⟩
    · have e1 : decide ((k : Int) < 9) = false := decide_eq_false (by omega)
      have hsc : scan 0 0 (s.drop a0) = none := by rw [hsc, show k = 9 by omega, scan_nine]
      rw [numS_fail _ (numP_scan hsc), hfl]
      simp -dsimp -implicitDefEqProofs (disch := first | omega | assumption | (simp only [Option.isSome_some, Qt0]; done) | (simp only [UInt64.reduceToNat, UInt32.reduceToNat, UInt8.reduceToNat, List.length_cons, List.length_nil, List.length_append, Int.toNat_natCast] <;> omega) | fail) only [Nat.reduceLT, Nat.reduceLeDiff, Nat.reduceEqDiff, ↓reduceIte, Int.reduceLT, Int.reduceLE, Int.reduceToNat, Int.reduceEq, Int.reduceNe, Nat.reduceAdd, UInt8.reduceOfNat, UInt16.reduceOfNat, UInt32.reduceOfNat, UInt64.reduceOfNat, UInt64.reduceToNat, UInt32.reduceToNat, UInt16.reduceToNat, UInt8.reduceToNat, Int.reduceAdd, Int.reduceSub, Int.reduceMul, Nat.reduceMul, Qp0, Qp1, Ql0, Qe0, f0, f1, f5, f6, f7, e1]
      refine PW_drawn 16 _ (by kernel_rfl) (by kernel_rfl) (by kernel_rfl) (by kernel_rfl) (by kernel_rfl) (fun c f h hq => by simp only [thenC_panic, thenK_panic, inBlk_panic, thenN_panic, vcRet_panic] at hq) (PH.Le.refl _).sub ?_
      simp -dsimp -implicitDefEqProofs (disch := first | omega | assumption | (simp only [Option.isSome_some, Qt0]; done) | (simp only [UInt64.reduceToNat, UInt32.reduceToNat, UInt8.reduceToNat, List.length_cons, List.length_nil, List.length_append, Int.toNat_natCast] <;> omega) | fail) only [Nat.reduceLT, Nat.reduceLeDiff, Nat.reduceEqDiff, ↓reduceIte, Int.reduceLT, Int.reduceLE, Int.reduceToNat, Int.reduceEq, Int.reduceNe, Nat.reduceAdd, UInt8.reduceOfNat, UInt16.reduceOfNat, UInt32.reduceOfNat, UInt64.reduceOfNat, UInt64.reduceToNat, UInt32.reduceToNat, UInt16.reduceToNat, UInt8.reduceToNat, Int.reduceAdd, Int.reduceSub, Int.reduceMul, Nat.reduceMul, Qp0, Qp1, Ql0, Qe0, f0, f1, f5, f6, f7, e1, rd_M, rdM_some, h3, List.set_cons_zero, List.set_cons_succ]
      exact ⟨_, PH.Le.refl _, by first | rfl | trivial, hbad, hcb⟩
end
end Go.Proofs.Ytdhgmifgjaedbaa


/- The document's reader: Text, Flag, Vec, Fault; Trimmed. No condition. -/
namespace Go.Proofs.Ytdhgmifgjaedbaa
set_option linter.unusedVariables false
set_option linter.unusedSimpArgs false
open Go.RowKit Px Wr
def Wr.St.fault (len : Nat) : St → Int
  | .ok [] => -1
  | .ok t => (len - t.length : Nat)
  | .bad p => p
section
variable (w0 : World) (h : PH) (ib : Nat) (s : List UInt8)
set_option maxRecDepth 20000 in
set_option maxHeartbeats 2000000 in
theorem rtext_any (hs : s.length ≤ 1000000000) (most : Int) (st : St) (hi : RI h ib s st) : PCalls Try.prog w0 51 [.pointer (some ⟨ib, 0, none⟩), .int .i64 most] h fun r h' => r = str (txtS most s.length st).1 ∧ RI h' ib s (txtS most s.length st).2 ∧ Chg (· = ib) h h' := by
  refine PCalls_body Try.func51 (by kernel_rfl) rfl _ Try.ntmps51 (by kernel_rfl) (by kernel_rfl) _ Try.results51 ?_
  have hN := rnum_any w0 h ib s hs most _ hi
  cases st with
  | bad p =>
    rw [txtS_bad]
    have hn : numS most s.length (.bad p) = (0, .bad p) := rfl
    rw [hn] at hN
    have hN := Lib.hid hN
    obtain ⟨a, h1, h3⟩ := hi
    simp -dsimp -implicitDefEqProofs (disch := first | omega | assumption | (simp only [Option.isSome_some, Qt0]; done) | (simp only [UInt64.reduceToNat, UInt32.reduceToNat, UInt8.reduceToNat, List.length_cons, List.length_nil, List.length_append, Int.toNat_natCast] <;> omega) | fail) only [Nat.reduceLT, Nat.reduceLeDiff, Nat.reduceEqDiff, ↓reduceIte, Int.reduceLT, Int.reduceLE, Int.reduceToNat, Int.reduceEq, Int.reduceNe, Nat.reduceAdd, UInt8.reduceOfNat, UInt16.reduceOfNat, UInt32.reduceOfNat, UInt64.reduceOfNat, UInt64.reduceToNat, UInt32.reduceToNat, UInt16.reduceToNat, UInt8.reduceToNat, Int.reduceAdd, Int.reduceSub, Int.reduceMul, Nat.reduceMul, Qp0, Qp1, Ql0, Qe0, rd_M, rdM_some, h3]
    refine hN.out.mono ?_
    rintro v h2 ⟨rfl, hi2, hc2⟩
    obtain ⟨a2, g1, g3⟩ := id hi2
    have e0 : decide ((p : Int) ≥ 0) = true := decide_eq_true (by omega)
    simp -dsimp -implicitDefEqProofs (disch := first | omega | assumption | (simp only [Option.isSome_some, Qt0]; done) | (simp only [UInt64.reduceToNat, UInt32.reduceToNat, UInt8.reduceToNat, List.length_cons, List.length_nil, List.length_append, Int.toNat_natCast] <;> omega) | fail) only [Nat.reduceLT, Nat.reduceLeDiff, Nat.reduceEqDiff, ↓reduceIte, Int.reduceLT, Int.reduceLE, Int.reduceToNat, Int.reduceEq, Int.reduceNe, Nat.reduceAdd, UInt8.reduceOfNat, UInt16.reduceOfNat, UInt32.reduceOfNat, UInt64.reduceOfNat, UInt64.reduceToNat, UInt32.reduceToNat, UInt16.reduceToNat, UInt8.reduceToNat, Int.reduceAdd, Int.reduceSub, Int.reduceMul, Nat.reduceMul, Qp0, Qp1, Ql0, Qe0, rd_M, rdM_some, g3, e0]
    exact ⟨_, PH.Le.refl _, by first | rfl | trivial, hi2, hc2⟩
  | ok t =>
    obtain ⟨a0, h1, rfl, h3⟩ := hi
    have hfl : s.length - (s.drop a0).length = a0 := by simp; omega
    cases hp : numP (s.drop a0) most with
    | none =>
      rw [txtS_no _ hp, hfl]
      rw [numS_fail _ hp, hfl] at hN
      have hN := Lib.hid hN
      simp -dsimp -implicitDefEqProofs (disch := first | omega | assumption | (simp only [Option.isSome_some, Qt0]; done) | (simp only [UInt64.reduceToNat, UInt32.reduceToNat, UInt8.reduceToNat, List.length_cons, List.length_nil, List.length_append, Int.toNat_natCast] <;> omega) | fail) only [Nat.reduceLT, Nat.reduceLeDiff, Nat.reduceEqDiff, ↓reduceIte, Int.reduceLT, Int.reduceLE, Int.reduceToNat, Int.reduceEq, Int.reduceNe, Nat.reduceAdd, UInt8.reduceOfNat, UInt16.reduceOfNat, UInt32.reduceOfNat, UInt64.reduceOfNat, UInt64.reduceToNat, UInt32.reduceToNat, UInt16.reduceToNat, UInt8.reduceToNat, Int.reduceAdd, Int.reduceSub, Int.reduceMul, Nat.reduceMul, Qp0, Qp1, Ql0, Qe0, rd_M, rdM_some, h3]
      refine hN.out.mono ?_
      rintro v h2 ⟨rfl, hi2, hc2⟩
      obtain ⟨a2, g1, g3⟩ := id hi2
      have e0 : decide ((a0 : Int) ≥ 0) = true := decide_eq_true (by omega)
      simp -dsimp -implicitDefEqProofs (disch := first | omega | assumption | (simp only [Option.isSome_some, Qt0]; done) | (simp only [UInt64.reduceToNat, UInt32.reduceToNat, UInt8.reduceToNat, List.length_cons, List.length_nil, List.length_append, Int.toNat_natCast] <;> omega) | fail) only [Nat.reduceLT, Nat.reduceLeDiff, Nat.reduceEqDiff, ↓reduceIte, Int.reduceLT, Int.reduceLE, Int.reduceToNat, Int.reduceEq, Int.reduceNe, Nat.reduceAdd, UInt8.reduceOfNat, UInt16.reduceOfNat, UInt32.reduceOfNat, UInt64.reduceOfNat, UInt64.reduceToNat, UInt32.reduceToNat, UInt16.reduceToNat, UInt8.reduceToNat, Int.reduceAdd, Int.reduceSub, Int.reduceMul, Nat.reduceMul, Qp0, Qp1, Ql0, Qe0, rd_M, rdM_some, g3, e0]
      exact ⟨_, PH.Le.refl _, by first | rfl | trivial, hi2, hc2⟩
    | some p =>
      obtain ⟨n, u⟩ := p
      rw [numS_ok _ hp] at hN
      have hN := Lib.hid hN
      obtain ⟨hpi, hpm, hpt⟩ := numP_inv hp
      unfold top62 at hpt
      have hul := congrArg List.length hpi
      simp only [List.length_drop, List.length_append] at hul
      simp -dsimp -implicitDefEqProofs (disch := first | omega | assumption | (simp only [Option.isSome_some, Qt0]; done) | (simp only [UInt64.reduceToNat, UInt32.reduceToNat, UInt8.reduceToNat, List.length_cons, List.length_nil, List.length_append, Int.toNat_natCast] <;> omega) | fail) only [Nat.reduceLT, Nat.reduceLeDiff, Nat.reduceEqDiff, ↓reduceIte, Int.reduceLT, Int.reduceLE, Int.reduceToNat, Int.reduceEq, Int.reduceNe, Nat.reduceAdd, UInt8.reduceOfNat, UInt16.reduceOfNat, UInt32.reduceOfNat, UInt64.reduceOfNat, UInt64.reduceToNat, UInt32.reduceToNat, UInt16.reduceToNat, UInt8.reduceToNat, Int.reduceAdd, Int.reduceSub, Int.reduceMul, Nat.reduceMul, Qp0, Qp1, Ql0, Qe0, rd_M, rdM_some, h3]
      refine hN.out.mono ?_
      rintro v h2 ⟨rfl, hi2, hc2⟩
      obtain ⟨a1, g1, g2, g3⟩ := hi2
      have hu : u.length = s.length - a1 := by rw [← g2]; simp
      by_cases hl : u.length < n
      · have e1 : decide ((n : Int) > (s.length : Int) - (a1 : Int)) = true := decide_eq_true (by omega)
        rw [txtS_long _ hp hl, hfl]
        have hc3 := (hc2.one ⟨[str s, .int .i64 a0, .int .i64 (-1)], 3⟩).one ⟨[str s, .int .i64 a0, .int .i64 a0], 3⟩
        simp -dsimp -implicitDefEqProofs (disch := first | omega | assumption | (simp only [Option.isSome_some, Qt0]; done) | (simp only [UInt64.reduceToNat, UInt32.reduceToNat, UInt8.reduceToNat, List.length_cons, List.length_nil, List.length_append, Int.toNat_natCast] <;> omega) | fail) only [Nat.reduceLT, Nat.reduceLeDiff, Nat.reduceEqDiff, ↓reduceIte, Int.reduceLT, Int.reduceLE, Int.reduceToNat, Int.reduceEq, Int.reduceNe, Nat.reduceAdd, UInt8.reduceOfNat, UInt16.reduceOfNat, UInt32.reduceOfNat, UInt64.reduceOfNat, UInt64.reduceToNat, UInt32.reduceToNat, UInt16.reduceToNat, UInt8.reduceToNat, Int.reduceAdd, Int.reduceSub, Int.reduceMul, Nat.reduceMul, Qp0, Qp1, Ql0, Qe0, rd_M, rdM_some, g3]
        refine PW_drawn 12 _ (by kernel_rfl) (by kernel_rfl) (by kernel_rfl) (by kernel_rfl) (by kernel_rfl) (fun c f h hq => by simp only [thenC_panic, thenK_panic, inBlk_panic, thenN_panic, vcRet_panic] at hq) (PH.Le.refl _).sub ?_
        simp -dsimp -implicitDefEqProofs (disch := first | omega | assumption | (simp only [Option.isSome_some, Qt0]; done) | (simp only [UInt64.reduceToNat, UInt32.reduceToNat, UInt8.reduceToNat, List.length_cons, List.length_nil, List.length_append, Int.toNat_natCast] <;> omega) | fail) only [Nat.reduceLT, Nat.reduceLeDiff, Nat.reduceEqDiff, ↓reduceIte, Int.reduceLT, Int.reduceLE, Int.reduceToNat, Int.reduceEq, Int.reduceNe, Nat.reduceAdd, UInt8.reduceOfNat, UInt16.reduceOfNat, UInt32.reduceOfNat, UInt64.reduceOfNat, UInt64.reduceToNat, UInt32.reduceToNat, UInt16.reduceToNat, UInt8.reduceToNat, Int.reduceAdd, Int.reduceSub, Int.reduceMul, Nat.reduceMul, Qp0, Qp1, Ql0, Qe0, rd_M, rdM_some, g3, e1, List.set_cons_zero, List.set_cons_succ, PH.new_m, ite_true]
        refine ⟨_, PH.Le.refl _, by first | rfl | trivial, ⟨a0, h1, by rw [PH.new_m, if_pos rfl]⟩, ?_⟩
        exact hc3
      · have e1 : decide ((n : Int) > (s.length : Int) - (a1 : Int)) = false := decide_eq_false (by omega)
        rw [txtS_ok _ hp hl]
        have hc3 := hc2.one ⟨[str s, .int .i64 ((a1 : Int) + (n : Int)), .int .i64 (-1)], 3⟩
        have g4 : (h2.new ib ⟨[str s, .int .i64 ((a1 : Int) + (n : Int)), .int .i64 (-1)], 3⟩).m ib = some ⟨[str s, .int .i64 ((a1 : Int) + (n : Int)), .int .i64 (-1)], 3⟩ := by rw [PH.new_m, if_pos rfl]
        simp -dsimp -implicitDefEqProofs (disch := first | omega | assumption | (simp only [Option.isSome_some, Qt0]; done) | (simp only [UInt64.reduceToNat, UInt32.reduceToNat, UInt8.reduceToNat, List.length_cons, List.length_nil, List.length_append, Int.toNat_natCast] <;> omega) | fail) only [Nat.reduceLT, Nat.reduceLeDiff, Nat.reduceEqDiff, ↓reduceIte, Int.reduceLT, Int.reduceLE, Int.reduceToNat, Int.reduceEq, Int.reduceNe, Nat.reduceAdd, UInt8.reduceOfNat, UInt16.reduceOfNat, UInt32.reduceOfNat, UInt64.reduceOfNat, UInt64.reduceToNat, UInt32.reduceToNat, UInt16.reduceToNat, UInt8.reduceToNat, Int.reduceAdd, Int.reduceSub, Int.reduceMul, Nat.reduceMul, Qp0, Qp1, Ql0, Qe0, rd_M, rdM_some, g3]
        refine PW_drawn 12 _ (by kernel_rfl) (by kernel_rfl) (by kernel_rfl) (by kernel_rfl) (by kernel_rfl) (fun c f h hq => by simp only [thenC_panic, thenK_panic, inBlk_panic, thenN_panic, vcRet_panic] at hq) (PH.Le.refl _).sub ?_
        simp -dsimp -implicitDefEqProofs (disch := first | omega | assumption | (simp only [Option.isSome_some, Qt0]; done) | (simp only [UInt64.reduceToNat, UInt32.reduceToNat, UInt8.reduceToNat, List.length_cons, List.length_nil, List.length_append, Int.toNat_natCast] <;> omega) | fail) only [Nat.reduceLT, Nat.reduceLeDiff, Nat.reduceEqDiff, ↓reduceIte, Int.reduceLT, Int.reduceLE, Int.reduceToNat, Int.reduceEq, Int.reduceNe, Nat.reduceAdd, UInt8.reduceOfNat, UInt16.reduceOfNat, UInt32.reduceOfNat, UInt64.reduceOfNat, UInt64.reduceToNat, UInt32.reduceToNat, UInt16.reduceToNat, UInt8.reduceToNat, Int.reduceAdd, Int.reduceSub, Int.reduceMul, Nat.reduceMul, Qp0, Qp1, Ql0, Qe0, rd_M, rdM_some, g3, e1, List.set_cons_zero, List.set_cons_succ]
        generalize h2.new ib ⟨[str s, .int .i64 ((a1 : Int) + (n : Int)), .int .i64 (-1)], 3⟩ = h4 at *
        have t1 : ((a1 : Int) + (n : Int) - (n : Int)).toNat = a1 := by omega
        have t2 : ((a1 : Int) + (n : Int)).toNat = a1 + n := by omega
        refine PW_drawn 16 _ (by kernel_rfl) (by kernel_rfl) (by kernel_rfl) (by kernel_rfl) (by kernel_rfl) (fun c f h hq => by simp only [thenC_panic, thenK_panic, inBlk_panic, thenN_panic, vcRet_panic] at hq) (PH.Le.refl _).sub ?_
        simp -dsimp -implicitDefEqProofs (disch := first | omega | assumption | (simp only [Option.isSome_some, Qt0]; done) | (simp only [UInt64.reduceToNat, UInt32.reduceToNat, UInt8.reduceToNat, List.length_cons, List.length_nil, List.length_append, Int.toNat_natCast] <;> omega) | fail) only [Nat.reduceLT, Nat.reduceLeDiff, Nat.reduceEqDiff, ↓reduceIte, Int.reduceLT, Int.reduceLE, Int.reduceToNat, Int.reduceEq, Int.reduceNe, Nat.reduceAdd, UInt8.reduceOfNat, UInt16.reduceOfNat, UInt32.reduceOfNat, UInt64.reduceOfNat, UInt64.reduceToNat, UInt32.reduceToNat, UInt16.reduceToNat, UInt8.reduceToNat, Int.reduceAdd, Int.reduceSub, Int.reduceMul, Nat.reduceMul, Qp0, Qp1, Ql0, Qe0, rd_M, rdM_some, g4, t1, t2]
        have t3 : a1 + n - a1 = n := by omega
        exact ⟨_, PH.Le.refl _, by rw [t3, g2], ⟨a1 + n, by omega, by rw [← g2, List.drop_drop], by rw [g4]; simp⟩, hc3⟩
set_option maxRecDepth 20000 in
theorem rflag_any (hs : s.length ≤ 1000000000) (st : St) (hi : RI h ib s st) : PCalls Try.prog w0 70 [.pointer (some ⟨ib, 0, none⟩)] h fun r h' => r = .bool (flagS s.length st).1 ∧ RI h' ib s (flagS s.length st).2 ∧ Chg (· = ib) h h' := by
  refine PCalls_body Try.func70 (by kernel_rfl) rfl _ Try.ntmps70 (by kernel_rfl) (by kernel_rfl) _ Try.results70 ?_
  have hN := Lib.hid (rnum_any w0 h ib s hs 1 _ hi)
  rw [flagS_eq]
  simp -dsimp -implicitDefEqProofs (disch := first | omega | assumption | (simp only [Option.isSome_some, Qt0]; done) | (simp only [UInt64.reduceToNat, UInt32.reduceToNat, UInt8.reduceToNat, List.length_cons, List.length_nil, List.length_append, Int.toNat_natCast] <;> omega) | fail) only [Nat.reduceLT, Nat.reduceLeDiff, Nat.reduceEqDiff, ↓reduceIte, Int.reduceLT, Int.reduceLE, Int.reduceToNat, Int.reduceEq, Int.reduceNe, Nat.reduceAdd, UInt8.reduceOfNat, UInt16.reduceOfNat, UInt32.reduceOfNat, UInt64.reduceOfNat, UInt64.reduceToNat, UInt32.reduceToNat, UInt16.reduceToNat, UInt8.reduceToNat, Int.reduceAdd, Int.reduceSub, Int.reduceMul, Nat.reduceMul, Qp0, Qp1, Ql0, Qe0]
  refine hN.out.mono ?_
  rintro v h2 ⟨rfl, hi2, hc2⟩
  simp -dsimp -implicitDefEqProofs (disch := first | omega | assumption | (simp only [Option.isSome_some, Qt0]; done) | (simp only [UInt64.reduceToNat, UInt32.reduceToNat, UInt8.reduceToNat, List.length_cons, List.length_nil, List.length_append, Int.toNat_natCast] <;> omega) | fail) only [Nat.reduceLT, Nat.reduceLeDiff, Nat.reduceEqDiff, ↓reduceIte, Int.reduceLT, Int.reduceLE, Int.reduceToNat, Int.reduceEq, Int.reduceNe, Nat.reduceAdd, UInt8.reduceOfNat, UInt16.reduceOfNat, UInt32.reduceOfNat, UInt64.reduceOfNat, UInt64.reduceToNat, UInt32.reduceToNat, UInt16.reduceToNat, UInt8.reduceToNat, Int.reduceAdd, Int.reduceSub, Int.reduceMul, Nat.reduceMul, Qp0, Qp1, Ql0, Qe0]
  exact ⟨_, PH.Le.refl _, by trivial, hi2, hc2⟩
set_option maxRecDepth 20000 in
theorem rfault_any (st : St) (hi : RI h ib s st) : PCalls Try.prog w0 53 [.pointer (some ⟨ib, 0, none⟩)] h fun r h' => r = .int .i64 (st.fault s.length) ∧ h' = h := by
  refine PCalls_body Try.func53 (by kernel_rfl) rfl _ Try.ntmps53 (by kernel_rfl) (by kernel_rfl) _ Try.results53 ?_
  cases st with
  | bad p =>
    obtain ⟨a, h1, h3⟩ := hi
    have e0 : decide ((p : Int) ≥ 0) = true := decide_eq_true (by omega)
    simp -dsimp -implicitDefEqProofs (disch := first | omega | assumption | (simp only [Option.isSome_some, Qt0]; done) | (simp only [UInt64.reduceToNat, UInt32.reduceToNat, UInt8.reduceToNat, List.length_cons, List.length_nil, List.length_append, Int.toNat_natCast] <;> omega) | fail) only [Nat.reduceLT, Nat.reduceLeDiff, Nat.reduceEqDiff, ↓reduceIte, Int.reduceLT, Int.reduceLE, Int.reduceToNat, Int.reduceEq, Int.reduceNe, Nat.reduceAdd, UInt8.reduceOfNat, UInt16.reduceOfNat, UInt32.reduceOfNat, UInt64.reduceOfNat, UInt64.reduceToNat, UInt32.reduceToNat, UInt16.reduceToNat, UInt8.reduceToNat, Int.reduceAdd, Int.reduceSub, Int.reduceMul, Nat.reduceMul, Qp0, Qp1, Ql0, Qe0, rd_M, rdM_some, h3, e0]
    exact ⟨_, PH.Le.refl _, by first | rfl | trivial, rfl⟩
  | ok t =>
    obtain ⟨a, h1, rfl, h3⟩ := hi
    by_cases hl : a < s.length
    · have e1 : decide ((a : Int) < (s.length : Int)) = true := decide_eq_true (by omega)
      simp -dsimp -implicitDefEqProofs (disch := first | omega | assumption | (simp only [Option.isSome_some, Qt0]; done) | (simp only [UInt64.reduceToNat, UInt32.reduceToNat, UInt8.reduceToNat, List.length_cons, List.length_nil, List.length_append, Int.toNat_natCast] <;> omega) | fail) only [Nat.reduceLT, Nat.reduceLeDiff, Nat.reduceEqDiff, ↓reduceIte, Int.reduceLT, Int.reduceLE, Int.reduceToNat, Int.reduceEq, Int.reduceNe, Nat.reduceAdd, UInt8.reduceOfNat, UInt16.reduceOfNat, UInt32.reduceOfNat, UInt64.reduceOfNat, UInt64.reduceToNat, UInt32.reduceToNat, UInt16.reduceToNat, UInt8.reduceToNat, Int.reduceAdd, Int.reduceSub, Int.reduceMul, Nat.reduceMul, Qp0, Qp1, Ql0, Qe0, rd_M, rdM_some, h3]
      refine PW_drawn 10 _ (by kernel_rfl) (by kernel_rfl) (by kernel_rfl) (by kernel_rfl) (by kernel_rfl) (fun c f h hq => by simp only [thenC_panic, thenK_panic, inBlk_panic, thenN_panic, vcRet_panic] at hq) (PH.Le.refl _).sub ?_
      simp -dsimp -implicitDefEqProofs (disch := first | omega | assumption | (simp only [Option.isSome_some, Qt0]; done) | (simp only [UInt64.reduceToNat, UInt32.reduceToNat, UInt8.reduceToNat, List.length_cons, List.length_nil, List.length_append, Int.toNat_natCast] <;> omega) | fail) only [Nat.reduceLT, Nat.reduceLeDiff, Nat.reduceEqDiff, ↓reduceIte, Int.reduceLT, Int.reduceLE, Int.reduceToNat, Int.reduceEq, Int.reduceNe, Nat.reduceAdd, UInt8.reduceOfNat, UInt16.reduceOfNat, UInt32.reduceOfNat, UInt64.reduceOfNat, UInt64.reduceToNat, UInt32.reduceToNat, UInt16.reduceToNat, UInt8.reduceToNat, Int.reduceAdd, Int.reduceSub, Int.reduceMul, Nat.reduceMul, Qp0, Qp1, Ql0, Qe0, rd_M, rdM_some, h3, e1]
      refine ⟨_, PH.Le.refl _, ?_, rfl⟩
      have : s.length - (s.drop a).length = a := by simp; omega
      cases hd : s.drop a with
      | nil => exfalso; rw [hd] at this; simp at this; omega
      | cons c t =>
        show Value.int .i64 (a : Int) = Value.int .i64 ((s.length - (c :: t).length : Nat) : Int)
        rw [← hd, this]
    · have e1 : decide ((a : Int) < (s.length : Int)) = false := decide_eq_false (by omega)
      simp -dsimp -implicitDefEqProofs (disch := first | omega | assumption | (simp only [Option.isSome_some, Qt0]; done) | (simp only [UInt64.reduceToNat, UInt32.reduceToNat, UInt8.reduceToNat, List.length_cons, List.length_nil, List.length_append, Int.toNat_natCast] <;> omega) | fail) only [Nat.reduceLT, Nat.reduceLeDiff, Nat.reduceEqDiff, ↓reduceIte, Int.reduceLT, Int.reduceLE, Int.reduceToNat, Int.reduceEq, Int.reduceNe, Nat.reduceAdd, UInt8.reduceOfNat, UInt16.reduceOfNat, UInt32.reduceOfNat, UInt64.reduceOfNat, UInt64.reduceToNat, UInt32.reduceToNat, UInt16.reduceToNat, UInt8.reduceToNat, Int.reduceAdd, Int.reduceSub, Int.reduceMul, Nat.reduceMul, Qp0, Qp1, Ql0, Qe0, rd_M, rdM_some, h3]
      refine PW_drawn 10 _ (by kernel_rfl) (by kernel_rfl) (by kernel_rfl) (by kernel_rfl) (by kernel_rfl) (fun c f h hq => by simp only [thenC_panic, thenK_panic, inBlk_panic, thenN_panic, vcRet_panic] at hq) (PH.Le.refl _).sub ?_
      simp -dsimp -implicitDefEqProofs (disch := first | omega | assumption | (simp only [Option.isSome_some, Qt0]; done) | (simp only [UInt64.reduceToNat, UInt32.reduceToNat, UInt8.reduceToNat, List.length_cons, List.length_nil, List.length_append, Int.toNat_natCast] <;> omega) | fail) only [Nat.reduceLT, Nat.reduceLeDiff, Nat.reduceEqDiff, ↓reduceIte, Int.reduceLT, Int.reduceLE, Int.reduceToNat, Int.reduceEq, Int.reduceNe, Nat.reduceAdd, UInt8.reduceOfNat, UInt16.reduceOfNat, UInt32.reduceOfNat, UInt64.reduceOfNat, UInt64.reduceToNat, UInt32.reduceToNat, UInt16.reduceToNat, UInt8.reduceToNat, Int.reduceAdd, Int.reduceSub, Int.reduceMul, Nat.reduceMul, Qp0, Qp1, Ql0, Qe0, rd_M, rdM_some, h3, e1]
      rw [List.drop_eq_nil_of_le (by omega)]
      exact ⟨_, PH.Le.refl _, by first | rfl | trivial, rfl⟩
end
set_option maxRecDepth 20000 in
set_option maxHeartbeats 1000000 in
theorem rtrimmed_any (w0 : World) (h : PH) (hl : Low w0 h) (A : Option Addr) (c : Nat) (v : List Int) (m : Int) (hr : Rv w0 h A (ints v)) (hn : v.length ≤ c) (hv : v.length ≤ 9223372036854775807) : PCalls Try.prog w0 29 [.slice A v.length c, .int .i64 m] h fun r h' => r = .bool (trim v m) ∧ h' = h := by
  refine PCalls_body Try.func29 (by kernel_rfl) rfl _ Try.ntmps29 (by kernel_rfl) (by kernel_rfl) _ Try.results29 ?_
  by_cases h16 : v.length ≤ 16
  · have e1 : decide ((v.length : Int) > 16) = false := decide_eq_false (by omega)
    simp -dsimp -implicitDefEqProofs (disch := first | omega | assumption | (simp only [Option.isSome_some, Qt0]; done) | (simp only [UInt64.reduceToNat, UInt32.reduceToNat, UInt8.reduceToNat, List.length_cons, List.length_nil, List.length_append, Int.toNat_natCast] <;> omega) | fail) only [Nat.reduceLT, Nat.reduceLeDiff, Nat.reduceEqDiff, ↓reduceIte, Int.reduceLT, Int.reduceLE, Int.reduceToNat, Int.reduceEq, Int.reduceNe, Nat.reduceAdd, UInt8.reduceOfNat, UInt16.reduceOfNat, UInt32.reduceOfNat, UInt64.reduceOfNat, UInt64.reduceToNat, UInt32.reduceToNat, UInt16.reduceToNat, UInt8.reduceToNat, Int.reduceAdd, Int.reduceSub, Int.reduceMul, Nat.reduceMul, Qp0, Qp1, Ql0, Qe0, e1]
    refine PW_loop (fun n f h' => ∃ i : Nat, n + i = v.length ∧ f 0 = some (.slice A v.length c) ∧ f 1 = some (.int .i64 m) ∧ f 5 = some (.int .i64 i) ∧ (∀ j, j < i → 0 ≤ v.getD j 0 ∧ v.getD j 0 ≤ m) ∧ (i = v.length → v.getLast? ≠ some 0) ∧ h' = h) (by kernel_rfl) v.length ⟨0, by omega, ?_, ?_, ?_, fun j hj => by omega, fun e => by have : v = [] := List.eq_nil_of_length_eq_zero e.symm; rw [this]; simp, rfl⟩ ?_
    · simp -dsimp -implicitDefEqProofs (disch := first | omega | assumption | (simp only [Option.isSome_some, Qt0]; done) | (simp only [UInt64.reduceToNat, UInt32.reduceToNat, UInt8.reduceToNat, List.length_cons, List.length_nil, List.length_append, Int.toNat_natCast] <;> omega) | fail) only [Nat.reduceLT, Nat.reduceLeDiff, Nat.reduceEqDiff, ↓reduceIte, Int.reduceLT, Int.reduceLE, Int.reduceToNat, Int.reduceEq, Int.reduceNe, Nat.reduceAdd, UInt8.reduceOfNat, UInt16.reduceOfNat, UInt32.reduceOfNat, UInt64.reduceOfNat, UInt64.reduceToNat, UInt32.reduceToNat, UInt16.reduceToNat, UInt8.reduceToNat, Int.reduceAdd, Int.reduceSub, Int.reduceMul, Nat.reduceMul, Qp0, Qp1, Ql0, Qe0]
    · simp -dsimp -implicitDefEqProofs (disch := first | omega | assumption | (simp only [Option.isSome_some, Qt0]; done) | (simp only [UInt64.reduceToNat, UInt32.reduceToNat, UInt8.reduceToNat, List.length_cons, List.length_nil, List.length_append, Int.toNat_natCast] <;> omega) | fail) only [Nat.reduceLT, Nat.reduceLeDiff, Nat.reduceEqDiff, ↓reduceIte, Int.reduceLT, Int.reduceLE, Int.reduceToNat, Int.reduceEq, Int.reduceNe, Nat.reduceAdd, UInt8.reduceOfNat, UInt16.reduceOfNat, UInt32.reduceOfNat, UInt64.reduceOfNat, UInt64.reduceToNat, UInt32.reduceToNat, UInt16.reduceToNat, UInt8.reduceToNat, Int.reduceAdd, Int.reduceSub, Int.reduceMul, Nat.reduceMul, Qp0, Qp1, Ql0, Qe0]
    · simp -dsimp -implicitDefEqProofs (disch := first | omega | assumption | (simp only [Option.isSome_some, Qt0]; done) | (simp only [UInt64.reduceToNat, UInt32.reduceToNat, UInt8.reduceToNat, List.length_cons, List.length_nil, List.length_append, Int.toNat_natCast] <;> omega) | fail) only [Nat.reduceLT, Nat.reduceLeDiff, Nat.reduceEqDiff, ↓reduceIte, Int.reduceLT, Int.reduceLE, Int.reduceToNat, Int.reduceEq, Int.reduceNe, Nat.reduceAdd, UInt8.reduceOfNat, UInt16.reduceOfNat, UInt32.reduceOfNat, UInt64.reduceOfNat, UInt64.reduceToNat, UInt32.reduceToNat, UInt16.reduceToNat, UInt8.reduceToNat, Int.reduceAdd, Int.reduceSub, Int.reduceMul, Nat.reduceMul, Qp0, Qp1, Ql0, Qe0]
      try rfl
    rintro n f h' ⟨i, hni, f0, f1, f5, hall, hla, rfl⟩
    by_cases hi : i < v.length
    · have e2 : decide ((i : Int) < (v.length : Int)) = true := decide_eq_true (by omega)
      obtain ⟨b, o, rfl⟩ := hr.addr (by simp [ints]; omega)
      have hgi := hr.get hl (j := i) (u := .int .i64 (v.getD i 0)) (by rw [ints, List.getElem?_map, List.getD, List.getElem?_eq_getElem hi]; rfl)
      obtain ⟨b1, hb1⟩ : ∃ b, decide (v.getD i 0 < 0) = b := ⟨_, rfl⟩
      obtain ⟨b2, hb2⟩ : ∃ b, decide (v.getD i 0 > m) = b := ⟨_, rfl⟩
      obtain ⟨b3, hb3⟩ : ∃ b, decide ((i : Int) = (v.length : Int) - 1) = b := ⟨_, rfl⟩
      obtain ⟨b4, hb4⟩ : ∃ b, decide (v.getD i 0 = 0) = b := ⟨_, rfl⟩
      have hgl : i = v.length - 1 → v.getLast? = some (v.getD i 0) := fun e => by
        rw [List.getLast?_eq_getElem?, ← e, List.getD, List.getElem?_eq_getElem hi]; rfl
      have hno : (b1 || b2 || (b3 && b4)) = true → trim v m = false := fun hx => by
        rw [Bool.eq_false_iff]; intro e
        have h9 := trim_iff.1 e
        have h8 := h9.2.2 i hi
        rw [← hb1, ← hb2, ← hb3, ← hb4] at hx
        simp only [Bool.or_eq_true, Bool.and_eq_true, decide_eq_true_eq] at hx
        rcases hx with (hx | hx) | ⟨hx, hy⟩
        · omega
        · omega
        · exact h9.2.1 (by rw [hgl (by omega), hy])
      have hyes : (b1 || b2 || (b3 && b4)) = false → (∀ j, j < i + 1 → 0 ≤ v.getD j 0 ∧ v.getD j 0 ≤ m) ∧ (i + 1 = v.length → v.getLast? ≠ some 0) := fun hx => by
        rw [← hb1, ← hb2, ← hb3, ← hb4] at hx
        simp only [Bool.or_eq_false_iff, Bool.and_eq_false_iff, decide_eq_false_iff_not] at hx
        refine ⟨fun j hj => ?_, fun e => ?_⟩
        · by_cases hji : j = i
          · subst hji; omega
          · exact hall j (by omega)
        · rw [hgl (by omega)]
          intro e2
          injection e2 with e2
          omega
      cases b1; rotate_left
      · rw [hno rfl]
        simp -dsimp -implicitDefEqProofs (disch := first | omega | assumption | (simp only [Option.isSome_some, Qt0]; done) | (simp only [UInt64.reduceToNat, UInt32.reduceToNat, UInt8.reduceToNat, List.length_cons, List.length_nil, List.length_append, Int.toNat_natCast] <;> omega) | fail) only [Nat.reduceLT, Nat.reduceLeDiff, Nat.reduceEqDiff, ↓reduceIte, Int.reduceLT, Int.reduceLE, Int.reduceToNat, Int.reduceEq, Int.reduceNe, Nat.reduceAdd, UInt8.reduceOfNat, UInt16.reduceOfNat, UInt32.reduceOfNat, UInt64.reduceOfNat, UInt64.reduceToNat, UInt32.reduceToNat, UInt16.reduceToNat, UInt8.reduceToNat, Int.reduceAdd, Int.reduceSub, Int.reduceMul, Nat.reduceMul, Qp0, Qp1, Ql0, Qe0, f0, f1, f5, e2, rd_M, hgi, hb1]
        exact ⟨_, PH.Le.refl _, by first | rfl | trivial, rfl⟩
      cases b2; rotate_left
      · rw [hno rfl]
        simp -dsimp -implicitDefEqProofs (disch := first | omega | assumption | (simp only [Option.isSome_some, Qt0]; done) | (simp only [UInt64.reduceToNat, UInt32.reduceToNat, UInt8.reduceToNat, List.length_cons, List.length_nil, List.length_append, Int.toNat_natCast] <;> omega) | fail) only [Nat.reduceLT, Nat.reduceLeDiff, Nat.reduceEqDiff, ↓reduceIte, Int.reduceLT, Int.reduceLE, Int.reduceToNat, Int.reduceEq, Int.reduceNe, Nat.reduceAdd, UInt8.reduceOfNat, UInt16.reduceOfNat, UInt32.reduceOfNat, UInt64.reduceOfNat, UInt64.reduceToNat, UInt32.reduceToNat, UInt16.reduceToNat, UInt8.reduceToNat, Int.reduceAdd, Int.reduceSub, Int.reduceMul, Nat.reduceMul, Qp0, Qp1, Ql0, Qe0, f0, f1, f5, e2, rd_M, hgi, hb1, hb2]
        exact ⟨_, PH.Le.refl _, by first | rfl | trivial, rfl⟩
      cases b3
      · obtain ⟨y1, y2⟩ := hyes rfl
        simp -dsimp -implicitDefEqProofs (disch := first | omega | assumption | (simp only [Option.isSome_some, Qt0]; done) | (simp only [UInt64.reduceToNat, UInt32.reduceToNat, UInt8.reduceToNat, List.length_cons, List.length_nil, List.length_append, Int.toNat_natCast] <;> omega) | fail) only [Nat.reduceLT, Nat.reduceLeDiff, Nat.reduceEqDiff, ↓reduceIte, Int.reduceLT, Int.reduceLE, Int.reduceToNat, Int.reduceEq, Int.reduceNe, Nat.reduceAdd, UInt8.reduceOfNat, UInt16.reduceOfNat, UInt32.reduceOfNat, UInt64.reduceOfNat, UInt64.reduceToNat, UInt32.reduceToNat, UInt16.reduceToNat, UInt8.reduceToNat, Int.reduceAdd, Int.reduceSub, Int.reduceMul, Nat.reduceMul, Qp0, Qp1, Ql0, Qe0, f0, f1, f5, e2, rd_M, hgi, hb1, hb2, hb3]
        exact ⟨n - 1, _, by omega, PH.Le.refl _, i + 1, by omega, by trivial, by trivial, by simp, y1, y2, rfl⟩
      cases b4
      · obtain ⟨y1, y2⟩ := hyes rfl
        simp -dsimp -implicitDefEqProofs (disch := first | omega | assumption | (simp only [Option.isSome_some, Qt0]; done) | (simp only [UInt64.reduceToNat, UInt32.reduceToNat, UInt8.reduceToNat, List.length_cons, List.length_nil, List.length_append, Int.toNat_natCast] <;> omega) | fail) only [Nat.reduceLT, Nat.reduceLeDiff, Nat.reduceEqDiff, ↓reduceIte, Int.reduceLT, Int.reduceLE, Int.reduceToNat, Int.reduceEq, Int.reduceNe, Nat.reduceAdd, UInt8.reduceOfNat, UInt16.reduceOfNat, UInt32.reduceOfNat, UInt64.reduceOfNat, UInt64.reduceToNat, UInt32.reduceToNat, UInt16.reduceToNat, UInt8.reduceToNat, Int.reduceAdd, Int.reduceSub, Int.reduceMul, Nat.reduceMul, Qp0, Qp1, Ql0, Qe0, f0, f1, f5, e2, rd_M, hgi, hb1, hb2, hb3, hb4]
        exact ⟨n - 1, _, by omega, PH.Le.refl _, i + 1, by omega, by trivial, by trivial, by simp, y1, y2, rfl⟩
      · rw [hno rfl]
        simp -dsimp -implicitDefEqProofs (disch := first | omega | assumption | (simp only [Option.isSome_some, Qt0]; done) | (simp only [UInt64.reduceToNat, UInt32.reduceToNat, UInt8.reduceToNat, List.length_cons, List.length_nil, List.length_append, Int.toNat_natCast] <;> omega) | fail) only [Nat.reduceLT, Nat.reduceLeDiff, Nat.reduceEqDiff, ↓reduceIte, Int.reduceLT, Int.reduceLE, Int.reduceToNat, Int.reduceEq, Int.reduceNe, Nat.reduceAdd, UInt8.reduceOfNat, UInt16.reduceOfNat, UInt32.reduceOfNat, UInt64.reduceOfNat, UInt64.reduceToNat, UInt32.reduceToNat, UInt16.reduceToNat, UInt8.reduceToNat, Int.reduceAdd, Int.reduceSub, Int.reduceMul, Nat.reduceMul, Qp0, Qp1, Ql0, Qe0, f0, f1, f5, e2, rd_M, hgi, hb1, hb2, hb3, hb4]
        exact ⟨_, PH.Le.refl _, by first | rfl | trivial, rfl⟩
    · have e2 : decide ((i : Int) < (v.length : Int)) = false := decide_eq_false (by omega)
      rw [trim_iff.2 ⟨h16, hla (by omega), fun j hj => hall j (by omega)⟩]
      simp -dsimp -implicitDefEqProofs (disch := first | omega | assumption | (simp only [Option.isSome_some, Qt0]; done) | (simp only [UInt64.reduceToNat, UInt32.reduceToNat, UInt8.reduceToNat, List.length_cons, List.length_nil, List.length_append, Int.toNat_natCast] <;> omega) | fail) only [Nat.reduceLT, Nat.reduceLeDiff, Nat.reduceEqDiff, ↓reduceIte, Int.reduceLT, Int.reduceLE, Int.reduceToNat, Int.reduceEq, Int.reduceNe, Nat.reduceAdd, UInt8.reduceOfNat, UInt16.reduceOfNat, UInt32.reduceOfNat, UInt64.reduceOfNat, UInt64.reduceToNat, UInt32.reduceToNat, UInt16.reduceToNat, UInt8.reduceToNat, Int.reduceAdd, Int.reduceSub, Int.reduceMul, Nat.reduceMul, Qp0, Qp1, Ql0, Qe0, f0, f1, f5, e2]
      exact ⟨_, PH.Le.refl _, by first | rfl | trivial, rfl⟩
  · have e1 : decide ((v.length : Int) > 16) = true := decide_eq_true (by omega)
    have ht : trim v m = false := by unfold trim; simp [h16]
    rw [ht]
    simp -dsimp -implicitDefEqProofs (disch := first | omega | assumption | (simp only [Option.isSome_some, Qt0]; done) | (simp only [UInt64.reduceToNat, UInt32.reduceToNat, UInt8.reduceToNat, List.length_cons, List.length_nil, List.length_append, Int.toNat_natCast] <;> omega) | fail) only [Nat.reduceLT, Nat.reduceLeDiff, Nat.reduceEqDiff, ↓reduceIte, Int.reduceLT, Int.reduceLE, Int.reduceToNat, Int.reduceEq, Int.reduceNe, Nat.reduceAdd, UInt8.reduceOfNat, UInt16.reduceOfNat, UInt32.reduceOfNat, UInt64.reduceOfNat, UInt64.reduceToNat, UInt32.reduceToNat, UInt16.reduceToNat, UInt8.reduceToNat, Int.reduceAdd, Int.reduceSub, Int.reduceMul, Nat.reduceMul, Qp0, Qp1, Ql0, Qe0, e1]
    exact ⟨_, PH.Le.refl _, by trivial, rfl⟩
end Go.Proofs.Ytdhgmifgjaedbaa


/- Claims and writes: which are right, which are alike. No condition. -/
namespace Go.Proofs.Ytdhgmifgjaedbaa
set_option linter.unusedVariables false
set_option linter.unusedSimpArgs false
open Go.RowKit Px Wr
/-- Claims. -/
structure Cl where
  s : List UInt8
  u : List UInt8
  e : Int
  i : Int
  k : Int
  x : List Int
/-- A write: its region, number, time, the stamp's region, what it follows, session, key, value, gone, life. -/
structure Wt where
  r : Int
  n : Int
  t : Int
  q : Int
  d : List Int
  s : List UInt8
  k : List UInt8
  v : List UInt8
  g : Bool
  l : Int
theorem Cl.ext' {a b : Cl} (h1 : a.s = b.s) (h2 : a.u = b.u) (h3 : a.e = b.e) (h4 : a.i = b.i) (h5 : a.k = b.k) (h6 : a.x = b.x) : a = b := by
  cases a; cases b; simp_all
theorem Wt.ext' {a b : Wt} (h1 : a.r = b.r) (h2 : a.n = b.n) (h3 : a.t = b.t) (h4 : a.q = b.q) (h5 : a.d = b.d) (h6 : a.s = b.s) (h7 : a.k = b.k) (h8 : a.v = b.v) (h9 : a.g = b.g) (h10 : a.l = b.l) : a = b := by
  cases a; cases b; simp_all
def wtL (c : Wt) (A : Option Addr) (cap : Nat) : List Value := [.int .i64 c.r, .int .i64 c.n, .int .i64 c.t, .int .i64 c.q, .slice A c.d.length cap, str c.s, str c.k, str c.v, .bool c.g, .int .i64 c.l]
def inB (n m : Int) : Bool := decide (n ≥ m) && decide (n ≤ 1099511627776)
def rightC (c : Cl) : Bool := decide ((c.s.length : Int) ≥ 1) && decide ((c.s.length : Int) ≤ 64) && decide ((c.u.length : Int) ≥ 1) && decide ((c.u.length : Int) ≤ 32) && inB c.e 0 && inB c.i 0 && inB c.k 0 && trim c.x 1099511627776
def rightW (c : Wt) : Bool := decide (c.r ≥ 1) && decide (c.r ≤ 16) && inB c.n 1 && decide (c.q = c.r) && inB c.t 1 && trim c.d 1099511627776 && decide ((c.s.length : Int) ≥ 1) && decide ((c.s.length : Int) ≤ 64) && decide ((c.k.length : Int) ≤ 32) && decide ((c.v.length : Int) ≤ 128) && (!c.g || decide (c.v = [])) && inB c.l 0
set_option maxRecDepth 20000 in
theorem in_any (n m : Int) (w0 : World) (h : PH) : PCalls Try.prog w0 71 [.int .i64 n, .int .i64 m] h fun r h' => r = .bool (inB n m) ∧ h' = h := by
  refine PCalls_body Try.func71 (by kernel_rfl) rfl _ Try.ntmps71 (by kernel_rfl) (by kernel_rfl) _ Try.results71 ?_
  unfold inB
  obtain ⟨b1, hb1⟩ : ∃ b, decide (n ≥ m) = b := ⟨_, rfl⟩
  rw [hb1]
  cases b1
  · simp -dsimp -implicitDefEqProofs (disch := first | omega | assumption | (simp only [Option.isSome_some, Qt0]; done) | (simp only [UInt64.reduceToNat, UInt32.reduceToNat, UInt8.reduceToNat, List.length_cons, List.length_nil, List.length_append, Int.toNat_natCast] <;> omega) | fail) only [Nat.reduceLT, Nat.reduceLeDiff, Nat.reduceEqDiff, ↓reduceIte, Int.reduceLT, Int.reduceLE, Int.reduceToNat, Int.reduceEq, Int.reduceNe, Nat.reduceAdd, UInt8.reduceOfNat, UInt16.reduceOfNat, UInt32.reduceOfNat, UInt64.reduceOfNat, UInt64.reduceToNat, UInt32.reduceToNat, UInt16.reduceToNat, UInt8.reduceToNat, Int.reduceAdd, Int.reduceSub, Int.reduceMul, Nat.reduceMul, Qp0, Qp1, Ql0, Qe0, hb1]
    exact ⟨_, PH.Le.refl _, by first | rfl | trivial, rfl⟩
  · simp -dsimp -implicitDefEqProofs (disch := first | omega | assumption | (simp only [Option.isSome_some, Qt0]; done) | (simp only [UInt64.reduceToNat, UInt32.reduceToNat, UInt8.reduceToNat, List.length_cons, List.length_nil, List.length_append, Int.toNat_natCast] <;> omega) | fail) only [Nat.reduceLT, Nat.reduceLeDiff, Nat.reduceEqDiff, ↓reduceIte, Int.reduceLT, Int.reduceLE, Int.reduceToNat, Int.reduceEq, Int.reduceNe, Nat.reduceAdd, UInt8.reduceOfNat, UInt16.reduceOfNat, UInt32.reduceOfNat, UInt64.reduceOfNat, UInt64.reduceToNat, UInt32.reduceToNat, UInt16.reduceToNat, UInt8.reduceToNat, Int.reduceAdd, Int.reduceSub, Int.reduceMul, Nat.reduceMul, Qp0, Qp1, Ql0, Qe0, hb1]
    exact ⟨_, PH.Le.refl _, by first | rfl | trivial, rfl⟩
set_option maxRecDepth 20000 in
theorem rin_any (n m : Int) (w0 : World) (h : PH) : PCalls Try.prog w0 62 [.int .i64 n, .int .i64 m] h fun r h' => r = .bool (inB n m) ∧ h' = h := by
  refine PCalls_body Try.func62 (by kernel_rfl) rfl _ Try.ntmps62 (by kernel_rfl) (by kernel_rfl) _ Try.results62 ?_
  unfold inB
  obtain ⟨b1, hb1⟩ : ∃ b, decide (n ≥ m) = b := ⟨_, rfl⟩
  rw [hb1]
  cases b1
  · simp -dsimp -implicitDefEqProofs (disch := first | omega | assumption | (simp only [Option.isSome_some, Qt0]; done) | (simp only [UInt64.reduceToNat, UInt32.reduceToNat, UInt8.reduceToNat, List.length_cons, List.length_nil, List.length_append, Int.toNat_natCast] <;> omega) | fail) only [Nat.reduceLT, Nat.reduceLeDiff, Nat.reduceEqDiff, ↓reduceIte, Int.reduceLT, Int.reduceLE, Int.reduceToNat, Int.reduceEq, Int.reduceNe, Nat.reduceAdd, UInt8.reduceOfNat, UInt16.reduceOfNat, UInt32.reduceOfNat, UInt64.reduceOfNat, UInt64.reduceToNat, UInt32.reduceToNat, UInt16.reduceToNat, UInt8.reduceToNat, Int.reduceAdd, Int.reduceSub, Int.reduceMul, Nat.reduceMul, Qp0, Qp1, Ql0, Qe0, hb1]
    exact ⟨_, PH.Le.refl _, by first | rfl | trivial, rfl⟩
  · simp -dsimp -implicitDefEqProofs (disch := first | omega | assumption | (simp only [Option.isSome_some, Qt0]; done) | (simp only [UInt64.reduceToNat, UInt32.reduceToNat, UInt8.reduceToNat, List.length_cons, List.length_nil, List.length_append, Int.toNat_natCast] <;> omega) | fail) only [Nat.reduceLT, Nat.reduceLeDiff, Nat.reduceEqDiff, ↓reduceIte, Int.reduceLT, Int.reduceLE, Int.reduceToNat, Int.reduceEq, Int.reduceNe, Nat.reduceAdd, UInt8.reduceOfNat, UInt16.reduceOfNat, UInt32.reduceOfNat, UInt64.reduceOfNat, UInt64.reduceToNat, UInt32.reduceToNat, UInt16.reduceToNat, UInt8.reduceToNat, Int.reduceAdd, Int.reduceSub, Int.reduceMul, Nat.reduceMul, Qp0, Qp1, Ql0, Qe0, hb1]
    exact ⟨_, PH.Le.refl _, by first | rfl | trivial, rfl⟩
theorem decide_not_lt (a b : Int) : decide (a < b) = !decide (a ≥ b) := by by_cases h : a < b <;> simp [h] <;> omega
theorem decide_not_gt (a b : Int) : decide (a > b) = !decide (a ≤ b) := by by_cases h : a > b <;> simp [h] <;> omega
theorem decide_pos_nil (l : List UInt8) : decide ((l.length : Int) > 0) = !decide (l = []) := by cases l <;> simp <;> omega
end Go.Proofs.Ytdhgmifgjaedbaa


/- Writes: which are right. No condition. -/
namespace Go.Proofs.Ytdhgmifgjaedbaa
set_option linter.unusedVariables false
set_option linter.unusedSimpArgs false
open Go.RowKit Px Wr
set_option maxRecDepth 20000 in
set_option maxHeartbeats 4000000 in
theorem rightW_any (w0 : World) (h : PH) (c : Wt) (A : Option Addr) (cap : Nat) (hr : Rv w0 h A (ints c.d)) (hc : c.d.length ≤ cap) (hx : c.d.length ≤ 1000000) : PCalls Try.prog w0 58 [.agg (wtL c A cap).toArray] h fun r h' => r = .bool (rightW c) ∧ h' = h := by
  refine PCalls_body Try.func58 (by kernel_rfl) rfl _ Try.ntmps58 (by kernel_rfl) (by kernel_rfl) _ Try.results58 ?_
  unfold wtL
  simp -dsimp -implicitDefEqProofs (disch := first | omega | assumption | (simp only [Option.isSome_some, Qt0]; done) | (simp only [UInt64.reduceToNat, UInt32.reduceToNat, UInt8.reduceToNat, List.length_cons, List.length_nil, List.length_append, Int.toNat_natCast] <;> omega) | fail) only [Nat.reduceLT, Nat.reduceLeDiff, Nat.reduceEqDiff, ↓reduceIte, Int.reduceLT, Int.reduceLE, Int.reduceToNat, Int.reduceEq, Int.reduceNe, Nat.reduceAdd, UInt8.reduceOfNat, UInt16.reduceOfNat, UInt32.reduceOfNat, UInt64.reduceOfNat, UInt64.reduceToNat, UInt32.reduceToNat, UInt16.reduceToNat, UInt8.reduceToNat, Int.reduceAdd, Int.reduceSub, Int.reduceMul, Nat.reduceMul, Qp0, Qp1, Ql0, Qe0]
  refine fun pb hpb => ?_
  have hle := (PH.Le.refl h).new pb ⟨[.int .i64 c.r, .int .i64 c.n, .int .i64 c.t, .int .i64 c.q, .slice A c.d.length cap, str c.s, str c.k, str c.v, .bool c.g, .int .i64 c.l], 10⟩ hpb
  have hp : (h.new pb ⟨[.int .i64 c.r, .int .i64 c.n, .int .i64 c.t, .int .i64 c.q, .slice A c.d.length cap, str c.s, str c.k, str c.v, .bool c.g, .int .i64 c.l], 10⟩).m pb = some ⟨[.int .i64 c.r, .int .i64 c.n, .int .i64 c.t, .int .i64 c.q, .slice A c.d.length cap, str c.s, str c.k, str c.v, .bool c.g, .int .i64 c.l], 10⟩ := by rw [PH.new_m, if_pos rfl]
  have hr1 := hr.more hle
  simp -dsimp -implicitDefEqProofs (disch := first | omega | assumption | (simp only [Option.isSome_some, Qt0]; done) | (simp only [UInt64.reduceToNat, UInt32.reduceToNat, UInt8.reduceToNat, List.length_cons, List.length_nil, List.length_append, Int.toNat_natCast] <;> omega) | fail) only [Nat.reduceLT, Nat.reduceLeDiff, Nat.reduceEqDiff, ↓reduceIte, Int.reduceLT, Int.reduceLE, Int.reduceToNat, Int.reduceEq, Int.reduceNe, Nat.reduceAdd, UInt8.reduceOfNat, UInt16.reduceOfNat, UInt32.reduceOfNat, UInt64.reduceOfNat, UInt64.reduceToNat, UInt32.reduceToNat, UInt16.reduceToNat, UInt8.reduceToNat, Int.reduceAdd, Int.reduceSub, Int.reduceMul, Nat.reduceMul, Qp0, Qp1, Ql0, Qe0]
  generalize h.new pb ⟨[.int .i64 c.r, .int .i64 c.n, .int .i64 c.t, .int .i64 c.q, .slice A c.d.length cap, str c.s, str c.k, str c.v, .bool c.g, .int .i64 c.l], 10⟩ = h1 at *
  have hT := PCalls_low fun hl => trimmed_any w0 h1 hl A cap c.d 1099511627776 hr1 hc (by omega)
  have hI1 := in_any c.n 1 w0 h1
  have hI2 := in_any c.t 1 w0 h1
  have hI3 := in_any c.l 0 w0 h1
  unfold rightW
  have hn1 := decide_not_lt c.r 1
  have hn2 := decide_not_gt c.r 16
  have hn12 := decide_pos_nil c.v
  have hn4 : decide (¬ c.q = c.r) = !decide (c.q = c.r) := by by_cases e : c.q = c.r <;> simp [e]
  obtain ⟨b1, hb1⟩ : ∃ b, decide (c.r ≥ 1) = b := ⟨_, rfl⟩
  obtain ⟨b2, hb2⟩ : ∃ b, decide (c.r ≤ 16) = b := ⟨_, rfl⟩
  obtain ⟨b4, hb4⟩ : ∃ b, decide (c.q = c.r) = b := ⟨_, rfl⟩
  obtain ⟨b7, hb7⟩ : ∃ b, decide ((c.s.length : Int) ≥ 1) = b := ⟨_, rfl⟩
  obtain ⟨b8, hb8⟩ : ∃ b, decide ((c.s.length : Int) ≤ 64) = b := ⟨_, rfl⟩
  obtain ⟨b9, hb9⟩ : ∃ b, decide ((c.k.length : Int) ≤ 32) = b := ⟨_, rfl⟩
  obtain ⟨b10, hb10⟩ : ∃ b, decide ((c.v.length : Int) ≤ 128) = b := ⟨_, rfl⟩
  obtain ⟨b12, hb12⟩ : ∃ b, decide (c.v = []) = b := ⟨_, rfl⟩
  rw [hb1] at hn1
  rw [hb2] at hn2
  rw [hb12] at hn12
  rw [hb4] at hn4
  rw [hb1, hb2, hb4, hb7, hb8, hb9, hb10, hb12]
  generalize inB c.n 1 = b3 at *
  generalize inB c.t 1 = b5 at *
  generalize inB c.l 0 = b13 at *
  generalize trim c.d 1099511627776 = b6 at *
  generalize c.g = b11 at *
  have hT := Lib.hid hT
  have hI1 := Lib.hid hI1
  have hI2 := Lib.hid hI2
  have hI3 := Lib.hid hI3
  cases b1; rotate_left
  cases b2; rotate_left
  cases b3; rotate_left
  cases b4; rotate_left
  cases b5; rotate_left
  cases b6; rotate_left
  cases b7; rotate_left
  cases b8; rotate_left
  cases b9; rotate_left
  cases b10; rotate_left
  cases b11; rotate_left
  cases b12
  all_goals
    simp -dsimp -implicitDefEqProofs (disch := first | omega | assumption | (simp only [Option.isSome_some, Qt0]; done) | (simp only [UInt64.reduceToNat, UInt32.reduceToNat, UInt8.reduceToNat, List.length_cons, List.length_nil, List.length_append, Int.toNat_natCast] <;> omega) | fail) only [Nat.reduceLT, Nat.reduceLeDiff, Nat.reduceEqDiff, ↓reduceIte, Int.reduceLT, Int.reduceLE, Int.reduceToNat, Int.reduceEq, Int.reduceNe, Nat.reduceAdd, UInt8.reduceOfNat, UInt16.reduceOfNat, UInt32.reduceOfNat, UInt64.reduceOfNat, UInt64.reduceToNat, UInt32.reduceToNat, UInt16.reduceToNat, UInt8.reduceToNat, Int.reduceAdd, Int.reduceSub, Int.reduceMul, Nat.reduceMul, Qp0, Qp1, Ql0, Qe0, hb1, hb2, hb4, hb7, hb8, hb9, hb10, hb12, rd_M, rdM_some, hp]
    repeat
      first | refine hI1.out.mono ?_ | refine hI2.out.mono ?_ | refine hI3.out.mono ?_ | refine hT.out.mono ?_
      rintro v hq ⟨rfl, hz⟩
      obtain rfl := hz.symm
      simp -dsimp -implicitDefEqProofs (disch := first | omega | assumption | (simp only [Option.isSome_some, Qt0]; done) | (simp only [UInt64.reduceToNat, UInt32.reduceToNat, UInt8.reduceToNat, List.length_cons, List.length_nil, List.length_append, Int.toNat_natCast] <;> omega) | fail) only [Nat.reduceLT, Nat.reduceLeDiff, Nat.reduceEqDiff, ↓reduceIte, Int.reduceLT, Int.reduceLE, Int.reduceToNat, Int.reduceEq, Int.reduceNe, Nat.reduceAdd, UInt8.reduceOfNat, UInt16.reduceOfNat, UInt32.reduceOfNat, UInt64.reduceOfNat, UInt64.reduceToNat, UInt32.reduceToNat, UInt16.reduceToNat, UInt8.reduceToNat, Int.reduceAdd, Int.reduceSub, Int.reduceMul, Nat.reduceMul, Qp0, Qp1, Ql0, Qe0, hb1, hb2, hb4, hb7, hb8, hb9, hb10, hb12, rd_M, rdM_some, hp]
    exact ⟨_, hle, by first | rfl | trivial | (simp; done), rfl⟩
set_option maxRecDepth 20000 in
set_option maxHeartbeats 4000000 in
theorem rrightW_any (w0 : World) (h : PH) (c : Wt) (A : Option Addr) (cap : Nat) (hr : Rv w0 h A (ints c.d)) (hc : c.d.length ≤ cap) (hx : c.d.length ≤ 1000000) : PCalls Try.prog w0 28 [.agg (wtL c A cap).toArray] h fun r h' => r = .bool (rightW c) ∧ h' = h := by
  refine PCalls_body Try.func28 (by kernel_rfl) rfl _ Try.ntmps28 (by kernel_rfl) (by kernel_rfl) _ Try.results28 ?_
  unfold wtL
  simp -dsimp -implicitDefEqProofs (disch := first | omega | assumption | (simp only [Option.isSome_some, Qt0]; done) | (simp only [UInt64.reduceToNat, UInt32.reduceToNat, UInt8.reduceToNat, List.length_cons, List.length_nil, List.length_append, Int.toNat_natCast] <;> omega) | fail) only [Nat.reduceLT, Nat.reduceLeDiff, Nat.reduceEqDiff, ↓reduceIte, Int.reduceLT, Int.reduceLE, Int.reduceToNat, Int.reduceEq, Int.reduceNe, Nat.reduceAdd, UInt8.reduceOfNat, UInt16.reduceOfNat, UInt32.reduceOfNat, UInt64.reduceOfNat, UInt64.reduceToNat, UInt32.reduceToNat, UInt16.reduceToNat, UInt8.reduceToNat, Int.reduceAdd, Int.reduceSub, Int.reduceMul, Nat.reduceMul, Qp0, Qp1, Ql0, Qe0]
  refine fun pb hpb => ?_
  have hle := (PH.Le.refl h).new pb ⟨[.int .i64 c.r, .int .i64 c.n, .int .i64 c.t, .int .i64 c.q, .slice A c.d.length cap, str c.s, str c.k, str c.v, .bool c.g, .int .i64 c.l], 10⟩ hpb
  have hp : (h.new pb ⟨[.int .i64 c.r, .int .i64 c.n, .int .i64 c.t, .int .i64 c.q, .slice A c.d.length cap, str c.s, str c.k, str c.v, .bool c.g, .int .i64 c.l], 10⟩).m pb = some ⟨[.int .i64 c.r, .int .i64 c.n, .int .i64 c.t, .int .i64 c.q, .slice A c.d.length cap, str c.s, str c.k, str c.v, .bool c.g, .int .i64 c.l], 10⟩ := by rw [PH.new_m, if_pos rfl]
  have hr1 := hr.more hle
  simp -dsimp -implicitDefEqProofs (disch := first | omega | assumption | (simp only [Option.isSome_some, Qt0]; done) | (simp only [UInt64.reduceToNat, UInt32.reduceToNat, UInt8.reduceToNat, List.length_cons, List.length_nil, List.length_append, Int.toNat_natCast] <;> omega) | fail) only [Nat.reduceLT, Nat.reduceLeDiff, Nat.reduceEqDiff, ↓reduceIte, Int.reduceLT, Int.reduceLE, Int.reduceToNat, Int.reduceEq, Int.reduceNe, Nat.reduceAdd, UInt8.reduceOfNat, UInt16.reduceOfNat, UInt32.reduceOfNat, UInt64.reduceOfNat, UInt64.reduceToNat, UInt32.reduceToNat, UInt16.reduceToNat, UInt8.reduceToNat, Int.reduceAdd, Int.reduceSub, Int.reduceMul, Nat.reduceMul, Qp0, Qp1, Ql0, Qe0]
  generalize h.new pb ⟨[.int .i64 c.r, .int .i64 c.n, .int .i64 c.t, .int .i64 c.q, .slice A c.d.length cap, str c.s, str c.k, str c.v, .bool c.g, .int .i64 c.l], 10⟩ = h1 at *
  have hT := PCalls_low fun hl => rtrimmed_any w0 h1 hl A cap c.d 1099511627776 hr1 hc (by omega)
  have hI1 := rin_any c.n 1 w0 h1
  have hI2 := rin_any c.t 1 w0 h1
  have hI3 := rin_any c.l 0 w0 h1
  unfold rightW
  have hn1 := decide_not_lt c.r 1
  have hn2 := decide_not_gt c.r 16
  have hn12 := decide_pos_nil c.v
  have hn4 : decide (¬ c.q = c.r) = !decide (c.q = c.r) := by by_cases e : c.q = c.r <;> simp [e]
  obtain ⟨b1, hb1⟩ : ∃ b, decide (c.r ≥ 1) = b := ⟨_, rfl⟩
  obtain ⟨b2, hb2⟩ : ∃ b, decide (c.r ≤ 16) = b := ⟨_, rfl⟩
  obtain ⟨b4, hb4⟩ : ∃ b, decide (c.q = c.r) = b := ⟨_, rfl⟩
  obtain ⟨b7, hb7⟩ : ∃ b, decide ((c.s.length : Int) ≥ 1) = b := ⟨_, rfl⟩
  obtain ⟨b8, hb8⟩ : ∃ b, decide ((c.s.length : Int) ≤ 64) = b := ⟨_, rfl⟩
  obtain ⟨b9, hb9⟩ : ∃ b, decide ((c.k.length : Int) ≤ 32) = b := ⟨_, rfl⟩
  obtain ⟨b10, hb10⟩ : ∃ b, decide ((c.v.length : Int) ≤ 128) = b := ⟨_, rfl⟩
  obtain ⟨b12, hb12⟩ : ∃ b, decide (c.v = []) = b := ⟨_, rfl⟩
  rw [hb1] at hn1
  rw [hb2] at hn2
  rw [hb12] at hn12
  rw [hb4] at hn4
  rw [hb1, hb2, hb4, hb7, hb8, hb9, hb10, hb12]
  generalize inB c.n 1 = b3 at *
  generalize inB c.t 1 = b5 at *
  generalize inB c.l 0 = b13 at *
  generalize trim c.d 1099511627776 = b6 at *
  generalize c.g = b11 at *
  have hT := Lib.hid hT
  have hI1 := Lib.hid hI1
  have hI2 := Lib.hid hI2
  have hI3 := Lib.hid hI3
  cases b1; rotate_left
  cases b2; rotate_left
  cases b4; rotate_left
  cases b3; rotate_left
  cases b5; rotate_left
  cases b6; rotate_left
  cases b13; rotate_left
  cases b7; rotate_left
  cases b8; rotate_left
  cases b9; rotate_left
  cases b10; rotate_left
  cases b11; rotate_left
  cases b12
  all_goals
    simp -dsimp -implicitDefEqProofs (disch := first | omega | assumption | (simp only [Option.isSome_some, Qt0]; done) | (simp only [UInt64.reduceToNat, UInt32.reduceToNat, UInt8.reduceToNat, List.length_cons, List.length_nil, List.length_append, Int.toNat_natCast] <;> omega) | fail) only [Nat.reduceLT, Nat.reduceLeDiff, Nat.reduceEqDiff, ↓reduceIte, Int.reduceLT, Int.reduceLE, Int.reduceToNat, Int.reduceEq, Int.reduceNe, Nat.reduceAdd, UInt8.reduceOfNat, UInt16.reduceOfNat, UInt32.reduceOfNat, UInt64.reduceOfNat, UInt64.reduceToNat, UInt32.reduceToNat, UInt16.reduceToNat, UInt8.reduceToNat, Int.reduceAdd, Int.reduceSub, Int.reduceMul, Nat.reduceMul, Qp0, Qp1, Ql0, Qe0, hb1, hb2, hb4, hb7, hb8, hb9, hb10, hb12, rd_M, rdM_some, hp, hn1, hn2, hn12, hn4]
    repeat
      first | refine hI1.out.mono ?_ | refine hI2.out.mono ?_ | refine hI3.out.mono ?_ | refine hT.out.mono ?_
      rintro v hq ⟨rfl, hz⟩
      obtain rfl := hz.symm
      simp -dsimp -implicitDefEqProofs (disch := first | omega | assumption | (simp only [Option.isSome_some, Qt0]; done) | (simp only [UInt64.reduceToNat, UInt32.reduceToNat, UInt8.reduceToNat, List.length_cons, List.length_nil, List.length_append, Int.toNat_natCast] <;> omega) | fail) only [Nat.reduceLT, Nat.reduceLeDiff, Nat.reduceEqDiff, ↓reduceIte, Int.reduceLT, Int.reduceLE, Int.reduceToNat, Int.reduceEq, Int.reduceNe, Nat.reduceAdd, UInt8.reduceOfNat, UInt16.reduceOfNat, UInt32.reduceOfNat, UInt64.reduceOfNat, UInt64.reduceToNat, UInt32.reduceToNat, UInt16.reduceToNat, UInt8.reduceToNat, Int.reduceAdd, Int.reduceSub, Int.reduceMul, Nat.reduceMul, Qp0, Qp1, Ql0, Qe0, hb1, hb2, hb4, hb7, hb8, hb9, hb10, hb12, rd_M, rdM_some, hp, hn1, hn2, hn12, hn4]
    exact ⟨_, hle, by first | rfl | trivial | (simp; done), rfl⟩
end Go.Proofs.Ytdhgmifgjaedbaa


/- Vectors: which are alike. No condition. -/
namespace Go.Proofs.Ytdhgmifgjaedbaa
set_option linter.unusedVariables false
set_option linter.unusedSimpArgs false
open Go.RowKit Px Wr
set_option maxRecDepth 20000 in
set_option maxHeartbeats 2000000 in
theorem sameV_any (w0 : World) (h : PH) (A B : Option Addr) (c d : Nat) (x y : List Int) (hx : Rv w0 h A (ints x)) (hy : Rv w0 h B (ints y)) (hc : x.length ≤ c) (hd : y.length ≤ d) (hm : x.length ≤ 1000000) : PCalls Try.prog w0 26 [.slice A x.length c, .slice B y.length d] h fun r h' => r = .bool (decide (x = y)) ∧ h' = h := by
  refine PCalls_low fun hl => ?_
  refine PCalls_body Try.func26 (by kernel_rfl) rfl _ Try.ntmps26 (by kernel_rfl) (by kernel_rfl) _ Try.results26 ?_
  by_cases hlen : x.length = y.length
  · have e1 : decide (¬ (x.length : Int) = (y.length : Int)) = false := decide_eq_false (by omega)
    simp -dsimp -implicitDefEqProofs (disch := first | omega | assumption | (simp only [Option.isSome_some, Qt0]; done) | (simp only [UInt64.reduceToNat, UInt32.reduceToNat, UInt8.reduceToNat, List.length_cons, List.length_nil, List.length_append, Int.toNat_natCast] <;> omega) | fail) only [Nat.reduceLT, Nat.reduceLeDiff, Nat.reduceEqDiff, ↓reduceIte, Int.reduceLT, Int.reduceLE, Int.reduceToNat, Int.reduceEq, Int.reduceNe, Nat.reduceAdd, UInt8.reduceOfNat, UInt16.reduceOfNat, UInt32.reduceOfNat, UInt64.reduceOfNat, UInt64.reduceToNat, UInt32.reduceToNat, UInt16.reduceToNat, UInt8.reduceToNat, Int.reduceAdd, Int.reduceSub, Int.reduceMul, Nat.reduceMul, Qp0, Qp1, Ql0, Qe0, e1]
    refine PW_loop (fun n f h' => ∃ i : Nat, n + i = x.length ∧ f 0 = some (.slice A x.length c) ∧ f 1 = some (.slice B y.length d) ∧ f 5 = some (.int .i64 i) ∧ (∀ j, j < i → x.getD j 0 = y.getD j 0) ∧ h' = h) (by kernel_rfl) x.length ⟨0, by omega, ?_, ?_, ?_, fun j hj => by omega, rfl⟩ ?_
    · simp -dsimp -implicitDefEqProofs (disch := first | omega | assumption | (simp only [Option.isSome_some, Qt0]; done) | (simp only [UInt64.reduceToNat, UInt32.reduceToNat, UInt8.reduceToNat, List.length_cons, List.length_nil, List.length_append, Int.toNat_natCast] <;> omega) | fail) only [Nat.reduceLT, Nat.reduceLeDiff, Nat.reduceEqDiff, ↓reduceIte, Int.reduceLT, Int.reduceLE, Int.reduceToNat, Int.reduceEq, Int.reduceNe, Nat.reduceAdd, UInt8.reduceOfNat, UInt16.reduceOfNat, UInt32.reduceOfNat, UInt64.reduceOfNat, UInt64.reduceToNat, UInt32.reduceToNat, UInt16.reduceToNat, UInt8.reduceToNat, Int.reduceAdd, Int.reduceSub, Int.reduceMul, Nat.reduceMul, Qp0, Qp1, Ql0, Qe0]
    · simp -dsimp -implicitDefEqProofs (disch := first | omega | assumption | (simp only [Option.isSome_some, Qt0]; done) | (simp only [UInt64.reduceToNat, UInt32.reduceToNat, UInt8.reduceToNat, List.length_cons, List.length_nil, List.length_append, Int.toNat_natCast] <;> omega) | fail) only [Nat.reduceLT, Nat.reduceLeDiff, Nat.reduceEqDiff, ↓reduceIte, Int.reduceLT, Int.reduceLE, Int.reduceToNat, Int.reduceEq, Int.reduceNe, Nat.reduceAdd, UInt8.reduceOfNat, UInt16.reduceOfNat, UInt32.reduceOfNat, UInt64.reduceOfNat, UInt64.reduceToNat, UInt32.reduceToNat, UInt16.reduceToNat, UInt8.reduceToNat, Int.reduceAdd, Int.reduceSub, Int.reduceMul, Nat.reduceMul, Qp0, Qp1, Ql0, Qe0]
    · simp -dsimp -implicitDefEqProofs (disch := first | omega | assumption | (simp only [Option.isSome_some, Qt0]; done) | (simp only [UInt64.reduceToNat, UInt32.reduceToNat, UInt8.reduceToNat, List.length_cons, List.length_nil, List.length_append, Int.toNat_natCast] <;> omega) | fail) only [Nat.reduceLT, Nat.reduceLeDiff, Nat.reduceEqDiff, ↓reduceIte, Int.reduceLT, Int.reduceLE, Int.reduceToNat, Int.reduceEq, Int.reduceNe, Nat.reduceAdd, UInt8.reduceOfNat, UInt16.reduceOfNat, UInt32.reduceOfNat, UInt64.reduceOfNat, UInt64.reduceToNat, UInt32.reduceToNat, UInt16.reduceToNat, UInt8.reduceToNat, Int.reduceAdd, Int.reduceSub, Int.reduceMul, Nat.reduceMul, Qp0, Qp1, Ql0, Qe0]
      try rfl
    rintro n f h' ⟨i, hni, f0, f1, f5, hall, rfl⟩
    by_cases hi : i < x.length
    · have e2 : decide ((i : Int) < (x.length : Int)) = true := decide_eq_true (by omega)
      obtain ⟨b, o, rfl⟩ := hx.addr (by simp [ints]; omega)
      obtain ⟨b', o', rfl⟩ := hy.addr (by simp [ints]; omega)
      have hgx := hx.get hl (j := i) (u := .int .i64 (x.getD i 0)) (by rw [ints, List.getElem?_map, List.getD, List.getElem?_eq_getElem hi]; rfl)
      have hgy := hy.get hl (j := i) (u := .int .i64 (y.getD i 0)) (by rw [ints, List.getElem?_map, List.getD, List.getElem?_eq_getElem (by omega)]; rfl)
      by_cases he : x.getD i 0 = y.getD i 0
      · have e3 : decide (¬ x.getD i 0 = y.getD i 0) = false := decide_eq_false (by omega)
        simp -dsimp -implicitDefEqProofs (disch := first | omega | assumption | (simp only [Option.isSome_some, Qt0]; done) | (simp only [UInt64.reduceToNat, UInt32.reduceToNat, UInt8.reduceToNat, List.length_cons, List.length_nil, List.length_append, Int.toNat_natCast] <;> omega) | fail) only [Nat.reduceLT, Nat.reduceLeDiff, Nat.reduceEqDiff, ↓reduceIte, Int.reduceLT, Int.reduceLE, Int.reduceToNat, Int.reduceEq, Int.reduceNe, Nat.reduceAdd, UInt8.reduceOfNat, UInt16.reduceOfNat, UInt32.reduceOfNat, UInt64.reduceOfNat, UInt64.reduceToNat, UInt32.reduceToNat, UInt16.reduceToNat, UInt8.reduceToNat, Int.reduceAdd, Int.reduceSub, Int.reduceMul, Nat.reduceMul, Qp0, Qp1, Ql0, Qe0, f0, f1, f5, e2]
        refine PW_drawn 9 _ (by kernel_rfl) (by kernel_rfl) (by kernel_rfl) (by kernel_rfl) (by kernel_rfl) (fun c f h hq => by simp only [thenC_panic, thenK_panic, inBlk_panic, thenN_panic, vcRet_panic] at hq) (PH.Le.refl _).sub ?_
        simp -dsimp -implicitDefEqProofs (disch := first | omega | assumption | (simp only [Option.isSome_some, Qt0]; done) | (simp only [UInt64.reduceToNat, UInt32.reduceToNat, UInt8.reduceToNat, List.length_cons, List.length_nil, List.length_append, Int.toNat_natCast] <;> omega) | fail) only [Nat.reduceLT, Nat.reduceLeDiff, Nat.reduceEqDiff, ↓reduceIte, Int.reduceLT, Int.reduceLE, Int.reduceToNat, Int.reduceEq, Int.reduceNe, Nat.reduceAdd, UInt8.reduceOfNat, UInt16.reduceOfNat, UInt32.reduceOfNat, UInt64.reduceOfNat, UInt64.reduceToNat, UInt32.reduceToNat, UInt16.reduceToNat, UInt8.reduceToNat, Int.reduceAdd, Int.reduceSub, Int.reduceMul, Nat.reduceMul, Qp0, Qp1, Ql0, Qe0, f0, f1, f5, rd_M, hgx, hgy, e3]
        refine ⟨n - 1, _, by omega, PH.Le.refl _, i + 1, by omega, by trivial, by trivial, by simp, fun j hj => ?_, rfl⟩
        by_cases hji : j = i
        · subst hji; exact he
        · exact hall j (by omega)
      · have e3 : decide (¬ x.getD i 0 = y.getD i 0) = true := decide_eq_true (by omega)
        have hne : decide (x = y) = false := decide_eq_false fun e => he (by rw [e])
        rw [hne]
        simp -dsimp -implicitDefEqProofs (disch := first | omega | assumption | (simp only [Option.isSome_some, Qt0]; done) | (simp only [UInt64.reduceToNat, UInt32.reduceToNat, UInt8.reduceToNat, List.length_cons, List.length_nil, List.length_append, Int.toNat_natCast] <;> omega) | fail) only [Nat.reduceLT, Nat.reduceLeDiff, Nat.reduceEqDiff, ↓reduceIte, Int.reduceLT, Int.reduceLE, Int.reduceToNat, Int.reduceEq, Int.reduceNe, Nat.reduceAdd, UInt8.reduceOfNat, UInt16.reduceOfNat, UInt32.reduceOfNat, UInt64.reduceOfNat, UInt64.reduceToNat, UInt32.reduceToNat, UInt16.reduceToNat, UInt8.reduceToNat, Int.reduceAdd, Int.reduceSub, Int.reduceMul, Nat.reduceMul, Qp0, Qp1, Ql0, Qe0, f0, f1, f5, e2]
        refine PW_drawn 9 _ (by kernel_rfl) (by kernel_rfl) (by kernel_rfl) (by kernel_rfl) (by kernel_rfl) (fun c f h hq => by simp only [thenC_panic, thenK_panic, inBlk_panic, thenN_panic, vcRet_panic] at hq) (PH.Le.refl _).sub ?_
        simp -dsimp -implicitDefEqProofs (disch := first | omega | assumption | (simp only [Option.isSome_some, Qt0]; done) | (simp only [UInt64.reduceToNat, UInt32.reduceToNat, UInt8.reduceToNat, List.length_cons, List.length_nil, List.length_append, Int.toNat_natCast] <;> omega) | fail) only [Nat.reduceLT, Nat.reduceLeDiff, Nat.reduceEqDiff, ↓reduceIte, Int.reduceLT, Int.reduceLE, Int.reduceToNat, Int.reduceEq, Int.reduceNe, Nat.reduceAdd, UInt8.reduceOfNat, UInt16.reduceOfNat, UInt32.reduceOfNat, UInt64.reduceOfNat, UInt64.reduceToNat, UInt32.reduceToNat, UInt16.reduceToNat, UInt8.reduceToNat, Int.reduceAdd, Int.reduceSub, Int.reduceMul, Nat.reduceMul, Qp0, Qp1, Ql0, Qe0, f0, f1, f5, rd_M, hgx, hgy, e3]
        exact ⟨_, PH.Le.refl _, by first | rfl | trivial, rfl⟩
    · have e2 : decide ((i : Int) < (x.length : Int)) = false := decide_eq_false (by omega)
      have heq : decide (x = y) = true := decide_eq_true (List.ext_getElem hlen fun j h1 h2 => by
        have := hall j (by omega)
        rwa [List.getD, List.getD, List.getElem?_eq_getElem h1, List.getElem?_eq_getElem h2] at this)
      rw [heq]
      simp -dsimp -implicitDefEqProofs (disch := first | omega | assumption | (simp only [Option.isSome_some, Qt0]; done) | (simp only [UInt64.reduceToNat, UInt32.reduceToNat, UInt8.reduceToNat, List.length_cons, List.length_nil, List.length_append, Int.toNat_natCast] <;> omega) | fail) only [Nat.reduceLT, Nat.reduceLeDiff, Nat.reduceEqDiff, ↓reduceIte, Int.reduceLT, Int.reduceLE, Int.reduceToNat, Int.reduceEq, Int.reduceNe, Nat.reduceAdd, UInt8.reduceOfNat, UInt16.reduceOfNat, UInt32.reduceOfNat, UInt64.reduceOfNat, UInt64.reduceToNat, UInt32.reduceToNat, UInt16.reduceToNat, UInt8.reduceToNat, Int.reduceAdd, Int.reduceSub, Int.reduceMul, Nat.reduceMul, Qp0, Qp1, Ql0, Qe0, f0, f1, f5, e2]
      exact ⟨_, PH.Le.refl _, by first | rfl | trivial, rfl⟩
  · have e1 : decide (¬ (x.length : Int) = (y.length : Int)) = true := decide_eq_true (by omega)
    have hne : decide (x = y) = false := decide_eq_false fun e => hlen (by rw [e])
    rw [hne]
    simp -dsimp -implicitDefEqProofs (disch := first | omega | assumption | (simp only [Option.isSome_some, Qt0]; done) | (simp only [UInt64.reduceToNat, UInt32.reduceToNat, UInt8.reduceToNat, List.length_cons, List.length_nil, List.length_append, Int.toNat_natCast] <;> omega) | fail) only [Nat.reduceLT, Nat.reduceLeDiff, Nat.reduceEqDiff, ↓reduceIte, Int.reduceLT, Int.reduceLE, Int.reduceToNat, Int.reduceEq, Int.reduceNe, Nat.reduceAdd, UInt8.reduceOfNat, UInt16.reduceOfNat, UInt32.reduceOfNat, UInt64.reduceOfNat, UInt64.reduceToNat, UInt32.reduceToNat, UInt16.reduceToNat, UInt8.reduceToNat, Int.reduceAdd, Int.reduceSub, Int.reduceMul, Nat.reduceMul, Qp0, Qp1, Ql0, Qe0, e1]
    exact ⟨_, PH.Le.refl _, by first | rfl | trivial, rfl⟩
end Go.Proofs.Ytdhgmifgjaedbaa


/- Claims, writes and vectors: which are alike. No condition. -/
namespace Go.Proofs.Ytdhgmifgjaedbaa
set_option linter.unusedVariables false
set_option linter.unusedSimpArgs false
open Go.RowKit Px Wr
theorem y_eqlStamp (x y : Operand) (a b c d : Int) {K : Value → Prop} : Yld Try.prog (binS .eql 50 x y (.agg #[.int .i64 a, .int .i64 b]) (.agg #[.int .i64 c, .int .i64 d])) K = K (.bool (decide (a = c) && decide (b = d))) := Yld_eq fun w => by
  have hu : Try.prog.underlying 50 = some (.struct (Try.prog.fieldsOf 50)) := by kernel_rfl
  have hg : (eqGuard .eql 50 x y (.agg #[.int .i64 a, .int .i64 b]) (.agg #[.int .i64 c, .int .i64 d])).run Try.prog w = .ok () w := run_eqGuard_agg w _ _ x y _ _ (by kernel_rfl)
  have he : (binOp .eql 50 (.agg #[.int .i64 a, .int .i64 b]) (.agg #[.int .i64 c, .int .i64 d])).run Try.prog w = .ok (.bool (decide (a = c) && decide (b = d))) w := by
    rw [run_eql_struct, run_equalIn_agg w 9999 _ _ _ hu (by kernel_rfl)]
    have p0 : ∀ u v : Int, (part 3 #[.int .i64 u, .int .i64 v] 0).run Try.prog w = .ok (.int .i64 u) w := fun u v => by
      simp [part, isAgg, run_underlying (w := w) Try.underlying3, sizeOf]
    have p1 : ∀ u v : Int, (part 3 #[.int .i64 u, .int .i64 v] 1).run Try.prog w = .ok (.int .i64 v) w := fun u v => by
      simp [part, isAgg, run_underlying (w := w) Try.underlying3, sizeOf]
    simp only [Program.fieldsOf, Try.underlying50, Op.eqFields]
    by_cases e1 : a = c
    · subst e1
      by_cases e2 : b = d
      · subst e2; simp [Sem.run_pure, p0, p1, Result.andThen_ok, run_equalIn_int w 9998 3 .i64 .i64 _ _ Try.underlying3, Op.eqFields]
      · simp [Sem.run_pure, p0, p1, Result.andThen_ok, run_equalIn_int w 9998 3 .i64 .i64 _ _ Try.underlying3, Op.eqFields, e2]
    · simp [Sem.run_pure, p0, p1, Result.andThen_ok, run_equalIn_int w 9998 3 .i64 .i64 _ _ Try.underlying3, Op.eqFields, e1]
  unfold binS
  simp only [Sem.run_bind, hg, Result.andThen_ok, he]
def sameW (a b : Wt) : Bool := decide (a.r = b.r) && decide (a.n = b.n) && (decide (a.t = b.t) && decide (a.q = b.q)) && decide (a.d = b.d) && decide (a.s = b.s) && decide (a.k = b.k) && decide (a.v = b.v) && (a.g == b.g) && decide (a.l = b.l)
theorem sameW_iff {a b : Wt} : sameW a b = true ↔ a = b := by
  unfold sameW
  simp only [Bool.and_eq_true, decide_eq_true_eq, beq_iff_eq]
  constructor
  · intro h
    obtain ⟨⟨⟨⟨⟨⟨⟨⟨h1, h2⟩, ⟨h3, h4⟩⟩, h5⟩, h6⟩, h7⟩, h8⟩, h9⟩, h10⟩ := h
    exact Wt.ext' h1 h2 h3 h4 h5 h6 h7 h8 h9 h10
  · rintro rfl; simp
set_option maxRecDepth 20000 in
set_option maxHeartbeats 4000000 in
theorem sameW_any (w0 : World) (h : PH) (a b : Wt) (A B : Option Addr) (c d : Nat) (hx : Rv w0 h A (ints a.d)) (hy : Rv w0 h B (ints b.d)) (hc : a.d.length ≤ c) (hd : b.d.length ≤ d) (hm : a.d.length ≤ 1000000) : PCalls Try.prog w0 61 [.agg (wtL a A c).toArray, .agg (wtL b B d).toArray] h fun r h' => r = .bool (sameW a b) ∧ h' = h := by
  refine PCalls_body Try.func61 (by kernel_rfl) rfl _ Try.ntmps61 (by kernel_rfl) (by kernel_rfl) _ Try.results61 ?_
  unfold wtL
  simp -dsimp -implicitDefEqProofs (disch := first | omega | assumption | (simp only [Option.isSome_some, Qt0]; done) | (simp only [UInt64.reduceToNat, UInt32.reduceToNat, UInt8.reduceToNat, List.length_cons, List.length_nil, List.length_append, Int.toNat_natCast] <;> omega) | fail) only [Nat.reduceLT, Nat.reduceLeDiff, Nat.reduceEqDiff, ↓reduceIte, Int.reduceLT, Int.reduceLE, Int.reduceToNat, Int.reduceEq, Int.reduceNe, Nat.reduceAdd, UInt8.reduceOfNat, UInt16.reduceOfNat, UInt32.reduceOfNat, UInt64.reduceOfNat, UInt64.reduceToNat, UInt32.reduceToNat, UInt16.reduceToNat, UInt8.reduceToNat, Int.reduceAdd, Int.reduceSub, Int.reduceMul, Nat.reduceMul, Qp0, Qp1, Ql0, Qe0]
  refine fun p1 hp1 => ?_
  have hle1 := (PH.Le.refl h).new p1 ⟨[.int .i64 a.r, .int .i64 a.n, .int .i64 a.t, .int .i64 a.q, .slice A a.d.length c, str a.s, str a.k, str a.v, .bool a.g, .int .i64 a.l], 10⟩ hp1
  have hq1 : (h.new p1 ⟨[.int .i64 a.r, .int .i64 a.n, .int .i64 a.t, .int .i64 a.q, .slice A a.d.length c, str a.s, str a.k, str a.v, .bool a.g, .int .i64 a.l], 10⟩).m p1 = some ⟨[.int .i64 a.r, .int .i64 a.n, .int .i64 a.t, .int .i64 a.q, .slice A a.d.length c, str a.s, str a.k, str a.v, .bool a.g, .int .i64 a.l], 10⟩ := by rw [PH.new_m, if_pos rfl]
  simp -dsimp -implicitDefEqProofs (disch := first | omega | assumption | (simp only [Option.isSome_some, Qt0]; done) | (simp only [UInt64.reduceToNat, UInt32.reduceToNat, UInt8.reduceToNat, List.length_cons, List.length_nil, List.length_append, Int.toNat_natCast] <;> omega) | fail) only [Nat.reduceLT, Nat.reduceLeDiff, Nat.reduceEqDiff, ↓reduceIte, Int.reduceLT, Int.reduceLE, Int.reduceToNat, Int.reduceEq, Int.reduceNe, Nat.reduceAdd, UInt8.reduceOfNat, UInt16.reduceOfNat, UInt32.reduceOfNat, UInt64.reduceOfNat, UInt64.reduceToNat, UInt32.reduceToNat, UInt16.reduceToNat, UInt8.reduceToNat, Int.reduceAdd, Int.reduceSub, Int.reduceMul, Nat.reduceMul, Qp0, Qp1, Ql0, Qe0]
  generalize h.new p1 ⟨[.int .i64 a.r, .int .i64 a.n, .int .i64 a.t, .int .i64 a.q, .slice A a.d.length c, str a.s, str a.k, str a.v, .bool a.g, .int .i64 a.l], 10⟩ = h1 at *
  refine fun p2 hp2 => ?_
  have hle2 := hle1.new p2 ⟨[.int .i64 b.r, .int .i64 b.n, .int .i64 b.t, .int .i64 b.q, .slice B b.d.length d, str b.s, str b.k, str b.v, .bool b.g, .int .i64 b.l], 10⟩ (Nat.le_trans hle1.top hp2)
  have hq2 : (h1.new p2 ⟨[.int .i64 b.r, .int .i64 b.n, .int .i64 b.t, .int .i64 b.q, .slice B b.d.length d, str b.s, str b.k, str b.v, .bool b.g, .int .i64 b.l], 10⟩).m p2 = some ⟨[.int .i64 b.r, .int .i64 b.n, .int .i64 b.t, .int .i64 b.q, .slice B b.d.length d, str b.s, str b.k, str b.v, .bool b.g, .int .i64 b.l], 10⟩ := by rw [PH.new_m, if_pos rfl]
  have hq3 := ((PH.Le.refl h1).new p2 ⟨[.int .i64 b.r, .int .i64 b.n, .int .i64 b.t, .int .i64 b.q, .slice B b.d.length d, str b.s, str b.k, str b.v, .bool b.g, .int .i64 b.l], 10⟩ hp2).m _ _ hq1
  simp -dsimp -implicitDefEqProofs (disch := first | omega | assumption | (simp only [Option.isSome_some, Qt0]; done) | (simp only [UInt64.reduceToNat, UInt32.reduceToNat, UInt8.reduceToNat, List.length_cons, List.length_nil, List.length_append, Int.toNat_natCast] <;> omega) | fail) only [Nat.reduceLT, Nat.reduceLeDiff, Nat.reduceEqDiff, ↓reduceIte, Int.reduceLT, Int.reduceLE, Int.reduceToNat, Int.reduceEq, Int.reduceNe, Nat.reduceAdd, UInt8.reduceOfNat, UInt16.reduceOfNat, UInt32.reduceOfNat, UInt64.reduceOfNat, UInt64.reduceToNat, UInt32.reduceToNat, UInt16.reduceToNat, UInt8.reduceToNat, Int.reduceAdd, Int.reduceSub, Int.reduceMul, Nat.reduceMul, Qp0, Qp1, Ql0, Qe0]
  generalize h1.new p2 ⟨[.int .i64 b.r, .int .i64 b.n, .int .i64 b.t, .int .i64 b.q, .slice B b.d.length d, str b.s, str b.k, str b.v, .bool b.g, .int .i64 b.l], 10⟩ = h2 at *
  have hV := sameV_any w0 h2 A B c d a.d b.d (hx.more hle2) (hy.more hle2) hc hd hm
  unfold sameW
  obtain ⟨b1, hb1⟩ : ∃ z, decide (a.r = b.r) = z := ⟨_, rfl⟩
  obtain ⟨b2, hb2⟩ : ∃ z, decide (a.n = b.n) = z := ⟨_, rfl⟩
  obtain ⟨b3, hb3⟩ : ∃ z, decide (a.t = b.t) = z := ⟨_, rfl⟩
  obtain ⟨b4, hb4⟩ : ∃ z, decide (a.q = b.q) = z := ⟨_, rfl⟩
  obtain ⟨b6, hb6⟩ : ∃ z, decide (a.s = b.s) = z := ⟨_, rfl⟩
  obtain ⟨b7, hb7⟩ : ∃ z, decide (a.k = b.k) = z := ⟨_, rfl⟩
  obtain ⟨b8, hb8⟩ : ∃ z, decide (a.v = b.v) = z := ⟨_, rfl⟩
  obtain ⟨b9, hb9⟩ : ∃ z, (a.g == b.g) = z := ⟨_, rfl⟩
  obtain ⟨b10, hb10⟩ : ∃ z, decide (a.l = b.l) = z := ⟨_, rfl⟩
  rw [hb1, hb2, hb3, hb4, hb6, hb7, hb8, hb9, hb10]
  generalize decide (a.d = b.d) = b5 at *
  have hV := Lib.hid hV
  have hs1 : rdN w0 h2 ⟨p1, 2, none⟩ 2 = some [.int .i64 a.t, .int .i64 a.q] := by unfold rdN; simp only [hq3]; rfl
  have hs2 : rdN w0 h2 ⟨p2, 2, none⟩ 2 = some [.int .i64 b.t, .int .i64 b.q] := by unfold rdN; simp only [hq2]; rfl
  cases b1; rotate_left
  cases b2; rotate_left
  cases b3; rotate_left
  cases b4; rotate_left
  cases b5; rotate_left
  cases b6; rotate_left
  cases b7; rotate_left
  cases b8; rotate_left
  cases b9; rotate_left
  all_goals
    simp -dsimp -implicitDefEqProofs (disch := first | omega | assumption | (simp only [Option.isSome_some, Qt0]; done) | (simp only [UInt64.reduceToNat, UInt32.reduceToNat, UInt8.reduceToNat, List.length_cons, List.length_nil, List.length_append, Int.toNat_natCast] <;> omega) | fail) only [Nat.reduceLT, Nat.reduceLeDiff, Nat.reduceEqDiff, ↓reduceIte, Int.reduceLT, Int.reduceLE, Int.reduceToNat, Int.reduceEq, Int.reduceNe, Nat.reduceAdd, UInt8.reduceOfNat, UInt16.reduceOfNat, UInt32.reduceOfNat, UInt64.reduceOfNat, UInt64.reduceToNat, UInt32.reduceToNat, UInt16.reduceToNat, UInt8.reduceToNat, Int.reduceAdd, Int.reduceSub, Int.reduceMul, Nat.reduceMul, Qp0, Qp1, Ql0, Qe0, hb1, hb2, hb3, hb4, hb6, hb7, hb8, hb9, hb10, hs1, hs2, rd_M, rdM_some, hq2, hq3, y_eqlStamp]
    repeat
      first | refine hV.out.mono ?_
      rintro v hq ⟨rfl, hz⟩
      obtain rfl := hz.symm
      simp -dsimp -implicitDefEqProofs (disch := first | omega | assumption | (simp only [Option.isSome_some, Qt0]; done) | (simp only [UInt64.reduceToNat, UInt32.reduceToNat, UInt8.reduceToNat, List.length_cons, List.length_nil, List.length_append, Int.toNat_natCast] <;> omega) | fail) only [Nat.reduceLT, Nat.reduceLeDiff, Nat.reduceEqDiff, ↓reduceIte, Int.reduceLT, Int.reduceLE, Int.reduceToNat, Int.reduceEq, Int.reduceNe, Nat.reduceAdd, UInt8.reduceOfNat, UInt16.reduceOfNat, UInt32.reduceOfNat, UInt64.reduceOfNat, UInt64.reduceToNat, UInt32.reduceToNat, UInt16.reduceToNat, UInt8.reduceToNat, Int.reduceAdd, Int.reduceSub, Int.reduceMul, Nat.reduceMul, Qp0, Qp1, Ql0, Qe0, hb1, hb2, hb3, hb4, hb6, hb7, hb8, hb9, hb10, hs1, hs2, rd_M, rdM_some, hq2, hq3, y_eqlStamp]
    exact ⟨_, hle2, by first | rfl | trivial | (simp; done), rfl⟩
end Go.Proofs.Ytdhgmifgjaedbaa


/- What a writer has behind it: the plain law of one thing. No condition. -/
namespace Go.Proofs.Ytdhgmifgjaedbaa
set_option linter.unusedVariables false
set_option linter.unusedSimpArgs false
open Go.RowKit Px Wr
theorem allOne_of (l : List Value) (h : (l.all fun v => v.oneCell') = true) : allOne l := fun v hv => List.all_eq_true.1 h v hv
def textB (y : List UInt8) : List UInt8 := numB y.length ++ y
theorem putM_ok (l y : List UInt8) (h : l.length + y.length ≤ 65536) : putM (l, none) y = (l ++ y, none) := by
  unfold putM; rw [if_neg (by simp), if_neg (by simp only; omega)]
theorem numM_ok (l : List UInt8) (n : Int) (h0 : 0 ≤ n) (h1 : n ≤ 1099511627776) (h : l.length ≤ 60000) : numM (l, none) n = (l ++ numB n.toNat, none) := by
  unfold numM
  have := numB_len9 (n := n.toNat) (by omega)
  rw [if_neg (by simp), if_neg (by omega), putM_ok _ _ (by omega)]
theorem textM_ok (l y : List UInt8) (h1 : y.length ≤ 1000) (h : l.length ≤ 60000) : textM (l, none) y = (l ++ textB y, none) := by
  unfold textM textB
  have := numB_len9 (n := y.length) (by omega)
  rw [putM_ok _ _ (by simp; omega)]
theorem flagM_ok (l : List UInt8) (b : Bool) (h : l.length ≤ 60000) : flagM (l, none) b = (l ++ flagB b, none) := by
  unfold flagM flagB
  cases b
  · exact numM_ok l 0 (by omega) (by omega) h
  · exact numM_ok l 1 (by omega) (by omega) h
theorem trim_up {v : List Int} {a b : Int} (h : trim v a = true) (hab : a ≤ b) : trim v b = true := by
  rw [trim_iff] at h ⊢
  exact ⟨h.1, h.2.1, fun j hj => by have := h.2.2 j hj; omega⟩
theorem vecB_len {v : List Int} (h : trim v 1099511627776 = true) : (vecB v).length ≤ 160 := by
  unfold vecB
  have h1 := trim_len h
  have h2 := numB_len9 (n := v.length) (by omega)
  have h3 := flat_len_le v (fun n hn => by have := trim_all h n hn; omega)
  simp only [List.length_append]; omega
theorem vecM_ok (l : List UInt8) (v : List Int) (h1 : trim v 1099511627776 = true) (h : l.length ≤ 60000) : vecM (l, none) v = (l ++ vecB v, none) := by
  unfold vecM
  have := vecB_len h1
  rw [if_neg (by simp), if_pos (trim_up h1 (by omega)), putM_ok _ _ (by omega)]
theorem OS.init {h : PH} {ob : Nat} (hb : h.top ≤ ob) : OS h (h.new ob ⟨[.slice none 0 0, .nilIface], 2⟩) ob ([], none) :=
  ⟨(PH.Le.refl h).new _ _ hb, PH.none_of hb, by simp, none, 0, .nilIface, by rw [PH.new_m, if_pos rfl]; rfl, Own.nil _ 1, (fun a e => by cases e), rfl⟩
end Go.Proofs.Ytdhgmifgjaedbaa

