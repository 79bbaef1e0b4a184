/- Parts Wr3, Wr4, Wr5, joined. No condition. -/
import Derived.Test.YtdhgmifgjaedbaaM4C
/- The reader's functions: Read, bad, wrong, Num. No condition. -/
namespace Go.Proofs.Ytdhgmifgjaedbaa
set_option linter.unusedVariables false
set_option linter.unusedSimpArgs false
open Go.RowKit Px Wr
theorem y_shlII {P : Program} {t : TypeId} {x y : Operand} {K : Value → Prop} (a n : Int) (hn0 : 0 ≤ n) (h1 : n < 64) (h0 : 0 ≤ a) (h2 : a * 2 ^ n.toNat ≤ 9223372036854775807) : Yld P (binS .shl t x y (.int .i64 a) (.int .i64 n)) K = K (.int .i64 (a * 2 ^ n.toNat)) := Yld_eq fun w => by
  rw [binS_shift (.inl rfl)]
  simp only [binOp]
  have hn : min (n).toNat IntKind.i64.bits = n.toNat := by
    simp [IntKind.bits]; omega
  unfold Op.shift
  rw [if_neg (by omega), hn]
  simp only [Sem.run_pure]
  have hp : (0 : Int) ≤ a * 2 ^ n.toNat := Int.mul_nonneg h0 (Int.pow_nonneg (by omega))
  rw [wrap_in _ (by omega) h2]
theorem pow7 (k : Nat) : 2 ^ (7 * k) = 128 ^ k := by rw [Nat.pow_mul]
theorem or_add {a k : Nat} (ha : a < 128 ^ k) (c : Nat) : a ||| c * 128 ^ k = a + c * 128 ^ k := by
  have := Nat.shiftLeft_add_eq_or_of_lt (b := a) (i := 7 * k) (by rw [pow7]; exact ha) c
  rw [Nat.shiftLeft_eq, pow7] at this
  rw [Nat.or_comm, ← this, Nat.add_comm]
theorem pow9 {k : Nat} (hk : k < 9) (c : Nat) (hc : c < 128) : (c + 1) * 128 ^ k ≤ 9223372036854775808 := by
  have h1 : 128 ^ k ≤ 128 ^ 8 := Nat.pow_le_pow_right (by omega) (by omega)
  have h2 : (c + 1) * 128 ^ k ≤ 128 * 128 ^ 8 := Nat.mul_le_mul (by omega) h1
  exact h2
/-- A reader's state in memory. -/
def IS (h : PH) (ib : Nat) (s : List UInt8) : St → Prop
  | .ok t => ∃ at_ : Nat, at_ ≤ s.length ∧ s.drop at_ = t ∧ h.m ib = some ⟨[str s, .int .i64 at_, .nilIface], 3⟩
  | .bad p => ∃ at_ be : Nat, at_ ≤ s.length ∧ be ≠ ib ∧ h.m ib = some ⟨[str s, .int .i64 at_, errV be], 3⟩ ∧ h.m be = some ⟨[str wireT, .int .i64 p, codeV 2], 3⟩
theorem IS.more {h h' : PH} {ib : Nat} {s : List UInt8} {st : St} (i : IS h ib s st) (l : PH.Le h h') : IS h' ib s st := by
  cases st with
  | ok t => obtain ⟨a, h1, h2, h3⟩ := i; exact ⟨a, h1, h2, l.m _ _ h3⟩
  | bad p => obtain ⟨a, be, h1, h2, h3, h4⟩ := i; exact ⟨a, be, h1, h2, l.m _ _ h3, l.m _ _ h4⟩
def Wr.St.isBad : St → Bool
  | .ok _ => false
  | .bad _ => true
section
variable (w0 : World) (h : PH) (ib : Nat) (s : List UInt8)
set_option maxRecDepth 20000 in
theorem read_any : PCalls Try.prog w0 38 [str s] h fun r h' => ∃ ib, r = .pointer (some ⟨ib, 0, none⟩) ∧ h.top ≤ ib ∧ PH.Le h h' ∧ IS h' ib s (.ok s) := by
  refine PCalls_body Try.func38 (by kernel_rfl) rfl _ Try.ntmps38 (by kernel_rfl) (by kernel_rfl) _ Try.results38 ?_
  simp -dsimp -implicitDefEqProofs (disch := first | omega | assumption | (simp only [Option.isSome_some, Qt0]; done) | (simp only [UInt64.reduceToNat, UInt32.reduceToNat, UInt8.reduceToNat, List.length_cons, List.length_nil, List.length_append, Int.toNat_natCast] <;> omega) | fail) only [Nat.reduceLT, Nat.reduceLeDiff, Nat.reduceEqDiff, ↓reduceIte, Int.reduceLT, Int.reduceLE, Int.reduceToNat, Int.reduceEq, Int.reduceNe, Nat.reduceAdd, UInt8.reduceOfNat, UInt16.reduceOfNat, UInt32.reduceOfNat, UInt64.reduceOfNat, UInt64.reduceToNat, UInt32.reduceToNat, UInt16.reduceToNat, UInt8.reduceToNat, Int.reduceAdd, Int.reduceSub, Int.reduceMul, Nat.reduceMul, Qp0, Qp1, Ql0, Qe0]
  refine fun b hb => ?_
  simp -dsimp -implicitDefEqProofs (disch := first | omega | assumption | (simp only [Option.isSome_some, Qt0]; done) | (simp only [UInt64.reduceToNat, UInt32.reduceToNat, UInt8.reduceToNat, List.length_cons, List.length_nil, List.length_append, Int.toNat_natCast] <;> omega) | fail) only [Nat.reduceLT, Nat.reduceLeDiff, Nat.reduceEqDiff, ↓reduceIte, Int.reduceLT, Int.reduceLE, Int.reduceToNat, Int.reduceEq, Int.reduceNe, Nat.reduceAdd, UInt8.reduceOfNat, UInt16.reduceOfNat, UInt32.reduceOfNat, UInt64.reduceOfNat, UInt64.reduceToNat, UInt32.reduceToNat, UInt16.reduceToNat, UInt8.reduceToNat, Int.reduceAdd, Int.reduceSub, Int.reduceMul, Nat.reduceMul, Qp0, Qp1, Ql0, Qe0]
  exact ⟨_, PH.Le.refl _, b, rfl, hb, (PH.Le.refl h).new b _ hb, 0, by omega, rfl, by rw [PH.new_m, if_pos rfl]; rfl⟩
set_option maxRecDepth 20000 in
theorem bad_any (st : St) (hi : IS h ib s st) : PCalls Try.prog w0 66 [.pointer (some ⟨ib, 0, none⟩)] h fun r h' => r = .bool st.isBad ∧ h' = h := by
  refine PCalls_body Try.func66 (by kernel_rfl) rfl _ Try.ntmps66 (by kernel_rfl) (by kernel_rfl) _ Try.results66 ?_
  cases st with
  | ok t =>
    obtain ⟨a, h1, h2, h3⟩ := hi
    simp -dsimp -implicitDefEqProofs (disch := first | omega | assumption | (simp only [Option.isSome_some, Qt0]; done) | (simp only [UInt64.reduceToNat, UInt32.reduceToNat, UInt8.reduceToNat, List.length_cons, List.length_nil, List.length_append, Int.toNat_natCast] <;> omega) | fail) only [Nat.reduceLT, Nat.reduceLeDiff, Nat.reduceEqDiff, ↓reduceIte, Int.reduceLT, Int.reduceLE, Int.reduceToNat, Int.reduceEq, Int.reduceNe, Nat.reduceAdd, UInt8.reduceOfNat, UInt16.reduceOfNat, UInt32.reduceOfNat, UInt64.reduceOfNat, UInt64.reduceToNat, UInt32.reduceToNat, UInt16.reduceToNat, UInt8.reduceToNat, Int.reduceAdd, Int.reduceSub, Int.reduceMul, Nat.reduceMul, Qp0, Qp1, Ql0, Qe0, rd_M, rdM_some, h3]
    exact ⟨_, PH.Le.refl _, by rfl, rfl⟩
  | bad p =>
    obtain ⟨a, be, h1, h2, h3, h4⟩ := hi
    unfold errV at *
    simp -dsimp -implicitDefEqProofs (disch := first | omega | assumption | (simp only [Option.isSome_some, Qt0]; done) | (simp only [UInt64.reduceToNat, UInt32.reduceToNat, UInt8.reduceToNat, List.length_cons, List.length_nil, List.length_append, Int.toNat_natCast] <;> omega) | fail) only [Nat.reduceLT, Nat.reduceLeDiff, Nat.reduceEqDiff, ↓reduceIte, Int.reduceLT, Int.reduceLE, Int.reduceToNat, Int.reduceEq, Int.reduceNe, Nat.reduceAdd, UInt8.reduceOfNat, UInt16.reduceOfNat, UInt32.reduceOfNat, UInt64.reduceOfNat, UInt64.reduceToNat, UInt32.reduceToNat, UInt16.reduceToNat, UInt8.reduceToNat, Int.reduceAdd, Int.reduceSub, Int.reduceMul, Nat.reduceMul, Qp0, Qp1, Ql0, Qe0, rd_M, rdM_some, h3]
    exact ⟨_, PH.Le.refl _, by rfl, rfl⟩
set_option maxRecDepth 20000 in
theorem wrongI_ok (a p : Nat) (ha : a ≤ s.length) (h3 : h.m ib = some ⟨[str s, .int .i64 a, .nilIface], 3⟩) : PCalls Try.prog w0 67 [.pointer (some ⟨ib, 0, none⟩), .int .i64 p] h fun r h' => IS h' ib s (.bad p) ∧ Chg (· = ib) h h' := by
  refine PCalls_body Try.func67 (by kernel_rfl) rfl _ Try.ntmps67 (by kernel_rfl) (by kernel_rfl) _ Try.results67 ?_
  simp -dsimp -implicitDefEqProofs (disch := first | omega | assumption | (simp only [Option.isSome_some, Qt0]; done) | (simp only [UInt64.reduceToNat, UInt32.reduceToNat, UInt8.reduceToNat, List.length_cons, List.length_nil, List.length_append, Int.toNat_natCast] <;> omega) | fail) only [Nat.reduceLT, Nat.reduceLeDiff, Nat.reduceEqDiff, ↓reduceIte, Int.reduceLT, Int.reduceLE, Int.reduceToNat, Int.reduceEq, Int.reduceNe, Nat.reduceAdd, UInt8.reduceOfNat, UInt16.reduceOfNat, UInt32.reduceOfNat, UInt64.reduceOfNat, UInt64.reduceToNat, UInt32.reduceToNat, UInt16.reduceToNat, UInt8.reduceToNat, Int.reduceAdd, Int.reduceSub, Int.reduceMul, Nat.reduceMul, Qp0, Qp1, Ql0, Qe0, rd_M, rdM_some, h3]
  refine (at_any wireT _ _ _ w0 h).mono ?_
  rintro v hq ⟨be, rfl, hbe, rfl⟩
  have hle := (PH.Le.refl h).new be ⟨[str wireT, .int .i64 p, .iface 40 (.int .i64 2)], 3⟩ hbe
  have hbm : (h.new be ⟨[str wireT, .int .i64 p, .iface 40 (.int .i64 2)], 3⟩).m be = some ⟨[str wireT, .int .i64 p, .iface 40 (.int .i64 2)], 3⟩ := by rw [PH.new_m, if_pos rfl]
  have hlt := h.lt _ _ h3
  generalize h.new be ⟨[str wireT, .int .i64 p, .iface 40 (.int .i64 2)], 3⟩ = q at *
  have hi1 := hle.m _ _ h3
  unfold errV
  simp -dsimp -implicitDefEqProofs (disch := first | omega | assumption | (simp only [Option.isSome_some, Qt0]; done) | (simp only [UInt64.reduceToNat, UInt32.reduceToNat, UInt8.reduceToNat, List.length_cons, List.length_nil, List.length_append, Int.toNat_natCast] <;> omega) | fail) only [Nat.reduceLT, Nat.reduceLeDiff, Nat.reduceEqDiff, ↓reduceIte, Int.reduceLT, Int.reduceLE, Int.reduceToNat, Int.reduceEq, Int.reduceNe, Nat.reduceAdd, UInt8.reduceOfNat, UInt16.reduceOfNat, UInt32.reduceOfNat, UInt64.reduceOfNat, UInt64.reduceToNat, UInt32.reduceToNat, UInt16.reduceToNat, UInt8.reduceToNat, Int.reduceAdd, Int.reduceSub, Int.reduceMul, Nat.reduceMul, Qp0, Qp1, Ql0, Qe0, hi1, List.set_cons_zero, List.set_cons_succ]
  refine ⟨_, PH.Le.refl _, ⟨a, be, ha, by omega, by rw [PH.new_m, if_pos rfl]; rfl, by rw [PH.new_m, if_neg (by omega)]; exact hbm⟩, (Chg.le hle).one _⟩
set_option maxRecDepth 20000 in
theorem wrongI_bad (p q : Nat) (hi : IS h ib s (.bad q)) : PCalls Try.prog w0 67 [.pointer (some ⟨ib, 0, none⟩), .int .i64 p] h fun r h' => h' = h := by
  refine PCalls_body Try.func67 (by kernel_rfl) rfl _ Try.ntmps67 (by kernel_rfl) (by kernel_rfl) _ Try.results67 ?_
  obtain ⟨a, be, h1, h2, h3, h4⟩ := hi
  unfold errV at *
  simp -dsimp -implicitDefEqProofs (disch := first | omega | assumption | (simp only [Option.isSome_some, Qt0]; done) | (simp only [UInt64.reduceToNat, UInt32.reduceToNat, UInt8.reduceToNat, List.length_cons, List.length_nil, List.length_append, Int.toNat_natCast] <;> omega) | fail) only [Nat.reduceLT, Nat.reduceLeDiff, Nat.reduceEqDiff, ↓reduceIte, Int.reduceLT, Int.reduceLE, Int.reduceToNat, Int.reduceEq, Int.reduceNe, Nat.reduceAdd, UInt8.reduceOfNat, UInt16.reduceOfNat, UInt32.reduceOfNat, UInt64.reduceOfNat, UInt64.reduceToNat, UInt32.reduceToNat, UInt16.reduceToNat, UInt8.reduceToNat, Int.reduceAdd, Int.reduceSub, Int.reduceMul, Nat.reduceMul, Qp0, Qp1, Ql0, Qe0, rd_M, rdM_some, h3]
  exact ⟨_, PH.Le.refl _, rfl⟩
def numS (most : Int) (len : Nat) (st : St) : Nat × St := st.step (fun t => numP t most) 0 len
theorem numS_fail {most : Int} {t : List UInt8} (len : Nat) (h : numP t most = none) : numS most len (.ok t) = (0, .bad (len - t.length)) := by
  unfold numS St.step; simp [h]
theorem scan_end (k acc : Nat) : scan k acc [] = none := by simp [scan]
theorem scan_nine (acc : Nat) (t : List UInt8) : scan 9 acc t = none := by cases t <;> simp [scan]
theorem numP_scan {most : Int} {t : List UInt8} (h : scan 0 0 t = none) : numP t most = none := by unfold numP; rw [h]; rfl
theorem numP_scan2 {most : Int} {t : List UInt8} {n : Nat} {u : List UInt8} (h : scan 0 0 t = some (n, u)) : numP t most = if most < (n : Int) ∨ top62 < n then none else some (n, u) := by unfold numP; rw [h]; rfl
set_option maxRecDepth 20000 in
set_option maxHeartbeats 2000000 in
theorem inum_any (hs : s.length ≤ 1000000000) (most : Int) (st : St) (hi : IS h ib s st) : PCalls Try.prog w0 39 [.pointer (some ⟨ib, 0, none⟩), .int .i64 most] h fun r h' => r = .int .i64 (numS most s.length st).1 ∧ IS h' ib s (numS most s.length st).2 ∧ Chg (· = ib) h h' := by
  refine PCalls_body Try.func39 (by kernel_rfl) rfl _ Try.ntmps39 (by kernel_rfl) (by kernel_rfl) _ Try.results39 ?_
  have hB := Lib.hid (bad_any w0 h ib s st hi)
  cases st with
  | bad p =>
    have hn : numS most s.length (.bad p) = (0, .bad p) := rfl
    have hb : St.isBad (.bad p) = true := rfl
    rw [hn]
    simp -dsimp -implicitDefEqProofs (disch := first | omega | assumption | (simp only [Option.isSome_some, Qt0]; done) | (simp only [UInt64.reduceToNat, UInt32.reduceToNat, UInt8.reduceToNat, List.length_cons, List.length_nil, List.length_append, Int.toNat_natCast] <;> omega) | fail) only [Nat.reduceLT, Nat.reduceLeDiff, Nat.reduceEqDiff, ↓reduceIte, Int.reduceLT, Int.reduceLE, Int.reduceToNat, Int.reduceEq, Int.reduceNe, Nat.reduceAdd, UInt8.reduceOfNat, UInt16.reduceOfNat, UInt32.reduceOfNat, UInt64.reduceOfNat, UInt64.reduceToNat, UInt32.reduceToNat, UInt16.reduceToNat, UInt8.reduceToNat, Int.reduceAdd, Int.reduceSub, Int.reduceMul, Nat.reduceMul, Qp0, Qp1, Ql0, Qe0]
    refine hB.out.mono ?_
    rintro v hq ⟨rfl, hz⟩
    obtain rfl := hz.symm
    simp -dsimp -implicitDefEqProofs (disch := first | omega | assumption | (simp only [Option.isSome_some, Qt0]; done) | (simp only [UInt64.reduceToNat, UInt32.reduceToNat, UInt8.reduceToNat, List.length_cons, List.length_nil, List.length_append, Int.toNat_natCast] <;> omega) | fail) only [Nat.reduceLT, Nat.reduceLeDiff, Nat.reduceEqDiff, ↓reduceIte, Int.reduceLT, Int.reduceLE, Int.reduceToNat, Int.reduceEq, Int.reduceNe, Nat.reduceAdd, UInt8.reduceOfNat, UInt16.reduceOfNat, UInt32.reduceOfNat, UInt64.reduceOfNat, UInt64.reduceToNat, UInt32.reduceToNat, UInt16.reduceToNat, UInt8.reduceToNat, Int.reduceAdd, Int.reduceSub, Int.reduceMul, Nat.reduceMul, Qp0, Qp1, Ql0, Qe0, hb]
    exact ⟨_, PH.Le.refl _, by trivial, hi, Chg.refl _ _⟩
  | ok t =>
    obtain ⟨a0, h1, rfl, h3⟩ := hi
    have hb : St.isBad (.ok (s.drop a0)) = false := rfl
    simp -dsimp -implicitDefEqProofs (disch := first | omega | assumption | (simp only [Option.isSome_some, Qt0]; done) | (simp only [UInt64.reduceToNat, UInt32.reduceToNat, UInt8.reduceToNat, List.length_cons, List.length_nil, List.length_append, Int.toNat_natCast] <;> omega) | fail) only [Nat.reduceLT, Nat.reduceLeDiff, Nat.reduceEqDiff, ↓reduceIte, Int.reduceLT, Int.reduceLE, Int.reduceToNat, Int.reduceEq, Int.reduceNe, Nat.reduceAdd, UInt8.reduceOfNat, UInt16.reduceOfNat, UInt32.reduceOfNat, UInt64.reduceOfNat, UInt64.reduceToNat, UInt32.reduceToNat, UInt16.reduceToNat, UInt8.reduceToNat, Int.reduceAdd, Int.reduceSub, Int.reduceMul, Nat.reduceMul, Qp0, Qp1, Ql0, Qe0]
    refine hB.out.mono ?_
    rintro v hq ⟨rfl, hz⟩
    obtain rfl := hz.symm
    simp -dsimp -implicitDefEqProofs (disch := first | omega | assumption | (simp only [Option.isSome_some, Qt0]; done) | (simp only [UInt64.reduceToNat, UInt32.reduceToNat, UInt8.reduceToNat, List.length_cons, List.length_nil, List.length_append, Int.toNat_natCast] <;> omega) | fail) only [Nat.reduceLT, Nat.reduceLeDiff, Nat.reduceEqDiff, ↓reduceIte, Int.reduceLT, Int.reduceLE, Int.reduceToNat, Int.reduceEq, Int.reduceNe, Nat.reduceAdd, UInt8.reduceOfNat, UInt16.reduceOfNat, UInt32.reduceOfNat, UInt64.reduceOfNat, UInt64.reduceToNat, UInt32.reduceToNat, UInt16.reduceToNat, UInt8.reduceToNat, Int.reduceAdd, Int.reduceSub, Int.reduceMul, Nat.reduceMul, Qp0, Qp1, Ql0, Qe0, hb]
    refine PW_drawn 6 _ (by kernel_rfl) (by kernel_rfl) (by kernel_rfl) (by kernel_rfl) (by kernel_rfl) (fun c f h hq => by simp only [thenC_panic, thenK_panic, inBlk_panic, thenN_panic, vcRet_panic] at hq) (PH.Le.refl _).sub ?_
    simp -dsimp -implicitDefEqProofs (disch := first | omega | assumption | (simp only [Option.isSome_some, Qt0]; done) | (simp only [UInt64.reduceToNat, UInt32.reduceToNat, UInt8.reduceToNat, List.length_cons, List.length_nil, List.length_append, Int.toNat_natCast] <;> omega) | fail) only [Nat.reduceLT, Nat.reduceLeDiff, Nat.reduceEqDiff, ↓reduceIte, Int.reduceLT, Int.reduceLE, Int.reduceToNat, Int.reduceEq, Int.reduceNe, Nat.reduceAdd, UInt8.reduceOfNat, UInt16.reduceOfNat, UInt32.reduceOfNat, UInt64.reduceOfNat, UInt64.reduceToNat, UInt32.reduceToNat, UInt16.reduceToNat, UInt8.reduceToNat, Int.reduceAdd, Int.reduceSub, Int.reduceMul, Nat.reduceMul, Qp0, Qp1, Ql0, Qe0, rd_M, rdM_some, h3]
    refine PW_loop (fun n f h' => ∃ k acc : Nat, n + k = 9 ∧ f 0 = some (.pointer (some ⟨ib, 0, none⟩)) ∧ f 1 = some (.int .i64 most) ∧ f 5 = some (.int .i64 acc) ∧ f 6 = some (.int .i64 a0) ∧ f 7 = some (.int .i64 k) ∧ h'.m ib = some ⟨[str s, .int .i64 (a0 + k : Nat), .nilIface], 3⟩ ∧ acc < 128 ^ k ∧ scan 0 0 (s.drop a0) = scan k acc (s.drop (a0 + k)) ∧ a0 + k ≤ s.length ∧ Chg (· = ib) h h') (by kernel_rfl) 9 ⟨0, 0, rfl, ?_, ?_, ?_, ?_, ?_, h3, by omega, rfl, h1, Chg.refl _ _⟩ ?_
    · simp -dsimp -implicitDefEqProofs (disch := first | omega | assumption | (simp only [Option.isSome_some, Qt0]; done) | (simp only [UInt64.reduceToNat, UInt32.reduceToNat, UInt8.reduceToNat, List.length_cons, List.length_nil, List.length_append, Int.toNat_natCast] <;> omega) | fail) only [Nat.reduceLT, Nat.reduceLeDiff, Nat.reduceEqDiff, ↓reduceIte, Int.reduceLT, Int.reduceLE, Int.reduceToNat, Int.reduceEq, Int.reduceNe, Nat.reduceAdd, UInt8.reduceOfNat, UInt16.reduceOfNat, UInt32.reduceOfNat, UInt64.reduceOfNat, UInt64.reduceToNat, UInt32.reduceToNat, UInt16.reduceToNat, UInt8.reduceToNat, Int.reduceAdd, Int.reduceSub, Int.reduceMul, Nat.reduceMul, Qp0, Qp1, Ql0, Qe0]
    · simp -dsimp -implicitDefEqProofs (disch := first | omega | assumption | (simp only [Option.isSome_some, Qt0]; done) | (simp only [UInt64.reduceToNat, UInt32.reduceToNat, UInt8.reduceToNat, List.length_cons, List.length_nil, List.length_append, Int.toNat_natCast] <;> omega) | fail) only [Nat.reduceLT, Nat.reduceLeDiff, Nat.reduceEqDiff, ↓reduceIte, Int.reduceLT, Int.reduceLE, Int.reduceToNat, Int.reduceEq, Int.reduceNe, Nat.reduceAdd, UInt8.reduceOfNat, UInt16.reduceOfNat, UInt32.reduceOfNat, UInt64.reduceOfNat, UInt64.reduceToNat, UInt32.reduceToNat, UInt16.reduceToNat, UInt8.reduceToNat, Int.reduceAdd, Int.reduceSub, Int.reduceMul, Nat.reduceMul, Qp0, Qp1, Ql0, Qe0]
    · simp -dsimp -implicitDefEqProofs (disch := first | omega | assumption | (simp only [Option.isSome_some, Qt0]; done) | (simp only [UInt64.reduceToNat, UInt32.reduceToNat, UInt8.reduceToNat, List.length_cons, List.length_nil, List.length_append, Int.toNat_natCast] <;> omega) | fail) only [Nat.reduceLT, Nat.reduceLeDiff, Nat.reduceEqDiff, ↓reduceIte, Int.reduceLT, Int.reduceLE, Int.reduceToNat, Int.reduceEq, Int.reduceNe, Nat.reduceAdd, UInt8.reduceOfNat, UInt16.reduceOfNat, UInt32.reduceOfNat, UInt64.reduceOfNat, UInt64.reduceToNat, UInt32.reduceToNat, UInt16.reduceToNat, UInt8.reduceToNat, Int.reduceAdd, Int.reduceSub, Int.reduceMul, Nat.reduceMul, Qp0, Qp1, Ql0, Qe0]
      try rfl
    · simp -dsimp -implicitDefEqProofs (disch := first | omega | assumption | (simp only [Option.isSome_some, Qt0]; done) | (simp only [UInt64.reduceToNat, UInt32.reduceToNat, UInt8.reduceToNat, List.length_cons, List.length_nil, List.length_append, Int.toNat_natCast] <;> omega) | fail) only [Nat.reduceLT, Nat.reduceLeDiff, Nat.reduceEqDiff, ↓reduceIte, Int.reduceLT, Int.reduceLE, Int.reduceToNat, Int.reduceEq, Int.reduceNe, Nat.reduceAdd, UInt8.reduceOfNat, UInt16.reduceOfNat, UInt32.reduceOfNat, UInt64.reduceOfNat, UInt64.reduceToNat, UInt32.reduceToNat, UInt16.reduceToNat, UInt8.reduceToNat, Int.reduceAdd, Int.reduceSub, Int.reduceMul, Nat.reduceMul, Qp0, Qp1, Ql0, Qe0]
    · simp -dsimp -implicitDefEqProofs (disch := first | omega | assumption | (simp only [Option.isSome_some, Qt0]; done) | (simp only [UInt64.reduceToNat, UInt32.reduceToNat, UInt8.reduceToNat, List.length_cons, List.length_nil, List.length_append, Int.toNat_natCast] <;> omega) | fail) only [Nat.reduceLT, Nat.reduceLeDiff, Nat.reduceEqDiff, ↓reduceIte, Int.reduceLT, Int.reduceLE, Int.reduceToNat, Int.reduceEq, Int.reduceNe, Nat.reduceAdd, UInt8.reduceOfNat, UInt16.reduceOfNat, UInt32.reduceOfNat, UInt64.reduceOfNat, UInt64.reduceToNat, UInt32.reduceToNat, UInt16.reduceToNat, UInt8.reduceToNat, Int.reduceAdd, Int.reduceSub, Int.reduceMul, Nat.reduceMul, Qp0, Qp1, Ql0, Qe0]
      try rfl
    clear hB
    rintro n f h' ⟨k, acc, hnk, f0, f1, f5, f6, f7, hm, hacc, hsc, hak, hch⟩
    have hW := Lib.hid fun (h' : PH) (a : Nat) (ha : a ≤ s.length) hm => wrongI_ok w0 h' ib s a a0 ha hm
    have hfl : s.length - (s.drop a0).length = a0 := by simp; omega
    by_cases hk : k < 9
    · have e1 : decide ((k : Int) < 9) = true := decide_eq_true (by omega)
      by_cases hlt : a0 + k < s.length
      · have e2 : decide (((a0 + k : Nat) : Int) < (s.length : Int)) = true := decide_eq_true (by omega)
        obtain ⟨c, hc⟩ : ∃ c, c = s.getD (a0 + k) 0 := ⟨_, rfl⟩
        have hdr : s.drop (a0 + k) = c :: s.drop (a0 + k + 1) := by rw [List.drop_eq_getElem_cons hlt, hc, List.getD, List.getElem?_eq_getElem hlt]; rfl
        rw [hdr, scan, if_neg (by omega)] at hsc
        have hc128 := c.toNat_lt
        obtain ⟨x, hx⟩ : ∃ x : Nat, x = (c.toNat % 128) * 128 ^ k := ⟨_, rfl⟩
        have hp9 := pow9 hk (c.toNat % 128) (Nat.mod_lt _ (by omega))
        rw [Nat.add_mul, Nat.one_mul, ← hx] at hp9
        have hand : (c &&& 127).toNat = c.toNat % 128 := by
          rw [UInt8.toNat_and]; exact Nat.and_two_pow_sub_one_eq_mod _ 7
        have hsh : ∀ {t : TypeId} {x' y : Operand} {K : Value → Prop}, Yld Try.prog (binS .shl t x' y (.int .i64 ((c &&& 127).toNat : Nat)) (.int .i64 (7 * (k : Int)))) K = K (.int .i64 (x : Nat)) := fun {t x' y K} => by
          have e : (7 * (k : Int)).toNat = 7 * k := by omega
          have e3 : (((c &&& 127).toNat : Nat) : Int) * 2 ^ (7 * k) = (x : Int) := by
            rw [hand, hx]
            push_cast
            rw [show (128 : Int) = 2 ^ 7 by rfl, ← Int.pow_mul]
          rw [y_shlII _ _ (by omega) (by omega) (by omega) (by rw [e, e3]; omega), e, e3]
        obtain ⟨q, hq⟩ : ∃ q : Nat, q = acc + x := ⟨_, rfl⟩
        have hor : ∀ {t : TypeId} {x' y : Operand} {K : Value → Prop}, Yld Try.prog (binS .or t x' y (.int .i64 (acc : Nat)) (.int .i64 (x : Nat))) K = K (.int .i64 (q : Nat)) := fun {t x' y K} => by
          rw [y_orI _ _ (by omega) (by omega) (by omega) (by omega), Int.toNat_natCast, Int.toNat_natCast, hq, hx, ← or_add hacc]
        have hq1 : q < 128 ^ (k + 1) := by
          have h5 : (c.toNat % 128 + 1) * 128 ^ k ≤ 128 * 128 ^ k := Nat.mul_le_mul_right _ (by omega)
          rw [Nat.add_mul, Nat.one_mul, ← hx] at h5
          rw [Nat.pow_succ]; omega
        rw [← hx, ← hq] at hsc
        generalize ha : a0 + k = a at *
        have hga : s.getD a 0 = c := hc.symm
        have hat : (a : Int) < (s.length : Int) := by omega
        simp -dsimp -implicitDefEqProofs (disch := first | omega | assumption | (simp only [Option.isSome_some, Qt0]; done) | (simp only [UInt64.reduceToNat, UInt32.reduceToNat, UInt8.reduceToNat, List.length_cons, List.length_nil, List.length_append, Int.toNat_natCast] <;> omega) | fail) only [Nat.reduceLT, Nat.reduceLeDiff, Nat.reduceEqDiff, ↓reduceIte, Int.reduceLT, Int.reduceLE, Int.reduceToNat, Int.reduceEq, Int.reduceNe, Nat.reduceAdd, UInt8.reduceOfNat, UInt16.reduceOfNat, UInt32.reduceOfNat, UInt64.reduceOfNat, UInt64.reduceToNat, UInt32.reduceToNat, UInt16.reduceToNat, UInt8.reduceToNat, Int.reduceAdd, Int.reduceSub, Int.reduceMul, Nat.reduceMul, Qp0, Qp1, Ql0, Qe0, f0, f1, f5, f6, f7, e1]
        refine PW_drawn 14 _ (by kernel_rfl) (by kernel_rfl) (by kernel_rfl) (by kernel_rfl) (by kernel_rfl) (fun c f h hq => by simp only [thenC_panic, thenK_panic, inBlk_panic, thenN_panic, vcRet_panic] at hq) (PH.Le.refl _).sub ?_
        simp -dsimp -implicitDefEqProofs (disch := first | omega | assumption | (simp only [Option.isSome_some, Qt0]; done) | (simp only [UInt64.reduceToNat, UInt32.reduceToNat, UInt8.reduceToNat, List.length_cons, List.length_nil, List.length_append, Int.toNat_natCast] <;> omega) | fail) only [Nat.reduceLT, Nat.reduceLeDiff, Nat.reduceEqDiff, ↓reduceIte, Int.reduceLT, Int.reduceLE, Int.reduceToNat, Int.reduceEq, Int.reduceNe, Nat.reduceAdd, UInt8.reduceOfNat, UInt16.reduceOfNat, UInt32.reduceOfNat, UInt64.reduceOfNat, UInt64.reduceToNat, UInt32.reduceToNat, UInt16.reduceToNat, UInt8.reduceToNat, Int.reduceAdd, Int.reduceSub, Int.reduceMul, Nat.reduceMul, Qp0, Qp1, Ql0, Qe0, f0, f1, f5, f6, f7, e1, rd_M, rdM_some, hm, e2]
        refine PW_drawn 10 _ (by kernel_rfl) (by kernel_rfl) (by kernel_rfl) (by kernel_rfl) (by kernel_rfl) (fun c f h hq => by simp only [thenC_panic, thenK_panic, inBlk_panic, thenN_panic, vcRet_panic] at hq) (PH.Le.refl _).sub ?_
        simp -dsimp -implicitDefEqProofs (disch := first | omega | assumption | (simp only [Option.isSome_some, Qt0]; done) | (simp only [UInt64.reduceToNat, UInt32.reduceToNat, UInt8.reduceToNat, List.length_cons, List.length_nil, List.length_append, Int.toNat_natCast] <;> omega) | fail) only [Nat.reduceLT, Nat.reduceLeDiff, Nat.reduceEqDiff, ↓reduceIte, Int.reduceLT, Int.reduceLE, Int.reduceToNat, Int.reduceEq, Int.reduceNe, Nat.reduceAdd, UInt8.reduceOfNat, UInt16.reduceOfNat, UInt32.reduceOfNat, UInt64.reduceOfNat, UInt64.reduceToNat, UInt32.reduceToNat, UInt16.reduceToNat, UInt8.reduceToNat, Int.reduceAdd, Int.reduceSub, Int.reduceMul, Nat.reduceMul, Qp0, Qp1, Ql0, Qe0, f0, f1, f5, f6, f7, rd_M, rdM_some, hm, hga, List.set_cons_zero, List.set_cons_succ, hsh, hor]
        have hch2 := hch.one ⟨[str s, .int .i64 ((a : Int) + 1), .nilIface], 3⟩
        have hm2 : (h'.new ib ⟨[str s, .int .i64 ((a : Int) + 1), .nilIface], 3⟩).m ib = some ⟨[str s, .int .i64 ((a + 1 : Nat) : Int), .nilIface], 3⟩ := by rw [PH.new_m, if_pos rfl]; rfl
        generalize h'.new ib ⟨[str s, .int .i64 ((a : Int) + 1), .nilIface], 3⟩ = h2 at *
        cases p1 : decide (128 ≤ c) with
        | true =>
          have hc1 : 128 ≤ c.toNat := UInt8.le_iff_toNat_le.1 (of_decide_eq_true p1)
          rw [if_pos hc1] at hsc
          simp -dsimp -implicitDefEqProofs (disch := first | omega | assumption | (simp only [Option.isSome_some, Qt0]; done) | (simp only [UInt64.reduceToNat, UInt32.reduceToNat, UInt8.reduceToNat, List.length_cons, List.length_nil, List.length_append, Int.toNat_natCast] <;> omega) | fail) only [Nat.reduceLT, Nat.reduceLeDiff, Nat.reduceEqDiff, ↓reduceIte, Int.reduceLT, Int.reduceLE, Int.reduceToNat, Int.reduceEq, Int.reduceNe, Nat.reduceAdd, UInt8.reduceOfNat, UInt16.reduceOfNat, UInt32.reduceOfNat, UInt64.reduceOfNat, UInt64.reduceToNat, UInt32.reduceToNat, UInt16.reduceToNat, UInt8.reduceToNat, Int.reduceAdd, Int.reduceSub, Int.reduceMul, Nat.reduceMul, Qp0, Qp1, Ql0, Qe0, p1, f0, f1, f5, f6, f7]
          exact ⟨n - 1, _, by omega, PH.Le.refl _, k + 1, q, by omega, by trivial, by trivial, by trivial, by trivial, by simp, by rw [show ((a0 : Int) + ((k + 1 : Nat) : Int)) = ((a + 1 : Nat) : Int) by omega]; exact hm2, hq1, by rw [hsc]; congr 2; omega, by omega, hch2⟩
        | false =>
          have hc1 : ¬ 128 ≤ c.toNat := by
            have : ¬ (128 ≤ c) := of_decide_eq_false p1
            intro h; exact this (UInt8.le_iff_toNat_le.2 h)
          rw [if_neg hc1] at hsc
          have hqc : acc + c.toNat * 128 ^ k = q := by rw [hq, hx, Nat.mod_eq_of_lt (by omega)]
          rw [hqc] at hsc
          by_cases hz : c.toNat = 0 ∧ 0 < k
          · rw [if_pos hz] at hsc
            have hF : numS most s.length (.ok (s.drop a0)) = (0, .bad a0) := by rw [numS_fail _ (numP_scan hsc), hfl]
            have e3 : decide (c = 0) = true := decide_eq_true (UInt8.toNat_inj.1 (by simpa using hz.1))
            have e4 : decide ((k : Int) > 0) = true := decide_eq_true (by omega)
            rw [hF]
            simp -dsimp -implicitDefEqProofs (disch := first | omega | assumption | (simp only [Option.isSome_some, Qt0]; done) | (simp only [UInt64.reduceToNat, UInt32.reduceToNat, UInt8.reduceToNat, List.length_cons, List.length_nil, List.length_append, Int.toNat_natCast] <;> omega) | fail) only [Nat.reduceLT, Nat.reduceLeDiff, Nat.reduceEqDiff, ↓reduceIte, Int.reduceLT, Int.reduceLE, Int.reduceToNat, Int.reduceEq, Int.reduceNe, Nat.reduceAdd, UInt8.reduceOfNat, UInt16.reduceOfNat, UInt32.reduceOfNat, UInt64.reduceOfNat, UInt64.reduceToNat, UInt32.reduceToNat, UInt16.reduceToNat, UInt8.reduceToNat, Int.reduceAdd, Int.reduceSub, Int.reduceMul, Nat.reduceMul, Qp0, Qp1, Ql0, Qe0, p1, e3, e4, f0, f1, f5, f6, f7]
            refine (hW.out h2 (a + 1) (by omega) hm2).mono ?_
            rintro v h3 ⟨hi3, hc3⟩
            simp -dsimp -implicitDefEqProofs (disch := first | omega | assumption | (simp only [Option.isSome_some, Qt0]; done) | (simp only [UInt64.reduceToNat, UInt32.reduceToNat, UInt8.reduceToNat, List.length_cons, List.length_nil, List.length_append, Int.toNat_natCast] <;> omega) | fail) only [Nat.reduceLT, Nat.reduceLeDiff, Nat.reduceEqDiff, ↓reduceIte, Int.reduceLT, Int.reduceLE, Int.reduceToNat, Int.reduceEq, Int.reduceNe, Nat.reduceAdd, UInt8.reduceOfNat, UInt16.reduceOfNat, UInt32.reduceOfNat, UInt64.reduceOfNat, UInt64.reduceToNat, UInt32.reduceToNat, UInt16.reduceToNat, UInt8.reduceToNat, Int.reduceAdd, Int.reduceSub, Int.reduceMul, Nat.reduceMul, Qp0, Qp1, Ql0, Qe0]
            exact ⟨_, PH.Le.refl _, by trivial, hi3, hch2.trans hc3⟩
          rw [if_neg hz] at hsc
          have hn := numP_scan2 (most := most) hsc
          unfold top62 at hn
          have hg : ∀ (b : Bool), (c.toNat = 0 → k = 0) := fun _ h0 => by omega
          by_cases hm1 : most < (q : Int)
          · rw [if_pos (.inl hm1)] at hn
            have hF : numS most s.length (.ok (s.drop a0)) = (0, .bad a0) := by rw [numS_fail _ hn, hfl]
            have e5 : decide ((q : Int) > most) = true := decide_eq_true (by omega)
            cases p2 : decide (c = 0) with
            | true =>
              have e4 : decide ((k : Int) > 0) = false := decide_eq_false (by
                have := hg true (by have : c = 0 := by simpa using p2
                                    rw [this]; rfl)
                omega)
              rw [hF]
              simp -dsimp -implicitDefEqProofs (disch := first | omega | assumption | (simp only [Option.isSome_some, Qt0]; done) | (simp only [UInt64.reduceToNat, UInt32.reduceToNat, UInt8.reduceToNat, List.length_cons, List.length_nil, List.length_append, Int.toNat_natCast] <;> omega) | fail) only [Nat.reduceLT, Nat.reduceLeDiff, Nat.reduceEqDiff, ↓reduceIte, Int.reduceLT, Int.reduceLE, Int.reduceToNat, Int.reduceEq, Int.reduceNe, Nat.reduceAdd, UInt8.reduceOfNat, UInt16.reduceOfNat, UInt32.reduceOfNat, UInt64.reduceOfNat, UInt64.reduceToNat, UInt32.reduceToNat, UInt16.reduceToNat, UInt8.reduceToNat, Int.reduceAdd, Int.reduceSub, Int.reduceMul, Nat.reduceMul, Qp0, Qp1, Ql0, Qe0, p1, p2, e4, e5, f0, f1, f5, f6, f7]
              refine (hW.out h2 (a + 1) (by omega) hm2).mono ?_
              rintro v h3 ⟨hi3, hc3⟩
              simp -dsimp -implicitDefEqProofs (disch := first | omega | assumption | (simp only [Option.isSome_some, Qt0]; done) | (simp only [UInt64.reduceToNat, UInt32.reduceToNat, UInt8.reduceToNat, List.length_cons, List.length_nil, List.length_append, Int.toNat_natCast] <;> omega) | fail) only [Nat.reduceLT, Nat.reduceLeDiff, Nat.reduceEqDiff, ↓reduceIte, Int.reduceLT, Int.reduceLE, Int.reduceToNat, Int.reduceEq, Int.reduceNe, Nat.reduceAdd, UInt8.reduceOfNat, UInt16.reduceOfNat, UInt32.reduceOfNat, UInt64.reduceOfNat, UInt64.reduceToNat, UInt32.reduceToNat, UInt16.reduceToNat, UInt8.reduceToNat, Int.reduceAdd, Int.reduceSub, Int.reduceMul, Nat.reduceMul, Qp0, Qp1, Ql0, Qe0]
              exact ⟨_, PH.Le.refl _, by trivial, hi3, hch2.trans hc3⟩
            | false =>
              rw [hF]
              simp -dsimp -implicitDefEqProofs (disch := first | omega | assumption | (simp only [Option.isSome_some, Qt0]; done) | (simp only [UInt64.reduceToNat, UInt32.reduceToNat, UInt8.reduceToNat, List.length_cons, List.length_nil, List.length_append, Int.toNat_natCast] <;> omega) | fail) only [Nat.reduceLT, Nat.reduceLeDiff, Nat.reduceEqDiff, ↓reduceIte, Int.reduceLT, Int.reduceLE, Int.reduceToNat, Int.reduceEq, Int.reduceNe, Nat.reduceAdd, UInt8.reduceOfNat, UInt16.reduceOfNat, UInt32.reduceOfNat, UInt64.reduceOfNat, UInt64.reduceToNat, UInt32.reduceToNat, UInt16.reduceToNat, UInt8.reduceToNat, Int.reduceAdd, Int.reduceSub, Int.reduceMul, Nat.reduceMul, Qp0, Qp1, Ql0, Qe0, p1, p2, e5, f0, f1, f5, f6, f7]
              refine (hW.out h2 (a + 1) (by omega) hm2).mono ?_
              rintro v h3 ⟨hi3, hc3⟩
              simp -dsimp -implicitDefEqProofs (disch := first | omega | assumption | (simp only [Option.isSome_some, Qt0]; done) | (simp only [UInt64.reduceToNat, UInt32.reduceToNat, UInt8.reduceToNat, List.length_cons, List.length_nil, List.length_append, Int.toNat_natCast] <;> omega) | fail) only [Nat.reduceLT, Nat.reduceLeDiff, Nat.reduceEqDiff, ↓reduceIte, Int.reduceLT, Int.reduceLE, Int.reduceToNat, Int.reduceEq, Int.reduceNe, Nat.reduceAdd, UInt8.reduceOfNat, UInt16.reduceOfNat, UInt32.reduceOfNat, UInt64.reduceOfNat, UInt64.reduceToNat, UInt32.reduceToNat, UInt16.reduceToNat, UInt8.reduceToNat, Int.reduceAdd, Int.reduceSub, Int.reduceMul, Nat.reduceMul, Qp0, Qp1, Ql0, Qe0]
              exact ⟨_, PH.Le.refl _, by trivial, hi3, hch2.trans hc3⟩
          have e5 : decide ((q : Int) > most) = false := decide_eq_false (by omega)
          by_cases hm3 : 4611686018427387903 < q
          · rw [if_pos (.inr hm3)] at hn
            have hF : numS most s.length (.ok (s.drop a0)) = (0, .bad a0) := by rw [numS_fail _ hn, hfl]
            have e6 : decide ((q : Int) > 4611686018427387903) = true := decide_eq_true (by omega)
            cases p2 : decide (c = 0) with
            | true =>
              have e4 : decide ((k : Int) > 0) = false := decide_eq_false (by
                have := hg true (by have : c = 0 := by simpa using p2
                                    rw [this]; rfl)
                omega)
              rw [hF]
              simp -dsimp -implicitDefEqProofs (disch := first | omega | assumption | (simp only [Option.isSome_some, Qt0]; done) | (simp only [UInt64.reduceToNat, UInt32.reduceToNat, UInt8.reduceToNat, List.length_cons, List.length_nil, List.length_append, Int.toNat_natCast] <;> omega) | fail) only [Nat.reduceLT, Nat.reduceLeDiff, Nat.reduceEqDiff, ↓reduceIte, Int.reduceLT, Int.reduceLE, Int.reduceToNat, Int.reduceEq, Int.reduceNe, Nat.reduceAdd, UInt8.reduceOfNat, UInt16.reduceOfNat, UInt32.reduceOfNat, UInt64.reduceOfNat, UInt64.reduceToNat, UInt32.reduceToNat, UInt16.reduceToNat, UInt8.reduceToNat, Int.reduceAdd, Int.reduceSub, Int.reduceMul, Nat.reduceMul, Qp0, Qp1, Ql0, Qe0, p1, p2, e4, e5, e6, f0, f1, f5, f6, f7]
              refine (hW.out h2 (a + 1) (by omega) hm2).mono ?_
              rintro v h3 ⟨hi3, hc3⟩
              simp -dsimp -implicitDefEqProofs (disch := first | omega | assumption | (simp only [Option.isSome_some, Qt0]; done) | (simp only [UInt64.reduceToNat, UInt32.reduceToNat, UInt8.reduceToNat, List.length_cons, List.length_nil, List.length_append, Int.toNat_natCast] <;> omega) | fail) only [Nat.reduceLT, Nat.reduceLeDiff, Nat.reduceEqDiff, ↓reduceIte, Int.reduceLT, Int.reduceLE, Int.reduceToNat, Int.reduceEq, Int.reduceNe, Nat.reduceAdd, UInt8.reduceOfNat, UInt16.reduceOfNat, UInt32.reduceOfNat, UInt64.reduceOfNat, UInt64.reduceToNat, UInt32.reduceToNat, UInt16.reduceToNat, UInt8.reduceToNat, Int.reduceAdd, Int.reduceSub, Int.reduceMul, Nat.reduceMul, Qp0, Qp1, Ql0, Qe0]
              exact ⟨_, PH.Le.refl _, by trivial, hi3, hch2.trans hc3⟩
            | false =>
              rw [hF]
              simp -dsimp -implicitDefEqProofs (disch := first | omega | assumption | (simp only [Option.isSome_some, Qt0]; done) | (simp only [UInt64.reduceToNat, UInt32.reduceToNat, UInt8.reduceToNat, List.length_cons, List.length_nil, List.length_append, Int.toNat_natCast] <;> omega) | fail) only [Nat.reduceLT, Nat.reduceLeDiff, Nat.reduceEqDiff, ↓reduceIte, Int.reduceLT, Int.reduceLE, Int.reduceToNat, Int.reduceEq, Int.reduceNe, Nat.reduceAdd, UInt8.reduceOfNat, UInt16.reduceOfNat, UInt32.reduceOfNat, UInt64.reduceOfNat, UInt64.reduceToNat, UInt32.reduceToNat, UInt16.reduceToNat, UInt8.reduceToNat, Int.reduceAdd, Int.reduceSub, Int.reduceMul, Nat.reduceMul, Qp0, Qp1, Ql0, Qe0, p1, p2, e5, e6, f0, f1, f5, f6, f7]
              refine (hW.out h2 (a + 1) (by omega) hm2).mono ?_
              rintro v h3 ⟨hi3, hc3⟩
              simp -dsimp -implicitDefEqProofs (disch := first | omega | assumption | (simp only [Option.isSome_some, Qt0]; done) | (simp only [UInt64.reduceToNat, UInt32.reduceToNat, UInt8.reduceToNat, List.length_cons, List.length_nil, List.length_append, Int.toNat_natCast] <;> omega) | fail) only [Nat.reduceLT, Nat.reduceLeDiff, Nat.reduceEqDiff, ↓reduceIte, Int.reduceLT, Int.reduceLE, Int.reduceToNat, Int.reduceEq, Int.reduceNe, Nat.reduceAdd, UInt8.reduceOfNat, UInt16.reduceOfNat, UInt32.reduceOfNat, UInt64.reduceOfNat, UInt64.reduceToNat, UInt32.reduceToNat, UInt16.reduceToNat, UInt8.reduceToNat, Int.reduceAdd, Int.reduceSub, Int.reduceMul, Nat.reduceMul, Qp0, Qp1, Ql0, Qe0]
              exact ⟨_, PH.Le.refl _, by trivial, hi3, hch2.trans hc3⟩
          have e6 : decide ((q : Int) > 4611686018427387903) = false := decide_eq_false (by omega)
          rw [if_neg (by omega)] at hn
          have hF : numS most s.length (.ok (s.drop a0)) = (q, .ok (s.drop (a + 1))) := by unfold numS St.step; simp only [hn]
          rw [hF]
          have hend : IS h2 ib s (.ok (s.drop (a + 1))) := ⟨a + 1, by omega, rfl, hm2⟩
          cases p2 : decide (c = 0) with
          | true =>
            have e4 : decide ((k : Int) > 0) = false := decide_eq_false (by
              have := hg true (by have : c = 0 := by simpa using p2
                                  rw [this]; rfl)
              omega)
            simp -dsimp -implicitDefEqProofs (disch := first | omega | assumption | (simp only [Option.isSome_some, Qt0]; done) | (simp only [UInt64.reduceToNat, UInt32.reduceToNat, UInt8.reduceToNat, List.length_cons, List.length_nil, List.length_append, Int.toNat_natCast] <;> omega) | fail) only [Nat.reduceLT, Nat.reduceLeDiff, Nat.reduceEqDiff, ↓reduceIte, Int.reduceLT, Int.reduceLE, Int.reduceToNat, Int.reduceEq, Int.reduceNe, Nat.reduceAdd, UInt8.reduceOfNat, UInt16.reduceOfNat, UInt32.reduceOfNat, UInt64.reduceOfNat, UInt64.reduceToNat, UInt32.reduceToNat, UInt16.reduceToNat, UInt8.reduceToNat, Int.reduceAdd, Int.reduceSub, Int.reduceMul, Nat.reduceMul, Qp0, Qp1, Ql0, Qe0, p1, p2, e4, e5, e6, f0, f1, f5, f6, f7]
            exact ⟨_, PH.Le.refl _, by trivial, hend, hch2⟩
          | false =>
            simp -dsimp -implicitDefEqProofs (disch := first | omega | assumption | (simp only [Option.isSome_some, Qt0]; done) | (simp only [UInt64.reduceToNat, UInt32.reduceToNat, UInt8.reduceToNat, List.length_cons, List.length_nil, List.length_append, Int.toNat_natCast] <;> omega) | fail) only [Nat.reduceLT, Nat.reduceLeDiff, Nat.reduceEqDiff, ↓reduceIte, Int.reduceLT, Int.reduceLE, Int.reduceToNat, Int.reduceEq, Int.reduceNe, Nat.reduceAdd, UInt8.reduceOfNat, UInt16.reduceOfNat, UInt32.reduceOfNat, UInt64.reduceOfNat, UInt64.reduceToNat, UInt32.reduceToNat, UInt16.reduceToNat, UInt8.reduceToNat, Int.reduceAdd, Int.reduceSub, Int.reduceMul, Nat.reduceMul, Qp0, Qp1, Ql0, Qe0, p1, p2, e5, e6, f0, f1, f5, f6, f7]
            exact ⟨_, PH.Le.refl _, by trivial, hend, hch2⟩
      · have e2 : decide (((a0 + k : Nat) : Int) < (s.length : Int)) = false := decide_eq_false (by omega)
        rw [show s.drop (a0 + k) = [] from List.drop_eq_nil_of_le (by omega), scan_end] at hsc
        have hF : numS most s.length (.ok (s.drop a0)) = (0, .bad a0) := by rw [numS_fail _ (numP_scan hsc), hfl]
        generalize ha : a0 + k = a at *
        rw [hF]
        simp -dsimp -implicitDefEqProofs (disch := first | omega | assumption | (simp only [Option.isSome_some, Qt0]; done) | (simp only [UInt64.reduceToNat, UInt32.reduceToNat, UInt8.reduceToNat, List.length_cons, List.length_nil, List.length_append, Int.toNat_natCast] <;> omega) | fail) only [Nat.reduceLT, Nat.reduceLeDiff, Nat.reduceEqDiff, ↓reduceIte, Int.reduceLT, Int.reduceLE, Int.reduceToNat, Int.reduceEq, Int.reduceNe, Nat.reduceAdd, UInt8.reduceOfNat, UInt16.reduceOfNat, UInt32.reduceOfNat, UInt64.reduceOfNat, UInt64.reduceToNat, UInt32.reduceToNat, UInt16.reduceToNat, UInt8.reduceToNat, Int.reduceAdd, Int.reduceSub, Int.reduceMul, Nat.reduceMul, Qp0, Qp1, Ql0, Qe0, f0, f1, f5, f6, f7, e1]
        refine PW_drawn 14 _ (by kernel_rfl) (by kernel_rfl) (by kernel_rfl) (by kernel_rfl) (by kernel_rfl) (fun c f h hq => by simp only [thenC_panic, thenK_panic, inBlk_panic, thenN_panic, vcRet_panic] at hq) (PH.Le.refl _).sub ?_
        simp -dsimp -implicitDefEqProofs (disch := first | omega | assumption | (simp only [Option.isSome_some, Qt0]; done) | (simp only [UInt64.reduceToNat, UInt32.reduceToNat, UInt8.reduceToNat, List.length_cons, List.length_nil, List.length_append, Int.toNat_natCast] <;> omega) | fail) only [Nat.reduceLT, Nat.reduceLeDiff, Nat.reduceEqDiff, ↓reduceIte, Int.reduceLT, Int.reduceLE, Int.reduceToNat, Int.reduceEq, Int.reduceNe, Nat.reduceAdd, UInt8.reduceOfNat, UInt16.reduceOfNat, UInt32.reduceOfNat, UInt64.reduceOfNat, UInt64.reduceToNat, UInt32.reduceToNat, UInt16.reduceToNat, UInt8.reduceToNat, Int.reduceAdd, Int.reduceSub, Int.reduceMul, Nat.reduceMul, Qp0, Qp1, Ql0, Qe0, f0, f1, f5, f6, f7, e1, rd_M, rdM_some, hm, e2]
        refine (hW.out h' a (by omega) hm).mono ?_
        rintro v h3 ⟨hi3, hc3⟩
        simp -dsimp -implicitDefEqProofs (disch := first | omega | assumption | (simp only [Option.isSome_some, Qt0]; done) | (simp only [UInt64.reduceToNat, UInt32.reduceToNat, UInt8.reduceToNat, List.length_cons, List.length_nil, List.length_append, Int.toNat_natCast] <;> omega) | fail) only [Nat.reduceLT, Nat.reduceLeDiff, Nat.reduceEqDiff, ↓reduceIte, Int.reduceLT, Int.reduceLE, Int.reduceToNat, Int.reduceEq, Int.reduceNe, Nat.reduceAdd, UInt8.reduceOfNat, UInt16.reduceOfNat, UInt32.reduceOfNat, UInt64.reduceOfNat, UInt64.reduceToNat, UInt32.reduceToNat, UInt16.reduceToNat, UInt8.reduceToNat, Int.reduceAdd, Int.reduceSub, Int.reduceMul, Nat.reduceMul, Qp0, Qp1, Ql0, Qe0]
        exact ⟨_, PH.Le.refl _, by trivial, hi3, hch.trans hc3⟩
    · have e1 : decide ((k : Int) < 9) = false := decide_eq_false (by omega)
      have hsc : scan 0 0 (s.drop a0) = none := by rw [hsc, show k = 9 by omega, scan_nine]
      have hF : numS most s.length (.ok (s.drop a0)) = (0, .bad a0) := by rw [numS_fail _ (numP_scan hsc), hfl]
      generalize ha : a0 + k = a at *
      rw [hF]
      simp -dsimp -implicitDefEqProofs (disch := first | omega | assumption | (simp only [Option.isSome_some, Qt0]; done) | (simp only [UInt64.reduceToNat, UInt32.reduceToNat, UInt8.reduceToNat, List.length_cons, List.length_nil, List.length_append, Int.toNat_natCast] <;> omega) | fail) only [Nat.reduceLT, Nat.reduceLeDiff, Nat.reduceEqDiff, ↓reduceIte, Int.reduceLT, Int.reduceLE, Int.reduceToNat, Int.reduceEq, Int.reduceNe, Nat.reduceAdd, UInt8.reduceOfNat, UInt16.reduceOfNat, UInt32.reduceOfNat, UInt64.reduceOfNat, UInt64.reduceToNat, UInt32.reduceToNat, UInt16.reduceToNat, UInt8.reduceToNat, Int.reduceAdd, Int.reduceSub, Int.reduceMul, Nat.reduceMul, Qp0, Qp1, Ql0, Qe0, f0, f1, f5, f6, f7, e1]
      refine PW_drawn 14 _ (by kernel_rfl) (by kernel_rfl) (by kernel_rfl) (by kernel_rfl) (by kernel_rfl) (fun c f h hq => by simp only [thenC_panic, thenK_panic, inBlk_panic, thenN_panic, vcRet_panic] at hq) (PH.Le.refl _).sub ?_
      simp -dsimp -implicitDefEqProofs (disch := first | omega | assumption | (simp only [Option.isSome_some, Qt0]; done) | (simp only [UInt64.reduceToNat, UInt32.reduceToNat, UInt8.reduceToNat, List.length_cons, List.length_nil, List.length_append, Int.toNat_natCast] <;> omega) | fail) only [Nat.reduceLT, Nat.reduceLeDiff, Nat.reduceEqDiff, ↓reduceIte, Int.reduceLT, Int.reduceLE, Int.reduceToNat, Int.reduceEq, Int.reduceNe, Nat.reduceAdd, UInt8.reduceOfNat, UInt16.reduceOfNat, UInt32.reduceOfNat, UInt64.reduceOfNat, UInt64.reduceToNat, UInt32.reduceToNat, UInt16.reduceToNat, UInt8.reduceToNat, Int.reduceAdd, Int.reduceSub, Int.reduceMul, Nat.reduceMul, Qp0, Qp1, Ql0, Qe0, f0, f1, f5, f6, f7, e1, rd_M, rdM_some, hm]
      refine (hW.out h' a (by omega) hm).mono ?_
      rintro v h3 ⟨hi3, hc3⟩
      simp -dsimp -implicitDefEqProofs (disch := first | omega | assumption | (simp only [Option.isSome_some, Qt0]; done) | (simp only [UInt64.reduceToNat, UInt32.reduceToNat, UInt8.reduceToNat, List.length_cons, List.length_nil, List.length_append, Int.toNat_natCast] <;> omega) | fail) only [Nat.reduceLT, Nat.reduceLeDiff, Nat.reduceEqDiff, ↓reduceIte, Int.reduceLT, Int.reduceLE, Int.reduceToNat, Int.reduceEq, Int.reduceNe, Nat.reduceAdd, UInt8.reduceOfNat, UInt16.reduceOfNat, UInt32.reduceOfNat, UInt64.reduceOfNat, UInt64.reduceToNat, UInt32.reduceToNat, UInt16.reduceToNat, UInt8.reduceToNat, Int.reduceAdd, Int.reduceSub, Int.reduceMul, Nat.reduceMul, Qp0, Qp1, Ql0, Qe0]
      exact ⟨_, PH.Le.refl _, by trivial, hi3, hch.trans hc3⟩
end
end Go.Proofs.Ytdhgmifgjaedbaa


/- The reader's functions: Text, Flag, Vec, End. No condition. -/
namespace Go.Proofs.Ytdhgmifgjaedbaa
set_option linter.unusedVariables false
set_option linter.unusedSimpArgs false
open Go.RowKit Px Wr
theorem info_int : (Try.prog.info? 3).map (fun i => (i.zero, i.size, i.bytes)) = some (some (.int .i64 0), 1, 8) := by kernel_rfl
theorem el_vec : El Try.prog 24 3 (.int .i64 0) 1 8 := ⟨Try.underlying24, info_parts info_int, rfl, by decide⟩
theorem el_ints : El Try.prog 23 3 (.int .i64 0) 1 8 := ⟨Try.underlying23, info_parts info_int, rfl, by decide⟩
def ints (l : List Int) : List Value := l.map (Value.int .i64)
theorem ints_one (l : List Int) : allOne (ints l) := by
  intro v hv
  obtain ⟨s, _, rfl⟩ := List.mem_map.1 hv
  rfl
theorem ints_snoc (l : List Int) (x : Int) : ints l ++ [.int .i64 x] = ints (l ++ [x]) := by simp [ints]
def txtS (most : Int) (len : Nat) (st : St) : List UInt8 × St := st.step (fun t => txtP t most) [] len
def flagS (len : Nat) (st : St) : Bool × St := st.step flagP false len
def vecS (len : Nat) (st : St) : List Int × St := st.step vecP [] len
theorem numS_ok {most : Int} {t u : List UInt8} {n : Nat} (len : Nat) (h : numP t most = some (n, u)) : numS most len (.ok t) = (n, .ok u) := by
  unfold numS St.step; simp [h]
theorem txtS_bad (most : Int) (len p : Nat) : txtS most len (.bad p) = ([], .bad p) := rfl
theorem txtS_no {most : Int} {t : List UInt8} (len : Nat) (h : numP t most = none) : txtS most len (.ok t) = ([], .bad (len - t.length)) := by
  unfold txtS St.step txtP; simp [h]
theorem txtS_long {most : Int} {t u : List UInt8} {n : Nat} (len : Nat) (h : numP t most = some (n, u)) (hl : u.length < n) : txtS most len (.ok t) = ([], .bad (len - t.length)) := by
  unfold txtS St.step txtP; simp [h, hl]
theorem txtS_ok {most : Int} {t u : List UInt8} {n : Nat} (len : Nat) (h : numP t most = some (n, u)) (hl : ¬ u.length < n) : txtS most len (.ok t) = (u.take n, .ok (u.drop n)) := by
  unfold txtS St.step txtP; simp [h, hl]
theorem flagS_eq (len : Nat) (st : St) : flagS len st = (decide (((numS 1 len st).1 : Int) = 1), (numS 1 len st).2) := by
  cases st with
  | bad p => rfl
  | ok t =>
    cases h : numP t 1 with
    | none => unfold flagS numS St.step flagP; simp [h]
    | some p =>
      unfold flagS numS St.step flagP; simp [h]; omega
theorem vecS_no {t : List UInt8} (len : Nat) (h : numP t 16 = none) : vecS len (.ok t) = ([], .bad (len - t.length)) := by
  unfold vecS St.step vecP; simp [h]
theorem vecS_no2 {t u : List UInt8} {n : Nat} (len : Nat) (h : numP t 16 = some (n, u)) (h2 : numsP n u = none) : vecS len (.ok t) = ([], .bad (len - t.length)) := by
  unfold vecS St.step vecP; simp [h, h2]
theorem vecS_no3 {t u w : List UInt8} {n : Nat} {v : List Int} (len : Nat) (h : numP t 16 = some (n, u)) (h2 : numsP n u = some (v, w)) (h3 : trim v big = false) : vecS len (.ok t) = ([], .bad (len - t.length)) := by
  unfold vecS St.step vecP; simp [h, h2, h3]
theorem vecS_ok {t u w : List UInt8} {n : Nat} {v : List Int} (len : Nat) (h : numP t 16 = some (n, u)) (h2 : numsP n u = some (v, w)) (h3 : trim v big = true) : vecS len (.ok t) = (v, .ok w) := by
  unfold vecS St.step vecP; simp [h, h2, h3]
section
variable (w0 : World) (h : PH) (ib : Nat) (s : List UInt8)
set_option maxRecDepth 20000 in
set_option maxHeartbeats 2000000 in
theorem itext_any (hs : s.length ≤ 1000000000) (most : Int) (st : St) (hi : IS h ib s st) : PCalls Try.prog w0 41 [.pointer (some ⟨ib, 0, none⟩), .int .i64 most] h fun r h' => r = str (txtS most s.length st).1 ∧ IS h' ib s (txtS most s.length st).2 ∧ Chg (· = ib) h h' := by
  refine PCalls_body Try.func41 (by kernel_rfl) rfl _ Try.ntmps41 (by kernel_rfl) (by kernel_rfl) _ Try.results41 ?_
  have hB := Lib.hid (bad_any w0 h ib s st hi)
  cases st with
  | bad p =>
    have hb : St.isBad (.bad p) = true := rfl
    rw [txtS_bad]
    simp -dsimp -implicitDefEqProofs (disch := first | omega | assumption | (simp only [Option.isSome_some, Qt0]; done) | (simp only [UInt64.reduceToNat, UInt32.reduceToNat, UInt8.reduceToNat, List.length_cons, List.length_nil, List.length_append, Int.toNat_natCast] <;> omega) | fail) only [Nat.reduceLT, Nat.reduceLeDiff, Nat.reduceEqDiff, ↓reduceIte, Int.reduceLT, Int.reduceLE, Int.reduceToNat, Int.reduceEq, Int.reduceNe, Nat.reduceAdd, UInt8.reduceOfNat, UInt16.reduceOfNat, UInt32.reduceOfNat, UInt64.reduceOfNat, UInt64.reduceToNat, UInt32.reduceToNat, UInt16.reduceToNat, UInt8.reduceToNat, Int.reduceAdd, Int.reduceSub, Int.reduceMul, Nat.reduceMul, Qp0, Qp1, Ql0, Qe0]
    refine hB.out.mono ?_
    rintro v hq ⟨rfl, hz⟩
    obtain rfl := hz.symm
    simp -dsimp -implicitDefEqProofs (disch := first | omega | assumption | (simp only [Option.isSome_some, Qt0]; done) | (simp only [UInt64.reduceToNat, UInt32.reduceToNat, UInt8.reduceToNat, List.length_cons, List.length_nil, List.length_append, Int.toNat_natCast] <;> omega) | fail) only [Nat.reduceLT, Nat.reduceLeDiff, Nat.reduceEqDiff, ↓reduceIte, Int.reduceLT, Int.reduceLE, Int.reduceToNat, Int.reduceEq, Int.reduceNe, Nat.reduceAdd, UInt8.reduceOfNat, UInt16.reduceOfNat, UInt32.reduceOfNat, UInt64.reduceOfNat, UInt64.reduceToNat, UInt32.reduceToNat, UInt16.reduceToNat, UInt8.reduceToNat, Int.reduceAdd, Int.reduceSub, Int.reduceMul, Nat.reduceMul, Qp0, Qp1, Ql0, Qe0, hb]
    exact ⟨_, PH.Le.refl _, by first | rfl | trivial, hi, Chg.refl _ _⟩
  | ok t =>
    have hN := inum_any w0 h ib s hs most _ hi
    obtain ⟨a0, h1, rfl, h3⟩ := hi
    have hb : St.isBad (.ok (s.drop a0)) = false := rfl
    have hfl : s.length - (s.drop a0).length = a0 := by simp; omega
    cases hp : numP (s.drop a0) most with
    | none =>
      rw [txtS_no _ hp, hfl]
      rw [numS_fail _ hp, hfl] at hN
      have hN := Lib.hid hN
      simp -dsimp -implicitDefEqProofs (disch := first | omega | assumption | (simp only [Option.isSome_some, Qt0]; done) | (simp only [UInt64.reduceToNat, UInt32.reduceToNat, UInt8.reduceToNat, List.length_cons, List.length_nil, List.length_append, Int.toNat_natCast] <;> omega) | fail) only [Nat.reduceLT, Nat.reduceLeDiff, Nat.reduceEqDiff, ↓reduceIte, Int.reduceLT, Int.reduceLE, Int.reduceToNat, Int.reduceEq, Int.reduceNe, Nat.reduceAdd, UInt8.reduceOfNat, UInt16.reduceOfNat, UInt32.reduceOfNat, UInt64.reduceOfNat, UInt64.reduceToNat, UInt32.reduceToNat, UInt16.reduceToNat, UInt8.reduceToNat, Int.reduceAdd, Int.reduceSub, Int.reduceMul, Nat.reduceMul, Qp0, Qp1, Ql0, Qe0]
      refine hB.out.mono ?_
      rintro v hq ⟨rfl, hz⟩
      obtain rfl := hz.symm
      simp -dsimp -implicitDefEqProofs (disch := first | omega | assumption | (simp only [Option.isSome_some, Qt0]; done) | (simp only [UInt64.reduceToNat, UInt32.reduceToNat, UInt8.reduceToNat, List.length_cons, List.length_nil, List.length_append, Int.toNat_natCast] <;> omega) | fail) only [Nat.reduceLT, Nat.reduceLeDiff, Nat.reduceEqDiff, ↓reduceIte, Int.reduceLT, Int.reduceLE, Int.reduceToNat, Int.reduceEq, Int.reduceNe, Nat.reduceAdd, UInt8.reduceOfNat, UInt16.reduceOfNat, UInt32.reduceOfNat, UInt64.reduceOfNat, UInt64.reduceToNat, UInt32.reduceToNat, UInt16.reduceToNat, UInt8.reduceToNat, Int.reduceAdd, Int.reduceSub, Int.reduceMul, Nat.reduceMul, Qp0, Qp1, Ql0, Qe0, hb, rd_M, rdM_some, h3]
      refine hN.out.mono ?_
      rintro v h2 ⟨rfl, hi2, hc2⟩
      have hB2 := Lib.hid (bad_any w0 h2 ib s _ hi2)
      have hW := Lib.hid (wrongI_bad w0 h2 ib s a0 a0 hi2)
      have hb2 : St.isBad (.bad a0) = true := rfl
      simp -dsimp -implicitDefEqProofs (disch := first | omega | assumption | (simp only [Option.isSome_some, Qt0]; done) | (simp only [UInt64.reduceToNat, UInt32.reduceToNat, UInt8.reduceToNat, List.length_cons, List.length_nil, List.length_append, Int.toNat_natCast] <;> omega) | fail) only [Nat.reduceLT, Nat.reduceLeDiff, Nat.reduceEqDiff, ↓reduceIte, Int.reduceLT, Int.reduceLE, Int.reduceToNat, Int.reduceEq, Int.reduceNe, Nat.reduceAdd, UInt8.reduceOfNat, UInt16.reduceOfNat, UInt32.reduceOfNat, UInt64.reduceOfNat, UInt64.reduceToNat, UInt32.reduceToNat, UInt16.reduceToNat, UInt8.reduceToNat, Int.reduceAdd, Int.reduceSub, Int.reduceMul, Nat.reduceMul, Qp0, Qp1, Ql0, Qe0]
      refine PW_plan [0, 1, 2, 3, 4, 5, 6, 7, 8, 9, 10, 11, 12, 13, 14, 15] h2 (by kernel_rfl) (by decide +kernel) (by kernel_rfl) (by kernel_rfl) (by kernel_rfl) (fun c f h hq => by simp only [thenC_panic, thenK_panic, inBlk_panic, thenN_panic, vcRet_panic] at hq) (PH.Le.refl _).sub ?_
      simp -dsimp -implicitDefEqProofs (disch := first | omega | assumption | (simp only [Option.isSome_some, Qt0]; done) | (simp only [UInt64.reduceToNat, UInt32.reduceToNat, UInt8.reduceToNat, List.length_cons, List.length_nil, List.length_append, Int.toNat_natCast] <;> omega) | fail) only [Nat.reduceLT, Nat.reduceLeDiff, Nat.reduceEqDiff, ↓reduceIte, Int.reduceLT, Int.reduceLE, Int.reduceToNat, Int.reduceEq, Int.reduceNe, Nat.reduceAdd, UInt8.reduceOfNat, UInt16.reduceOfNat, UInt32.reduceOfNat, UInt64.reduceOfNat, UInt64.reduceToNat, UInt32.reduceToNat, UInt16.reduceToNat, UInt8.reduceToNat, Int.reduceAdd, Int.reduceSub, Int.reduceMul, Nat.reduceMul, Qp0, Qp1, Ql0, Qe0]
      refine hB2.out.mono ?_
      rintro v hq ⟨rfl, hz⟩
      obtain rfl := hz.symm
      refine ⟨(PH.Le.refl _).sub, ?_⟩
      simp -dsimp -implicitDefEqProofs (disch := first | omega | assumption | (simp only [Option.isSome_some, Qt0]; done) | (simp only [UInt64.reduceToNat, UInt32.reduceToNat, UInt8.reduceToNat, List.length_cons, List.length_nil, List.length_append, Int.toNat_natCast] <;> omega) | fail) only [Nat.reduceLT, Nat.reduceLeDiff, Nat.reduceEqDiff, ↓reduceIte, Int.reduceLT, Int.reduceLE, Int.reduceToNat, Int.reduceEq, Int.reduceNe, Nat.reduceAdd, UInt8.reduceOfNat, UInt16.reduceOfNat, UInt32.reduceOfNat, UInt64.reduceOfNat, UInt64.reduceToNat, UInt32.reduceToNat, UInt16.reduceToNat, UInt8.reduceToNat, Int.reduceAdd, Int.reduceSub, Int.reduceMul, Nat.reduceMul, Qp0, Qp1, Ql0, Qe0, hb2]
      refine hW.out.mono ?_
      rintro v hq hz
      obtain rfl := hz.symm
      simp -dsimp -implicitDefEqProofs (disch := first | omega | assumption | (simp only [Option.isSome_some, Qt0]; done) | (simp only [UInt64.reduceToNat, UInt32.reduceToNat, UInt8.reduceToNat, List.length_cons, List.length_nil, List.length_append, Int.toNat_natCast] <;> omega) | fail) only [Nat.reduceLT, Nat.reduceLeDiff, Nat.reduceEqDiff, ↓reduceIte, Int.reduceLT, Int.reduceLE, Int.reduceToNat, Int.reduceEq, Int.reduceNe, Nat.reduceAdd, UInt8.reduceOfNat, UInt16.reduceOfNat, UInt32.reduceOfNat, UInt64.reduceOfNat, UInt64.reduceToNat, UInt32.reduceToNat, UInt16.reduceToNat, UInt8.reduceToNat, Int.reduceAdd, Int.reduceSub, Int.reduceMul, Nat.reduceMul, Qp0, Qp1, Ql0, Qe0]
      exact ⟨_, PH.Le.refl _, by first | rfl | trivial, hi2, hc2⟩
    | some p =>
      obtain ⟨n, u⟩ := p
      rw [numS_ok _ hp] at hN
      have hN := Lib.hid hN
      obtain ⟨hpi, hpm, hpt⟩ := numP_inv hp
      unfold top62 at hpt
      have hul := congrArg List.length hpi
      simp only [List.length_drop, List.length_append] at hul
      simp -dsimp -implicitDefEqProofs (disch := first | omega | assumption | (simp only [Option.isSome_some, Qt0]; done) | (simp only [UInt64.reduceToNat, UInt32.reduceToNat, UInt8.reduceToNat, List.length_cons, List.length_nil, List.length_append, Int.toNat_natCast] <;> omega) | fail) only [Nat.reduceLT, Nat.reduceLeDiff, Nat.reduceEqDiff, ↓reduceIte, Int.reduceLT, Int.reduceLE, Int.reduceToNat, Int.reduceEq, Int.reduceNe, Nat.reduceAdd, UInt8.reduceOfNat, UInt16.reduceOfNat, UInt32.reduceOfNat, UInt64.reduceOfNat, UInt64.reduceToNat, UInt32.reduceToNat, UInt16.reduceToNat, UInt8.reduceToNat, Int.reduceAdd, Int.reduceSub, Int.reduceMul, Nat.reduceMul, Qp0, Qp1, Ql0, Qe0]
      refine hB.out.mono ?_
      rintro v hq ⟨rfl, hz⟩
      obtain rfl := hz.symm
      simp -dsimp -implicitDefEqProofs (disch := first | omega | assumption | (simp only [Option.isSome_some, Qt0]; done) | (simp only [UInt64.reduceToNat, UInt32.reduceToNat, UInt8.reduceToNat, List.length_cons, List.length_nil, List.length_append, Int.toNat_natCast] <;> omega) | fail) only [Nat.reduceLT, Nat.reduceLeDiff, Nat.reduceEqDiff, ↓reduceIte, Int.reduceLT, Int.reduceLE, Int.reduceToNat, Int.reduceEq, Int.reduceNe, Nat.reduceAdd, UInt8.reduceOfNat, UInt16.reduceOfNat, UInt32.reduceOfNat, UInt64.reduceOfNat, UInt64.reduceToNat, UInt32.reduceToNat, UInt16.reduceToNat, UInt8.reduceToNat, Int.reduceAdd, Int.reduceSub, Int.reduceMul, Nat.reduceMul, Qp0, Qp1, Ql0, Qe0, hb, rd_M, rdM_some, h3]
      refine hN.out.mono ?_
      rintro v h2 ⟨rfl, hi2, hc2⟩
      have hB2 := Lib.hid (bad_any w0 h2 ib s _ hi2)
      obtain ⟨a1, g1, g2, g3⟩ := hi2
      have hb2 : St.isBad (.ok u) = false := rfl
      have hu : u.length = s.length - a1 := by rw [← g2]; simp
      by_cases hl : u.length < n
      · have e1 : decide ((n : Int) > (s.length : Int) - (a1 : Int)) = true := decide_eq_true (by omega)
        have hW := Lib.hid (wrongI_ok w0 h2 ib s a1 a0 g1 g3)
        rw [txtS_long _ hp hl, hfl]
        simp -dsimp -implicitDefEqProofs (disch := first | omega | assumption | (simp only [Option.isSome_some, Qt0]; done) | (simp only [UInt64.reduceToNat, UInt32.reduceToNat, UInt8.reduceToNat, List.length_cons, List.length_nil, List.length_append, Int.toNat_natCast] <;> omega) | fail) only [Nat.reduceLT, Nat.reduceLeDiff, Nat.reduceEqDiff, ↓reduceIte, Int.reduceLT, Int.reduceLE, Int.reduceToNat, Int.reduceEq, Int.reduceNe, Nat.reduceAdd, UInt8.reduceOfNat, UInt16.reduceOfNat, UInt32.reduceOfNat, UInt64.reduceOfNat, UInt64.reduceToNat, UInt32.reduceToNat, UInt16.reduceToNat, UInt8.reduceToNat, Int.reduceAdd, Int.reduceSub, Int.reduceMul, Nat.reduceMul, Qp0, Qp1, Ql0, Qe0]
        refine PW_plan [0, 1, 2, 3, 4, 5, 6, 7, 8, 9, 10, 11, 12, 13, 14, 15] h2 (by kernel_rfl) (by decide +kernel) (by kernel_rfl) (by kernel_rfl) (by kernel_rfl) (fun c f h hq => by simp only [thenC_panic, thenK_panic, inBlk_panic, thenN_panic, vcRet_panic] at hq) (PH.Le.refl _).sub ?_
        simp -dsimp -implicitDefEqProofs (disch := first | omega | assumption | (simp only [Option.isSome_some, Qt0]; done) | (simp only [UInt64.reduceToNat, UInt32.reduceToNat, UInt8.reduceToNat, List.length_cons, List.length_nil, List.length_append, Int.toNat_natCast] <;> omega) | fail) only [Nat.reduceLT, Nat.reduceLeDiff, Nat.reduceEqDiff, ↓reduceIte, Int.reduceLT, Int.reduceLE, Int.reduceToNat, Int.reduceEq, Int.reduceNe, Nat.reduceAdd, UInt8.reduceOfNat, UInt16.reduceOfNat, UInt32.reduceOfNat, UInt64.reduceOfNat, UInt64.reduceToNat, UInt32.reduceToNat, UInt16.reduceToNat, UInt8.reduceToNat, Int.reduceAdd, Int.reduceSub, Int.reduceMul, Nat.reduceMul, Qp0, Qp1, Ql0, Qe0]
        refine hB2.out.mono ?_
        rintro v hq ⟨rfl, hz⟩
        obtain rfl := hz.symm
        refine ⟨(PH.Le.refl _).sub, ?_⟩
        simp -dsimp -implicitDefEqProofs (disch := first | omega | assumption | (simp only [Option.isSome_some, Qt0]; done) | (simp only [UInt64.reduceToNat, UInt32.reduceToNat, UInt8.reduceToNat, List.length_cons, List.length_nil, List.length_append, Int.toNat_natCast] <;> omega) | fail) only [Nat.reduceLT, Nat.reduceLeDiff, Nat.reduceEqDiff, ↓reduceIte, Int.reduceLT, Int.reduceLE, Int.reduceToNat, Int.reduceEq, Int.reduceNe, Nat.reduceAdd, UInt8.reduceOfNat, UInt16.reduceOfNat, UInt32.reduceOfNat, UInt64.reduceOfNat, UInt64.reduceToNat, UInt32.reduceToNat, UInt16.reduceToNat, UInt8.reduceToNat, Int.reduceAdd, Int.reduceSub, Int.reduceMul, Nat.reduceMul, Qp0, Qp1, Ql0, Qe0, hb2, rd_M, rdM_some, g3, e1]
        refine hW.out.mono ?_
        rintro v hq ⟨hi3, hc3⟩
        simp -dsimp -implicitDefEqProofs (disch := first | omega | assumption | (simp only [Option.isSome_some, Qt0]; done) | (simp only [UInt64.reduceToNat, UInt32.reduceToNat, UInt8.reduceToNat, List.length_cons, List.length_nil, List.length_append, Int.toNat_natCast] <;> omega) | fail) only [Nat.reduceLT, Nat.reduceLeDiff, Nat.reduceEqDiff, ↓reduceIte, Int.reduceLT, Int.reduceLE, Int.reduceToNat, Int.reduceEq, Int.reduceNe, Nat.reduceAdd, UInt8.reduceOfNat, UInt16.reduceOfNat, UInt32.reduceOfNat, UInt64.reduceOfNat, UInt64.reduceToNat, UInt32.reduceToNat, UInt16.reduceToNat, UInt8.reduceToNat, Int.reduceAdd, Int.reduceSub, Int.reduceMul, Nat.reduceMul, Qp0, Qp1, Ql0, Qe0]
        exact ⟨_, PH.Le.refl _, by first | rfl | trivial, hi3, hc2.trans hc3⟩
      · have e1 : decide ((n : Int) > (s.length : Int) - (a1 : Int)) = false := decide_eq_false (by omega)
        rw [txtS_ok _ hp hl]
        simp -dsimp -implicitDefEqProofs (disch := first | omega | assumption | (simp only [Option.isSome_some, Qt0]; done) | (simp only [UInt64.reduceToNat, UInt32.reduceToNat, UInt8.reduceToNat, List.length_cons, List.length_nil, List.length_append, Int.toNat_natCast] <;> omega) | fail) only [Nat.reduceLT, Nat.reduceLeDiff, Nat.reduceEqDiff, ↓reduceIte, Int.reduceLT, Int.reduceLE, Int.reduceToNat, Int.reduceEq, Int.reduceNe, Nat.reduceAdd, UInt8.reduceOfNat, UInt16.reduceOfNat, UInt32.reduceOfNat, UInt64.reduceOfNat, UInt64.reduceToNat, UInt32.reduceToNat, UInt16.reduceToNat, UInt8.reduceToNat, Int.reduceAdd, Int.reduceSub, Int.reduceMul, Nat.reduceMul, Qp0, Qp1, Ql0, Qe0]
        refine PW_plan [0, 1, 2, 3, 4, 5, 6, 7, 8, 9, 10, 11, 12, 13, 14, 15] h2 (by kernel_rfl) (by decide +kernel) (by kernel_rfl) (by kernel_rfl) (by kernel_rfl) (fun c f h hq => by simp only [thenC_panic, thenK_panic, inBlk_panic, thenN_panic, vcRet_panic] at hq) (PH.Le.refl _).sub ?_
        simp -dsimp -implicitDefEqProofs (disch := first | omega | assumption | (simp only [Option.isSome_some, Qt0]; done) | (simp only [UInt64.reduceToNat, UInt32.reduceToNat, UInt8.reduceToNat, List.length_cons, List.length_nil, List.length_append, Int.toNat_natCast] <;> omega) | fail) only [Nat.reduceLT, Nat.reduceLeDiff, Nat.reduceEqDiff, ↓reduceIte, Int.reduceLT, Int.reduceLE, Int.reduceToNat, Int.reduceEq, Int.reduceNe, Nat.reduceAdd, UInt8.reduceOfNat, UInt16.reduceOfNat, UInt32.reduceOfNat, UInt64.reduceOfNat, UInt64.reduceToNat, UInt32.reduceToNat, UInt16.reduceToNat, UInt8.reduceToNat, Int.reduceAdd, Int.reduceSub, Int.reduceMul, Nat.reduceMul, Qp0, Qp1, Ql0, Qe0]
        refine hB2.out.mono ?_
        rintro v hq ⟨rfl, hz⟩
        obtain rfl := hz.symm
        refine ⟨(PH.Le.refl _).sub, ?_⟩
        simp -dsimp -implicitDefEqProofs (disch := first | omega | assumption | (simp only [Option.isSome_some, Qt0]; done) | (simp only [UInt64.reduceToNat, UInt32.reduceToNat, UInt8.reduceToNat, List.length_cons, List.length_nil, List.length_append, Int.toNat_natCast] <;> omega) | fail) only [Nat.reduceLT, Nat.reduceLeDiff, Nat.reduceEqDiff, ↓reduceIte, Int.reduceLT, Int.reduceLE, Int.reduceToNat, Int.reduceEq, Int.reduceNe, Nat.reduceAdd, UInt8.reduceOfNat, UInt16.reduceOfNat, UInt32.reduceOfNat, UInt64.reduceOfNat, UInt64.reduceToNat, UInt32.reduceToNat, UInt16.reduceToNat, UInt8.reduceToNat, Int.reduceAdd, Int.reduceSub, Int.reduceMul, Nat.reduceMul, Qp0, Qp1, Ql0, Qe0, hb2, rd_M, rdM_some, g3, e1, List.set_cons_zero, List.set_cons_succ]
        have hc3 := hc2.one ⟨[str s, .int .i64 ((a1 : Int) + (n : Int)), .nilIface], 3⟩
        have g4 : (h2.new ib ⟨[str s, .int .i64 ((a1 : Int) + (n : Int)), .nilIface], 3⟩).m ib = some ⟨[str s, .int .i64 ((a1 : Int) + (n : Int)), .nilIface], 3⟩ := by rw [PH.new_m, if_pos rfl]
        generalize h2.new ib ⟨[str s, .int .i64 ((a1 : Int) + (n : Int)), .nilIface], 3⟩ = h4 at *
        have t1 : ((a1 : Int) + (n : Int) - (n : Int)).toNat = a1 := by omega
        have t2 : ((a1 : Int) + (n : Int)).toNat = a1 + n := by omega
        refine PW_drawn 16 _ (by kernel_rfl) (by kernel_rfl) (by kernel_rfl) (by kernel_rfl) (by kernel_rfl) (fun c f h hq => by simp only [thenC_panic, thenK_panic, inBlk_panic, thenN_panic, vcRet_panic] at hq) (PH.Le.refl _).sub ?_
        simp -dsimp -implicitDefEqProofs (disch := first | omega | assumption | (simp only [Option.isSome_some, Qt0]; done) | (simp only [UInt64.reduceToNat, UInt32.reduceToNat, UInt8.reduceToNat, List.length_cons, List.length_nil, List.length_append, Int.toNat_natCast] <;> omega) | fail) only [Nat.reduceLT, Nat.reduceLeDiff, Nat.reduceEqDiff, ↓reduceIte, Int.reduceLT, Int.reduceLE, Int.reduceToNat, Int.reduceEq, Int.reduceNe, Nat.reduceAdd, UInt8.reduceOfNat, UInt16.reduceOfNat, UInt32.reduceOfNat, UInt64.reduceOfNat, UInt64.reduceToNat, UInt32.reduceToNat, UInt16.reduceToNat, UInt8.reduceToNat, Int.reduceAdd, Int.reduceSub, Int.reduceMul, Nat.reduceMul, Qp0, Qp1, Ql0, Qe0, rd_M, rdM_some, g4, t1, t2]
        have t3 : a1 + n - a1 = n := by omega
        exact ⟨_, PH.Le.refl _, by rw [t3, g2], ⟨a1 + n, by omega, by rw [← g2, List.drop_drop], by rw [g4]; simp⟩, hc3⟩
set_option maxRecDepth 20000 in
theorem iflag_any (hs : s.length ≤ 1000000000) (st : St) (hi : IS h ib s st) : PCalls Try.prog w0 68 [.pointer (some ⟨ib, 0, none⟩)] h fun r h' => r = .bool (flagS s.length st).1 ∧ IS h' ib s (flagS s.length st).2 ∧ Chg (· = ib) h h' := by
  refine PCalls_body Try.func68 (by kernel_rfl) rfl _ Try.ntmps68 (by kernel_rfl) (by kernel_rfl) _ Try.results68 ?_
  have hN := Lib.hid (inum_any w0 h ib s hs 1 _ hi)
  rw [flagS_eq]
  simp -dsimp -implicitDefEqProofs (disch := first | omega | assumption | (simp only [Option.isSome_some, Qt0]; done) | (simp only [UInt64.reduceToNat, UInt32.reduceToNat, UInt8.reduceToNat, List.length_cons, List.length_nil, List.length_append, Int.toNat_natCast] <;> omega) | fail) only [Nat.reduceLT, Nat.reduceLeDiff, Nat.reduceEqDiff, ↓reduceIte, Int.reduceLT, Int.reduceLE, Int.reduceToNat, Int.reduceEq, Int.reduceNe, Nat.reduceAdd, UInt8.reduceOfNat, UInt16.reduceOfNat, UInt32.reduceOfNat, UInt64.reduceOfNat, UInt64.reduceToNat, UInt32.reduceToNat, UInt16.reduceToNat, UInt8.reduceToNat, Int.reduceAdd, Int.reduceSub, Int.reduceMul, Nat.reduceMul, Qp0, Qp1, Ql0, Qe0]
  refine hN.out.mono ?_
  rintro v h2 ⟨rfl, hi2, hc2⟩
  simp -dsimp -implicitDefEqProofs (disch := first | omega | assumption | (simp only [Option.isSome_some, Qt0]; done) | (simp only [UInt64.reduceToNat, UInt32.reduceToNat, UInt8.reduceToNat, List.length_cons, List.length_nil, List.length_append, Int.toNat_natCast] <;> omega) | fail) only [Nat.reduceLT, Nat.reduceLeDiff, Nat.reduceEqDiff, ↓reduceIte, Int.reduceLT, Int.reduceLE, Int.reduceToNat, Int.reduceEq, Int.reduceNe, Nat.reduceAdd, UInt8.reduceOfNat, UInt16.reduceOfNat, UInt32.reduceOfNat, UInt64.reduceOfNat, UInt64.reduceToNat, UInt32.reduceToNat, UInt16.reduceToNat, UInt8.reduceToNat, Int.reduceAdd, Int.reduceSub, Int.reduceMul, Nat.reduceMul, Qp0, Qp1, Ql0, Qe0]
  exact ⟨_, PH.Le.refl _, by trivial, hi2, hc2⟩
/-- What End tells. -/
def EE (h : PH) (len : Nat) : St → Value → Prop
  | .ok [], v => v = .nilIface
  | .ok t, v => ∃ be, v = errV be ∧ h.m be = some ⟨[str wireT, .int .i64 (len - t.length : Nat), codeV 2], 3⟩
  | .bad p, v => ∃ be, v = errV be ∧ h.m be = some ⟨[str wireT, .int .i64 p, codeV 2], 3⟩
set_option maxRecDepth 20000 in
theorem end_any (st : St) (hi : IS h ib s st) : PCalls Try.prog w0 43 [.pointer (some ⟨ib, 0, none⟩)] h fun r h' => EE h' s.length st r ∧ PH.Le h h' := by
  refine PCalls_body Try.func43 (by kernel_rfl) rfl _ Try.ntmps43 (by kernel_rfl) (by kernel_rfl) _ Try.results43 ?_
  cases st with
  | bad p =>
    obtain ⟨a, be, h1, h2, h3, h4⟩ := hi
    unfold errV at *
    simp -dsimp -implicitDefEqProofs (disch := first | omega | assumption | (simp only [Option.isSome_some, Qt0]; done) | (simp only [UInt64.reduceToNat, UInt32.reduceToNat, UInt8.reduceToNat, List.length_cons, List.length_nil, List.length_append, Int.toNat_natCast] <;> omega) | fail) only [Nat.reduceLT, Nat.reduceLeDiff, Nat.reduceEqDiff, ↓reduceIte, Int.reduceLT, Int.reduceLE, Int.reduceToNat, Int.reduceEq, Int.reduceNe, Nat.reduceAdd, UInt8.reduceOfNat, UInt16.reduceOfNat, UInt32.reduceOfNat, UInt64.reduceOfNat, UInt64.reduceToNat, UInt32.reduceToNat, UInt16.reduceToNat, UInt8.reduceToNat, Int.reduceAdd, Int.reduceSub, Int.reduceMul, Nat.reduceMul, Qp0, Qp1, Ql0, Qe0]
    refine PW_drawn 18 _ (by kernel_rfl) (by kernel_rfl) (by kernel_rfl) (by kernel_rfl) (by kernel_rfl) (fun c f h hq => by simp only [thenC_panic, thenK_panic, inBlk_panic, thenN_panic, vcRet_panic] at hq) (PH.Le.refl _).sub ?_
    simp -dsimp -implicitDefEqProofs (disch := first | omega | assumption | (simp only [Option.isSome_some, Qt0]; done) | (simp only [UInt64.reduceToNat, UInt32.reduceToNat, UInt8.reduceToNat, List.length_cons, List.length_nil, List.length_append, Int.toNat_natCast] <;> omega) | fail) only [Nat.reduceLT, Nat.reduceLeDiff, Nat.reduceEqDiff, ↓reduceIte, Int.reduceLT, Int.reduceLE, Int.reduceToNat, Int.reduceEq, Int.reduceNe, Nat.reduceAdd, UInt8.reduceOfNat, UInt16.reduceOfNat, UInt32.reduceOfNat, UInt64.reduceOfNat, UInt64.reduceToNat, UInt32.reduceToNat, UInt16.reduceToNat, UInt8.reduceToNat, Int.reduceAdd, Int.reduceSub, Int.reduceMul, Nat.reduceMul, Qp0, Qp1, Ql0, Qe0, rd_M, rdM_some, h3]
    exact ⟨_, PH.Le.refl _, ⟨be, rfl, h4⟩, PH.Le.refl _⟩
  | ok t =>
    obtain ⟨a, h1, rfl, h3⟩ := hi
    by_cases hl : a < s.length
    · have e1 : decide ((a : Int) < (s.length : Int)) = true := decide_eq_true (by omega)
      simp -dsimp -implicitDefEqProofs (disch := first | omega | assumption | (simp only [Option.isSome_some, Qt0]; done) | (simp only [UInt64.reduceToNat, UInt32.reduceToNat, UInt8.reduceToNat, List.length_cons, List.length_nil, List.length_append, Int.toNat_natCast] <;> omega) | fail) only [Nat.reduceLT, Nat.reduceLeDiff, Nat.reduceEqDiff, ↓reduceIte, Int.reduceLT, Int.reduceLE, Int.reduceToNat, Int.reduceEq, Int.reduceNe, Nat.reduceAdd, UInt8.reduceOfNat, UInt16.reduceOfNat, UInt32.reduceOfNat, UInt64.reduceOfNat, UInt64.reduceToNat, UInt32.reduceToNat, UInt16.reduceToNat, UInt8.reduceToNat, Int.reduceAdd, Int.reduceSub, Int.reduceMul, Nat.reduceMul, Qp0, Qp1, Ql0, Qe0]
      refine PW_drawn 18 _ (by kernel_rfl) (by kernel_rfl) (by kernel_rfl) (by kernel_rfl) (by kernel_rfl) (fun c f h hq => by simp only [thenC_panic, thenK_panic, inBlk_panic, thenN_panic, vcRet_panic] at hq) (PH.Le.refl _).sub ?_
      simp -dsimp -implicitDefEqProofs (disch := first | omega | assumption | (simp only [Option.isSome_some, Qt0]; done) | (simp only [UInt64.reduceToNat, UInt32.reduceToNat, UInt8.reduceToNat, List.length_cons, List.length_nil, List.length_append, Int.toNat_natCast] <;> omega) | fail) only [Nat.reduceLT, Nat.reduceLeDiff, Nat.reduceEqDiff, ↓reduceIte, Int.reduceLT, Int.reduceLE, Int.reduceToNat, Int.reduceEq, Int.reduceNe, Nat.reduceAdd, UInt8.reduceOfNat, UInt16.reduceOfNat, UInt32.reduceOfNat, UInt64.reduceOfNat, UInt64.reduceToNat, UInt32.reduceToNat, UInt16.reduceToNat, UInt8.reduceToNat, Int.reduceAdd, Int.reduceSub, Int.reduceMul, Nat.reduceMul, Qp0, Qp1, Ql0, Qe0, rd_M, rdM_some, h3, e1]
      refine (at_any wireT _ _ _ w0 h).mono ?_
      rintro v hq ⟨be, rfl, hbe, rfl⟩
      unfold errV
      simp -dsimp -implicitDefEqProofs (disch := first | omega | assumption | (simp only [Option.isSome_some, Qt0]; done) | (simp only [UInt64.reduceToNat, UInt32.reduceToNat, UInt8.reduceToNat, List.length_cons, List.length_nil, List.length_append, Int.toNat_natCast] <;> omega) | fail) only [Nat.reduceLT, Nat.reduceLeDiff, Nat.reduceEqDiff, ↓reduceIte, Int.reduceLT, Int.reduceLE, Int.reduceToNat, Int.reduceEq, Int.reduceNe, Nat.reduceAdd, UInt8.reduceOfNat, UInt16.reduceOfNat, UInt32.reduceOfNat, UInt64.reduceOfNat, UInt64.reduceToNat, UInt32.reduceToNat, UInt16.reduceToNat, UInt8.reduceToNat, Int.reduceAdd, Int.reduceSub, Int.reduceMul, Nat.reduceMul, Qp0, Qp1, Ql0, Qe0]
      refine ⟨_, PH.Le.refl _, ?_, (PH.Le.refl h).new _ _ hbe⟩
      have : s.length - (s.drop a).length = a := by simp; omega
      cases hd : s.drop a with
      | nil => exfalso; rw [hd] at this; simp at this; omega
      | cons c t => exact ⟨be, rfl, by rw [← hd, this, PH.new_m, if_pos rfl]; rfl⟩
    · have e1 : decide ((a : Int) < (s.length : Int)) = false := decide_eq_false (by omega)
      simp -dsimp -implicitDefEqProofs (disch := first | omega | assumption | (simp only [Option.isSome_some, Qt0]; done) | (simp only [UInt64.reduceToNat, UInt32.reduceToNat, UInt8.reduceToNat, List.length_cons, List.length_nil, List.length_append, Int.toNat_natCast] <;> omega) | fail) only [Nat.reduceLT, Nat.reduceLeDiff, Nat.reduceEqDiff, ↓reduceIte, Int.reduceLT, Int.reduceLE, Int.reduceToNat, Int.reduceEq, Int.reduceNe, Nat.reduceAdd, UInt8.reduceOfNat, UInt16.reduceOfNat, UInt32.reduceOfNat, UInt64.reduceOfNat, UInt64.reduceToNat, UInt32.reduceToNat, UInt16.reduceToNat, UInt8.reduceToNat, Int.reduceAdd, Int.reduceSub, Int.reduceMul, Nat.reduceMul, Qp0, Qp1, Ql0, Qe0]
      refine PW_drawn 18 _ (by kernel_rfl) (by kernel_rfl) (by kernel_rfl) (by kernel_rfl) (by kernel_rfl) (fun c f h hq => by simp only [thenC_panic, thenK_panic, inBlk_panic, thenN_panic, vcRet_panic] at hq) (PH.Le.refl _).sub ?_
      simp -dsimp -implicitDefEqProofs (disch := first | omega | assumption | (simp only [Option.isSome_some, Qt0]; done) | (simp only [UInt64.reduceToNat, UInt32.reduceToNat, UInt8.reduceToNat, List.length_cons, List.length_nil, List.length_append, Int.toNat_natCast] <;> omega) | fail) only [Nat.reduceLT, Nat.reduceLeDiff, Nat.reduceEqDiff, ↓reduceIte, Int.reduceLT, Int.reduceLE, Int.reduceToNat, Int.reduceEq, Int.reduceNe, Nat.reduceAdd, UInt8.reduceOfNat, UInt16.reduceOfNat, UInt32.reduceOfNat, UInt64.reduceOfNat, UInt64.reduceToNat, UInt32.reduceToNat, UInt16.reduceToNat, UInt8.reduceToNat, Int.reduceAdd, Int.reduceSub, Int.reduceMul, Nat.reduceMul, Qp0, Qp1, Ql0, Qe0, rd_M, rdM_some, h3, e1]
      rw [List.drop_eq_nil_of_le (by omega)]
      exact ⟨_, PH.Le.refl _, by rfl, PH.Le.refl _⟩
end
end Go.Proofs.Ytdhgmifgjaedbaa


/- The reader's Vec. No condition. -/
namespace Go.Proofs.Ytdhgmifgjaedbaa
set_option linter.unusedVariables false
set_option linter.unusedSimpArgs false
open Go.RowKit Px Wr
def VK (s : List UInt8) (t : List UInt8) (a0 : Nat) (r : Nat) (v : List Int) : St → Prop
  | .ok u => ∃ n0 u0, numP t 16 = some (n0, u0) ∧ numsP n0 u0 = (numsP r u).map fun q => (v ++ q.1, q.2)
  | .bad _ => vecS s.length (.ok t) = ([], .bad a0)
theorem numsP_zero (t : List UInt8) : numsP 0 t = some ([], t) := rfl
theorem numsP_none {r : Nat} {u : List UInt8} (h : numP u big = none) : numsP (r + 1) u = none := by unfold numsP; rw [h]; rfl
theorem numsP_some {r x : Nat} {u u2 : List UInt8} (h : numP u big = some (x, u2)) : numsP (r + 1) u = (numsP r u2).map fun q => ((x : Int) :: q.1, q.2) := by
  conv => lhs; unfold numsP
  rw [h]; simp only [Option.bind_some]
  cases numsP r u2 <;> rfl
theorem ib_lt {h : PH} {ib : Nat} {s : List UInt8} {st : St} (hi : IS h ib s st) : ib < h.top := by
  cases st with
  | ok t => obtain ⟨a, _, _, h3⟩ := hi; exact h.lt _ _ h3
  | bad p => obtain ⟨a, be, _, _, h3, _⟩ := hi; exact h.lt _ _ h3
section
variable (w0 : World) (h : PH) (ib : Nat) (s : List UInt8)
set_option maxRecDepth 20000 in
set_option maxHeartbeats 2000000 in
theorem ivec_any (hs : s.length ≤ 1000000000) (st : St) (hi : IS h ib s st) : PCalls Try.prog w0 42 [.pointer (some ⟨ib, 0, none⟩)] h fun r h' => ∃ A c, r = .slice A (vecS s.length st).1.length c ∧ OwnC (· = ib) h h' 1 r (vecS s.length st).1.length (ints (vecS s.length st).1) ∧ IS h' ib s (vecS s.length st).2 := by
  refine PCalls_body Try.func42 (by kernel_rfl) rfl _ Try.ntmps42 (by kernel_rfl) (by kernel_rfl) _ Try.results42 ?_
  have hB := Lib.hid (bad_any w0 h ib s st hi)
  cases st with
  | bad p =>
    have hb : St.isBad (.bad p) = true := rfl
    have hR : vecS s.length (.bad p) = ([], .bad p) := rfl
    rw [hR]
    simp -dsimp -implicitDefEqProofs (disch := first | omega | assumption | (simp only [Option.isSome_some, Qt0]; done) | (simp only [UInt64.reduceToNat, UInt32.reduceToNat, UInt8.reduceToNat, List.length_cons, List.length_nil, List.length_append, Int.toNat_natCast] <;> omega) | fail) only [Nat.reduceLT, Nat.reduceLeDiff, Nat.reduceEqDiff, ↓reduceIte, Int.reduceLT, Int.reduceLE, Int.reduceToNat, Int.reduceEq, Int.reduceNe, Nat.reduceAdd, UInt8.reduceOfNat, UInt16.reduceOfNat, UInt32.reduceOfNat, UInt64.reduceOfNat, UInt64.reduceToNat, UInt32.reduceToNat, UInt16.reduceToNat, UInt8.reduceToNat, Int.reduceAdd, Int.reduceSub, Int.reduceMul, Nat.reduceMul, Qp0, Qp1, Ql0, Qe0]
    refine hB.out.mono ?_
    rintro v hq ⟨rfl, hz⟩
    obtain rfl := hz.symm
    simp -dsimp -implicitDefEqProofs (disch := first | omega | assumption | (simp only [Option.isSome_some, Qt0]; done) | (simp only [UInt64.reduceToNat, UInt32.reduceToNat, UInt8.reduceToNat, List.length_cons, List.length_nil, List.length_append, Int.toNat_natCast] <;> omega) | fail) only [Nat.reduceLT, Nat.reduceLeDiff, Nat.reduceEqDiff, ↓reduceIte, Int.reduceLT, Int.reduceLE, Int.reduceToNat, Int.reduceEq, Int.reduceNe, Nat.reduceAdd, UInt8.reduceOfNat, UInt16.reduceOfNat, UInt32.reduceOfNat, UInt64.reduceOfNat, UInt64.reduceToNat, UInt32.reduceToNat, UInt16.reduceToNat, UInt8.reduceToNat, Int.reduceAdd, Int.reduceSub, Int.reduceMul, Nat.reduceMul, Qp0, Qp1, Ql0, Qe0, hb]
    exact ⟨_, PH.Le.refl _, _, _, by first | rfl | trivial, OwnC.nil (Chg.refl _ _) 1, hi⟩
  | ok t =>
    have hN := inum_any w0 h ib s hs 16 _ hi
    have hibt := ib_lt hi
    obtain ⟨a0, h1, rfl, h3⟩ := hi
    have hb : St.isBad (.ok (s.drop a0)) = false := rfl
    have hfl : s.length - (s.drop a0).length = a0 := by simp; omega
    generalize ht : s.drop a0 = t at *
    have hN := Lib.hid hN
    simp -dsimp -implicitDefEqProofs (disch := first | omega | assumption | (simp only [Option.isSome_some, Qt0]; done) | (simp only [UInt64.reduceToNat, UInt32.reduceToNat, UInt8.reduceToNat, List.length_cons, List.length_nil, List.length_append, Int.toNat_natCast] <;> omega) | fail) only [Nat.reduceLT, Nat.reduceLeDiff, Nat.reduceEqDiff, ↓reduceIte, Int.reduceLT, Int.reduceLE, Int.reduceToNat, Int.reduceEq, Int.reduceNe, Nat.reduceAdd, UInt8.reduceOfNat, UInt16.reduceOfNat, UInt32.reduceOfNat, UInt64.reduceOfNat, UInt64.reduceToNat, UInt32.reduceToNat, UInt16.reduceToNat, UInt8.reduceToNat, Int.reduceAdd, Int.reduceSub, Int.reduceMul, Nat.reduceMul, Qp0, Qp1, Ql0, Qe0]
    refine hB.out.mono ?_
    rintro v hq ⟨rfl, hz⟩
    obtain rfl := hz.symm
    simp -dsimp -implicitDefEqProofs (disch := first | omega | assumption | (simp only [Option.isSome_some, Qt0]; done) | (simp only [UInt64.reduceToNat, UInt32.reduceToNat, UInt8.reduceToNat, List.length_cons, List.length_nil, List.length_append, Int.toNat_natCast] <;> omega) | fail) only [Nat.reduceLT, Nat.reduceLeDiff, Nat.reduceEqDiff, ↓reduceIte, Int.reduceLT, Int.reduceLE, Int.reduceToNat, Int.reduceEq, Int.reduceNe, Nat.reduceAdd, UInt8.reduceOfNat, UInt16.reduceOfNat, UInt32.reduceOfNat, UInt64.reduceOfNat, UInt64.reduceToNat, UInt32.reduceToNat, UInt16.reduceToNat, UInt8.reduceToNat, Int.reduceAdd, Int.reduceSub, Int.reduceMul, Nat.reduceMul, Qp0, Qp1, Ql0, Qe0, hb, rd_M, rdM_some, h3]
    refine hN.out.mono ?_
    rintro v h2 ⟨rfl, hi2, hc2⟩
    have h0 : ∃ r st1, numS 16 s.length (.ok t) = (r, st1) ∧ r ≤ 16 ∧ VK s t a0 r [] st1 := by
      cases hp : numP t 16 with
      | none => exact ⟨0, _, numS_fail _ hp, by omega, by rw [hfl]; show vecS _ _ = _; rw [vecS_no _ hp, hfl]⟩
      | some p => obtain ⟨n, u⟩ := p; exact ⟨n, _, numS_ok _ hp, by have := (numP_inv hp).2.1; omega, n, u, hp, by simp⟩
    obtain ⟨r0, st1, e0, hr0, hK0⟩ := h0
    rw [e0] at hi2
    rw [e0]
    clear hN hB
    simp -dsimp -implicitDefEqProofs (disch := first | omega | assumption | (simp only [Option.isSome_some, Qt0]; done) | (simp only [UInt64.reduceToNat, UInt32.reduceToNat, UInt8.reduceToNat, List.length_cons, List.length_nil, List.length_append, Int.toNat_natCast] <;> omega) | fail) only [Nat.reduceLT, Nat.reduceLeDiff, Nat.reduceEqDiff, ↓reduceIte, Int.reduceLT, Int.reduceLE, Int.reduceToNat, Int.reduceEq, Int.reduceNe, Nat.reduceAdd, UInt8.reduceOfNat, UInt16.reduceOfNat, UInt32.reduceOfNat, UInt64.reduceOfNat, UInt64.reduceToNat, UInt32.reduceToNat, UInt16.reduceToNat, UInt8.reduceToNat, Int.reduceAdd, Int.reduceSub, Int.reduceMul, Nat.reduceMul, Qp0, Qp1, Ql0, Qe0]
    refine PW_loopL (fun m f h' => ∃ (v' : List Int) (u' : Value) (st' : St), f 0 = some (.pointer (some ⟨ib, 0, none⟩)) ∧ f 3 = some (.int .i64 a0) ∧ f 4 = some u' ∧ f 5 = some (.int .i64 m) ∧ OwnC (· = ib) h h' 1 u' v'.length (ints v') ∧ IS h' ib s st' ∧ v'.length + m ≤ 16 ∧ VK s t a0 m v' st') (by kernel_rfl) r0 ⟨[], _, st1, ?_, ?_, ?_, ?_, OwnC.nil hc2 1, hi2, by simpa using hr0, hK0⟩ ?_
    · simp -dsimp -implicitDefEqProofs (disch := first | omega | assumption | (simp only [Option.isSome_some, Qt0]; done) | (simp only [UInt64.reduceToNat, UInt32.reduceToNat, UInt8.reduceToNat, List.length_cons, List.length_nil, List.length_append, Int.toNat_natCast] <;> omega) | fail) only [Nat.reduceLT, Nat.reduceLeDiff, Nat.reduceEqDiff, ↓reduceIte, Int.reduceLT, Int.reduceLE, Int.reduceToNat, Int.reduceEq, Int.reduceNe, Nat.reduceAdd, UInt8.reduceOfNat, UInt16.reduceOfNat, UInt32.reduceOfNat, UInt64.reduceOfNat, UInt64.reduceToNat, UInt32.reduceToNat, UInt16.reduceToNat, UInt8.reduceToNat, Int.reduceAdd, Int.reduceSub, Int.reduceMul, Nat.reduceMul, Qp0, Qp1, Ql0, Qe0]
    · simp -dsimp -implicitDefEqProofs (disch := first | omega | assumption | (simp only [Option.isSome_some, Qt0]; done) | (simp only [UInt64.reduceToNat, UInt32.reduceToNat, UInt8.reduceToNat, List.length_cons, List.length_nil, List.length_append, Int.toNat_natCast] <;> omega) | fail) only [Nat.reduceLT, Nat.reduceLeDiff, Nat.reduceEqDiff, ↓reduceIte, Int.reduceLT, Int.reduceLE, Int.reduceToNat, Int.reduceEq, Int.reduceNe, Nat.reduceAdd, UInt8.reduceOfNat, UInt16.reduceOfNat, UInt32.reduceOfNat, UInt64.reduceOfNat, UInt64.reduceToNat, UInt32.reduceToNat, UInt16.reduceToNat, UInt8.reduceToNat, Int.reduceAdd, Int.reduceSub, Int.reduceMul, Nat.reduceMul, Qp0, Qp1, Ql0, Qe0]
    · simp -dsimp -implicitDefEqProofs (disch := first | omega | assumption | (simp only [Option.isSome_some, Qt0]; done) | (simp only [UInt64.reduceToNat, UInt32.reduceToNat, UInt8.reduceToNat, List.length_cons, List.length_nil, List.length_append, Int.toNat_natCast] <;> omega) | fail) only [Nat.reduceLT, Nat.reduceLeDiff, Nat.reduceEqDiff, ↓reduceIte, Int.reduceLT, Int.reduceLE, Int.reduceToNat, Int.reduceEq, Int.reduceNe, Nat.reduceAdd, UInt8.reduceOfNat, UInt16.reduceOfNat, UInt32.reduceOfNat, UInt64.reduceOfNat, UInt64.reduceToNat, UInt32.reduceToNat, UInt16.reduceToNat, UInt8.reduceToNat, Int.reduceAdd, Int.reduceSub, Int.reduceMul, Nat.reduceMul, Qp0, Qp1, Ql0, Qe0]
    · simp -dsimp -implicitDefEqProofs (disch := first | omega | assumption | (simp only [Option.isSome_some, Qt0]; done) | (simp only [UInt64.reduceToNat, UInt32.reduceToNat, UInt8.reduceToNat, List.length_cons, List.length_nil, List.length_append, Int.toNat_natCast] <;> omega) | fail) only [Nat.reduceLT, Nat.reduceLeDiff, Nat.reduceEqDiff, ↓reduceIte, Int.reduceLT, Int.reduceLE, Int.reduceToNat, Int.reduceEq, Int.reduceNe, Nat.reduceAdd, UInt8.reduceOfNat, UInt16.reduceOfNat, UInt32.reduceOfNat, UInt64.reduceOfNat, UInt64.reduceToNat, UInt32.reduceToNat, UInt16.reduceToNat, UInt8.reduceToNat, Int.reduceAdd, Int.reduceSub, Int.reduceMul, Nat.reduceMul, Qp0, Qp1, Ql0, Qe0]
    clear hi2 hc2 hK0 e0
    rintro m f h' ⟨v', u', st', f0, f3, f4, f5, how, hi2, hlen, hK⟩ hl
    have hB2 := Lib.hid (bad_any w0 h' ib s _ hi2)
    obtain ⟨A, c, rfl, hc⟩ := how.own.len
    cases st' with
    | bad p =>
      have hb2 : St.isBad (.bad p) = true := rfl
      by_cases hm : 0 < m
      · have e1 : decide ((m : Int) > 0) = true := decide_eq_true (by omega)
        have hR : vecS s.length (.ok t) = ([], .bad a0) := hK
        simp -dsimp -implicitDefEqProofs (disch := first | omega | assumption | (simp only [Option.isSome_some, Qt0]; done) | (simp only [UInt64.reduceToNat, UInt32.reduceToNat, UInt8.reduceToNat, List.length_cons, List.length_nil, List.length_append, Int.toNat_natCast] <;> omega) | fail) only [Nat.reduceLT, Nat.reduceLeDiff, Nat.reduceEqDiff, ↓reduceIte, Int.reduceLT, Int.reduceLE, Int.reduceToNat, Int.reduceEq, Int.reduceNe, Nat.reduceAdd, UInt8.reduceOfNat, UInt16.reduceOfNat, UInt32.reduceOfNat, UInt64.reduceOfNat, UInt64.reduceToNat, UInt32.reduceToNat, UInt16.reduceToNat, UInt8.reduceToNat, Int.reduceAdd, Int.reduceSub, Int.reduceMul, Nat.reduceMul, Qp0, Qp1, Ql0, Qe0, f0, f3, f4, f5, e1]
        refine hB2.out.mono ?_
        rintro v hq ⟨rfl, hz⟩
        obtain rfl := hz.symm
        simp -dsimp -implicitDefEqProofs (disch := first | omega | assumption | (simp only [Option.isSome_some, Qt0]; done) | (simp only [UInt64.reduceToNat, UInt32.reduceToNat, UInt8.reduceToNat, List.length_cons, List.length_nil, List.length_append, Int.toNat_natCast] <;> omega) | fail) only [Nat.reduceLT, Nat.reduceLeDiff, Nat.reduceEqDiff, ↓reduceIte, Int.reduceLT, Int.reduceLE, Int.reduceToNat, Int.reduceEq, Int.reduceNe, Nat.reduceAdd, UInt8.reduceOfNat, UInt16.reduceOfNat, UInt32.reduceOfNat, UInt64.reduceOfNat, UInt64.reduceToNat, UInt32.reduceToNat, UInt16.reduceToNat, UInt8.reduceToNat, Int.reduceAdd, Int.reduceSub, Int.reduceMul, Nat.reduceMul, Qp0, Qp1, Ql0, Qe0, hb2, f0, f3, f4, f5]
        refine hB2.out.mono ?_
        rintro v hq ⟨rfl, hz⟩
        obtain rfl := hz.symm
        simp -dsimp -implicitDefEqProofs (disch := first | omega | assumption | (simp only [Option.isSome_some, Qt0]; done) | (simp only [UInt64.reduceToNat, UInt32.reduceToNat, UInt8.reduceToNat, List.length_cons, List.length_nil, List.length_append, Int.toNat_natCast] <;> omega) | fail) only [Nat.reduceLT, Nat.reduceLeDiff, Nat.reduceEqDiff, ↓reduceIte, Int.reduceLT, Int.reduceLE, Int.reduceToNat, Int.reduceEq, Int.reduceNe, Nat.reduceAdd, UInt8.reduceOfNat, UInt16.reduceOfNat, UInt32.reduceOfNat, UInt64.reduceOfNat, UInt64.reduceToNat, UInt32.reduceToNat, UInt16.reduceToNat, UInt8.reduceToNat, Int.reduceAdd, Int.reduceSub, Int.reduceMul, Nat.reduceMul, Qp0, Qp1, Ql0, Qe0, hb2, f0, f3, f4, f5]
        have hRR : vecS s.length (.ok t) = ([], .bad a0) := hR
        obtain ⟨a1, be, g1, g2, g3, g4⟩ := hi2
        have hW := Lib.hid fun (h2 : PH) hm => wrongI_ok w0 h2 ib s a1 a0 g1 hm
        have hc3 := how.chg.one ⟨[str s, .int .i64 a1, .nilIface], 3⟩
        have g5 : (h'.new ib ⟨[str s, .int .i64 a1, .nilIface], 3⟩).m ib = some ⟨[str s, .int .i64 a1, .nilIface], 3⟩ := by rw [PH.new_m, if_pos rfl]
        unfold errV at g3
        simp -dsimp -implicitDefEqProofs (disch := first | omega | assumption | (simp only [Option.isSome_some, Qt0]; done) | (simp only [UInt64.reduceToNat, UInt32.reduceToNat, UInt8.reduceToNat, List.length_cons, List.length_nil, List.length_append, Int.toNat_natCast] <;> omega) | fail) only [Nat.reduceLT, Nat.reduceLeDiff, Nat.reduceEqDiff, ↓reduceIte, Int.reduceLT, Int.reduceLE, Int.reduceToNat, Int.reduceEq, Int.reduceNe, Nat.reduceAdd, UInt8.reduceOfNat, UInt16.reduceOfNat, UInt32.reduceOfNat, UInt64.reduceOfNat, UInt64.reduceToNat, UInt32.reduceToNat, UInt16.reduceToNat, UInt8.reduceToNat, Int.reduceAdd, Int.reduceSub, Int.reduceMul, Nat.reduceMul, Qp0, Qp1, Ql0, Qe0, f0, f3, f4, f5, rd_M, rdM_some, g3, List.set_cons_zero, List.set_cons_succ]
        generalize h'.new ib ⟨[str s, .int .i64 a1, .nilIface], 3⟩ = h4 at *
        refine (hW.out h4 g5).mono ?_
        rintro v hq ⟨hi3, hc4⟩
        rw [hRR]
        simp -dsimp -implicitDefEqProofs (disch := first | omega | assumption | (simp only [Option.isSome_some, Qt0]; done) | (simp only [UInt64.reduceToNat, UInt32.reduceToNat, UInt8.reduceToNat, List.length_cons, List.length_nil, List.length_append, Int.toNat_natCast] <;> omega) | fail) only [Nat.reduceLT, Nat.reduceLeDiff, Nat.reduceEqDiff, ↓reduceIte, Int.reduceLT, Int.reduceLE, Int.reduceToNat, Int.reduceEq, Int.reduceNe, Nat.reduceAdd, UInt8.reduceOfNat, UInt16.reduceOfNat, UInt32.reduceOfNat, UInt64.reduceOfNat, UInt64.reduceToNat, UInt32.reduceToNat, UInt16.reduceToNat, UInt8.reduceToNat, Int.reduceAdd, Int.reduceSub, Int.reduceMul, Nat.reduceMul, Qp0, Qp1, Ql0, Qe0]
        exact ⟨_, PH.Le.refl _, _, _, by first | rfl | trivial, OwnC.nil (hc3.trans hc4) 1, hi3⟩
      · have e1 : decide ((m : Int) > 0) = false := decide_eq_false (by omega)
        have hR : vecS s.length (.ok t) = ([], .bad a0) := hK
        simp -dsimp -implicitDefEqProofs (disch := first | omega | assumption | (simp only [Option.isSome_some, Qt0]; done) | (simp only [UInt64.reduceToNat, UInt32.reduceToNat, UInt8.reduceToNat, List.length_cons, List.length_nil, List.length_append, Int.toNat_natCast] <;> omega) | fail) only [Nat.reduceLT, Nat.reduceLeDiff, Nat.reduceEqDiff, ↓reduceIte, Int.reduceLT, Int.reduceLE, Int.reduceToNat, Int.reduceEq, Int.reduceNe, Nat.reduceAdd, UInt8.reduceOfNat, UInt16.reduceOfNat, UInt32.reduceOfNat, UInt64.reduceOfNat, UInt64.reduceToNat, UInt32.reduceToNat, UInt16.reduceToNat, UInt8.reduceToNat, Int.reduceAdd, Int.reduceSub, Int.reduceMul, Nat.reduceMul, Qp0, Qp1, Ql0, Qe0, f0, f3, f4, f5, e1]
        refine hB2.out.mono ?_
        rintro v hq ⟨rfl, hz⟩
        obtain rfl := hz.symm
        simp -dsimp -implicitDefEqProofs (disch := first | omega | assumption | (simp only [Option.isSome_some, Qt0]; done) | (simp only [UInt64.reduceToNat, UInt32.reduceToNat, UInt8.reduceToNat, List.length_cons, List.length_nil, List.length_append, Int.toNat_natCast] <;> omega) | fail) only [Nat.reduceLT, Nat.reduceLeDiff, Nat.reduceEqDiff, ↓reduceIte, Int.reduceLT, Int.reduceLE, Int.reduceToNat, Int.reduceEq, Int.reduceNe, Nat.reduceAdd, UInt8.reduceOfNat, UInt16.reduceOfNat, UInt32.reduceOfNat, UInt64.reduceOfNat, UInt64.reduceToNat, UInt32.reduceToNat, UInt16.reduceToNat, UInt8.reduceToNat, Int.reduceAdd, Int.reduceSub, Int.reduceMul, Nat.reduceMul, Qp0, Qp1, Ql0, Qe0, hb2, f0, f3, f4, f5]
        have hRR : vecS s.length (.ok t) = ([], .bad a0) := hR
        obtain ⟨a1, be, g1, g2, g3, g4⟩ := hi2
        have hW := Lib.hid fun (h2 : PH) hm => wrongI_ok w0 h2 ib s a1 a0 g1 hm
        have hc3 := how.chg.one ⟨[str s, .int .i64 a1, .nilIface], 3⟩
        have g5 : (h'.new ib ⟨[str s, .int .i64 a1, .nilIface], 3⟩).m ib = some ⟨[str s, .int .i64 a1, .nilIface], 3⟩ := by rw [PH.new_m, if_pos rfl]
        unfold errV at g3
        simp -dsimp -implicitDefEqProofs (disch := first | omega | assumption | (simp only [Option.isSome_some, Qt0]; done) | (simp only [UInt64.reduceToNat, UInt32.reduceToNat, UInt8.reduceToNat, List.length_cons, List.length_nil, List.length_append, Int.toNat_natCast] <;> omega) | fail) only [Nat.reduceLT, Nat.reduceLeDiff, Nat.reduceEqDiff, ↓reduceIte, Int.reduceLT, Int.reduceLE, Int.reduceToNat, Int.reduceEq, Int.reduceNe, Nat.reduceAdd, UInt8.reduceOfNat, UInt16.reduceOfNat, UInt32.reduceOfNat, UInt64.reduceOfNat, UInt64.reduceToNat, UInt32.reduceToNat, UInt16.reduceToNat, UInt8.reduceToNat, Int.reduceAdd, Int.reduceSub, Int.reduceMul, Nat.reduceMul, Qp0, Qp1, Ql0, Qe0, f0, f3, f4, f5, rd_M, rdM_some, g3, List.set_cons_zero, List.set_cons_succ]
        generalize h'.new ib ⟨[str s, .int .i64 a1, .nilIface], 3⟩ = h4 at *
        refine (hW.out h4 g5).mono ?_
        rintro v hq ⟨hi3, hc4⟩
        rw [hRR]
        simp -dsimp -implicitDefEqProofs (disch := first | omega | assumption | (simp only [Option.isSome_some, Qt0]; done) | (simp only [UInt64.reduceToNat, UInt32.reduceToNat, UInt8.reduceToNat, List.length_cons, List.length_nil, List.length_append, Int.toNat_natCast] <;> omega) | fail) only [Nat.reduceLT, Nat.reduceLeDiff, Nat.reduceEqDiff, ↓reduceIte, Int.reduceLT, Int.reduceLE, Int.reduceToNat, Int.reduceEq, Int.reduceNe, Nat.reduceAdd, UInt8.reduceOfNat, UInt16.reduceOfNat, UInt32.reduceOfNat, UInt64.reduceOfNat, UInt64.reduceToNat, UInt32.reduceToNat, UInt16.reduceToNat, UInt8.reduceToNat, Int.reduceAdd, Int.reduceSub, Int.reduceMul, Nat.reduceMul, Qp0, Qp1, Ql0, Qe0]
        exact ⟨_, PH.Le.refl _, _, _, by first | rfl | trivial, OwnC.nil (hc3.trans hc4) 1, hi3⟩
    | ok u =>
      have hb2 : St.isBad (.ok u) = false := rfl
      obtain ⟨n0, u0, hp0, hns⟩ := hK
      cases m with
      | zero =>
        have e1 : decide (((0 : Nat) : Int) > 0) = false := decide_eq_false (by omega)
        rw [numsP_zero] at hns
        simp only [Option.map_some, List.append_nil] at hns
        have hT := trimmed_any w0 h' hl A c v' 1099511627776 (Rv.own how.own) hc (by omega)
        cases htr : trim v' 1099511627776 with
        | true =>
          have hR : vecS s.length (.ok t) = (v', .ok u) := vecS_ok _ hp0 hns htr
          rw [htr] at hT
          have hT := Lib.hid hT
          simp -dsimp -implicitDefEqProofs (disch := first | omega | assumption | (simp only [Option.isSome_some, Qt0]; done) | (simp only [UInt64.reduceToNat, UInt32.reduceToNat, UInt8.reduceToNat, List.length_cons, List.length_nil, List.length_append, Int.toNat_natCast] <;> omega) | fail) only [Nat.reduceLT, Nat.reduceLeDiff, Nat.reduceEqDiff, ↓reduceIte, Int.reduceLT, Int.reduceLE, Int.reduceToNat, Int.reduceEq, Int.reduceNe, Nat.reduceAdd, UInt8.reduceOfNat, UInt16.reduceOfNat, UInt32.reduceOfNat, UInt64.reduceOfNat, UInt64.reduceToNat, UInt32.reduceToNat, UInt16.reduceToNat, UInt8.reduceToNat, Int.reduceAdd, Int.reduceSub, Int.reduceMul, Nat.reduceMul, Qp0, Qp1, Ql0, Qe0, f0, f3, f4, f5, e1]
          refine hB2.out.mono ?_
          rintro v hq ⟨rfl, hz⟩
          obtain rfl := hz.symm
          simp -dsimp -implicitDefEqProofs (disch := first | omega | assumption | (simp only [Option.isSome_some, Qt0]; done) | (simp only [UInt64.reduceToNat, UInt32.reduceToNat, UInt8.reduceToNat, List.length_cons, List.length_nil, List.length_append, Int.toNat_natCast] <;> omega) | fail) only [Nat.reduceLT, Nat.reduceLeDiff, Nat.reduceEqDiff, ↓reduceIte, Int.reduceLT, Int.reduceLE, Int.reduceToNat, Int.reduceEq, Int.reduceNe, Nat.reduceAdd, UInt8.reduceOfNat, UInt16.reduceOfNat, UInt32.reduceOfNat, UInt64.reduceOfNat, UInt64.reduceToNat, UInt32.reduceToNat, UInt16.reduceToNat, UInt8.reduceToNat, Int.reduceAdd, Int.reduceSub, Int.reduceMul, Nat.reduceMul, Qp0, Qp1, Ql0, Qe0, hb2, f0, f3, f4, f5]
          refine hT.out.mono ?_
          rintro v hq ⟨rfl, hz⟩
          obtain rfl := hz.symm
          simp -dsimp -implicitDefEqProofs (disch := first | omega | assumption | (simp only [Option.isSome_some, Qt0]; done) | (simp only [UInt64.reduceToNat, UInt32.reduceToNat, UInt8.reduceToNat, List.length_cons, List.length_nil, List.length_append, Int.toNat_natCast] <;> omega) | fail) only [Nat.reduceLT, Nat.reduceLeDiff, Nat.reduceEqDiff, ↓reduceIte, Int.reduceLT, Int.reduceLE, Int.reduceToNat, Int.reduceEq, Int.reduceNe, Nat.reduceAdd, UInt8.reduceOfNat, UInt16.reduceOfNat, UInt32.reduceOfNat, UInt64.reduceOfNat, UInt64.reduceToNat, UInt32.reduceToNat, UInt16.reduceToNat, UInt8.reduceToNat, Int.reduceAdd, Int.reduceSub, Int.reduceMul, Nat.reduceMul, Qp0, Qp1, Ql0, Qe0, f0, f3, f4, f5]
          rw [hR]
          exact ⟨_, PH.Le.refl _, A, c, by first | rfl | trivial, how, hi2⟩
        | false =>
          have hR : vecS s.length (.ok t) = ([], .bad a0) := by rw [vecS_no3 _ hp0 hns htr, hfl]
          rw [htr] at hT
          have hT := Lib.hid hT
          obtain ⟨a1, g1, g2, g3⟩ := hi2
          have hW := Lib.hid fun (h2 : PH) hm => wrongI_ok w0 h2 ib s a1 a0 g1 hm
          have hc3 := how.chg.one ⟨[str s, .int .i64 a1, .nilIface], 3⟩
          have g5 : (h'.new ib ⟨[str s, .int .i64 a1, .nilIface], 3⟩).m ib = some ⟨[str s, .int .i64 a1, .nilIface], 3⟩ := by rw [PH.new_m, if_pos rfl]
          simp -dsimp -implicitDefEqProofs (disch := first | omega | assumption | (simp only [Option.isSome_some, Qt0]; done) | (simp only [UInt64.reduceToNat, UInt32.reduceToNat, UInt8.reduceToNat, List.length_cons, List.length_nil, List.length_append, Int.toNat_natCast] <;> omega) | fail) only [Nat.reduceLT, Nat.reduceLeDiff, Nat.reduceEqDiff, ↓reduceIte, Int.reduceLT, Int.reduceLE, Int.reduceToNat, Int.reduceEq, Int.reduceNe, Nat.reduceAdd, UInt8.reduceOfNat, UInt16.reduceOfNat, UInt32.reduceOfNat, UInt64.reduceOfNat, UInt64.reduceToNat, UInt32.reduceToNat, UInt16.reduceToNat, UInt8.reduceToNat, Int.reduceAdd, Int.reduceSub, Int.reduceMul, Nat.reduceMul, Qp0, Qp1, Ql0, Qe0, f0, f3, f4, f5, e1]
          refine hB2.out.mono ?_
          rintro v hq ⟨rfl, hz⟩
          obtain rfl := hz.symm
          simp -dsimp -implicitDefEqProofs (disch := first | omega | assumption | (simp only [Option.isSome_some, Qt0]; done) | (simp only [UInt64.reduceToNat, UInt32.reduceToNat, UInt8.reduceToNat, List.length_cons, List.length_nil, List.length_append, Int.toNat_natCast] <;> omega) | fail) only [Nat.reduceLT, Nat.reduceLeDiff, Nat.reduceEqDiff, ↓reduceIte, Int.reduceLT, Int.reduceLE, Int.reduceToNat, Int.reduceEq, Int.reduceNe, Nat.reduceAdd, UInt8.reduceOfNat, UInt16.reduceOfNat, UInt32.reduceOfNat, UInt64.reduceOfNat, UInt64.reduceToNat, UInt32.reduceToNat, UInt16.reduceToNat, UInt8.reduceToNat, Int.reduceAdd, Int.reduceSub, Int.reduceMul, Nat.reduceMul, Qp0, Qp1, Ql0, Qe0, hb2, f0, f3, f4, f5]
          refine hT.out.mono ?_
          rintro v hq ⟨rfl, hz⟩
          obtain rfl := hz.symm
          simp -dsimp -implicitDefEqProofs (disch := first | omega | assumption | (simp only [Option.isSome_some, Qt0]; done) | (simp only [UInt64.reduceToNat, UInt32.reduceToNat, UInt8.reduceToNat, List.length_cons, List.length_nil, List.length_append, Int.toNat_natCast] <;> omega) | fail) only [Nat.reduceLT, Nat.reduceLeDiff, Nat.reduceEqDiff, ↓reduceIte, Int.reduceLT, Int.reduceLE, Int.reduceToNat, Int.reduceEq, Int.reduceNe, Nat.reduceAdd, UInt8.reduceOfNat, UInt16.reduceOfNat, UInt32.reduceOfNat, UInt64.reduceOfNat, UInt64.reduceToNat, UInt32.reduceToNat, UInt16.reduceToNat, UInt8.reduceToNat, Int.reduceAdd, Int.reduceSub, Int.reduceMul, Nat.reduceMul, Qp0, Qp1, Ql0, Qe0, f0, f3, f4, f5, rd_M, rdM_some, g3, List.set_cons_zero, List.set_cons_succ]
          generalize h'.new ib ⟨[str s, .int .i64 a1, .nilIface], 3⟩ = h4 at *
          refine (hW.out h4 g5).mono ?_
          rintro v hq ⟨hi3, hc4⟩
          rw [hR]
          simp -dsimp -implicitDefEqProofs (disch := first | omega | assumption | (simp only [Option.isSome_some, Qt0]; done) | (simp only [UInt64.reduceToNat, UInt32.reduceToNat, UInt8.reduceToNat, List.length_cons, List.length_nil, List.length_append, Int.toNat_natCast] <;> omega) | fail) only [Nat.reduceLT, Nat.reduceLeDiff, Nat.reduceEqDiff, ↓reduceIte, Int.reduceLT, Int.reduceLE, Int.reduceToNat, Int.reduceEq, Int.reduceNe, Nat.reduceAdd, UInt8.reduceOfNat, UInt16.reduceOfNat, UInt32.reduceOfNat, UInt64.reduceOfNat, UInt64.reduceToNat, UInt32.reduceToNat, UInt16.reduceToNat, UInt8.reduceToNat, Int.reduceAdd, Int.reduceSub, Int.reduceMul, Nat.reduceMul, Qp0, Qp1, Ql0, Qe0]
          exact ⟨_, PH.Le.refl _, _, _, by first | rfl | trivial, OwnC.nil (hc3.trans hc4) 1, hi3⟩
      | succ r =>
        have e1 : decide (((r + 1 : Nat) : Int) > 0) = true := decide_eq_true (by omega)
        have hN := inum_any w0 h' ib s hs 1099511627776 _ hi2
        have hstep : ∃ (x : Nat) (st2 : St), numS 1099511627776 s.length (.ok u) = (x, st2) ∧ VK s t a0 r (v' ++ [(x : Int)]) st2 := by
          cases hp : numP u 1099511627776 with
          | none =>
            refine ⟨0, _, numS_fail _ hp, ?_⟩
            show vecS _ _ = _
            rw [vecS_no2 _ hp0 (by rw [hns, numsP_none hp]; rfl), hfl]
          | some p =>
            obtain ⟨x, u2⟩ := p
            refine ⟨x, _, numS_ok _ hp, n0, u0, hp0, ?_⟩
            rw [hns, numsP_some hp, Option.map_map]
            congr 1
            funext q
            simp
        obtain ⟨x, st2, e2, hK2⟩ := hstep
        rw [e2] at hN
        have hN := Lib.hid hN
        have e5 : ((r + 1 : Nat) : Int) - 1 = (r : Int) := by omega
        rw [show ((r + 1 : Nat) : Int) = (r : Int) + 1 by omega] at e1 e5 f5
        simp -dsimp -implicitDefEqProofs (disch := first | omega | assumption | (simp only [Option.isSome_some, Qt0]; done) | (simp only [UInt64.reduceToNat, UInt32.reduceToNat, UInt8.reduceToNat, List.length_cons, List.length_nil, List.length_append, Int.toNat_natCast] <;> omega) | fail) only [Nat.reduceLT, Nat.reduceLeDiff, Nat.reduceEqDiff, ↓reduceIte, Int.reduceLT, Int.reduceLE, Int.reduceToNat, Int.reduceEq, Int.reduceNe, Nat.reduceAdd, UInt8.reduceOfNat, UInt16.reduceOfNat, UInt32.reduceOfNat, UInt64.reduceOfNat, UInt64.reduceToNat, UInt32.reduceToNat, UInt16.reduceToNat, UInt8.reduceToNat, Int.reduceAdd, Int.reduceSub, Int.reduceMul, Nat.reduceMul, Qp0, Qp1, Ql0, Qe0, f0, f3, f4, f5, e1]
        refine hB2.out.mono ?_
        rintro v hq ⟨rfl, hz⟩
        obtain rfl := hz.symm
        simp -dsimp -implicitDefEqProofs (disch := first | omega | assumption | (simp only [Option.isSome_some, Qt0]; done) | (simp only [UInt64.reduceToNat, UInt32.reduceToNat, UInt8.reduceToNat, List.length_cons, List.length_nil, List.length_append, Int.toNat_natCast] <;> omega) | fail) only [Nat.reduceLT, Nat.reduceLeDiff, Nat.reduceEqDiff, ↓reduceIte, Int.reduceLT, Int.reduceLE, Int.reduceToNat, Int.reduceEq, Int.reduceNe, Nat.reduceAdd, UInt8.reduceOfNat, UInt16.reduceOfNat, UInt32.reduceOfNat, UInt64.reduceOfNat, UInt64.reduceToNat, UInt32.reduceToNat, UInt16.reduceToNat, UInt8.reduceToNat, Int.reduceAdd, Int.reduceSub, Int.reduceMul, Nat.reduceMul, Qp0, Qp1, Ql0, Qe0, hb2, f0, f3, f4, f5]
        refine hN.out.mono ?_
        rintro v h4 ⟨rfl, hi4, hc4⟩
        have how4 := how.chg' hc4 (fun x e => by rw [e]; exact hibt)
        simp -dsimp -implicitDefEqProofs (disch := first | omega | assumption | (simp only [Option.isSome_some, Qt0]; done) | (simp only [UInt64.reduceToNat, UInt32.reduceToNat, UInt8.reduceToNat, List.length_cons, List.length_nil, List.length_append, Int.toNat_natCast] <;> omega) | fail) only [Nat.reduceLT, Nat.reduceLeDiff, Nat.reduceEqDiff, ↓reduceIte, Int.reduceLT, Int.reduceLE, Int.reduceToNat, Int.reduceEq, Int.reduceNe, Nat.reduceAdd, UInt8.reduceOfNat, UInt16.reduceOfNat, UInt32.reduceOfNat, UInt64.reduceOfNat, UInt64.reduceToNat, UInt32.reduceToNat, UInt16.reduceToNat, UInt8.reduceToNat, Int.reduceAdd, Int.reduceSub, Int.reduceMul, Nat.reduceMul, Qp0, Qp1, Ql0, Qe0, f0, f3, f4, f5]
        refine Does_one (v := .int .i64 x) el_vec rfl (by omega) fun gb hgb => ?_
        have hl5 := (PH.Le.refl h4).new gb ⟨[.int .i64 x], 1⟩ hgb
        have how5 := how4.more hl5
        have hi5 := hi4.more hl5
        simp -dsimp -implicitDefEqProofs (disch := first | omega | assumption | (simp only [Option.isSome_some, Qt0]; done) | (simp only [UInt64.reduceToNat, UInt32.reduceToNat, UInt8.reduceToNat, List.length_cons, List.length_nil, List.length_append, Int.toNat_natCast] <;> omega) | fail) only [Nat.reduceLT, Nat.reduceLeDiff, Nat.reduceEqDiff, ↓reduceIte, Int.reduceLT, Int.reduceLE, Int.reduceToNat, Int.reduceEq, Int.reduceNe, Nat.reduceAdd, UInt8.reduceOfNat, UInt16.reduceOfNat, UInt32.reduceOfNat, UInt64.reduceOfNat, UInt64.reduceToNat, UInt32.reduceToNat, UInt16.reduceToNat, UInt8.reduceToNat, Int.reduceAdd, Int.reduceSub, Int.reduceMul, Nat.reduceMul, Qp0, Qp1, Ql0, Qe0, f0, f3, f4, f5]
        refine Does_app el_vec how5.own (Rs.blk (k := ⟨[.int .i64 x], 1⟩) (by rw [PH.new_m, if_pos rfl]; rfl) rfl) (ints_one [_]) (by unfold maxLen; omega) (by omega) (fun v6 h6 ho6 hst6 => ?_)
        have ho7 : Own h6 1 v6 (v' ++ [(x : Int)]).length (ints (v' ++ [(x : Int)])) := by rw [← ints_snoc, List.length_append]; exact ho6
        have hi6 : IS h6 ib s st2 := by
          have hne : ∀ y k, (h4.new gb ⟨[.int .i64 x], 1⟩).m y = some k → y < h.top → h6.m y = some k := fun y k e hy => hst6.keep y k e (fun e' => by have := how5.new y e'; omega)
          cases st2 with
          | ok t2 => obtain ⟨q1, q2, q3, q4⟩ := hi5; exact ⟨q1, q2, q3, hne _ _ q4 hibt⟩
          | bad p2 =>
            obtain ⟨q1, q2, q3, q4, q5, q6⟩ := hi5
            refine ⟨q1, q2, q3, q4, hne _ _ q5 hibt, hst6.keep _ _ q6 fun e' => ?_⟩
            rcases how5.own.2 with ⟨k1, _⟩ | ⟨bb, cc, k1, _, _, k4⟩
            · rw [k1] at e'; cases e'
            · rw [k1] at e'; cases e'
              rw [k4] at q6
              injection q6 with q6
              injection q6 with q6 _
              have := congrArg (fun l => l[0]?) q6
              simp only [ints, List.getElem?_map] at this
              cases hv0 : v'[0]? <;> rw [hv0] at this <;> simp [str] at this
        simp -dsimp -implicitDefEqProofs (disch := first | omega | assumption | (simp only [Option.isSome_some, Qt0]; done) | (simp only [UInt64.reduceToNat, UInt32.reduceToNat, UInt8.reduceToNat, List.length_cons, List.length_nil, List.length_append, Int.toNat_natCast] <;> omega) | fail) only [Nat.reduceLT, Nat.reduceLeDiff, Nat.reduceEqDiff, ↓reduceIte, Int.reduceLT, Int.reduceLE, Int.reduceToNat, Int.reduceEq, Int.reduceNe, Nat.reduceAdd, UInt8.reduceOfNat, UInt16.reduceOfNat, UInt32.reduceOfNat, UInt64.reduceOfNat, UInt64.reduceToNat, UInt32.reduceToNat, UInt16.reduceToNat, UInt8.reduceToNat, Int.reduceAdd, Int.reduceSub, Int.reduceMul, Nat.reduceMul, Qp0, Qp1, Ql0, Qe0, f0, f3, f4, f5, e5]
        exact ⟨r, _, by omega, PH.Le.refl _, v' ++ [(x : Int)], v6, st2, by trivial, by trivial, by trivial, by simp, how5.stays hst6 ho7, hi6, by simp; omega, hK2⟩
end
end Go.Proofs.Ytdhgmifgjaedbaa

