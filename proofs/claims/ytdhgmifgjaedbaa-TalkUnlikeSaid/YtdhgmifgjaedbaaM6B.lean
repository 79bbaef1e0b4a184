/- Parts Wr7, Wr8, Wr9, Wdv, Wra, Wdb, Wrb, Wrc, joined. No condition. -/
import Derived.Test.YtdhgmifgjaedbaaM5B
import Derived.Laws.StructEq
/- The document's reader: Text, Flag, Vec, Fault; Trimmed. No condition. -/
namespace Go.Proofs.Ytdhgmifgjaedbaa
set_option linter.unusedVariables false
set_option linter.unusedSimpArgs false
open Go.RowKit Px Wr
def Wr.St.fault (len : Nat) : St → Int
  | .ok [] => -1
  | .ok t => (len - t.length : Nat)
  | .bad p => p
section
variable (w0 : World) (h : PH) (ib : Nat) (s : List UInt8)
end
set_option maxRecDepth 20000 in
set_option maxHeartbeats 1000000 in
theorem rtrimmed_any (w0 : World) (h : PH) (hl : Low w0 h) (A : Option Addr) (c : Nat) (v : List Int) (m : Int) (hr : Rv w0 h A (ints v)) (hn : v.length ≤ c) (hv : v.length ≤ 9223372036854775807) : PCalls Try.prog w0 29 [.slice A v.length c, .int .i64 m] h fun r h' => r = .bool (trim v m) ∧ h' = h := by
  refine PCalls_body Try.func29 (by kernel_rfl) rfl _ Try.ntmps29 (by kernel_rfl) (by kernel_rfl) _ Try.results29 ?_
  by_cases h16 : v.length ≤ 16
  · have e1 : decide ((v.length : Int) > 16) = false := decide_eq_false (by omega)
    simp -dsimp -implicitDefEqProofs (disch := first | omega | assumption | (simp only [Option.isSome_some, Qt0]; done) | (simp only [UInt64.reduceToNat, UInt32.reduceToNat, UInt8.reduceToNat, List.length_cons, List.length_nil, List.length_append, Int.toNat_natCast] <;> omega) | fail) only [Nat.reduceLT, Nat.reduceLeDiff, Nat.reduceEqDiff, ↓reduceIte, Int.reduceLT, Int.reduceLE, Int.reduceToNat, Int.reduceEq, Int.reduceNe, Nat.reduceAdd, UInt8.reduceOfNat, UInt16.reduceOfNat, UInt32.reduceOfNat, UInt64.reduceOfNat, UInt64.reduceToNat, UInt32.reduceToNat, UInt16.reduceToNat, UInt8.reduceToNat, Int.reduceAdd, Int.reduceSub, Int.reduceMul, Nat.reduceMul, Qp0, Qp1, Ql0, Qe0, e1]
    refine PW_loop (fun n f h' => ∃ i : Nat, n + i = v.length ∧ f 0 = some (.slice A v.length c) ∧ f 1 = some (.int .i64 m) ∧ f 5 = some (.int .i64 i) ∧ (∀ j, j < i → 0 ≤ v.getD j 0 ∧ v.getD j 0 ≤ m) ∧ (i = v.length → v.getLast? ≠ some 0) ∧ h' = h) (by kernel_rfl) v.length ⟨0, by omega, ?_, ?_, ?_, fun j hj => by omega, fun e => by have : v = [] := List.eq_nil_of_length_eq_zero e.symm; rw [this]; simp, rfl⟩ ?_
    · simp -dsimp -implicitDefEqProofs (disch := first | omega | assumption | (simp only [Option.isSome_some, Qt0]; done) | (simp only [UInt64.reduceToNat, UInt32.reduceToNat, UInt8.reduceToNat, List.length_cons, List.length_nil, List.length_append, Int.toNat_natCast] <;> omega) | fail) only [Nat.reduceLT, Nat.reduceLeDiff, Nat.reduceEqDiff, ↓reduceIte, Int.reduceLT, Int.reduceLE, Int.reduceToNat, Int.reduceEq, Int.reduceNe, Nat.reduceAdd, UInt8.reduceOfNat, UInt16.reduceOfNat, UInt32.reduceOfNat, UInt64.reduceOfNat, UInt64.reduceToNat, UInt32.reduceToNat, UInt16.reduceToNat, UInt8.reduceToNat, Int.reduceAdd, Int.reduceSub, Int.reduceMul, Nat.reduceMul, Qp0, Qp1, Ql0, Qe0]
    · simp -dsimp -implicitDefEqProofs (disch := first | omega | assumption | (simp only [Option.isSome_some, Qt0]; done) | (simp only [UInt64.reduceToNat, UInt32.reduceToNat, UInt8.reduceToNat, List.length_cons, List.length_nil, List.length_append, Int.toNat_natCast] <;> omega) | fail) only [Nat.reduceLT, Nat.reduceLeDiff, Nat.reduceEqDiff, ↓reduceIte, Int.reduceLT, Int.reduceLE, Int.reduceToNat, Int.reduceEq, Int.reduceNe, Nat.reduceAdd, UInt8.reduceOfNat, UInt16.reduceOfNat, UInt32.reduceOfNat, UInt64.reduceOfNat, UInt64.reduceToNat, UInt32.reduceToNat, UInt16.reduceToNat, UInt8.reduceToNat, Int.reduceAdd, Int.reduceSub, Int.reduceMul, Nat.reduceMul, Qp0, Qp1, Ql0, Qe0]
    · simp -dsimp -implicitDefEqProofs (disch := first | omega | assumption | (simp only [Option.isSome_some, Qt0]; done) | (simp only [UInt64.reduceToNat, UInt32.reduceToNat, UInt8.reduceToNat, List.length_cons, List.length_nil, List.length_append, Int.toNat_natCast] <;> omega) | fail) only [Nat.reduceLT, Nat.reduceLeDiff, Nat.reduceEqDiff, ↓reduceIte, Int.reduceLT, Int.reduceLE, Int.reduceToNat, Int.reduceEq, Int.reduceNe, Nat.reduceAdd, UInt8.reduceOfNat, UInt16.reduceOfNat, UInt32.reduceOfNat, UInt64.reduceOfNat, UInt64.reduceToNat, UInt32.reduceToNat, UInt16.reduceToNat, UInt8.reduceToNat, Int.reduceAdd, Int.reduceSub, Int.reduceMul, Nat.reduceMul, Qp0, Qp1, Ql0, Qe0]
      try rfl
    rintro n f h' ⟨i, hni, f0, f1, f5, hall, hla, rfl⟩
    by_cases hi : i < v.length
    · have e2 : decide ((i : Int) < (v.length : Int)) = true := decide_eq_true (by omega)
      obtain ⟨b, o, rfl⟩ := hr.addr (by simp [ints]; omega)
      have hgi := hr.get hl (j := i) (u := .int .i64 (v.getD i 0)) (by rw [ints, List.getElem?_map, List.getD, List.getElem?_eq_getElem hi]; rfl)
      obtain ⟨b1, hb1⟩ : ∃ b, decide (v.getD i 0 < 0) = b := ⟨_, rfl⟩
      obtain ⟨b2, hb2⟩ : ∃ b, decide (v.getD i 0 > m) = b := ⟨_, rfl⟩
      obtain ⟨b3, hb3⟩ : ∃ b, decide ((i : Int) = (v.length : Int) - 1) = b := ⟨_, rfl⟩
      obtain ⟨b4, hb4⟩ : ∃ b, decide (v.getD i 0 = 0) = b := ⟨_, rfl⟩
      have hgl : i = v.length - 1 → v.getLast? = some (v.getD i 0) := fun e => by
        rw [List.getLast?_eq_getElem?, ← e, List.getD, List.getElem?_eq_getElem hi]; rfl
      have hno : (b1 || b2 || (b3 && b4)) = true → trim v m = false := fun hx => by
        rw [Bool.eq_false_iff]; intro e
        have h9 := trim_iff.1 e
        have h8 := h9.2.2 i hi
        rw [← hb1, ← hb2, ← hb3, ← hb4] at hx
        simp only [Bool.or_eq_true, Bool.and_eq_true, decide_eq_true_eq] at hx
        rcases hx with (hx | hx) | ⟨hx, hy⟩
        · omega
        · omega
        · exact h9.2.1 (by rw [hgl (by omega), hy])
      have hyes : (b1 || b2 || (b3 && b4)) = false → (∀ j, j < i + 1 → 0 ≤ v.getD j 0 ∧ v.getD j 0 ≤ m) ∧ (i + 1 = v.length → v.getLast? ≠ some 0) := fun hx => by
        rw [← hb1, ← hb2, ← hb3, ← hb4] at hx
        simp only [Bool.or_eq_false_iff, Bool.and_eq_false_iff, decide_eq_false_iff_not] at hx
        refine ⟨fun j hj => ?_, fun e => ?_⟩
        · by_cases hji : j = i
          · subst hji; omega
          · exact hall j (by omega)
        · rw [hgl (by omega)]
          intro e2
          injection e2 with e2
          omega
      cases b1; rotate_left
      · rw [hno rfl]
        simp -dsimp -implicitDefEqProofs (disch := first | omega | assumption | (simp only [Option.isSome_some, Qt0]; done) | (simp only [UInt64.reduceToNat, UInt32.reduceToNat, UInt8.reduceToNat, List.length_cons, List.length_nil, List.length_append, Int.toNat_natCast] <;> omega) | fail) only [Nat.reduceLT, Nat.reduceLeDiff, Nat.reduceEqDiff, ↓reduceIte, Int.reduceLT, Int.reduceLE, Int.reduceToNat, Int.reduceEq, Int.reduceNe, Nat.reduceAdd, UInt8.reduceOfNat, UInt16.reduceOfNat, UInt32.reduceOfNat, UInt64.reduceOfNat, UInt64.reduceToNat, UInt32.reduceToNat, UInt16.reduceToNat, UInt8.reduceToNat, Int.reduceAdd, Int.reduceSub, Int.reduceMul, Nat.reduceMul, Qp0, Qp1, Ql0, Qe0, f0, f1, f5, e2, rd_M, hgi, hb1]
        exact ⟨_, PH.Le.refl _, by first | rfl | trivial, rfl⟩
      cases b2; rotate_left
      · rw [hno rfl]
        simp -dsimp -implicitDefEqProofs (disch := first | omega | assumption | (simp only [Option.isSome_some, Qt0]; done) | (simp only [UInt64.reduceToNat, UInt32.reduceToNat, UInt8.reduceToNat, List.length_cons, List.length_nil, List.length_append, Int.toNat_natCast] <;> omega) | fail) only [Nat.reduceLT, Nat.reduceLeDiff, Nat.reduceEqDiff, ↓reduceIte, Int.reduceLT, Int.reduceLE, Int.reduceToNat, Int.reduceEq, Int.reduceNe, Nat.reduceAdd, UInt8.reduceOfNat, UInt16.reduceOfNat, UInt32.reduceOfNat, UInt64.reduceOfNat, UInt64.reduceToNat, UInt32.reduceToNat, UInt16.reduceToNat, UInt8.reduceToNat, Int.reduceAdd, Int.reduceSub, Int.reduceMul, Nat.reduceMul, Qp0, Qp1, Ql0, Qe0, f0, f1, f5, e2, rd_M, hgi, hb1, hb2]
        exact ⟨_, PH.Le.refl _, by first | rfl | trivial, rfl⟩
      cases b3
      · obtain ⟨y1, y2⟩ := hyes rfl
        simp -dsimp -implicitDefEqProofs (disch := first | omega | assumption | (simp only [Option.isSome_some, Qt0]; done) | (simp only [UInt64.reduceToNat, UInt32.reduceToNat, UInt8.reduceToNat, List.length_cons, List.length_nil, List.length_append, Int.toNat_natCast] <;> omega) | fail) only [Nat.reduceLT, Nat.reduceLeDiff, Nat.reduceEqDiff, ↓reduceIte, Int.reduceLT, Int.reduceLE, Int.reduceToNat, Int.reduceEq, Int.reduceNe, Nat.reduceAdd, UInt8.reduceOfNat, UInt16.reduceOfNat, UInt32.reduceOfNat, UInt64.reduceOfNat, UInt64.reduceToNat, UInt32.reduceToNat, UInt16.reduceToNat, UInt8.reduceToNat, Int.reduceAdd, Int.reduceSub, Int.reduceMul, Nat.reduceMul, Qp0, Qp1, Ql0, Qe0, f0, f1, f5, e2, rd_M, hgi, hb1, hb2, hb3]
        exact ⟨n - 1, _, by omega, PH.Le.refl _, i + 1, by omega, by trivial, by trivial, by simp, y1, y2, rfl⟩
      cases b4
      · obtain ⟨y1, y2⟩ := hyes rfl
        simp -dsimp -implicitDefEqProofs (disch := first | omega | assumption | (simp only [Option.isSome_some, Qt0]; done) | (simp only [UInt64.reduceToNat, UInt32.reduceToNat, UInt8.reduceToNat, List.length_cons, List.length_nil, List.length_append, Int.toNat_natCast] <;> omega) | fail) only [Nat.reduceLT, Nat.reduceLeDiff, Nat.reduceEqDiff, ↓reduceIte, Int.reduceLT, Int.reduceLE, Int.reduceToNat, Int.reduceEq, Int.reduceNe, Nat.reduceAdd, UInt8.reduceOfNat, UInt16.reduceOfNat, UInt32.reduceOfNat, UInt64.reduceOfNat, UInt64.reduceToNat, UInt32.reduceToNat, UInt16.reduceToNat, UInt8.reduceToNat, Int.reduceAdd, Int.reduceSub, Int.reduceMul, Nat.reduceMul, Qp0, Qp1, Ql0, Qe0, f0, f1, f5, e2, rd_M, hgi, hb1, hb2, hb3, hb4]
        exact ⟨n - 1, _, by omega, PH.Le.refl _, i + 1, by omega, by trivial, by trivial, by simp, y1, y2, rfl⟩
      · rw [hno rfl]
        simp -dsimp -implicitDefEqProofs (disch := first | omega | assumption | (simp only [Option.isSome_some, Qt0]; done) | (simp only [UInt64.reduceToNat, UInt32.reduceToNat, UInt8.reduceToNat, List.length_cons, List.length_nil, List.length_append, Int.toNat_natCast] <;> omega) | fail) only [Nat.reduceLT, Nat.reduceLeDiff, Nat.reduceEqDiff, ↓reduceIte, Int.reduceLT, Int.reduceLE, Int.reduceToNat, Int.reduceEq, Int.reduceNe, Nat.reduceAdd, UInt8.reduceOfNat, UInt16.reduceOfNat, UInt32.reduceOfNat, UInt64.reduceOfNat, UInt64.reduceToNat, UInt32.reduceToNat, UInt16.reduceToNat, UInt8.reduceToNat, Int.reduceAdd, Int.reduceSub, Int.reduceMul, Nat.reduceMul, Qp0, Qp1, Ql0, Qe0, f0, f1, f5, e2, rd_M, hgi, hb1, hb2, hb3, hb4]
        exact ⟨_, PH.Le.refl _, by first | rfl | trivial, rfl⟩
    · have e2 : decide ((i : Int) < (v.length : Int)) = false := decide_eq_false (by omega)
      rw [trim_iff.2 ⟨h16, hla (by omega), fun j hj => hall j (by omega)⟩]
      simp -dsimp -implicitDefEqProofs (disch := first | omega | assumption | (simp only [Option.isSome_some, Qt0]; done) | (simp only [UInt64.reduceToNat, UInt32.reduceToNat, UInt8.reduceToNat, List.length_cons, List.length_nil, List.length_append, Int.toNat_natCast] <;> omega) | fail) only [Nat.reduceLT, Nat.reduceLeDiff, Nat.reduceEqDiff, ↓reduceIte, Int.reduceLT, Int.reduceLE, Int.reduceToNat, Int.reduceEq, Int.reduceNe, Nat.reduceAdd, UInt8.reduceOfNat, UInt16.reduceOfNat, UInt32.reduceOfNat, UInt64.reduceOfNat, UInt64.reduceToNat, UInt32.reduceToNat, UInt16.reduceToNat, UInt8.reduceToNat, Int.reduceAdd, Int.reduceSub, Int.reduceMul, Nat.reduceMul, Qp0, Qp1, Ql0, Qe0, f0, f1, f5, e2]
      exact ⟨_, PH.Le.refl _, by first | rfl | trivial, rfl⟩
  · have e1 : decide ((v.length : Int) > 16) = true := decide_eq_true (by omega)
    have ht : trim v m = false := by unfold trim; simp [h16]
    rw [ht]
    simp -dsimp -implicitDefEqProofs (disch := first | omega | assumption | (simp only [Option.isSome_some, Qt0]; done) | (simp only [UInt64.reduceToNat, UInt32.reduceToNat, UInt8.reduceToNat, List.length_cons, List.length_nil, List.length_append, Int.toNat_natCast] <;> omega) | fail) only [Nat.reduceLT, Nat.reduceLeDiff, Nat.reduceEqDiff, ↓reduceIte, Int.reduceLT, Int.reduceLE, Int.reduceToNat, Int.reduceEq, Int.reduceNe, Nat.reduceAdd, UInt8.reduceOfNat, UInt16.reduceOfNat, UInt32.reduceOfNat, UInt64.reduceOfNat, UInt64.reduceToNat, UInt32.reduceToNat, UInt16.reduceToNat, UInt8.reduceToNat, Int.reduceAdd, Int.reduceSub, Int.reduceMul, Nat.reduceMul, Qp0, Qp1, Ql0, Qe0, e1]
    exact ⟨_, PH.Le.refl _, by trivial, rfl⟩
end Go.Proofs.Ytdhgmifgjaedbaa


/- Claims and writes: which are right, which are alike. No condition. -/
namespace Go.Proofs.Ytdhgmifgjaedbaa
set_option linter.unusedVariables false
set_option linter.unusedSimpArgs false
open Go.RowKit Px Wr
/-- Claims. -/
structure Cl where
  s : List UInt8
  u : List UInt8
  e : Int
  i : Int
  k : Int
  x : List Int
/-- A write: its region, number, time, the stamp's region, what it follows, session, key, value, gone, life. -/
structure Wt where
  r : Int
  n : Int
  t : Int
  q : Int
  d : List Int
  s : List UInt8
  k : List UInt8
  v : List UInt8
  g : Bool
  l : Int
theorem Cl.ext' {a b : Cl} (h1 : a.s = b.s) (h2 : a.u = b.u) (h3 : a.e = b.e) (h4 : a.i = b.i) (h5 : a.k = b.k) (h6 : a.x = b.x) : a = b := by
  cases a; cases b; simp_all
theorem Wt.ext' {a b : Wt} (h1 : a.r = b.r) (h2 : a.n = b.n) (h3 : a.t = b.t) (h4 : a.q = b.q) (h5 : a.d = b.d) (h6 : a.s = b.s) (h7 : a.k = b.k) (h8 : a.v = b.v) (h9 : a.g = b.g) (h10 : a.l = b.l) : a = b := by
  cases a; cases b; simp_all
def wtL (c : Wt) (A : Option Addr) (cap : Nat) : List Value := [.int .i64 c.r, .int .i64 c.n, .int .i64 c.t, .int .i64 c.q, .slice A c.d.length cap, str c.s, str c.k, str c.v, .bool c.g, .int .i64 c.l]
def inB (n m : Int) : Bool := decide (n ≥ m) && decide (n ≤ 1099511627776)
def rightC (c : Cl) : Bool := decide ((c.s.length : Int) ≥ 1) && decide ((c.s.length : Int) ≤ 64) && decide ((c.u.length : Int) ≥ 1) && decide ((c.u.length : Int) ≤ 32) && inB c.e 0 && inB c.i 0 && inB c.k 0 && trim c.x 1099511627776
def rightW (c : Wt) : Bool := decide (c.r ≥ 1) && decide (c.r ≤ 16) && inB c.n 1 && decide (c.q = c.r) && inB c.t 1 && trim c.d 1099511627776 && decide ((c.s.length : Int) ≥ 1) && decide ((c.s.length : Int) ≤ 64) && decide ((c.k.length : Int) ≤ 32) && decide ((c.v.length : Int) ≤ 128) && (!c.g || decide (c.v = [])) && inB c.l 0
set_option maxRecDepth 20000 in
theorem in_any (n m : Int) (w0 : World) (h : PH) : PCalls Try.prog w0 71 [.int .i64 n, .int .i64 m] h fun r h' => r = .bool (inB n m) ∧ h' = h := by
  refine PCalls_body Try.func71 (by kernel_rfl) rfl _ Try.ntmps71 (by kernel_rfl) (by kernel_rfl) _ Try.results71 ?_
  unfold inB
  obtain ⟨b1, hb1⟩ : ∃ b, decide (n ≥ m) = b := ⟨_, rfl⟩
  rw [hb1]
  cases b1
  · simp -dsimp -implicitDefEqProofs (disch := first | omega | assumption | (simp only [Option.isSome_some, Qt0]; done) | (simp only [UInt64.reduceToNat, UInt32.reduceToNat, UInt8.reduceToNat, List.length_cons, List.length_nil, List.length_append, Int.toNat_natCast] <;> omega) | fail) only [Nat.reduceLT, Nat.reduceLeDiff, Nat.reduceEqDiff, ↓reduceIte, Int.reduceLT, Int.reduceLE, Int.reduceToNat, Int.reduceEq, Int.reduceNe, Nat.reduceAdd, UInt8.reduceOfNat, UInt16.reduceOfNat, UInt32.reduceOfNat, UInt64.reduceOfNat, UInt64.reduceToNat, UInt32.reduceToNat, UInt16.reduceToNat, UInt8.reduceToNat, Int.reduceAdd, Int.reduceSub, Int.reduceMul, Nat.reduceMul, Qp0, Qp1, Ql0, Qe0, hb1]
    exact ⟨_, PH.Le.refl _, by first | rfl | trivial, rfl⟩
  · simp -dsimp -implicitDefEqProofs (disch := first | omega | assumption | (simp only [Option.isSome_some, Qt0]; done) | (simp only [UInt64.reduceToNat, UInt32.reduceToNat, UInt8.reduceToNat, List.length_cons, List.length_nil, List.length_append, Int.toNat_natCast] <;> omega) | fail) only [Nat.reduceLT, Nat.reduceLeDiff, Nat.reduceEqDiff, ↓reduceIte, Int.reduceLT, Int.reduceLE, Int.reduceToNat, Int.reduceEq, Int.reduceNe, Nat.reduceAdd, UInt8.reduceOfNat, UInt16.reduceOfNat, UInt32.reduceOfNat, UInt64.reduceOfNat, UInt64.reduceToNat, UInt32.reduceToNat, UInt16.reduceToNat, UInt8.reduceToNat, Int.reduceAdd, Int.reduceSub, Int.reduceMul, Nat.reduceMul, Qp0, Qp1, Ql0, Qe0, hb1]
    exact ⟨_, PH.Le.refl _, by first | rfl | trivial, rfl⟩
set_option maxRecDepth 20000 in
theorem rin_any (n m : Int) (w0 : World) (h : PH) : PCalls Try.prog w0 62 [.int .i64 n, .int .i64 m] h fun r h' => r = .bool (inB n m) ∧ h' = h := by
  refine PCalls_body Try.func62 (by kernel_rfl) rfl _ Try.ntmps62 (by kernel_rfl) (by kernel_rfl) _ Try.results62 ?_
  unfold inB
  obtain ⟨b1, hb1⟩ : ∃ b, decide (n ≥ m) = b := ⟨_, rfl⟩
  rw [hb1]
  cases b1
  · simp -dsimp -implicitDefEqProofs (disch := first | omega | assumption | (simp only [Option.isSome_some, Qt0]; done) | (simp only [UInt64.reduceToNat, UInt32.reduceToNat, UInt8.reduceToNat, List.length_cons, List.length_nil, List.length_append, Int.toNat_natCast] <;> omega) | fail) only [Nat.reduceLT, Nat.reduceLeDiff, Nat.reduceEqDiff, ↓reduceIte, Int.reduceLT, Int.reduceLE, Int.reduceToNat, Int.reduceEq, Int.reduceNe, Nat.reduceAdd, UInt8.reduceOfNat, UInt16.reduceOfNat, UInt32.reduceOfNat, UInt64.reduceOfNat, UInt64.reduceToNat, UInt32.reduceToNat, UInt16.reduceToNat, UInt8.reduceToNat, Int.reduceAdd, Int.reduceSub, Int.reduceMul, Nat.reduceMul, Qp0, Qp1, Ql0, Qe0, hb1]
    exact ⟨_, PH.Le.refl _, by first | rfl | trivial, rfl⟩
  · simp -dsimp -implicitDefEqProofs (disch := first | omega | assumption | (simp only [Option.isSome_some, Qt0]; done) | (simp only [UInt64.reduceToNat, UInt32.reduceToNat, UInt8.reduceToNat, List.length_cons, List.length_nil, List.length_append, Int.toNat_natCast] <;> omega) | fail) only [Nat.reduceLT, Nat.reduceLeDiff, Nat.reduceEqDiff, ↓reduceIte, Int.reduceLT, Int.reduceLE, Int.reduceToNat, Int.reduceEq, Int.reduceNe, Nat.reduceAdd, UInt8.reduceOfNat, UInt16.reduceOfNat, UInt32.reduceOfNat, UInt64.reduceOfNat, UInt64.reduceToNat, UInt32.reduceToNat, UInt16.reduceToNat, UInt8.reduceToNat, Int.reduceAdd, Int.reduceSub, Int.reduceMul, Nat.reduceMul, Qp0, Qp1, Ql0, Qe0, hb1]
    exact ⟨_, PH.Le.refl _, by first | rfl | trivial, rfl⟩
theorem decide_not_lt (a b : Int) : decide (a < b) = !decide (a ≥ b) := by by_cases h : a < b <;> simp [h] <;> omega
theorem decide_not_gt (a b : Int) : decide (a > b) = !decide (a ≤ b) := by by_cases h : a > b <;> simp [h] <;> omega
theorem decide_pos_nil (l : List UInt8) : decide ((l.length : Int) > 0) = !decide (l = []) := by cases l <;> simp <;> omega
end Go.Proofs.Ytdhgmifgjaedbaa


/- Writes: which are right. No condition. -/
namespace Go.Proofs.Ytdhgmifgjaedbaa
set_option linter.unusedVariables false
set_option linter.unusedSimpArgs false
open Go.RowKit Px Wr
set_option maxRecDepth 20000 in
set_option maxHeartbeats 4000000 in
theorem rightW_any (w0 : World) (h : PH) (c : Wt) (A : Option Addr) (cap : Nat) (hr : Rv w0 h A (ints c.d)) (hc : c.d.length ≤ cap) (hx : c.d.length ≤ 1000000) : PCalls Try.prog w0 58 [.agg (wtL c A cap).toArray] h fun r h' => r = .bool (rightW c) ∧ h' = h := by
  refine PCalls_body Try.func58 (by kernel_rfl) rfl _ Try.ntmps58 (by kernel_rfl) (by kernel_rfl) _ Try.results58 ?_
  unfold wtL
  simp -dsimp -implicitDefEqProofs (disch := first | omega | assumption | (simp only [Option.isSome_some, Qt0]; done) | (simp only [UInt64.reduceToNat, UInt32.reduceToNat, UInt8.reduceToNat, List.length_cons, List.length_nil, List.length_append, Int.toNat_natCast] <;> omega) | fail) only [Nat.reduceLT, Nat.reduceLeDiff, Nat.reduceEqDiff, ↓reduceIte, Int.reduceLT, Int.reduceLE, Int.reduceToNat, Int.reduceEq, Int.reduceNe, Nat.reduceAdd, UInt8.reduceOfNat, UInt16.reduceOfNat, UInt32.reduceOfNat, UInt64.reduceOfNat, UInt64.reduceToNat, UInt32.reduceToNat, UInt16.reduceToNat, UInt8.reduceToNat, Int.reduceAdd, Int.reduceSub, Int.reduceMul, Nat.reduceMul, Qp0, Qp1, Ql0, Qe0]
  refine fun pb hpb => ?_
  have hle := (PH.Le.refl h).new pb ⟨[.int .i64 c.r, .int .i64 c.n, .int .i64 c.t, .int .i64 c.q, .slice A c.d.length cap, str c.s, str c.k, str c.v, .bool c.g, .int .i64 c.l], 10⟩ hpb
  have hp : (h.new pb ⟨[.int .i64 c.r, .int .i64 c.n, .int .i64 c.t, .int .i64 c.q, .slice A c.d.length cap, str c.s, str c.k, str c.v, .bool c.g, .int .i64 c.l], 10⟩).m pb = some ⟨[.int .i64 c.r, .int .i64 c.n, .int .i64 c.t, .int .i64 c.q, .slice A c.d.length cap, str c.s, str c.k, str c.v, .bool c.g, .int .i64 c.l], 10⟩ := by rw [PH.new_m, if_pos rfl]
  have hr1 := hr.more hle
  simp -dsimp -implicitDefEqProofs (disch := first | omega | assumption | (simp only [Option.isSome_some, Qt0]; done) | (simp only [UInt64.reduceToNat, UInt32.reduceToNat, UInt8.reduceToNat, List.length_cons, List.length_nil, List.length_append, Int.toNat_natCast] <;> omega) | fail) only [Nat.reduceLT, Nat.reduceLeDiff, Nat.reduceEqDiff, ↓reduceIte, Int.reduceLT, Int.reduceLE, Int.reduceToNat, Int.reduceEq, Int.reduceNe, Nat.reduceAdd, UInt8.reduceOfNat, UInt16.reduceOfNat, UInt32.reduceOfNat, UInt64.reduceOfNat, UInt64.reduceToNat, UInt32.reduceToNat, UInt16.reduceToNat, UInt8.reduceToNat, Int.reduceAdd, Int.reduceSub, Int.reduceMul, Nat.reduceMul, Qp0, Qp1, Ql0, Qe0]
  generalize h.new pb ⟨[.int .i64 c.r, .int .i64 c.n, .int .i64 c.t, .int .i64 c.q, .slice A c.d.length cap, str c.s, str c.k, str c.v, .bool c.g, .int .i64 c.l], 10⟩ = h1 at *
  have hT := PCalls_low fun hl => trimmed_any w0 h1 hl A cap c.d 1099511627776 hr1 hc (by omega)
  have hI1 := in_any c.n 1 w0 h1
  have hI2 := in_any c.t 1 w0 h1
  have hI3 := in_any c.l 0 w0 h1
  unfold rightW
  have hn1 := decide_not_lt c.r 1
  have hn2 := decide_not_gt c.r 16
  have hn12 := decide_pos_nil c.v
  have hn4 : decide (¬ c.q = c.r) = !decide (c.q = c.r) := by by_cases e : c.q = c.r <;> simp [e]
  obtain ⟨b1, hb1⟩ : ∃ b, decide (c.r ≥ 1) = b := ⟨_, rfl⟩
  obtain ⟨b2, hb2⟩ : ∃ b, decide (c.r ≤ 16) = b := ⟨_, rfl⟩
  obtain ⟨b4, hb4⟩ : ∃ b, decide (c.q = c.r) = b := ⟨_, rfl⟩
  obtain ⟨b7, hb7⟩ : ∃ b, decide ((c.s.length : Int) ≥ 1) = b := ⟨_, rfl⟩
  obtain ⟨b8, hb8⟩ : ∃ b, decide ((c.s.length : Int) ≤ 64) = b := ⟨_, rfl⟩
  obtain ⟨b9, hb9⟩ : ∃ b, decide ((c.k.length : Int) ≤ 32) = b := ⟨_, rfl⟩
  obtain ⟨b10, hb10⟩ : ∃ b, decide ((c.v.length : Int) ≤ 128) = b := ⟨_, rfl⟩
  obtain ⟨b12, hb12⟩ : ∃ b, decide (c.v = []) = b := ⟨_, rfl⟩
  rw [hb1] at hn1
  rw [hb2] at hn2
  rw [hb12] at hn12
  rw [hb4] at hn4
  rw [hb1, hb2, hb4, hb7, hb8, hb9, hb10, hb12]
  generalize inB c.n 1 = b3 at *
  generalize inB c.t 1 = b5 at *
  generalize inB c.l 0 = b13 at *
  generalize trim c.d 1099511627776 = b6 at *
  generalize c.g = b11 at *
  have hT := Lib.hid hT
  have hI1 := Lib.hid hI1
  have hI2 := Lib.hid hI2
  have hI3 := Lib.hid hI3
  cases b1; rotate_left
  cases b2; rotate_left
  cases b3; rotate_left
  cases b4; rotate_left
  cases b5; rotate_left
  cases b6; rotate_left
  cases b7; rotate_left
  cases b8; rotate_left
  cases b9; rotate_left
  cases b10; rotate_left
  cases b11; rotate_left
  cases b12
  all_goals
    simp -dsimp -implicitDefEqProofs (disch := first | omega | assumption | (simp only [Option.isSome_some, Qt0]; done) | (simp only [UInt64.reduceToNat, UInt32.reduceToNat, UInt8.reduceToNat, List.length_cons, List.length_nil, List.length_append, Int.toNat_natCast] <;> omega) | fail) only [Nat.reduceLT, Nat.reduceLeDiff, Nat.reduceEqDiff, ↓reduceIte, Int.reduceLT, Int.reduceLE, Int.reduceToNat, Int.reduceEq, Int.reduceNe, Nat.reduceAdd, UInt8.reduceOfNat, UInt16.reduceOfNat, UInt32.reduceOfNat, UInt64.reduceOfNat, UInt64.reduceToNat, UInt32.reduceToNat, UInt16.reduceToNat, UInt8.reduceToNat, Int.reduceAdd, Int.reduceSub, Int.reduceMul, Nat.reduceMul, Qp0, Qp1, Ql0, Qe0, hb1, hb2, hb4, hb7, hb8, hb9, hb10, hb12, rd_M, rdM_some, hp]
    repeat
      first | refine hI1.out.mono ?_ | refine hI2.out.mono ?_ | refine hI3.out.mono ?_ | refine hT.out.mono ?_
      rintro v hq ⟨rfl, hz⟩
      obtain rfl := hz.symm
      simp -dsimp -implicitDefEqProofs (disch := first | omega | assumption | (simp only [Option.isSome_some, Qt0]; done) | (simp only [UInt64.reduceToNat, UInt32.reduceToNat, UInt8.reduceToNat, List.length_cons, List.length_nil, List.length_append, Int.toNat_natCast] <;> omega) | fail) only [Nat.reduceLT, Nat.reduceLeDiff, Nat.reduceEqDiff, ↓reduceIte, Int.reduceLT, Int.reduceLE, Int.reduceToNat, Int.reduceEq, Int.reduceNe, Nat.reduceAdd, UInt8.reduceOfNat, UInt16.reduceOfNat, UInt32.reduceOfNat, UInt64.reduceOfNat, UInt64.reduceToNat, UInt32.reduceToNat, UInt16.reduceToNat, UInt8.reduceToNat, Int.reduceAdd, Int.reduceSub, Int.reduceMul, Nat.reduceMul, Qp0, Qp1, Ql0, Qe0, hb1, hb2, hb4, hb7, hb8, hb9, hb10, hb12, rd_M, rdM_some, hp]
    exact ⟨_, hle, by first | rfl | trivial | (simp; done), rfl⟩
set_option maxRecDepth 20000 in
set_option maxHeartbeats 4000000 in
theorem rrightW_any (w0 : World) (h : PH) (c : Wt) (A : Option Addr) (cap : Nat) (hr : Rv w0 h A (ints c.d)) (hc : c.d.length ≤ cap) (hx : c.d.length ≤ 1000000) : PCalls Try.prog w0 28 [.agg (wtL c A cap).toArray] h fun r h' => r = .bool (rightW c) ∧ h' = h := by
  refine PCalls_body Try.func28 (by kernel_rfl) rfl _ Try.ntmps28 (by kernel_rfl) (by kernel_rfl) _ Try.results28 ?_
  unfold wtL
  simp -dsimp -implicitDefEqProofs (disch := first | omega | assumption | (simp only [Option.isSome_some, Qt0]; done) | (simp only [UInt64.reduceToNat, UInt32.reduceToNat, UInt8.reduceToNat, List.length_cons, List.length_nil, List.length_append, Int.toNat_natCast] <;> omega) | fail) only [Nat.reduceLT, Nat.reduceLeDiff, Nat.reduceEqDiff, ↓reduceIte, Int.reduceLT, Int.reduceLE, Int.reduceToNat, Int.reduceEq, Int.reduceNe, Nat.reduceAdd, UInt8.reduceOfNat, UInt16.reduceOfNat, UInt32.reduceOfNat, UInt64.reduceOfNat, UInt64.reduceToNat, UInt32.reduceToNat, UInt16.reduceToNat, UInt8.reduceToNat, Int.reduceAdd, Int.reduceSub, Int.reduceMul, Nat.reduceMul, Qp0, Qp1, Ql0, Qe0]
  refine fun pb hpb => ?_
  have hle := (PH.Le.refl h).new pb ⟨[.int .i64 c.r, .int .i64 c.n, .int .i64 c.t, .int .i64 c.q, .slice A c.d.length cap, str c.s, str c.k, str c.v, .bool c.g, .int .i64 c.l], 10⟩ hpb
  have hp : (h.new pb ⟨[.int .i64 c.r, .int .i64 c.n, .int .i64 c.t, .int .i64 c.q, .slice A c.d.length cap, str c.s, str c.k, str c.v, .bool c.g, .int .i64 c.l], 10⟩).m pb = some ⟨[.int .i64 c.r, .int .i64 c.n, .int .i64 c.t, .int .i64 c.q, .slice A c.d.length cap, str c.s, str c.k, str c.v, .bool c.g, .int .i64 c.l], 10⟩ := by rw [PH.new_m, if_pos rfl]
  have hr1 := hr.more hle
  simp -dsimp -implicitDefEqProofs (disch := first | omega | assumption | (simp only [Option.isSome_some, Qt0]; done) | (simp only [UInt64.reduceToNat, UInt32.reduceToNat, UInt8.reduceToNat, List.length_cons, List.length_nil, List.length_append, Int.toNat_natCast] <;> omega) | fail) only [Nat.reduceLT, Nat.reduceLeDiff, Nat.reduceEqDiff, ↓reduceIte, Int.reduceLT, Int.reduceLE, Int.reduceToNat, Int.reduceEq, Int.reduceNe, Nat.reduceAdd, UInt8.reduceOfNat, UInt16.reduceOfNat, UInt32.reduceOfNat, UInt64.reduceOfNat, UInt64.reduceToNat, UInt32.reduceToNat, UInt16.reduceToNat, UInt8.reduceToNat, Int.reduceAdd, Int.reduceSub, Int.reduceMul, Nat.reduceMul, Qp0, Qp1, Ql0, Qe0]
  generalize h.new pb ⟨[.int .i64 c.r, .int .i64 c.n, .int .i64 c.t, .int .i64 c.q, .slice A c.d.length cap, str c.s, str c.k, str c.v, .bool c.g, .int .i64 c.l], 10⟩ = h1 at *
  have hT := PCalls_low fun hl => rtrimmed_any w0 h1 hl A cap c.d 1099511627776 hr1 hc (by omega)
  have hI1 := rin_any c.n 1 w0 h1
  have hI2 := rin_any c.t 1 w0 h1
  have hI3 := rin_any c.l 0 w0 h1
  unfold rightW
  have hn1 := decide_not_lt c.r 1
  have hn2 := decide_not_gt c.r 16
  have hn12 := decide_pos_nil c.v
  have hn4 : decide (¬ c.q = c.r) = !decide (c.q = c.r) := by by_cases e : c.q = c.r <;> simp [e]
  obtain ⟨b1, hb1⟩ : ∃ b, decide (c.r ≥ 1) = b := ⟨_, rfl⟩
  obtain ⟨b2, hb2⟩ : ∃ b, decide (c.r ≤ 16) = b := ⟨_, rfl⟩
  obtain ⟨b4, hb4⟩ : ∃ b, decide (c.q = c.r) = b := ⟨_, rfl⟩
  obtain ⟨b7, hb7⟩ : ∃ b, decide ((c.s.length : Int) ≥ 1) = b := ⟨_, rfl⟩
  obtain ⟨b8, hb8⟩ : ∃ b, decide ((c.s.length : Int) ≤ 64) = b := ⟨_, rfl⟩
  obtain ⟨b9, hb9⟩ : ∃ b, decide ((c.k.length : Int) ≤ 32) = b := ⟨_, rfl⟩
  obtain ⟨b10, hb10⟩ : ∃ b, decide ((c.v.length : Int) ≤ 128) = b := ⟨_, rfl⟩
  obtain ⟨b12, hb12⟩ : ∃ b, decide (c.v = []) = b := ⟨_, rfl⟩
  rw [hb1] at hn1
  rw [hb2] at hn2
  rw [hb12] at hn12
  rw [hb4] at hn4
  rw [hb1, hb2, hb4, hb7, hb8, hb9, hb10, hb12]
  generalize inB c.n 1 = b3 at *
  generalize inB c.t 1 = b5 at *
  generalize inB c.l 0 = b13 at *
  generalize trim c.d 1099511627776 = b6 at *
  generalize c.g = b11 at *
  have hT := Lib.hid hT
  have hI1 := Lib.hid hI1
  have hI2 := Lib.hid hI2
  have hI3 := Lib.hid hI3
  cases b1; rotate_left
  cases b2; rotate_left
  cases b4; rotate_left
  cases b3; rotate_left
  cases b5; rotate_left
  cases b6; rotate_left
  cases b13; rotate_left
  cases b7; rotate_left
  cases b8; rotate_left
  cases b9; rotate_left
  cases b10; rotate_left
  cases b11; rotate_left
  cases b12
  all_goals
    simp -dsimp -implicitDefEqProofs (disch := first | omega | assumption | (simp only [Option.isSome_some, Qt0]; done) | (simp only [UInt64.reduceToNat, UInt32.reduceToNat, UInt8.reduceToNat, List.length_cons, List.length_nil, List.length_append, Int.toNat_natCast] <;> omega) | fail) only [Nat.reduceLT, Nat.reduceLeDiff, Nat.reduceEqDiff, ↓reduceIte, Int.reduceLT, Int.reduceLE, Int.reduceToNat, Int.reduceEq, Int.reduceNe, Nat.reduceAdd, UInt8.reduceOfNat, UInt16.reduceOfNat, UInt32.reduceOfNat, UInt64.reduceOfNat, UInt64.reduceToNat, UInt32.reduceToNat, UInt16.reduceToNat, UInt8.reduceToNat, Int.reduceAdd, Int.reduceSub, Int.reduceMul, Nat.reduceMul, Qp0, Qp1, Ql0, Qe0, hb1, hb2, hb4, hb7, hb8, hb9, hb10, hb12, rd_M, rdM_some, hp, hn1, hn2, hn12, hn4]
    repeat
      first | refine hI1.out.mono ?_ | refine hI2.out.mono ?_ | refine hI3.out.mono ?_ | refine hT.out.mono ?_
      rintro v hq ⟨rfl, hz⟩
      obtain rfl := hz.symm
      simp -dsimp -implicitDefEqProofs (disch := first | omega | assumption | (simp only [Option.isSome_some, Qt0]; done) | (simp only [UInt64.reduceToNat, UInt32.reduceToNat, UInt8.reduceToNat, List.length_cons, List.length_nil, List.length_append, Int.toNat_natCast] <;> omega) | fail) only [Nat.reduceLT, Nat.reduceLeDiff, Nat.reduceEqDiff, ↓reduceIte, Int.reduceLT, Int.reduceLE, Int.reduceToNat, Int.reduceEq, Int.reduceNe, Nat.reduceAdd, UInt8.reduceOfNat, UInt16.reduceOfNat, UInt32.reduceOfNat, UInt64.reduceOfNat, UInt64.reduceToNat, UInt32.reduceToNat, UInt16.reduceToNat, UInt8.reduceToNat, Int.reduceAdd, Int.reduceSub, Int.reduceMul, Nat.reduceMul, Qp0, Qp1, Ql0, Qe0, hb1, hb2, hb4, hb7, hb8, hb9, hb10, hb12, rd_M, rdM_some, hp, hn1, hn2, hn12, hn4]
    exact ⟨_, hle, by first | rfl | trivial | (simp; done), rfl⟩
end Go.Proofs.Ytdhgmifgjaedbaa


/- Vectors: which are alike. No condition. -/
namespace Go.Proofs.Ytdhgmifgjaedbaa
set_option linter.unusedVariables false
set_option linter.unusedSimpArgs false
open Go.RowKit Px Wr
set_option maxRecDepth 20000 in
set_option maxHeartbeats 2000000 in
theorem sameV_any (w0 : World) (h : PH) (A B : Option Addr) (c d : Nat) (x y : List Int) (hx : Rv w0 h A (ints x)) (hy : Rv w0 h B (ints y)) (hc : x.length ≤ c) (hd : y.length ≤ d) (hm : x.length ≤ 1000000) : PCalls Try.prog w0 26 [.slice A x.length c, .slice B y.length d] h fun r h' => r = .bool (decide (x = y)) ∧ h' = h := by
  refine PCalls_low fun hl => ?_
  refine PCalls_body Try.func26 (by kernel_rfl) rfl _ Try.ntmps26 (by kernel_rfl) (by kernel_rfl) _ Try.results26 ?_
  by_cases hlen : x.length = y.length
  · have e1 : decide (¬ (x.length : Int) = (y.length : Int)) = false := decide_eq_false (by omega)
    simp -dsimp -implicitDefEqProofs (disch := first | omega | assumption | (simp only [Option.isSome_some, Qt0]; done) | (simp only [UInt64.reduceToNat, UInt32.reduceToNat, UInt8.reduceToNat, List.length_cons, List.length_nil, List.length_append, Int.toNat_natCast] <;> omega) | fail) only [Nat.reduceLT, Nat.reduceLeDiff, Nat.reduceEqDiff, ↓reduceIte, Int.reduceLT, Int.reduceLE, Int.reduceToNat, Int.reduceEq, Int.reduceNe, Nat.reduceAdd, UInt8.reduceOfNat, UInt16.reduceOfNat, UInt32.reduceOfNat, UInt64.reduceOfNat, UInt64.reduceToNat, UInt32.reduceToNat, UInt16.reduceToNat, UInt8.reduceToNat, Int.reduceAdd, Int.reduceSub, Int.reduceMul, Nat.reduceMul, Qp0, Qp1, Ql0, Qe0, e1]
    refine PW_loop (fun n f h' => ∃ i : Nat, n + i = x.length ∧ f 0 = some (.slice A x.length c) ∧ f 1 = some (.slice B y.length d) ∧ f 5 = some (.int .i64 i) ∧ (∀ j, j < i → x.getD j 0 = y.getD j 0) ∧ h' = h) (by kernel_rfl) x.length ⟨0, by omega, ?_, ?_, ?_, fun j hj => by omega, rfl⟩ ?_
    · simp -dsimp -implicitDefEqProofs (disch := first | omega | assumption | (simp only [Option.isSome_some, Qt0]; done) | (simp only [UInt64.reduceToNat, UInt32.reduceToNat, UInt8.reduceToNat, List.length_cons, List.length_nil, List.length_append, Int.toNat_natCast] <;> omega) | fail) only [Nat.reduceLT, Nat.reduceLeDiff, Nat.reduceEqDiff, ↓reduceIte, Int.reduceLT, Int.reduceLE, Int.reduceToNat, Int.reduceEq, Int.reduceNe, Nat.reduceAdd, UInt8.reduceOfNat, UInt16.reduceOfNat, UInt32.reduceOfNat, UInt64.reduceOfNat, UInt64.reduceToNat, UInt32.reduceToNat, UInt16.reduceToNat, UInt8.reduceToNat, Int.reduceAdd, Int.reduceSub, Int.reduceMul, Nat.reduceMul, Qp0, Qp1, Ql0, Qe0]
    · simp -dsimp -implicitDefEqProofs (disch := first | omega | assumption | (simp only [Option.isSome_some, Qt0]; done) | (simp only [UInt64.reduceToNat, UInt32.reduceToNat, UInt8.reduceToNat, List.length_cons, List.length_nil, List.length_append, Int.toNat_natCast] <;> omega) | fail) only [Nat.reduceLT, Nat.reduceLeDiff, Nat.reduceEqDiff, ↓reduceIte, Int.reduceLT, Int.reduceLE, Int.reduceToNat, Int.reduceEq, Int.reduceNe, Nat.reduceAdd, UInt8.reduceOfNat, UInt16.reduceOfNat, UInt32.reduceOfNat, UInt64.reduceOfNat, UInt64.reduceToNat, UInt32.reduceToNat, UInt16.reduceToNat, UInt8.reduceToNat, Int.reduceAdd, Int.reduceSub, Int.reduceMul, Nat.reduceMul, Qp0, Qp1, Ql0, Qe0]
    · simp -dsimp -implicitDefEqProofs (disch := first | omega | assumption | (simp only [Option.isSome_some, Qt0]; done) | (simp only [UInt64.reduceToNat, UInt32.reduceToNat, UInt8.reduceToNat, List.length_cons, List.length_nil, List.length_append, Int.toNat_natCast] <;> omega) | fail) only [Nat.reduceLT, Nat.reduceLeDiff, Nat.reduceEqDiff, ↓reduceIte, Int.reduceLT, Int.reduceLE, Int.reduceToNat, Int.reduceEq, Int.reduceNe, Nat.reduceAdd, UInt8.reduceOfNat, UInt16.reduceOfNat, UInt32.reduceOfNat, UInt64.reduceOfNat, UInt64.reduceToNat, UInt32.reduceToNat, UInt16.reduceToNat, UInt8.reduceToNat, Int.reduceAdd, Int.reduceSub, Int.reduceMul, Nat.reduceMul, Qp0, Qp1, Ql0, Qe0]
      try rfl
    rintro n f h' ⟨i, hni, f0, f1, f5, hall, rfl⟩
    by_cases hi : i < x.length
    · have e2 : decide ((i : Int) < (x.length : Int)) = true := decide_eq_true (by omega)
      obtain ⟨b, o, rfl⟩ := hx.addr (by simp [ints]; omega)
      obtain ⟨b', o', rfl⟩ := hy.addr (by simp [ints]; omega)
      have hgx := hx.get hl (j := i) (u := .int .i64 (x.getD i 0)) (by rw [ints, List.getElem?_map, List.getD, List.getElem?_eq_getElem hi]; rfl)
      have hgy := hy.get hl (j := i) (u := .int .i64 (y.getD i 0)) (by rw [ints, List.getElem?_map, List.getD, List.getElem?_eq_getElem (by omega)]; rfl)
      by_cases he : x.getD i 0 = y.getD i 0
      · have e3 : decide (¬ x.getD i 0 = y.getD i 0) = false := decide_eq_false (by omega)
        simp -dsimp -implicitDefEqProofs (disch := first | omega | assumption | (simp only [Option.isSome_some, Qt0]; done) | (simp only [UInt64.reduceToNat, UInt32.reduceToNat, UInt8.reduceToNat, List.length_cons, List.length_nil, List.length_append, Int.toNat_natCast] <;> omega) | fail) only [Nat.reduceLT, Nat.reduceLeDiff, Nat.reduceEqDiff, ↓reduceIte, Int.reduceLT, Int.reduceLE, Int.reduceToNat, Int.reduceEq, Int.reduceNe, Nat.reduceAdd, UInt8.reduceOfNat, UInt16.reduceOfNat, UInt32.reduceOfNat, UInt64.reduceOfNat, UInt64.reduceToNat, UInt32.reduceToNat, UInt16.reduceToNat, UInt8.reduceToNat, Int.reduceAdd, Int.reduceSub, Int.reduceMul, Nat.reduceMul, Qp0, Qp1, Ql0, Qe0, f0, f1, f5, e2]
        refine PW_drawn 9 _ (by kernel_rfl) (by kernel_rfl) (by kernel_rfl) (by kernel_rfl) (by kernel_rfl) (fun c f h hq => by simp only [thenC_panic, thenK_panic, inBlk_panic, thenN_panic, vcRet_panic] at hq) (PH.Le.refl _).sub ?_
        simp -dsimp -implicitDefEqProofs (disch := first | omega | assumption | (simp only [Option.isSome_some, Qt0]; done) | (simp only [UInt64.reduceToNat, UInt32.reduceToNat, UInt8.reduceToNat, List.length_cons, List.length_nil, List.length_append, Int.toNat_natCast] <;> omega) | fail) only [Nat.reduceLT, Nat.reduceLeDiff, Nat.reduceEqDiff, ↓reduceIte, Int.reduceLT, Int.reduceLE, Int.reduceToNat, Int.reduceEq, Int.reduceNe, Nat.reduceAdd, UInt8.reduceOfNat, UInt16.reduceOfNat, UInt32.reduceOfNat, UInt64.reduceOfNat, UInt64.reduceToNat, UInt32.reduceToNat, UInt16.reduceToNat, UInt8.reduceToNat, Int.reduceAdd, Int.reduceSub, Int.reduceMul, Nat.reduceMul, Qp0, Qp1, Ql0, Qe0, f0, f1, f5, rd_M, hgx, hgy, e3]
        refine ⟨n - 1, _, by omega, PH.Le.refl _, i + 1, by omega, by trivial, by trivial, by simp, fun j hj => ?_, rfl⟩
        by_cases hji : j = i
        · subst hji; exact he
        · exact hall j (by omega)
      · have e3 : decide (¬ x.getD i 0 = y.getD i 0) = true := decide_eq_true (by omega)
        have hne : decide (x = y) = false := decide_eq_false fun e => he (by rw [e])
        rw [hne]
        simp -dsimp -implicitDefEqProofs (disch := first | omega | assumption | (simp only [Option.isSome_some, Qt0]; done) | (simp only [UInt64.reduceToNat, UInt32.reduceToNat, UInt8.reduceToNat, List.length_cons, List.length_nil, List.length_append, Int.toNat_natCast] <;> omega) | fail) only [Nat.reduceLT, Nat.reduceLeDiff, Nat.reduceEqDiff, ↓reduceIte, Int.reduceLT, Int.reduceLE, Int.reduceToNat, Int.reduceEq, Int.reduceNe, Nat.reduceAdd, UInt8.reduceOfNat, UInt16.reduceOfNat, UInt32.reduceOfNat, UInt64.reduceOfNat, UInt64.reduceToNat, UInt32.reduceToNat, UInt16.reduceToNat, UInt8.reduceToNat, Int.reduceAdd, Int.reduceSub, Int.reduceMul, Nat.reduceMul, Qp0, Qp1, Ql0, Qe0, f0, f1, f5, e2]
        refine PW_drawn 9 _ (by kernel_rfl) (by kernel_rfl) (by kernel_rfl) (by kernel_rfl) (by kernel_rfl) (fun c f h hq => by simp only [thenC_panic, thenK_panic, inBlk_panic, thenN_panic, vcRet_panic] at hq) (PH.Le.refl _).sub ?_
        simp -dsimp -implicitDefEqProofs (disch := first | omega | assumption | (simp only [Option.isSome_some, Qt0]; done) | (simp only [UInt64.reduceToNat, UInt32.reduceToNat, UInt8.reduceToNat, List.length_cons, List.length_nil, List.length_append, Int.toNat_natCast] <;> omega) | fail) only [Nat.reduceLT, Nat.reduceLeDiff, Nat.reduceEqDiff, ↓reduceIte, Int.reduceLT, Int.reduceLE, Int.reduceToNat, Int.reduceEq, Int.reduceNe, Nat.reduceAdd, UInt8.reduceOfNat, UInt16.reduceOfNat, UInt32.reduceOfNat, UInt64.reduceOfNat, UInt64.reduceToNat, UInt32.reduceToNat, UInt16.reduceToNat, UInt8.reduceToNat, Int.reduceAdd, Int.reduceSub, Int.reduceMul, Nat.reduceMul, Qp0, Qp1, Ql0, Qe0, f0, f1, f5, rd_M, hgx, hgy, e3]
        exact ⟨_, PH.Le.refl _, by first | rfl | trivial, rfl⟩
    · have e2 : decide ((i : Int) < (x.length : Int)) = false := decide_eq_false (by omega)
      have heq : decide (x = y) = true := decide_eq_true (List.ext_getElem hlen fun j h1 h2 => by
        have := hall j (by omega)
        rwa [List.getD, List.getD, List.getElem?_eq_getElem h1, List.getElem?_eq_getElem h2] at this)
      rw [heq]
      simp -dsimp -implicitDefEqProofs (disch := first | omega | assumption | (simp only [Option.isSome_some, Qt0]; done) | (simp only [UInt64.reduceToNat, UInt32.reduceToNat, UInt8.reduceToNat, List.length_cons, List.length_nil, List.length_append, Int.toNat_natCast] <;> omega) | fail) only [Nat.reduceLT, Nat.reduceLeDiff, Nat.reduceEqDiff, ↓reduceIte, Int.reduceLT, Int.reduceLE, Int.reduceToNat, Int.reduceEq, Int.reduceNe, Nat.reduceAdd, UInt8.reduceOfNat, UInt16.reduceOfNat, UInt32.reduceOfNat, UInt64.reduceOfNat, UInt64.reduceToNat, UInt32.reduceToNat, UInt16.reduceToNat, UInt8.reduceToNat, Int.reduceAdd, Int.reduceSub, Int.reduceMul, Nat.reduceMul, Qp0, Qp1, Ql0, Qe0, f0, f1, f5, e2]
      exact ⟨_, PH.Le.refl _, by first | rfl | trivial, rfl⟩
  · have e1 : decide (¬ (x.length : Int) = (y.length : Int)) = true := decide_eq_true (by omega)
    have hne : decide (x = y) = false := decide_eq_false fun e => hlen (by rw [e])
    rw [hne]
    simp -dsimp -implicitDefEqProofs (disch := first | omega | assumption | (simp only [Option.isSome_some, Qt0]; done) | (simp only [UInt64.reduceToNat, UInt32.reduceToNat, UInt8.reduceToNat, List.length_cons, List.length_nil, List.length_append, Int.toNat_natCast] <;> omega) | fail) only [Nat.reduceLT, Nat.reduceLeDiff, Nat.reduceEqDiff, ↓reduceIte, Int.reduceLT, Int.reduceLE, Int.reduceToNat, Int.reduceEq, Int.reduceNe, Nat.reduceAdd, UInt8.reduceOfNat, UInt16.reduceOfNat, UInt32.reduceOfNat, UInt64.reduceOfNat, UInt64.reduceToNat, UInt32.reduceToNat, UInt16.reduceToNat, UInt8.reduceToNat, Int.reduceAdd, Int.reduceSub, Int.reduceMul, Nat.reduceMul, Qp0, Qp1, Ql0, Qe0, e1]
    exact ⟨_, PH.Le.refl _, by first | rfl | trivial, rfl⟩
end Go.Proofs.Ytdhgmifgjaedbaa


/- Claims, writes and vectors: which are alike. No condition. -/
namespace Go.Proofs.Ytdhgmifgjaedbaa
set_option linter.unusedVariables false
set_option linter.unusedSimpArgs false
open Go.RowKit Px Wr
theorem y_eqlStamp (x y : Operand) (a b c d : Int) {K : Value → Prop} : Yld Try.prog (binS .eql 50 x y (.agg #[.int .i64 a, .int .i64 b]) (.agg #[.int .i64 c, .int .i64 d])) K = K (.bool (decide (a = c) && decide (b = d))) := Yld_eq fun w => by
  have hu : Try.prog.underlying 50 = some (.struct (Try.prog.fieldsOf 50)) := by kernel_rfl
  have hg : (eqGuard .eql 50 x y (.agg #[.int .i64 a, .int .i64 b]) (.agg #[.int .i64 c, .int .i64 d])).run Try.prog w = .ok () w := run_eqGuard_agg w _ _ x y _ _ (by kernel_rfl)
  have he : (binOp .eql 50 (.agg #[.int .i64 a, .int .i64 b]) (.agg #[.int .i64 c, .int .i64 d])).run Try.prog w = .ok (.bool (decide (a = c) && decide (b = d))) w := by
    rw [run_eql_struct, run_equalIn_agg w 9999 _ _ _ hu (by kernel_rfl)]
    have p0 : ∀ u v : Int, (part 3 #[.int .i64 u, .int .i64 v] 0).run Try.prog w = .ok (.int .i64 u) w := fun u v => by
      simp [part, isAgg, run_underlying (w := w) Try.underlying3, sizeOf]
    have p1 : ∀ u v : Int, (part 3 #[.int .i64 u, .int .i64 v] 1).run Try.prog w = .ok (.int .i64 v) w := fun u v => by
      simp [part, isAgg, run_underlying (w := w) Try.underlying3, sizeOf]
    simp only [Program.fieldsOf, Try.underlying50, Op.eqFields]
    by_cases e1 : a = c
    · subst e1
      by_cases e2 : b = d
      · subst e2; simp [Sem.run_pure, p0, p1, Result.andThen_ok, run_equalIn_int w 9998 3 .i64 .i64 _ _ Try.underlying3, Op.eqFields]
      · simp [Sem.run_pure, p0, p1, Result.andThen_ok, run_equalIn_int w 9998 3 .i64 .i64 _ _ Try.underlying3, Op.eqFields, e2]
    · simp [Sem.run_pure, p0, p1, Result.andThen_ok, run_equalIn_int w 9998 3 .i64 .i64 _ _ Try.underlying3, Op.eqFields, e1]
  unfold binS
  simp only [Sem.run_bind, hg, Result.andThen_ok, he]
def sameW (a b : Wt) : Bool := decide (a.r = b.r) && decide (a.n = b.n) && (decide (a.t = b.t) && decide (a.q = b.q)) && decide (a.d = b.d) && decide (a.s = b.s) && decide (a.k = b.k) && decide (a.v = b.v) && (a.g == b.g) && decide (a.l = b.l)
theorem sameW_iff {a b : Wt} : sameW a b = true ↔ a = b := by
  unfold sameW
  simp only [Bool.and_eq_true, decide_eq_true_eq, beq_iff_eq]
  constructor
  · intro h
    obtain ⟨⟨⟨⟨⟨⟨⟨⟨h1, h2⟩, ⟨h3, h4⟩⟩, h5⟩, h6⟩, h7⟩, h8⟩, h9⟩, h10⟩ := h
    exact Wt.ext' h1 h2 h3 h4 h5 h6 h7 h8 h9 h10
  · rintro rfl; simp
set_option maxRecDepth 20000 in
set_option maxHeartbeats 4000000 in
theorem sameW_any (w0 : World) (h : PH) (a b : Wt) (A B : Option Addr) (c d : Nat) (hx : Rv w0 h A (ints a.d)) (hy : Rv w0 h B (ints b.d)) (hc : a.d.length ≤ c) (hd : b.d.length ≤ d) (hm : a.d.length ≤ 1000000) : PCalls Try.prog w0 61 [.agg (wtL a A c).toArray, .agg (wtL b B d).toArray] h fun r h' => r = .bool (sameW a b) ∧ h' = h := by
  refine PCalls_body Try.func61 (by kernel_rfl) rfl _ Try.ntmps61 (by kernel_rfl) (by kernel_rfl) _ Try.results61 ?_
  unfold wtL
  simp -dsimp -implicitDefEqProofs (disch := first | omega | assumption | (simp only [Option.isSome_some, Qt0]; done) | (simp only [UInt64.reduceToNat, UInt32.reduceToNat, UInt8.reduceToNat, List.length_cons, List.length_nil, List.length_append, Int.toNat_natCast] <;> omega) | fail) only [Nat.reduceLT, Nat.reduceLeDiff, Nat.reduceEqDiff, ↓reduceIte, Int.reduceLT, Int.reduceLE, Int.reduceToNat, Int.reduceEq, Int.reduceNe, Nat.reduceAdd, UInt8.reduceOfNat, UInt16.reduceOfNat, UInt32.reduceOfNat, UInt64.reduceOfNat, UInt64.reduceToNat, UInt32.reduceToNat, UInt16.reduceToNat, UInt8.reduceToNat, Int.reduceAdd, Int.reduceSub, Int.reduceMul, Nat.reduceMul, Qp0, Qp1, Ql0, Qe0]
  refine fun p1 hp1 => ?_
  have hle1 := (PH.Le.refl h).new p1 ⟨[.int .i64 a.r, .int .i64 a.n, .int .i64 a.t, .int .i64 a.q, .slice A a.d.length c, str a.s, str a.k, str a.v, .bool a.g, .int .i64 a.l], 10⟩ hp1
  have hq1 : (h.new p1 ⟨[.int .i64 a.r, .int .i64 a.n, .int .i64 a.t, .int .i64 a.q, .slice A a.d.length c, str a.s, str a.k, str a.v, .bool a.g, .int .i64 a.l], 10⟩).m p1 = some ⟨[.int .i64 a.r, .int .i64 a.n, .int .i64 a.t, .int .i64 a.q, .slice A a.d.length c, str a.s, str a.k, str a.v, .bool a.g, .int .i64 a.l], 10⟩ := by rw [PH.new_m, if_pos rfl]
  simp -dsimp -implicitDefEqProofs (disch := first | omega | assumption | (simp only [Option.isSome_some, Qt0]; done) | (simp only [UInt64.reduceToNat, UInt32.reduceToNat, UInt8.reduceToNat, List.length_cons, List.length_nil, List.length_append, Int.toNat_natCast] <;> omega) | fail) only [Nat.reduceLT, Nat.reduceLeDiff, Nat.reduceEqDiff, ↓reduceIte, Int.reduceLT, Int.reduceLE, Int.reduceToNat, Int.reduceEq, Int.reduceNe, Nat.reduceAdd, UInt8.reduceOfNat, UInt16.reduceOfNat, UInt32.reduceOfNat, UInt64.reduceOfNat, UInt64.reduceToNat, UInt32.reduceToNat, UInt16.reduceToNat, UInt8.reduceToNat, Int.reduceAdd, Int.reduceSub, Int.reduceMul, Nat.reduceMul, Qp0, Qp1, Ql0, Qe0]
  generalize h.new p1 ⟨[.int .i64 a.r, .int .i64 a.n, .int .i64 a.t, .int .i64 a.q, .slice A a.d.length c, str a.s, str a.k, str a.v, .bool a.g, .int .i64 a.l], 10⟩ = h1 at *
  refine fun p2 hp2 => ?_
  have hle2 := hle1.new p2 ⟨[.int .i64 b.r, .int .i64 b.n, .int .i64 b.t, .int .i64 b.q, .slice B b.d.length d, str b.s, str b.k, str b.v, .bool b.g, .int .i64 b.l], 10⟩ (Nat.le_trans hle1.top hp2)
  have hq2 : (h1.new p2 ⟨[.int .i64 b.r, .int .i64 b.n, .int .i64 b.t, .int .i64 b.q, .slice B b.d.length d, str b.s, str b.k, str b.v, .bool b.g, .int .i64 b.l], 10⟩).m p2 = some ⟨[.int .i64 b.r, .int .i64 b.n, .int .i64 b.t, .int .i64 b.q, .slice B b.d.length d, str b.s, str b.k, str b.v, .bool b.g, .int .i64 b.l], 10⟩ := by rw [PH.new_m, if_pos rfl]
  have hq3 := ((PH.Le.refl h1).new p2 ⟨[.int .i64 b.r, .int .i64 b.n, .int .i64 b.t, .int .i64 b.q, .slice B b.d.length d, str b.s, str b.k, str b.v, .bool b.g, .int .i64 b.l], 10⟩ hp2).m _ _ hq1
  simp -dsimp -implicitDefEqProofs (disch := first | omega | assumption | (simp only [Option.isSome_some, Qt0]; done) | (simp only [UInt64.reduceToNat, UInt32.reduceToNat, UInt8.reduceToNat, List.length_cons, List.length_nil, List.length_append, Int.toNat_natCast] <;> omega) | fail) only [Nat.reduceLT, Nat.reduceLeDiff, Nat.reduceEqDiff, ↓reduceIte, Int.reduceLT, Int.reduceLE, Int.reduceToNat, Int.reduceEq, Int.reduceNe, Nat.reduceAdd, UInt8.reduceOfNat, UInt16.reduceOfNat, UInt32.reduceOfNat, UInt64.reduceOfNat, UInt64.reduceToNat, UInt32.reduceToNat, UInt16.reduceToNat, UInt8.reduceToNat, Int.reduceAdd, Int.reduceSub, Int.reduceMul, Nat.reduceMul, Qp0, Qp1, Ql0, Qe0]
  generalize h1.new p2 ⟨[.int .i64 b.r, .int .i64 b.n, .int .i64 b.t, .int .i64 b.q, .slice B b.d.length d, str b.s, str b.k, str b.v, .bool b.g, .int .i64 b.l], 10⟩ = h2 at *
  have hV := sameV_any w0 h2 A B c d a.d b.d (hx.more hle2) (hy.more hle2) hc hd hm
  unfold sameW
  obtain ⟨b1, hb1⟩ : ∃ z, decide (a.r = b.r) = z := ⟨_, rfl⟩
  obtain ⟨b2, hb2⟩ : ∃ z, decide (a.n = b.n) = z := ⟨_, rfl⟩
  obtain ⟨b3, hb3⟩ : ∃ z, decide (a.t = b.t) = z := ⟨_, rfl⟩
  obtain ⟨b4, hb4⟩ : ∃ z, decide (a.q = b.q) = z := ⟨_, rfl⟩
  obtain ⟨b6, hb6⟩ : ∃ z, decide (a.s = b.s) = z := ⟨_, rfl⟩
  obtain ⟨b7, hb7⟩ : ∃ z, decide (a.k = b.k) = z := ⟨_, rfl⟩
  obtain ⟨b8, hb8⟩ : ∃ z, decide (a.v = b.v) = z := ⟨_, rfl⟩
  obtain ⟨b9, hb9⟩ : ∃ z, (a.g == b.g) = z := ⟨_, rfl⟩
  obtain ⟨b10, hb10⟩ : ∃ z, decide (a.l = b.l) = z := ⟨_, rfl⟩
  rw [hb1, hb2, hb3, hb4, hb6, hb7, hb8, hb9, hb10]
  generalize decide (a.d = b.d) = b5 at *
  have hV := Lib.hid hV
  have hs1 : rdN w0 h2 ⟨p1, 2, none⟩ 2 = some [.int .i64 a.t, .int .i64 a.q] := by unfold rdN; simp only [hq3]; rfl
  have hs2 : rdN w0 h2 ⟨p2, 2, none⟩ 2 = some [.int .i64 b.t, .int .i64 b.q] := by unfold rdN; simp only [hq2]; rfl
  cases b1; rotate_left
  cases b2; rotate_left
  cases b3; rotate_left
  cases b4; rotate_left
  cases b5; rotate_left
  cases b6; rotate_left
  cases b7; rotate_left
  cases b8; rotate_left
  cases b9; rotate_left
  all_goals
    simp -dsimp -implicitDefEqProofs (disch := first | omega | assumption | (simp only [Option.isSome_some, Qt0]; done) | (simp only [UInt64.reduceToNat, UInt32.reduceToNat, UInt8.reduceToNat, List.length_cons, List.length_nil, List.length_append, Int.toNat_natCast] <;> omega) | fail) only [Nat.reduceLT, Nat.reduceLeDiff, Nat.reduceEqDiff, ↓reduceIte, Int.reduceLT, Int.reduceLE, Int.reduceToNat, Int.reduceEq, Int.reduceNe, Nat.reduceAdd, UInt8.reduceOfNat, UInt16.reduceOfNat, UInt32.reduceOfNat, UInt64.reduceOfNat, UInt64.reduceToNat, UInt32.reduceToNat, UInt16.reduceToNat, UInt8.reduceToNat, Int.reduceAdd, Int.reduceSub, Int.reduceMul, Nat.reduceMul, Qp0, Qp1, Ql0, Qe0, hb1, hb2, hb3, hb4, hb6, hb7, hb8, hb9, hb10, hs1, hs2, rd_M, rdM_some, hq2, hq3, y_eqlStamp]
    repeat
      first | refine hV.out.mono ?_
      rintro v hq ⟨rfl, hz⟩
      obtain rfl := hz.symm
      simp -dsimp -implicitDefEqProofs (disch := first | omega | assumption | (simp only [Option.isSome_some, Qt0]; done) | (simp only [UInt64.reduceToNat, UInt32.reduceToNat, UInt8.reduceToNat, List.length_cons, List.length_nil, List.length_append, Int.toNat_natCast] <;> omega) | fail) only [Nat.reduceLT, Nat.reduceLeDiff, Nat.reduceEqDiff, ↓reduceIte, Int.reduceLT, Int.reduceLE, Int.reduceToNat, Int.reduceEq, Int.reduceNe, Nat.reduceAdd, UInt8.reduceOfNat, UInt16.reduceOfNat, UInt32.reduceOfNat, UInt64.reduceOfNat, UInt64.reduceToNat, UInt32.reduceToNat, UInt16.reduceToNat, UInt8.reduceToNat, Int.reduceAdd, Int.reduceSub, Int.reduceMul, Nat.reduceMul, Qp0, Qp1, Ql0, Qe0, hb1, hb2, hb3, hb4, hb6, hb7, hb8, hb9, hb10, hs1, hs2, rd_M, rdM_some, hq2, hq3, y_eqlStamp]
    exact ⟨_, hle2, by first | rfl | trivial | (simp; done), rfl⟩
end Go.Proofs.Ytdhgmifgjaedbaa


/- What a writer has behind it: the plain law of one thing. No condition. -/
namespace Go.Proofs.Ytdhgmifgjaedbaa
set_option linter.unusedVariables false
set_option linter.unusedSimpArgs false
open Go.RowKit Px Wr
theorem allOne_of (l : List Value) (h : (l.all fun v => v.oneCell') = true) : allOne l := fun v hv => List.all_eq_true.1 h v hv
def textB (y : List UInt8) : List UInt8 := numB y.length ++ y
theorem putM_ok (l y : List UInt8) (h : l.length + y.length ≤ 65536) : putM (l, none) y = (l ++ y, none) := by
  unfold putM; rw [if_neg (by simp), if_neg (by simp only; omega)]
theorem numM_ok (l : List UInt8) (n : Int) (h0 : 0 ≤ n) (h1 : n ≤ 1099511627776) (h : l.length ≤ 60000) : numM (l, none) n = (l ++ numB n.toNat, none) := by
  unfold numM
  have := numB_len9 (n := n.toNat) (by omega)
  rw [if_neg (by simp), if_neg (by omega), putM_ok _ _ (by omega)]
theorem textM_ok (l y : List UInt8) (h1 : y.length ≤ 1000) (h : l.length ≤ 60000) : textM (l, none) y = (l ++ textB y, none) := by
  unfold textM textB
  have := numB_len9 (n := y.length) (by omega)
  rw [putM_ok _ _ (by simp; omega)]
theorem flagM_ok (l : List UInt8) (b : Bool) (h : l.length ≤ 60000) : flagM (l, none) b = (l ++ flagB b, none) := by
  unfold flagM flagB
  cases b
  · exact numM_ok l 0 (by omega) (by omega) h
  · exact numM_ok l 1 (by omega) (by omega) h
theorem trim_up {v : List Int} {a b : Int} (h : trim v a = true) (hab : a ≤ b) : trim v b = true := by
  rw [trim_iff] at h ⊢
  exact ⟨h.1, h.2.1, fun j hj => by have := h.2.2 j hj; omega⟩
theorem vecB_len {v : List Int} (h : trim v 1099511627776 = true) : (vecB v).length ≤ 160 := by
  unfold vecB
  have h1 := trim_len h
  have h2 := numB_len9 (n := v.length) (by omega)
  have h3 := flat_len_le v (fun n hn => by have := trim_all h n hn; omega)
  simp only [List.length_append]; omega
theorem vecM_ok (l : List UInt8) (v : List Int) (h1 : trim v 1099511627776 = true) (h : l.length ≤ 60000) : vecM (l, none) v = (l ++ vecB v, none) := by
  unfold vecM
  have := vecB_len h1
  rw [if_neg (by simp), if_pos (trim_up h1 (by omega)), putM_ok _ _ (by omega)]
theorem OS.init {h : PH} {ob : Nat} (hb : h.top ≤ ob) : OS h (h.new ob ⟨[.slice none 0 0, .nilIface], 2⟩) ob ([], none) :=
  ⟨(PH.Le.refl h).new _ _ hb, PH.none_of hb, by simp, none, 0, .nilIface, by rw [PH.new_m, if_pos rfl]; rfl, Own.nil _ 1, (fun a e => by cases e), rfl⟩
end Go.Proofs.Ytdhgmifgjaedbaa


/- The bytes of claims and of writes: what Encode does. No condition. -/
namespace Go.Proofs.Ytdhgmifgjaedbaa
set_option linter.unusedVariables false
set_option linter.unusedSimpArgs false
open Go.RowKit Px Wr
def bytesC (c : Cl) : List UInt8 := textB c.s ++ (textB c.u ++ (numB c.e.toNat ++ (numB c.i.toNat ++ (numB c.k.toNat ++ vecB c.x))))
def bytesW (c : Wt) : List UInt8 := numB c.r.toNat ++ (numB c.n.toNat ++ (numB c.t.toNat ++ (vecB c.d ++ (textB c.s ++ (textB c.k ++ (flagB c.g ++ (textB c.v ++ numB c.l.toNat)))))))
theorem inB_iff {n m : Int} : inB n m = true ↔ m ≤ n ∧ n ≤ 1099511627776 := by unfold inB; simp
theorem rightC_iff {c : Cl} : rightC c = true ↔ 1 ≤ c.s.length ∧ c.s.length ≤ 64 ∧ 1 ≤ c.u.length ∧ c.u.length ≤ 32 ∧ (0 ≤ c.e ∧ c.e ≤ 1099511627776) ∧ (0 ≤ c.i ∧ c.i ≤ 1099511627776) ∧ (0 ≤ c.k ∧ c.k ≤ 1099511627776) ∧ trim c.x 1099511627776 = true := by
  unfold rightC
  simp only [Bool.and_eq_true, decide_eq_true_eq, inB_iff, and_assoc]
  refine and_congr (by omega) (and_congr (by omega) (and_congr (by omega) (and_congr (by omega) Iff.rfl)))
theorem rightW_iff {c : Wt} : rightW c = true ↔ 1 ≤ c.r ∧ c.r ≤ 16 ∧ (1 ≤ c.n ∧ c.n ≤ 1099511627776) ∧ c.q = c.r ∧ (1 ≤ c.t ∧ c.t ≤ 1099511627776) ∧ trim c.d 1099511627776 = true ∧ 1 ≤ c.s.length ∧ c.s.length ≤ 64 ∧ c.k.length ≤ 32 ∧ c.v.length ≤ 128 ∧ (c.g = false ∨ c.v = []) ∧ (0 ≤ c.l ∧ c.l ≤ 1099511627776) := by
  unfold rightW
  simp only [Bool.and_eq_true, Bool.or_eq_true, Bool.not_eq_true', decide_eq_true_eq, inB_iff, and_assoc]
  constructor <;> (rintro ⟨a1, a2, a3, a4, a5, a6, a7, a8, a9, a10, a11, a12, a13, a14, a15⟩; exact ⟨by omega, by omega, a3, a4, a5, a6, a7, a8, by omega, by omega, by omega, by omega, a13, a14, a15⟩)
theorem textB_len {y : List UInt8} {k : Nat} (h : y.length ≤ k) (hk : k ≤ 1000) : (textB y).length ≤ k + 9 := by
  unfold textB; have := numB_len9 (n := y.length) (by omega); simp; omega
theorem flagB_len (b : Bool) : (flagB b).length ≤ 9 := by unfold flagB; exact numB_len9 (by split <;> omega)
theorem encW_chain {c : Wt} (h : rightW c = true) : numM (textM (flagM (textM (textM (vecM (numM (numM (numM ([], none) c.r) c.n) c.t) c.d) c.s) c.k) c.g) c.v) c.l = (bytesW c, none) := by
  obtain ⟨h1, h2, ⟨h3, h4⟩, h5, ⟨h6, h7⟩, h8, h9, h10, h11, h12, _, ⟨h13, h14⟩⟩ := rightW_iff.1 h
  have l1 := numB_len9 (n := c.r.toNat) (by omega)
  have l2 := numB_len9 (n := c.n.toNat) (by omega)
  have l3 := numB_len9 (n := c.t.toNat) (by omega)
  have l4 := vecB_len h8
  have l5 := textB_len h10 (by omega)
  have l6 := textB_len h11 (by omega)
  have l7 := textB_len h12 (by omega)
  have l8 := flagB_len c.g
  rw [numM_ok _ _ (by omega) (by omega) (by simp), numM_ok _ _ (by omega) h4 (by simp; omega), numM_ok _ _ (by omega) h7 (by simp; omega), vecM_ok _ _ h8 (by simp; omega), textM_ok _ _ (by omega) (by simp; omega), textM_ok _ _ (by omega) (by simp; omega), flagM_ok _ _ (by simp; omega), textM_ok _ _ (by omega) (by simp; omega), numM_ok _ _ h13 h14 (by simp; omega)]
  unfold bytesW
  simp only [List.nil_append, List.append_assoc]
/-- What Encode tells. -/
def ENC (h : PH) (ok : Bool) (b : List UInt8) (v : Value) : Prop := if ok = true then v = .tuple #[str b, .nilIface] else ∃ ev, v = .tuple #[str [], ev] ∧ EV h (.wrap wireT 0 (.code 1)) ev
set_option maxRecDepth 20000 in
set_option maxHeartbeats 4000000 in
theorem encW_any (w0 : World) (h : PH) (c : Wt) (A : Option Addr) (cap : Nat) (hr : Rv w0 h A (ints c.d)) (hc : c.d.length ≤ cap) (hx : c.d.length ≤ 1000000) : PCalls Try.prog w0 20 [.agg (wtL c A cap).toArray] h fun r h' => ENC h' (rightW c) (bytesW c) r ∧ PH.Le h h' := by
  refine PCalls_body Try.func20 (by kernel_rfl) rfl _ Try.ntmps20 (by kernel_rfl) (by kernel_rfl) _ Try.results20 ?_
  unfold wtL
  simp -dsimp -implicitDefEqProofs (disch := first | omega | assumption | (simp only [Option.isSome_some, Qt0]; done) | (simp only [UInt64.reduceToNat, UInt32.reduceToNat, UInt8.reduceToNat, List.length_cons, List.length_nil, List.length_append, Int.toNat_natCast] <;> omega) | fail) only [Nat.reduceLT, Nat.reduceLeDiff, Nat.reduceEqDiff, ↓reduceIte, Int.reduceLT, Int.reduceLE, Int.reduceToNat, Int.reduceEq, Int.reduceNe, Nat.reduceAdd, UInt8.reduceOfNat, UInt16.reduceOfNat, UInt32.reduceOfNat, UInt64.reduceOfNat, UInt64.reduceToNat, UInt32.reduceToNat, UInt16.reduceToNat, UInt8.reduceToNat, Int.reduceAdd, Int.reduceSub, Int.reduceMul, Nat.reduceMul, Qp0, Qp1, Ql0, Qe0]
  refine fun pb hpb => ?_
  have hle := (PH.Le.refl h).new pb ⟨[.int .i64 c.r, .int .i64 c.n, .int .i64 c.t, .int .i64 c.q, .slice A c.d.length cap, str c.s, str c.k, str c.v, .bool c.g, .int .i64 c.l], 10⟩ hpb
  have hp : (h.new pb ⟨[.int .i64 c.r, .int .i64 c.n, .int .i64 c.t, .int .i64 c.q, .slice A c.d.length cap, str c.s, str c.k, str c.v, .bool c.g, .int .i64 c.l], 10⟩).m pb = some ⟨[.int .i64 c.r, .int .i64 c.n, .int .i64 c.t, .int .i64 c.q, .slice A c.d.length cap, str c.s, str c.k, str c.v, .bool c.g, .int .i64 c.l], 10⟩ := by rw [PH.new_m, if_pos rfl]
  have hr1 := hr.more hle
  simp -dsimp -implicitDefEqProofs (disch := first | omega | assumption | (simp only [Option.isSome_some, Qt0]; done) | (simp only [UInt64.reduceToNat, UInt32.reduceToNat, UInt8.reduceToNat, List.length_cons, List.length_nil, List.length_append, Int.toNat_natCast] <;> omega) | fail) only [Nat.reduceLT, Nat.reduceLeDiff, Nat.reduceEqDiff, ↓reduceIte, Int.reduceLT, Int.reduceLE, Int.reduceToNat, Int.reduceEq, Int.reduceNe, Nat.reduceAdd, UInt8.reduceOfNat, UInt16.reduceOfNat, UInt32.reduceOfNat, UInt64.reduceOfNat, UInt64.reduceToNat, UInt32.reduceToNat, UInt16.reduceToNat, UInt8.reduceToNat, Int.reduceAdd, Int.reduceSub, Int.reduceMul, Nat.reduceMul, Qp0, Qp1, Ql0, Qe0]
  generalize h.new pb ⟨[.int .i64 c.r, .int .i64 c.n, .int .i64 c.t, .int .i64 c.q, .slice A c.d.length cap, str c.s, str c.k, str c.v, .bool c.g, .int .i64 c.l], 10⟩ = h1 at *
  have hs0 : rdN w0 h1 ⟨pb, 0, none⟩ 10 = some [.int .i64 c.r, .int .i64 c.n, .int .i64 c.t, .int .i64 c.q, .slice A c.d.length cap, str c.s, str c.k, str c.v, .bool c.g, .int .i64 c.l] := by unfold rdN; simp only [hp]; rfl
  have hR := rightW_any w0 h1 c A cap hr1 hc hx
  unfold wtL at hR
  cases hb : rightW c with
  | false =>
    rw [hb] at hR
    have hR := Lib.hid hR
    simp -dsimp -implicitDefEqProofs (disch := first | omega | assumption | (simp only [Option.isSome_some, Qt0]; done) | (simp only [UInt64.reduceToNat, UInt32.reduceToNat, UInt8.reduceToNat, List.length_cons, List.length_nil, List.length_append, Int.toNat_natCast] <;> omega) | fail) only [Nat.reduceLT, Nat.reduceLeDiff, Nat.reduceEqDiff, ↓reduceIte, Int.reduceLT, Int.reduceLE, Int.reduceToNat, Int.reduceEq, Int.reduceNe, Nat.reduceAdd, UInt8.reduceOfNat, UInt16.reduceOfNat, UInt32.reduceOfNat, UInt64.reduceOfNat, UInt64.reduceToNat, UInt32.reduceToNat, UInt16.reduceToNat, UInt8.reduceToNat, Int.reduceAdd, Int.reduceSub, Int.reduceMul, Nat.reduceMul, Qp0, Qp1, Ql0, Qe0, hs0]
    refine hR.out.mono ?_
    rintro v hq ⟨rfl, hz⟩
    obtain rfl := hz.symm
    simp -dsimp -implicitDefEqProofs (disch := first | omega | assumption | (simp only [Option.isSome_some, Qt0]; done) | (simp only [UInt64.reduceToNat, UInt32.reduceToNat, UInt8.reduceToNat, List.length_cons, List.length_nil, List.length_append, Int.toNat_natCast] <;> omega) | fail) only [Nat.reduceLT, Nat.reduceLeDiff, Nat.reduceEqDiff, ↓reduceIte, Int.reduceLT, Int.reduceLE, Int.reduceToNat, Int.reduceEq, Int.reduceNe, Nat.reduceAdd, UInt8.reduceOfNat, UInt16.reduceOfNat, UInt32.reduceOfNat, UInt64.reduceOfNat, UInt64.reduceToNat, UInt32.reduceToNat, UInt16.reduceToNat, UInt8.reduceToNat, Int.reduceAdd, Int.reduceSub, Int.reduceMul, Nat.reduceMul, Qp0, Qp1, Ql0, Qe0]
    refine (at_any wireT _ _ _ w0 _).mono ?_
    rintro v hq ⟨be, rfl, hbe, rfl⟩
    unfold errV
    simp -dsimp -implicitDefEqProofs (disch := first | omega | assumption | (simp only [Option.isSome_some, Qt0]; done) | (simp only [UInt64.reduceToNat, UInt32.reduceToNat, UInt8.reduceToNat, List.length_cons, List.length_nil, List.length_append, Int.toNat_natCast] <;> omega) | fail) only [Nat.reduceLT, Nat.reduceLeDiff, Nat.reduceEqDiff, ↓reduceIte, Int.reduceLT, Int.reduceLE, Int.reduceToNat, Int.reduceEq, Int.reduceNe, Nat.reduceAdd, UInt8.reduceOfNat, UInt16.reduceOfNat, UInt32.reduceOfNat, UInt64.reduceOfNat, UInt64.reduceToNat, UInt32.reduceToNat, UInt16.reduceToNat, UInt8.reduceToNat, Int.reduceAdd, Int.reduceSub, Int.reduceMul, Nat.reduceMul, Qp0, Qp1, Ql0, Qe0]
    refine ⟨_, PH.Le.refl _, ?_, hle.trans ((PH.Le.refl _).new _ _ hbe)⟩
    unfold ENC
    rw [if_neg (by simp)]
    exact ⟨_, rfl, be, _, rfl, by rw [PH.new_m, if_pos rfl]; rfl, rfl⟩
  | true =>
    rw [hb] at hR
    have hR := Lib.hid hR
    have hch := encW_chain hb
    have hri := rightW_iff.1 hb
    simp -dsimp -implicitDefEqProofs (disch := first | omega | assumption | (simp only [Option.isSome_some, Qt0]; done) | (simp only [UInt64.reduceToNat, UInt32.reduceToNat, UInt8.reduceToNat, List.length_cons, List.length_nil, List.length_append, Int.toNat_natCast] <;> omega) | fail) only [Nat.reduceLT, Nat.reduceLeDiff, Nat.reduceEqDiff, ↓reduceIte, Int.reduceLT, Int.reduceLE, Int.reduceToNat, Int.reduceEq, Int.reduceNe, Nat.reduceAdd, UInt8.reduceOfNat, UInt16.reduceOfNat, UInt32.reduceOfNat, UInt64.reduceOfNat, UInt64.reduceToNat, UInt32.reduceToNat, UInt16.reduceToNat, UInt8.reduceToNat, Int.reduceAdd, Int.reduceSub, Int.reduceMul, Nat.reduceMul, Qp0, Qp1, Ql0, Qe0, hs0]
    refine hR.out.mono ?_
    rintro v hq ⟨rfl, hz⟩
    obtain rfl := hz.symm
    simp -dsimp -implicitDefEqProofs (disch := first | omega | assumption | (simp only [Option.isSome_some, Qt0]; done) | (simp only [UInt64.reduceToNat, UInt32.reduceToNat, UInt8.reduceToNat, List.length_cons, List.length_nil, List.length_append, Int.toNat_natCast] <;> omega) | fail) only [Nat.reduceLT, Nat.reduceLeDiff, Nat.reduceEqDiff, ↓reduceIte, Int.reduceLT, Int.reduceLE, Int.reduceToNat, Int.reduceEq, Int.reduceNe, Nat.reduceAdd, UInt8.reduceOfNat, UInt16.reduceOfNat, UInt32.reduceOfNat, UInt64.reduceOfNat, UInt64.reduceToNat, UInt32.reduceToNat, UInt16.reduceToNat, UInt8.reduceToNat, Int.reduceAdd, Int.reduceSub, Int.reduceMul, Nat.reduceMul, Qp0, Qp1, Ql0, Qe0]
    refine fun ob hob => ?_
    have hs := OS.init hob
    have hp1 := hs.le.m _ _ hp
    simp -dsimp -implicitDefEqProofs (disch := first | omega | assumption | (simp only [Option.isSome_some, Qt0]; done) | (simp only [UInt64.reduceToNat, UInt32.reduceToNat, UInt8.reduceToNat, List.length_cons, List.length_nil, List.length_append, Int.toNat_natCast] <;> omega) | fail) only [Nat.reduceLT, Nat.reduceLeDiff, Nat.reduceEqDiff, ↓reduceIte, Int.reduceLT, Int.reduceLE, Int.reduceToNat, Int.reduceEq, Int.reduceNe, Nat.reduceAdd, UInt8.reduceOfNat, UInt16.reduceOfNat, UInt32.reduceOfNat, UInt64.reduceOfNat, UInt64.reduceToNat, UInt32.reduceToNat, UInt16.reduceToNat, UInt8.reduceToNat, Int.reduceAdd, Int.reduceSub, Int.reduceMul, Nat.reduceMul, Qp0, Qp1, Ql0, Qe0]
    generalize h1.new ob ⟨[.slice none 0 0, .nilIface], 2⟩ = h2 at *
    simp -dsimp -implicitDefEqProofs (disch := first | omega | assumption | (simp only [Option.isSome_some, Qt0]; done) | (simp only [UInt64.reduceToNat, UInt32.reduceToNat, UInt8.reduceToNat, List.length_cons, List.length_nil, List.length_append, Int.toNat_natCast] <;> omega) | fail) only [Nat.reduceLT, Nat.reduceLeDiff, Nat.reduceEqDiff, ↓reduceIte, Int.reduceLT, Int.reduceLE, Int.reduceToNat, Int.reduceEq, Int.reduceNe, Nat.reduceAdd, UInt8.reduceOfNat, UInt16.reduceOfNat, UInt32.reduceOfNat, UInt64.reduceOfNat, UInt64.reduceToNat, UInt32.reduceToNat, UInt16.reduceToNat, UInt8.reduceToNat, Int.reduceAdd, Int.reduceSub, Int.reduceMul, Nat.reduceMul, Qp0, Qp1, Ql0, Qe0, rd_M, rdM_some, hp1]
    refine (num_any h1 ob _ w0 _ hs c.r (by omega)).mono ?_
    intro v q hs
    have hp1 := hs.le.m _ _ hp
    simp -dsimp -implicitDefEqProofs (disch := first | omega | assumption | (simp only [Option.isSome_some, Qt0]; done) | (simp only [UInt64.reduceToNat, UInt32.reduceToNat, UInt8.reduceToNat, List.length_cons, List.length_nil, List.length_append, Int.toNat_natCast] <;> omega) | fail) only [Nat.reduceLT, Nat.reduceLeDiff, Nat.reduceEqDiff, ↓reduceIte, Int.reduceLT, Int.reduceLE, Int.reduceToNat, Int.reduceEq, Int.reduceNe, Nat.reduceAdd, UInt8.reduceOfNat, UInt16.reduceOfNat, UInt32.reduceOfNat, UInt64.reduceOfNat, UInt64.reduceToNat, UInt32.reduceToNat, UInt16.reduceToNat, UInt8.reduceToNat, Int.reduceAdd, Int.reduceSub, Int.reduceMul, Nat.reduceMul, Qp0, Qp1, Ql0, Qe0, rd_M, rdM_some, hp1]
    refine (num_any h1 ob _ w0 _ hs c.n (by omega)).mono ?_
    intro v q hs
    have hp1 := hs.le.m _ _ hp
    simp -dsimp -implicitDefEqProofs (disch := first | omega | assumption | (simp only [Option.isSome_some, Qt0]; done) | (simp only [UInt64.reduceToNat, UInt32.reduceToNat, UInt8.reduceToNat, List.length_cons, List.length_nil, List.length_append, Int.toNat_natCast] <;> omega) | fail) only [Nat.reduceLT, Nat.reduceLeDiff, Nat.reduceEqDiff, ↓reduceIte, Int.reduceLT, Int.reduceLE, Int.reduceToNat, Int.reduceEq, Int.reduceNe, Nat.reduceAdd, UInt8.reduceOfNat, UInt16.reduceOfNat, UInt32.reduceOfNat, UInt64.reduceOfNat, UInt64.reduceToNat, UInt32.reduceToNat, UInt16.reduceToNat, UInt8.reduceToNat, Int.reduceAdd, Int.reduceSub, Int.reduceMul, Nat.reduceMul, Qp0, Qp1, Ql0, Qe0, rd_M, rdM_some, hp1]
    refine (num_any h1 ob _ w0 _ hs c.t (by omega)).mono ?_
    intro v q hs
    have hp1 := hs.le.m _ _ hp
    simp -dsimp -implicitDefEqProofs (disch := first | omega | assumption | (simp only [Option.isSome_some, Qt0]; done) | (simp only [UInt64.reduceToNat, UInt32.reduceToNat, UInt8.reduceToNat, List.length_cons, List.length_nil, List.length_append, Int.toNat_natCast] <;> omega) | fail) only [Nat.reduceLT, Nat.reduceLeDiff, Nat.reduceEqDiff, ↓reduceIte, Int.reduceLT, Int.reduceLE, Int.reduceToNat, Int.reduceEq, Int.reduceNe, Nat.reduceAdd, UInt8.reduceOfNat, UInt16.reduceOfNat, UInt32.reduceOfNat, UInt64.reduceOfNat, UInt64.reduceToNat, UInt32.reduceToNat, UInt16.reduceToNat, UInt8.reduceToNat, Int.reduceAdd, Int.reduceSub, Int.reduceMul, Nat.reduceMul, Qp0, Qp1, Ql0, Qe0, rd_M, rdM_some, hp1]
    refine (wvec_any h1 ob _ w0 _ hs A cap c.d (hr1.more hs.le) hc hx).mono ?_
    intro v q hs
    have hp1 := hs.le.m _ _ hp
    simp -dsimp -implicitDefEqProofs (disch := first | omega | assumption | (simp only [Option.isSome_some, Qt0]; done) | (simp only [UInt64.reduceToNat, UInt32.reduceToNat, UInt8.reduceToNat, List.length_cons, List.length_nil, List.length_append, Int.toNat_natCast] <;> omega) | fail) only [Nat.reduceLT, Nat.reduceLeDiff, Nat.reduceEqDiff, ↓reduceIte, Int.reduceLT, Int.reduceLE, Int.reduceToNat, Int.reduceEq, Int.reduceNe, Nat.reduceAdd, UInt8.reduceOfNat, UInt16.reduceOfNat, UInt32.reduceOfNat, UInt64.reduceOfNat, UInt64.reduceToNat, UInt32.reduceToNat, UInt16.reduceToNat, UInt8.reduceToNat, Int.reduceAdd, Int.reduceSub, Int.reduceMul, Nat.reduceMul, Qp0, Qp1, Ql0, Qe0, rd_M, rdM_some, hp1]
    refine (wtext_any h1 ob _ w0 _ hs c.s (by omega)).mono ?_
    intro v q hs
    have hp1 := hs.le.m _ _ hp
    simp -dsimp -implicitDefEqProofs (disch := first | omega | assumption | (simp only [Option.isSome_some, Qt0]; done) | (simp only [UInt64.reduceToNat, UInt32.reduceToNat, UInt8.reduceToNat, List.length_cons, List.length_nil, List.length_append, Int.toNat_natCast] <;> omega) | fail) only [Nat.reduceLT, Nat.reduceLeDiff, Nat.reduceEqDiff, ↓reduceIte, Int.reduceLT, Int.reduceLE, Int.reduceToNat, Int.reduceEq, Int.reduceNe, Nat.reduceAdd, UInt8.reduceOfNat, UInt16.reduceOfNat, UInt32.reduceOfNat, UInt64.reduceOfNat, UInt64.reduceToNat, UInt32.reduceToNat, UInt16.reduceToNat, UInt8.reduceToNat, Int.reduceAdd, Int.reduceSub, Int.reduceMul, Nat.reduceMul, Qp0, Qp1, Ql0, Qe0, rd_M, rdM_some, hp1]
    refine (wtext_any h1 ob _ w0 _ hs c.k (by omega)).mono ?_
    intro v q hs
    have hp1 := hs.le.m _ _ hp
    simp -dsimp -implicitDefEqProofs (disch := first | omega | assumption | (simp only [Option.isSome_some, Qt0]; done) | (simp only [UInt64.reduceToNat, UInt32.reduceToNat, UInt8.reduceToNat, List.length_cons, List.length_nil, List.length_append, Int.toNat_natCast] <;> omega) | fail) only [Nat.reduceLT, Nat.reduceLeDiff, Nat.reduceEqDiff, ↓reduceIte, Int.reduceLT, Int.reduceLE, Int.reduceToNat, Int.reduceEq, Int.reduceNe, Nat.reduceAdd, UInt8.reduceOfNat, UInt16.reduceOfNat, UInt32.reduceOfNat, UInt64.reduceOfNat, UInt64.reduceToNat, UInt32.reduceToNat, UInt16.reduceToNat, UInt8.reduceToNat, Int.reduceAdd, Int.reduceSub, Int.reduceMul, Nat.reduceMul, Qp0, Qp1, Ql0, Qe0, rd_M, rdM_some, hp1]
    refine (wflag_any h1 ob _ w0 _ hs c.g).mono ?_
    intro v q hs
    have hp1 := hs.le.m _ _ hp
    simp -dsimp -implicitDefEqProofs (disch := first | omega | assumption | (simp only [Option.isSome_some, Qt0]; done) | (simp only [UInt64.reduceToNat, UInt32.reduceToNat, UInt8.reduceToNat, List.length_cons, List.length_nil, List.length_append, Int.toNat_natCast] <;> omega) | fail) only [Nat.reduceLT, Nat.reduceLeDiff, Nat.reduceEqDiff, ↓reduceIte, Int.reduceLT, Int.reduceLE, Int.reduceToNat, Int.reduceEq, Int.reduceNe, Nat.reduceAdd, UInt8.reduceOfNat, UInt16.reduceOfNat, UInt32.reduceOfNat, UInt64.reduceOfNat, UInt64.reduceToNat, UInt32.reduceToNat, UInt16.reduceToNat, UInt8.reduceToNat, Int.reduceAdd, Int.reduceSub, Int.reduceMul, Nat.reduceMul, Qp0, Qp1, Ql0, Qe0, rd_M, rdM_some, hp1]
    refine (wtext_any h1 ob _ w0 _ hs c.v (by omega)).mono ?_
    intro v q hs
    have hp1 := hs.le.m _ _ hp
    simp -dsimp -implicitDefEqProofs (disch := first | omega | assumption | (simp only [Option.isSome_some, Qt0]; done) | (simp only [UInt64.reduceToNat, UInt32.reduceToNat, UInt8.reduceToNat, List.length_cons, List.length_nil, List.length_append, Int.toNat_natCast] <;> omega) | fail) only [Nat.reduceLT, Nat.reduceLeDiff, Nat.reduceEqDiff, ↓reduceIte, Int.reduceLT, Int.reduceLE, Int.reduceToNat, Int.reduceEq, Int.reduceNe, Nat.reduceAdd, UInt8.reduceOfNat, UInt16.reduceOfNat, UInt32.reduceOfNat, UInt64.reduceOfNat, UInt64.reduceToNat, UInt32.reduceToNat, UInt16.reduceToNat, UInt8.reduceToNat, Int.reduceAdd, Int.reduceSub, Int.reduceMul, Nat.reduceMul, Qp0, Qp1, Ql0, Qe0, rd_M, rdM_some, hp1]
    refine (num_any h1 ob _ w0 _ hs c.l (by omega)).mono ?_
    intro v q hs
    have hp1 := hs.le.m _ _ hp
    simp -dsimp -implicitDefEqProofs (disch := first | omega | assumption | (simp only [Option.isSome_some, Qt0]; done) | (simp only [UInt64.reduceToNat, UInt32.reduceToNat, UInt8.reduceToNat, List.length_cons, List.length_nil, List.length_append, Int.toNat_natCast] <;> omega) | fail) only [Nat.reduceLT, Nat.reduceLeDiff, Nat.reduceEqDiff, ↓reduceIte, Int.reduceLT, Int.reduceLE, Int.reduceToNat, Int.reduceEq, Int.reduceNe, Nat.reduceAdd, UInt8.reduceOfNat, UInt16.reduceOfNat, UInt32.reduceOfNat, UInt64.reduceOfNat, UInt64.reduceToNat, UInt32.reduceToNat, UInt16.reduceToNat, UInt8.reduceToNat, Int.reduceAdd, Int.reduceSub, Int.reduceMul, Nat.reduceMul, Qp0, Qp1, Ql0, Qe0, rd_M, rdM_some, hp1]
    refine (done_any h1 ob _ w0 _ hs).mono ?_
    rintro v q2 ⟨hd, hz⟩
    obtain rfl := hz.symm
    rw [hch] at hd
    obtain rfl : v = .tuple #[str (bytesW c), .nilIface] := hd
    simp -dsimp -implicitDefEqProofs (disch := first | omega | assumption | (simp only [Option.isSome_some, Qt0]; done) | (simp only [UInt64.reduceToNat, UInt32.reduceToNat, UInt8.reduceToNat, List.length_cons, List.length_nil, List.length_append, Int.toNat_natCast] <;> omega) | fail) only [Nat.reduceLT, Nat.reduceLeDiff, Nat.reduceEqDiff, ↓reduceIte, Int.reduceLT, Int.reduceLE, Int.reduceToNat, Int.reduceEq, Int.reduceNe, Nat.reduceAdd, UInt8.reduceOfNat, UInt16.reduceOfNat, UInt32.reduceOfNat, UInt64.reduceOfNat, UInt64.reduceToNat, UInt32.reduceToNat, UInt16.reduceToNat, UInt8.reduceToNat, Int.reduceAdd, Int.reduceSub, Int.reduceMul, Nat.reduceMul, Qp0, Qp1, Ql0, Qe0]
    exact ⟨_, PH.Le.refl _, rfl, hle.trans hs.le⟩
end Go.Proofs.Ytdhgmifgjaedbaa


/- The document's bytes: Number, Bytes, Written. No condition. -/
namespace Go.Proofs.Ytdhgmifgjaedbaa
set_option linter.unusedVariables false
set_option linter.unusedSimpArgs false
open Go.RowKit Px Wr
/-- An item: its kind; a number, a text, a flag, a vector. -/
structure It where
  K : Int
  N : Int
  S : List UInt8
  B : Bool
  V : List Int
def itL (x : It) (A : Option Addr) (cap : Nat) : List Value := [.int .i64 x.K, .int .i64 x.N, str x.S, .bool x.B, .slice A x.V.length cap]
def bytesI (x : It) : Option (List UInt8) := if x.K = 1 then some (textB x.S) else if x.K = 2 then some (flagB x.B) else if x.K = 3 then (if trim x.V 4611686018427387903 = true then some (vecB x.V) else none) else if x.N < 0 ∨ 4611686018427387903 < x.N then none else some (numB x.N.toNat)
def stepI (s : WS) (x : It) : WS := if s.2.isSome = true then s else match bytesI x with
  | none => (s.1, some (1, s.1.length))
  | some b => putM s b
def itemM (s : WS) (x : It) : WS := if x.K = 1 then textM s x.S else if x.K = 2 then flagM s x.B else if x.K = 3 then vecM s x.V else numM s x.N
theorem itemM_eq (s : WS) (x : It) : itemM s x = stepI s x := by
  unfold itemM stepI
  cases hs : s.2.isSome with
  | true =>
    unfold textM flagM vecM numM
    simp only [putM_bad hs, hs, if_true, ite_self]
  | false =>
    simp only [Bool.false_eq_true, if_false]
    unfold bytesI
    by_cases h1 : x.K = 1
    · rw [if_pos h1, if_pos h1]; rfl
    rw [if_neg h1, if_neg h1]
    by_cases h2 : x.K = 2
    · rw [if_pos h2, if_pos h2]
      unfold flagM numM flagB
      rw [hs, if_neg (by simp), if_neg (by split <;> omega)]
      cases x.B <;> rfl
    rw [if_neg h2, if_neg h2]
    by_cases h3 : x.K = 3
    · rw [if_pos h3, if_pos h3]
      unfold vecM
      rw [hs, if_neg (by simp)]
      by_cases h4 : trim x.V 4611686018427387903 = true
      · rw [if_pos h4, if_pos h4]
      · rw [if_neg h4, if_neg h4]
    rw [if_neg h3, if_neg h3]
    unfold numM
    rw [hs, if_neg (by simp)]
    by_cases h5 : x.N < 0 ∨ 4611686018427387903 < x.N
    · rw [if_pos h5, if_pos h5]
    · rw [if_neg h5, if_neg h5]
def writtenM (L : List It) : WS := L.foldl stepI ([], none)
theorem foldl_bad : ∀ (L : List It) (s : WS), s.2.isSome = true → L.foldl stepI s = s
  | [], s, h => rfl
  | x :: L, s, h => by
    have : stepI s x = s := by unfold stepI; rw [if_pos h]
    rw [List.foldl_cons, this, foldl_bad L s h]
theorem writtenM_next {L : List It} {i : Nat} {x : It} (h : L[i]? = some x) : (L.take (i + 1)).foldl stepI ([], none) = stepI ((L.take i).foldl stepI ([], none)) x := by
  rw [List.take_add_one, h]
  simp
theorem writtenM_bad {L : List It} {i : Nat} {s : WS} (h : (L.take i).foldl stepI ([], none) = s) (hs : s.2.isSome = true) : writtenM L = s := by
  unfold writtenM
  conv => lhs; rw [← List.take_append_drop i L, List.foldl_append, h]
  exact foldl_bad _ _ hs
theorem byte_add (m : Nat) : UInt8.ofInt ((m : Int) % 128 + 128) = UInt8.ofNat (m % 128 + 128) := by
  have : (m : Int) % 128 + 128 = ((m % 128 + 128 : Nat) : Int) := by omega
  rw [this]
  generalize m % 128 + 128 = k
  apply UInt8.toNat_inj.1
  simp [UInt8.ofInt]; omega
set_option maxRecDepth 20000 in
set_option maxHeartbeats 1000000 in
theorem rnumber_any (n : Nat) (hn : n ≤ 9223372036854775807) (w0 : World) (h : PH) : PCalls Try.prog w0 72 [.int .i64 n] h fun r h' => r = str (numB n) ∧ h' = h := by
  refine PCalls_body Try.func72 (by kernel_rfl) rfl _ Try.ntmps72 (by kernel_rfl) (by kernel_rfl) _ Try.results72 ?_
  simp -dsimp -implicitDefEqProofs (disch := first | omega | assumption | (simp only [Option.isSome_some, Qt0]; done) | (simp only [UInt64.reduceToNat, UInt32.reduceToNat, UInt8.reduceToNat, List.length_cons, List.length_nil, List.length_append, Int.toNat_natCast] <;> omega) | fail) only [Nat.reduceLT, Nat.reduceLeDiff, Nat.reduceEqDiff, ↓reduceIte, Int.reduceLT, Int.reduceLE, Int.reduceToNat, Int.reduceEq, Int.reduceNe, Nat.reduceAdd, UInt8.reduceOfNat, UInt16.reduceOfNat, UInt32.reduceOfNat, UInt64.reduceOfNat, UInt64.reduceToNat, UInt32.reduceToNat, UInt16.reduceToNat, UInt8.reduceToNat, Int.reduceAdd, Int.reduceSub, Int.reduceMul, Nat.reduceMul, Qp0, Qp1, Ql0, Qe0]
  refine PW_loop (fun m f h' => ∃ l' : List UInt8, f 0 = some (.int .i64 m) ∧ f 3 = some (str l') ∧ m ≤ n ∧ l' ++ numB m = numB n ∧ PH.Le h h') (by kernel_rfl) n ⟨[], ?_, ?_, Nat.le_refl _, by simp, PH.Le.refl _⟩ ?_
  · simp -dsimp -implicitDefEqProofs (disch := first | omega | assumption | (simp only [Option.isSome_some, Qt0]; done) | (simp only [UInt64.reduceToNat, UInt32.reduceToNat, UInt8.reduceToNat, List.length_cons, List.length_nil, List.length_append, Int.toNat_natCast] <;> omega) | fail) only [Nat.reduceLT, Nat.reduceLeDiff, Nat.reduceEqDiff, ↓reduceIte, Int.reduceLT, Int.reduceLE, Int.reduceToNat, Int.reduceEq, Int.reduceNe, Nat.reduceAdd, UInt8.reduceOfNat, UInt16.reduceOfNat, UInt32.reduceOfNat, UInt64.reduceOfNat, UInt64.reduceToNat, UInt32.reduceToNat, UInt16.reduceToNat, UInt8.reduceToNat, Int.reduceAdd, Int.reduceSub, Int.reduceMul, Nat.reduceMul, Qp0, Qp1, Ql0, Qe0]
  · simp -dsimp -implicitDefEqProofs (disch := first | omega | assumption | (simp only [Option.isSome_some, Qt0]; done) | (simp only [UInt64.reduceToNat, UInt32.reduceToNat, UInt8.reduceToNat, List.length_cons, List.length_nil, List.length_append, Int.toNat_natCast] <;> omega) | fail) only [Nat.reduceLT, Nat.reduceLeDiff, Nat.reduceEqDiff, ↓reduceIte, Int.reduceLT, Int.reduceLE, Int.reduceToNat, Int.reduceEq, Int.reduceNe, Nat.reduceAdd, UInt8.reduceOfNat, UInt16.reduceOfNat, UInt32.reduceOfNat, UInt64.reduceOfNat, UInt64.reduceToNat, UInt32.reduceToNat, UInt16.reduceToNat, UInt8.reduceToNat, Int.reduceAdd, Int.reduceSub, Int.reduceMul, Nat.reduceMul, Qp0, Qp1, Ql0, Qe0]
    try rfl
  rintro m f h' ⟨l', f0, f3, hm, hlm, hle⟩
  have hll := congrArg List.length hlm
  simp only [List.length_append] at hll
  have hp := numB_pos m
  have hnl := numB_len9 hn
  by_cases hs : m < 128
  · have e1 : decide ((m : Int) ≥ 128) = false := decide_eq_false (by omega)
    rw [← hlm, numB_small hs]
    have hb := byte_small hs
    simp -dsimp -implicitDefEqProofs (disch := first | omega | assumption | (simp only [Option.isSome_some, Qt0]; done) | (simp only [UInt64.reduceToNat, UInt32.reduceToNat, UInt8.reduceToNat, List.length_cons, List.length_nil, List.length_append, Int.toNat_natCast] <;> omega) | fail) only [Nat.reduceLT, Nat.reduceLeDiff, Nat.reduceEqDiff, ↓reduceIte, Int.reduceLT, Int.reduceLE, Int.reduceToNat, Int.reduceEq, Int.reduceNe, Nat.reduceAdd, UInt8.reduceOfNat, UInt16.reduceOfNat, UInt32.reduceOfNat, UInt64.reduceOfNat, UInt64.reduceToNat, UInt32.reduceToNat, UInt16.reduceToNat, UInt8.reduceToNat, Int.reduceAdd, Int.reduceSub, Int.reduceMul, Nat.reduceMul, Qp0, Qp1, Ql0, Qe0, f0, f3, e1]
    refine Does_one (v := u8 (UInt8.ofInt m)) el_u8 rfl (by omega) fun gb hgb => ?_
    simp -dsimp -implicitDefEqProofs (disch := first | omega | assumption | (simp only [Option.isSome_some, Qt0]; done) | (simp only [UInt64.reduceToNat, UInt32.reduceToNat, UInt8.reduceToNat, List.length_cons, List.length_nil, List.length_append, Int.toNat_natCast] <;> omega) | fail) only [Nat.reduceLT, Nat.reduceLeDiff, Nat.reduceEqDiff, ↓reduceIte, Int.reduceLT, Int.reduceLE, Int.reduceToNat, Int.reduceEq, Int.reduceNe, Nat.reduceAdd, UInt8.reduceOfNat, UInt16.reduceOfNat, UInt32.reduceOfNat, UInt64.reduceOfNat, UInt64.reduceToNat, UInt32.reduceToNat, UInt16.reduceToNat, UInt8.reduceToNat, Int.reduceAdd, Int.reduceSub, Int.reduceMul, Nat.reduceMul, Qp0, Qp1, Ql0, Qe0, f0, f3]
    refine vtext_own (l := [UInt8.ofNat m]) Try.underlying57 Try.underlying5 Try.underlying9 (Rs.blk (k := ⟨[u8 (UInt8.ofNat m)], 1⟩) (by rw [PH.new_m, if_pos rfl, hb]; rfl) rfl) (by simp) ?_
    simp -dsimp -implicitDefEqProofs (disch := first | omega | assumption | (simp only [Option.isSome_some, Qt0]; done) | (simp only [UInt64.reduceToNat, UInt32.reduceToNat, UInt8.reduceToNat, List.length_cons, List.length_nil, List.length_append, Int.toNat_natCast] <;> omega) | fail) only [Nat.reduceLT, Nat.reduceLeDiff, Nat.reduceEqDiff, ↓reduceIte, Int.reduceLT, Int.reduceLE, Int.reduceToNat, Int.reduceEq, Int.reduceNe, Nat.reduceAdd, UInt8.reduceOfNat, UInt16.reduceOfNat, UInt32.reduceOfNat, UInt64.reduceOfNat, UInt64.reduceToNat, UInt32.reduceToNat, UInt16.reduceToNat, UInt8.reduceToNat, Int.reduceAdd, Int.reduceSub, Int.reduceMul, Nat.reduceMul, Qp0, Qp1, Ql0, Qe0, f0, f3]
    exact ⟨_, hle.new _ _ (Nat.le_trans hle.top hgb), by first | rfl | trivial, rfl⟩
  · have e1 : decide ((m : Int) ≥ 128) = true := decide_eq_true (by omega)
    rw [numB_large hs] at hlm
    simp -dsimp -implicitDefEqProofs (disch := first | omega | assumption | (simp only [Option.isSome_some, Qt0]; done) | (simp only [UInt64.reduceToNat, UInt32.reduceToNat, UInt8.reduceToNat, List.length_cons, List.length_nil, List.length_append, Int.toNat_natCast] <;> omega) | fail) only [Nat.reduceLT, Nat.reduceLeDiff, Nat.reduceEqDiff, ↓reduceIte, Int.reduceLT, Int.reduceLE, Int.reduceToNat, Int.reduceEq, Int.reduceNe, Nat.reduceAdd, UInt8.reduceOfNat, UInt16.reduceOfNat, UInt32.reduceOfNat, UInt64.reduceOfNat, UInt64.reduceToNat, UInt32.reduceToNat, UInt16.reduceToNat, UInt8.reduceToNat, Int.reduceAdd, Int.reduceSub, Int.reduceMul, Nat.reduceMul, Qp0, Qp1, Ql0, Qe0, f0, f3, e1, byte_add]
    refine Does_one (v := u8 (UInt8.ofNat (m % 128 + 128))) el_u8 rfl (by omega) fun gb hgb => ?_
    simp -dsimp -implicitDefEqProofs (disch := first | omega | assumption | (simp only [Option.isSome_some, Qt0]; done) | (simp only [UInt64.reduceToNat, UInt32.reduceToNat, UInt8.reduceToNat, List.length_cons, List.length_nil, List.length_append, Int.toNat_natCast] <;> omega) | fail) only [Nat.reduceLT, Nat.reduceLeDiff, Nat.reduceEqDiff, ↓reduceIte, Int.reduceLT, Int.reduceLE, Int.reduceToNat, Int.reduceEq, Int.reduceNe, Nat.reduceAdd, UInt8.reduceOfNat, UInt16.reduceOfNat, UInt32.reduceOfNat, UInt64.reduceOfNat, UInt64.reduceToNat, UInt32.reduceToNat, UInt16.reduceToNat, UInt8.reduceToNat, Int.reduceAdd, Int.reduceSub, Int.reduceMul, Nat.reduceMul, Qp0, Qp1, Ql0, Qe0, f0, f3]
    refine vtext_own (l := [UInt8.ofNat (m % 128 + 128)]) Try.underlying57 Try.underlying5 Try.underlying9 (Rs.blk (k := ⟨[u8 (UInt8.ofNat (m % 128 + 128))], 1⟩) (by rw [PH.new_m, if_pos rfl]; rfl) rfl) (by simp) ?_
    have hd : ((m : Int) / 128) = ((m / 128 : Nat) : Int) := by omega
    simp -dsimp -implicitDefEqProofs (disch := first | omega | assumption | (simp only [Option.isSome_some, Qt0]; done) | (simp only [UInt64.reduceToNat, UInt32.reduceToNat, UInt8.reduceToNat, List.length_cons, List.length_nil, List.length_append, Int.toNat_natCast] <;> omega) | fail) only [Nat.reduceLT, Nat.reduceLeDiff, Nat.reduceEqDiff, ↓reduceIte, Int.reduceLT, Int.reduceLE, Int.reduceToNat, Int.reduceEq, Int.reduceNe, Nat.reduceAdd, UInt8.reduceOfNat, UInt16.reduceOfNat, UInt32.reduceOfNat, UInt64.reduceOfNat, UInt64.reduceToNat, UInt32.reduceToNat, UInt16.reduceToNat, UInt8.reduceToNat, Int.reduceAdd, Int.reduceSub, Int.reduceMul, Nat.reduceMul, Qp0, Qp1, Ql0, Qe0, f0, f3, hd]
    exact ⟨m / 128, _, by omega, PH.Le.refl _, _, by trivial, by trivial, by omega, by rw [← hlm]; simp, hle.new _ _ (Nat.le_trans hle.top hgb)⟩
end Go.Proofs.Ytdhgmifgjaedbaa

