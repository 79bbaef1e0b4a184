/- Parts Wr7, Wr8, Wdb, Wrb, Wrc, Wrd, Wdi, Wre, joined. No condition. -/
import Derived.Test.YtdlaoeepeakpeaaM5TkM
import Derived.Laws.StructEq
/- The document's reader: Text, Flag, Vec, Fault; Trimmed. No condition. -/
namespace Go.Proofs.Ytdlaoeepeakpeaa
set_option linter.unusedVariables false
set_option linter.unusedSimpArgs false
open Go.RowKit Px Wr
def Wr.St.fault (len : Nat) : St → Int
  | .ok [] => -1
  | .ok t => (len - t.length : Nat)
  | .bad p => p
section
variable (w0 : World) (h : PH) (ib : Nat) (s : List UInt8)
end
set_option maxRecDepth 20000 in
set_option maxHeartbeats 1000000 in
theorem rtrimmed_any (w0 : World) (h : PH) (hl : Low w0 h) (A : Option Addr) (c : Nat) (v : List Int) (m : Int) (hr : Rv w0 h A (ints v)) (hn : v.length ≤ c) (hv : v.length ≤ 9223372036854775807) : PCalls Try.prog w0 52 [.slice A v.length c, .int .i64 m] h fun r h' => r = .bool (trim v m) ∧ h' = h := by
  refine PCalls_body Try.func52 (by kernel_rfl) rfl _ Try.ntmps52 (by kernel_rfl) (by kernel_rfl) _ Try.results52 ?_
  by_cases h16 : v.length ≤ 16
  · have e1 : decide ((v.length : Int) > 16) = false := decide_eq_false (by omega)
    simp -dsimp -implicitDefEqProofs (disch := first | omega | assumption | (simp only [Option.isSome_some, Qt0]; done) | (simp only [UInt64.reduceToNat, UInt32.reduceToNat, UInt8.reduceToNat, List.length_cons, List.length_nil, List.length_append, Int.toNat_natCast] <;> omega)) only [Nat.reduceLT, Nat.reduceLeDiff, Nat.reduceEqDiff, ↓reduceIte, Int.reduceLT, Int.reduceLE, Int.reduceToNat, Int.reduceEq, Int.reduceNe, Nat.reduceAdd, UInt8.reduceOfNat, UInt16.reduceOfNat, UInt32.reduceOfNat, UInt64.reduceOfNat, UInt64.reduceToNat, UInt32.reduceToNat, UInt16.reduceToNat, UInt8.reduceToNat, Int.reduceAdd, Int.reduceSub, Int.reduceMul, Nat.reduceMul, Qp0, Ql0, Qe0, e1]
    refine PW_loop (fun n f h' => ∃ i : Nat, n + i = v.length ∧ f 0 = some (.slice A v.length c) ∧ f 1 = some (.int .i64 m) ∧ f 5 = some (.int .i64 i) ∧ (∀ j, j < i → 0 ≤ v.getD j 0 ∧ v.getD j 0 ≤ m) ∧ (i = v.length → v.getLast? ≠ some 0) ∧ h' = h) (by kernel_rfl) v.length ⟨0, by omega, ?_, ?_, ?_, fun j hj => by omega, fun e => by have : v = [] := List.eq_nil_of_length_eq_zero e.symm; rw [this]; simp, rfl⟩ ?_
    · simp -dsimp -implicitDefEqProofs (disch := first | omega | assumption | (simp only [Option.isSome_some, Qt0]; done) | (simp only [UInt64.reduceToNat, UInt32.reduceToNat, UInt8.reduceToNat, List.length_cons, List.length_nil, List.length_append, Int.toNat_natCast] <;> omega)) only [Nat.reduceLT, Nat.reduceLeDiff, Nat.reduceEqDiff, ↓reduceIte, Int.reduceLT, Int.reduceLE, Int.reduceToNat, Int.reduceEq, Int.reduceNe, Nat.reduceAdd, UInt8.reduceOfNat, UInt16.reduceOfNat, UInt32.reduceOfNat, UInt64.reduceOfNat, UInt64.reduceToNat, UInt32.reduceToNat, UInt16.reduceToNat, UInt8.reduceToNat, Int.reduceAdd, Int.reduceSub, Int.reduceMul, Nat.reduceMul, Qp0, Ql0, Qe0]
    · simp -dsimp -implicitDefEqProofs (disch := first | omega | assumption | (simp only [Option.isSome_some, Qt0]; done) | (simp only [UInt64.reduceToNat, UInt32.reduceToNat, UInt8.reduceToNat, List.length_cons, List.length_nil, List.length_append, Int.toNat_natCast] <;> omega)) only [Nat.reduceLT, Nat.reduceLeDiff, Nat.reduceEqDiff, ↓reduceIte, Int.reduceLT, Int.reduceLE, Int.reduceToNat, Int.reduceEq, Int.reduceNe, Nat.reduceAdd, UInt8.reduceOfNat, UInt16.reduceOfNat, UInt32.reduceOfNat, UInt64.reduceOfNat, UInt64.reduceToNat, UInt32.reduceToNat, UInt16.reduceToNat, UInt8.reduceToNat, Int.reduceAdd, Int.reduceSub, Int.reduceMul, Nat.reduceMul, Qp0, Ql0, Qe0]
    · simp -dsimp -implicitDefEqProofs (disch := first | omega | assumption | (simp only [Option.isSome_some, Qt0]; done) | (simp only [UInt64.reduceToNat, UInt32.reduceToNat, UInt8.reduceToNat, List.length_cons, List.length_nil, List.length_append, Int.toNat_natCast] <;> omega)) only [Nat.reduceLT, Nat.reduceLeDiff, Nat.reduceEqDiff, ↓reduceIte, Int.reduceLT, Int.reduceLE, Int.reduceToNat, Int.reduceEq, Int.reduceNe, Nat.reduceAdd, UInt8.reduceOfNat, UInt16.reduceOfNat, UInt32.reduceOfNat, UInt64.reduceOfNat, UInt64.reduceToNat, UInt32.reduceToNat, UInt16.reduceToNat, UInt8.reduceToNat, Int.reduceAdd, Int.reduceSub, Int.reduceMul, Nat.reduceMul, Qp0, Ql0, Qe0]
      try rfl
    rintro n f h' ⟨i, hni, f0, f1, f5, hall, hla, rfl⟩
    by_cases hi : i < v.length
    · have e2 : decide ((i : Int) < (v.length : Int)) = true := decide_eq_true (by omega)
      obtain ⟨b, o, rfl⟩ := hr.addr (by simp [ints]; omega)
      have hgi := hr.get hl (j := i) (u := .int .i64 (v.getD i 0)) (by rw [ints, List.getElem?_map, List.getD, List.getElem?_eq_getElem hi]; rfl)
      obtain ⟨b1, hb1⟩ : ∃ b, decide (v.getD i 0 < 0) = b := ⟨_, rfl⟩
      obtain ⟨b2, hb2⟩ : ∃ b, decide (v.getD i 0 > m) = b := ⟨_, rfl⟩
      obtain ⟨b3, hb3⟩ : ∃ b, decide ((i : Int) = (v.length : Int) - 1) = b := ⟨_, rfl⟩
      obtain ⟨b4, hb4⟩ : ∃ b, decide (v.getD i 0 = 0) = b := ⟨_, rfl⟩
      have hgl : i = v.length - 1 → v.getLast? = some (v.getD i 0) := fun e => by
        rw [List.getLast?_eq_getElem?, ← e, List.getD, List.getElem?_eq_getElem hi]; rfl
      have hno : (b1 || b2 || (b3 && b4)) = true → trim v m = false := fun hx => by
        rw [Bool.eq_false_iff]; intro e
        have h9 := trim_iff.1 e
        have h8 := h9.2.2 i hi
        rw [← hb1, ← hb2, ← hb3, ← hb4] at hx
        simp only [Bool.or_eq_true, Bool.and_eq_true, decide_eq_true_eq] at hx
        rcases hx with (hx | hx) | ⟨hx, hy⟩
        · omega
        · omega
        · exact h9.2.1 (by rw [hgl (by omega), hy])
      have hyes : (b1 || b2 || (b3 && b4)) = false → (∀ j, j < i + 1 → 0 ≤ v.getD j 0 ∧ v.getD j 0 ≤ m) ∧ (i + 1 = v.length → v.getLast? ≠ some 0) := fun hx => by
        rw [← hb1, ← hb2, ← hb3, ← hb4] at hx
        simp only [Bool.or_eq_false_iff, Bool.and_eq_false_iff, decide_eq_false_iff_not] at hx
        refine ⟨fun j hj => ?_, fun e => ?_⟩
        · by_cases hji : j = i
          · subst hji; omega
          · exact hall j (by omega)
        · rw [hgl (by omega)]
          intro e2
          injection e2 with e2
          omega
      cases b1; rotate_left
      · rw [hno rfl]
        simp -dsimp -implicitDefEqProofs (disch := first | omega | assumption | (simp only [Option.isSome_some, Qt0]; done) | (simp only [UInt64.reduceToNat, UInt32.reduceToNat, UInt8.reduceToNat, List.length_cons, List.length_nil, List.length_append, Int.toNat_natCast] <;> omega)) only [Nat.reduceLT, Nat.reduceLeDiff, Nat.reduceEqDiff, ↓reduceIte, Int.reduceLT, Int.reduceLE, Int.reduceToNat, Int.reduceEq, Int.reduceNe, Nat.reduceAdd, UInt8.reduceOfNat, UInt16.reduceOfNat, UInt32.reduceOfNat, UInt64.reduceOfNat, UInt64.reduceToNat, UInt32.reduceToNat, UInt16.reduceToNat, UInt8.reduceToNat, Int.reduceAdd, Int.reduceSub, Int.reduceMul, Nat.reduceMul, Qp0, Ql0, Qe0, f0, f1, f5, e2, rd_M, hgi, hb1]
        exact ⟨_, PH.Le.refl _, by first | rfl | trivial, rfl⟩
      cases b2; rotate_left
      · rw [hno rfl]
        simp -dsimp -implicitDefEqProofs (disch := first | omega | assumption | (simp only [Option.isSome_some, Qt0]; done) | (simp only [UInt64.reduceToNat, UInt32.reduceToNat, UInt8.reduceToNat, List.length_cons, List.length_nil, List.length_append, Int.toNat_natCast] <;> omega)) only [Nat.reduceLT, Nat.reduceLeDiff, Nat.reduceEqDiff, ↓reduceIte, Int.reduceLT, Int.reduceLE, Int.reduceToNat, Int.reduceEq, Int.reduceNe, Nat.reduceAdd, UInt8.reduceOfNat, UInt16.reduceOfNat, UInt32.reduceOfNat, UInt64.reduceOfNat, UInt64.reduceToNat, UInt32.reduceToNat, UInt16.reduceToNat, UInt8.reduceToNat, Int.reduceAdd, Int.reduceSub, Int.reduceMul, Nat.reduceMul, Qp0, Ql0, Qe0, f0, f1, f5, e2, rd_M, hgi, hb1, hb2]
        exact ⟨_, PH.Le.refl _, by first | rfl | trivial, rfl⟩
      cases b3
      · obtain ⟨y1, y2⟩ := hyes rfl
        simp -dsimp -implicitDefEqProofs (disch := first | omega | assumption | (simp only [Option.isSome_some, Qt0]; done) | (simp only [UInt64.reduceToNat, UInt32.reduceToNat, UInt8.reduceToNat, List.length_cons, List.length_nil, List.length_append, Int.toNat_natCast] <;> omega)) only [Nat.reduceLT, Nat.reduceLeDiff, Nat.reduceEqDiff, ↓reduceIte, Int.reduceLT, Int.reduceLE, Int.reduceToNat, Int.reduceEq, Int.reduceNe, Nat.reduceAdd, UInt8.reduceOfNat, UInt16.reduceOfNat, UInt32.reduceOfNat, UInt64.reduceOfNat, UInt64.reduceToNat, UInt32.reduceToNat, UInt16.reduceToNat, UInt8.reduceToNat, Int.reduceAdd, Int.reduceSub, Int.reduceMul, Nat.reduceMul, Qp0, Ql0, Qe0, f0, f1, f5, e2, rd_M, hgi, hb1, hb2, hb3]
        exact ⟨n - 1, _, by omega, PH.Le.refl _, i + 1, by omega, by trivial, by trivial, by simp, y1, y2, rfl⟩
      cases b4
      · obtain ⟨y1, y2⟩ := hyes rfl
        simp -dsimp -implicitDefEqProofs (disch := first | omega | assumption | (simp only [Option.isSome_some, Qt0]; done) | (simp only [UInt64.reduceToNat, UInt32.reduceToNat, UInt8.reduceToNat, List.length_cons, List.length_nil, List.length_append, Int.toNat_natCast] <;> omega)) only [Nat.reduceLT, Nat.reduceLeDiff, Nat.reduceEqDiff, ↓reduceIte, Int.reduceLT, Int.reduceLE, Int.reduceToNat, Int.reduceEq, Int.reduceNe, Nat.reduceAdd, UInt8.reduceOfNat, UInt16.reduceOfNat, UInt32.reduceOfNat, UInt64.reduceOfNat, UInt64.reduceToNat, UInt32.reduceToNat, UInt16.reduceToNat, UInt8.reduceToNat, Int.reduceAdd, Int.reduceSub, Int.reduceMul, Nat.reduceMul, Qp0, Ql0, Qe0, f0, f1, f5, e2, rd_M, hgi, hb1, hb2, hb3, hb4]
        exact ⟨n - 1, _, by omega, PH.Le.refl _, i + 1, by omega, by trivial, by trivial, by simp, y1, y2, rfl⟩
      · rw [hno rfl]
        simp -dsimp -implicitDefEqProofs (disch := first | omega | assumption | (simp only [Option.isSome_some, Qt0]; done) | (simp only [UInt64.reduceToNat, UInt32.reduceToNat, UInt8.reduceToNat, List.length_cons, List.length_nil, List.length_append, Int.toNat_natCast] <;> omega)) only [Nat.reduceLT, Nat.reduceLeDiff, Nat.reduceEqDiff, ↓reduceIte, Int.reduceLT, Int.reduceLE, Int.reduceToNat, Int.reduceEq, Int.reduceNe, Nat.reduceAdd, UInt8.reduceOfNat, UInt16.reduceOfNat, UInt32.reduceOfNat, UInt64.reduceOfNat, UInt64.reduceToNat, UInt32.reduceToNat, UInt16.reduceToNat, UInt8.reduceToNat, Int.reduceAdd, Int.reduceSub, Int.reduceMul, Nat.reduceMul, Qp0, Ql0, Qe0, f0, f1, f5, e2, rd_M, hgi, hb1, hb2, hb3, hb4]
        exact ⟨_, PH.Le.refl _, by first | rfl | trivial, rfl⟩
    · have e2 : decide ((i : Int) < (v.length : Int)) = false := decide_eq_false (by omega)
      rw [trim_iff.2 ⟨h16, hla (by omega), fun j hj => hall j (by omega)⟩]
      simp -dsimp -implicitDefEqProofs (disch := first | omega | assumption | (simp only [Option.isSome_some, Qt0]; done) | (simp only [UInt64.reduceToNat, UInt32.reduceToNat, UInt8.reduceToNat, List.length_cons, List.length_nil, List.length_append, Int.toNat_natCast] <;> omega)) only [Nat.reduceLT, Nat.reduceLeDiff, Nat.reduceEqDiff, ↓reduceIte, Int.reduceLT, Int.reduceLE, Int.reduceToNat, Int.reduceEq, Int.reduceNe, Nat.reduceAdd, UInt8.reduceOfNat, UInt16.reduceOfNat, UInt32.reduceOfNat, UInt64.reduceOfNat, UInt64.reduceToNat, UInt32.reduceToNat, UInt16.reduceToNat, UInt8.reduceToNat, Int.reduceAdd, Int.reduceSub, Int.reduceMul, Nat.reduceMul, Qp0, Ql0, Qe0, f0, f1, f5, e2]
      exact ⟨_, PH.Le.refl _, by first | rfl | trivial, rfl⟩
  · have e1 : decide ((v.length : Int) > 16) = true := decide_eq_true (by omega)
    have ht : trim v m = false := by unfold trim; simp [h16]
    rw [ht]
    simp -dsimp -implicitDefEqProofs (disch := first | omega | assumption | (simp only [Option.isSome_some, Qt0]; done) | (simp only [UInt64.reduceToNat, UInt32.reduceToNat, UInt8.reduceToNat, List.length_cons, List.length_nil, List.length_append, Int.toNat_natCast] <;> omega)) only [Nat.reduceLT, Nat.reduceLeDiff, Nat.reduceEqDiff, ↓reduceIte, Int.reduceLT, Int.reduceLE, Int.reduceToNat, Int.reduceEq, Int.reduceNe, Nat.reduceAdd, UInt8.reduceOfNat, UInt16.reduceOfNat, UInt32.reduceOfNat, UInt64.reduceOfNat, UInt64.reduceToNat, UInt32.reduceToNat, UInt16.reduceToNat, UInt8.reduceToNat, Int.reduceAdd, Int.reduceSub, Int.reduceMul, Nat.reduceMul, Qp0, Ql0, Qe0, e1]
    exact ⟨_, PH.Le.refl _, by trivial, rfl⟩
end Go.Proofs.Ytdlaoeepeakpeaa


/- Claims and writes: which are right, which are alike. No condition. -/
namespace Go.Proofs.Ytdlaoeepeakpeaa
set_option linter.unusedVariables false
set_option linter.unusedSimpArgs false
open Go.RowKit Px Wr
/-- Claims. -/
structure Cl where
  s : List UInt8
  u : List UInt8
  e : Int
  i : Int
  k : Int
  x : List Int
/-- A write: its region, number, time, the stamp's region, what it follows, session, key, value, gone, life. -/
structure Wt where
  r : Int
  n : Int
  t : Int
  q : Int
  d : List Int
  s : List UInt8
  k : List UInt8
  v : List UInt8
  g : Bool
  l : Int
theorem Cl.ext' {a b : Cl} (h1 : a.s = b.s) (h2 : a.u = b.u) (h3 : a.e = b.e) (h4 : a.i = b.i) (h5 : a.k = b.k) (h6 : a.x = b.x) : a = b := by
  cases a; cases b; simp_all
theorem Wt.ext' {a b : Wt} (h1 : a.r = b.r) (h2 : a.n = b.n) (h3 : a.t = b.t) (h4 : a.q = b.q) (h5 : a.d = b.d) (h6 : a.s = b.s) (h7 : a.k = b.k) (h8 : a.v = b.v) (h9 : a.g = b.g) (h10 : a.l = b.l) : a = b := by
  cases a; cases b; simp_all
def clL (c : Cl) (A : Option Addr) (cap : Nat) : List Value := [str c.s, str c.u, .int .i64 c.e, .int .i64 c.i, .int .i64 c.k, .slice A c.x.length cap]
def inB (n m : Int) : Bool := decide (n ≥ m) && decide (n ≤ 1099511627776)
def rightC (c : Cl) : Bool := decide ((c.s.length : Int) ≥ 1) && decide ((c.s.length : Int) ≤ 64) && decide ((c.u.length : Int) ≥ 1) && decide ((c.u.length : Int) ≤ 32) && inB c.e 0 && inB c.i 0 && inB c.k 0 && trim c.x 1099511627776
def rightW (c : Wt) : Bool := decide (c.r ≥ 1) && decide (c.r ≤ 16) && inB c.n 1 && decide (c.q = c.r) && inB c.t 1 && trim c.d 1099511627776 && decide ((c.s.length : Int) ≥ 1) && decide ((c.s.length : Int) ≤ 64) && decide ((c.k.length : Int) ≤ 32) && decide ((c.v.length : Int) ≤ 128) && (!c.g || decide (c.v = [])) && inB c.l 0
set_option maxRecDepth 20000 in
theorem in_any (n m : Int) (w0 : World) (h : PH) : PCalls Try.prog w0 66 [.int .i64 n, .int .i64 m] h fun r h' => r = .bool (inB n m) ∧ h' = h := by
  refine PCalls_body Try.func66 (by kernel_rfl) rfl _ Try.ntmps66 (by kernel_rfl) (by kernel_rfl) _ Try.results66 ?_
  unfold inB
  obtain ⟨b1, hb1⟩ : ∃ b, decide (n ≥ m) = b := ⟨_, rfl⟩
  rw [hb1]
  cases b1
  · simp -dsimp -implicitDefEqProofs (disch := first | omega | assumption | (simp only [Option.isSome_some, Qt0]; done) | (simp only [UInt64.reduceToNat, UInt32.reduceToNat, UInt8.reduceToNat, List.length_cons, List.length_nil, List.length_append, Int.toNat_natCast] <;> omega)) only [Nat.reduceLT, Nat.reduceLeDiff, Nat.reduceEqDiff, ↓reduceIte, Int.reduceLT, Int.reduceLE, Int.reduceToNat, Int.reduceEq, Int.reduceNe, Nat.reduceAdd, UInt8.reduceOfNat, UInt16.reduceOfNat, UInt32.reduceOfNat, UInt64.reduceOfNat, UInt64.reduceToNat, UInt32.reduceToNat, UInt16.reduceToNat, UInt8.reduceToNat, Int.reduceAdd, Int.reduceSub, Int.reduceMul, Nat.reduceMul, Qp0, Ql0, Qe0, hb1]
    exact ⟨_, PH.Le.refl _, by first | rfl | trivial, rfl⟩
  · simp -dsimp -implicitDefEqProofs (disch := first | omega | assumption | (simp only [Option.isSome_some, Qt0]; done) | (simp only [UInt64.reduceToNat, UInt32.reduceToNat, UInt8.reduceToNat, List.length_cons, List.length_nil, List.length_append, Int.toNat_natCast] <;> omega)) only [Nat.reduceLT, Nat.reduceLeDiff, Nat.reduceEqDiff, ↓reduceIte, Int.reduceLT, Int.reduceLE, Int.reduceToNat, Int.reduceEq, Int.reduceNe, Nat.reduceAdd, UInt8.reduceOfNat, UInt16.reduceOfNat, UInt32.reduceOfNat, UInt64.reduceOfNat, UInt64.reduceToNat, UInt32.reduceToNat, UInt16.reduceToNat, UInt8.reduceToNat, Int.reduceAdd, Int.reduceSub, Int.reduceMul, Nat.reduceMul, Qp0, Ql0, Qe0, hb1]
    exact ⟨_, PH.Le.refl _, by first | rfl | trivial, rfl⟩
set_option maxRecDepth 20000 in
theorem rin_any (n m : Int) (w0 : World) (h : PH) : PCalls Try.prog w0 51 [.int .i64 n, .int .i64 m] h fun r h' => r = .bool (inB n m) ∧ h' = h := by
  refine PCalls_body Try.func51 (by kernel_rfl) rfl _ Try.ntmps51 (by kernel_rfl) (by kernel_rfl) _ Try.results51 ?_
  unfold inB
  obtain ⟨b1, hb1⟩ : ∃ b, decide (n ≥ m) = b := ⟨_, rfl⟩
  rw [hb1]
  cases b1
  · simp -dsimp -implicitDefEqProofs (disch := first | omega | assumption | (simp only [Option.isSome_some, Qt0]; done) | (simp only [UInt64.reduceToNat, UInt32.reduceToNat, UInt8.reduceToNat, List.length_cons, List.length_nil, List.length_append, Int.toNat_natCast] <;> omega)) only [Nat.reduceLT, Nat.reduceLeDiff, Nat.reduceEqDiff, ↓reduceIte, Int.reduceLT, Int.reduceLE, Int.reduceToNat, Int.reduceEq, Int.reduceNe, Nat.reduceAdd, UInt8.reduceOfNat, UInt16.reduceOfNat, UInt32.reduceOfNat, UInt64.reduceOfNat, UInt64.reduceToNat, UInt32.reduceToNat, UInt16.reduceToNat, UInt8.reduceToNat, Int.reduceAdd, Int.reduceSub, Int.reduceMul, Nat.reduceMul, Qp0, Ql0, Qe0, hb1]
    exact ⟨_, PH.Le.refl _, by first | rfl | trivial, rfl⟩
  · simp -dsimp -implicitDefEqProofs (disch := first | omega | assumption | (simp only [Option.isSome_some, Qt0]; done) | (simp only [UInt64.reduceToNat, UInt32.reduceToNat, UInt8.reduceToNat, List.length_cons, List.length_nil, List.length_append, Int.toNat_natCast] <;> omega)) only [Nat.reduceLT, Nat.reduceLeDiff, Nat.reduceEqDiff, ↓reduceIte, Int.reduceLT, Int.reduceLE, Int.reduceToNat, Int.reduceEq, Int.reduceNe, Nat.reduceAdd, UInt8.reduceOfNat, UInt16.reduceOfNat, UInt32.reduceOfNat, UInt64.reduceOfNat, UInt64.reduceToNat, UInt32.reduceToNat, UInt16.reduceToNat, UInt8.reduceToNat, Int.reduceAdd, Int.reduceSub, Int.reduceMul, Nat.reduceMul, Qp0, Ql0, Qe0, hb1]
    exact ⟨_, PH.Le.refl _, by first | rfl | trivial, rfl⟩
set_option maxRecDepth 20000 in
set_option maxHeartbeats 2000000 in
theorem rightC_any (w0 : World) (h : PH) (c : Cl) (A : Option Addr) (cap : Nat) (hr : Rv w0 h A (ints c.x)) (hc : c.x.length ≤ cap) (hx : c.x.length ≤ 9223372036854775807) : PCalls Try.prog w0 43 [.agg (clL c A cap).toArray] h fun r h' => r = .bool (rightC c) ∧ h' = h := by
  refine PCalls_body Try.func43 (by kernel_rfl) rfl _ Try.ntmps43 (by kernel_rfl) (by kernel_rfl) _ Try.results43 ?_
  unfold clL
  simp -dsimp -implicitDefEqProofs (disch := first | omega | assumption | (simp only [Option.isSome_some, Qt0]; done) | (simp only [UInt64.reduceToNat, UInt32.reduceToNat, UInt8.reduceToNat, List.length_cons, List.length_nil, List.length_append, Int.toNat_natCast] <;> omega)) only [Nat.reduceLT, Nat.reduceLeDiff, Nat.reduceEqDiff, ↓reduceIte, Int.reduceLT, Int.reduceLE, Int.reduceToNat, Int.reduceEq, Int.reduceNe, Nat.reduceAdd, UInt8.reduceOfNat, UInt16.reduceOfNat, UInt32.reduceOfNat, UInt64.reduceOfNat, UInt64.reduceToNat, UInt32.reduceToNat, UInt16.reduceToNat, UInt8.reduceToNat, Int.reduceAdd, Int.reduceSub, Int.reduceMul, Nat.reduceMul, Qp0, Ql0, Qe0]
  refine fun pb hpb => ?_
  have hle := (PH.Le.refl h).new pb ⟨[str c.s, str c.u, .int .i64 c.e, .int .i64 c.i, .int .i64 c.k, .slice A c.x.length cap], 6⟩ hpb
  have hp : (h.new pb ⟨[str c.s, str c.u, .int .i64 c.e, .int .i64 c.i, .int .i64 c.k, .slice A c.x.length cap], 6⟩).m pb = some ⟨[str c.s, str c.u, .int .i64 c.e, .int .i64 c.i, .int .i64 c.k, .slice A c.x.length cap], 6⟩ := by rw [PH.new_m, if_pos rfl]
  have hr1 := hr.more hle
  simp -dsimp -implicitDefEqProofs (disch := first | omega | assumption | (simp only [Option.isSome_some, Qt0]; done) | (simp only [UInt64.reduceToNat, UInt32.reduceToNat, UInt8.reduceToNat, List.length_cons, List.length_nil, List.length_append, Int.toNat_natCast] <;> omega)) only [Nat.reduceLT, Nat.reduceLeDiff, Nat.reduceEqDiff, ↓reduceIte, Int.reduceLT, Int.reduceLE, Int.reduceToNat, Int.reduceEq, Int.reduceNe, Nat.reduceAdd, UInt8.reduceOfNat, UInt16.reduceOfNat, UInt32.reduceOfNat, UInt64.reduceOfNat, UInt64.reduceToNat, UInt32.reduceToNat, UInt16.reduceToNat, UInt8.reduceToNat, Int.reduceAdd, Int.reduceSub, Int.reduceMul, Nat.reduceMul, Qp0, Ql0, Qe0]
  generalize h.new pb ⟨[str c.s, str c.u, .int .i64 c.e, .int .i64 c.i, .int .i64 c.k, .slice A c.x.length cap], 6⟩ = h1 at *
  have hT := PCalls_low fun hl => trimmed_any w0 h1 hl A cap c.x 1099511627776 hr1 hc hx
  have hI1 := in_any c.e 0 w0 h1
  have hI2 := in_any c.i 0 w0 h1
  have hI3 := in_any c.k 0 w0 h1
  unfold rightC
  obtain ⟨b1, hb1⟩ : ∃ b, decide ((c.s.length : Int) ≥ 1) = b := ⟨_, rfl⟩
  obtain ⟨b2, hb2⟩ : ∃ b, decide ((c.s.length : Int) ≤ 64) = b := ⟨_, rfl⟩
  obtain ⟨b3, hb3⟩ : ∃ b, decide ((c.u.length : Int) ≥ 1) = b := ⟨_, rfl⟩
  obtain ⟨b4, hb4⟩ : ∃ b, decide ((c.u.length : Int) ≤ 32) = b := ⟨_, rfl⟩
  rw [hb1, hb2, hb3, hb4]
  generalize inB c.e 0 = b5 at *
  generalize inB c.i 0 = b6 at *
  generalize inB c.k 0 = b7 at *
  generalize trim c.x 1099511627776 = b8 at *
  have hT := Lib.hid hT
  have hI1 := Lib.hid hI1
  have hI2 := Lib.hid hI2
  have hI3 := Lib.hid hI3
  cases b1; rotate_left
  cases b2; rotate_left
  cases b3; rotate_left
  cases b4; rotate_left
  cases b5; rotate_left
  cases b6; rotate_left
  cases b7; rotate_left
  all_goals
    simp -dsimp -implicitDefEqProofs (disch := first | omega | assumption | (simp only [Option.isSome_some, Qt0]; done) | (simp only [UInt64.reduceToNat, UInt32.reduceToNat, UInt8.reduceToNat, List.length_cons, List.length_nil, List.length_append, Int.toNat_natCast] <;> omega)) only [Nat.reduceLT, Nat.reduceLeDiff, Nat.reduceEqDiff, ↓reduceIte, Int.reduceLT, Int.reduceLE, Int.reduceToNat, Int.reduceEq, Int.reduceNe, Nat.reduceAdd, UInt8.reduceOfNat, UInt16.reduceOfNat, UInt32.reduceOfNat, UInt64.reduceOfNat, UInt64.reduceToNat, UInt32.reduceToNat, UInt16.reduceToNat, UInt8.reduceToNat, Int.reduceAdd, Int.reduceSub, Int.reduceMul, Nat.reduceMul, Qp0, Ql0, Qe0, hb1, hb2, hb3, hb4, rd_M, rdM_some, hp]
    repeat
      first | refine hI1.out.mono ?_ | refine hI2.out.mono ?_ | refine hI3.out.mono ?_ | refine hT.out.mono ?_
      rintro v hq ⟨rfl, hz⟩
      obtain rfl := hz.symm
      simp -dsimp -implicitDefEqProofs (disch := first | omega | assumption | (simp only [Option.isSome_some, Qt0]; done) | (simp only [UInt64.reduceToNat, UInt32.reduceToNat, UInt8.reduceToNat, List.length_cons, List.length_nil, List.length_append, Int.toNat_natCast] <;> omega)) only [Nat.reduceLT, Nat.reduceLeDiff, Nat.reduceEqDiff, ↓reduceIte, Int.reduceLT, Int.reduceLE, Int.reduceToNat, Int.reduceEq, Int.reduceNe, Nat.reduceAdd, UInt8.reduceOfNat, UInt16.reduceOfNat, UInt32.reduceOfNat, UInt64.reduceOfNat, UInt64.reduceToNat, UInt32.reduceToNat, UInt16.reduceToNat, UInt8.reduceToNat, Int.reduceAdd, Int.reduceSub, Int.reduceMul, Nat.reduceMul, Qp0, Ql0, Qe0, hb1, hb2, hb3, hb4, rd_M, rdM_some, hp]
    exact ⟨_, hle, by first | rfl | trivial | (simp; done), rfl⟩
set_option maxRecDepth 20000 in
set_option maxHeartbeats 2000000 in
theorem rrightC_any (w0 : World) (h : PH) (c : Cl) (A : Option Addr) (cap : Nat) (hr : Rv w0 h A (ints c.x)) (hc : c.x.length ≤ cap) (hx : c.x.length ≤ 9223372036854775807) : PCalls Try.prog w0 31 [.agg (clL c A cap).toArray] h fun r h' => r = .bool (rightC c) ∧ h' = h := by
  refine PCalls_body Try.func31 (by kernel_rfl) rfl _ Try.ntmps31 (by kernel_rfl) (by kernel_rfl) _ Try.results31 ?_
  unfold clL
  simp -dsimp -implicitDefEqProofs (disch := first | omega | assumption | (simp only [Option.isSome_some, Qt0]; done) | (simp only [UInt64.reduceToNat, UInt32.reduceToNat, UInt8.reduceToNat, List.length_cons, List.length_nil, List.length_append, Int.toNat_natCast] <;> omega)) only [Nat.reduceLT, Nat.reduceLeDiff, Nat.reduceEqDiff, ↓reduceIte, Int.reduceLT, Int.reduceLE, Int.reduceToNat, Int.reduceEq, Int.reduceNe, Nat.reduceAdd, UInt8.reduceOfNat, UInt16.reduceOfNat, UInt32.reduceOfNat, UInt64.reduceOfNat, UInt64.reduceToNat, UInt32.reduceToNat, UInt16.reduceToNat, UInt8.reduceToNat, Int.reduceAdd, Int.reduceSub, Int.reduceMul, Nat.reduceMul, Qp0, Ql0, Qe0]
  refine fun pb hpb => ?_
  have hle := (PH.Le.refl h).new pb ⟨[str c.s, str c.u, .int .i64 c.e, .int .i64 c.i, .int .i64 c.k, .slice A c.x.length cap], 6⟩ hpb
  have hp : (h.new pb ⟨[str c.s, str c.u, .int .i64 c.e, .int .i64 c.i, .int .i64 c.k, .slice A c.x.length cap], 6⟩).m pb = some ⟨[str c.s, str c.u, .int .i64 c.e, .int .i64 c.i, .int .i64 c.k, .slice A c.x.length cap], 6⟩ := by rw [PH.new_m, if_pos rfl]
  have hr1 := hr.more hle
  simp -dsimp -implicitDefEqProofs (disch := first | omega | assumption | (simp only [Option.isSome_some, Qt0]; done) | (simp only [UInt64.reduceToNat, UInt32.reduceToNat, UInt8.reduceToNat, List.length_cons, List.length_nil, List.length_append, Int.toNat_natCast] <;> omega)) only [Nat.reduceLT, Nat.reduceLeDiff, Nat.reduceEqDiff, ↓reduceIte, Int.reduceLT, Int.reduceLE, Int.reduceToNat, Int.reduceEq, Int.reduceNe, Nat.reduceAdd, UInt8.reduceOfNat, UInt16.reduceOfNat, UInt32.reduceOfNat, UInt64.reduceOfNat, UInt64.reduceToNat, UInt32.reduceToNat, UInt16.reduceToNat, UInt8.reduceToNat, Int.reduceAdd, Int.reduceSub, Int.reduceMul, Nat.reduceMul, Qp0, Ql0, Qe0]
  generalize h.new pb ⟨[str c.s, str c.u, .int .i64 c.e, .int .i64 c.i, .int .i64 c.k, .slice A c.x.length cap], 6⟩ = h1 at *
  have hT := PCalls_low fun hl => rtrimmed_any w0 h1 hl A cap c.x 1099511627776 hr1 hc hx
  have hI1 := rin_any c.e 0 w0 h1
  have hI2 := rin_any c.i 0 w0 h1
  have hI3 := rin_any c.k 0 w0 h1
  unfold rightC
  obtain ⟨b1, hb1⟩ : ∃ b, decide ((c.s.length : Int) ≥ 1) = b := ⟨_, rfl⟩
  obtain ⟨b2, hb2⟩ : ∃ b, decide ((c.s.length : Int) ≤ 64) = b := ⟨_, rfl⟩
  obtain ⟨b3, hb3⟩ : ∃ b, decide ((c.u.length : Int) ≥ 1) = b := ⟨_, rfl⟩
  obtain ⟨b4, hb4⟩ : ∃ b, decide ((c.u.length : Int) ≤ 32) = b := ⟨_, rfl⟩
  rw [hb1, hb2, hb3, hb4]
  generalize inB c.e 0 = b5 at *
  generalize inB c.i 0 = b6 at *
  generalize inB c.k 0 = b7 at *
  generalize trim c.x 1099511627776 = b8 at *
  have hT := Lib.hid hT
  have hI1 := Lib.hid hI1
  have hI2 := Lib.hid hI2
  have hI3 := Lib.hid hI3
  cases b1; rotate_left
  cases b2; rotate_left
  cases b3; rotate_left
  cases b4; rotate_left
  cases b5; rotate_left
  cases b6; rotate_left
  cases b7; rotate_left
  all_goals
    simp -dsimp -implicitDefEqProofs (disch := first | omega | assumption | (simp only [Option.isSome_some, Qt0]; done) | (simp only [UInt64.reduceToNat, UInt32.reduceToNat, UInt8.reduceToNat, List.length_cons, List.length_nil, List.length_append, Int.toNat_natCast] <;> omega)) only [Nat.reduceLT, Nat.reduceLeDiff, Nat.reduceEqDiff, ↓reduceIte, Int.reduceLT, Int.reduceLE, Int.reduceToNat, Int.reduceEq, Int.reduceNe, Nat.reduceAdd, UInt8.reduceOfNat, UInt16.reduceOfNat, UInt32.reduceOfNat, UInt64.reduceOfNat, UInt64.reduceToNat, UInt32.reduceToNat, UInt16.reduceToNat, UInt8.reduceToNat, Int.reduceAdd, Int.reduceSub, Int.reduceMul, Nat.reduceMul, Qp0, Ql0, Qe0, hb1, hb2, hb3, hb4, rd_M, rdM_some, hp]
    repeat
      first | refine hI1.out.mono ?_ | refine hI2.out.mono ?_ | refine hI3.out.mono ?_ | refine hT.out.mono ?_
      rintro v hq ⟨rfl, hz⟩
      obtain rfl := hz.symm
      simp -dsimp -implicitDefEqProofs (disch := first | omega | assumption | (simp only [Option.isSome_some, Qt0]; done) | (simp only [UInt64.reduceToNat, UInt32.reduceToNat, UInt8.reduceToNat, List.length_cons, List.length_nil, List.length_append, Int.toNat_natCast] <;> omega)) only [Nat.reduceLT, Nat.reduceLeDiff, Nat.reduceEqDiff, ↓reduceIte, Int.reduceLT, Int.reduceLE, Int.reduceToNat, Int.reduceEq, Int.reduceNe, Nat.reduceAdd, UInt8.reduceOfNat, UInt16.reduceOfNat, UInt32.reduceOfNat, UInt64.reduceOfNat, UInt64.reduceToNat, UInt32.reduceToNat, UInt16.reduceToNat, UInt8.reduceToNat, Int.reduceAdd, Int.reduceSub, Int.reduceMul, Nat.reduceMul, Qp0, Ql0, Qe0, hb1, hb2, hb3, hb4, rd_M, rdM_some, hp]
    exact ⟨_, hle, by first | rfl | trivial | (simp; done), rfl⟩
end Go.Proofs.Ytdlaoeepeakpeaa


/- What a writer has behind it: the plain law of one thing. No condition. -/
namespace Go.Proofs.Ytdlaoeepeakpeaa
set_option linter.unusedVariables false
set_option linter.unusedSimpArgs false
open Go.RowKit Px Wr
theorem allOne_of (l : List Value) (h : (l.all fun v => v.oneCell') = true) : allOne l := fun v hv => List.all_eq_true.1 h v hv
def textB (y : List UInt8) : List UInt8 := numB y.length ++ y
theorem putM_ok (l y : List UInt8) (h : l.length + y.length ≤ 65536) : putM (l, none) y = (l ++ y, none) := by
  unfold putM; rw [if_neg (by simp), if_neg (by simp only; omega)]
theorem numM_ok (l : List UInt8) (n : Int) (h0 : 0 ≤ n) (h1 : n ≤ 1099511627776) (h : l.length ≤ 60000) : numM (l, none) n = (l ++ numB n.toNat, none) := by
  unfold numM
  have := numB_len9 (n := n.toNat) (by omega)
  rw [if_neg (by simp), if_neg (by omega), putM_ok _ _ (by omega)]
theorem textM_ok (l y : List UInt8) (h1 : y.length ≤ 1000) (h : l.length ≤ 60000) : textM (l, none) y = (l ++ textB y, none) := by
  unfold textM textB
  have := numB_len9 (n := y.length) (by omega)
  rw [putM_ok _ _ (by simp; omega)]
theorem trim_up {v : List Int} {a b : Int} (h : trim v a = true) (hab : a ≤ b) : trim v b = true := by
  rw [trim_iff] at h ⊢
  exact ⟨h.1, h.2.1, fun j hj => by have := h.2.2 j hj; omega⟩
theorem vecB_len {v : List Int} (h : trim v 1099511627776 = true) : (vecB v).length ≤ 160 := by
  unfold vecB
  have h1 := trim_len h
  have h2 := numB_len9 (n := v.length) (by omega)
  have h3 := flat_len_le v (fun n hn => by have := trim_all h n hn; omega)
  simp only [List.length_append]; omega
theorem vecM_ok (l : List UInt8) (v : List Int) (h1 : trim v 1099511627776 = true) (h : l.length ≤ 60000) : vecM (l, none) v = (l ++ vecB v, none) := by
  unfold vecM
  have := vecB_len h1
  rw [if_neg (by simp), if_pos (trim_up h1 (by omega)), putM_ok _ _ (by omega)]
theorem OS.init {h : PH} {ob : Nat} (hb : h.top ≤ ob) : OS h (h.new ob ⟨[.slice none 0 0, .nilIface], 2⟩) ob ([], none) :=
  ⟨(PH.Le.refl h).new _ _ hb, hb, by simp, none, 0, .nilIface, by rw [PH.new_m, if_pos rfl]; rfl, Own.nil _ 1, (fun a e => by cases e), rfl⟩
end Go.Proofs.Ytdlaoeepeakpeaa


/- The bytes of claims and of writes: what Encode does. No condition. -/
namespace Go.Proofs.Ytdlaoeepeakpeaa
set_option linter.unusedVariables false
set_option linter.unusedSimpArgs false
open Go.RowKit Px Wr
def bytesC (c : Cl) : List UInt8 := textB c.s ++ (textB c.u ++ (numB c.e.toNat ++ (numB c.i.toNat ++ (numB c.k.toNat ++ vecB c.x))))
def bytesW (c : Wt) : List UInt8 := numB c.r.toNat ++ (numB c.n.toNat ++ (numB c.t.toNat ++ (vecB c.d ++ (textB c.s ++ (textB c.k ++ (flagB c.g ++ (textB c.v ++ numB c.l.toNat)))))))
theorem inB_iff {n m : Int} : inB n m = true ↔ m ≤ n ∧ n ≤ 1099511627776 := by unfold inB; simp
theorem rightC_iff {c : Cl} : rightC c = true ↔ 1 ≤ c.s.length ∧ c.s.length ≤ 64 ∧ 1 ≤ c.u.length ∧ c.u.length ≤ 32 ∧ (0 ≤ c.e ∧ c.e ≤ 1099511627776) ∧ (0 ≤ c.i ∧ c.i ≤ 1099511627776) ∧ (0 ≤ c.k ∧ c.k ≤ 1099511627776) ∧ trim c.x 1099511627776 = true := by
  unfold rightC
  simp only [Bool.and_eq_true, decide_eq_true_eq, inB_iff, and_assoc]
  refine and_congr (by omega) (and_congr (by omega) (and_congr (by omega) (and_congr (by omega) Iff.rfl)))
theorem rightW_iff {c : Wt} : rightW c = true ↔ 1 ≤ c.r ∧ c.r ≤ 16 ∧ (1 ≤ c.n ∧ c.n ≤ 1099511627776) ∧ c.q = c.r ∧ (1 ≤ c.t ∧ c.t ≤ 1099511627776) ∧ trim c.d 1099511627776 = true ∧ 1 ≤ c.s.length ∧ c.s.length ≤ 64 ∧ c.k.length ≤ 32 ∧ c.v.length ≤ 128 ∧ (c.g = false ∨ c.v = []) ∧ (0 ≤ c.l ∧ c.l ≤ 1099511627776) := by
  unfold rightW
  simp only [Bool.and_eq_true, Bool.or_eq_true, Bool.not_eq_true', decide_eq_true_eq, inB_iff, and_assoc]
  constructor <;> (rintro ⟨a1, a2, a3, a4, a5, a6, a7, a8, a9, a10, a11, a12, a13, a14, a15⟩; exact ⟨by omega, by omega, a3, a4, a5, a6, a7, a8, by omega, by omega, by omega, by omega, a13, a14, a15⟩)
theorem textB_len {y : List UInt8} {k : Nat} (h : y.length ≤ k) (hk : k ≤ 1000) : (textB y).length ≤ k + 9 := by
  unfold textB; have := numB_len9 (n := y.length) (by omega); simp; omega
theorem encC_chain {c : Cl} (h : rightC c = true) : vecM (numM (numM (numM (textM (textM ([], none) c.s) c.u) c.e) c.i) c.k) c.x = (bytesC c, none) := by
  obtain ⟨h1, h2, h3, h4, ⟨h5, h6⟩, ⟨h7, h8⟩, ⟨h9, h10⟩, h11⟩ := rightC_iff.1 h
  have l1 := textB_len h2 (by omega)
  have l2 := textB_len h4 (by omega)
  have l3 := numB_len9 (n := c.e.toNat) (by omega)
  have l4 := numB_len9 (n := c.i.toNat) (by omega)
  have l5 := numB_len9 (n := c.k.toNat) (by omega)
  rw [textM_ok _ _ (by omega) (by simp), textM_ok _ _ (by omega) (by simp; omega), numM_ok _ _ h5 h6 (by simp; omega), numM_ok _ _ h7 h8 (by simp; omega), numM_ok _ _ h9 h10 (by simp; omega), vecM_ok _ _ h11 (by simp; omega)]
  unfold bytesC
  simp only [List.nil_append, List.append_assoc]
/-- What Encode tells. -/
def ENC (h : PH) (ok : Bool) (b : List UInt8) (v : Value) : Prop := if ok = true then v = .tuple #[str b, .nilIface] else ∃ ev, v = .tuple #[str [], ev] ∧ EV h (.wrap wireT 0 (.code 1)) ev
set_option maxRecDepth 20000 in
set_option maxHeartbeats 4000000 in
theorem encC_any (w0 : World) (h : PH) (c : Cl) (A : Option Addr) (cap : Nat) (hr : Rv w0 h A (ints c.x)) (hc : c.x.length ≤ cap) (hx : c.x.length ≤ 9223372036854775807) : PCalls Try.prog w0 24 [.agg (clL c A cap).toArray] h fun r h' => ENC h' (rightC c) (bytesC c) r ∧ PH.Le h h' := by
  refine PCalls_body Try.func24 (by kernel_rfl) rfl _ Try.ntmps24 (by kernel_rfl) (by kernel_rfl) _ Try.results24 ?_
  unfold clL
  simp -dsimp -implicitDefEqProofs (disch := first | omega | assumption | (simp only [Option.isSome_some, Qt0]; done) | (simp only [UInt64.reduceToNat, UInt32.reduceToNat, UInt8.reduceToNat, List.length_cons, List.length_nil, List.length_append, Int.toNat_natCast] <;> omega)) only [Nat.reduceLT, Nat.reduceLeDiff, Nat.reduceEqDiff, ↓reduceIte, Int.reduceLT, Int.reduceLE, Int.reduceToNat, Int.reduceEq, Int.reduceNe, Nat.reduceAdd, UInt8.reduceOfNat, UInt16.reduceOfNat, UInt32.reduceOfNat, UInt64.reduceOfNat, UInt64.reduceToNat, UInt32.reduceToNat, UInt16.reduceToNat, UInt8.reduceToNat, Int.reduceAdd, Int.reduceSub, Int.reduceMul, Nat.reduceMul, Qp0, Ql0, Qe0]
  refine fun pb hpb => ?_
  have hle := (PH.Le.refl h).new pb ⟨[str c.s, str c.u, .int .i64 c.e, .int .i64 c.i, .int .i64 c.k, .slice A c.x.length cap], 6⟩ hpb
  have hp : (h.new pb ⟨[str c.s, str c.u, .int .i64 c.e, .int .i64 c.i, .int .i64 c.k, .slice A c.x.length cap], 6⟩).m pb = some ⟨[str c.s, str c.u, .int .i64 c.e, .int .i64 c.i, .int .i64 c.k, .slice A c.x.length cap], 6⟩ := by rw [PH.new_m, if_pos rfl]
  have hr1 := hr.more hle
  simp -dsimp -implicitDefEqProofs (disch := first | omega | assumption | (simp only [Option.isSome_some, Qt0]; done) | (simp only [UInt64.reduceToNat, UInt32.reduceToNat, UInt8.reduceToNat, List.length_cons, List.length_nil, List.length_append, Int.toNat_natCast] <;> omega)) only [Nat.reduceLT, Nat.reduceLeDiff, Nat.reduceEqDiff, ↓reduceIte, Int.reduceLT, Int.reduceLE, Int.reduceToNat, Int.reduceEq, Int.reduceNe, Nat.reduceAdd, UInt8.reduceOfNat, UInt16.reduceOfNat, UInt32.reduceOfNat, UInt64.reduceOfNat, UInt64.reduceToNat, UInt32.reduceToNat, UInt16.reduceToNat, UInt8.reduceToNat, Int.reduceAdd, Int.reduceSub, Int.reduceMul, Nat.reduceMul, Qp0, Ql0, Qe0]
  generalize h.new pb ⟨[str c.s, str c.u, .int .i64 c.e, .int .i64 c.i, .int .i64 c.k, .slice A c.x.length cap], 6⟩ = h1 at *
  have hs0 : rdN w0 h1 ⟨pb, 0, none⟩ 6 = some [str c.s, str c.u, .int .i64 c.e, .int .i64 c.i, .int .i64 c.k, .slice A c.x.length cap] := by unfold rdN; simp only [hp]; rfl
  have hR := rightC_any w0 h1 c A cap hr1 hc hx
  unfold clL at hR
  cases hb : rightC c with
  | false =>
    rw [hb] at hR
    have hR := Lib.hid hR
    simp -dsimp -implicitDefEqProofs (disch := first | omega | assumption | (simp only [Option.isSome_some, Qt0]; done) | (simp only [UInt64.reduceToNat, UInt32.reduceToNat, UInt8.reduceToNat, List.length_cons, List.length_nil, List.length_append, Int.toNat_natCast] <;> omega)) only [Nat.reduceLT, Nat.reduceLeDiff, Nat.reduceEqDiff, ↓reduceIte, Int.reduceLT, Int.reduceLE, Int.reduceToNat, Int.reduceEq, Int.reduceNe, Nat.reduceAdd, UInt8.reduceOfNat, UInt16.reduceOfNat, UInt32.reduceOfNat, UInt64.reduceOfNat, UInt64.reduceToNat, UInt32.reduceToNat, UInt16.reduceToNat, UInt8.reduceToNat, Int.reduceAdd, Int.reduceSub, Int.reduceMul, Nat.reduceMul, Qp0, Ql0, Qe0, hs0]
    refine hR.out.mono ?_
    rintro v hq ⟨rfl, hz⟩
    obtain rfl := hz.symm
    simp -dsimp -implicitDefEqProofs (disch := first | omega | assumption | (simp only [Option.isSome_some, Qt0]; done) | (simp only [UInt64.reduceToNat, UInt32.reduceToNat, UInt8.reduceToNat, List.length_cons, List.length_nil, List.length_append, Int.toNat_natCast] <;> omega)) only [Nat.reduceLT, Nat.reduceLeDiff, Nat.reduceEqDiff, ↓reduceIte, Int.reduceLT, Int.reduceLE, Int.reduceToNat, Int.reduceEq, Int.reduceNe, Nat.reduceAdd, UInt8.reduceOfNat, UInt16.reduceOfNat, UInt32.reduceOfNat, UInt64.reduceOfNat, UInt64.reduceToNat, UInt32.reduceToNat, UInt16.reduceToNat, UInt8.reduceToNat, Int.reduceAdd, Int.reduceSub, Int.reduceMul, Nat.reduceMul, Qp0, Ql0, Qe0]
    refine (at_any wireT _ _ _ w0 _).mono ?_
    rintro v hq ⟨be, rfl, hbe, rfl⟩
    unfold errV
    simp -dsimp -implicitDefEqProofs (disch := first | omega | assumption | (simp only [Option.isSome_some, Qt0]; done) | (simp only [UInt64.reduceToNat, UInt32.reduceToNat, UInt8.reduceToNat, List.length_cons, List.length_nil, List.length_append, Int.toNat_natCast] <;> omega)) only [Nat.reduceLT, Nat.reduceLeDiff, Nat.reduceEqDiff, ↓reduceIte, Int.reduceLT, Int.reduceLE, Int.reduceToNat, Int.reduceEq, Int.reduceNe, Nat.reduceAdd, UInt8.reduceOfNat, UInt16.reduceOfNat, UInt32.reduceOfNat, UInt64.reduceOfNat, UInt64.reduceToNat, UInt32.reduceToNat, UInt16.reduceToNat, UInt8.reduceToNat, Int.reduceAdd, Int.reduceSub, Int.reduceMul, Nat.reduceMul, Qp0, Ql0, Qe0]
    refine ⟨_, PH.Le.refl _, ?_, hle.trans ((PH.Le.refl _).new _ _ hbe)⟩
    unfold ENC
    rw [if_neg (by simp)]
    exact ⟨_, rfl, be, _, rfl, by rw [PH.new_m, if_pos rfl]; rfl, rfl⟩
  | true =>
    rw [hb] at hR
    have hR := Lib.hid hR
    have hch := encC_chain hb
    have hri := rightC_iff.1 hb
    simp -dsimp -implicitDefEqProofs (disch := first | omega | assumption | (simp only [Option.isSome_some, Qt0]; done) | (simp only [UInt64.reduceToNat, UInt32.reduceToNat, UInt8.reduceToNat, List.length_cons, List.length_nil, List.length_append, Int.toNat_natCast] <;> omega)) only [Nat.reduceLT, Nat.reduceLeDiff, Nat.reduceEqDiff, ↓reduceIte, Int.reduceLT, Int.reduceLE, Int.reduceToNat, Int.reduceEq, Int.reduceNe, Nat.reduceAdd, UInt8.reduceOfNat, UInt16.reduceOfNat, UInt32.reduceOfNat, UInt64.reduceOfNat, UInt64.reduceToNat, UInt32.reduceToNat, UInt16.reduceToNat, UInt8.reduceToNat, Int.reduceAdd, Int.reduceSub, Int.reduceMul, Nat.reduceMul, Qp0, Ql0, Qe0, hs0]
    refine hR.out.mono ?_
    rintro v hq ⟨rfl, hz⟩
    obtain rfl := hz.symm
    simp -dsimp -implicitDefEqProofs (disch := first | omega | assumption | (simp only [Option.isSome_some, Qt0]; done) | (simp only [UInt64.reduceToNat, UInt32.reduceToNat, UInt8.reduceToNat, List.length_cons, List.length_nil, List.length_append, Int.toNat_natCast] <;> omega)) only [Nat.reduceLT, Nat.reduceLeDiff, Nat.reduceEqDiff, ↓reduceIte, Int.reduceLT, Int.reduceLE, Int.reduceToNat, Int.reduceEq, Int.reduceNe, Nat.reduceAdd, UInt8.reduceOfNat, UInt16.reduceOfNat, UInt32.reduceOfNat, UInt64.reduceOfNat, UInt64.reduceToNat, UInt32.reduceToNat, UInt16.reduceToNat, UInt8.reduceToNat, Int.reduceAdd, Int.reduceSub, Int.reduceMul, Nat.reduceMul, Qp0, Ql0, Qe0]
    refine fun ob hob => ?_
    have hs := OS.init hob
    have hp1 := hs.le.m _ _ hp
    simp -dsimp -implicitDefEqProofs (disch := first | omega | assumption | (simp only [Option.isSome_some, Qt0]; done) | (simp only [UInt64.reduceToNat, UInt32.reduceToNat, UInt8.reduceToNat, List.length_cons, List.length_nil, List.length_append, Int.toNat_natCast] <;> omega)) only [Nat.reduceLT, Nat.reduceLeDiff, Nat.reduceEqDiff, ↓reduceIte, Int.reduceLT, Int.reduceLE, Int.reduceToNat, Int.reduceEq, Int.reduceNe, Nat.reduceAdd, UInt8.reduceOfNat, UInt16.reduceOfNat, UInt32.reduceOfNat, UInt64.reduceOfNat, UInt64.reduceToNat, UInt32.reduceToNat, UInt16.reduceToNat, UInt8.reduceToNat, Int.reduceAdd, Int.reduceSub, Int.reduceMul, Nat.reduceMul, Qp0, Ql0, Qe0]
    generalize h1.new ob ⟨[.slice none 0 0, .nilIface], 2⟩ = h2 at *
    simp -dsimp -implicitDefEqProofs (disch := first | omega | assumption | (simp only [Option.isSome_some, Qt0]; done) | (simp only [UInt64.reduceToNat, UInt32.reduceToNat, UInt8.reduceToNat, List.length_cons, List.length_nil, List.length_append, Int.toNat_natCast] <;> omega)) only [Nat.reduceLT, Nat.reduceLeDiff, Nat.reduceEqDiff, ↓reduceIte, Int.reduceLT, Int.reduceLE, Int.reduceToNat, Int.reduceEq, Int.reduceNe, Nat.reduceAdd, UInt8.reduceOfNat, UInt16.reduceOfNat, UInt32.reduceOfNat, UInt64.reduceOfNat, UInt64.reduceToNat, UInt32.reduceToNat, UInt16.reduceToNat, UInt8.reduceToNat, Int.reduceAdd, Int.reduceSub, Int.reduceMul, Nat.reduceMul, Qp0, Ql0, Qe0, rd_M, rdM_some, hp1]
    refine (wtext_any h1 ob _ w0 _ hs c.s (by omega)).mono ?_
    intro v q hs
    have hp1 := hs.le.m _ _ hp
    simp -dsimp -implicitDefEqProofs (disch := first | omega | assumption | (simp only [Option.isSome_some, Qt0]; done) | (simp only [UInt64.reduceToNat, UInt32.reduceToNat, UInt8.reduceToNat, List.length_cons, List.length_nil, List.length_append, Int.toNat_natCast] <;> omega)) only [Nat.reduceLT, Nat.reduceLeDiff, Nat.reduceEqDiff, ↓reduceIte, Int.reduceLT, Int.reduceLE, Int.reduceToNat, Int.reduceEq, Int.reduceNe, Nat.reduceAdd, UInt8.reduceOfNat, UInt16.reduceOfNat, UInt32.reduceOfNat, UInt64.reduceOfNat, UInt64.reduceToNat, UInt32.reduceToNat, UInt16.reduceToNat, UInt8.reduceToNat, Int.reduceAdd, Int.reduceSub, Int.reduceMul, Nat.reduceMul, Qp0, Ql0, Qe0, rd_M, rdM_some, hp1]
    refine (wtext_any h1 ob _ w0 _ hs c.u (by omega)).mono ?_
    intro v q hs
    have hp1 := hs.le.m _ _ hp
    simp -dsimp -implicitDefEqProofs (disch := first | omega | assumption | (simp only [Option.isSome_some, Qt0]; done) | (simp only [UInt64.reduceToNat, UInt32.reduceToNat, UInt8.reduceToNat, List.length_cons, List.length_nil, List.length_append, Int.toNat_natCast] <;> omega)) only [Nat.reduceLT, Nat.reduceLeDiff, Nat.reduceEqDiff, ↓reduceIte, Int.reduceLT, Int.reduceLE, Int.reduceToNat, Int.reduceEq, Int.reduceNe, Nat.reduceAdd, UInt8.reduceOfNat, UInt16.reduceOfNat, UInt32.reduceOfNat, UInt64.reduceOfNat, UInt64.reduceToNat, UInt32.reduceToNat, UInt16.reduceToNat, UInt8.reduceToNat, Int.reduceAdd, Int.reduceSub, Int.reduceMul, Nat.reduceMul, Qp0, Ql0, Qe0, rd_M, rdM_some, hp1]
    refine (num_any h1 ob _ w0 _ hs c.e (by omega)).mono ?_
    intro v q hs
    have hp1 := hs.le.m _ _ hp
    simp -dsimp -implicitDefEqProofs (disch := first | omega | assumption | (simp only [Option.isSome_some, Qt0]; done) | (simp only [UInt64.reduceToNat, UInt32.reduceToNat, UInt8.reduceToNat, List.length_cons, List.length_nil, List.length_append, Int.toNat_natCast] <;> omega)) only [Nat.reduceLT, Nat.reduceLeDiff, Nat.reduceEqDiff, ↓reduceIte, Int.reduceLT, Int.reduceLE, Int.reduceToNat, Int.reduceEq, Int.reduceNe, Nat.reduceAdd, UInt8.reduceOfNat, UInt16.reduceOfNat, UInt32.reduceOfNat, UInt64.reduceOfNat, UInt64.reduceToNat, UInt32.reduceToNat, UInt16.reduceToNat, UInt8.reduceToNat, Int.reduceAdd, Int.reduceSub, Int.reduceMul, Nat.reduceMul, Qp0, Ql0, Qe0, rd_M, rdM_some, hp1]
    refine (num_any h1 ob _ w0 _ hs c.i (by omega)).mono ?_
    intro v q hs
    have hp1 := hs.le.m _ _ hp
    simp -dsimp -implicitDefEqProofs (disch := first | omega | assumption | (simp only [Option.isSome_some, Qt0]; done) | (simp only [UInt64.reduceToNat, UInt32.reduceToNat, UInt8.reduceToNat, List.length_cons, List.length_nil, List.length_append, Int.toNat_natCast] <;> omega)) only [Nat.reduceLT, Nat.reduceLeDiff, Nat.reduceEqDiff, ↓reduceIte, Int.reduceLT, Int.reduceLE, Int.reduceToNat, Int.reduceEq, Int.reduceNe, Nat.reduceAdd, UInt8.reduceOfNat, UInt16.reduceOfNat, UInt32.reduceOfNat, UInt64.reduceOfNat, UInt64.reduceToNat, UInt32.reduceToNat, UInt16.reduceToNat, UInt8.reduceToNat, Int.reduceAdd, Int.reduceSub, Int.reduceMul, Nat.reduceMul, Qp0, Ql0, Qe0, rd_M, rdM_some, hp1]
    refine (num_any h1 ob _ w0 _ hs c.k (by omega)).mono ?_
    intro v q hs
    have hp1 := hs.le.m _ _ hp
    simp -dsimp -implicitDefEqProofs (disch := first | omega | assumption | (simp only [Option.isSome_some, Qt0]; done) | (simp only [UInt64.reduceToNat, UInt32.reduceToNat, UInt8.reduceToNat, List.length_cons, List.length_nil, List.length_append, Int.toNat_natCast] <;> omega)) only [Nat.reduceLT, Nat.reduceLeDiff, Nat.reduceEqDiff, ↓reduceIte, Int.reduceLT, Int.reduceLE, Int.reduceToNat, Int.reduceEq, Int.reduceNe, Nat.reduceAdd, UInt8.reduceOfNat, UInt16.reduceOfNat, UInt32.reduceOfNat, UInt64.reduceOfNat, UInt64.reduceToNat, UInt32.reduceToNat, UInt16.reduceToNat, UInt8.reduceToNat, Int.reduceAdd, Int.reduceSub, Int.reduceMul, Nat.reduceMul, Qp0, Ql0, Qe0, rd_M, rdM_some, hp1]
    refine (wvec_any h1 ob _ w0 _ hs A cap c.x (hr1.more hs.le) hc (by have := trim_len hri.2.2.2.2.2.2.2; omega)).mono ?_
    intro v q hs
    have hp1 := hs.le.m _ _ hp
    simp -dsimp -implicitDefEqProofs (disch := first | omega | assumption | (simp only [Option.isSome_some, Qt0]; done) | (simp only [UInt64.reduceToNat, UInt32.reduceToNat, UInt8.reduceToNat, List.length_cons, List.length_nil, List.length_append, Int.toNat_natCast] <;> omega)) only [Nat.reduceLT, Nat.reduceLeDiff, Nat.reduceEqDiff, ↓reduceIte, Int.reduceLT, Int.reduceLE, Int.reduceToNat, Int.reduceEq, Int.reduceNe, Nat.reduceAdd, UInt8.reduceOfNat, UInt16.reduceOfNat, UInt32.reduceOfNat, UInt64.reduceOfNat, UInt64.reduceToNat, UInt32.reduceToNat, UInt16.reduceToNat, UInt8.reduceToNat, Int.reduceAdd, Int.reduceSub, Int.reduceMul, Nat.reduceMul, Qp0, Ql0, Qe0, rd_M, rdM_some, hp1]
    refine (done_any h1 ob _ w0 _ hs).mono ?_
    rintro v q2 ⟨hd, hz⟩
    obtain rfl := hz.symm
    rw [hch] at hd
    obtain rfl : v = .tuple #[str (bytesC c), .nilIface] := hd
    simp -dsimp -implicitDefEqProofs (disch := first | omega | assumption | (simp only [Option.isSome_some, Qt0]; done) | (simp only [UInt64.reduceToNat, UInt32.reduceToNat, UInt8.reduceToNat, List.length_cons, List.length_nil, List.length_append, Int.toNat_natCast] <;> omega)) only [Nat.reduceLT, Nat.reduceLeDiff, Nat.reduceEqDiff, ↓reduceIte, Int.reduceLT, Int.reduceLE, Int.reduceToNat, Int.reduceEq, Int.reduceNe, Nat.reduceAdd, UInt8.reduceOfNat, UInt16.reduceOfNat, UInt32.reduceOfNat, UInt64.reduceOfNat, UInt64.reduceToNat, UInt32.reduceToNat, UInt16.reduceToNat, UInt8.reduceToNat, Int.reduceAdd, Int.reduceSub, Int.reduceMul, Nat.reduceMul, Qp0, Ql0, Qe0]
    exact ⟨_, PH.Le.refl _, rfl, hle.trans hs.le⟩
end Go.Proofs.Ytdlaoeepeakpeaa


/- The document's bytes: Number, Bytes, Written. No condition. -/
namespace Go.Proofs.Ytdlaoeepeakpeaa
set_option linter.unusedVariables false
set_option linter.unusedSimpArgs false
open Go.RowKit Px Wr
/-- An item: its kind; a number, a text, a flag, a vector. -/
structure It where
  K : Int
  N : Int
  S : List UInt8
  B : Bool
  V : List Int
def itL (x : It) (A : Option Addr) (cap : Nat) : List Value := [.int .i64 x.K, .int .i64 x.N, str x.S, .bool x.B, .slice A x.V.length cap]
def bytesI (x : It) : Option (List UInt8) := if x.K = 1 then some (textB x.S) else if x.K = 2 then some (flagB x.B) else if x.K = 3 then (if trim x.V 4611686018427387903 = true then some (vecB x.V) else none) else if x.N < 0 ∨ 4611686018427387903 < x.N then none else some (numB x.N.toNat)
def stepI (s : WS) (x : It) : WS := if s.2.isSome = true then s else match bytesI x with
  | none => (s.1, some (1, s.1.length))
  | some b => putM s b
def itemM (s : WS) (x : It) : WS := if x.K = 1 then textM s x.S else if x.K = 2 then flagM s x.B else if x.K = 3 then vecM s x.V else numM s x.N
theorem itemM_eq (s : WS) (x : It) : itemM s x = stepI s x := by
  unfold itemM stepI
  cases hs : s.2.isSome with
  | true =>
    unfold textM flagM vecM numM
    simp only [putM_bad hs, hs, if_true, ite_self]
  | false =>
    simp only [Bool.false_eq_true, if_false]
    unfold bytesI
    by_cases h1 : x.K = 1
    · rw [if_pos h1, if_pos h1]; rfl
    rw [if_neg h1, if_neg h1]
    by_cases h2 : x.K = 2
    · rw [if_pos h2, if_pos h2]
      unfold flagM numM flagB
      rw [hs, if_neg (by simp), if_neg (by split <;> omega)]
      cases x.B <;> rfl
    rw [if_neg h2, if_neg h2]
    by_cases h3 : x.K = 3
    · rw [if_pos h3, if_pos h3]
      unfold vecM
      rw [hs, if_neg (by simp)]
      by_cases h4 : trim x.V 4611686018427387903 = true
      · rw [if_pos h4, if_pos h4]
      · rw [if_neg h4, if_neg h4]
    rw [if_neg h3, if_neg h3]
    unfold numM
    rw [hs, if_neg (by simp)]
    by_cases h5 : x.N < 0 ∨ 4611686018427387903 < x.N
    · rw [if_pos h5, if_pos h5]
    · rw [if_neg h5, if_neg h5]
def writtenM (L : List It) : WS := L.foldl stepI ([], none)
theorem foldl_bad : ∀ (L : List It) (s : WS), s.2.isSome = true → L.foldl stepI s = s
  | [], s, h => rfl
  | x :: L, s, h => by
    have : stepI s x = s := by unfold stepI; rw [if_pos h]
    rw [List.foldl_cons, this, foldl_bad L s h]
theorem writtenM_next {L : List It} {i : Nat} {x : It} (h : L[i]? = some x) : (L.take (i + 1)).foldl stepI ([], none) = stepI ((L.take i).foldl stepI ([], none)) x := by
  rw [List.take_add_one, h]
  simp
theorem writtenM_bad {L : List It} {i : Nat} {s : WS} (h : (L.take i).foldl stepI ([], none) = s) (hs : s.2.isSome = true) : writtenM L = s := by
  unfold writtenM
  conv => lhs; rw [← List.take_append_drop i L, List.foldl_append, h]
  exact foldl_bad _ _ hs
theorem byte_add (m : Nat) : UInt8.ofInt ((m : Int) % 128 + 128) = UInt8.ofNat (m % 128 + 128) := by
  have : (m : Int) % 128 + 128 = ((m % 128 + 128 : Nat) : Int) := by omega
  rw [this]
  generalize m % 128 + 128 = k
  apply UInt8.toNat_inj.1
  simp [UInt8.ofInt]; omega
set_option maxRecDepth 20000 in
set_option maxHeartbeats 1000000 in
theorem rnumber_any (n : Nat) (hn : n ≤ 9223372036854775807) (w0 : World) (h : PH) : PCalls Try.prog w0 85 [.int .i64 n] h fun r h' => r = str (numB n) ∧ h' = h := by
  refine PCalls_body Try.func85 (by kernel_rfl) rfl _ Try.ntmps85 (by kernel_rfl) (by kernel_rfl) _ Try.results85 ?_
  simp -dsimp -implicitDefEqProofs (disch := first | omega | assumption | (simp only [Option.isSome_some, Qt0]; done) | (simp only [UInt64.reduceToNat, UInt32.reduceToNat, UInt8.reduceToNat, List.length_cons, List.length_nil, List.length_append, Int.toNat_natCast] <;> omega)) only [Nat.reduceLT, Nat.reduceLeDiff, Nat.reduceEqDiff, ↓reduceIte, Int.reduceLT, Int.reduceLE, Int.reduceToNat, Int.reduceEq, Int.reduceNe, Nat.reduceAdd, UInt8.reduceOfNat, UInt16.reduceOfNat, UInt32.reduceOfNat, UInt64.reduceOfNat, UInt64.reduceToNat, UInt32.reduceToNat, UInt16.reduceToNat, UInt8.reduceToNat, Int.reduceAdd, Int.reduceSub, Int.reduceMul, Nat.reduceMul, Qp0, Ql0, Qe0]
  refine PW_loop (fun m f h' => ∃ l' : List UInt8, f 0 = some (.int .i64 m) ∧ f 3 = some (str l') ∧ m ≤ n ∧ l' ++ numB m = numB n ∧ PH.Le h h') (by kernel_rfl) n ⟨[], ?_, ?_, Nat.le_refl _, by simp, PH.Le.refl _⟩ ?_
  · simp -dsimp -implicitDefEqProofs (disch := first | omega | assumption | (simp only [Option.isSome_some, Qt0]; done) | (simp only [UInt64.reduceToNat, UInt32.reduceToNat, UInt8.reduceToNat, List.length_cons, List.length_nil, List.length_append, Int.toNat_natCast] <;> omega)) only [Nat.reduceLT, Nat.reduceLeDiff, Nat.reduceEqDiff, ↓reduceIte, Int.reduceLT, Int.reduceLE, Int.reduceToNat, Int.reduceEq, Int.reduceNe, Nat.reduceAdd, UInt8.reduceOfNat, UInt16.reduceOfNat, UInt32.reduceOfNat, UInt64.reduceOfNat, UInt64.reduceToNat, UInt32.reduceToNat, UInt16.reduceToNat, UInt8.reduceToNat, Int.reduceAdd, Int.reduceSub, Int.reduceMul, Nat.reduceMul, Qp0, Ql0, Qe0]
  · simp -dsimp -implicitDefEqProofs (disch := first | omega | assumption | (simp only [Option.isSome_some, Qt0]; done) | (simp only [UInt64.reduceToNat, UInt32.reduceToNat, UInt8.reduceToNat, List.length_cons, List.length_nil, List.length_append, Int.toNat_natCast] <;> omega)) only [Nat.reduceLT, Nat.reduceLeDiff, Nat.reduceEqDiff, ↓reduceIte, Int.reduceLT, Int.reduceLE, Int.reduceToNat, Int.reduceEq, Int.reduceNe, Nat.reduceAdd, UInt8.reduceOfNat, UInt16.reduceOfNat, UInt32.reduceOfNat, UInt64.reduceOfNat, UInt64.reduceToNat, UInt32.reduceToNat, UInt16.reduceToNat, UInt8.reduceToNat, Int.reduceAdd, Int.reduceSub, Int.reduceMul, Nat.reduceMul, Qp0, Ql0, Qe0]
    try rfl
  rintro m f h' ⟨l', f0, f3, hm, hlm, hle⟩
  have hll := congrArg List.length hlm
  simp only [List.length_append] at hll
  have hp := numB_pos m
  have hnl := numB_len9 hn
  by_cases hs : m < 128
  · have e1 : decide ((m : Int) ≥ 128) = false := decide_eq_false (by omega)
    rw [← hlm, numB_small hs]
    have hb := byte_small hs
    simp -dsimp -implicitDefEqProofs (disch := first | omega | assumption | (simp only [Option.isSome_some, Qt0]; done) | (simp only [UInt64.reduceToNat, UInt32.reduceToNat, UInt8.reduceToNat, List.length_cons, List.length_nil, List.length_append, Int.toNat_natCast] <;> omega)) only [Nat.reduceLT, Nat.reduceLeDiff, Nat.reduceEqDiff, ↓reduceIte, Int.reduceLT, Int.reduceLE, Int.reduceToNat, Int.reduceEq, Int.reduceNe, Nat.reduceAdd, UInt8.reduceOfNat, UInt16.reduceOfNat, UInt32.reduceOfNat, UInt64.reduceOfNat, UInt64.reduceToNat, UInt32.reduceToNat, UInt16.reduceToNat, UInt8.reduceToNat, Int.reduceAdd, Int.reduceSub, Int.reduceMul, Nat.reduceMul, Qp0, Ql0, Qe0, f0, f3, e1]
    refine Does_one (v := u8 (UInt8.ofInt m)) el_u8 rfl (by omega) fun gb hgb => ?_
    simp -dsimp -implicitDefEqProofs (disch := first | omega | assumption | (simp only [Option.isSome_some, Qt0]; done) | (simp only [UInt64.reduceToNat, UInt32.reduceToNat, UInt8.reduceToNat, List.length_cons, List.length_nil, List.length_append, Int.toNat_natCast] <;> omega)) only [Nat.reduceLT, Nat.reduceLeDiff, Nat.reduceEqDiff, ↓reduceIte, Int.reduceLT, Int.reduceLE, Int.reduceToNat, Int.reduceEq, Int.reduceNe, Nat.reduceAdd, UInt8.reduceOfNat, UInt16.reduceOfNat, UInt32.reduceOfNat, UInt64.reduceOfNat, UInt64.reduceToNat, UInt32.reduceToNat, UInt16.reduceToNat, UInt8.reduceToNat, Int.reduceAdd, Int.reduceSub, Int.reduceMul, Nat.reduceMul, Qp0, Ql0, Qe0, f0, f3]
    refine vtext_own (l := [UInt8.ofNat m]) Try.underlying49 Try.underlying5 Try.underlying9 (Rs.blk (k := ⟨[u8 (UInt8.ofNat m)], 1⟩) (by rw [PH.new_m, if_pos rfl, hb]; rfl) rfl) (by simp) ?_
    simp -dsimp -implicitDefEqProofs (disch := first | omega | assumption | (simp only [Option.isSome_some, Qt0]; done) | (simp only [UInt64.reduceToNat, UInt32.reduceToNat, UInt8.reduceToNat, List.length_cons, List.length_nil, List.length_append, Int.toNat_natCast] <;> omega)) only [Nat.reduceLT, Nat.reduceLeDiff, Nat.reduceEqDiff, ↓reduceIte, Int.reduceLT, Int.reduceLE, Int.reduceToNat, Int.reduceEq, Int.reduceNe, Nat.reduceAdd, UInt8.reduceOfNat, UInt16.reduceOfNat, UInt32.reduceOfNat, UInt64.reduceOfNat, UInt64.reduceToNat, UInt32.reduceToNat, UInt16.reduceToNat, UInt8.reduceToNat, Int.reduceAdd, Int.reduceSub, Int.reduceMul, Nat.reduceMul, Qp0, Ql0, Qe0, f0, f3]
    exact ⟨_, hle.new _ _ (Nat.le_trans hle.top hgb), by first | rfl | trivial, rfl⟩
  · have e1 : decide ((m : Int) ≥ 128) = true := decide_eq_true (by omega)
    rw [numB_large hs] at hlm
    simp -dsimp -implicitDefEqProofs (disch := first | omega | assumption | (simp only [Option.isSome_some, Qt0]; done) | (simp only [UInt64.reduceToNat, UInt32.reduceToNat, UInt8.reduceToNat, List.length_cons, List.length_nil, List.length_append, Int.toNat_natCast] <;> omega)) only [Nat.reduceLT, Nat.reduceLeDiff, Nat.reduceEqDiff, ↓reduceIte, Int.reduceLT, Int.reduceLE, Int.reduceToNat, Int.reduceEq, Int.reduceNe, Nat.reduceAdd, UInt8.reduceOfNat, UInt16.reduceOfNat, UInt32.reduceOfNat, UInt64.reduceOfNat, UInt64.reduceToNat, UInt32.reduceToNat, UInt16.reduceToNat, UInt8.reduceToNat, Int.reduceAdd, Int.reduceSub, Int.reduceMul, Nat.reduceMul, Qp0, Ql0, Qe0, f0, f3, e1, byte_add]
    refine Does_one (v := u8 (UInt8.ofNat (m % 128 + 128))) el_u8 rfl (by omega) fun gb hgb => ?_
    simp -dsimp -implicitDefEqProofs (disch := first | omega | assumption | (simp only [Option.isSome_some, Qt0]; done) | (simp only [UInt64.reduceToNat, UInt32.reduceToNat, UInt8.reduceToNat, List.length_cons, List.length_nil, List.length_append, Int.toNat_natCast] <;> omega)) only [Nat.reduceLT, Nat.reduceLeDiff, Nat.reduceEqDiff, ↓reduceIte, Int.reduceLT, Int.reduceLE, Int.reduceToNat, Int.reduceEq, Int.reduceNe, Nat.reduceAdd, UInt8.reduceOfNat, UInt16.reduceOfNat, UInt32.reduceOfNat, UInt64.reduceOfNat, UInt64.reduceToNat, UInt32.reduceToNat, UInt16.reduceToNat, UInt8.reduceToNat, Int.reduceAdd, Int.reduceSub, Int.reduceMul, Nat.reduceMul, Qp0, Ql0, Qe0, f0, f3]
    refine vtext_own (l := [UInt8.ofNat (m % 128 + 128)]) Try.underlying49 Try.underlying5 Try.underlying9 (Rs.blk (k := ⟨[u8 (UInt8.ofNat (m % 128 + 128))], 1⟩) (by rw [PH.new_m, if_pos rfl]; rfl) rfl) (by simp) ?_
    have hd : ((m : Int) / 128) = ((m / 128 : Nat) : Int) := by omega
    simp -dsimp -implicitDefEqProofs (disch := first | omega | assumption | (simp only [Option.isSome_some, Qt0]; done) | (simp only [UInt64.reduceToNat, UInt32.reduceToNat, UInt8.reduceToNat, List.length_cons, List.length_nil, List.length_append, Int.toNat_natCast] <;> omega)) only [Nat.reduceLT, Nat.reduceLeDiff, Nat.reduceEqDiff, ↓reduceIte, Int.reduceLT, Int.reduceLE, Int.reduceToNat, Int.reduceEq, Int.reduceNe, Nat.reduceAdd, UInt8.reduceOfNat, UInt16.reduceOfNat, UInt32.reduceOfNat, UInt64.reduceOfNat, UInt64.reduceToNat, UInt32.reduceToNat, UInt16.reduceToNat, UInt8.reduceToNat, Int.reduceAdd, Int.reduceSub, Int.reduceMul, Nat.reduceMul, Qp0, Ql0, Qe0, f0, f3, hd]
    exact ⟨m / 128, _, by omega, PH.Le.refl _, _, by trivial, by trivial, by omega, by rw [← hlm]; simp, hle.new _ _ (Nat.le_trans hle.top hgb)⟩
end Go.Proofs.Ytdlaoeepeakpeaa


/- The document's bytes: Bytes, Written. No condition. -/
namespace Go.Proofs.Ytdlaoeepeakpeaa
set_option linter.unusedVariables false
set_option linter.unusedSimpArgs false
open Go.RowKit Px Wr
set_option maxRecDepth 20000 in
set_option maxHeartbeats 2000000 in
theorem rbytes_any (x : It) (A : Option Addr) (cap : Nat) (hN : x.N ≤ 9223372036854775807) (hS : x.S.length ≤ 1000000) (hV : x.V.length ≤ 1000000) (hc : x.V.length ≤ cap) (w0 : World) (h : PH) (hr : Rv w0 h A (ints x.V)) : PCalls Try.prog w0 74 [.agg (itL x A cap).toArray] h fun r h' => r = .tuple #[str ((bytesI x).getD []), .bool (bytesI x).isSome] ∧ h' = h := by
  refine PCalls_body Try.func74 (by kernel_rfl) rfl _ Try.ntmps74 (by kernel_rfl) (by kernel_rfl) _ Try.results74 ?_
  unfold itL
  simp -dsimp -implicitDefEqProofs (disch := first | omega | assumption | (simp only [Option.isSome_some, Qt0]; done) | (simp only [UInt64.reduceToNat, UInt32.reduceToNat, UInt8.reduceToNat, List.length_cons, List.length_nil, List.length_append, Int.toNat_natCast] <;> omega)) only [Nat.reduceLT, Nat.reduceLeDiff, Nat.reduceEqDiff, ↓reduceIte, Int.reduceLT, Int.reduceLE, Int.reduceToNat, Int.reduceEq, Int.reduceNe, Nat.reduceAdd, UInt8.reduceOfNat, UInt16.reduceOfNat, UInt32.reduceOfNat, UInt64.reduceOfNat, UInt64.reduceToNat, UInt32.reduceToNat, UInt16.reduceToNat, UInt8.reduceToNat, Int.reduceAdd, Int.reduceSub, Int.reduceMul, Nat.reduceMul, Qp0, Ql0, Qe0]
  refine fun pb hpb => ?_
  have hle := (PH.Le.refl h).new pb ⟨[.int .i64 x.K, .int .i64 x.N, str x.S, .bool x.B, .slice A x.V.length cap], 5⟩ hpb
  have hp : (h.new pb ⟨[.int .i64 x.K, .int .i64 x.N, str x.S, .bool x.B, .slice A x.V.length cap], 5⟩).m pb = some ⟨[.int .i64 x.K, .int .i64 x.N, str x.S, .bool x.B, .slice A x.V.length cap], 5⟩ := by rw [PH.new_m, if_pos rfl]
  have hr1 := hr.more hle
  simp -dsimp -implicitDefEqProofs (disch := first | omega | assumption | (simp only [Option.isSome_some, Qt0]; done) | (simp only [UInt64.reduceToNat, UInt32.reduceToNat, UInt8.reduceToNat, List.length_cons, List.length_nil, List.length_append, Int.toNat_natCast] <;> omega)) only [Nat.reduceLT, Nat.reduceLeDiff, Nat.reduceEqDiff, ↓reduceIte, Int.reduceLT, Int.reduceLE, Int.reduceToNat, Int.reduceEq, Int.reduceNe, Nat.reduceAdd, UInt8.reduceOfNat, UInt16.reduceOfNat, UInt32.reduceOfNat, UInt64.reduceOfNat, UInt64.reduceToNat, UInt32.reduceToNat, UInt16.reduceToNat, UInt8.reduceToNat, Int.reduceAdd, Int.reduceSub, Int.reduceMul, Nat.reduceMul, Qp0, Ql0, Qe0]
  generalize h.new pb ⟨[.int .i64 x.K, .int .i64 x.N, str x.S, .bool x.B, .slice A x.V.length cap], 5⟩ = h1 at *
  by_cases k1 : x.K = 1
  · have e1 := decide_eq_true k1
    have hB : bytesI x = some (textB x.S) := by unfold bytesI; rw [if_pos k1]
    have hM := Lib.hid (rnumber_any x.S.length (by omega) w0 h1)
    have hl := numB_len9 (n := x.S.length) (by omega)
    rw [hB]
    simp -dsimp -implicitDefEqProofs (disch := first | omega | assumption | (simp only [Option.isSome_some, Qt0]; done) | (simp only [UInt64.reduceToNat, UInt32.reduceToNat, UInt8.reduceToNat, List.length_cons, List.length_nil, List.length_append, Int.toNat_natCast] <;> omega)) only [Nat.reduceLT, Nat.reduceLeDiff, Nat.reduceEqDiff, ↓reduceIte, Int.reduceLT, Int.reduceLE, Int.reduceToNat, Int.reduceEq, Int.reduceNe, Nat.reduceAdd, UInt8.reduceOfNat, UInt16.reduceOfNat, UInt32.reduceOfNat, UInt64.reduceOfNat, UInt64.reduceToNat, UInt32.reduceToNat, UInt16.reduceToNat, UInt8.reduceToNat, Int.reduceAdd, Int.reduceSub, Int.reduceMul, Nat.reduceMul, Qp0, Ql0, Qe0, rd_M, rdM_some, hp, e1]
    refine PW_plan [0, 1, 2, 4, 5, 3, 6, 7, 8] h1 (by kernel_rfl) (by decide +kernel) (by kernel_rfl) (by kernel_rfl) (by kernel_rfl) (fun c f h hq => by simp only [thenC_panic, thenK_panic, inBlk_panic, thenN_panic, vcRet_panic] at hq) (PH.Le.refl _).sub ?_
    simp -dsimp -implicitDefEqProofs (disch := first | omega | assumption | (simp only [Option.isSome_some, Qt0]; done) | (simp only [UInt64.reduceToNat, UInt32.reduceToNat, UInt8.reduceToNat, List.length_cons, List.length_nil, List.length_append, Int.toNat_natCast] <;> omega)) only [Nat.reduceLT, Nat.reduceLeDiff, Nat.reduceEqDiff, ↓reduceIte, Int.reduceLT, Int.reduceLE, Int.reduceToNat, Int.reduceEq, Int.reduceNe, Nat.reduceAdd, UInt8.reduceOfNat, UInt16.reduceOfNat, UInt32.reduceOfNat, UInt64.reduceOfNat, UInt64.reduceToNat, UInt32.reduceToNat, UInt16.reduceToNat, UInt8.reduceToNat, Int.reduceAdd, Int.reduceSub, Int.reduceMul, Nat.reduceMul, Qp0, Ql0, Qe0, rd_M, rdM_some, hp]
    refine hM.out.mono ?_
    rintro v hq ⟨rfl, hz⟩
    obtain rfl := hz.symm
    refine ⟨(PH.Le.refl _).sub, ?_⟩
    simp -dsimp -implicitDefEqProofs (disch := first | omega | assumption | (simp only [Option.isSome_some, Qt0]; done) | (simp only [UInt64.reduceToNat, UInt32.reduceToNat, UInt8.reduceToNat, List.length_cons, List.length_nil, List.length_append, Int.toNat_natCast] <;> omega)) only [Nat.reduceLT, Nat.reduceLeDiff, Nat.reduceEqDiff, ↓reduceIte, Int.reduceLT, Int.reduceLE, Int.reduceToNat, Int.reduceEq, Int.reduceNe, Nat.reduceAdd, UInt8.reduceOfNat, UInt16.reduceOfNat, UInt32.reduceOfNat, UInt64.reduceOfNat, UInt64.reduceToNat, UInt32.reduceToNat, UInt16.reduceToNat, UInt8.reduceToNat, Int.reduceAdd, Int.reduceSub, Int.reduceMul, Nat.reduceMul, Qp0, Ql0, Qe0, rd_M, rdM_some, hp]
    exact ⟨_, hle, by first | rfl | trivial, rfl⟩
  have e1 := decide_eq_false k1
  by_cases k2 : x.K = 2
  · have e2 := decide_eq_true k2
    have hB : bytesI x = some (flagB x.B) := by unfold bytesI; rw [if_neg k1, if_pos k2]
    rw [hB]
    have hM1 := Lib.hid (rnumber_any 1 (by omega) w0 h1)
    have hM0 := Lib.hid (rnumber_any 0 (by omega) w0 h1)
    cases hb : x.B with
    | true =>
      rw [hb] at hp
      simp -dsimp -implicitDefEqProofs (disch := first | omega | assumption | (simp only [Option.isSome_some, Qt0]; done) | (simp only [UInt64.reduceToNat, UInt32.reduceToNat, UInt8.reduceToNat, List.length_cons, List.length_nil, List.length_append, Int.toNat_natCast] <;> omega)) only [Nat.reduceLT, Nat.reduceLeDiff, Nat.reduceEqDiff, ↓reduceIte, Int.reduceLT, Int.reduceLE, Int.reduceToNat, Int.reduceEq, Int.reduceNe, Nat.reduceAdd, UInt8.reduceOfNat, UInt16.reduceOfNat, UInt32.reduceOfNat, UInt64.reduceOfNat, UInt64.reduceToNat, UInt32.reduceToNat, UInt16.reduceToNat, UInt8.reduceToNat, Int.reduceAdd, Int.reduceSub, Int.reduceMul, Nat.reduceMul, Qp0, Ql0, Qe0, rd_M, rdM_some, hp, e1, e2]
      refine hM1.out.mono ?_
      rintro v hq ⟨rfl, hz⟩
      obtain rfl := hz.symm
      simp -dsimp -implicitDefEqProofs (disch := first | omega | assumption | (simp only [Option.isSome_some, Qt0]; done) | (simp only [UInt64.reduceToNat, UInt32.reduceToNat, UInt8.reduceToNat, List.length_cons, List.length_nil, List.length_append, Int.toNat_natCast] <;> omega)) only [Nat.reduceLT, Nat.reduceLeDiff, Nat.reduceEqDiff, ↓reduceIte, Int.reduceLT, Int.reduceLE, Int.reduceToNat, Int.reduceEq, Int.reduceNe, Nat.reduceAdd, UInt8.reduceOfNat, UInt16.reduceOfNat, UInt32.reduceOfNat, UInt64.reduceOfNat, UInt64.reduceToNat, UInt32.reduceToNat, UInt16.reduceToNat, UInt8.reduceToNat, Int.reduceAdd, Int.reduceSub, Int.reduceMul, Nat.reduceMul, Qp0, Ql0, Qe0]
      exact ⟨_, hle, by first | rfl | trivial, rfl⟩
    | false =>
      rw [hb] at hp
      simp -dsimp -implicitDefEqProofs (disch := first | omega | assumption | (simp only [Option.isSome_some, Qt0]; done) | (simp only [UInt64.reduceToNat, UInt32.reduceToNat, UInt8.reduceToNat, List.length_cons, List.length_nil, List.length_append, Int.toNat_natCast] <;> omega)) only [Nat.reduceLT, Nat.reduceLeDiff, Nat.reduceEqDiff, ↓reduceIte, Int.reduceLT, Int.reduceLE, Int.reduceToNat, Int.reduceEq, Int.reduceNe, Nat.reduceAdd, UInt8.reduceOfNat, UInt16.reduceOfNat, UInt32.reduceOfNat, UInt64.reduceOfNat, UInt64.reduceToNat, UInt32.reduceToNat, UInt16.reduceToNat, UInt8.reduceToNat, Int.reduceAdd, Int.reduceSub, Int.reduceMul, Nat.reduceMul, Qp0, Ql0, Qe0, rd_M, rdM_some, hp, e1, e2]
      refine hM0.out.mono ?_
      rintro v hq ⟨rfl, hz⟩
      obtain rfl := hz.symm
      simp -dsimp -implicitDefEqProofs (disch := first | omega | assumption | (simp only [Option.isSome_some, Qt0]; done) | (simp only [UInt64.reduceToNat, UInt32.reduceToNat, UInt8.reduceToNat, List.length_cons, List.length_nil, List.length_append, Int.toNat_natCast] <;> omega)) only [Nat.reduceLT, Nat.reduceLeDiff, Nat.reduceEqDiff, ↓reduceIte, Int.reduceLT, Int.reduceLE, Int.reduceToNat, Int.reduceEq, Int.reduceNe, Nat.reduceAdd, UInt8.reduceOfNat, UInt16.reduceOfNat, UInt32.reduceOfNat, UInt64.reduceOfNat, UInt64.reduceToNat, UInt32.reduceToNat, UInt16.reduceToNat, UInt8.reduceToNat, Int.reduceAdd, Int.reduceSub, Int.reduceMul, Nat.reduceMul, Qp0, Ql0, Qe0]
      exact ⟨_, hle, by first | rfl | trivial, rfl⟩
  have e2 := decide_eq_false k2
  by_cases k3 : x.K = 3
  · have e3 := decide_eq_true k3
    have hT := PCalls_low fun hl => rtrimmed_any w0 h1 hl A cap x.V 4611686018427387903 hr1 hc (by omega)
    cases ht : trim x.V 4611686018427387903 with
    | false =>
      have hB : bytesI x = none := by unfold bytesI; rw [if_neg k1, if_neg k2, if_pos k3, ht, if_neg (by simp)]
      rw [hB]
      rw [ht] at hT
      have hT := Lib.hid hT
      simp -dsimp -implicitDefEqProofs (disch := first | omega | assumption | (simp only [Option.isSome_some, Qt0]; done) | (simp only [UInt64.reduceToNat, UInt32.reduceToNat, UInt8.reduceToNat, List.length_cons, List.length_nil, List.length_append, Int.toNat_natCast] <;> omega)) only [Nat.reduceLT, Nat.reduceLeDiff, Nat.reduceEqDiff, ↓reduceIte, Int.reduceLT, Int.reduceLE, Int.reduceToNat, Int.reduceEq, Int.reduceNe, Nat.reduceAdd, UInt8.reduceOfNat, UInt16.reduceOfNat, UInt32.reduceOfNat, UInt64.reduceOfNat, UInt64.reduceToNat, UInt32.reduceToNat, UInt16.reduceToNat, UInt8.reduceToNat, Int.reduceAdd, Int.reduceSub, Int.reduceMul, Nat.reduceMul, Qp0, Ql0, Qe0, rd_M, rdM_some, hp, e1, e2, e3]
      refine hT.out.mono ?_
      rintro v hq ⟨rfl, hz⟩
      obtain rfl := hz.symm
      simp -dsimp -implicitDefEqProofs (disch := first | omega | assumption | (simp only [Option.isSome_some, Qt0]; done) | (simp only [UInt64.reduceToNat, UInt32.reduceToNat, UInt8.reduceToNat, List.length_cons, List.length_nil, List.length_append, Int.toNat_natCast] <;> omega)) only [Nat.reduceLT, Nat.reduceLeDiff, Nat.reduceEqDiff, ↓reduceIte, Int.reduceLT, Int.reduceLE, Int.reduceToNat, Int.reduceEq, Int.reduceNe, Nat.reduceAdd, UInt8.reduceOfNat, UInt16.reduceOfNat, UInt32.reduceOfNat, UInt64.reduceOfNat, UInt64.reduceToNat, UInt32.reduceToNat, UInt16.reduceToNat, UInt8.reduceToNat, Int.reduceAdd, Int.reduceSub, Int.reduceMul, Nat.reduceMul, Qp0, Ql0, Qe0]
      exact ⟨_, hle, by first | rfl | trivial, rfl⟩
    | true =>
      have hB : bytesI x = some (vecB x.V) := by unfold bytesI; rw [if_neg k1, if_neg k2, if_pos k3, ht, if_pos rfl]
      rw [hB]
      rw [ht] at hT
      have hT := Lib.hid hT
      have h16 := trim_len ht
      have hall := trim_iff.1 ht
      have hM := Lib.hid (rnumber_any x.V.length (by omega) w0 h1)
      simp -dsimp -implicitDefEqProofs (disch := first | omega | assumption | (simp only [Option.isSome_some, Qt0]; done) | (simp only [UInt64.reduceToNat, UInt32.reduceToNat, UInt8.reduceToNat, List.length_cons, List.length_nil, List.length_append, Int.toNat_natCast] <;> omega)) only [Nat.reduceLT, Nat.reduceLeDiff, Nat.reduceEqDiff, ↓reduceIte, Int.reduceLT, Int.reduceLE, Int.reduceToNat, Int.reduceEq, Int.reduceNe, Nat.reduceAdd, UInt8.reduceOfNat, UInt16.reduceOfNat, UInt32.reduceOfNat, UInt64.reduceOfNat, UInt64.reduceToNat, UInt32.reduceToNat, UInt16.reduceToNat, UInt8.reduceToNat, Int.reduceAdd, Int.reduceSub, Int.reduceMul, Nat.reduceMul, Qp0, Ql0, Qe0, rd_M, rdM_some, hp, e1, e2, e3]
      refine hT.out.mono ?_
      rintro v hq ⟨rfl, hz⟩
      obtain rfl := hz.symm
      simp -dsimp -implicitDefEqProofs (disch := first | omega | assumption | (simp only [Option.isSome_some, Qt0]; done) | (simp only [UInt64.reduceToNat, UInt32.reduceToNat, UInt8.reduceToNat, List.length_cons, List.length_nil, List.length_append, Int.toNat_natCast] <;> omega)) only [Nat.reduceLT, Nat.reduceLeDiff, Nat.reduceEqDiff, ↓reduceIte, Int.reduceLT, Int.reduceLE, Int.reduceToNat, Int.reduceEq, Int.reduceNe, Nat.reduceAdd, UInt8.reduceOfNat, UInt16.reduceOfNat, UInt32.reduceOfNat, UInt64.reduceOfNat, UInt64.reduceToNat, UInt32.reduceToNat, UInt16.reduceToNat, UInt8.reduceToNat, Int.reduceAdd, Int.reduceSub, Int.reduceMul, Nat.reduceMul, Qp0, Ql0, Qe0, rd_M, rdM_some, hp]
      refine hM.out.mono ?_
      rintro v hq ⟨rfl, hz⟩
      obtain rfl := hz.symm
      simp -dsimp -implicitDefEqProofs (disch := first | omega | assumption | (simp only [Option.isSome_some, Qt0]; done) | (simp only [UInt64.reduceToNat, UInt32.reduceToNat, UInt8.reduceToNat, List.length_cons, List.length_nil, List.length_append, Int.toNat_natCast] <;> omega)) only [Nat.reduceLT, Nat.reduceLeDiff, Nat.reduceEqDiff, ↓reduceIte, Int.reduceLT, Int.reduceLE, Int.reduceToNat, Int.reduceEq, Int.reduceNe, Nat.reduceAdd, UInt8.reduceOfNat, UInt16.reduceOfNat, UInt32.reduceOfNat, UInt64.reduceOfNat, UInt64.reduceToNat, UInt32.reduceToNat, UInt16.reduceToNat, UInt8.reduceToNat, Int.reduceAdd, Int.reduceSub, Int.reduceMul, Nat.reduceMul, Qp0, Ql0, Qe0, rd_M, rdM_some, hp]
      refine PW_loopL (fun n f h' => ∃ i : Nat, n + i = x.V.length ∧ f 1 = some (.pointer (some ⟨pb, 0, none⟩)) ∧ f 4 = some (str (numB x.V.length ++ (x.V.take i).flatMap fun n => numB n.toNat)) ∧ f 5 = some (.int .i64 i) ∧ h' = h1) (by kernel_rfl) x.V.length ⟨0, by omega, ?_, ?_, ?_, rfl⟩ ?_
      · simp -dsimp -implicitDefEqProofs (disch := first | omega | assumption | (simp only [Option.isSome_some, Qt0]; done) | (simp only [UInt64.reduceToNat, UInt32.reduceToNat, UInt8.reduceToNat, List.length_cons, List.length_nil, List.length_append, Int.toNat_natCast] <;> omega)) only [Nat.reduceLT, Nat.reduceLeDiff, Nat.reduceEqDiff, ↓reduceIte, Int.reduceLT, Int.reduceLE, Int.reduceToNat, Int.reduceEq, Int.reduceNe, Nat.reduceAdd, UInt8.reduceOfNat, UInt16.reduceOfNat, UInt32.reduceOfNat, UInt64.reduceOfNat, UInt64.reduceToNat, UInt32.reduceToNat, UInt16.reduceToNat, UInt8.reduceToNat, Int.reduceAdd, Int.reduceSub, Int.reduceMul, Nat.reduceMul, Qp0, Ql0, Qe0]
      · simp -dsimp -implicitDefEqProofs (disch := first | omega | assumption | (simp only [Option.isSome_some, Qt0]; done) | (simp only [UInt64.reduceToNat, UInt32.reduceToNat, UInt8.reduceToNat, List.length_cons, List.length_nil, List.length_append, Int.toNat_natCast] <;> omega)) only [Nat.reduceLT, Nat.reduceLeDiff, Nat.reduceEqDiff, ↓reduceIte, Int.reduceLT, Int.reduceLE, Int.reduceToNat, Int.reduceEq, Int.reduceNe, Nat.reduceAdd, UInt8.reduceOfNat, UInt16.reduceOfNat, UInt32.reduceOfNat, UInt64.reduceOfNat, UInt64.reduceToNat, UInt32.reduceToNat, UInt16.reduceToNat, UInt8.reduceToNat, Int.reduceAdd, Int.reduceSub, Int.reduceMul, Nat.reduceMul, Qp0, Ql0, Qe0]
        simp
      · simp -dsimp -implicitDefEqProofs (disch := first | omega | assumption | (simp only [Option.isSome_some, Qt0]; done) | (simp only [UInt64.reduceToNat, UInt32.reduceToNat, UInt8.reduceToNat, List.length_cons, List.length_nil, List.length_append, Int.toNat_natCast] <;> omega)) only [Nat.reduceLT, Nat.reduceLeDiff, Nat.reduceEqDiff, ↓reduceIte, Int.reduceLT, Int.reduceLE, Int.reduceToNat, Int.reduceEq, Int.reduceNe, Nat.reduceAdd, UInt8.reduceOfNat, UInt16.reduceOfNat, UInt32.reduceOfNat, UInt64.reduceOfNat, UInt64.reduceToNat, UInt32.reduceToNat, UInt16.reduceToNat, UInt8.reduceToNat, Int.reduceAdd, Int.reduceSub, Int.reduceMul, Nat.reduceMul, Qp0, Ql0, Qe0]
        try rfl
      rintro n f h' ⟨i, hni, f1, f4, f5, rfl⟩ hl'
      have hlen : (numB x.V.length ++ (x.V.take i).flatMap fun n => numB n.toNat).length ≤ 1000 := by
        have h5 := numB_len9 (n := x.V.length) (by omega)
        have h6 := flat_len_le (x.V.take i) (fun n hn => by have := trim_all ht n (List.mem_of_mem_take hn); omega)
        simp only [List.length_append]
        simp only [List.length_take] at h6
        omega
      by_cases hi : i < x.V.length
      · have e4 : decide ((i : Int) < (x.V.length : Int)) = true := decide_eq_true (by omega)
        have hb := hall.2.2 i hi
        have hN := rnumber_any (x.V.getD i 0).toNat (by omega) w0 h'
        have hnl := numB_len9 (n := (x.V.getD i 0).toNat) (by omega)
        rw [show (((x.V.getD i 0).toNat : Nat) : Int) = x.V.getD i 0 by omega] at hN
        have hN := Lib.hid hN
        obtain ⟨b, o, rfl⟩ := hr.addr (by simp [ints]; omega)
        have hg := hr1.get hl' (j := i) (u := .int .i64 (x.V.getD i 0)) (by rw [ints, List.getElem?_map, List.getD, List.getElem?_eq_getElem hi]; rfl)
        have hnx : (numB x.V.length ++ (x.V.take i).flatMap fun n => numB n.toNat) ++ numB (x.V.getD i 0).toNat = numB x.V.length ++ (x.V.take (i + 1)).flatMap fun n => numB n.toNat := by rw [vecB_take _ _ hi, List.append_assoc]
        generalize (numB x.V.length ++ (x.V.take i).flatMap fun n => numB n.toNat) = C at *
        simp -dsimp -implicitDefEqProofs (disch := first | omega | assumption | (simp only [Option.isSome_some, Qt0]; done) | (simp only [UInt64.reduceToNat, UInt32.reduceToNat, UInt8.reduceToNat, List.length_cons, List.length_nil, List.length_append, Int.toNat_natCast] <;> omega)) only [Nat.reduceLT, Nat.reduceLeDiff, Nat.reduceEqDiff, ↓reduceIte, Int.reduceLT, Int.reduceLE, Int.reduceToNat, Int.reduceEq, Int.reduceNe, Nat.reduceAdd, UInt8.reduceOfNat, UInt16.reduceOfNat, UInt32.reduceOfNat, UInt64.reduceOfNat, UInt64.reduceToNat, UInt32.reduceToNat, UInt16.reduceToNat, UInt8.reduceToNat, Int.reduceAdd, Int.reduceSub, Int.reduceMul, Nat.reduceMul, Qp0, Ql0, Qe0, f1, f4, f5, rd_M, rdM_some, hp, e4, hg]
        refine hN.out.mono ?_
        rintro v hq ⟨rfl, hz⟩
        obtain rfl := hz.symm
        simp -dsimp -implicitDefEqProofs (disch := first | omega | assumption | (simp only [Option.isSome_some, Qt0]; done) | (simp only [UInt64.reduceToNat, UInt32.reduceToNat, UInt8.reduceToNat, List.length_cons, List.length_nil, List.length_append, Int.toNat_natCast] <;> omega)) only [Nat.reduceLT, Nat.reduceLeDiff, Nat.reduceEqDiff, ↓reduceIte, Int.reduceLT, Int.reduceLE, Int.reduceToNat, Int.reduceEq, Int.reduceNe, Nat.reduceAdd, UInt8.reduceOfNat, UInt16.reduceOfNat, UInt32.reduceOfNat, UInt64.reduceOfNat, UInt64.reduceToNat, UInt32.reduceToNat, UInt16.reduceToNat, UInt8.reduceToNat, Int.reduceAdd, Int.reduceSub, Int.reduceMul, Nat.reduceMul, Qp0, Ql0, Qe0, f1, f4, f5, rd_M, rdM_some, hp]
        exact ⟨n - 1, _, by omega, PH.Le.refl _, i + 1, by omega, by trivial, by rw [← hnx], by simp, rfl⟩
      · obtain rfl : i = x.V.length := by omega
        have e4 : decide ((x.V.length : Int) < (x.V.length : Int)) = false := decide_eq_false (by omega)
        rw [List.take_length] at f4
        simp -dsimp -implicitDefEqProofs (disch := first | omega | assumption | (simp only [Option.isSome_some, Qt0]; done) | (simp only [UInt64.reduceToNat, UInt32.reduceToNat, UInt8.reduceToNat, List.length_cons, List.length_nil, List.length_append, Int.toNat_natCast] <;> omega)) only [Nat.reduceLT, Nat.reduceLeDiff, Nat.reduceEqDiff, ↓reduceIte, Int.reduceLT, Int.reduceLE, Int.reduceToNat, Int.reduceEq, Int.reduceNe, Nat.reduceAdd, UInt8.reduceOfNat, UInt16.reduceOfNat, UInt32.reduceOfNat, UInt64.reduceOfNat, UInt64.reduceToNat, UInt32.reduceToNat, UInt16.reduceToNat, UInt8.reduceToNat, Int.reduceAdd, Int.reduceSub, Int.reduceMul, Nat.reduceMul, Qp0, Ql0, Qe0, f1, f4, f5, rd_M, rdM_some, hp, e4]
        exact ⟨_, hle, by first | rfl | trivial, rfl⟩
  have e3 := decide_eq_false k3
  by_cases hneg : x.N < 0
  · have e4 := decide_eq_true hneg
    have hB : bytesI x = none := by unfold bytesI; rw [if_neg k1, if_neg k2, if_neg k3, if_pos (.inl hneg)]
    rw [hB]
    simp -dsimp -implicitDefEqProofs (disch := first | omega | assumption | (simp only [Option.isSome_some, Qt0]; done) | (simp only [UInt64.reduceToNat, UInt32.reduceToNat, UInt8.reduceToNat, List.length_cons, List.length_nil, List.length_append, Int.toNat_natCast] <;> omega)) only [Nat.reduceLT, Nat.reduceLeDiff, Nat.reduceEqDiff, ↓reduceIte, Int.reduceLT, Int.reduceLE, Int.reduceToNat, Int.reduceEq, Int.reduceNe, Nat.reduceAdd, UInt8.reduceOfNat, UInt16.reduceOfNat, UInt32.reduceOfNat, UInt64.reduceOfNat, UInt64.reduceToNat, UInt32.reduceToNat, UInt16.reduceToNat, UInt8.reduceToNat, Int.reduceAdd, Int.reduceSub, Int.reduceMul, Nat.reduceMul, Qp0, Ql0, Qe0, rd_M, rdM_some, hp, e1, e2, e3, e4]
    exact ⟨_, hle, by first | rfl | trivial, rfl⟩
  have e4 := decide_eq_false hneg
  by_cases hbig : x.N > 4611686018427387903
  · have e5 := decide_eq_true hbig
    have hB : bytesI x = none := by unfold bytesI; rw [if_neg k1, if_neg k2, if_neg k3, if_pos (.inr hbig)]
    rw [hB]
    simp -dsimp -implicitDefEqProofs (disch := first | omega | assumption | (simp only [Option.isSome_some, Qt0]; done) | (simp only [UInt64.reduceToNat, UInt32.reduceToNat, UInt8.reduceToNat, List.length_cons, List.length_nil, List.length_append, Int.toNat_natCast] <;> omega)) only [Nat.reduceLT, Nat.reduceLeDiff, Nat.reduceEqDiff, ↓reduceIte, Int.reduceLT, Int.reduceLE, Int.reduceToNat, Int.reduceEq, Int.reduceNe, Nat.reduceAdd, UInt8.reduceOfNat, UInt16.reduceOfNat, UInt32.reduceOfNat, UInt64.reduceOfNat, UInt64.reduceToNat, UInt32.reduceToNat, UInt16.reduceToNat, UInt8.reduceToNat, Int.reduceAdd, Int.reduceSub, Int.reduceMul, Nat.reduceMul, Qp0, Ql0, Qe0, rd_M, rdM_some, hp, e1, e2, e3, e4, e5]
    exact ⟨_, hle, by first | rfl | trivial, rfl⟩
  have e5 := decide_eq_false hbig
  have hB : bytesI x = some (numB x.N.toNat) := by unfold bytesI; rw [if_neg k1, if_neg k2, if_neg k3, if_neg (by omega)]
  rw [hB]
  have hM := rnumber_any x.N.toNat (by omega) w0 h1
  rw [show ((x.N.toNat : Nat) : Int) = x.N by omega] at hM
  have hM := Lib.hid hM
  simp -dsimp -implicitDefEqProofs (disch := first | omega | assumption | (simp only [Option.isSome_some, Qt0]; done) | (simp only [UInt64.reduceToNat, UInt32.reduceToNat, UInt8.reduceToNat, List.length_cons, List.length_nil, List.length_append, Int.toNat_natCast] <;> omega)) only [Nat.reduceLT, Nat.reduceLeDiff, Nat.reduceEqDiff, ↓reduceIte, Int.reduceLT, Int.reduceLE, Int.reduceToNat, Int.reduceEq, Int.reduceNe, Nat.reduceAdd, UInt8.reduceOfNat, UInt16.reduceOfNat, UInt32.reduceOfNat, UInt64.reduceOfNat, UInt64.reduceToNat, UInt32.reduceToNat, UInt16.reduceToNat, UInt8.reduceToNat, Int.reduceAdd, Int.reduceSub, Int.reduceMul, Nat.reduceMul, Qp0, Ql0, Qe0, rd_M, rdM_some, hp, e1, e2, e3, e4, e5]
  refine hM.out.mono ?_
  rintro v hq ⟨rfl, hz⟩
  obtain rfl := hz.symm
  simp -dsimp -implicitDefEqProofs (disch := first | omega | assumption | (simp only [Option.isSome_some, Qt0]; done) | (simp only [UInt64.reduceToNat, UInt32.reduceToNat, UInt8.reduceToNat, List.length_cons, List.length_nil, List.length_append, Int.toNat_natCast] <;> omega)) only [Nat.reduceLT, Nat.reduceLeDiff, Nat.reduceEqDiff, ↓reduceIte, Int.reduceLT, Int.reduceLE, Int.reduceToNat, Int.reduceEq, Int.reduceNe, Nat.reduceAdd, UInt8.reduceOfNat, UInt16.reduceOfNat, UInt32.reduceOfNat, UInt64.reduceOfNat, UInt64.reduceToNat, UInt32.reduceToNat, UInt16.reduceToNat, UInt8.reduceToNat, Int.reduceAdd, Int.reduceSub, Int.reduceMul, Nat.reduceMul, Qp0, Ql0, Qe0]
  exact ⟨_, hle, by first | rfl | trivial, rfl⟩
/-- A row of items. -/
def Items (w0 : World) (h : PH) (A : Option Addr) (L : List It) : Prop :=
  ∀ (i : Nat) (x : It), L[i]? = some x → x.N ≤ 9223372036854775807 ∧ x.S.length ≤ 900000 ∧ x.V.length ≤ 900000 ∧ ∃ b o Ai cap, A = some ⟨b, o, none⟩ ∧ x.V.length ≤ cap ∧ Rv w0 h Ai (ints x.V) ∧ ∀ h', PH.Le h h' → Low w0 h' → rdN w0 h' ⟨b, o + i * 5, none⟩ 5 = some (itL x Ai cap)
def wres : WS → Value
  | (l, none) => .tuple #[str l, .int .i64 0, .int .i64 0]
  | (_, some (k, p)) => .tuple #[str [], .int .i64 k, .int .i64 p]
set_option maxRecDepth 20000 in
set_option maxHeartbeats 2000000 in
theorem written_any (w0 : World) (h : PH) (A : Option Addr) (c : Nat) (L : List It) (hL : L.length ≤ 1000000) (hr : Items w0 h A L) : PCalls Try.prog w0 53 [.slice A L.length c] h fun r h' => r = wres (writtenM L) ∧ PH.Le h h' := by
  refine PCalls_body Try.func53 (by kernel_rfl) rfl _ Try.ntmps53 (by kernel_rfl) (by kernel_rfl) _ Try.results53 ?_
  simp -dsimp -implicitDefEqProofs (disch := first | omega | assumption | (simp only [Option.isSome_some, Qt0]; done) | (simp only [UInt64.reduceToNat, UInt32.reduceToNat, UInt8.reduceToNat, List.length_cons, List.length_nil, List.length_append, Int.toNat_natCast] <;> omega)) only [Nat.reduceLT, Nat.reduceLeDiff, Nat.reduceEqDiff, ↓reduceIte, Int.reduceLT, Int.reduceLE, Int.reduceToNat, Int.reduceEq, Int.reduceNe, Nat.reduceAdd, UInt8.reduceOfNat, UInt16.reduceOfNat, UInt32.reduceOfNat, UInt64.reduceOfNat, UInt64.reduceToNat, UInt32.reduceToNat, UInt16.reduceToNat, UInt8.reduceToNat, Int.reduceAdd, Int.reduceSub, Int.reduceMul, Nat.reduceMul, Qp0, Ql0, Qe0]
  refine Does_zero el_u8 fun b0 hb0 => ?_
  simp -dsimp -implicitDefEqProofs (disch := first | omega | assumption | (simp only [Option.isSome_some, Qt0]; done) | (simp only [UInt64.reduceToNat, UInt32.reduceToNat, UInt8.reduceToNat, List.length_cons, List.length_nil, List.length_append, Int.toNat_natCast] <;> omega)) only [Nat.reduceLT, Nat.reduceLeDiff, Nat.reduceEqDiff, ↓reduceIte, Int.reduceLT, Int.reduceLE, Int.reduceToNat, Int.reduceEq, Int.reduceNe, Nat.reduceAdd, UInt8.reduceOfNat, UInt16.reduceOfNat, UInt32.reduceOfNat, UInt64.reduceOfNat, UInt64.reduceToNat, UInt32.reduceToNat, UInt16.reduceToNat, UInt8.reduceToNat, Int.reduceAdd, Int.reduceSub, Int.reduceMul, Nat.reduceMul, Qp0, Ql0, Qe0]
  refine PW_loopL (fun n f h' => ∃ (i : Nat) (out : List UInt8) (v : Value), n + i = L.length ∧ f 0 = some (.slice A L.length c) ∧ f 5 = some v ∧ f 6 = some (.int .i64 i) ∧ out.length ≤ 65536 ∧ OwnS h h' 1 v out.length (bs out) ∧ (L.take i).foldl stepI ([], none) = (out, none)) (by kernel_rfl) L.length ⟨0, [], _, by omega, ?_, ?_, ?_, by simp, OwnS.zero 1 hb0, rfl⟩ ?_
  · simp -dsimp -implicitDefEqProofs (disch := first | omega | assumption | (simp only [Option.isSome_some, Qt0]; done) | (simp only [UInt64.reduceToNat, UInt32.reduceToNat, UInt8.reduceToNat, List.length_cons, List.length_nil, List.length_append, Int.toNat_natCast] <;> omega)) only [Nat.reduceLT, Nat.reduceLeDiff, Nat.reduceEqDiff, ↓reduceIte, Int.reduceLT, Int.reduceLE, Int.reduceToNat, Int.reduceEq, Int.reduceNe, Nat.reduceAdd, UInt8.reduceOfNat, UInt16.reduceOfNat, UInt32.reduceOfNat, UInt64.reduceOfNat, UInt64.reduceToNat, UInt32.reduceToNat, UInt16.reduceToNat, UInt8.reduceToNat, Int.reduceAdd, Int.reduceSub, Int.reduceMul, Nat.reduceMul, Qp0, Ql0, Qe0]
  · simp -dsimp -implicitDefEqProofs (disch := first | omega | assumption | (simp only [Option.isSome_some, Qt0]; done) | (simp only [UInt64.reduceToNat, UInt32.reduceToNat, UInt8.reduceToNat, List.length_cons, List.length_nil, List.length_append, Int.toNat_natCast] <;> omega)) only [Nat.reduceLT, Nat.reduceLeDiff, Nat.reduceEqDiff, ↓reduceIte, Int.reduceLT, Int.reduceLE, Int.reduceToNat, Int.reduceEq, Int.reduceNe, Nat.reduceAdd, UInt8.reduceOfNat, UInt16.reduceOfNat, UInt32.reduceOfNat, UInt64.reduceOfNat, UInt64.reduceToNat, UInt32.reduceToNat, UInt16.reduceToNat, UInt8.reduceToNat, Int.reduceAdd, Int.reduceSub, Int.reduceMul, Nat.reduceMul, Qp0, Ql0, Qe0]
  · simp -dsimp -implicitDefEqProofs (disch := first | omega | assumption | (simp only [Option.isSome_some, Qt0]; done) | (simp only [UInt64.reduceToNat, UInt32.reduceToNat, UInt8.reduceToNat, List.length_cons, List.length_nil, List.length_append, Int.toNat_natCast] <;> omega)) only [Nat.reduceLT, Nat.reduceLeDiff, Nat.reduceEqDiff, ↓reduceIte, Int.reduceLT, Int.reduceLE, Int.reduceToNat, Int.reduceEq, Int.reduceNe, Nat.reduceAdd, UInt8.reduceOfNat, UInt16.reduceOfNat, UInt32.reduceOfNat, UInt64.reduceOfNat, UInt64.reduceToNat, UInt32.reduceToNat, UInt16.reduceToNat, UInt8.reduceToNat, Int.reduceAdd, Int.reduceSub, Int.reduceMul, Nat.reduceMul, Qp0, Ql0, Qe0]
    try rfl
  rintro n f h' ⟨i, out, v, hni, f0, f5, f6, hol, how, hW⟩ hl'
  obtain ⟨Ao, co, rfl, hco⟩ := how.own.len
  by_cases hi : i < L.length
  · have e1 : decide ((i : Int) < (L.length : Int)) = true := decide_eq_true (by omega)
    obtain ⟨x, hx⟩ : ∃ x, L[i]? = some x := ⟨_, List.getElem?_eq_getElem hi⟩
    obtain ⟨hxN, hxS, hxV, b, o, Ai, cap, rfl, hcap, hrv, hrd⟩ := hr i x hx
    have hrd := hrd h' how.le hl'
    have hB := rbytes_any x Ai cap hxN (by omega) (by omega) hcap w0 h' (hrv.more how.le)
    have hnext := writtenM_next hx
    rw [hW] at hnext
    unfold stepI at hnext
    simp only [Option.isSome_none, Bool.false_eq_true, if_false] at hnext
    cases hb : bytesI x with
    | none =>
      rw [hb] at hnext
      rw [writtenM_bad hnext rfl]
      have hg1 : (none : Option (List UInt8)).getD [] = [] := rfl
      have hg2 : (none : Option (List UInt8)).isSome = false := rfl
      rw [hb, hg1, hg2] at hB
      have hB := Lib.hid hB
      simp -dsimp -implicitDefEqProofs (disch := first | omega | assumption | (simp only [Option.isSome_some, Qt0]; done) | (simp only [UInt64.reduceToNat, UInt32.reduceToNat, UInt8.reduceToNat, List.length_cons, List.length_nil, List.length_append, Int.toNat_natCast] <;> omega)) only [Nat.reduceLT, Nat.reduceLeDiff, Nat.reduceEqDiff, ↓reduceIte, Int.reduceLT, Int.reduceLE, Int.reduceToNat, Int.reduceEq, Int.reduceNe, Nat.reduceAdd, UInt8.reduceOfNat, UInt16.reduceOfNat, UInt32.reduceOfNat, UInt64.reduceOfNat, UInt64.reduceToNat, UInt32.reduceToNat, UInt16.reduceToNat, UInt8.reduceToNat, Int.reduceAdd, Int.reduceSub, Int.reduceMul, Nat.reduceMul, Qp0, Ql0, Qe0, f0, f5, f6, e1, hrd]
      refine hB.out.mono ?_
      rintro v hq ⟨rfl, hz⟩
      obtain rfl := hz.symm
      simp -dsimp -implicitDefEqProofs (disch := first | omega | assumption | (simp only [Option.isSome_some, Qt0]; done) | (simp only [UInt64.reduceToNat, UInt32.reduceToNat, UInt8.reduceToNat, List.length_cons, List.length_nil, List.length_append, Int.toNat_natCast] <;> omega)) only [Nat.reduceLT, Nat.reduceLeDiff, Nat.reduceEqDiff, ↓reduceIte, Int.reduceLT, Int.reduceLE, Int.reduceToNat, Int.reduceEq, Int.reduceNe, Nat.reduceAdd, UInt8.reduceOfNat, UInt16.reduceOfNat, UInt32.reduceOfNat, UInt64.reduceOfNat, UInt64.reduceToNat, UInt32.reduceToNat, UInt16.reduceToNat, UInt8.reduceToNat, Int.reduceAdd, Int.reduceSub, Int.reduceMul, Nat.reduceMul, Qp0, Ql0, Qe0, f0, f5, f6]
      exact ⟨_, PH.Le.refl _, by first | rfl | trivial, how.le⟩
    | some y =>
      rw [hb] at hnext
      simp only at hnext
      unfold putM at hnext
      simp only [Option.isSome_none, Bool.false_eq_true, if_false] at hnext
      have hg1 : (some y : Option (List UInt8)).getD [] = y := rfl
      have hg2 : (some y : Option (List UInt8)).isSome = true := rfl
      rw [hb, hg1, hg2] at hB
      have hB := Lib.hid hB
      by_cases hlong : 65536 < out.length + y.length
      · rw [if_pos hlong] at hnext
        rw [writtenM_bad hnext rfl]
        have e2 : decide ((y.length : Int) > 65536 - (out.length : Int)) = true := decide_eq_true (by omega)
        simp -dsimp -implicitDefEqProofs (disch := first | omega | assumption | (simp only [Option.isSome_some, Qt0]; done) | (simp only [UInt64.reduceToNat, UInt32.reduceToNat, UInt8.reduceToNat, List.length_cons, List.length_nil, List.length_append, Int.toNat_natCast] <;> omega)) only [Nat.reduceLT, Nat.reduceLeDiff, Nat.reduceEqDiff, ↓reduceIte, Int.reduceLT, Int.reduceLE, Int.reduceToNat, Int.reduceEq, Int.reduceNe, Nat.reduceAdd, UInt8.reduceOfNat, UInt16.reduceOfNat, UInt32.reduceOfNat, UInt64.reduceOfNat, UInt64.reduceToNat, UInt32.reduceToNat, UInt16.reduceToNat, UInt8.reduceToNat, Int.reduceAdd, Int.reduceSub, Int.reduceMul, Nat.reduceMul, Qp0, Ql0, Qe0, f0, f5, f6, e1, hrd]
        refine hB.out.mono ?_
        rintro v hq ⟨rfl, hz⟩
        obtain rfl := hz.symm
        simp -dsimp -implicitDefEqProofs (disch := first | omega | assumption | (simp only [Option.isSome_some, Qt0]; done) | (simp only [UInt64.reduceToNat, UInt32.reduceToNat, UInt8.reduceToNat, List.length_cons, List.length_nil, List.length_append, Int.toNat_natCast] <;> omega)) only [Nat.reduceLT, Nat.reduceLeDiff, Nat.reduceEqDiff, ↓reduceIte, Int.reduceLT, Int.reduceLE, Int.reduceToNat, Int.reduceEq, Int.reduceNe, Nat.reduceAdd, UInt8.reduceOfNat, UInt16.reduceOfNat, UInt32.reduceOfNat, UInt64.reduceOfNat, UInt64.reduceToNat, UInt32.reduceToNat, UInt16.reduceToNat, UInt8.reduceToNat, Int.reduceAdd, Int.reduceSub, Int.reduceMul, Nat.reduceMul, Qp0, Ql0, Qe0, f0, f5, f6, e2]
        exact ⟨_, PH.Le.refl _, by first | rfl | trivial, how.le⟩
      · rw [if_neg hlong] at hnext
        have e2 : decide ((y.length : Int) > 65536 - (out.length : Int)) = false := decide_eq_false (by omega)
        simp -dsimp -implicitDefEqProofs (disch := first | omega | assumption | (simp only [Option.isSome_some, Qt0]; done) | (simp only [UInt64.reduceToNat, UInt32.reduceToNat, UInt8.reduceToNat, List.length_cons, List.length_nil, List.length_append, Int.toNat_natCast] <;> omega)) only [Nat.reduceLT, Nat.reduceLeDiff, Nat.reduceEqDiff, ↓reduceIte, Int.reduceLT, Int.reduceLE, Int.reduceToNat, Int.reduceEq, Int.reduceNe, Nat.reduceAdd, UInt8.reduceOfNat, UInt16.reduceOfNat, UInt32.reduceOfNat, UInt64.reduceOfNat, UInt64.reduceToNat, UInt32.reduceToNat, UInt16.reduceToNat, UInt8.reduceToNat, Int.reduceAdd, Int.reduceSub, Int.reduceMul, Nat.reduceMul, Qp0, Ql0, Qe0, f0, f5, f6, e1, hrd]
        refine hB.out.mono ?_
        rintro v hq ⟨rfl, hz⟩
        obtain rfl := hz.symm
        simp -dsimp -implicitDefEqProofs (disch := first | omega | assumption | (simp only [Option.isSome_some, Qt0]; done) | (simp only [UInt64.reduceToNat, UInt32.reduceToNat, UInt8.reduceToNat, List.length_cons, List.length_nil, List.length_append, Int.toNat_natCast] <;> omega)) only [Nat.reduceLT, Nat.reduceLeDiff, Nat.reduceEqDiff, ↓reduceIte, Int.reduceLT, Int.reduceLE, Int.reduceToNat, Int.reduceEq, Int.reduceNe, Nat.reduceAdd, UInt8.reduceOfNat, UInt16.reduceOfNat, UInt32.reduceOfNat, UInt64.reduceOfNat, UInt64.reduceToNat, UInt32.reduceToNat, UInt16.reduceToNat, UInt8.reduceToNat, Int.reduceAdd, Int.reduceSub, Int.reduceMul, Nat.reduceMul, Qp0, Ql0, Qe0, f0, f5, f6, e2]
        refine Does_appT el_u8 Try.underlying9 how.own (by omega) (fun v' h4 ho hst _ => ?_)
        rw [← List.length_append, ← bs_append] at ho
        simp -dsimp -implicitDefEqProofs (disch := first | omega | assumption | (simp only [Option.isSome_some, Qt0]; done) | (simp only [UInt64.reduceToNat, UInt32.reduceToNat, UInt8.reduceToNat, List.length_cons, List.length_nil, List.length_append, Int.toNat_natCast] <;> omega)) only [Nat.reduceLT, Nat.reduceLeDiff, Nat.reduceEqDiff, ↓reduceIte, Int.reduceLT, Int.reduceLE, Int.reduceToNat, Int.reduceEq, Int.reduceNe, Nat.reduceAdd, UInt8.reduceOfNat, UInt16.reduceOfNat, UInt32.reduceOfNat, UInt64.reduceOfNat, UInt64.reduceToNat, UInt32.reduceToNat, UInt16.reduceToNat, UInt8.reduceToNat, Int.reduceAdd, Int.reduceSub, Int.reduceMul, Nat.reduceMul, Qp0, Ql0, Qe0, f0, f5, f6]
        exact ⟨n - 1, _, by omega, PH.Le.refl _, i + 1, out ++ y, v', by omega, by trivial, by trivial, by simp, by simp; omega, how.stays hst ho, hnext⟩
  · have e1 : decide ((i : Int) < (L.length : Int)) = false := decide_eq_false (by omega)
    have hW' : writtenM L = (out, none) := by unfold writtenM; rw [← hW, List.take_of_length_le (by omega)]
    rw [hW']
    simp -dsimp -implicitDefEqProofs (disch := first | omega | assumption | (simp only [Option.isSome_some, Qt0]; done) | (simp only [UInt64.reduceToNat, UInt32.reduceToNat, UInt8.reduceToNat, List.length_cons, List.length_nil, List.length_append, Int.toNat_natCast] <;> omega)) only [Nat.reduceLT, Nat.reduceLeDiff, Nat.reduceEqDiff, ↓reduceIte, Int.reduceLT, Int.reduceLE, Int.reduceToNat, Int.reduceEq, Int.reduceNe, Nat.reduceAdd, UInt8.reduceOfNat, UInt16.reduceOfNat, UInt32.reduceOfNat, UInt64.reduceOfNat, UInt64.reduceToNat, UInt32.reduceToNat, UInt16.reduceToNat, UInt8.reduceToNat, Int.reduceAdd, Int.reduceSub, Int.reduceMul, Nat.reduceMul, Qp0, Ql0, Qe0, f0, f5, f6, e1]
    refine vtext_own Try.underlying49 Try.underlying5 Try.underlying9 (Rs.own how.own) how.own.nil_zero ?_
    simp -dsimp -implicitDefEqProofs (disch := first | omega | assumption | (simp only [Option.isSome_some, Qt0]; done) | (simp only [UInt64.reduceToNat, UInt32.reduceToNat, UInt8.reduceToNat, List.length_cons, List.length_nil, List.length_append, Int.toNat_natCast] <;> omega)) only [Nat.reduceLT, Nat.reduceLeDiff, Nat.reduceEqDiff, ↓reduceIte, Int.reduceLT, Int.reduceLE, Int.reduceToNat, Int.reduceEq, Int.reduceNe, Nat.reduceAdd, UInt8.reduceOfNat, UInt16.reduceOfNat, UInt32.reduceOfNat, UInt64.reduceOfNat, UInt64.reduceToNat, UInt32.reduceToNat, UInt16.reduceToNat, UInt8.reduceToNat, Int.reduceAdd, Int.reduceSub, Int.reduceMul, Nat.reduceMul, Qp0, Ql0, Qe0, f0, f5, f6]
    exact ⟨_, PH.Le.refl _, by first | rfl | trivial, how.le⟩
end Go.Proofs.Ytdlaoeepeakpeaa


/- Rows of items. No condition. -/
namespace Go.Proofs.Ytdlaoeepeakpeaa
set_option linter.unusedVariables false
set_option linter.unusedSimpArgs false
open Go.RowKit Px Wr
theorem info_it : (Try.prog.info? 107).map (fun i => (i.zero, i.size, i.bytes)) = some (some (.agg #[.int .i64 0, .int .i64 0, .string ⟨#[]⟩, .bool false, .slice none 0 0]), 5, 64) := by kernel_rfl
theorem el_it : El Try.prog 108 107 (.agg #[.int .i64 0, .int .i64 0, .string ⟨#[]⟩, .bool false, .slice none 0 0]) 5 64 := ⟨Try.underlying108, info_parts info_it, rfl, by decide⟩
theorem flat_chunk {α : Type} (g : α → List Value) (m : Nat) (hg : ∀ a, (g a).length = m) : ∀ (L : List α) (i : Nat) (a : α), L[i]? = some a → ((L.flatMap g).drop (i * m)).take m = g a ∧ i * m + m ≤ (L.flatMap g).length
  | [], i, a, h => by simp at h
  | x :: L, 0, a, h => by
    simp at h
    subst h
    have := hg x
    simp only [List.flatMap_cons, Nat.zero_mul, List.drop_zero, List.length_append]
    exact ⟨by rw [← this, List.take_left], by omega⟩
  | x :: L, i + 1, a, h => by
    obtain ⟨h1, h2⟩ := flat_chunk g m hg L i a (by simpa using h)
    have := hg x
    simp only [List.flatMap_cons, List.length_append]
    refine ⟨?_, by rw [Nat.add_mul]; omega⟩
    rw [← h1, show (i + 1) * m = (g x).length + i * m by rw [this, Nat.add_mul]; omega, ← List.drop_drop, List.drop_left]
theorem itL_length (p : It × Option Addr × Nat) : (itL p.1 p.2.1 p.2.2).length = 5 := rfl
theorem Items.lit {w0 : World} {h : PH} {lb lim : Nat} (Ls : List (It × Option Addr × Nat)) (hm : h.m lb = some ⟨Ls.flatMap fun p => itL p.1 p.2.1 p.2.2, lim⟩)
    (hb : ∀ p ∈ Ls, p.1.N ≤ 9223372036854775807 ∧ p.1.S.length ≤ 900000 ∧ p.1.V.length ≤ 900000 ∧ p.1.V.length ≤ p.2.2 ∧ Rv w0 h p.2.1 (ints p.1.V)) : Items w0 h (some ⟨lb, 0, none⟩) (Ls.map (·.1)) := fun i x hx => by
  rw [List.getElem?_map] at hx
  obtain ⟨p, hp, rfl⟩ := Option.map_eq_some_iff.1 hx
  obtain ⟨h1, h2, h3, h4, h5⟩ := hb p (List.mem_of_getElem? hp)
  refine ⟨h1, h2, h3, lb, 0, p.2.1, p.2.2, rfl, h4, h5, fun h' hl _ => ?_⟩
  obtain ⟨g1, g2⟩ := flat_chunk (fun p : It × Option Addr × Nat => itL p.1 p.2.1 p.2.2) 5 itL_length Ls i p hp
  unfold rdN
  simp only [hl.m _ _ hm]
  rw [if_pos ⟨trivial, by simpa using g2⟩, Nat.zero_add, g1]
def tI (y : List UInt8) : It := ⟨1, 0, y, false, []⟩
def nI (n : Int) : It := ⟨0, n, [], false, []⟩
def fI (b : Bool) : It := ⟨2, 0, [], b, []⟩
def vI (v : List Int) : It := ⟨3, 0, [], false, v⟩
theorem step_t (s : WS) (y : List UInt8) : stepI s (tI y) = textM s y := by rw [← itemM_eq]; rfl
theorem step_n (s : WS) (n : Int) : stepI s (nI n) = numM s n := by rw [← itemM_eq]; rfl
theorem step_f (s : WS) (b : Bool) : stepI s (fI b) = flagM s b := by rw [← itemM_eq]; rfl
theorem step_v (s : WS) (v : List Int) : stepI s (vI v) = vecM s v := by rw [← itemM_eq]; rfl
end Go.Proofs.Ytdlaoeepeakpeaa


/- The document's bytes of claims and of writes. No condition. -/
namespace Go.Proofs.Ytdlaoeepeakpeaa
set_option linter.unusedVariables false
set_option linter.unusedSimpArgs false
open Go.RowKit Px Wr
set_option maxRecDepth 20000 in
set_option maxHeartbeats 4000000 in
theorem bytesC_any (w0 : World) (h : PH) (c : Cl) (A : Option Addr) (cap : Nat) (hr : Rv w0 h A (ints c.x)) (hc : c.x.length ≤ cap) (hb : rightC c = true) : PCalls Try.prog w0 32 [.agg (clL c A cap).toArray] h fun r h' => r = str (bytesC c) ∧ PH.Le h h' := by
  have hri := rightC_iff.1 hb
  have hx := trim_len (hri.2.2.2.2.2.2.2)
  refine PCalls_body Try.func32 (by kernel_rfl) rfl _ Try.ntmps32 (by kernel_rfl) (by kernel_rfl) _ Try.results32 ?_
  unfold clL
  simp -dsimp -implicitDefEqProofs (disch := first | omega | assumption | (simp only [Option.isSome_some, Qt0]; done) | (simp only [UInt64.reduceToNat, UInt32.reduceToNat, UInt8.reduceToNat, List.length_cons, List.length_nil, List.length_append, Int.toNat_natCast] <;> omega)) only [Nat.reduceLT, Nat.reduceLeDiff, Nat.reduceEqDiff, ↓reduceIte, Int.reduceLT, Int.reduceLE, Int.reduceToNat, Int.reduceEq, Int.reduceNe, Nat.reduceAdd, UInt8.reduceOfNat, UInt16.reduceOfNat, UInt32.reduceOfNat, UInt64.reduceOfNat, UInt64.reduceToNat, UInt32.reduceToNat, UInt16.reduceToNat, UInt8.reduceToNat, Int.reduceAdd, Int.reduceSub, Int.reduceMul, Nat.reduceMul, Qp0, Ql0, Qe0]
  refine fun pb hpb => ?_
  have hle := (PH.Le.refl h).new pb ⟨[str c.s, str c.u, .int .i64 c.e, .int .i64 c.i, .int .i64 c.k, .slice A c.x.length cap], 6⟩ hpb
  have hp : (h.new pb ⟨[str c.s, str c.u, .int .i64 c.e, .int .i64 c.i, .int .i64 c.k, .slice A c.x.length cap], 6⟩).m pb = some ⟨[str c.s, str c.u, .int .i64 c.e, .int .i64 c.i, .int .i64 c.k, .slice A c.x.length cap], 6⟩ := by rw [PH.new_m, if_pos rfl]
  have hr1 := hr.more hle
  simp -dsimp -implicitDefEqProofs (disch := first | omega | assumption | (simp only [Option.isSome_some, Qt0]; done) | (simp only [UInt64.reduceToNat, UInt32.reduceToNat, UInt8.reduceToNat, List.length_cons, List.length_nil, List.length_append, Int.toNat_natCast] <;> omega)) only [Nat.reduceLT, Nat.reduceLeDiff, Nat.reduceEqDiff, ↓reduceIte, Int.reduceLT, Int.reduceLE, Int.reduceToNat, Int.reduceEq, Int.reduceNe, Nat.reduceAdd, UInt8.reduceOfNat, UInt16.reduceOfNat, UInt32.reduceOfNat, UInt64.reduceOfNat, UInt64.reduceToNat, UInt32.reduceToNat, UInt16.reduceToNat, UInt8.reduceToNat, Int.reduceAdd, Int.reduceSub, Int.reduceMul, Nat.reduceMul, Qp0, Ql0, Qe0]
  generalize h.new pb ⟨[str c.s, str c.u, .int .i64 c.e, .int .i64 c.i, .int .i64 c.k, .slice A c.x.length cap], 6⟩ = h1 at *
  simp -dsimp -implicitDefEqProofs (disch := first | omega | assumption | (simp only [Option.isSome_some, Qt0]; done) | (simp only [UInt64.reduceToNat, UInt32.reduceToNat, UInt8.reduceToNat, List.length_cons, List.length_nil, List.length_append, Int.toNat_natCast] <;> omega)) only [Nat.reduceLT, Nat.reduceLeDiff, Nat.reduceEqDiff, ↓reduceIte, Int.reduceLT, Int.reduceLE, Int.reduceToNat, Int.reduceEq, Int.reduceNe, Nat.reduceAdd, UInt8.reduceOfNat, UInt16.reduceOfNat, UInt32.reduceOfNat, UInt64.reduceOfNat, UInt64.reduceToNat, UInt32.reduceToNat, UInt16.reduceToNat, UInt8.reduceToNat, Int.reduceAdd, Int.reduceSub, Int.reduceMul, Nat.reduceMul, Qp0, Ql0, Qe0, rd_M, rdM_some, hp]
  refine Does_lit (vs := [.agg (itL (tI c.s) none 0).toArray, .agg (itL (tI c.u) none 0).toArray, .agg (itL (nI c.e) none 0).toArray, .agg (itL (nI c.i) none 0).toArray, .agg (itL (nI c.k) none 0).toArray, .agg (itL (vI c.x) A cap).toArray]) (sz := 5) (n := 6) el_it rfl rfl (by simp [cellsL, Value.cells, itL]) (by omega) (by omega) (fun lb hlb => ?_)
  have hl2 := (PH.Le.refl h1).new lb ⟨[.agg (itL (tI c.s) none 0).toArray, .agg (itL (tI c.u) none 0).toArray, .agg (itL (nI c.e) none 0).toArray, .agg (itL (nI c.i) none 0).toArray, .agg (itL (nI c.k) none 0).toArray, .agg (itL (vI c.x) A cap).toArray].flatMap cellsL, 6 * 5⟩ hlb
  have hm2 : (h1.new lb ⟨[.agg (itL (tI c.s) none 0).toArray, .agg (itL (tI c.u) none 0).toArray, .agg (itL (nI c.e) none 0).toArray, .agg (itL (nI c.i) none 0).toArray, .agg (itL (nI c.k) none 0).toArray, .agg (itL (vI c.x) A cap).toArray].flatMap cellsL, 6 * 5⟩).m lb = some ⟨[(tI c.s, none, 0), (tI c.u, none, 0), (nI c.e, none, 0), (nI c.i, none, 0), (nI c.k, none, 0), (vI c.x, A, cap)].flatMap fun p : It × Option Addr × Nat => itL p.1 p.2.1 p.2.2, 6 * 5⟩ := by rw [PH.new_m, if_pos rfl]; rfl
  generalize h1.new lb ⟨[.agg (itL (tI c.s) none 0).toArray, .agg (itL (tI c.u) none 0).toArray, .agg (itL (nI c.e) none 0).toArray, .agg (itL (nI c.i) none 0).toArray, .agg (itL (nI c.k) none 0).toArray, .agg (itL (vI c.x) A cap).toArray].flatMap cellsL, 6 * 5⟩ = h2 at *
  have hI := Items.lit (w0 := w0) _ hm2 (fun p hp => by
    simp only [List.mem_cons, List.not_mem_nil, or_false] at hp
    rcases hp with rfl | rfl | rfl | rfl | rfl | rfl
    all_goals
      simp only [tI, nI, fI, vI, List.length_nil]
      refine ⟨by omega, by omega, by omega, by omega, ?_⟩
      first | exact Rv.nil _ _ _ | exact hr1.more hl2)
  have hW := written_any w0 h2 _ 6 _ (by simp) hI
  have hch : writtenM [tI c.s, tI c.u, nI c.e, nI c.i, nI c.k, vI c.x] = (bytesC c, none) := by
    unfold writtenM
    simp only [List.foldl_cons, List.foldl_nil, step_t, step_n, step_f, step_v]
    exact encC_chain hb
  simp only [List.map_cons, List.map_nil, List.length_cons, List.length_nil, Nat.zero_add, Nat.reduceAdd, hch] at hW
  have hW := Lib.hid hW
  simp -dsimp -implicitDefEqProofs (disch := first | omega | assumption | (simp only [Option.isSome_some, Qt0]; done) | (simp only [UInt64.reduceToNat, UInt32.reduceToNat, UInt8.reduceToNat, List.length_cons, List.length_nil, List.length_append, Int.toNat_natCast] <;> omega)) only [Nat.reduceLT, Nat.reduceLeDiff, Nat.reduceEqDiff, ↓reduceIte, Int.reduceLT, Int.reduceLE, Int.reduceToNat, Int.reduceEq, Int.reduceNe, Nat.reduceAdd, UInt8.reduceOfNat, UInt16.reduceOfNat, UInt32.reduceOfNat, UInt64.reduceOfNat, UInt64.reduceToNat, UInt32.reduceToNat, UInt16.reduceToNat, UInt8.reduceToNat, Int.reduceAdd, Int.reduceSub, Int.reduceMul, Nat.reduceMul, Qp0, Ql0, Qe0]
  refine hW.out.mono ?_
  rintro v q ⟨hv, hl3⟩
  have hv : v = .tuple #[str (bytesC c), .int .i64 0, .int .i64 0] := by
    rw [hv]
    first | rw [hch] | (show wres (writtenM [tI c.s, tI c.u, nI c.e, nI c.i, nI c.k, vI c.x]) = _; rw [hch])
    rfl
  subst hv
  simp -dsimp -implicitDefEqProofs (disch := first | omega | assumption | (simp only [Option.isSome_some, Qt0]; done) | (simp only [UInt64.reduceToNat, UInt32.reduceToNat, UInt8.reduceToNat, List.length_cons, List.length_nil, List.length_append, Int.toNat_natCast] <;> omega)) only [Nat.reduceLT, Nat.reduceLeDiff, Nat.reduceEqDiff, ↓reduceIte, Int.reduceLT, Int.reduceLE, Int.reduceToNat, Int.reduceEq, Int.reduceNe, Nat.reduceAdd, UInt8.reduceOfNat, UInt16.reduceOfNat, UInt32.reduceOfNat, UInt64.reduceOfNat, UInt64.reduceToNat, UInt32.reduceToNat, UInt16.reduceToNat, UInt8.reduceToNat, Int.reduceAdd, Int.reduceSub, Int.reduceMul, Nat.reduceMul, Qp0, Ql0, Qe0]
  exact ⟨_, PH.Le.refl _, by first | rfl | trivial, (hle.trans hl2).trans hl3⟩
end Go.Proofs.Ytdlaoeepeakpeaa

