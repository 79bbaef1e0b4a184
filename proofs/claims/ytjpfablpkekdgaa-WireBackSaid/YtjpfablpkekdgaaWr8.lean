/- Claims and writes: which are right, which are alike. No condition. -/
import Derived.Test.YtjpfablpkekdgaaWr7
import Derived.Laws.StructEq
namespace Go.Proofs.Ytjpfablpkekdgaa
set_option linter.unusedVariables false
set_option linter.unusedSimpArgs false
open Go.RowKit Px Wr
/-- Claims. -/
structure Cl where
  s : List UInt8
  u : List UInt8
  e : Int
  i : Int
  k : Int
  x : List Int
/-- A write: its region, number, time, the stamp's region, what it follows, session, key, value, gone, life. -/
structure Wt where
  r : Int
  n : Int
  t : Int
  q : Int
  d : List Int
  s : List UInt8
  k : List UInt8
  v : List UInt8
  g : Bool
  l : Int
theorem Cl.ext' {a b : Cl} (h1 : a.s = b.s) (h2 : a.u = b.u) (h3 : a.e = b.e) (h4 : a.i = b.i) (h5 : a.k = b.k) (h6 : a.x = b.x) : a = b := by
  cases a; cases b; simp_all
theorem Wt.ext' {a b : Wt} (h1 : a.r = b.r) (h2 : a.n = b.n) (h3 : a.t = b.t) (h4 : a.q = b.q) (h5 : a.d = b.d) (h6 : a.s = b.s) (h7 : a.k = b.k) (h8 : a.v = b.v) (h9 : a.g = b.g) (h10 : a.l = b.l) : a = b := by
  cases a; cases b; simp_all
def clL (c : Cl) (A : Option Addr) (cap : Nat) : List Value := [str c.s, str c.u, .int .i64 c.e, .int .i64 c.i, .int .i64 c.k, .slice A c.x.length cap]
def wtL (c : Wt) (A : Option Addr) (cap : Nat) : List Value := [.int .i64 c.r, .int .i64 c.n, .int .i64 c.t, .int .i64 c.q, .slice A c.d.length cap, str c.s, str c.k, str c.v, .bool c.g, .int .i64 c.l]
def inB (n m : Int) : Bool := decide (n ≥ m) && decide (n ≤ 1099511627776)
def rightC (c : Cl) : Bool := decide ((c.s.length : Int) ≥ 1) && decide ((c.s.length : Int) ≤ 64) && decide ((c.u.length : Int) ≥ 1) && decide ((c.u.length : Int) ≤ 32) && inB c.e 0 && inB c.i 0 && inB c.k 0 && trim c.x 1099511627776
def rightW (c : Wt) : Bool := decide (c.r ≥ 1) && decide (c.r ≤ 16) && inB c.n 1 && decide (c.q = c.r) && inB c.t 1 && trim c.d 1099511627776 && decide ((c.s.length : Int) ≥ 1) && decide ((c.s.length : Int) ≤ 64) && decide ((c.k.length : Int) ≤ 32) && decide ((c.v.length : Int) ≤ 128) && (!c.g || decide (c.v = [])) && inB c.l 0
set_option maxRecDepth 20000 in
theorem in_any (n m : Int) (w0 : World) (h : PH) : PCalls Try.prog w0 57 [.int .i64 n, .int .i64 m] h fun r h' => r = .bool (inB n m) ∧ h' = h := by
  refine PCalls_body Try.func57 (by kernel_rfl) rfl _ Try.ntmps57 (by kernel_rfl) (by kernel_rfl) _ Try.results57 ?_
  unfold inB
  obtain ⟨b1, hb1⟩ : ∃ b, decide (n ≥ m) = b := ⟨_, rfl⟩
  rw [hb1]
  cases b1
  · simp -dsimp -implicitDefEqProofs (disch := first | omega | assumption | (simp only [Option.isSome_some, Qt0]; done) | (simp only [UInt64.reduceToNat, UInt32.reduceToNat, UInt8.reduceToNat, List.length_cons, List.length_nil, List.length_append, Int.toNat_natCast] <;> omega)) only [Nat.reduceLT, Nat.reduceLeDiff, Nat.reduceEqDiff, ↓reduceIte, beq_self_eq_true, List.getD_cons_zero, List.getD_cons_succ, Int.reduceLT, Int.reduceLE, Int.reduceToNat, Int.reduceEq, Int.reduceNe, Option.bind_some, List.map_cons, List.map_nil, List.zip_cons_cons, List.zip_nil_left, List.append_nil, List.nil_append, List.cons_append, List.length_cons, List.length_nil, Nat.reduceAdd, UInt8.reduceOfNat, UInt16.reduceOfNat, UInt32.reduceOfNat, UInt64.reduceOfNat, UInt64.reduceToNat, UInt32.reduceToNat, UInt16.reduceToNat, UInt8.reduceToNat, Int.reduceAdd, Int.reduceSub, Int.reduceMul, Nat.reduceMul, ne_eq, eq_self, Option.isNone_some, Option.isNone_none, List.length_set, List.length_replicate, List.getElem?_cons_zero, List.getElem?_cons_succ, Qp0, Qe0, hb1]
    exact ⟨_, PH.Le.refl _, by first | rfl | trivial, rfl⟩
  · simp -dsimp -implicitDefEqProofs (disch := first | omega | assumption | (simp only [Option.isSome_some, Qt0]; done) | (simp only [UInt64.reduceToNat, UInt32.reduceToNat, UInt8.reduceToNat, List.length_cons, List.length_nil, List.length_append, Int.toNat_natCast] <;> omega)) only [Nat.reduceLT, Nat.reduceLeDiff, Nat.reduceEqDiff, ↓reduceIte, beq_self_eq_true, List.getD_cons_zero, List.getD_cons_succ, Int.reduceLT, Int.reduceLE, Int.reduceToNat, Int.reduceEq, Int.reduceNe, Option.bind_some, List.map_cons, List.map_nil, List.zip_cons_cons, List.zip_nil_left, List.append_nil, List.nil_append, List.cons_append, List.length_cons, List.length_nil, Nat.reduceAdd, UInt8.reduceOfNat, UInt16.reduceOfNat, UInt32.reduceOfNat, UInt64.reduceOfNat, UInt64.reduceToNat, UInt32.reduceToNat, UInt16.reduceToNat, UInt8.reduceToNat, Int.reduceAdd, Int.reduceSub, Int.reduceMul, Nat.reduceMul, ne_eq, eq_self, Option.isNone_some, Option.isNone_none, List.length_set, List.length_replicate, List.getElem?_cons_zero, List.getElem?_cons_succ, Qp0, Qe0, hb1]
    exact ⟨_, PH.Le.refl _, by first | rfl | trivial, rfl⟩
set_option maxRecDepth 20000 in
theorem rin_any (n m : Int) (w0 : World) (h : PH) : PCalls Try.prog w0 43 [.int .i64 n, .int .i64 m] h fun r h' => r = .bool (inB n m) ∧ h' = h := by
  refine PCalls_body Try.func43 (by kernel_rfl) rfl _ Try.ntmps43 (by kernel_rfl) (by kernel_rfl) _ Try.results43 ?_
  unfold inB
  obtain ⟨b1, hb1⟩ : ∃ b, decide (n ≥ m) = b := ⟨_, rfl⟩
  rw [hb1]
  cases b1
  · simp -dsimp -implicitDefEqProofs (disch := first | omega | assumption | (simp only [Option.isSome_some, Qt0]; done) | (simp only [UInt64.reduceToNat, UInt32.reduceToNat, UInt8.reduceToNat, List.length_cons, List.length_nil, List.length_append, Int.toNat_natCast] <;> omega)) only [Nat.reduceLT, Nat.reduceLeDiff, Nat.reduceEqDiff, ↓reduceIte, beq_self_eq_true, List.getD_cons_zero, List.getD_cons_succ, Int.reduceLT, Int.reduceLE, Int.reduceToNat, Int.reduceEq, Int.reduceNe, Option.bind_some, List.map_cons, List.map_nil, List.zip_cons_cons, List.zip_nil_left, List.append_nil, List.nil_append, List.cons_append, List.length_cons, List.length_nil, Nat.reduceAdd, UInt8.reduceOfNat, UInt16.reduceOfNat, UInt32.reduceOfNat, UInt64.reduceOfNat, UInt64.reduceToNat, UInt32.reduceToNat, UInt16.reduceToNat, UInt8.reduceToNat, Int.reduceAdd, Int.reduceSub, Int.reduceMul, Nat.reduceMul, ne_eq, eq_self, Option.isNone_some, Option.isNone_none, List.length_set, List.length_replicate, List.getElem?_cons_zero, List.getElem?_cons_succ, Qp0, Qe0, hb1]
    exact ⟨_, PH.Le.refl _, by first | rfl | trivial, rfl⟩
  · simp -dsimp -implicitDefEqProofs (disch := first | omega | assumption | (simp only [Option.isSome_some, Qt0]; done) | (simp only [UInt64.reduceToNat, UInt32.reduceToNat, UInt8.reduceToNat, List.length_cons, List.length_nil, List.length_append, Int.toNat_natCast] <;> omega)) only [Nat.reduceLT, Nat.reduceLeDiff, Nat.reduceEqDiff, ↓reduceIte, beq_self_eq_true, List.getD_cons_zero, List.getD_cons_succ, Int.reduceLT, Int.reduceLE, Int.reduceToNat, Int.reduceEq, Int.reduceNe, Option.bind_some, List.map_cons, List.map_nil, List.zip_cons_cons, List.zip_nil_left, List.append_nil, List.nil_append, List.cons_append, List.length_cons, List.length_nil, Nat.reduceAdd, UInt8.reduceOfNat, UInt16.reduceOfNat, UInt32.reduceOfNat, UInt64.reduceOfNat, UInt64.reduceToNat, UInt32.reduceToNat, UInt16.reduceToNat, UInt8.reduceToNat, Int.reduceAdd, Int.reduceSub, Int.reduceMul, Nat.reduceMul, ne_eq, eq_self, Option.isNone_some, Option.isNone_none, List.length_set, List.length_replicate, List.getElem?_cons_zero, List.getElem?_cons_succ, Qp0, Qe0, hb1]
    exact ⟨_, PH.Le.refl _, by first | rfl | trivial, rfl⟩
theorem decide_not_lt (a b : Int) : decide (a < b) = !decide (a ≥ b) := by by_cases h : a < b <;> simp [h] <;> omega
theorem decide_not_gt (a b : Int) : decide (a > b) = !decide (a ≤ b) := by by_cases h : a > b <;> simp [h] <;> omega
theorem decide_pos_nil (l : List UInt8) : decide ((l.length : Int) > 0) = !decide (l = []) := by cases l <;> simp <;> omega
set_option maxRecDepth 20000 in
set_option maxHeartbeats 2000000 in
theorem rightC_any (w0 : World) (h : PH) (c : Cl) (A : Option Addr) (cap : Nat) (hr : Rv w0 h A (ints c.x)) (hc : c.x.length ≤ cap) (hx : c.x.length ≤ 1000000) : PCalls Try.prog w0 42 [.agg (clL c A cap).toArray] h fun r h' => r = .bool (rightC c) ∧ h' = h := by
  refine PCalls_body Try.func42 (by kernel_rfl) rfl _ Try.ntmps42 (by kernel_rfl) (by kernel_rfl) _ Try.results42 ?_
  unfold clL
  simp -dsimp -implicitDefEqProofs (disch := first | omega | assumption | (simp only [Option.isSome_some, Qt0]; done) | (simp only [UInt64.reduceToNat, UInt32.reduceToNat, UInt8.reduceToNat, List.length_cons, List.length_nil, List.length_append, Int.toNat_natCast] <;> omega)) only [Nat.reduceLT, Nat.reduceLeDiff, Nat.reduceEqDiff, ↓reduceIte, beq_self_eq_true, List.getD_cons_zero, List.getD_cons_succ, Int.reduceLT, Int.reduceLE, Int.reduceToNat, Int.reduceEq, Int.reduceNe, Option.bind_some, List.map_cons, List.map_nil, List.zip_cons_cons, List.zip_nil_left, List.append_nil, List.nil_append, List.cons_append, List.length_cons, List.length_nil, Nat.reduceAdd, UInt8.reduceOfNat, UInt16.reduceOfNat, UInt32.reduceOfNat, UInt64.reduceOfNat, UInt64.reduceToNat, UInt32.reduceToNat, UInt16.reduceToNat, UInt8.reduceToNat, Int.reduceAdd, Int.reduceSub, Int.reduceMul, Nat.reduceMul, ne_eq, eq_self, Option.isNone_some, Option.isNone_none, List.length_set, List.length_replicate, List.getElem?_cons_zero, List.getElem?_cons_succ, Qp0, Qe0]
  refine fun pb hpb => ?_
  have hle := (PH.Le.refl h).new pb ⟨[str c.s, str c.u, .int .i64 c.e, .int .i64 c.i, .int .i64 c.k, .slice A c.x.length cap], 6⟩ hpb
  have hp : (h.new pb ⟨[str c.s, str c.u, .int .i64 c.e, .int .i64 c.i, .int .i64 c.k, .slice A c.x.length cap], 6⟩).m pb = some ⟨[str c.s, str c.u, .int .i64 c.e, .int .i64 c.i, .int .i64 c.k, .slice A c.x.length cap], 6⟩ := by rw [PH.new_m, if_pos rfl]
  have hr1 := hr.more hle
  simp -dsimp -implicitDefEqProofs (disch := first | omega | assumption | (simp only [Option.isSome_some, Qt0]; done) | (simp only [UInt64.reduceToNat, UInt32.reduceToNat, UInt8.reduceToNat, List.length_cons, List.length_nil, List.length_append, Int.toNat_natCast] <;> omega)) only [Nat.reduceLT, Nat.reduceLeDiff, Nat.reduceEqDiff, ↓reduceIte, beq_self_eq_true, List.getD_cons_zero, List.getD_cons_succ, Int.reduceLT, Int.reduceLE, Int.reduceToNat, Int.reduceEq, Int.reduceNe, Option.bind_some, List.map_cons, List.map_nil, List.zip_cons_cons, List.zip_nil_left, List.append_nil, List.nil_append, List.cons_append, List.length_cons, List.length_nil, Nat.reduceAdd, UInt8.reduceOfNat, UInt16.reduceOfNat, UInt32.reduceOfNat, UInt64.reduceOfNat, UInt64.reduceToNat, UInt32.reduceToNat, UInt16.reduceToNat, UInt8.reduceToNat, Int.reduceAdd, Int.reduceSub, Int.reduceMul, Nat.reduceMul, ne_eq, eq_self, Option.isNone_some, Option.isNone_none, List.length_set, List.length_replicate, List.getElem?_cons_zero, List.getElem?_cons_succ, Qp0, Qe0]
  generalize h.new pb ⟨[str c.s, str c.u, .int .i64 c.e, .int .i64 c.i, .int .i64 c.k, .slice A c.x.length cap], 6⟩ = h1 at *
  have hT := PCalls_low fun hl => trimmed_any w0 h1 hl A cap c.x 1099511627776 hr1 hc hx
  have hI1 := in_any c.e 0 w0 h1
  have hI2 := in_any c.i 0 w0 h1
  have hI3 := in_any c.k 0 w0 h1
  unfold rightC
  obtain ⟨b1, hb1⟩ : ∃ b, decide ((c.s.length : Int) ≥ 1) = b := ⟨_, rfl⟩
  obtain ⟨b2, hb2⟩ : ∃ b, decide ((c.s.length : Int) ≤ 64) = b := ⟨_, rfl⟩
  obtain ⟨b3, hb3⟩ : ∃ b, decide ((c.u.length : Int) ≥ 1) = b := ⟨_, rfl⟩
  obtain ⟨b4, hb4⟩ : ∃ b, decide ((c.u.length : Int) ≤ 32) = b := ⟨_, rfl⟩
  rw [hb1, hb2, hb3, hb4]
  generalize inB c.e 0 = b5 at *
  generalize inB c.i 0 = b6 at *
  generalize inB c.k 0 = b7 at *
  generalize trim c.x 1099511627776 = b8 at *
  have hT := Lib.hid hT
  have hI1 := Lib.hid hI1
  have hI2 := Lib.hid hI2
  have hI3 := Lib.hid hI3
  cases b1; rotate_left
  cases b2; rotate_left
  cases b3; rotate_left
  cases b4; rotate_left
  cases b5; rotate_left
  cases b6; rotate_left
  cases b7; rotate_left
  all_goals
    simp -dsimp -implicitDefEqProofs (disch := first | omega | assumption | (simp only [Option.isSome_some, Qt0]; done) | (simp only [UInt64.reduceToNat, UInt32.reduceToNat, UInt8.reduceToNat, List.length_cons, List.length_nil, List.length_append, Int.toNat_natCast] <;> omega)) only [Nat.reduceLT, Nat.reduceLeDiff, Nat.reduceEqDiff, ↓reduceIte, beq_self_eq_true, List.getD_cons_zero, List.getD_cons_succ, Int.reduceLT, Int.reduceLE, Int.reduceToNat, Int.reduceEq, Int.reduceNe, Option.bind_some, List.map_cons, List.map_nil, List.zip_cons_cons, List.zip_nil_left, List.append_nil, List.nil_append, List.cons_append, List.length_cons, List.length_nil, Nat.reduceAdd, UInt8.reduceOfNat, UInt16.reduceOfNat, UInt32.reduceOfNat, UInt64.reduceOfNat, UInt64.reduceToNat, UInt32.reduceToNat, UInt16.reduceToNat, UInt8.reduceToNat, Int.reduceAdd, Int.reduceSub, Int.reduceMul, Nat.reduceMul, ne_eq, eq_self, Option.isNone_some, Option.isNone_none, List.length_set, List.length_replicate, List.getElem?_cons_zero, List.getElem?_cons_succ, Qp0, Qe0, hb1, hb2, hb3, hb4, rd_M, rdM_some, hp]
    repeat
      first | refine hI1.out.mono ?_ | refine hI2.out.mono ?_ | refine hI3.out.mono ?_ | refine hT.out.mono ?_
      rintro v hq ⟨rfl, hz⟩
      obtain rfl := hz.symm
      simp -dsimp -implicitDefEqProofs (disch := first | omega | assumption | (simp only [Option.isSome_some, Qt0]; done) | (simp only [UInt64.reduceToNat, UInt32.reduceToNat, UInt8.reduceToNat, List.length_cons, List.length_nil, List.length_append, Int.toNat_natCast] <;> omega)) only [Nat.reduceLT, Nat.reduceLeDiff, Nat.reduceEqDiff, ↓reduceIte, beq_self_eq_true, List.getD_cons_zero, List.getD_cons_succ, Int.reduceLT, Int.reduceLE, Int.reduceToNat, Int.reduceEq, Int.reduceNe, Option.bind_some, List.map_cons, List.map_nil, List.zip_cons_cons, List.zip_nil_left, List.append_nil, List.nil_append, List.cons_append, List.length_cons, List.length_nil, Nat.reduceAdd, UInt8.reduceOfNat, UInt16.reduceOfNat, UInt32.reduceOfNat, UInt64.reduceOfNat, UInt64.reduceToNat, UInt32.reduceToNat, UInt16.reduceToNat, UInt8.reduceToNat, Int.reduceAdd, Int.reduceSub, Int.reduceMul, Nat.reduceMul, ne_eq, eq_self, Option.isNone_some, Option.isNone_none, List.length_set, List.length_replicate, List.getElem?_cons_zero, List.getElem?_cons_succ, Qp0, Qe0, hb1, hb2, hb3, hb4, rd_M, rdM_some, hp]
    exact ⟨_, hle, by first | rfl | trivial | (simp; done), rfl⟩
set_option maxRecDepth 20000 in
set_option maxHeartbeats 2000000 in
theorem rrightC_any (w0 : World) (h : PH) (c : Cl) (A : Option Addr) (cap : Nat) (hr : Rv w0 h A (ints c.x)) (hc : c.x.length ≤ cap) (hx : c.x.length ≤ 1000000) : PCalls Try.prog w0 23 [.agg (clL c A cap).toArray] h fun r h' => r = .bool (rightC c) ∧ h' = h := by
  refine PCalls_body Try.func23 (by kernel_rfl) rfl _ Try.ntmps23 (by kernel_rfl) (by kernel_rfl) _ Try.results23 ?_
  unfold clL
  simp -dsimp -implicitDefEqProofs (disch := first | omega | assumption | (simp only [Option.isSome_some, Qt0]; done) | (simp only [UInt64.reduceToNat, UInt32.reduceToNat, UInt8.reduceToNat, List.length_cons, List.length_nil, List.length_append, Int.toNat_natCast] <;> omega)) only [Nat.reduceLT, Nat.reduceLeDiff, Nat.reduceEqDiff, ↓reduceIte, beq_self_eq_true, List.getD_cons_zero, List.getD_cons_succ, Int.reduceLT, Int.reduceLE, Int.reduceToNat, Int.reduceEq, Int.reduceNe, Option.bind_some, List.map_cons, List.map_nil, List.zip_cons_cons, List.zip_nil_left, List.append_nil, List.nil_append, List.cons_append, List.length_cons, List.length_nil, Nat.reduceAdd, UInt8.reduceOfNat, UInt16.reduceOfNat, UInt32.reduceOfNat, UInt64.reduceOfNat, UInt64.reduceToNat, UInt32.reduceToNat, UInt16.reduceToNat, UInt8.reduceToNat, Int.reduceAdd, Int.reduceSub, Int.reduceMul, Nat.reduceMul, ne_eq, eq_self, Option.isNone_some, Option.isNone_none, List.length_set, List.length_replicate, List.getElem?_cons_zero, List.getElem?_cons_succ, Qp0, Qe0]
  refine fun pb hpb => ?_
  have hle := (PH.Le.refl h).new pb ⟨[str c.s, str c.u, .int .i64 c.e, .int .i64 c.i, .int .i64 c.k, .slice A c.x.length cap], 6⟩ hpb
  have hp : (h.new pb ⟨[str c.s, str c.u, .int .i64 c.e, .int .i64 c.i, .int .i64 c.k, .slice A c.x.length cap], 6⟩).m pb = some ⟨[str c.s, str c.u, .int .i64 c.e, .int .i64 c.i, .int .i64 c.k, .slice A c.x.length cap], 6⟩ := by rw [PH.new_m, if_pos rfl]
  have hr1 := hr.more hle
  simp -dsimp -implicitDefEqProofs (disch := first | omega | assumption | (simp only [Option.isSome_some, Qt0]; done) | (simp only [UInt64.reduceToNat, UInt32.reduceToNat, UInt8.reduceToNat, List.length_cons, List.length_nil, List.length_append, Int.toNat_natCast] <;> omega)) only [Nat.reduceLT, Nat.reduceLeDiff, Nat.reduceEqDiff, ↓reduceIte, beq_self_eq_true, List.getD_cons_zero, List.getD_cons_succ, Int.reduceLT, Int.reduceLE, Int.reduceToNat, Int.reduceEq, Int.reduceNe, Option.bind_some, List.map_cons, List.map_nil, List.zip_cons_cons, List.zip_nil_left, List.append_nil, List.nil_append, List.cons_append, List.length_cons, List.length_nil, Nat.reduceAdd, UInt8.reduceOfNat, UInt16.reduceOfNat, UInt32.reduceOfNat, UInt64.reduceOfNat, UInt64.reduceToNat, UInt32.reduceToNat, UInt16.reduceToNat, UInt8.reduceToNat, Int.reduceAdd, Int.reduceSub, Int.reduceMul, Nat.reduceMul, ne_eq, eq_self, Option.isNone_some, Option.isNone_none, List.length_set, List.length_replicate, List.getElem?_cons_zero, List.getElem?_cons_succ, Qp0, Qe0]
  generalize h.new pb ⟨[str c.s, str c.u, .int .i64 c.e, .int .i64 c.i, .int .i64 c.k, .slice A c.x.length cap], 6⟩ = h1 at *
  have hT := PCalls_low fun hl => rtrimmed_any w0 h1 hl A cap c.x 1099511627776 hr1 hc hx
  have hI1 := rin_any c.e 0 w0 h1
  have hI2 := rin_any c.i 0 w0 h1
  have hI3 := rin_any c.k 0 w0 h1
  unfold rightC
  obtain ⟨b1, hb1⟩ : ∃ b, decide ((c.s.length : Int) ≥ 1) = b := ⟨_, rfl⟩
  obtain ⟨b2, hb2⟩ : ∃ b, decide ((c.s.length : Int) ≤ 64) = b := ⟨_, rfl⟩
  obtain ⟨b3, hb3⟩ : ∃ b, decide ((c.u.length : Int) ≥ 1) = b := ⟨_, rfl⟩
  obtain ⟨b4, hb4⟩ : ∃ b, decide ((c.u.length : Int) ≤ 32) = b := ⟨_, rfl⟩
  rw [hb1, hb2, hb3, hb4]
  generalize inB c.e 0 = b5 at *
  generalize inB c.i 0 = b6 at *
  generalize inB c.k 0 = b7 at *
  generalize trim c.x 1099511627776 = b8 at *
  have hT := Lib.hid hT
  have hI1 := Lib.hid hI1
  have hI2 := Lib.hid hI2
  have hI3 := Lib.hid hI3
  cases b1; rotate_left
  cases b2; rotate_left
  cases b3; rotate_left
  cases b4; rotate_left
  cases b5; rotate_left
  cases b6; rotate_left
  cases b7; rotate_left
  all_goals
    simp -dsimp -implicitDefEqProofs (disch := first | omega | assumption | (simp only [Option.isSome_some, Qt0]; done) | (simp only [UInt64.reduceToNat, UInt32.reduceToNat, UInt8.reduceToNat, List.length_cons, List.length_nil, List.length_append, Int.toNat_natCast] <;> omega)) only [Nat.reduceLT, Nat.reduceLeDiff, Nat.reduceEqDiff, ↓reduceIte, beq_self_eq_true, List.getD_cons_zero, List.getD_cons_succ, Int.reduceLT, Int.reduceLE, Int.reduceToNat, Int.reduceEq, Int.reduceNe, Option.bind_some, List.map_cons, List.map_nil, List.zip_cons_cons, List.zip_nil_left, List.append_nil, List.nil_append, List.cons_append, List.length_cons, List.length_nil, Nat.reduceAdd, UInt8.reduceOfNat, UInt16.reduceOfNat, UInt32.reduceOfNat, UInt64.reduceOfNat, UInt64.reduceToNat, UInt32.reduceToNat, UInt16.reduceToNat, UInt8.reduceToNat, Int.reduceAdd, Int.reduceSub, Int.reduceMul, Nat.reduceMul, ne_eq, eq_self, Option.isNone_some, Option.isNone_none, List.length_set, List.length_replicate, List.getElem?_cons_zero, List.getElem?_cons_succ, Qp0, Qe0, hb1, hb2, hb3, hb4, rd_M, rdM_some, hp]
    repeat
      first | refine hI1.out.mono ?_ | refine hI2.out.mono ?_ | refine hI3.out.mono ?_ | refine hT.out.mono ?_
      rintro v hq ⟨rfl, hz⟩
      obtain rfl := hz.symm
      simp -dsimp -implicitDefEqProofs (disch := first | omega | assumption | (simp only [Option.isSome_some, Qt0]; done) | (simp only [UInt64.reduceToNat, UInt32.reduceToNat, UInt8.reduceToNat, List.length_cons, List.length_nil, List.length_append, Int.toNat_natCast] <;> omega)) only [Nat.reduceLT, Nat.reduceLeDiff, Nat.reduceEqDiff, ↓reduceIte, beq_self_eq_true, List.getD_cons_zero, List.getD_cons_succ, Int.reduceLT, Int.reduceLE, Int.reduceToNat, Int.reduceEq, Int.reduceNe, Option.bind_some, List.map_cons, List.map_nil, List.zip_cons_cons, List.zip_nil_left, List.append_nil, List.nil_append, List.cons_append, List.length_cons, List.length_nil, Nat.reduceAdd, UInt8.reduceOfNat, UInt16.reduceOfNat, UInt32.reduceOfNat, UInt64.reduceOfNat, UInt64.reduceToNat, UInt32.reduceToNat, UInt16.reduceToNat, UInt8.reduceToNat, Int.reduceAdd, Int.reduceSub, Int.reduceMul, Nat.reduceMul, ne_eq, eq_self, Option.isNone_some, Option.isNone_none, List.length_set, List.length_replicate, List.getElem?_cons_zero, List.getElem?_cons_succ, Qp0, Qe0, hb1, hb2, hb3, hb4, rd_M, rdM_some, hp]
    exact ⟨_, hle, by first | rfl | trivial | (simp; done), rfl⟩
end Go.Proofs.Ytjpfablpkekdgaa
