/- Writes: which are right. No condition. -/
import Derived.Test.YtjpfablpkekdgaaWr8
namespace Go.Proofs.Ytjpfablpkekdgaa
set_option linter.unusedVariables false
set_option linter.unusedSimpArgs false
open Go.RowKit Px Wr
set_option maxRecDepth 20000 in
set_option maxHeartbeats 4000000 in
theorem rightW_any (w0 : World) (h : PH) (c : Wt) (A : Option Addr) (cap : Nat) (hr : Rv w0 h A (ints c.d)) (hc : c.d.length ≤ cap) (hx : c.d.length ≤ 1000000) : PCalls Try.prog w0 35 [.agg (wtL c A cap).toArray] h fun r h' => r = .bool (rightW c) ∧ h' = h := by
  refine PCalls_body Try.func35 (by kernel_rfl) rfl _ Try.ntmps35 (by kernel_rfl) (by kernel_rfl) _ Try.results35 ?_
  unfold wtL
  simp -dsimp -implicitDefEqProofs (disch := first | omega | assumption | (simp only [Option.isSome_some, Qt0]; done) | (simp only [UInt64.reduceToNat, UInt32.reduceToNat, UInt8.reduceToNat, List.length_cons, List.length_nil, List.length_append, Int.toNat_natCast] <;> omega)) only [Nat.reduceLT, Nat.reduceLeDiff, Nat.reduceEqDiff, ↓reduceIte, beq_self_eq_true, List.getD_cons_zero, List.getD_cons_succ, Int.reduceLT, Int.reduceLE, Int.reduceToNat, Int.reduceEq, Int.reduceNe, Option.bind_some, List.map_cons, List.map_nil, List.zip_cons_cons, List.zip_nil_left, List.append_nil, List.nil_append, List.cons_append, List.length_cons, List.length_nil, Nat.reduceAdd, UInt8.reduceOfNat, UInt16.reduceOfNat, UInt32.reduceOfNat, UInt64.reduceOfNat, UInt64.reduceToNat, UInt32.reduceToNat, UInt16.reduceToNat, UInt8.reduceToNat, Int.reduceAdd, Int.reduceSub, Int.reduceMul, Nat.reduceMul, ne_eq, eq_self, Option.isNone_some, Option.isNone_none, List.length_set, List.length_replicate, List.getElem?_cons_zero, List.getElem?_cons_succ, Qp0, Qe0]
  refine fun pb hpb => ?_
  have hle := (PH.Le.refl h).new pb ⟨[.int .i64 c.r, .int .i64 c.n, .int .i64 c.t, .int .i64 c.q, .slice A c.d.length cap, str c.s, str c.k, str c.v, .bool c.g, .int .i64 c.l], 10⟩ hpb
  have hp : (h.new pb ⟨[.int .i64 c.r, .int .i64 c.n, .int .i64 c.t, .int .i64 c.q, .slice A c.d.length cap, str c.s, str c.k, str c.v, .bool c.g, .int .i64 c.l], 10⟩).m pb = some ⟨[.int .i64 c.r, .int .i64 c.n, .int .i64 c.t, .int .i64 c.q, .slice A c.d.length cap, str c.s, str c.k, str c.v, .bool c.g, .int .i64 c.l], 10⟩ := by rw [PH.new_m, if_pos rfl]
  have hr1 := hr.more hle
  simp -dsimp -implicitDefEqProofs (disch := first | omega | assumption | (simp only [Option.isSome_some, Qt0]; done) | (simp only [UInt64.reduceToNat, UInt32.reduceToNat, UInt8.reduceToNat, List.length_cons, List.length_nil, List.length_append, Int.toNat_natCast] <;> omega)) only [Nat.reduceLT, Nat.reduceLeDiff, Nat.reduceEqDiff, ↓reduceIte, beq_self_eq_true, List.getD_cons_zero, List.getD_cons_succ, Int.reduceLT, Int.reduceLE, Int.reduceToNat, Int.reduceEq, Int.reduceNe, Option.bind_some, List.map_cons, List.map_nil, List.zip_cons_cons, List.zip_nil_left, List.append_nil, List.nil_append, List.cons_append, List.length_cons, List.length_nil, Nat.reduceAdd, UInt8.reduceOfNat, UInt16.reduceOfNat, UInt32.reduceOfNat, UInt64.reduceOfNat, UInt64.reduceToNat, UInt32.reduceToNat, UInt16.reduceToNat, UInt8.reduceToNat, Int.reduceAdd, Int.reduceSub, Int.reduceMul, Nat.reduceMul, ne_eq, eq_self, Option.isNone_some, Option.isNone_none, List.length_set, List.length_replicate, List.getElem?_cons_zero, List.getElem?_cons_succ, Qp0, Qe0]
  generalize h.new pb ⟨[.int .i64 c.r, .int .i64 c.n, .int .i64 c.t, .int .i64 c.q, .slice A c.d.length cap, str c.s, str c.k, str c.v, .bool c.g, .int .i64 c.l], 10⟩ = h1 at *
  have hT := PCalls_low fun hl => trimmed_any w0 h1 hl A cap c.d 1099511627776 hr1 hc hx
  have hI1 := in_any c.n 1 w0 h1
  have hI2 := in_any c.t 1 w0 h1
  have hI3 := in_any c.l 0 w0 h1
  unfold rightW
  have hn1 := decide_not_lt c.r 1
  have hn2 := decide_not_gt c.r 16
  have hn12 := decide_pos_nil c.v
  have hn4 : decide (¬ c.q = c.r) = !decide (c.q = c.r) := by by_cases e : c.q = c.r <;> simp [e]
  obtain ⟨b1, hb1⟩ : ∃ b, decide (c.r ≥ 1) = b := ⟨_, rfl⟩
  obtain ⟨b2, hb2⟩ : ∃ b, decide (c.r ≤ 16) = b := ⟨_, rfl⟩
  obtain ⟨b4, hb4⟩ : ∃ b, decide (c.q = c.r) = b := ⟨_, rfl⟩
  obtain ⟨b7, hb7⟩ : ∃ b, decide ((c.s.length : Int) ≥ 1) = b := ⟨_, rfl⟩
  obtain ⟨b8, hb8⟩ : ∃ b, decide ((c.s.length : Int) ≤ 64) = b := ⟨_, rfl⟩
  obtain ⟨b9, hb9⟩ : ∃ b, decide ((c.k.length : Int) ≤ 32) = b := ⟨_, rfl⟩
  obtain ⟨b10, hb10⟩ : ∃ b, decide ((c.v.length : Int) ≤ 128) = b := ⟨_, rfl⟩
  obtain ⟨b12, hb12⟩ : ∃ b, decide (c.v = []) = b := ⟨_, rfl⟩
  rw [hb1] at hn1
  rw [hb2] at hn2
  rw [hb12] at hn12
  rw [hb4] at hn4
  rw [hb1, hb2, hb4, hb7, hb8, hb9, hb10, hb12]
  generalize inB c.n 1 = b3 at *
  generalize inB c.t 1 = b5 at *
  generalize inB c.l 0 = b13 at *
  generalize trim c.d 1099511627776 = b6 at *
  generalize c.g = b11 at *
  have hT := Lib.hid hT
  have hI1 := Lib.hid hI1
  have hI2 := Lib.hid hI2
  have hI3 := Lib.hid hI3
  cases b1; rotate_left
  cases b2; rotate_left
  cases b3; rotate_left
  cases b4; rotate_left
  cases b5; rotate_left
  cases b6; rotate_left
  cases b7; rotate_left
  cases b8; rotate_left
  cases b9; rotate_left
  cases b10; rotate_left
  cases b11; rotate_left
  cases b12
  all_goals
    simp -dsimp -implicitDefEqProofs (disch := first | omega | assumption | (simp only [Option.isSome_some, Qt0]; done) | (simp only [UInt64.reduceToNat, UInt32.reduceToNat, UInt8.reduceToNat, List.length_cons, List.length_nil, List.length_append, Int.toNat_natCast] <;> omega)) only [Nat.reduceLT, Nat.reduceLeDiff, Nat.reduceEqDiff, ↓reduceIte, beq_self_eq_true, List.getD_cons_zero, List.getD_cons_succ, Int.reduceLT, Int.reduceLE, Int.reduceToNat, Int.reduceEq, Int.reduceNe, Option.bind_some, List.map_cons, List.map_nil, List.zip_cons_cons, List.zip_nil_left, List.append_nil, List.nil_append, List.cons_append, List.length_cons, List.length_nil, Nat.reduceAdd, UInt8.reduceOfNat, UInt16.reduceOfNat, UInt32.reduceOfNat, UInt64.reduceOfNat, UInt64.reduceToNat, UInt32.reduceToNat, UInt16.reduceToNat, UInt8.reduceToNat, Int.reduceAdd, Int.reduceSub, Int.reduceMul, Nat.reduceMul, ne_eq, eq_self, Option.isNone_some, Option.isNone_none, List.length_set, List.length_replicate, List.getElem?_cons_zero, List.getElem?_cons_succ, Qp0, Qe0, hb1, hb2, hb4, hb7, hb8, hb9, hb10, hb12, rd_M, rdM_some, hp]
    repeat
      first | refine hI1.out.mono ?_ | refine hI2.out.mono ?_ | refine hI3.out.mono ?_ | refine hT.out.mono ?_
      rintro v hq ⟨rfl, hz⟩
      obtain rfl := hz.symm
      simp -dsimp -implicitDefEqProofs (disch := first | omega | assumption | (simp only [Option.isSome_some, Qt0]; done) | (simp only [UInt64.reduceToNat, UInt32.reduceToNat, UInt8.reduceToNat, List.length_cons, List.length_nil, List.length_append, Int.toNat_natCast] <;> omega)) only [Nat.reduceLT, Nat.reduceLeDiff, Nat.reduceEqDiff, ↓reduceIte, beq_self_eq_true, List.getD_cons_zero, List.getD_cons_succ, Int.reduceLT, Int.reduceLE, Int.reduceToNat, Int.reduceEq, Int.reduceNe, Option.bind_some, List.map_cons, List.map_nil, List.zip_cons_cons, List.zip_nil_left, List.append_nil, List.nil_append, List.cons_append, List.length_cons, List.length_nil, Nat.reduceAdd, UInt8.reduceOfNat, UInt16.reduceOfNat, UInt32.reduceOfNat, UInt64.reduceOfNat, UInt64.reduceToNat, UInt32.reduceToNat, UInt16.reduceToNat, UInt8.reduceToNat, Int.reduceAdd, Int.reduceSub, Int.reduceMul, Nat.reduceMul, ne_eq, eq_self, Option.isNone_some, Option.isNone_none, List.length_set, List.length_replicate, List.getElem?_cons_zero, List.getElem?_cons_succ, Qp0, Qe0, hb1, hb2, hb4, hb7, hb8, hb9, hb10, hb12, rd_M, rdM_some, hp]
    exact ⟨_, hle, by first | rfl | trivial | (simp; done), rfl⟩
set_option maxRecDepth 20000 in
set_option maxHeartbeats 4000000 in
theorem rrightW_any (w0 : World) (h : PH) (c : Wt) (A : Option Addr) (cap : Nat) (hr : Rv w0 h A (ints c.d)) (hc : c.d.length ≤ cap) (hx : c.d.length ≤ 1000000) : PCalls Try.prog w0 29 [.agg (wtL c A cap).toArray] h fun r h' => r = .bool (rightW c) ∧ h' = h := by
  refine PCalls_body Try.func29 (by kernel_rfl) rfl _ Try.ntmps29 (by kernel_rfl) (by kernel_rfl) _ Try.results29 ?_
  unfold wtL
  simp -dsimp -implicitDefEqProofs (disch := first | omega | assumption | (simp only [Option.isSome_some, Qt0]; done) | (simp only [UInt64.reduceToNat, UInt32.reduceToNat, UInt8.reduceToNat, List.length_cons, List.length_nil, List.length_append, Int.toNat_natCast] <;> omega)) only [Nat.reduceLT, Nat.reduceLeDiff, Nat.reduceEqDiff, ↓reduceIte, beq_self_eq_true, List.getD_cons_zero, List.getD_cons_succ, Int.reduceLT, Int.reduceLE, Int.reduceToNat, Int.reduceEq, Int.reduceNe, Option.bind_some, List.map_cons, List.map_nil, List.zip_cons_cons, List.zip_nil_left, List.append_nil, List.nil_append, List.cons_append, List.length_cons, List.length_nil, Nat.reduceAdd, UInt8.reduceOfNat, UInt16.reduceOfNat, UInt32.reduceOfNat, UInt64.reduceOfNat, UInt64.reduceToNat, UInt32.reduceToNat, UInt16.reduceToNat, UInt8.reduceToNat, Int.reduceAdd, Int.reduceSub, Int.reduceMul, Nat.reduceMul, ne_eq, eq_self, Option.isNone_some, Option.isNone_none, List.length_set, List.length_replicate, List.getElem?_cons_zero, List.getElem?_cons_succ, Qp0, Qe0]
  refine fun pb hpb => ?_
  have hle := (PH.Le.refl h).new pb ⟨[.int .i64 c.r, .int .i64 c.n, .int .i64 c.t, .int .i64 c.q, .slice A c.d.length cap, str c.s, str c.k, str c.v, .bool c.g, .int .i64 c.l], 10⟩ hpb
  have hp : (h.new pb ⟨[.int .i64 c.r, .int .i64 c.n, .int .i64 c.t, .int .i64 c.q, .slice A c.d.length cap, str c.s, str c.k, str c.v, .bool c.g, .int .i64 c.l], 10⟩).m pb = some ⟨[.int .i64 c.r, .int .i64 c.n, .int .i64 c.t, .int .i64 c.q, .slice A c.d.length cap, str c.s, str c.k, str c.v, .bool c.g, .int .i64 c.l], 10⟩ := by rw [PH.new_m, if_pos rfl]
  have hr1 := hr.more hle
  simp -dsimp -implicitDefEqProofs (disch := first | omega | assumption | (simp only [Option.isSome_some, Qt0]; done) | (simp only [UInt64.reduceToNat, UInt32.reduceToNat, UInt8.reduceToNat, List.length_cons, List.length_nil, List.length_append, Int.toNat_natCast] <;> omega)) only [Nat.reduceLT, Nat.reduceLeDiff, Nat.reduceEqDiff, ↓reduceIte, beq_self_eq_true, List.getD_cons_zero, List.getD_cons_succ, Int.reduceLT, Int.reduceLE, Int.reduceToNat, Int.reduceEq, Int.reduceNe, Option.bind_some, List.map_cons, List.map_nil, List.zip_cons_cons, List.zip_nil_left, List.append_nil, List.nil_append, List.cons_append, List.length_cons, List.length_nil, Nat.reduceAdd, UInt8.reduceOfNat, UInt16.reduceOfNat, UInt32.reduceOfNat, UInt64.reduceOfNat, UInt64.reduceToNat, UInt32.reduceToNat, UInt16.reduceToNat, UInt8.reduceToNat, Int.reduceAdd, Int.reduceSub, Int.reduceMul, Nat.reduceMul, ne_eq, eq_self, Option.isNone_some, Option.isNone_none, List.length_set, List.length_replicate, List.getElem?_cons_zero, List.getElem?_cons_succ, Qp0, Qe0]
  generalize h.new pb ⟨[.int .i64 c.r, .int .i64 c.n, .int .i64 c.t, .int .i64 c.q, .slice A c.d.length cap, str c.s, str c.k, str c.v, .bool c.g, .int .i64 c.l], 10⟩ = h1 at *
  have hT := PCalls_low fun hl => rtrimmed_any w0 h1 hl A cap c.d 1099511627776 hr1 hc hx
  have hI1 := rin_any c.n 1 w0 h1
  have hI2 := rin_any c.t 1 w0 h1
  have hI3 := rin_any c.l 0 w0 h1
  unfold rightW
  have hn1 := decide_not_lt c.r 1
  have hn2 := decide_not_gt c.r 16
  have hn12 := decide_pos_nil c.v
  have hn4 : decide (¬ c.q = c.r) = !decide (c.q = c.r) := by by_cases e : c.q = c.r <;> simp [e]
  obtain ⟨b1, hb1⟩ : ∃ b, decide (c.r ≥ 1) = b := ⟨_, rfl⟩
  obtain ⟨b2, hb2⟩ : ∃ b, decide (c.r ≤ 16) = b := ⟨_, rfl⟩
  obtain ⟨b4, hb4⟩ : ∃ b, decide (c.q = c.r) = b := ⟨_, rfl⟩
  obtain ⟨b7, hb7⟩ : ∃ b, decide ((c.s.length : Int) ≥ 1) = b := ⟨_, rfl⟩
  obtain ⟨b8, hb8⟩ : ∃ b, decide ((c.s.length : Int) ≤ 64) = b := ⟨_, rfl⟩
  obtain ⟨b9, hb9⟩ : ∃ b, decide ((c.k.length : Int) ≤ 32) = b := ⟨_, rfl⟩
  obtain ⟨b10, hb10⟩ : ∃ b, decide ((c.v.length : Int) ≤ 128) = b := ⟨_, rfl⟩
  obtain ⟨b12, hb12⟩ : ∃ b, decide (c.v = []) = b := ⟨_, rfl⟩
  rw [hb1] at hn1
  rw [hb2] at hn2
  rw [hb12] at hn12
  rw [hb4] at hn4
  rw [hb1, hb2, hb4, hb7, hb8, hb9, hb10, hb12]
  generalize inB c.n 1 = b3 at *
  generalize inB c.t 1 = b5 at *
  generalize inB c.l 0 = b13 at *
  generalize trim c.d 1099511627776 = b6 at *
  generalize c.g = b11 at *
  have hT := Lib.hid hT
  have hI1 := Lib.hid hI1
  have hI2 := Lib.hid hI2
  have hI3 := Lib.hid hI3
  cases b1; rotate_left
  cases b2; rotate_left
  cases b4; rotate_left
  cases b3; rotate_left
  cases b5; rotate_left
  cases b6; rotate_left
  cases b13; rotate_left
  cases b7; rotate_left
  cases b8; rotate_left
  cases b9; rotate_left
  cases b10; rotate_left
  cases b11; rotate_left
  cases b12
  all_goals
    simp -dsimp -implicitDefEqProofs (disch := first | omega | assumption | (simp only [Option.isSome_some, Qt0]; done) | (simp only [UInt64.reduceToNat, UInt32.reduceToNat, UInt8.reduceToNat, List.length_cons, List.length_nil, List.length_append, Int.toNat_natCast] <;> omega)) only [Nat.reduceLT, Nat.reduceLeDiff, Nat.reduceEqDiff, ↓reduceIte, beq_self_eq_true, List.getD_cons_zero, List.getD_cons_succ, Int.reduceLT, Int.reduceLE, Int.reduceToNat, Int.reduceEq, Int.reduceNe, Option.bind_some, List.map_cons, List.map_nil, List.zip_cons_cons, List.zip_nil_left, List.append_nil, List.nil_append, List.cons_append, List.length_cons, List.length_nil, Nat.reduceAdd, UInt8.reduceOfNat, UInt16.reduceOfNat, UInt32.reduceOfNat, UInt64.reduceOfNat, UInt64.reduceToNat, UInt32.reduceToNat, UInt16.reduceToNat, UInt8.reduceToNat, Int.reduceAdd, Int.reduceSub, Int.reduceMul, Nat.reduceMul, ne_eq, eq_self, Option.isNone_some, Option.isNone_none, List.length_set, List.length_replicate, List.getElem?_cons_zero, List.getElem?_cons_succ, Qp0, Qe0, hb1, hb2, hb4, hb7, hb8, hb9, hb10, hb12, rd_M, rdM_some, hp, hn1, hn2, hn12, hn4]
    repeat
      first | refine hI1.out.mono ?_ | refine hI2.out.mono ?_ | refine hI3.out.mono ?_ | refine hT.out.mono ?_
      rintro v hq ⟨rfl, hz⟩
      obtain rfl := hz.symm
      simp -dsimp -implicitDefEqProofs (disch := first | omega | assumption | (simp only [Option.isSome_some, Qt0]; done) | (simp only [UInt64.reduceToNat, UInt32.reduceToNat, UInt8.reduceToNat, List.length_cons, List.length_nil, List.length_append, Int.toNat_natCast] <;> omega)) only [Nat.reduceLT, Nat.reduceLeDiff, Nat.reduceEqDiff, ↓reduceIte, beq_self_eq_true, List.getD_cons_zero, List.getD_cons_succ, Int.reduceLT, Int.reduceLE, Int.reduceToNat, Int.reduceEq, Int.reduceNe, Option.bind_some, List.map_cons, List.map_nil, List.zip_cons_cons, List.zip_nil_left, List.append_nil, List.nil_append, List.cons_append, List.length_cons, List.length_nil, Nat.reduceAdd, UInt8.reduceOfNat, UInt16.reduceOfNat, UInt32.reduceOfNat, UInt64.reduceOfNat, UInt64.reduceToNat, UInt32.reduceToNat, UInt16.reduceToNat, UInt8.reduceToNat, Int.reduceAdd, Int.reduceSub, Int.reduceMul, Nat.reduceMul, ne_eq, eq_self, Option.isNone_some, Option.isNone_none, List.length_set, List.length_replicate, List.getElem?_cons_zero, List.getElem?_cons_succ, Qp0, Qe0, hb1, hb2, hb4, hb7, hb8, hb9, hb10, hb12, rd_M, rdM_some, hp, hn1, hn2, hn12, hn4]
    exact ⟨_, hle, by first | rfl | trivial | (simp; done), rfl⟩
end Go.Proofs.Ytjpfablpkekdgaa
