/- Parts Wr8, Wdv, Wra, Wdb, Wrb, Wrc, Wrd, Wdi, Wrf, Wrg, Er, Sha, joined. No condition. -/
import Derived.Test.YtdlaoeepeakpeaaM5A
import Derived.Laws.StructEq
import Derived.Test.YtdlaoeepeakpeaaM3A
import Derived.LaidEql
import Derived.Stop.Asserts
import Derived.Laws.Externs
import Derived.Test.YtdlaoeepeakpeaaProg
/- Claims and writes: which are right, which are alike. No condition. -/
namespace Go.Proofs.Ytdlaoeepeakpeaa
set_option linter.unusedVariables false
set_option linter.unusedSimpArgs false
open Go.RowKit Px Wr
/-- Claims. -/
structure Cl where
  s : List UInt8
  u : List UInt8
  e : Int
  i : Int
  k : Int
  x : List Int
/-- A write: its region, number, time, the stamp's region, what it follows, session, key, value, gone, life. -/
structure Wt where
  r : Int
  n : Int
  t : Int
  q : Int
  d : List Int
  s : List UInt8
  k : List UInt8
  v : List UInt8
  g : Bool
  l : Int
theorem Cl.ext' {a b : Cl} (h1 : a.s = b.s) (h2 : a.u = b.u) (h3 : a.e = b.e) (h4 : a.i = b.i) (h5 : a.k = b.k) (h6 : a.x = b.x) : a = b := by
  cases a; cases b; simp_all
theorem Wt.ext' {a b : Wt} (h1 : a.r = b.r) (h2 : a.n = b.n) (h3 : a.t = b.t) (h4 : a.q = b.q) (h5 : a.d = b.d) (h6 : a.s = b.s) (h7 : a.k = b.k) (h8 : a.v = b.v) (h9 : a.g = b.g) (h10 : a.l = b.l) : a = b := by
  cases a; cases b; simp_all
def clL (c : Cl) (A : Option Addr) (cap : Nat) : List Value := [str c.s, str c.u, .int .i64 c.e, .int .i64 c.i, .int .i64 c.k, .slice A c.x.length cap]
def inB (n m : Int) : Bool := decide (n ≥ m) && decide (n ≤ 1099511627776)
def rightC (c : Cl) : Bool := decide ((c.s.length : Int) ≥ 1) && decide ((c.s.length : Int) ≤ 64) && decide ((c.u.length : Int) ≥ 1) && decide ((c.u.length : Int) ≤ 32) && inB c.e 0 && inB c.i 0 && inB c.k 0 && trim c.x 1099511627776
def rightW (c : Wt) : Bool := decide (c.r ≥ 1) && decide (c.r ≤ 16) && inB c.n 1 && decide (c.q = c.r) && inB c.t 1 && trim c.d 1099511627776 && decide ((c.s.length : Int) ≥ 1) && decide ((c.s.length : Int) ≤ 64) && decide ((c.k.length : Int) ≤ 32) && decide ((c.v.length : Int) ≤ 128) && (!c.g || decide (c.v = [])) && inB c.l 0
set_option maxRecDepth 20000 in
theorem in_any (n m : Int) (w0 : World) (h : PH) : PCalls Try.prog w0 66 [.int .i64 n, .int .i64 m] h fun r h' => r = .bool (inB n m) ∧ h' = h := by
  refine PCalls_body Try.func66 (by kernel_rfl) rfl _ Try.ntmps66 (by kernel_rfl) (by kernel_rfl) _ Try.results66 ?_
  unfold inB
  obtain ⟨b1, hb1⟩ : ∃ b, decide (n ≥ m) = b := ⟨_, rfl⟩
  rw [hb1]
  cases b1
  · simp -dsimp -implicitDefEqProofs (disch := first | omega | assumption | (simp only [Option.isSome_some, Qt0]; done) | (simp only [UInt64.reduceToNat, UInt32.reduceToNat, UInt8.reduceToNat, List.length_cons, List.length_nil, List.length_append, Int.toNat_natCast] <;> omega)) only [Nat.reduceLT, Nat.reduceLeDiff, Nat.reduceEqDiff, ↓reduceIte, Int.reduceLT, Int.reduceLE, Int.reduceToNat, Int.reduceEq, Int.reduceNe, Nat.reduceAdd, UInt8.reduceOfNat, UInt16.reduceOfNat, UInt32.reduceOfNat, UInt64.reduceOfNat, UInt64.reduceToNat, UInt32.reduceToNat, UInt16.reduceToNat, UInt8.reduceToNat, Int.reduceAdd, Int.reduceSub, Int.reduceMul, Nat.reduceMul, Qp0, Ql0, Qe0, hb1]
    exact ⟨_, PH.Le.refl _, by first | rfl | trivial, rfl⟩
  · simp -dsimp -implicitDefEqProofs (disch := first | omega | assumption | (simp only [Option.isSome_some, Qt0]; done) | (simp only [UInt64.reduceToNat, UInt32.reduceToNat, UInt8.reduceToNat, List.length_cons, List.length_nil, List.length_append, Int.toNat_natCast] <;> omega)) only [Nat.reduceLT, Nat.reduceLeDiff, Nat.reduceEqDiff, ↓reduceIte, Int.reduceLT, Int.reduceLE, Int.reduceToNat, Int.reduceEq, Int.reduceNe, Nat.reduceAdd, UInt8.reduceOfNat, UInt16.reduceOfNat, UInt32.reduceOfNat, UInt64.reduceOfNat, UInt64.reduceToNat, UInt32.reduceToNat, UInt16.reduceToNat, UInt8.reduceToNat, Int.reduceAdd, Int.reduceSub, Int.reduceMul, Nat.reduceMul, Qp0, Ql0, Qe0, hb1]
    exact ⟨_, PH.Le.refl _, by first | rfl | trivial, rfl⟩
set_option maxRecDepth 20000 in
set_option maxHeartbeats 2000000 in
theorem rightC_any (w0 : World) (h : PH) (c : Cl) (A : Option Addr) (cap : Nat) (hr : Rv w0 h A (ints c.x)) (hc : c.x.length ≤ cap) (hx : c.x.length ≤ 9223372036854775807) : PCalls Try.prog w0 43 [.agg (clL c A cap).toArray] h fun r h' => r = .bool (rightC c) ∧ h' = h := by
  refine PCalls_body Try.func43 (by kernel_rfl) rfl _ Try.ntmps43 (by kernel_rfl) (by kernel_rfl) _ Try.results43 ?_
  unfold clL
  simp -dsimp -implicitDefEqProofs (disch := first | omega | assumption | (simp only [Option.isSome_some, Qt0]; done) | (simp only [UInt64.reduceToNat, UInt32.reduceToNat, UInt8.reduceToNat, List.length_cons, List.length_nil, List.length_append, Int.toNat_natCast] <;> omega)) only [Nat.reduceLT, Nat.reduceLeDiff, Nat.reduceEqDiff, ↓reduceIte, Int.reduceLT, Int.reduceLE, Int.reduceToNat, Int.reduceEq, Int.reduceNe, Nat.reduceAdd, UInt8.reduceOfNat, UInt16.reduceOfNat, UInt32.reduceOfNat, UInt64.reduceOfNat, UInt64.reduceToNat, UInt32.reduceToNat, UInt16.reduceToNat, UInt8.reduceToNat, Int.reduceAdd, Int.reduceSub, Int.reduceMul, Nat.reduceMul, Qp0, Ql0, Qe0]
  refine fun pb hpb => ?_
  have hle := (PH.Le.refl h).new pb ⟨[str c.s, str c.u, .int .i64 c.e, .int .i64 c.i, .int .i64 c.k, .slice A c.x.length cap], 6⟩ hpb
  have hp : (h.new pb ⟨[str c.s, str c.u, .int .i64 c.e, .int .i64 c.i, .int .i64 c.k, .slice A c.x.length cap], 6⟩).m pb = some ⟨[str c.s, str c.u, .int .i64 c.e, .int .i64 c.i, .int .i64 c.k, .slice A c.x.length cap], 6⟩ := by rw [PH.new_m, if_pos rfl]
  have hr1 := hr.more hle
  simp -dsimp -implicitDefEqProofs (disch := first | omega | assumption | (simp only [Option.isSome_some, Qt0]; done) | (simp only [UInt64.reduceToNat, UInt32.reduceToNat, UInt8.reduceToNat, List.length_cons, List.length_nil, List.length_append, Int.toNat_natCast] <;> omega)) only [Nat.reduceLT, Nat.reduceLeDiff, Nat.reduceEqDiff, ↓reduceIte, Int.reduceLT, Int.reduceLE, Int.reduceToNat, Int.reduceEq, Int.reduceNe, Nat.reduceAdd, UInt8.reduceOfNat, UInt16.reduceOfNat, UInt32.reduceOfNat, UInt64.reduceOfNat, UInt64.reduceToNat, UInt32.reduceToNat, UInt16.reduceToNat, UInt8.reduceToNat, Int.reduceAdd, Int.reduceSub, Int.reduceMul, Nat.reduceMul, Qp0, Ql0, Qe0]
  generalize h.new pb ⟨[str c.s, str c.u, .int .i64 c.e, .int .i64 c.i, .int .i64 c.k, .slice A c.x.length cap], 6⟩ = h1 at *
  have hT := PCalls_low fun hl => trimmed_any w0 h1 hl A cap c.x 1099511627776 hr1 hc hx
  have hI1 := in_any c.e 0 w0 h1
  have hI2 := in_any c.i 0 w0 h1
  have hI3 := in_any c.k 0 w0 h1
  unfold rightC
  obtain ⟨b1, hb1⟩ : ∃ b, decide ((c.s.length : Int) ≥ 1) = b := ⟨_, rfl⟩
  obtain ⟨b2, hb2⟩ : ∃ b, decide ((c.s.length : Int) ≤ 64) = b := ⟨_, rfl⟩
  obtain ⟨b3, hb3⟩ : ∃ b, decide ((c.u.length : Int) ≥ 1) = b := ⟨_, rfl⟩
  obtain ⟨b4, hb4⟩ : ∃ b, decide ((c.u.length : Int) ≤ 32) = b := ⟨_, rfl⟩
  rw [hb1, hb2, hb3, hb4]
  generalize inB c.e 0 = b5 at *
  generalize inB c.i 0 = b6 at *
  generalize inB c.k 0 = b7 at *
  generalize trim c.x 1099511627776 = b8 at *
  have hT := Lib.hid hT
  have hI1 := Lib.hid hI1
  have hI2 := Lib.hid hI2
  have hI3 := Lib.hid hI3
  cases b1; rotate_left
  cases b2; rotate_left
  cases b3; rotate_left
  cases b4; rotate_left
  cases b5; rotate_left
  cases b6; rotate_left
  cases b7; rotate_left
  all_goals
    simp -dsimp -implicitDefEqProofs (disch := first | omega | assumption | (simp only [Option.isSome_some, Qt0]; done) | (simp only [UInt64.reduceToNat, UInt32.reduceToNat, UInt8.reduceToNat, List.length_cons, List.length_nil, List.length_append, Int.toNat_natCast] <;> omega)) only [Nat.reduceLT, Nat.reduceLeDiff, Nat.reduceEqDiff, ↓reduceIte, Int.reduceLT, Int.reduceLE, Int.reduceToNat, Int.reduceEq, Int.reduceNe, Nat.reduceAdd, UInt8.reduceOfNat, UInt16.reduceOfNat, UInt32.reduceOfNat, UInt64.reduceOfNat, UInt64.reduceToNat, UInt32.reduceToNat, UInt16.reduceToNat, UInt8.reduceToNat, Int.reduceAdd, Int.reduceSub, Int.reduceMul, Nat.reduceMul, Qp0, Ql0, Qe0, hb1, hb2, hb3, hb4, rd_M, rdM_some, hp]
    repeat
      first | refine hI1.out.mono ?_ | refine hI2.out.mono ?_ | refine hI3.out.mono ?_ | refine hT.out.mono ?_
      rintro v hq ⟨rfl, hz⟩
      obtain rfl := hz.symm
      simp -dsimp -implicitDefEqProofs (disch := first | omega | assumption | (simp only [Option.isSome_some, Qt0]; done) | (simp only [UInt64.reduceToNat, UInt32.reduceToNat, UInt8.reduceToNat, List.length_cons, List.length_nil, List.length_append, Int.toNat_natCast] <;> omega)) only [Nat.reduceLT, Nat.reduceLeDiff, Nat.reduceEqDiff, ↓reduceIte, Int.reduceLT, Int.reduceLE, Int.reduceToNat, Int.reduceEq, Int.reduceNe, Nat.reduceAdd, UInt8.reduceOfNat, UInt16.reduceOfNat, UInt32.reduceOfNat, UInt64.reduceOfNat, UInt64.reduceToNat, UInt32.reduceToNat, UInt16.reduceToNat, UInt8.reduceToNat, Int.reduceAdd, Int.reduceSub, Int.reduceMul, Nat.reduceMul, Qp0, Ql0, Qe0, hb1, hb2, hb3, hb4, rd_M, rdM_some, hp]
    exact ⟨_, hle, by first | rfl | trivial | (simp; done), rfl⟩
end Go.Proofs.Ytdlaoeepeakpeaa


/- Vectors: which are alike. No condition. -/
namespace Go.Proofs.Ytdlaoeepeakpeaa
set_option linter.unusedVariables false
set_option linter.unusedSimpArgs false
open Go.RowKit Px Wr
set_option maxRecDepth 20000 in
set_option maxHeartbeats 2000000 in
theorem sameV_any (w0 : World) (h : PH) (A B : Option Addr) (c d : Nat) (x y : List Int) (hx : Rv w0 h A (ints x)) (hy : Rv w0 h B (ints y)) (hc : x.length ≤ c) (hd : y.length ≤ d) (hm : x.length ≤ 1000000) : PCalls Try.prog w0 28 [.slice A x.length c, .slice B y.length d] h fun r h' => r = .bool (decide (x = y)) ∧ h' = h := by
  refine PCalls_low fun hl => ?_
  refine PCalls_body Try.func28 (by kernel_rfl) rfl _ Try.ntmps28 (by kernel_rfl) (by kernel_rfl) _ Try.results28 ?_
  by_cases hlen : x.length = y.length
  · have e1 : decide (¬ (x.length : Int) = (y.length : Int)) = false := decide_eq_false (by omega)
    simp -dsimp -implicitDefEqProofs (disch := first | omega | assumption | (simp only [Option.isSome_some, Qt0]; done) | (simp only [UInt64.reduceToNat, UInt32.reduceToNat, UInt8.reduceToNat, List.length_cons, List.length_nil, List.length_append, Int.toNat_natCast] <;> omega)) only [Nat.reduceLT, Nat.reduceLeDiff, Nat.reduceEqDiff, ↓reduceIte, Int.reduceLT, Int.reduceLE, Int.reduceToNat, Int.reduceEq, Int.reduceNe, Nat.reduceAdd, UInt8.reduceOfNat, UInt16.reduceOfNat, UInt32.reduceOfNat, UInt64.reduceOfNat, UInt64.reduceToNat, UInt32.reduceToNat, UInt16.reduceToNat, UInt8.reduceToNat, Int.reduceAdd, Int.reduceSub, Int.reduceMul, Nat.reduceMul, Qp0, Ql0, Qe0, e1]
    refine PW_loop (fun n f h' => ∃ i : Nat, n + i = x.length ∧ f 0 = some (.slice A x.length c) ∧ f 1 = some (.slice B y.length d) ∧ f 5 = some (.int .i64 i) ∧ (∀ j, j < i → x.getD j 0 = y.getD j 0) ∧ h' = h) (by kernel_rfl) x.length ⟨0, by omega, ?_, ?_, ?_, fun j hj => by omega, rfl⟩ ?_
    · simp -dsimp -implicitDefEqProofs (disch := first | omega | assumption | (simp only [Option.isSome_some, Qt0]; done) | (simp only [UInt64.reduceToNat, UInt32.reduceToNat, UInt8.reduceToNat, List.length_cons, List.length_nil, List.length_append, Int.toNat_natCast] <;> omega)) only [Nat.reduceLT, Nat.reduceLeDiff, Nat.reduceEqDiff, ↓reduceIte, Int.reduceLT, Int.reduceLE, Int.reduceToNat, Int.reduceEq, Int.reduceNe, Nat.reduceAdd, UInt8.reduceOfNat, UInt16.reduceOfNat, UInt32.reduceOfNat, UInt64.reduceOfNat, UInt64.reduceToNat, UInt32.reduceToNat, UInt16.reduceToNat, UInt8.reduceToNat, Int.reduceAdd, Int.reduceSub, Int.reduceMul, Nat.reduceMul, Qp0, Ql0, Qe0]
    · simp -dsimp -implicitDefEqProofs (disch := first | omega | assumption | (simp only [Option.isSome_some, Qt0]; done) | (simp only [UInt64.reduceToNat, UInt32.reduceToNat, UInt8.reduceToNat, List.length_cons, List.length_nil, List.length_append, Int.toNat_natCast] <;> omega)) only [Nat.reduceLT, Nat.reduceLeDiff, Nat.reduceEqDiff, ↓reduceIte, Int.reduceLT, Int.reduceLE, Int.reduceToNat, Int.reduceEq, Int.reduceNe, Nat.reduceAdd, UInt8.reduceOfNat, UInt16.reduceOfNat, UInt32.reduceOfNat, UInt64.reduceOfNat, UInt64.reduceToNat, UInt32.reduceToNat, UInt16.reduceToNat, UInt8.reduceToNat, Int.reduceAdd, Int.reduceSub, Int.reduceMul, Nat.reduceMul, Qp0, Ql0, Qe0]
    · simp -dsimp -implicitDefEqProofs (disch := first | omega | assumption | (simp only [Option.isSome_some, Qt0]; done) | (simp only [UInt64.reduceToNat, UInt32.reduceToNat, UInt8.reduceToNat, List.length_cons, List.length_nil, List.length_append, Int.toNat_natCast] <;> omega)) only [Nat.reduceLT, Nat.reduceLeDiff, Nat.reduceEqDiff, ↓reduceIte, Int.reduceLT, Int.reduceLE, Int.reduceToNat, Int.reduceEq, Int.reduceNe, Nat.reduceAdd, UInt8.reduceOfNat, UInt16.reduceOfNat, UInt32.reduceOfNat, UInt64.reduceOfNat, UInt64.reduceToNat, UInt32.reduceToNat, UInt16.reduceToNat, UInt8.reduceToNat, Int.reduceAdd, Int.reduceSub, Int.reduceMul, Nat.reduceMul, Qp0, Ql0, Qe0]
      try rfl
    rintro n f h' ⟨i, hni, f0, f1, f5, hall, rfl⟩
    by_cases hi : i < x.length
    · have e2 : decide ((i : Int) < (x.length : Int)) = true := decide_eq_true (by omega)
      obtain ⟨b, o, rfl⟩ := hx.addr (by simp [ints]; omega)
      obtain ⟨b', o', rfl⟩ := hy.addr (by simp [ints]; omega)
      have hgx := hx.get hl (j := i) (u := .int .i64 (x.getD i 0)) (by rw [ints, List.getElem?_map, List.getD, List.getElem?_eq_getElem hi]; rfl)
      have hgy := hy.get hl (j := i) (u := .int .i64 (y.getD i 0)) (by rw [ints, List.getElem?_map, List.getD, List.getElem?_eq_getElem (by omega)]; rfl)
      by_cases he : x.getD i 0 = y.getD i 0
      · have e3 : decide (¬ x.getD i 0 = y.getD i 0) = false := decide_eq_false (by omega)
        simp -dsimp -implicitDefEqProofs (disch := first | omega | assumption | (simp only [Option.isSome_some, Qt0]; done) | (simp only [UInt64.reduceToNat, UInt32.reduceToNat, UInt8.reduceToNat, List.length_cons, List.length_nil, List.length_append, Int.toNat_natCast] <;> omega)) only [Nat.reduceLT, Nat.reduceLeDiff, Nat.reduceEqDiff, ↓reduceIte, Int.reduceLT, Int.reduceLE, Int.reduceToNat, Int.reduceEq, Int.reduceNe, Nat.reduceAdd, UInt8.reduceOfNat, UInt16.reduceOfNat, UInt32.reduceOfNat, UInt64.reduceOfNat, UInt64.reduceToNat, UInt32.reduceToNat, UInt16.reduceToNat, UInt8.reduceToNat, Int.reduceAdd, Int.reduceSub, Int.reduceMul, Nat.reduceMul, Qp0, Ql0, Qe0, f0, f1, f5, e2]
        refine PW_drawn 9 _ (by kernel_rfl) (by kernel_rfl) (by kernel_rfl) (by kernel_rfl) (by kernel_rfl) (fun c f h hq => by simp only [thenC_panic, thenK_panic, inBlk_panic, thenN_panic, vcRet_panic] at hq) (PH.Le.refl _).sub ?_
        simp -dsimp -implicitDefEqProofs (disch := first | omega | assumption | (simp only [Option.isSome_some, Qt0]; done) | (simp only [UInt64.reduceToNat, UInt32.reduceToNat, UInt8.reduceToNat, List.length_cons, List.length_nil, List.length_append, Int.toNat_natCast] <;> omega)) only [Nat.reduceLT, Nat.reduceLeDiff, Nat.reduceEqDiff, ↓reduceIte, Int.reduceLT, Int.reduceLE, Int.reduceToNat, Int.reduceEq, Int.reduceNe, Nat.reduceAdd, UInt8.reduceOfNat, UInt16.reduceOfNat, UInt32.reduceOfNat, UInt64.reduceOfNat, UInt64.reduceToNat, UInt32.reduceToNat, UInt16.reduceToNat, UInt8.reduceToNat, Int.reduceAdd, Int.reduceSub, Int.reduceMul, Nat.reduceMul, Qp0, Ql0, Qe0, f0, f1, f5, rd_M, hgx, hgy, e3]
        refine ⟨n - 1, _, by omega, PH.Le.refl _, i + 1, by omega, by trivial, by trivial, by simp, fun j hj => ?_, rfl⟩
        by_cases hji : j = i
        · subst hji; exact he
        · exact hall j (by omega)
      · have e3 : decide (¬ x.getD i 0 = y.getD i 0) = true := decide_eq_true (by omega)
        have hne : decide (x = y) = false := decide_eq_false fun e => he (by rw [e])
        rw [hne]
        simp -dsimp -implicitDefEqProofs (disch := first | omega | assumption | (simp only [Option.isSome_some, Qt0]; done) | (simp only [UInt64.reduceToNat, UInt32.reduceToNat, UInt8.reduceToNat, List.length_cons, List.length_nil, List.length_append, Int.toNat_natCast] <;> omega)) only [Nat.reduceLT, Nat.reduceLeDiff, Nat.reduceEqDiff, ↓reduceIte, Int.reduceLT, Int.reduceLE, Int.reduceToNat, Int.reduceEq, Int.reduceNe, Nat.reduceAdd, UInt8.reduceOfNat, UInt16.reduceOfNat, UInt32.reduceOfNat, UInt64.reduceOfNat, UInt64.reduceToNat, UInt32.reduceToNat, UInt16.reduceToNat, UInt8.reduceToNat, Int.reduceAdd, Int.reduceSub, Int.reduceMul, Nat.reduceMul, Qp0, Ql0, Qe0, f0, f1, f5, e2]
        refine PW_drawn 9 _ (by kernel_rfl) (by kernel_rfl) (by kernel_rfl) (by kernel_rfl) (by kernel_rfl) (fun c f h hq => by simp only [thenC_panic, thenK_panic, inBlk_panic, thenN_panic, vcRet_panic] at hq) (PH.Le.refl _).sub ?_
        simp -dsimp -implicitDefEqProofs (disch := first | omega | assumption | (simp only [Option.isSome_some, Qt0]; done) | (simp only [UInt64.reduceToNat, UInt32.reduceToNat, UInt8.reduceToNat, List.length_cons, List.length_nil, List.length_append, Int.toNat_natCast] <;> omega)) only [Nat.reduceLT, Nat.reduceLeDiff, Nat.reduceEqDiff, ↓reduceIte, Int.reduceLT, Int.reduceLE, Int.reduceToNat, Int.reduceEq, Int.reduceNe, Nat.reduceAdd, UInt8.reduceOfNat, UInt16.reduceOfNat, UInt32.reduceOfNat, UInt64.reduceOfNat, UInt64.reduceToNat, UInt32.reduceToNat, UInt16.reduceToNat, UInt8.reduceToNat, Int.reduceAdd, Int.reduceSub, Int.reduceMul, Nat.reduceMul, Qp0, Ql0, Qe0, f0, f1, f5, rd_M, hgx, hgy, e3]
        exact ⟨_, PH.Le.refl _, by first | rfl | trivial, rfl⟩
    · have e2 : decide ((i : Int) < (x.length : Int)) = false := decide_eq_false (by omega)
      have heq : decide (x = y) = true := decide_eq_true (List.ext_getElem hlen fun j h1 h2 => by
        have := hall j (by omega)
        rwa [List.getD, List.getD, List.getElem?_eq_getElem h1, List.getElem?_eq_getElem h2] at this)
      rw [heq]
      simp -dsimp -implicitDefEqProofs (disch := first | omega | assumption | (simp only [Option.isSome_some, Qt0]; done) | (simp only [UInt64.reduceToNat, UInt32.reduceToNat, UInt8.reduceToNat, List.length_cons, List.length_nil, List.length_append, Int.toNat_natCast] <;> omega)) only [Nat.reduceLT, Nat.reduceLeDiff, Nat.reduceEqDiff, ↓reduceIte, Int.reduceLT, Int.reduceLE, Int.reduceToNat, Int.reduceEq, Int.reduceNe, Nat.reduceAdd, UInt8.reduceOfNat, UInt16.reduceOfNat, UInt32.reduceOfNat, UInt64.reduceOfNat, UInt64.reduceToNat, UInt32.reduceToNat, UInt16.reduceToNat, UInt8.reduceToNat, Int.reduceAdd, Int.reduceSub, Int.reduceMul, Nat.reduceMul, Qp0, Ql0, Qe0, f0, f1, f5, e2]
      exact ⟨_, PH.Le.refl _, by first | rfl | trivial, rfl⟩
  · have e1 : decide (¬ (x.length : Int) = (y.length : Int)) = true := decide_eq_true (by omega)
    have hne : decide (x = y) = false := decide_eq_false fun e => hlen (by rw [e])
    rw [hne]
    simp -dsimp -implicitDefEqProofs (disch := first | omega | assumption | (simp only [Option.isSome_some, Qt0]; done) | (simp only [UInt64.reduceToNat, UInt32.reduceToNat, UInt8.reduceToNat, List.length_cons, List.length_nil, List.length_append, Int.toNat_natCast] <;> omega)) only [Nat.reduceLT, Nat.reduceLeDiff, Nat.reduceEqDiff, ↓reduceIte, Int.reduceLT, Int.reduceLE, Int.reduceToNat, Int.reduceEq, Int.reduceNe, Nat.reduceAdd, UInt8.reduceOfNat, UInt16.reduceOfNat, UInt32.reduceOfNat, UInt64.reduceOfNat, UInt64.reduceToNat, UInt32.reduceToNat, UInt16.reduceToNat, UInt8.reduceToNat, Int.reduceAdd, Int.reduceSub, Int.reduceMul, Nat.reduceMul, Qp0, Ql0, Qe0, e1]
    exact ⟨_, PH.Le.refl _, by first | rfl | trivial, rfl⟩
end Go.Proofs.Ytdlaoeepeakpeaa


/- Claims, writes and vectors: which are alike. No condition. -/
namespace Go.Proofs.Ytdlaoeepeakpeaa
set_option linter.unusedVariables false
set_option linter.unusedSimpArgs false
open Go.RowKit Px Wr
def sameC (a b : Cl) : Bool := decide (a.s = b.s) && decide (a.u = b.u) && decide (a.e = b.e) && decide (a.i = b.i) && decide (a.k = b.k) && decide (a.x = b.x)
theorem sameC_iff {a b : Cl} : sameC a b = true ↔ a = b := by
  unfold sameC
  simp only [Bool.and_eq_true, decide_eq_true_eq]
  constructor
  · rintro ⟨⟨⟨⟨⟨h1, h2⟩, h3⟩, h4⟩, h5⟩, h6⟩; exact Cl.ext' h1 h2 h3 h4 h5 h6
  · rintro rfl; simp
set_option maxRecDepth 20000 in
set_option maxHeartbeats 4000000 in
theorem sameC_any (w0 : World) (h : PH) (a b : Cl) (A B : Option Addr) (c d : Nat) (hx : Rv w0 h A (ints a.x)) (hy : Rv w0 h B (ints b.x)) (hc : a.x.length ≤ c) (hd : b.x.length ≤ d) (hm : a.x.length ≤ 1000000) : PCalls Try.prog w0 14 [.agg (clL a A c).toArray, .agg (clL b B d).toArray] h fun r h' => r = .bool (sameC a b) ∧ h' = h := by
  refine PCalls_body Try.func14 (by kernel_rfl) rfl _ Try.ntmps14 (by kernel_rfl) (by kernel_rfl) _ Try.results14 ?_
  unfold clL
  simp -dsimp -implicitDefEqProofs (disch := first | omega | assumption | (simp only [Option.isSome_some, Qt0]; done) | (simp only [UInt64.reduceToNat, UInt32.reduceToNat, UInt8.reduceToNat, List.length_cons, List.length_nil, List.length_append, Int.toNat_natCast] <;> omega)) only [Nat.reduceLT, Nat.reduceLeDiff, Nat.reduceEqDiff, ↓reduceIte, Int.reduceLT, Int.reduceLE, Int.reduceToNat, Int.reduceEq, Int.reduceNe, Nat.reduceAdd, UInt8.reduceOfNat, UInt16.reduceOfNat, UInt32.reduceOfNat, UInt64.reduceOfNat, UInt64.reduceToNat, UInt32.reduceToNat, UInt16.reduceToNat, UInt8.reduceToNat, Int.reduceAdd, Int.reduceSub, Int.reduceMul, Nat.reduceMul, Qp0, Ql0, Qe0]
  refine fun p1 hp1 => ?_
  have hle1 := (PH.Le.refl h).new p1 ⟨[str a.s, str a.u, .int .i64 a.e, .int .i64 a.i, .int .i64 a.k, .slice A a.x.length c], 6⟩ hp1
  have hq1 : (h.new p1 ⟨[str a.s, str a.u, .int .i64 a.e, .int .i64 a.i, .int .i64 a.k, .slice A a.x.length c], 6⟩).m p1 = some ⟨[str a.s, str a.u, .int .i64 a.e, .int .i64 a.i, .int .i64 a.k, .slice A a.x.length c], 6⟩ := by rw [PH.new_m, if_pos rfl]
  simp -dsimp -implicitDefEqProofs (disch := first | omega | assumption | (simp only [Option.isSome_some, Qt0]; done) | (simp only [UInt64.reduceToNat, UInt32.reduceToNat, UInt8.reduceToNat, List.length_cons, List.length_nil, List.length_append, Int.toNat_natCast] <;> omega)) only [Nat.reduceLT, Nat.reduceLeDiff, Nat.reduceEqDiff, ↓reduceIte, Int.reduceLT, Int.reduceLE, Int.reduceToNat, Int.reduceEq, Int.reduceNe, Nat.reduceAdd, UInt8.reduceOfNat, UInt16.reduceOfNat, UInt32.reduceOfNat, UInt64.reduceOfNat, UInt64.reduceToNat, UInt32.reduceToNat, UInt16.reduceToNat, UInt8.reduceToNat, Int.reduceAdd, Int.reduceSub, Int.reduceMul, Nat.reduceMul, Qp0, Ql0, Qe0]
  generalize h.new p1 ⟨[str a.s, str a.u, .int .i64 a.e, .int .i64 a.i, .int .i64 a.k, .slice A a.x.length c], 6⟩ = h1 at *
  refine fun p2 hp2 => ?_
  have hle2 := hle1.new p2 ⟨[str b.s, str b.u, .int .i64 b.e, .int .i64 b.i, .int .i64 b.k, .slice B b.x.length d], 6⟩ (Nat.le_trans hle1.top hp2)
  have hq2 : (h1.new p2 ⟨[str b.s, str b.u, .int .i64 b.e, .int .i64 b.i, .int .i64 b.k, .slice B b.x.length d], 6⟩).m p2 = some ⟨[str b.s, str b.u, .int .i64 b.e, .int .i64 b.i, .int .i64 b.k, .slice B b.x.length d], 6⟩ := by rw [PH.new_m, if_pos rfl]
  have hq3 := ((PH.Le.refl h1).new p2 ⟨[str b.s, str b.u, .int .i64 b.e, .int .i64 b.i, .int .i64 b.k, .slice B b.x.length d], 6⟩ hp2).m _ _ hq1
  simp -dsimp -implicitDefEqProofs (disch := first | omega | assumption | (simp only [Option.isSome_some, Qt0]; done) | (simp only [UInt64.reduceToNat, UInt32.reduceToNat, UInt8.reduceToNat, List.length_cons, List.length_nil, List.length_append, Int.toNat_natCast] <;> omega)) only [Nat.reduceLT, Nat.reduceLeDiff, Nat.reduceEqDiff, ↓reduceIte, Int.reduceLT, Int.reduceLE, Int.reduceToNat, Int.reduceEq, Int.reduceNe, Nat.reduceAdd, UInt8.reduceOfNat, UInt16.reduceOfNat, UInt32.reduceOfNat, UInt64.reduceOfNat, UInt64.reduceToNat, UInt32.reduceToNat, UInt16.reduceToNat, UInt8.reduceToNat, Int.reduceAdd, Int.reduceSub, Int.reduceMul, Nat.reduceMul, Qp0, Ql0, Qe0]
  generalize h1.new p2 ⟨[str b.s, str b.u, .int .i64 b.e, .int .i64 b.i, .int .i64 b.k, .slice B b.x.length d], 6⟩ = h2 at *
  have hV := sameV_any w0 h2 A B c d a.x b.x (hx.more hle2) (hy.more hle2) hc hd hm
  unfold sameC
  obtain ⟨b1, hb1⟩ : ∃ z, decide (a.s = b.s) = z := ⟨_, rfl⟩
  obtain ⟨b2, hb2⟩ : ∃ z, decide (a.u = b.u) = z := ⟨_, rfl⟩
  obtain ⟨b3, hb3⟩ : ∃ z, decide (a.e = b.e) = z := ⟨_, rfl⟩
  obtain ⟨b4, hb4⟩ : ∃ z, decide (a.i = b.i) = z := ⟨_, rfl⟩
  obtain ⟨b5, hb5⟩ : ∃ z, decide (a.k = b.k) = z := ⟨_, rfl⟩
  rw [hb1, hb2, hb3, hb4, hb5]
  generalize decide (a.x = b.x) = b6 at *
  have hV := Lib.hid hV
  cases b1; rotate_left
  cases b2; rotate_left
  cases b3; rotate_left
  cases b4; rotate_left
  cases b5; rotate_left
  all_goals
    simp -dsimp -implicitDefEqProofs (disch := first | omega | assumption | (simp only [Option.isSome_some, Qt0]; done) | (simp only [UInt64.reduceToNat, UInt32.reduceToNat, UInt8.reduceToNat, List.length_cons, List.length_nil, List.length_append, Int.toNat_natCast] <;> omega)) only [Nat.reduceLT, Nat.reduceLeDiff, Nat.reduceEqDiff, ↓reduceIte, Int.reduceLT, Int.reduceLE, Int.reduceToNat, Int.reduceEq, Int.reduceNe, Nat.reduceAdd, UInt8.reduceOfNat, UInt16.reduceOfNat, UInt32.reduceOfNat, UInt64.reduceOfNat, UInt64.reduceToNat, UInt32.reduceToNat, UInt16.reduceToNat, UInt8.reduceToNat, Int.reduceAdd, Int.reduceSub, Int.reduceMul, Nat.reduceMul, Qp0, Ql0, Qe0, hb1, hb2, hb3, hb4, hb5, rd_M, rdM_some, hq2, hq3]
    repeat
      first | refine hV.out.mono ?_
      rintro v hq ⟨rfl, hz⟩
      obtain rfl := hz.symm
      simp -dsimp -implicitDefEqProofs (disch := first | omega | assumption | (simp only [Option.isSome_some, Qt0]; done) | (simp only [UInt64.reduceToNat, UInt32.reduceToNat, UInt8.reduceToNat, List.length_cons, List.length_nil, List.length_append, Int.toNat_natCast] <;> omega)) only [Nat.reduceLT, Nat.reduceLeDiff, Nat.reduceEqDiff, ↓reduceIte, Int.reduceLT, Int.reduceLE, Int.reduceToNat, Int.reduceEq, Int.reduceNe, Nat.reduceAdd, UInt8.reduceOfNat, UInt16.reduceOfNat, UInt32.reduceOfNat, UInt64.reduceOfNat, UInt64.reduceToNat, UInt32.reduceToNat, UInt16.reduceToNat, UInt8.reduceToNat, Int.reduceAdd, Int.reduceSub, Int.reduceMul, Nat.reduceMul, Qp0, Ql0, Qe0, hb1, hb2, hb3, hb4, hb5, rd_M, rdM_some, hq2, hq3]
    exact ⟨_, hle2, by first | rfl | trivial | (simp; done), rfl⟩
end Go.Proofs.Ytdlaoeepeakpeaa


/- What a writer has behind it: the plain law of one thing. No condition. -/
namespace Go.Proofs.Ytdlaoeepeakpeaa
set_option linter.unusedVariables false
set_option linter.unusedSimpArgs false
open Go.RowKit Px Wr
theorem allOne_of (l : List Value) (h : (l.all fun v => v.oneCell') = true) : allOne l := fun v hv => List.all_eq_true.1 h v hv
def textB (y : List UInt8) : List UInt8 := numB y.length ++ y
theorem putM_ok (l y : List UInt8) (h : l.length + y.length ≤ 65536) : putM (l, none) y = (l ++ y, none) := by
  unfold putM; rw [if_neg (by simp), if_neg (by simp only; omega)]
theorem numM_ok (l : List UInt8) (n : Int) (h0 : 0 ≤ n) (h1 : n ≤ 1099511627776) (h : l.length ≤ 60000) : numM (l, none) n = (l ++ numB n.toNat, none) := by
  unfold numM
  have := numB_len9 (n := n.toNat) (by omega)
  rw [if_neg (by simp), if_neg (by omega), putM_ok _ _ (by omega)]
theorem textM_ok (l y : List UInt8) (h1 : y.length ≤ 1000) (h : l.length ≤ 60000) : textM (l, none) y = (l ++ textB y, none) := by
  unfold textM textB
  have := numB_len9 (n := y.length) (by omega)
  rw [putM_ok _ _ (by simp; omega)]
theorem trim_up {v : List Int} {a b : Int} (h : trim v a = true) (hab : a ≤ b) : trim v b = true := by
  rw [trim_iff] at h ⊢
  exact ⟨h.1, h.2.1, fun j hj => by have := h.2.2 j hj; omega⟩
theorem vecB_len {v : List Int} (h : trim v 1099511627776 = true) : (vecB v).length ≤ 160 := by
  unfold vecB
  have h1 := trim_len h
  have h2 := numB_len9 (n := v.length) (by omega)
  have h3 := flat_len_le v (fun n hn => by have := trim_all h n hn; omega)
  simp only [List.length_append]; omega
theorem vecM_ok (l : List UInt8) (v : List Int) (h1 : trim v 1099511627776 = true) (h : l.length ≤ 60000) : vecM (l, none) v = (l ++ vecB v, none) := by
  unfold vecM
  have := vecB_len h1
  rw [if_neg (by simp), if_pos (trim_up h1 (by omega)), putM_ok _ _ (by omega)]
theorem OS.init {h : PH} {ob : Nat} (hb : h.top ≤ ob) : OS h (h.new ob ⟨[.slice none 0 0, .nilIface], 2⟩) ob ([], none) :=
  ⟨(PH.Le.refl h).new _ _ hb, hb, by simp, none, 0, .nilIface, by rw [PH.new_m, if_pos rfl]; rfl, Own.nil _ 1, (fun a e => by cases e), rfl⟩
end Go.Proofs.Ytdlaoeepeakpeaa


/- The bytes of claims and of writes: what Encode does. No condition. -/
namespace Go.Proofs.Ytdlaoeepeakpeaa
set_option linter.unusedVariables false
set_option linter.unusedSimpArgs false
open Go.RowKit Px Wr
def bytesC (c : Cl) : List UInt8 := textB c.s ++ (textB c.u ++ (numB c.e.toNat ++ (numB c.i.toNat ++ (numB c.k.toNat ++ vecB c.x))))
def bytesW (c : Wt) : List UInt8 := numB c.r.toNat ++ (numB c.n.toNat ++ (numB c.t.toNat ++ (vecB c.d ++ (textB c.s ++ (textB c.k ++ (flagB c.g ++ (textB c.v ++ numB c.l.toNat)))))))
theorem inB_iff {n m : Int} : inB n m = true ↔ m ≤ n ∧ n ≤ 1099511627776 := by unfold inB; simp
theorem rightC_iff {c : Cl} : rightC c = true ↔ 1 ≤ c.s.length ∧ c.s.length ≤ 64 ∧ 1 ≤ c.u.length ∧ c.u.length ≤ 32 ∧ (0 ≤ c.e ∧ c.e ≤ 1099511627776) ∧ (0 ≤ c.i ∧ c.i ≤ 1099511627776) ∧ (0 ≤ c.k ∧ c.k ≤ 1099511627776) ∧ trim c.x 1099511627776 = true := by
  unfold rightC
  simp only [Bool.and_eq_true, decide_eq_true_eq, inB_iff, and_assoc]
  refine and_congr (by omega) (and_congr (by omega) (and_congr (by omega) (and_congr (by omega) Iff.rfl)))
theorem rightW_iff {c : Wt} : rightW c = true ↔ 1 ≤ c.r ∧ c.r ≤ 16 ∧ (1 ≤ c.n ∧ c.n ≤ 1099511627776) ∧ c.q = c.r ∧ (1 ≤ c.t ∧ c.t ≤ 1099511627776) ∧ trim c.d 1099511627776 = true ∧ 1 ≤ c.s.length ∧ c.s.length ≤ 64 ∧ c.k.length ≤ 32 ∧ c.v.length ≤ 128 ∧ (c.g = false ∨ c.v = []) ∧ (0 ≤ c.l ∧ c.l ≤ 1099511627776) := by
  unfold rightW
  simp only [Bool.and_eq_true, Bool.or_eq_true, Bool.not_eq_true', decide_eq_true_eq, inB_iff, and_assoc]
  constructor <;> (rintro ⟨a1, a2, a3, a4, a5, a6, a7, a8, a9, a10, a11, a12, a13, a14, a15⟩; exact ⟨by omega, by omega, a3, a4, a5, a6, a7, a8, by omega, by omega, by omega, by omega, a13, a14, a15⟩)
theorem textB_len {y : List UInt8} {k : Nat} (h : y.length ≤ k) (hk : k ≤ 1000) : (textB y).length ≤ k + 9 := by
  unfold textB; have := numB_len9 (n := y.length) (by omega); simp; omega
theorem encC_chain {c : Cl} (h : rightC c = true) : vecM (numM (numM (numM (textM (textM ([], none) c.s) c.u) c.e) c.i) c.k) c.x = (bytesC c, none) := by
  obtain ⟨h1, h2, h3, h4, ⟨h5, h6⟩, ⟨h7, h8⟩, ⟨h9, h10⟩, h11⟩ := rightC_iff.1 h
  have l1 := textB_len h2 (by omega)
  have l2 := textB_len h4 (by omega)
  have l3 := numB_len9 (n := c.e.toNat) (by omega)
  have l4 := numB_len9 (n := c.i.toNat) (by omega)
  have l5 := numB_len9 (n := c.k.toNat) (by omega)
  rw [textM_ok _ _ (by omega) (by simp), textM_ok _ _ (by omega) (by simp; omega), numM_ok _ _ h5 h6 (by simp; omega), numM_ok _ _ h7 h8 (by simp; omega), numM_ok _ _ h9 h10 (by simp; omega), vecM_ok _ _ h11 (by simp; omega)]
  unfold bytesC
  simp only [List.nil_append, List.append_assoc]
/-- What Encode tells. -/
def ENC (h : PH) (ok : Bool) (b : List UInt8) (v : Value) : Prop := if ok = true then v = .tuple #[str b, .nilIface] else ∃ ev, v = .tuple #[str [], ev] ∧ EV h (.wrap wireT 0 (.code 1)) ev
set_option maxRecDepth 20000 in
set_option maxHeartbeats 4000000 in
theorem encC_any (w0 : World) (h : PH) (c : Cl) (A : Option Addr) (cap : Nat) (hr : Rv w0 h A (ints c.x)) (hc : c.x.length ≤ cap) (hx : c.x.length ≤ 9223372036854775807) : PCalls Try.prog w0 24 [.agg (clL c A cap).toArray] h fun r h' => ENC h' (rightC c) (bytesC c) r ∧ PH.Le h h' := by
  refine PCalls_body Try.func24 (by kernel_rfl) rfl _ Try.ntmps24 (by kernel_rfl) (by kernel_rfl) _ Try.results24 ?_
  unfold clL
  simp -dsimp -implicitDefEqProofs (disch := first | omega | assumption | (simp only [Option.isSome_some, Qt0]; done) | (simp only [UInt64.reduceToNat, UInt32.reduceToNat, UInt8.reduceToNat, List.length_cons, List.length_nil, List.length_append, Int.toNat_natCast] <;> omega)) only [Nat.reduceLT, Nat.reduceLeDiff, Nat.reduceEqDiff, ↓reduceIte, Int.reduceLT, Int.reduceLE, Int.reduceToNat, Int.reduceEq, Int.reduceNe, Nat.reduceAdd, UInt8.reduceOfNat, UInt16.reduceOfNat, UInt32.reduceOfNat, UInt64.reduceOfNat, UInt64.reduceToNat, UInt32.reduceToNat, UInt16.reduceToNat, UInt8.reduceToNat, Int.reduceAdd, Int.reduceSub, Int.reduceMul, Nat.reduceMul, Qp0, Ql0, Qe0]
  refine fun pb hpb => ?_
  have hle := (PH.Le.refl h).new pb ⟨[str c.s, str c.u, .int .i64 c.e, .int .i64 c.i, .int .i64 c.k, .slice A c.x.length cap], 6⟩ hpb
  have hp : (h.new pb ⟨[str c.s, str c.u, .int .i64 c.e, .int .i64 c.i, .int .i64 c.k, .slice A c.x.length cap], 6⟩).m pb = some ⟨[str c.s, str c.u, .int .i64 c.e, .int .i64 c.i, .int .i64 c.k, .slice A c.x.length cap], 6⟩ := by rw [PH.new_m, if_pos rfl]
  have hr1 := hr.more hle
  simp -dsimp -implicitDefEqProofs (disch := first | omega | assumption | (simp only [Option.isSome_some, Qt0]; done) | (simp only [UInt64.reduceToNat, UInt32.reduceToNat, UInt8.reduceToNat, List.length_cons, List.length_nil, List.length_append, Int.toNat_natCast] <;> omega)) only [Nat.reduceLT, Nat.reduceLeDiff, Nat.reduceEqDiff, ↓reduceIte, Int.reduceLT, Int.reduceLE, Int.reduceToNat, Int.reduceEq, Int.reduceNe, Nat.reduceAdd, UInt8.reduceOfNat, UInt16.reduceOfNat, UInt32.reduceOfNat, UInt64.reduceOfNat, UInt64.reduceToNat, UInt32.reduceToNat, UInt16.reduceToNat, UInt8.reduceToNat, Int.reduceAdd, Int.reduceSub, Int.reduceMul, Nat.reduceMul, Qp0, Ql0, Qe0]
  generalize h.new pb ⟨[str c.s, str c.u, .int .i64 c.e, .int .i64 c.i, .int .i64 c.k, .slice A c.x.length cap], 6⟩ = h1 at *
  have hs0 : rdN w0 h1 ⟨pb, 0, none⟩ 6 = some [str c.s, str c.u, .int .i64 c.e, .int .i64 c.i, .int .i64 c.k, .slice A c.x.length cap] := by unfold rdN; simp only [hp]; rfl
  have hR := rightC_any w0 h1 c A cap hr1 hc hx
  unfold clL at hR
  cases hb : rightC c with
  | false =>
    rw [hb] at hR
    have hR := Lib.hid hR
    simp -dsimp -implicitDefEqProofs (disch := first | omega | assumption | (simp only [Option.isSome_some, Qt0]; done) | (simp only [UInt64.reduceToNat, UInt32.reduceToNat, UInt8.reduceToNat, List.length_cons, List.length_nil, List.length_append, Int.toNat_natCast] <;> omega)) only [Nat.reduceLT, Nat.reduceLeDiff, Nat.reduceEqDiff, ↓reduceIte, Int.reduceLT, Int.reduceLE, Int.reduceToNat, Int.reduceEq, Int.reduceNe, Nat.reduceAdd, UInt8.reduceOfNat, UInt16.reduceOfNat, UInt32.reduceOfNat, UInt64.reduceOfNat, UInt64.reduceToNat, UInt32.reduceToNat, UInt16.reduceToNat, UInt8.reduceToNat, Int.reduceAdd, Int.reduceSub, Int.reduceMul, Nat.reduceMul, Qp0, Ql0, Qe0, hs0]
    refine hR.out.mono ?_
    rintro v hq ⟨rfl, hz⟩
    obtain rfl := hz.symm
    simp -dsimp -implicitDefEqProofs (disch := first | omega | assumption | (simp only [Option.isSome_some, Qt0]; done) | (simp only [UInt64.reduceToNat, UInt32.reduceToNat, UInt8.reduceToNat, List.length_cons, List.length_nil, List.length_append, Int.toNat_natCast] <;> omega)) only [Nat.reduceLT, Nat.reduceLeDiff, Nat.reduceEqDiff, ↓reduceIte, Int.reduceLT, Int.reduceLE, Int.reduceToNat, Int.reduceEq, Int.reduceNe, Nat.reduceAdd, UInt8.reduceOfNat, UInt16.reduceOfNat, UInt32.reduceOfNat, UInt64.reduceOfNat, UInt64.reduceToNat, UInt32.reduceToNat, UInt16.reduceToNat, UInt8.reduceToNat, Int.reduceAdd, Int.reduceSub, Int.reduceMul, Nat.reduceMul, Qp0, Ql0, Qe0]
    refine (at_any wireT _ _ _ w0 _).mono ?_
    rintro v hq ⟨be, rfl, hbe, rfl⟩
    unfold errV
    simp -dsimp -implicitDefEqProofs (disch := first | omega | assumption | (simp only [Option.isSome_some, Qt0]; done) | (simp only [UInt64.reduceToNat, UInt32.reduceToNat, UInt8.reduceToNat, List.length_cons, List.length_nil, List.length_append, Int.toNat_natCast] <;> omega)) only [Nat.reduceLT, Nat.reduceLeDiff, Nat.reduceEqDiff, ↓reduceIte, Int.reduceLT, Int.reduceLE, Int.reduceToNat, Int.reduceEq, Int.reduceNe, Nat.reduceAdd, UInt8.reduceOfNat, UInt16.reduceOfNat, UInt32.reduceOfNat, UInt64.reduceOfNat, UInt64.reduceToNat, UInt32.reduceToNat, UInt16.reduceToNat, UInt8.reduceToNat, Int.reduceAdd, Int.reduceSub, Int.reduceMul, Nat.reduceMul, Qp0, Ql0, Qe0]
    refine ⟨_, PH.Le.refl _, ?_, hle.trans ((PH.Le.refl _).new _ _ hbe)⟩
    unfold ENC
    rw [if_neg (by simp)]
    exact ⟨_, rfl, be, _, rfl, by rw [PH.new_m, if_pos rfl]; rfl, rfl⟩
  | true =>
    rw [hb] at hR
    have hR := Lib.hid hR
    have hch := encC_chain hb
    have hri := rightC_iff.1 hb
    simp -dsimp -implicitDefEqProofs (disch := first | omega | assumption | (simp only [Option.isSome_some, Qt0]; done) | (simp only [UInt64.reduceToNat, UInt32.reduceToNat, UInt8.reduceToNat, List.length_cons, List.length_nil, List.length_append, Int.toNat_natCast] <;> omega)) only [Nat.reduceLT, Nat.reduceLeDiff, Nat.reduceEqDiff, ↓reduceIte, Int.reduceLT, Int.reduceLE, Int.reduceToNat, Int.reduceEq, Int.reduceNe, Nat.reduceAdd, UInt8.reduceOfNat, UInt16.reduceOfNat, UInt32.reduceOfNat, UInt64.reduceOfNat, UInt64.reduceToNat, UInt32.reduceToNat, UInt16.reduceToNat, UInt8.reduceToNat, Int.reduceAdd, Int.reduceSub, Int.reduceMul, Nat.reduceMul, Qp0, Ql0, Qe0, hs0]
    refine hR.out.mono ?_
    rintro v hq ⟨rfl, hz⟩
    obtain rfl := hz.symm
    simp -dsimp -implicitDefEqProofs (disch := first | omega | assumption | (simp only [Option.isSome_some, Qt0]; done) | (simp only [UInt64.reduceToNat, UInt32.reduceToNat, UInt8.reduceToNat, List.length_cons, List.length_nil, List.length_append, Int.toNat_natCast] <;> omega)) only [Nat.reduceLT, Nat.reduceLeDiff, Nat.reduceEqDiff, ↓reduceIte, Int.reduceLT, Int.reduceLE, Int.reduceToNat, Int.reduceEq, Int.reduceNe, Nat.reduceAdd, UInt8.reduceOfNat, UInt16.reduceOfNat, UInt32.reduceOfNat, UInt64.reduceOfNat, UInt64.reduceToNat, UInt32.reduceToNat, UInt16.reduceToNat, UInt8.reduceToNat, Int.reduceAdd, Int.reduceSub, Int.reduceMul, Nat.reduceMul, Qp0, Ql0, Qe0]
    refine fun ob hob => ?_
    have hs := OS.init hob
    have hp1 := hs.le.m _ _ hp
    simp -dsimp -implicitDefEqProofs (disch := first | omega | assumption | (simp only [Option.isSome_some, Qt0]; done) | (simp only [UInt64.reduceToNat, UInt32.reduceToNat, UInt8.reduceToNat, List.length_cons, List.length_nil, List.length_append, Int.toNat_natCast] <;> omega)) only [Nat.reduceLT, Nat.reduceLeDiff, Nat.reduceEqDiff, ↓reduceIte, Int.reduceLT, Int.reduceLE, Int.reduceToNat, Int.reduceEq, Int.reduceNe, Nat.reduceAdd, UInt8.reduceOfNat, UInt16.reduceOfNat, UInt32.reduceOfNat, UInt64.reduceOfNat, UInt64.reduceToNat, UInt32.reduceToNat, UInt16.reduceToNat, UInt8.reduceToNat, Int.reduceAdd, Int.reduceSub, Int.reduceMul, Nat.reduceMul, Qp0, Ql0, Qe0]
    generalize h1.new ob ⟨[.slice none 0 0, .nilIface], 2⟩ = h2 at *
    simp -dsimp -implicitDefEqProofs (disch := first | omega | assumption | (simp only [Option.isSome_some, Qt0]; done) | (simp only [UInt64.reduceToNat, UInt32.reduceToNat, UInt8.reduceToNat, List.length_cons, List.length_nil, List.length_append, Int.toNat_natCast] <;> omega)) only [Nat.reduceLT, Nat.reduceLeDiff, Nat.reduceEqDiff, ↓reduceIte, Int.reduceLT, Int.reduceLE, Int.reduceToNat, Int.reduceEq, Int.reduceNe, Nat.reduceAdd, UInt8.reduceOfNat, UInt16.reduceOfNat, UInt32.reduceOfNat, UInt64.reduceOfNat, UInt64.reduceToNat, UInt32.reduceToNat, UInt16.reduceToNat, UInt8.reduceToNat, Int.reduceAdd, Int.reduceSub, Int.reduceMul, Nat.reduceMul, Qp0, Ql0, Qe0, rd_M, rdM_some, hp1]
    refine (wtext_any h1 ob _ w0 _ hs c.s (by omega)).mono ?_
    intro v q hs
    have hp1 := hs.le.m _ _ hp
    simp -dsimp -implicitDefEqProofs (disch := first | omega | assumption | (simp only [Option.isSome_some, Qt0]; done) | (simp only [UInt64.reduceToNat, UInt32.reduceToNat, UInt8.reduceToNat, List.length_cons, List.length_nil, List.length_append, Int.toNat_natCast] <;> omega)) only [Nat.reduceLT, Nat.reduceLeDiff, Nat.reduceEqDiff, ↓reduceIte, Int.reduceLT, Int.reduceLE, Int.reduceToNat, Int.reduceEq, Int.reduceNe, Nat.reduceAdd, UInt8.reduceOfNat, UInt16.reduceOfNat, UInt32.reduceOfNat, UInt64.reduceOfNat, UInt64.reduceToNat, UInt32.reduceToNat, UInt16.reduceToNat, UInt8.reduceToNat, Int.reduceAdd, Int.reduceSub, Int.reduceMul, Nat.reduceMul, Qp0, Ql0, Qe0, rd_M, rdM_some, hp1]
    refine (wtext_any h1 ob _ w0 _ hs c.u (by omega)).mono ?_
    intro v q hs
    have hp1 := hs.le.m _ _ hp
    simp -dsimp -implicitDefEqProofs (disch := first | omega | assumption | (simp only [Option.isSome_some, Qt0]; done) | (simp only [UInt64.reduceToNat, UInt32.reduceToNat, UInt8.reduceToNat, List.length_cons, List.length_nil, List.length_append, Int.toNat_natCast] <;> omega)) only [Nat.reduceLT, Nat.reduceLeDiff, Nat.reduceEqDiff, ↓reduceIte, Int.reduceLT, Int.reduceLE, Int.reduceToNat, Int.reduceEq, Int.reduceNe, Nat.reduceAdd, UInt8.reduceOfNat, UInt16.reduceOfNat, UInt32.reduceOfNat, UInt64.reduceOfNat, UInt64.reduceToNat, UInt32.reduceToNat, UInt16.reduceToNat, UInt8.reduceToNat, Int.reduceAdd, Int.reduceSub, Int.reduceMul, Nat.reduceMul, Qp0, Ql0, Qe0, rd_M, rdM_some, hp1]
    refine (num_any h1 ob _ w0 _ hs c.e (by omega)).mono ?_
    intro v q hs
    have hp1 := hs.le.m _ _ hp
    simp -dsimp -implicitDefEqProofs (disch := first | omega | assumption | (simp only [Option.isSome_some, Qt0]; done) | (simp only [UInt64.reduceToNat, UInt32.reduceToNat, UInt8.reduceToNat, List.length_cons, List.length_nil, List.length_append, Int.toNat_natCast] <;> omega)) only [Nat.reduceLT, Nat.reduceLeDiff, Nat.reduceEqDiff, ↓reduceIte, Int.reduceLT, Int.reduceLE, Int.reduceToNat, Int.reduceEq, Int.reduceNe, Nat.reduceAdd, UInt8.reduceOfNat, UInt16.reduceOfNat, UInt32.reduceOfNat, UInt64.reduceOfNat, UInt64.reduceToNat, UInt32.reduceToNat, UInt16.reduceToNat, UInt8.reduceToNat, Int.reduceAdd, Int.reduceSub, Int.reduceMul, Nat.reduceMul, Qp0, Ql0, Qe0, rd_M, rdM_some, hp1]
    refine (num_any h1 ob _ w0 _ hs c.i (by omega)).mono ?_
    intro v q hs
    have hp1 := hs.le.m _ _ hp
    simp -dsimp -implicitDefEqProofs (disch := first | omega | assumption | (simp only [Option.isSome_some, Qt0]; done) | (simp only [UInt64.reduceToNat, UInt32.reduceToNat, UInt8.reduceToNat, List.length_cons, List.length_nil, List.length_append, Int.toNat_natCast] <;> omega)) only [Nat.reduceLT, Nat.reduceLeDiff, Nat.reduceEqDiff, ↓reduceIte, Int.reduceLT, Int.reduceLE, Int.reduceToNat, Int.reduceEq, Int.reduceNe, Nat.reduceAdd, UInt8.reduceOfNat, UInt16.reduceOfNat, UInt32.reduceOfNat, UInt64.reduceOfNat, UInt64.reduceToNat, UInt32.reduceToNat, UInt16.reduceToNat, UInt8.reduceToNat, Int.reduceAdd, Int.reduceSub, Int.reduceMul, Nat.reduceMul, Qp0, Ql0, Qe0, rd_M, rdM_some, hp1]
    refine (num_any h1 ob _ w0 _ hs c.k (by omega)).mono ?_
    intro v q hs
    have hp1 := hs.le.m _ _ hp
    simp -dsimp -implicitDefEqProofs (disch := first | omega | assumption | (simp only [Option.isSome_some, Qt0]; done) | (simp only [UInt64.reduceToNat, UInt32.reduceToNat, UInt8.reduceToNat, List.length_cons, List.length_nil, List.length_append, Int.toNat_natCast] <;> omega)) only [Nat.reduceLT, Nat.reduceLeDiff, Nat.reduceEqDiff, ↓reduceIte, Int.reduceLT, Int.reduceLE, Int.reduceToNat, Int.reduceEq, Int.reduceNe, Nat.reduceAdd, UInt8.reduceOfNat, UInt16.reduceOfNat, UInt32.reduceOfNat, UInt64.reduceOfNat, UInt64.reduceToNat, UInt32.reduceToNat, UInt16.reduceToNat, UInt8.reduceToNat, Int.reduceAdd, Int.reduceSub, Int.reduceMul, Nat.reduceMul, Qp0, Ql0, Qe0, rd_M, rdM_some, hp1]
    refine (wvec_any h1 ob _ w0 _ hs A cap c.x (hr1.more hs.le) hc (by have := trim_len hri.2.2.2.2.2.2.2; omega)).mono ?_
    intro v q hs
    have hp1 := hs.le.m _ _ hp
    simp -dsimp -implicitDefEqProofs (disch := first | omega | assumption | (simp only [Option.isSome_some, Qt0]; done) | (simp only [UInt64.reduceToNat, UInt32.reduceToNat, UInt8.reduceToNat, List.length_cons, List.length_nil, List.length_append, Int.toNat_natCast] <;> omega)) only [Nat.reduceLT, Nat.reduceLeDiff, Nat.reduceEqDiff, ↓reduceIte, Int.reduceLT, Int.reduceLE, Int.reduceToNat, Int.reduceEq, Int.reduceNe, Nat.reduceAdd, UInt8.reduceOfNat, UInt16.reduceOfNat, UInt32.reduceOfNat, UInt64.reduceOfNat, UInt64.reduceToNat, UInt32.reduceToNat, UInt16.reduceToNat, UInt8.reduceToNat, Int.reduceAdd, Int.reduceSub, Int.reduceMul, Nat.reduceMul, Qp0, Ql0, Qe0, rd_M, rdM_some, hp1]
    refine (done_any h1 ob _ w0 _ hs).mono ?_
    rintro v q2 ⟨hd, hz⟩
    obtain rfl := hz.symm
    rw [hch] at hd
    obtain rfl : v = .tuple #[str (bytesC c), .nilIface] := hd
    simp -dsimp -implicitDefEqProofs (disch := first | omega | assumption | (simp only [Option.isSome_some, Qt0]; done) | (simp only [UInt64.reduceToNat, UInt32.reduceToNat, UInt8.reduceToNat, List.length_cons, List.length_nil, List.length_append, Int.toNat_natCast] <;> omega)) only [Nat.reduceLT, Nat.reduceLeDiff, Nat.reduceEqDiff, ↓reduceIte, Int.reduceLT, Int.reduceLE, Int.reduceToNat, Int.reduceEq, Int.reduceNe, Nat.reduceAdd, UInt8.reduceOfNat, UInt16.reduceOfNat, UInt32.reduceOfNat, UInt64.reduceOfNat, UInt64.reduceToNat, UInt32.reduceToNat, UInt16.reduceToNat, UInt8.reduceToNat, Int.reduceAdd, Int.reduceSub, Int.reduceMul, Nat.reduceMul, Qp0, Ql0, Qe0]
    exact ⟨_, PH.Le.refl _, rfl, hle.trans hs.le⟩
end Go.Proofs.Ytdlaoeepeakpeaa


/- The document's bytes: Number, Bytes, Written. No condition. -/
namespace Go.Proofs.Ytdlaoeepeakpeaa
set_option linter.unusedVariables false
set_option linter.unusedSimpArgs false
open Go.RowKit Px Wr
/-- An item: its kind; a number, a text, a flag, a vector. -/
structure It where
  K : Int
  N : Int
  S : List UInt8
  B : Bool
  V : List Int
def itL (x : It) (A : Option Addr) (cap : Nat) : List Value := [.int .i64 x.K, .int .i64 x.N, str x.S, .bool x.B, .slice A x.V.length cap]
end Go.Proofs.Ytdlaoeepeakpeaa


/- The document's bytes: Bytes, Written. No condition. -/
namespace Go.Proofs.Ytdlaoeepeakpeaa
set_option linter.unusedVariables false
set_option linter.unusedSimpArgs false
open Go.RowKit Px Wr
/-- A row of items. -/
def Items (w0 : World) (h : PH) (A : Option Addr) (L : List It) : Prop :=
  ∀ (i : Nat) (x : It), L[i]? = some x → x.N ≤ 9223372036854775807 ∧ x.S.length ≤ 900000 ∧ x.V.length ≤ 900000 ∧ ∃ b o Ai cap, A = some ⟨b, o, none⟩ ∧ x.V.length ≤ cap ∧ Rv w0 h Ai (ints x.V) ∧ ∀ h', PH.Le h h' → Low w0 h' → rdN w0 h' ⟨b, o + i * 5, none⟩ 5 = some (itL x Ai cap)
end Go.Proofs.Ytdlaoeepeakpeaa


/- Rows of items. No condition. -/
namespace Go.Proofs.Ytdlaoeepeakpeaa
set_option linter.unusedVariables false
set_option linter.unusedSimpArgs false
open Go.RowKit Px Wr
theorem flat_chunk {α : Type} (g : α → List Value) (m : Nat) (hg : ∀ a, (g a).length = m) : ∀ (L : List α) (i : Nat) (a : α), L[i]? = some a → ((L.flatMap g).drop (i * m)).take m = g a ∧ i * m + m ≤ (L.flatMap g).length
  | [], i, a, h => by simp at h
  | x :: L, 0, a, h => by
    simp at h
    subst h
    have := hg x
    simp only [List.flatMap_cons, Nat.zero_mul, List.drop_zero, List.length_append]
    exact ⟨by rw [← this, List.take_left], by omega⟩
  | x :: L, i + 1, a, h => by
    obtain ⟨h1, h2⟩ := flat_chunk g m hg L i a (by simpa using h)
    have := hg x
    simp only [List.flatMap_cons, List.length_append]
    refine ⟨?_, by rw [Nat.add_mul]; omega⟩
    rw [← h1, show (i + 1) * m = (g x).length + i * m by rw [this, Nat.add_mul]; omega, ← List.drop_drop, List.drop_left]
theorem itL_length (p : It × Option Addr × Nat) : (itL p.1 p.2.1 p.2.2).length = 5 := rfl
theorem Items.lit {w0 : World} {h : PH} {lb lim : Nat} (Ls : List (It × Option Addr × Nat)) (hm : h.m lb = some ⟨Ls.flatMap fun p => itL p.1 p.2.1 p.2.2, lim⟩)
    (hb : ∀ p ∈ Ls, p.1.N ≤ 9223372036854775807 ∧ p.1.S.length ≤ 900000 ∧ p.1.V.length ≤ 900000 ∧ p.1.V.length ≤ p.2.2 ∧ Rv w0 h p.2.1 (ints p.1.V)) : Items w0 h (some ⟨lb, 0, none⟩) (Ls.map (·.1)) := fun i x hx => by
  rw [List.getElem?_map] at hx
  obtain ⟨p, hp, rfl⟩ := Option.map_eq_some_iff.1 hx
  obtain ⟨h1, h2, h3, h4, h5⟩ := hb p (List.mem_of_getElem? hp)
  refine ⟨h1, h2, h3, lb, 0, p.2.1, p.2.2, rfl, h4, h5, fun h' hl _ => ?_⟩
  obtain ⟨g1, g2⟩ := flat_chunk (fun p : It × Option Addr × Nat => itL p.1 p.2.1 p.2.2) 5 itL_length Ls i p hp
  unfold rdN
  simp only [hl.m _ _ hm]
  rw [if_pos ⟨trivial, by simpa using g2⟩, Nat.zero_add, g1]
end Go.Proofs.Ytdlaoeepeakpeaa


/- What is read as claims: the plain law. No condition. -/
namespace Go.Proofs.Ytdlaoeepeakpeaa
set_option linter.unusedVariables false
set_option linter.unusedSimpArgs false
open Go.RowKit Px Wr
theorem step_back {α : Type} {p : List UInt8 → Option (α × List UInt8)} {z a : α} {n : Nat} {st : St} {u : List UInt8} (h : st.step p z n = (a, .ok u)) : ∃ t, st = .ok t ∧ p t = some (a, u) := by
  cases st with
  | bad q => simp [St.step] at h
  | ok t =>
    refine ⟨t, rfl, ?_⟩
    unfold St.step at h
    cases hp : p t with
    | none => simp [hp] at h
    | some q =>
      obtain ⟨b, v⟩ := q
      simp [hp] at h
      rw [h.1, h.2]
theorem numS_back {m : Int} {n x : Nat} {st : St} {u : List UInt8} (h : numS m n st = (x, .ok u)) : st = .ok (numB x ++ u) ∧ x ≤ 4611686018427387903 := by
  obtain ⟨t, h1, h2⟩ := step_back h
  obtain ⟨h3, _, h4⟩ := numP_inv h2
  exact ⟨by rw [h1, h3], h4⟩
theorem txtS_back {m : Int} {n : Nat} {y : List UInt8} {st : St} {u : List UInt8} (h : txtS m n st = (y, .ok u)) : st = .ok (textB y ++ u) := by
  obtain ⟨t, h1, h2⟩ := step_back h
  rw [h1, (txtP_inv h2).1]; rfl
theorem flagS_back {n : Nat} {b : Bool} {st : St} {u : List UInt8} (h : flagS n st = (b, .ok u)) : st = .ok (flagB b ++ u) := by
  obtain ⟨t, h1, h2⟩ := step_back h
  rw [h1, flagP_inv h2]
theorem vecS_back {n : Nat} {v : List Int} {st : St} {u : List UInt8} (h : vecS n st = (v, .ok u)) : st = .ok (vecB v ++ u) ∧ trim v 1099511627776 = true := by
  obtain ⟨t, h1, h2⟩ := step_back h
  obtain ⟨h3, h4⟩ := vecP_inv h2
  exact ⟨by rw [h1, h3], h4⟩
theorem numS_fwd {m : Int} {n : Nat} {x : Int} {u : List UInt8} (h0 : 0 ≤ x) (h1 : x ≤ m) (h2 : x ≤ 1099511627776) : numS m n (.ok (numB x.toNat ++ u)) = (x.toNat, .ok u) :=
  numS_ok n (numP_put u (by omega) (by unfold top62; omega))
theorem txtS_fwd {m : Int} {n : Nat} {y u : List UInt8} (h1 : (y.length : Int) ≤ m) (h2 : y.length ≤ 1000) : txtS m n (.ok (textB y ++ u)) = (y, .ok u) := by
  have := txtP_put u h1 (by unfold top62; omega)
  unfold txtS St.step textB
  simp only [this]
theorem flagS_fwd {n : Nat} {b : Bool} {u : List UInt8} : flagS n (.ok (flagB b ++ u)) = (b, .ok u) := by
  unfold flagS St.step; simp only [flagP_put]
theorem vecS_fwd {n : Nat} {v : List Int} {u : List UInt8} (h : trim v 1099511627776 = true) : vecS n (.ok (vecB v ++ u)) = (v, .ok u) := by
  have := vecP_put u h
  unfold vecS St.step; simp only [this]
/-- The claims whose bytes these are. -/
def IsC (s : List UInt8) (c : Cl) : Prop := rightC c = true ∧ s = bytesC c
def IsW (s : List UInt8) (c : Wt) : Prop := rightW c = true ∧ s = bytesW c
structure ChC (m1 m2 m3 : Int) (n : Nat) (s : List UInt8) (x1 x2 : List UInt8) (x3 x4 x5 : Nat) (x6 : List Int) (s1 s2 s3 s4 s5 s6 : St) : Prop where
  e1 : (x1, s1) = txtS m1 n (.ok s)
  e2 : (x2, s2) = txtS m2 n s1
  e3 : (x3, s3) = numS m3 n s2
  e4 : (x4, s4) = numS m3 n s3
  e5 : (x5, s5) = numS m3 n s4
  e6 : (x6, s6) = vecS n s5
theorem ChC.back {m1 m2 m3 : Int} {n : Nat} {s x1 x2 : List UInt8} {x3 x4 x5 : Nat} {x6 : List Int} {s1 s2 s3 s4 s5 s6 : St} (c : ChC m1 m2 m3 n s x1 x2 x3 x4 x5 x6 s1 s2 s3 s4 s5 s6) (h : s6 = .ok []) : s = bytesC ⟨x1, x2, x3, x4, x5, x6⟩ := by
  subst h
  obtain ⟨rfl, h6⟩ := vecS_back c.e6.symm
  obtain ⟨rfl, h5⟩ := numS_back c.e5.symm
  obtain ⟨rfl, h4⟩ := numS_back c.e4.symm
  obtain ⟨rfl, h3⟩ := numS_back c.e3.symm
  have := txtS_back c.e2.symm
  subst this
  have := txtS_back c.e1.symm
  injection this with this
  rw [this]
  unfold bytesC
  simp
theorem ChC.fwd {m1 m2 m3 : Int} {n : Nat} {s x1 x2 : List UInt8} {x3 x4 x5 : Nat} {x6 : List Int} {s1 s2 s3 s4 s5 s6 : St} (c : ChC m1 m2 m3 n s x1 x2 x3 x4 x5 x6 s1 s2 s3 s4 s5 s6) (h1 : 64 ≤ m1) (h2 : 32 ≤ m2) (h3 : 1099511627776 ≤ m3) {d : Cl} (hd : IsC s d) : d = ⟨x1, x2, x3, x4, x5, x6⟩ ∧ s6 = .ok [] := by
  obtain ⟨hr, rfl⟩ := hd
  obtain ⟨r1, r2, r3, r4, ⟨r5, r6⟩, ⟨r7, r8⟩, ⟨r9, r10⟩, r11⟩ := rightC_iff.1 hr
  have e1 := c.e1
  unfold bytesC at e1
  rw [txtS_fwd (by omega) (by omega)] at e1
  injection e1 with a1 b1
  have e2 := c.e2
  rw [b1, txtS_fwd (by omega) (by omega)] at e2
  injection e2 with a2 b2
  have e3 := c.e3
  rw [b2, numS_fwd r5 (by omega) (by omega)] at e3
  injection e3 with a3 b3
  have e4 := c.e4
  rw [b3, numS_fwd r7 (by omega) (by omega)] at e4
  injection e4 with a4 b4
  have e5 := c.e5
  rw [b4, numS_fwd r9 (by omega) (by omega)] at e5
  injection e5 with a5 b5
  have e6 := c.e6
  rw [b5, ← List.append_nil (vecB d.x), vecS_fwd r11] at e6
  injection e6 with a6 b6
  exact ⟨Cl.ext' a1.symm a2.symm (by rw [a3]; simp only; omega) (by rw [a4]; simp only; omega) (by rw [a5]; simp only; omega) a6.symm, b6⟩
structure ChW (m1 m2 m3 m4 m5 : Int) (n : Nat) (s : List UInt8) (x1 x2 x3 : Nat) (x4 : List Int) (x5 x6 : List UInt8) (x7 : Bool) (x8 : List UInt8) (x9 : Nat) (s1 s2 s3 s4 s5 s6 s7 s8 s9 : St) : Prop where
  e1 : (x1, s1) = numS m1 n (.ok s)
  e2 : (x2, s2) = numS m2 n s1
  e3 : (x3, s3) = numS m2 n s2
  e4 : (x4, s4) = vecS n s3
  e5 : (x5, s5) = txtS m3 n s4
  e6 : (x6, s6) = txtS m4 n s5
  e7 : (x7, s7) = flagS n s6
  e8 : (x8, s8) = txtS m5 n s7
  e9 : (x9, s9) = numS m2 n s8
section
variable {m1 m2 m3 m4 m5 : Int} {n : Nat} {s : List UInt8} {x1 x2 x3 : Nat} {x4 : List Int} {x5 x6 : List UInt8} {x7 : Bool} {x8 : List UInt8} {x9 : Nat} {s1 s2 s3 s4 s5 s6 s7 s8 s9 : St}
theorem ChW.back (c : ChW m1 m2 m3 m4 m5 n s x1 x2 x3 x4 x5 x6 x7 x8 x9 s1 s2 s3 s4 s5 s6 s7 s8 s9) (h : s9 = .ok []) : s = bytesW ⟨x1, x2, x3, x1, x4, x5, x6, x8, x7, x9⟩ := by
  subst h
  obtain ⟨rfl, _⟩ := numS_back c.e9.symm
  have := txtS_back c.e8.symm
  subst this
  have := flagS_back c.e7.symm
  subst this
  have := txtS_back c.e6.symm
  subst this
  have := txtS_back c.e5.symm
  subst this
  obtain ⟨rfl, _⟩ := vecS_back c.e4.symm
  obtain ⟨rfl, _⟩ := numS_back c.e3.symm
  obtain ⟨rfl, _⟩ := numS_back c.e2.symm
  obtain ⟨h1, _⟩ := numS_back c.e1.symm
  injection h1 with h1
  rw [h1]
  unfold bytesW
  simp
theorem ChW.fwd (c : ChW m1 m2 m3 m4 m5 n s x1 x2 x3 x4 x5 x6 x7 x8 x9 s1 s2 s3 s4 s5 s6 s7 s8 s9) (h1 : 16 ≤ m1) (h2 : 1099511627776 ≤ m2) (h3 : 64 ≤ m3) (h4 : 32 ≤ m4) (h5 : 128 ≤ m5) {d : Wt} (hd : IsW s d) : d = ⟨x1, x2, x3, x1, x4, x5, x6, x8, x7, x9⟩ ∧ s9 = .ok [] := by
  obtain ⟨hr, rfl⟩ := hd
  obtain ⟨r1, r2, ⟨r3, r4⟩, r5, ⟨r6, r7⟩, r8, r9, r10, r11, r12, _, ⟨r13, r14⟩⟩ := rightW_iff.1 hr
  have e1 := c.e1
  unfold bytesW at e1
  rw [numS_fwd (by omega) (by omega) (by omega)] at e1
  injection e1 with a1 b1
  have e2 := c.e2
  rw [b1, numS_fwd (by omega) (by omega) (by omega)] at e2
  injection e2 with a2 b2
  have e3 := c.e3
  rw [b2, numS_fwd (by omega) (by omega) (by omega)] at e3
  injection e3 with a3 b3
  have e4 := c.e4
  rw [b3, vecS_fwd r8] at e4
  injection e4 with a4 b4
  have e5 := c.e5
  rw [b4, txtS_fwd (by omega) (by omega)] at e5
  injection e5 with a5 b5
  have e6 := c.e6
  rw [b5, txtS_fwd (by omega) (by omega)] at e6
  injection e6 with a6 b6
  have e7 := c.e7
  rw [b6, flagS_fwd] at e7
  injection e7 with a7 b7
  have e8 := c.e8
  rw [b7, txtS_fwd (by omega) (by omega)] at e8
  injection e8 with a8 b8
  have e9 := c.e9
  rw [b8, ← List.append_nil (numB d.l.toNat), numS_fwd (by omega) (by omega) (by omega)] at e9
  injection e9 with a9 b9
  exact ⟨Wt.ext' (by rw [a1]; simp only; omega) (by rw [a2]; simp only; omega) (by rw [a3]; simp only; omega) (by rw [a1]; simp only; omega) a4.symm a5.symm a6.symm a8.symm a7.symm (by rw [a9]; simp only; omega), b9⟩
end
def clZ : Cl := ⟨[], [], 0, 0, 0, []⟩
end Go.Proofs.Ytdlaoeepeakpeaa


/- Walks: DecodeClaims. No condition. -/
namespace Go.Proofs.Ytdlaoeepeakpeaa
set_option linter.unusedVariables false
set_option linter.unusedSimpArgs false
open Go.RowKit Px Wr
theorem Px.OwnC.rv {F : Nat → Prop} {w0 : World} {h0 h : PH} {A : Option Addr} {n c : Nat} {xs : List Value} (o : OwnC F h0 h 1 (.slice A n c) n xs) : Rv w0 h A xs := Rv.own o.own
theorem EE_told {h : PH} {n : Nat} {st : St} {v : Value} (e : EE h n st v) : (st = .ok [] ∧ v = .nilIface) ∨ (st ≠ .ok [] ∧ ∃ be p, v = errV be ∧ h.m be = some ⟨[str wireT, .int .i64 p, codeV 2], 3⟩) := by
  cases st with
  | bad p => obtain ⟨be, h1, h2⟩ := e; exact .inr ⟨by simp, be, _, h1, h2⟩
  | ok t =>
    cases t with
    | nil => exact .inl ⟨rfl, e⟩
    | cons c t => obtain ⟨be, h1, h2⟩ := e; exact .inr ⟨by simp, be, _, h1, h2⟩
theorem vecS_len {n : Nat} {v : List Int} {st st' : St} (h : (v, st') = vecS n st) : v.length ≤ 16 := by
  cases st with
  | bad p => injection h with h _; rw [h]; simp
  | ok t =>
    cases hp : vecP t with
    | none => unfold vecS St.step at h; simp only [hp] at h; injection h with h _; rw [h]; simp
    | some q =>
      obtain ⟨a, u⟩ := q
      unfold vecS St.step at h; simp only [hp] at h; injection h with h _; rw [h]
      exact trim_len (vecP_inv hp).2
/-- What Decode tells; the vector lies in what is new. -/
def DECF (w0 : World) (h0 h : PH) (s : List UInt8) (v : Value) : Prop :=
  (∃ c A cap, IsC s c ∧ v = .tuple #[.agg (clL c A cap).toArray, .nilIface] ∧ c.x.length ≤ cap ∧ Rv w0 h A (ints c.x) ∧ ∀ a, A = some a → h0.top ≤ a.block) ∨ ((∀ c, ¬ IsC s c) ∧ ∃ ev e, v = .tuple #[.agg (clL clZ none 0).toArray, ev] ∧ EV h e ev ∧ e.num = 2)
set_option maxRecDepth 20000 in
set_option maxHeartbeats 4000000 in
theorem decCF_any (s : List UInt8) (hs : s.length ≤ 1000000000) (w0 : World) (h : PH) : PCalls Try.prog w0 41 [str s] h fun r h' => DECF w0 h h' s r ∧ PH.Le h h' := by
  refine PCalls_body Try.func41 (by kernel_rfl) rfl _ Try.ntmps41 (by kernel_rfl) (by kernel_rfl) _ Try.results41 ?_
  simp -dsimp -implicitDefEqProofs (disch := first | omega | assumption | (simp only [Option.isSome_some, Qt0]; done) | (simp only [UInt64.reduceToNat, UInt32.reduceToNat, UInt8.reduceToNat, List.length_cons, List.length_nil, List.length_append, Int.toNat_natCast] <;> omega)) only [Nat.reduceLT, Nat.reduceLeDiff, Nat.reduceEqDiff, ↓reduceIte, Int.reduceLT, Int.reduceLE, Int.reduceToNat, Int.reduceEq, Int.reduceNe, Nat.reduceAdd, UInt8.reduceOfNat, UInt16.reduceOfNat, UInt32.reduceOfNat, UInt64.reduceOfNat, UInt64.reduceToNat, UInt32.reduceToNat, UInt16.reduceToNat, UInt8.reduceToNat, Int.reduceAdd, Int.reduceSub, Int.reduceMul, Nat.reduceMul, Qp0, Ql0, Qe0]
  refine fun rb hrb => ?_
  have hle := (PH.Le.refl h).new rb ⟨[.string ⟨#[]⟩, .string ⟨#[]⟩, .int .i64 0, .int .i64 0, .int .i64 0, .slice none 0 0], 6⟩ hrb
  have hm : (h.new rb ⟨[.string ⟨#[]⟩, .string ⟨#[]⟩, .int .i64 0, .int .i64 0, .int .i64 0, .slice none 0 0], 6⟩).m rb = some ⟨[.string ⟨#[]⟩, .string ⟨#[]⟩, .int .i64 0, .int .i64 0, .int .i64 0, .slice none 0 0], 6⟩ := by rw [PH.new_m, if_pos rfl]
  simp -dsimp -implicitDefEqProofs (disch := first | omega | assumption | (simp only [Option.isSome_some, Qt0]; done) | (simp only [UInt64.reduceToNat, UInt32.reduceToNat, UInt8.reduceToNat, List.length_cons, List.length_nil, List.length_append, Int.toNat_natCast] <;> omega)) only [Nat.reduceLT, Nat.reduceLeDiff, Nat.reduceEqDiff, ↓reduceIte, Int.reduceLT, Int.reduceLE, Int.reduceToNat, Int.reduceEq, Int.reduceNe, Nat.reduceAdd, UInt8.reduceOfNat, UInt16.reduceOfNat, UInt32.reduceOfNat, UInt64.reduceOfNat, UInt64.reduceToNat, UInt32.reduceToNat, UInt16.reduceToNat, UInt8.reduceToNat, Int.reduceAdd, Int.reduceSub, Int.reduceMul, Nat.reduceMul, Qp0, Ql0, Qe0]
  generalize h.new rb ⟨[.string ⟨#[]⟩, .string ⟨#[]⟩, .int .i64 0, .int .i64 0, .int .i64 0, .slice none 0 0], 6⟩ = h1 at *
  refine (read_any w0 h1 s).mono ?_
  rintro v h2 ⟨ib, rfl, hib, hl2, hi⟩
  have hm2 := hl2.m _ _ hm
  have hle2 := hle.trans hl2
  have hne : rb ≠ ib := by have := h1.lt _ _ hm; omega
  have hc0 := Chg.refl (· = ib) h2
  simp -dsimp -implicitDefEqProofs (disch := first | omega | assumption | (simp only [Option.isSome_some, Qt0]; done) | (simp only [UInt64.reduceToNat, UInt32.reduceToNat, UInt8.reduceToNat, List.length_cons, List.length_nil, List.length_append, Int.toNat_natCast] <;> omega)) only [Nat.reduceLT, Nat.reduceLeDiff, Nat.reduceEqDiff, ↓reduceIte, Int.reduceLT, Int.reduceLE, Int.reduceToNat, Int.reduceEq, Int.reduceNe, Nat.reduceAdd, UInt8.reduceOfNat, UInt16.reduceOfNat, UInt32.reduceOfNat, UInt64.reduceOfNat, UInt64.reduceToNat, UInt32.reduceToNat, UInt16.reduceToNat, UInt8.reduceToNat, Int.reduceAdd, Int.reduceSub, Int.reduceMul, Nat.reduceMul, Qp0, Ql0, Qe0]
  refine (itext_any w0 _ ib s hs 64 _ hi).mono ?_
  rintro v q1 ⟨rfl, hi, hc1⟩
  obtain ⟨⟨x1, s1⟩, e1⟩ : ∃ p, p = txtS 64 s.length (.ok s) := ⟨_, rfl⟩
  rw [← e1] at hi
  rw [← e1]
  simp only at hi
  simp -dsimp -implicitDefEqProofs (disch := first | omega | assumption | (simp only [Option.isSome_some, Qt0]; done) | (simp only [UInt64.reduceToNat, UInt32.reduceToNat, UInt8.reduceToNat, List.length_cons, List.length_nil, List.length_append, Int.toNat_natCast] <;> omega)) only [Nat.reduceLT, Nat.reduceLeDiff, Nat.reduceEqDiff, ↓reduceIte, Int.reduceLT, Int.reduceLE, Int.reduceToNat, Int.reduceEq, Int.reduceNe, Nat.reduceAdd, UInt8.reduceOfNat, UInt16.reduceOfNat, UInt32.reduceOfNat, UInt64.reduceOfNat, UInt64.reduceToNat, UInt32.reduceToNat, UInt16.reduceToNat, UInt8.reduceToNat, Int.reduceAdd, Int.reduceSub, Int.reduceMul, Nat.reduceMul, Qp0, Ql0, Qe0]
  refine (itext_any w0 _ ib s hs 32 _ hi).mono ?_
  rintro v q2 ⟨rfl, hi, hc2⟩
  obtain ⟨⟨x2, s2⟩, e2⟩ : ∃ p, p = txtS 32 s.length s1 := ⟨_, rfl⟩
  rw [← e2] at hi
  rw [← e2]
  simp only at hi
  simp -dsimp -implicitDefEqProofs (disch := first | omega | assumption | (simp only [Option.isSome_some, Qt0]; done) | (simp only [UInt64.reduceToNat, UInt32.reduceToNat, UInt8.reduceToNat, List.length_cons, List.length_nil, List.length_append, Int.toNat_natCast] <;> omega)) only [Nat.reduceLT, Nat.reduceLeDiff, Nat.reduceEqDiff, ↓reduceIte, Int.reduceLT, Int.reduceLE, Int.reduceToNat, Int.reduceEq, Int.reduceNe, Nat.reduceAdd, UInt8.reduceOfNat, UInt16.reduceOfNat, UInt32.reduceOfNat, UInt64.reduceOfNat, UInt64.reduceToNat, UInt32.reduceToNat, UInt16.reduceToNat, UInt8.reduceToNat, Int.reduceAdd, Int.reduceSub, Int.reduceMul, Nat.reduceMul, Qp0, Ql0, Qe0]
  refine (inum_any w0 _ ib s hs 1099511627776 _ hi).mono ?_
  rintro v q3 ⟨rfl, hi, hc3⟩
  obtain ⟨⟨x3, s3⟩, e3⟩ : ∃ p, p = numS 1099511627776 s.length s2 := ⟨_, rfl⟩
  rw [← e3] at hi
  rw [← e3]
  simp only at hi
  simp -dsimp -implicitDefEqProofs (disch := first | omega | assumption | (simp only [Option.isSome_some, Qt0]; done) | (simp only [UInt64.reduceToNat, UInt32.reduceToNat, UInt8.reduceToNat, List.length_cons, List.length_nil, List.length_append, Int.toNat_natCast] <;> omega)) only [Nat.reduceLT, Nat.reduceLeDiff, Nat.reduceEqDiff, ↓reduceIte, Int.reduceLT, Int.reduceLE, Int.reduceToNat, Int.reduceEq, Int.reduceNe, Nat.reduceAdd, UInt8.reduceOfNat, UInt16.reduceOfNat, UInt32.reduceOfNat, UInt64.reduceOfNat, UInt64.reduceToNat, UInt32.reduceToNat, UInt16.reduceToNat, UInt8.reduceToNat, Int.reduceAdd, Int.reduceSub, Int.reduceMul, Nat.reduceMul, Qp0, Ql0, Qe0]
  refine (inum_any w0 _ ib s hs 1099511627776 _ hi).mono ?_
  rintro v q4 ⟨rfl, hi, hc4⟩
  obtain ⟨⟨x4, s4⟩, e4⟩ : ∃ p, p = numS 1099511627776 s.length s3 := ⟨_, rfl⟩
  rw [← e4] at hi
  rw [← e4]
  simp only at hi
  simp -dsimp -implicitDefEqProofs (disch := first | omega | assumption | (simp only [Option.isSome_some, Qt0]; done) | (simp only [UInt64.reduceToNat, UInt32.reduceToNat, UInt8.reduceToNat, List.length_cons, List.length_nil, List.length_append, Int.toNat_natCast] <;> omega)) only [Nat.reduceLT, Nat.reduceLeDiff, Nat.reduceEqDiff, ↓reduceIte, Int.reduceLT, Int.reduceLE, Int.reduceToNat, Int.reduceEq, Int.reduceNe, Nat.reduceAdd, UInt8.reduceOfNat, UInt16.reduceOfNat, UInt32.reduceOfNat, UInt64.reduceOfNat, UInt64.reduceToNat, UInt32.reduceToNat, UInt16.reduceToNat, UInt8.reduceToNat, Int.reduceAdd, Int.reduceSub, Int.reduceMul, Nat.reduceMul, Qp0, Ql0, Qe0]
  refine (inum_any w0 _ ib s hs 1099511627776 _ hi).mono ?_
  rintro v q5 ⟨rfl, hi, hc5⟩
  obtain ⟨⟨x5, s5⟩, e5⟩ : ∃ p, p = numS 1099511627776 s.length s4 := ⟨_, rfl⟩
  rw [← e5] at hi
  rw [← e5]
  simp only at hi
  simp -dsimp -implicitDefEqProofs (disch := first | omega | assumption | (simp only [Option.isSome_some, Qt0]; done) | (simp only [UInt64.reduceToNat, UInt32.reduceToNat, UInt8.reduceToNat, List.length_cons, List.length_nil, List.length_append, Int.toNat_natCast] <;> omega)) only [Nat.reduceLT, Nat.reduceLeDiff, Nat.reduceEqDiff, ↓reduceIte, Int.reduceLT, Int.reduceLE, Int.reduceToNat, Int.reduceEq, Int.reduceNe, Nat.reduceAdd, UInt8.reduceOfNat, UInt16.reduceOfNat, UInt32.reduceOfNat, UInt64.reduceOfNat, UInt64.reduceToNat, UInt32.reduceToNat, UInt16.reduceToNat, UInt8.reduceToNat, Int.reduceAdd, Int.reduceSub, Int.reduceMul, Nat.reduceMul, Qp0, Ql0, Qe0]
  refine (ivec_any w0 _ ib s hs _ hi).mono ?_
  rintro v q6 ⟨A, cap, rfl, how, hi⟩
  obtain ⟨⟨x6, s6⟩, e6⟩ : ∃ p, p = vecS s.length s5 := ⟨_, rfl⟩
  rw [← e6] at hi how
  rw [← e6]
  simp only at hi how
  have hch : ChC 64 32 1099511627776 s.length s x1 x2 x3 x4 x5 x6 s1 s2 s3 s4 s5 s6 := ⟨e1, e2, e3, e4, e5, e6⟩
  have hc6 := ((((hc1.trans hc2).trans hc3).trans hc4).trans hc5).trans how.chg
  have hm6 := hc6.m _ _ hm2 hne
  have hle6 : PH.Le h q6 := ⟨Nat.le_trans hle2.top hc6.top, fun x k e => hc6.m x k (hle2.m x k e) (fun e' => by have := h.lt _ _ e; have := hle.top; omega)⟩
  obtain ⟨_, _, hA, hcap⟩ := how.own.len
  injection hA with hA1 hA2 hA3
  subst hA1; subst hA3
  have hrv : Rv w0 q6 A (ints x6) := how.rv
  have hnA : ∀ a, A = some a → a.block ≠ rb := fun a ea e => by
    have h5 := how.new _ (how.own.A a ea)
    have h6 := h1.lt _ _ hm
    have h7 := hl2.top
    have h8 := ((((hc1.trans hc2).trans hc3).trans hc4).trans hc5).top
    omega
  have hfr : ∀ a, A = some a → h.top ≤ a.block := fun a ea => by
    have h5 := how.new _ (how.own.A a ea)
    have h6 := hle.top
    have h7 := hl2.top
    have h8 := ((((hc1.trans hc2).trans hc3).trans hc4).trans hc5).top
    omega
  clear hc1 hc2 hc3 hc4 hc5 how
  simp -dsimp -implicitDefEqProofs (disch := first | omega | assumption | (simp only [Option.isSome_some, Qt0]; done) | (simp only [UInt64.reduceToNat, UInt32.reduceToNat, UInt8.reduceToNat, List.length_cons, List.length_nil, List.length_append, Int.toNat_natCast] <;> omega)) only [Nat.reduceLT, Nat.reduceLeDiff, Nat.reduceEqDiff, ↓reduceIte, Int.reduceLT, Int.reduceLE, Int.reduceToNat, Int.reduceEq, Int.reduceNe, Nat.reduceAdd, UInt8.reduceOfNat, UInt16.reduceOfNat, UInt32.reduceOfNat, UInt64.reduceOfNat, UInt64.reduceToNat, UInt32.reduceToNat, UInt16.reduceToNat, UInt8.reduceToNat, Int.reduceAdd, Int.reduceSub, Int.reduceMul, Nat.reduceMul, Qp0, Ql0, Qe0]
  refine fun cb hcb => ?_
  have hlc := (PH.Le.refl q6).new cb ⟨[str x1, str x2, .int .i64 x3, .int .i64 x4, .int .i64 x5, .slice A x6.length cap], 6⟩ hcb
  have hmc : (q6.new cb ⟨[str x1, str x2, .int .i64 x3, .int .i64 x4, .int .i64 x5, .slice A x6.length cap], 6⟩).m cb = some ⟨[str x1, str x2, .int .i64 x3, .int .i64 x4, .int .i64 x5, .slice A x6.length cap], 6⟩ := by rw [PH.new_m, if_pos rfl]
  have ha := allOne_of [str x1, str x2, .int .i64 x3, .int .i64 x4, .int .i64 x5, .slice A x6.length cap] rfl
  simp -dsimp -implicitDefEqProofs (disch := first | omega | assumption | (simp only [Option.isSome_some, Qt0]; done) | (simp only [UInt64.reduceToNat, UInt32.reduceToNat, UInt8.reduceToNat, List.length_cons, List.length_nil, List.length_append, Int.toNat_natCast] <;> omega)) only [Nat.reduceLT, Nat.reduceLeDiff, Nat.reduceEqDiff, ↓reduceIte, Int.reduceLT, Int.reduceLE, Int.reduceToNat, Int.reduceEq, Int.reduceNe, Nat.reduceAdd, UInt8.reduceOfNat, UInt16.reduceOfNat, UInt32.reduceOfNat, UInt64.reduceOfNat, UInt64.reduceToNat, UInt32.reduceToNat, UInt16.reduceToNat, UInt8.reduceToNat, Int.reduceAdd, Int.reduceSub, Int.reduceMul, Nat.reduceMul, Qp0, Ql0, Qe0, PH.new_new, List.take_zero, List.drop_succ_cons, List.drop_zero, List.drop_nil, List.append_nil, ite_true]
  generalize q6.new cb ⟨[str x1, str x2, .int .i64 x3, .int .i64 x4, .int .i64 x5, .slice A x6.length cap], 6⟩ = q7 at *
  have hi7 := hi.more hlc
  have hm7 := hlc.m _ _ hm6
  refine (end_any w0 q7 ib s s6 hi7).mono ?_
  rintro v q8 ⟨he, hl8⟩
  have hm8 := hl8.m _ _ hm7
  have hmc8 := hl8.m _ _ hmc
  have hle8 := (hle6.trans hlc).trans hl8
  have hrv8 := (hrv.more hlc).more hl8
  have hC0 : rdN w0 q8 ⟨cb, 0, none⟩ 6 = some [str x1, str x2, .int .i64 x3, .int .i64 x4, .int .i64 x5, .slice A x6.length cap] := by unfold rdN; simp only [hmc8]; rfl
  have hrbt := h.top
  have hrb0 : h.top ≤ rb := hrb
  have hz := allOne_of [.string ⟨#[]⟩, .string ⟨#[]⟩, .int .i64 0, .int .i64 0, .int .i64 0, .slice none 0 0] rfl
  rcases EE_told he with ⟨rfl, rfl⟩ | ⟨hn, be, p, rfl, hbe⟩
  · have hs0 := hch.back rfl
    have hR := rightC_any w0 q8 ⟨x1, x2, x3, x4, x5, x6⟩ A cap hrv8 hcap (by have := vecS_len e6; simp only; omega)
    unfold clL at hR
    simp only at hR
    cases hr : rightC ⟨x1, x2, x3, x4, x5, x6⟩ with
    | true =>
      rw [hr] at hR
      have hR := Lib.hid hR
      simp -dsimp -implicitDefEqProofs (disch := first | omega | assumption | (simp only [Option.isSome_some, Qt0]; done) | (simp only [UInt64.reduceToNat, UInt32.reduceToNat, UInt8.reduceToNat, List.length_cons, List.length_nil, List.length_append, Int.toNat_natCast] <;> omega)) only [Nat.reduceLT, Nat.reduceLeDiff, Nat.reduceEqDiff, ↓reduceIte, Int.reduceLT, Int.reduceLE, Int.reduceToNat, Int.reduceEq, Int.reduceNe, Nat.reduceAdd, UInt8.reduceOfNat, UInt16.reduceOfNat, UInt32.reduceOfNat, UInt64.reduceOfNat, UInt64.reduceToNat, UInt32.reduceToNat, UInt16.reduceToNat, UInt8.reduceToNat, Int.reduceAdd, Int.reduceSub, Int.reduceMul, Nat.reduceMul, Qp0, Ql0, Qe0, hC0]
      refine hR.out.mono ?_
      rintro v hq ⟨rfl, hz⟩
      obtain rfl := hz.symm
      simp -dsimp -implicitDefEqProofs (disch := first | omega | assumption | (simp only [Option.isSome_some, Qt0]; done) | (simp only [UInt64.reduceToNat, UInt32.reduceToNat, UInt8.reduceToNat, List.length_cons, List.length_nil, List.length_append, Int.toNat_natCast] <;> omega)) only [Nat.reduceLT, Nat.reduceLeDiff, Nat.reduceEqDiff, ↓reduceIte, Int.reduceLT, Int.reduceLE, Int.reduceToNat, Int.reduceEq, Int.reduceNe, Nat.reduceAdd, UInt8.reduceOfNat, UInt16.reduceOfNat, UInt32.reduceOfNat, UInt64.reduceOfNat, UInt64.reduceToNat, UInt32.reduceToNat, UInt16.reduceToNat, UInt8.reduceToNat, Int.reduceAdd, Int.reduceSub, Int.reduceMul, Nat.reduceMul, Qp0, Ql0, Qe0, hC0, hm8, List.take_zero, List.drop_succ_cons, List.drop_zero, List.drop_nil, List.nil_append, List.append_nil, rdN_new, List.take_succ_cons, ite_true]
      refine ⟨_, PH.Le.refl _, .inl ⟨⟨x1, x2, x3, x4, x5, x6⟩, A, cap, ⟨hr, hs0⟩, rfl, hcap, ?_, hfr⟩, hle8.new _ _ hrb0⟩
      exact hrv8.chg (F := (· = rb)) ((Chg.refl _ _).one _) (fun a ea e => by
        subst ea
        exact hnA a rfl e)
    | false =>
      rw [hr] at hR
      have hR := Lib.hid hR
      simp -dsimp -implicitDefEqProofs (disch := first | omega | assumption | (simp only [Option.isSome_some, Qt0]; done) | (simp only [UInt64.reduceToNat, UInt32.reduceToNat, UInt8.reduceToNat, List.length_cons, List.length_nil, List.length_append, Int.toNat_natCast] <;> omega)) only [Nat.reduceLT, Nat.reduceLeDiff, Nat.reduceEqDiff, ↓reduceIte, Int.reduceLT, Int.reduceLE, Int.reduceToNat, Int.reduceEq, Int.reduceNe, Nat.reduceAdd, UInt8.reduceOfNat, UInt16.reduceOfNat, UInt32.reduceOfNat, UInt64.reduceOfNat, UInt64.reduceToNat, UInt32.reduceToNat, UInt16.reduceToNat, UInt8.reduceToNat, Int.reduceAdd, Int.reduceSub, Int.reduceMul, Nat.reduceMul, Qp0, Ql0, Qe0, hC0]
      refine hR.out.mono ?_
      rintro v hq ⟨rfl, hz⟩
      obtain rfl := hz.symm
      simp -dsimp -implicitDefEqProofs (disch := first | omega | assumption | (simp only [Option.isSome_some, Qt0]; done) | (simp only [UInt64.reduceToNat, UInt32.reduceToNat, UInt8.reduceToNat, List.length_cons, List.length_nil, List.length_append, Int.toNat_natCast] <;> omega)) only [Nat.reduceLT, Nat.reduceLeDiff, Nat.reduceEqDiff, ↓reduceIte, Int.reduceLT, Int.reduceLE, Int.reduceToNat, Int.reduceEq, Int.reduceNe, Nat.reduceAdd, UInt8.reduceOfNat, UInt16.reduceOfNat, UInt32.reduceOfNat, UInt64.reduceOfNat, UInt64.reduceToNat, UInt32.reduceToNat, UInt16.reduceToNat, UInt8.reduceToNat, Int.reduceAdd, Int.reduceSub, Int.reduceMul, Nat.reduceMul, Qp0, Ql0, Qe0]
      refine (at_any wireT _ _ _ w0 _).mono ?_
      rintro v q9 ⟨be, rfl, hbe, rfl⟩
      have hl9 := (PH.Le.refl q8).new be ⟨[str wireT, .int .i64 0, .iface 43 (.int .i64 2)], 3⟩ hbe
      have hmb : (q8.new be ⟨[str wireT, .int .i64 0, .iface 43 (.int .i64 2)], 3⟩).m be = some ⟨[str wireT, .int .i64 0, .iface 43 (.int .i64 2)], 3⟩ := by rw [PH.new_m, if_pos rfl]
      have hm9 := hl9.m _ _ hm8
      have hnb : be ≠ rb := by have := q8.lt _ _ hm8; omega
      generalize q8.new be ⟨[str wireT, .int .i64 0, .iface 43 (.int .i64 2)], 3⟩ = q9 at *
      unfold errV
      simp -dsimp -implicitDefEqProofs (disch := first | omega | assumption | (simp only [Option.isSome_some, Qt0]; done) | (simp only [UInt64.reduceToNat, UInt32.reduceToNat, UInt8.reduceToNat, List.length_cons, List.length_nil, List.length_append, Int.toNat_natCast] <;> omega)) only [Nat.reduceLT, Nat.reduceLeDiff, Nat.reduceEqDiff, ↓reduceIte, Int.reduceLT, Int.reduceLE, Int.reduceToNat, Int.reduceEq, Int.reduceNe, Nat.reduceAdd, UInt8.reduceOfNat, UInt16.reduceOfNat, UInt32.reduceOfNat, UInt64.reduceOfNat, UInt64.reduceToNat, UInt32.reduceToNat, UInt16.reduceToNat, UInt8.reduceToNat, Int.reduceAdd, Int.reduceSub, Int.reduceMul, Nat.reduceMul, Qp0, Ql0, Qe0, hm9, List.take_zero, List.drop_succ_cons, List.drop_zero, List.drop_nil, List.nil_append, List.append_nil, rdN_new, List.take_succ_cons, ite_true]
      refine ⟨_, PH.Le.refl _, .inr ⟨fun d hd => ?_, _, .wrap wireT 0 (.code 2), rfl, ⟨be, _, rfl, by rw [PH.new_m, if_neg hnb]; exact hmb, rfl⟩, rfl⟩, (hle8.trans hl9).new _ _ hrb0⟩
      obtain ⟨h5, _⟩ := hch.fwd (by omega) (by omega) (by omega) hd
      rw [h5] at hd
      rw [hd.1] at hr; cases hr
  · unfold errV
    have hnb : be ≠ rb := fun e => by
      rw [e, hm8] at hbe
      injection hbe with hbe
      injection hbe with _ hbe
      omega
    simp -dsimp -implicitDefEqProofs (disch := first | omega | assumption | (simp only [Option.isSome_some, Qt0]; done) | (simp only [UInt64.reduceToNat, UInt32.reduceToNat, UInt8.reduceToNat, List.length_cons, List.length_nil, List.length_append, Int.toNat_natCast] <;> omega)) only [Nat.reduceLT, Nat.reduceLeDiff, Nat.reduceEqDiff, ↓reduceIte, Int.reduceLT, Int.reduceLE, Int.reduceToNat, Int.reduceEq, Int.reduceNe, Nat.reduceAdd, UInt8.reduceOfNat, UInt16.reduceOfNat, UInt32.reduceOfNat, UInt64.reduceOfNat, UInt64.reduceToNat, UInt32.reduceToNat, UInt16.reduceToNat, UInt8.reduceToNat, Int.reduceAdd, Int.reduceSub, Int.reduceMul, Nat.reduceMul, Qp0, Ql0, Qe0, hm8, List.take_zero, List.drop_succ_cons, List.drop_zero, List.drop_nil, List.nil_append, List.append_nil, rdN_new, List.take_succ_cons, ite_true]
    refine ⟨_, PH.Le.refl _, .inr ⟨fun d hd => ?_, _, .wrap wireT p (.code 2), rfl, ⟨be, _, rfl, by rw [PH.new_m, if_neg hnb]; exact hbe, rfl⟩, rfl⟩, hle8.new _ _ hrb0⟩
    exact hn (hch.fwd (by omega) (by omega) (by omega) hd).2
end Go.Proofs.Ytdlaoeepeakpeaa


/- The program's errors in the logic: errors.Is finds the code of an error however often it is wrapped. No condition. -/
namespace Go.Proofs.Ytdlaoeepeakpeaa
set_option linter.unusedVariables false
set_option linter.unusedSimpArgs false
open Go.RowKit Px Go.Extern.Stop Go.Stop Go.Extern
theorem noIs (b : Nat) (xT : TypeId) {K : Value → Prop} : Yld Try.prog (Instr.typeAssert (errV b) xT 94 true) K = K (.tuple #[.nilIface, .bool false]) := Yld_eq fun w => run_typeAssert_lacksB Try.underlying94 (by kernel_rfl) (by kernel_rfl) _ xT w
theorem hasUnwrap (b : Nat) (xT : TypeId) {K : Value → Prop} : Yld Try.prog (Instr.typeAssert (errV b) xT 97 true) K = K (.tuple #[errV b, .bool true]) := Yld_eq fun w => run_typeAssert_hasB Try.underlying97 (by kernel_rfl) _ xT w
theorem noIsC (k : Int) (xT : TypeId) {K : Value → Prop} : Yld Try.prog (Instr.typeAssert (codeV k) xT 94 true) K = K (.tuple #[.nilIface, .bool false]) := Yld_eq fun w => run_typeAssert_lacksB Try.underlying94 (by kernel_rfl) (by kernel_rfl) _ xT w
theorem noUnwrapC (k : Int) (xT : TypeId) {K : Value → Prop} : Yld Try.prog (Instr.typeAssert (codeV k) xT 97 true) K = K (.tuple #[.nilIface, .bool false]) := Yld_eq fun w => run_typeAssert_lacksB Try.underlying97 (by kernel_rfl) (by kernel_rfl) _ xT w
theorem noUnwrapsC (k : Int) (xT : TypeId) {K : Value → Prop} : Yld Try.prog (Instr.typeAssert (codeV k) xT 99 true) K = K (.tuple #[.nilIface, .bool false]) := Yld_eq fun w => run_typeAssert_lacksB Try.underlying99 (by kernel_rfl) (by kernel_rfl) _ xT w
theorem comp_code : (Try.prog.info? 43).map (·.comparable) = some true := by kernel_rfl
theorem run_equalIn_iface_int (w : World) (d : Nat) {P : Program} {ti tn : TypeId} {ms : Array (String × TypeId)} {i : TypeInfo} {k : IntKind} (a b : Int)
    (hi : P.underlying ti = some (.interface ms)) (hn : P.underlying tn = some (.int k)) (hinfo : P.info? tn = some i) (hcomp : i.comparable = true) :
    (Op.equalIn (d + 2) ti (.iface tn (.int k a)) (.iface tn (.int k b))).run P w = .ok (a == b) w := by
  simp [Op.equalIn, run_underlying hi, run_underlying hn, typeInfo, hinfo, hcomp]
theorem run_equalIn_iface_other (w : World) (d : Nat) {P : Program} {ti tx ty : TypeId} {ms : Array (String × TypeId)} (x y : Value) (hi : P.underlying ti = some (.interface ms)) (hne : tx ≠ ty) :
    (Op.equalIn (d + 2) ti (.iface tx x) (.iface ty y)).run P w = .ok false w := by
  simp [Op.equalIn, run_underlying hi, hne]
theorem eql_code (a b : Int) (w : World) : (binOp .eql 25 (codeV a) (codeV b)).run Try.prog w = .ok (.bool (a == b)) w := by
  obtain ⟨i, hi, hcmp⟩ := Option.map_eq_some_iff.1 comp_code
  unfold codeV
  simp only [binOp]
  simp [Op.equal, Op.maxDepth, run_equalIn_iface_int w 9998 a b Try.underlying25 Try.underlying43 hi hcmp]
theorem eql_other (v : Value) (b : Int) (w : World) : (binOp .eql 25 (.iface 70 v) (codeV b)).run Try.prog w = .ok (.bool false) w := by
  unfold codeV
  simp only [binOp]
  simp [Op.equal, Op.maxDepth, run_equalIn_iface_other w 9998 v (.int .i64 b) Try.underlying25 (show 70 ≠ 43 by decide)]
theorem y_eqlCC (x y : Tmp) (a b : Int) {K : Value → Prop} : Yld Try.prog (binS .eql 25 (.tmp x) (.tmp y) (codeV a) (codeV b)) K = K (.bool (a == b)) := Yld_eq fun w => by
  have := eql_code a b w
  unfold binS eqGuard codeV at *
  simp [this]
theorem y_eqlEC (x y : Tmp) (b : Nat) (c : Int) {K : Value → Prop} : Yld Try.prog (binS .eql 25 (.tmp x) (.tmp y) (errV b) (codeV c)) K = K (.bool false) := Yld_eq fun w => by
  have := eql_other (.pointer (some ⟨b, 0, none⟩)) c w
  unfold binS eqGuard errV codeV at *
  simp [this]
theorem unwrap_method (p : Value) (w : World) : (callMethod (.iface 70 p) "Unwrap" #[]).run Try.prog w = (callFunc 105 [p].toArray).run Try.prog w := by kernel_rfl
set_option maxRecDepth 20000 in
theorem unwrap_any (b : Nat) (s : List UInt8) (a : Int) (u : Value) (w0 : World) (h : PH) (hb : h.m b = some ⟨[str s, .int .i64 a, u], 3⟩) : PCalls Try.prog w0 105 [.pointer (some ⟨b, 0, none⟩)] h fun r h' => r = u ∧ h' = h := by
  refine PCalls_body Try.func105 (by kernel_rfl) rfl _ Try.ntmps105 (by kernel_rfl) (by kernel_rfl) _ Try.results105 ?_
  simp -dsimp -implicitDefEqProofs (disch := first | omega | assumption | (simp only [Option.isSome_some, Qt0]; done) | (simp only [UInt64.reduceToNat, UInt32.reduceToNat, UInt8.reduceToNat, List.length_cons, List.length_nil, List.length_append, Int.toNat_natCast] <;> omega)) only [Nat.reduceLT, Nat.reduceLeDiff, Nat.reduceEqDiff, ↓reduceIte, Int.reduceLT, Int.reduceLE, Int.reduceToNat, Int.reduceEq, Int.reduceNe, Nat.reduceAdd, UInt8.reduceOfNat, UInt16.reduceOfNat, UInt32.reduceOfNat, UInt64.reduceOfNat, UInt64.reduceToNat, UInt32.reduceToNat, UInt16.reduceToNat, UInt8.reduceToNat, Int.reduceAdd, Int.reduceSub, Int.reduceMul, Nat.reduceMul, Qp0, Ql0, Qe0, rd_M, rdM_some, hb]
  exact ⟨_, PH.Le.refl _, by trivial, rfl⟩
set_option maxRecDepth 20000 in
/-- errors.is. -/
theorem is_any' (c : Int) (w0 : World) (h : PH) (e0 : Er) (v0 : Value) (hv0 : EV h e0 v0) : PCalls Try.prog w0 30 [v0, codeV c, .bool true] h fun r h' => r = .bool (e0.num == c) ∧ h' = h := by
  refine PCalls_body Try.func30 (by kernel_rfl) rfl _ Try.ntmps30 (by kernel_rfl) (by kernel_rfl) _ Try.results30 ?_
  simp -dsimp -implicitDefEqProofs (disch := first | omega | assumption | (simp only [Option.isSome_some, Qt0]; done) | (simp only [UInt64.reduceToNat, UInt32.reduceToNat, UInt8.reduceToNat, List.length_cons, List.length_nil, List.length_append, Int.toNat_natCast] <;> omega)) only [Nat.reduceLT, Nat.reduceLeDiff, Nat.reduceEqDiff, ↓reduceIte, Int.reduceLT, Int.reduceLE, Int.reduceToNat, Int.reduceEq, Int.reduceNe, Nat.reduceAdd, UInt8.reduceOfNat, UInt16.reduceOfNat, UInt32.reduceOfNat, UInt64.reduceOfNat, UInt64.reduceToNat, UInt32.reduceToNat, UInt16.reduceToNat, UInt8.reduceToNat, Int.reduceAdd, Int.reduceSub, Int.reduceMul, Nat.reduceMul, Qp0, Ql0, Qe0]
  refine PW_loop (fun n f h' => ∃ (e : Er) (v : Value), e.deep = n ∧ e.num = e0.num ∧ EV h e v ∧ f 0 = some v ∧ f 1 = some (codeV c) ∧ f 2 = some (.bool true) ∧ h' = h) (by kernel_rfl) e0.deep ⟨e0, v0, rfl, rfl, hv0, ?_, ?_, ?_, rfl⟩ ?_
  · simp -dsimp -implicitDefEqProofs (disch := first | omega | assumption | (simp only [Option.isSome_some, Qt0]; done) | (simp only [UInt64.reduceToNat, UInt32.reduceToNat, UInt8.reduceToNat, List.length_cons, List.length_nil, List.length_append, Int.toNat_natCast] <;> omega)) only [Nat.reduceLT, Nat.reduceLeDiff, Nat.reduceEqDiff, ↓reduceIte, Int.reduceLT, Int.reduceLE, Int.reduceToNat, Int.reduceEq, Int.reduceNe, Nat.reduceAdd, UInt8.reduceOfNat, UInt16.reduceOfNat, UInt32.reduceOfNat, UInt64.reduceOfNat, UInt64.reduceToNat, UInt32.reduceToNat, UInt16.reduceToNat, UInt8.reduceToNat, Int.reduceAdd, Int.reduceSub, Int.reduceMul, Nat.reduceMul, Qp0, Ql0, Qe0]
  · simp -dsimp -implicitDefEqProofs (disch := first | omega | assumption | (simp only [Option.isSome_some, Qt0]; done) | (simp only [UInt64.reduceToNat, UInt32.reduceToNat, UInt8.reduceToNat, List.length_cons, List.length_nil, List.length_append, Int.toNat_natCast] <;> omega)) only [Nat.reduceLT, Nat.reduceLeDiff, Nat.reduceEqDiff, ↓reduceIte, Int.reduceLT, Int.reduceLE, Int.reduceToNat, Int.reduceEq, Int.reduceNe, Nat.reduceAdd, UInt8.reduceOfNat, UInt16.reduceOfNat, UInt32.reduceOfNat, UInt64.reduceOfNat, UInt64.reduceToNat, UInt32.reduceToNat, UInt16.reduceToNat, UInt8.reduceToNat, Int.reduceAdd, Int.reduceSub, Int.reduceMul, Nat.reduceMul, Qp0, Ql0, Qe0]
  · simp -dsimp -implicitDefEqProofs (disch := first | omega | assumption | (simp only [Option.isSome_some, Qt0]; done) | (simp only [UInt64.reduceToNat, UInt32.reduceToNat, UInt8.reduceToNat, List.length_cons, List.length_nil, List.length_append, Int.toNat_natCast] <;> omega)) only [Nat.reduceLT, Nat.reduceLeDiff, Nat.reduceEqDiff, ↓reduceIte, Int.reduceLT, Int.reduceLE, Int.reduceToNat, Int.reduceEq, Int.reduceNe, Nat.reduceAdd, UInt8.reduceOfNat, UInt16.reduceOfNat, UInt32.reduceOfNat, UInt64.reduceOfNat, UInt64.reduceToNat, UInt32.reduceToNat, UInt16.reduceToNat, UInt8.reduceToNat, Int.reduceAdd, Int.reduceSub, Int.reduceMul, Nat.reduceMul, Qp0, Ql0, Qe0]
  rintro n f h' ⟨e, v, rfl, hn, hv, f0, f1, f2, rfl⟩
  rw [← hn]
  cases e with
  | code k =>
    obtain rfl : v = codeV k := hv
    have hnum : (Er.code k).num = k := rfl
    rw [hnum]
    cases hkc : (k == c)
    · simp -dsimp -implicitDefEqProofs (disch := first | omega | assumption | (simp only [Option.isSome_some, Qt0]; done) | (simp only [UInt64.reduceToNat, UInt32.reduceToNat, UInt8.reduceToNat, List.length_cons, List.length_nil, List.length_append, Int.toNat_natCast] <;> omega)) only [Nat.reduceLT, Nat.reduceLeDiff, Nat.reduceEqDiff, ↓reduceIte, Int.reduceLT, Int.reduceLE, Int.reduceToNat, Int.reduceEq, Int.reduceNe, Nat.reduceAdd, UInt8.reduceOfNat, UInt16.reduceOfNat, UInt32.reduceOfNat, UInt64.reduceOfNat, UInt64.reduceToNat, UInt32.reduceToNat, UInt16.reduceToNat, UInt8.reduceToNat, Int.reduceAdd, Int.reduceSub, Int.reduceMul, Nat.reduceMul, Qp0, Ql0, Qe0, f0, f1, f2, y_eqlCC, hkc, noIsC, noUnwrapC, noUnwrapsC]
      exact ⟨_, PH.Le.refl _, by trivial, rfl⟩
    · simp -dsimp -implicitDefEqProofs (disch := first | omega | assumption | (simp only [Option.isSome_some, Qt0]; done) | (simp only [UInt64.reduceToNat, UInt32.reduceToNat, UInt8.reduceToNat, List.length_cons, List.length_nil, List.length_append, Int.toNat_natCast] <;> omega)) only [Nat.reduceLT, Nat.reduceLeDiff, Nat.reduceEqDiff, ↓reduceIte, Int.reduceLT, Int.reduceLE, Int.reduceToNat, Int.reduceEq, Int.reduceNe, Nat.reduceAdd, UInt8.reduceOfNat, UInt16.reduceOfNat, UInt32.reduceOfNat, UInt64.reduceOfNat, UInt64.reduceToNat, UInt32.reduceToNat, UInt16.reduceToNat, UInt8.reduceToNat, Int.reduceAdd, Int.reduceSub, Int.reduceMul, Nat.reduceMul, Qp0, Ql0, Qe0, f0, f1, f2, y_eqlCC, hkc]
      exact ⟨_, PH.Le.refl _, by trivial, rfl⟩
  | wrap s a e =>
    obtain ⟨b, u, rfl, hb, hu⟩ := hv
    have hun := Lib.hid (@unwrap_any b s a u w0 h' hb)
    obtain ⟨t, x, rfl⟩ := hu.held
    simp -dsimp -implicitDefEqProofs (disch := first | omega | assumption | (simp only [Option.isSome_some, Qt0]; done) | (simp only [UInt64.reduceToNat, UInt32.reduceToNat, UInt8.reduceToNat, List.length_cons, List.length_nil, List.length_append, Int.toNat_natCast] <;> omega)) only [Nat.reduceLT, Nat.reduceLeDiff, Nat.reduceEqDiff, ↓reduceIte, Int.reduceLT, Int.reduceLE, Int.reduceToNat, Int.reduceEq, Int.reduceNe, Nat.reduceAdd, UInt8.reduceOfNat, UInt16.reduceOfNat, UInt32.reduceOfNat, UInt64.reduceOfNat, UInt64.reduceToNat, UInt32.reduceToNat, UInt16.reduceToNat, UInt8.reduceToNat, Int.reduceAdd, Int.reduceSub, Int.reduceMul, Nat.reduceMul, Qp0, Ql0, Qe0, f0, f1, f2, y_eqlEC, noIs, hasUnwrap]
    refine ⟨_, _, unwrap_method _, hun.out.mono ?_⟩
    rintro v hz ⟨rfl, rfl⟩
    simp -dsimp -implicitDefEqProofs (disch := first | omega | assumption | (simp only [Option.isSome_some, Qt0]; done) | (simp only [UInt64.reduceToNat, UInt32.reduceToNat, UInt8.reduceToNat, List.length_cons, List.length_nil, List.length_append, Int.toNat_natCast] <;> omega)) only [Nat.reduceLT, Nat.reduceLeDiff, Nat.reduceEqDiff, ↓reduceIte, Int.reduceLT, Int.reduceLE, Int.reduceToNat, Int.reduceEq, Int.reduceNe, Nat.reduceAdd, UInt8.reduceOfNat, UInt16.reduceOfNat, UInt32.reduceOfNat, UInt64.reduceOfNat, UInt64.reduceToNat, UInt32.reduceToNat, UInt16.reduceToNat, UInt8.reduceToNat, Int.reduceAdd, Int.reduceSub, Int.reduceMul, Nat.reduceMul, Qp0, Ql0, Qe0, f0, f1, f2]
    exact ⟨e.deep, _, Nat.lt_succ_self _, PH.Le.refl _, e, _, rfl, rfl, hu, rfl, by trivial, by trivial, rfl⟩
set_option maxRecDepth 20000 in
theorem typeOf_code (k : Int) (w : World) : (ReflectliteType.typeOf #[codeV k]).run Try.prog w = .ok (.iface 92 (.agg #[.pointer (some ⟨1, 43, none⟩)])) w := by kernel_rfl
theorem comp_run (w : World) : ((ReflectliteType.method fun t => do Rtype.noPackHeld "Comparable" t; (fun a => Value.bool a.comparable) <$> typeInfo t) #[.agg #[.pointer (some ⟨1, 43, none⟩)]]).run Try.prog w = .ok (.bool true) w := by kernel_rfl
theorem typeof_any (k : Int) (w0 : World) (h : PH) : PCalls Try.prog w0 29 [codeV k] h fun r h' => r = .iface 92 (.agg #[.pointer (some ⟨1, 43, none⟩)]) ∧ h' = h := by
  refine PCalls_value _ (fun w => ?_) ⟨rfl, rfl⟩
  rw [@run_callFunc_extern Try.prog 29 _ ReflectliteType.typeOf Try.func29 (by kernel_rfl) (by kernel_rfl) (by kernel_rfl) (by kernel_rfl), typeOf_code]
  rfl
theorem comp_any (w0 : World) (h : PH) : PCalls Try.prog w0 112 [.agg #[.pointer (some ⟨1, 43, none⟩)]] h fun r h' => r = .bool true ∧ h' = h := by
  refine PCalls_value _ (fun w => ?_) ⟨rfl, rfl⟩
  rw [@run_callFunc_extern Try.prog 112 _ (ReflectliteType.method fun t => do Rtype.noPackHeld "Comparable" t; pure (.bool (← typeInfo t).comparable)) Try.func112 (by kernel_rfl) (by kernel_rfl) (by kernel_rfl) (by kernel_rfl)]
  have := comp_run w
  simp only [bind_pure_comp] at this ⊢
  rw [this]
  rfl
theorem comp_method (w : World) : (callMethod (.iface 92 (.agg #[.pointer (some ⟨1, 43, none⟩)])) "Comparable" #[]).run Try.prog w = (callFunc 112 [.agg #[.pointer (some ⟨1, 43, none⟩)]].toArray).run Try.prog w := by kernel_rfl
/-- errors.Is. -/
theorem is_any (c : Int) (w0 : World) (h : PH) (e0 : Er) (v0 : Value) (hv0 : EV h e0 v0) : PCalls Try.prog w0 16 [v0, codeV c] h fun r h' => r = .bool (e0.num == c) ∧ h' = h := by
  refine PCalls_body Try.func16 (by kernel_rfl) rfl _ Try.ntmps16 (by kernel_rfl) (by kernel_rfl) _ Try.results16 ?_
  have hI := Lib.hid (@is_any' c w0 h e0 v0 hv0)
  obtain ⟨t, x, rfl⟩ := hv0.held
  unfold codeV
  simp -dsimp -implicitDefEqProofs (disch := first | omega | assumption | (simp only [Option.isSome_some, Qt0]; done) | (simp only [UInt64.reduceToNat, UInt32.reduceToNat, UInt8.reduceToNat, List.length_cons, List.length_nil, List.length_append, Int.toNat_natCast] <;> omega)) only [Nat.reduceLT, Nat.reduceLeDiff, Nat.reduceEqDiff, ↓reduceIte, Int.reduceLT, Int.reduceLE, Int.reduceToNat, Int.reduceEq, Int.reduceNe, Nat.reduceAdd, UInt8.reduceOfNat, UInt16.reduceOfNat, UInt32.reduceOfNat, UInt64.reduceOfNat, UInt64.reduceToNat, UInt32.reduceToNat, UInt16.reduceToNat, UInt8.reduceToNat, Int.reduceAdd, Int.reduceSub, Int.reduceMul, Nat.reduceMul, Qp0, Ql0, Qe0]
  refine (typeof_any c w0 h).mono ?_
  rintro v hz hv
  obtain ⟨rfl, rfl⟩ := hv
  simp -dsimp -implicitDefEqProofs (disch := first | omega | assumption | (simp only [Option.isSome_some, Qt0]; done) | (simp only [UInt64.reduceToNat, UInt32.reduceToNat, UInt8.reduceToNat, List.length_cons, List.length_nil, List.length_append, Int.toNat_natCast] <;> omega)) only [Nat.reduceLT, Nat.reduceLeDiff, Nat.reduceEqDiff, ↓reduceIte, Int.reduceLT, Int.reduceLE, Int.reduceToNat, Int.reduceEq, Int.reduceNe, Nat.reduceAdd, UInt8.reduceOfNat, UInt16.reduceOfNat, UInt32.reduceOfNat, UInt64.reduceOfNat, UInt64.reduceToNat, UInt32.reduceToNat, UInt16.reduceToNat, UInt8.reduceToNat, Int.reduceAdd, Int.reduceSub, Int.reduceMul, Nat.reduceMul, Qp0, Ql0, Qe0]
  refine ⟨_, _, comp_method, (comp_any w0 _).mono ?_⟩
  rintro v hy hv
  obtain ⟨rfl, rfl⟩ := hv
  simp -dsimp -implicitDefEqProofs (disch := first | omega | assumption | (simp only [Option.isSome_some, Qt0]; done) | (simp only [UInt64.reduceToNat, UInt32.reduceToNat, UInt8.reduceToNat, List.length_cons, List.length_nil, List.length_append, Int.toNat_natCast] <;> omega)) only [Nat.reduceLT, Nat.reduceLeDiff, Nat.reduceEqDiff, ↓reduceIte, Int.reduceLT, Int.reduceLE, Int.reduceToNat, Int.reduceEq, Int.reduceNe, Nat.reduceAdd, UInt8.reduceOfNat, UInt16.reduceOfNat, UInt32.reduceOfNat, UInt64.reduceOfNat, UInt64.reduceToNat, UInt32.reduceToNat, UInt16.reduceToNat, UInt8.reduceToNat, Int.reduceAdd, Int.reduceSub, Int.reduceMul, Nat.reduceMul, Qp0, Ql0, Qe0]
  refine hI.out.mono ?_
  rintro v hx ⟨rfl, rfl⟩
  simp -dsimp -implicitDefEqProofs (disch := first | omega | assumption | (simp only [Option.isSome_some, Qt0]; done) | (simp only [UInt64.reduceToNat, UInt32.reduceToNat, UInt8.reduceToNat, List.length_cons, List.length_nil, List.length_append, Int.toNat_natCast] <;> omega)) only [Nat.reduceLT, Nat.reduceLeDiff, Nat.reduceEqDiff, ↓reduceIte, Int.reduceLT, Int.reduceLE, Int.reduceToNat, Int.reduceEq, Int.reduceNe, Nat.reduceAdd, UInt8.reduceOfNat, UInt16.reduceOfNat, UInt32.reduceOfNat, UInt64.reduceOfNat, UInt64.reduceToNat, UInt32.reduceToNat, UInt16.reduceToNat, UInt8.reduceToNat, Int.reduceAdd, Int.reduceSub, Int.reduceMul, Nat.reduceMul, Qp0, Ql0, Qe0]
  exact ⟨_, PH.Le.refl _, by trivial, rfl⟩
end Go.Proofs.Ytdlaoeepeakpeaa


/- SHA-256 and its MAC as plain functions on lists of bytes, and the identities by which the program's and the reference's formulas are one. No condition. -/
namespace Go.Proofs.Ytdlaoeepeakpeaa.Sha
set_option linter.unusedVariables false
set_option linter.unusedSimpArgs false
def rotr (x n : UInt32) : UInt32 := x >>> n ||| x <<< (32 - n)
def ch (e f g : UInt32) : UInt32 := (e &&& f) ^^^ (~~~e &&& g)
def maj (a b c : UInt32) : UInt32 := (a &&& b) ^^^ (a &&& c) ^^^ (b &&& c)
theorem ch_alt (e f g : UInt32) : g ^^^ (e &&& (f ^^^ g)) = ch e f g := by
  unfold ch
  apply UInt32.toBitVec_inj.1
  apply BitVec.eq_of_getLsbD_eq
  intro i hi
  simp
  cases e.toBitVec.getLsbD i <;> cases f.toBitVec.getLsbD i <;> cases g.toBitVec.getLsbD i <;> simp [hi]
theorem maj_alt (a b c : UInt32) : ((a &&& (b ||| c)) ||| (b &&& c)) = maj a b c := by
  unfold maj
  apply UInt32.toBitVec_inj.1
  apply BitVec.eq_of_getLsbD_eq
  intro i hi
  simp
  cases a.toBitVec.getLsbD i <;> cases b.toBitVec.getLsbD i <;> cases c.toBitVec.getLsbD i <;> simp
def s0 (x : UInt32) : UInt32 := rotr x 7 ^^^ rotr x 18 ^^^ (x >>> 3)
def s1 (x : UInt32) : UInt32 := rotr x 17 ^^^ rotr x 19 ^^^ (x >>> 10)
def S0 (x : UInt32) : UInt32 := rotr x 2 ^^^ rotr x 13 ^^^ rotr x 22
def S1 (x : UInt32) : UInt32 := rotr x 6 ^^^ rotr x 11 ^^^ rotr x 25
def K : List UInt32 := [0x428a2f98, 0x71374491, 0xb5c0fbcf, 0xe9b5dba5, 0x3956c25b, 0x59f111f1, 0x923f82a4, 0xab1c5ed5, 0xd807aa98, 0x12835b01, 0x243185be, 0x550c7dc3, 0x72be5d74, 0x80deb1fe, 0x9bdc06a7, 0xc19bf174, 0xe49b69c1, 0xefbe4786, 0x0fc19dc6, 0x240ca1cc, 0x2de92c6f, 0x4a7484aa, 0x5cb0a9dc, 0x76f988da, 0x983e5152, 0xa831c66d, 0xb00327c8, 0xbf597fc7, 0xc6e00bf3, 0xd5a79147, 0x06ca6351, 0x14292967, 0x27b70a85, 0x2e1b2138, 0x4d2c6dfc, 0x53380d13, 0x650a7354, 0x766a0abb, 0x81c2c92e, 0x92722c85, 0xa2bfe8a1, 0xa81a664b, 0xc24b8b70, 0xc76c51a3, 0xd192e819, 0xd6990624, 0xf40e3585, 0x106aa070, 0x19a4c116, 0x1e376c08, 0x2748774c, 0x34b0bcb5, 0x391c0cb3, 0x4ed8aa4a, 0x5b9cca4f, 0x682e6ff3, 0x748f82ee, 0x78a5636f, 0x84c87814, 0x8cc70208, 0x90befffa, 0xa4506ceb, 0xbef9a3f7, 0xc67178f2]
structure St where
  a : UInt32
  b : UInt32
  c : UInt32
  d : UInt32
  e : UInt32
  f : UInt32
  g : UInt32
  h : UInt32
def St.list (s : St) : List UInt32 := [s.a, s.b, s.c, s.d, s.e, s.f, s.g, s.h]
def H0 : St := ⟨0x6a09e667, 0xbb67ae85, 0x3c6ef372, 0xa54ff53a, 0x510e527f, 0x9b05688c, 0x1f83d9ab, 0x5be0cd19⟩
def addSt (s t : St) : St := ⟨s.a + t.a, s.b + t.b, s.c + t.c, s.d + t.d, s.e + t.e, s.f + t.f, s.g + t.g, s.h + t.h⟩
def t1 (s : St) (k w : UInt32) : UInt32 := s.h + S1 s.e + ch s.e s.f s.g + k + w
def t2 (s : St) : UInt32 := S0 s.a + maj s.a s.b s.c
def rnd (s : St) (k w : UInt32) : St := ⟨t1 s k w + t2 s, s.a, s.b, s.c, s.d + t1 s k w, s.e, s.f, s.g⟩
def step (x : UInt32) (c : UInt8) : UInt32 := x * 256 + c.toUInt32
theorem step_alt (x : UInt32) (c : UInt8) : x <<< 8 ||| c.toUInt32 = step x c := by
  unfold step
  apply UInt32.toNat_inj.1
  have hc := c.toNat_lt
  rw [UInt32.toNat_or, UInt32.toNat_shiftLeft, UInt32.toNat_add, UInt32.toNat_mul, UInt8.toNat_toUInt32]
  simp only [UInt32.reduceToNat, Nat.reduceMod, Nat.shiftLeft_eq, Nat.reducePow]
  have h1 : x.toNat * 256 % 4294967296 = 2 ^ 8 * (x.toNat % 16777216) := by omega
  rw [h1, ← Nat.two_pow_add_eq_or_of_lt (by omega)]
  omega
def word (blk : List UInt8) (t : Nat) : UInt32 := ((blk.drop (4 * t)).take 4).foldl step 0
def next (blk : List UInt8) (n : Nat) (l : List UInt32) : UInt32 :=
  if n < 16 then word blk n else s1 (l.getD (n - 2) 0) + l.getD (n - 7) 0 + s0 (l.getD (n - 15) 0) + l.getD (n - 16) 0
def sched (blk : List UInt8) : Nat → List UInt32
  | 0 => []
  | n + 1 => sched blk n ++ [next blk n (sched blk n)]
theorem sched_length (blk : List UInt8) (n : Nat) : (sched blk n).length = n := by
  induction n with
  | zero => rfl
  | succ n ih => simp [sched, ih]
def rounds (wsm : List UInt32) : Nat → St → St
  | 0, s => s
  | n + 1, s => rnd (rounds wsm n s) (K.getD n 0) (wsm.getD n 0)
def comp (s : St) (blk : List UInt8) : St := addSt s (rounds (sched blk 64) 64 s)
def hash : Nat → List UInt8 → St → St
  | 0, _, s => s
  | n + 1, l, s => hash n (l.drop 64) (comp s (l.take 64))
def be : Nat → Nat → List UInt8
  | 0, _ => []
  | k + 1, n => be k (n / 256) ++ [UInt8.ofNat (n % 256)]
theorem be_length (k n : Nat) : (be k n).length = k := by
  induction k generalizing n with
  | zero => rfl
  | succ k ih => simp [be, ih]
def zerosOf (n : Nat) : Nat := (119 - n % 64) % 64
def pad (l : List UInt8) : List UInt8 := l ++ [0x80] ++ List.replicate (zerosOf l.length) 0 ++ be 8 (8 * l.length)
def bytes (s : St) : List UInt8 := s.list.flatMap fun x => be 4 x.toNat
def digest (l : List UInt8) : List UInt8 := bytes (hash ((pad l).length / 64) (pad l) H0)
theorem pad_length (l : List UInt8) : (pad l).length % 64 = 0 := by
  simp [pad, be_length, zerosOf]
  omega
end Go.Proofs.Ytdlaoeepeakpeaa.Sha

