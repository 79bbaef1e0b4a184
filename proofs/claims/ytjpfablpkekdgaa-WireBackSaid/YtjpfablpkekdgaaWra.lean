/- Claims, writes and vectors: which are alike. No condition. -/
import Derived.Test.YtjpfablpkekdgaaWr9
namespace Go.Proofs.Ytjpfablpkekdgaa
set_option linter.unusedVariables false
set_option linter.unusedSimpArgs false
open Go.RowKit Px Wr
theorem y_eqlStamp (x y : Operand) (a b c d : Int) {K : Value → Prop} : Yld Try.prog (binS .eql 23 x y (.agg #[.int .i64 a, .int .i64 b]) (.agg #[.int .i64 c, .int .i64 d])) K = K (.bool (decide (a = c) && decide (b = d))) := Yld_eq fun w => by
  have hu : Try.prog.underlying 23 = some (.struct (Try.prog.fieldsOf 23)) := by kernel_rfl
  have hg : (eqGuard .eql 23 x y (.agg #[.int .i64 a, .int .i64 b]) (.agg #[.int .i64 c, .int .i64 d])).run Try.prog w = .ok () w := run_eqGuard_agg w _ _ x y _ _ (by kernel_rfl)
  have he : (binOp .eql 23 (.agg #[.int .i64 a, .int .i64 b]) (.agg #[.int .i64 c, .int .i64 d])).run Try.prog w = .ok (.bool (decide (a = c) && decide (b = d))) w := by
    rw [run_eql_struct, run_equalIn_agg w 9999 _ _ _ hu (by kernel_rfl)]
    have p0 : ∀ u v : Int, (part 3 #[.int .i64 u, .int .i64 v] 0).run Try.prog w = .ok (.int .i64 u) w := fun u v => by
      simp [part, isAgg, run_underlying (w := w) Try.underlying3, sizeOf]
    have p1 : ∀ u v : Int, (part 3 #[.int .i64 u, .int .i64 v] 1).run Try.prog w = .ok (.int .i64 v) w := fun u v => by
      simp [part, isAgg, run_underlying (w := w) Try.underlying3, sizeOf]
    simp only [Program.fieldsOf, Try.underlying23, Op.eqFields]
    by_cases e1 : a = c
    · subst e1
      by_cases e2 : b = d
      · subst e2; simp [Sem.run_pure, p0, p1, Result.andThen_ok, run_equalIn_int w 9998 3 .i64 .i64 _ _ Try.underlying3, Op.eqFields]
      · simp [Sem.run_pure, p0, p1, Result.andThen_ok, run_equalIn_int w 9998 3 .i64 .i64 _ _ Try.underlying3, Op.eqFields, e2]
    · simp [Sem.run_pure, p0, p1, Result.andThen_ok, run_equalIn_int w 9998 3 .i64 .i64 _ _ Try.underlying3, Op.eqFields, e1]
  unfold binS
  simp only [Sem.run_bind, hg, Result.andThen_ok, he]
set_option maxRecDepth 20000 in
set_option maxHeartbeats 2000000 in
theorem sameV_any (w0 : World) (h : PH) (A B : Option Addr) (c d : Nat) (x y : List Int) (hx : Rv w0 h A (ints x)) (hy : Rv w0 h B (ints y)) (hc : x.length ≤ c) (hd : y.length ≤ d) (hm : x.length ≤ 1000000) : PCalls Try.prog w0 18 [.slice A x.length c, .slice B y.length d] h fun r h' => r = .bool (decide (x = y)) ∧ h' = h := by
  refine PCalls_low fun hl => ?_
  refine PCalls_body Try.func18 (by kernel_rfl) rfl _ Try.ntmps18 (by kernel_rfl) (by kernel_rfl) _ Try.results18 ?_
  by_cases hlen : x.length = y.length
  · have e1 : decide (¬ (x.length : Int) = (y.length : Int)) = false := decide_eq_false (by omega)
    simp -dsimp -implicitDefEqProofs (disch := first | omega | assumption | (simp only [Option.isSome_some, Qt0]; done) | (simp only [UInt64.reduceToNat, UInt32.reduceToNat, UInt8.reduceToNat, List.length_cons, List.length_nil, List.length_append, Int.toNat_natCast] <;> omega)) only [Nat.reduceLT, Nat.reduceLeDiff, Nat.reduceEqDiff, ↓reduceIte, beq_self_eq_true, List.getD_cons_zero, List.getD_cons_succ, Int.reduceLT, Int.reduceLE, Int.reduceToNat, Int.reduceEq, Int.reduceNe, Option.bind_some, List.map_cons, List.map_nil, List.zip_cons_cons, List.zip_nil_left, List.append_nil, List.nil_append, List.cons_append, List.length_cons, List.length_nil, Nat.reduceAdd, UInt8.reduceOfNat, UInt16.reduceOfNat, UInt32.reduceOfNat, UInt64.reduceOfNat, UInt64.reduceToNat, UInt32.reduceToNat, UInt16.reduceToNat, UInt8.reduceToNat, Int.reduceAdd, Int.reduceSub, Int.reduceMul, Nat.reduceMul, ne_eq, eq_self, Option.isNone_some, Option.isNone_none, List.length_set, List.length_replicate, List.getElem?_cons_zero, List.getElem?_cons_succ, Qp0, Qe0, e1]
    refine PW_loop (fun n f h' => ∃ i : Nat, n + i = x.length ∧ f 0 = some (.slice A x.length c) ∧ f 1 = some (.slice B y.length d) ∧ f 5 = some (.int .i64 i) ∧ (∀ j, j < i → x.getD j 0 = y.getD j 0) ∧ h' = h) (by kernel_rfl) x.length ⟨0, by omega, ?_, ?_, ?_, fun j hj => by omega, rfl⟩ ?_
    · simp -dsimp -implicitDefEqProofs (disch := first | omega | assumption | (simp only [Option.isSome_some, Qt0]; done) | (simp only [UInt64.reduceToNat, UInt32.reduceToNat, UInt8.reduceToNat, List.length_cons, List.length_nil, List.length_append, Int.toNat_natCast] <;> omega)) only [Nat.reduceLT, Nat.reduceLeDiff, Nat.reduceEqDiff, ↓reduceIte, beq_self_eq_true, List.getD_cons_zero, List.getD_cons_succ, Int.reduceLT, Int.reduceLE, Int.reduceToNat, Int.reduceEq, Int.reduceNe, Option.bind_some, List.map_cons, List.map_nil, List.zip_cons_cons, List.zip_nil_left, List.append_nil, List.nil_append, List.cons_append, List.length_cons, List.length_nil, Nat.reduceAdd, UInt8.reduceOfNat, UInt16.reduceOfNat, UInt32.reduceOfNat, UInt64.reduceOfNat, UInt64.reduceToNat, UInt32.reduceToNat, UInt16.reduceToNat, UInt8.reduceToNat, Int.reduceAdd, Int.reduceSub, Int.reduceMul, Nat.reduceMul, ne_eq, eq_self, Option.isNone_some, Option.isNone_none, List.length_set, List.length_replicate, List.getElem?_cons_zero, List.getElem?_cons_succ, Qp0, Qe0]
    · simp -dsimp -implicitDefEqProofs (disch := first | omega | assumption | (simp only [Option.isSome_some, Qt0]; done) | (simp only [UInt64.reduceToNat, UInt32.reduceToNat, UInt8.reduceToNat, List.length_cons, List.length_nil, List.length_append, Int.toNat_natCast] <;> omega)) only [Nat.reduceLT, Nat.reduceLeDiff, Nat.reduceEqDiff, ↓reduceIte, beq_self_eq_true, List.getD_cons_zero, List.getD_cons_succ, Int.reduceLT, Int.reduceLE, Int.reduceToNat, Int.reduceEq, Int.reduceNe, Option.bind_some, List.map_cons, List.map_nil, List.zip_cons_cons, List.zip_nil_left, List.append_nil, List.nil_append, List.cons_append, List.length_cons, List.length_nil, Nat.reduceAdd, UInt8.reduceOfNat, UInt16.reduceOfNat, UInt32.reduceOfNat, UInt64.reduceOfNat, UInt64.reduceToNat, UInt32.reduceToNat, UInt16.reduceToNat, UInt8.reduceToNat, Int.reduceAdd, Int.reduceSub, Int.reduceMul, Nat.reduceMul, ne_eq, eq_self, Option.isNone_some, Option.isNone_none, List.length_set, List.length_replicate, List.getElem?_cons_zero, List.getElem?_cons_succ, Qp0, Qe0]
    · simp -dsimp -implicitDefEqProofs (disch := first | omega | assumption | (simp only [Option.isSome_some, Qt0]; done) | (simp only [UInt64.reduceToNat, UInt32.reduceToNat, UInt8.reduceToNat, List.length_cons, List.length_nil, List.length_append, Int.toNat_natCast] <;> omega)) only [Nat.reduceLT, Nat.reduceLeDiff, Nat.reduceEqDiff, ↓reduceIte, beq_self_eq_true, List.getD_cons_zero, List.getD_cons_succ, Int.reduceLT, Int.reduceLE, Int.reduceToNat, Int.reduceEq, Int.reduceNe, Option.bind_some, List.map_cons, List.map_nil, List.zip_cons_cons, List.zip_nil_left, List.append_nil, List.nil_append, List.cons_append, List.length_cons, List.length_nil, Nat.reduceAdd, UInt8.reduceOfNat, UInt16.reduceOfNat, UInt32.reduceOfNat, UInt64.reduceOfNat, UInt64.reduceToNat, UInt32.reduceToNat, UInt16.reduceToNat, UInt8.reduceToNat, Int.reduceAdd, Int.reduceSub, Int.reduceMul, Nat.reduceMul, ne_eq, eq_self, Option.isNone_some, Option.isNone_none, List.length_set, List.length_replicate, List.getElem?_cons_zero, List.getElem?_cons_succ, Qp0, Qe0]
      try rfl
    rintro n f h' ⟨i, hni, f0, f1, f5, hall, rfl⟩
    by_cases hi : i < x.length
    · have e2 : decide ((i : Int) < (x.length : Int)) = true := decide_eq_true (by omega)
      obtain ⟨b, o, rfl⟩ := hx.addr (by simp [ints]; omega)
      obtain ⟨b', o', rfl⟩ := hy.addr (by simp [ints]; omega)
      have hgx := hx.get hl (j := i) (u := .int .i64 (x.getD i 0)) (by rw [ints, List.getElem?_map, List.getD, List.getElem?_eq_getElem hi]; rfl)
      have hgy := hy.get hl (j := i) (u := .int .i64 (y.getD i 0)) (by rw [ints, List.getElem?_map, List.getD, List.getElem?_eq_getElem (by omega)]; rfl)
      by_cases he : x.getD i 0 = y.getD i 0
      · have e3 : decide (¬ x.getD i 0 = y.getD i 0) = false := decide_eq_false (by omega)
        simp -dsimp -implicitDefEqProofs (disch := first | omega | assumption | (simp only [Option.isSome_some, Qt0]; done) | (simp only [UInt64.reduceToNat, UInt32.reduceToNat, UInt8.reduceToNat, List.length_cons, List.length_nil, List.length_append, Int.toNat_natCast] <;> omega)) only [Nat.reduceLT, Nat.reduceLeDiff, Nat.reduceEqDiff, ↓reduceIte, beq_self_eq_true, List.getD_cons_zero, List.getD_cons_succ, Int.reduceLT, Int.reduceLE, Int.reduceToNat, Int.reduceEq, Int.reduceNe, Option.bind_some, List.map_cons, List.map_nil, List.zip_cons_cons, List.zip_nil_left, List.append_nil, List.nil_append, List.cons_append, List.length_cons, List.length_nil, Nat.reduceAdd, UInt8.reduceOfNat, UInt16.reduceOfNat, UInt32.reduceOfNat, UInt64.reduceOfNat, UInt64.reduceToNat, UInt32.reduceToNat, UInt16.reduceToNat, UInt8.reduceToNat, Int.reduceAdd, Int.reduceSub, Int.reduceMul, Nat.reduceMul, ne_eq, eq_self, Option.isNone_some, Option.isNone_none, List.length_set, List.length_replicate, List.getElem?_cons_zero, List.getElem?_cons_succ, Qp0, Qe0, f0, f1, f5, e2]
        refine PW_drawn 9 _ (by kernel_rfl) (by kernel_rfl) (by kernel_rfl) (by kernel_rfl) (by kernel_rfl) (fun c f h hq => by simp only [thenC_panic, thenK_panic, inBlk_panic, thenN_panic, vcRet_panic] at hq) (PH.Le.refl _).sub ?_
        simp -dsimp -implicitDefEqProofs (disch := first | omega | assumption | (simp only [Option.isSome_some, Qt0]; done) | (simp only [UInt64.reduceToNat, UInt32.reduceToNat, UInt8.reduceToNat, List.length_cons, List.length_nil, List.length_append, Int.toNat_natCast] <;> omega)) only [Nat.reduceLT, Nat.reduceLeDiff, Nat.reduceEqDiff, ↓reduceIte, beq_self_eq_true, List.getD_cons_zero, List.getD_cons_succ, Int.reduceLT, Int.reduceLE, Int.reduceToNat, Int.reduceEq, Int.reduceNe, Option.bind_some, List.map_cons, List.map_nil, List.zip_cons_cons, List.zip_nil_left, List.append_nil, List.nil_append, List.cons_append, List.length_cons, List.length_nil, Nat.reduceAdd, UInt8.reduceOfNat, UInt16.reduceOfNat, UInt32.reduceOfNat, UInt64.reduceOfNat, UInt64.reduceToNat, UInt32.reduceToNat, UInt16.reduceToNat, UInt8.reduceToNat, Int.reduceAdd, Int.reduceSub, Int.reduceMul, Nat.reduceMul, ne_eq, eq_self, Option.isNone_some, Option.isNone_none, List.length_set, List.length_replicate, List.getElem?_cons_zero, List.getElem?_cons_succ, Qp0, Qe0, f0, f1, f5, rd_M, hgx, hgy, e3]
        refine ⟨n - 1, _, by omega, PH.Le.refl _, i + 1, by omega, by trivial, by trivial, by simp, fun j hj => ?_, rfl⟩
        by_cases hji : j = i
        · subst hji; exact he
        · exact hall j (by omega)
      · have e3 : decide (¬ x.getD i 0 = y.getD i 0) = true := decide_eq_true (by omega)
        have hne : decide (x = y) = false := decide_eq_false fun e => he (by rw [e])
        rw [hne]
        simp -dsimp -implicitDefEqProofs (disch := first | omega | assumption | (simp only [Option.isSome_some, Qt0]; done) | (simp only [UInt64.reduceToNat, UInt32.reduceToNat, UInt8.reduceToNat, List.length_cons, List.length_nil, List.length_append, Int.toNat_natCast] <;> omega)) only [Nat.reduceLT, Nat.reduceLeDiff, Nat.reduceEqDiff, ↓reduceIte, beq_self_eq_true, List.getD_cons_zero, List.getD_cons_succ, Int.reduceLT, Int.reduceLE, Int.reduceToNat, Int.reduceEq, Int.reduceNe, Option.bind_some, List.map_cons, List.map_nil, List.zip_cons_cons, List.zip_nil_left, List.append_nil, List.nil_append, List.cons_append, List.length_cons, List.length_nil, Nat.reduceAdd, UInt8.reduceOfNat, UInt16.reduceOfNat, UInt32.reduceOfNat, UInt64.reduceOfNat, UInt64.reduceToNat, UInt32.reduceToNat, UInt16.reduceToNat, UInt8.reduceToNat, Int.reduceAdd, Int.reduceSub, Int.reduceMul, Nat.reduceMul, ne_eq, eq_self, Option.isNone_some, Option.isNone_none, List.length_set, List.length_replicate, List.getElem?_cons_zero, List.getElem?_cons_succ, Qp0, Qe0, f0, f1, f5, e2]
        refine PW_drawn 9 _ (by kernel_rfl) (by kernel_rfl) (by kernel_rfl) (by kernel_rfl) (by kernel_rfl) (fun c f h hq => by simp only [thenC_panic, thenK_panic, inBlk_panic, thenN_panic, vcRet_panic] at hq) (PH.Le.refl _).sub ?_
        simp -dsimp -implicitDefEqProofs (disch := first | omega | assumption | (simp only [Option.isSome_some, Qt0]; done) | (simp only [UInt64.reduceToNat, UInt32.reduceToNat, UInt8.reduceToNat, List.length_cons, List.length_nil, List.length_append, Int.toNat_natCast] <;> omega)) only [Nat.reduceLT, Nat.reduceLeDiff, Nat.reduceEqDiff, ↓reduceIte, beq_self_eq_true, List.getD_cons_zero, List.getD_cons_succ, Int.reduceLT, Int.reduceLE, Int.reduceToNat, Int.reduceEq, Int.reduceNe, Option.bind_some, List.map_cons, List.map_nil, List.zip_cons_cons, List.zip_nil_left, List.append_nil, List.nil_append, List.cons_append, List.length_cons, List.length_nil, Nat.reduceAdd, UInt8.reduceOfNat, UInt16.reduceOfNat, UInt32.reduceOfNat, UInt64.reduceOfNat, UInt64.reduceToNat, UInt32.reduceToNat, UInt16.reduceToNat, UInt8.reduceToNat, Int.reduceAdd, Int.reduceSub, Int.reduceMul, Nat.reduceMul, ne_eq, eq_self, Option.isNone_some, Option.isNone_none, List.length_set, List.length_replicate, List.getElem?_cons_zero, List.getElem?_cons_succ, Qp0, Qe0, f0, f1, f5, rd_M, hgx, hgy, e3]
        exact ⟨_, PH.Le.refl _, by first | rfl | trivial, rfl⟩
    · have e2 : decide ((i : Int) < (x.length : Int)) = false := decide_eq_false (by omega)
      have heq : decide (x = y) = true := decide_eq_true (List.ext_getElem hlen fun j h1 h2 => by
        have := hall j (by omega)
        rwa [List.getD, List.getD, List.getElem?_eq_getElem h1, List.getElem?_eq_getElem h2] at this)
      rw [heq]
      simp -dsimp -implicitDefEqProofs (disch := first | omega | assumption | (simp only [Option.isSome_some, Qt0]; done) | (simp only [UInt64.reduceToNat, UInt32.reduceToNat, UInt8.reduceToNat, List.length_cons, List.length_nil, List.length_append, Int.toNat_natCast] <;> omega)) only [Nat.reduceLT, Nat.reduceLeDiff, Nat.reduceEqDiff, ↓reduceIte, beq_self_eq_true, List.getD_cons_zero, List.getD_cons_succ, Int.reduceLT, Int.reduceLE, Int.reduceToNat, Int.reduceEq, Int.reduceNe, Option.bind_some, List.map_cons, List.map_nil, List.zip_cons_cons, List.zip_nil_left, List.append_nil, List.nil_append, List.cons_append, List.length_cons, List.length_nil, Nat.reduceAdd, UInt8.reduceOfNat, UInt16.reduceOfNat, UInt32.reduceOfNat, UInt64.reduceOfNat, UInt64.reduceToNat, UInt32.reduceToNat, UInt16.reduceToNat, UInt8.reduceToNat, Int.reduceAdd, Int.reduceSub, Int.reduceMul, Nat.reduceMul, ne_eq, eq_self, Option.isNone_some, Option.isNone_none, List.length_set, List.length_replicate, List.getElem?_cons_zero, List.getElem?_cons_succ, Qp0, Qe0, f0, f1, f5, e2]
      exact ⟨_, PH.Le.refl _, by first | rfl | trivial, rfl⟩
  · have e1 : decide (¬ (x.length : Int) = (y.length : Int)) = true := decide_eq_true (by omega)
    have hne : decide (x = y) = false := decide_eq_false fun e => hlen (by rw [e])
    rw [hne]
    simp -dsimp -implicitDefEqProofs (disch := first | omega | assumption | (simp only [Option.isSome_some, Qt0]; done) | (simp only [UInt64.reduceToNat, UInt32.reduceToNat, UInt8.reduceToNat, List.length_cons, List.length_nil, List.length_append, Int.toNat_natCast] <;> omega)) only [Nat.reduceLT, Nat.reduceLeDiff, Nat.reduceEqDiff, ↓reduceIte, beq_self_eq_true, List.getD_cons_zero, List.getD_cons_succ, Int.reduceLT, Int.reduceLE, Int.reduceToNat, Int.reduceEq, Int.reduceNe, Option.bind_some, List.map_cons, List.map_nil, List.zip_cons_cons, List.zip_nil_left, List.append_nil, List.nil_append, List.cons_append, List.length_cons, List.length_nil, Nat.reduceAdd, UInt8.reduceOfNat, UInt16.reduceOfNat, UInt32.reduceOfNat, UInt64.reduceOfNat, UInt64.reduceToNat, UInt32.reduceToNat, UInt16.reduceToNat, UInt8.reduceToNat, Int.reduceAdd, Int.reduceSub, Int.reduceMul, Nat.reduceMul, ne_eq, eq_self, Option.isNone_some, Option.isNone_none, List.length_set, List.length_replicate, List.getElem?_cons_zero, List.getElem?_cons_succ, Qp0, Qe0, e1]
    exact ⟨_, PH.Le.refl _, by first | rfl | trivial, rfl⟩
def sameC (a b : Cl) : Bool := decide (a.s = b.s) && decide (a.u = b.u) && decide (a.e = b.e) && decide (a.i = b.i) && decide (a.k = b.k) && decide (a.x = b.x)
def sameW (a b : Wt) : Bool := decide (a.r = b.r) && decide (a.n = b.n) && (decide (a.t = b.t) && decide (a.q = b.q)) && decide (a.d = b.d) && decide (a.s = b.s) && decide (a.k = b.k) && decide (a.v = b.v) && (a.g == b.g) && decide (a.l = b.l)
theorem sameC_iff {a b : Cl} : sameC a b = true ↔ a = b := by
  unfold sameC
  simp only [Bool.and_eq_true, decide_eq_true_eq]
  constructor
  · rintro ⟨⟨⟨⟨⟨h1, h2⟩, h3⟩, h4⟩, h5⟩, h6⟩; exact Cl.ext' h1 h2 h3 h4 h5 h6
  · rintro rfl; simp
theorem sameW_iff {a b : Wt} : sameW a b = true ↔ a = b := by
  unfold sameW
  simp only [Bool.and_eq_true, decide_eq_true_eq, beq_iff_eq]
  constructor
  · intro h
    obtain ⟨⟨⟨⟨⟨⟨⟨⟨h1, h2⟩, ⟨h3, h4⟩⟩, h5⟩, h6⟩, h7⟩, h8⟩, h9⟩, h10⟩ := h
    exact Wt.ext' h1 h2 h3 h4 h5 h6 h7 h8 h9 h10
  · rintro rfl; simp
set_option maxRecDepth 20000 in
set_option maxHeartbeats 4000000 in
theorem sameC_any (w0 : World) (h : PH) (a b : Cl) (A B : Option Addr) (c d : Nat) (hx : Rv w0 h A (ints a.x)) (hy : Rv w0 h B (ints b.x)) (hc : a.x.length ≤ c) (hd : b.x.length ≤ d) (hm : a.x.length ≤ 1000000) : PCalls Try.prog w0 27 [.agg (clL a A c).toArray, .agg (clL b B d).toArray] h fun r h' => r = .bool (sameC a b) ∧ h' = h := by
  refine PCalls_body Try.func27 (by kernel_rfl) rfl _ Try.ntmps27 (by kernel_rfl) (by kernel_rfl) _ Try.results27 ?_
  unfold clL
  simp -dsimp -implicitDefEqProofs (disch := first | omega | assumption | (simp only [Option.isSome_some, Qt0]; done) | (simp only [UInt64.reduceToNat, UInt32.reduceToNat, UInt8.reduceToNat, List.length_cons, List.length_nil, List.length_append, Int.toNat_natCast] <;> omega)) only [Nat.reduceLT, Nat.reduceLeDiff, Nat.reduceEqDiff, ↓reduceIte, beq_self_eq_true, List.getD_cons_zero, List.getD_cons_succ, Int.reduceLT, Int.reduceLE, Int.reduceToNat, Int.reduceEq, Int.reduceNe, Option.bind_some, List.map_cons, List.map_nil, List.zip_cons_cons, List.zip_nil_left, List.append_nil, List.nil_append, List.cons_append, List.length_cons, List.length_nil, Nat.reduceAdd, UInt8.reduceOfNat, UInt16.reduceOfNat, UInt32.reduceOfNat, UInt64.reduceOfNat, UInt64.reduceToNat, UInt32.reduceToNat, UInt16.reduceToNat, UInt8.reduceToNat, Int.reduceAdd, Int.reduceSub, Int.reduceMul, Nat.reduceMul, ne_eq, eq_self, Option.isNone_some, Option.isNone_none, List.length_set, List.length_replicate, List.getElem?_cons_zero, List.getElem?_cons_succ, Qp0, Qe0]
  refine fun p1 hp1 => ?_
  have hle1 := (PH.Le.refl h).new p1 ⟨[str a.s, str a.u, .int .i64 a.e, .int .i64 a.i, .int .i64 a.k, .slice A a.x.length c], 6⟩ hp1
  have hq1 : (h.new p1 ⟨[str a.s, str a.u, .int .i64 a.e, .int .i64 a.i, .int .i64 a.k, .slice A a.x.length c], 6⟩).m p1 = some ⟨[str a.s, str a.u, .int .i64 a.e, .int .i64 a.i, .int .i64 a.k, .slice A a.x.length c], 6⟩ := by rw [PH.new_m, if_pos rfl]
  simp -dsimp -implicitDefEqProofs (disch := first | omega | assumption | (simp only [Option.isSome_some, Qt0]; done) | (simp only [UInt64.reduceToNat, UInt32.reduceToNat, UInt8.reduceToNat, List.length_cons, List.length_nil, List.length_append, Int.toNat_natCast] <;> omega)) only [Nat.reduceLT, Nat.reduceLeDiff, Nat.reduceEqDiff, ↓reduceIte, beq_self_eq_true, List.getD_cons_zero, List.getD_cons_succ, Int.reduceLT, Int.reduceLE, Int.reduceToNat, Int.reduceEq, Int.reduceNe, Option.bind_some, List.map_cons, List.map_nil, List.zip_cons_cons, List.zip_nil_left, List.append_nil, List.nil_append, List.cons_append, List.length_cons, List.length_nil, Nat.reduceAdd, UInt8.reduceOfNat, UInt16.reduceOfNat, UInt32.reduceOfNat, UInt64.reduceOfNat, UInt64.reduceToNat, UInt32.reduceToNat, UInt16.reduceToNat, UInt8.reduceToNat, Int.reduceAdd, Int.reduceSub, Int.reduceMul, Nat.reduceMul, ne_eq, eq_self, Option.isNone_some, Option.isNone_none, List.length_set, List.length_replicate, List.getElem?_cons_zero, List.getElem?_cons_succ, Qp0, Qe0]
  generalize h.new p1 ⟨[str a.s, str a.u, .int .i64 a.e, .int .i64 a.i, .int .i64 a.k, .slice A a.x.length c], 6⟩ = h1 at *
  refine fun p2 hp2 => ?_
  have hle2 := hle1.new p2 ⟨[str b.s, str b.u, .int .i64 b.e, .int .i64 b.i, .int .i64 b.k, .slice B b.x.length d], 6⟩ (Nat.le_trans hle1.top hp2)
  have hq2 : (h1.new p2 ⟨[str b.s, str b.u, .int .i64 b.e, .int .i64 b.i, .int .i64 b.k, .slice B b.x.length d], 6⟩).m p2 = some ⟨[str b.s, str b.u, .int .i64 b.e, .int .i64 b.i, .int .i64 b.k, .slice B b.x.length d], 6⟩ := by rw [PH.new_m, if_pos rfl]
  have hq3 := ((PH.Le.refl h1).new p2 ⟨[str b.s, str b.u, .int .i64 b.e, .int .i64 b.i, .int .i64 b.k, .slice B b.x.length d], 6⟩ hp2).m _ _ hq1
  simp -dsimp -implicitDefEqProofs (disch := first | omega | assumption | (simp only [Option.isSome_some, Qt0]; done) | (simp only [UInt64.reduceToNat, UInt32.reduceToNat, UInt8.reduceToNat, List.length_cons, List.length_nil, List.length_append, Int.toNat_natCast] <;> omega)) only [Nat.reduceLT, Nat.reduceLeDiff, Nat.reduceEqDiff, ↓reduceIte, beq_self_eq_true, List.getD_cons_zero, List.getD_cons_succ, Int.reduceLT, Int.reduceLE, Int.reduceToNat, Int.reduceEq, Int.reduceNe, Option.bind_some, List.map_cons, List.map_nil, List.zip_cons_cons, List.zip_nil_left, List.append_nil, List.nil_append, List.cons_append, List.length_cons, List.length_nil, Nat.reduceAdd, UInt8.reduceOfNat, UInt16.reduceOfNat, UInt32.reduceOfNat, UInt64.reduceOfNat, UInt64.reduceToNat, UInt32.reduceToNat, UInt16.reduceToNat, UInt8.reduceToNat, Int.reduceAdd, Int.reduceSub, Int.reduceMul, Nat.reduceMul, ne_eq, eq_self, Option.isNone_some, Option.isNone_none, List.length_set, List.length_replicate, List.getElem?_cons_zero, List.getElem?_cons_succ, Qp0, Qe0]
  generalize h1.new p2 ⟨[str b.s, str b.u, .int .i64 b.e, .int .i64 b.i, .int .i64 b.k, .slice B b.x.length d], 6⟩ = h2 at *
  have hV := sameV_any w0 h2 A B c d a.x b.x (hx.more hle2) (hy.more hle2) hc hd hm
  unfold sameC
  obtain ⟨b1, hb1⟩ : ∃ z, decide (a.s = b.s) = z := ⟨_, rfl⟩
  obtain ⟨b2, hb2⟩ : ∃ z, decide (a.u = b.u) = z := ⟨_, rfl⟩
  obtain ⟨b3, hb3⟩ : ∃ z, decide (a.e = b.e) = z := ⟨_, rfl⟩
  obtain ⟨b4, hb4⟩ : ∃ z, decide (a.i = b.i) = z := ⟨_, rfl⟩
  obtain ⟨b5, hb5⟩ : ∃ z, decide (a.k = b.k) = z := ⟨_, rfl⟩
  rw [hb1, hb2, hb3, hb4, hb5]
  generalize decide (a.x = b.x) = b6 at *
  have hV := Lib.hid hV
  cases b1; rotate_left
  cases b2; rotate_left
  cases b3; rotate_left
  cases b4; rotate_left
  cases b5; rotate_left
  all_goals
    simp -dsimp -implicitDefEqProofs (disch := first | omega | assumption | (simp only [Option.isSome_some, Qt0]; done) | (simp only [UInt64.reduceToNat, UInt32.reduceToNat, UInt8.reduceToNat, List.length_cons, List.length_nil, List.length_append, Int.toNat_natCast] <;> omega)) only [Nat.reduceLT, Nat.reduceLeDiff, Nat.reduceEqDiff, ↓reduceIte, beq_self_eq_true, List.getD_cons_zero, List.getD_cons_succ, Int.reduceLT, Int.reduceLE, Int.reduceToNat, Int.reduceEq, Int.reduceNe, Option.bind_some, List.map_cons, List.map_nil, List.zip_cons_cons, List.zip_nil_left, List.append_nil, List.nil_append, List.cons_append, List.length_cons, List.length_nil, Nat.reduceAdd, UInt8.reduceOfNat, UInt16.reduceOfNat, UInt32.reduceOfNat, UInt64.reduceOfNat, UInt64.reduceToNat, UInt32.reduceToNat, UInt16.reduceToNat, UInt8.reduceToNat, Int.reduceAdd, Int.reduceSub, Int.reduceMul, Nat.reduceMul, ne_eq, eq_self, Option.isNone_some, Option.isNone_none, List.length_set, List.length_replicate, List.getElem?_cons_zero, List.getElem?_cons_succ, Qp0, Qe0, hb1, hb2, hb3, hb4, hb5, rd_M, rdM_some, hq2, hq3, y_eqlStamp]
    repeat
      first | refine hV.out.mono ?_
      rintro v hq ⟨rfl, hz⟩
      obtain rfl := hz.symm
      simp -dsimp -implicitDefEqProofs (disch := first | omega | assumption | (simp only [Option.isSome_some, Qt0]; done) | (simp only [UInt64.reduceToNat, UInt32.reduceToNat, UInt8.reduceToNat, List.length_cons, List.length_nil, List.length_append, Int.toNat_natCast] <;> omega)) only [Nat.reduceLT, Nat.reduceLeDiff, Nat.reduceEqDiff, ↓reduceIte, beq_self_eq_true, List.getD_cons_zero, List.getD_cons_succ, Int.reduceLT, Int.reduceLE, Int.reduceToNat, Int.reduceEq, Int.reduceNe, Option.bind_some, List.map_cons, List.map_nil, List.zip_cons_cons, List.zip_nil_left, List.append_nil, List.nil_append, List.cons_append, List.length_cons, List.length_nil, Nat.reduceAdd, UInt8.reduceOfNat, UInt16.reduceOfNat, UInt32.reduceOfNat, UInt64.reduceOfNat, UInt64.reduceToNat, UInt32.reduceToNat, UInt16.reduceToNat, UInt8.reduceToNat, Int.reduceAdd, Int.reduceSub, Int.reduceMul, Nat.reduceMul, ne_eq, eq_self, Option.isNone_some, Option.isNone_none, List.length_set, List.length_replicate, List.getElem?_cons_zero, List.getElem?_cons_succ, Qp0, Qe0, hb1, hb2, hb3, hb4, hb5, rd_M, rdM_some, hq2, hq3, y_eqlStamp]
    exact ⟨_, hle2, by first | rfl | trivial | (simp; done), rfl⟩
set_option maxRecDepth 20000 in
set_option maxHeartbeats 4000000 in
theorem sameW_any (w0 : World) (h : PH) (a b : Wt) (A B : Option Addr) (c d : Nat) (hx : Rv w0 h A (ints a.d)) (hy : Rv w0 h B (ints b.d)) (hc : a.d.length ≤ c) (hd : b.d.length ≤ d) (hm : a.d.length ≤ 1000000) : PCalls Try.prog w0 11 [.agg (wtL a A c).toArray, .agg (wtL b B d).toArray] h fun r h' => r = .bool (sameW a b) ∧ h' = h := by
  refine PCalls_body Try.func11 (by kernel_rfl) rfl _ Try.ntmps11 (by kernel_rfl) (by kernel_rfl) _ Try.results11 ?_
  unfold wtL
  simp -dsimp -implicitDefEqProofs (disch := first | omega | assumption | (simp only [Option.isSome_some, Qt0]; done) | (simp only [UInt64.reduceToNat, UInt32.reduceToNat, UInt8.reduceToNat, List.length_cons, List.length_nil, List.length_append, Int.toNat_natCast] <;> omega)) only [Nat.reduceLT, Nat.reduceLeDiff, Nat.reduceEqDiff, ↓reduceIte, beq_self_eq_true, List.getD_cons_zero, List.getD_cons_succ, Int.reduceLT, Int.reduceLE, Int.reduceToNat, Int.reduceEq, Int.reduceNe, Option.bind_some, List.map_cons, List.map_nil, List.zip_cons_cons, List.zip_nil_left, List.append_nil, List.nil_append, List.cons_append, List.length_cons, List.length_nil, Nat.reduceAdd, UInt8.reduceOfNat, UInt16.reduceOfNat, UInt32.reduceOfNat, UInt64.reduceOfNat, UInt64.reduceToNat, UInt32.reduceToNat, UInt16.reduceToNat, UInt8.reduceToNat, Int.reduceAdd, Int.reduceSub, Int.reduceMul, Nat.reduceMul, ne_eq, eq_self, Option.isNone_some, Option.isNone_none, List.length_set, List.length_replicate, List.getElem?_cons_zero, List.getElem?_cons_succ, Qp0, Qe0]
  refine fun p1 hp1 => ?_
  have hle1 := (PH.Le.refl h).new p1 ⟨[.int .i64 a.r, .int .i64 a.n, .int .i64 a.t, .int .i64 a.q, .slice A a.d.length c, str a.s, str a.k, str a.v, .bool a.g, .int .i64 a.l], 10⟩ hp1
  have hq1 : (h.new p1 ⟨[.int .i64 a.r, .int .i64 a.n, .int .i64 a.t, .int .i64 a.q, .slice A a.d.length c, str a.s, str a.k, str a.v, .bool a.g, .int .i64 a.l], 10⟩).m p1 = some ⟨[.int .i64 a.r, .int .i64 a.n, .int .i64 a.t, .int .i64 a.q, .slice A a.d.length c, str a.s, str a.k, str a.v, .bool a.g, .int .i64 a.l], 10⟩ := by rw [PH.new_m, if_pos rfl]
  simp -dsimp -implicitDefEqProofs (disch := first | omega | assumption | (simp only [Option.isSome_some, Qt0]; done) | (simp only [UInt64.reduceToNat, UInt32.reduceToNat, UInt8.reduceToNat, List.length_cons, List.length_nil, List.length_append, Int.toNat_natCast] <;> omega)) only [Nat.reduceLT, Nat.reduceLeDiff, Nat.reduceEqDiff, ↓reduceIte, beq_self_eq_true, List.getD_cons_zero, List.getD_cons_succ, Int.reduceLT, Int.reduceLE, Int.reduceToNat, Int.reduceEq, Int.reduceNe, Option.bind_some, List.map_cons, List.map_nil, List.zip_cons_cons, List.zip_nil_left, List.append_nil, List.nil_append, List.cons_append, List.length_cons, List.length_nil, Nat.reduceAdd, UInt8.reduceOfNat, UInt16.reduceOfNat, UInt32.reduceOfNat, UInt64.reduceOfNat, UInt64.reduceToNat, UInt32.reduceToNat, UInt16.reduceToNat, UInt8.reduceToNat, Int.reduceAdd, Int.reduceSub, Int.reduceMul, Nat.reduceMul, ne_eq, eq_self, Option.isNone_some, Option.isNone_none, List.length_set, List.length_replicate, List.getElem?_cons_zero, List.getElem?_cons_succ, Qp0, Qe0]
  generalize h.new p1 ⟨[.int .i64 a.r, .int .i64 a.n, .int .i64 a.t, .int .i64 a.q, .slice A a.d.length c, str a.s, str a.k, str a.v, .bool a.g, .int .i64 a.l], 10⟩ = h1 at *
  refine fun p2 hp2 => ?_
  have hle2 := hle1.new p2 ⟨[.int .i64 b.r, .int .i64 b.n, .int .i64 b.t, .int .i64 b.q, .slice B b.d.length d, str b.s, str b.k, str b.v, .bool b.g, .int .i64 b.l], 10⟩ (Nat.le_trans hle1.top hp2)
  have hq2 : (h1.new p2 ⟨[.int .i64 b.r, .int .i64 b.n, .int .i64 b.t, .int .i64 b.q, .slice B b.d.length d, str b.s, str b.k, str b.v, .bool b.g, .int .i64 b.l], 10⟩).m p2 = some ⟨[.int .i64 b.r, .int .i64 b.n, .int .i64 b.t, .int .i64 b.q, .slice B b.d.length d, str b.s, str b.k, str b.v, .bool b.g, .int .i64 b.l], 10⟩ := by rw [PH.new_m, if_pos rfl]
  have hq3 := ((PH.Le.refl h1).new p2 ⟨[.int .i64 b.r, .int .i64 b.n, .int .i64 b.t, .int .i64 b.q, .slice B b.d.length d, str b.s, str b.k, str b.v, .bool b.g, .int .i64 b.l], 10⟩ hp2).m _ _ hq1
  simp -dsimp -implicitDefEqProofs (disch := first | omega | assumption | (simp only [Option.isSome_some, Qt0]; done) | (simp only [UInt64.reduceToNat, UInt32.reduceToNat, UInt8.reduceToNat, List.length_cons, List.length_nil, List.length_append, Int.toNat_natCast] <;> omega)) only [Nat.reduceLT, Nat.reduceLeDiff, Nat.reduceEqDiff, ↓reduceIte, beq_self_eq_true, List.getD_cons_zero, List.getD_cons_succ, Int.reduceLT, Int.reduceLE, Int.reduceToNat, Int.reduceEq, Int.reduceNe, Option.bind_some, List.map_cons, List.map_nil, List.zip_cons_cons, List.zip_nil_left, List.append_nil, List.nil_append, List.cons_append, List.length_cons, List.length_nil, Nat.reduceAdd, UInt8.reduceOfNat, UInt16.reduceOfNat, UInt32.reduceOfNat, UInt64.reduceOfNat, UInt64.reduceToNat, UInt32.reduceToNat, UInt16.reduceToNat, UInt8.reduceToNat, Int.reduceAdd, Int.reduceSub, Int.reduceMul, Nat.reduceMul, ne_eq, eq_self, Option.isNone_some, Option.isNone_none, List.length_set, List.length_replicate, List.getElem?_cons_zero, List.getElem?_cons_succ, Qp0, Qe0]
  generalize h1.new p2 ⟨[.int .i64 b.r, .int .i64 b.n, .int .i64 b.t, .int .i64 b.q, .slice B b.d.length d, str b.s, str b.k, str b.v, .bool b.g, .int .i64 b.l], 10⟩ = h2 at *
  have hV := sameV_any w0 h2 A B c d a.d b.d (hx.more hle2) (hy.more hle2) hc hd hm
  unfold sameW
  obtain ⟨b1, hb1⟩ : ∃ z, decide (a.r = b.r) = z := ⟨_, rfl⟩
  obtain ⟨b2, hb2⟩ : ∃ z, decide (a.n = b.n) = z := ⟨_, rfl⟩
  obtain ⟨b3, hb3⟩ : ∃ z, decide (a.t = b.t) = z := ⟨_, rfl⟩
  obtain ⟨b4, hb4⟩ : ∃ z, decide (a.q = b.q) = z := ⟨_, rfl⟩
  obtain ⟨b6, hb6⟩ : ∃ z, decide (a.s = b.s) = z := ⟨_, rfl⟩
  obtain ⟨b7, hb7⟩ : ∃ z, decide (a.k = b.k) = z := ⟨_, rfl⟩
  obtain ⟨b8, hb8⟩ : ∃ z, decide (a.v = b.v) = z := ⟨_, rfl⟩
  obtain ⟨b9, hb9⟩ : ∃ z, (a.g == b.g) = z := ⟨_, rfl⟩
  obtain ⟨b10, hb10⟩ : ∃ z, decide (a.l = b.l) = z := ⟨_, rfl⟩
  rw [hb1, hb2, hb3, hb4, hb6, hb7, hb8, hb9, hb10]
  generalize decide (a.d = b.d) = b5 at *
  have hV := Lib.hid hV
  have hs1 : rdN w0 h2 ⟨p1, 2, none⟩ 2 = some [.int .i64 a.t, .int .i64 a.q] := by unfold rdN; simp only [hq3]; rfl
  have hs2 : rdN w0 h2 ⟨p2, 2, none⟩ 2 = some [.int .i64 b.t, .int .i64 b.q] := by unfold rdN; simp only [hq2]; rfl
  cases b1; rotate_left
  cases b2; rotate_left
  cases b3; rotate_left
  cases b4; rotate_left
  cases b5; rotate_left
  cases b6; rotate_left
  cases b7; rotate_left
  cases b8; rotate_left
  cases b9; rotate_left
  all_goals
    simp -dsimp -implicitDefEqProofs (disch := first | omega | assumption | (simp only [Option.isSome_some, Qt0]; done) | (simp only [UInt64.reduceToNat, UInt32.reduceToNat, UInt8.reduceToNat, List.length_cons, List.length_nil, List.length_append, Int.toNat_natCast] <;> omega)) only [Nat.reduceLT, Nat.reduceLeDiff, Nat.reduceEqDiff, ↓reduceIte, beq_self_eq_true, List.getD_cons_zero, List.getD_cons_succ, Int.reduceLT, Int.reduceLE, Int.reduceToNat, Int.reduceEq, Int.reduceNe, Option.bind_some, List.map_cons, List.map_nil, List.zip_cons_cons, List.zip_nil_left, List.append_nil, List.nil_append, List.cons_append, List.length_cons, List.length_nil, Nat.reduceAdd, UInt8.reduceOfNat, UInt16.reduceOfNat, UInt32.reduceOfNat, UInt64.reduceOfNat, UInt64.reduceToNat, UInt32.reduceToNat, UInt16.reduceToNat, UInt8.reduceToNat, Int.reduceAdd, Int.reduceSub, Int.reduceMul, Nat.reduceMul, ne_eq, eq_self, Option.isNone_some, Option.isNone_none, List.length_set, List.length_replicate, List.getElem?_cons_zero, List.getElem?_cons_succ, Qp0, Qe0, hb1, hb2, hb3, hb4, hb6, hb7, hb8, hb9, hb10, hs1, hs2, rd_M, rdM_some, hq2, hq3, y_eqlStamp]
    repeat
      first | refine hV.out.mono ?_
      rintro v hq ⟨rfl, hz⟩
      obtain rfl := hz.symm
      simp -dsimp -implicitDefEqProofs (disch := first | omega | assumption | (simp only [Option.isSome_some, Qt0]; done) | (simp only [UInt64.reduceToNat, UInt32.reduceToNat, UInt8.reduceToNat, List.length_cons, List.length_nil, List.length_append, Int.toNat_natCast] <;> omega)) only [Nat.reduceLT, Nat.reduceLeDiff, Nat.reduceEqDiff, ↓reduceIte, beq_self_eq_true, List.getD_cons_zero, List.getD_cons_succ, Int.reduceLT, Int.reduceLE, Int.reduceToNat, Int.reduceEq, Int.reduceNe, Option.bind_some, List.map_cons, List.map_nil, List.zip_cons_cons, List.zip_nil_left, List.append_nil, List.nil_append, List.cons_append, List.length_cons, List.length_nil, Nat.reduceAdd, UInt8.reduceOfNat, UInt16.reduceOfNat, UInt32.reduceOfNat, UInt64.reduceOfNat, UInt64.reduceToNat, UInt32.reduceToNat, UInt16.reduceToNat, UInt8.reduceToNat, Int.reduceAdd, Int.reduceSub, Int.reduceMul, Nat.reduceMul, ne_eq, eq_self, Option.isNone_some, Option.isNone_none, List.length_set, List.length_replicate, List.getElem?_cons_zero, List.getElem?_cons_succ, Qp0, Qe0, hb1, hb2, hb3, hb4, hb6, hb7, hb8, hb9, hb10, hs1, hs2, rd_M, rdM_some, hq2, hq3, y_eqlStamp]
    exact ⟨_, hle2, by first | rfl | trivial | (simp; done), rfl⟩
end Go.Proofs.Ytjpfablpkekdgaa
