/- CookieOne: among other pairs the one with a name is found, wherever it stands; twice it is not. No condition. -/
import Derived.Test.YtefkgpcdabmkkaaCkf
import Derived.Test.YtefkgpcdabmkkaaEr
import Derived.Test.YtefkgpcdabmkkaaBase
import Derived.Test.YtefkgpcdabmkkaaBase2
import Derived.Test.YtefkgpcdabmkkaaChecked
namespace Go.Proofs.Ytefkgpcdabmkkaa.CkO
set_option linter.unusedVariables false
set_option linter.unusedSimpArgs false
open Go.ChangeShapes Go.WideShapes Go.ChangeAt Go.RowKit Base Px Ck
set_option maxRecDepth 20000 in
set_option maxHeartbeats 4000000 in
theorem walk_CookieOne (A_l : Option Addr) (c_l : Nat) (z_l : List Pr) (at_ : Int) (p : Pr) (w : World) (hc_l : z_l.length ≤ c_l) (hr_l : ∀ h, Rv w h A_l (prs z_l)) (hw_at_ : (Lit.int .i64 at_).wf = true) : Calls Try.prog 4 #[.slice A_l z_l.length c_l, .int .i64 at_, .agg #[str p.1, str p.2]] w fun e w' => e = .returned (.bool true) ∧ Below w.heap.size w w' := by
  refine law_calls (args := [.slice A_l z_l.length c_l, .int .i64 at_, .agg #[str p.1, str p.2]]) (Calls_body Try.func4 rfl _ Try.ntmps4 (by kernel_rfl) (by kernel_rfl) _ Try.results4 ?_ w (Sim.empty w))
  simp -dsimp -implicitDefEqProofs (disch := first | omega | assumption | (simp only [Option.isSome_some, Qt0]; done) | (simp only [UInt64.reduceToNat, UInt32.reduceToNat, UInt8.reduceToNat, List.length_cons, List.length_nil, List.length_append, Int.toNat_natCast] <;> omega)) only [Nat.reduceLT, Nat.reduceLeDiff, Nat.reduceEqDiff, ↓reduceIte, beq_self_eq_true, List.getD_cons_zero, List.getD_cons_succ, Int.reduceLT, Int.reduceLE, Int.reduceToNat, Int.reduceEq, Int.reduceNe, Option.bind_some, List.map_cons, List.map_nil, List.zip_cons_cons, List.zip_nil_left, List.append_nil, List.nil_append, List.cons_append, List.length_cons, List.length_nil, Nat.reduceAdd, UInt8.reduceOfNat, UInt16.reduceOfNat, UInt32.reduceOfNat, UInt64.reduceOfNat, UInt64.reduceToNat, UInt32.reduceToNat, UInt16.reduceToNat, UInt8.reduceToNat, Int.reduceAdd, Int.reduceSub, Int.reduceMul, Nat.reduceMul, ne_eq, eq_self, Option.isNone_some, Option.isNone_none, List.length_set, List.length_replicate, List.getElem?_cons_zero, List.getElem?_cons_succ, Qp0, Qe0]
  refine fun pb hpb => ?_
  have hl0 := (PH.Le.refl (PH.empty w)).new pb ⟨[str p.1, str p.2], 2⟩ hpb
  have hmp : ((PH.empty w).new pb ⟨[str p.1, str p.2], 2⟩).m pb = some ⟨[str p.1, str p.2], 2⟩ := by rw [PH.new_m, if_pos rfl]
  simp -dsimp -implicitDefEqProofs (disch := first | omega | assumption | (simp only [Option.isSome_some, Qt0]; done) | (simp only [UInt64.reduceToNat, UInt32.reduceToNat, UInt8.reduceToNat, List.length_cons, List.length_nil, List.length_append, Int.toNat_natCast] <;> omega)) only [Nat.reduceLT, Nat.reduceLeDiff, Nat.reduceEqDiff, ↓reduceIte, beq_self_eq_true, List.getD_cons_zero, List.getD_cons_succ, Int.reduceLT, Int.reduceLE, Int.reduceToNat, Int.reduceEq, Int.reduceNe, Option.bind_some, List.map_cons, List.map_nil, List.zip_cons_cons, List.zip_nil_left, List.append_nil, List.nil_append, List.cons_append, List.length_cons, List.length_nil, Nat.reduceAdd, UInt8.reduceOfNat, UInt16.reduceOfNat, UInt32.reduceOfNat, UInt64.reduceOfNat, UInt64.reduceToNat, UInt32.reduceToNat, UInt16.reduceToNat, UInt8.reduceToNat, Int.reduceAdd, Int.reduceSub, Int.reduceMul, Nat.reduceMul, ne_eq, eq_self, Option.isNone_some, Option.isNone_none, List.length_set, List.length_replicate, List.getElem?_cons_zero, List.getElem?_cons_succ, Qp0, Qe0]
  generalize (PH.empty w).new pb ⟨[str p.1, str p.2], 2⟩ = g0 at *
  have hA := Lib.hid (@awake_any w g0)
  refine hA.out.mono ?_
  rintro v h1 ⟨rfl, hle1⟩
  have hmp1 := hle1.m _ _ hmp
  have hl01 := hl0.trans hle1
  obtain ⟨b1, hb1⟩ : ∃ b, decide (30 < (z_l.length : Int)) = b := ⟨_, rfl⟩
  obtain ⟨b2, hb2⟩ : ∃ b, decide (at_ < 0) = b := ⟨_, rfl⟩
  obtain ⟨b3, hb3⟩ : ∃ b, decide ((z_l.length : Int) < at_) = b := ⟨_, rfl⟩
  obtain ⟨b4, hb4⟩ : ∃ b, decide (100 < (p.1.length : Int)) = b := ⟨_, rfl⟩
  obtain ⟨b5, hb5⟩ : ∃ b, decide (100 < (p.2.length : Int)) = b := ⟨_, rfl⟩
  by_cases hlong : b1 || b2 || b3 || b4 || b5
  · cases b1
    cases b2
    cases b3
    cases b4
    cases b5
    all_goals
      first
        | (simp at hlong; done)
        | (simp -dsimp -implicitDefEqProofs (disch := first | omega | assumption | (simp only [Option.isSome_some, Qt0]; done) | (simp only [UInt64.reduceToNat, UInt32.reduceToNat, UInt8.reduceToNat, List.length_cons, List.length_nil, List.length_append, Int.toNat_natCast] <;> omega)) only [Nat.reduceLT, Nat.reduceLeDiff, Nat.reduceEqDiff, ↓reduceIte, beq_self_eq_true, List.getD_cons_zero, List.getD_cons_succ, Int.reduceLT, Int.reduceLE, Int.reduceToNat, Int.reduceEq, Int.reduceNe, Option.bind_some, List.map_cons, List.map_nil, List.zip_cons_cons, List.zip_nil_left, List.append_nil, List.nil_append, List.cons_append, List.length_cons, List.length_nil, Nat.reduceAdd, UInt8.reduceOfNat, UInt16.reduceOfNat, UInt32.reduceOfNat, UInt64.reduceOfNat, UInt64.reduceToNat, UInt32.reduceToNat, UInt16.reduceToNat, UInt8.reduceToNat, Int.reduceAdd, Int.reduceSub, Int.reduceMul, Nat.reduceMul, ne_eq, eq_self, Option.isNone_some, Option.isNone_none, List.length_set, List.length_replicate, List.getElem?_cons_zero, List.getElem?_cons_succ, Qp0, Qe0, gt_iff_lt, hb1, hb2, hb3, hb4, hb5, rd_M, rdM_some, hmp1]
           exact ⟨_, hl01, by simp⟩)
  obtain rfl : b1 = false := by clear hb1 hb2 hb3 hb4 hb5; revert hlong; cases b1 <;> simp
  obtain rfl : b2 = false := by clear hb1 hb2 hb3 hb4 hb5; revert hlong; cases b2 <;> simp
  obtain rfl : b3 = false := by clear hb1 hb2 hb3 hb4 hb5; revert hlong; cases b3 <;> simp
  obtain rfl : b4 = false := by clear hb1 hb2 hb3 hb4 hb5; revert hlong; cases b4 <;> simp
  obtain rfl : b5 = false := by clear hb1 hb2 hb3 hb4 hb5; revert hlong; cases b5 <;> simp
  clear hlong
  have k1 := of_decide_eq_false hb1
  have k2 := of_decide_eq_false hb2
  have k3 := of_decide_eq_false hb3
  have k4 := of_decide_eq_false hb4
  have k5 := of_decide_eq_false hb5
  obtain ⟨k, rfl⟩ : ∃ k : Nat, at_ = (k : Int) := ⟨at_.toNat, by omega⟩
  have hk : k ≤ z_l.length := by omega
  simp -dsimp -implicitDefEqProofs (disch := first | omega | assumption | (simp only [Option.isSome_some, Qt0]; done) | (simp only [UInt64.reduceToNat, UInt32.reduceToNat, UInt8.reduceToNat, List.length_cons, List.length_nil, List.length_append, Int.toNat_natCast] <;> omega)) only [Nat.reduceLT, Nat.reduceLeDiff, Nat.reduceEqDiff, ↓reduceIte, beq_self_eq_true, List.getD_cons_zero, List.getD_cons_succ, Int.reduceLT, Int.reduceLE, Int.reduceToNat, Int.reduceEq, Int.reduceNe, Option.bind_some, List.map_cons, List.map_nil, List.zip_cons_cons, List.zip_nil_left, List.append_nil, List.nil_append, List.cons_append, List.length_cons, List.length_nil, Nat.reduceAdd, UInt8.reduceOfNat, UInt16.reduceOfNat, UInt32.reduceOfNat, UInt64.reduceOfNat, UInt64.reduceToNat, UInt32.reduceToNat, UInt16.reduceToNat, UInt8.reduceToNat, Int.reduceAdd, Int.reduceSub, Int.reduceMul, Nat.reduceMul, ne_eq, eq_self, Option.isNone_some, Option.isNone_none, List.length_set, List.length_replicate, List.getElem?_cons_zero, List.getElem?_cons_succ, Qp0, Qe0, gt_iff_lt, hb1, hb2, hb3, hb4, hb5, rd_M, rdM_some, hmp1]
  refine PW_loopL (fun n f h' => ∃ i : Nat, n + i = z_l.length ∧ f 0 = some (.slice A_l z_l.length c_l) ∧ f 1 = some (.int .i64 k) ∧ f 5 = some (.pointer (some ⟨pb, 0, none⟩)) ∧ f 45 = some (.slice A_l z_l.length c_l) ∧ f 46 = some (.int .i64 z_l.length) ∧ f 47 = some (.int .i64 i) ∧ PH.Le h1 h' ∧ ∀ q ∈ z_l.take i, q.1.length ≤ 60 ∧ q.2.length ≤ 60 ∧ q.1 ≠ p.1) (by kernel_rfl) z_l.length ⟨0, by omega, ?_, ?_, ?_, ?_, ?_, ?_, PH.Le.refl _, by simp⟩ ?_
  · simp -dsimp -implicitDefEqProofs (disch := first | omega | assumption | (simp only [Option.isSome_some, Qt0]; done) | (simp only [UInt64.reduceToNat, UInt32.reduceToNat, UInt8.reduceToNat, List.length_cons, List.length_nil, List.length_append, Int.toNat_natCast] <;> omega)) only [Nat.reduceLT, Nat.reduceLeDiff, Nat.reduceEqDiff, ↓reduceIte, beq_self_eq_true, List.getD_cons_zero, List.getD_cons_succ, Int.reduceLT, Int.reduceLE, Int.reduceToNat, Int.reduceEq, Int.reduceNe, Option.bind_some, List.map_cons, List.map_nil, List.zip_cons_cons, List.zip_nil_left, List.append_nil, List.nil_append, List.cons_append, List.length_cons, List.length_nil, Nat.reduceAdd, UInt8.reduceOfNat, UInt16.reduceOfNat, UInt32.reduceOfNat, UInt64.reduceOfNat, UInt64.reduceToNat, UInt32.reduceToNat, UInt16.reduceToNat, UInt8.reduceToNat, Int.reduceAdd, Int.reduceSub, Int.reduceMul, Nat.reduceMul, ne_eq, eq_self, Option.isNone_some, Option.isNone_none, List.length_set, List.length_replicate, List.getElem?_cons_zero, List.getElem?_cons_succ, Qp0, Qe0]
  · simp -dsimp -implicitDefEqProofs (disch := first | omega | assumption | (simp only [Option.isSome_some, Qt0]; done) | (simp only [UInt64.reduceToNat, UInt32.reduceToNat, UInt8.reduceToNat, List.length_cons, List.length_nil, List.length_append, Int.toNat_natCast] <;> omega)) only [Nat.reduceLT, Nat.reduceLeDiff, Nat.reduceEqDiff, ↓reduceIte, beq_self_eq_true, List.getD_cons_zero, List.getD_cons_succ, Int.reduceLT, Int.reduceLE, Int.reduceToNat, Int.reduceEq, Int.reduceNe, Option.bind_some, List.map_cons, List.map_nil, List.zip_cons_cons, List.zip_nil_left, List.append_nil, List.nil_append, List.cons_append, List.length_cons, List.length_nil, Nat.reduceAdd, UInt8.reduceOfNat, UInt16.reduceOfNat, UInt32.reduceOfNat, UInt64.reduceOfNat, UInt64.reduceToNat, UInt32.reduceToNat, UInt16.reduceToNat, UInt8.reduceToNat, Int.reduceAdd, Int.reduceSub, Int.reduceMul, Nat.reduceMul, ne_eq, eq_self, Option.isNone_some, Option.isNone_none, List.length_set, List.length_replicate, List.getElem?_cons_zero, List.getElem?_cons_succ, Qp0, Qe0]
  · simp -dsimp -implicitDefEqProofs (disch := first | omega | assumption | (simp only [Option.isSome_some, Qt0]; done) | (simp only [UInt64.reduceToNat, UInt32.reduceToNat, UInt8.reduceToNat, List.length_cons, List.length_nil, List.length_append, Int.toNat_natCast] <;> omega)) only [Nat.reduceLT, Nat.reduceLeDiff, Nat.reduceEqDiff, ↓reduceIte, beq_self_eq_true, List.getD_cons_zero, List.getD_cons_succ, Int.reduceLT, Int.reduceLE, Int.reduceToNat, Int.reduceEq, Int.reduceNe, Option.bind_some, List.map_cons, List.map_nil, List.zip_cons_cons, List.zip_nil_left, List.append_nil, List.nil_append, List.cons_append, List.length_cons, List.length_nil, Nat.reduceAdd, UInt8.reduceOfNat, UInt16.reduceOfNat, UInt32.reduceOfNat, UInt64.reduceOfNat, UInt64.reduceToNat, UInt32.reduceToNat, UInt16.reduceToNat, UInt8.reduceToNat, Int.reduceAdd, Int.reduceSub, Int.reduceMul, Nat.reduceMul, ne_eq, eq_self, Option.isNone_some, Option.isNone_none, List.length_set, List.length_replicate, List.getElem?_cons_zero, List.getElem?_cons_succ, Qp0, Qe0]
  · simp -dsimp -implicitDefEqProofs (disch := first | omega | assumption | (simp only [Option.isSome_some, Qt0]; done) | (simp only [UInt64.reduceToNat, UInt32.reduceToNat, UInt8.reduceToNat, List.length_cons, List.length_nil, List.length_append, Int.toNat_natCast] <;> omega)) only [Nat.reduceLT, Nat.reduceLeDiff, Nat.reduceEqDiff, ↓reduceIte, beq_self_eq_true, List.getD_cons_zero, List.getD_cons_succ, Int.reduceLT, Int.reduceLE, Int.reduceToNat, Int.reduceEq, Int.reduceNe, Option.bind_some, List.map_cons, List.map_nil, List.zip_cons_cons, List.zip_nil_left, List.append_nil, List.nil_append, List.cons_append, List.length_cons, List.length_nil, Nat.reduceAdd, UInt8.reduceOfNat, UInt16.reduceOfNat, UInt32.reduceOfNat, UInt64.reduceOfNat, UInt64.reduceToNat, UInt32.reduceToNat, UInt16.reduceToNat, UInt8.reduceToNat, Int.reduceAdd, Int.reduceSub, Int.reduceMul, Nat.reduceMul, ne_eq, eq_self, Option.isNone_some, Option.isNone_none, List.length_set, List.length_replicate, List.getElem?_cons_zero, List.getElem?_cons_succ, Qp0, Qe0]
  · simp -dsimp -implicitDefEqProofs (disch := first | omega | assumption | (simp only [Option.isSome_some, Qt0]; done) | (simp only [UInt64.reduceToNat, UInt32.reduceToNat, UInt8.reduceToNat, List.length_cons, List.length_nil, List.length_append, Int.toNat_natCast] <;> omega)) only [Nat.reduceLT, Nat.reduceLeDiff, Nat.reduceEqDiff, ↓reduceIte, beq_self_eq_true, List.getD_cons_zero, List.getD_cons_succ, Int.reduceLT, Int.reduceLE, Int.reduceToNat, Int.reduceEq, Int.reduceNe, Option.bind_some, List.map_cons, List.map_nil, List.zip_cons_cons, List.zip_nil_left, List.append_nil, List.nil_append, List.cons_append, List.length_cons, List.length_nil, Nat.reduceAdd, UInt8.reduceOfNat, UInt16.reduceOfNat, UInt32.reduceOfNat, UInt64.reduceOfNat, UInt64.reduceToNat, UInt32.reduceToNat, UInt16.reduceToNat, UInt8.reduceToNat, Int.reduceAdd, Int.reduceSub, Int.reduceMul, Nat.reduceMul, ne_eq, eq_self, Option.isNone_some, Option.isNone_none, List.length_set, List.length_replicate, List.getElem?_cons_zero, List.getElem?_cons_succ, Qp0, Qe0]
  · simp -dsimp -implicitDefEqProofs (disch := first | omega | assumption | (simp only [Option.isSome_some, Qt0]; done) | (simp only [UInt64.reduceToNat, UInt32.reduceToNat, UInt8.reduceToNat, List.length_cons, List.length_nil, List.length_append, Int.toNat_natCast] <;> omega)) only [Nat.reduceLT, Nat.reduceLeDiff, Nat.reduceEqDiff, ↓reduceIte, beq_self_eq_true, List.getD_cons_zero, List.getD_cons_succ, Int.reduceLT, Int.reduceLE, Int.reduceToNat, Int.reduceEq, Int.reduceNe, Option.bind_some, List.map_cons, List.map_nil, List.zip_cons_cons, List.zip_nil_left, List.append_nil, List.nil_append, List.cons_append, List.length_cons, List.length_nil, Nat.reduceAdd, UInt8.reduceOfNat, UInt16.reduceOfNat, UInt32.reduceOfNat, UInt64.reduceOfNat, UInt64.reduceToNat, UInt32.reduceToNat, UInt16.reduceToNat, UInt8.reduceToNat, Int.reduceAdd, Int.reduceSub, Int.reduceMul, Nat.reduceMul, ne_eq, eq_self, Option.isNone_some, Option.isNone_none, List.length_set, List.length_replicate, List.getElem?_cons_zero, List.getElem?_cons_succ, Qp0, Qe0]
    try rfl
  rintro n f h' ⟨i, hni, f0, f1, f5, f45, f46, f47, hle, hsm⟩ hl'
  by_cases hi : i < z_l.length
  · have e1 : decide ((i : Int) < (z_l.length : Int)) = true := decide_eq_true (by omega)
    obtain ⟨q, hqi⟩ : ∃ q, z_l[i]? = some q := ⟨_, List.getElem?_eq_getElem hi⟩
    have hp' := Prs_of_rv hr_l h'
    obtain ⟨b, o, rfl⟩ := hp'.addr (by omega)
    have hrd := hp'.get hl' hqi
    have ha : allOne [str q.1, str q.2] := prs_one [q]
    simp -dsimp -implicitDefEqProofs (disch := first | omega | assumption | (simp only [Option.isSome_some, Qt0]; done) | (simp only [UInt64.reduceToNat, UInt32.reduceToNat, UInt8.reduceToNat, List.length_cons, List.length_nil, List.length_append, Int.toNat_natCast] <;> omega)) only [Nat.reduceLT, Nat.reduceLeDiff, Nat.reduceEqDiff, ↓reduceIte, beq_self_eq_true, List.getD_cons_zero, List.getD_cons_succ, Int.reduceLT, Int.reduceLE, Int.reduceToNat, Int.reduceEq, Int.reduceNe, Option.bind_some, List.map_cons, List.map_nil, List.zip_cons_cons, List.zip_nil_left, List.append_nil, List.nil_append, List.cons_append, List.length_cons, List.length_nil, Nat.reduceAdd, UInt8.reduceOfNat, UInt16.reduceOfNat, UInt32.reduceOfNat, UInt64.reduceOfNat, UInt64.reduceToNat, UInt32.reduceToNat, UInt16.reduceToNat, UInt8.reduceToNat, Int.reduceAdd, Int.reduceSub, Int.reduceMul, Nat.reduceMul, ne_eq, eq_self, Option.isNone_some, Option.isNone_none, List.length_set, List.length_replicate, List.getElem?_cons_zero, List.getElem?_cons_succ, Qp0, Qe0, f0, f1, f5, f45, f46, f47, e1, hrd]
    refine fun xb hxb => ?_
    have hlx := (PH.Le.refl h').new xb ⟨[str q.1, str q.2], 2⟩ hxb
    have hmx : (h'.new xb ⟨[str q.1, str q.2], 2⟩).m xb = some ⟨[str q.1, str q.2], 2⟩ := by rw [PH.new_m, if_pos rfl]
    have hmpx := hlx.m _ _ (hle.m _ _ hmp1)
    simp -dsimp -implicitDefEqProofs (disch := first | omega | assumption | (simp only [Option.isSome_some, Qt0]; done) | (simp only [UInt64.reduceToNat, UInt32.reduceToNat, UInt8.reduceToNat, List.length_cons, List.length_nil, List.length_append, Int.toNat_natCast] <;> omega)) only [Nat.reduceLT, Nat.reduceLeDiff, Nat.reduceEqDiff, ↓reduceIte, beq_self_eq_true, List.getD_cons_zero, List.getD_cons_succ, Int.reduceLT, Int.reduceLE, Int.reduceToNat, Int.reduceEq, Int.reduceNe, Option.bind_some, List.map_cons, List.map_nil, List.zip_cons_cons, List.zip_nil_left, List.append_nil, List.nil_append, List.cons_append, List.length_cons, List.length_nil, Nat.reduceAdd, UInt8.reduceOfNat, UInt16.reduceOfNat, UInt32.reduceOfNat, UInt64.reduceOfNat, UInt64.reduceToNat, UInt32.reduceToNat, UInt16.reduceToNat, UInt8.reduceToNat, Int.reduceAdd, Int.reduceSub, Int.reduceMul, Nat.reduceMul, ne_eq, eq_self, Option.isNone_some, Option.isNone_none, List.length_set, List.length_replicate, List.getElem?_cons_zero, List.getElem?_cons_succ, Qp0, Qe0, List.set_cons_zero, List.set_cons_succ, List.take_zero, List.drop_succ_cons, List.drop_zero, List.drop_nil, List.nil_append, List.append_nil, List.take_succ_cons, ite_true, PH.new_new]
    generalize h'.new xb ⟨[str q.1, str q.2], 2⟩ = g at *
    obtain ⟨c1, hc1⟩ : ∃ b, decide (60 < (q.1.length : Int)) = b := ⟨_, rfl⟩
    obtain ⟨c2, hc2⟩ : ∃ b, decide (60 < (q.2.length : Int)) = b := ⟨_, rfl⟩
    obtain ⟨c3, hc3⟩ : ∃ b, decide (q.1 = p.1) = b := ⟨_, rfl⟩
    cases c1
    cases c2
    cases c3
    · have j1 := of_decide_eq_false hc1
      have j2 := of_decide_eq_false hc2
      have j3 := of_decide_eq_false hc3
      simp -dsimp -implicitDefEqProofs (disch := first | omega | assumption | (simp only [Option.isSome_some, Qt0]; done) | (simp only [UInt64.reduceToNat, UInt32.reduceToNat, UInt8.reduceToNat, List.length_cons, List.length_nil, List.length_append, Int.toNat_natCast] <;> omega)) only [Nat.reduceLT, Nat.reduceLeDiff, Nat.reduceEqDiff, ↓reduceIte, beq_self_eq_true, List.getD_cons_zero, List.getD_cons_succ, Int.reduceLT, Int.reduceLE, Int.reduceToNat, Int.reduceEq, Int.reduceNe, Option.bind_some, List.map_cons, List.map_nil, List.zip_cons_cons, List.zip_nil_left, List.append_nil, List.nil_append, List.cons_append, List.length_cons, List.length_nil, Nat.reduceAdd, UInt8.reduceOfNat, UInt16.reduceOfNat, UInt32.reduceOfNat, UInt64.reduceOfNat, UInt64.reduceToNat, UInt32.reduceToNat, UInt16.reduceToNat, UInt8.reduceToNat, Int.reduceAdd, Int.reduceSub, Int.reduceMul, Nat.reduceMul, ne_eq, eq_self, Option.isNone_some, Option.isNone_none, List.length_set, List.length_replicate, List.getElem?_cons_zero, List.getElem?_cons_succ, Qp0, Qe0, gt_iff_lt, f0, f1, f5, f45, f46, f47, hc1, hc2, hc3, rd_M, rdM_some, hmx, hmpx]
      refine ⟨n - 1, _, by omega, PH.Le.refl _, i + 1, by omega, by trivial, by trivial, by trivial, by trivial, by trivial, by simp, hle.trans hlx, fun x hx => ?_⟩
      rw [List.take_add_one, hqi] at hx
      rcases List.mem_append.1 hx with hx | hx
      · exact hsm x hx
      · simp only [Option.toList_some, List.mem_singleton] at hx
        subst hx
        exact ⟨by omega, by omega, j3⟩
    all_goals
      simp -dsimp -implicitDefEqProofs (disch := first | omega | assumption | (simp only [Option.isSome_some, Qt0]; done) | (simp only [UInt64.reduceToNat, UInt32.reduceToNat, UInt8.reduceToNat, List.length_cons, List.length_nil, List.length_append, Int.toNat_natCast] <;> omega)) only [Nat.reduceLT, Nat.reduceLeDiff, Nat.reduceEqDiff, ↓reduceIte, beq_self_eq_true, List.getD_cons_zero, List.getD_cons_succ, Int.reduceLT, Int.reduceLE, Int.reduceToNat, Int.reduceEq, Int.reduceNe, Option.bind_some, List.map_cons, List.map_nil, List.zip_cons_cons, List.zip_nil_left, List.append_nil, List.nil_append, List.cons_append, List.length_cons, List.length_nil, Nat.reduceAdd, UInt8.reduceOfNat, UInt16.reduceOfNat, UInt32.reduceOfNat, UInt64.reduceOfNat, UInt64.reduceToNat, UInt32.reduceToNat, UInt16.reduceToNat, UInt8.reduceToNat, Int.reduceAdd, Int.reduceSub, Int.reduceMul, Nat.reduceMul, ne_eq, eq_self, Option.isNone_some, Option.isNone_none, List.length_set, List.length_replicate, List.getElem?_cons_zero, List.getElem?_cons_succ, Qp0, Qe0, gt_iff_lt, f0, f1, f5, f45, f46, f47, hc1, hc2, hc3, rd_M, rdM_some, hmx, hmpx]
      exact ⟨_, (hl01.trans hle).trans hlx, by simp⟩
  · have e1 : decide ((i : Int) < (z_l.length : Int)) = false := decide_eq_false (by omega)
    rw [List.take_of_length_le (by omega)] at hsm
    have hmpq := hle.m _ _ hmp1
    have hrdp : rdN w h' ⟨pb, 0, none⟩ 2 = some [str p.1, str p.2] := by unfold rdN; simp only [hmpq]; rfl
    obtain ⟨X, hX⟩ : ∃ X, z_l.take k = X := ⟨_, rfl⟩
    obtain ⟨Y, hY⟩ : ∃ Y, z_l.drop k = Y := ⟨_, rfl⟩
    have hXY : X ++ Y = z_l := by rw [← hX, ← hY, List.take_append_drop]
    have hXl : X.length = k := by rw [← hX, List.length_take]; omega
    have hYl : Y.length = z_l.length - k := by rw [← hY, List.length_drop]
    have hto := fun K : Value → Prop => y_toPr A_l z_l.length c_l .i64 k (by omega) (K := K)
    obtain ⟨A', c', hfrom, hAf⟩ := y_fromPr A_l z_l.length c_l k hk hc_l (by
      rcases Nat.eq_zero_or_pos z_l.length with h0 | h0
      · exact .inl h0
      · exact .inr ((hr_l h').addr (by rw [prs_length]; omega)))
    have hrz : ∀ q, Rv w q A_l (prs X ++ prs Y) := fun q => by rw [← prs_app, hXY]; exact hr_l q
    have hRX : ∀ q, Low w q → Rs w q 2 A_l k (prs X) := fun q lq => (Rv_left (hrz q)).rs lq (by rw [prs_length, hXl]) (by omega)
    have hRY : ∀ q, Low w q → Rs w q 2 A' (z_l.length - k) (prs Y) := fun q lq => by
      rcases Nat.lt_or_ge k z_l.length with hlt | hge
      · obtain ⟨b, o, hA1, hA2⟩ := hAf hlt
        have h5 := hrz q
        rw [hA1] at h5
        have h6 := Rv_right h5
        rw [prs_length, hXl] at h6
        rw [hA2]
        exact h6.rs lq (by rw [prs_length, hYl]) (by omega)
      · exact ⟨by rw [prs_length, hYl], fun h => absurd h (by omega)⟩
    have hMl' : z_l.length + 1 = k + 1 + (z_l.length - k) := by omega
    simp -dsimp -implicitDefEqProofs (disch := first | omega | assumption | (simp only [Option.isSome_some, Qt0]; done) | (simp only [UInt64.reduceToNat, UInt32.reduceToNat, UInt8.reduceToNat, List.length_cons, List.length_nil, List.length_append, Int.toNat_natCast] <;> omega)) only [Nat.reduceLT, Nat.reduceLeDiff, Nat.reduceEqDiff, ↓reduceIte, beq_self_eq_true, List.getD_cons_zero, List.getD_cons_succ, Int.reduceLT, Int.reduceLE, Int.reduceToNat, Int.reduceEq, Int.reduceNe, Option.bind_some, List.map_cons, List.map_nil, List.zip_cons_cons, List.zip_nil_left, List.append_nil, List.nil_append, List.cons_append, List.length_cons, List.length_nil, Nat.reduceAdd, UInt8.reduceOfNat, UInt16.reduceOfNat, UInt32.reduceOfNat, UInt64.reduceOfNat, UInt64.reduceToNat, UInt32.reduceToNat, UInt16.reduceToNat, UInt8.reduceToNat, Int.reduceAdd, Int.reduceSub, Int.reduceMul, Nat.reduceMul, ne_eq, eq_self, Option.isNone_some, Option.isNone_none, List.length_set, List.length_replicate, List.getElem?_cons_zero, List.getElem?_cons_succ, Qp0, Qe0, f0, f1, f5, f45, f46, f47, e1]
    refine PW_mono (Q := fun e f2 q => e = .normal ∧ ∃ v, f2 9 = some v ∧ f2 0 = some (.slice A_l z_l.length c_l) ∧ f2 5 = some (.pointer (some ⟨pb, 0, none⟩)) ∧ OwnS h' q 2 v (z_l.length + 1) (prs (X ++ [p] ++ Y))) (PW_tree (.take 1 (.take 2 (.take 3 (.take 5 (.take 8 (.take 9 (.take 10 (.both 0 (.both 4 (.take 6 (.take 7 (.take 11 (.take 12 .done)))) 6 (.take 4 (.take 7 (.take 11 (.take 12 .done))))) 6 (.take 0 (.take 4 (.take 7 (.take 11 (.take 12 .done))))))))))))) h' (by kernel_rfl) (by decide +kernel) (by kernel_rfl) (by kernel_rfl) (by kernel_rfl) (fun c f h hq => by cases hq.1) (PH.Le.refl _).sub ?_) ?_
    · simp -dsimp -implicitDefEqProofs (disch := first | omega | assumption | (simp only [Option.isSome_some, Qt0]; done) | (simp only [UInt64.reduceToNat, UInt32.reduceToNat, UInt8.reduceToNat, List.length_cons, List.length_nil, List.length_append, Int.toNat_natCast] <;> omega)) only [Nat.reduceLT, Nat.reduceLeDiff, Nat.reduceEqDiff, ↓reduceIte, beq_self_eq_true, List.getD_cons_zero, List.getD_cons_succ, Int.reduceLT, Int.reduceLE, Int.reduceToNat, Int.reduceEq, Int.reduceNe, Option.bind_some, List.map_cons, List.map_nil, List.zip_cons_cons, List.zip_nil_left, List.append_nil, List.nil_append, List.cons_append, List.length_cons, List.length_nil, Nat.reduceAdd, UInt8.reduceOfNat, UInt16.reduceOfNat, UInt32.reduceOfNat, UInt64.reduceOfNat, UInt64.reduceToNat, UInt32.reduceToNat, UInt16.reduceToNat, UInt8.reduceToNat, Int.reduceAdd, Int.reduceSub, Int.reduceMul, Nat.reduceMul, ne_eq, eq_self, Option.isNone_some, Option.isNone_none, List.length_set, List.length_replicate, List.getElem?_cons_zero, List.getElem?_cons_succ, Qp0, Qe0, vcTS_done, vcTS_take, vcTS_both, vcTO_some, vcTL_some, f0, f1, f5, rd_M, rdM_some, hmpq, hrdp, hto, hfrom]
      refine ⟨?_, ?_⟩
      · refine Does_low (Does_zero el_pr fun zb hzb hlz => ?_)
        have how0 := OwnS.zero (h := h') 2 hzb
        refine ⟨how0.le.sub, ?_⟩
        simp -dsimp -implicitDefEqProofs (disch := first | omega | assumption | (simp only [Option.isSome_some, Qt0]; done) | (simp only [UInt64.reduceToNat, UInt32.reduceToNat, UInt8.reduceToNat, List.length_cons, List.length_nil, List.length_append, Int.toNat_natCast] <;> omega)) only [Nat.reduceLT, Nat.reduceLeDiff, Nat.reduceEqDiff, ↓reduceIte, beq_self_eq_true, List.getD_cons_zero, List.getD_cons_succ, Int.reduceLT, Int.reduceLE, Int.reduceToNat, Int.reduceEq, Int.reduceNe, Option.bind_some, List.map_cons, List.map_nil, List.zip_cons_cons, List.zip_nil_left, List.append_nil, List.nil_append, List.cons_append, List.length_cons, List.length_nil, Nat.reduceAdd, UInt8.reduceOfNat, UInt16.reduceOfNat, UInt32.reduceOfNat, UInt64.reduceOfNat, UInt64.reduceToNat, UInt32.reduceToNat, UInt16.reduceToNat, UInt8.reduceToNat, Int.reduceAdd, Int.reduceSub, Int.reduceMul, Nat.reduceMul, ne_eq, eq_self, Option.isNone_some, Option.isNone_none, List.length_set, List.length_replicate, List.getElem?_cons_zero, List.getElem?_cons_succ, Qp0, Qe0, vcTS_done, vcTS_take, vcTS_both, vcTO_some, vcTL_some, f0, f1, f5, rd_M, rdM_some, hmpq, hrdp, hto, hfrom]
        refine ⟨?_, ?_⟩
        · refine Does_app2 el_pr how0.own (hRX _ hlz) (prs_one X) (by unfold maxLen; omega) (by omega) (fun v1 q1 ho1 hst1 hsub1 => ?_)
          rw [Nat.zero_add, List.nil_append] at ho1
          have how1 := how0.stays hst1 ho1
          refine ⟨how1.le.sub, ?_⟩
          simp -dsimp -implicitDefEqProofs (disch := first | omega | assumption | (simp only [Option.isSome_some, Qt0]; done) | (simp only [UInt64.reduceToNat, UInt32.reduceToNat, UInt8.reduceToNat, List.length_cons, List.length_nil, List.length_append, Int.toNat_natCast] <;> omega)) only [Nat.reduceLT, Nat.reduceLeDiff, Nat.reduceEqDiff, ↓reduceIte, beq_self_eq_true, List.getD_cons_zero, List.getD_cons_succ, Int.reduceLT, Int.reduceLE, Int.reduceToNat, Int.reduceEq, Int.reduceNe, Option.bind_some, List.map_cons, List.map_nil, List.zip_cons_cons, List.zip_nil_left, List.append_nil, List.nil_append, List.cons_append, List.length_cons, List.length_nil, Nat.reduceAdd, UInt8.reduceOfNat, UInt16.reduceOfNat, UInt32.reduceOfNat, UInt64.reduceOfNat, UInt64.reduceToNat, UInt32.reduceToNat, UInt16.reduceToNat, UInt8.reduceToNat, Int.reduceAdd, Int.reduceSub, Int.reduceMul, Nat.reduceMul, ne_eq, eq_self, Option.isNone_some, Option.isNone_none, List.length_set, List.length_replicate, List.getElem?_cons_zero, List.getElem?_cons_succ, Qp0, Qe0, vcTS_done, vcTS_take, vcTS_both, vcTO_some, vcTL_some, f0, f1, f5, rd_M, rdM_some, hmpq, hrdp, hto, hfrom]
          refine Does_one (v := .agg #[str p.1, str p.2]) el_pr rfl (by omega) fun gb hgb => ?_
          have hlg := (PH.Le.refl q1).new gb ⟨[str p.1, str p.2], 2⟩ hgb
          have how1 := how1.more hlg
          have hgbm : (q1.new gb ⟨[str p.1, str p.2], 2⟩).m gb = some ⟨[str p.1, str p.2], 2⟩ := by rw [PH.new_m, if_pos rfl]
          refine ⟨how1.le.sub, ?_⟩
          simp -dsimp -implicitDefEqProofs (disch := first | omega | assumption | (simp only [Option.isSome_some, Qt0]; done) | (simp only [UInt64.reduceToNat, UInt32.reduceToNat, UInt8.reduceToNat, List.length_cons, List.length_nil, List.length_append, Int.toNat_natCast] <;> omega)) only [Nat.reduceLT, Nat.reduceLeDiff, Nat.reduceEqDiff, ↓reduceIte, beq_self_eq_true, List.getD_cons_zero, List.getD_cons_succ, Int.reduceLT, Int.reduceLE, Int.reduceToNat, Int.reduceEq, Int.reduceNe, Option.bind_some, List.map_cons, List.map_nil, List.zip_cons_cons, List.zip_nil_left, List.append_nil, List.nil_append, List.cons_append, List.length_cons, List.length_nil, Nat.reduceAdd, UInt8.reduceOfNat, UInt16.reduceOfNat, UInt32.reduceOfNat, UInt64.reduceOfNat, UInt64.reduceToNat, UInt32.reduceToNat, UInt16.reduceToNat, UInt8.reduceToNat, Int.reduceAdd, Int.reduceSub, Int.reduceMul, Nat.reduceMul, ne_eq, eq_self, Option.isNone_some, Option.isNone_none, List.length_set, List.length_replicate, List.getElem?_cons_zero, List.getElem?_cons_succ, Qp0, Qe0, vcTS_done, vcTS_take, vcTS_both, vcTO_some, vcTL_some, f0, f1, f5, rd_M, rdM_some, hmpq, hrdp, hto, hfrom]
          refine Does_low (Does_app2 el_pr how1.own (Rs.blk hgbm rfl) (prs_one [p]) (by unfold maxLen; omega) (by omega) (fun v2 q2 ho2 hst2 hsub2 hlow2 => ?_))
          have how2 := how1.stays hst2 ho2
          refine ⟨how2.le.sub, ?_⟩
          simp -dsimp -implicitDefEqProofs (disch := first | omega | assumption | (simp only [Option.isSome_some, Qt0]; done) | (simp only [UInt64.reduceToNat, UInt32.reduceToNat, UInt8.reduceToNat, List.length_cons, List.length_nil, List.length_append, Int.toNat_natCast] <;> omega)) only [Nat.reduceLT, Nat.reduceLeDiff, Nat.reduceEqDiff, ↓reduceIte, beq_self_eq_true, List.getD_cons_zero, List.getD_cons_succ, Int.reduceLT, Int.reduceLE, Int.reduceToNat, Int.reduceEq, Int.reduceNe, Option.bind_some, List.map_cons, List.map_nil, List.zip_cons_cons, List.zip_nil_left, List.append_nil, List.nil_append, List.cons_append, List.length_cons, List.length_nil, Nat.reduceAdd, UInt8.reduceOfNat, UInt16.reduceOfNat, UInt32.reduceOfNat, UInt64.reduceOfNat, UInt64.reduceToNat, UInt32.reduceToNat, UInt16.reduceToNat, UInt8.reduceToNat, Int.reduceAdd, Int.reduceSub, Int.reduceMul, Nat.reduceMul, ne_eq, eq_self, Option.isNone_some, Option.isNone_none, List.length_set, List.length_replicate, List.getElem?_cons_zero, List.getElem?_cons_succ, Qp0, Qe0, vcTS_done, vcTS_take, vcTS_both, vcTO_some, vcTL_some, f0, f1, f5, rd_M, rdM_some, hmpq, hrdp, hto, hfrom]
          refine Does_app2 el_pr how2.own (hRY q2 hlow2) (prs_one Y) (by unfold maxLen; omega) (by omega) (fun v3 q3 ho3 hst3 hsub3 => ?_)
          have how3 := how2.stays hst3 ho3
          refine ⟨how3.le.sub, ?_⟩
          simp -dsimp -implicitDefEqProofs (disch := first | omega | assumption | (simp only [Option.isSome_some, Qt0]; done) | (simp only [UInt64.reduceToNat, UInt32.reduceToNat, UInt8.reduceToNat, List.length_cons, List.length_nil, List.length_append, Int.toNat_natCast] <;> omega)) only [Nat.reduceLT, Nat.reduceLeDiff, Nat.reduceEqDiff, ↓reduceIte, beq_self_eq_true, List.getD_cons_zero, List.getD_cons_succ, Int.reduceLT, Int.reduceLE, Int.reduceToNat, Int.reduceEq, Int.reduceNe, Option.bind_some, List.map_cons, List.map_nil, List.zip_cons_cons, List.zip_nil_left, List.append_nil, List.nil_append, List.cons_append, List.length_cons, List.length_nil, Nat.reduceAdd, UInt8.reduceOfNat, UInt16.reduceOfNat, UInt32.reduceOfNat, UInt64.reduceOfNat, UInt64.reduceToNat, UInt32.reduceToNat, UInt16.reduceToNat, UInt8.reduceToNat, Int.reduceAdd, Int.reduceSub, Int.reduceMul, Nat.reduceMul, ne_eq, eq_self, Option.isNone_some, Option.isNone_none, List.length_set, List.length_replicate, List.getElem?_cons_zero, List.getElem?_cons_succ, Qp0, Qe0, vcTS_done, vcTS_take, vcTS_both, vcTO_some, vcTL_some, f0, f1, f5, rd_M, rdM_some, hmpq, hrdp, hto, hfrom]
          exact ⟨by trivial, v3, by simp, by simp [f0], by simp [f5], by rw [hMl', prs_app, prs_app]; exact how3⟩
        · refine Does_low (Does_one (v := .agg #[str p.1, str p.2]) el_pr rfl (by omega) fun gb hgb hlg0 => ?_)
          have hlg := (PH.Le.refl (h'.new zb ⟨[], 0⟩)).new gb ⟨[str p.1, str p.2], 2⟩ hgb
          have how0 := how0.more hlg
          have hgbm0 : ((h'.new zb ⟨[], 0⟩).new gb ⟨[str p.1, str p.2], 2⟩).m gb = some ⟨[str p.1, str p.2], 2⟩ := by rw [PH.new_m, if_pos rfl]
          refine ⟨how0.le.sub, ?_⟩
          simp -dsimp -implicitDefEqProofs (disch := first | omega | assumption | (simp only [Option.isSome_some, Qt0]; done) | (simp only [UInt64.reduceToNat, UInt32.reduceToNat, UInt8.reduceToNat, List.length_cons, List.length_nil, List.length_append, Int.toNat_natCast] <;> omega)) only [Nat.reduceLT, Nat.reduceLeDiff, Nat.reduceEqDiff, ↓reduceIte, beq_self_eq_true, List.getD_cons_zero, List.getD_cons_succ, Int.reduceLT, Int.reduceLE, Int.reduceToNat, Int.reduceEq, Int.reduceNe, Option.bind_some, List.map_cons, List.map_nil, List.zip_cons_cons, List.zip_nil_left, List.append_nil, List.nil_append, List.cons_append, List.length_cons, List.length_nil, Nat.reduceAdd, UInt8.reduceOfNat, UInt16.reduceOfNat, UInt32.reduceOfNat, UInt64.reduceOfNat, UInt64.reduceToNat, UInt32.reduceToNat, UInt16.reduceToNat, UInt8.reduceToNat, Int.reduceAdd, Int.reduceSub, Int.reduceMul, Nat.reduceMul, ne_eq, eq_self, Option.isNone_some, Option.isNone_none, List.length_set, List.length_replicate, List.getElem?_cons_zero, List.getElem?_cons_succ, Qp0, Qe0, vcTS_done, vcTS_take, vcTS_both, vcTO_some, vcTL_some, f0, f1, f5, rd_M, rdM_some, hmpq, hrdp, hto, hfrom]
          refine Does_app2 el_pr how0.own (hRX _ hlg0) (prs_one X) (by unfold maxLen; omega) (by omega) (fun v1 q1 ho1 hst1 hsub1 => ?_)
          rw [Nat.zero_add, List.nil_append] at ho1
          have how1 := how0.stays hst1 ho1
          have hgbm := hst1.keep gb _ hgbm0 (fun e => by
            have e : some zb = some gb := e
            injection e with e
            simp only [PH.new_top] at hgb
            omega)
          refine ⟨how1.le.sub, ?_⟩
          simp -dsimp -implicitDefEqProofs (disch := first | omega | assumption | (simp only [Option.isSome_some, Qt0]; done) | (simp only [UInt64.reduceToNat, UInt32.reduceToNat, UInt8.reduceToNat, List.length_cons, List.length_nil, List.length_append, Int.toNat_natCast] <;> omega)) only [Nat.reduceLT, Nat.reduceLeDiff, Nat.reduceEqDiff, ↓reduceIte, beq_self_eq_true, List.getD_cons_zero, List.getD_cons_succ, Int.reduceLT, Int.reduceLE, Int.reduceToNat, Int.reduceEq, Int.reduceNe, Option.bind_some, List.map_cons, List.map_nil, List.zip_cons_cons, List.zip_nil_left, List.append_nil, List.nil_append, List.cons_append, List.length_cons, List.length_nil, Nat.reduceAdd, UInt8.reduceOfNat, UInt16.reduceOfNat, UInt32.reduceOfNat, UInt64.reduceOfNat, UInt64.reduceToNat, UInt32.reduceToNat, UInt16.reduceToNat, UInt8.reduceToNat, Int.reduceAdd, Int.reduceSub, Int.reduceMul, Nat.reduceMul, ne_eq, eq_self, Option.isNone_some, Option.isNone_none, List.length_set, List.length_replicate, List.getElem?_cons_zero, List.getElem?_cons_succ, Qp0, Qe0, vcTS_done, vcTS_take, vcTS_both, vcTO_some, vcTL_some, f0, f1, f5, rd_M, rdM_some, hmpq, hrdp, hto, hfrom]
          refine Does_low (Does_app2 el_pr how1.own (Rs.blk hgbm rfl) (prs_one [p]) (by unfold maxLen; omega) (by omega) (fun v2 q2 ho2 hst2 hsub2 hlow2 => ?_))
          have how2 := how1.stays hst2 ho2
          refine ⟨how2.le.sub, ?_⟩
          simp -dsimp -implicitDefEqProofs (disch := first | omega | assumption | (simp only [Option.isSome_some, Qt0]; done) | (simp only [UInt64.reduceToNat, UInt32.reduceToNat, UInt8.reduceToNat, List.length_cons, List.length_nil, List.length_append, Int.toNat_natCast] <;> omega)) only [Nat.reduceLT, Nat.reduceLeDiff, Nat.reduceEqDiff, ↓reduceIte, beq_self_eq_true, List.getD_cons_zero, List.getD_cons_succ, Int.reduceLT, Int.reduceLE, Int.reduceToNat, Int.reduceEq, Int.reduceNe, Option.bind_some, List.map_cons, List.map_nil, List.zip_cons_cons, List.zip_nil_left, List.append_nil, List.nil_append, List.cons_append, List.length_cons, List.length_nil, Nat.reduceAdd, UInt8.reduceOfNat, UInt16.reduceOfNat, UInt32.reduceOfNat, UInt64.reduceOfNat, UInt64.reduceToNat, UInt32.reduceToNat, UInt16.reduceToNat, UInt8.reduceToNat, Int.reduceAdd, Int.reduceSub, Int.reduceMul, Nat.reduceMul, ne_eq, eq_self, Option.isNone_some, Option.isNone_none, List.length_set, List.length_replicate, List.getElem?_cons_zero, List.getElem?_cons_succ, Qp0, Qe0, vcTS_done, vcTS_take, vcTS_both, vcTO_some, vcTL_some, f0, f1, f5, rd_M, rdM_some, hmpq, hrdp, hto, hfrom]
          refine Does_app2 el_pr how2.own (hRY q2 hlow2) (prs_one Y) (by unfold maxLen; omega) (by omega) (fun v3 q3 ho3 hst3 hsub3 => ?_)
          have how3 := how2.stays hst3 ho3
          refine ⟨how3.le.sub, ?_⟩
          simp -dsimp -implicitDefEqProofs (disch := first | omega | assumption | (simp only [Option.isSome_some, Qt0]; done) | (simp only [UInt64.reduceToNat, UInt32.reduceToNat, UInt8.reduceToNat, List.length_cons, List.length_nil, List.length_append, Int.toNat_natCast] <;> omega)) only [Nat.reduceLT, Nat.reduceLeDiff, Nat.reduceEqDiff, ↓reduceIte, beq_self_eq_true, List.getD_cons_zero, List.getD_cons_succ, Int.reduceLT, Int.reduceLE, Int.reduceToNat, Int.reduceEq, Int.reduceNe, Option.bind_some, List.map_cons, List.map_nil, List.zip_cons_cons, List.zip_nil_left, List.append_nil, List.nil_append, List.cons_append, List.length_cons, List.length_nil, Nat.reduceAdd, UInt8.reduceOfNat, UInt16.reduceOfNat, UInt32.reduceOfNat, UInt64.reduceOfNat, UInt64.reduceToNat, UInt32.reduceToNat, UInt16.reduceToNat, UInt8.reduceToNat, Int.reduceAdd, Int.reduceSub, Int.reduceMul, Nat.reduceMul, ne_eq, eq_self, Option.isNone_some, Option.isNone_none, List.length_set, List.length_replicate, List.getElem?_cons_zero, List.getElem?_cons_succ, Qp0, Qe0, vcTS_done, vcTS_take, vcTS_both, vcTO_some, vcTL_some, f0, f1, f5, rd_M, rdM_some, hmpq, hrdp, hto, hfrom]
          exact ⟨by trivial, v3, by simp, by simp [f0], by simp [f5], by rw [hMl', prs_app, prs_app]; exact how3⟩
      · refine Does_one (v := .agg #[str p.1, str p.2]) el_pr rfl (by omega) fun gb hgb => ?_
        have hlg := (PH.Le.refl h').new gb ⟨[str p.1, str p.2], 2⟩ hgb
        have hgbm1 : (h'.new gb ⟨[str p.1, str p.2], 2⟩).m gb = some ⟨[str p.1, str p.2], 2⟩ := by rw [PH.new_m, if_pos rfl]
        refine ⟨hlg.sub, ?_⟩
        simp -dsimp -implicitDefEqProofs (disch := first | omega | assumption | (simp only [Option.isSome_some, Qt0]; done) | (simp only [UInt64.reduceToNat, UInt32.reduceToNat, UInt8.reduceToNat, List.length_cons, List.length_nil, List.length_append, Int.toNat_natCast] <;> omega)) only [Nat.reduceLT, Nat.reduceLeDiff, Nat.reduceEqDiff, ↓reduceIte, beq_self_eq_true, List.getD_cons_zero, List.getD_cons_succ, Int.reduceLT, Int.reduceLE, Int.reduceToNat, Int.reduceEq, Int.reduceNe, Option.bind_some, List.map_cons, List.map_nil, List.zip_cons_cons, List.zip_nil_left, List.append_nil, List.nil_append, List.cons_append, List.length_cons, List.length_nil, Nat.reduceAdd, UInt8.reduceOfNat, UInt16.reduceOfNat, UInt32.reduceOfNat, UInt64.reduceOfNat, UInt64.reduceToNat, UInt32.reduceToNat, UInt16.reduceToNat, UInt8.reduceToNat, Int.reduceAdd, Int.reduceSub, Int.reduceMul, Nat.reduceMul, ne_eq, eq_self, Option.isNone_some, Option.isNone_none, List.length_set, List.length_replicate, List.getElem?_cons_zero, List.getElem?_cons_succ, Qp0, Qe0, vcTS_done, vcTS_take, vcTS_both, vcTO_some, vcTL_some, f0, f1, f5, rd_M, rdM_some, hmpq, hrdp, hto, hfrom]
        refine Does_low (Does_zero el_pr fun zb hzb hlz => ?_)
        have how0 : OwnS h' ((h'.new gb ⟨[str p.1, str p.2], 2⟩).new zb ⟨[], 0⟩) 2 (.slice (some ⟨zb, 0, none⟩) 0 0) 0 [] := by
          have o := OwnS.zero (h := h'.new gb ⟨[str p.1, str p.2], 2⟩) 2 hzb
          exact ⟨hlg.trans o.le, o.own, fun x e => Nat.le_trans hlg.top (o.new x e)⟩
        have hgbm0 := ((PH.Le.refl (h'.new gb ⟨[str p.1, str p.2], 2⟩)).new zb ⟨[], 0⟩ hzb).m _ _ hgbm1
        refine ⟨how0.le.sub, ?_⟩
        simp -dsimp -implicitDefEqProofs (disch := first | omega | assumption | (simp only [Option.isSome_some, Qt0]; done) | (simp only [UInt64.reduceToNat, UInt32.reduceToNat, UInt8.reduceToNat, List.length_cons, List.length_nil, List.length_append, Int.toNat_natCast] <;> omega)) only [Nat.reduceLT, Nat.reduceLeDiff, Nat.reduceEqDiff, ↓reduceIte, beq_self_eq_true, List.getD_cons_zero, List.getD_cons_succ, Int.reduceLT, Int.reduceLE, Int.reduceToNat, Int.reduceEq, Int.reduceNe, Option.bind_some, List.map_cons, List.map_nil, List.zip_cons_cons, List.zip_nil_left, List.append_nil, List.nil_append, List.cons_append, List.length_cons, List.length_nil, Nat.reduceAdd, UInt8.reduceOfNat, UInt16.reduceOfNat, UInt32.reduceOfNat, UInt64.reduceOfNat, UInt64.reduceToNat, UInt32.reduceToNat, UInt16.reduceToNat, UInt8.reduceToNat, Int.reduceAdd, Int.reduceSub, Int.reduceMul, Nat.reduceMul, ne_eq, eq_self, Option.isNone_some, Option.isNone_none, List.length_set, List.length_replicate, List.getElem?_cons_zero, List.getElem?_cons_succ, Qp0, Qe0, vcTS_done, vcTS_take, vcTS_both, vcTO_some, vcTL_some, f0, f1, f5, rd_M, rdM_some, hmpq, hrdp, hto, hfrom]
        refine Does_app2 el_pr how0.own (hRX _ hlz) (prs_one X) (by unfold maxLen; omega) (by omega) (fun v1 q1 ho1 hst1 hsub1 => ?_)
        rw [Nat.zero_add, List.nil_append] at ho1
        have how1 := how0.stays hst1 ho1
        have hgbm := hst1.keep gb _ hgbm0 (fun e => by
          have e : some zb = some gb := e
          injection e with e
          have := (h'.new gb ⟨[str p.1, str p.2], 2⟩).lt _ _ hgbm1
          omega)
        refine ⟨how1.le.sub, ?_⟩
        simp -dsimp -implicitDefEqProofs (disch := first | omega | assumption | (simp only [Option.isSome_some, Qt0]; done) | (simp only [UInt64.reduceToNat, UInt32.reduceToNat, UInt8.reduceToNat, List.length_cons, List.length_nil, List.length_append, Int.toNat_natCast] <;> omega)) only [Nat.reduceLT, Nat.reduceLeDiff, Nat.reduceEqDiff, ↓reduceIte, beq_self_eq_true, List.getD_cons_zero, List.getD_cons_succ, Int.reduceLT, Int.reduceLE, Int.reduceToNat, Int.reduceEq, Int.reduceNe, Option.bind_some, List.map_cons, List.map_nil, List.zip_cons_cons, List.zip_nil_left, List.append_nil, List.nil_append, List.cons_append, List.length_cons, List.length_nil, Nat.reduceAdd, UInt8.reduceOfNat, UInt16.reduceOfNat, UInt32.reduceOfNat, UInt64.reduceOfNat, UInt64.reduceToNat, UInt32.reduceToNat, UInt16.reduceToNat, UInt8.reduceToNat, Int.reduceAdd, Int.reduceSub, Int.reduceMul, Nat.reduceMul, ne_eq, eq_self, Option.isNone_some, Option.isNone_none, List.length_set, List.length_replicate, List.getElem?_cons_zero, List.getElem?_cons_succ, Qp0, Qe0, vcTS_done, vcTS_take, vcTS_both, vcTO_some, vcTL_some, f0, f1, f5, rd_M, rdM_some, hmpq, hrdp, hto, hfrom]
        refine Does_low (Does_app2 el_pr how1.own (Rs.blk hgbm rfl) (prs_one [p]) (by unfold maxLen; omega) (by omega) (fun v2 q2 ho2 hst2 hsub2 hlow2 => ?_))
        have how2 := how1.stays hst2 ho2
        refine ⟨how2.le.sub, ?_⟩
        simp -dsimp -implicitDefEqProofs (disch := first | omega | assumption | (simp only [Option.isSome_some, Qt0]; done) | (simp only [UInt64.reduceToNat, UInt32.reduceToNat, UInt8.reduceToNat, List.length_cons, List.length_nil, List.length_append, Int.toNat_natCast] <;> omega)) only [Nat.reduceLT, Nat.reduceLeDiff, Nat.reduceEqDiff, ↓reduceIte, beq_self_eq_true, List.getD_cons_zero, List.getD_cons_succ, Int.reduceLT, Int.reduceLE, Int.reduceToNat, Int.reduceEq, Int.reduceNe, Option.bind_some, List.map_cons, List.map_nil, List.zip_cons_cons, List.zip_nil_left, List.append_nil, List.nil_append, List.cons_append, List.length_cons, List.length_nil, Nat.reduceAdd, UInt8.reduceOfNat, UInt16.reduceOfNat, UInt32.reduceOfNat, UInt64.reduceOfNat, UInt64.reduceToNat, UInt32.reduceToNat, UInt16.reduceToNat, UInt8.reduceToNat, Int.reduceAdd, Int.reduceSub, Int.reduceMul, Nat.reduceMul, ne_eq, eq_self, Option.isNone_some, Option.isNone_none, List.length_set, List.length_replicate, List.getElem?_cons_zero, List.getElem?_cons_succ, Qp0, Qe0, vcTS_done, vcTS_take, vcTS_both, vcTO_some, vcTL_some, f0, f1, f5, rd_M, rdM_some, hmpq, hrdp, hto, hfrom]
        refine Does_app2 el_pr how2.own (hRY q2 hlow2) (prs_one Y) (by unfold maxLen; omega) (by omega) (fun v3 q3 ho3 hst3 hsub3 => ?_)
        have how3 := how2.stays hst3 ho3
        refine ⟨how3.le.sub, ?_⟩
        simp -dsimp -implicitDefEqProofs (disch := first | omega | assumption | (simp only [Option.isSome_some, Qt0]; done) | (simp only [UInt64.reduceToNat, UInt32.reduceToNat, UInt8.reduceToNat, List.length_cons, List.length_nil, List.length_append, Int.toNat_natCast] <;> omega)) only [Nat.reduceLT, Nat.reduceLeDiff, Nat.reduceEqDiff, ↓reduceIte, beq_self_eq_true, List.getD_cons_zero, List.getD_cons_succ, Int.reduceLT, Int.reduceLE, Int.reduceToNat, Int.reduceEq, Int.reduceNe, Option.bind_some, List.map_cons, List.map_nil, List.zip_cons_cons, List.zip_nil_left, List.append_nil, List.nil_append, List.cons_append, List.length_cons, List.length_nil, Nat.reduceAdd, UInt8.reduceOfNat, UInt16.reduceOfNat, UInt32.reduceOfNat, UInt64.reduceOfNat, UInt64.reduceToNat, UInt32.reduceToNat, UInt16.reduceToNat, UInt8.reduceToNat, Int.reduceAdd, Int.reduceSub, Int.reduceMul, Nat.reduceMul, ne_eq, eq_self, Option.isNone_some, Option.isNone_none, List.length_set, List.length_replicate, List.getElem?_cons_zero, List.getElem?_cons_succ, Qp0, Qe0, vcTS_done, vcTS_take, vcTS_both, vcTO_some, vcTL_some, f0, f1, f5, rd_M, rdM_some, hmpq, hrdp, hto, hfrom]
        exact ⟨by trivial, v3, by simp, by simp [f0], by simp [f5], by rw [hMl', prs_app, prs_app]; exact how3⟩
    rintro e f2 q ⟨rfl, v, g9, g0', g5, how⟩
    obtain ⟨M, hM⟩ : ∃ M, X ++ [p] ++ Y = M := ⟨_, rfl⟩
    have hMl : z_l.length + 1 = M.length := by rw [← hM]; simp only [List.length_append, List.length_cons, List.length_nil]; omega
    have hMe : ∀ x ∈ M, x = p ∨ (x.1.length ≤ 60 ∧ x.2.length ≤ 60 ∧ x.1 ≠ p.1) := fun x hx => by
      rw [← hM] at hx
      simp only [List.mem_append, List.mem_singleton] at hx
      rcases hx with (hx | hx) | hx
      · exact .inr (hsm x (by rw [← hXY]; exact List.mem_append_left _ hx))
      · exact .inl hx
      · exact .inr (hsm x (by rw [← hXY]; exact List.mem_append_right _ hx))
    have hXf := filter_others X p.1 fun x hx => (hsm x (by rw [← hXY]; exact List.mem_append_left _ hx)).2.2
    have hYf := filter_others Y p.1 fun x hx => (hsm x (by rw [← hXY]; exact List.mem_append_right _ hx)).2.2
    have hMf : M.filter (fun x => decide (x.1 = p.1)) = [p] := by rw [← hM, List.filter_append, List.filter_append, hXf, hYf]; simp
    have hMc : cost M ≤ 3893 := by
      have h5 := cost_le z_l fun x hx => ⟨(hsm x hx).1, (hsm x hx).2.1⟩
      have h6 : cost M = cost z_l + (p.1.length + p.2.length + 3) := by rw [← hM, cost_app, cost_app, ← hXY, cost_app]; simp [cost]; omega
      omega
    have hMf1 : Fits M := ⟨by omega, fun x hx => by rcases hMe x hx with rfl | ⟨h5, h6, _⟩ <;> omega⟩
    rw [hM, hMl] at how
    obtain ⟨A3, c3, rfl, hc3⟩ := how.own.len
    have hmp2 := how.le.m _ _ hmpq
    have hl02 := (hl01.trans hle).trans how.le
    have hW := Lib.hid (write_any w q A3 c3 M (Prs.own how.own) hc3 hMf1)
    simp -dsimp -implicitDefEqProofs (disch := first | omega | assumption | (simp only [Option.isSome_some, Qt0]; done) | (simp only [UInt64.reduceToNat, UInt32.reduceToNat, UInt8.reduceToNat, List.length_cons, List.length_nil, List.length_append, Int.toNat_natCast] <;> omega)) only [Nat.reduceLT, Nat.reduceLeDiff, Nat.reduceEqDiff, ↓reduceIte, beq_self_eq_true, List.getD_cons_zero, List.getD_cons_succ, Int.reduceLT, Int.reduceLE, Int.reduceToNat, Int.reduceEq, Int.reduceNe, Option.bind_some, List.map_cons, List.map_nil, List.zip_cons_cons, List.zip_nil_left, List.append_nil, List.nil_append, List.cons_append, List.length_cons, List.length_nil, Nat.reduceAdd, UInt8.reduceOfNat, UInt16.reduceOfNat, UInt32.reduceOfNat, UInt64.reduceOfNat, UInt64.reduceToNat, UInt32.reduceToNat, UInt16.reduceToNat, UInt8.reduceToNat, Int.reduceAdd, Int.reduceSub, Int.reduceMul, Nat.reduceMul, ne_eq, eq_self, Option.isNone_some, Option.isNone_none, List.length_set, List.length_replicate, List.getElem?_cons_zero, List.getElem?_cons_succ, Qp0, Qe0, g9, g0', g5]
    refine hW.out.mono ?_
    rintro v q4 ⟨hle4, hw⟩
    cases hb : firstBad M with
    | some j =>
      rw [hb] at hw
      obtain ⟨be, rfl, hbe⟩ := hw
      unfold errV
      simp -dsimp -implicitDefEqProofs (disch := first | omega | assumption | (simp only [Option.isSome_some, Qt0]; done) | (simp only [UInt64.reduceToNat, UInt32.reduceToNat, UInt8.reduceToNat, List.length_cons, List.length_nil, List.length_append, Int.toNat_natCast] <;> omega)) only [Nat.reduceLT, Nat.reduceLeDiff, Nat.reduceEqDiff, ↓reduceIte, beq_self_eq_true, List.getD_cons_zero, List.getD_cons_succ, Int.reduceLT, Int.reduceLE, Int.reduceToNat, Int.reduceEq, Int.reduceNe, Option.bind_some, List.map_cons, List.map_nil, List.zip_cons_cons, List.zip_nil_left, List.append_nil, List.nil_append, List.cons_append, List.length_cons, List.length_nil, Nat.reduceAdd, UInt8.reduceOfNat, UInt16.reduceOfNat, UInt32.reduceOfNat, UInt64.reduceOfNat, UInt64.reduceToNat, UInt32.reduceToNat, UInt16.reduceToNat, UInt8.reduceToNat, Int.reduceAdd, Int.reduceSub, Int.reduceMul, Nat.reduceMul, ne_eq, eq_self, Option.isNone_some, Option.isNone_none, List.length_set, List.length_replicate, List.getElem?_cons_zero, List.getElem?_cons_succ, Qp0, Qe0, g9, g0', g5]
      exact ⟨_, hl02.trans hle4, by simp⟩
    | none =>
    rw [hb] at hw
    simp only at hw
    subst hw
    have hok := firstBad_all _ hb
    have hne : M ≠ [] := by intro e; rw [e] at hMl; simp at hMl
    have hHc := header_cost M hne
    have how := how.more hle4
    have hmp4 := hle4.m _ _ hmp2
    obtain ⟨Hd, hHd⟩ : ∃ Hd, header M = Hd := ⟨_, rfl⟩
    have hPM := parse_header hok
    rw [hHd] at hPM hHc
    have hF := Lib.hid (find_any Hd p.1 (by omega) w q4)
    have hfm := findM_one (name := p.1) (by omega) hPM hMf
    rw [hHd]
    simp -dsimp -implicitDefEqProofs (disch := first | omega | assumption | (simp only [Option.isSome_some, Qt0]; done) | (simp only [UInt64.reduceToNat, UInt32.reduceToNat, UInt8.reduceToNat, List.length_cons, List.length_nil, List.length_append, Int.toNat_natCast] <;> omega)) only [Nat.reduceLT, Nat.reduceLeDiff, Nat.reduceEqDiff, ↓reduceIte, beq_self_eq_true, List.getD_cons_zero, List.getD_cons_succ, Int.reduceLT, Int.reduceLE, Int.reduceToNat, Int.reduceEq, Int.reduceNe, Option.bind_some, List.map_cons, List.map_nil, List.zip_cons_cons, List.zip_nil_left, List.append_nil, List.nil_append, List.cons_append, List.length_cons, List.length_nil, Nat.reduceAdd, UInt8.reduceOfNat, UInt16.reduceOfNat, UInt32.reduceOfNat, UInt64.reduceOfNat, UInt64.reduceToNat, UInt32.reduceToNat, UInt16.reduceToNat, UInt8.reduceToNat, Int.reduceAdd, Int.reduceSub, Int.reduceMul, Nat.reduceMul, ne_eq, eq_self, Option.isNone_some, Option.isNone_none, List.length_set, List.length_replicate, List.getElem?_cons_zero, List.getElem?_cons_succ, Qp0, Qe0, g9, g0', g5, rd_M, rdM_some, hmp4]
    refine hF.out.mono ?_
    intro v q5 hf
    obtain ⟨hle5, hf⟩ := hf
    rw [hfm, if_pos rfl] at hf
    subst hf
    have how := how.more hle5
    have hmp5 := hle5.m _ _ hmp4
    have hrd5 : rdN w q5 ⟨pb, 0, none⟩ 2 = some [str p.1, str p.2] := by unfold rdN; simp only [hmp5]; rfl
    simp -dsimp -implicitDefEqProofs (disch := first | omega | assumption | (simp only [Option.isSome_some, Qt0]; done) | (simp only [UInt64.reduceToNat, UInt32.reduceToNat, UInt8.reduceToNat, List.length_cons, List.length_nil, List.length_append, Int.toNat_natCast] <;> omega)) only [Nat.reduceLT, Nat.reduceLeDiff, Nat.reduceEqDiff, ↓reduceIte, beq_self_eq_true, List.getD_cons_zero, List.getD_cons_succ, Int.reduceLT, Int.reduceLE, Int.reduceToNat, Int.reduceEq, Int.reduceNe, Option.bind_some, List.map_cons, List.map_nil, List.zip_cons_cons, List.zip_nil_left, List.append_nil, List.nil_append, List.cons_append, List.length_cons, List.length_nil, Nat.reduceAdd, UInt8.reduceOfNat, UInt16.reduceOfNat, UInt32.reduceOfNat, UInt64.reduceOfNat, UInt64.reduceToNat, UInt32.reduceToNat, UInt16.reduceToNat, UInt8.reduceToNat, Int.reduceAdd, Int.reduceSub, Int.reduceMul, Nat.reduceMul, ne_eq, eq_self, Option.isNone_some, Option.isNone_none, List.length_set, List.length_replicate, List.getElem?_cons_zero, List.getElem?_cons_succ, Qp0, Qe0, g9, g0', g5, rd_M, rdM_some, hmp5, hrd5]
    refine Does_one (v := .agg #[str p.1, str p.2]) el_pr rfl (by omega) fun gb hgb => ?_
    have hlg := (PH.Le.refl q5).new gb ⟨[str p.1, str p.2], 2⟩ hgb
    have how := how.more hlg
    simp -dsimp -implicitDefEqProofs (disch := first | omega | assumption | (simp only [Option.isSome_some, Qt0]; done) | (simp only [UInt64.reduceToNat, UInt32.reduceToNat, UInt8.reduceToNat, List.length_cons, List.length_nil, List.length_append, Int.toNat_natCast] <;> omega)) only [Nat.reduceLT, Nat.reduceLeDiff, Nat.reduceEqDiff, ↓reduceIte, beq_self_eq_true, List.getD_cons_zero, List.getD_cons_succ, Int.reduceLT, Int.reduceLE, Int.reduceToNat, Int.reduceEq, Int.reduceNe, Option.bind_some, List.map_cons, List.map_nil, List.zip_cons_cons, List.zip_nil_left, List.append_nil, List.nil_append, List.cons_append, List.length_cons, List.length_nil, Nat.reduceAdd, UInt8.reduceOfNat, UInt16.reduceOfNat, UInt32.reduceOfNat, UInt64.reduceOfNat, UInt64.reduceToNat, UInt32.reduceToNat, UInt16.reduceToNat, UInt8.reduceToNat, Int.reduceAdd, Int.reduceSub, Int.reduceMul, Nat.reduceMul, ne_eq, eq_self, Option.isNone_some, Option.isNone_none, List.length_set, List.length_replicate, List.getElem?_cons_zero, List.getElem?_cons_succ, Qp0, Qe0, g9, g0', g5]
    refine Does_app el_pr how.own (Rs.blk (k := ⟨[str p.1, str p.2], 2⟩) (by rw [PH.new_m, if_pos rfl]) rfl) (prs_one [p]) (by unfold maxLen; omega) (by omega) (fun v6 q6 ho6 hst6 => ?_)
    have how6 := how.stays hst6 ho6
    have hM2 : prs M ++ [str p.1, str p.2] = prs (M ++ [p]) := by rw [prs_app]; rfl
    rw [hM2, show M.length + 1 = (M ++ [p]).length by simp] at how6
    obtain ⟨A6, c6, rfl, hc6⟩ := how6.own.len
    have hmp6 := how6.le.m _ _ hmpq
    have hok2 : (M ++ [p]).all okP = true := by
      rw [List.all_append, hok]
      have : okP p = true := List.all_eq_true.1 hok p (by rw [← hM]; simp)
      simp [this]
    have hl06 := (hl01.trans hle).trans how6.le
    have hfit2 : Fits (M ++ [p]) := ⟨by simp only [List.length_append, List.length_cons, List.length_nil]; omega, fun x hx => by
      rcases List.mem_append.1 hx with hx | hx
      · exact hMf1.2 x hx
      · simp only [List.mem_singleton] at hx
        subst hx
        omega⟩
    have hW2 := Lib.hid (write_any w q6 A6 c6 (M ++ [p]) (Prs.own how6.own) hc6 hfit2)
    simp -dsimp -implicitDefEqProofs (disch := first | omega | assumption | (simp only [Option.isSome_some, Qt0]; done) | (simp only [UInt64.reduceToNat, UInt32.reduceToNat, UInt8.reduceToNat, List.length_cons, List.length_nil, List.length_append, Int.toNat_natCast] <;> omega)) only [Nat.reduceLT, Nat.reduceLeDiff, Nat.reduceEqDiff, ↓reduceIte, beq_self_eq_true, List.getD_cons_zero, List.getD_cons_succ, Int.reduceLT, Int.reduceLE, Int.reduceToNat, Int.reduceEq, Int.reduceNe, Option.bind_some, List.map_cons, List.map_nil, List.zip_cons_cons, List.zip_nil_left, List.append_nil, List.nil_append, List.cons_append, List.length_cons, List.length_nil, Nat.reduceAdd, UInt8.reduceOfNat, UInt16.reduceOfNat, UInt32.reduceOfNat, UInt64.reduceOfNat, UInt64.reduceToNat, UInt32.reduceToNat, UInt16.reduceToNat, UInt8.reduceToNat, Int.reduceAdd, Int.reduceSub, Int.reduceMul, Nat.reduceMul, ne_eq, eq_self, Option.isNone_some, Option.isNone_none, List.length_set, List.length_replicate, List.getElem?_cons_zero, List.getElem?_cons_succ, Qp0, Qe0, g9, g0', g5]
    refine hW2.out.mono ?_
    rintro v q7 ⟨hle7, hw⟩
    rw [firstBad_none _ hok2] at hw
    simp only at hw
    subst hw
    have hHc2 := header_cost (M ++ [p]) (by simp)
    rw [cost_app] at hHc2
    have hcp : cost [p] = p.1.length + p.2.length + 3 := by simp [cost]
    have hPM2 := parse_header hok2
    obtain ⟨H2, hH2⟩ : ∃ H2, header (M ++ [p]) = H2 := ⟨_, rfl⟩
    rw [hH2] at hHc2 hPM2
    rw [hH2]
    have hMf2 : (M ++ [p]).filter (fun x => decide (x.1 = p.1)) = [p, p] := by rw [List.filter_append, hMf]; simp
    have hfm2 := findM_more (name := p.1) (by omega) hPM2 hMf2
    have hF2 := Lib.hid (find_any H2 p.1 (by omega) w q7)
    have hmp7 := hle7.m _ _ hmp6
    simp -dsimp -implicitDefEqProofs (disch := first | omega | assumption | (simp only [Option.isSome_some, Qt0]; done) | (simp only [UInt64.reduceToNat, UInt32.reduceToNat, UInt8.reduceToNat, List.length_cons, List.length_nil, List.length_append, Int.toNat_natCast] <;> omega)) only [Nat.reduceLT, Nat.reduceLeDiff, Nat.reduceEqDiff, ↓reduceIte, beq_self_eq_true, List.getD_cons_zero, List.getD_cons_succ, Int.reduceLT, Int.reduceLE, Int.reduceToNat, Int.reduceEq, Int.reduceNe, Option.bind_some, List.map_cons, List.map_nil, List.zip_cons_cons, List.zip_nil_left, List.append_nil, List.nil_append, List.cons_append, List.length_cons, List.length_nil, Nat.reduceAdd, UInt8.reduceOfNat, UInt16.reduceOfNat, UInt32.reduceOfNat, UInt64.reduceOfNat, UInt64.reduceToNat, UInt32.reduceToNat, UInt16.reduceToNat, UInt8.reduceToNat, Int.reduceAdd, Int.reduceSub, Int.reduceMul, Nat.reduceMul, ne_eq, eq_self, Option.isNone_some, Option.isNone_none, List.length_set, List.length_replicate, List.getElem?_cons_zero, List.getElem?_cons_succ, Qp0, Qe0, g9, g0', g5, rd_M, rdM_some, hmp7]
    refine hF2.out.mono ?_
    intro v q8 hf
    obtain ⟨hle8, hf⟩ := hf
    rw [hfm2, if_neg (by simp)] at hf
    obtain ⟨be, e, rfl, hev, hn⟩ := hf
    have hmp8 := hle8.m _ _ hmp7
    have hI := is_any 8 w q8 _ _ hev
    have hnum : ((Er.wrap cookieT H2.length e).num == 8) = true := by show (e.num == 8) = true; rw [hn]; rfl
    rw [hnum] at hI
    unfold codeV errV at hI
    have hI := Lib.hid hI
    have es := decide_eq_true (show p.2 = p.2 from rfl)
    unfold errV
    simp -dsimp -implicitDefEqProofs (disch := first | omega | assumption | (simp only [Option.isSome_some, Qt0]; done) | (simp only [UInt64.reduceToNat, UInt32.reduceToNat, UInt8.reduceToNat, List.length_cons, List.length_nil, List.length_append, Int.toNat_natCast] <;> omega)) only [Nat.reduceLT, Nat.reduceLeDiff, Nat.reduceEqDiff, ↓reduceIte, beq_self_eq_true, List.getD_cons_zero, List.getD_cons_succ, Int.reduceLT, Int.reduceLE, Int.reduceToNat, Int.reduceEq, Int.reduceNe, Option.bind_some, List.map_cons, List.map_nil, List.zip_cons_cons, List.zip_nil_left, List.append_nil, List.nil_append, List.cons_append, List.length_cons, List.length_nil, Nat.reduceAdd, UInt8.reduceOfNat, UInt16.reduceOfNat, UInt32.reduceOfNat, UInt64.reduceOfNat, UInt64.reduceToNat, UInt32.reduceToNat, UInt16.reduceToNat, UInt8.reduceToNat, Int.reduceAdd, Int.reduceSub, Int.reduceMul, Nat.reduceMul, ne_eq, eq_self, Option.isNone_some, Option.isNone_none, List.length_set, List.length_replicate, List.getElem?_cons_zero, List.getElem?_cons_succ, Qp0, Qe0, g9, g0', g5, rd_M, rdM_some, hmp8, es]
    refine hI.out.mono ?_
    rintro v hq ⟨rfl, hz⟩
    obtain rfl := hz.symm
    simp -dsimp -implicitDefEqProofs (disch := first | omega | assumption | (simp only [Option.isSome_some, Qt0]; done) | (simp only [UInt64.reduceToNat, UInt32.reduceToNat, UInt8.reduceToNat, List.length_cons, List.length_nil, List.length_append, Int.toNat_natCast] <;> omega)) only [Nat.reduceLT, Nat.reduceLeDiff, Nat.reduceEqDiff, ↓reduceIte, beq_self_eq_true, List.getD_cons_zero, List.getD_cons_succ, Int.reduceLT, Int.reduceLE, Int.reduceToNat, Int.reduceEq, Int.reduceNe, Option.bind_some, List.map_cons, List.map_nil, List.zip_cons_cons, List.zip_nil_left, List.append_nil, List.nil_append, List.cons_append, List.length_cons, List.length_nil, Nat.reduceAdd, UInt8.reduceOfNat, UInt16.reduceOfNat, UInt32.reduceOfNat, UInt64.reduceOfNat, UInt64.reduceToNat, UInt32.reduceToNat, UInt16.reduceToNat, UInt8.reduceToNat, Int.reduceAdd, Int.reduceSub, Int.reduceMul, Nat.reduceMul, ne_eq, eq_self, Option.isNone_some, Option.isNone_none, List.length_set, List.length_replicate, List.getElem?_cons_zero, List.getElem?_cons_succ, Qp0, Qe0]
    exact ⟨_, (hl06.trans hle7).trans hle8, by simp⟩
set_option maxRecDepth 100000 in
theorem liftedCookieOne (os : Os) (started : os.Started) (H : Type) (enc : TypeId × Value → H) :
    ReturnsInHanded {} Try.checked os 4 .any (Rows.cookieOneSpec.pre6 enc Try.prog Try.f4 Rows.cookieOneRow.domain false) (Rows.cookieOneSpec.post enc Try.prog Try.f4 false true false false) := by
  refine returnsInHanded_of_change_sized (C := Try.checked) own started (by kernel_rfl) Try.func4
    (ChangeSpec.witness6 (enc := enc) (C := Try.checked) false ⟨#[], #[.slice none 0 0, .int .i64 0, .agg #[.string ⟨#[]⟩, .string ⟨#[]⟩]], []⟩ 8 (by kernel_rfl) (by kernel_rfl) (by kernel_rfl) (by kernel_rfl)) ?_
  intro W base args ds gs before hval0 hW _ hsz0 _
  have hsz : (DataW.weightsEach Try.prog (Try.f4.params.toList ++ Rows.cookieOneSpec.plain.varTypes Try.prog) (ds ++ gs)).all (· ≤ reachBytes) = true := hsz0
  have hval : ∀ (j : Nat) t v, Try.f4.params[j]? = some t → args[j]? = some v → Value.okWide Try.prog W .any base t v := hval0
  have hW' := hW
  obtain ⟨p, q, hA0, hV, rfl, _, _⟩ := hW
  have hA : DataW.TrodAll enc Try.prog W 0 (fun _ => true) true Try.f4.params.toList args.toList ds p := hA0
  rw [Try.params4] at hA hval hsz
  obtain ⟨v0, v1, v2, d0, d1, d2, p0, p1, p2, rfl, rfl, rfl, h0, h1, h2⟩ := trodAll_three hA
  obtain ⟨rfl, _⟩ := trodVars_none hV
  obtain ⟨A0, c0, z0, rfl, hc0, hr0⟩ := open_rvs (hval 0 _ v0 rfl rfl) h0
  obtain ⟨a1, rfl, rfl, rfl, w1⟩ := open_int Try.underlying3 (hval 1 _ v1 rfl rfl) h1
  obtain ⟨q2, rfl⟩ := open_pv (hval 2 _ v2 rfl rfl) h2
  refine (walk_CookieOne A0 c0 z0 a1 q2 W hc0 hr0 w1).mono fun en W' ⟨he, hb⟩ => ?_
  subst he
  exact ⟨_, rfl, law_post (tb := 4) laidOut hW' rfl rfl rfl rfl Try.underlying4 (by intro t ht; revert t; exact of_decide_eq_true (by kernel_rfl)) (by kernel_rfl) hb⟩

theorem provedCookieOne : Rows.CookieOneSaid :=
  OpenClaim.holds_of_wide 4 Try.f4 rfl rfl rfl rfl rfl rfl rfl ⟨rfl, rfl, rfl, rfl, rfl⟩ rfl rfl rfl rfl rfl (by kernel_rfl) Try.func4 (by kernel_rfl)
    (of_decide_eq_true (by kernel_rfl)) (by unfold Func.isWrapper; first | (rw [if_pos (by decide +kernel)]; kernel_rfl) | (rw [if_neg (by decide +kernel)]; exact ⟨rfl, rfl⟩))
    (fun os started H enc _ => liftedCookieOne os started H enc)
#print axioms provedCookieOne


end Go.Proofs.Ytefkgpcdabmkkaa.CkO
