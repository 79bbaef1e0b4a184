/- CookieWrites: any pairs make the header that the document says, and come back from it, or the first one that can not be is told. No condition. -/
import Derived.Test.YtefkgpcdabmkkaaDoorCk7
import Derived.Test.YtefkgpcdabmkkaaDoorCkb
import Derived.Test.YtefkgpcdabmkkaaDoorBase
import Derived.Test.YtefkgpcdabmkkaaDoorBase2
import Derived.Test.YtefkgpcdabmkkaaDoorChecked
import Derived.Test.YtefkgpcdabmkkaaDoorDoor
namespace Go.Proofs.YtefkgpcdabmkkaaDoor.CkW
set_option linter.unusedVariables false
set_option linter.unusedSimpArgs false
open Go.ChangeShapes Go.WideShapes Go.ChangeAt Go.RowKit Base Px Ck
set_option maxRecDepth 20000 in
set_option maxHeartbeats 4000000 in
theorem walk_CookieWrites (A_l : Option Addr) (c_l : Nat) (z_l : List Pr) (w : World) (hc_l : z_l.length ≤ c_l) (hr_l : ∀ h, Prs w h A_l z_l) (hg : w.cell? ⟨0, 0, none⟩ = some (rtV 24)) : Calls Tryd.prog 5 #[.slice A_l z_l.length c_l] w fun e w' => e = .returned (.bool true) ∧ Below w.heap.size w w' := by
  refine law_calls (args := [.slice A_l z_l.length c_l]) (Calls_body Tryd.func5 rfl _ Tryd.ntmps5 (by kernel_rfl) (by kernel_rfl) _ Tryd.results5 ?_ w (Sim.empty w))
  have hA := Lib.hid (@awake_any w (PH.empty w))
  simp -dsimp -implicitDefEqProofs (disch := first | omega | assumption | (simp only [Option.isSome_some, Qt0]; done) | (simp only [UInt64.reduceToNat, UInt32.reduceToNat, UInt8.reduceToNat, List.length_cons, List.length_nil, List.length_append, Int.toNat_natCast] <;> omega)) only [Nat.reduceLT, Nat.reduceLeDiff, Nat.reduceEqDiff, ↓reduceIte, beq_self_eq_true, List.getD_cons_zero, List.getD_cons_succ, Int.reduceLT, Int.reduceLE, Int.reduceToNat, Int.reduceEq, Int.reduceNe, Option.bind_some, List.map_cons, List.map_nil, List.zip_cons_cons, List.zip_nil_left, List.append_nil, List.nil_append, List.cons_append, List.length_cons, List.length_nil, Nat.reduceAdd, UInt8.reduceOfNat, UInt16.reduceOfNat, UInt32.reduceOfNat, UInt64.reduceOfNat, UInt64.reduceToNat, UInt32.reduceToNat, UInt16.reduceToNat, UInt8.reduceToNat, Int.reduceAdd, Int.reduceSub, Int.reduceMul, Nat.reduceMul, ne_eq, eq_self, Option.isNone_some, Option.isNone_none, List.length_set, List.length_replicate, List.getElem?_cons_zero, List.getElem?_cons_succ, Qp0, Qe0]
  refine hA.out.mono ?_
  rintro v h1 ⟨rfl, hle1⟩
  by_cases hlong : 100 < (z_l.length : Int)
  · have d1 := decide_eq_true hlong
    simp -dsimp -implicitDefEqProofs (disch := first | omega | assumption | (simp only [Option.isSome_some, Qt0]; done) | (simp only [UInt64.reduceToNat, UInt32.reduceToNat, UInt8.reduceToNat, List.length_cons, List.length_nil, List.length_append, Int.toNat_natCast] <;> omega)) only [Nat.reduceLT, Nat.reduceLeDiff, Nat.reduceEqDiff, ↓reduceIte, beq_self_eq_true, List.getD_cons_zero, List.getD_cons_succ, Int.reduceLT, Int.reduceLE, Int.reduceToNat, Int.reduceEq, Int.reduceNe, Option.bind_some, List.map_cons, List.map_nil, List.zip_cons_cons, List.zip_nil_left, List.append_nil, List.nil_append, List.cons_append, List.length_cons, List.length_nil, Nat.reduceAdd, UInt8.reduceOfNat, UInt16.reduceOfNat, UInt32.reduceOfNat, UInt64.reduceOfNat, UInt64.reduceToNat, UInt32.reduceToNat, UInt16.reduceToNat, UInt8.reduceToNat, Int.reduceAdd, Int.reduceSub, Int.reduceMul, Nat.reduceMul, ne_eq, eq_self, Option.isNone_some, Option.isNone_none, List.length_set, List.length_replicate, List.getElem?_cons_zero, List.getElem?_cons_succ, Qp0, Qe0, d1]
    exact ⟨_, hle1, by simp⟩
  have d1 := decide_eq_false hlong
  simp -dsimp -implicitDefEqProofs (disch := first | omega | assumption | (simp only [Option.isSome_some, Qt0]; done) | (simp only [UInt64.reduceToNat, UInt32.reduceToNat, UInt8.reduceToNat, List.length_cons, List.length_nil, List.length_append, Int.toNat_natCast] <;> omega)) only [Nat.reduceLT, Nat.reduceLeDiff, Nat.reduceEqDiff, ↓reduceIte, beq_self_eq_true, List.getD_cons_zero, List.getD_cons_succ, Int.reduceLT, Int.reduceLE, Int.reduceToNat, Int.reduceEq, Int.reduceNe, Option.bind_some, List.map_cons, List.map_nil, List.zip_cons_cons, List.zip_nil_left, List.append_nil, List.nil_append, List.cons_append, List.length_cons, List.length_nil, Nat.reduceAdd, UInt8.reduceOfNat, UInt16.reduceOfNat, UInt32.reduceOfNat, UInt64.reduceOfNat, UInt64.reduceToNat, UInt32.reduceToNat, UInt16.reduceToNat, UInt8.reduceToNat, Int.reduceAdd, Int.reduceSub, Int.reduceMul, Nat.reduceMul, ne_eq, eq_self, Option.isNone_some, Option.isNone_none, List.length_set, List.length_replicate, List.getElem?_cons_zero, List.getElem?_cons_succ, Qp0, Qe0, d1]
  refine PW_loopL (fun n f h' => ∃ i : Nat, n + i = z_l.length ∧ f 0 = some (.slice A_l z_l.length c_l) ∧ f 16 = some (.slice A_l z_l.length c_l) ∧ f 17 = some (.int .i64 z_l.length) ∧ f 18 = some (.int .i64 i) ∧ PH.Le h1 h' ∧ ∀ p ∈ z_l.take i, p.1.length ≤ 1000 ∧ p.2.length ≤ 1000) (by kernel_rfl) z_l.length ⟨0, by omega, ?_, ?_, ?_, ?_, PH.Le.refl _, by simp⟩ ?_
  · simp -dsimp -implicitDefEqProofs (disch := first | omega | assumption | (simp only [Option.isSome_some, Qt0]; done) | (simp only [UInt64.reduceToNat, UInt32.reduceToNat, UInt8.reduceToNat, List.length_cons, List.length_nil, List.length_append, Int.toNat_natCast] <;> omega)) only [Nat.reduceLT, Nat.reduceLeDiff, Nat.reduceEqDiff, ↓reduceIte, beq_self_eq_true, List.getD_cons_zero, List.getD_cons_succ, Int.reduceLT, Int.reduceLE, Int.reduceToNat, Int.reduceEq, Int.reduceNe, Option.bind_some, List.map_cons, List.map_nil, List.zip_cons_cons, List.zip_nil_left, List.append_nil, List.nil_append, List.cons_append, List.length_cons, List.length_nil, Nat.reduceAdd, UInt8.reduceOfNat, UInt16.reduceOfNat, UInt32.reduceOfNat, UInt64.reduceOfNat, UInt64.reduceToNat, UInt32.reduceToNat, UInt16.reduceToNat, UInt8.reduceToNat, Int.reduceAdd, Int.reduceSub, Int.reduceMul, Nat.reduceMul, ne_eq, eq_self, Option.isNone_some, Option.isNone_none, List.length_set, List.length_replicate, List.getElem?_cons_zero, List.getElem?_cons_succ, Qp0, Qe0]
  · simp -dsimp -implicitDefEqProofs (disch := first | omega | assumption | (simp only [Option.isSome_some, Qt0]; done) | (simp only [UInt64.reduceToNat, UInt32.reduceToNat, UInt8.reduceToNat, List.length_cons, List.length_nil, List.length_append, Int.toNat_natCast] <;> omega)) only [Nat.reduceLT, Nat.reduceLeDiff, Nat.reduceEqDiff, ↓reduceIte, beq_self_eq_true, List.getD_cons_zero, List.getD_cons_succ, Int.reduceLT, Int.reduceLE, Int.reduceToNat, Int.reduceEq, Int.reduceNe, Option.bind_some, List.map_cons, List.map_nil, List.zip_cons_cons, List.zip_nil_left, List.append_nil, List.nil_append, List.cons_append, List.length_cons, List.length_nil, Nat.reduceAdd, UInt8.reduceOfNat, UInt16.reduceOfNat, UInt32.reduceOfNat, UInt64.reduceOfNat, UInt64.reduceToNat, UInt32.reduceToNat, UInt16.reduceToNat, UInt8.reduceToNat, Int.reduceAdd, Int.reduceSub, Int.reduceMul, Nat.reduceMul, ne_eq, eq_self, Option.isNone_some, Option.isNone_none, List.length_set, List.length_replicate, List.getElem?_cons_zero, List.getElem?_cons_succ, Qp0, Qe0]
  · simp -dsimp -implicitDefEqProofs (disch := first | omega | assumption | (simp only [Option.isSome_some, Qt0]; done) | (simp only [UInt64.reduceToNat, UInt32.reduceToNat, UInt8.reduceToNat, List.length_cons, List.length_nil, List.length_append, Int.toNat_natCast] <;> omega)) only [Nat.reduceLT, Nat.reduceLeDiff, Nat.reduceEqDiff, ↓reduceIte, beq_self_eq_true, List.getD_cons_zero, List.getD_cons_succ, Int.reduceLT, Int.reduceLE, Int.reduceToNat, Int.reduceEq, Int.reduceNe, Option.bind_some, List.map_cons, List.map_nil, List.zip_cons_cons, List.zip_nil_left, List.append_nil, List.nil_append, List.cons_append, List.length_cons, List.length_nil, Nat.reduceAdd, UInt8.reduceOfNat, UInt16.reduceOfNat, UInt32.reduceOfNat, UInt64.reduceOfNat, UInt64.reduceToNat, UInt32.reduceToNat, UInt16.reduceToNat, UInt8.reduceToNat, Int.reduceAdd, Int.reduceSub, Int.reduceMul, Nat.reduceMul, ne_eq, eq_self, Option.isNone_some, Option.isNone_none, List.length_set, List.length_replicate, List.getElem?_cons_zero, List.getElem?_cons_succ, Qp0, Qe0]
  · simp -dsimp -implicitDefEqProofs (disch := first | omega | assumption | (simp only [Option.isSome_some, Qt0]; done) | (simp only [UInt64.reduceToNat, UInt32.reduceToNat, UInt8.reduceToNat, List.length_cons, List.length_nil, List.length_append, Int.toNat_natCast] <;> omega)) only [Nat.reduceLT, Nat.reduceLeDiff, Nat.reduceEqDiff, ↓reduceIte, beq_self_eq_true, List.getD_cons_zero, List.getD_cons_succ, Int.reduceLT, Int.reduceLE, Int.reduceToNat, Int.reduceEq, Int.reduceNe, Option.bind_some, List.map_cons, List.map_nil, List.zip_cons_cons, List.zip_nil_left, List.append_nil, List.nil_append, List.cons_append, List.length_cons, List.length_nil, Nat.reduceAdd, UInt8.reduceOfNat, UInt16.reduceOfNat, UInt32.reduceOfNat, UInt64.reduceOfNat, UInt64.reduceToNat, UInt32.reduceToNat, UInt16.reduceToNat, UInt8.reduceToNat, Int.reduceAdd, Int.reduceSub, Int.reduceMul, Nat.reduceMul, ne_eq, eq_self, Option.isNone_some, Option.isNone_none, List.length_set, List.length_replicate, List.getElem?_cons_zero, List.getElem?_cons_succ, Qp0, Qe0]
    try rfl
  rintro n f h' ⟨i, hni, f0, f16, f17, f18, hle, hsm⟩ hl'
  by_cases hi : i < z_l.length
  · have e1 : decide ((i : Int) < (z_l.length : Int)) = true := decide_eq_true (by omega)
    obtain ⟨p, hpi⟩ : ∃ p, z_l[i]? = some p := ⟨_, List.getElem?_eq_getElem hi⟩
    have hp' := hr_l h'
    obtain ⟨b, o, rfl⟩ := hp'.addr (by omega)
    have hrd := hp'.get hl' hpi
    have ha : allOne [str p.1, str p.2] := prs_one [p]
    simp -dsimp -implicitDefEqProofs (disch := first | omega | assumption | (simp only [Option.isSome_some, Qt0]; done) | (simp only [UInt64.reduceToNat, UInt32.reduceToNat, UInt8.reduceToNat, List.length_cons, List.length_nil, List.length_append, Int.toNat_natCast] <;> omega)) only [Nat.reduceLT, Nat.reduceLeDiff, Nat.reduceEqDiff, ↓reduceIte, beq_self_eq_true, List.getD_cons_zero, List.getD_cons_succ, Int.reduceLT, Int.reduceLE, Int.reduceToNat, Int.reduceEq, Int.reduceNe, Option.bind_some, List.map_cons, List.map_nil, List.zip_cons_cons, List.zip_nil_left, List.append_nil, List.nil_append, List.cons_append, List.length_cons, List.length_nil, Nat.reduceAdd, UInt8.reduceOfNat, UInt16.reduceOfNat, UInt32.reduceOfNat, UInt64.reduceOfNat, UInt64.reduceToNat, UInt32.reduceToNat, UInt16.reduceToNat, UInt8.reduceToNat, Int.reduceAdd, Int.reduceSub, Int.reduceMul, Nat.reduceMul, ne_eq, eq_self, Option.isNone_some, Option.isNone_none, List.length_set, List.length_replicate, List.getElem?_cons_zero, List.getElem?_cons_succ, Qp0, Qe0, f0, f16, f17, f18, e1, hrd]
    refine fun xb hxb => ?_
    have hlx := (PH.Le.refl h').new xb ⟨[str p.1, str p.2], 2⟩ hxb
    have hmx : (h'.new xb ⟨[str p.1, str p.2], 2⟩).m xb = some ⟨[str p.1, str p.2], 2⟩ := by rw [PH.new_m, if_pos rfl]
    simp -dsimp -implicitDefEqProofs (disch := first | omega | assumption | (simp only [Option.isSome_some, Qt0]; done) | (simp only [UInt64.reduceToNat, UInt32.reduceToNat, UInt8.reduceToNat, List.length_cons, List.length_nil, List.length_append, Int.toNat_natCast] <;> omega)) only [Nat.reduceLT, Nat.reduceLeDiff, Nat.reduceEqDiff, ↓reduceIte, beq_self_eq_true, List.getD_cons_zero, List.getD_cons_succ, Int.reduceLT, Int.reduceLE, Int.reduceToNat, Int.reduceEq, Int.reduceNe, Option.bind_some, List.map_cons, List.map_nil, List.zip_cons_cons, List.zip_nil_left, List.append_nil, List.nil_append, List.cons_append, List.length_cons, List.length_nil, Nat.reduceAdd, UInt8.reduceOfNat, UInt16.reduceOfNat, UInt32.reduceOfNat, UInt64.reduceOfNat, UInt64.reduceToNat, UInt32.reduceToNat, UInt16.reduceToNat, UInt8.reduceToNat, Int.reduceAdd, Int.reduceSub, Int.reduceMul, Nat.reduceMul, ne_eq, eq_self, Option.isNone_some, Option.isNone_none, List.length_set, List.length_replicate, List.getElem?_cons_zero, List.getElem?_cons_succ, Qp0, Qe0, List.set_cons_zero, List.set_cons_succ, List.take_zero, List.drop_succ_cons, List.drop_zero, List.drop_nil, List.nil_append, List.append_nil, List.take_succ_cons, ite_true, PH.new_new]
    generalize h'.new xb ⟨[str p.1, str p.2], 2⟩ = g at *
    obtain ⟨b1, hb1⟩ : ∃ b, decide (1000 < (p.1.length : Int)) = b := ⟨_, rfl⟩
    obtain ⟨b2, hb2⟩ : ∃ b, decide (1000 < (p.2.length : Int)) = b := ⟨_, rfl⟩
    cases b1
    cases b2
    · have g1 := of_decide_eq_false hb1
      have g2 := of_decide_eq_false hb2
      simp -dsimp -implicitDefEqProofs (disch := first | omega | assumption | (simp only [Option.isSome_some, Qt0]; done) | (simp only [UInt64.reduceToNat, UInt32.reduceToNat, UInt8.reduceToNat, List.length_cons, List.length_nil, List.length_append, Int.toNat_natCast] <;> omega)) only [Nat.reduceLT, Nat.reduceLeDiff, Nat.reduceEqDiff, ↓reduceIte, beq_self_eq_true, List.getD_cons_zero, List.getD_cons_succ, Int.reduceLT, Int.reduceLE, Int.reduceToNat, Int.reduceEq, Int.reduceNe, Option.bind_some, List.map_cons, List.map_nil, List.zip_cons_cons, List.zip_nil_left, List.append_nil, List.nil_append, List.cons_append, List.length_cons, List.length_nil, Nat.reduceAdd, UInt8.reduceOfNat, UInt16.reduceOfNat, UInt32.reduceOfNat, UInt64.reduceOfNat, UInt64.reduceToNat, UInt32.reduceToNat, UInt16.reduceToNat, UInt8.reduceToNat, Int.reduceAdd, Int.reduceSub, Int.reduceMul, Nat.reduceMul, ne_eq, eq_self, Option.isNone_some, Option.isNone_none, List.length_set, List.length_replicate, List.getElem?_cons_zero, List.getElem?_cons_succ, Qp0, Qe0, gt_iff_lt, f0, f16, f17, f18, hb1, hb2, rd_M, rdM_some, hmx]
      refine ⟨n - 1, _, by omega, PH.Le.refl _, i + 1, by omega, by trivial, by trivial, by trivial, by simp, hle.trans hlx, fun q hq => ?_⟩
      rw [List.take_add_one, hpi] at hq
      rcases List.mem_append.1 hq with hq | hq
      · exact hsm q hq
      · simp only [Option.toList_some, List.mem_singleton] at hq
        subst hq
        omega
    all_goals
      simp -dsimp -implicitDefEqProofs (disch := first | omega | assumption | (simp only [Option.isSome_some, Qt0]; done) | (simp only [UInt64.reduceToNat, UInt32.reduceToNat, UInt8.reduceToNat, List.length_cons, List.length_nil, List.length_append, Int.toNat_natCast] <;> omega)) only [Nat.reduceLT, Nat.reduceLeDiff, Nat.reduceEqDiff, ↓reduceIte, beq_self_eq_true, List.getD_cons_zero, List.getD_cons_succ, Int.reduceLT, Int.reduceLE, Int.reduceToNat, Int.reduceEq, Int.reduceNe, Option.bind_some, List.map_cons, List.map_nil, List.zip_cons_cons, List.zip_nil_left, List.append_nil, List.nil_append, List.cons_append, List.length_cons, List.length_nil, Nat.reduceAdd, UInt8.reduceOfNat, UInt16.reduceOfNat, UInt32.reduceOfNat, UInt64.reduceOfNat, UInt64.reduceToNat, UInt32.reduceToNat, UInt16.reduceToNat, UInt8.reduceToNat, Int.reduceAdd, Int.reduceSub, Int.reduceMul, Nat.reduceMul, ne_eq, eq_self, Option.isNone_some, Option.isNone_none, List.length_set, List.length_replicate, List.getElem?_cons_zero, List.getElem?_cons_succ, Qp0, Qe0, gt_iff_lt, f0, f16, f17, f18, hb1, hb2, rd_M, rdM_some, hmx]
      exact ⟨_, (hle1.trans hle).trans hlx, by simp⟩
  · have e1 : decide ((i : Int) < (z_l.length : Int)) = false := decide_eq_false (by omega)
    rw [List.take_of_length_le (by omega)] at hsm
    have hfit : Fits z_l := ⟨by omega, fun p hp => by have := hsm p hp; omega⟩
    have hW := Lib.hid (write_any w h' A_l c_l z_l (hr_l h') hc_l hfit)
    simp -dsimp -implicitDefEqProofs (disch := first | omega | assumption | (simp only [Option.isSome_some, Qt0]; done) | (simp only [UInt64.reduceToNat, UInt32.reduceToNat, UInt8.reduceToNat, List.length_cons, List.length_nil, List.length_append, Int.toNat_natCast] <;> omega)) only [Nat.reduceLT, Nat.reduceLeDiff, Nat.reduceEqDiff, ↓reduceIte, beq_self_eq_true, List.getD_cons_zero, List.getD_cons_succ, Int.reduceLT, Int.reduceLE, Int.reduceToNat, Int.reduceEq, Int.reduceNe, Option.bind_some, List.map_cons, List.map_nil, List.zip_cons_cons, List.zip_nil_left, List.append_nil, List.nil_append, List.cons_append, List.length_cons, List.length_nil, Nat.reduceAdd, UInt8.reduceOfNat, UInt16.reduceOfNat, UInt32.reduceOfNat, UInt64.reduceOfNat, UInt64.reduceToNat, UInt32.reduceToNat, UInt16.reduceToNat, UInt8.reduceToNat, Int.reduceAdd, Int.reduceSub, Int.reduceMul, Nat.reduceMul, ne_eq, eq_self, Option.isNone_some, Option.isNone_none, List.length_set, List.length_replicate, List.getElem?_cons_zero, List.getElem?_cons_succ, Qp0, Qe0, f0, f16, f17, f18, e1]
    refine hW.out.mono ?_
    rintro v h2 ⟨hle2, hw⟩
    have hR := rwrite_any w h2 A_l c_l z_l (hr_l h2) hc_l hfit
    unfold wpair at hR
    have hle02 := (hle1.trans hle).trans hle2
    cases hb : firstBad z_l with
    | some k =>
      rw [hb] at hw hR
      obtain ⟨be, rfl, hbe⟩ := hw
      have hR := Lib.hid hR
      have e2 : decide ((k : Int) ≥ 0) = true := decide_eq_true (by omega)
      have hT := told_wrap w hg be (.code 1) (k : Nat) 1 h2 ⟨be, _, rfl, hbe, rfl⟩ rfl
      unfold errV at hT
      have hT := Lib.hid hT
      have es : decide (([] : List UInt8) = []) = true := decide_eq_true rfl
      unfold errV
      simp -dsimp -implicitDefEqProofs (disch := first | omega | assumption | (simp only [Option.isSome_some, Qt0]; done) | (simp only [UInt64.reduceToNat, UInt32.reduceToNat, UInt8.reduceToNat, List.length_cons, List.length_nil, List.length_append, Int.toNat_natCast] <;> omega)) only [Nat.reduceLT, Nat.reduceLeDiff, Nat.reduceEqDiff, ↓reduceIte, beq_self_eq_true, List.getD_cons_zero, List.getD_cons_succ, Int.reduceLT, Int.reduceLE, Int.reduceToNat, Int.reduceEq, Int.reduceNe, Option.bind_some, List.map_cons, List.map_nil, List.zip_cons_cons, List.zip_nil_left, List.append_nil, List.nil_append, List.cons_append, List.length_cons, List.length_nil, Nat.reduceAdd, UInt8.reduceOfNat, UInt16.reduceOfNat, UInt32.reduceOfNat, UInt64.reduceOfNat, UInt64.reduceToNat, UInt32.reduceToNat, UInt16.reduceToNat, UInt8.reduceToNat, Int.reduceAdd, Int.reduceSub, Int.reduceMul, Nat.reduceMul, ne_eq, eq_self, Option.isNone_some, Option.isNone_none, List.length_set, List.length_replicate, List.getElem?_cons_zero, List.getElem?_cons_succ, Qp0, Qe0, f0]
      refine hR.out.mono ?_
      rintro v hq ⟨rfl, hz⟩
      obtain rfl := hz.symm
      simp -dsimp -implicitDefEqProofs (disch := first | omega | assumption | (simp only [Option.isSome_some, Qt0]; done) | (simp only [UInt64.reduceToNat, UInt32.reduceToNat, UInt8.reduceToNat, List.length_cons, List.length_nil, List.length_append, Int.toNat_natCast] <;> omega)) only [Nat.reduceLT, Nat.reduceLeDiff, Nat.reduceEqDiff, ↓reduceIte, beq_self_eq_true, List.getD_cons_zero, List.getD_cons_succ, Int.reduceLT, Int.reduceLE, Int.reduceToNat, Int.reduceEq, Int.reduceNe, Option.bind_some, List.map_cons, List.map_nil, List.zip_cons_cons, List.zip_nil_left, List.append_nil, List.nil_append, List.cons_append, List.length_cons, List.length_nil, Nat.reduceAdd, UInt8.reduceOfNat, UInt16.reduceOfNat, UInt32.reduceOfNat, UInt64.reduceOfNat, UInt64.reduceToNat, UInt32.reduceToNat, UInt16.reduceToNat, UInt8.reduceToNat, Int.reduceAdd, Int.reduceSub, Int.reduceMul, Nat.reduceMul, ne_eq, eq_self, Option.isNone_some, Option.isNone_none, List.length_set, List.length_replicate, List.getElem?_cons_zero, List.getElem?_cons_succ, Qp0, Qe0, f0, e2, es]
      refine hT.out.mono ?_
      rintro v hq ⟨rfl, hz⟩
      obtain rfl := hz.symm
      simp -dsimp -implicitDefEqProofs (disch := first | omega | assumption | (simp only [Option.isSome_some, Qt0]; done) | (simp only [UInt64.reduceToNat, UInt32.reduceToNat, UInt8.reduceToNat, List.length_cons, List.length_nil, List.length_append, Int.toNat_natCast] <;> omega)) only [Nat.reduceLT, Nat.reduceLeDiff, Nat.reduceEqDiff, ↓reduceIte, beq_self_eq_true, List.getD_cons_zero, List.getD_cons_succ, Int.reduceLT, Int.reduceLE, Int.reduceToNat, Int.reduceEq, Int.reduceNe, Option.bind_some, List.map_cons, List.map_nil, List.zip_cons_cons, List.zip_nil_left, List.append_nil, List.nil_append, List.cons_append, List.length_cons, List.length_nil, Nat.reduceAdd, UInt8.reduceOfNat, UInt16.reduceOfNat, UInt32.reduceOfNat, UInt64.reduceOfNat, UInt64.reduceToNat, UInt32.reduceToNat, UInt16.reduceToNat, UInt8.reduceToNat, Int.reduceAdd, Int.reduceSub, Int.reduceMul, Nat.reduceMul, ne_eq, eq_self, Option.isNone_some, Option.isNone_none, List.length_set, List.length_replicate, List.getElem?_cons_zero, List.getElem?_cons_succ, Qp0, Qe0]
      exact ⟨_, hle02, by simp⟩
    | none =>
      have hall := firstBad_all _ hb
      rw [hb] at hw hR
      simp only at hw hR
      subst hw
      have hPh := parse_header hall
      have hHl := header_le (by omega) hsm
      obtain ⟨Hd, hHd⟩ : ∃ Hd, header z_l = Hd := ⟨_, rfl⟩
      rw [hHd] at hPh hHl hR
      rw [hHd]
      have hR := Lib.hid hR
      have hP := Lib.hid (parse_any Hd hHl w h2)
      simp -dsimp -implicitDefEqProofs (disch := first | omega | assumption | (simp only [Option.isSome_some, Qt0]; done) | (simp only [UInt64.reduceToNat, UInt32.reduceToNat, UInt8.reduceToNat, List.length_cons, List.length_nil, List.length_append, Int.toNat_natCast] <;> omega)) only [Nat.reduceLT, Nat.reduceLeDiff, Nat.reduceEqDiff, ↓reduceIte, beq_self_eq_true, List.getD_cons_zero, List.getD_cons_succ, Int.reduceLT, Int.reduceLE, Int.reduceToNat, Int.reduceEq, Int.reduceNe, Option.bind_some, List.map_cons, List.map_nil, List.zip_cons_cons, List.zip_nil_left, List.append_nil, List.nil_append, List.cons_append, List.length_cons, List.length_nil, Nat.reduceAdd, UInt8.reduceOfNat, UInt16.reduceOfNat, UInt32.reduceOfNat, UInt64.reduceOfNat, UInt64.reduceToNat, UInt32.reduceToNat, UInt16.reduceToNat, UInt8.reduceToNat, Int.reduceAdd, Int.reduceSub, Int.reduceMul, Nat.reduceMul, ne_eq, eq_self, Option.isNone_some, Option.isNone_none, List.length_set, List.length_replicate, List.getElem?_cons_zero, List.getElem?_cons_succ, Qp0, Qe0, f0]
      refine hR.out.mono ?_
      rintro v hq ⟨rfl, hz⟩
      obtain rfl := hz.symm
      simp -dsimp -implicitDefEqProofs (disch := first | omega | assumption | (simp only [Option.isSome_some, Qt0]; done) | (simp only [UInt64.reduceToNat, UInt32.reduceToNat, UInt8.reduceToNat, List.length_cons, List.length_nil, List.length_append, Int.toNat_natCast] <;> omega)) only [Nat.reduceLT, Nat.reduceLeDiff, Nat.reduceEqDiff, ↓reduceIte, beq_self_eq_true, List.getD_cons_zero, List.getD_cons_succ, Int.reduceLT, Int.reduceLE, Int.reduceToNat, Int.reduceEq, Int.reduceNe, Option.bind_some, List.map_cons, List.map_nil, List.zip_cons_cons, List.zip_nil_left, List.append_nil, List.nil_append, List.cons_append, List.length_cons, List.length_nil, Nat.reduceAdd, UInt8.reduceOfNat, UInt16.reduceOfNat, UInt32.reduceOfNat, UInt64.reduceOfNat, UInt64.reduceToNat, UInt32.reduceToNat, UInt16.reduceToNat, UInt8.reduceToNat, Int.reduceAdd, Int.reduceSub, Int.reduceMul, Nat.reduceMul, ne_eq, eq_self, Option.isNone_some, Option.isNone_none, List.length_set, List.length_replicate, List.getElem?_cons_zero, List.getElem?_cons_succ, Qp0, Qe0, f0]
      refine hP.out.mono ?_
      intro v h3 hv
      unfold PARSE at hv
      rw [hPh] at hv
      obtain ⟨v, rfl, how⟩ := hv
      obtain ⟨B, d, rfl, hd⟩ := how.own.len
      have hS := rsame_any w h3 A_l B c_l d z_l z_l (hr_l h3) (Prs.own how.own) hc_l hd (by omega)
      have es := decide_eq_true (show z_l = z_l from rfl)
      rw [es] at hS
      have hS := Lib.hid hS
      have ess := decide_eq_true (show Hd = Hd from rfl)
      simp -dsimp -implicitDefEqProofs (disch := first | omega | assumption | (simp only [Option.isSome_some, Qt0]; done) | (simp only [UInt64.reduceToNat, UInt32.reduceToNat, UInt8.reduceToNat, List.length_cons, List.length_nil, List.length_append, Int.toNat_natCast] <;> omega)) only [Nat.reduceLT, Nat.reduceLeDiff, Nat.reduceEqDiff, ↓reduceIte, beq_self_eq_true, List.getD_cons_zero, List.getD_cons_succ, Int.reduceLT, Int.reduceLE, Int.reduceToNat, Int.reduceEq, Int.reduceNe, Option.bind_some, List.map_cons, List.map_nil, List.zip_cons_cons, List.zip_nil_left, List.append_nil, List.nil_append, List.cons_append, List.length_cons, List.length_nil, Nat.reduceAdd, UInt8.reduceOfNat, UInt16.reduceOfNat, UInt32.reduceOfNat, UInt64.reduceOfNat, UInt64.reduceToNat, UInt32.reduceToNat, UInt16.reduceToNat, UInt8.reduceToNat, Int.reduceAdd, Int.reduceSub, Int.reduceMul, Nat.reduceMul, ne_eq, eq_self, Option.isNone_some, Option.isNone_none, List.length_set, List.length_replicate, List.getElem?_cons_zero, List.getElem?_cons_succ, Qp0, Qe0, f0, ess]
      refine hS.out.mono ?_
      rintro v hq ⟨rfl, hz⟩
      obtain rfl := hz.symm
      simp -dsimp -implicitDefEqProofs (disch := first | omega | assumption | (simp only [Option.isSome_some, Qt0]; done) | (simp only [UInt64.reduceToNat, UInt32.reduceToNat, UInt8.reduceToNat, List.length_cons, List.length_nil, List.length_append, Int.toNat_natCast] <;> omega)) only [Nat.reduceLT, Nat.reduceLeDiff, Nat.reduceEqDiff, ↓reduceIte, beq_self_eq_true, List.getD_cons_zero, List.getD_cons_succ, Int.reduceLT, Int.reduceLE, Int.reduceToNat, Int.reduceEq, Int.reduceNe, Option.bind_some, List.map_cons, List.map_nil, List.zip_cons_cons, List.zip_nil_left, List.append_nil, List.nil_append, List.cons_append, List.length_cons, List.length_nil, Nat.reduceAdd, UInt8.reduceOfNat, UInt16.reduceOfNat, UInt32.reduceOfNat, UInt64.reduceOfNat, UInt64.reduceToNat, UInt32.reduceToNat, UInt16.reduceToNat, UInt8.reduceToNat, Int.reduceAdd, Int.reduceSub, Int.reduceMul, Nat.reduceMul, ne_eq, eq_self, Option.isNone_some, Option.isNone_none, List.length_set, List.length_replicate, List.getElem?_cons_zero, List.getElem?_cons_succ, Qp0, Qe0, ess]
      exact ⟨_, hle02.trans how.le, by simp⟩
set_option maxRecDepth 100000 in
theorem liftedCookieWrites (os : Os) (started : os.Started) (H : Type) (enc : TypeId × Value → H) :
    ReturnsInHanded {} Tryd.checked os 5 .any (fun w args => (Rows.cookieWritesSpec.pre enc Tryd.prog Tryd.f5 [] false w args ∧ laidMetH Tryd.prog Door.laid w) ∧ sizedMet enc Tryd.prog Tryd.f5 (OpenSpec.ofChange Rows.cookieWritesSpec) false w args) (Rows.cookieWritesSpec.post enc Tryd.prog Tryd.f5 false true false false) := by
  refine returnsInHanded_of_change_and (C := Tryd.checked) (X := fun w _ => laidMetH Tryd.prog Door.laid w) (fun _ _ _ hh h => h.of_heap hh) own started (by kernel_rfl) Tryd.func5
    (ChangeSpec.witness_at (enc := enc) (C := Tryd.checked) (os := os) (X := fun w _ => laidMetH Tryd.prog Door.laid w) false (Door.laidWorld os) #[.slice none 0 0] 8 rfl (by kernel_rfl) (by kernel_rfl) (by kernel_rfl) (by kernel_rfl) (by kernel_rfl) (Door.laidWorld_met os _)) ?_
  intro W base args ds gs before hval0 hW _ hsz0 hL _
  have hsz : (DataW.weightsEach Tryd.prog (Tryd.f5.params.toList ++ Rows.cookieWritesSpec.plain.varTypes Tryd.prog) (ds ++ gs)).all (· ≤ reachBytes) = true := hsz0
  have hval : ∀ (j : Nat) t v, Tryd.f5.params[j]? = some t → args[j]? = some v → Value.okWide Tryd.prog W .any base t v := hval0
  have hW' := hW
  obtain ⟨p, q, hA0, hV, rfl, _, _⟩ := hW
  have hA : DataW.TrodAll enc Tryd.prog W 0 (fun _ => true) true Tryd.f5.params.toList args.toList ds p := hA0
  rw [Tryd.params5] at hA hval hsz
  obtain ⟨v0, d0, rfl, rfl, h0⟩ := trodAll_one hA
  obtain ⟨rfl, _⟩ := trodVars_none hV
  obtain ⟨A0, c0, z0, rfl, hc0, hr0⟩ := open_pairs (hval 0 _ v0 rfl rfl) h0
  refine (walk_CookieWrites A0 c0 z0 W hc0 hr0 (Door.handle_of_laid hL)).mono fun en W' ⟨he, hb⟩ => ?_
  subst he
  exact ⟨_, rfl, law_post (tb := 4) laidOut hW' rfl rfl rfl rfl Tryd.underlying4 (by intro t ht; revert t; exact of_decide_eq_true (by kernel_rfl)) (by kernel_rfl) hb⟩

theorem bareCookieWrites : Rows.CookieWritesSaid :=
  OpenClaim.holds_of_wide 5 Tryd.f5 rfl rfl rfl rfl rfl rfl rfl ⟨rfl, rfl, rfl, rfl, rfl⟩ rfl rfl rfl rfl rfl (by kernel_rfl) Tryd.func5 (by kernel_rfl)
    (of_decide_eq_true (by kernel_rfl)) (by unfold Func.isWrapper; first | (rw [if_pos (by decide +kernel)]; kernel_rfl) | (rw [if_neg (by decide +kernel)]; exact ⟨rfl, rfl⟩))
    (fun os started H enc _ => liftedCookieWrites os started H enc)
set_option maxRecDepth 100000 in
theorem provedCookieWrites : Rows.CookieWritesCardSaid :=
  Claim7.holds_tied_plain_at .later [] [.handle] true _ true
    bareCookieWrites (fun _ h => by cases h) (by kernel_rfl) (fun _ h => by cases h) cookieWrites_row_tie rfl ⟨rfl, rfl⟩ (by kernel_rfl) rfl
    (fun f fn hf hfn => by
      obtain rfl : f = 5 := Option.some.inj ((show Tryd.prog.funcNamed "sojourn/sojournlaw13.CookieWrites" = some 5 by kernel_rfl).symm.trans hf) |>.symm
      obtain rfl : fn = Tryd.f5 := (Option.some.inj (Tryd.func5.symm.trans hfn)).symm
      exact ⟨by kernel_rfl, fun j t ht => by
        rw [Tryd.params5] at ht
        rcases j with _ | j <;> first | (simp at ht; done) | (simp at ht; subst ht; kernel_rfl)⟩)
    (by kernel_rfl)
#print axioms provedCookieWrites


end Go.Proofs.YtefkgpcdabmkkaaDoor.CkW
