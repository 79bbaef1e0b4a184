/- The reader's functions: Text, Flag, Vec, End. No condition. -/
import Derived.Test.YtjpfablpkekdgaaDoorWr3
namespace Go.Proofs.YtjpfablpkekdgaaDoor
set_option linter.unusedVariables false
set_option linter.unusedSimpArgs false
open Go.RowKit Px Wr
theorem info_int : (Tryd.prog.info? 3).map (fun i => (i.zero, i.size, i.bytes)) = some (some (.int .i64 0), 1, 8) := by kernel_rfl
theorem el_vec : El Tryd.prog 52 3 (.int .i64 0) 1 8 := ⟨Tryd.underlying52, info_parts info_int, rfl, by decide⟩
theorem el_ints : El Tryd.prog 51 3 (.int .i64 0) 1 8 := ⟨Tryd.underlying51, info_parts info_int, rfl, by decide⟩
def ints (l : List Int) : List Value := l.map (Value.int .i64)
theorem ints_one (l : List Int) : allOne (ints l) := by
  intro v hv
  obtain ⟨s, _, rfl⟩ := List.mem_map.1 hv
  rfl
theorem ints_snoc (l : List Int) (x : Int) : ints l ++ [.int .i64 x] = ints (l ++ [x]) := by simp [ints]
theorem ints_length (l : List Int) : (ints l).length = l.length := by simp [ints]
def txtS (most : Int) (len : Nat) (st : St) : List UInt8 × St := st.step (fun t => txtP t most) [] len
def flagS (len : Nat) (st : St) : Bool × St := st.step flagP false len
def vecS (len : Nat) (st : St) : List Int × St := st.step vecP [] len
theorem numS_ok {most : Int} {t u : List UInt8} {n : Nat} (len : Nat) (h : numP t most = some (n, u)) : numS most len (.ok t) = (n, .ok u) := by
  unfold numS St.step; simp [h]
theorem txtS_bad (most : Int) (len p : Nat) : txtS most len (.bad p) = ([], .bad p) := rfl
theorem txtS_no {most : Int} {t : List UInt8} (len : Nat) (h : numP t most = none) : txtS most len (.ok t) = ([], .bad (len - t.length)) := by
  unfold txtS St.step txtP; simp [h]
theorem txtS_long {most : Int} {t u : List UInt8} {n : Nat} (len : Nat) (h : numP t most = some (n, u)) (hl : u.length < n) : txtS most len (.ok t) = ([], .bad (len - t.length)) := by
  unfold txtS St.step txtP; simp [h, hl]
theorem txtS_ok {most : Int} {t u : List UInt8} {n : Nat} (len : Nat) (h : numP t most = some (n, u)) (hl : ¬ u.length < n) : txtS most len (.ok t) = (u.take n, .ok (u.drop n)) := by
  unfold txtS St.step txtP; simp [h, hl]
theorem flagS_eq (len : Nat) (st : St) : flagS len st = (decide (((numS 1 len st).1 : Int) = 1), (numS 1 len st).2) := by
  cases st with
  | bad p => rfl
  | ok t =>
    cases h : numP t 1 with
    | none => unfold flagS numS St.step flagP; simp [h]
    | some p =>
      unfold flagS numS St.step flagP; simp [h]; omega
theorem vecS_no {t : List UInt8} (len : Nat) (h : numP t 16 = none) : vecS len (.ok t) = ([], .bad (len - t.length)) := by
  unfold vecS St.step vecP; simp [h]
theorem vecS_no2 {t u : List UInt8} {n : Nat} (len : Nat) (h : numP t 16 = some (n, u)) (h2 : numsP n u = none) : vecS len (.ok t) = ([], .bad (len - t.length)) := by
  unfold vecS St.step vecP; simp [h, h2]
theorem vecS_no3 {t u w : List UInt8} {n : Nat} {v : List Int} (len : Nat) (h : numP t 16 = some (n, u)) (h2 : numsP n u = some (v, w)) (h3 : trim v big = false) : vecS len (.ok t) = ([], .bad (len - t.length)) := by
  unfold vecS St.step vecP; simp [h, h2, h3]
theorem vecS_ok {t u w : List UInt8} {n : Nat} {v : List Int} (len : Nat) (h : numP t 16 = some (n, u)) (h2 : numsP n u = some (v, w)) (h3 : trim v big = true) : vecS len (.ok t) = (v, .ok w) := by
  unfold vecS St.step vecP; simp [h, h2, h3]
section
variable (w0 : World) (h : PH) (ib : Nat) (s : List UInt8)
set_option maxRecDepth 20000 in
set_option maxHeartbeats 2000000 in
theorem itext_any (hs : s.length ≤ 1000000000) (most : Int) (st : St) (hi : IS h ib s st) : PCalls Tryd.prog w0 18 [.pointer (some ⟨ib, 0, none⟩), .int .i64 most] h fun r h' => r = str (txtS most s.length st).1 ∧ IS h' ib s (txtS most s.length st).2 ∧ Chg (· = ib) h h' := by
  refine PCalls_body Tryd.func18 (by kernel_rfl) rfl _ Tryd.ntmps18 (by kernel_rfl) (by kernel_rfl) _ Tryd.results18 ?_
  have hB := Lib.hid (bad_any w0 h ib s st hi)
  cases st with
  | bad p =>
    have hb : St.isBad (.bad p) = true := rfl
    rw [txtS_bad]
    simp -dsimp -implicitDefEqProofs (disch := first | omega | assumption | (simp only [Option.isSome_some, Qt0]; done) | (simp only [UInt64.reduceToNat, UInt32.reduceToNat, UInt8.reduceToNat, List.length_cons, List.length_nil, List.length_append, Int.toNat_natCast] <;> omega)) only [Nat.reduceLT, Nat.reduceLeDiff, Nat.reduceEqDiff, ↓reduceIte, beq_self_eq_true, List.getD_cons_zero, List.getD_cons_succ, Int.reduceLT, Int.reduceLE, Int.reduceToNat, Int.reduceEq, Int.reduceNe, Option.bind_some, List.map_cons, List.map_nil, List.zip_cons_cons, List.zip_nil_left, List.append_nil, List.nil_append, List.cons_append, List.length_cons, List.length_nil, Nat.reduceAdd, UInt8.reduceOfNat, UInt16.reduceOfNat, UInt32.reduceOfNat, UInt64.reduceOfNat, UInt64.reduceToNat, UInt32.reduceToNat, UInt16.reduceToNat, UInt8.reduceToNat, Int.reduceAdd, Int.reduceSub, Int.reduceMul, Nat.reduceMul, ne_eq, eq_self, Option.isNone_some, Option.isNone_none, List.length_set, List.length_replicate, List.getElem?_cons_zero, List.getElem?_cons_succ, Qp0, Qe0]
    refine hB.out.mono ?_
    rintro v hq ⟨rfl, hz⟩
    obtain rfl := hz.symm
    simp -dsimp -implicitDefEqProofs (disch := first | omega | assumption | (simp only [Option.isSome_some, Qt0]; done) | (simp only [UInt64.reduceToNat, UInt32.reduceToNat, UInt8.reduceToNat, List.length_cons, List.length_nil, List.length_append, Int.toNat_natCast] <;> omega)) only [Nat.reduceLT, Nat.reduceLeDiff, Nat.reduceEqDiff, ↓reduceIte, beq_self_eq_true, List.getD_cons_zero, List.getD_cons_succ, Int.reduceLT, Int.reduceLE, Int.reduceToNat, Int.reduceEq, Int.reduceNe, Option.bind_some, List.map_cons, List.map_nil, List.zip_cons_cons, List.zip_nil_left, List.append_nil, List.nil_append, List.cons_append, List.length_cons, List.length_nil, Nat.reduceAdd, UInt8.reduceOfNat, UInt16.reduceOfNat, UInt32.reduceOfNat, UInt64.reduceOfNat, UInt64.reduceToNat, UInt32.reduceToNat, UInt16.reduceToNat, UInt8.reduceToNat, Int.reduceAdd, Int.reduceSub, Int.reduceMul, Nat.reduceMul, ne_eq, eq_self, Option.isNone_some, Option.isNone_none, List.length_set, List.length_replicate, List.getElem?_cons_zero, List.getElem?_cons_succ, Qp0, Qe0, hb]
    exact ⟨_, PH.Le.refl _, by first | rfl | trivial, hi, Chg.refl _ _⟩
  | ok t =>
    have hN := inum_any w0 h ib s hs most _ hi
    obtain ⟨a0, h1, rfl, h3⟩ := hi
    have hb : St.isBad (.ok (s.drop a0)) = false := rfl
    have hfl : s.length - (s.drop a0).length = a0 := by simp; omega
    cases hp : numP (s.drop a0) most with
    | none =>
      rw [txtS_no _ hp, hfl]
      rw [numS_fail _ hp, hfl] at hN
      have hN := Lib.hid hN
      simp -dsimp -implicitDefEqProofs (disch := first | omega | assumption | (simp only [Option.isSome_some, Qt0]; done) | (simp only [UInt64.reduceToNat, UInt32.reduceToNat, UInt8.reduceToNat, List.length_cons, List.length_nil, List.length_append, Int.toNat_natCast] <;> omega)) only [Nat.reduceLT, Nat.reduceLeDiff, Nat.reduceEqDiff, ↓reduceIte, beq_self_eq_true, List.getD_cons_zero, List.getD_cons_succ, Int.reduceLT, Int.reduceLE, Int.reduceToNat, Int.reduceEq, Int.reduceNe, Option.bind_some, List.map_cons, List.map_nil, List.zip_cons_cons, List.zip_nil_left, List.append_nil, List.nil_append, List.cons_append, List.length_cons, List.length_nil, Nat.reduceAdd, UInt8.reduceOfNat, UInt16.reduceOfNat, UInt32.reduceOfNat, UInt64.reduceOfNat, UInt64.reduceToNat, UInt32.reduceToNat, UInt16.reduceToNat, UInt8.reduceToNat, Int.reduceAdd, Int.reduceSub, Int.reduceMul, Nat.reduceMul, ne_eq, eq_self, Option.isNone_some, Option.isNone_none, List.length_set, List.length_replicate, List.getElem?_cons_zero, List.getElem?_cons_succ, Qp0, Qe0]
      refine hB.out.mono ?_
      rintro v hq ⟨rfl, hz⟩
      obtain rfl := hz.symm
      simp -dsimp -implicitDefEqProofs (disch := first | omega | assumption | (simp only [Option.isSome_some, Qt0]; done) | (simp only [UInt64.reduceToNat, UInt32.reduceToNat, UInt8.reduceToNat, List.length_cons, List.length_nil, List.length_append, Int.toNat_natCast] <;> omega)) only [Nat.reduceLT, Nat.reduceLeDiff, Nat.reduceEqDiff, ↓reduceIte, beq_self_eq_true, List.getD_cons_zero, List.getD_cons_succ, Int.reduceLT, Int.reduceLE, Int.reduceToNat, Int.reduceEq, Int.reduceNe, Option.bind_some, List.map_cons, List.map_nil, List.zip_cons_cons, List.zip_nil_left, List.append_nil, List.nil_append, List.cons_append, List.length_cons, List.length_nil, Nat.reduceAdd, UInt8.reduceOfNat, UInt16.reduceOfNat, UInt32.reduceOfNat, UInt64.reduceOfNat, UInt64.reduceToNat, UInt32.reduceToNat, UInt16.reduceToNat, UInt8.reduceToNat, Int.reduceAdd, Int.reduceSub, Int.reduceMul, Nat.reduceMul, ne_eq, eq_self, Option.isNone_some, Option.isNone_none, List.length_set, List.length_replicate, List.getElem?_cons_zero, List.getElem?_cons_succ, Qp0, Qe0, hb, rd_M, rdM_some, h3]
      refine hN.out.mono ?_
      rintro v h2 ⟨rfl, hi2, hc2⟩
      have hB2 := Lib.hid (bad_any w0 h2 ib s _ hi2)
      have hW := Lib.hid (wrongI_bad w0 h2 ib s a0 a0 hi2)
      have hb2 : St.isBad (.bad a0) = true := rfl
      simp -dsimp -implicitDefEqProofs (disch := first | omega | assumption | (simp only [Option.isSome_some, Qt0]; done) | (simp only [UInt64.reduceToNat, UInt32.reduceToNat, UInt8.reduceToNat, List.length_cons, List.length_nil, List.length_append, Int.toNat_natCast] <;> omega)) only [Nat.reduceLT, Nat.reduceLeDiff, Nat.reduceEqDiff, ↓reduceIte, beq_self_eq_true, List.getD_cons_zero, List.getD_cons_succ, Int.reduceLT, Int.reduceLE, Int.reduceToNat, Int.reduceEq, Int.reduceNe, Option.bind_some, List.map_cons, List.map_nil, List.zip_cons_cons, List.zip_nil_left, List.append_nil, List.nil_append, List.cons_append, List.length_cons, List.length_nil, Nat.reduceAdd, UInt8.reduceOfNat, UInt16.reduceOfNat, UInt32.reduceOfNat, UInt64.reduceOfNat, UInt64.reduceToNat, UInt32.reduceToNat, UInt16.reduceToNat, UInt8.reduceToNat, Int.reduceAdd, Int.reduceSub, Int.reduceMul, Nat.reduceMul, ne_eq, eq_self, Option.isNone_some, Option.isNone_none, List.length_set, List.length_replicate, List.getElem?_cons_zero, List.getElem?_cons_succ, Qp0, Qe0]
      refine PW_plan [0, 1, 2, 3, 4, 5, 6, 7, 8, 9, 10, 11, 12, 13, 14, 15] h2 (by kernel_rfl) (by decide +kernel) (by kernel_rfl) (by kernel_rfl) (by kernel_rfl) (fun c f h hq => by simp only [thenC_panic, thenK_panic, inBlk_panic, thenN_panic, vcRet_panic] at hq) (PH.Le.refl _).sub ?_
      simp -dsimp -implicitDefEqProofs (disch := first | omega | assumption | (simp only [Option.isSome_some, Qt0]; done) | (simp only [UInt64.reduceToNat, UInt32.reduceToNat, UInt8.reduceToNat, List.length_cons, List.length_nil, List.length_append, Int.toNat_natCast] <;> omega)) only [Nat.reduceLT, Nat.reduceLeDiff, Nat.reduceEqDiff, ↓reduceIte, beq_self_eq_true, List.getD_cons_zero, List.getD_cons_succ, Int.reduceLT, Int.reduceLE, Int.reduceToNat, Int.reduceEq, Int.reduceNe, Option.bind_some, List.map_cons, List.map_nil, List.zip_cons_cons, List.zip_nil_left, List.append_nil, List.nil_append, List.cons_append, List.length_cons, List.length_nil, Nat.reduceAdd, UInt8.reduceOfNat, UInt16.reduceOfNat, UInt32.reduceOfNat, UInt64.reduceOfNat, UInt64.reduceToNat, UInt32.reduceToNat, UInt16.reduceToNat, UInt8.reduceToNat, Int.reduceAdd, Int.reduceSub, Int.reduceMul, Nat.reduceMul, ne_eq, eq_self, Option.isNone_some, Option.isNone_none, List.length_set, List.length_replicate, List.getElem?_cons_zero, List.getElem?_cons_succ, Qp0, Qe0]
      refine hB2.out.mono ?_
      rintro v hq ⟨rfl, hz⟩
      obtain rfl := hz.symm
      refine ⟨(PH.Le.refl _).sub, ?_⟩
      simp -dsimp -implicitDefEqProofs (disch := first | omega | assumption | (simp only [Option.isSome_some, Qt0]; done) | (simp only [UInt64.reduceToNat, UInt32.reduceToNat, UInt8.reduceToNat, List.length_cons, List.length_nil, List.length_append, Int.toNat_natCast] <;> omega)) only [Nat.reduceLT, Nat.reduceLeDiff, Nat.reduceEqDiff, ↓reduceIte, beq_self_eq_true, List.getD_cons_zero, List.getD_cons_succ, Int.reduceLT, Int.reduceLE, Int.reduceToNat, Int.reduceEq, Int.reduceNe, Option.bind_some, List.map_cons, List.map_nil, List.zip_cons_cons, List.zip_nil_left, List.append_nil, List.nil_append, List.cons_append, List.length_cons, List.length_nil, Nat.reduceAdd, UInt8.reduceOfNat, UInt16.reduceOfNat, UInt32.reduceOfNat, UInt64.reduceOfNat, UInt64.reduceToNat, UInt32.reduceToNat, UInt16.reduceToNat, UInt8.reduceToNat, Int.reduceAdd, Int.reduceSub, Int.reduceMul, Nat.reduceMul, ne_eq, eq_self, Option.isNone_some, Option.isNone_none, List.length_set, List.length_replicate, List.getElem?_cons_zero, List.getElem?_cons_succ, Qp0, Qe0, hb2]
      refine hW.out.mono ?_
      rintro v hq hz
      obtain rfl := hz.symm
      simp -dsimp -implicitDefEqProofs (disch := first | omega | assumption | (simp only [Option.isSome_some, Qt0]; done) | (simp only [UInt64.reduceToNat, UInt32.reduceToNat, UInt8.reduceToNat, List.length_cons, List.length_nil, List.length_append, Int.toNat_natCast] <;> omega)) only [Nat.reduceLT, Nat.reduceLeDiff, Nat.reduceEqDiff, ↓reduceIte, beq_self_eq_true, List.getD_cons_zero, List.getD_cons_succ, Int.reduceLT, Int.reduceLE, Int.reduceToNat, Int.reduceEq, Int.reduceNe, Option.bind_some, List.map_cons, List.map_nil, List.zip_cons_cons, List.zip_nil_left, List.append_nil, List.nil_append, List.cons_append, List.length_cons, List.length_nil, Nat.reduceAdd, UInt8.reduceOfNat, UInt16.reduceOfNat, UInt32.reduceOfNat, UInt64.reduceOfNat, UInt64.reduceToNat, UInt32.reduceToNat, UInt16.reduceToNat, UInt8.reduceToNat, Int.reduceAdd, Int.reduceSub, Int.reduceMul, Nat.reduceMul, ne_eq, eq_self, Option.isNone_some, Option.isNone_none, List.length_set, List.length_replicate, List.getElem?_cons_zero, List.getElem?_cons_succ, Qp0, Qe0]
      exact ⟨_, PH.Le.refl _, by first | rfl | trivial, hi2, hc2⟩
    | some p =>
      obtain ⟨n, u⟩ := p
      rw [numS_ok _ hp] at hN
      have hN := Lib.hid hN
      obtain ⟨hpi, hpm, hpt⟩ := numP_inv hp
      unfold top62 at hpt
      have hul := congrArg List.length hpi
      simp only [List.length_drop, List.length_append] at hul
      simp -dsimp -implicitDefEqProofs (disch := first | omega | assumption | (simp only [Option.isSome_some, Qt0]; done) | (simp only [UInt64.reduceToNat, UInt32.reduceToNat, UInt8.reduceToNat, List.length_cons, List.length_nil, List.length_append, Int.toNat_natCast] <;> omega)) only [Nat.reduceLT, Nat.reduceLeDiff, Nat.reduceEqDiff, ↓reduceIte, beq_self_eq_true, List.getD_cons_zero, List.getD_cons_succ, Int.reduceLT, Int.reduceLE, Int.reduceToNat, Int.reduceEq, Int.reduceNe, Option.bind_some, List.map_cons, List.map_nil, List.zip_cons_cons, List.zip_nil_left, List.append_nil, List.nil_append, List.cons_append, List.length_cons, List.length_nil, Nat.reduceAdd, UInt8.reduceOfNat, UInt16.reduceOfNat, UInt32.reduceOfNat, UInt64.reduceOfNat, UInt64.reduceToNat, UInt32.reduceToNat, UInt16.reduceToNat, UInt8.reduceToNat, Int.reduceAdd, Int.reduceSub, Int.reduceMul, Nat.reduceMul, ne_eq, eq_self, Option.isNone_some, Option.isNone_none, List.length_set, List.length_replicate, List.getElem?_cons_zero, List.getElem?_cons_succ, Qp0, Qe0]
      refine hB.out.mono ?_
      rintro v hq ⟨rfl, hz⟩
      obtain rfl := hz.symm
      simp -dsimp -implicitDefEqProofs (disch := first | omega | assumption | (simp only [Option.isSome_some, Qt0]; done) | (simp only [UInt64.reduceToNat, UInt32.reduceToNat, UInt8.reduceToNat, List.length_cons, List.length_nil, List.length_append, Int.toNat_natCast] <;> omega)) only [Nat.reduceLT, Nat.reduceLeDiff, Nat.reduceEqDiff, ↓reduceIte, beq_self_eq_true, List.getD_cons_zero, List.getD_cons_succ, Int.reduceLT, Int.reduceLE, Int.reduceToNat, Int.reduceEq, Int.reduceNe, Option.bind_some, List.map_cons, List.map_nil, List.zip_cons_cons, List.zip_nil_left, List.append_nil, List.nil_append, List.cons_append, List.length_cons, List.length_nil, Nat.reduceAdd, UInt8.reduceOfNat, UInt16.reduceOfNat, UInt32.reduceOfNat, UInt64.reduceOfNat, UInt64.reduceToNat, UInt32.reduceToNat, UInt16.reduceToNat, UInt8.reduceToNat, Int.reduceAdd, Int.reduceSub, Int.reduceMul, Nat.reduceMul, ne_eq, eq_self, Option.isNone_some, Option.isNone_none, List.length_set, List.length_replicate, List.getElem?_cons_zero, List.getElem?_cons_succ, Qp0, Qe0, hb, rd_M, rdM_some, h3]
      refine hN.out.mono ?_
      rintro v h2 ⟨rfl, hi2, hc2⟩
      have hB2 := Lib.hid (bad_any w0 h2 ib s _ hi2)
      obtain ⟨a1, g1, g2, g3⟩ := hi2
      have hb2 : St.isBad (.ok u) = false := rfl
      have hu : u.length = s.length - a1 := by rw [← g2]; simp
      by_cases hl : u.length < n
      · have e1 : decide ((n : Int) > (s.length : Int) - (a1 : Int)) = true := decide_eq_true (by omega)
        have hW := Lib.hid (wrongI_ok w0 h2 ib s a1 a0 g1 g3)
        rw [txtS_long _ hp hl, hfl]
        simp -dsimp -implicitDefEqProofs (disch := first | omega | assumption | (simp only [Option.isSome_some, Qt0]; done) | (simp only [UInt64.reduceToNat, UInt32.reduceToNat, UInt8.reduceToNat, List.length_cons, List.length_nil, List.length_append, Int.toNat_natCast] <;> omega)) only [Nat.reduceLT, Nat.reduceLeDiff, Nat.reduceEqDiff, ↓reduceIte, beq_self_eq_true, List.getD_cons_zero, List.getD_cons_succ, Int.reduceLT, Int.reduceLE, Int.reduceToNat, Int.reduceEq, Int.reduceNe, Option.bind_some, List.map_cons, List.map_nil, List.zip_cons_cons, List.zip_nil_left, List.append_nil, List.nil_append, List.cons_append, List.length_cons, List.length_nil, Nat.reduceAdd, UInt8.reduceOfNat, UInt16.reduceOfNat, UInt32.reduceOfNat, UInt64.reduceOfNat, UInt64.reduceToNat, UInt32.reduceToNat, UInt16.reduceToNat, UInt8.reduceToNat, Int.reduceAdd, Int.reduceSub, Int.reduceMul, Nat.reduceMul, ne_eq, eq_self, Option.isNone_some, Option.isNone_none, List.length_set, List.length_replicate, List.getElem?_cons_zero, List.getElem?_cons_succ, Qp0, Qe0]
        refine PW_plan [0, 1, 2, 3, 4, 5, 6, 7, 8, 9, 10, 11, 12, 13, 14, 15] h2 (by kernel_rfl) (by decide +kernel) (by kernel_rfl) (by kernel_rfl) (by kernel_rfl) (fun c f h hq => by simp only [thenC_panic, thenK_panic, inBlk_panic, thenN_panic, vcRet_panic] at hq) (PH.Le.refl _).sub ?_
        simp -dsimp -implicitDefEqProofs (disch := first | omega | assumption | (simp only [Option.isSome_some, Qt0]; done) | (simp only [UInt64.reduceToNat, UInt32.reduceToNat, UInt8.reduceToNat, List.length_cons, List.length_nil, List.length_append, Int.toNat_natCast] <;> omega)) only [Nat.reduceLT, Nat.reduceLeDiff, Nat.reduceEqDiff, ↓reduceIte, beq_self_eq_true, List.getD_cons_zero, List.getD_cons_succ, Int.reduceLT, Int.reduceLE, Int.reduceToNat, Int.reduceEq, Int.reduceNe, Option.bind_some, List.map_cons, List.map_nil, List.zip_cons_cons, List.zip_nil_left, List.append_nil, List.nil_append, List.cons_append, List.length_cons, List.length_nil, Nat.reduceAdd, UInt8.reduceOfNat, UInt16.reduceOfNat, UInt32.reduceOfNat, UInt64.reduceOfNat, UInt64.reduceToNat, UInt32.reduceToNat, UInt16.reduceToNat, UInt8.reduceToNat, Int.reduceAdd, Int.reduceSub, Int.reduceMul, Nat.reduceMul, ne_eq, eq_self, Option.isNone_some, Option.isNone_none, List.length_set, List.length_replicate, List.getElem?_cons_zero, List.getElem?_cons_succ, Qp0, Qe0]
        refine hB2.out.mono ?_
        rintro v hq ⟨rfl, hz⟩
        obtain rfl := hz.symm
        refine ⟨(PH.Le.refl _).sub, ?_⟩
        simp -dsimp -implicitDefEqProofs (disch := first | omega | assumption | (simp only [Option.isSome_some, Qt0]; done) | (simp only [UInt64.reduceToNat, UInt32.reduceToNat, UInt8.reduceToNat, List.length_cons, List.length_nil, List.length_append, Int.toNat_natCast] <;> omega)) only [Nat.reduceLT, Nat.reduceLeDiff, Nat.reduceEqDiff, ↓reduceIte, beq_self_eq_true, List.getD_cons_zero, List.getD_cons_succ, Int.reduceLT, Int.reduceLE, Int.reduceToNat, Int.reduceEq, Int.reduceNe, Option.bind_some, List.map_cons, List.map_nil, List.zip_cons_cons, List.zip_nil_left, List.append_nil, List.nil_append, List.cons_append, List.length_cons, List.length_nil, Nat.reduceAdd, UInt8.reduceOfNat, UInt16.reduceOfNat, UInt32.reduceOfNat, UInt64.reduceOfNat, UInt64.reduceToNat, UInt32.reduceToNat, UInt16.reduceToNat, UInt8.reduceToNat, Int.reduceAdd, Int.reduceSub, Int.reduceMul, Nat.reduceMul, ne_eq, eq_self, Option.isNone_some, Option.isNone_none, List.length_set, List.length_replicate, List.getElem?_cons_zero, List.getElem?_cons_succ, Qp0, Qe0, hb2, rd_M, rdM_some, g3, e1]
        refine hW.out.mono ?_
        rintro v hq ⟨hi3, hc3⟩
        simp -dsimp -implicitDefEqProofs (disch := first | omega | assumption | (simp only [Option.isSome_some, Qt0]; done) | (simp only [UInt64.reduceToNat, UInt32.reduceToNat, UInt8.reduceToNat, List.length_cons, List.length_nil, List.length_append, Int.toNat_natCast] <;> omega)) only [Nat.reduceLT, Nat.reduceLeDiff, Nat.reduceEqDiff, ↓reduceIte, beq_self_eq_true, List.getD_cons_zero, List.getD_cons_succ, Int.reduceLT, Int.reduceLE, Int.reduceToNat, Int.reduceEq, Int.reduceNe, Option.bind_some, List.map_cons, List.map_nil, List.zip_cons_cons, List.zip_nil_left, List.append_nil, List.nil_append, List.cons_append, List.length_cons, List.length_nil, Nat.reduceAdd, UInt8.reduceOfNat, UInt16.reduceOfNat, UInt32.reduceOfNat, UInt64.reduceOfNat, UInt64.reduceToNat, UInt32.reduceToNat, UInt16.reduceToNat, UInt8.reduceToNat, Int.reduceAdd, Int.reduceSub, Int.reduceMul, Nat.reduceMul, ne_eq, eq_self, Option.isNone_some, Option.isNone_none, List.length_set, List.length_replicate, List.getElem?_cons_zero, List.getElem?_cons_succ, Qp0, Qe0]
        exact ⟨_, PH.Le.refl _, by first | rfl | trivial, hi3, hc2.trans hc3⟩
      · have e1 : decide ((n : Int) > (s.length : Int) - (a1 : Int)) = false := decide_eq_false (by omega)
        rw [txtS_ok _ hp hl]
        simp -dsimp -implicitDefEqProofs (disch := first | omega | assumption | (simp only [Option.isSome_some, Qt0]; done) | (simp only [UInt64.reduceToNat, UInt32.reduceToNat, UInt8.reduceToNat, List.length_cons, List.length_nil, List.length_append, Int.toNat_natCast] <;> omega)) only [Nat.reduceLT, Nat.reduceLeDiff, Nat.reduceEqDiff, ↓reduceIte, beq_self_eq_true, List.getD_cons_zero, List.getD_cons_succ, Int.reduceLT, Int.reduceLE, Int.reduceToNat, Int.reduceEq, Int.reduceNe, Option.bind_some, List.map_cons, List.map_nil, List.zip_cons_cons, List.zip_nil_left, List.append_nil, List.nil_append, List.cons_append, List.length_cons, List.length_nil, Nat.reduceAdd, UInt8.reduceOfNat, UInt16.reduceOfNat, UInt32.reduceOfNat, UInt64.reduceOfNat, UInt64.reduceToNat, UInt32.reduceToNat, UInt16.reduceToNat, UInt8.reduceToNat, Int.reduceAdd, Int.reduceSub, Int.reduceMul, Nat.reduceMul, ne_eq, eq_self, Option.isNone_some, Option.isNone_none, List.length_set, List.length_replicate, List.getElem?_cons_zero, List.getElem?_cons_succ, Qp0, Qe0]
        refine PW_plan [0, 1, 2, 3, 4, 5, 6, 7, 8, 9, 10, 11, 12, 13, 14, 15] h2 (by kernel_rfl) (by decide +kernel) (by kernel_rfl) (by kernel_rfl) (by kernel_rfl) (fun c f h hq => by simp only [thenC_panic, thenK_panic, inBlk_panic, thenN_panic, vcRet_panic] at hq) (PH.Le.refl _).sub ?_
        simp -dsimp -implicitDefEqProofs (disch := first | omega | assumption | (simp only [Option.isSome_some, Qt0]; done) | (simp only [UInt64.reduceToNat, UInt32.reduceToNat, UInt8.reduceToNat, List.length_cons, List.length_nil, List.length_append, Int.toNat_natCast] <;> omega)) only [Nat.reduceLT, Nat.reduceLeDiff, Nat.reduceEqDiff, ↓reduceIte, beq_self_eq_true, List.getD_cons_zero, List.getD_cons_succ, Int.reduceLT, Int.reduceLE, Int.reduceToNat, Int.reduceEq, Int.reduceNe, Option.bind_some, List.map_cons, List.map_nil, List.zip_cons_cons, List.zip_nil_left, List.append_nil, List.nil_append, List.cons_append, List.length_cons, List.length_nil, Nat.reduceAdd, UInt8.reduceOfNat, UInt16.reduceOfNat, UInt32.reduceOfNat, UInt64.reduceOfNat, UInt64.reduceToNat, UInt32.reduceToNat, UInt16.reduceToNat, UInt8.reduceToNat, Int.reduceAdd, Int.reduceSub, Int.reduceMul, Nat.reduceMul, ne_eq, eq_self, Option.isNone_some, Option.isNone_none, List.length_set, List.length_replicate, List.getElem?_cons_zero, List.getElem?_cons_succ, Qp0, Qe0]
        refine hB2.out.mono ?_
        rintro v hq ⟨rfl, hz⟩
        obtain rfl := hz.symm
        refine ⟨(PH.Le.refl _).sub, ?_⟩
        simp -dsimp -implicitDefEqProofs (disch := first | omega | assumption | (simp only [Option.isSome_some, Qt0]; done) | (simp only [UInt64.reduceToNat, UInt32.reduceToNat, UInt8.reduceToNat, List.length_cons, List.length_nil, List.length_append, Int.toNat_natCast] <;> omega)) only [Nat.reduceLT, Nat.reduceLeDiff, Nat.reduceEqDiff, ↓reduceIte, beq_self_eq_true, List.getD_cons_zero, List.getD_cons_succ, Int.reduceLT, Int.reduceLE, Int.reduceToNat, Int.reduceEq, Int.reduceNe, Option.bind_some, List.map_cons, List.map_nil, List.zip_cons_cons, List.zip_nil_left, List.append_nil, List.nil_append, List.cons_append, List.length_cons, List.length_nil, Nat.reduceAdd, UInt8.reduceOfNat, UInt16.reduceOfNat, UInt32.reduceOfNat, UInt64.reduceOfNat, UInt64.reduceToNat, UInt32.reduceToNat, UInt16.reduceToNat, UInt8.reduceToNat, Int.reduceAdd, Int.reduceSub, Int.reduceMul, Nat.reduceMul, ne_eq, eq_self, Option.isNone_some, Option.isNone_none, List.length_set, List.length_replicate, List.getElem?_cons_zero, List.getElem?_cons_succ, Qp0, Qe0, hb2, rd_M, rdM_some, g3, e1, List.set_cons_zero, List.set_cons_succ]
        have hc3 := hc2.one ⟨[str s, .int .i64 ((a1 : Int) + (n : Int)), .nilIface], 3⟩
        have g4 : (h2.new ib ⟨[str s, .int .i64 ((a1 : Int) + (n : Int)), .nilIface], 3⟩).m ib = some ⟨[str s, .int .i64 ((a1 : Int) + (n : Int)), .nilIface], 3⟩ := by rw [PH.new_m, if_pos rfl]
        generalize h2.new ib ⟨[str s, .int .i64 ((a1 : Int) + (n : Int)), .nilIface], 3⟩ = h4 at *
        have t1 : ((a1 : Int) + (n : Int) - (n : Int)).toNat = a1 := by omega
        have t2 : ((a1 : Int) + (n : Int)).toNat = a1 + n := by omega
        refine PW_drawn 16 _ (by kernel_rfl) (by kernel_rfl) (by kernel_rfl) (by kernel_rfl) (by kernel_rfl) (fun c f h hq => by simp only [thenC_panic, thenK_panic, inBlk_panic, thenN_panic, vcRet_panic] at hq) (PH.Le.refl _).sub ?_
        simp -dsimp -implicitDefEqProofs (disch := first | omega | assumption | (simp only [Option.isSome_some, Qt0]; done) | (simp only [UInt64.reduceToNat, UInt32.reduceToNat, UInt8.reduceToNat, List.length_cons, List.length_nil, List.length_append, Int.toNat_natCast] <;> omega)) only [Nat.reduceLT, Nat.reduceLeDiff, Nat.reduceEqDiff, ↓reduceIte, beq_self_eq_true, List.getD_cons_zero, List.getD_cons_succ, Int.reduceLT, Int.reduceLE, Int.reduceToNat, Int.reduceEq, Int.reduceNe, Option.bind_some, List.map_cons, List.map_nil, List.zip_cons_cons, List.zip_nil_left, List.append_nil, List.nil_append, List.cons_append, List.length_cons, List.length_nil, Nat.reduceAdd, UInt8.reduceOfNat, UInt16.reduceOfNat, UInt32.reduceOfNat, UInt64.reduceOfNat, UInt64.reduceToNat, UInt32.reduceToNat, UInt16.reduceToNat, UInt8.reduceToNat, Int.reduceAdd, Int.reduceSub, Int.reduceMul, Nat.reduceMul, ne_eq, eq_self, Option.isNone_some, Option.isNone_none, List.length_set, List.length_replicate, List.getElem?_cons_zero, List.getElem?_cons_succ, Qp0, Qe0, rd_M, rdM_some, g4, t1, t2]
        have t3 : a1 + n - a1 = n := by omega
        exact ⟨_, PH.Le.refl _, by rw [t3, g2], ⟨a1 + n, by omega, by rw [← g2, List.drop_drop], by rw [g4]; simp⟩, hc3⟩
set_option maxRecDepth 20000 in
theorem iflag_any (hs : s.length ≤ 1000000000) (st : St) (hi : IS h ib s st) : PCalls Tryd.prog w0 20 [.pointer (some ⟨ib, 0, none⟩)] h fun r h' => r = .bool (flagS s.length st).1 ∧ IS h' ib s (flagS s.length st).2 ∧ Chg (· = ib) h h' := by
  refine PCalls_body Tryd.func20 (by kernel_rfl) rfl _ Tryd.ntmps20 (by kernel_rfl) (by kernel_rfl) _ Tryd.results20 ?_
  have hN := Lib.hid (inum_any w0 h ib s hs 1 _ hi)
  rw [flagS_eq]
  simp -dsimp -implicitDefEqProofs (disch := first | omega | assumption | (simp only [Option.isSome_some, Qt0]; done) | (simp only [UInt64.reduceToNat, UInt32.reduceToNat, UInt8.reduceToNat, List.length_cons, List.length_nil, List.length_append, Int.toNat_natCast] <;> omega)) only [Nat.reduceLT, Nat.reduceLeDiff, Nat.reduceEqDiff, ↓reduceIte, beq_self_eq_true, List.getD_cons_zero, List.getD_cons_succ, Int.reduceLT, Int.reduceLE, Int.reduceToNat, Int.reduceEq, Int.reduceNe, Option.bind_some, List.map_cons, List.map_nil, List.zip_cons_cons, List.zip_nil_left, List.append_nil, List.nil_append, List.cons_append, List.length_cons, List.length_nil, Nat.reduceAdd, UInt8.reduceOfNat, UInt16.reduceOfNat, UInt32.reduceOfNat, UInt64.reduceOfNat, UInt64.reduceToNat, UInt32.reduceToNat, UInt16.reduceToNat, UInt8.reduceToNat, Int.reduceAdd, Int.reduceSub, Int.reduceMul, Nat.reduceMul, ne_eq, eq_self, Option.isNone_some, Option.isNone_none, List.length_set, List.length_replicate, List.getElem?_cons_zero, List.getElem?_cons_succ, Qp0, Qe0]
  refine hN.out.mono ?_
  rintro v h2 ⟨rfl, hi2, hc2⟩
  simp -dsimp -implicitDefEqProofs (disch := first | omega | assumption | (simp only [Option.isSome_some, Qt0]; done) | (simp only [UInt64.reduceToNat, UInt32.reduceToNat, UInt8.reduceToNat, List.length_cons, List.length_nil, List.length_append, Int.toNat_natCast] <;> omega)) only [Nat.reduceLT, Nat.reduceLeDiff, Nat.reduceEqDiff, ↓reduceIte, beq_self_eq_true, List.getD_cons_zero, List.getD_cons_succ, Int.reduceLT, Int.reduceLE, Int.reduceToNat, Int.reduceEq, Int.reduceNe, Option.bind_some, List.map_cons, List.map_nil, List.zip_cons_cons, List.zip_nil_left, List.append_nil, List.nil_append, List.cons_append, List.length_cons, List.length_nil, Nat.reduceAdd, UInt8.reduceOfNat, UInt16.reduceOfNat, UInt32.reduceOfNat, UInt64.reduceOfNat, UInt64.reduceToNat, UInt32.reduceToNat, UInt16.reduceToNat, UInt8.reduceToNat, Int.reduceAdd, Int.reduceSub, Int.reduceMul, Nat.reduceMul, ne_eq, eq_self, Option.isNone_some, Option.isNone_none, List.length_set, List.length_replicate, List.getElem?_cons_zero, List.getElem?_cons_succ, Qp0, Qe0]
  exact ⟨_, PH.Le.refl _, by trivial, hi2, hc2⟩
/-- What End tells. -/
def EE (h : PH) (len : Nat) : St → Value → Prop
  | .ok [], v => v = .nilIface
  | .ok t, v => ∃ be, v = errV be ∧ h.m be = some ⟨[str wireT, .int .i64 (len - t.length : Nat), codeV 2], 3⟩
  | .bad p, v => ∃ be, v = errV be ∧ h.m be = some ⟨[str wireT, .int .i64 p, codeV 2], 3⟩
set_option maxRecDepth 20000 in
theorem end_any (st : St) (hi : IS h ib s st) : PCalls Tryd.prog w0 29 [.pointer (some ⟨ib, 0, none⟩)] h fun r h' => EE h' s.length st r ∧ PH.Le h h' := by
  refine PCalls_body Tryd.func29 (by kernel_rfl) rfl _ Tryd.ntmps29 (by kernel_rfl) (by kernel_rfl) _ Tryd.results29 ?_
  cases st with
  | bad p =>
    obtain ⟨a, be, h1, h2, h3, h4⟩ := hi
    unfold errV at *
    simp -dsimp -implicitDefEqProofs (disch := first | omega | assumption | (simp only [Option.isSome_some, Qt0]; done) | (simp only [UInt64.reduceToNat, UInt32.reduceToNat, UInt8.reduceToNat, List.length_cons, List.length_nil, List.length_append, Int.toNat_natCast] <;> omega)) only [Nat.reduceLT, Nat.reduceLeDiff, Nat.reduceEqDiff, ↓reduceIte, beq_self_eq_true, List.getD_cons_zero, List.getD_cons_succ, Int.reduceLT, Int.reduceLE, Int.reduceToNat, Int.reduceEq, Int.reduceNe, Option.bind_some, List.map_cons, List.map_nil, List.zip_cons_cons, List.zip_nil_left, List.append_nil, List.nil_append, List.cons_append, List.length_cons, List.length_nil, Nat.reduceAdd, UInt8.reduceOfNat, UInt16.reduceOfNat, UInt32.reduceOfNat, UInt64.reduceOfNat, UInt64.reduceToNat, UInt32.reduceToNat, UInt16.reduceToNat, UInt8.reduceToNat, Int.reduceAdd, Int.reduceSub, Int.reduceMul, Nat.reduceMul, ne_eq, eq_self, Option.isNone_some, Option.isNone_none, List.length_set, List.length_replicate, List.getElem?_cons_zero, List.getElem?_cons_succ, Qp0, Qe0]
    refine PW_drawn 18 _ (by kernel_rfl) (by kernel_rfl) (by kernel_rfl) (by kernel_rfl) (by kernel_rfl) (fun c f h hq => by simp only [thenC_panic, thenK_panic, inBlk_panic, thenN_panic, vcRet_panic] at hq) (PH.Le.refl _).sub ?_
    simp -dsimp -implicitDefEqProofs (disch := first | omega | assumption | (simp only [Option.isSome_some, Qt0]; done) | (simp only [UInt64.reduceToNat, UInt32.reduceToNat, UInt8.reduceToNat, List.length_cons, List.length_nil, List.length_append, Int.toNat_natCast] <;> omega)) only [Nat.reduceLT, Nat.reduceLeDiff, Nat.reduceEqDiff, ↓reduceIte, beq_self_eq_true, List.getD_cons_zero, List.getD_cons_succ, Int.reduceLT, Int.reduceLE, Int.reduceToNat, Int.reduceEq, Int.reduceNe, Option.bind_some, List.map_cons, List.map_nil, List.zip_cons_cons, List.zip_nil_left, List.append_nil, List.nil_append, List.cons_append, List.length_cons, List.length_nil, Nat.reduceAdd, UInt8.reduceOfNat, UInt16.reduceOfNat, UInt32.reduceOfNat, UInt64.reduceOfNat, UInt64.reduceToNat, UInt32.reduceToNat, UInt16.reduceToNat, UInt8.reduceToNat, Int.reduceAdd, Int.reduceSub, Int.reduceMul, Nat.reduceMul, ne_eq, eq_self, Option.isNone_some, Option.isNone_none, List.length_set, List.length_replicate, List.getElem?_cons_zero, List.getElem?_cons_succ, Qp0, Qe0, rd_M, rdM_some, h3]
    exact ⟨_, PH.Le.refl _, ⟨be, rfl, h4⟩, PH.Le.refl _⟩
  | ok t =>
    obtain ⟨a, h1, rfl, h3⟩ := hi
    by_cases hl : a < s.length
    · have e1 : decide ((a : Int) < (s.length : Int)) = true := decide_eq_true (by omega)
      simp -dsimp -implicitDefEqProofs (disch := first | omega | assumption | (simp only [Option.isSome_some, Qt0]; done) | (simp only [UInt64.reduceToNat, UInt32.reduceToNat, UInt8.reduceToNat, List.length_cons, List.length_nil, List.length_append, Int.toNat_natCast] <;> omega)) only [Nat.reduceLT, Nat.reduceLeDiff, Nat.reduceEqDiff, ↓reduceIte, beq_self_eq_true, List.getD_cons_zero, List.getD_cons_succ, Int.reduceLT, Int.reduceLE, Int.reduceToNat, Int.reduceEq, Int.reduceNe, Option.bind_some, List.map_cons, List.map_nil, List.zip_cons_cons, List.zip_nil_left, List.append_nil, List.nil_append, List.cons_append, List.length_cons, List.length_nil, Nat.reduceAdd, UInt8.reduceOfNat, UInt16.reduceOfNat, UInt32.reduceOfNat, UInt64.reduceOfNat, UInt64.reduceToNat, UInt32.reduceToNat, UInt16.reduceToNat, UInt8.reduceToNat, Int.reduceAdd, Int.reduceSub, Int.reduceMul, Nat.reduceMul, ne_eq, eq_self, Option.isNone_some, Option.isNone_none, List.length_set, List.length_replicate, List.getElem?_cons_zero, List.getElem?_cons_succ, Qp0, Qe0]
      refine PW_drawn 18 _ (by kernel_rfl) (by kernel_rfl) (by kernel_rfl) (by kernel_rfl) (by kernel_rfl) (fun c f h hq => by simp only [thenC_panic, thenK_panic, inBlk_panic, thenN_panic, vcRet_panic] at hq) (PH.Le.refl _).sub ?_
      simp -dsimp -implicitDefEqProofs (disch := first | omega | assumption | (simp only [Option.isSome_some, Qt0]; done) | (simp only [UInt64.reduceToNat, UInt32.reduceToNat, UInt8.reduceToNat, List.length_cons, List.length_nil, List.length_append, Int.toNat_natCast] <;> omega)) only [Nat.reduceLT, Nat.reduceLeDiff, Nat.reduceEqDiff, ↓reduceIte, beq_self_eq_true, List.getD_cons_zero, List.getD_cons_succ, Int.reduceLT, Int.reduceLE, Int.reduceToNat, Int.reduceEq, Int.reduceNe, Option.bind_some, List.map_cons, List.map_nil, List.zip_cons_cons, List.zip_nil_left, List.append_nil, List.nil_append, List.cons_append, List.length_cons, List.length_nil, Nat.reduceAdd, UInt8.reduceOfNat, UInt16.reduceOfNat, UInt32.reduceOfNat, UInt64.reduceOfNat, UInt64.reduceToNat, UInt32.reduceToNat, UInt16.reduceToNat, UInt8.reduceToNat, Int.reduceAdd, Int.reduceSub, Int.reduceMul, Nat.reduceMul, ne_eq, eq_self, Option.isNone_some, Option.isNone_none, List.length_set, List.length_replicate, List.getElem?_cons_zero, List.getElem?_cons_succ, Qp0, Qe0, rd_M, rdM_some, h3, e1]
      refine (at_any wireT _ _ _ w0 h).mono ?_
      rintro v hq ⟨be, rfl, hbe, rfl⟩
      unfold errV
      simp -dsimp -implicitDefEqProofs (disch := first | omega | assumption | (simp only [Option.isSome_some, Qt0]; done) | (simp only [UInt64.reduceToNat, UInt32.reduceToNat, UInt8.reduceToNat, List.length_cons, List.length_nil, List.length_append, Int.toNat_natCast] <;> omega)) only [Nat.reduceLT, Nat.reduceLeDiff, Nat.reduceEqDiff, ↓reduceIte, beq_self_eq_true, List.getD_cons_zero, List.getD_cons_succ, Int.reduceLT, Int.reduceLE, Int.reduceToNat, Int.reduceEq, Int.reduceNe, Option.bind_some, List.map_cons, List.map_nil, List.zip_cons_cons, List.zip_nil_left, List.append_nil, List.nil_append, List.cons_append, List.length_cons, List.length_nil, Nat.reduceAdd, UInt8.reduceOfNat, UInt16.reduceOfNat, UInt32.reduceOfNat, UInt64.reduceOfNat, UInt64.reduceToNat, UInt32.reduceToNat, UInt16.reduceToNat, UInt8.reduceToNat, Int.reduceAdd, Int.reduceSub, Int.reduceMul, Nat.reduceMul, ne_eq, eq_self, Option.isNone_some, Option.isNone_none, List.length_set, List.length_replicate, List.getElem?_cons_zero, List.getElem?_cons_succ, Qp0, Qe0]
      refine ⟨_, PH.Le.refl _, ?_, (PH.Le.refl h).new _ _ hbe⟩
      have : s.length - (s.drop a).length = a := by simp; omega
      cases hd : s.drop a with
      | nil => exfalso; rw [hd] at this; simp at this; omega
      | cons c t => exact ⟨be, rfl, by rw [← hd, this, PH.new_m, if_pos rfl]; rfl⟩
    · have e1 : decide ((a : Int) < (s.length : Int)) = false := decide_eq_false (by omega)
      simp -dsimp -implicitDefEqProofs (disch := first | omega | assumption | (simp only [Option.isSome_some, Qt0]; done) | (simp only [UInt64.reduceToNat, UInt32.reduceToNat, UInt8.reduceToNat, List.length_cons, List.length_nil, List.length_append, Int.toNat_natCast] <;> omega)) only [Nat.reduceLT, Nat.reduceLeDiff, Nat.reduceEqDiff, ↓reduceIte, beq_self_eq_true, List.getD_cons_zero, List.getD_cons_succ, Int.reduceLT, Int.reduceLE, Int.reduceToNat, Int.reduceEq, Int.reduceNe, Option.bind_some, List.map_cons, List.map_nil, List.zip_cons_cons, List.zip_nil_left, List.append_nil, List.nil_append, List.cons_append, List.length_cons, List.length_nil, Nat.reduceAdd, UInt8.reduceOfNat, UInt16.reduceOfNat, UInt32.reduceOfNat, UInt64.reduceOfNat, UInt64.reduceToNat, UInt32.reduceToNat, UInt16.reduceToNat, UInt8.reduceToNat, Int.reduceAdd, Int.reduceSub, Int.reduceMul, Nat.reduceMul, ne_eq, eq_self, Option.isNone_some, Option.isNone_none, List.length_set, List.length_replicate, List.getElem?_cons_zero, List.getElem?_cons_succ, Qp0, Qe0]
      refine PW_drawn 18 _ (by kernel_rfl) (by kernel_rfl) (by kernel_rfl) (by kernel_rfl) (by kernel_rfl) (fun c f h hq => by simp only [thenC_panic, thenK_panic, inBlk_panic, thenN_panic, vcRet_panic] at hq) (PH.Le.refl _).sub ?_
      simp -dsimp -implicitDefEqProofs (disch := first | omega | assumption | (simp only [Option.isSome_some, Qt0]; done) | (simp only [UInt64.reduceToNat, UInt32.reduceToNat, UInt8.reduceToNat, List.length_cons, List.length_nil, List.length_append, Int.toNat_natCast] <;> omega)) only [Nat.reduceLT, Nat.reduceLeDiff, Nat.reduceEqDiff, ↓reduceIte, beq_self_eq_true, List.getD_cons_zero, List.getD_cons_succ, Int.reduceLT, Int.reduceLE, Int.reduceToNat, Int.reduceEq, Int.reduceNe, Option.bind_some, List.map_cons, List.map_nil, List.zip_cons_cons, List.zip_nil_left, List.append_nil, List.nil_append, List.cons_append, List.length_cons, List.length_nil, Nat.reduceAdd, UInt8.reduceOfNat, UInt16.reduceOfNat, UInt32.reduceOfNat, UInt64.reduceOfNat, UInt64.reduceToNat, UInt32.reduceToNat, UInt16.reduceToNat, UInt8.reduceToNat, Int.reduceAdd, Int.reduceSub, Int.reduceMul, Nat.reduceMul, ne_eq, eq_self, Option.isNone_some, Option.isNone_none, List.length_set, List.length_replicate, List.getElem?_cons_zero, List.getElem?_cons_succ, Qp0, Qe0, rd_M, rdM_some, h3, e1]
      rw [List.drop_eq_nil_of_le (by omega)]
      exact ⟨_, PH.Le.refl _, by rfl, PH.Le.refl _⟩
end
end Go.Proofs.YtjpfablpkekdgaaDoor
