/- Parts Wr4, FrS, FrW, FrO, FrE, joined. No condition. -/
import Derived.Test.YtblikpbaeippaaaM4K
import Derived.Test.YtblikpbaeippaaaProg
namespace Go.Proofs.Ytblikpbaeippaaa
set_option linter.unusedVariables false
set_option linter.unusedSimpArgs false
open Go.RowKit Px Wr
theorem info_int : (Try.prog.info? 3).map (fun i => (i.zero, i.size, i.bytes)) = some (some (.int .i64 0), 1, 8) := by kernel_rfl
theorem zC2 : El Try.prog 62 3 (.int .i64 0) 1 8 := ⟨Try.underlying62, info_parts info_int, rfl, by decide⟩
def ints (l : List Int) : List Value := l.map (Value.int .i64)
theorem zEu (l : List Int) : allOne (ints l) := by
  intro v hv
  obtain ⟨s, _, rfl⟩ := List.mem_map.1 hv
  rfl
theorem zHx (l : List Int) : (ints l).length = l.length := by simp [ints]
def txtS (most : Int) (len : Nat) (st : St) : List UInt8 × St := st.step (fun t => txtP t most) [] len
theorem numS_ok {most : Int} {t u : List UInt8} {n : Nat} (len : Nat) (h : numP t most = some (n, u)) : numS most len (.ok t) = (n, .ok u) := by
  unfold numS St.step; simp [h]
theorem txtS_bad (most : Int) (len p : Nat) : txtS most len (.bad p) = ([], .bad p) := rfl
theorem txtS_no {most : Int} {t : List UInt8} (len : Nat) (h : numP t most = none) : txtS most len (.ok t) = ([], .bad (len - t.length)) := by
  unfold txtS St.step txtP; simp [h]
theorem txtS_long {most : Int} {t u : List UInt8} {n : Nat} (len : Nat) (h : numP t most = some (n, u)) (hl : u.length < n) : txtS most len (.ok t) = ([], .bad (len - t.length)) := by
  unfold txtS St.step txtP; simp [h, hl]
theorem txtS_ok {most : Int} {t u : List UInt8} {n : Nat} (len : Nat) (h : numP t most = some (n, u)) (hl : ¬ u.length < n) : txtS most len (.ok t) = (u.take n, .ok (u.drop n)) := by
  unfold txtS St.step txtP; simp [h, hl]
section
variable (w0 : World) (h : PH) (ib : Nat) (s : List UInt8)
set_option maxRecDepth 20000 in
set_option maxHeartbeats 2000000 in
theorem itext_any (hs : s.length ≤ 1000000000) (most : Int) (st : St) (hi : IS h ib s st) : PCalls Try.prog w0 60 [.pointer (some ⟨ib, 0, none⟩), .int .i64 most] h fun r h' => r = str (txtS most s.length st).1 ∧ IS h' ib s (txtS most s.length st).2 ∧ Chg (· = ib) h h' := by
  refine zAp Try.func60 (by kernel_rfl) rfl _ Try.ntmps60 (by kernel_rfl) (by kernel_rfl) _ Try.results60 ?_
  have hB := Lib.hid (bad_any w0 h ib s st hi)
  cases st with
  | bad p =>
    have hb : St.isBad (.bad p) = true := rfl
    rw [txtS_bad]
    simp -dsimp -implicitDefEqProofs (disch := first | omega | assumption | (simp only [Option.isSome_some,Qt0]; done) | (simp only [List.length_cons,List.length_nil,List.length_append,Int.toNat_natCast] <;> omega) | fail) only [Nat.reduceLT,Nat.reduceLeDiff,Nat.reduceEqDiff,↓reduceIte,Int.reduceLT,Int.reduceLE,Int.reduceToNat,Int.reduceEq,Int.reduceNe,Nat.reduceAdd,Int.reduceAdd,Int.reduceSub,Int.reduceMul,Nat.reduceMul,Qp0,Qp1,Ql0,Qe0]
    refine hB.out.mono ?_
    rintro v hq ⟨rfl, hz⟩
    obtain rfl := hz.symm
    simp -dsimp -implicitDefEqProofs (disch := first | omega | assumption | (simp only [Option.isSome_some,Qt0]; done) | (simp only [List.length_cons,List.length_nil,List.length_append,Int.toNat_natCast] <;> omega) | fail) only [Nat.reduceLT,Nat.reduceLeDiff,Nat.reduceEqDiff,↓reduceIte,Int.reduceLT,Int.reduceLE,Int.reduceToNat,Int.reduceEq,Int.reduceNe,Nat.reduceAdd,Int.reduceAdd,Int.reduceSub,Int.reduceMul,Nat.reduceMul,Qp0,Qp1,Ql0,Qe0,hb]
    exact ⟨_, PH.Le.refl _, by first | rfl | trivial, hi, Chg.refl _ _⟩
  | ok t =>
    have hN := zEf w0 h ib s hs most _ hi
    obtain ⟨a0, h1, rfl, h3⟩ := hi
    have hb : St.isBad (.ok (s.drop a0)) = false := rfl
    have hfl : s.length - (s.drop a0).length = a0 := by simp; omega
    cases hp : numP (s.drop a0) most with
    | none =>
      rw [txtS_no _ hp, hfl]
      rw [zDa _ hp, hfl] at hN
      have hN := Lib.hid hN
      simp -dsimp -implicitDefEqProofs (disch := first | omega | assumption | (simp only [Option.isSome_some,Qt0]; done) | (simp only [List.length_cons,List.length_nil,List.length_append,Int.toNat_natCast] <;> omega) | fail) only [Nat.reduceLT,Nat.reduceLeDiff,Nat.reduceEqDiff,↓reduceIte,Int.reduceLT,Int.reduceLE,Int.reduceToNat,Int.reduceEq,Int.reduceNe,Nat.reduceAdd,Int.reduceAdd,Int.reduceSub,Int.reduceMul,Nat.reduceMul,Qp0,Qp1,Ql0,Qe0]
      refine hB.out.mono ?_
      rintro v hq ⟨rfl, hz⟩
      obtain rfl := hz.symm
      simp -dsimp -implicitDefEqProofs (disch := first | omega | assumption | (simp only [Option.isSome_some,Qt0]; done) | (simp only [List.length_cons,List.length_nil,List.length_append,Int.toNat_natCast] <;> omega) | fail) only [Nat.reduceLT,Nat.reduceLeDiff,Nat.reduceEqDiff,↓reduceIte,Int.reduceLT,Int.reduceLE,Int.reduceToNat,Int.reduceEq,Int.reduceNe,Nat.reduceAdd,Int.reduceAdd,Int.reduceSub,Int.reduceMul,Nat.reduceMul,Qp0,Qp1,Ql0,Qe0,hb,zAa,zAb,h3]
      refine hN.out.mono ?_
      rintro v h2 ⟨rfl, hi2, hc2⟩
      have hB2 := Lib.hid (bad_any w0 h2 ib s _ hi2)
      have hW := Lib.hid (wrongI_bad w0 h2 ib s a0 a0 hi2)
      have hb2 : St.isBad (.bad a0) = true := rfl
      simp -dsimp -implicitDefEqProofs (disch := first | omega | assumption | (simp only [Option.isSome_some,Qt0]; done) | (simp only [List.length_cons,List.length_nil,List.length_append,Int.toNat_natCast] <;> omega) | fail) only [Nat.reduceLT,Nat.reduceLeDiff,Nat.reduceEqDiff,↓reduceIte,Int.reduceLT,Int.reduceLE,Int.reduceToNat,Int.reduceEq,Int.reduceNe,Nat.reduceAdd,Int.reduceAdd,Int.reduceSub,Int.reduceMul,Nat.reduceMul,Qp0,Qp1,Ql0,Qe0]
      refine zBt [0, 1, 2, 3, 4, 5, 6, 7, 8, 9, 10, 11, 12, 13, 14, 15] h2 (by kernel_rfl) (by decide +kernel) (by kernel_rfl) (by kernel_rfl) (by kernel_rfl) (fun c f h hq => by simp only [zAy, zAv, zAw, zAu, zAx] at hq) (PH.Le.refl _).sub ?_
      simp -dsimp -implicitDefEqProofs (disch := first | omega | assumption | (simp only [Option.isSome_some,Qt0]; done) | (simp only [List.length_cons,List.length_nil,List.length_append,Int.toNat_natCast] <;> omega) | fail) only [Nat.reduceLT,Nat.reduceLeDiff,Nat.reduceEqDiff,↓reduceIte,Int.reduceLT,Int.reduceLE,Int.reduceToNat,Int.reduceEq,Int.reduceNe,Nat.reduceAdd,Int.reduceAdd,Int.reduceSub,Int.reduceMul,Nat.reduceMul,Qp0,Qp1,Ql0,Qe0]
      refine hB2.out.mono ?_
      rintro v hq ⟨rfl, hz⟩
      obtain rfl := hz.symm
      refine ⟨(PH.Le.refl _).sub, ?_⟩
      simp -dsimp -implicitDefEqProofs (disch := first | omega | assumption | (simp only [Option.isSome_some,Qt0]; done) | (simp only [List.length_cons,List.length_nil,List.length_append,Int.toNat_natCast] <;> omega) | fail) only [Nat.reduceLT,Nat.reduceLeDiff,Nat.reduceEqDiff,↓reduceIte,Int.reduceLT,Int.reduceLE,Int.reduceToNat,Int.reduceEq,Int.reduceNe,Nat.reduceAdd,Int.reduceAdd,Int.reduceSub,Int.reduceMul,Nat.reduceMul,Qp0,Qp1,Ql0,Qe0,hb2]
      refine hW.out.mono ?_
      rintro v hq hz
      obtain rfl := hz.symm
      simp -dsimp -implicitDefEqProofs (disch := first | omega | assumption | (simp only [Option.isSome_some,Qt0]; done) | (simp only [List.length_cons,List.length_nil,List.length_append,Int.toNat_natCast] <;> omega) | fail) only [Nat.reduceLT,Nat.reduceLeDiff,Nat.reduceEqDiff,↓reduceIte,Int.reduceLT,Int.reduceLE,Int.reduceToNat,Int.reduceEq,Int.reduceNe,Nat.reduceAdd,Int.reduceAdd,Int.reduceSub,Int.reduceMul,Nat.reduceMul,Qp0,Qp1,Ql0,Qe0]
      exact ⟨_, PH.Le.refl _, by first | rfl | trivial, hi2, hc2⟩
    | some p =>
      obtain ⟨n, u⟩ := p
      rw [numS_ok _ hp] at hN
      have hN := Lib.hid hN
      obtain ⟨hpi, hpm, hpt⟩ := zDn hp
      unfold top62 at hpt
      have hul := congrArg List.length hpi
      simp only [List.length_drop, List.length_append] at hul
      simp -dsimp -implicitDefEqProofs (disch := first | omega | assumption | (simp only [Option.isSome_some,Qt0]; done) | (simp only [List.length_cons,List.length_nil,List.length_append,Int.toNat_natCast] <;> omega) | fail) only [Nat.reduceLT,Nat.reduceLeDiff,Nat.reduceEqDiff,↓reduceIte,Int.reduceLT,Int.reduceLE,Int.reduceToNat,Int.reduceEq,Int.reduceNe,Nat.reduceAdd,Int.reduceAdd,Int.reduceSub,Int.reduceMul,Nat.reduceMul,Qp0,Qp1,Ql0,Qe0]
      refine hB.out.mono ?_
      rintro v hq ⟨rfl, hz⟩
      obtain rfl := hz.symm
      simp -dsimp -implicitDefEqProofs (disch := first | omega | assumption | (simp only [Option.isSome_some,Qt0]; done) | (simp only [List.length_cons,List.length_nil,List.length_append,Int.toNat_natCast] <;> omega) | fail) only [Nat.reduceLT,Nat.reduceLeDiff,Nat.reduceEqDiff,↓reduceIte,Int.reduceLT,Int.reduceLE,Int.reduceToNat,Int.reduceEq,Int.reduceNe,Nat.reduceAdd,Int.reduceAdd,Int.reduceSub,Int.reduceMul,Nat.reduceMul,Qp0,Qp1,Ql0,Qe0,hb,zAa,zAb,h3]
      refine hN.out.mono ?_
      rintro v h2 ⟨rfl, hi2, hc2⟩
      have hB2 := Lib.hid (bad_any w0 h2 ib s _ hi2)
      obtain ⟨a1, g1, g2, g3⟩ := hi2
      have hb2 : St.isBad (.ok u) = false := rfl
      have hu : u.length = s.length - a1 := by rw [← g2]; simp
      by_cases hl : u.length < n
      · have e1 : decide ((n : Int) > (s.length : Int) - (a1 : Int)) = true := decide_eq_true (by omega)
        have hW := Lib.hid (wrongI_ok w0 h2 ib s a1 a0 g1 g3)
        rw [txtS_long _ hp hl, hfl]
        simp -dsimp -implicitDefEqProofs (disch := first | omega | assumption | (simp only [Option.isSome_some,Qt0]; done) | (simp only [List.length_cons,List.length_nil,List.length_append,Int.toNat_natCast] <;> omega) | fail) only [Nat.reduceLT,Nat.reduceLeDiff,Nat.reduceEqDiff,↓reduceIte,Int.reduceLT,Int.reduceLE,Int.reduceToNat,Int.reduceEq,Int.reduceNe,Nat.reduceAdd,Int.reduceAdd,Int.reduceSub,Int.reduceMul,Nat.reduceMul,Qp0,Qp1,Ql0,Qe0]
        refine zBt [0, 1, 2, 3, 4, 5, 6, 7, 8, 9, 10, 11, 12, 13, 14, 15] h2 (by kernel_rfl) (by decide +kernel) (by kernel_rfl) (by kernel_rfl) (by kernel_rfl) (fun c f h hq => by simp only [zAy, zAv, zAw, zAu, zAx] at hq) (PH.Le.refl _).sub ?_
        simp -dsimp -implicitDefEqProofs (disch := first | omega | assumption | (simp only [Option.isSome_some,Qt0]; done) | (simp only [List.length_cons,List.length_nil,List.length_append,Int.toNat_natCast] <;> omega) | fail) only [Nat.reduceLT,Nat.reduceLeDiff,Nat.reduceEqDiff,↓reduceIte,Int.reduceLT,Int.reduceLE,Int.reduceToNat,Int.reduceEq,Int.reduceNe,Nat.reduceAdd,Int.reduceAdd,Int.reduceSub,Int.reduceMul,Nat.reduceMul,Qp0,Qp1,Ql0,Qe0]
        refine hB2.out.mono ?_
        rintro v hq ⟨rfl, hz⟩
        obtain rfl := hz.symm
        refine ⟨(PH.Le.refl _).sub, ?_⟩
        simp -dsimp -implicitDefEqProofs (disch := first | omega | assumption | (simp only [Option.isSome_some,Qt0]; done) | (simp only [List.length_cons,List.length_nil,List.length_append,Int.toNat_natCast] <;> omega) | fail) only [Nat.reduceLT,Nat.reduceLeDiff,Nat.reduceEqDiff,↓reduceIte,Int.reduceLT,Int.reduceLE,Int.reduceToNat,Int.reduceEq,Int.reduceNe,Nat.reduceAdd,Int.reduceAdd,Int.reduceSub,Int.reduceMul,Nat.reduceMul,Qp0,Qp1,Ql0,Qe0,hb2,zAa,zAb,g3,e1]
        refine hW.out.mono ?_
        rintro v hq ⟨hi3, hc3⟩
        simp -dsimp -implicitDefEqProofs (disch := first | omega | assumption | (simp only [Option.isSome_some,Qt0]; done) | (simp only [List.length_cons,List.length_nil,List.length_append,Int.toNat_natCast] <;> omega) | fail) only [Nat.reduceLT,Nat.reduceLeDiff,Nat.reduceEqDiff,↓reduceIte,Int.reduceLT,Int.reduceLE,Int.reduceToNat,Int.reduceEq,Int.reduceNe,Nat.reduceAdd,Int.reduceAdd,Int.reduceSub,Int.reduceMul,Nat.reduceMul,Qp0,Qp1,Ql0,Qe0]
        exact ⟨_, PH.Le.refl _, by first | rfl | trivial, hi3, hc2.trans hc3⟩
      · have e1 : decide ((n : Int) > (s.length : Int) - (a1 : Int)) = false := decide_eq_false (by omega)
        rw [txtS_ok _ hp hl]
        simp -dsimp -implicitDefEqProofs (disch := first | omega | assumption | (simp only [Option.isSome_some,Qt0]; done) | (simp only [List.length_cons,List.length_nil,List.length_append,Int.toNat_natCast] <;> omega) | fail) only [Nat.reduceLT,Nat.reduceLeDiff,Nat.reduceEqDiff,↓reduceIte,Int.reduceLT,Int.reduceLE,Int.reduceToNat,Int.reduceEq,Int.reduceNe,Nat.reduceAdd,Int.reduceAdd,Int.reduceSub,Int.reduceMul,Nat.reduceMul,Qp0,Qp1,Ql0,Qe0]
        refine zBt [0, 1, 2, 3, 4, 5, 6, 7, 8, 9, 10, 11, 12, 13, 14, 15] h2 (by kernel_rfl) (by decide +kernel) (by kernel_rfl) (by kernel_rfl) (by kernel_rfl) (fun c f h hq => by simp only [zAy, zAv, zAw, zAu, zAx] at hq) (PH.Le.refl _).sub ?_
        simp -dsimp -implicitDefEqProofs (disch := first | omega | assumption | (simp only [Option.isSome_some,Qt0]; done) | (simp only [List.length_cons,List.length_nil,List.length_append,Int.toNat_natCast] <;> omega) | fail) only [Nat.reduceLT,Nat.reduceLeDiff,Nat.reduceEqDiff,↓reduceIte,Int.reduceLT,Int.reduceLE,Int.reduceToNat,Int.reduceEq,Int.reduceNe,Nat.reduceAdd,Int.reduceAdd,Int.reduceSub,Int.reduceMul,Nat.reduceMul,Qp0,Qp1,Ql0,Qe0]
        refine hB2.out.mono ?_
        rintro v hq ⟨rfl, hz⟩
        obtain rfl := hz.symm
        refine ⟨(PH.Le.refl _).sub, ?_⟩
        simp -dsimp -implicitDefEqProofs (disch := first | omega | assumption | (simp only [Option.isSome_some,Qt0]; done) | (simp only [List.length_cons,List.length_nil,List.length_append,Int.toNat_natCast] <;> omega) | fail) only [Nat.reduceLT,Nat.reduceLeDiff,Nat.reduceEqDiff,↓reduceIte,Int.reduceLT,Int.reduceLE,Int.reduceToNat,Int.reduceEq,Int.reduceNe,Nat.reduceAdd,Int.reduceAdd,Int.reduceSub,Int.reduceMul,Nat.reduceMul,Qp0,Qp1,Ql0,Qe0,hb2,zAa,zAb,g3,e1,List.set_cons_zero,List.set_cons_succ]
        have hc3 := hc2.one ⟨[str s, .int .i64 ((a1 : Int) + (n : Int)), .nilIface], 3⟩
        have g4 : (h2.new ib ⟨[str s, .int .i64 ((a1 : Int) + (n : Int)), .nilIface], 3⟩).m ib = some ⟨[str s, .int .i64 ((a1 : Int) + (n : Int)), .nilIface], 3⟩ := by rw [PH.new_m, if_pos rfl]
        generalize h2.new ib ⟨[str s, .int .i64 ((a1 : Int) + (n : Int)), .nilIface], 3⟩ = h4 at *
        have t1 : ((a1 : Int) + (n : Int) - (n : Int)).toNat = a1 := by omega
        have t2 : ((a1 : Int) + (n : Int)).toNat = a1 + n := by omega
        refine zA3 16 _ (by kernel_rfl) (by kernel_rfl) (by kernel_rfl) (by kernel_rfl) (by kernel_rfl) (fun c f h hq => by simp only [zAy, zAv, zAw, zAu, zAx] at hq) (PH.Le.refl _).sub ?_
        simp -dsimp -implicitDefEqProofs (disch := first | omega | assumption | (simp only [Option.isSome_some,Qt0]; done) | (simp only [List.length_cons,List.length_nil,List.length_append,Int.toNat_natCast] <;> omega) | fail) only [Nat.reduceLT,Nat.reduceLeDiff,Nat.reduceEqDiff,↓reduceIte,Int.reduceLT,Int.reduceLE,Int.reduceToNat,Int.reduceEq,Int.reduceNe,Nat.reduceAdd,Int.reduceAdd,Int.reduceSub,Int.reduceMul,Nat.reduceMul,Qp0,Qp1,Ql0,Qe0,zAa,zAb,g4,t1,t2]
        have t3 : a1 + n - a1 = n := by omega
        exact ⟨_, PH.Le.refl _, by rw [t3, g2], ⟨a1 + n, by omega, by rw [← g2, List.drop_drop], by rw [g4]; simp⟩, hc3⟩
def EE (h : PH) (len : Nat) : St → Value → Prop
  | .ok [], v => v = .nilIface
  | .ok t, v => ∃ be, v = errV be ∧ h.m be = some ⟨[str wireT, .int .i64 (len - t.length : Nat), codeV 2], 3⟩
  | .bad p, v => ∃ be, v = errV be ∧ h.m be = some ⟨[str wireT, .int .i64 p, codeV 2], 3⟩
set_option maxRecDepth 20000 in
theorem end_any (st : St) (hi : IS h ib s st) : PCalls Try.prog w0 61 [.pointer (some ⟨ib, 0, none⟩)] h fun r h' => EE h' s.length st r ∧ PH.Le h h' := by
  refine zAp Try.func61 (by kernel_rfl) rfl _ Try.ntmps61 (by kernel_rfl) (by kernel_rfl) _ Try.results61 ?_
  cases st with
  | bad p =>
    obtain ⟨a, be, h1, h2, h3, h4⟩ := hi
    unfold errV at *
    simp -dsimp -implicitDefEqProofs (disch := first | omega | assumption | (simp only [Option.isSome_some,Qt0]; done) | (simp only [List.length_cons,List.length_nil,List.length_append,Int.toNat_natCast] <;> omega) | fail) only [Nat.reduceLT,Nat.reduceLeDiff,Nat.reduceEqDiff,↓reduceIte,Int.reduceLT,Int.reduceLE,Int.reduceToNat,Int.reduceEq,Int.reduceNe,Nat.reduceAdd,Int.reduceAdd,Int.reduceSub,Int.reduceMul,Nat.reduceMul,Qp0,Qp1,Ql0,Qe0]
    refine zA3 18 _ (by kernel_rfl) (by kernel_rfl) (by kernel_rfl) (by kernel_rfl) (by kernel_rfl) (fun c f h hq => by simp only [zAy, zAv, zAw, zAu, zAx] at hq) (PH.Le.refl _).sub ?_
    simp -dsimp -implicitDefEqProofs (disch := first | omega | assumption | (simp only [Option.isSome_some,Qt0]; done) | (simp only [List.length_cons,List.length_nil,List.length_append,Int.toNat_natCast] <;> omega) | fail) only [Nat.reduceLT,Nat.reduceLeDiff,Nat.reduceEqDiff,↓reduceIte,Int.reduceLT,Int.reduceLE,Int.reduceToNat,Int.reduceEq,Int.reduceNe,Nat.reduceAdd,Int.reduceAdd,Int.reduceSub,Int.reduceMul,Nat.reduceMul,Qp0,Qp1,Ql0,Qe0,zAa,zAb,h3]
    exact ⟨_, PH.Le.refl _, ⟨be, rfl, h4⟩, PH.Le.refl _⟩
  | ok t =>
    obtain ⟨a, h1, rfl, h3⟩ := hi
    by_cases hl : a < s.length
    · have e1 : decide ((a : Int) < (s.length : Int)) = true := decide_eq_true (by omega)
      simp -dsimp -implicitDefEqProofs (disch := first | omega | assumption | (simp only [Option.isSome_some,Qt0]; done) | (simp only [List.length_cons,List.length_nil,List.length_append,Int.toNat_natCast] <;> omega) | fail) only [Nat.reduceLT,Nat.reduceLeDiff,Nat.reduceEqDiff,↓reduceIte,Int.reduceLT,Int.reduceLE,Int.reduceToNat,Int.reduceEq,Int.reduceNe,Nat.reduceAdd,Int.reduceAdd,Int.reduceSub,Int.reduceMul,Nat.reduceMul,Qp0,Qp1,Ql0,Qe0]
      refine zA3 18 _ (by kernel_rfl) (by kernel_rfl) (by kernel_rfl) (by kernel_rfl) (by kernel_rfl) (fun c f h hq => by simp only [zAy, zAv, zAw, zAu, zAx] at hq) (PH.Le.refl _).sub ?_
      simp -dsimp -implicitDefEqProofs (disch := first | omega | assumption | (simp only [Option.isSome_some,Qt0]; done) | (simp only [List.length_cons,List.length_nil,List.length_append,Int.toNat_natCast] <;> omega) | fail) only [Nat.reduceLT,Nat.reduceLeDiff,Nat.reduceEqDiff,↓reduceIte,Int.reduceLT,Int.reduceLE,Int.reduceToNat,Int.reduceEq,Int.reduceNe,Nat.reduceAdd,Int.reduceAdd,Int.reduceSub,Int.reduceMul,Nat.reduceMul,Qp0,Qp1,Ql0,Qe0,zAa,zAb,h3,e1]
      refine (zCq wireT _ _ _ w0 h).mono ?_
      rintro v hq ⟨be, rfl, hbe, rfl⟩
      unfold errV
      simp -dsimp -implicitDefEqProofs (disch := first | omega | assumption | (simp only [Option.isSome_some,Qt0]; done) | (simp only [List.length_cons,List.length_nil,List.length_append,Int.toNat_natCast] <;> omega) | fail) only [Nat.reduceLT,Nat.reduceLeDiff,Nat.reduceEqDiff,↓reduceIte,Int.reduceLT,Int.reduceLE,Int.reduceToNat,Int.reduceEq,Int.reduceNe,Nat.reduceAdd,Int.reduceAdd,Int.reduceSub,Int.reduceMul,Nat.reduceMul,Qp0,Qp1,Ql0,Qe0]
      refine ⟨_, PH.Le.refl _, ?_, (PH.Le.refl h).new _ _ hbe⟩
      have : s.length - (s.drop a).length = a := by simp; omega
      cases hd : s.drop a with
      | nil => exfalso; rw [hd] at this; simp at this; omega
      | cons c t => exact ⟨be, rfl, by rw [← hd, this, PH.new_m, if_pos rfl]; rfl⟩
    · have e1 : decide ((a : Int) < (s.length : Int)) = false := decide_eq_false (by omega)
      simp -dsimp -implicitDefEqProofs (disch := first | omega | assumption | (simp only [Option.isSome_some,Qt0]; done) | (simp only [List.length_cons,List.length_nil,List.length_append,Int.toNat_natCast] <;> omega) | fail) only [Nat.reduceLT,Nat.reduceLeDiff,Nat.reduceEqDiff,↓reduceIte,Int.reduceLT,Int.reduceLE,Int.reduceToNat,Int.reduceEq,Int.reduceNe,Nat.reduceAdd,Int.reduceAdd,Int.reduceSub,Int.reduceMul,Nat.reduceMul,Qp0,Qp1,Ql0,Qe0]
      refine zA3 18 _ (by kernel_rfl) (by kernel_rfl) (by kernel_rfl) (by kernel_rfl) (by kernel_rfl) (fun c f h hq => by simp only [zAy, zAv, zAw, zAu, zAx] at hq) (PH.Le.refl _).sub ?_
      simp -dsimp -implicitDefEqProofs (disch := first | omega | assumption | (simp only [Option.isSome_some,Qt0]; done) | (simp only [List.length_cons,List.length_nil,List.length_append,Int.toNat_natCast] <;> omega) | fail) only [Nat.reduceLT,Nat.reduceLeDiff,Nat.reduceEqDiff,↓reduceIte,Int.reduceLT,Int.reduceLE,Int.reduceToNat,Int.reduceEq,Int.reduceNe,Nat.reduceAdd,Int.reduceAdd,Int.reduceSub,Int.reduceMul,Nat.reduceMul,Qp0,Qp1,Ql0,Qe0,zAa,zAb,h3,e1]
      rw [List.drop_eq_nil_of_le (by omega)]
      exact ⟨_, PH.Le.refl _, by rfl, PH.Le.refl _⟩
end
end Go.Proofs.Ytblikpbaeippaaa


namespace Go.Proofs.Ytblikpbaeippaaa.Fm
set_option linter.unusedVariables false
set_option linter.unusedSimpArgs false
def bit (s : UInt32) : UInt32 := s >>> 1 ^^^ (2197175160 &&& -(s &&& 1))
def bits : Nat → UInt32 → UInt32
  | 0, s => s
  | n + 1, s => bit (bits n s)
def step (s : UInt32) (c : UInt8) : UInt32 := ~~~(bits 8 (~~~s ^^^ c.toUInt32))
def sum (l : List UInt8) : UInt32 := l.foldl step 0
def four (s : UInt32) : List UInt8 := [s.toUInt8, (s >>> 8).toUInt8, (s >>> 16).toUInt8, (s >>> 24).toUInt8]
def head (n : Nat) : List UInt8 := [UInt8.ofNat (n / 256), UInt8.ofNat n]
def raw (p : List UInt8) : List UInt8 := head p.length ++ four (sum (head p.length)) ++ p ++ four (sum (head p.length ++ p))
def two (c : UInt8) : List UInt8 := [(64 : UInt8) ||| c >>> 4, (64 : UInt8) ||| c &&& 15]
def enc (r : List UInt8) : List UInt8 := r.flatMap two
def frame (p : List UInt8) : List UInt8 := 1 :: enc (raw p)
theorem four_length (s : UInt32) : (four s).length = 4 := rfl
theorem zE8 (n : Nat) : (head n).length = 2 := rfl
theorem raw_length (p : List UInt8) : (raw p).length = p.length + 10 := by simp [raw, four_length, zE8]; omega
theorem zDq (c : UInt8) (r : List UInt8) : enc (c :: r) = ((64 : UInt8) ||| c >>> 4) :: ((64 : UInt8) ||| c &&& 15) :: enc r := rfl
theorem enc_append (a b : List UInt8) : enc (a ++ b) = enc a ++ enc b := by simp [enc]
theorem zEq : ∀ r : List UInt8, (enc r).length = 2 * r.length
  | [] => rfl
  | c :: r => by rw [zDq, List.length_cons, List.length_cons, zEq r, List.length_cons]; omega
theorem frame_length (p : List UInt8) : (frame p).length = 2 * p.length + 21 := by
  rw [frame, List.length_cons, zEq, raw_length]; omega
/-! letters -/
def lettered (a : UInt8) : Bool := a &&& ~~~15 == 64
theorem all8 {p : UInt8 → Prop} [∀ a, Decidable (p a)] (h : ∀ i : Fin 256, p (UInt8.ofNat i.val)) (a : UInt8) : p a := by
  have := h ⟨a.toNat, a.toNat_lt⟩
  simpa using this
theorem hi_letter (c : UInt8) : lettered ((64 : UInt8) ||| c >>> 4) = true := all8 (p := fun c => lettered ((64 : UInt8) ||| c >>> 4) = true) (by decide +kernel) c
theorem lo_letter (c : UInt8) : lettered ((64 : UInt8) ||| c &&& 15) = true := all8 (p := fun c => lettered ((64 : UInt8) ||| c &&& 15) = true) (by decide +kernel) c
theorem letter_ne (a : UInt8) (h : lettered a = true) : a ≠ 0 ∧ a ≠ 1 := by
  have := all8 (p := fun a => lettered a = true → a ≠ 0 ∧ a ≠ 1) (by decide +kernel) a
  exact this h
theorem hi_back (a : UInt8) (h : lettered a = true) : (64 : UInt8) ||| (a &&& 15) = a := by
  have := all8 (p := fun a => lettered a = true → (64 : UInt8) ||| (a &&& 15) = a) (by decide +kernel) a
  exact this h
theorem un_hi (a b : UInt8) : (a <<< 4 ||| b &&& 15) >>> 4 = a &&& 15 := by
  apply UInt8.toBitVec_inj.1
  apply BitVec.eq_of_getLsbD_eq
  intro i hi
  rcases (show i = 0 ∨ i = 1 ∨ i = 2 ∨ i = 3 ∨ i = 4 ∨ i = 5 ∨ i = 6 ∨ i = 7 by omega) with rfl | rfl | rfl | rfl | rfl | rfl | rfl | rfl <;> simp <;> decide
theorem un_lo (a b : UInt8) : (a <<< 4 ||| b &&& 15) &&& 15 = b &&& 15 := by
  apply UInt8.toBitVec_inj.1
  apply BitVec.eq_of_getLsbD_eq
  intro i hi
  rcases (show i = 0 ∨ i = 1 ∨ i = 2 ∨ i = 3 ∨ i = 4 ∨ i = 5 ∨ i = 6 ∨ i = 7 by omega) with rfl | rfl | rfl | rfl | rfl | rfl | rfl | rfl <;> simp <;> decide
theorem two_back (c : UInt8) : ((64 : UInt8) ||| c >>> 4) <<< 4 ||| ((64 : UInt8) ||| c &&& 15) &&& 15 = c := all8 (p := fun c => ((64 : UInt8) ||| c >>> 4) <<< 4 ||| ((64 : UInt8) ||| c &&& 15) &&& 15 = c) (by decide +kernel) c
theorem two_of (a b : UInt8) (ha : lettered a = true) (hb : lettered b = true) : two (a <<< 4 ||| b &&& 15) = [a, b] := by
  unfold two
  rw [un_hi, un_lo, hi_back a ha, hi_back b hb]
def raws : Nat → List UInt8 → Option (List UInt8)
  | 0, _ => some []
  | n + 1, a :: b :: l => if lettered a = true ∧ lettered b = true then (raws n l).map ((a <<< 4 ||| b &&& 15) :: ·) else none
  | _ + 1, _ => none
theorem raws_enc : ∀ (r t : List UInt8), raws r.length (enc r ++ t) = some r
  | [], t => rfl
  | c :: r, t => by
    rw [zDq, List.length_cons, List.cons_append, List.cons_append, raws, if_pos ⟨hi_letter c, lo_letter c⟩, raws_enc r t, two_back]
    rfl
theorem raws_some : ∀ (n : Nat) (l r : List UInt8), raws n l = some r → r.length = n ∧ l.take (2 * n) = enc r ∧ 2 * n ≤ l.length
  | 0, l, r, h => by
    simp [raws] at h; subst h; simp [enc]
  | n + 1, [], r, h => by simp [raws] at h
  | n + 1, [a], r, h => by simp [raws] at h
  | n + 1, a :: b :: l, r, h => by
    rw [raws] at h
    by_cases hab : lettered a = true ∧ lettered b = true
    · rw [if_pos hab] at h
      obtain ⟨r', hr', rfl⟩ := Option.map_eq_some_iff.1 h
      obtain ⟨h1, h2, h3⟩ := raws_some n l r' hr'
      have ht := two_of a b hab.1 hab.2
      unfold two at ht
      injection ht with e1 ht
      injection ht with e2 _
      refine ⟨by simp [h1], ?_, by simp; omega⟩
      rw [zDq, e1, e2, show 2 * (n + 1) = 2 * n + 1 + 1 by omega, List.take_succ_cons, List.take_succ_cons, h2]
    · rw [if_neg hab] at h; cases h
theorem raws_step : ∀ (i : Nat) (l r : List UInt8), raws i l = some r → 2 * i + 2 ≤ l.length → raws (i + 1) l = if lettered (l.getD (2 * i) 0) = true ∧ lettered (l.getD (2 * i + 1) 0) = true then some (r ++ [l.getD (2 * i) 0 <<< 4 ||| l.getD (2 * i + 1) 0 &&& 15]) else none
  | 0, [], r, h, hl => by simp at hl
  | 0, [a], r, h, hl => by simp at hl
  | 0, a :: b :: l, r, h, hl => by
    have : r = [] := by simpa [raws] using h.symm
    subst this
    simp [raws]
  | i + 1, [], r, h, hl => by simp at hl
  | i + 1, [a], r, h, hl => by simp at hl
  | i + 1, a :: b :: l, r, h, hl => by
    rw [raws] at h
    by_cases hab : lettered a = true ∧ lettered b = true
    · rw [if_pos hab] at h
      obtain ⟨r', hr', rfl⟩ := Option.map_eq_some_iff.1 h
      have ih := raws_step i l r' hr' (by simp at hl; omega)
      have e1 : (a :: b :: l).getD (2 * (i + 1)) 0 = l.getD (2 * i) 0 := by rw [show 2 * (i + 1) = 2 * i + 1 + 1 by omega, List.getD_cons_succ, List.getD_cons_succ]
      have e2 : (a :: b :: l).getD (2 * (i + 1) + 1) 0 = l.getD (2 * i + 1) 0 := by rw [show 2 * (i + 1) + 1 = 2 * i + 1 + 1 + 1 by omega, List.getD_cons_succ, List.getD_cons_succ]
      rw [raws, if_pos hab, ih, e1, e2]
      split <;> simp
    · rw [if_neg hab] at h; cases h
theorem raws_more : ∀ (i : Nat) (l : List UInt8), raws i l = none → raws (i + 1) l = none
  | 0, l, h => by simp [raws] at h
  | i + 1, [], h => rfl
  | i + 1, [a], h => rfl
  | i + 1, a :: b :: l, h => by
    rw [raws] at h ⊢
    by_cases hab : lettered a = true ∧ lettered b = true
    · rw [if_pos hab] at h ⊢
      rw [raws_more i l (by simpa using h)]
      rfl
    · rw [if_neg hab]
theorem raws_mono {i n : Nat} {l : List UInt8} (h : raws i l = none) (hi : i ≤ n) : raws n l = none := by
  induction n with
  | zero => obtain rfl : i = 0 := by omega
            exact h
  | succ n ih =>
    by_cases e : i = n + 1
    · rw [← e]; exact h
    · exact raws_more n l (ih (by omega))
theorem raws_short (n : Nat) (l : List UInt8) (h : l.length < 2 * n) : raws n l = none := by
  cases e : raws n l with
  | none => rfl
  | some r => have := (raws_some n l r e).2.2; omega
def openL (s : List UInt8) (at_ : Nat) : Option (List UInt8 × Nat) :=
  match raws 6 (s.drop at_) with
  | none => none
  | some hd => if four (sum (hd.take 2)) = hd.drop 2 then
      match raws ((hd.getD 0 0).toNat * 256 + (hd.getD 1 0).toNat + 4) (s.drop (at_ + 12)) with
      | none => none
      | some rest => if (hd.getD 0 0).toNat * 256 + (hd.getD 1 0).toNat ≤ 8192 ∧ four (sum (hd.take 2 ++ rest.take ((hd.getD 0 0).toNat * 256 + (hd.getD 1 0).toNat))) = rest.drop ((hd.getD 0 0).toNat * 256 + (hd.getD 1 0).toNat) then some (rest.take ((hd.getD 0 0).toNat * 256 + (hd.getD 1 0).toNat), at_ + 12 + 2 * ((hd.getD 0 0).toNat * 256 + (hd.getD 1 0).toNat + 4)) else none
    else none
theorem head_num (n : Nat) (h : n ≤ 8192) : ((head n).getD 0 0).toNat * 256 + ((head n).getD 1 0).toNat = n := by
  simp [head]; omega
theorem head_eq (a b : UInt8) : head (a.toNat * 256 + b.toNat) = [a, b] := by
  have ha := a.toNat_lt
  have hb := b.toNat_lt
  unfold head
  congr 1
  · apply UInt8.toNat_inj.1; simp; omega
  · congr 1
    apply UInt8.toNat_inj.1; simp
theorem open_frame (s : List UInt8) (at_ : Nat) (p t : List UInt8) (hp : p.length ≤ 8192) (hs : s.drop at_ = enc (raw p) ++ t) : openL s at_ = some (p, at_ + 2 * (p.length + 10)) := by
  have h1 : raws 6 (s.drop at_) = some (head p.length ++ four (sum (head p.length))) := by
    rw [hs, raw, List.append_assoc, enc_append, List.append_assoc]
    exact raws_enc (head p.length ++ four (sum (head p.length))) _
  have h2 : s.drop (at_ + 12) = enc (p ++ four (sum (head p.length ++ p))) ++ t := by
    rw [← List.drop_drop, hs, raw, List.append_assoc (head p.length ++ four (sum (head p.length))), enc_append, List.append_assoc, List.drop_append_of_le_length (by rw [zEq]; simp [zE8, four_length]), List.drop_of_length_le (by rw [zEq]; simp [zE8, four_length])]
    rfl
  have hn := head_num p.length hp
  have e0 : (head p.length ++ four (sum (head p.length))).getD 0 0 = (head p.length).getD 0 0 := rfl
  have e1 : (head p.length ++ four (sum (head p.length))).getD 1 0 = (head p.length).getD 1 0 := rfl
  have h3 : raws (p.length + 4) (s.drop (at_ + 12)) = some (p ++ four (sum (head p.length ++ p))) := by
    rw [h2]
    have := raws_enc (p ++ four (sum (head p.length ++ p))) t
    rwa [List.length_append, four_length] at this
  unfold openL
  rw [h1]
  simp only [e0, e1, hn]
  have e2 : (head p.length ++ four (sum (head p.length))).take 2 = head p.length := rfl
  have e3 : (head p.length ++ four (sum (head p.length))).drop 2 = four (sum (head p.length)) := rfl
  rw [e2, e3, if_pos rfl, h3]
  simp only [List.take_left', List.drop_left']
  rw [if_pos ⟨hp, by simp⟩]
  simp; omega
theorem sublist_len (l : List UInt8) (h : l.length = 6) : ∃ a b c, l = a :: b :: c ∧ c.length = 4 := by
  match l, h with
  | [a, b, c, d, e, f], _ => exact ⟨a, b, [c, d, e, f], rfl, rfl⟩
theorem open_some (s : List UInt8) (at_ : Nat) (p : List UInt8) (k : Nat) (h : openL s at_ = some (p, k)) : p.length ≤ 8192 ∧ k = at_ + 2 * (p.length + 10) ∧ ∃ t, s.drop at_ = enc (raw p) ++ t := by
  unfold openL at h
  split at h
  · cases h
  rename_i hd h1
  obtain ⟨l1, t1, g1⟩ := raws_some _ _ _ h1
  obtain ⟨a, b, c, rfl, hc⟩ := sublist_len hd l1
  simp only [List.getD_cons_zero, List.getD_cons_succ, List.take_succ_cons, List.take_zero, List.drop_succ_cons, List.drop_zero] at h
  by_cases hh : four (sum [a, b]) = c
  · rw [if_pos hh] at h
    split at h
    · cases h
    rename_i rest h2
    obtain ⟨l2, t2, g2⟩ := raws_some _ _ _ h2
    obtain ⟨n, hn⟩ : ∃ n, n = a.toNat * 256 + b.toNat := ⟨_, rfl⟩
    rw [← hn] at h h2 l2 t2 g2
    by_cases hq : n ≤ 8192 ∧ four (sum ([a, b] ++ rest.take n)) = rest.drop n
    · rw [if_pos hq] at h
      have h := Option.some.inj h
      have hpe : rest.take n = p := congrArg Prod.fst h
      have hke : at_ + 12 + 2 * (n + 4) = k := congrArg Prod.snd h
      have hpl : p.length = n := by rw [← hpe, List.length_take]; omega
      have hhd : head p.length = [a, b] := by rw [hpl, hn, head_eq]
      refine ⟨by omega, by omega, (s.drop (at_ + 12)).drop (2 * (n + 4)), ?_⟩
      have hr : raw p = (a :: b :: c) ++ rest := by
        unfold raw
        rw [hhd, hh, ← hpe, hq.2, List.append_assoc, List.take_append_drop]
        rfl
      rw [hr, enc_append, ← t1, ← t2, List.append_assoc, List.take_append_drop, ← List.drop_drop, List.take_append_drop]
    · rw [if_neg hq] at h; cases h
  · rw [if_neg hh] at h; cases h
/-! the sum -/
end Go.Proofs.Ytblikpbaeippaaa.Fm



namespace Go.Proofs.Ytblikpbaeippaaa
set_option linter.unusedVariables false
set_option linter.unusedSimpArgs false
open Go.RowKit Px
set_option maxRecDepth 20000 in
theorem step_any (s : UInt32) (c : UInt8) (w0 : World) (h : PH) : PCalls Try.prog w0 83 [u32 s, u8 c] h fun v h' => v = u32 (Fm.step s c) ∧ h' = h := by
  refine zAp Try.func83 (by kernel_rfl) rfl _ Try.ntmps83 (by kernel_rfl) (by kernel_rfl) _ Try.results83 ?_
  obtain ⟨z, hz⟩ : ∃ z, ~~~s ^^^ c.toUInt32 = z := ⟨_, rfl⟩
  have hst : Fm.step s c = ~~~(Fm.bits 8 z) := by rw [← hz]; rfl
  rw [hst]
  clear hst
  simp -dsimp -implicitDefEqProofs (disch := first | omega | assumption | (simp only [Option.isSome_some,Qt0]; done) | (simp only [UInt64.reduceToNat,UInt32.reduceToNat,UInt8.reduceToNat,List.length_cons,List.length_nil,List.length_append,Int.toNat_natCast] <;> omega) | fail) only [Nat.reduceLT,Nat.reduceLeDiff,Nat.reduceEqDiff,↓reduceIte,Int.reduceLT,Int.reduceLE,Int.reduceToNat,Int.reduceEq,Int.reduceNe,Nat.reduceAdd,UInt8.reduceOfNat,UInt16.reduceOfNat,UInt32.reduceOfNat,UInt64.reduceOfNat,UInt64.reduceToNat,UInt32.reduceToNat,UInt16.reduceToNat,UInt8.reduceToNat,Int.reduceAdd,Int.reduceSub,Int.reduceMul,Nat.reduceMul,Qp0,Qp1,Ql0,Qe0,hz]
  refine zBs (fun n f h' => ∃ k : Nat, k + n = 8 ∧ f 0 = some (u32 (Fm.bits k z)) ∧ f 5 = some (.int .i64 k) ∧ h' = h) (by kernel_rfl) 8 ⟨0, by omega, ?_, ?_, rfl⟩ ?_
  · simp -dsimp -implicitDefEqProofs (disch := first | omega | assumption | (simp only [Option.isSome_some,Qt0]; done) | (simp only [UInt64.reduceToNat,UInt32.reduceToNat,UInt8.reduceToNat,List.length_cons,List.length_nil,List.length_append,Int.toNat_natCast] <;> omega) | fail) only [Nat.reduceLT,Nat.reduceLeDiff,Nat.reduceEqDiff,↓reduceIte,Int.reduceLT,Int.reduceLE,Int.reduceToNat,Int.reduceEq,Int.reduceNe,Nat.reduceAdd,UInt8.reduceOfNat,UInt16.reduceOfNat,UInt32.reduceOfNat,UInt64.reduceOfNat,UInt64.reduceToNat,UInt32.reduceToNat,UInt16.reduceToNat,UInt8.reduceToNat,Int.reduceAdd,Int.reduceSub,Int.reduceMul,Nat.reduceMul,Qp0,Qp1,Ql0,Qe0,hz]
    try rfl
  · simp -dsimp -implicitDefEqProofs (disch := first | omega | assumption | (simp only [Option.isSome_some,Qt0]; done) | (simp only [UInt64.reduceToNat,UInt32.reduceToNat,UInt8.reduceToNat,List.length_cons,List.length_nil,List.length_append,Int.toNat_natCast] <;> omega) | fail) only [Nat.reduceLT,Nat.reduceLeDiff,Nat.reduceEqDiff,↓reduceIte,Int.reduceLT,Int.reduceLE,Int.reduceToNat,Int.reduceEq,Int.reduceNe,Nat.reduceAdd,UInt8.reduceOfNat,UInt16.reduceOfNat,UInt32.reduceOfNat,UInt64.reduceOfNat,UInt64.reduceToNat,UInt32.reduceToNat,UInt16.reduceToNat,UInt8.reduceToNat,Int.reduceAdd,Int.reduceSub,Int.reduceMul,Nat.reduceMul,Qp0,Qp1,Ql0,Qe0]
    try rfl
  rintro n f h' ⟨k, hk, f0, f5, rfl⟩
  by_cases hlt : k < 8
  · have hI : decide ((k : Int) < 8) = true := decide_eq_true (by omega)
    have hb : Fm.bits (k + 1) z = Fm.bit (Fm.bits k z) := rfl
    unfold Fm.bit at hb
    generalize Fm.bits k z = q at *
    simp -dsimp -implicitDefEqProofs (disch := first | omega | assumption | (simp only [Option.isSome_some,Qt0]; done) | (simp only [UInt64.reduceToNat,UInt32.reduceToNat,UInt8.reduceToNat,List.length_cons,List.length_nil,List.length_append,Int.toNat_natCast] <;> omega) | fail) only [Nat.reduceLT,Nat.reduceLeDiff,Nat.reduceEqDiff,↓reduceIte,Int.reduceLT,Int.reduceLE,Int.reduceToNat,Int.reduceEq,Int.reduceNe,Nat.reduceAdd,UInt8.reduceOfNat,UInt16.reduceOfNat,UInt32.reduceOfNat,UInt64.reduceOfNat,UInt64.reduceToNat,UInt32.reduceToNat,UInt16.reduceToNat,UInt8.reduceToNat,Int.reduceAdd,Int.reduceSub,Int.reduceMul,Nat.reduceMul,Qp0,Qp1,Ql0,Qe0,f0,f5,hI]
    exact ⟨n - 1, _, by omega, PH.Le.refl _, k + 1, by omega, by rw [hb, UInt32.zero_sub], by simp, rfl⟩
  · obtain rfl : k = 8 := by omega
    have hI : decide (((8 : Nat) : Int) < 8) = false := rfl
    generalize Fm.bits 8 z = q at *
    simp -dsimp -implicitDefEqProofs (disch := first | omega | assumption | (simp only [Option.isSome_some,Qt0]; done) | (simp only [UInt64.reduceToNat,UInt32.reduceToNat,UInt8.reduceToNat,List.length_cons,List.length_nil,List.length_append,Int.toNat_natCast] <;> omega) | fail) only [Nat.reduceLT,Nat.reduceLeDiff,Nat.reduceEqDiff,↓reduceIte,Int.reduceLT,Int.reduceLE,Int.reduceToNat,Int.reduceEq,Int.reduceNe,Nat.reduceAdd,UInt8.reduceOfNat,UInt16.reduceOfNat,UInt32.reduceOfNat,UInt64.reduceOfNat,UInt64.reduceToNat,UInt32.reduceToNat,UInt16.reduceToNat,UInt8.reduceToNat,Int.reduceAdd,Int.reduceSub,Int.reduceMul,Nat.reduceMul,Qp0,Qp1,Ql0,Qe0,f0,f5,hI]
    exact ⟨_, PH.Le.refl _, by trivial, rfl⟩
theorem sum_next (l : List UInt8) (k : Nat) (hk : k < l.length) : Fm.sum (l.take (k + 1)) = Fm.step (Fm.sum (l.take k)) (l.getD k 0) := by
  unfold Fm.sum
  rw [List.take_succ_eq_append_getElem hk, List.foldl_append]
  simp [List.getD, List.getElem?_eq_getElem hk]
set_option maxRecDepth 20000 in
theorem crc_any (l : List UInt8) (hl : l.length ≤ 3100000) (v0 : Value) (w0 : World) (h : PH) (hv : Kn h v0 (bs l)) : PCalls Try.prog w0 82 [v0] h fun v h' => v = u32 (Fm.sum l) ∧ h' = h := by
  obtain ⟨b, o, c, X, lim, rfl, hc, hb, ho, hX⟩ := hv
  rw [zA0] at hc ho ⊢
  refine zAp Try.func82 (by kernel_rfl) rfl _ Try.ntmps82 (by kernel_rfl) (by kernel_rfl) _ Try.results82 ?_
  simp -dsimp -implicitDefEqProofs (disch := first | omega | assumption | (simp only [Option.isSome_some,Qt0]; done) | (simp only [UInt64.reduceToNat,UInt32.reduceToNat,UInt8.reduceToNat,List.length_cons,List.length_nil,List.length_append,Int.toNat_natCast] <;> omega) | fail) only [Nat.reduceLT,Nat.reduceLeDiff,Nat.reduceEqDiff,↓reduceIte,Int.reduceLT,Int.reduceLE,Int.reduceToNat,Int.reduceEq,Int.reduceNe,Nat.reduceAdd,UInt8.reduceOfNat,UInt16.reduceOfNat,UInt32.reduceOfNat,UInt64.reduceOfNat,UInt64.reduceToNat,UInt32.reduceToNat,UInt16.reduceToNat,UInt8.reduceToNat,Int.reduceAdd,Int.reduceSub,Int.reduceMul,Nat.reduceMul,Qp0,Qp1,Ql0,Qe0]
  refine zBs (fun n f h' => ∃ k : Nat, k + n = l.length ∧ f 3 = some (u32 (Fm.sum (l.take k))) ∧ f 6 = some (.slice (some ⟨b, o, none⟩) l.length c) ∧ f 7 = some (.int .i64 l.length) ∧ f 8 = some (.int .i64 k) ∧ h' = h) (by kernel_rfl) l.length ⟨0, by omega, ?_, ?_, ?_, ?_, rfl⟩ ?_
  · simp -dsimp -implicitDefEqProofs (disch := first | omega | assumption | (simp only [Option.isSome_some,Qt0]; done) | (simp only [UInt64.reduceToNat,UInt32.reduceToNat,UInt8.reduceToNat,List.length_cons,List.length_nil,List.length_append,Int.toNat_natCast] <;> omega) | fail) only [Nat.reduceLT,Nat.reduceLeDiff,Nat.reduceEqDiff,↓reduceIte,Int.reduceLT,Int.reduceLE,Int.reduceToNat,Int.reduceEq,Int.reduceNe,Nat.reduceAdd,UInt8.reduceOfNat,UInt16.reduceOfNat,UInt32.reduceOfNat,UInt64.reduceOfNat,UInt64.reduceToNat,UInt32.reduceToNat,UInt16.reduceToNat,UInt8.reduceToNat,Int.reduceAdd,Int.reduceSub,Int.reduceMul,Nat.reduceMul,Qp0,Qp1,Ql0,Qe0]
    try rfl
  · simp -dsimp -implicitDefEqProofs (disch := first | omega | assumption | (simp only [Option.isSome_some,Qt0]; done) | (simp only [UInt64.reduceToNat,UInt32.reduceToNat,UInt8.reduceToNat,List.length_cons,List.length_nil,List.length_append,Int.toNat_natCast] <;> omega) | fail) only [Nat.reduceLT,Nat.reduceLeDiff,Nat.reduceEqDiff,↓reduceIte,Int.reduceLT,Int.reduceLE,Int.reduceToNat,Int.reduceEq,Int.reduceNe,Nat.reduceAdd,UInt8.reduceOfNat,UInt16.reduceOfNat,UInt32.reduceOfNat,UInt64.reduceOfNat,UInt64.reduceToNat,UInt32.reduceToNat,UInt16.reduceToNat,UInt8.reduceToNat,Int.reduceAdd,Int.reduceSub,Int.reduceMul,Nat.reduceMul,Qp0,Qp1,Ql0,Qe0]
  · simp -dsimp -implicitDefEqProofs (disch := first | omega | assumption | (simp only [Option.isSome_some,Qt0]; done) | (simp only [UInt64.reduceToNat,UInt32.reduceToNat,UInt8.reduceToNat,List.length_cons,List.length_nil,List.length_append,Int.toNat_natCast] <;> omega) | fail) only [Nat.reduceLT,Nat.reduceLeDiff,Nat.reduceEqDiff,↓reduceIte,Int.reduceLT,Int.reduceLE,Int.reduceToNat,Int.reduceEq,Int.reduceNe,Nat.reduceAdd,UInt8.reduceOfNat,UInt16.reduceOfNat,UInt32.reduceOfNat,UInt64.reduceOfNat,UInt64.reduceToNat,UInt32.reduceToNat,UInt16.reduceToNat,UInt8.reduceToNat,Int.reduceAdd,Int.reduceSub,Int.reduceMul,Nat.reduceMul,Qp0,Qp1,Ql0,Qe0]
  · simp -dsimp -implicitDefEqProofs (disch := first | omega | assumption | (simp only [Option.isSome_some,Qt0]; done) | (simp only [UInt64.reduceToNat,UInt32.reduceToNat,UInt8.reduceToNat,List.length_cons,List.length_nil,List.length_append,Int.toNat_natCast] <;> omega) | fail) only [Nat.reduceLT,Nat.reduceLeDiff,Nat.reduceEqDiff,↓reduceIte,Int.reduceLT,Int.reduceLE,Int.reduceToNat,Int.reduceEq,Int.reduceNe,Nat.reduceAdd,UInt8.reduceOfNat,UInt16.reduceOfNat,UInt32.reduceOfNat,UInt64.reduceOfNat,UInt64.reduceToNat,UInt32.reduceToNat,UInt16.reduceToNat,UInt8.reduceToNat,Int.reduceAdd,Int.reduceSub,Int.reduceMul,Nat.reduceMul,Qp0,Qp1,Ql0,Qe0]
    try rfl
  rintro n f h' ⟨k, hk, f3, f6, f7, f8, rfl⟩
  by_cases hlt : k < l.length
  · have hI : decide ((k : Int) < (l.length : Int)) = true := decide_eq_true (by omega)
    have hg : X[o + k]? = some (u8 (l.getD k 0)) := by
      rw [Kn.get (n := 0) hX (by rw [zA0]; exact hlt), bs_get l k hlt]
    have hn := sum_next l k hlt
    have hS := Lib.hid (step_any (Fm.sum (l.take k)) (l.getD k 0) w0 h')
    rw [← hn] at hS
    generalize l.getD k 0 = q at *
    generalize Fm.sum (l.take k) = s at *
    simp -dsimp -implicitDefEqProofs (disch := first | omega | assumption | (simp only [Option.isSome_some,Qt0]; done) | (simp only [UInt64.reduceToNat,UInt32.reduceToNat,UInt8.reduceToNat,List.length_cons,List.length_nil,List.length_append,Int.toNat_natCast] <;> omega) | fail) only [Nat.reduceLT,Nat.reduceLeDiff,Nat.reduceEqDiff,↓reduceIte,Int.reduceLT,Int.reduceLE,Int.reduceToNat,Int.reduceEq,Int.reduceNe,Nat.reduceAdd,UInt8.reduceOfNat,UInt16.reduceOfNat,UInt32.reduceOfNat,UInt64.reduceOfNat,UInt64.reduceToNat,UInt32.reduceToNat,UInt16.reduceToNat,UInt8.reduceToNat,Int.reduceAdd,Int.reduceSub,Int.reduceMul,Nat.reduceMul,Qp0,Qp1,Ql0,Qe0,f3,f6,f7,f8,hI,zAa,zAb,hb,hg]
    refine hS.out.mono ?_
    rintro v hz ⟨rfl, rfl⟩
    simp -dsimp -implicitDefEqProofs (disch := first | omega | assumption | (simp only [Option.isSome_some,Qt0]; done) | (simp only [UInt64.reduceToNat,UInt32.reduceToNat,UInt8.reduceToNat,List.length_cons,List.length_nil,List.length_append,Int.toNat_natCast] <;> omega) | fail) only [Nat.reduceLT,Nat.reduceLeDiff,Nat.reduceEqDiff,↓reduceIte,Int.reduceLT,Int.reduceLE,Int.reduceToNat,Int.reduceEq,Int.reduceNe,Nat.reduceAdd,UInt8.reduceOfNat,UInt16.reduceOfNat,UInt32.reduceOfNat,UInt64.reduceOfNat,UInt64.reduceToNat,UInt32.reduceToNat,UInt16.reduceToNat,UInt8.reduceToNat,Int.reduceAdd,Int.reduceSub,Int.reduceMul,Nat.reduceMul,Qp0,Qp1,Ql0,Qe0,f3,f6,f7,f8]
    exact ⟨n - 1, _, by omega, PH.Le.refl _, k + 1, by omega, by trivial, by trivial, by trivial, by simp, rfl⟩
  · obtain rfl : k = l.length := by omega
    rw [List.take_length] at f3
    have hI : decide ((l.length : Int) < (l.length : Int)) = false := decide_eq_false (by omega)
    simp -dsimp -implicitDefEqProofs (disch := first | omega | assumption | (simp only [Option.isSome_some,Qt0]; done) | (simp only [UInt64.reduceToNat,UInt32.reduceToNat,UInt8.reduceToNat,List.length_cons,List.length_nil,List.length_append,Int.toNat_natCast] <;> omega) | fail) only [Nat.reduceLT,Nat.reduceLeDiff,Nat.reduceEqDiff,↓reduceIte,Int.reduceLT,Int.reduceLE,Int.reduceToNat,Int.reduceEq,Int.reduceNe,Nat.reduceAdd,UInt8.reduceOfNat,UInt16.reduceOfNat,UInt32.reduceOfNat,UInt64.reduceOfNat,UInt64.reduceToNat,UInt32.reduceToNat,UInt16.reduceToNat,UInt8.reduceToNat,Int.reduceAdd,Int.reduceSub,Int.reduceMul,Nat.reduceMul,Qp0,Qp1,Ql0,Qe0,f3,f6,f7,f8,hI]
    exact ⟨_, PH.Le.refl _, by trivial, rfl⟩
set_option maxRecDepth 20000 in
theorem four_any (s : UInt32) (w0 : World) (h : PH) : PCalls Try.prog w0 81 [u32 s] h fun v h' => v = .agg (bs (Fm.four s)).toArray ∧ h' = h := by
  refine zAp Try.func81 (by kernel_rfl) rfl _ Try.ntmps81 (by kernel_rfl) (by kernel_rfl) _ Try.results81 ?_
  simp -dsimp -implicitDefEqProofs (disch := first | omega | assumption | (simp only [Option.isSome_some,Qt0]; done) | (simp only [UInt64.reduceToNat,UInt32.reduceToNat,UInt8.reduceToNat,List.length_cons,List.length_nil,List.length_append,Int.toNat_natCast] <;> omega) | fail) only [Nat.reduceLT,Nat.reduceLeDiff,Nat.reduceEqDiff,↓reduceIte,Int.reduceLT,Int.reduceLE,Int.reduceToNat,Int.reduceEq,Int.reduceNe,Nat.reduceAdd,UInt8.reduceOfNat,UInt16.reduceOfNat,UInt32.reduceOfNat,UInt64.reduceOfNat,UInt64.reduceToNat,UInt32.reduceToNat,UInt16.reduceToNat,UInt8.reduceToNat,Int.reduceAdd,Int.reduceSub,Int.reduceMul,Nat.reduceMul,Qp0,Qp1,Ql0,Qe0]
  refine fun b hb => ?_
  have hsz : s >>> 0 = s := by simp
  simp -dsimp -implicitDefEqProofs (disch := first | omega | assumption | (simp only [Option.isSome_some,Qt0]; done) | (simp only [UInt64.reduceToNat,UInt32.reduceToNat,UInt8.reduceToNat,List.length_cons,List.length_nil,List.length_append,Int.toNat_natCast] <;> omega) | fail) only [Nat.reduceLT,Nat.reduceLeDiff,Nat.reduceEqDiff,↓reduceIte,Int.reduceLT,Int.reduceLE,Int.reduceToNat,Int.reduceEq,Int.reduceNe,Nat.reduceAdd,UInt8.reduceOfNat,UInt16.reduceOfNat,UInt32.reduceOfNat,UInt64.reduceOfNat,UInt64.reduceToNat,UInt32.reduceToNat,UInt16.reduceToNat,UInt8.reduceToNat,Int.reduceAdd,Int.reduceSub,Int.reduceMul,Nat.reduceMul,Qp0,Qp1,Ql0,Qe0,List.replicate_succ,List.replicate_zero]
  refine PW_rounds 5 (by kernel_rfl) ?_
  simp -dsimp -implicitDefEqProofs (disch := first | omega | assumption | (simp only [Option.isSome_some,Qt0]; done) | (simp only [UInt64.reduceToNat,UInt32.reduceToNat,UInt8.reduceToNat,List.length_cons,List.length_nil,List.length_append,Int.toNat_natCast] <;> omega) | fail) only [Nat.reduceLT,Nat.reduceLeDiff,Nat.reduceEqDiff,↓reduceIte,Int.reduceLT,Int.reduceLE,Int.reduceToNat,Int.reduceEq,Int.reduceNe,Nat.reduceAdd,UInt8.reduceOfNat,UInt16.reduceOfNat,UInt32.reduceOfNat,UInt64.reduceOfNat,UInt64.reduceToNat,UInt32.reduceToNat,UInt16.reduceToNat,UInt8.reduceToNat,Int.reduceAdd,Int.reduceSub,Int.reduceMul,Nat.reduceMul,Qp0,Qp1,Ql0,Qe0,zAa,zAb,List.set_cons_zero,List.set_cons_succ,PH.new_new,List.replicate_succ,List.replicate_zero,hsz]
  have hl4 : (bs (Fm.four s)).length = 4 := rfl
  have ho := zCj (Fm.four s)
  have r4 : rdN w0 (h.new b ⟨bs (Fm.four s), 4⟩) ⟨b, 0, none⟩ 4 = some (bs (Fm.four s)) := zEy (k := ⟨bs (Fm.four s), 4⟩) (by rw [PH.new_m, if_pos rfl]) hl4
  have hsp : (bs (Fm.four s)).take 0 ++ bs (Fm.four s) ++ (bs (Fm.four s)).drop 4 = bs (Fm.four s) := by rw [List.drop_of_length_le (by omega)]; simp
  rw [show [u8 s.toUInt8, u8 (s >>> 8).toUInt8, u8 (s >>> 16).toUInt8, u8 (s >>> 24).toUInt8] = bs (Fm.four s) from rfl]
  generalize bs (Fm.four s) = F at *
  simp -dsimp -implicitDefEqProofs (disch := first | omega | assumption | (simp only [Option.isSome_some,Qt0]; done) | (simp only [UInt64.reduceToNat,UInt32.reduceToNat,UInt8.reduceToNat,List.length_cons,List.length_nil,List.length_append,Int.toNat_natCast] <;> omega) | fail) only [Nat.reduceLT,Nat.reduceLeDiff,Nat.reduceEqDiff,↓reduceIte,Int.reduceLT,Int.reduceLE,Int.reduceToNat,Int.reduceEq,Int.reduceNe,Nat.reduceAdd,UInt8.reduceOfNat,UInt16.reduceOfNat,UInt32.reduceOfNat,UInt64.reduceOfNat,UInt64.reduceToNat,UInt32.reduceToNat,UInt16.reduceToNat,UInt8.reduceToNat,Int.reduceAdd,Int.reduceSub,Int.reduceMul,Nat.reduceMul,Qp0,Qp1,Ql0,Qe0,r4,hl4,ho,hsp,PH.new_new]
  exact ⟨h, (PH.Le.refl h).new _ _ hb, by trivial, rfl⟩
set_option maxRecDepth 20000 in
theorem zD7 (l : List UInt8) (hl : l.length ≤ 3100000) (v0 : Value) (w0 : World) (h : PH) (hv : Kn h v0 (bs l)) : PCalls Try.prog w0 78 [v0] h fun v h' => ∃ b, v = .slice (some ⟨b, 0, none⟩) 4 4 ∧ h.top ≤ b ∧ h' = h.new b ⟨bs (Fm.four (Fm.sum l)), 4⟩ := by
  refine zAp Try.func78 (by kernel_rfl) rfl _ Try.ntmps78 (by kernel_rfl) (by kernel_rfl) _ Try.results78 ?_
  have hC := Lib.hid (crc_any l hl v0 w0 h hv)
  have hF := Lib.hid (four_any (Fm.sum l) w0 h)
  have hl4 : (bs (Fm.four (Fm.sum l))).length = 4 := rfl
  have ho := zCj (Fm.four (Fm.sum l))
  generalize Fm.four (Fm.sum l) = F at *
  generalize Fm.sum l = s at *
  simp -dsimp -implicitDefEqProofs (disch := first | omega | assumption | (simp only [Option.isSome_some,Qt0]; done) | (simp only [UInt64.reduceToNat,UInt32.reduceToNat,UInt8.reduceToNat,List.length_cons,List.length_nil,List.length_append,Int.toNat_natCast] <;> omega) | fail) only [Nat.reduceLT,Nat.reduceLeDiff,Nat.reduceEqDiff,↓reduceIte,Int.reduceLT,Int.reduceLE,Int.reduceToNat,Int.reduceEq,Int.reduceNe,Nat.reduceAdd,UInt8.reduceOfNat,UInt16.reduceOfNat,UInt32.reduceOfNat,UInt64.reduceOfNat,UInt64.reduceToNat,UInt32.reduceToNat,UInt16.reduceToNat,UInt8.reduceToNat,Int.reduceAdd,Int.reduceSub,Int.reduceMul,Nat.reduceMul,Qp0,Qp1,Ql0,Qe0]
  refine hC.out.mono ?_
  rintro v hz ⟨rfl, rfl⟩
  simp -dsimp -implicitDefEqProofs (disch := first | omega | assumption | (simp only [Option.isSome_some,Qt0]; done) | (simp only [UInt64.reduceToNat,UInt32.reduceToNat,UInt8.reduceToNat,List.length_cons,List.length_nil,List.length_append,Int.toNat_natCast] <;> omega) | fail) only [Nat.reduceLT,Nat.reduceLeDiff,Nat.reduceEqDiff,↓reduceIte,Int.reduceLT,Int.reduceLE,Int.reduceToNat,Int.reduceEq,Int.reduceNe,Nat.reduceAdd,UInt8.reduceOfNat,UInt16.reduceOfNat,UInt32.reduceOfNat,UInt64.reduceOfNat,UInt64.reduceToNat,UInt32.reduceToNat,UInt16.reduceToNat,UInt8.reduceToNat,Int.reduceAdd,Int.reduceSub,Int.reduceMul,Nat.reduceMul,Qp0,Qp1,Ql0,Qe0]
  refine hF.out.mono ?_
  rintro v hz ⟨rfl, rfl⟩
  simp -dsimp -implicitDefEqProofs (disch := first | omega | assumption | (simp only [Option.isSome_some,Qt0]; done) | (simp only [UInt64.reduceToNat,UInt32.reduceToNat,UInt8.reduceToNat,List.length_cons,List.length_nil,List.length_append,Int.toNat_natCast] <;> omega) | fail) only [Nat.reduceLT,Nat.reduceLeDiff,Nat.reduceEqDiff,↓reduceIte,Int.reduceLT,Int.reduceLE,Int.reduceToNat,Int.reduceEq,Int.reduceNe,Nat.reduceAdd,UInt8.reduceOfNat,UInt16.reduceOfNat,UInt32.reduceOfNat,UInt64.reduceOfNat,UInt64.reduceToNat,UInt32.reduceToNat,UInt16.reduceToNat,UInt8.reduceToNat,Int.reduceAdd,Int.reduceSub,Int.reduceMul,Nat.reduceMul,Qp0,Qp1,Ql0,Qe0]
  refine fun b hb => ?_
  have hsp : (List.replicate 4 (Value.int .u8 0)).take 0 ++ bs F ++ (List.replicate 4 (Value.int .u8 0)).drop 4 = bs F := by simp
  simp -dsimp -implicitDefEqProofs (disch := first | omega | assumption | (simp only [Option.isSome_some,Qt0]; done) | (simp only [UInt64.reduceToNat,UInt32.reduceToNat,UInt8.reduceToNat,List.length_cons,List.length_nil,List.length_append,Int.toNat_natCast] <;> omega) | fail) only [Nat.reduceLT,Nat.reduceLeDiff,Nat.reduceEqDiff,↓reduceIte,Int.reduceLT,Int.reduceLE,Int.reduceToNat,Int.reduceEq,Int.reduceNe,Nat.reduceAdd,UInt8.reduceOfNat,UInt16.reduceOfNat,UInt32.reduceOfNat,UInt64.reduceOfNat,UInt64.reduceToNat,UInt32.reduceToNat,UInt16.reduceToNat,UInt8.reduceToNat,Int.reduceAdd,Int.reduceSub,Int.reduceMul,Nat.reduceMul,Qp0,Qp1,Ql0,Qe0,hl4,ho,hsp,PH.new_new]
  exact ⟨_, PH.Le.refl _, b, rfl, hb, rfl⟩
end Go.Proofs.Ytblikpbaeippaaa


namespace Go.Proofs.Ytblikpbaeippaaa
set_option linter.unusedVariables false
set_option linter.unusedSimpArgs false
open Go.RowKit Px
def RP (h : PH) (n : Nat) (o : Option (List UInt8)) (v : Value) (h' : PH) : Prop := match o with
  | some r => ∃ b, v = .tuple #[.slice (some ⟨b, 0, none⟩) n n, .bool true] ∧ h.top ≤ b ∧ h' = h.new b ⟨bs r, n⟩
  | none => v = .tuple #[.slice none 0 0, .bool false] ∧ h' = h
theorem fill_set (r : List UInt8) (n i : Nat) (x : UInt8) (hr : r.length = i) (hi : i < n) : (bs (r ++ List.replicate (n - i) 0)).set i (u8 x) = bs ((r ++ [x]) ++ List.replicate (n - (i + 1)) 0) := by
  rw [show n - i = (n - (i + 1)) + 1 by omega, List.replicate_succ, zBi, List.set_append_right _ _ (by rw [zA0]; omega), zA0, hr, Nat.sub_self]
  simp [bs]
theorem drop_getD (s : List UInt8) (a j : Nat) : (s.drop a).getD j 0 = s.getD (a + j) 0 := by simp [List.getD]
set_option maxRecDepth 20000 in
set_option maxHeartbeats 1000000 in
theorem raws_any (s : List UInt8) (a n : Nat) (hs : s.length ≤ 3100000) (ha : a ≤ 3100000) (hn : 0 < n) (hn2 : n ≤ 3100000) (w0 : World) (h : PH) : PCalls Try.prog w0 79 [str s, .int .i64 a, .int .i64 n] h fun v h' => RP h n (Fm.raws n (s.drop a)) v h' := by
  refine zAp Try.func79 (by kernel_rfl) rfl _ Try.ntmps79 (by kernel_rfl) (by kernel_rfl) _ Try.results79 ?_
  by_cases hsh : (s.length : Int) - (a : Int) < 2 * (n : Int)
  · have e1 := decide_eq_true hsh
    have hno := Fm.raws_short n (s.drop a) (by rw [List.length_drop]; omega)
    rw [hno]
    simp -dsimp -implicitDefEqProofs (disch := first | omega | assumption | (simp only [Option.isSome_some,Qt0]; done) | (simp only [UInt64.reduceToNat,UInt32.reduceToNat,UInt8.reduceToNat,List.length_cons,List.length_nil,List.length_append,Int.toNat_natCast] <;> omega) | fail) only [Nat.reduceLT,Nat.reduceLeDiff,Nat.reduceEqDiff,↓reduceIte,Int.reduceLT,Int.reduceLE,Int.reduceToNat,Int.reduceEq,Int.reduceNe,Nat.reduceAdd,UInt8.reduceOfNat,UInt16.reduceOfNat,UInt32.reduceOfNat,UInt64.reduceOfNat,UInt64.reduceToNat,UInt32.reduceToNat,UInt16.reduceToNat,UInt8.reduceToNat,Int.reduceAdd,Int.reduceSub,Int.reduceMul,Nat.reduceMul,Qp0,Qp1,Ql0,Qe0,e1]
    exact ⟨_, PH.Le.refl _, rfl, rfl⟩
  have e1 := decide_eq_false hsh
  simp -dsimp -implicitDefEqProofs (disch := first | omega | assumption | (simp only [Option.isSome_some,Qt0]; done) | (simp only [UInt64.reduceToNat,UInt32.reduceToNat,UInt8.reduceToNat,List.length_cons,List.length_nil,List.length_append,Int.toNat_natCast] <;> omega) | fail) only [Nat.reduceLT,Nat.reduceLeDiff,Nat.reduceEqDiff,↓reduceIte,Int.reduceLT,Int.reduceLE,Int.reduceToNat,Int.reduceEq,Int.reduceNe,Nat.reduceAdd,UInt8.reduceOfNat,UInt16.reduceOfNat,UInt32.reduceOfNat,UInt64.reduceOfNat,UInt64.reduceToNat,UInt32.reduceToNat,UInt16.reduceToNat,UInt8.reduceToNat,Int.reduceAdd,Int.reduceSub,Int.reduceMul,Nat.reduceMul,Qp0,Qp1,Ql0,Qe0,e1]
  refine Does_make (n := n) (c := n) zA8 (by omega) (by simp [maxLen]; omega) (by omega) (fun b hb => ?_)
  have hmk : (madeCells (Value.int .u8 0).cells (n * 1)).toList = bs (List.replicate n 0) := by
    show (madeCells #[Value.int .u8 0] (n * 1)).toList = _
    rw [made_one, Nat.mul_one, bs, List.map_replicate]
    rfl
  rw [hmk, Nat.mul_one]
  obtain ⟨L, hL⟩ : ∃ L, L = s.drop a := ⟨_, rfl⟩
  have hLl : L.length = s.length - a := by rw [hL, List.length_drop]
  rw [← hL]
  simp -dsimp -implicitDefEqProofs (disch := first | omega | assumption | (simp only [Option.isSome_some,Qt0]; done) | (simp only [UInt64.reduceToNat,UInt32.reduceToNat,UInt8.reduceToNat,List.length_cons,List.length_nil,List.length_append,Int.toNat_natCast] <;> omega) | fail) only [Nat.reduceLT,Nat.reduceLeDiff,Nat.reduceEqDiff,↓reduceIte,Int.reduceLT,Int.reduceLE,Int.reduceToNat,Int.reduceEq,Int.reduceNe,Nat.reduceAdd,UInt8.reduceOfNat,UInt16.reduceOfNat,UInt32.reduceOfNat,UInt64.reduceOfNat,UInt64.reduceToNat,UInt32.reduceToNat,UInt16.reduceToNat,UInt8.reduceToNat,Int.reduceAdd,Int.reduceSub,Int.reduceMul,Nat.reduceMul,Qp0,Qp1,Ql0,Qe0]
  refine zBs (fun m f h' => ∃ (i : Nat) (r : List UInt8), i + m = n ∧ Fm.raws i L = some r ∧ f 0 = some (str s) ∧ f 1 = some (.int .i64 a) ∧ f 8 = some (.slice (some ⟨b, 0, none⟩) n n) ∧ f 22 = some (.int .i64 n) ∧ f 23 = some (.int .i64 i) ∧ h' = h.new b ⟨bs (r ++ List.replicate (n - i) 0), n⟩) (by kernel_rfl) n ⟨0, [], by omega, rfl, ?_, ?_, ?_, ?_, ?_, rfl⟩ ?_
  · simp -dsimp -implicitDefEqProofs (disch := first | omega | assumption | (simp only [Option.isSome_some,Qt0]; done) | (simp only [UInt64.reduceToNat,UInt32.reduceToNat,UInt8.reduceToNat,List.length_cons,List.length_nil,List.length_append,Int.toNat_natCast] <;> omega) | fail) only [Nat.reduceLT,Nat.reduceLeDiff,Nat.reduceEqDiff,↓reduceIte,Int.reduceLT,Int.reduceLE,Int.reduceToNat,Int.reduceEq,Int.reduceNe,Nat.reduceAdd,UInt8.reduceOfNat,UInt16.reduceOfNat,UInt32.reduceOfNat,UInt64.reduceOfNat,UInt64.reduceToNat,UInt32.reduceToNat,UInt16.reduceToNat,UInt8.reduceToNat,Int.reduceAdd,Int.reduceSub,Int.reduceMul,Nat.reduceMul,Qp0,Qp1,Ql0,Qe0]
  · simp -dsimp -implicitDefEqProofs (disch := first | omega | assumption | (simp only [Option.isSome_some,Qt0]; done) | (simp only [UInt64.reduceToNat,UInt32.reduceToNat,UInt8.reduceToNat,List.length_cons,List.length_nil,List.length_append,Int.toNat_natCast] <;> omega) | fail) only [Nat.reduceLT,Nat.reduceLeDiff,Nat.reduceEqDiff,↓reduceIte,Int.reduceLT,Int.reduceLE,Int.reduceToNat,Int.reduceEq,Int.reduceNe,Nat.reduceAdd,UInt8.reduceOfNat,UInt16.reduceOfNat,UInt32.reduceOfNat,UInt64.reduceOfNat,UInt64.reduceToNat,UInt32.reduceToNat,UInt16.reduceToNat,UInt8.reduceToNat,Int.reduceAdd,Int.reduceSub,Int.reduceMul,Nat.reduceMul,Qp0,Qp1,Ql0,Qe0]
  · simp -dsimp -implicitDefEqProofs (disch := first | omega | assumption | (simp only [Option.isSome_some,Qt0]; done) | (simp only [UInt64.reduceToNat,UInt32.reduceToNat,UInt8.reduceToNat,List.length_cons,List.length_nil,List.length_append,Int.toNat_natCast] <;> omega) | fail) only [Nat.reduceLT,Nat.reduceLeDiff,Nat.reduceEqDiff,↓reduceIte,Int.reduceLT,Int.reduceLE,Int.reduceToNat,Int.reduceEq,Int.reduceNe,Nat.reduceAdd,UInt8.reduceOfNat,UInt16.reduceOfNat,UInt32.reduceOfNat,UInt64.reduceOfNat,UInt64.reduceToNat,UInt32.reduceToNat,UInt16.reduceToNat,UInt8.reduceToNat,Int.reduceAdd,Int.reduceSub,Int.reduceMul,Nat.reduceMul,Qp0,Qp1,Ql0,Qe0]
  · simp -dsimp -implicitDefEqProofs (disch := first | omega | assumption | (simp only [Option.isSome_some,Qt0]; done) | (simp only [UInt64.reduceToNat,UInt32.reduceToNat,UInt8.reduceToNat,List.length_cons,List.length_nil,List.length_append,Int.toNat_natCast] <;> omega) | fail) only [Nat.reduceLT,Nat.reduceLeDiff,Nat.reduceEqDiff,↓reduceIte,Int.reduceLT,Int.reduceLE,Int.reduceToNat,Int.reduceEq,Int.reduceNe,Nat.reduceAdd,UInt8.reduceOfNat,UInt16.reduceOfNat,UInt32.reduceOfNat,UInt64.reduceOfNat,UInt64.reduceToNat,UInt32.reduceToNat,UInt16.reduceToNat,UInt8.reduceToNat,Int.reduceAdd,Int.reduceSub,Int.reduceMul,Nat.reduceMul,Qp0,Qp1,Ql0,Qe0]
  · simp -dsimp -implicitDefEqProofs (disch := first | omega | assumption | (simp only [Option.isSome_some,Qt0]; done) | (simp only [UInt64.reduceToNat,UInt32.reduceToNat,UInt8.reduceToNat,List.length_cons,List.length_nil,List.length_append,Int.toNat_natCast] <;> omega) | fail) only [Nat.reduceLT,Nat.reduceLeDiff,Nat.reduceEqDiff,↓reduceIte,Int.reduceLT,Int.reduceLE,Int.reduceToNat,Int.reduceEq,Int.reduceNe,Nat.reduceAdd,UInt8.reduceOfNat,UInt16.reduceOfNat,UInt32.reduceOfNat,UInt64.reduceOfNat,UInt64.reduceToNat,UInt32.reduceToNat,UInt16.reduceToNat,UInt8.reduceToNat,Int.reduceAdd,Int.reduceSub,Int.reduceMul,Nat.reduceMul,Qp0,Qp1,Ql0,Qe0]
    try rfl
  rintro m f h' ⟨i, r, him, hr, f0, f1, f8, f22, f23, rfl⟩
  by_cases hlt : i < n
  · have e2 : decide ((i : Int) < (n : Int)) = true := decide_eq_true (by omega)
    have hrl := (Fm.raws_some i L r hr).1
    have hst := Fm.raws_step i L r hr (by omega)
    have g1 : L.getD (2 * i) 0 = s.getD (a + 2 * i) 0 := by rw [hL, drop_getD]
    have g2 : L.getD (2 * i + 1) 0 = s.getD (a + 2 * i + 1) 0 := by rw [hL, drop_getD, Nat.add_assoc]
    have t1 : ((a : Int) + 2 * (i : Int)).toNat = a + 2 * i := by omega
    have t2 : ((a : Int) + 2 * (i : Int) + 1).toNat = a + 2 * i + 1 := by omega
    obtain ⟨x, hx⟩ : ∃ x, s.getD (a + 2 * i) 0 = x := ⟨_, rfl⟩
    obtain ⟨y, hy⟩ : ∃ y, s.getD (a + 2 * i + 1) 0 = y := ⟨_, rfl⟩
    rw [g1, g2, hx, hy] at hst
    have hset := fill_set r n i (x <<< 4 ||| y &&& 15) hrl hlt
    have hlen : (bs (r ++ List.replicate (n - i) 0)).length = n := by rw [zA0, List.length_append, List.length_replicate]; omega
    simp -dsimp -implicitDefEqProofs (disch := first | omega | assumption | (simp only [Option.isSome_some,Qt0]; done) | (simp only [UInt64.reduceToNat,UInt32.reduceToNat,UInt8.reduceToNat,List.length_cons,List.length_nil,List.length_append,Int.toNat_natCast] <;> omega) | fail) only [Nat.reduceLT,Nat.reduceLeDiff,Nat.reduceEqDiff,↓reduceIte,Int.reduceLT,Int.reduceLE,Int.reduceToNat,Int.reduceEq,Int.reduceNe,Nat.reduceAdd,UInt8.reduceOfNat,UInt16.reduceOfNat,UInt32.reduceOfNat,UInt64.reduceOfNat,UInt64.reduceToNat,UInt32.reduceToNat,UInt16.reduceToNat,UInt8.reduceToNat,Int.reduceAdd,Int.reduceSub,Int.reduceMul,Nat.reduceMul,Qp0,Qp1,Ql0,Qe0,f0,f1,f8,f22,f23,e2]
    refine zA3 15 (h.new b ⟨bs (r ++ List.replicate (n - i) 0), n⟩) (by kernel_rfl) (by kernel_rfl) (by kernel_rfl) (by kernel_rfl) (by kernel_rfl) (fun c f h hq => by simp only [zAy, zAv, zAw, zAu, zAx] at hq) (PH.Le.refl _).sub ?_
    by_cases lx : x &&& ~~~15 = 64
    · by_cases ly : y &&& ~~~15 = 64
      · rw [if_pos ⟨by simpa [Fm.lettered] using lx, by simpa [Fm.lettered] using ly⟩] at hst
        simp -dsimp -implicitDefEqProofs (disch := first | omega | assumption | (simp only [Option.isSome_some,Qt0]; done) | (simp only [UInt64.reduceToNat,UInt32.reduceToNat,UInt8.reduceToNat,List.length_cons,List.length_nil,List.length_append,Int.toNat_natCast] <;> omega) | fail) only [Nat.reduceLT,Nat.reduceLeDiff,Nat.reduceEqDiff,↓reduceIte,Int.reduceLT,Int.reduceLE,Int.reduceToNat,Int.reduceEq,Int.reduceNe,Nat.reduceAdd,UInt8.reduceOfNat,UInt16.reduceOfNat,UInt32.reduceOfNat,UInt64.reduceOfNat,UInt64.reduceToNat,UInt32.reduceToNat,UInt16.reduceToNat,UInt8.reduceToNat,Int.reduceAdd,Int.reduceSub,Int.reduceMul,Nat.reduceMul,Qp0,Qp1,Ql0,Qe0,f0,f1,f8,f22,f23,t1,t2,hx,hy,lx,ly,hlen,hset,PH.new_new]
        exact ⟨m - 1, _, by omega, PH.Le.refl _, i + 1, _, by omega, hst, trivial, trivial, trivial, trivial, by simp, rfl⟩
      · rw [if_neg (by rintro ⟨_, e⟩; exact ly (by simpa [Fm.lettered] using e))] at hst
        have hno := Fm.raws_mono hst (show i + 1 ≤ n by omega)
        rw [hno]
        simp -dsimp -implicitDefEqProofs (disch := first | omega | assumption | (simp only [Option.isSome_some,Qt0]; done) | (simp only [UInt64.reduceToNat,UInt32.reduceToNat,UInt8.reduceToNat,List.length_cons,List.length_nil,List.length_append,Int.toNat_natCast] <;> omega) | fail) only [Nat.reduceLT,Nat.reduceLeDiff,Nat.reduceEqDiff,↓reduceIte,Int.reduceLT,Int.reduceLE,Int.reduceToNat,Int.reduceEq,Int.reduceNe,Nat.reduceAdd,UInt8.reduceOfNat,UInt16.reduceOfNat,UInt32.reduceOfNat,UInt64.reduceOfNat,UInt64.reduceToNat,UInt32.reduceToNat,UInt16.reduceToNat,UInt8.reduceToNat,Int.reduceAdd,Int.reduceSub,Int.reduceMul,Nat.reduceMul,Qp0,Qp1,Ql0,Qe0,f0,f1,f8,f22,f23,t1,t2,hx,hy,lx,ly]
        exact ⟨h, (PH.Le.refl h).new _ _ hb, rfl, rfl⟩
    · rw [if_neg (by rintro ⟨e, _⟩; exact lx (by simpa [Fm.lettered] using e))] at hst
      have hno := Fm.raws_mono hst (show i + 1 ≤ n by omega)
      rw [hno]
      simp -dsimp -implicitDefEqProofs (disch := first | omega | assumption | (simp only [Option.isSome_some,Qt0]; done) | (simp only [UInt64.reduceToNat,UInt32.reduceToNat,UInt8.reduceToNat,List.length_cons,List.length_nil,List.length_append,Int.toNat_natCast] <;> omega) | fail) only [Nat.reduceLT,Nat.reduceLeDiff,Nat.reduceEqDiff,↓reduceIte,Int.reduceLT,Int.reduceLE,Int.reduceToNat,Int.reduceEq,Int.reduceNe,Nat.reduceAdd,UInt8.reduceOfNat,UInt16.reduceOfNat,UInt32.reduceOfNat,UInt64.reduceOfNat,UInt64.reduceToNat,UInt32.reduceToNat,UInt16.reduceToNat,UInt8.reduceToNat,Int.reduceAdd,Int.reduceSub,Int.reduceMul,Nat.reduceMul,Qp0,Qp1,Ql0,Qe0,f0,f1,f8,f22,f23,t1,t2,hx,hy,lx]
      exact ⟨h, (PH.Le.refl h).new _ _ hb, rfl, rfl⟩
  · obtain rfl : i = n := by omega
    have e2 : decide ((i : Int) < (i : Int)) = false := decide_eq_false (by omega)
    rw [hr]
    simp -dsimp -implicitDefEqProofs (disch := first | omega | assumption | (simp only [Option.isSome_some,Qt0]; done) | (simp only [UInt64.reduceToNat,UInt32.reduceToNat,UInt8.reduceToNat,List.length_cons,List.length_nil,List.length_append,Int.toNat_natCast] <;> omega) | fail) only [Nat.reduceLT,Nat.reduceLeDiff,Nat.reduceEqDiff,↓reduceIte,Int.reduceLT,Int.reduceLE,Int.reduceToNat,Int.reduceEq,Int.reduceNe,Nat.reduceAdd,UInt8.reduceOfNat,UInt16.reduceOfNat,UInt32.reduceOfNat,UInt64.reduceOfNat,UInt64.reduceToNat,UInt32.reduceToNat,UInt16.reduceToNat,UInt8.reduceToNat,Int.reduceAdd,Int.reduceSub,Int.reduceMul,Nat.reduceMul,Qp0,Qp1,Ql0,Qe0,f0,f1,f8,f22,f23,e2]
    refine ⟨_, PH.Le.refl _, b, rfl, hb, ?_⟩
    rw [Nat.sub_self, List.replicate_zero, List.append_nil]
end Go.Proofs.Ytblikpbaeippaaa


namespace Go.Proofs.Ytblikpbaeippaaa
set_option linter.unusedVariables false
set_option linter.unusedSimpArgs false
open Go.RowKit Px
def frameT : List UInt8 := [102, 114, 97, 109, 101]
theorem head0 (n : Nat) : UInt8.ofInt ((n : Int) / 256) = UInt8.ofNat (n / 256) := by
  apply UInt8.toNat_inj.1
  simp [UInt8.ofInt]
  omega
theorem head1 (n : Nat) : UInt8.ofInt (n : Int) = UInt8.ofNat n := by
  apply UInt8.toNat_inj.1
  simp [UInt8.ofInt]
  omega
theorem enc_next (r : List UInt8) (i : Nat) (c : UInt8) (hc : r[i]? = some c) : bs (1 :: Fm.enc (r.take (i + 1))) = bs (1 :: Fm.enc (r.take i)) ++ bs [(64 : UInt8) ||| c >>> 4, (64 : UInt8) ||| c &&& 15] := by
  obtain ⟨h, e⟩ := List.getElem?_eq_some_iff.1 hc
  rw [List.take_succ_eq_append_getElem h, Fm.enc_append, e, ← zBi]
  simp [Fm.enc, Fm.two]
set_option maxRecDepth 20000 in
set_option maxHeartbeats 1000000 in
theorem seal_ok (p : List UInt8) (hp : p.length ≤ 8192) (w0 : World) (h : PH) : PCalls Try.prog w0 66 [str p] h fun v h' => v = .tuple #[str (Fm.frame p), .nilIface] ∧ h' = h := by
  refine zAp Try.func66 (by kernel_rfl) rfl _ Try.ntmps66 (by kernel_rfl) (by kernel_rfl) _ Try.results66 ?_
  have e1 : decide ((8192 : Int) < (p.length : Int)) = false := decide_eq_false (by omega)
  have p8 : (2 : Int) ^ (8 : Nat) = 256 := rfl
  have hh0 := head0 p.length
  have hh1 := head1 p.length
  simp -dsimp -implicitDefEqProofs (disch := first | omega | assumption | (simp only [Option.isSome_some,Qt0]; done) | (simp only [UInt64.reduceToNat,UInt32.reduceToNat,UInt8.reduceToNat,List.length_cons,List.length_nil,List.length_append,Int.toNat_natCast] <;> omega) | fail) only [Nat.reduceLT,Nat.reduceLeDiff,Nat.reduceEqDiff,↓reduceIte,Int.reduceLT,Int.reduceLE,Int.reduceToNat,Int.reduceEq,Int.reduceNe,Nat.reduceAdd,UInt8.reduceOfNat,UInt16.reduceOfNat,UInt32.reduceOfNat,UInt64.reduceOfNat,UInt64.reduceToNat,UInt32.reduceToNat,UInt16.reduceToNat,UInt8.reduceToNat,Int.reduceAdd,Int.reduceSub,Int.reduceMul,Nat.reduceMul,Qp0,Qp1,Ql0,Qe0,e1,p8,hh0,hh1]
  refine Does_seq zA8 (bs (Fm.head p.length)) rfl (fun v hv => by obtain ⟨_, _, rfl⟩ := List.mem_map.1 hv; exact ⟨rfl, rfl⟩) (by omega) (by omega) (fun b5 hb5 => ?_)
  have hrl := Fm.raw_length p
  have hraw : Fm.raw p = Fm.head p.length ++ Fm.four (Fm.sum (Fm.head p.length)) ++ p ++ Fm.four (Fm.sum (Fm.head p.length ++ p)) := rfl
  have hH2 : (Fm.head p.length).length = 2 := rfl
  generalize Fm.head p.length = H at *
  have hle1 : PH.Le h (h.new b5 ⟨bs H, 2⟩) := (PH.Le.refl h).new _ _ hb5
  have hm5 : (h.new b5 ⟨bs H, 2⟩).m b5 = some ⟨bs H, 2⟩ := by rw [PH.new_m, if_pos rfl]
  generalize h.new b5 ⟨bs H, 2⟩ = h1 at *
  have hlt5 := h1.lt _ _ hm5
  have hKH : Kn h1 (.slice (some ⟨b5, 0, none⟩) 2 2) (bs H) := by
    have := Kn.blk (h := h1) (b := b5) (c := 2) hm5 (by rw [zA0]; omega)
    rwa [zA0, hH2] at this
  simp -dsimp -implicitDefEqProofs (disch := first | omega | assumption | (simp only [Option.isSome_some,Qt0]; done) | (simp only [UInt64.reduceToNat,UInt32.reduceToNat,UInt8.reduceToNat,List.length_cons,List.length_nil,List.length_append,Int.toNat_natCast] <;> omega) | fail) only [Nat.reduceLT,Nat.reduceLeDiff,Nat.reduceEqDiff,↓reduceIte,Int.reduceLT,Int.reduceLE,Int.reduceToNat,Int.reduceEq,Int.reduceNe,Nat.reduceAdd,UInt8.reduceOfNat,UInt16.reduceOfNat,UInt32.reduceOfNat,UInt64.reduceOfNat,UInt64.reduceToNat,UInt32.reduceToNat,UInt16.reduceToNat,UInt8.reduceToNat,Int.reduceAdd,Int.reduceSub,Int.reduceMul,Nat.reduceMul,Qp0,Qp1,Ql0,Qe0]
  refine zBt [0, 1, 2, 5, 3, 4, 6, 7] h1 (by kernel_rfl) (by decide +kernel) (by kernel_rfl) (by kernel_rfl) (by kernel_rfl) (fun c f h hq => by simp only [zAy, zAv, zAw, zAu, zAx] at hq) (PH.Le.refl _).sub ?_
  simp -dsimp -implicitDefEqProofs (disch := first | omega | assumption | (simp only [Option.isSome_some,Qt0]; done) | (simp only [UInt64.reduceToNat,UInt32.reduceToNat,UInt8.reduceToNat,List.length_cons,List.length_nil,List.length_append,Int.toNat_natCast] <;> omega) | fail) only [Nat.reduceLT,Nat.reduceLeDiff,Nat.reduceEqDiff,↓reduceIte,Int.reduceLT,Int.reduceLE,Int.reduceToNat,Int.reduceEq,Int.reduceNe,Nat.reduceAdd,UInt8.reduceOfNat,UInt16.reduceOfNat,UInt32.reduceOfNat,UInt64.reduceOfNat,UInt64.reduceToNat,UInt32.reduceToNat,UInt16.reduceToNat,UInt8.reduceToNat,Int.reduceAdd,Int.reduceSub,Int.reduceMul,Nat.reduceMul,Qp0,Qp1,Ql0,Qe0]
  refine (zD7 H (by omega) _ w0 _ hKH).mono ?_
  rintro v h2 ⟨b6, rfl, hb6, rfl⟩
  have hF4 := Fm.four_length (Fm.sum H)
  generalize Fm.four (Fm.sum H) = F at *
  have hle2 : PH.Le h1 (h1.new b6 ⟨bs F, 4⟩) := (PH.Le.refl h1).new _ _ hb6
  have hm6 : (h1.new b6 ⟨bs F, 4⟩).m b6 = some ⟨bs F, 4⟩ := by rw [PH.new_m, if_pos rfl]
  generalize h1.new b6 ⟨bs F, 4⟩ = h2 at *
  simp -dsimp -implicitDefEqProofs (disch := first | omega | assumption | (simp only [Option.isSome_some,Qt0]; done) | (simp only [UInt64.reduceToNat,UInt32.reduceToNat,UInt8.reduceToNat,List.length_cons,List.length_nil,List.length_append,Int.toNat_natCast] <;> omega) | fail) only [Nat.reduceLT,Nat.reduceLeDiff,Nat.reduceEqDiff,↓reduceIte,Int.reduceLT,Int.reduceLE,Int.reduceToNat,Int.reduceEq,Int.reduceNe,Nat.reduceAdd,UInt8.reduceOfNat,UInt16.reduceOfNat,UInt32.reduceOfNat,UInt64.reduceOfNat,UInt64.reduceToNat,UInt32.reduceToNat,UInt16.reduceToNat,UInt8.reduceToNat,Int.reduceAdd,Int.reduceSub,Int.reduceMul,Nat.reduceMul,Qp0,Qp1,Ql0,Qe0]
  refine ⟨hle2.sub, ?_⟩
  simp -dsimp -implicitDefEqProofs (disch := first | omega | assumption | (simp only [Option.isSome_some,Qt0]; done) | (simp only [UInt64.reduceToNat,UInt32.reduceToNat,UInt8.reduceToNat,List.length_cons,List.length_nil,List.length_append,Int.toNat_natCast] <;> omega) | fail) only [Nat.reduceLT,Nat.reduceLeDiff,Nat.reduceEqDiff,↓reduceIte,Int.reduceLT,Int.reduceLE,Int.reduceToNat,Int.reduceEq,Int.reduceNe,Nat.reduceAdd,UInt8.reduceOfNat,UInt16.reduceOfNat,UInt32.reduceOfNat,UInt64.reduceOfNat,UInt64.reduceToNat,UInt32.reduceToNat,UInt16.reduceToNat,UInt8.reduceToNat,Int.reduceAdd,Int.reduceSub,Int.reduceMul,Nat.reduceMul,Qp0,Qp1,Ql0,Qe0]
  refine Does_grow zA8 (n := 2) (m := 4) (xs := bs H) (ys := bs F) ?_ (Rs.blk (k := ⟨bs F, 4⟩) hm6 (by simp only [zA0]; omega)) (by omega) (by omega) (by unfold maxLen; omega) (by omega) (fun b7 c7 hb7 hc7 hm7 => ?_)
  · exact zEy (hle2.m _ _ hm5) (by simp only [zA0]; omega)
  have how : OwnS h1 (h2.new b7 ⟨bs H ++ bs F, c7 * 1⟩) 1 (.slice (some ⟨b7, 0, none⟩) 6 c7) 6 (bs (H ++ F)) := by
    refine ⟨hle2.new _ _ (Nat.le_trans hle2.top hb7), ⟨by rw [zA0, List.length_append]; omega, .inr ⟨b7, c7, rfl, hc7, hm7, by rw [PH.new_m, if_pos rfl, zBi]⟩⟩, fun x e => by cases e; exact Nat.le_trans hle2.top hb7⟩
  generalize h2.new b7 ⟨bs H ++ bs F, c7 * 1⟩ = h3 at *
  simp -dsimp -implicitDefEqProofs (disch := first | omega | assumption | (simp only [Option.isSome_some,Qt0]; done) | (simp only [UInt64.reduceToNat,UInt32.reduceToNat,UInt8.reduceToNat,List.length_cons,List.length_nil,List.length_append,Int.toNat_natCast] <;> omega) | fail) only [Nat.reduceLT,Nat.reduceLeDiff,Nat.reduceEqDiff,↓reduceIte,Int.reduceLT,Int.reduceLE,Int.reduceToNat,Int.reduceEq,Int.reduceNe,Nat.reduceAdd,UInt8.reduceOfNat,UInt16.reduceOfNat,UInt32.reduceOfNat,UInt64.reduceOfNat,UInt64.reduceToNat,UInt32.reduceToNat,UInt16.reduceToNat,UInt8.reduceToNat,Int.reduceAdd,Int.reduceSub,Int.reduceMul,Nat.reduceMul,Qp0,Qp1,Ql0,Qe0]
  refine ⟨how.le.sub, ?_⟩
  simp -dsimp -implicitDefEqProofs (disch := first | omega | assumption | (simp only [Option.isSome_some,Qt0]; done) | (simp only [UInt64.reduceToNat,UInt32.reduceToNat,UInt8.reduceToNat,List.length_cons,List.length_nil,List.length_append,Int.toNat_natCast] <;> omega) | fail) only [Nat.reduceLT,Nat.reduceLeDiff,Nat.reduceEqDiff,↓reduceIte,Int.reduceLT,Int.reduceLE,Int.reduceToNat,Int.reduceEq,Int.reduceNe,Nat.reduceAdd,UInt8.reduceOfNat,UInt16.reduceOfNat,UInt32.reduceOfNat,UInt64.reduceOfNat,UInt64.reduceToNat,UInt32.reduceToNat,UInt16.reduceToNat,UInt8.reduceToNat,Int.reduceAdd,Int.reduceSub,Int.reduceMul,Nat.reduceMul,Qp0,Qp1,Ql0,Qe0]
  refine zFp zA8 Try.underlying9 how.own (by omega) (fun v4 h4 ho hst hsb => ?_)
  have how4 := how.stays hst ho
  rw [← zBi] at how4
  clear ho hst hsb how hm6 hb6 hb7
  simp -dsimp -implicitDefEqProofs (disch := first | omega | assumption | (simp only [Option.isSome_some,Qt0]; done) | (simp only [UInt64.reduceToNat,UInt32.reduceToNat,UInt8.reduceToNat,List.length_cons,List.length_nil,List.length_append,Int.toNat_natCast] <;> omega) | fail) only [Nat.reduceLT,Nat.reduceLeDiff,Nat.reduceEqDiff,↓reduceIte,Int.reduceLT,Int.reduceLE,Int.reduceToNat,Int.reduceEq,Int.reduceNe,Nat.reduceAdd,UInt8.reduceOfNat,UInt16.reduceOfNat,UInt32.reduceOfNat,UInt64.reduceOfNat,UInt64.reduceToNat,UInt32.reduceToNat,UInt16.reduceToNat,UInt8.reduceToNat,Int.reduceAdd,Int.reduceSub,Int.reduceMul,Nat.reduceMul,Qp0,Qp1,Ql0,Qe0]
  refine ⟨how4.le.sub, ?_⟩
  simp -dsimp -implicitDefEqProofs (disch := first | omega | assumption | (simp only [Option.isSome_some,Qt0]; done) | (simp only [UInt64.reduceToNat,UInt32.reduceToNat,UInt8.reduceToNat,List.length_cons,List.length_nil,List.length_append,Int.toNat_natCast] <;> omega) | fail) only [Nat.reduceLT,Nat.reduceLeDiff,Nat.reduceEqDiff,↓reduceIte,Int.reduceLT,Int.reduceLE,Int.reduceToNat,Int.reduceEq,Int.reduceNe,Nat.reduceAdd,UInt8.reduceOfNat,UInt16.reduceOfNat,UInt32.reduceOfNat,UInt64.reduceOfNat,UInt64.reduceToNat,UInt32.reduceToNat,UInt16.reduceToNat,UInt8.reduceToNat,Int.reduceAdd,Int.reduceSub,Int.reduceMul,Nat.reduceMul,Qp0,Qp1,Ql0,Qe0]
  have hm54 := how4.le.m _ _ hm5
  refine Does_catT zA8 Try.underlying9 (X := bs H) (xs := bs H) hm54 (by rw [zA0]; omega) (by rw [List.drop_zero, List.take_of_length_le (by rw [zA0]; omega)]) (by omega) (fun v5 h5 hk5 hle5 => ?_)
  rw [← zBi] at hk5
  have how5 := how4.more hle5
  simp -dsimp -implicitDefEqProofs (disch := first | omega | assumption | (simp only [Option.isSome_some,Qt0]; done) | (simp only [UInt64.reduceToNat,UInt32.reduceToNat,UInt8.reduceToNat,List.length_cons,List.length_nil,List.length_append,Int.toNat_natCast] <;> omega) | fail) only [Nat.reduceLT,Nat.reduceLeDiff,Nat.reduceEqDiff,↓reduceIte,Int.reduceLT,Int.reduceLE,Int.reduceToNat,Int.reduceEq,Int.reduceNe,Nat.reduceAdd,UInt8.reduceOfNat,UInt16.reduceOfNat,UInt32.reduceOfNat,UInt64.reduceOfNat,UInt64.reduceToNat,UInt32.reduceToNat,UInt16.reduceToNat,UInt8.reduceToNat,Int.reduceAdd,Int.reduceSub,Int.reduceMul,Nat.reduceMul,Qp0,Qp1,Ql0,Qe0]
  refine (zD7 (H ++ p) (by rw [List.length_append]; omega) _ w0 _ hk5).mono ?_
  rintro v h6 ⟨b8, rfl, hb8, rfl⟩
  have hF5 := Fm.four_length (Fm.sum (H ++ p))
  generalize Fm.four (Fm.sum (H ++ p)) = F2 at *
  simp -dsimp -implicitDefEqProofs (disch := first | omega | assumption | (simp only [Option.isSome_some,Qt0]; done) | (simp only [UInt64.reduceToNat,UInt32.reduceToNat,UInt8.reduceToNat,List.length_cons,List.length_nil,List.length_append,Int.toNat_natCast] <;> omega) | fail) only [Nat.reduceLT,Nat.reduceLeDiff,Nat.reduceEqDiff,↓reduceIte,Int.reduceLT,Int.reduceLE,Int.reduceToNat,Int.reduceEq,Int.reduceNe,Nat.reduceAdd,UInt8.reduceOfNat,UInt16.reduceOfNat,UInt32.reduceOfNat,UInt64.reduceOfNat,UInt64.reduceToNat,UInt32.reduceToNat,UInt16.reduceToNat,UInt8.reduceToNat,Int.reduceAdd,Int.reduceSub,Int.reduceMul,Nat.reduceMul,Qp0,Qp1,Ql0,Qe0]
  have how6 := how5.more ((PH.Le.refl _).new b8 ⟨bs F2, 4⟩ hb8)
  refine zBk zA8 how6.own (Rs.blk (k := ⟨bs F2, 4⟩) (by rw [PH.new_m, if_pos rfl]) (by simp only [zA0]; omega)) (zCj _) (by unfold maxLen; omega) (by omega) (fun v7 h7 ho hst => ?_)
  have how7 := how6.stays hst ho
  rw [← zBi] at how7
  clear ho hst how6 how5 how4 hk5
  have hRl : 6 + p.length + 4 = (Fm.raw p).length := by omega
  rw [hRl, ← hraw] at how7
  clear hraw hRl
  obtain ⟨R, hR⟩ : ∃ R, R = Fm.raw p := ⟨_, rfl⟩
  have hfr : Fm.frame p = 1 :: Fm.enc R := by rw [hR]; rfl
  rw [hfr]
  rw [← hR] at how7 hrl
  clear hfr hR
  obtain ⟨bR, cR, rfl, hcR, hmR⟩ := how7.own.pos (by omega)
  have hle7 := hle1.trans how7.le
  simp -dsimp -implicitDefEqProofs (disch := first | omega | assumption | (simp only [Option.isSome_some,Qt0]; done) | (simp only [UInt64.reduceToNat,UInt32.reduceToNat,UInt8.reduceToNat,List.length_cons,List.length_nil,List.length_append,Int.toNat_natCast] <;> omega) | fail) only [Nat.reduceLT,Nat.reduceLeDiff,Nat.reduceEqDiff,↓reduceIte,Int.reduceLT,Int.reduceLE,Int.reduceToNat,Int.reduceEq,Int.reduceNe,Nat.reduceAdd,UInt8.reduceOfNat,UInt16.reduceOfNat,UInt32.reduceOfNat,UInt64.reduceOfNat,UInt64.reduceToNat,UInt32.reduceToNat,UInt16.reduceToNat,UInt8.reduceToNat,Int.reduceAdd,Int.reduceSub,Int.reduceMul,Nat.reduceMul,Qp0,Qp1,Ql0,Qe0]
  refine zBz (v := u8 1) zA8 rfl (by omega) (fun b9 hb9 => ?_)
  have hown : OwnS h7 (h7.new b9 ⟨[u8 1], 1⟩) 1 (.slice (some ⟨b9, 0, none⟩) 1 1) (1 + 2 * 0) (bs (1 :: Fm.enc (R.take 0))) := ⟨(PH.Le.refl h7).new _ _ hb9, ⟨rfl, .inr ⟨b9, 1, rfl, Nat.le_refl _, by unfold maxLen; omega, by rw [PH.new_m, if_pos rfl]; rfl⟩⟩, fun x e => by cases e; exact hb9⟩
  have hcell : (u8 1).cells.toList = [u8 1] := rfl
  rw [hcell]
  generalize h7.new b9 ⟨[u8 1], 1⟩ = h8 at *
  simp -dsimp -implicitDefEqProofs (disch := first | omega | assumption | (simp only [Option.isSome_some,Qt0]; done) | (simp only [UInt64.reduceToNat,UInt32.reduceToNat,UInt8.reduceToNat,List.length_cons,List.length_nil,List.length_append,Int.toNat_natCast] <;> omega) | fail) only [Nat.reduceLT,Nat.reduceLeDiff,Nat.reduceEqDiff,↓reduceIte,Int.reduceLT,Int.reduceLE,Int.reduceToNat,Int.reduceEq,Int.reduceNe,Nat.reduceAdd,UInt8.reduceOfNat,UInt16.reduceOfNat,UInt32.reduceOfNat,UInt64.reduceOfNat,UInt64.reduceToNat,UInt32.reduceToNat,UInt16.reduceToNat,UInt8.reduceToNat,Int.reduceAdd,Int.reduceSub,Int.reduceMul,Nat.reduceMul,Qp0,Qp1,Ql0,Qe0]
  refine zBs (fun n f h' => ∃ (i : Nat) (v : Value), i + n = R.length ∧ f 7 = some v ∧ f 38 = some (.slice (some ⟨bR, 0, none⟩) R.length cR) ∧ f 39 = some (.int .i64 R.length) ∧ f 40 = some (.int .i64 i) ∧ OwnS h7 h' 1 v (1 + 2 * i) (bs (1 :: Fm.enc (R.take i)))) (by kernel_rfl) R.length ⟨0, _, by omega, ?_, ?_, ?_, ?_, hown⟩ ?_
  · simp -dsimp -implicitDefEqProofs (disch := first | omega | assumption | (simp only [Option.isSome_some,Qt0]; done) | (simp only [UInt64.reduceToNat,UInt32.reduceToNat,UInt8.reduceToNat,List.length_cons,List.length_nil,List.length_append,Int.toNat_natCast] <;> omega) | fail) only [Nat.reduceLT,Nat.reduceLeDiff,Nat.reduceEqDiff,↓reduceIte,Int.reduceLT,Int.reduceLE,Int.reduceToNat,Int.reduceEq,Int.reduceNe,Nat.reduceAdd,UInt8.reduceOfNat,UInt16.reduceOfNat,UInt32.reduceOfNat,UInt64.reduceOfNat,UInt64.reduceToNat,UInt32.reduceToNat,UInt16.reduceToNat,UInt8.reduceToNat,Int.reduceAdd,Int.reduceSub,Int.reduceMul,Nat.reduceMul,Qp0,Qp1,Ql0,Qe0]
  · simp -dsimp -implicitDefEqProofs (disch := first | omega | assumption | (simp only [Option.isSome_some,Qt0]; done) | (simp only [UInt64.reduceToNat,UInt32.reduceToNat,UInt8.reduceToNat,List.length_cons,List.length_nil,List.length_append,Int.toNat_natCast] <;> omega) | fail) only [Nat.reduceLT,Nat.reduceLeDiff,Nat.reduceEqDiff,↓reduceIte,Int.reduceLT,Int.reduceLE,Int.reduceToNat,Int.reduceEq,Int.reduceNe,Nat.reduceAdd,UInt8.reduceOfNat,UInt16.reduceOfNat,UInt32.reduceOfNat,UInt64.reduceOfNat,UInt64.reduceToNat,UInt32.reduceToNat,UInt16.reduceToNat,UInt8.reduceToNat,Int.reduceAdd,Int.reduceSub,Int.reduceMul,Nat.reduceMul,Qp0,Qp1,Ql0,Qe0]
  · simp -dsimp -implicitDefEqProofs (disch := first | omega | assumption | (simp only [Option.isSome_some,Qt0]; done) | (simp only [UInt64.reduceToNat,UInt32.reduceToNat,UInt8.reduceToNat,List.length_cons,List.length_nil,List.length_append,Int.toNat_natCast] <;> omega) | fail) only [Nat.reduceLT,Nat.reduceLeDiff,Nat.reduceEqDiff,↓reduceIte,Int.reduceLT,Int.reduceLE,Int.reduceToNat,Int.reduceEq,Int.reduceNe,Nat.reduceAdd,UInt8.reduceOfNat,UInt16.reduceOfNat,UInt32.reduceOfNat,UInt64.reduceOfNat,UInt64.reduceToNat,UInt32.reduceToNat,UInt16.reduceToNat,UInt8.reduceToNat,Int.reduceAdd,Int.reduceSub,Int.reduceMul,Nat.reduceMul,Qp0,Qp1,Ql0,Qe0]
  · simp -dsimp -implicitDefEqProofs (disch := first | omega | assumption | (simp only [Option.isSome_some,Qt0]; done) | (simp only [UInt64.reduceToNat,UInt32.reduceToNat,UInt8.reduceToNat,List.length_cons,List.length_nil,List.length_append,Int.toNat_natCast] <;> omega) | fail) only [Nat.reduceLT,Nat.reduceLeDiff,Nat.reduceEqDiff,↓reduceIte,Int.reduceLT,Int.reduceLE,Int.reduceToNat,Int.reduceEq,Int.reduceNe,Nat.reduceAdd,UInt8.reduceOfNat,UInt16.reduceOfNat,UInt32.reduceOfNat,UInt64.reduceOfNat,UInt64.reduceToNat,UInt32.reduceToNat,UInt16.reduceToNat,UInt8.reduceToNat,Int.reduceAdd,Int.reduceSub,Int.reduceMul,Nat.reduceMul,Qp0,Qp1,Ql0,Qe0]
    try rfl
  clear hown
  rintro n f h9 ⟨i, v, hin, f7, f38, f39, f40, how⟩
  by_cases hi : i < R.length
  · have e2 : decide ((i : Int) < (R.length : Int)) = true := decide_eq_true (by omega)
    obtain ⟨c, hc⟩ : ∃ c, R[i]? = some c := ⟨_, List.getElem?_eq_getElem hi⟩
    have hc' : (bs R)[i]? = some (u8 c) := by simp [bs, hc]
    have hnx := enc_next R i c hc
    have hmR9 := how.le.m _ _ hmR
    simp -dsimp -implicitDefEqProofs (disch := first | omega | assumption | (simp only [Option.isSome_some,Qt0]; done) | (simp only [UInt64.reduceToNat,UInt32.reduceToNat,UInt8.reduceToNat,List.length_cons,List.length_nil,List.length_append,Int.toNat_natCast] <;> omega) | fail) only [Nat.reduceLT,Nat.reduceLeDiff,Nat.reduceEqDiff,↓reduceIte,Int.reduceLT,Int.reduceLE,Int.reduceToNat,Int.reduceEq,Int.reduceNe,Nat.reduceAdd,UInt8.reduceOfNat,UInt16.reduceOfNat,UInt32.reduceOfNat,UInt64.reduceOfNat,UInt64.reduceToNat,UInt32.reduceToNat,UInt16.reduceToNat,UInt8.reduceToNat,Int.reduceAdd,Int.reduceSub,Int.reduceMul,Nat.reduceMul,Qp0,Qp1,Ql0,Qe0,f7,f38,f39,f40,e2,zAa,zAb,hmR9,hc']
    refine Does_seq zA8 (bs [(64 : UInt8) ||| c >>> 4, (64 : UInt8) ||| c &&& 15]) rfl (fun v hv => by obtain ⟨_, _, rfl⟩ := List.mem_map.1 hv; exact ⟨rfl, rfl⟩) (by omega) (by omega) (fun gb hgb => ?_)
    simp -dsimp -implicitDefEqProofs (disch := first | omega | assumption | (simp only [Option.isSome_some,Qt0]; done) | (simp only [UInt64.reduceToNat,UInt32.reduceToNat,UInt8.reduceToNat,List.length_cons,List.length_nil,List.length_append,Int.toNat_natCast] <;> omega) | fail) only [Nat.reduceLT,Nat.reduceLeDiff,Nat.reduceEqDiff,↓reduceIte,Int.reduceLT,Int.reduceLE,Int.reduceToNat,Int.reduceEq,Int.reduceNe,Nat.reduceAdd,UInt8.reduceOfNat,UInt16.reduceOfNat,UInt32.reduceOfNat,UInt64.reduceOfNat,UInt64.reduceToNat,UInt32.reduceToNat,UInt16.reduceToNat,UInt8.reduceToNat,Int.reduceAdd,Int.reduceSub,Int.reduceMul,Nat.reduceMul,Qp0,Qp1,Ql0,Qe0,f7,f38,f39,f40]
    refine zBk zA8 (how.more ((PH.Le.refl _).new _ _ hgb)).own (Rs.blk (k := ⟨bs [(64 : UInt8) ||| c >>> 4, (64 : UInt8) ||| c &&& 15], 2⟩) (by rw [PH.new_m, if_pos rfl]) rfl) (zCj _) (by unfold maxLen; omega) (by omega) (fun v10 h10 ho hst => ?_)
    have how10 := (how.more ((PH.Le.refl _).new _ _ hgb)).stays hst ho
    rw [← hnx] at how10
    simp -dsimp -implicitDefEqProofs (disch := first | omega | assumption | (simp only [Option.isSome_some,Qt0]; done) | (simp only [UInt64.reduceToNat,UInt32.reduceToNat,UInt8.reduceToNat,List.length_cons,List.length_nil,List.length_append,Int.toNat_natCast] <;> omega) | fail) only [Nat.reduceLT,Nat.reduceLeDiff,Nat.reduceEqDiff,↓reduceIte,Int.reduceLT,Int.reduceLE,Int.reduceToNat,Int.reduceEq,Int.reduceNe,Nat.reduceAdd,UInt8.reduceOfNat,UInt16.reduceOfNat,UInt32.reduceOfNat,UInt64.reduceOfNat,UInt64.reduceToNat,UInt32.reduceToNat,UInt16.reduceToNat,UInt8.reduceToNat,Int.reduceAdd,Int.reduceSub,Int.reduceMul,Nat.reduceMul,Qp0,Qp1,Ql0,Qe0,f7,f38,f39,f40]
    refine ⟨n - 1, h10, by omega, PH.Le.refl _, i + 1, v10, by omega, by trivial, by trivial, by trivial, by simp, ?_⟩
    rw [show 1 + 2 * (i + 1) = 1 + 2 * i + 2 by omega]
    exact how10
  · obtain rfl : i = R.length := by omega
    have e2 : decide ((R.length : Int) < (R.length : Int)) = false := decide_eq_false (by omega)
    rw [List.take_length] at how
    obtain ⟨A, c2, rfl, hc2⟩ := how.own.len
    simp -dsimp -implicitDefEqProofs (disch := first | omega | assumption | (simp only [Option.isSome_some,Qt0]; done) | (simp only [UInt64.reduceToNat,UInt32.reduceToNat,UInt8.reduceToNat,List.length_cons,List.length_nil,List.length_append,Int.toNat_natCast] <;> omega) | fail) only [Nat.reduceLT,Nat.reduceLeDiff,Nat.reduceEqDiff,↓reduceIte,Int.reduceLT,Int.reduceLE,Int.reduceToNat,Int.reduceEq,Int.reduceNe,Nat.reduceAdd,UInt8.reduceOfNat,UInt16.reduceOfNat,UInt32.reduceOfNat,UInt64.reduceOfNat,UInt64.reduceToNat,UInt32.reduceToNat,UInt16.reduceToNat,UInt8.reduceToNat,Int.reduceAdd,Int.reduceSub,Int.reduceMul,Nat.reduceMul,Qp0,Qp1,Ql0,Qe0,f7,f38,f39,f40,e2]
    refine zBx Try.underlying77 Try.underlying5 Try.underlying9 (Rs.own how.own) how.own.nil_zero ?_
    simp -dsimp -implicitDefEqProofs (disch := first | omega | assumption | (simp only [Option.isSome_some,Qt0]; done) | (simp only [UInt64.reduceToNat,UInt32.reduceToNat,UInt8.reduceToNat,List.length_cons,List.length_nil,List.length_append,Int.toNat_natCast] <;> omega) | fail) only [Nat.reduceLT,Nat.reduceLeDiff,Nat.reduceEqDiff,↓reduceIte,Int.reduceLT,Int.reduceLE,Int.reduceToNat,Int.reduceEq,Int.reduceNe,Nat.reduceAdd,UInt8.reduceOfNat,UInt16.reduceOfNat,UInt32.reduceOfNat,UInt64.reduceOfNat,UInt64.reduceToNat,UInt32.reduceToNat,UInt16.reduceToNat,UInt8.reduceToNat,Int.reduceAdd,Int.reduceSub,Int.reduceMul,Nat.reduceMul,Qp0,Qp1,Ql0,Qe0]
    exact ⟨_, hle7.trans how.le, by trivial, rfl⟩
end Go.Proofs.Ytblikpbaeippaaa

