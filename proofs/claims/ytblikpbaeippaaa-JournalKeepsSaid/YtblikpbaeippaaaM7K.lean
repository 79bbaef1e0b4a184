/- Parts Bk2, Bk3, Bk4, Bk5, Bkg, joined. No condition. -/
import Derived.Test.YtblikpbaeippaaaM6K
namespace Go.Proofs.Ytblikpbaeippaaa
set_option linter.unusedVariables false
set_option linter.unusedSimpArgs false
open Go.RowKit Px
def blockT : List UInt8 := [98, 108, 111, 99, 107]
def Dk.size (d : Dk) : Int := if d.down = true then 0 else d.l.length
def ER (h : PH) (v : Value) : Option (Int × Int) → Prop
  | none => v = .nilIface
  | some (k, a) => EV h (.wrap blockT a (.code k)) v
def Dk.op (d : Dk) : Dk × Bool := if d.down = true then (d, false) else if d.fuse < 0 then (d, true) else if 0 < d.fuse then ({ d with fuse := d.fuse - 1 }, true) else ({ d with down := true }, false)
section
variable (h0 : PH) (b : Nat) (d : Dk) (w0 : World) (h : PH)
set_option maxRecDepth 20000 in
set_option maxHeartbeats 1000000 in
theorem zB2 (hd : DS h0 h b d) : PCalls Try.prog w0 26 [.pointer (some ⟨b, 0, none⟩)] h fun v h' => v = .bool d.down ∧ h' = h := by
  refine zAp Try.func26 (by kernel_rfl) rfl _ Try.ntmps26 (by kernel_rfl) (by kernel_rfl) _ Try.results26 ?_
  obtain ⟨A, c, hb, hr, hA⟩ := hd.cells
  unfold DKc at hb
  simp -dsimp -implicitDefEqProofs (disch := first | omega | assumption | (simp only [Option.isSome_some,Qt0]; done) | (simp only [List.length_cons,List.length_nil,List.length_append,Int.toNat_natCast] <;> omega) | fail) only [Nat.reduceLT,Nat.reduceLeDiff,Nat.reduceEqDiff,↓reduceIte,Int.reduceLT,Int.reduceLE,Int.reduceToNat,Int.reduceEq,Int.reduceNe,Nat.reduceAdd,Int.reduceAdd,Int.reduceSub,Int.reduceMul,Nat.reduceMul,Qp0,Qp1,Ql0,Qe0,zAa,zAb,hb]
  exact ⟨_, PH.Le.refl _, by trivial, rfl⟩
set_option maxRecDepth 20000 in
set_option maxHeartbeats 1000000 in
theorem down_nil  : PCalls Try.prog w0 26 [.pointer none] h fun v h' => v = .bool true ∧ h' = h := by
  refine zAp Try.func26 (by kernel_rfl) rfl _ Try.ntmps26 (by kernel_rfl) (by kernel_rfl) _ Try.results26 ?_
  simp -dsimp -implicitDefEqProofs (disch := first | omega | assumption | (simp only [Option.isSome_some,Qt0]; done) | (simp only [List.length_cons,List.length_nil,List.length_append,Int.toNat_natCast] <;> omega) | fail) only [Nat.reduceLT,Nat.reduceLeDiff,Nat.reduceEqDiff,↓reduceIte,Int.reduceLT,Int.reduceLE,Int.reduceToNat,Int.reduceEq,Int.reduceNe,Nat.reduceAdd,Int.reduceAdd,Int.reduceSub,Int.reduceMul,Nat.reduceMul,Qp0,Qp1,Ql0,Qe0]
  exact ⟨_, PH.Le.refl _, by trivial, rfl⟩
set_option maxRecDepth 20000 in
set_option maxHeartbeats 1000000 in
theorem len_any (hd : DS h0 h b d) : PCalls Try.prog w0 21 [.pointer (some ⟨b, 0, none⟩)] h fun v h' => v = .int .i64 (if d.down = true then 0 else d.l.length) ∧ h' = h := by
  refine zAp Try.func21 (by kernel_rfl) rfl _ Try.ntmps21 (by kernel_rfl) (by kernel_rfl) _ Try.results21 ?_
  have hD := Lib.hid (zB2 h0 b d w0 h hd)
  obtain ⟨A, c, hb, hr, hA⟩ := hd.cells
  unfold DKc at hb
  cases hdn : d.down
  · rw [hdn] at hD hb
    simp -dsimp -implicitDefEqProofs (disch := first | omega | assumption | (simp only [Option.isSome_some,Qt0]; done) | (simp only [List.length_cons,List.length_nil,List.length_append,Int.toNat_natCast] <;> omega) | fail) only [Nat.reduceLT,Nat.reduceLeDiff,Nat.reduceEqDiff,↓reduceIte,Int.reduceLT,Int.reduceLE,Int.reduceToNat,Int.reduceEq,Int.reduceNe,Nat.reduceAdd,Int.reduceAdd,Int.reduceSub,Int.reduceMul,Nat.reduceMul,Qp0,Qp1,Ql0,Qe0]
    refine hD.out.mono ?_
    rintro v hz ⟨rfl, rfl⟩
    simp -dsimp -implicitDefEqProofs (disch := first | omega | assumption | (simp only [Option.isSome_some,Qt0]; done) | (simp only [List.length_cons,List.length_nil,List.length_append,Int.toNat_natCast] <;> omega) | fail) only [Nat.reduceLT,Nat.reduceLeDiff,Nat.reduceEqDiff,↓reduceIte,Int.reduceLT,Int.reduceLE,Int.reduceToNat,Int.reduceEq,Int.reduceNe,Nat.reduceAdd,Int.reduceAdd,Int.reduceSub,Int.reduceMul,Nat.reduceMul,Qp0,Qp1,Ql0,Qe0,zAa,zAb,hb]
    exact ⟨_, PH.Le.refl _, by simp, rfl⟩
  · rw [hdn] at hD
    simp -dsimp -implicitDefEqProofs (disch := first | omega | assumption | (simp only [Option.isSome_some,Qt0]; done) | (simp only [List.length_cons,List.length_nil,List.length_append,Int.toNat_natCast] <;> omega) | fail) only [Nat.reduceLT,Nat.reduceLeDiff,Nat.reduceEqDiff,↓reduceIte,Int.reduceLT,Int.reduceLE,Int.reduceToNat,Int.reduceEq,Int.reduceNe,Nat.reduceAdd,Int.reduceAdd,Int.reduceSub,Int.reduceMul,Nat.reduceMul,Qp0,Qp1,Ql0,Qe0]
    refine hD.out.mono ?_
    rintro v hz ⟨rfl, rfl⟩
    simp -dsimp -implicitDefEqProofs (disch := first | omega | assumption | (simp only [Option.isSome_some,Qt0]; done) | (simp only [List.length_cons,List.length_nil,List.length_append,Int.toNat_natCast] <;> omega) | fail) only [Nat.reduceLT,Nat.reduceLeDiff,Nat.reduceEqDiff,↓reduceIte,Int.reduceLT,Int.reduceLE,Int.reduceToNat,Int.reduceEq,Int.reduceNe,Nat.reduceAdd,Int.reduceAdd,Int.reduceSub,Int.reduceMul,Nat.reduceMul,Qp0,Qp1,Ql0,Qe0]
    exact ⟨_, PH.Le.refl _, by simp, rfl⟩
set_option maxRecDepth 20000 in
set_option maxHeartbeats 1000000 in
theorem len_nil  : PCalls Try.prog w0 21 [.pointer none] h fun v h' => v = .int .i64 0 ∧ h' = h := by
  refine zAp Try.func21 (by kernel_rfl) rfl _ Try.ntmps21 (by kernel_rfl) (by kernel_rfl) _ Try.results21 ?_
  have hD := Lib.hid (down_nil w0 h)
  simp -dsimp -implicitDefEqProofs (disch := first | omega | assumption | (simp only [Option.isSome_some,Qt0]; done) | (simp only [List.length_cons,List.length_nil,List.length_append,Int.toNat_natCast] <;> omega) | fail) only [Nat.reduceLT,Nat.reduceLeDiff,Nat.reduceEqDiff,↓reduceIte,Int.reduceLT,Int.reduceLE,Int.reduceToNat,Int.reduceEq,Int.reduceNe,Nat.reduceAdd,Int.reduceAdd,Int.reduceSub,Int.reduceMul,Nat.reduceMul,Qp0,Qp1,Ql0,Qe0]
  refine hD.out.mono ?_
  rintro v hz ⟨rfl, rfl⟩
  simp -dsimp -implicitDefEqProofs (disch := first | omega | assumption | (simp only [Option.isSome_some,Qt0]; done) | (simp only [List.length_cons,List.length_nil,List.length_append,Int.toNat_natCast] <;> omega) | fail) only [Nat.reduceLT,Nat.reduceLeDiff,Nat.reduceEqDiff,↓reduceIte,Int.reduceLT,Int.reduceLE,Int.reduceToNat,Int.reduceEq,Int.reduceNe,Nat.reduceAdd,Int.reduceAdd,Int.reduceSub,Int.reduceMul,Nat.reduceMul,Qp0,Qp1,Ql0,Qe0]
  exact ⟨_, PH.Le.refl _, by trivial, rfl⟩
set_option maxRecDepth 20000 in
set_option maxHeartbeats 1000000 in
theorem safe_any (hd : DS h0 h b d) : PCalls Try.prog w0 54 [.pointer (some ⟨b, 0, none⟩)] h fun v h' => v = .int .i64 (if d.down = true then 0 else d.safe) ∧ h' = h := by
  refine zAp Try.func54 (by kernel_rfl) rfl _ Try.ntmps54 (by kernel_rfl) (by kernel_rfl) _ Try.results54 ?_
  have hD := Lib.hid (zB2 h0 b d w0 h hd)
  obtain ⟨A, c, hb, hr, hA⟩ := hd.cells
  unfold DKc at hb
  cases hdn : d.down
  · rw [hdn] at hD hb
    simp -dsimp -implicitDefEqProofs (disch := first | omega | assumption | (simp only [Option.isSome_some,Qt0]; done) | (simp only [List.length_cons,List.length_nil,List.length_append,Int.toNat_natCast] <;> omega) | fail) only [Nat.reduceLT,Nat.reduceLeDiff,Nat.reduceEqDiff,↓reduceIte,Int.reduceLT,Int.reduceLE,Int.reduceToNat,Int.reduceEq,Int.reduceNe,Nat.reduceAdd,Int.reduceAdd,Int.reduceSub,Int.reduceMul,Nat.reduceMul,Qp0,Qp1,Ql0,Qe0]
    refine hD.out.mono ?_
    rintro v hz ⟨rfl, rfl⟩
    simp -dsimp -implicitDefEqProofs (disch := first | omega | assumption | (simp only [Option.isSome_some,Qt0]; done) | (simp only [List.length_cons,List.length_nil,List.length_append,Int.toNat_natCast] <;> omega) | fail) only [Nat.reduceLT,Nat.reduceLeDiff,Nat.reduceEqDiff,↓reduceIte,Int.reduceLT,Int.reduceLE,Int.reduceToNat,Int.reduceEq,Int.reduceNe,Nat.reduceAdd,Int.reduceAdd,Int.reduceSub,Int.reduceMul,Nat.reduceMul,Qp0,Qp1,Ql0,Qe0,zAa,zAb,hb]
    exact ⟨_, PH.Le.refl _, by simp, rfl⟩
  · rw [hdn] at hD
    simp -dsimp -implicitDefEqProofs (disch := first | omega | assumption | (simp only [Option.isSome_some,Qt0]; done) | (simp only [List.length_cons,List.length_nil,List.length_append,Int.toNat_natCast] <;> omega) | fail) only [Nat.reduceLT,Nat.reduceLeDiff,Nat.reduceEqDiff,↓reduceIte,Int.reduceLT,Int.reduceLE,Int.reduceToNat,Int.reduceEq,Int.reduceNe,Nat.reduceAdd,Int.reduceAdd,Int.reduceSub,Int.reduceMul,Nat.reduceMul,Qp0,Qp1,Ql0,Qe0]
    refine hD.out.mono ?_
    rintro v hz ⟨rfl, rfl⟩
    simp -dsimp -implicitDefEqProofs (disch := first | omega | assumption | (simp only [Option.isSome_some,Qt0]; done) | (simp only [List.length_cons,List.length_nil,List.length_append,Int.toNat_natCast] <;> omega) | fail) only [Nat.reduceLT,Nat.reduceLeDiff,Nat.reduceEqDiff,↓reduceIte,Int.reduceLT,Int.reduceLE,Int.reduceToNat,Int.reduceEq,Int.reduceNe,Nat.reduceAdd,Int.reduceAdd,Int.reduceSub,Int.reduceMul,Nat.reduceMul,Qp0,Qp1,Ql0,Qe0]
    exact ⟨_, PH.Le.refl _, by simp, rfl⟩
set_option maxRecDepth 20000 in
set_option maxHeartbeats 1000000 in
theorem zCl (hd : DS h0 h b d) (k : Int) : PCalls Try.prog w0 50 [.pointer (some ⟨b, 0, none⟩), .int .i64 k] h fun v h' => ∃ be, v = errV be ∧ h.top ≤ be ∧ h' = h.new be ⟨[str blockT, .int .i64 d.size, codeV k], 3⟩ := by
  refine zAp Try.func50 (by kernel_rfl) rfl _ Try.ntmps50 (by kernel_rfl) (by kernel_rfl) _ Try.results50 ?_
  have hL := Lib.hid (len_any h0 b d w0 h hd)
  have hE := Lib.hid (@zCq blockT d.size 44 (.int .i64 k) w0 h)
  have hsz : (if d.down = true then (0 : Int) else d.l.length) = d.size := rfl
  rw [hsz] at hL
  generalize d.size = q at *
  simp -dsimp -implicitDefEqProofs (disch := first | omega | assumption | (simp only [Option.isSome_some,Qt0]; done) | (simp only [List.length_cons,List.length_nil,List.length_append,Int.toNat_natCast] <;> omega) | fail) only [Nat.reduceLT,Nat.reduceLeDiff,Nat.reduceEqDiff,↓reduceIte,Int.reduceLT,Int.reduceLE,Int.reduceToNat,Int.reduceEq,Int.reduceNe,Nat.reduceAdd,Int.reduceAdd,Int.reduceSub,Int.reduceMul,Nat.reduceMul,Qp0,Qp1,Ql0,Qe0]
  refine hL.out.mono ?_
  rintro v hz ⟨rfl, rfl⟩
  simp -dsimp -implicitDefEqProofs (disch := first | omega | assumption | (simp only [Option.isSome_some,Qt0]; done) | (simp only [List.length_cons,List.length_nil,List.length_append,Int.toNat_natCast] <;> omega) | fail) only [Nat.reduceLT,Nat.reduceLeDiff,Nat.reduceEqDiff,↓reduceIte,Int.reduceLT,Int.reduceLE,Int.reduceToNat,Int.reduceEq,Int.reduceNe,Nat.reduceAdd,Int.reduceAdd,Int.reduceSub,Int.reduceMul,Nat.reduceMul,Qp0,Qp1,Ql0,Qe0]
  refine hE.out.mono ?_
  rintro v hz ⟨be, rfl, hbe, rfl⟩
  simp -dsimp -implicitDefEqProofs (disch := first | omega | assumption | (simp only [Option.isSome_some,Qt0]; done) | (simp only [List.length_cons,List.length_nil,List.length_append,Int.toNat_natCast] <;> omega) | fail) only [Nat.reduceLT,Nat.reduceLeDiff,Nat.reduceEqDiff,↓reduceIte,Int.reduceLT,Int.reduceLE,Int.reduceToNat,Int.reduceEq,Int.reduceNe,Nat.reduceAdd,Int.reduceAdd,Int.reduceSub,Int.reduceMul,Nat.reduceMul,Qp0,Qp1,Ql0,Qe0]
  exact ⟨_, PH.Le.refl _, be, rfl, hbe, rfl⟩
set_option maxRecDepth 20000 in
set_option maxHeartbeats 1000000 in
theorem bad_nil (k : Int) : PCalls Try.prog w0 50 [.pointer none, .int .i64 k] h fun v h' => ∃ be, v = errV be ∧ h.top ≤ be ∧ h' = h.new be ⟨[str blockT, .int .i64 0, codeV k], 3⟩ := by
  refine zAp Try.func50 (by kernel_rfl) rfl _ Try.ntmps50 (by kernel_rfl) (by kernel_rfl) _ Try.results50 ?_
  have hL := Lib.hid (len_nil w0 h)
  have hE := Lib.hid (@zCq blockT 0 44 (.int .i64 k) w0 h)
  simp -dsimp -implicitDefEqProofs (disch := first | omega | assumption | (simp only [Option.isSome_some,Qt0]; done) | (simp only [List.length_cons,List.length_nil,List.length_append,Int.toNat_natCast] <;> omega) | fail) only [Nat.reduceLT,Nat.reduceLeDiff,Nat.reduceEqDiff,↓reduceIte,Int.reduceLT,Int.reduceLE,Int.reduceToNat,Int.reduceEq,Int.reduceNe,Nat.reduceAdd,Int.reduceAdd,Int.reduceSub,Int.reduceMul,Nat.reduceMul,Qp0,Qp1,Ql0,Qe0]
  refine hL.out.mono ?_
  rintro v hz ⟨rfl, rfl⟩
  simp -dsimp -implicitDefEqProofs (disch := first | omega | assumption | (simp only [Option.isSome_some,Qt0]; done) | (simp only [List.length_cons,List.length_nil,List.length_append,Int.toNat_natCast] <;> omega) | fail) only [Nat.reduceLT,Nat.reduceLeDiff,Nat.reduceEqDiff,↓reduceIte,Int.reduceLT,Int.reduceLE,Int.reduceToNat,Int.reduceEq,Int.reduceNe,Nat.reduceAdd,Int.reduceAdd,Int.reduceSub,Int.reduceMul,Nat.reduceMul,Qp0,Qp1,Ql0,Qe0]
  refine hE.out.mono ?_
  rintro v hz ⟨be, rfl, hbe, rfl⟩
  simp -dsimp -implicitDefEqProofs (disch := first | omega | assumption | (simp only [Option.isSome_some,Qt0]; done) | (simp only [List.length_cons,List.length_nil,List.length_append,Int.toNat_natCast] <;> omega) | fail) only [Nat.reduceLT,Nat.reduceLeDiff,Nat.reduceEqDiff,↓reduceIte,Int.reduceLT,Int.reduceLE,Int.reduceToNat,Int.reduceEq,Int.reduceNe,Nat.reduceAdd,Int.reduceAdd,Int.reduceSub,Int.reduceMul,Nat.reduceMul,Qp0,Qp1,Ql0,Qe0]
  exact ⟨_, PH.Le.refl _, be, rfl, hbe, rfl⟩
set_option maxRecDepth 20000 in
set_option maxHeartbeats 1000000 in
theorem op_any (hd : DS h0 h b d) (hfu : d.fuse ≤ 9223372036854775807) : PCalls Try.prog w0 51 [.pointer (some ⟨b, 0, none⟩)] h fun v h' => DS h0 h' b d.op.1 ∧ ER h' v (if d.op.2 = true then none else some (5, 0)) := by
  refine zAp Try.func51 (by kernel_rfl) rfl _ Try.ntmps51 (by kernel_rfl) (by kernel_rfl) _ Try.results51 ?_
  have hD := Lib.hid (zB2 h0 b d w0 h hd)
  obtain ⟨A, c, hb, hr, hA⟩ := hd.cells
  unfold DKc at hb
  by_cases hdn : d.down = true
  · have ho : d.op = (d, false) := by unfold Dk.op; rw [if_pos hdn]
    rw [ho]
    have hB := zCl h0 b d w0 h hd 5
    rw [show d.size = 0 by unfold Dk.size; rw [if_pos hdn]] at hB
    have hB := Lib.hid hB
    rw [hdn] at hD
    simp -dsimp -implicitDefEqProofs (disch := first | omega | assumption | (simp only [Option.isSome_some,Qt0]; done) | (simp only [List.length_cons,List.length_nil,List.length_append,Int.toNat_natCast] <;> omega) | fail) only [Nat.reduceLT,Nat.reduceLeDiff,Nat.reduceEqDiff,↓reduceIte,Int.reduceLT,Int.reduceLE,Int.reduceToNat,Int.reduceEq,Int.reduceNe,Nat.reduceAdd,Int.reduceAdd,Int.reduceSub,Int.reduceMul,Nat.reduceMul,Qp0,Qp1,Ql0,Qe0]
    refine hD.out.mono ?_
    rintro v hz ⟨rfl, rfl⟩
    simp -dsimp -implicitDefEqProofs (disch := first | omega | assumption | (simp only [Option.isSome_some,Qt0]; done) | (simp only [List.length_cons,List.length_nil,List.length_append,Int.toNat_natCast] <;> omega) | fail) only [Nat.reduceLT,Nat.reduceLeDiff,Nat.reduceEqDiff,↓reduceIte,Int.reduceLT,Int.reduceLE,Int.reduceToNat,Int.reduceEq,Int.reduceNe,Nat.reduceAdd,Int.reduceAdd,Int.reduceSub,Int.reduceMul,Nat.reduceMul,Qp0,Qp1,Ql0,Qe0]
    refine hB.out.mono ?_
    rintro v hz ⟨be, rfl, hbe, rfl⟩
    simp -dsimp -implicitDefEqProofs (disch := first | omega | assumption | (simp only [Option.isSome_some,Qt0]; done) | (simp only [List.length_cons,List.length_nil,List.length_append,Int.toNat_natCast] <;> omega) | fail) only [Nat.reduceLT,Nat.reduceLeDiff,Nat.reduceEqDiff,↓reduceIte,Int.reduceLT,Int.reduceLE,Int.reduceToNat,Int.reduceEq,Int.reduceNe,Nat.reduceAdd,Int.reduceAdd,Int.reduceSub,Int.reduceMul,Nat.reduceMul,Qp0,Qp1,Ql0,Qe0]
    exact ⟨_, PH.Le.refl _, hd.more hbe, EV.at (show EV _ (.code 5) (codeV 5) from rfl) hbe⟩
  have hdf : d.down = false := by simpa using hdn
  rw [hdf] at hD hb
  by_cases h1 : d.fuse < 0
  · have ho : d.op = (d, true) := by unfold Dk.op; rw [if_neg hdn, if_pos h1]
    rw [ho]
    have e1 := decide_eq_true h1
    simp -dsimp -implicitDefEqProofs (disch := first | omega | assumption | (simp only [Option.isSome_some,Qt0]; done) | (simp only [List.length_cons,List.length_nil,List.length_append,Int.toNat_natCast] <;> omega) | fail) only [Nat.reduceLT,Nat.reduceLeDiff,Nat.reduceEqDiff,↓reduceIte,Int.reduceLT,Int.reduceLE,Int.reduceToNat,Int.reduceEq,Int.reduceNe,Nat.reduceAdd,Int.reduceAdd,Int.reduceSub,Int.reduceMul,Nat.reduceMul,Qp0,Qp1,Ql0,Qe0]
    refine hD.out.mono ?_
    rintro v hz ⟨rfl, rfl⟩
    simp -dsimp -implicitDefEqProofs (disch := first | omega | assumption | (simp only [Option.isSome_some,Qt0]; done) | (simp only [List.length_cons,List.length_nil,List.length_append,Int.toNat_natCast] <;> omega) | fail) only [Nat.reduceLT,Nat.reduceLeDiff,Nat.reduceEqDiff,↓reduceIte,Int.reduceLT,Int.reduceLE,Int.reduceToNat,Int.reduceEq,Int.reduceNe,Nat.reduceAdd,Int.reduceAdd,Int.reduceSub,Int.reduceMul,Nat.reduceMul,Qp0,Qp1,Ql0,Qe0,zAa,zAb,hb,e1]
    exact ⟨_, PH.Le.refl _, hd, rfl⟩
  have e1 := decide_eq_false h1
  by_cases h2 : 0 < d.fuse
  · have ho : d.op = ({ d with fuse := d.fuse - 1 }, true) := by unfold Dk.op; rw [if_neg hdn, if_neg h1, if_pos h2]
    rw [ho]
    have e2 := decide_eq_true h2
    have hnew := hd.upd (d' := { d with fuse := d.fuse - 1 }) hr hA
    unfold DKc at hnew
    simp only [hdf] at hnew
    have hu : d.fuse ≤ 9223372036854775807 := hfu
    simp -dsimp -implicitDefEqProofs (disch := first | omega | assumption | (simp only [Option.isSome_some,Qt0]; done) | (simp only [List.length_cons,List.length_nil,List.length_append,Int.toNat_natCast] <;> omega) | fail) only [Nat.reduceLT,Nat.reduceLeDiff,Nat.reduceEqDiff,↓reduceIte,Int.reduceLT,Int.reduceLE,Int.reduceToNat,Int.reduceEq,Int.reduceNe,Nat.reduceAdd,Int.reduceAdd,Int.reduceSub,Int.reduceMul,Nat.reduceMul,Qp0,Qp1,Ql0,Qe0]
    refine hD.out.mono ?_
    rintro v hz ⟨rfl, rfl⟩
    simp -dsimp -implicitDefEqProofs (disch := first | omega | assumption | (simp only [Option.isSome_some,Qt0]; done) | (simp only [List.length_cons,List.length_nil,List.length_append,Int.toNat_natCast] <;> omega) | fail) only [Nat.reduceLT,Nat.reduceLeDiff,Nat.reduceEqDiff,↓reduceIte,Int.reduceLT,Int.reduceLE,Int.reduceToNat,Int.reduceEq,Int.reduceNe,Nat.reduceAdd,Int.reduceAdd,Int.reduceSub,Int.reduceMul,Nat.reduceMul,Qp0,Qp1,Ql0,Qe0,zAa,zAb,hb,e1,e2,List.set_cons_zero,List.set_cons_succ]
    exact ⟨_, PH.Le.refl _, by simpa only [hdf] using hnew, rfl⟩
  · have ho : d.op = ({ d with down := true }, false) := by unfold Dk.op; rw [if_neg hdn, if_neg h1, if_neg h2]
    rw [ho]
    have e2 := decide_eq_false h2
    have hnew := hd.upd (d' := { d with down := true }) hr hA
    unfold DKc at hnew
    have hB := Lib.hid (zCl h0 b { d with down := true } w0 _ hnew 5)
    simp -dsimp -implicitDefEqProofs (disch := first | omega | assumption | (simp only [Option.isSome_some,Qt0]; done) | (simp only [List.length_cons,List.length_nil,List.length_append,Int.toNat_natCast] <;> omega) | fail) only [Nat.reduceLT,Nat.reduceLeDiff,Nat.reduceEqDiff,↓reduceIte,Int.reduceLT,Int.reduceLE,Int.reduceToNat,Int.reduceEq,Int.reduceNe,Nat.reduceAdd,Int.reduceAdd,Int.reduceSub,Int.reduceMul,Nat.reduceMul,Qp0,Qp1,Ql0,Qe0]
    refine hD.out.mono ?_
    rintro v hz ⟨rfl, rfl⟩
    simp -dsimp -implicitDefEqProofs (disch := first | omega | assumption | (simp only [Option.isSome_some,Qt0]; done) | (simp only [List.length_cons,List.length_nil,List.length_append,Int.toNat_natCast] <;> omega) | fail) only [Nat.reduceLT,Nat.reduceLeDiff,Nat.reduceEqDiff,↓reduceIte,Int.reduceLT,Int.reduceLE,Int.reduceToNat,Int.reduceEq,Int.reduceNe,Nat.reduceAdd,Int.reduceAdd,Int.reduceSub,Int.reduceMul,Nat.reduceMul,Qp0,Qp1,Ql0,Qe0,zAa,zAb,hb,e1,e2,List.set_cons_zero,List.set_cons_succ]
    refine hB.out.mono ?_
    rintro v hz ⟨be, rfl, hbe, rfl⟩
    simp -dsimp -implicitDefEqProofs (disch := first | omega | assumption | (simp only [Option.isSome_some,Qt0]; done) | (simp only [List.length_cons,List.length_nil,List.length_append,Int.toNat_natCast] <;> omega) | fail) only [Nat.reduceLT,Nat.reduceLeDiff,Nat.reduceEqDiff,↓reduceIte,Int.reduceLT,Int.reduceLE,Int.reduceToNat,Int.reduceEq,Int.reduceNe,Nat.reduceAdd,Int.reduceAdd,Int.reduceSub,Int.reduceMul,Nat.reduceMul,Qp0,Qp1,Ql0,Qe0]
    exact ⟨_, PH.Le.refl _, hnew.more hbe, EV.at (show EV _ (.code 5) (codeV 5) from rfl) hbe⟩
end
end Go.Proofs.Ytblikpbaeippaaa


namespace Go.Proofs.Ytblikpbaeippaaa
set_option linter.unusedVariables false
set_option linter.unusedSimpArgs false
open Go.RowKit Px
theorem ER_ok {h : PH} {v : Value} (e : ER h v (if true = true then none else some (5, 0))) : v = .nilIface := e
theorem ER_no {h : PH} {v : Value} (e : ER h v (if false = true then none else some (5, 0))) : ∃ t x, v = .iface t x ∧ EV h (.wrap blockT 0 (.code 5)) (.iface t x) := by
  have e' : EV h (.wrap blockT 0 (.code 5)) v := e
  obtain ⟨t, x, rfl⟩ := e'.held
  exact ⟨t, x, rfl, e'⟩
structure Good (d : Dk) : Prop where
  safe0 : 0 ≤ d.safe
  safe1 : d.safe ≤ d.l.length
  len : d.l.length ≤ 1048576
  room0 : 0 ≤ d.room
  room1 : d.room ≤ 1048576
  fuse : d.fuse ≤ 9223372036854775807
theorem Dk.op_l (d : Dk) : d.op.1.l = d.l ∧ d.op.1.safe = d.safe ∧ d.op.1.room = d.room := by
  unfold Dk.op; split
  · exact ⟨rfl, rfl, rfl⟩
  split
  · exact ⟨rfl, rfl, rfl⟩
  split <;> exact ⟨rfl, rfl, rfl⟩
theorem Good.op {d : Dk} (g : Good d) : Good d.op.1 := by
  obtain ⟨e1, e2, e3⟩ := d.op_l
  refine ⟨by rw [e2]; exact g.safe0, by rw [e1, e2]; exact g.safe1, by rw [e1]; exact g.len, by rw [e3]; exact g.room0, by rw [e3]; exact g.room1, ?_⟩
  have := g.fuse
  unfold Dk.op; split
  · exact this
  split
  · exact this
  split
  · simp only; omega
  · exact this
def Dk.append (d : Dk) (s : List UInt8) : Dk × Option (Int × Int) := if d.down = false ∧ d.room - d.l.length < s.length then (d, some (4, (d.l.length : Int))) else if d.op.2 = true then ({ d.op.1 with l := d.l ++ s }, none) else (d.op.1, some (5, 0))
def Dk.sync (d : Dk) : Dk × Option (Int × Int) := if d.op.2 = true then ({ d.op.1 with safe := d.l.length }, none) else (d.op.1, some (5, 0))
def Dk.cut (d : Dk) (n : Int) : Dk × Option (Int × Int) := if d.down = false ∧ (n < 0 ∨ (d.l.length : Int) < n) then (d, some (1, (d.l.length : Int))) else if d.op.2 = true then ({ d.op.1 with l := d.l.take n.toNat, safe := if n < d.safe then n else d.safe }, none) else (d.op.1, some (5, 0))
section
variable (h0 : PH) (b : Nat) (d : Dk) (w0 : World) (h : PH)
set_option maxRecDepth 20000 in
set_option maxHeartbeats 1000000 in
theorem append_any (hd : DS h0 h b d) (g : Good d) (s : List UInt8) (hs : s.length ≤ 200000) : PCalls Try.prog w0 53 [.pointer (some ⟨b, 0, none⟩), str s] h fun v h' => DS h0 h' b (d.append s).1 ∧ ER h' v (d.append s).2 := by
  refine zAp Try.func53 (by kernel_rfl) rfl _ Try.ntmps53 (by kernel_rfl) (by kernel_rfl) _ Try.results53 ?_
  have hD := Lib.hid (zB2 h0 b d w0 h hd)
  have hO := op_any h0 b d w0 h hd g.fuse
  obtain ⟨ol, os, orm⟩ := d.op_l
  obtain ⟨A, c, hb, hr, hA⟩ := hd.cells
  unfold DKc at hb
  have glen := g.len
  have groom := g.room0
  have groom1 := g.room1
  by_cases hno : d.down = false ∧ d.room - d.l.length < s.length
  · have ha : d.append s = (d, some (4, (d.l.length : Int))) := by unfold Dk.append; rw [if_pos hno]
    rw [ha]
    have hB := zCl h0 b d w0 h hd 4
    rw [show d.size = d.l.length by unfold Dk.size; rw [hno.1]; rfl] at hB
    have hB := Lib.hid hB
    rw [hno.1] at hD hb
    have e1 := decide_eq_true hno.2
    clear hO
    simp -dsimp -implicitDefEqProofs (disch := first | omega | assumption | (simp only [Option.isSome_some,Qt0]; done) | (simp only [List.length_cons,List.length_nil,List.length_append,Int.toNat_natCast] <;> omega) | fail) only [Nat.reduceLT,Nat.reduceLeDiff,Nat.reduceEqDiff,↓reduceIte,Int.reduceLT,Int.reduceLE,Int.reduceToNat,Int.reduceEq,Int.reduceNe,Nat.reduceAdd,Int.reduceAdd,Int.reduceSub,Int.reduceMul,Nat.reduceMul,Qp0,Qp1,Ql0,Qe0]
    refine zBt [0, 1, 2, 3, 4, 5, 6, 7, 8, 9, 10, 11, 12, 13, 14, 15, 16, 17] h (by kernel_rfl) (by decide +kernel) (by kernel_rfl) (by kernel_rfl) (by kernel_rfl) (fun c f h hq => by simp only [zAy, zAv, zAw, zAu, zAx] at hq) (PH.Le.refl _).sub ?_
    simp -dsimp -implicitDefEqProofs (disch := first | omega | assumption | (simp only [Option.isSome_some,Qt0]; done) | (simp only [List.length_cons,List.length_nil,List.length_append,Int.toNat_natCast] <;> omega) | fail) only [Nat.reduceLT,Nat.reduceLeDiff,Nat.reduceEqDiff,↓reduceIte,Int.reduceLT,Int.reduceLE,Int.reduceToNat,Int.reduceEq,Int.reduceNe,Nat.reduceAdd,Int.reduceAdd,Int.reduceSub,Int.reduceMul,Nat.reduceMul,Qp0,Qp1,Ql0,Qe0]
    refine hD.out.mono ?_
    rintro v hz ⟨rfl, hz⟩
    rw [hz]
    clear hz
    simp -dsimp -implicitDefEqProofs (disch := first | omega | assumption | (simp only [Option.isSome_some,Qt0]; done) | (simp only [List.length_cons,List.length_nil,List.length_append,Int.toNat_natCast] <;> omega) | fail) only [Nat.reduceLT,Nat.reduceLeDiff,Nat.reduceEqDiff,↓reduceIte,Int.reduceLT,Int.reduceLE,Int.reduceToNat,Int.reduceEq,Int.reduceNe,Nat.reduceAdd,Int.reduceAdd,Int.reduceSub,Int.reduceMul,Nat.reduceMul,Qp0,Qp1,Ql0,Qe0]
    refine ⟨(PH.Le.refl _).sub, ?_⟩
    simp -dsimp -implicitDefEqProofs (disch := first | omega | assumption | (simp only [Option.isSome_some,Qt0]; done) | (simp only [List.length_cons,List.length_nil,List.length_append,Int.toNat_natCast] <;> omega) | fail) only [Nat.reduceLT,Nat.reduceLeDiff,Nat.reduceEqDiff,↓reduceIte,Int.reduceLT,Int.reduceLE,Int.reduceToNat,Int.reduceEq,Int.reduceNe,Nat.reduceAdd,Int.reduceAdd,Int.reduceSub,Int.reduceMul,Nat.reduceMul,Qp0,Qp1,Ql0,Qe0,zAa,zAb,hb,e1]
    refine hB.out.mono ?_
    rintro v hz ⟨be, rfl, hbe, rfl⟩
    simp -dsimp -implicitDefEqProofs (disch := first | omega | assumption | (simp only [Option.isSome_some,Qt0]; done) | (simp only [List.length_cons,List.length_nil,List.length_append,Int.toNat_natCast] <;> omega) | fail) only [Nat.reduceLT,Nat.reduceLeDiff,Nat.reduceEqDiff,↓reduceIte,Int.reduceLT,Int.reduceLE,Int.reduceToNat,Int.reduceEq,Int.reduceNe,Nat.reduceAdd,Int.reduceAdd,Int.reduceSub,Int.reduceMul,Nat.reduceMul,Qp0,Qp1,Ql0,Qe0]
    exact ⟨_, PH.Le.refl _, hd.more hbe, EV.at (show EV _ (.code 4) (codeV 4) from rfl) hbe⟩
  have hfit : d.down = false → decide (d.room - d.l.length < s.length) = false := fun e => decide_eq_false (fun h => hno ⟨e, h⟩)
  cases hdn : d.down
  · have e1 := hfit hdn
    rw [hdn] at hD hb
    cases hok : d.op.2
    · have ha : d.append s = (d.op.1, some (5, 0)) := by unfold Dk.append; rw [if_neg hno, if_neg (by rw [hok]; decide)]
      rw [ha]
      rw [hok] at hO
      have hO := Lib.hid hO
      simp -dsimp -implicitDefEqProofs (disch := first | omega | assumption | (simp only [Option.isSome_some,Qt0]; done) | (simp only [List.length_cons,List.length_nil,List.length_append,Int.toNat_natCast] <;> omega) | fail) only [Nat.reduceLT,Nat.reduceLeDiff,Nat.reduceEqDiff,↓reduceIte,Int.reduceLT,Int.reduceLE,Int.reduceToNat,Int.reduceEq,Int.reduceNe,Nat.reduceAdd,Int.reduceAdd,Int.reduceSub,Int.reduceMul,Nat.reduceMul,Qp0,Qp1,Ql0,Qe0]
      refine zBt [0, 1, 2, 3, 4, 5, 6, 7, 8, 9, 10, 11, 12, 13, 14, 15, 16, 17] h (by kernel_rfl) (by decide +kernel) (by kernel_rfl) (by kernel_rfl) (by kernel_rfl) (fun c f h hq => by simp only [zAy, zAv, zAw, zAu, zAx] at hq) (PH.Le.refl _).sub ?_
      simp -dsimp -implicitDefEqProofs (disch := first | omega | assumption | (simp only [Option.isSome_some,Qt0]; done) | (simp only [List.length_cons,List.length_nil,List.length_append,Int.toNat_natCast] <;> omega) | fail) only [Nat.reduceLT,Nat.reduceLeDiff,Nat.reduceEqDiff,↓reduceIte,Int.reduceLT,Int.reduceLE,Int.reduceToNat,Int.reduceEq,Int.reduceNe,Nat.reduceAdd,Int.reduceAdd,Int.reduceSub,Int.reduceMul,Nat.reduceMul,Qp0,Qp1,Ql0,Qe0]
      refine hD.out.mono ?_
      rintro v hz ⟨rfl, hz⟩
      rw [hz]
      clear hz
      simp -dsimp -implicitDefEqProofs (disch := first | omega | assumption | (simp only [Option.isSome_some,Qt0]; done) | (simp only [List.length_cons,List.length_nil,List.length_append,Int.toNat_natCast] <;> omega) | fail) only [Nat.reduceLT,Nat.reduceLeDiff,Nat.reduceEqDiff,↓reduceIte,Int.reduceLT,Int.reduceLE,Int.reduceToNat,Int.reduceEq,Int.reduceNe,Nat.reduceAdd,Int.reduceAdd,Int.reduceSub,Int.reduceMul,Nat.reduceMul,Qp0,Qp1,Ql0,Qe0]
      refine ⟨(PH.Le.refl _).sub, ?_⟩
      simp -dsimp -implicitDefEqProofs (disch := first | omega | assumption | (simp only [Option.isSome_some,Qt0]; done) | (simp only [List.length_cons,List.length_nil,List.length_append,Int.toNat_natCast] <;> omega) | fail) only [Nat.reduceLT,Nat.reduceLeDiff,Nat.reduceEqDiff,↓reduceIte,Int.reduceLT,Int.reduceLE,Int.reduceToNat,Int.reduceEq,Int.reduceNe,Nat.reduceAdd,Int.reduceAdd,Int.reduceSub,Int.reduceMul,Nat.reduceMul,Qp0,Qp1,Ql0,Qe0,zAa,zAb,hb,e1]
      refine hO.out.mono ?_
      rintro v hz ⟨hds, her⟩
      obtain ⟨t, x, rfl, hev⟩ := ER_no her
      simp -dsimp -implicitDefEqProofs (disch := first | omega | assumption | (simp only [Option.isSome_some,Qt0]; done) | (simp only [List.length_cons,List.length_nil,List.length_append,Int.toNat_natCast] <;> omega) | fail) only [Nat.reduceLT,Nat.reduceLeDiff,Nat.reduceEqDiff,↓reduceIte,Int.reduceLT,Int.reduceLE,Int.reduceToNat,Int.reduceEq,Int.reduceNe,Nat.reduceAdd,Int.reduceAdd,Int.reduceSub,Int.reduceMul,Nat.reduceMul,Qp0,Qp1,Ql0,Qe0]
      exact ⟨_, PH.Le.refl _, hds, hev⟩
    · have ha : d.append s = ({ d.op.1 with l := d.l ++ s }, none) := by unfold Dk.append; rw [if_neg hno, if_pos hok]
      rw [ha]
      rw [hok] at hO
      have hO := Lib.hid hO
      simp -dsimp -implicitDefEqProofs (disch := first | omega | assumption | (simp only [Option.isSome_some,Qt0]; done) | (simp only [List.length_cons,List.length_nil,List.length_append,Int.toNat_natCast] <;> omega) | fail) only [Nat.reduceLT,Nat.reduceLeDiff,Nat.reduceEqDiff,↓reduceIte,Int.reduceLT,Int.reduceLE,Int.reduceToNat,Int.reduceEq,Int.reduceNe,Nat.reduceAdd,Int.reduceAdd,Int.reduceSub,Int.reduceMul,Nat.reduceMul,Qp0,Qp1,Ql0,Qe0]
      refine zBt [0, 1, 2, 3, 4, 5, 6, 7, 8, 9, 10, 11, 12, 13, 14, 15, 16, 17] h (by kernel_rfl) (by decide +kernel) (by kernel_rfl) (by kernel_rfl) (by kernel_rfl) (fun c f h hq => by simp only [zAy, zAv, zAw, zAu, zAx] at hq) (PH.Le.refl _).sub ?_
      simp -dsimp -implicitDefEqProofs (disch := first | omega | assumption | (simp only [Option.isSome_some,Qt0]; done) | (simp only [List.length_cons,List.length_nil,List.length_append,Int.toNat_natCast] <;> omega) | fail) only [Nat.reduceLT,Nat.reduceLeDiff,Nat.reduceEqDiff,↓reduceIte,Int.reduceLT,Int.reduceLE,Int.reduceToNat,Int.reduceEq,Int.reduceNe,Nat.reduceAdd,Int.reduceAdd,Int.reduceSub,Int.reduceMul,Nat.reduceMul,Qp0,Qp1,Ql0,Qe0]
      refine hD.out.mono ?_
      rintro v hz ⟨rfl, hz⟩
      rw [hz]
      clear hz
      simp -dsimp -implicitDefEqProofs (disch := first | omega | assumption | (simp only [Option.isSome_some,Qt0]; done) | (simp only [List.length_cons,List.length_nil,List.length_append,Int.toNat_natCast] <;> omega) | fail) only [Nat.reduceLT,Nat.reduceLeDiff,Nat.reduceEqDiff,↓reduceIte,Int.reduceLT,Int.reduceLE,Int.reduceToNat,Int.reduceEq,Int.reduceNe,Nat.reduceAdd,Int.reduceAdd,Int.reduceSub,Int.reduceMul,Nat.reduceMul,Qp0,Qp1,Ql0,Qe0]
      refine ⟨(PH.Le.refl _).sub, ?_⟩
      simp -dsimp -implicitDefEqProofs (disch := first | omega | assumption | (simp only [Option.isSome_some,Qt0]; done) | (simp only [List.length_cons,List.length_nil,List.length_append,Int.toNat_natCast] <;> omega) | fail) only [Nat.reduceLT,Nat.reduceLeDiff,Nat.reduceEqDiff,↓reduceIte,Int.reduceLT,Int.reduceLE,Int.reduceToNat,Int.reduceEq,Int.reduceNe,Nat.reduceAdd,Int.reduceAdd,Int.reduceSub,Int.reduceMul,Nat.reduceMul,Qp0,Qp1,Ql0,Qe0,zAa,zAb,hb,e1]
      refine hO.out.mono ?_
      rintro v h2 ⟨hds, her⟩
      obtain rfl := ER_ok her
      generalize d.op.1 = d2 at *
      obtain ⟨A2, c2, hb2, hr2, hA2⟩ := hds.cells
      rw [← ol]
      have hlt2 := h2.lt _ _ hb2
      unfold DKc at hb2
      simp -dsimp -implicitDefEqProofs (disch := first | omega | assumption | (simp only [Option.isSome_some,Qt0]; done) | (simp only [List.length_cons,List.length_nil,List.length_append,Int.toNat_natCast] <;> omega) | fail) only [Nat.reduceLT,Nat.reduceLeDiff,Nat.reduceEqDiff,↓reduceIte,Int.reduceLT,Int.reduceLE,Int.reduceToNat,Int.reduceEq,Int.reduceNe,Nat.reduceAdd,Int.reduceAdd,Int.reduceSub,Int.reduceMul,Nat.reduceMul,Qp0,Qp1,Ql0,Qe0,zAa,zAb,hb2]
      refine Does_appR hr2 (by rw [ol]; omega) (fun A' c' h3 hr3 ht3 hs3 hA3 => ?_)
      have hb3 : h3.m b = some ⟨[.slice A2 d2.l.length c2, .int .i64 d2.safe, .int .i64 d2.room, .int .i64 d2.fuse, .bool d2.down], 5⟩ := by
        rw [hs3 b hlt2 (fun a e => (hA2 a e).2), hb2]
      have hAA : ∀ a, A' = some a → h0.m a.block = none ∧ a.block ≠ b := fun a e => by
        rcases hA3 a e with h4 | h4
        · exact hA2 a h4
        · exact ⟨h0.gone (Nat.le_trans hds.top h4), by omega⟩
      have hsame : ∀ x k, h0.m x = some k → h3.m x = some k := fun x k e => by
        rw [hs3 x (Nat.lt_of_lt_of_le (h0.lt _ _ e) hds.top) (fun a e' q => by have h9 := (hA2 a e').1; first | (rw [q, h9] at e; cases e) | (rw [← q, h9] at e; cases e))]; exact hds.same x k e
      simp -dsimp -implicitDefEqProofs (disch := first | omega | assumption | (simp only [Option.isSome_some,Qt0]; done) | (simp only [List.length_cons,List.length_nil,List.length_append,Int.toNat_natCast] <;> omega) | fail) only [Nat.reduceLT,Nat.reduceLeDiff,Nat.reduceEqDiff,↓reduceIte,Int.reduceLT,Int.reduceLE,Int.reduceToNat,Int.reduceEq,Int.reduceNe,Nat.reduceAdd,Int.reduceAdd,Int.reduceSub,Int.reduceMul,Nat.reduceMul,Qp0,Qp1,Ql0,Qe0,zAa,zAb,hb3,List.set_cons_zero,List.set_cons_succ]
      refine ⟨_, PH.Le.refl _, ⟨by simp only [PH.new_top]; have := hds.top; omega, hds.low, fun x k e => by rw [PH.new_m, if_neg (fun q => by subst q; rw [hds.low] at e; cases e)]; exact hsame x k e, A', c', by rw [PH.new_m, if_pos rfl]; rfl, hr3.same fun a e => by rw [PH.new_m, if_neg (hAA a e).2], hAA⟩, rfl⟩
  · have hok : d.op.2 = false := by unfold Dk.op; rw [if_pos hdn]
    have ha : d.append s = (d.op.1, some (5, 0)) := by unfold Dk.append; rw [if_neg hno, if_neg (by rw [hok]; decide)]
    rw [ha]
    rw [hok] at hO
    rw [hdn] at hD
    have hO := Lib.hid hO
    simp -dsimp -implicitDefEqProofs (disch := first | omega | assumption | (simp only [Option.isSome_some,Qt0]; done) | (simp only [List.length_cons,List.length_nil,List.length_append,Int.toNat_natCast] <;> omega) | fail) only [Nat.reduceLT,Nat.reduceLeDiff,Nat.reduceEqDiff,↓reduceIte,Int.reduceLT,Int.reduceLE,Int.reduceToNat,Int.reduceEq,Int.reduceNe,Nat.reduceAdd,Int.reduceAdd,Int.reduceSub,Int.reduceMul,Nat.reduceMul,Qp0,Qp1,Ql0,Qe0]
    refine zBt [0, 1, 2, 3, 4, 5, 6, 7, 8, 9, 10, 11, 12, 13, 14, 15, 16, 17] h (by kernel_rfl) (by decide +kernel) (by kernel_rfl) (by kernel_rfl) (by kernel_rfl) (fun c f h hq => by simp only [zAy, zAv, zAw, zAu, zAx] at hq) (PH.Le.refl _).sub ?_
    simp -dsimp -implicitDefEqProofs (disch := first | omega | assumption | (simp only [Option.isSome_some,Qt0]; done) | (simp only [List.length_cons,List.length_nil,List.length_append,Int.toNat_natCast] <;> omega) | fail) only [Nat.reduceLT,Nat.reduceLeDiff,Nat.reduceEqDiff,↓reduceIte,Int.reduceLT,Int.reduceLE,Int.reduceToNat,Int.reduceEq,Int.reduceNe,Nat.reduceAdd,Int.reduceAdd,Int.reduceSub,Int.reduceMul,Nat.reduceMul,Qp0,Qp1,Ql0,Qe0]
    refine hD.out.mono ?_
    rintro v hz ⟨rfl, hz⟩
    rw [hz]
    clear hz
    simp -dsimp -implicitDefEqProofs (disch := first | omega | assumption | (simp only [Option.isSome_some,Qt0]; done) | (simp only [List.length_cons,List.length_nil,List.length_append,Int.toNat_natCast] <;> omega) | fail) only [Nat.reduceLT,Nat.reduceLeDiff,Nat.reduceEqDiff,↓reduceIte,Int.reduceLT,Int.reduceLE,Int.reduceToNat,Int.reduceEq,Int.reduceNe,Nat.reduceAdd,Int.reduceAdd,Int.reduceSub,Int.reduceMul,Nat.reduceMul,Qp0,Qp1,Ql0,Qe0]
    refine ⟨(PH.Le.refl _).sub, ?_⟩
    simp -dsimp -implicitDefEqProofs (disch := first | omega | assumption | (simp only [Option.isSome_some,Qt0]; done) | (simp only [List.length_cons,List.length_nil,List.length_append,Int.toNat_natCast] <;> omega) | fail) only [Nat.reduceLT,Nat.reduceLeDiff,Nat.reduceEqDiff,↓reduceIte,Int.reduceLT,Int.reduceLE,Int.reduceToNat,Int.reduceEq,Int.reduceNe,Nat.reduceAdd,Int.reduceAdd,Int.reduceSub,Int.reduceMul,Nat.reduceMul,Qp0,Qp1,Ql0,Qe0]
    refine hO.out.mono ?_
    rintro v hz ⟨hds, her⟩
    obtain ⟨t, x, rfl, hev⟩ := ER_no her
    simp -dsimp -implicitDefEqProofs (disch := first | omega | assumption | (simp only [Option.isSome_some,Qt0]; done) | (simp only [List.length_cons,List.length_nil,List.length_append,Int.toNat_natCast] <;> omega) | fail) only [Nat.reduceLT,Nat.reduceLeDiff,Nat.reduceEqDiff,↓reduceIte,Int.reduceLT,Int.reduceLE,Int.reduceToNat,Int.reduceEq,Int.reduceNe,Nat.reduceAdd,Int.reduceAdd,Int.reduceSub,Int.reduceMul,Nat.reduceMul,Qp0,Qp1,Ql0,Qe0]
    exact ⟨_, PH.Le.refl _, hds, hev⟩
set_option maxRecDepth 20000 in
set_option maxHeartbeats 1000000 in
theorem sync_any (hd : DS h0 h b d) (g : Good d) : PCalls Try.prog w0 52 [.pointer (some ⟨b, 0, none⟩)] h fun v h' => DS h0 h' b d.sync.1 ∧ ER h' v d.sync.2 := by
  refine zAp Try.func52 (by kernel_rfl) rfl _ Try.ntmps52 (by kernel_rfl) (by kernel_rfl) _ Try.results52 ?_
  have hO := op_any h0 b d w0 h hd g.fuse
  obtain ⟨ol, os, orm⟩ := d.op_l
  cases hok : d.op.2
  · have ha : d.sync = (d.op.1, some (5, 0)) := by unfold Dk.sync; rw [if_neg (by rw [hok]; decide)]
    rw [ha]
    rw [hok] at hO
    have hO := Lib.hid hO
    simp -dsimp -implicitDefEqProofs (disch := first | omega | assumption | (simp only [Option.isSome_some,Qt0]; done) | (simp only [List.length_cons,List.length_nil,List.length_append,Int.toNat_natCast] <;> omega) | fail) only [Nat.reduceLT,Nat.reduceLeDiff,Nat.reduceEqDiff,↓reduceIte,Int.reduceLT,Int.reduceLE,Int.reduceToNat,Int.reduceEq,Int.reduceNe,Nat.reduceAdd,Int.reduceAdd,Int.reduceSub,Int.reduceMul,Nat.reduceMul,Qp0,Qp1,Ql0,Qe0]
    refine hO.out.mono ?_
    rintro v hz ⟨hds, her⟩
    obtain ⟨t, x, rfl, hev⟩ := ER_no her
    simp -dsimp -implicitDefEqProofs (disch := first | omega | assumption | (simp only [Option.isSome_some,Qt0]; done) | (simp only [List.length_cons,List.length_nil,List.length_append,Int.toNat_natCast] <;> omega) | fail) only [Nat.reduceLT,Nat.reduceLeDiff,Nat.reduceEqDiff,↓reduceIte,Int.reduceLT,Int.reduceLE,Int.reduceToNat,Int.reduceEq,Int.reduceNe,Nat.reduceAdd,Int.reduceAdd,Int.reduceSub,Int.reduceMul,Nat.reduceMul,Qp0,Qp1,Ql0,Qe0]
    exact ⟨_, PH.Le.refl _, hds, hev⟩
  · have ha : d.sync = ({ d.op.1 with safe := d.l.length }, none) := by unfold Dk.sync; rw [if_pos hok]
    rw [ha]
    rw [hok] at hO
    have hO := Lib.hid hO
    simp -dsimp -implicitDefEqProofs (disch := first | omega | assumption | (simp only [Option.isSome_some,Qt0]; done) | (simp only [List.length_cons,List.length_nil,List.length_append,Int.toNat_natCast] <;> omega) | fail) only [Nat.reduceLT,Nat.reduceLeDiff,Nat.reduceEqDiff,↓reduceIte,Int.reduceLT,Int.reduceLE,Int.reduceToNat,Int.reduceEq,Int.reduceNe,Nat.reduceAdd,Int.reduceAdd,Int.reduceSub,Int.reduceMul,Nat.reduceMul,Qp0,Qp1,Ql0,Qe0]
    refine hO.out.mono ?_
    rintro v h2 ⟨hds, her⟩
    obtain rfl := ER_ok her
    generalize d.op.1 = d2 at *
    obtain ⟨A2, c2, hb2, hr2, hA2⟩ := hds.cells
    rw [← ol]
    have hnew := hds.upd (d' := { d2 with safe := d2.l.length }) hr2 hA2
    unfold DKc at hb2 hnew
    simp -dsimp -implicitDefEqProofs (disch := first | omega | assumption | (simp only [Option.isSome_some,Qt0]; done) | (simp only [List.length_cons,List.length_nil,List.length_append,Int.toNat_natCast] <;> omega) | fail) only [Nat.reduceLT,Nat.reduceLeDiff,Nat.reduceEqDiff,↓reduceIte,Int.reduceLT,Int.reduceLE,Int.reduceToNat,Int.reduceEq,Int.reduceNe,Nat.reduceAdd,Int.reduceAdd,Int.reduceSub,Int.reduceMul,Nat.reduceMul,Qp0,Qp1,Ql0,Qe0,zAa,zAb,hb2,List.set_cons_zero,List.set_cons_succ]
    exact ⟨_, PH.Le.refl _, hnew, rfl⟩
end
end Go.Proofs.Ytblikpbaeippaaa


namespace Go.Proofs.Ytblikpbaeippaaa
set_option linter.unusedVariables false
set_option linter.unusedSimpArgs false
open Go.RowKit Px
section
variable {P : Program} {t e : TypeId} {K : Value → Prop}
theorem y_to3nil (hu : sl1B P t = true) (k k' : IntKind) : Yld P (Instr.sliceAt t (.slice none 0 0) none (some (.int k' 0)) (some (.int k 0))) K = K (.slice none 0 0) := zAc fun w => by
  obtain ⟨e, h3, h4⟩ := zDw hu
  simp [Instr.sliceAt, run_underlying h3, Instr.slice, Instr.sliceBounds, Instr.sliceBound, asIntOf, Px.run_sizeOf h4]
theorem y_midnil (hu : sl1B P t = true) (k k' : IntKind) : Yld P (Instr.sliceAt t (.slice none 0 0) (some (.int k' 0)) (some (.int k 0)) none) K = K (.slice none 0 0) := zAc fun w => by
  obtain ⟨e, h3, h4⟩ := zDw hu
  simp [Instr.sliceAt, run_underlying h3, Instr.slice, Instr.sliceBounds, Instr.sliceBound, asIntOf, Px.run_sizeOf h4]
end
theorem Rs_cut {w0 : World} {h : PH} {bl c lim i j : Nat} {X : List Value} {l : List UInt8} (hb : h.m bl = some ⟨X, lim⟩) (hX : l.length ≤ X.length) (ht : X.take l.length = bs l) (hc : l.length ≤ c) (hij : i ≤ j) (hj : j ≤ l.length) :
    Rs w0 h 1 (cutAt bl 0 i (decide (c = i))) (j - i) (bs ((l.drop i).take (j - i))) := by
  by_cases hci : c = i
  · have h0 : j - i = 0 := by omega
    rw [h0, List.take_zero]
    exact Rs.nil w0 h 1 _
  · unfold cutAt
    rw [decide_eq_false hci]
    refine ⟨by rw [zA0]; simp; omega, fun _ => ⟨⟨bl, 0 + i, none⟩, rfl, ?_⟩⟩
    unfold rdN
    simp only [hb]
    rw [if_pos ⟨trivial, by omega⟩, Nat.mul_one, Nat.zero_add]
    have e : bs ((l.drop i).take (j - i)) = ((bs l).drop i).take (j - i) := by simp [bs, List.map_take, List.map_drop]
    rw [e, ← ht, List.drop_take, List.take_take, Nat.min_eq_left (by omega)]
theorem Ro.cut {h : PH} {A : Option Addr} {l : List UInt8} {c : Nat} (r : Ro h A l c) (n : Nat) (hn : n ≤ l.length) (hA : A ≠ none) : Ro h A (l.take n) n := by
  rcases r with ⟨h1, _⟩ | ⟨b, X, lim, rfl, h1, h2, h3, h4, h5, h6⟩
  · exact absurd h1 hA
  · have hl : (l.take n).length = n := by rw [List.length_take]; omega
    refine .inr ⟨b, X, lim, rfl, by omega, by omega, h3, by omega, ?_, by omega⟩
    rw [hl]
    have : X.take n = (X.take l.length).take n := by rw [List.take_take, Nat.min_eq_left hn]
    rw [this, h5]; simp [bs, List.map_take]
theorem Dk.op_up {d : Dk} (h : d.op.2 = true) : d.down = false := by
  unfold Dk.op at h
  by_cases hd : d.down = true
  · rw [if_pos hd] at h; cases h
  · simpa using hd
def Dk.read (d : Dk) (i j : Int) : List UInt8 × Option (Int × Int) := if d.down = true then ([], some (5, 0)) else if i < 0 ∨ j < i ∨ (d.l.length : Int) < j then ([], some (1, (d.l.length : Int))) else ((d.l.drop i.toNat).take (j.toNat - i.toNat), none)
def lost (mask : List UInt8) (i : Nat) : Bool := !(decide (mask = [])) && decide (mask.getD (i % mask.length) 0 % 2 = 0)
def zl (mask : List UInt8) (safe : Nat) (l : List UInt8) : Nat → List UInt8
  | 0 => l
  | k + 1 => if lost mask k = true then (zl mask safe l k).set (safe + k) 0 else zl mask safe l k
theorem zFi (mask : List UInt8) (safe : Nat) (l : List UInt8) : ∀ k, (zl mask safe l k).length = l.length
  | 0 => rfl
  | k + 1 => by unfold zl; split <;> simp [zFi mask safe l k]
def Dk.kept (d : Dk) (kept : Int) : Int := (kept.tmod ((d.l.length : Int) - d.safe + 1) + ((d.l.length : Int) - d.safe + 1)) % ((d.l.length : Int) - d.safe + 1)
def Dk.crash (d : Dk) (k : Int) (mask : List UInt8) : Dk := { l := (zl mask d.safe.toNat d.l (d.kept k).toNat).take (d.safe + d.kept k).toNat, safe := d.safe + d.kept k, room := d.room, fuse := -1, down := false }
section
variable (h0 : PH) (b : Nat) (d : Dk) (w0 : World) (h : PH)
set_option maxRecDepth 20000 in
set_option maxHeartbeats 1000000 in
theorem zDr (hd : DS h0 h b d) (g : Good d) (n : Int) : PCalls Try.prog w0 31 [.pointer (some ⟨b, 0, none⟩), .int .i64 n] h fun v h' => DS h0 h' b (d.cut n).1 ∧ ER h' v (d.cut n).2 := by
  refine zAp Try.func31 (by kernel_rfl) rfl _ Try.ntmps31 (by kernel_rfl) (by kernel_rfl) _ Try.results31 ?_
  have hD := Lib.hid (zB2 h0 b d w0 h hd)
  have hO := op_any h0 b d w0 h hd g.fuse
  obtain ⟨ol, os, orm⟩ := d.op_l
  obtain ⟨A, c, hb, hr, hA⟩ := hd.cells
  unfold DKc at hb
  by_cases hno : d.down = false ∧ (n < 0 ∨ (d.l.length : Int) < n)
  · have ha : d.cut n = (d, some (1, (d.l.length : Int))) := by unfold Dk.cut; rw [if_pos hno]
    rw [ha]
    have hB := zCl h0 b d w0 h hd 1
    rw [show d.size = d.l.length by unfold Dk.size; rw [hno.1]; rfl] at hB
    have hB := Lib.hid hB
    rw [hno.1] at hD hb
    clear hO
    by_cases h1 : n < 0
    · have e1 := decide_eq_true h1
      simp -dsimp -implicitDefEqProofs (disch := first | omega | assumption | (simp only [Option.isSome_some,Qt0]; done) | (simp only [List.length_cons,List.length_nil,List.length_append,Int.toNat_natCast] <;> omega) | fail) only [Nat.reduceLT,Nat.reduceLeDiff,Nat.reduceEqDiff,↓reduceIte,Int.reduceLT,Int.reduceLE,Int.reduceToNat,Int.reduceEq,Int.reduceNe,Nat.reduceAdd,Int.reduceAdd,Int.reduceSub,Int.reduceMul,Nat.reduceMul,Qp0,Qp1,Ql0,Qe0]
      refine hD.out.mono ?_
      rintro v hz ⟨rfl, hz⟩
      rw [hz]
      clear hz
      simp -dsimp -implicitDefEqProofs (disch := first | omega | assumption | (simp only [Option.isSome_some,Qt0]; done) | (simp only [List.length_cons,List.length_nil,List.length_append,Int.toNat_natCast] <;> omega) | fail) only [Nat.reduceLT,Nat.reduceLeDiff,Nat.reduceEqDiff,↓reduceIte,Int.reduceLT,Int.reduceLE,Int.reduceToNat,Int.reduceEq,Int.reduceNe,Nat.reduceAdd,Int.reduceAdd,Int.reduceSub,Int.reduceMul,Nat.reduceMul,Qp0,Qp1,Ql0,Qe0,zAa,zAb,hb,e1]
      refine hB.out.mono ?_
      rintro v hz ⟨be, rfl, hbe, rfl⟩
      simp -dsimp -implicitDefEqProofs (disch := first | omega | assumption | (simp only [Option.isSome_some,Qt0]; done) | (simp only [List.length_cons,List.length_nil,List.length_append,Int.toNat_natCast] <;> omega) | fail) only [Nat.reduceLT,Nat.reduceLeDiff,Nat.reduceEqDiff,↓reduceIte,Int.reduceLT,Int.reduceLE,Int.reduceToNat,Int.reduceEq,Int.reduceNe,Nat.reduceAdd,Int.reduceAdd,Int.reduceSub,Int.reduceMul,Nat.reduceMul,Qp0,Qp1,Ql0,Qe0]
      exact ⟨_, PH.Le.refl _, hd.more hbe, EV.at (show EV _ (.code 1) (codeV 1) from rfl) hbe⟩
    · have e1 := decide_eq_false h1
      have e2 : decide ((d.l.length : Int) < n) = true := decide_eq_true (by omega)
      simp -dsimp -implicitDefEqProofs (disch := first | omega | assumption | (simp only [Option.isSome_some,Qt0]; done) | (simp only [List.length_cons,List.length_nil,List.length_append,Int.toNat_natCast] <;> omega) | fail) only [Nat.reduceLT,Nat.reduceLeDiff,Nat.reduceEqDiff,↓reduceIte,Int.reduceLT,Int.reduceLE,Int.reduceToNat,Int.reduceEq,Int.reduceNe,Nat.reduceAdd,Int.reduceAdd,Int.reduceSub,Int.reduceMul,Nat.reduceMul,Qp0,Qp1,Ql0,Qe0]
      refine hD.out.mono ?_
      rintro v hz ⟨rfl, hz⟩
      rw [hz]
      clear hz
      simp -dsimp -implicitDefEqProofs (disch := first | omega | assumption | (simp only [Option.isSome_some,Qt0]; done) | (simp only [List.length_cons,List.length_nil,List.length_append,Int.toNat_natCast] <;> omega) | fail) only [Nat.reduceLT,Nat.reduceLeDiff,Nat.reduceEqDiff,↓reduceIte,Int.reduceLT,Int.reduceLE,Int.reduceToNat,Int.reduceEq,Int.reduceNe,Nat.reduceAdd,Int.reduceAdd,Int.reduceSub,Int.reduceMul,Nat.reduceMul,Qp0,Qp1,Ql0,Qe0,zAa,zAb,hb,e1,e2]
      refine hB.out.mono ?_
      rintro v hz ⟨be, rfl, hbe, rfl⟩
      simp -dsimp -implicitDefEqProofs (disch := first | omega | assumption | (simp only [Option.isSome_some,Qt0]; done) | (simp only [List.length_cons,List.length_nil,List.length_append,Int.toNat_natCast] <;> omega) | fail) only [Nat.reduceLT,Nat.reduceLeDiff,Nat.reduceEqDiff,↓reduceIte,Int.reduceLT,Int.reduceLE,Int.reduceToNat,Int.reduceEq,Int.reduceNe,Nat.reduceAdd,Int.reduceAdd,Int.reduceSub,Int.reduceMul,Nat.reduceMul,Qp0,Qp1,Ql0,Qe0]
      exact ⟨_, PH.Le.refl _, hd.more hbe, EV.at (show EV _ (.code 1) (codeV 1) from rfl) hbe⟩
  cases hdn : d.down
  · have e1 : decide (n < 0) = false := decide_eq_false (fun h => hno ⟨hdn, .inl h⟩)
    have e2 : decide ((d.l.length : Int) < n) = false := decide_eq_false (fun h => hno ⟨hdn, .inr h⟩)
    have hn0 : 0 ≤ n := by have := of_decide_eq_false e1; omega
    have hn1 : n ≤ d.l.length := by have := of_decide_eq_false e2; omega
    rw [hdn] at hD hb
    cases hok : d.op.2
    · have ha : d.cut n = (d.op.1, some (5, 0)) := by unfold Dk.cut; rw [if_neg hno, if_neg (by rw [hok]; decide)]
      rw [ha]
      rw [hok] at hO
      have hO := Lib.hid hO
      simp -dsimp -implicitDefEqProofs (disch := first | omega | assumption | (simp only [Option.isSome_some,Qt0]; done) | (simp only [List.length_cons,List.length_nil,List.length_append,Int.toNat_natCast] <;> omega) | fail) only [Nat.reduceLT,Nat.reduceLeDiff,Nat.reduceEqDiff,↓reduceIte,Int.reduceLT,Int.reduceLE,Int.reduceToNat,Int.reduceEq,Int.reduceNe,Nat.reduceAdd,Int.reduceAdd,Int.reduceSub,Int.reduceMul,Nat.reduceMul,Qp0,Qp1,Ql0,Qe0]
      refine hD.out.mono ?_
      rintro v hz ⟨rfl, hz⟩
      rw [hz]
      clear hz
      simp -dsimp -implicitDefEqProofs (disch := first | omega | assumption | (simp only [Option.isSome_some,Qt0]; done) | (simp only [List.length_cons,List.length_nil,List.length_append,Int.toNat_natCast] <;> omega) | fail) only [Nat.reduceLT,Nat.reduceLeDiff,Nat.reduceEqDiff,↓reduceIte,Int.reduceLT,Int.reduceLE,Int.reduceToNat,Int.reduceEq,Int.reduceNe,Nat.reduceAdd,Int.reduceAdd,Int.reduceSub,Int.reduceMul,Nat.reduceMul,Qp0,Qp1,Ql0,Qe0,zAa,zAb,hb,e1,e2]
      refine hO.out.mono ?_
      rintro v hz ⟨hds, her⟩
      obtain ⟨t, x, rfl, hev⟩ := ER_no her
      simp -dsimp -implicitDefEqProofs (disch := first | omega | assumption | (simp only [Option.isSome_some,Qt0]; done) | (simp only [List.length_cons,List.length_nil,List.length_append,Int.toNat_natCast] <;> omega) | fail) only [Nat.reduceLT,Nat.reduceLeDiff,Nat.reduceEqDiff,↓reduceIte,Int.reduceLT,Int.reduceLE,Int.reduceToNat,Int.reduceEq,Int.reduceNe,Nat.reduceAdd,Int.reduceAdd,Int.reduceSub,Int.reduceMul,Nat.reduceMul,Qp0,Qp1,Ql0,Qe0]
      exact ⟨_, PH.Le.refl _, hds, hev⟩
    · have ha : d.cut n = ({ d.op.1 with l := d.l.take n.toNat, safe := if n < d.safe then n else d.safe }, none) := by unfold Dk.cut; rw [if_neg hno, if_pos hok]
      rw [ha]
      rw [hok] at hO
      have hO := Lib.hid hO
      simp -dsimp -implicitDefEqProofs (disch := first | omega | assumption | (simp only [Option.isSome_some,Qt0]; done) | (simp only [List.length_cons,List.length_nil,List.length_append,Int.toNat_natCast] <;> omega) | fail) only [Nat.reduceLT,Nat.reduceLeDiff,Nat.reduceEqDiff,↓reduceIte,Int.reduceLT,Int.reduceLE,Int.reduceToNat,Int.reduceEq,Int.reduceNe,Nat.reduceAdd,Int.reduceAdd,Int.reduceSub,Int.reduceMul,Nat.reduceMul,Qp0,Qp1,Ql0,Qe0]
      refine hD.out.mono ?_
      rintro v hz ⟨rfl, hz⟩
      rw [hz]
      clear hz
      simp -dsimp -implicitDefEqProofs (disch := first | omega | assumption | (simp only [Option.isSome_some,Qt0]; done) | (simp only [List.length_cons,List.length_nil,List.length_append,Int.toNat_natCast] <;> omega) | fail) only [Nat.reduceLT,Nat.reduceLeDiff,Nat.reduceEqDiff,↓reduceIte,Int.reduceLT,Int.reduceLE,Int.reduceToNat,Int.reduceEq,Int.reduceNe,Nat.reduceAdd,Int.reduceAdd,Int.reduceSub,Int.reduceMul,Nat.reduceMul,Qp0,Qp1,Ql0,Qe0,zAa,zAb,hb,e1,e2]
      refine hO.out.mono ?_
      rintro v h2 ⟨hds, her⟩
      obtain rfl := ER_ok her
      rw [← ol] at hn1
      rw [← ol, ← os]
      generalize d.op.1 = d2 at *
      clear hb hA hr
      obtain ⟨A2, c2, hb2, hr2, hA2⟩ := hds.cells
      obtain ⟨m, rfl⟩ := Int.eq_ofNat_of_zero_le hn0
      have hmt : ((m : Int)).toNat = m := Int.toNat_natCast m
      obtain ⟨S, hS⟩ : ∃ S, S = (if (m : Int) < d2.safe then (m : Int) else d2.safe) := ⟨_, rfl⟩
      rcases hr2 with ⟨rfl, hl, rfl⟩ | ⟨bl, X, lim, rfl, r1, r2, r3, r4, r5, r6⟩
      · rw [hl] at hn1
        obtain rfl : m = 0 := by simp at hn1; omega
        have hnew := hds.upd (A := none) (c := 0) (d' := { d2 with l := d2.l.take 0, safe := S }) (.inl ⟨rfl, rfl, rfl⟩) hA2
        rw [hmt, ← hS]
        unfold DKc at hb2 hnew
        rw [hl] at hb2
        have hS' : (if (0 : Int) < d2.safe then (0 : Int) else d2.safe) = S := hS.symm
        simp -dsimp -implicitDefEqProofs (disch := first | omega | assumption | (simp only [Option.isSome_some,Qt0]; done) | (simp only [List.length_cons,List.length_nil,List.length_append,Int.toNat_natCast] <;> omega) | fail) only [Nat.reduceLT,Nat.reduceLeDiff,Nat.reduceEqDiff,↓reduceIte,Int.reduceLT,Int.reduceLE,Int.reduceToNat,Int.reduceEq,Int.reduceNe,Nat.reduceAdd,Int.reduceAdd,Int.reduceSub,Int.reduceMul,Nat.reduceMul,Qp0,Qp1,Ql0,Qe0,zAa,zAb,hb2,List.set_cons_zero,List.set_cons_succ,y_to3nil,PH.new_new,hS']
        exact ⟨_, PH.Le.refl _, hnew, rfl⟩
      · have hr2 : Ro h2 (some ⟨bl, 0, none⟩) d2.l c2 := .inr ⟨bl, X, lim, rfl, r1, r2, r3, r4, r5, r6⟩
        have hnew := hds.upd (c := m) (d' := { d2 with l := d2.l.take m, safe := S }) (hr2.cut m (by omega) (by simp)) hA2
        rw [hmt, ← hS]
        have hlm : (d2.l.take m).length = m := by rw [List.length_take]; omega
        unfold DKc at hb2 hnew
        simp only [hlm] at hnew
        simp -dsimp -implicitDefEqProofs (disch := first | omega | assumption | (simp only [Option.isSome_some,Qt0]; done) | (simp only [List.length_cons,List.length_nil,List.length_append,Int.toNat_natCast] <;> omega) | fail) only [Nat.reduceLT,Nat.reduceLeDiff,Nat.reduceEqDiff,↓reduceIte,Int.reduceLT,Int.reduceLE,Int.reduceToNat,Int.reduceEq,Int.reduceNe,Nat.reduceAdd,Int.reduceAdd,Int.reduceSub,Int.reduceMul,Nat.reduceMul,Qp0,Qp1,Ql0,Qe0,zAa,zAb,hb2,List.set_cons_zero,List.set_cons_succ,PH.new_new,hS.symm]
        exact ⟨_, PH.Le.refl _, hnew, rfl⟩
  · have hok : d.op.2 = false := by unfold Dk.op; rw [if_pos hdn]
    have ha : d.cut n = (d.op.1, some (5, 0)) := by unfold Dk.cut; rw [if_neg hno, if_neg (by rw [hok]; decide)]
    rw [ha]
    rw [hok] at hO
    rw [hdn] at hD
    have hO := Lib.hid hO
    simp -dsimp -implicitDefEqProofs (disch := first | omega | assumption | (simp only [Option.isSome_some,Qt0]; done) | (simp only [List.length_cons,List.length_nil,List.length_append,Int.toNat_natCast] <;> omega) | fail) only [Nat.reduceLT,Nat.reduceLeDiff,Nat.reduceEqDiff,↓reduceIte,Int.reduceLT,Int.reduceLE,Int.reduceToNat,Int.reduceEq,Int.reduceNe,Nat.reduceAdd,Int.reduceAdd,Int.reduceSub,Int.reduceMul,Nat.reduceMul,Qp0,Qp1,Ql0,Qe0]
    refine hD.out.mono ?_
    rintro v hz ⟨rfl, hz⟩
    rw [hz]
    clear hz
    simp -dsimp -implicitDefEqProofs (disch := first | omega | assumption | (simp only [Option.isSome_some,Qt0]; done) | (simp only [List.length_cons,List.length_nil,List.length_append,Int.toNat_natCast] <;> omega) | fail) only [Nat.reduceLT,Nat.reduceLeDiff,Nat.reduceEqDiff,↓reduceIte,Int.reduceLT,Int.reduceLE,Int.reduceToNat,Int.reduceEq,Int.reduceNe,Nat.reduceAdd,Int.reduceAdd,Int.reduceSub,Int.reduceMul,Nat.reduceMul,Qp0,Qp1,Ql0,Qe0]
    refine hO.out.mono ?_
    rintro v hz ⟨hds, her⟩
    obtain ⟨t, x, rfl, hev⟩ := ER_no her
    simp -dsimp -implicitDefEqProofs (disch := first | omega | assumption | (simp only [Option.isSome_some,Qt0]; done) | (simp only [List.length_cons,List.length_nil,List.length_append,Int.toNat_natCast] <;> omega) | fail) only [Nat.reduceLT,Nat.reduceLeDiff,Nat.reduceEqDiff,↓reduceIte,Int.reduceLT,Int.reduceLE,Int.reduceToNat,Int.reduceEq,Int.reduceNe,Nat.reduceAdd,Int.reduceAdd,Int.reduceSub,Int.reduceMul,Nat.reduceMul,Qp0,Qp1,Ql0,Qe0]
    exact ⟨_, PH.Le.refl _, hds, hev⟩
set_option maxRecDepth 20000 in
set_option maxHeartbeats 1000000 in
theorem kread_any (hd : DS h0 h b d) (g : Good d) (i j : Int) : PCalls Try.prog w0 45 [.pointer (some ⟨b, 0, none⟩), .int .i64 i, .int .i64 j] h fun v h' => ∃ u, v = .tuple #[str (d.read i j).1, u] ∧ DS h0 h' b d ∧ ER h' u (d.read i j).2 := by
  refine zAp Try.func45 (by kernel_rfl) rfl _ Try.ntmps45 (by kernel_rfl) (by kernel_rfl) _ Try.results45 ?_
  have hD := Lib.hid (zB2 h0 b d w0 h hd)
  obtain ⟨A, c, hb, hr, hA⟩ := hd.cells
  unfold DKc at hb
  have glen := g.len
  cases hdn : d.down
  rotate_left
  · have ha : d.read i j = ([], some (5, 0)) := by unfold Dk.read; rw [if_pos hdn]
    rw [ha]
    have hB := zCl h0 b d w0 h hd 5
    rw [show d.size = 0 by unfold Dk.size; rw [if_pos hdn]] at hB
    have hB := Lib.hid hB
    rw [hdn] at hD
    simp -dsimp -implicitDefEqProofs (disch := first | omega | assumption | (simp only [Option.isSome_some,Qt0]; done) | (simp only [List.length_cons,List.length_nil,List.length_append,Int.toNat_natCast] <;> omega) | fail) only [Nat.reduceLT,Nat.reduceLeDiff,Nat.reduceEqDiff,↓reduceIte,Int.reduceLT,Int.reduceLE,Int.reduceToNat,Int.reduceEq,Int.reduceNe,Nat.reduceAdd,Int.reduceAdd,Int.reduceSub,Int.reduceMul,Nat.reduceMul,Qp0,Qp1,Ql0,Qe0]
    refine hD.out.mono ?_
    rintro v hz ⟨rfl, hz⟩
    rw [hz]
    clear hz
    simp -dsimp -implicitDefEqProofs (disch := first | omega | assumption | (simp only [Option.isSome_some,Qt0]; done) | (simp only [List.length_cons,List.length_nil,List.length_append,Int.toNat_natCast] <;> omega) | fail) only [Nat.reduceLT,Nat.reduceLeDiff,Nat.reduceEqDiff,↓reduceIte,Int.reduceLT,Int.reduceLE,Int.reduceToNat,Int.reduceEq,Int.reduceNe,Nat.reduceAdd,Int.reduceAdd,Int.reduceSub,Int.reduceMul,Nat.reduceMul,Qp0,Qp1,Ql0,Qe0]
    refine hB.out.mono ?_
    rintro v hz ⟨be, rfl, hbe, rfl⟩
    simp -dsimp -implicitDefEqProofs (disch := first | omega | assumption | (simp only [Option.isSome_some,Qt0]; done) | (simp only [List.length_cons,List.length_nil,List.length_append,Int.toNat_natCast] <;> omega) | fail) only [Nat.reduceLT,Nat.reduceLeDiff,Nat.reduceEqDiff,↓reduceIte,Int.reduceLT,Int.reduceLE,Int.reduceToNat,Int.reduceEq,Int.reduceNe,Nat.reduceAdd,Int.reduceAdd,Int.reduceSub,Int.reduceMul,Nat.reduceMul,Qp0,Qp1,Ql0,Qe0]
    exact ⟨_, PH.Le.refl _, _, rfl, hd.more hbe, EV.at (show EV _ (.code 5) (codeV 5) from rfl) hbe⟩
  have hB := zCl h0 b d w0 h hd 1
  rw [show d.size = d.l.length by unfold Dk.size; rw [hdn]; rfl] at hB
  have hB := Lib.hid hB
  rw [hdn] at hD hb
  have hnd : ¬ d.down = true := by rw [hdn]; decide
  by_cases hbad : i < 0 ∨ j < i ∨ (d.l.length : Int) < j
  · have ha : d.read i j = ([], some (1, (d.l.length : Int))) := by unfold Dk.read; rw [if_neg hnd, if_pos hbad]
    rw [ha]
    by_cases h1 : i < 0
    · have e1 := decide_eq_true h1
      simp -dsimp -implicitDefEqProofs (disch := first | omega | assumption | (simp only [Option.isSome_some,Qt0]; done) | (simp only [List.length_cons,List.length_nil,List.length_append,Int.toNat_natCast] <;> omega) | fail) only [Nat.reduceLT,Nat.reduceLeDiff,Nat.reduceEqDiff,↓reduceIte,Int.reduceLT,Int.reduceLE,Int.reduceToNat,Int.reduceEq,Int.reduceNe,Nat.reduceAdd,Int.reduceAdd,Int.reduceSub,Int.reduceMul,Nat.reduceMul,Qp0,Qp1,Ql0,Qe0]
      refine hD.out.mono ?_
      rintro v hz ⟨rfl, hz⟩
      rw [hz]
      clear hz
      simp -dsimp -implicitDefEqProofs (disch := first | omega | assumption | (simp only [Option.isSome_some,Qt0]; done) | (simp only [List.length_cons,List.length_nil,List.length_append,Int.toNat_natCast] <;> omega) | fail) only [Nat.reduceLT,Nat.reduceLeDiff,Nat.reduceEqDiff,↓reduceIte,Int.reduceLT,Int.reduceLE,Int.reduceToNat,Int.reduceEq,Int.reduceNe,Nat.reduceAdd,Int.reduceAdd,Int.reduceSub,Int.reduceMul,Nat.reduceMul,Qp0,Qp1,Ql0,Qe0,e1]
      refine hB.out.mono ?_
      rintro v hz ⟨be, rfl, hbe, rfl⟩
      simp -dsimp -implicitDefEqProofs (disch := first | omega | assumption | (simp only [Option.isSome_some,Qt0]; done) | (simp only [List.length_cons,List.length_nil,List.length_append,Int.toNat_natCast] <;> omega) | fail) only [Nat.reduceLT,Nat.reduceLeDiff,Nat.reduceEqDiff,↓reduceIte,Int.reduceLT,Int.reduceLE,Int.reduceToNat,Int.reduceEq,Int.reduceNe,Nat.reduceAdd,Int.reduceAdd,Int.reduceSub,Int.reduceMul,Nat.reduceMul,Qp0,Qp1,Ql0,Qe0]
      exact ⟨_, PH.Le.refl _, _, rfl, hd.more hbe, EV.at (show EV _ (.code 1) (codeV 1) from rfl) hbe⟩
    have e1 := decide_eq_false h1
    by_cases h2 : j < i
    · have e2 := decide_eq_true h2
      simp -dsimp -implicitDefEqProofs (disch := first | omega | assumption | (simp only [Option.isSome_some,Qt0]; done) | (simp only [List.length_cons,List.length_nil,List.length_append,Int.toNat_natCast] <;> omega) | fail) only [Nat.reduceLT,Nat.reduceLeDiff,Nat.reduceEqDiff,↓reduceIte,Int.reduceLT,Int.reduceLE,Int.reduceToNat,Int.reduceEq,Int.reduceNe,Nat.reduceAdd,Int.reduceAdd,Int.reduceSub,Int.reduceMul,Nat.reduceMul,Qp0,Qp1,Ql0,Qe0]
      refine hD.out.mono ?_
      rintro v hz ⟨rfl, hz⟩
      rw [hz]
      clear hz
      simp -dsimp -implicitDefEqProofs (disch := first | omega | assumption | (simp only [Option.isSome_some,Qt0]; done) | (simp only [List.length_cons,List.length_nil,List.length_append,Int.toNat_natCast] <;> omega) | fail) only [Nat.reduceLT,Nat.reduceLeDiff,Nat.reduceEqDiff,↓reduceIte,Int.reduceLT,Int.reduceLE,Int.reduceToNat,Int.reduceEq,Int.reduceNe,Nat.reduceAdd,Int.reduceAdd,Int.reduceSub,Int.reduceMul,Nat.reduceMul,Qp0,Qp1,Ql0,Qe0,e1,e2]
      refine hB.out.mono ?_
      rintro v hz ⟨be, rfl, hbe, rfl⟩
      simp -dsimp -implicitDefEqProofs (disch := first | omega | assumption | (simp only [Option.isSome_some,Qt0]; done) | (simp only [List.length_cons,List.length_nil,List.length_append,Int.toNat_natCast] <;> omega) | fail) only [Nat.reduceLT,Nat.reduceLeDiff,Nat.reduceEqDiff,↓reduceIte,Int.reduceLT,Int.reduceLE,Int.reduceToNat,Int.reduceEq,Int.reduceNe,Nat.reduceAdd,Int.reduceAdd,Int.reduceSub,Int.reduceMul,Nat.reduceMul,Qp0,Qp1,Ql0,Qe0]
      exact ⟨_, PH.Le.refl _, _, rfl, hd.more hbe, EV.at (show EV _ (.code 1) (codeV 1) from rfl) hbe⟩
    have e2 := decide_eq_false h2
    have e3 : decide ((d.l.length : Int) < j) = true := decide_eq_true (by omega)
    simp -dsimp -implicitDefEqProofs (disch := first | omega | assumption | (simp only [Option.isSome_some,Qt0]; done) | (simp only [List.length_cons,List.length_nil,List.length_append,Int.toNat_natCast] <;> omega) | fail) only [Nat.reduceLT,Nat.reduceLeDiff,Nat.reduceEqDiff,↓reduceIte,Int.reduceLT,Int.reduceLE,Int.reduceToNat,Int.reduceEq,Int.reduceNe,Nat.reduceAdd,Int.reduceAdd,Int.reduceSub,Int.reduceMul,Nat.reduceMul,Qp0,Qp1,Ql0,Qe0]
    refine hD.out.mono ?_
    rintro v hz ⟨rfl, hz⟩
    rw [hz]
    clear hz
    simp -dsimp -implicitDefEqProofs (disch := first | omega | assumption | (simp only [Option.isSome_some,Qt0]; done) | (simp only [List.length_cons,List.length_nil,List.length_append,Int.toNat_natCast] <;> omega) | fail) only [Nat.reduceLT,Nat.reduceLeDiff,Nat.reduceEqDiff,↓reduceIte,Int.reduceLT,Int.reduceLE,Int.reduceToNat,Int.reduceEq,Int.reduceNe,Nat.reduceAdd,Int.reduceAdd,Int.reduceSub,Int.reduceMul,Nat.reduceMul,Qp0,Qp1,Ql0,Qe0,e1,e2,zAa,zAb,hb,e3]
    refine hB.out.mono ?_
    rintro v hz ⟨be, rfl, hbe, rfl⟩
    simp -dsimp -implicitDefEqProofs (disch := first | omega | assumption | (simp only [Option.isSome_some,Qt0]; done) | (simp only [List.length_cons,List.length_nil,List.length_append,Int.toNat_natCast] <;> omega) | fail) only [Nat.reduceLT,Nat.reduceLeDiff,Nat.reduceEqDiff,↓reduceIte,Int.reduceLT,Int.reduceLE,Int.reduceToNat,Int.reduceEq,Int.reduceNe,Nat.reduceAdd,Int.reduceAdd,Int.reduceSub,Int.reduceMul,Nat.reduceMul,Qp0,Qp1,Ql0,Qe0]
    exact ⟨_, PH.Le.refl _, _, rfl, hd.more hbe, EV.at (show EV _ (.code 1) (codeV 1) from rfl) hbe⟩
  have ha : d.read i j = ((d.l.drop i.toNat).take (j.toNat - i.toNat), none) := by unfold Dk.read; rw [if_neg hnd, if_neg hbad]
  rw [ha]
  have e1 : decide (i < 0) = false := decide_eq_false (by omega)
  have e2 : decide (j < i) = false := decide_eq_false (by omega)
  have e3 : decide ((d.l.length : Int) < j) = false := decide_eq_false (by omega)
  obtain ⟨p, rfl⟩ := Int.eq_ofNat_of_zero_le (show 0 ≤ i by omega)
  obtain ⟨q, rfl⟩ := Int.eq_ofNat_of_zero_le (show 0 ≤ j by omega)
  have hpt : ((p : Int)).toNat = p := Int.toNat_natCast p
  have hqt : ((q : Int)).toNat = q := Int.toNat_natCast q
  rw [hpt, hqt]
  rcases hr with ⟨rfl, hl, rfl⟩ | ⟨bl, X, lim, rfl, r1, r2, r3, r4, r5, r6⟩
  · obtain rfl : q = 0 := by rw [hl] at hbad; simp at hbad; omega
    obtain rfl : p = 0 := by omega
    rw [hl] at hb e3
    simp -dsimp -implicitDefEqProofs (disch := first | omega | assumption | (simp only [Option.isSome_some,Qt0]; done) | (simp only [List.length_cons,List.length_nil,List.length_append,Int.toNat_natCast] <;> omega) | fail) only [Nat.reduceLT,Nat.reduceLeDiff,Nat.reduceEqDiff,↓reduceIte,Int.reduceLT,Int.reduceLE,Int.reduceToNat,Int.reduceEq,Int.reduceNe,Nat.reduceAdd,Int.reduceAdd,Int.reduceSub,Int.reduceMul,Nat.reduceMul,Qp0,Qp1,Ql0,Qe0]
    refine hD.out.mono ?_
    rintro v hz ⟨rfl, hz⟩
    rw [hz]
    clear hz
    simp -dsimp -implicitDefEqProofs (disch := first | omega | assumption | (simp only [Option.isSome_some,Qt0]; done) | (simp only [List.length_cons,List.length_nil,List.length_append,Int.toNat_natCast] <;> omega) | fail) only [Nat.reduceLT,Nat.reduceLeDiff,Nat.reduceEqDiff,↓reduceIte,Int.reduceLT,Int.reduceLE,Int.reduceToNat,Int.reduceEq,Int.reduceNe,Nat.reduceAdd,Int.reduceAdd,Int.reduceSub,Int.reduceMul,Nat.reduceMul,Qp0,Qp1,Ql0,Qe0,e1,e2,zAa,zAb,hb,e3,y_midnil]
    refine zBx (l := []) Try.underlying77 Try.underlying5 Try.underlying9 (Rs.nil w0 _ 1 none) (fun _ => rfl) ?_
    simp -dsimp -implicitDefEqProofs (disch := first | omega | assumption | (simp only [Option.isSome_some,Qt0]; done) | (simp only [List.length_cons,List.length_nil,List.length_append,Int.toNat_natCast] <;> omega) | fail) only [Nat.reduceLT,Nat.reduceLeDiff,Nat.reduceEqDiff,↓reduceIte,Int.reduceLT,Int.reduceLE,Int.reduceToNat,Int.reduceEq,Int.reduceNe,Nat.reduceAdd,Int.reduceAdd,Int.reduceSub,Int.reduceMul,Nat.reduceMul,Qp0,Qp1,Ql0,Qe0]
    refine ⟨_, PH.Le.refl _, _, ?_, hd, rfl⟩
    simp
  · have hRs := Rs_cut (w0 := w0) (i := p) (j := q) r3 r4 r5 r1 (by omega) (by omega)
    have hne : cutAt bl 0 p (decide (c = p)) ≠ none := by unfold cutAt; simp
    simp -dsimp -implicitDefEqProofs (disch := first | omega | assumption | (simp only [Option.isSome_some,Qt0]; done) | (simp only [List.length_cons,List.length_nil,List.length_append,Int.toNat_natCast] <;> omega) | fail) only [Nat.reduceLT,Nat.reduceLeDiff,Nat.reduceEqDiff,↓reduceIte,Int.reduceLT,Int.reduceLE,Int.reduceToNat,Int.reduceEq,Int.reduceNe,Nat.reduceAdd,Int.reduceAdd,Int.reduceSub,Int.reduceMul,Nat.reduceMul,Qp0,Qp1,Ql0,Qe0]
    refine hD.out.mono ?_
    rintro v hz ⟨rfl, hz⟩
    rw [hz]
    clear hz
    simp -dsimp -implicitDefEqProofs (disch := first | omega | assumption | (simp only [Option.isSome_some,Qt0]; done) | (simp only [List.length_cons,List.length_nil,List.length_append,Int.toNat_natCast] <;> omega) | fail) only [Nat.reduceLT,Nat.reduceLeDiff,Nat.reduceEqDiff,↓reduceIte,Int.reduceLT,Int.reduceLE,Int.reduceToNat,Int.reduceEq,Int.reduceNe,Nat.reduceAdd,Int.reduceAdd,Int.reduceSub,Int.reduceMul,Nat.reduceMul,Qp0,Qp1,Ql0,Qe0,e1,e2,zAa,zAb,hb,e3]
    refine zBx Try.underlying77 Try.underlying5 Try.underlying9 hRs (fun e => absurd e hne) ?_
    simp -dsimp -implicitDefEqProofs (disch := first | omega | assumption | (simp only [Option.isSome_some,Qt0]; done) | (simp only [List.length_cons,List.length_nil,List.length_append,Int.toNat_natCast] <;> omega) | fail) only [Nat.reduceLT,Nat.reduceLeDiff,Nat.reduceEqDiff,↓reduceIte,Int.reduceLT,Int.reduceLE,Int.reduceToNat,Int.reduceEq,Int.reduceNe,Nat.reduceAdd,Int.reduceAdd,Int.reduceSub,Int.reduceMul,Nat.reduceMul,Qp0,Qp1,Ql0,Qe0]
    exact ⟨_, PH.Le.refl _, _, rfl, hd, rfl⟩
set_option maxRecDepth 20000 in
set_option maxHeartbeats 1000000 in
theorem room_any (hd : DS h0 h b d) (n : Int) (hn : 0 ≤ n ∧ n ≤ 1048576) : PCalls Try.prog w0 44 [.pointer (some ⟨b, 0, none⟩), .int .i64 n] h fun v h' => v = .nilIface ∧ DS h0 h' b { d with room := n } := by
  refine zAp Try.func44 (by kernel_rfl) rfl _ Try.ntmps44 (by kernel_rfl) (by kernel_rfl) _ Try.results44 ?_
  obtain ⟨A, c, hb, hr, hA⟩ := hd.cells
  unfold DKc at hb
  have e1 : decide (n < 0) = false := decide_eq_false (by omega)
  have e2 : decide (1048576 < n) = false := decide_eq_false (by omega)
  have hnew := hd.upd (d' := { d with room := n }) hr hA
  unfold DKc at hnew
  simp -dsimp -implicitDefEqProofs (disch := first | omega | assumption | (simp only [Option.isSome_some,Qt0]; done) | (simp only [List.length_cons,List.length_nil,List.length_append,Int.toNat_natCast] <;> omega) | fail) only [Nat.reduceLT,Nat.reduceLeDiff,Nat.reduceEqDiff,↓reduceIte,Int.reduceLT,Int.reduceLE,Int.reduceToNat,Int.reduceEq,Int.reduceNe,Nat.reduceAdd,Int.reduceAdd,Int.reduceSub,Int.reduceMul,Nat.reduceMul,Qp0,Qp1,Ql0,Qe0,e1,e2,zAa,zAb,hb,List.set_cons_zero,List.set_cons_succ]
  exact ⟨_, PH.Le.refl _, by trivial, hnew⟩
set_option maxRecDepth 20000 in
set_option maxHeartbeats 1000000 in
theorem fuse_any (hd : DS h0 h b d) (n : Int) : PCalls Try.prog w0 11 [.pointer (some ⟨b, 0, none⟩), .int .i64 n] h fun v h' => DS h0 h' b { d with fuse := if -1 > n then -1 else n } := by
  refine zAp Try.func11 (by kernel_rfl) rfl _ Try.ntmps11 (by kernel_rfl) (by kernel_rfl) _ Try.results11 ?_
  obtain ⟨A, c, hb, hr, hA⟩ := hd.cells
  unfold DKc at hb
  have hnew := hd.upd (d' := { d with fuse := if -1 > n then -1 else n }) hr hA
  unfold DKc at hnew
  obtain ⟨F, hF⟩ : ∃ F, F = (if -1 > n then -1 else n) := ⟨_, rfl⟩
  rw [← hF] at hnew ⊢
  simp -dsimp -implicitDefEqProofs (disch := first | omega | assumption | (simp only [Option.isSome_some,Qt0]; done) | (simp only [List.length_cons,List.length_nil,List.length_append,Int.toNat_natCast] <;> omega) | fail) only [Nat.reduceLT,Nat.reduceLeDiff,Nat.reduceEqDiff,↓reduceIte,Int.reduceLT,Int.reduceLE,Int.reduceToNat,Int.reduceEq,Int.reduceNe,Nat.reduceAdd,Int.reduceAdd,Int.reduceSub,Int.reduceMul,Nat.reduceMul,Qp0,Qp1,Ql0,Qe0,hF.symm,zAa,zAb,hb,List.set_cons_zero,List.set_cons_succ]
  exact ⟨_, PH.Le.refl _, hnew⟩
end
end Go.Proofs.Ytblikpbaeippaaa


namespace Go.Proofs.Ytblikpbaeippaaa
set_option linter.unusedVariables false
set_option linter.unusedSimpArgs false
open Go.RowKit Px
theorem y_remT {P : Program} {t : TypeId} {x y : Operand} {K : Value → Prop} (a b : Int) (hb : 0 < b) (h1 : b ≤ 9223372036854775807) : Yld P (binS .rem t x y (.int .i64 a) (.int .i64 b)) K = K (.int .i64 (a.tmod b)) := zAc fun w => by
  have h2 : a.tmod b < b := Int.tmod_lt_of_pos a hb
  have h3 : -b < a.tmod b := by
    have := Int.lt_tmod_of_pos a hb
    omega
  rw [zAq]
  simp [binOp, Op.intDiv, show ¬ b = 0 by omega, Sem.run_pure]
theorem DS.row {h0 h : PH} {b : Nat} {d : Dk} {bl c lim : Nat} {X : List Value} (hd : DS h0 h b d) (hb : h.m b = some ⟨DKc (some ⟨bl, 0, none⟩) c d, 5⟩) (hA : h0.m bl = none ∧ bl ≠ b) (h1 : d.l.length ≤ c) (h2 : c ≤ maxLen) (h4 : d.l.length ≤ X.length) (h5 : X.take d.l.length = bs d.l) (h6 : c ≤ lim) (j : Nat) (x : UInt8) (hj : j < d.l.length) :
    DS h0 (h.new bl ⟨X.set j (u8 x), lim⟩) b { d with l := d.l.set j x } := by
  refine ⟨by simp only [PH.new_top]; have := hd.top; omega, hd.low, fun y k e => by rw [PH.new_m, if_neg (fun q => by subst q; rw [hA.1] at e; cases e)]; exact hd.same y k e, some ⟨bl, 0, none⟩, c, ?_, .inr ⟨bl, X.set j (u8 x), lim, rfl, by simp; omega, h2, by rw [PH.new_m, if_pos rfl], by simp; omega, ?_, h6⟩, fun a e => by cases e; exact hA⟩
  · rw [PH.new_m, if_neg (by omega), hb]
    unfold DKc; simp
  · rw [List.length_set, List.take_set, h5]
    simp [bs]
theorem lost_nil (i : Nat) : lost [] i = false := rfl
section
variable (h0 : PH) (b : Nat) (d : Dk) (w0 : World) (h : PH)
set_option maxRecDepth 20000 in
set_option maxHeartbeats 1000000 in
theorem crash_any (hd : DS h0 h b d) (g : Good d) (k : Int) (mask : List UInt8) (hmk : mask.length ≤ 1000000) : PCalls Try.prog w0 15 [.pointer (some ⟨b, 0, none⟩), .int .i64 k, str mask] h fun v h' => DS h0 h' b (d.crash k mask) := by
  refine zAp Try.func15 (by kernel_rfl) rfl _ Try.ntmps15 (by kernel_rfl) (by kernel_rfl) _ Try.results15 ?_
  obtain ⟨A, c, hb, hr, hA⟩ := hd.cells
  unfold DKc at hb
  have glen := g.len
  have gs0 := g.safe0
  have gs1 := g.safe1
  obtain ⟨by_, hby⟩ : ∃ x, x = (d.l.length : Int) - d.safe + 1 := ⟨_, rfl⟩
  have hby' := hby.symm
  obtain ⟨r1, hr1⟩ : ∃ x, x = k.tmod by_ := ⟨_, rfl⟩
  have hr1b : -by_ < r1 ∧ r1 < by_ := by rw [hr1]; exact ⟨by have := Int.lt_tmod_of_pos k (show 0 < by_ by omega); omega, Int.tmod_lt_of_pos k (by omega)⟩
  have hrem : ∀ {t : TypeId} {x y : Operand} {K : Value → Prop}, Yld Try.prog (binS .rem t x y (.int .i64 k) (.int .i64 by_)) K = K (.int .i64 r1) := fun {t x y K} => by rw [hr1]; exact y_remT k by_ (by omega) (by omega)
  have hkept : d.kept k = (r1 + by_) % by_ := by unfold Dk.kept; rw [← hby, ← hr1]
  obtain ⟨n, hn⟩ : ∃ n : Nat, (r1 + by_) % by_ = (n : Int) := ⟨((r1 + by_) % by_).toNat, by have := Int.emod_nonneg (r1 + by_) (show by_ ≠ 0 by omega); omega⟩
  have hnb : (n : Int) < by_ := by rw [← hn]; exact Int.emod_lt_of_pos _ (by omega)
  obtain ⟨sf, hsf⟩ : ∃ s : Nat, d.safe = (s : Int) := ⟨d.safe.toNat, by omega⟩
  have hcr : d.crash k mask = { l := (zl mask sf d.l n).take (sf + n), safe := (sf : Int) + n, room := d.room, fuse := -1, down := false } := by
    unfold Dk.crash
    rw [hkept, hn, hsf]
    congr 2 <;> omega
  rw [hcr]
  clear hcr hkept hr1
  rw [hsf] at hb hby'
  have hbyw : (d.l.length : Int) - (sf : Int) + 1 = by_ := hby'
  simp -dsimp -implicitDefEqProofs (disch := first | omega | assumption | (simp only [Option.isSome_some,Qt0]; done) | (simp only [UInt64.reduceToNat,UInt32.reduceToNat,UInt8.reduceToNat,List.length_cons,List.length_nil,List.length_append,Int.toNat_natCast] <;> omega) | fail) only [Nat.reduceLT,Nat.reduceLeDiff,Nat.reduceEqDiff,↓reduceIte,Int.reduceLT,Int.reduceLE,Int.reduceToNat,Int.reduceEq,Int.reduceNe,Nat.reduceAdd,UInt8.reduceOfNat,UInt16.reduceOfNat,UInt32.reduceOfNat,UInt64.reduceOfNat,UInt64.reduceToNat,UInt32.reduceToNat,UInt16.reduceToNat,UInt8.reduceToNat,Int.reduceAdd,Int.reduceSub,Int.reduceMul,Nat.reduceMul,Qp0,Qp1,Ql0,Qe0]
  refine zBt [0, 1, 2, 3, 4, 5, 6, 7, 8, 9, 10, 11] h (by kernel_rfl) (by decide +kernel) (by kernel_rfl) (by kernel_rfl) (by kernel_rfl) (fun c f h hq => by simp only [zAy, zAv, zAw, zAu, zAx] at hq) (PH.Le.refl _).sub ?_
  simp -dsimp -implicitDefEqProofs (disch := first | omega | assumption | (simp only [Option.isSome_some,Qt0]; done) | (simp only [UInt64.reduceToNat,UInt32.reduceToNat,UInt8.reduceToNat,List.length_cons,List.length_nil,List.length_append,Int.toNat_natCast] <;> omega) | fail) only [Nat.reduceLT,Nat.reduceLeDiff,Nat.reduceEqDiff,↓reduceIte,Int.reduceLT,Int.reduceLE,Int.reduceToNat,Int.reduceEq,Int.reduceNe,Nat.reduceAdd,UInt8.reduceOfNat,UInt16.reduceOfNat,UInt32.reduceOfNat,UInt64.reduceOfNat,UInt64.reduceToNat,UInt32.reduceToNat,UInt16.reduceToNat,UInt8.reduceToNat,Int.reduceAdd,Int.reduceSub,Int.reduceMul,Nat.reduceMul,Qp0,Qp1,Ql0,Qe0,zAa,zAb,hb,hbyw,hrem,hn]
  refine zBs (fun m f h' => ∃ i : Nat, i + m = n ∧ f 0 = some (.pointer (some ⟨b, 0, none⟩)) ∧ f 2 = some (str mask) ∧ f 7 = some (.int .i64 n) ∧ f 29 = some (.int .i64 n) ∧ f 30 = some (.int .i64 i) ∧ DS h0 h' b { d with l := zl mask sf d.l i }) (by kernel_rfl) n ⟨0, by omega, ?_, ?_, ?_, ?_, ?_, hd⟩ ?_
  · simp -dsimp -implicitDefEqProofs (disch := first | omega | assumption | (simp only [Option.isSome_some,Qt0]; done) | (simp only [UInt64.reduceToNat,UInt32.reduceToNat,UInt8.reduceToNat,List.length_cons,List.length_nil,List.length_append,Int.toNat_natCast] <;> omega) | fail) only [Nat.reduceLT,Nat.reduceLeDiff,Nat.reduceEqDiff,↓reduceIte,Int.reduceLT,Int.reduceLE,Int.reduceToNat,Int.reduceEq,Int.reduceNe,Nat.reduceAdd,UInt8.reduceOfNat,UInt16.reduceOfNat,UInt32.reduceOfNat,UInt64.reduceOfNat,UInt64.reduceToNat,UInt32.reduceToNat,UInt16.reduceToNat,UInt8.reduceToNat,Int.reduceAdd,Int.reduceSub,Int.reduceMul,Nat.reduceMul,Qp0,Qp1,Ql0,Qe0]
  · simp -dsimp -implicitDefEqProofs (disch := first | omega | assumption | (simp only [Option.isSome_some,Qt0]; done) | (simp only [UInt64.reduceToNat,UInt32.reduceToNat,UInt8.reduceToNat,List.length_cons,List.length_nil,List.length_append,Int.toNat_natCast] <;> omega) | fail) only [Nat.reduceLT,Nat.reduceLeDiff,Nat.reduceEqDiff,↓reduceIte,Int.reduceLT,Int.reduceLE,Int.reduceToNat,Int.reduceEq,Int.reduceNe,Nat.reduceAdd,UInt8.reduceOfNat,UInt16.reduceOfNat,UInt32.reduceOfNat,UInt64.reduceOfNat,UInt64.reduceToNat,UInt32.reduceToNat,UInt16.reduceToNat,UInt8.reduceToNat,Int.reduceAdd,Int.reduceSub,Int.reduceMul,Nat.reduceMul,Qp0,Qp1,Ql0,Qe0]
  · simp -dsimp -implicitDefEqProofs (disch := first | omega | assumption | (simp only [Option.isSome_some,Qt0]; done) | (simp only [UInt64.reduceToNat,UInt32.reduceToNat,UInt8.reduceToNat,List.length_cons,List.length_nil,List.length_append,Int.toNat_natCast] <;> omega) | fail) only [Nat.reduceLT,Nat.reduceLeDiff,Nat.reduceEqDiff,↓reduceIte,Int.reduceLT,Int.reduceLE,Int.reduceToNat,Int.reduceEq,Int.reduceNe,Nat.reduceAdd,UInt8.reduceOfNat,UInt16.reduceOfNat,UInt32.reduceOfNat,UInt64.reduceOfNat,UInt64.reduceToNat,UInt32.reduceToNat,UInt16.reduceToNat,UInt8.reduceToNat,Int.reduceAdd,Int.reduceSub,Int.reduceMul,Nat.reduceMul,Qp0,Qp1,Ql0,Qe0]
  · simp -dsimp -implicitDefEqProofs (disch := first | omega | assumption | (simp only [Option.isSome_some,Qt0]; done) | (simp only [UInt64.reduceToNat,UInt32.reduceToNat,UInt8.reduceToNat,List.length_cons,List.length_nil,List.length_append,Int.toNat_natCast] <;> omega) | fail) only [Nat.reduceLT,Nat.reduceLeDiff,Nat.reduceEqDiff,↓reduceIte,Int.reduceLT,Int.reduceLE,Int.reduceToNat,Int.reduceEq,Int.reduceNe,Nat.reduceAdd,UInt8.reduceOfNat,UInt16.reduceOfNat,UInt32.reduceOfNat,UInt64.reduceOfNat,UInt64.reduceToNat,UInt32.reduceToNat,UInt16.reduceToNat,UInt8.reduceToNat,Int.reduceAdd,Int.reduceSub,Int.reduceMul,Nat.reduceMul,Qp0,Qp1,Ql0,Qe0]
  · simp -dsimp -implicitDefEqProofs (disch := first | omega | assumption | (simp only [Option.isSome_some,Qt0]; done) | (simp only [UInt64.reduceToNat,UInt32.reduceToNat,UInt8.reduceToNat,List.length_cons,List.length_nil,List.length_append,Int.toNat_natCast] <;> omega) | fail) only [Nat.reduceLT,Nat.reduceLeDiff,Nat.reduceEqDiff,↓reduceIte,Int.reduceLT,Int.reduceLE,Int.reduceToNat,Int.reduceEq,Int.reduceNe,Nat.reduceAdd,UInt8.reduceOfNat,UInt16.reduceOfNat,UInt32.reduceOfNat,UInt64.reduceOfNat,UInt64.reduceToNat,UInt32.reduceToNat,UInt16.reduceToNat,UInt8.reduceToNat,Int.reduceAdd,Int.reduceSub,Int.reduceMul,Nat.reduceMul,Qp0,Qp1,Ql0,Qe0]
    try rfl
  clear hb hr hA hrem
  rintro m f h2 ⟨i, him, f0, f2, f7, f29, f30, hds⟩
  have hzl := zFi mask sf d.l i
  by_cases hi : i < n
  · have e1 : decide ((i : Int) < (n : Int)) = true := decide_eq_true (by omega)
    have hnext : zl mask sf d.l (i + 1) = if lost mask i = true then (zl mask sf d.l i).set (sf + i) 0 else zl mask sf d.l i := rfl
    by_cases hmn : mask = []
    · subst hmn
      rw [lost_nil, if_neg (by decide)] at hnext
      simp -dsimp -implicitDefEqProofs (disch := first | omega | assumption | (simp only [Option.isSome_some,Qt0]; done) | (simp only [UInt64.reduceToNat,UInt32.reduceToNat,UInt8.reduceToNat,List.length_cons,List.length_nil,List.length_append,Int.toNat_natCast] <;> omega) | fail) only [Nat.reduceLT,Nat.reduceLeDiff,Nat.reduceEqDiff,↓reduceIte,Int.reduceLT,Int.reduceLE,Int.reduceToNat,Int.reduceEq,Int.reduceNe,Nat.reduceAdd,UInt8.reduceOfNat,UInt16.reduceOfNat,UInt32.reduceOfNat,UInt64.reduceOfNat,UInt64.reduceToNat,UInt32.reduceToNat,UInt16.reduceToNat,UInt8.reduceToNat,Int.reduceAdd,Int.reduceSub,Int.reduceMul,Nat.reduceMul,Qp0,Qp1,Ql0,Qe0,f0,f2,f7,f29,f30,e1]
      exact ⟨m - 1, _, by omega, PH.Le.refl _, i + 1, by omega, by trivial, by trivial, by trivial, by trivial, by simp, by rw [hnext]; exact hds⟩
    have hml : 0 < mask.length := List.length_pos_iff.2 hmn
    have e2 : decide (¬ mask = []) = true := decide_eq_true hmn
    have hmod : ((i : Int) % (mask.length : Int)) = ((i % mask.length : Nat) : Int) := by omega
    have hmlt : i % mask.length < mask.length := Nat.mod_lt _ hml
    obtain ⟨q, hq⟩ : ∃ q, mask.getD (i % mask.length) 0 = q := ⟨_, rfl⟩
    by_cases hq2 : q % 2 = 0
    · have e3 := decide_eq_true hq2
      have hlo : lost mask i = true := by unfold lost; rw [hq, e3]; simp [hmn]
      rw [hlo, if_pos rfl] at hnext
      obtain ⟨A, c, hb, hr, hA⟩ := hds.cells
      rcases hr with ⟨_, hl, _⟩ | ⟨bl, X, lim, rfl, r1', r2, r3, r4, r5, r6⟩
      · exfalso
        simp only at hl
        rw [hl] at hzl
        simp at hzl
        omega
      have hrow := hds.row hb (hA _ rfl) r1' r2 r4 r5 r6 (sf + i) 0 (by simp only; omega)
      simp only at hrow
      rw [← hnext] at hrow
      simp only at r1' r4 r5
      have hidx : ((sf : Int) + (i : Int)).toNat = sf + i := by omega
      unfold DKc at hb
      simp only at hb
      rw [hsf] at hb
      simp -dsimp -implicitDefEqProofs (disch := first | omega | assumption | (simp only [Option.isSome_some,Qt0]; done) | (simp only [UInt64.reduceToNat,UInt32.reduceToNat,UInt8.reduceToNat,List.length_cons,List.length_nil,List.length_append,Int.toNat_natCast] <;> omega) | fail) only [Nat.reduceLT,Nat.reduceLeDiff,Nat.reduceEqDiff,↓reduceIte,Int.reduceLT,Int.reduceLE,Int.reduceToNat,Int.reduceEq,Int.reduceNe,Nat.reduceAdd,UInt8.reduceOfNat,UInt16.reduceOfNat,UInt32.reduceOfNat,UInt64.reduceOfNat,UInt64.reduceToNat,UInt32.reduceToNat,UInt16.reduceToNat,UInt8.reduceToNat,Int.reduceAdd,Int.reduceSub,Int.reduceMul,Nat.reduceMul,Qp0,Qp1,Ql0,Qe0,f0,f2,f7,f29,f30,e1,e2,hmod,hq,e3]
      refine PW_tail1 11 (by kernel_rfl) (by kernel_rfl) (by kernel_rfl) (by kernel_rfl) ?_
      simp -dsimp -implicitDefEqProofs (disch := first | omega | assumption | (simp only [Option.isSome_some,Qt0]; done) | (simp only [UInt64.reduceToNat,UInt32.reduceToNat,UInt8.reduceToNat,List.length_cons,List.length_nil,List.length_append,Int.toNat_natCast] <;> omega) | fail) only [Nat.reduceLT,Nat.reduceLeDiff,Nat.reduceEqDiff,↓reduceIte,Int.reduceLT,Int.reduceLE,Int.reduceToNat,Int.reduceEq,Int.reduceNe,Nat.reduceAdd,UInt8.reduceOfNat,UInt16.reduceOfNat,UInt32.reduceOfNat,UInt64.reduceOfNat,UInt64.reduceToNat,UInt32.reduceToNat,UInt16.reduceToNat,UInt8.reduceToNat,Int.reduceAdd,Int.reduceSub,Int.reduceMul,Nat.reduceMul,Qp0,Qp1,Ql0,Qe0,f0,f2,f7,f29,f30,zAa,zAb,hb,hidx,r3]
      exact ⟨m - 1, _, by omega, PH.Le.refl _, i + 1, by omega, by trivial, by trivial, by trivial, by trivial, by simp, hrow⟩
    · have e3 := decide_eq_false hq2
      have hlo : lost mask i = false := by unfold lost; rw [hq, e3]; simp
      rw [hlo, if_neg (by decide)] at hnext
      simp -dsimp -implicitDefEqProofs (disch := first | omega | assumption | (simp only [Option.isSome_some,Qt0]; done) | (simp only [UInt64.reduceToNat,UInt32.reduceToNat,UInt8.reduceToNat,List.length_cons,List.length_nil,List.length_append,Int.toNat_natCast] <;> omega) | fail) only [Nat.reduceLT,Nat.reduceLeDiff,Nat.reduceEqDiff,↓reduceIte,Int.reduceLT,Int.reduceLE,Int.reduceToNat,Int.reduceEq,Int.reduceNe,Nat.reduceAdd,UInt8.reduceOfNat,UInt16.reduceOfNat,UInt32.reduceOfNat,UInt64.reduceOfNat,UInt64.reduceToNat,UInt32.reduceToNat,UInt16.reduceToNat,UInt8.reduceToNat,Int.reduceAdd,Int.reduceSub,Int.reduceMul,Nat.reduceMul,Qp0,Qp1,Ql0,Qe0,f0,f2,f7,f29,f30,e1,e2,hmod,hq,e3]
      exact ⟨m - 1, _, by omega, PH.Le.refl _, i + 1, by omega, by trivial, by trivial, by trivial, by trivial, by simp, by rw [hnext]; exact hds⟩
  · obtain rfl : i = n := by omega
    have e1 : decide ((i : Int) < (i : Int)) = false := decide_eq_false (by omega)
    generalize zl mask sf d.l i = L at *
    obtain ⟨A, c, hb, hr, hA⟩ := hds.cells
    have hcut : ((sf : Int) + (i : Int)).toNat = sf + i := by omega
    rcases hr with ⟨rfl, hl, rfl⟩ | ⟨bl, X, lim, rfl, r1', r2, r3, r4, r5, r6⟩
    · simp only at hl
      have hL0 : L.length = 0 := by rw [hl]; rfl
      obtain rfl : sf = 0 := by omega
      obtain rfl : i = 0 := by omega
      have hnew := hds.upd (A := none) (c := 0) (d' := { l := L.take (0 + 0), safe := (((0 : Nat) : Int) + ((0 : Nat) : Int)), room := d.room, fuse := -1, down := false }) (.inl ⟨rfl, by rw [hl]; rfl, rfl⟩) hA
      unfold DKc at hb hnew
      simp only at hb
      rw [hsf, hl] at hb
      simp -dsimp -implicitDefEqProofs (disch := first | omega | assumption | (simp only [Option.isSome_some,Qt0]; done) | (simp only [UInt64.reduceToNat,UInt32.reduceToNat,UInt8.reduceToNat,List.length_cons,List.length_nil,List.length_append,Int.toNat_natCast] <;> omega) | fail) only [Nat.reduceLT,Nat.reduceLeDiff,Nat.reduceEqDiff,↓reduceIte,Int.reduceLT,Int.reduceLE,Int.reduceToNat,Int.reduceEq,Int.reduceNe,Nat.reduceAdd,UInt8.reduceOfNat,UInt16.reduceOfNat,UInt32.reduceOfNat,UInt64.reduceOfNat,UInt64.reduceToNat,UInt32.reduceToNat,UInt16.reduceToNat,UInt8.reduceToNat,Int.reduceAdd,Int.reduceSub,Int.reduceMul,Nat.reduceMul,Qp0,Qp1,Ql0,Qe0,f0,f2,f7,f29,f30,e1]
      refine PW_tail1 20 (by kernel_rfl) (by kernel_rfl) (by kernel_rfl) (by kernel_rfl) ?_
      simp -dsimp -implicitDefEqProofs (disch := first | omega | assumption | (simp only [Option.isSome_some,Qt0]; done) | (simp only [UInt64.reduceToNat,UInt32.reduceToNat,UInt8.reduceToNat,List.length_cons,List.length_nil,List.length_append,Int.toNat_natCast] <;> omega) | fail) only [Nat.reduceLT,Nat.reduceLeDiff,Nat.reduceEqDiff,↓reduceIte,Int.reduceLT,Int.reduceLE,Int.reduceToNat,Int.reduceEq,Int.reduceNe,Nat.reduceAdd,UInt8.reduceOfNat,UInt16.reduceOfNat,UInt32.reduceOfNat,UInt64.reduceOfNat,UInt64.reduceToNat,UInt32.reduceToNat,UInt16.reduceToNat,UInt8.reduceToNat,Int.reduceAdd,Int.reduceSub,Int.reduceMul,Nat.reduceMul,Qp0,Qp1,Ql0,Qe0,f0,f7,zAa,zAb,hb,y_to3nil,List.set_cons_zero,List.set_cons_succ,PH.new_m,PH.new_new]
      exact ⟨_, PH.Le.refl _, hnew⟩
    · have hr2 : Ro h2 (some ⟨bl, 0, none⟩) L c := .inr ⟨bl, X, lim, rfl, r1', r2, r3, r4, r5, r6⟩
      simp only at r1' r4 r5
      have hnew := hds.upd (c := sf + i) (d' := { l := L.take (sf + i), safe := (sf : Int) + (i : Int), room := d.room, fuse := -1, down := false }) (hr2.cut (sf + i) (by omega) (by simp)) hA
      have hlm : (L.take (sf + i)).length = sf + i := by rw [List.length_take]; omega
      unfold DKc at hb hnew
      simp only [hlm] at hnew
      simp only at hb
      rw [hsf] at hb
      simp -dsimp -implicitDefEqProofs (disch := first | omega | assumption | (simp only [Option.isSome_some,Qt0]; done) | (simp only [UInt64.reduceToNat,UInt32.reduceToNat,UInt8.reduceToNat,List.length_cons,List.length_nil,List.length_append,Int.toNat_natCast] <;> omega) | fail) only [Nat.reduceLT,Nat.reduceLeDiff,Nat.reduceEqDiff,↓reduceIte,Int.reduceLT,Int.reduceLE,Int.reduceToNat,Int.reduceEq,Int.reduceNe,Nat.reduceAdd,UInt8.reduceOfNat,UInt16.reduceOfNat,UInt32.reduceOfNat,UInt64.reduceOfNat,UInt64.reduceToNat,UInt32.reduceToNat,UInt16.reduceToNat,UInt8.reduceToNat,Int.reduceAdd,Int.reduceSub,Int.reduceMul,Nat.reduceMul,Qp0,Qp1,Ql0,Qe0,f0,f2,f7,f29,f30,e1]
      refine PW_tail1 20 (by kernel_rfl) (by kernel_rfl) (by kernel_rfl) (by kernel_rfl) ?_
      simp -dsimp -implicitDefEqProofs (disch := first | omega | assumption | (simp only [Option.isSome_some,Qt0]; done) | (simp only [UInt64.reduceToNat,UInt32.reduceToNat,UInt8.reduceToNat,List.length_cons,List.length_nil,List.length_append,Int.toNat_natCast] <;> omega) | fail) only [Nat.reduceLT,Nat.reduceLeDiff,Nat.reduceEqDiff,↓reduceIte,Int.reduceLT,Int.reduceLE,Int.reduceToNat,Int.reduceEq,Int.reduceNe,Nat.reduceAdd,UInt8.reduceOfNat,UInt16.reduceOfNat,UInt32.reduceOfNat,UInt64.reduceOfNat,UInt64.reduceToNat,UInt32.reduceToNat,UInt16.reduceToNat,UInt8.reduceToNat,Int.reduceAdd,Int.reduceSub,Int.reduceMul,Nat.reduceMul,Qp0,Qp1,Ql0,Qe0,f0,f7,zAa,zAb,hb,hcut,List.set_cons_zero,List.set_cons_succ,PH.new_m,PH.new_new]
      exact ⟨_, PH.Le.refl _, hnew⟩
end
end Go.Proofs.Ytblikpbaeippaaa


namespace Go.Proofs.Ytblikpbaeippaaa
set_option linter.unusedVariables false
set_option linter.unusedSimpArgs false
open Go.RowKit Px
theorem Good.split {d : Dk} (g : Good d) : ∃ X Y, d.l = X ++ Y ∧ d.safe = X.length ∧ X.length + Y.length ≤ 1048576 := by
  refine ⟨d.l.take d.safe.toNat, d.l.drop d.safe.toNat, (List.take_append_drop _ _).symm, ?_, ?_⟩
  · have := g.safe0; have := g.safe1; rw [List.length_take]; omega
  · rw [← List.length_append, List.take_append_drop]; exact g.len
def lossL (mask Y : List UInt8) : Nat → List UInt8
  | 0 => []
  | k + 1 => lossL mask Y k ++ [if lost mask k = true then 0 else Y.getD k 0]
theorem zDb (mask Y : List UInt8) : ∀ k, (lossL mask Y k).length = k
  | 0 => rfl
  | k + 1 => by rw [lossL, List.length_append, zDb mask Y k]; rfl
theorem zl_loss (mask X Y : List UInt8) : ∀ k, k ≤ Y.length → zl mask X.length (X ++ Y) k = X ++ lossL mask Y k ++ Y.drop k
  | 0, _ => by simp [zl, lossL]
  | k + 1, h => by
    have ih := zl_loss mask X Y k (by omega)
    have hd : Y.drop k = Y.getD k 0 :: Y.drop (k + 1) := by
      rw [List.drop_eq_getElem_cons (by omega), List.getD, List.getElem?_eq_getElem (by omega)]; rfl
    have hlen : (X ++ lossL mask Y k).length = X.length + k := by rw [List.length_append, zDb]
    unfold zl lossL
    rw [ih, hd]
    split
    · rw [List.set_append_right _ _ (by omega), hlen, Nat.sub_self, List.set_cons_zero]
      simp
    · simp
theorem kept_eq (d : Dk) {X Y : List UInt8} (hl : d.l = X ++ Y) (hs : d.safe = X.length) (k : Int) : ∃ n : Nat, d.kept k = n ∧ n ≤ Y.length ∧ (if k.tmod ((Y.length : Int) + 1) < 0 then k.tmod ((Y.length : Int) + 1) + ((Y.length : Int) + 1) else k.tmod ((Y.length : Int) + 1)) = n := by
  have hb : (d.l.length : Int) - d.safe + 1 = (Y.length : Int) + 1 := by rw [hl, hs, List.length_append]; omega
  have h1 := Int.tmod_lt_of_pos k (show (0 : Int) < (Y.length : Int) + 1 by omega)
  have h2 := Int.lt_tmod_of_pos k (show (0 : Int) < (Y.length : Int) + 1 by omega)
  have hk : d.kept k = (k.tmod ((Y.length : Int) + 1) + ((Y.length : Int) + 1)) % ((Y.length : Int) + 1) := by unfold Dk.kept; rw [hb]
  generalize k.tmod ((Y.length : Int) + 1) = t at *
  refine ⟨(if t < 0 then t + ((Y.length : Int) + 1) else t).toNat, ?_, ?_, ?_⟩
  · rw [hk]
    split
    · rw [Int.emod_eq_of_lt (by omega) (by omega)]; omega
    · rw [Int.add_emod_right, Int.emod_eq_of_lt (by omega) (by omega)]; omega
  · split <;> omega
  · split <;> omega
theorem Good.append {d : Dk} (g : Good d) (s : List UInt8) : Good (d.append s).1 := by
  have g1 := g.op
  obtain ⟨ol, os, orm⟩ := d.op_l
  have h0 := g.room1
  unfold Dk.append
  split
  · exact g
  · rename_i h
    split
    · rename_i h2
      have hd := Dk.op_up h2
      have hs := g.safe1
      refine ⟨g1.safe0, ?_, ?_, g1.room0, g1.room1, g1.fuse⟩
      · simp only [os, List.length_append]; omega
      · simp only [List.length_append]
        have : ¬ (d.room - d.l.length < (s.length : Int)) := fun q => h ⟨hd, q⟩
        omega
    · exact g1
theorem Good.sync {d : Dk} (g : Good d) : Good d.sync.1 := by
  have g1 := g.op
  obtain ⟨ol, os, orm⟩ := d.op_l
  unfold Dk.sync
  split
  · refine ⟨by simp only; omega, by simp only [ol]; omega, g1.len, g1.room0, g1.room1, g1.fuse⟩
  · exact g1
theorem Good.cut {d : Dk} (g : Good d) (n : Int) : Good (d.cut n).1 := by
  have g1 := g.op
  obtain ⟨ol, os, orm⟩ := d.op_l
  have h1 := g.safe0
  have h2 := g.safe1
  have h3 := g.len
  unfold Dk.cut
  split
  · exact g
  · rename_i h
    split
    · rename_i hu
      have hd := Dk.op_up hu
      have hn : 0 ≤ n ∧ n ≤ d.l.length := ⟨by have : ¬ n < 0 := fun q => h ⟨hd, .inl q⟩; omega, by have : ¬ (d.l.length : Int) < n := fun q => h ⟨hd, .inr q⟩; omega⟩
      refine ⟨?_, ?_, ?_, g1.room0, g1.room1, g1.fuse⟩
      · simp only; split <;> omega
      · simp only [List.length_take]; split <;> omega
      · simp only [List.length_take]; omega
    · exact g1
theorem Good.crash {d : Dk} (g : Good d) (k : Int) (mask : List UInt8) : Good (d.crash k mask) := by
  obtain ⟨X, Y, hl, hs, hxy⟩ := g.split
  obtain ⟨n, hn, hnl, _⟩ := kept_eq d hl hs k
  have h1 : (d.crash k mask).l.length = X.length + n := by
    unfold Dk.crash
    simp only [hn, hs, Int.toNat_natCast, hl, List.length_take, zFi, List.length_append]
    omega
  have h2 : (d.crash k mask).safe = (X.length : Int) + n := by unfold Dk.crash; simp only [hn, hs]
  exact ⟨by rw [h2]; omega, by rw [h1, h2]; omega, by rw [h1]; omega, g.room0, g.room1, by unfold Dk.crash; simp⟩
end Go.Proofs.Ytblikpbaeippaaa

