/- JournalTurned: if one byte ahead of the last mark's place was turned, Open says that it is corrupt. No condition. -/
import Derived.Test.YtblikpbaeippaaaM14T
import Derived.Test.YtblikpbaeippaaaM15T
import Derived.Test.YtblikpbaeippaaaM8T
import Derived.Test.YtblikpbaeippaaaChecked
namespace Go.Proofs.Ytblikpbaeippaaa.JnT
set_option linter.unusedVariables false
set_option linter.unusedSimpArgs false
open Go.ChangeShapes Go.WideShapes Go.ChangeAt Go.RowKit Base Px Wr
set_option maxRecDepth 20000 in
set_option maxHeartbeats 4000000 in
theorem walk_JournalTurned (A_script : Option Addr) (c_script : Nat) (z_script : List Ojp) (at_ : Int) (by_ : Int) (w : World) (hc_script : z_script.length ≤ c_script) (hr_script : ∀ h, Scr w h A_script z_script) (hw_at_ : (Lit.int .i64 at_).wf = true) (hw_by_ : (Lit.int .u8 by_).wf = true) : Calls Try.prog 6 #[.slice A_script z_script.length c_script, .int .i64 at_, .int .u8 by_] w fun e w' => e = .returned (.bool true) ∧ Below w.heap.size w w' := by
  refine law_calls (args := [.slice A_script z_script.length c_script, .int .i64 at_, .int .u8 by_]) (zH9 Try.func6 rfl _ Try.ntmps6 (by kernel_rfl) (by kernel_rfl) _ Try.results6 ?_ w (Sim.empty w))
  obtain ⟨x, rfl⟩ := u8_lit hw_by_
  have hx8 : (Value.int .u8 (x.toNat : Int)) = u8 x := rfl
  rw [hx8]
  simp -dsimp -implicitDefEqProofs (disch := first | omega | assumption | (simp only [Option.isSome_some,Qt0]; done) | (simp only [List.length_cons,List.length_nil,List.length_append,Int.toNat_natCast] <;> omega) | fail) only [Nat.reduceLT,Nat.reduceLeDiff,Nat.reduceEqDiff,↓reduceIte,Int.reduceLT,Int.reduceLE,Int.reduceToNat,Int.reduceEq,Int.reduceNe,Nat.reduceAdd,Int.reduceAdd,Int.reduceSub,Int.reduceMul,Nat.reduceMul,Qp0,Qp1,Ql0,Qe0]
  refine (awake10_any w (PH.empty w)).mono ?_
  rintro v q1 ⟨rfl, hK1⟩
  simp -dsimp -implicitDefEqProofs (disch := first | omega | assumption | (simp only [Option.isSome_some,Qt0]; done) | (simp only [List.length_cons,List.length_nil,List.length_append,Int.toNat_natCast] <;> omega) | fail) only [Nat.reduceLT,Nat.reduceLeDiff,Nat.reduceEqDiff,↓reduceIte,Int.reduceLT,Int.reduceLE,Int.reduceToNat,Int.reduceEq,Int.reduceNe,Nat.reduceAdd,Int.reduceAdd,Int.reduceSub,Int.reduceMul,Nat.reduceMul,Qp0,Qp1,Ql0,Qe0]
  refine (great10_any A_script c_script z_script w q1 (hr_script q1) hc_script).mono ?_
  rintro v q2 ⟨⟨bg, rfl, hbg⟩, hK2⟩
  cases bg
  rotate_left
  · simp -dsimp -implicitDefEqProofs (disch := first | omega | assumption | (simp only [Option.isSome_some,Qt0]; done) | (simp only [List.length_cons,List.length_nil,List.length_append,Int.toNat_natCast] <;> omega) | fail) only [Nat.reduceLT,Nat.reduceLeDiff,Nat.reduceEqDiff,↓reduceIte,Int.reduceLT,Int.reduceLE,Int.reduceToNat,Int.reduceEq,Int.reduceNe,Nat.reduceAdd,Int.reduceAdd,Int.reduceSub,Int.reduceMul,Nat.reduceMul,Qp0,Qp1,Ql0,Qe0]
    exact ⟨_, PH.Le.refl _, by trivial⟩
  obtain ⟨hz40, hfit⟩ := hbg rfl
  by_cases hx0 : x = 0
  · have d0 : decide (x = 0) = true := decide_eq_true hx0
    simp -dsimp -implicitDefEqProofs (disch := first | omega | assumption | (simp only [Option.isSome_some,Qt0]; done) | (simp only [List.length_cons,List.length_nil,List.length_append,Int.toNat_natCast] <;> omega) | fail) only [Nat.reduceLT,Nat.reduceLeDiff,Nat.reduceEqDiff,↓reduceIte,Int.reduceLT,Int.reduceLE,Int.reduceToNat,Int.reduceEq,Int.reduceNe,Nat.reduceAdd,Int.reduceAdd,Int.reduceSub,Int.reduceMul,Nat.reduceMul,Qp0,Qp1,Ql0,Qe0,d0]
    exact ⟨_, PH.Le.refl _, by trivial⟩
  have d0 : decide (x = 0) = false := decide_eq_false hx0
  simp -dsimp -implicitDefEqProofs (disch := first | omega | assumption | (simp only [Option.isSome_some,Qt0]; done) | (simp only [List.length_cons,List.length_nil,List.length_append,Int.toNat_natCast] <;> omega) | fail) only [Nat.reduceLT,Nat.reduceLeDiff,Nat.reduceEqDiff,↓reduceIte,Int.reduceLT,Int.reduceLE,Int.reduceToNat,Int.reduceEq,Int.reduceNe,Nat.reduceAdd,Int.reduceAdd,Int.reduceSub,Int.reduceMul,Nat.reduceMul,Qp0,Qp1,Ql0,Qe0,d0]
  refine (two_any 1048576 (by omega) w q2).mono ?_
  rintro v q3 ⟨a, b, rfl, hD⟩
  have hg0 := dk0_good (room := 1048576) (by omega)
  have hc0 := dk0_clean (room := 1048576) (by omega)
  have hfz : (dk0 1048576).fuse < 0 := by show (-1 : Int) < 0; omega
  simp -dsimp -implicitDefEqProofs (disch := first | omega | assumption | (simp only [Option.isSome_some,Qt0]; done) | (simp only [List.length_cons,List.length_nil,List.length_append,Int.toNat_natCast] <;> omega) | fail) only [Nat.reduceLT,Nat.reduceLeDiff,Nat.reduceEqDiff,↓reduceIte,Int.reduceLT,Int.reduceLE,Int.reduceToNat,Int.reduceEq,Int.reduceNe,Nat.reduceAdd,Int.reduceAdd,Int.reduceSub,Int.reduceMul,Nat.reduceMul,Qp0,Qp1,Ql0,Qe0]
  refine (zDr w q3 hD hg0 hg0).mono ?_
  rintro v q4 ⟨da', db', e, sw, g, l, hop, hov⟩
  obtain ⟨rfl, rfl, rfl, rfl, rfl, rfl⟩ := zHa hc0 hc0 hop
  have hst := start_ok0 hc0 hfz (by show (1000 : Int) ≤ 1048576; omega)
  rcases zEs hc0 (g := 0) (l := []) (by omega) (fun t ht => by cases ht) (by decide) with ⟨_, _, _, _, _, h6⟩ | ⟨d1, ext, c1, r1, f1, x1, ⟨qm, hqm, rfl⟩, wo⟩
  · omega
  obtain ⟨hfuse, hn5⟩ := wo.fuse (f1 hfz)
  have hout := wo.out
  clear wo f1 r1 c1 d1 hop
  generalize startM (dk0 1048576) 0 [] = rr at *
  obtain ⟨db, e⟩ := rr
  simp only at hout hfuse hn5 hov hst
  subst hst
  have hP : Pres db 1 [] (begP 1 0 [] ++ [⟨4, 1, qm, []⟩]) := by
    rcases hout with ⟨_, h⟩ | ⟨h, _⟩ | ⟨h, _⟩
    · exact Pres.begun hqm x1 h
    · cases h
    · cases h
  obtain ⟨j, V, g1, rfl, hl1, hj, hV, hVn⟩ := hov
  rw [if_pos rfl] at hj
  obtain ⟨AV, cV, rfl, _⟩ := hV.len
  simp -dsimp -implicitDefEqProofs (disch := first | omega | assumption | (simp only [Option.isSome_some,Qt0]; done) | (simp only [List.length_cons,List.length_nil,List.length_append,Int.toNat_natCast] <;> omega) | fail) only [Nat.reduceLT,Nat.reduceLeDiff,Nat.reduceEqDiff,↓reduceIte,Int.reduceLT,Int.reduceLE,Int.reduceToNat,Int.reduceEq,Int.reduceNe,Nat.reduceAdd,Int.reduceAdd,Int.reduceSub,Int.reduceMul,Nat.reduceMul,Qp0,Qp1,Ql0,Qe0]
  refine zB5 (fun n f h' => ∃ (i p q : Nat) (dP dS : Dk) (g : Nat) (hv : List (List UInt8)) (ps : List Pt) (s : List UInt8) (h1 : PH), n + i = z_script.length ∧ ((p = a ∧ q = b ∧ g % 2 = 0) ∨ (p = b ∧ q = a ∧ g % 2 = 1)) ∧ JS h1 h' j p q dP dS g false ∧ Pres dP g hv ps ∧ Clean dS s ∧ Old s g ∧ dP.fuse < 0 ∧ dS.fuse < 0 ∧ f 1 = some (.int .i64 at_) ∧ f 2 = some (u8 x) ∧ f 7 = some (.pointer (some ⟨a, 0, none⟩)) ∧ f 8 = some (.pointer (some ⟨b, 0, none⟩)) ∧ f 9 = some (.pointer (some ⟨j, 0, none⟩)) ∧ f 40 = some (.slice A_script z_script.length c_script) ∧ f 41 = some (.int .i64 z_script.length) ∧ f 42 = some (.int .i64 i)) (by kernel_rfl) z_script.length ⟨0, b, a, db, dk0 1048576, 1, [], _, [], g1, by omega, .inr ⟨rfl, rfl, rfl⟩, hj, hP, hc0, Old.nil 1, hfuse, hfz, ?_, ?_, ?_, ?_, ?_, ?_, ?_, ?_⟩ ?_
  · simp -dsimp -implicitDefEqProofs (disch := first | omega | assumption | (simp only [Option.isSome_some,Qt0]; done) | (simp only [List.length_cons,List.length_nil,List.length_append,Int.toNat_natCast] <;> omega) | fail) only [Nat.reduceLT,Nat.reduceLeDiff,Nat.reduceEqDiff,↓reduceIte,Int.reduceLT,Int.reduceLE,Int.reduceToNat,Int.reduceEq,Int.reduceNe,Nat.reduceAdd,Int.reduceAdd,Int.reduceSub,Int.reduceMul,Nat.reduceMul,Qp0,Qp1,Ql0,Qe0]
  · simp -dsimp -implicitDefEqProofs (disch := first | omega | assumption | (simp only [Option.isSome_some,Qt0]; done) | (simp only [List.length_cons,List.length_nil,List.length_append,Int.toNat_natCast] <;> omega) | fail) only [Nat.reduceLT,Nat.reduceLeDiff,Nat.reduceEqDiff,↓reduceIte,Int.reduceLT,Int.reduceLE,Int.reduceToNat,Int.reduceEq,Int.reduceNe,Nat.reduceAdd,Int.reduceAdd,Int.reduceSub,Int.reduceMul,Nat.reduceMul,Qp0,Qp1,Ql0,Qe0]
  · simp -dsimp -implicitDefEqProofs (disch := first | omega | assumption | (simp only [Option.isSome_some,Qt0]; done) | (simp only [List.length_cons,List.length_nil,List.length_append,Int.toNat_natCast] <;> omega) | fail) only [Nat.reduceLT,Nat.reduceLeDiff,Nat.reduceEqDiff,↓reduceIte,Int.reduceLT,Int.reduceLE,Int.reduceToNat,Int.reduceEq,Int.reduceNe,Nat.reduceAdd,Int.reduceAdd,Int.reduceSub,Int.reduceMul,Nat.reduceMul,Qp0,Qp1,Ql0,Qe0]
  · simp -dsimp -implicitDefEqProofs (disch := first | omega | assumption | (simp only [Option.isSome_some,Qt0]; done) | (simp only [List.length_cons,List.length_nil,List.length_append,Int.toNat_natCast] <;> omega) | fail) only [Nat.reduceLT,Nat.reduceLeDiff,Nat.reduceEqDiff,↓reduceIte,Int.reduceLT,Int.reduceLE,Int.reduceToNat,Int.reduceEq,Int.reduceNe,Nat.reduceAdd,Int.reduceAdd,Int.reduceSub,Int.reduceMul,Nat.reduceMul,Qp0,Qp1,Ql0,Qe0]
  · simp -dsimp -implicitDefEqProofs (disch := first | omega | assumption | (simp only [Option.isSome_some,Qt0]; done) | (simp only [List.length_cons,List.length_nil,List.length_append,Int.toNat_natCast] <;> omega) | fail) only [Nat.reduceLT,Nat.reduceLeDiff,Nat.reduceEqDiff,↓reduceIte,Int.reduceLT,Int.reduceLE,Int.reduceToNat,Int.reduceEq,Int.reduceNe,Nat.reduceAdd,Int.reduceAdd,Int.reduceSub,Int.reduceMul,Nat.reduceMul,Qp0,Qp1,Ql0,Qe0]
  · simp -dsimp -implicitDefEqProofs (disch := first | omega | assumption | (simp only [Option.isSome_some,Qt0]; done) | (simp only [List.length_cons,List.length_nil,List.length_append,Int.toNat_natCast] <;> omega) | fail) only [Nat.reduceLT,Nat.reduceLeDiff,Nat.reduceEqDiff,↓reduceIte,Int.reduceLT,Int.reduceLE,Int.reduceToNat,Int.reduceEq,Int.reduceNe,Nat.reduceAdd,Int.reduceAdd,Int.reduceSub,Int.reduceMul,Nat.reduceMul,Qp0,Qp1,Ql0,Qe0]
  · simp -dsimp -implicitDefEqProofs (disch := first | omega | assumption | (simp only [Option.isSome_some,Qt0]; done) | (simp only [List.length_cons,List.length_nil,List.length_append,Int.toNat_natCast] <;> omega) | fail) only [Nat.reduceLT,Nat.reduceLeDiff,Nat.reduceEqDiff,↓reduceIte,Int.reduceLT,Int.reduceLE,Int.reduceToNat,Int.reduceEq,Int.reduceNe,Nat.reduceAdd,Int.reduceAdd,Int.reduceSub,Int.reduceMul,Nat.reduceMul,Qp0,Qp1,Ql0,Qe0]
  · simp -dsimp -implicitDefEqProofs (disch := first | omega | assumption | (simp only [Option.isSome_some,Qt0]; done) | (simp only [List.length_cons,List.length_nil,List.length_append,Int.toNat_natCast] <;> omega) | fail) only [Nat.reduceLT,Nat.reduceLeDiff,Nat.reduceEqDiff,↓reduceIte,Int.reduceLT,Int.reduceLE,Int.reduceToNat,Int.reduceEq,Int.reduceNe,Nat.reduceAdd,Int.reduceAdd,Int.reduceSub,Int.reduceMul,Nat.reduceMul,Qp0,Qp1,Ql0,Qe0]
    try rfl
  clear hP hj hV hVn hl1 hfuse hn5 hout
  rintro n f h' ⟨i, p, q, dP, dS, g, hv, ps, s, h1, hni, hside, hj, hP, hS, hO, hfP, hfS, f1, f2, f7, f8, f9, f40, f41, f42⟩ hlow'
  by_cases hi : i < z_script.length
  rotate_left
  · have e2 : decide ((i : Int) < (z_script.length : Int)) = false := decide_eq_false (by omega)
    simp -dsimp -implicitDefEqProofs (disch := first | omega | assumption | (simp only [Option.isSome_some,Qt0]; done) | (simp only [List.length_cons,List.length_nil,List.length_append,Int.toNat_natCast] <;> omega) | fail) only [Nat.reduceLT,Nat.reduceLeDiff,Nat.reduceEqDiff,↓reduceIte,Int.reduceLT,Int.reduceLE,Int.reduceToNat,Int.reduceEq,Int.reduceNe,Nat.reduceAdd,Int.reduceAdd,Int.reduceSub,Int.reduceMul,Nat.reduceMul,Qp0,Qp1,Ql0,Qe0,f1,f2,f7,f8,f9,f40,f41,f42,e2]
    refine (zEj w h' hj).mono ?_
    rintro v h3 ⟨rfl, hz⟩
    obtain rfl := hz.symm
    have hsz : (if dP.down = true then 0 else (dP.l.length : Int)) = ((flatP ps).length : Nat) := by rw [hP.clean.up, hP.clean.txt]; rfl
    have hlen := good_len hP.clean
    obtain ⟨hg1, hg2⟩ := hP.g1
    have hdP := hj.d2
    have hmk : Pt.Ok ⟨4, g, (flatP ps).length, []⟩ := zBp hg1 hg2 (by omega) 4 (.inr (.inr rfl))
    have hmk93 := zB1 hmk
    simp only [List.length_nil] at hmk93
    rcases hside with ⟨rfl, rfl, hgm⟩ | ⟨rfl, rfl, hgm⟩
    · have hm : decide ((g : Int) % 2 = 1) = false := decide_eq_false (by omega)
      simp -dsimp -implicitDefEqProofs (disch := first | omega | assumption | (simp only [Option.isSome_some,Qt0]; done) | (simp only [List.length_cons,List.length_nil,List.length_append,Int.toNat_natCast] <;> omega) | fail) only [Nat.reduceLT,Nat.reduceLeDiff,Nat.reduceEqDiff,↓reduceIte,Int.reduceLT,Int.reduceLE,Int.reduceToNat,Int.reduceEq,Int.reduceNe,Nat.reduceAdd,Int.reduceAdd,Int.reduceSub,Int.reduceMul,Nat.reduceMul,Qp0,Qp1,Ql0,Qe0,f1,f2,f7,f8,f9,hm]
      refine (zEj w h' hj).mono ?_
      rintro v h3 ⟨rfl, hz⟩
      obtain rfl := hz.symm
      obtain ⟨z1, hds, _, _⟩ := hj.useA
      have hLn := zB4 z1 _ dP w h' hds
      rw [hsz] at hLn
      simp -dsimp -implicitDefEqProofs (disch := first | omega | assumption | (simp only [Option.isSome_some,Qt0]; done) | (simp only [List.length_cons,List.length_nil,List.length_append,Int.toNat_natCast] <;> omega) | fail) only [Nat.reduceLT,Nat.reduceLeDiff,Nat.reduceEqDiff,↓reduceIte,Int.reduceLT,Int.reduceLE,Int.reduceToNat,Int.reduceEq,Int.reduceNe,Nat.reduceAdd,Int.reduceAdd,Int.reduceSub,Int.reduceMul,Nat.reduceMul,Qp0,Qp1,Ql0,Qe0,f1,f2,f7,f8,f9]
      refine hLn.mono ?_
      rintro v h3 ⟨rfl, hz⟩
      obtain rfl := hz.symm
      simp -dsimp -implicitDefEqProofs (disch := first | omega | assumption | (simp only [Option.isSome_some,Qt0]; done) | (simp only [List.length_cons,List.length_nil,List.length_append,Int.toNat_natCast] <;> omega) | fail) only [Nat.reduceLT,Nat.reduceLeDiff,Nat.reduceEqDiff,↓reduceIte,Int.reduceLT,Int.reduceLE,Int.reduceToNat,Int.reduceEq,Int.reduceNe,Nat.reduceAdd,Int.reduceAdd,Int.reduceSub,Int.reduceMul,Nat.reduceMul,Qp0,Qp1,Ql0,Qe0,f1,f2,f7,f8,f9]
      refine (zIa ⟨4, g, (flatP ps).length, []⟩ hmk w h').mono ?_
      rintro v h3 ⟨rfl, hl3⟩
      have hj3 := hj.mono hl3
      obtain ⟨z2, hds3, _, _⟩ := hj3.useA
      have hLn3 := zB4 z2 _ dP w h3 hds3
      rw [hsz] at hLn3
      have hSz3 := jsize_any w h3 hj3
      rw [hsz] at hSz3
      simp -dsimp -implicitDefEqProofs (disch := first | omega | assumption | (simp only [Option.isSome_some,Qt0]; done) | (simp only [List.length_cons,List.length_nil,List.length_append,Int.toNat_natCast] <;> omega) | fail) only [Nat.reduceLT,Nat.reduceLeDiff,Nat.reduceEqDiff,↓reduceIte,Int.reduceLT,Int.reduceLE,Int.reduceToNat,Int.reduceEq,Int.reduceNe,Nat.reduceAdd,Int.reduceAdd,Int.reduceSub,Int.reduceMul,Nat.reduceMul,Qp0,Qp1,Ql0,Qe0,f1,f2,f7,f8,f9]
      refine hLn3.mono ?_
      rintro v h4 ⟨rfl, hz⟩
      obtain rfl := hz.symm
      simp -dsimp -implicitDefEqProofs (disch := first | omega | assumption | (simp only [Option.isSome_some,Qt0]; done) | (simp only [List.length_cons,List.length_nil,List.length_append,Int.toNat_natCast] <;> omega) | fail) only [Nat.reduceLT,Nat.reduceLeDiff,Nat.reduceEqDiff,↓reduceIte,Int.reduceLT,Int.reduceLE,Int.reduceToNat,Int.reduceEq,Int.reduceNe,Nat.reduceAdd,Int.reduceAdd,Int.reduceSub,Int.reduceMul,Nat.reduceMul,Qp0,Qp1,Ql0,Qe0,f1,f2,f7,f8,f9]
      refine hSz3.mono ?_
      rintro v h4 ⟨rfl, hz⟩
      obtain rfl := hz.symm
      by_cases hat1 : at_ < 0
      · have d1 := decide_eq_true hat1
        simp -dsimp -implicitDefEqProofs (disch := first | omega | assumption | (simp only [Option.isSome_some,Qt0]; done) | (simp only [List.length_cons,List.length_nil,List.length_append,Int.toNat_natCast] <;> omega) | fail) only [Nat.reduceLT,Nat.reduceLeDiff,Nat.reduceEqDiff,↓reduceIte,Int.reduceLT,Int.reduceLE,Int.reduceToNat,Int.reduceEq,Int.reduceNe,Nat.reduceAdd,Int.reduceAdd,Int.reduceSub,Int.reduceMul,Nat.reduceMul,Qp0,Qp1,Ql0,Qe0,f1,f2,f7,f8,f9,d1]
        refine hLn3.mono ?_
        rintro v h4 ⟨rfl, hz⟩
        obtain rfl := hz.symm
        simp -dsimp -implicitDefEqProofs (disch := first | omega | assumption | (simp only [Option.isSome_some,Qt0]; done) | (simp only [List.length_cons,List.length_nil,List.length_append,Int.toNat_natCast] <;> omega) | fail) only [Nat.reduceLT,Nat.reduceLeDiff,Nat.reduceEqDiff,↓reduceIte,Int.reduceLT,Int.reduceLE,Int.reduceToNat,Int.reduceEq,Int.reduceNe,Nat.reduceAdd,Int.reduceAdd,Int.reduceSub,Int.reduceMul,Nat.reduceMul,Qp0,Qp1,Ql0,Qe0,f1,f2,f7,f8,f9]
        refine hSz3.mono ?_
        rintro v h4 ⟨rfl, hz⟩
        obtain rfl := hz.symm
        simp -dsimp -implicitDefEqProofs (disch := first | omega | assumption | (simp only [Option.isSome_some,Qt0]; done) | (simp only [List.length_cons,List.length_nil,List.length_append,Int.toNat_natCast] <;> omega) | fail) only [Nat.reduceLT,Nat.reduceLeDiff,Nat.reduceEqDiff,↓reduceIte,Int.reduceLT,Int.reduceLE,Int.reduceToNat,Int.reduceEq,Int.reduceNe,Nat.reduceAdd,Int.reduceAdd,Int.reduceSub,Int.reduceMul,Nat.reduceMul,Qp0,Qp1,Ql0,Qe0,f1,f2,f7,f8,f9]
        exact ⟨_, PH.Le.refl _, by first | trivial | simp⟩
      have d1 := decide_eq_false hat1
      simp -dsimp -implicitDefEqProofs (disch := first | omega | assumption | (simp only [Option.isSome_some,Qt0]; done) | (simp only [List.length_cons,List.length_nil,List.length_append,Int.toNat_natCast] <;> omega) | fail) only [Nat.reduceLT,Nat.reduceLeDiff,Nat.reduceEqDiff,↓reduceIte,Int.reduceLT,Int.reduceLE,Int.reduceToNat,Int.reduceEq,Int.reduceNe,Nat.reduceAdd,Int.reduceAdd,Int.reduceSub,Int.reduceMul,Nat.reduceMul,Qp0,Qp1,Ql0,Qe0,f1,f2,f7,f8,f9,d1]
      refine hLn3.mono ?_
      rintro v h4 ⟨rfl, hz⟩
      obtain rfl := hz.symm
      by_cases hat2 : ((flatP ps).length : Int) - ((sealP ⟨4, g, (flatP ps).length, []⟩).length : Int) ≤ at_
      · have d2 := decide_eq_true hat2
        simp -dsimp -implicitDefEqProofs (disch := first | omega | assumption | (simp only [Option.isSome_some,Qt0]; done) | (simp only [List.length_cons,List.length_nil,List.length_append,Int.toNat_natCast] <;> omega) | fail) only [Nat.reduceLT,Nat.reduceLeDiff,Nat.reduceEqDiff,↓reduceIte,Int.reduceLT,Int.reduceLE,Int.reduceToNat,Int.reduceEq,Int.reduceNe,Nat.reduceAdd,Int.reduceAdd,Int.reduceSub,Int.reduceMul,Nat.reduceMul,Qp0,Qp1,Ql0,Qe0,f1,f2,f7,f8,f9,ge_iff_le,d2]
        refine hLn3.mono ?_
        rintro v h4 ⟨rfl, hz⟩
        obtain rfl := hz.symm
        simp -dsimp -implicitDefEqProofs (disch := first | omega | assumption | (simp only [Option.isSome_some,Qt0]; done) | (simp only [List.length_cons,List.length_nil,List.length_append,Int.toNat_natCast] <;> omega) | fail) only [Nat.reduceLT,Nat.reduceLeDiff,Nat.reduceEqDiff,↓reduceIte,Int.reduceLT,Int.reduceLE,Int.reduceToNat,Int.reduceEq,Int.reduceNe,Nat.reduceAdd,Int.reduceAdd,Int.reduceSub,Int.reduceMul,Nat.reduceMul,Qp0,Qp1,Ql0,Qe0,f1,f2,f7,f8,f9]
        refine hSz3.mono ?_
        rintro v h4 ⟨rfl, hz⟩
        obtain rfl := hz.symm
        simp -dsimp -implicitDefEqProofs (disch := first | omega | assumption | (simp only [Option.isSome_some,Qt0]; done) | (simp only [List.length_cons,List.length_nil,List.length_append,Int.toNat_natCast] <;> omega) | fail) only [Nat.reduceLT,Nat.reduceLeDiff,Nat.reduceEqDiff,↓reduceIte,Int.reduceLT,Int.reduceLE,Int.reduceToNat,Int.reduceEq,Int.reduceNe,Nat.reduceAdd,Int.reduceAdd,Int.reduceSub,Int.reduceMul,Nat.reduceMul,Qp0,Qp1,Ql0,Qe0,f1,f2,f7,f8,f9]
        exact ⟨_, PH.Le.refl _, by first | trivial | simp⟩
      have d2 := decide_eq_false hat2
      obtain ⟨k, rfl⟩ := Int.eq_ofNat_of_zero_le (show 0 ≤ at_ by omega)
      obtain ⟨t, ht1, ht2⟩ := zH7 hP hx0 (k := k) (by omega)
      have hRot := jrot2_any (k : Int) x w h3 (hj3.d2.base (JS.low_le _ hj3.low _)) hP.clean.good
      have hgR := rot_good hP.clean.good k x
      rw [ht1] at hRot hgR
      simp -dsimp -implicitDefEqProofs (disch := first | omega | assumption | (simp only [Option.isSome_some,Qt0]; done) | (simp only [List.length_cons,List.length_nil,List.length_append,Int.toNat_natCast] <;> omega) | fail) only [Nat.reduceLT,Nat.reduceLeDiff,Nat.reduceEqDiff,↓reduceIte,Int.reduceLT,Int.reduceLE,Int.reduceToNat,Int.reduceEq,Int.reduceNe,Nat.reduceAdd,Int.reduceAdd,Int.reduceSub,Int.reduceMul,Nat.reduceMul,Qp0,Qp1,Ql0,Qe0,f1,f2,f7,f8,f9,ge_iff_le,d2]
      refine hRot.mono ?_
      rintro v h4 ⟨rfl, hd4⟩
      simp -dsimp -implicitDefEqProofs (disch := first | omega | assumption | (simp only [Option.isSome_some,Qt0]; done) | (simp only [List.length_cons,List.length_nil,List.length_append,Int.toNat_natCast] <;> omega) | fail) only [Nat.reduceLT,Nat.reduceLeDiff,Nat.reduceEqDiff,↓reduceIte,Int.reduceLT,Int.reduceLE,Int.reduceToNat,Int.reduceEq,Int.reduceNe,Nat.reduceAdd,Int.reduceAdd,Int.reduceSub,Int.reduceMul,Nat.reduceMul,Qp0,Qp1,Ql0,Qe0,f1,f2,f7,f8,f9]
      refine (zDr w h4 hd4 hgR hS.good).mono ?_
      rintro v h5 ⟨dX', dY', e, sw, g', l', hop, hov⟩
      obtain rfl := open_turnedL hP hS.up (by rw [hS.txt]; exact hO) ht2 hop
      obtain ⟨e3, rfl, he3, _⟩ := hov
      simp -dsimp -implicitDefEqProofs (disch := first | omega | assumption | (simp only [Option.isSome_some,Qt0]; done) | (simp only [List.length_cons,List.length_nil,List.length_append,Int.toNat_natCast] <;> omega) | fail) only [Nat.reduceLT,Nat.reduceLeDiff,Nat.reduceEqDiff,↓reduceIte,Int.reduceLT,Int.reduceLE,Int.reduceToNat,Int.reduceEq,Int.reduceNe,Nat.reduceAdd,Int.reduceAdd,Int.reduceSub,Int.reduceMul,Nat.reduceMul,Qp0,Qp1,Ql0,Qe0,f1,f2,f7,f8,f9]
      refine (ec_is 6 he3 w).mono ?_
      rintro v h6 ⟨rfl, hz⟩
      simp -dsimp -implicitDefEqProofs (disch := first | omega | assumption | (simp only [Option.isSome_some,Qt0]; done) | (simp only [List.length_cons,List.length_nil,List.length_append,Int.toNat_natCast] <;> omega) | fail) only [Nat.reduceLT,Nat.reduceLeDiff,Nat.reduceEqDiff,↓reduceIte,Int.reduceLT,Int.reduceLE,Int.reduceToNat,Int.reduceEq,Int.reduceNe,Nat.reduceAdd,Int.reduceAdd,Int.reduceSub,Int.reduceMul,Nat.reduceMul,Qp0,Qp1,Ql0,Qe0,f1,f2,f7,f8,f9]
      exact ⟨_, PH.Le.refl _, by first | trivial | simp⟩
    · have hm : decide ((g : Int) % 2 = 1) = true := decide_eq_true (by omega)
      simp -dsimp -implicitDefEqProofs (disch := first | omega | assumption | (simp only [Option.isSome_some,Qt0]; done) | (simp only [List.length_cons,List.length_nil,List.length_append,Int.toNat_natCast] <;> omega) | fail) only [Nat.reduceLT,Nat.reduceLeDiff,Nat.reduceEqDiff,↓reduceIte,Int.reduceLT,Int.reduceLE,Int.reduceToNat,Int.reduceEq,Int.reduceNe,Nat.reduceAdd,Int.reduceAdd,Int.reduceSub,Int.reduceMul,Nat.reduceMul,Qp0,Qp1,Ql0,Qe0,f1,f2,f7,f8,f9,hm]
      refine (zEj w h' hj).mono ?_
      rintro v h3 ⟨rfl, hz⟩
      obtain rfl := hz.symm
      obtain ⟨z1, hds, _, _⟩ := hj.useA
      have hLn := zB4 z1 _ dP w h' hds
      rw [hsz] at hLn
      simp -dsimp -implicitDefEqProofs (disch := first | omega | assumption | (simp only [Option.isSome_some,Qt0]; done) | (simp only [List.length_cons,List.length_nil,List.length_append,Int.toNat_natCast] <;> omega) | fail) only [Nat.reduceLT,Nat.reduceLeDiff,Nat.reduceEqDiff,↓reduceIte,Int.reduceLT,Int.reduceLE,Int.reduceToNat,Int.reduceEq,Int.reduceNe,Nat.reduceAdd,Int.reduceAdd,Int.reduceSub,Int.reduceMul,Nat.reduceMul,Qp0,Qp1,Ql0,Qe0,f1,f2,f7,f8,f9]
      refine hLn.mono ?_
      rintro v h3 ⟨rfl, hz⟩
      obtain rfl := hz.symm
      simp -dsimp -implicitDefEqProofs (disch := first | omega | assumption | (simp only [Option.isSome_some,Qt0]; done) | (simp only [List.length_cons,List.length_nil,List.length_append,Int.toNat_natCast] <;> omega) | fail) only [Nat.reduceLT,Nat.reduceLeDiff,Nat.reduceEqDiff,↓reduceIte,Int.reduceLT,Int.reduceLE,Int.reduceToNat,Int.reduceEq,Int.reduceNe,Nat.reduceAdd,Int.reduceAdd,Int.reduceSub,Int.reduceMul,Nat.reduceMul,Qp0,Qp1,Ql0,Qe0,f1,f2,f7,f8,f9]
      refine (zIa ⟨4, g, (flatP ps).length, []⟩ hmk w h').mono ?_
      rintro v h3 ⟨rfl, hl3⟩
      have hj3 := hj.mono hl3
      obtain ⟨z2, hds3, _, _⟩ := hj3.useA
      have hLn3 := zB4 z2 _ dP w h3 hds3
      rw [hsz] at hLn3
      have hSz3 := jsize_any w h3 hj3
      rw [hsz] at hSz3
      simp -dsimp -implicitDefEqProofs (disch := first | omega | assumption | (simp only [Option.isSome_some,Qt0]; done) | (simp only [List.length_cons,List.length_nil,List.length_append,Int.toNat_natCast] <;> omega) | fail) only [Nat.reduceLT,Nat.reduceLeDiff,Nat.reduceEqDiff,↓reduceIte,Int.reduceLT,Int.reduceLE,Int.reduceToNat,Int.reduceEq,Int.reduceNe,Nat.reduceAdd,Int.reduceAdd,Int.reduceSub,Int.reduceMul,Nat.reduceMul,Qp0,Qp1,Ql0,Qe0,f1,f2,f7,f8,f9]
      refine hLn3.mono ?_
      rintro v h4 ⟨rfl, hz⟩
      obtain rfl := hz.symm
      simp -dsimp -implicitDefEqProofs (disch := first | omega | assumption | (simp only [Option.isSome_some,Qt0]; done) | (simp only [List.length_cons,List.length_nil,List.length_append,Int.toNat_natCast] <;> omega) | fail) only [Nat.reduceLT,Nat.reduceLeDiff,Nat.reduceEqDiff,↓reduceIte,Int.reduceLT,Int.reduceLE,Int.reduceToNat,Int.reduceEq,Int.reduceNe,Nat.reduceAdd,Int.reduceAdd,Int.reduceSub,Int.reduceMul,Nat.reduceMul,Qp0,Qp1,Ql0,Qe0,f1,f2,f7,f8,f9]
      refine hSz3.mono ?_
      rintro v h4 ⟨rfl, hz⟩
      obtain rfl := hz.symm
      by_cases hat1 : at_ < 0
      · have d1 := decide_eq_true hat1
        simp -dsimp -implicitDefEqProofs (disch := first | omega | assumption | (simp only [Option.isSome_some,Qt0]; done) | (simp only [List.length_cons,List.length_nil,List.length_append,Int.toNat_natCast] <;> omega) | fail) only [Nat.reduceLT,Nat.reduceLeDiff,Nat.reduceEqDiff,↓reduceIte,Int.reduceLT,Int.reduceLE,Int.reduceToNat,Int.reduceEq,Int.reduceNe,Nat.reduceAdd,Int.reduceAdd,Int.reduceSub,Int.reduceMul,Nat.reduceMul,Qp0,Qp1,Ql0,Qe0,f1,f2,f7,f8,f9,d1]
        refine hLn3.mono ?_
        rintro v h4 ⟨rfl, hz⟩
        obtain rfl := hz.symm
        simp -dsimp -implicitDefEqProofs (disch := first | omega | assumption | (simp only [Option.isSome_some,Qt0]; done) | (simp only [List.length_cons,List.length_nil,List.length_append,Int.toNat_natCast] <;> omega) | fail) only [Nat.reduceLT,Nat.reduceLeDiff,Nat.reduceEqDiff,↓reduceIte,Int.reduceLT,Int.reduceLE,Int.reduceToNat,Int.reduceEq,Int.reduceNe,Nat.reduceAdd,Int.reduceAdd,Int.reduceSub,Int.reduceMul,Nat.reduceMul,Qp0,Qp1,Ql0,Qe0,f1,f2,f7,f8,f9]
        refine hSz3.mono ?_
        rintro v h4 ⟨rfl, hz⟩
        obtain rfl := hz.symm
        simp -dsimp -implicitDefEqProofs (disch := first | omega | assumption | (simp only [Option.isSome_some,Qt0]; done) | (simp only [List.length_cons,List.length_nil,List.length_append,Int.toNat_natCast] <;> omega) | fail) only [Nat.reduceLT,Nat.reduceLeDiff,Nat.reduceEqDiff,↓reduceIte,Int.reduceLT,Int.reduceLE,Int.reduceToNat,Int.reduceEq,Int.reduceNe,Nat.reduceAdd,Int.reduceAdd,Int.reduceSub,Int.reduceMul,Nat.reduceMul,Qp0,Qp1,Ql0,Qe0,f1,f2,f7,f8,f9]
        exact ⟨_, PH.Le.refl _, by first | trivial | simp⟩
      have d1 := decide_eq_false hat1
      simp -dsimp -implicitDefEqProofs (disch := first | omega | assumption | (simp only [Option.isSome_some,Qt0]; done) | (simp only [List.length_cons,List.length_nil,List.length_append,Int.toNat_natCast] <;> omega) | fail) only [Nat.reduceLT,Nat.reduceLeDiff,Nat.reduceEqDiff,↓reduceIte,Int.reduceLT,Int.reduceLE,Int.reduceToNat,Int.reduceEq,Int.reduceNe,Nat.reduceAdd,Int.reduceAdd,Int.reduceSub,Int.reduceMul,Nat.reduceMul,Qp0,Qp1,Ql0,Qe0,f1,f2,f7,f8,f9,d1]
      refine hLn3.mono ?_
      rintro v h4 ⟨rfl, hz⟩
      obtain rfl := hz.symm
      by_cases hat2 : ((flatP ps).length : Int) - ((sealP ⟨4, g, (flatP ps).length, []⟩).length : Int) ≤ at_
      · have d2 := decide_eq_true hat2
        simp -dsimp -implicitDefEqProofs (disch := first | omega | assumption | (simp only [Option.isSome_some,Qt0]; done) | (simp only [List.length_cons,List.length_nil,List.length_append,Int.toNat_natCast] <;> omega) | fail) only [Nat.reduceLT,Nat.reduceLeDiff,Nat.reduceEqDiff,↓reduceIte,Int.reduceLT,Int.reduceLE,Int.reduceToNat,Int.reduceEq,Int.reduceNe,Nat.reduceAdd,Int.reduceAdd,Int.reduceSub,Int.reduceMul,Nat.reduceMul,Qp0,Qp1,Ql0,Qe0,f1,f2,f7,f8,f9,ge_iff_le,d2]
        refine hLn3.mono ?_
        rintro v h4 ⟨rfl, hz⟩
        obtain rfl := hz.symm
        simp -dsimp -implicitDefEqProofs (disch := first | omega | assumption | (simp only [Option.isSome_some,Qt0]; done) | (simp only [List.length_cons,List.length_nil,List.length_append,Int.toNat_natCast] <;> omega) | fail) only [Nat.reduceLT,Nat.reduceLeDiff,Nat.reduceEqDiff,↓reduceIte,Int.reduceLT,Int.reduceLE,Int.reduceToNat,Int.reduceEq,Int.reduceNe,Nat.reduceAdd,Int.reduceAdd,Int.reduceSub,Int.reduceMul,Nat.reduceMul,Qp0,Qp1,Ql0,Qe0,f1,f2,f7,f8,f9]
        refine hSz3.mono ?_
        rintro v h4 ⟨rfl, hz⟩
        obtain rfl := hz.symm
        simp -dsimp -implicitDefEqProofs (disch := first | omega | assumption | (simp only [Option.isSome_some,Qt0]; done) | (simp only [List.length_cons,List.length_nil,List.length_append,Int.toNat_natCast] <;> omega) | fail) only [Nat.reduceLT,Nat.reduceLeDiff,Nat.reduceEqDiff,↓reduceIte,Int.reduceLT,Int.reduceLE,Int.reduceToNat,Int.reduceEq,Int.reduceNe,Nat.reduceAdd,Int.reduceAdd,Int.reduceSub,Int.reduceMul,Nat.reduceMul,Qp0,Qp1,Ql0,Qe0,f1,f2,f7,f8,f9]
        exact ⟨_, PH.Le.refl _, by first | trivial | simp⟩
      have d2 := decide_eq_false hat2
      obtain ⟨k, rfl⟩ := Int.eq_ofNat_of_zero_le (show 0 ≤ at_ by omega)
      obtain ⟨t, ht1, ht2⟩ := zH7 hP hx0 (k := k) (by omega)
      have hRot := jrot2_any (k : Int) x w h3 (hj3.d2.base (JS.low_le _ hj3.low _)) hP.clean.good
      have hgR := rot_good hP.clean.good k x
      rw [ht1] at hRot hgR
      simp -dsimp -implicitDefEqProofs (disch := first | omega | assumption | (simp only [Option.isSome_some,Qt0]; done) | (simp only [List.length_cons,List.length_nil,List.length_append,Int.toNat_natCast] <;> omega) | fail) only [Nat.reduceLT,Nat.reduceLeDiff,Nat.reduceEqDiff,↓reduceIte,Int.reduceLT,Int.reduceLE,Int.reduceToNat,Int.reduceEq,Int.reduceNe,Nat.reduceAdd,Int.reduceAdd,Int.reduceSub,Int.reduceMul,Nat.reduceMul,Qp0,Qp1,Ql0,Qe0,f1,f2,f7,f8,f9,ge_iff_le,d2]
      refine hRot.mono ?_
      rintro v h4 ⟨rfl, hd4⟩
      simp -dsimp -implicitDefEqProofs (disch := first | omega | assumption | (simp only [Option.isSome_some,Qt0]; done) | (simp only [List.length_cons,List.length_nil,List.length_append,Int.toNat_natCast] <;> omega) | fail) only [Nat.reduceLT,Nat.reduceLeDiff,Nat.reduceEqDiff,↓reduceIte,Int.reduceLT,Int.reduceLE,Int.reduceToNat,Int.reduceEq,Int.reduceNe,Nat.reduceAdd,Int.reduceAdd,Int.reduceSub,Int.reduceMul,Nat.reduceMul,Qp0,Qp1,Ql0,Qe0,f1,f2,f7,f8,f9]
      refine (zDr w h4 hd4.symm hS.good hgR).mono ?_
      rintro v h5 ⟨dY', dX', e, sw, g', l', hop, hov⟩
      obtain rfl := open_turnedR hP hS.up (by rw [hS.txt]; exact hO) ht2 hop
      obtain ⟨e3, rfl, he3, _⟩ := hov
      simp -dsimp -implicitDefEqProofs (disch := first | omega | assumption | (simp only [Option.isSome_some,Qt0]; done) | (simp only [List.length_cons,List.length_nil,List.length_append,Int.toNat_natCast] <;> omega) | fail) only [Nat.reduceLT,Nat.reduceLeDiff,Nat.reduceEqDiff,↓reduceIte,Int.reduceLT,Int.reduceLE,Int.reduceToNat,Int.reduceEq,Int.reduceNe,Nat.reduceAdd,Int.reduceAdd,Int.reduceSub,Int.reduceMul,Nat.reduceMul,Qp0,Qp1,Ql0,Qe0,f1,f2,f7,f8,f9]
      refine (ec_is 6 he3 w).mono ?_
      rintro v h6 ⟨rfl, hz⟩
      simp -dsimp -implicitDefEqProofs (disch := first | omega | assumption | (simp only [Option.isSome_some,Qt0]; done) | (simp only [List.length_cons,List.length_nil,List.length_append,Int.toNat_natCast] <;> omega) | fail) only [Nat.reduceLT,Nat.reduceLeDiff,Nat.reduceEqDiff,↓reduceIte,Int.reduceLT,Int.reduceLE,Int.reduceToNat,Int.reduceEq,Int.reduceNe,Nat.reduceAdd,Int.reduceAdd,Int.reduceSub,Int.reduceMul,Nat.reduceMul,Qp0,Qp1,Ql0,Qe0,f1,f2,f7,f8,f9]
      exact ⟨_, PH.Le.refl _, by first | trivial | simp⟩
  have e2 : decide ((i : Int) < (z_script.length : Int)) = true := decide_eq_true (by omega)
  obtain ⟨o, hx⟩ : ∃ p, z_script[i]? = some p := ⟨_, List.getElem?_eq_getElem hi⟩
  obtain ⟨bs', os, rfl⟩ := (hr_script h').1.addr_ zEl (by omega) hx
  have hrd := (hr_script h').1.chunk zEl (by omega) hlow' hx
  have ha : allOne (ojL o) := ojL_one _
  have hgo := fun h => ((hr_script h).2 o (List.mem_of_getElem? hx))
  obtain ⟨hL450, hLt⟩ := hfit o (List.mem_of_getElem? hx)
  obtain ⟨⟨K, L, D, N, M, S⟩, B, cb⟩ := o
  unfold ojL at hrd ha
  unfold GoodO at hgo
  simp only at hrd ha hgo hL450 hLt
  have hT : (i : Int).toNat = i := Int.toNat_natCast i
  simp -dsimp -implicitDefEqProofs (disch := first | omega | assumption | (simp only [Option.isSome_some,Qt0]; done) | (simp only [List.length_cons,List.length_nil,List.length_append,Int.toNat_natCast] <;> omega) | fail) only [Nat.reduceLT,Nat.reduceLeDiff,Nat.reduceEqDiff,↓reduceIte,Int.reduceLT,Int.reduceLE,Int.reduceToNat,Int.reduceEq,Int.reduceNe,Nat.reduceAdd,Int.reduceAdd,Int.reduceSub,Int.reduceMul,Nat.reduceMul,Qp0,Qp1,Ql0,Qe0,f1,f2,f7,f8,f9,f40,f41,f42,e2,hrd]
  refine fun xb hxb => ?_
  obtain ⟨h2, hj2, hle2, hrow2⟩ := hj.grow ((PH.Le.refl h').new xb ⟨[.int .i64 K, .slice B L.length cb, .bool D, .int .i64 N, .int .i64 M, str S], 6⟩ hxb)
  have hm2 := hrow2 xb _ hxb (by rw [PH.new_m, if_pos rfl])
  obtain ⟨h3, hh3⟩ : ∃ h3, h'.new xb ⟨[.int .i64 K, .slice B L.length cb, .bool D, .int .i64 N, .int .i64 M, str S], 6⟩ = h3 := ⟨_, rfl⟩
  rw [hh3] at hj2
  clear hrow2
  have hm3 := hj2.le.m _ _ hm2
  by_cases hK0 : K = 0
  · subst hK0
    simp -dsimp -implicitDefEqProofs (disch := first | omega | assumption | (simp only [Option.isSome_some,Qt0]; done) | (simp only [List.length_cons,List.length_nil,List.length_append,Int.toNat_natCast] <;> omega) | fail) only [Nat.reduceLT,Nat.reduceLeDiff,Nat.reduceEqDiff,↓reduceIte,Int.reduceLT,Int.reduceLE,Int.reduceToNat,Int.reduceEq,Int.reduceNe,Nat.reduceAdd,Int.reduceAdd,Int.reduceSub,Int.reduceMul,Nat.reduceMul,Qp0,Qp1,Ql0,Qe0,f1,f2,f7,f8,f9,f40,f41,f42,List.set_cons_zero,List.set_cons_succ,List.take_zero,List.drop_succ_cons,List.drop_zero,List.drop_nil,List.nil_append,List.append_nil,List.take_succ_cons,ite_true,PH.new_new,hh3,zAa,zAb,hm3]
    obtain ⟨hgL, hgr⟩ := hgo h2
    refine (jPut_any B cb L w h3 hj2 hP.clean.good hP.g1 hgr (by omega) (put_size hP.g1.1 hP.g1.2 hL450 hLt)).mono ?_
    rintro v h4 ⟨he, hj4⟩
    obtain ⟨hr, hfP2, hPo⟩ := put_full (l := L) hP hfP
    rw [hPo] at hj4
    have hm4 := hj4.le.m _ _ hm2
    generalize PutM dP g false L = rr at *
    obtain ⟨dQ, e⟩ := rr
    simp only at he hj4 hr hfP2
    simp -dsimp -implicitDefEqProofs (disch := first | omega | assumption | (simp only [Option.isSome_some,Qt0]; done) | (simp only [List.length_cons,List.length_nil,List.length_append,Int.toNat_natCast] <;> omega) | fail) only [Nat.reduceLT,Nat.reduceLeDiff,Nat.reduceEqDiff,↓reduceIte,Int.reduceLT,Int.reduceLE,Int.reduceToNat,Int.reduceEq,Int.reduceNe,Nat.reduceAdd,Int.reduceAdd,Int.reduceSub,Int.reduceMul,Nat.reduceMul,Qp0,Qp1,Ql0,Qe0,f1,f2,f7,f8,f9,f40,f41,f42,List.set_cons_zero,List.set_cons_succ,List.take_zero,List.drop_succ_cons,List.drop_zero,List.drop_nil,List.nil_append,List.append_nil,List.take_succ_cons,ite_true,PH.new_new,zAa,zAb,hm4]
    rcases hr with ⟨rfl, ps', hP'⟩ | ⟨hk, hP'⟩
    · exact ⟨n - 1, _, by omega, PH.Le.refl _, i + 1, p, q, dQ, dS, g, hv ++ L, ps', s, h2, by omega, hside, hj4, hP', hS, hO, hfP2, hfS, by trivial, by trivial, by trivial, by trivial, by trivial, by trivial, by trivial, by simp⟩
    · exact ⟨n - 1, _, by omega, PH.Le.refl _, i + 1, p, q, dQ, dS, g, hv, ps, s, h2, by omega, hside, hj4, hP', hS, hO, hfP2, hfS, by trivial, by trivial, by trivial, by trivial, by trivial, by trivial, by trivial, by simp⟩
  by_cases hK1' : K = 1
  rotate_left
  · simp -dsimp -implicitDefEqProofs (disch := first | omega | assumption | (simp only [Option.isSome_some,Qt0]; done) | (simp only [List.length_cons,List.length_nil,List.length_append,Int.toNat_natCast] <;> omega) | fail) only [Nat.reduceLT,Nat.reduceLeDiff,Nat.reduceEqDiff,↓reduceIte,Int.reduceLT,Int.reduceLE,Int.reduceToNat,Int.reduceEq,Int.reduceNe,Nat.reduceAdd,Int.reduceAdd,Int.reduceSub,Int.reduceMul,Nat.reduceMul,Qp0,Qp1,Ql0,Qe0,f1,f2,f7,f8,f9,f40,f41,f42,List.set_cons_zero,List.set_cons_succ,List.take_zero,List.drop_succ_cons,List.drop_zero,List.drop_nil,List.nil_append,List.append_nil,List.take_succ_cons,ite_true,PH.new_new,hh3,zAa,zAb,hm3,hK0,hK1']
    exact ⟨n - 1, _, by omega, PH.Le.refl _, i + 1, p, q, dP, dS, g, hv, ps, s, h2, by omega, hside, hj2, hP, hS, hO, hfP, hfS, by trivial, by trivial, by trivial, by trivial, by trivial, by trivial, by trivial, by simp⟩
  · subst hK1'
    simp -dsimp -implicitDefEqProofs (disch := first | omega | assumption | (simp only [Option.isSome_some,Qt0]; done) | (simp only [List.length_cons,List.length_nil,List.length_append,Int.toNat_natCast] <;> omega) | fail) only [Nat.reduceLT,Nat.reduceLeDiff,Nat.reduceEqDiff,↓reduceIte,Int.reduceLT,Int.reduceLE,Int.reduceToNat,Int.reduceEq,Int.reduceNe,Nat.reduceAdd,Int.reduceAdd,Int.reduceSub,Int.reduceMul,Nat.reduceMul,Qp0,Qp1,Ql0,Qe0,f1,f2,f7,f8,f9,f40,f41,f42,List.set_cons_zero,List.set_cons_succ,List.take_zero,List.drop_succ_cons,List.drop_zero,List.drop_nil,List.nil_append,List.append_nil,List.take_succ_cons,ite_true,PH.new_new,hh3,zAa,zAb,hm3]
    obtain ⟨hgL, hgr⟩ := hgo h2
    refine (jStart_any B cb L w h3 hj2 hS.good hgr (by omega) (start_size hL450 hLt)).mono ?_
    rintro v h4 ⟨he, hjb, hja⟩
    obtain ⟨hr, hfP2, hPo⟩ := start_full (l := L) hS hO hP.g1.1 hfS hL450
    rw [hPo] at hja hjb
    generalize StartM dS g false L = rr at *
    obtain ⟨dQ, e⟩ := rr
    simp only at he hja hjb hr hfP2
    simp -dsimp -implicitDefEqProofs (disch := first | omega | assumption | (simp only [Option.isSome_some,Qt0]; done) | (simp only [List.length_cons,List.length_nil,List.length_append,Int.toNat_natCast] <;> omega) | fail) only [Nat.reduceLT,Nat.reduceLeDiff,Nat.reduceEqDiff,↓reduceIte,Int.reduceLT,Int.reduceLE,Int.reduceToNat,Int.reduceEq,Int.reduceNe,Nat.reduceAdd,Int.reduceAdd,Int.reduceSub,Int.reduceMul,Nat.reduceMul,Qp0,Qp1,Ql0,Qe0,f1,f2,f7,f8,f9,f40,f41,f42,List.set_cons_zero,List.set_cons_succ,List.take_zero,List.drop_succ_cons,List.drop_zero,List.drop_nil,List.nil_append,List.append_nil,List.take_succ_cons,ite_true,PH.new_new]
    rcases hr with ⟨rfl, ps', hP'⟩ | ⟨hk, s', hS', hO'⟩
    · exact ⟨n - 1, _, by omega, PH.Le.refl _, i + 1, q, p, dQ, dP, g + 1, L, ps', _, h2, by omega, hside.symm.imp (fun x => ⟨x.2.1, x.1, by omega⟩) (fun x => ⟨x.2.1, x.1, by omega⟩), hja rfl, hP', hP.clean, hP.old (by omega), hfP2, hfP, by trivial, by trivial, by trivial, by trivial, by trivial, by trivial, by trivial, by simp⟩
    · exact ⟨n - 1, _, by omega, PH.Le.refl _, i + 1, p, q, dP, dQ, g, hv, ps, s', h2, by omega, hside, hjb (by rcases hk with rfl | rfl <;> simp), hP, hS', hO', hfP, hfP2, by trivial, by trivial, by trivial, by trivial, by trivial, by trivial, by trivial, by simp⟩
set_option maxRecDepth 100000 in
theorem liftedJournalTurned (os : Os) (started : os.Started) (H : Type) (enc : TypeId × Value → H) :
    ReturnsInHanded {} Try.checked os 6 .any (Rows.journalTurnedSpec.pre6 enc Try.prog Try.f6 Rows.journalTurnedRow.domain false) (Rows.journalTurnedSpec.post enc Try.prog Try.f6 false true false false) := by
  refine returnsInHanded_of_change_sized (C := Try.checked) own started (by kernel_rfl) Try.func6
    (ChangeSpec.witness6 (enc := enc) (C := Try.checked) false ⟨#[], #[.slice none 0 0, .int .i64 0, .int .u8 0], []⟩ 8 (by kernel_rfl) (by kernel_rfl) (by kernel_rfl) (by kernel_rfl)) ?_
  intro W base args ds gs before hval0 hW _ hsz0 _
  have hsz : (DataW.weightsEach Try.prog (Try.f6.params.toList ++ Rows.journalTurnedSpec.plain.varTypes Try.prog) (ds ++ gs)).all (· ≤ reachBytes) = true := hsz0
  have hval : ∀ (j : Nat) t v, Try.f6.params[j]? = some t → args[j]? = some v → Value.okWide Try.prog W .any base t v := hval0
  have hW' := hW
  obtain ⟨p, q, hA0, hV, rfl, _, _⟩ := hW
  have hA : DataW.TrodAll enc Try.prog W 0 (fun _ => true) true Try.f6.params.toList args.toList ds p := hA0
  rw [Try.params6] at hA hval hsz
  obtain ⟨v0, v1, v2, d0, d1, d2, p0, p1, p2, rfl, rfl, rfl, h0, h1, h2⟩ := trodAll_three hA
  obtain ⟨rfl, _⟩ := trodVars_none hV
  obtain ⟨A0, c0, z0, rfl, hc0, hr0⟩ := open_script (hval 0 _ v0 rfl rfl) h0
  obtain ⟨a1, rfl, rfl, rfl, w1⟩ := open_int Try.underlying3 (hval 1 _ v1 rfl rfl) h1
  obtain ⟨a2, rfl, rfl, rfl, w2⟩ := open_int Try.underlying5 (hval 2 _ v2 rfl rfl) h2
  refine (walk_JournalTurned A0 c0 z0 a1 a2 W hc0 hr0 w1 w2).mono fun en W' ⟨he, hb⟩ => ?_
  subst he
  exact ⟨_, rfl, law_post (tb := 4) laidOut hW' rfl rfl rfl rfl Try.underlying4 (by intro t ht; revert t; exact of_decide_eq_true (by kernel_rfl)) (by kernel_rfl) hb⟩

theorem provedJournalTurned : Rows.JournalTurnedSaid :=
  OpenClaim.holds_of_wide 6 Try.f6 rfl rfl rfl rfl rfl rfl rfl ⟨rfl, rfl, rfl, rfl, rfl⟩ rfl rfl rfl rfl rfl (by kernel_rfl) Try.func6 (by kernel_rfl)
    (of_decide_eq_true (by kernel_rfl)) (by unfold Func.isWrapper; first | (rw [if_pos (by decide +kernel)]; kernel_rfl) | (rw [if_neg (by decide +kernel)]; exact ⟨rfl, rfl⟩))
    (fun os started H enc _ => liftedJournalTurned os started H enc)
#print axioms provedJournalTurned


end Go.Proofs.Ytblikpbaeippaaa.JnT
