/- JournalFull: what has no room changes nothing. No condition. -/
import Derived.Test.YtblikpbaeippaaaM14F
import Derived.Test.YtblikpbaeippaaaM9F
import Derived.Test.YtblikpbaeippaaaChecked
namespace Go.Proofs.Ytblikpbaeippaaa.JnF
set_option linter.unusedVariables false
set_option linter.unusedSimpArgs false
open Go.ChangeShapes Go.WideShapes Go.ChangeAt Go.RowKit Base Px Wr
set_option maxRecDepth 20000 in
set_option maxHeartbeats 4000000 in
theorem walk_JournalFull (room : Int) (A_script : Option Addr) (c_script : Nat) (z_script : List Ojp) (w : World) (hw_room : (Lit.int .u16 room).wf = true) (hc_script : z_script.length ≤ c_script) (hr_script : ∀ h, Scr w h A_script z_script) : Calls Try.prog 4 #[.int .u16 room, .slice A_script z_script.length c_script] w fun e w' => e = .returned (.bool true) ∧ Below w.heap.size w w' := by
  refine law_calls (args := [.int .u16 room, .slice A_script z_script.length c_script]) (Calls_body Try.func4 rfl _ Try.ntmps4 (by kernel_rfl) (by kernel_rfl) _ Try.results4 ?_ w (Sim.empty w))
  obtain ⟨x, rfl⟩ := u16_lit hw_room
  have hx16 : (Value.int .u16 (x.toNat : Int)) = u16 x := rfl
  rw [hx16]
  have hxl := x.toNat_lt
  simp -dsimp -implicitDefEqProofs (disch := first | omega | assumption | (simp only [Option.isSome_some,Qt0]; done) | (simp only [List.length_cons,List.length_nil,List.length_append,Int.toNat_natCast] <;> omega) | fail) only [Nat.reduceLT,Nat.reduceLeDiff,Nat.reduceEqDiff,↓reduceIte,Int.reduceLT,Int.reduceLE,Int.reduceToNat,Int.reduceEq,Int.reduceNe,Nat.reduceAdd,Int.reduceAdd,Int.reduceSub,Int.reduceMul,Nat.reduceMul,Qp0,Qp1,Ql0,Qe0]
  refine (awake10_any w (PH.empty w)).mono ?_
  rintro v q1 ⟨rfl, hK1⟩
  simp -dsimp -implicitDefEqProofs (disch := first | omega | assumption | (simp only [Option.isSome_some,Qt0]; done) | (simp only [List.length_cons,List.length_nil,List.length_append,Int.toNat_natCast] <;> omega) | fail) only [Nat.reduceLT,Nat.reduceLeDiff,Nat.reduceEqDiff,↓reduceIte,Int.reduceLT,Int.reduceLE,Int.reduceToNat,Int.reduceEq,Int.reduceNe,Nat.reduceAdd,Int.reduceAdd,Int.reduceSub,Int.reduceMul,Nat.reduceMul,Qp0,Qp1,Ql0,Qe0]
  refine (great10_any A_script c_script z_script w q1 (hr_script q1) hc_script).mono ?_
  rintro v q2 ⟨⟨bg, rfl, hbg⟩, hK2⟩
  cases bg
  rotate_left
  · simp -dsimp -implicitDefEqProofs (disch := first | omega | assumption | (simp only [Option.isSome_some,Qt0]; done) | (simp only [List.length_cons,List.length_nil,List.length_append,Int.toNat_natCast] <;> omega) | fail) only [Nat.reduceLT,Nat.reduceLeDiff,Nat.reduceEqDiff,↓reduceIte,Int.reduceLT,Int.reduceLE,Int.reduceToNat,Int.reduceEq,Int.reduceNe,Nat.reduceAdd,Int.reduceAdd,Int.reduceSub,Int.reduceMul,Nat.reduceMul,Qp0,Qp1,Ql0,Qe0]
    exact ⟨_, PH.Le.refl _, by trivial⟩
  obtain ⟨hz40, hfit⟩ := hbg rfl
  simp -dsimp -implicitDefEqProofs (disch := first | omega | assumption | (simp only [Option.isSome_some,Qt0]; done) | (simp only [List.length_cons,List.length_nil,List.length_append,Int.toNat_natCast] <;> omega) | fail) only [Nat.reduceLT,Nat.reduceLeDiff,Nat.reduceEqDiff,↓reduceIte,Int.reduceLT,Int.reduceLE,Int.reduceToNat,Int.reduceEq,Int.reduceNe,Nat.reduceAdd,Int.reduceAdd,Int.reduceSub,Int.reduceMul,Nat.reduceMul,Qp0,Qp1,Ql0,Qe0]
  obtain ⟨R, hRe⟩ : ∃ R : Int, (x.toNat : Int) % 4000 = R := ⟨_, rfl⟩
  have hR : 0 ≤ R ∧ R ≤ 1048576 := by omega
  rw [hRe]
  refine (two_any R hR w q2).mono ?_
  rintro v q3 ⟨a, b, rfl, hD⟩
  have hg0 := dk0_good hR
  have hc0 := dk0_clean hR
  have hfz : (dk0 R).fuse < 0 := by show (-1 : Int) < 0; omega
  simp -dsimp -implicitDefEqProofs (disch := first | omega | assumption | (simp only [Option.isSome_some,Qt0]; done) | (simp only [List.length_cons,List.length_nil,List.length_append,Int.toNat_natCast] <;> omega) | fail) only [Nat.reduceLT,Nat.reduceLeDiff,Nat.reduceEqDiff,↓reduceIte,Int.reduceLT,Int.reduceLE,Int.reduceToNat,Int.reduceEq,Int.reduceNe,Nat.reduceAdd,Int.reduceAdd,Int.reduceSub,Int.reduceMul,Nat.reduceMul,Qp0,Qp1,Ql0,Qe0]
  refine (jOpen_any w q3 hD hg0 hg0).mono ?_
  rintro v q4 ⟨da', db', e, sw, g, l, hop, hov⟩
  obtain ⟨rfl, rfl, rfl, rfl, rfl, rfl⟩ := open_empty hc0 hc0 hop
  rcases start_out hc0 (g := 0) (l := []) (by omega) (fun t ht => by cases ht) (by decide) with ⟨_, _, _, _, _, h6⟩ | ⟨d1, ext, c1, r1, f1, x1, ⟨qm, hqm, rfl⟩, wo⟩
  · omega
  obtain ⟨hfuse, hn5⟩ := wo.fuse (f1 hfz)
  have hout := wo.out
  clear wo f1 r1 c1 d1 hop
  generalize startM (dk0 R) 0 [] = rr at *
  obtain ⟨db, e⟩ := rr
  simp only at hout hfuse hn5 hov
  cases e with
  | some k =>
    obtain ⟨e3, rfl, he3, _⟩ := hov
    have hk4 : k = 4 := by
      rcases hout with ⟨h, _⟩ | ⟨h, _⟩ | ⟨h, _⟩
      · cases h
      · injection h
      · exact absurd h hn5
    subst hk4
    obtain ⟨t3, x3, rfl⟩ := he3.held
    simp -dsimp -implicitDefEqProofs (disch := first | omega | assumption | (simp only [Option.isSome_some,Qt0]; done) | (simp only [List.length_cons,List.length_nil,List.length_append,Int.toNat_natCast] <;> omega) | fail) only [Nat.reduceLT,Nat.reduceLeDiff,Nat.reduceEqDiff,↓reduceIte,Int.reduceLT,Int.reduceLE,Int.reduceToNat,Int.reduceEq,Int.reduceNe,Nat.reduceAdd,Int.reduceAdd,Int.reduceSub,Int.reduceMul,Nat.reduceMul,Qp0,Qp1,Ql0,Qe0]
    refine (ec_is 4 he3 w).mono ?_
    rintro v h7 ⟨rfl, hz⟩
    simp -dsimp -implicitDefEqProofs (disch := first | omega | assumption | (simp only [Option.isSome_some,Qt0]; done) | (simp only [List.length_cons,List.length_nil,List.length_append,Int.toNat_natCast] <;> omega) | fail) only [Nat.reduceLT,Nat.reduceLeDiff,Nat.reduceEqDiff,↓reduceIte,Int.reduceLT,Int.reduceLE,Int.reduceToNat,Int.reduceEq,Int.reduceNe,Nat.reduceAdd,Int.reduceAdd,Int.reduceSub,Int.reduceMul,Nat.reduceMul,Qp0,Qp1,Ql0,Qe0]
    exact ⟨_, PH.Le.refl _, by trivial⟩
  | none =>
  have hP : Pres db 1 [] (begP 1 0 [] ++ [⟨4, 1, qm, []⟩]) := by
    rcases hout with ⟨_, h⟩ | ⟨h, _⟩ | ⟨h, _⟩
    · exact Pres.begun hqm x1 h
    · cases h
    · cases h
  obtain ⟨j, V, g1, rfl, hl1, hj, hV, hVn⟩ := hov
  rw [if_pos rfl] at hj
  obtain ⟨AV, cV, rfl, _⟩ := hV.len
  simp -dsimp -implicitDefEqProofs (disch := first | omega | assumption | (simp only [Option.isSome_some,Qt0]; done) | (simp only [List.length_cons,List.length_nil,List.length_append,Int.toNat_natCast] <;> omega) | fail) only [Nat.reduceLT,Nat.reduceLeDiff,Nat.reduceEqDiff,↓reduceIte,Int.reduceLT,Int.reduceLE,Int.reduceToNat,Int.reduceEq,Int.reduceNe,Nat.reduceAdd,Int.reduceAdd,Int.reduceSub,Int.reduceMul,Nat.reduceMul,Qp0,Qp1,Ql0,Qe0]
  refine PW_loopL (fun n f h' => ∃ (i p q : Nat) (dP dS : Dk) (g : Nat) (hv : List (List UInt8)) (ps : List Pt) (s : List UInt8) (h1 : PH) (V : Value), n + i = z_script.length ∧ ((p = a ∧ q = b) ∨ (p = b ∧ q = a)) ∧ JS h1 h' j p q dP dS g false ∧ Pres dP g hv ps ∧ Clean dS s ∧ Old s g ∧ dP.fuse < 0 ∧ dS.fuse < 0 ∧ Own h1 1 V hv.length (hv.map str) ∧ hv.length ≤ i * 450 ∧ f 5 = some (.pointer (some ⟨a, 0, none⟩)) ∧ f 6 = some (.pointer (some ⟨b, 0, none⟩)) ∧ f 7 = some (.pointer (some ⟨j, 0, none⟩)) ∧ f 10 = some V ∧ f 42 = some (.slice A_script z_script.length c_script) ∧ f 43 = some (.int .i64 z_script.length) ∧ f 44 = some (.int .i64 i)) (by kernel_rfl) z_script.length ⟨0, b, a, db, dk0 R, 1, [], _, [], g1, .slice none 0 0, by omega, .inr ⟨rfl, rfl⟩, hj, hP, hc0, Old.nil 1, hfuse, hfz, Own.nil g1 1, by simp, ?_, ?_, ?_, ?_, ?_, ?_, ?_⟩ ?_
  · simp -dsimp -implicitDefEqProofs (disch := first | omega | assumption | (simp only [Option.isSome_some,Qt0]; done) | (simp only [List.length_cons,List.length_nil,List.length_append,Int.toNat_natCast] <;> omega) | fail) only [Nat.reduceLT,Nat.reduceLeDiff,Nat.reduceEqDiff,↓reduceIte,Int.reduceLT,Int.reduceLE,Int.reduceToNat,Int.reduceEq,Int.reduceNe,Nat.reduceAdd,Int.reduceAdd,Int.reduceSub,Int.reduceMul,Nat.reduceMul,Qp0,Qp1,Ql0,Qe0]
  · simp -dsimp -implicitDefEqProofs (disch := first | omega | assumption | (simp only [Option.isSome_some,Qt0]; done) | (simp only [List.length_cons,List.length_nil,List.length_append,Int.toNat_natCast] <;> omega) | fail) only [Nat.reduceLT,Nat.reduceLeDiff,Nat.reduceEqDiff,↓reduceIte,Int.reduceLT,Int.reduceLE,Int.reduceToNat,Int.reduceEq,Int.reduceNe,Nat.reduceAdd,Int.reduceAdd,Int.reduceSub,Int.reduceMul,Nat.reduceMul,Qp0,Qp1,Ql0,Qe0]
  · simp -dsimp -implicitDefEqProofs (disch := first | omega | assumption | (simp only [Option.isSome_some,Qt0]; done) | (simp only [List.length_cons,List.length_nil,List.length_append,Int.toNat_natCast] <;> omega) | fail) only [Nat.reduceLT,Nat.reduceLeDiff,Nat.reduceEqDiff,↓reduceIte,Int.reduceLT,Int.reduceLE,Int.reduceToNat,Int.reduceEq,Int.reduceNe,Nat.reduceAdd,Int.reduceAdd,Int.reduceSub,Int.reduceMul,Nat.reduceMul,Qp0,Qp1,Ql0,Qe0]
  · simp -dsimp -implicitDefEqProofs (disch := first | omega | assumption | (simp only [Option.isSome_some,Qt0]; done) | (simp only [List.length_cons,List.length_nil,List.length_append,Int.toNat_natCast] <;> omega) | fail) only [Nat.reduceLT,Nat.reduceLeDiff,Nat.reduceEqDiff,↓reduceIte,Int.reduceLT,Int.reduceLE,Int.reduceToNat,Int.reduceEq,Int.reduceNe,Nat.reduceAdd,Int.reduceAdd,Int.reduceSub,Int.reduceMul,Nat.reduceMul,Qp0,Qp1,Ql0,Qe0]
  · simp -dsimp -implicitDefEqProofs (disch := first | omega | assumption | (simp only [Option.isSome_some,Qt0]; done) | (simp only [List.length_cons,List.length_nil,List.length_append,Int.toNat_natCast] <;> omega) | fail) only [Nat.reduceLT,Nat.reduceLeDiff,Nat.reduceEqDiff,↓reduceIte,Int.reduceLT,Int.reduceLE,Int.reduceToNat,Int.reduceEq,Int.reduceNe,Nat.reduceAdd,Int.reduceAdd,Int.reduceSub,Int.reduceMul,Nat.reduceMul,Qp0,Qp1,Ql0,Qe0]
  · simp -dsimp -implicitDefEqProofs (disch := first | omega | assumption | (simp only [Option.isSome_some,Qt0]; done) | (simp only [List.length_cons,List.length_nil,List.length_append,Int.toNat_natCast] <;> omega) | fail) only [Nat.reduceLT,Nat.reduceLeDiff,Nat.reduceEqDiff,↓reduceIte,Int.reduceLT,Int.reduceLE,Int.reduceToNat,Int.reduceEq,Int.reduceNe,Nat.reduceAdd,Int.reduceAdd,Int.reduceSub,Int.reduceMul,Nat.reduceMul,Qp0,Qp1,Ql0,Qe0]
  · simp -dsimp -implicitDefEqProofs (disch := first | omega | assumption | (simp only [Option.isSome_some,Qt0]; done) | (simp only [List.length_cons,List.length_nil,List.length_append,Int.toNat_natCast] <;> omega) | fail) only [Nat.reduceLT,Nat.reduceLeDiff,Nat.reduceEqDiff,↓reduceIte,Int.reduceLT,Int.reduceLE,Int.reduceToNat,Int.reduceEq,Int.reduceNe,Nat.reduceAdd,Int.reduceAdd,Int.reduceSub,Int.reduceMul,Nat.reduceMul,Qp0,Qp1,Ql0,Qe0]
    try rfl
  clear hP hj hV hVn hl1 hfuse hn5 hout
  rintro n f h' ⟨i, p, q, dP, dS, g, hv, ps, s, h1, V, hni, hside, hj, hP, hS, hO, hfP, hfS, hV, hhv, f5, f6, f7, f10, f42, f43, f44⟩ hlow'
  by_cases hi : i < z_script.length
  rotate_left
  · have e2 : decide ((i : Int) < (z_script.length : Int)) = false := decide_eq_false (by omega)
    obtain ⟨AV, cV, rfl, hcV⟩ := hV.len
    simp -dsimp -implicitDefEqProofs (disch := first | omega | assumption | (simp only [Option.isSome_some,Qt0]; done) | (simp only [List.length_cons,List.length_nil,List.length_append,Int.toNat_natCast] <;> omega) | fail) only [Nat.reduceLT,Nat.reduceLeDiff,Nat.reduceEqDiff,↓reduceIte,Int.reduceLT,Int.reduceLE,Int.reduceToNat,Int.reduceEq,Int.reduceNe,Nat.reduceAdd,Int.reduceAdd,Int.reduceSub,Int.reduceMul,Nat.reduceMul,Qp0,Qp1,Ql0,Qe0,f5,f6,f7,f10,f42,f43,f44,e2]
    rcases hside with ⟨rfl, rfl⟩ | ⟨rfl, rfl⟩
    · refine (jcrash2_any 0 [] (by decide) w h' (hj.d2.base (JS.low_le _ hj.low _)) hP.clean.good).mono ?_
      intro v k1 hd1
      simp -dsimp -implicitDefEqProofs (disch := first | omega | assumption | (simp only [Option.isSome_some,Qt0]; done) | (simp only [List.length_cons,List.length_nil,List.length_append,Int.toNat_natCast] <;> omega) | fail) only [Nat.reduceLT,Nat.reduceLeDiff,Nat.reduceEqDiff,↓reduceIte,Int.reduceLT,Int.reduceLE,Int.reduceToNat,Int.reduceEq,Int.reduceNe,Nat.reduceAdd,Int.reduceAdd,Int.reduceSub,Int.reduceMul,Nat.reduceMul,Qp0,Qp1,Ql0,Qe0,f5,f6,f7,f10,f42,f43,f44,e2]
      refine (jcrash2_any 0 [] (by decide) w k1 hd1.symm hS.good).mono ?_
      intro v k2 hd2
      have hP2 := hP.crash 0 []
      have hS2 := crash_clean hS.good hS.txt hS.safe 0 []
      generalize dP.crash 0 [] = dX at *
      generalize dS.crash 0 [] = dY at *
      simp -dsimp -implicitDefEqProofs (disch := first | omega | assumption | (simp only [Option.isSome_some,Qt0]; done) | (simp only [List.length_cons,List.length_nil,List.length_append,Int.toNat_natCast] <;> omega) | fail) only [Nat.reduceLT,Nat.reduceLeDiff,Nat.reduceEqDiff,↓reduceIte,Int.reduceLT,Int.reduceLE,Int.reduceToNat,Int.reduceEq,Int.reduceNe,Nat.reduceAdd,Int.reduceAdd,Int.reduceSub,Int.reduceMul,Nat.reduceMul,Qp0,Qp1,Ql0,Qe0,f5,f6,f7,f10,f42,f43,f44,e2]
      refine (jOpen_any w k2 hd2.symm hP2.clean.good hS2.good).mono ?_
      rintro v k3 ⟨dX', dY', e, sw, g', l', hop, hov⟩
      obtain ⟨rfl, rfl, rfl, rfl, rfl, rfl⟩ := open_left hP2 hS2.up (by rw [hS2.txt]; exact hO) hop
      obtain ⟨j2, W2, z1, rfl, hlz, hjz, hWz, _⟩ := hov
      obtain ⟨AW, cW, rfl, hcW⟩ := hWz.len
      rw [if_neg (by decide)] at hjz
      simp -dsimp -implicitDefEqProofs (disch := first | omega | assumption | (simp only [Option.isSome_some,Qt0]; done) | (simp only [List.length_cons,List.length_nil,List.length_append,Int.toNat_natCast] <;> omega) | fail) only [Nat.reduceLT,Nat.reduceLeDiff,Nat.reduceEqDiff,↓reduceIte,Int.reduceLT,Int.reduceLE,Int.reduceToNat,Int.reduceEq,Int.reduceNe,Nat.reduceAdd,Int.reduceAdd,Int.reduceSub,Int.reduceMul,Nat.reduceMul,Qp0,Qp1,Ql0,Qe0,f5,f6,f7,f10,f42,f43,f44,e2]
      refine (jsame_any w k3 AW AV cW cV _ _ ((Rv.own hWz).more hjz.le) ((Rv.own hV).more (hlz.trans hjz.le)) hcW hcV (by omega)).mono ?_
      rintro v k4 ⟨rfl, hz⟩
      simp -dsimp -implicitDefEqProofs (disch := first | omega | assumption | (simp only [Option.isSome_some,Qt0]; done) | (simp only [List.length_cons,List.length_nil,List.length_append,Int.toNat_natCast] <;> omega) | fail) only [Nat.reduceLT,Nat.reduceLeDiff,Nat.reduceEqDiff,↓reduceIte,Int.reduceLT,Int.reduceLE,Int.reduceToNat,Int.reduceEq,Int.reduceNe,Nat.reduceAdd,Int.reduceAdd,Int.reduceSub,Int.reduceMul,Nat.reduceMul,Qp0,Qp1,Ql0,Qe0,f5,f6,f7,f10,f42,f43,f44,e2]
      exact ⟨_, PH.Le.refl _, by simp⟩
    · refine (jcrash2_any 0 [] (by decide) w h' (hj.d2.base (JS.low_le _ hj.low _)).symm hS.good).mono ?_
      intro v k1 hd1
      simp -dsimp -implicitDefEqProofs (disch := first | omega | assumption | (simp only [Option.isSome_some,Qt0]; done) | (simp only [List.length_cons,List.length_nil,List.length_append,Int.toNat_natCast] <;> omega) | fail) only [Nat.reduceLT,Nat.reduceLeDiff,Nat.reduceEqDiff,↓reduceIte,Int.reduceLT,Int.reduceLE,Int.reduceToNat,Int.reduceEq,Int.reduceNe,Nat.reduceAdd,Int.reduceAdd,Int.reduceSub,Int.reduceMul,Nat.reduceMul,Qp0,Qp1,Ql0,Qe0,f5,f6,f7,f10,f42,f43,f44,e2]
      refine (jcrash2_any 0 [] (by decide) w k1 hd1.symm hP.clean.good).mono ?_
      intro v k2 hd2
      have hP2 := hP.crash 0 []
      have hS2 := crash_clean hS.good hS.txt hS.safe 0 []
      generalize dP.crash 0 [] = dX at *
      generalize dS.crash 0 [] = dY at *
      simp -dsimp -implicitDefEqProofs (disch := first | omega | assumption | (simp only [Option.isSome_some,Qt0]; done) | (simp only [List.length_cons,List.length_nil,List.length_append,Int.toNat_natCast] <;> omega) | fail) only [Nat.reduceLT,Nat.reduceLeDiff,Nat.reduceEqDiff,↓reduceIte,Int.reduceLT,Int.reduceLE,Int.reduceToNat,Int.reduceEq,Int.reduceNe,Nat.reduceAdd,Int.reduceAdd,Int.reduceSub,Int.reduceMul,Nat.reduceMul,Qp0,Qp1,Ql0,Qe0,f5,f6,f7,f10,f42,f43,f44,e2]
      refine (jOpen_any w k2 hd2.symm hS2.good hP2.clean.good).mono ?_
      rintro v k3 ⟨dY', dX', e, sw, g', l', hop, hov⟩
      obtain ⟨rfl, rfl, rfl, rfl, rfl, rfl⟩ := open_right hP2 hS2.up (by rw [hS2.txt]; exact hO) hop
      obtain ⟨j2, W2, z1, rfl, hlz, hjz, hWz, _⟩ := hov
      obtain ⟨AW, cW, rfl, hcW⟩ := hWz.len
      rw [if_pos rfl] at hjz
      simp -dsimp -implicitDefEqProofs (disch := first | omega | assumption | (simp only [Option.isSome_some,Qt0]; done) | (simp only [List.length_cons,List.length_nil,List.length_append,Int.toNat_natCast] <;> omega) | fail) only [Nat.reduceLT,Nat.reduceLeDiff,Nat.reduceEqDiff,↓reduceIte,Int.reduceLT,Int.reduceLE,Int.reduceToNat,Int.reduceEq,Int.reduceNe,Nat.reduceAdd,Int.reduceAdd,Int.reduceSub,Int.reduceMul,Nat.reduceMul,Qp0,Qp1,Ql0,Qe0,f5,f6,f7,f10,f42,f43,f44,e2]
      refine (jsame_any w k3 AW AV cW cV _ _ ((Rv.own hWz).more hjz.le) ((Rv.own hV).more (hlz.trans hjz.le)) hcW hcV (by omega)).mono ?_
      rintro v k4 ⟨rfl, hz⟩
      simp -dsimp -implicitDefEqProofs (disch := first | omega | assumption | (simp only [Option.isSome_some,Qt0]; done) | (simp only [List.length_cons,List.length_nil,List.length_append,Int.toNat_natCast] <;> omega) | fail) only [Nat.reduceLT,Nat.reduceLeDiff,Nat.reduceEqDiff,↓reduceIte,Int.reduceLT,Int.reduceLE,Int.reduceToNat,Int.reduceEq,Int.reduceNe,Nat.reduceAdd,Int.reduceAdd,Int.reduceSub,Int.reduceMul,Nat.reduceMul,Qp0,Qp1,Ql0,Qe0,f5,f6,f7,f10,f42,f43,f44,e2]
      exact ⟨_, PH.Le.refl _, by simp⟩
  have e2 : decide ((i : Int) < (z_script.length : Int)) = true := decide_eq_true (by omega)
  obtain ⟨o, hx⟩ : ∃ p, z_script[i]? = some p := ⟨_, List.getElem?_eq_getElem hi⟩
  obtain ⟨bs, os, rfl⟩ := (hr_script h').1.addr_ ojL_length (by omega) hx
  have hrd := (hr_script h').1.chunk ojL_length (by omega) hlow' hx
  have ha : allOne (ojL o) := ojL_one _
  have hgo := fun h => ((hr_script h).2 o (List.mem_of_getElem? hx))
  obtain ⟨hL450, hLt⟩ := hfit o (List.mem_of_getElem? hx)
  obtain ⟨⟨K, L, D, N, M, S⟩, B, cb⟩ := o
  unfold ojL at hrd ha
  unfold GoodO at hgo
  simp only at hrd ha hgo hL450 hLt
  have hT : (i : Int).toNat = i := Int.toNat_natCast i
  simp -dsimp -implicitDefEqProofs (disch := first | omega | assumption | (simp only [Option.isSome_some,Qt0]; done) | (simp only [List.length_cons,List.length_nil,List.length_append,Int.toNat_natCast] <;> omega) | fail) only [Nat.reduceLT,Nat.reduceLeDiff,Nat.reduceEqDiff,↓reduceIte,Int.reduceLT,Int.reduceLE,Int.reduceToNat,Int.reduceEq,Int.reduceNe,Nat.reduceAdd,Int.reduceAdd,Int.reduceSub,Int.reduceMul,Nat.reduceMul,Qp0,Qp1,Ql0,Qe0,f5,f6,f7,f10,f42,f43,f44,e2,hrd]
  refine fun xb hxb => ?_
  obtain ⟨h2, hj2, hle2, hrow2⟩ := hj.grow ((PH.Le.refl h').new xb ⟨[.int .i64 K, .slice B L.length cb, .bool D, .int .i64 N, .int .i64 M, str S], 6⟩ hxb)
  have hm2 := hrow2 xb _ hxb (by rw [PH.new_m, if_pos rfl])
  obtain ⟨h3, hh3⟩ : ∃ h3, h'.new xb ⟨[.int .i64 K, .slice B L.length cb, .bool D, .int .i64 N, .int .i64 M, str S], 6⟩ = h3 := ⟨_, rfl⟩
  rw [hh3] at hj2
  clear hrow2
  have hm3 := hj2.le.m _ _ hm2
  have hV2 := hV.more hle2
  have hsz : (if dP.down = true then 0 else (dP.l.length : Int)) = ((flatP ps).length : Nat) := by rw [hP.clean.up, hP.clean.txt]; rfl
  by_cases hK0 : K = 0
  · subst hK0
    simp -dsimp -implicitDefEqProofs (disch := first | omega | assumption | (simp only [Option.isSome_some,Qt0]; done) | (simp only [List.length_cons,List.length_nil,List.length_append,Int.toNat_natCast] <;> omega) | fail) only [Nat.reduceLT,Nat.reduceLeDiff,Nat.reduceEqDiff,↓reduceIte,Int.reduceLT,Int.reduceLE,Int.reduceToNat,Int.reduceEq,Int.reduceNe,Nat.reduceAdd,Int.reduceAdd,Int.reduceSub,Int.reduceMul,Nat.reduceMul,Qp0,Qp1,Ql0,Qe0,f5,f6,f7,f10,f42,f43,f44,List.set_cons_zero,List.set_cons_succ,List.take_zero,List.drop_succ_cons,List.drop_zero,List.drop_nil,List.nil_append,List.append_nil,List.take_succ_cons,ite_true,PH.new_new,hh3,rd_M,rdM_some,hm3]
    refine (jsize_any w h3 hj2).mono ?_
    rintro v h4 ⟨rfl, hz⟩
    obtain rfl := hz.symm
    rw [hsz]
    simp -dsimp -implicitDefEqProofs (disch := first | omega | assumption | (simp only [Option.isSome_some,Qt0]; done) | (simp only [List.length_cons,List.length_nil,List.length_append,Int.toNat_natCast] <;> omega) | fail) only [Nat.reduceLT,Nat.reduceLeDiff,Nat.reduceEqDiff,↓reduceIte,Int.reduceLT,Int.reduceLE,Int.reduceToNat,Int.reduceEq,Int.reduceNe,Nat.reduceAdd,Int.reduceAdd,Int.reduceSub,Int.reduceMul,Nat.reduceMul,Qp0,Qp1,Ql0,Qe0,f5,f6,f7,f10,f42,f43,f44,List.set_cons_zero,List.set_cons_succ,List.take_zero,List.drop_succ_cons,List.drop_zero,List.drop_nil,List.nil_append,List.append_nil,List.take_succ_cons,ite_true,PH.new_new,rd_M,rdM_some,hm3]
    refine (jgen_any w h3 hj2).mono ?_
    rintro v h4 ⟨rfl, hz⟩
    obtain rfl := hz.symm
    simp -dsimp -implicitDefEqProofs (disch := first | omega | assumption | (simp only [Option.isSome_some,Qt0]; done) | (simp only [List.length_cons,List.length_nil,List.length_append,Int.toNat_natCast] <;> omega) | fail) only [Nat.reduceLT,Nat.reduceLeDiff,Nat.reduceEqDiff,↓reduceIte,Int.reduceLT,Int.reduceLE,Int.reduceToNat,Int.reduceEq,Int.reduceNe,Nat.reduceAdd,Int.reduceAdd,Int.reduceSub,Int.reduceMul,Nat.reduceMul,Qp0,Qp1,Ql0,Qe0,f5,f6,f7,f10,f42,f43,f44,List.set_cons_zero,List.set_cons_succ,List.take_zero,List.drop_succ_cons,List.drop_zero,List.drop_nil,List.nil_append,List.append_nil,List.take_succ_cons,ite_true,PH.new_new,rd_M,rdM_some,hm3]
    obtain ⟨hgL, hgr⟩ := hgo h2
    refine (jPut_any B cb L w h3 hj2 hP.clean.good hP.g1 hgr (by omega) (put_size hP.g1.1 hP.g1.2 hL450 hLt)).low.mono ?_
    rintro v h4 ⟨⟨he, hj4⟩, hlow4⟩
    obtain ⟨hr, hfP2, hPo⟩ := put_full (l := L) hP hfP
    rw [hPo] at hj4
    have hm4 := hj4.le.m _ _ hm2
    generalize PutM dP g false L = rr at *
    obtain ⟨dQ, e⟩ := rr
    simp only at he hj4 hr hfP2
    rcases hr with ⟨rfl, ps', hP'⟩ | ⟨hk, hP'⟩
    · obtain rfl : v = .nilIface := he
      simp -dsimp -implicitDefEqProofs (disch := first | omega | assumption | (simp only [Option.isSome_some,Qt0]; done) | (simp only [List.length_cons,List.length_nil,List.length_append,Int.toNat_natCast] <;> omega) | fail) only [Nat.reduceLT,Nat.reduceLeDiff,Nat.reduceEqDiff,↓reduceIte,Int.reduceLT,Int.reduceLE,Int.reduceToNat,Int.reduceEq,Int.reduceNe,Nat.reduceAdd,Int.reduceAdd,Int.reduceSub,Int.reduceMul,Nat.reduceMul,Qp0,Qp1,Ql0,Qe0,f5,f6,f7,f10,f42,f43,f44,List.set_cons_zero,List.set_cons_succ,List.take_zero,List.drop_succ_cons,List.drop_zero,List.drop_nil,List.nil_append,List.append_nil,List.take_succ_cons,ite_true,PH.new_new,rd_M,rdM_some,hm4]
      refine Does_app el_strJ (hV2.more hj4.le) (((hgo h4).2).rs (sz := 1) hlow4 (by rw [List.length_map, Nat.mul_one]) (by omega)) (strs_one L) (by unfold maxLen; omega) (by omega) (fun v5 h5 ho5 hst5 => ?_)
      rw [← List.map_append] at ho5
      have hVb : V.ownBlock ≠ some xb := fun e => by
        have := hV.block e
        have := hj.le.top
        omega
      obtain ⟨h6, hj6, hV6, hk6⟩ := hj4.stays hV2 hst5 (by rw [← List.length_append] at ho5; exact ho5)
      have hm6 := hj6.le.m _ _ (hk6 _ _ hm2 hVb)
      simp -dsimp -implicitDefEqProofs (disch := first | omega | assumption | (simp only [Option.isSome_some,Qt0]; done) | (simp only [List.length_cons,List.length_nil,List.length_append,Int.toNat_natCast] <;> omega) | fail) only [Nat.reduceLT,Nat.reduceLeDiff,Nat.reduceEqDiff,↓reduceIte,Int.reduceLT,Int.reduceLE,Int.reduceToNat,Int.reduceEq,Int.reduceNe,Nat.reduceAdd,Int.reduceAdd,Int.reduceSub,Int.reduceMul,Nat.reduceMul,Qp0,Qp1,Ql0,Qe0,f5,f6,f7,f10,f42,f43,f44,List.set_cons_zero,List.set_cons_succ,List.take_zero,List.drop_succ_cons,List.drop_zero,List.drop_nil,List.nil_append,List.append_nil,List.take_succ_cons,ite_true,PH.new_new,rd_M,rdM_some,hm6]
      exact ⟨n - 1, _, by omega, PH.Le.refl _, i + 1, p, q, dQ, dS, g, hv ++ L, ps', s, h6, v5, by omega, hside, hj6, hP', hS, hO, hfP2, hfS, hV6, by rw [List.length_append]; omega, by trivial, by trivial, by trivial, by trivial, by trivial, by trivial, by simp⟩
    · have hsz' : (if dQ.down = true then 0 else (dQ.l.length : Int)) = ((flatP ps).length : Nat) := by rw [hP'.clean.up, hP'.clean.txt]; rfl
      obtain ⟨k, rfl, hk34⟩ : ∃ k, e = some k ∧ (k = 3 ∨ k = 4) := by rcases hk with h | h <;> exact ⟨_, h, by simp⟩
      obtain ⟨t3, x3, rfl⟩ := he.held
      simp -dsimp -implicitDefEqProofs (disch := first | omega | assumption | (simp only [Option.isSome_some,Qt0]; done) | (simp only [List.length_cons,List.length_nil,List.length_append,Int.toNat_natCast] <;> omega) | fail) only [Nat.reduceLT,Nat.reduceLeDiff,Nat.reduceEqDiff,↓reduceIte,Int.reduceLT,Int.reduceLE,Int.reduceToNat,Int.reduceEq,Int.reduceNe,Nat.reduceAdd,Int.reduceAdd,Int.reduceSub,Int.reduceMul,Nat.reduceMul,Qp0,Qp1,Ql0,Qe0,f5,f6,f7,f10,f42,f43,f44,List.set_cons_zero,List.set_cons_succ,List.take_zero,List.drop_succ_cons,List.drop_zero,List.drop_nil,List.nil_append,List.append_nil,List.take_succ_cons,ite_true,PH.new_new,rd_M,rdM_some,hm4]
      refine (jsize_any w h4 hj4).mono ?_
      rintro v h5 ⟨rfl, hz⟩
      obtain rfl := hz.symm
      rw [hsz']
      simp -dsimp -implicitDefEqProofs (disch := first | omega | assumption | (simp only [Option.isSome_some,Qt0]; done) | (simp only [List.length_cons,List.length_nil,List.length_append,Int.toNat_natCast] <;> omega) | fail) only [Nat.reduceLT,Nat.reduceLeDiff,Nat.reduceEqDiff,↓reduceIte,Int.reduceLT,Int.reduceLE,Int.reduceToNat,Int.reduceEq,Int.reduceNe,Nat.reduceAdd,Int.reduceAdd,Int.reduceSub,Int.reduceMul,Nat.reduceMul,Qp0,Qp1,Ql0,Qe0,f5,f6,f7,f10,f42,f43,f44,List.set_cons_zero,List.set_cons_succ,List.take_zero,List.drop_succ_cons,List.drop_zero,List.drop_nil,List.nil_append,List.append_nil,List.take_succ_cons,ite_true,PH.new_new,rd_M,rdM_some,hm4]
      refine (jgen_any w h4 hj4).mono ?_
      rintro v h5 ⟨rfl, hz⟩
      obtain rfl := hz.symm
      simp -dsimp -implicitDefEqProofs (disch := first | omega | assumption | (simp only [Option.isSome_some,Qt0]; done) | (simp only [List.length_cons,List.length_nil,List.length_append,Int.toNat_natCast] <;> omega) | fail) only [Nat.reduceLT,Nat.reduceLeDiff,Nat.reduceEqDiff,↓reduceIte,Int.reduceLT,Int.reduceLE,Int.reduceToNat,Int.reduceEq,Int.reduceNe,Nat.reduceAdd,Int.reduceAdd,Int.reduceSub,Int.reduceMul,Nat.reduceMul,Qp0,Qp1,Ql0,Qe0,f5,f6,f7,f10,f42,f43,f44,List.set_cons_zero,List.set_cons_succ,List.take_zero,List.drop_succ_cons,List.drop_zero,List.drop_nil,List.nil_append,List.append_nil,List.take_succ_cons,ite_true,PH.new_new,rd_M,rdM_some,hm4]
      refine (ec_is 4 he w).mono ?_
      rintro v h5 ⟨rfl, hz⟩
      obtain rfl := hz.symm
      rcases hk34 with rfl | rfl
      · simp -dsimp -implicitDefEqProofs (disch := first | omega | assumption | (simp only [Option.isSome_some,Qt0]; done) | (simp only [List.length_cons,List.length_nil,List.length_append,Int.toNat_natCast] <;> omega) | fail) only [Nat.reduceLT,Nat.reduceLeDiff,Nat.reduceEqDiff,↓reduceIte,Int.reduceLT,Int.reduceLE,Int.reduceToNat,Int.reduceEq,Int.reduceNe,Nat.reduceAdd,Int.reduceAdd,Int.reduceSub,Int.reduceMul,Nat.reduceMul,Qp0,Qp1,Ql0,Qe0,f5,f6,f7,f10,f42,f43,f44,List.set_cons_zero,List.set_cons_succ,List.take_zero,List.drop_succ_cons,List.drop_zero,List.drop_nil,List.nil_append,List.append_nil,List.take_succ_cons,ite_true,PH.new_new,rd_M,rdM_some,hm4]
        refine (ec_is 3 he w).mono ?_
        rintro v h5 ⟨rfl, hz⟩
        obtain rfl := hz.symm
        simp -dsimp -implicitDefEqProofs (disch := first | omega | assumption | (simp only [Option.isSome_some,Qt0]; done) | (simp only [List.length_cons,List.length_nil,List.length_append,Int.toNat_natCast] <;> omega) | fail) only [Nat.reduceLT,Nat.reduceLeDiff,Nat.reduceEqDiff,↓reduceIte,Int.reduceLT,Int.reduceLE,Int.reduceToNat,Int.reduceEq,Int.reduceNe,Nat.reduceAdd,Int.reduceAdd,Int.reduceSub,Int.reduceMul,Nat.reduceMul,Qp0,Qp1,Ql0,Qe0,f5,f6,f7,f10,f42,f43,f44,List.set_cons_zero,List.set_cons_succ,List.take_zero,List.drop_succ_cons,List.drop_zero,List.drop_nil,List.nil_append,List.append_nil,List.take_succ_cons,ite_true,PH.new_new,rd_M,rdM_some,hm4]
        exact ⟨n - 1, _, by omega, PH.Le.refl _, i + 1, p, q, dQ, dS, g, hv, ps, s, h2, V, by omega, hside, hj4, hP', hS, hO, hfP2, hfS, hV2, by omega, by trivial, by trivial, by trivial, by trivial, by trivial, by trivial, by simp⟩
      · simp -dsimp -implicitDefEqProofs (disch := first | omega | assumption | (simp only [Option.isSome_some,Qt0]; done) | (simp only [List.length_cons,List.length_nil,List.length_append,Int.toNat_natCast] <;> omega) | fail) only [Nat.reduceLT,Nat.reduceLeDiff,Nat.reduceEqDiff,↓reduceIte,Int.reduceLT,Int.reduceLE,Int.reduceToNat,Int.reduceEq,Int.reduceNe,Nat.reduceAdd,Int.reduceAdd,Int.reduceSub,Int.reduceMul,Nat.reduceMul,Qp0,Qp1,Ql0,Qe0,f5,f6,f7,f10,f42,f43,f44,List.set_cons_zero,List.set_cons_succ,List.take_zero,List.drop_succ_cons,List.drop_zero,List.drop_nil,List.nil_append,List.append_nil,List.take_succ_cons,ite_true,PH.new_new,rd_M,rdM_some,hm4]
        exact ⟨n - 1, _, by omega, PH.Le.refl _, i + 1, p, q, dQ, dS, g, hv, ps, s, h2, V, by omega, hside, hj4, hP', hS, hO, hfP2, hfS, hV2, by omega, by trivial, by trivial, by trivial, by trivial, by trivial, by trivial, by simp⟩
  by_cases hK1' : K = 1
  rotate_left
  · simp -dsimp -implicitDefEqProofs (disch := first | omega | assumption | (simp only [Option.isSome_some,Qt0]; done) | (simp only [List.length_cons,List.length_nil,List.length_append,Int.toNat_natCast] <;> omega) | fail) only [Nat.reduceLT,Nat.reduceLeDiff,Nat.reduceEqDiff,↓reduceIte,Int.reduceLT,Int.reduceLE,Int.reduceToNat,Int.reduceEq,Int.reduceNe,Nat.reduceAdd,Int.reduceAdd,Int.reduceSub,Int.reduceMul,Nat.reduceMul,Qp0,Qp1,Ql0,Qe0,f5,f6,f7,f10,f42,f43,f44,List.set_cons_zero,List.set_cons_succ,List.take_zero,List.drop_succ_cons,List.drop_zero,List.drop_nil,List.nil_append,List.append_nil,List.take_succ_cons,ite_true,PH.new_new,hh3,rd_M,rdM_some,hm3,hK0,hK1']
    exact ⟨n - 1, _, by omega, PH.Le.refl _, i + 1, p, q, dP, dS, g, hv, ps, s, h2, V, by omega, hside, hj2, hP, hS, hO, hfP, hfS, hV2, by omega, by trivial, by trivial, by trivial, by trivial, by trivial, by trivial, by simp⟩
  · subst hK1'
    simp -dsimp -implicitDefEqProofs (disch := first | omega | assumption | (simp only [Option.isSome_some,Qt0]; done) | (simp only [List.length_cons,List.length_nil,List.length_append,Int.toNat_natCast] <;> omega) | fail) only [Nat.reduceLT,Nat.reduceLeDiff,Nat.reduceEqDiff,↓reduceIte,Int.reduceLT,Int.reduceLE,Int.reduceToNat,Int.reduceEq,Int.reduceNe,Nat.reduceAdd,Int.reduceAdd,Int.reduceSub,Int.reduceMul,Nat.reduceMul,Qp0,Qp1,Ql0,Qe0,f5,f6,f7,f10,f42,f43,f44,List.set_cons_zero,List.set_cons_succ,List.take_zero,List.drop_succ_cons,List.drop_zero,List.drop_nil,List.nil_append,List.append_nil,List.take_succ_cons,ite_true,PH.new_new,hh3,rd_M,rdM_some,hm3]
    refine (jsize_any w h3 hj2).mono ?_
    rintro v h4 ⟨rfl, hz⟩
    obtain rfl := hz.symm
    rw [hsz]
    simp -dsimp -implicitDefEqProofs (disch := first | omega | assumption | (simp only [Option.isSome_some,Qt0]; done) | (simp only [List.length_cons,List.length_nil,List.length_append,Int.toNat_natCast] <;> omega) | fail) only [Nat.reduceLT,Nat.reduceLeDiff,Nat.reduceEqDiff,↓reduceIte,Int.reduceLT,Int.reduceLE,Int.reduceToNat,Int.reduceEq,Int.reduceNe,Nat.reduceAdd,Int.reduceAdd,Int.reduceSub,Int.reduceMul,Nat.reduceMul,Qp0,Qp1,Ql0,Qe0,f5,f6,f7,f10,f42,f43,f44,List.set_cons_zero,List.set_cons_succ,List.take_zero,List.drop_succ_cons,List.drop_zero,List.drop_nil,List.nil_append,List.append_nil,List.take_succ_cons,ite_true,PH.new_new,rd_M,rdM_some,hm3]
    refine (jgen_any w h3 hj2).mono ?_
    rintro v h4 ⟨rfl, hz⟩
    obtain rfl := hz.symm
    simp -dsimp -implicitDefEqProofs (disch := first | omega | assumption | (simp only [Option.isSome_some,Qt0]; done) | (simp only [List.length_cons,List.length_nil,List.length_append,Int.toNat_natCast] <;> omega) | fail) only [Nat.reduceLT,Nat.reduceLeDiff,Nat.reduceEqDiff,↓reduceIte,Int.reduceLT,Int.reduceLE,Int.reduceToNat,Int.reduceEq,Int.reduceNe,Nat.reduceAdd,Int.reduceAdd,Int.reduceSub,Int.reduceMul,Nat.reduceMul,Qp0,Qp1,Ql0,Qe0,f5,f6,f7,f10,f42,f43,f44,List.set_cons_zero,List.set_cons_succ,List.take_zero,List.drop_succ_cons,List.drop_zero,List.drop_nil,List.nil_append,List.append_nil,List.take_succ_cons,ite_true,PH.new_new,rd_M,rdM_some,hm3]
    obtain ⟨hgL, hgr⟩ := hgo h2
    refine (jStart_any B cb L w h3 hj2 hS.good hgr (by omega) (start_size hL450 hLt)).low.mono ?_
    rintro v h4 ⟨⟨he, hjb, hja⟩, hlow4⟩
    obtain ⟨hr, hfP2, hPo⟩ := start_full (l := L) hS hO hP.g1.1 hfS hL450
    rw [hPo] at hja hjb
    generalize StartM dS g false L = rr at *
    obtain ⟨dQ, e⟩ := rr
    simp only at he hja hjb hr hfP2
    rcases hr with ⟨rfl, ps', hP'⟩ | ⟨hk, s', hS', hO'⟩
    · obtain rfl : v = .nilIface := he
      have hj4 := hja rfl
      have hm4 := hj4.le.m _ _ hm2
      simp -dsimp -implicitDefEqProofs (disch := first | omega | assumption | (simp only [Option.isSome_some,Qt0]; done) | (simp only [List.length_cons,List.length_nil,List.length_append,Int.toNat_natCast] <;> omega) | fail) only [Nat.reduceLT,Nat.reduceLeDiff,Nat.reduceEqDiff,↓reduceIte,Int.reduceLT,Int.reduceLE,Int.reduceToNat,Int.reduceEq,Int.reduceNe,Nat.reduceAdd,Int.reduceAdd,Int.reduceSub,Int.reduceMul,Nat.reduceMul,Qp0,Qp1,Ql0,Qe0,f5,f6,f7,f10,f42,f43,f44,List.set_cons_zero,List.set_cons_succ,List.take_zero,List.drop_succ_cons,List.drop_zero,List.drop_nil,List.nil_append,List.append_nil,List.take_succ_cons,ite_true,PH.new_new,rd_M,rdM_some,hm4]
      refine Does_low (Does_zero el_strJ fun nb hnb hlow5 => ?_)
      obtain ⟨h5, hj5, hle5, hrow5⟩ := hj4.grow ((PH.Le.refl h4).new nb ⟨[], 0⟩ hnb)
      have hmn := hrow5 nb _ hnb (by rw [PH.new_m, if_pos rfl])
      generalize h4.new nb ⟨[], 0⟩ = h4' at *
      have hV5 : Own h5 1 (.slice (some ⟨nb, 0, none⟩) 0 0) 0 [] := ⟨rfl, .inr ⟨nb, 0, rfl, by omega, by unfold maxLen; omega, hmn⟩⟩
      have hm5 := hj5.le.m _ _ (hle5.m _ _ hm2)
      simp -dsimp -implicitDefEqProofs (disch := first | omega | assumption | (simp only [Option.isSome_some,Qt0]; done) | (simp only [List.length_cons,List.length_nil,List.length_append,Int.toNat_natCast] <;> omega) | fail) only [Nat.reduceLT,Nat.reduceLeDiff,Nat.reduceEqDiff,↓reduceIte,Int.reduceLT,Int.reduceLE,Int.reduceToNat,Int.reduceEq,Int.reduceNe,Nat.reduceAdd,Int.reduceAdd,Int.reduceSub,Int.reduceMul,Nat.reduceMul,Qp0,Qp1,Ql0,Qe0,f5,f6,f7,f10,f42,f43,f44,List.set_cons_zero,List.set_cons_succ,List.take_zero,List.drop_succ_cons,List.drop_zero,List.drop_nil,List.nil_append,List.append_nil,List.take_succ_cons,ite_true,PH.new_new,rd_M,rdM_some,hm5]
      refine Does_app el_strJ (hV5.more hj5.le) (((hgo h4').2).rs (sz := 1) hlow5 (by rw [List.length_map, Nat.mul_one]) (by omega)) (strs_one L) (by unfold maxLen; omega) (by omega) (fun v5 h6 ho5 hst5 => ?_)
      rw [List.nil_append, Nat.zero_add] at ho5
      obtain ⟨h7, hj6, hV6, hk6⟩ := hj5.stays hV5 hst5 ho5
      simp -dsimp -implicitDefEqProofs (disch := first | omega | assumption | (simp only [Option.isSome_some,Qt0]; done) | (simp only [List.length_cons,List.length_nil,List.length_append,Int.toNat_natCast] <;> omega) | fail) only [Nat.reduceLT,Nat.reduceLeDiff,Nat.reduceEqDiff,↓reduceIte,Int.reduceLT,Int.reduceLE,Int.reduceToNat,Int.reduceEq,Int.reduceNe,Nat.reduceAdd,Int.reduceAdd,Int.reduceSub,Int.reduceMul,Nat.reduceMul,Qp0,Qp1,Ql0,Qe0,f5,f6,f7,f10,f42,f43,f44,List.set_cons_zero,List.set_cons_succ,List.take_zero,List.drop_succ_cons,List.drop_zero,List.drop_nil,List.nil_append,List.append_nil,List.take_succ_cons,ite_true,PH.new_new]
      exact ⟨n - 1, _, by omega, PH.Le.refl _, i + 1, q, p, dQ, dP, g + 1, L, ps', _, h7, v5, by omega, hside.symm.imp (fun x => ⟨x.2, x.1⟩) (fun x => ⟨x.2, x.1⟩), hj6, hP', hP.clean, hP.old (by omega), hfP2, hfP, hV6, by omega, by trivial, by trivial, by trivial, by trivial, by trivial, by trivial, by simp⟩
    · obtain ⟨k, rfl, hk34⟩ : ∃ k, e = some k ∧ (k = 3 ∨ k = 4) := by rcases hk with h | h <;> exact ⟨_, h, by simp⟩
      have hj4 := hjb (by simp)
      have hm4 := hj4.le.m _ _ hm2
      obtain ⟨t3, x3, rfl⟩ := he.held
      simp -dsimp -implicitDefEqProofs (disch := first | omega | assumption | (simp only [Option.isSome_some,Qt0]; done) | (simp only [List.length_cons,List.length_nil,List.length_append,Int.toNat_natCast] <;> omega) | fail) only [Nat.reduceLT,Nat.reduceLeDiff,Nat.reduceEqDiff,↓reduceIte,Int.reduceLT,Int.reduceLE,Int.reduceToNat,Int.reduceEq,Int.reduceNe,Nat.reduceAdd,Int.reduceAdd,Int.reduceSub,Int.reduceMul,Nat.reduceMul,Qp0,Qp1,Ql0,Qe0,f5,f6,f7,f10,f42,f43,f44,List.set_cons_zero,List.set_cons_succ,List.take_zero,List.drop_succ_cons,List.drop_zero,List.drop_nil,List.nil_append,List.append_nil,List.take_succ_cons,ite_true,PH.new_new,rd_M,rdM_some,hm4]
      refine (jsize_any w h4 hj4).mono ?_
      rintro v h5 ⟨rfl, hz⟩
      obtain rfl := hz.symm
      rw [hsz]
      simp -dsimp -implicitDefEqProofs (disch := first | omega | assumption | (simp only [Option.isSome_some,Qt0]; done) | (simp only [List.length_cons,List.length_nil,List.length_append,Int.toNat_natCast] <;> omega) | fail) only [Nat.reduceLT,Nat.reduceLeDiff,Nat.reduceEqDiff,↓reduceIte,Int.reduceLT,Int.reduceLE,Int.reduceToNat,Int.reduceEq,Int.reduceNe,Nat.reduceAdd,Int.reduceAdd,Int.reduceSub,Int.reduceMul,Nat.reduceMul,Qp0,Qp1,Ql0,Qe0,f5,f6,f7,f10,f42,f43,f44,List.set_cons_zero,List.set_cons_succ,List.take_zero,List.drop_succ_cons,List.drop_zero,List.drop_nil,List.nil_append,List.append_nil,List.take_succ_cons,ite_true,PH.new_new,rd_M,rdM_some,hm4]
      refine (jgen_any w h4 hj4).mono ?_
      rintro v h5 ⟨rfl, hz⟩
      obtain rfl := hz.symm
      simp -dsimp -implicitDefEqProofs (disch := first | omega | assumption | (simp only [Option.isSome_some,Qt0]; done) | (simp only [List.length_cons,List.length_nil,List.length_append,Int.toNat_natCast] <;> omega) | fail) only [Nat.reduceLT,Nat.reduceLeDiff,Nat.reduceEqDiff,↓reduceIte,Int.reduceLT,Int.reduceLE,Int.reduceToNat,Int.reduceEq,Int.reduceNe,Nat.reduceAdd,Int.reduceAdd,Int.reduceSub,Int.reduceMul,Nat.reduceMul,Qp0,Qp1,Ql0,Qe0,f5,f6,f7,f10,f42,f43,f44,List.set_cons_zero,List.set_cons_succ,List.take_zero,List.drop_succ_cons,List.drop_zero,List.drop_nil,List.nil_append,List.append_nil,List.take_succ_cons,ite_true,PH.new_new,rd_M,rdM_some,hm4]
      refine (ec_is 4 he w).mono ?_
      rintro v h5 ⟨rfl, hz⟩
      obtain rfl := hz.symm
      rcases hk34 with rfl | rfl
      · simp -dsimp -implicitDefEqProofs (disch := first | omega | assumption | (simp only [Option.isSome_some,Qt0]; done) | (simp only [List.length_cons,List.length_nil,List.length_append,Int.toNat_natCast] <;> omega) | fail) only [Nat.reduceLT,Nat.reduceLeDiff,Nat.reduceEqDiff,↓reduceIte,Int.reduceLT,Int.reduceLE,Int.reduceToNat,Int.reduceEq,Int.reduceNe,Nat.reduceAdd,Int.reduceAdd,Int.reduceSub,Int.reduceMul,Nat.reduceMul,Qp0,Qp1,Ql0,Qe0,f5,f6,f7,f10,f42,f43,f44,List.set_cons_zero,List.set_cons_succ,List.take_zero,List.drop_succ_cons,List.drop_zero,List.drop_nil,List.nil_append,List.append_nil,List.take_succ_cons,ite_true,PH.new_new,rd_M,rdM_some,hm4]
        refine (ec_is 3 he w).mono ?_
        rintro v h5 ⟨rfl, hz⟩
        obtain rfl := hz.symm
        simp -dsimp -implicitDefEqProofs (disch := first | omega | assumption | (simp only [Option.isSome_some,Qt0]; done) | (simp only [List.length_cons,List.length_nil,List.length_append,Int.toNat_natCast] <;> omega) | fail) only [Nat.reduceLT,Nat.reduceLeDiff,Nat.reduceEqDiff,↓reduceIte,Int.reduceLT,Int.reduceLE,Int.reduceToNat,Int.reduceEq,Int.reduceNe,Nat.reduceAdd,Int.reduceAdd,Int.reduceSub,Int.reduceMul,Nat.reduceMul,Qp0,Qp1,Ql0,Qe0,f5,f6,f7,f10,f42,f43,f44,List.set_cons_zero,List.set_cons_succ,List.take_zero,List.drop_succ_cons,List.drop_zero,List.drop_nil,List.nil_append,List.append_nil,List.take_succ_cons,ite_true,PH.new_new,rd_M,rdM_some,hm4]
        exact ⟨n - 1, _, by omega, PH.Le.refl _, i + 1, p, q, dP, dQ, g, hv, ps, s', h2, V, by omega, hside, hj4, hP, hS', hO', hfP, hfP2, hV2, by omega, by trivial, by trivial, by trivial, by trivial, by trivial, by trivial, by simp⟩
      · simp -dsimp -implicitDefEqProofs (disch := first | omega | assumption | (simp only [Option.isSome_some,Qt0]; done) | (simp only [List.length_cons,List.length_nil,List.length_append,Int.toNat_natCast] <;> omega) | fail) only [Nat.reduceLT,Nat.reduceLeDiff,Nat.reduceEqDiff,↓reduceIte,Int.reduceLT,Int.reduceLE,Int.reduceToNat,Int.reduceEq,Int.reduceNe,Nat.reduceAdd,Int.reduceAdd,Int.reduceSub,Int.reduceMul,Nat.reduceMul,Qp0,Qp1,Ql0,Qe0,f5,f6,f7,f10,f42,f43,f44,List.set_cons_zero,List.set_cons_succ,List.take_zero,List.drop_succ_cons,List.drop_zero,List.drop_nil,List.nil_append,List.append_nil,List.take_succ_cons,ite_true,PH.new_new,rd_M,rdM_some,hm4]
        exact ⟨n - 1, _, by omega, PH.Le.refl _, i + 1, p, q, dP, dQ, g, hv, ps, s', h2, V, by omega, hside, hj4, hP, hS', hO', hfP, hfP2, hV2, by omega, by trivial, by trivial, by trivial, by trivial, by trivial, by trivial, by simp⟩
set_option maxRecDepth 100000 in
theorem liftedJournalFull (os : Os) (started : os.Started) (H : Type) (enc : TypeId × Value → H) :
    ReturnsInHanded {} Try.checked os 4 .any (Rows.journalFullSpec.pre6 enc Try.prog Try.f4 Rows.journalFullRow.domain false) (Rows.journalFullSpec.post enc Try.prog Try.f4 false true false false) := by
  refine returnsInHanded_of_change_sized (C := Try.checked) own started (by kernel_rfl) Try.func4
    (ChangeSpec.witness6 (enc := enc) (C := Try.checked) false ⟨#[], #[.int .u16 0, .slice none 0 0], []⟩ 8 (by kernel_rfl) (by kernel_rfl) (by kernel_rfl) (by kernel_rfl)) ?_
  intro W base args ds gs before hval0 hW _ hsz0 _
  have hsz : (DataW.weightsEach Try.prog (Try.f4.params.toList ++ Rows.journalFullSpec.plain.varTypes Try.prog) (ds ++ gs)).all (· ≤ reachBytes) = true := hsz0
  have hval : ∀ (j : Nat) t v, Try.f4.params[j]? = some t → args[j]? = some v → Value.okWide Try.prog W .any base t v := hval0
  have hW' := hW
  obtain ⟨p, q, hA0, hV, rfl, _, _⟩ := hW
  have hA : DataW.TrodAll enc Try.prog W 0 (fun _ => true) true Try.f4.params.toList args.toList ds p := hA0
  rw [Try.params4] at hA hval hsz
  obtain ⟨v0, v1, d0, d1, p0, p1, rfl, rfl, rfl, h0, h1⟩ := trodAll_two hA
  obtain ⟨rfl, _⟩ := trodVars_none hV
  obtain ⟨a0, rfl, rfl, rfl, w0⟩ := open_int Try.underlying48 (hval 0 _ v0 rfl rfl) h0
  obtain ⟨A1, c1, z1, rfl, hc1, hr1⟩ := open_script (hval 1 _ v1 rfl rfl) h1
  refine (walk_JournalFull a0 A1 c1 z1 W w0 hc1 hr1).mono fun en W' ⟨he, hb⟩ => ?_
  subst he
  exact ⟨_, rfl, law_post (tb := 4) laidOut hW' rfl rfl rfl rfl Try.underlying4 (by intro t ht; revert t; exact of_decide_eq_true (by kernel_rfl)) (by kernel_rfl) hb⟩

theorem provedJournalFull : Rows.JournalFullSaid :=
  OpenClaim.holds_of_wide 4 Try.f4 rfl rfl rfl rfl rfl rfl rfl ⟨rfl, rfl, rfl, rfl, rfl⟩ rfl rfl rfl rfl rfl (by kernel_rfl) Try.func4 (by kernel_rfl)
    (of_decide_eq_true (by kernel_rfl)) (by unfold Func.isWrapper; first | (rw [if_pos (by decide +kernel)]; kernel_rfl) | (rw [if_neg (by decide +kernel)]; exact ⟨rfl, rfl⟩))
    (fun os started H enc _ => liftedJournalFull os started H enc)
#print axioms provedJournalFull


end Go.Proofs.Ytblikpbaeippaaa.JnF
