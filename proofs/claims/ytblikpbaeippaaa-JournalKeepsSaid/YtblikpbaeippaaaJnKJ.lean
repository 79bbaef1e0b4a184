/- JournalKeeps: behind any crash, whichever bytes are lost, Open tells all that was acknowledged, in order, and behind that a beginning of what was under way; of a Start the elder records or the new ones. No condition. -/
import Derived.Test.YtblikpbaeippaaaM14K
import Derived.Test.YtblikpbaeippaaaM8K
import Derived.Test.YtblikpbaeippaaaM13K
import Derived.Test.YtblikpbaeippaaaChecked
namespace Go.Proofs.Ytblikpbaeippaaa.JnK
set_option linter.unusedVariables false
set_option linter.unusedSimpArgs false
open Go.ChangeShapes Go.WideShapes Go.ChangeAt Go.RowKit Base Px Wr
set_option maxRecDepth 20000 in
set_option maxHeartbeats 4000000 in
theorem walk_JournalKeeps (A_script : Option Addr) (c_script : Nat) (z_script : List Ojp) (A_l : Option Addr) (c_l : Nat) (z_l : List Cj) (w : World) (hc_script : z_script.length ≤ c_script) (hr_script : ∀ h, Scr w h A_script z_script) (hc_l : z_l.length ≤ c_l) (hr_l : ∀ h, Rv w h A_l (z_l.flatMap cjL)) (hw_l : ∀ p ∈ z_l, p.F ≤ 9223372036854775807 ∧ -9223372036854775808 ≤ p.F) : Calls Try.prog 3 #[.slice A_script z_script.length c_script, .slice A_l z_l.length c_l] w fun e w' => e = .returned (.bool true) ∧ Below w.heap.size w w' := by
  refine law_calls (args := [.slice A_script z_script.length c_script, .slice A_l z_l.length c_l]) (zIc Try.func3 rfl _ Try.ntmps3 (by kernel_rfl) (by kernel_rfl) _ Try.results3 ?_ w (Sim.empty w))
  simp -dsimp -implicitDefEqProofs (disch := first | omega | assumption | (simp only [Option.isSome_some,Qt0]; done) | (simp only [List.length_cons,List.length_nil,List.length_append,Int.toNat_natCast] <;> omega) | fail) only [Nat.reduceLT,Nat.reduceLeDiff,Nat.reduceEqDiff,↓reduceIte,Int.reduceLT,Int.reduceLE,Int.reduceToNat,Int.reduceEq,Int.reduceNe,Nat.reduceAdd,Int.reduceAdd,Int.reduceSub,Int.reduceMul,Nat.reduceMul,Qp0,Qp1,Ql0,Qe0]
  refine (awake10_any w (PH.empty w)).mono ?_
  rintro v q1 ⟨rfl, hK1⟩
  simp -dsimp -implicitDefEqProofs (disch := first | omega | assumption | (simp only [Option.isSome_some,Qt0]; done) | (simp only [List.length_cons,List.length_nil,List.length_append,Int.toNat_natCast] <;> omega) | fail) only [Nat.reduceLT,Nat.reduceLeDiff,Nat.reduceEqDiff,↓reduceIte,Int.reduceLT,Int.reduceLE,Int.reduceToNat,Int.reduceEq,Int.reduceNe,Nat.reduceAdd,Int.reduceAdd,Int.reduceSub,Int.reduceMul,Nat.reduceMul,Qp0,Qp1,Ql0,Qe0]
  refine (great10_any A_script c_script z_script w q1 (hr_script q1) hc_script).mono ?_
  rintro v q2 ⟨⟨bg, rfl, hbg⟩, hK2⟩
  cases bg
  rotate_left
  · simp -dsimp -implicitDefEqProofs (disch := first | omega | assumption | (simp only [Option.isSome_some,Qt0]; done) | (simp only [List.length_cons,List.length_nil,List.length_append,Int.toNat_natCast] <;> omega) | fail) only [Nat.reduceLT,Nat.reduceLeDiff,Nat.reduceEqDiff,↓reduceIte,Int.reduceLT,Int.reduceLE,Int.reduceToNat,Int.reduceEq,Int.reduceNe,Nat.reduceAdd,Int.reduceAdd,Int.reduceSub,Int.reduceMul,Nat.reduceMul,Qp0,Qp1,Ql0,Qe0]
    exact ⟨_, PH.Le.refl _, by trivial⟩
  obtain ⟨hz40, hfit⟩ := hbg rfl
  by_cases h10 : (z_l.length : Int) > 10
  · have d0 := decide_eq_true h10
    simp -dsimp -implicitDefEqProofs (disch := first | omega | assumption | (simp only [Option.isSome_some,Qt0]; done) | (simp only [List.length_cons,List.length_nil,List.length_append,Int.toNat_natCast] <;> omega) | fail) only [Nat.reduceLT,Nat.reduceLeDiff,Nat.reduceEqDiff,↓reduceIte,Int.reduceLT,Int.reduceLE,Int.reduceToNat,Int.reduceEq,Int.reduceNe,Nat.reduceAdd,Int.reduceAdd,Int.reduceSub,Int.reduceMul,Nat.reduceMul,Qp0,Qp1,Ql0,Qe0,d0]
    exact ⟨_, PH.Le.refl _, by trivial⟩
  have d0 := decide_eq_false h10
  simp -dsimp -implicitDefEqProofs (disch := first | omega | assumption | (simp only [Option.isSome_some,Qt0]; done) | (simp only [List.length_cons,List.length_nil,List.length_append,Int.toNat_natCast] <;> omega) | fail) only [Nat.reduceLT,Nat.reduceLeDiff,Nat.reduceEqDiff,↓reduceIte,Int.reduceLT,Int.reduceLE,Int.reduceToNat,Int.reduceEq,Int.reduceNe,Nat.reduceAdd,Int.reduceAdd,Int.reduceSub,Int.reduceMul,Nat.reduceMul,Qp0,Qp1,Ql0,Qe0,d0]
  refine zB3 (fun n f h' => ∃ i : Nat, n + i = z_l.length ∧ w.heap.size ≤ h'.top ∧ f 0 = some (.slice A_script z_script.length c_script) ∧ f 1 = some (.slice A_l z_l.length c_l) ∧ f 31 = some (.int .i64 z_l.length) ∧ f 32 = some (.int .i64 i) ∧ (∀ j y, j < i → z_l[j]? = some y → y.M0.length ≤ 5000 ∧ y.M1.length ≤ 5000)) (by kernel_rfl) z_l.length ⟨0, by omega, Nat.le_trans hK1.top hK2.top, ?_, ?_, ?_, ?_, fun j y hj => by omega⟩ ?_
  · simp -dsimp -implicitDefEqProofs (disch := first | omega | assumption | (simp only [Option.isSome_some,Qt0]; done) | (simp only [List.length_cons,List.length_nil,List.length_append,Int.toNat_natCast] <;> omega) | fail) only [Nat.reduceLT,Nat.reduceLeDiff,Nat.reduceEqDiff,↓reduceIte,Int.reduceLT,Int.reduceLE,Int.reduceToNat,Int.reduceEq,Int.reduceNe,Nat.reduceAdd,Int.reduceAdd,Int.reduceSub,Int.reduceMul,Nat.reduceMul,Qp0,Qp1,Ql0,Qe0]
  · simp -dsimp -implicitDefEqProofs (disch := first | omega | assumption | (simp only [Option.isSome_some,Qt0]; done) | (simp only [List.length_cons,List.length_nil,List.length_append,Int.toNat_natCast] <;> omega) | fail) only [Nat.reduceLT,Nat.reduceLeDiff,Nat.reduceEqDiff,↓reduceIte,Int.reduceLT,Int.reduceLE,Int.reduceToNat,Int.reduceEq,Int.reduceNe,Nat.reduceAdd,Int.reduceAdd,Int.reduceSub,Int.reduceMul,Nat.reduceMul,Qp0,Qp1,Ql0,Qe0]
  · simp -dsimp -implicitDefEqProofs (disch := first | omega | assumption | (simp only [Option.isSome_some,Qt0]; done) | (simp only [List.length_cons,List.length_nil,List.length_append,Int.toNat_natCast] <;> omega) | fail) only [Nat.reduceLT,Nat.reduceLeDiff,Nat.reduceEqDiff,↓reduceIte,Int.reduceLT,Int.reduceLE,Int.reduceToNat,Int.reduceEq,Int.reduceNe,Nat.reduceAdd,Int.reduceAdd,Int.reduceSub,Int.reduceMul,Nat.reduceMul,Qp0,Qp1,Ql0,Qe0]
  · simp -dsimp -implicitDefEqProofs (disch := first | omega | assumption | (simp only [Option.isSome_some,Qt0]; done) | (simp only [List.length_cons,List.length_nil,List.length_append,Int.toNat_natCast] <;> omega) | fail) only [Nat.reduceLT,Nat.reduceLeDiff,Nat.reduceEqDiff,↓reduceIte,Int.reduceLT,Int.reduceLE,Int.reduceToNat,Int.reduceEq,Int.reduceNe,Nat.reduceAdd,Int.reduceAdd,Int.reduceSub,Int.reduceMul,Nat.reduceMul,Qp0,Qp1,Ql0,Qe0]
    try rfl
  rintro n f h' ⟨i, hni, htop, f0, f1, f31, f32, hall⟩ hlow'
  by_cases hi : i < z_l.length
  · have e2 : decide ((i : Int) < (z_l.length : Int)) = true := decide_eq_true (by omega)
    obtain ⟨y, hx⟩ : ∃ p, z_l[i]? = some p := ⟨_, List.getElem?_eq_getElem hi⟩
    obtain ⟨bs', os, rfl⟩ := (hr_l h').addr_ zCg (by omega) hx
    have hM0 : rd w h' ⟨bs', os + i * 6 + 4, none⟩ = some (str y.M0) := by rw [zAa]; exact ((hr_l h').part_ zCg (by omega) hx).get hlow' (j := 4) rfl
    have hM1 : rd w h' ⟨bs', os + i * 6 + 5, none⟩ = some (str y.M1) := by rw [zAa]; exact ((hr_l h').part_ zCg (by omega) hx).get hlow' (j := 5) rfl
    have hT : (i : Int).toNat = i := Int.toNat_natCast i
    by_cases h50 : 5000 < (y.M0.length : Int)
    · have d1 := decide_eq_true h50
      simp -dsimp -implicitDefEqProofs (disch := first | omega | assumption | (simp only [Option.isSome_some,Qt0]; done) | (simp only [List.length_cons,List.length_nil,List.length_append,Int.toNat_natCast] <;> omega) | fail) only [Nat.reduceLT,Nat.reduceLeDiff,Nat.reduceEqDiff,↓reduceIte,Int.reduceLT,Int.reduceLE,Int.reduceToNat,Int.reduceEq,Int.reduceNe,Nat.reduceAdd,Int.reduceAdd,Int.reduceSub,Int.reduceMul,Nat.reduceMul,Qp0,Qp1,Ql0,Qe0,f0,f1,f31,f32,e2,hT,hM0,hM1,gt_iff_lt,d1]
      exact ⟨_, PH.Le.refl _, by trivial⟩
    have d1 := decide_eq_false h50
    by_cases h51 : 5000 < (y.M1.length : Int)
    · have d2 := decide_eq_true h51
      simp -dsimp -implicitDefEqProofs (disch := first | omega | assumption | (simp only [Option.isSome_some,Qt0]; done) | (simp only [List.length_cons,List.length_nil,List.length_append,Int.toNat_natCast] <;> omega) | fail) only [Nat.reduceLT,Nat.reduceLeDiff,Nat.reduceEqDiff,↓reduceIte,Int.reduceLT,Int.reduceLE,Int.reduceToNat,Int.reduceEq,Int.reduceNe,Nat.reduceAdd,Int.reduceAdd,Int.reduceSub,Int.reduceMul,Nat.reduceMul,Qp0,Qp1,Ql0,Qe0,f0,f1,f31,f32,e2,hT,hM0,hM1,gt_iff_lt,d1,d2]
      exact ⟨_, PH.Le.refl _, by trivial⟩
    have d2 := decide_eq_false h51
    simp -dsimp -implicitDefEqProofs (disch := first | omega | assumption | (simp only [Option.isSome_some,Qt0]; done) | (simp only [List.length_cons,List.length_nil,List.length_append,Int.toNat_natCast] <;> omega) | fail) only [Nat.reduceLT,Nat.reduceLeDiff,Nat.reduceEqDiff,↓reduceIte,Int.reduceLT,Int.reduceLE,Int.reduceToNat,Int.reduceEq,Int.reduceNe,Nat.reduceAdd,Int.reduceAdd,Int.reduceSub,Int.reduceMul,Nat.reduceMul,Qp0,Qp1,Ql0,Qe0,f0,f1,f31,f32,e2,hT,hM0,hM1,gt_iff_lt,d1,d2]
    refine ⟨n - 1, _, by omega, PH.Le.refl _, i + 1, by omega, htop, by trivial, by trivial, by trivial, by simp, fun j u hj hu => ?_⟩
    by_cases hji : j = i
    · subst hji
      rw [hx] at hu
      obtain rfl := Option.some.inj hu
      exact ⟨by omega, by omega⟩
    · exact hall j u (by omega) hu
  have e2 : decide ((i : Int) < (z_l.length : Int)) = false := decide_eq_false (by omega)
  have hmask : ∀ y ∈ z_l, y.M0.length ≤ 5000 ∧ y.M1.length ≤ 5000 := fun y hy => by
    obtain ⟨j, hj, rfl⟩ := List.getElem_of_mem hy
    exact hall j _ (by omega) (List.getElem?_eq_getElem hj)
  simp -dsimp -implicitDefEqProofs (disch := first | omega | assumption | (simp only [Option.isSome_some,Qt0]; done) | (simp only [List.length_cons,List.length_nil,List.length_append,Int.toNat_natCast] <;> omega) | fail) only [Nat.reduceLT,Nat.reduceLeDiff,Nat.reduceEqDiff,↓reduceIte,Int.reduceLT,Int.reduceLE,Int.reduceToNat,Int.reduceEq,Int.reduceNe,Nat.reduceAdd,Int.reduceAdd,Int.reduceSub,Int.reduceMul,Nat.reduceMul,Qp0,Qp1,Ql0,Qe0,f0,f1,f31,f32,e2]
  refine (two_any 1048576 (by omega) w _).mono ?_
  rintro v q3 ⟨a, b, rfl, hD⟩
  have hg0 := dk0_good (room := 1048576) (by omega)
  have hc0 := dk0_clean (room := 1048576) (by omega)
  have hfz : (dk0 1048576).fuse < 0 := by show (-1 : Int) < 0; omega
  simp -dsimp -implicitDefEqProofs (disch := first | omega | assumption | (simp only [Option.isSome_some,Qt0]; done) | (simp only [List.length_cons,List.length_nil,List.length_append,Int.toNat_natCast] <;> omega) | fail) only [Nat.reduceLT,Nat.reduceLeDiff,Nat.reduceEqDiff,↓reduceIte,Int.reduceLT,Int.reduceLE,Int.reduceToNat,Int.reduceEq,Int.reduceNe,Nat.reduceAdd,Int.reduceAdd,Int.reduceSub,Int.reduceMul,Nat.reduceMul,Qp0,Qp1,Ql0,Qe0]
  refine (zEt w q3 hD hg0 hg0).mono ?_
  rintro v q4 ⟨da', db', e, sw, g, l, hop, hov⟩
  obtain ⟨rfl, rfl, rfl, rfl, rfl, rfl⟩ := zIe hc0 hc0 hop
  have hst := start_ok0 hc0 hfz (by show (1000 : Int) ≤ 1048576; omega)
  rcases zFn hc0 (g := 0) (l := []) (by omega) (fun t ht => by cases ht) (by decide) with ⟨_, _, _, _, _, h6⟩ | ⟨d1, ext, c1, r1, f1, x1, ⟨qm, hqm, rfl⟩, wo⟩
  · omega
  obtain ⟨hfuse, hn5⟩ := wo.fuse (f1 hfz)
  have hout := wo.out
  clear wo f1 r1 c1 d1 hop
  generalize startM (dk0 1048576) 0 [] = rr at *
  obtain ⟨db, e⟩ := rr
  simp only at hout hfuse hn5 hov hst
  subst hst
  have hP : Pres db 1 [] (begP 1 0 [] ++ [⟨4, 1, qm, []⟩]) := by
    rcases hout with ⟨_, h⟩ | ⟨h, _⟩ | ⟨h, _⟩
    · exact Pres.begun hqm x1 h
    · cases h
    · cases h
  obtain ⟨j, V, g1, rfl, hl1, hj, hV, hVn⟩ := hov
  rw [if_pos rfl] at hj
  obtain ⟨AV, cV, rfl, _⟩ := hV.len
  simp -dsimp -implicitDefEqProofs (disch := first | omega | assumption | (simp only [Option.isSome_some,Qt0]; done) | (simp only [List.length_cons,List.length_nil,List.length_append,Int.toNat_natCast] <;> omega) | fail) only [Nat.reduceLT,Nat.reduceLeDiff,Nat.reduceEqDiff,↓reduceIte,Int.reduceLT,Int.reduceLE,Int.reduceToNat,Int.reduceEq,Int.reduceNe,Nat.reduceAdd,Int.reduceAdd,Int.reduceSub,Int.reduceMul,Nat.reduceMul,Qp0,Qp1,Ql0,Qe0]
  refine zB3 (fun n f h' => ∃ (i at_ jj p q : Nat) (dP dS : Dk) (g : Nat) (hv : List (List UInt8)) (ps : List Pt) (h1 : PH) (V : Value), n + i = z_l.length + 1 ∧ w.heap.size ≤ h1.top ∧ at_ ≤ z_script.length ∧ ((p = a ∧ q = b) ∨ (p = b ∧ q = a)) ∧ JS h1 h' jj p q dP dS g false ∧ Stnd dP g hv ps ∧ Low' dS g ∧ Own h1 1 V hv.length (hv.map str) ∧ hv.length ≤ at_ * 450 ∧ f 0 = some (.slice A_script z_script.length c_script) ∧ f 1 = some (.slice A_l z_l.length c_l) ∧ f 6 = some (.pointer (some ⟨a, 0, none⟩)) ∧ f 7 = some (.pointer (some ⟨b, 0, none⟩)) ∧ f 8 = some (.pointer (some ⟨jj, 0, none⟩)) ∧ f 11 = some V ∧ f 12 = some (.int .i64 at_) ∧ f 13 = some (.int .i64 i)) (by kernel_rfl) (z_l.length + 1) ⟨0, 0, j, b, a, db, dk0 1048576, 1, [], _, g1, .slice none 0 0, by omega, by have := hD.le.top; have := hl1.top; omega, by omega, .inr ⟨rfl, rfl⟩, hj, hP.stnd, ⟨_, hc0, Old.nil 1⟩, Own.nil g1 1, by simp, ?_, ?_, ?_, ?_, ?_, ?_, ?_, ?_⟩ ?_
  · simp -dsimp -implicitDefEqProofs (disch := first | omega | assumption | (simp only [Option.isSome_some,Qt0]; done) | (simp only [List.length_cons,List.length_nil,List.length_append,Int.toNat_natCast] <;> omega) | fail) only [Nat.reduceLT,Nat.reduceLeDiff,Nat.reduceEqDiff,↓reduceIte,Int.reduceLT,Int.reduceLE,Int.reduceToNat,Int.reduceEq,Int.reduceNe,Nat.reduceAdd,Int.reduceAdd,Int.reduceSub,Int.reduceMul,Nat.reduceMul,Qp0,Qp1,Ql0,Qe0,f0]
  · simp -dsimp -implicitDefEqProofs (disch := first | omega | assumption | (simp only [Option.isSome_some,Qt0]; done) | (simp only [List.length_cons,List.length_nil,List.length_append,Int.toNat_natCast] <;> omega) | fail) only [Nat.reduceLT,Nat.reduceLeDiff,Nat.reduceEqDiff,↓reduceIte,Int.reduceLT,Int.reduceLE,Int.reduceToNat,Int.reduceEq,Int.reduceNe,Nat.reduceAdd,Int.reduceAdd,Int.reduceSub,Int.reduceMul,Nat.reduceMul,Qp0,Qp1,Ql0,Qe0,f1]
  · simp -dsimp -implicitDefEqProofs (disch := first | omega | assumption | (simp only [Option.isSome_some,Qt0]; done) | (simp only [List.length_cons,List.length_nil,List.length_append,Int.toNat_natCast] <;> omega) | fail) only [Nat.reduceLT,Nat.reduceLeDiff,Nat.reduceEqDiff,↓reduceIte,Int.reduceLT,Int.reduceLE,Int.reduceToNat,Int.reduceEq,Int.reduceNe,Nat.reduceAdd,Int.reduceAdd,Int.reduceSub,Int.reduceMul,Nat.reduceMul,Qp0,Qp1,Ql0,Qe0]
  · simp -dsimp -implicitDefEqProofs (disch := first | omega | assumption | (simp only [Option.isSome_some,Qt0]; done) | (simp only [List.length_cons,List.length_nil,List.length_append,Int.toNat_natCast] <;> omega) | fail) only [Nat.reduceLT,Nat.reduceLeDiff,Nat.reduceEqDiff,↓reduceIte,Int.reduceLT,Int.reduceLE,Int.reduceToNat,Int.reduceEq,Int.reduceNe,Nat.reduceAdd,Int.reduceAdd,Int.reduceSub,Int.reduceMul,Nat.reduceMul,Qp0,Qp1,Ql0,Qe0]
  · simp -dsimp -implicitDefEqProofs (disch := first | omega | assumption | (simp only [Option.isSome_some,Qt0]; done) | (simp only [List.length_cons,List.length_nil,List.length_append,Int.toNat_natCast] <;> omega) | fail) only [Nat.reduceLT,Nat.reduceLeDiff,Nat.reduceEqDiff,↓reduceIte,Int.reduceLT,Int.reduceLE,Int.reduceToNat,Int.reduceEq,Int.reduceNe,Nat.reduceAdd,Int.reduceAdd,Int.reduceSub,Int.reduceMul,Nat.reduceMul,Qp0,Qp1,Ql0,Qe0]
  · simp -dsimp -implicitDefEqProofs (disch := first | omega | assumption | (simp only [Option.isSome_some,Qt0]; done) | (simp only [List.length_cons,List.length_nil,List.length_append,Int.toNat_natCast] <;> omega) | fail) only [Nat.reduceLT,Nat.reduceLeDiff,Nat.reduceEqDiff,↓reduceIte,Int.reduceLT,Int.reduceLE,Int.reduceToNat,Int.reduceEq,Int.reduceNe,Nat.reduceAdd,Int.reduceAdd,Int.reduceSub,Int.reduceMul,Nat.reduceMul,Qp0,Qp1,Ql0,Qe0]
  · simp -dsimp -implicitDefEqProofs (disch := first | omega | assumption | (simp only [Option.isSome_some,Qt0]; done) | (simp only [List.length_cons,List.length_nil,List.length_append,Int.toNat_natCast] <;> omega) | fail) only [Nat.reduceLT,Nat.reduceLeDiff,Nat.reduceEqDiff,↓reduceIte,Int.reduceLT,Int.reduceLE,Int.reduceToNat,Int.reduceEq,Int.reduceNe,Nat.reduceAdd,Int.reduceAdd,Int.reduceSub,Int.reduceMul,Nat.reduceMul,Qp0,Qp1,Ql0,Qe0]
  · simp -dsimp -implicitDefEqProofs (disch := first | omega | assumption | (simp only [Option.isSome_some,Qt0]; done) | (simp only [List.length_cons,List.length_nil,List.length_append,Int.toNat_natCast] <;> omega) | fail) only [Nat.reduceLT,Nat.reduceLeDiff,Nat.reduceEqDiff,↓reduceIte,Int.reduceLT,Int.reduceLE,Int.reduceToNat,Int.reduceEq,Int.reduceNe,Nat.reduceAdd,Int.reduceAdd,Int.reduceSub,Int.reduceMul,Nat.reduceMul,Qp0,Qp1,Ql0,Qe0]
    try rfl
  clear hP hj hV hVn hl1 hfuse hn5 hout
  rintro n f h' ⟨i, at_, jj, p, q, dP, dS, g, hv, ps, h1, V, hni, htop, hat, hside, hj, hP, hS, hV, hhv, f0, f1, f6, f7, f8, f11, f12, f13⟩ hlow'
  by_cases hi : i ≤ z_l.length
  rotate_left
  · have e2 : decide ((i : Int) ≤ (z_l.length : Int)) = false := decide_eq_false (by omega)
    simp -dsimp -implicitDefEqProofs (disch := first | omega | assumption | (simp only [Option.isSome_some,Qt0]; done) | (simp only [List.length_cons,List.length_nil,List.length_append,Int.toNat_natCast] <;> omega) | fail) only [Nat.reduceLT,Nat.reduceLeDiff,Nat.reduceEqDiff,↓reduceIte,Int.reduceLT,Int.reduceLE,Int.reduceToNat,Int.reduceEq,Int.reduceNe,Nat.reduceAdd,Int.reduceAdd,Int.reduceSub,Int.reduceMul,Nat.reduceMul,Qp0,Qp1,Ql0,Qe0,f0,f1,f6,f7,f8,f11,f12,f13,e2]
    exact ⟨_, PH.Le.refl _, by simp⟩
  have e2 : decide ((i : Int) ≤ (z_l.length : Int)) = true := decide_eq_true (by omega)
  apply PW_once (P := Try.prog) (w0 := w) (N := 226) (St := fun f h' => ∃ (dP dS : Dk) (h1 : PH), w.heap.size ≤ h1.top ∧ JS h1 h' jj p q dP dS g false ∧ Stnd dP g hv ps ∧ Low' dS g ∧ Own h1 1 V hv.length (hv.map str) ∧ f 0 = some (.slice A_script z_script.length c_script) ∧ f 1 = some (.slice A_l z_l.length c_l) ∧ f 6 = some (.pointer (some ⟨a, 0, none⟩)) ∧ f 7 = some (.pointer (some ⟨b, 0, none⟩)) ∧ f 8 = some (.pointer (some ⟨jj, 0, none⟩)) ∧ f 11 = some V ∧ f 12 = some (.int .i64 at_) ∧ f 13 = some (.int .i64 i) ∧ f 14 = some (.slice none 0 0) ∧ f 15 = some (.bool false))
  case main =>
    intro hk
    by_cases hi2 : i < z_l.length
    rotate_left
    · have e3 : decide ((i : Int) < (z_l.length : Int)) = false := decide_eq_false (by omega)
      simp -dsimp -implicitDefEqProofs (disch := first | omega | assumption | (simp only [Option.isSome_some,Qt0]; done) | (simp only [List.length_cons,List.length_nil,List.length_append,Int.toNat_natCast] <;> omega) | fail) only [Nat.reduceLT,Nat.reduceLeDiff,Nat.reduceEqDiff,↓reduceIte,Int.reduceLT,Int.reduceLE,Int.reduceToNat,Int.reduceEq,Int.reduceNe,Nat.reduceAdd,Int.reduceAdd,Int.reduceSub,Int.reduceMul,Nat.reduceMul,Qp0,Qp1,Ql0,Qe0,f0,f1,f6,f7,f8,f11,f12,f13,e2,e3]
      refine hk _ _ ⟨dP, dS, h1, htop, hj, hP, hS, hV, ?_, ?_, ?_, ?_, ?_, ?_, ?_, ?_, ?_, ?_⟩
      all_goals (first | rfl | trivial | simp [f0, f1, f6, f7, f8, f11, f12, f13])
    have e3 : decide ((i : Int) < (z_l.length : Int)) = true := decide_eq_true (by omega)
    obtain ⟨y, hx⟩ : ∃ p, z_l[i]? = some p := ⟨_, List.getElem?_eq_getElem hi2⟩
    obtain ⟨bs', os, rfl⟩ := (hr_l h').addr_ zCg (by omega) hx
    have hF : rd w h' ⟨bs', os + i * 6, none⟩ = some (.int .i64 y.F) := by rw [zAa]; exact ((hr_l h').part_ zCg (by omega) hx).get hlow' (j := 0) rfl
    have hDv : rd w h' ⟨bs', os + i * 6 + 1, none⟩ = some (.bool y.D) := by rw [zAa]; exact ((hr_l h').part_ zCg (by omega) hx).get hlow' (j := 1) rfl
    have hT : (i : Int).toNat = i := Int.toNat_natCast i
    obtain ⟨nf, hnf⟩ : ∃ nf : Int, (if 0 > y.F then 0 else y.F) % 30 = nf := ⟨_, rfl⟩
    have hn30 : nf ≤ 30 := by omega
    cases hyD : y.D with
    | false =>
      rw [hyD] at hDv
      simp -dsimp -implicitDefEqProofs (disch := first | omega | assumption | (simp only [Option.isSome_some,Qt0]; done) | (simp only [List.length_cons,List.length_nil,List.length_append,Int.toNat_natCast] <;> omega) | fail) only [Nat.reduceLT,Nat.reduceLeDiff,Nat.reduceEqDiff,↓reduceIte,Int.reduceLT,Int.reduceLE,Int.reduceToNat,Int.reduceEq,Int.reduceNe,Nat.reduceAdd,Int.reduceAdd,Int.reduceSub,Int.reduceMul,Nat.reduceMul,Qp0,Qp1,Ql0,Qe0,f0,f1,f6,f7,f8,f11,f12,f13,e2,e3,hT,hF,hDv,hnf]
      refine (zHz (x := a) (by rcases hside with ⟨h, _⟩ | ⟨_, h⟩ <;> simp [h]) nf hn30 w h' hj hP hS).mono ?_
      rintro v h2 ⟨dP', dS', hj', hP', hS'⟩
      simp -dsimp -implicitDefEqProofs (disch := first | omega | assumption | (simp only [Option.isSome_some,Qt0]; done) | (simp only [List.length_cons,List.length_nil,List.length_append,Int.toNat_natCast] <;> omega) | fail) only [Nat.reduceLT,Nat.reduceLeDiff,Nat.reduceEqDiff,↓reduceIte,Int.reduceLT,Int.reduceLE,Int.reduceToNat,Int.reduceEq,Int.reduceNe,Nat.reduceAdd,Int.reduceAdd,Int.reduceSub,Int.reduceMul,Nat.reduceMul,Qp0,Qp1,Ql0,Qe0,f0,f1,f6,f7,f8,f11,f12,f13]
      refine hk _ _ ⟨dP', dS', h1, htop, hj', hP', hS', hV, ?_, ?_, ?_, ?_, ?_, ?_, ?_, ?_, ?_, ?_⟩
      all_goals (first | rfl | trivial | simp [f0, f1, f6, f7, f8, f11, f12, f13])
    | true =>
      rw [hyD] at hDv
      simp -dsimp -implicitDefEqProofs (disch := first | omega | assumption | (simp only [Option.isSome_some,Qt0]; done) | (simp only [List.length_cons,List.length_nil,List.length_append,Int.toNat_natCast] <;> omega) | fail) only [Nat.reduceLT,Nat.reduceLeDiff,Nat.reduceEqDiff,↓reduceIte,Int.reduceLT,Int.reduceLE,Int.reduceToNat,Int.reduceEq,Int.reduceNe,Nat.reduceAdd,Int.reduceAdd,Int.reduceSub,Int.reduceMul,Nat.reduceMul,Qp0,Qp1,Ql0,Qe0,f0,f1,f6,f7,f8,f11,f12,f13,e2,e3,hT,hF,hDv,hnf]
      refine (zHz (x := b) (by rcases hside with ⟨_, h⟩ | ⟨h, _⟩ <;> simp [h]) nf hn30 w h' hj hP hS).mono ?_
      rintro v h2 ⟨dP', dS', hj', hP', hS'⟩
      simp -dsimp -implicitDefEqProofs (disch := first | omega | assumption | (simp only [Option.isSome_some,Qt0]; done) | (simp only [List.length_cons,List.length_nil,List.length_append,Int.toNat_natCast] <;> omega) | fail) only [Nat.reduceLT,Nat.reduceLeDiff,Nat.reduceEqDiff,↓reduceIte,Int.reduceLT,Int.reduceLE,Int.reduceToNat,Int.reduceEq,Int.reduceNe,Nat.reduceAdd,Int.reduceAdd,Int.reduceSub,Int.reduceMul,Nat.reduceMul,Qp0,Qp1,Ql0,Qe0,f0,f1,f6,f7,f8,f11,f12,f13]
      refine hk _ _ ⟨dP', dS', h1, htop, hj', hP', hS', hV, ?_, ?_, ?_, ?_, ?_, ?_, ?_, ?_, ?_, ?_⟩
      all_goals (first | rfl | trivial | simp [f0, f1, f6, f7, f8, f11, f12, f13])
  case key =>
  clear f0 f1 f6 f7 f8 f11 f12 f13 htop hj hP hS hV
  clear dP dS h1
  rintro f2 h2 ⟨dP, dS, h1, htop, hj, hP, hS, hV, f0, f1, f6, f7, f8, f11, f12, f13, f14, f15⟩
  refine zCo (Q := fun e f h3 => (e = .exit 4 ∧ EndK w A_script c_script z_script.length A_l c_l z_l.length a b i f h3) ∨ (e = .ret ∧ f 4 = some (.bool true))) ?_ (fun e f h3 hE => ?_)
  · refine zB3 (fun m f h' => ∃ (k jj p q : Nat) (dP dS : Dk) (g : Nat) (hv : List (List UInt8)) (ps : List Pt) (h1 : PH) (V : Value), m + k = z_script.length ∧ w.heap.size ≤ h'.top ∧ ((p = a ∧ q = b) ∨ (p = b ∧ q = a)) ∧ JS h1 h' jj p q dP dS g false ∧ Stnd dP g hv ps ∧ Low' dS g ∧ Own h1 1 V hv.length (hv.map str) ∧ hv.length ≤ k * 450 ∧ f 0 = some (.slice A_script z_script.length c_script) ∧ f 1 = some (.slice A_l z_l.length c_l) ∧ f 6 = some (.pointer (some ⟨a, 0, none⟩)) ∧ f 7 = some (.pointer (some ⟨b, 0, none⟩)) ∧ f 8 = some (.pointer (some ⟨jj, 0, none⟩)) ∧ f 11 = some V ∧ f 12 = some (.int .i64 k) ∧ f 13 = some (.int .i64 i) ∧ f 14 = some (.slice none 0 0) ∧ f 15 = some (.bool false)) (by kernel_rfl) (z_script.length - at_) ⟨at_, jj, p, q, dP, dS, g, hv, ps, h1, V, by omega, Nat.le_trans htop hj.le.top, hside, hj, hP, hS, hV, hhv, f0, f1, f6, f7, f8, f11, f12, f13, f14, f15⟩ ?_
    clear htop hj hP hS hV hhv hside hat f0 f1 f6 f7 f8 f11 f12 f13 f14 f15
    clear dP dS h1 V hv ps g p q jj f2 h2
    rintro m f h' ⟨k, jj, p, q, dP, dS, g, hv, ps, h1, V, hmk, htop, hside, hj, hP, hS, hV, hhv, f0, f1, f6, f7, f8, f11, f12, f13, f14, f15⟩ hlow'
    by_cases hkl : k < z_script.length
    rotate_left
    · have e4 : decide ((k : Int) < (z_script.length : Int)) = false := decide_eq_false (by omega)
      simp -dsimp -implicitDefEqProofs (disch := first | omega | assumption | (simp only [Option.isSome_some,Qt0]; done) | (simp only [List.length_cons,List.length_nil,List.length_append,Int.toNat_natCast] <;> omega) | fail) only [Nat.reduceLT,Nat.reduceLeDiff,Nat.reduceEqDiff,↓reduceIte,Int.reduceLT,Int.reduceLE,Int.reduceToNat,Int.reduceEq,Int.reduceNe,Nat.reduceAdd,Int.reduceAdd,Int.reduceSub,Int.reduceMul,Nat.reduceMul,Qp0,Qp1,Ql0,Qe0,f0,f1,f6,f7,f8,f11,f12,f13,f14,f15,e4]
      obtain ⟨s, hcS, hoS⟩ := hS
      obtain ⟨dA, dB, hd2, gA, gB, hcr⟩ := bef_side hside (hj.d2.base (JS.low_le _ hj.low _)) hP.clean.good hcS.good (.quiet [] false hP.clean.rest hP.gens hcS.rest hoS)
      refine .inl ⟨by trivial, k, dA, dB, hv, [], false, none, 0, h1, V, hlow', htop, by omega, hd2, gA, gB, hcr, hV, by simp; omega, by simp, fun h => Rv.nil _ _ _, ?_, ?_, ?_, ?_, ?_, ?_, ?_, ?_, ?_⟩
      all_goals (first | rfl | trivial | simp [f0, f1, f6, f7, f8, f11, f12, f13, f14, f15])
    have e4 : decide ((k : Int) < (z_script.length : Int)) = true := decide_eq_true (by omega)
    obtain ⟨o, hx⟩ : ∃ p, z_script[k]? = some p := ⟨_, List.getElem?_eq_getElem hkl⟩
    obtain ⟨bs, os, rfl⟩ := (hr_script h').1.addr_ zEd (by omega) hx
    have hrd := (hr_script h').1.chunk zEd (by omega) hlow' hx
    have ha : allOne (ojL o) := ojL_one _
    have hgo := fun h => ((hr_script h).2 o (List.mem_of_getElem? hx))
    obtain ⟨hL450, hLt⟩ := hfit o (List.mem_of_getElem? hx)
    obtain ⟨⟨K, L, D, N, M, S⟩, B, cb⟩ := o
    unfold ojL at hrd ha
    unfold GoodO at hgo
    simp only at hrd ha hgo hL450 hLt
    have hT : (k : Int).toNat = k := Int.toNat_natCast k
    simp -dsimp -implicitDefEqProofs (disch := first | omega | assumption | (simp only [Option.isSome_some,Qt0]; done) | (simp only [List.length_cons,List.length_nil,List.length_append,Int.toNat_natCast] <;> omega) | fail) only [Nat.reduceLT,Nat.reduceLeDiff,Nat.reduceEqDiff,↓reduceIte,Int.reduceLT,Int.reduceLE,Int.reduceToNat,Int.reduceEq,Int.reduceNe,Nat.reduceAdd,Int.reduceAdd,Int.reduceSub,Int.reduceMul,Nat.reduceMul,Qp0,Qp1,Ql0,Qe0,f0,f1,f6,f7,f8,f11,f12,f13,f14,f15,e4,hrd]
    refine fun xb hxb => ?_
    obtain ⟨h2, hj2, hle2, hrow2, ht2⟩ := hj.grow2 ((PH.Le.refl h').new xb ⟨[.int .i64 K, .slice B L.length cb, .bool D, .int .i64 N, .int .i64 M, str S], 6⟩ hxb)
    have hm2 := hrow2 xb _ hxb (by rw [PH.new_m, if_pos rfl])
    obtain ⟨h3, hh3⟩ : ∃ h3, h'.new xb ⟨[.int .i64 K, .slice B L.length cb, .bool D, .int .i64 N, .int .i64 M, str S], 6⟩ = h3 := ⟨_, rfl⟩
    rw [hh3] at hj2 ht2
    have ht3 : w.heap.size ≤ h3.top := by rw [← hh3]; simp only [PH.new_top]; omega
    clear hrow2
    have hm3 := hj2.le.m _ _ hm2
    have hV2 := hV.more hle2
    by_cases hK0 : K = 0
    · subst hK0
      simp -dsimp -implicitDefEqProofs (disch := first | omega | assumption | (simp only [Option.isSome_some,Qt0]; done) | (simp only [List.length_cons,List.length_nil,List.length_append,Int.toNat_natCast] <;> omega) | fail) only [Nat.reduceLT,Nat.reduceLeDiff,Nat.reduceEqDiff,↓reduceIte,Int.reduceLT,Int.reduceLE,Int.reduceToNat,Int.reduceEq,Int.reduceNe,Nat.reduceAdd,Int.reduceAdd,Int.reduceSub,Int.reduceMul,Nat.reduceMul,Qp0,Qp1,Ql0,Qe0,f0,f1,f6,f7,f8,f11,f12,f13,f14,f15,List.set_cons_zero,List.set_cons_succ,List.take_zero,List.drop_succ_cons,List.drop_zero,List.drop_nil,List.nil_append,List.append_nil,List.take_succ_cons,ite_true,PH.new_new,hh3,zAa,zAb,hm3]
      obtain ⟨hgL, hgr⟩ := hgo h2
      refine (jPut_any B cb L w h3 hj2 hP.clean.good hP.gens.g1 hgr (by omega) (put_size hP.gens.g1.1 hP.gens.g1.2 hL450 hLt)).low.mono ?_
      rintro v h4 ⟨⟨he, hj4⟩, hlow4⟩
      obtain ⟨s, hcS, hoS⟩ := hS
      have hr := put_keep (l := L) hP hcS.rest hoS
      have hm4 := hj4.le.m _ _ hm2
      generalize PutM dP g false L = rr at *
      obtain ⟨dQ, e⟩ := rr
      simp only at he hj4 hr
      rcases hr with ⟨rfl, hPo, ps', hP'⟩ | ⟨rfl, hPo, rfl⟩ | rfl | ⟨rfl, hB, hg⟩
      · rw [hPo] at hj4
        obtain rfl : v = .nilIface := he
        simp -dsimp -implicitDefEqProofs (disch := first | omega | assumption | (simp only [Option.isSome_some,Qt0]; done) | (simp only [List.length_cons,List.length_nil,List.length_append,Int.toNat_natCast] <;> omega) | fail) only [Nat.reduceLT,Nat.reduceLeDiff,Nat.reduceEqDiff,↓reduceIte,Int.reduceLT,Int.reduceLE,Int.reduceToNat,Int.reduceEq,Int.reduceNe,Nat.reduceAdd,Int.reduceAdd,Int.reduceSub,Int.reduceMul,Nat.reduceMul,Qp0,Qp1,Ql0,Qe0,f0,f1,f6,f7,f8,f11,f12,f13,f14,f15,List.set_cons_zero,List.set_cons_succ,List.take_zero,List.drop_succ_cons,List.drop_zero,List.drop_nil,List.nil_append,List.append_nil,List.take_succ_cons,ite_true,PH.new_new,zAa,zAb,hm4]
        refine zBk zC0 (hV2.more hj4.le) (((hgo h4).2).rs (sz := 1) hlow4 (by rw [List.length_map, Nat.mul_one]) (by omega)) (strs_one L) (by unfold maxLen; omega) (by omega) (fun v5 h5 ho5 hst5 => ?_)
        rw [← List.map_append] at ho5
        have hVb : V.ownBlock ≠ some xb := fun e => by
          have := hV.block e
          have := hj.le.top
          omega
        obtain ⟨h6, hj6, hV6, hk6⟩ := hj4.stays hV2 hst5 (by rw [← List.length_append] at ho5; exact ho5)
        have hm6 := hj6.le.m _ _ (hk6 _ _ hm2 hVb)
        simp -dsimp -implicitDefEqProofs (disch := first | omega | assumption | (simp only [Option.isSome_some,Qt0]; done) | (simp only [List.length_cons,List.length_nil,List.length_append,Int.toNat_natCast] <;> omega) | fail) only [Nat.reduceLT,Nat.reduceLeDiff,Nat.reduceEqDiff,↓reduceIte,Int.reduceLT,Int.reduceLE,Int.reduceToNat,Int.reduceEq,Int.reduceNe,Nat.reduceAdd,Int.reduceAdd,Int.reduceSub,Int.reduceMul,Nat.reduceMul,Qp0,Qp1,Ql0,Qe0,f0,f1,f6,f7,f8,f11,f12,f13,f14,f15,List.set_cons_zero,List.set_cons_succ,List.take_zero,List.drop_succ_cons,List.drop_zero,List.drop_nil,List.nil_append,List.append_nil,List.take_succ_cons,ite_true,PH.new_new,zAa,zAb,hm6]
        refine ⟨m - 1, _, by omega, PH.Le.refl _, k + 1, jj, p, q, dQ, dS, g, hv ++ L, ps', h6, v5, by omega, by have := hj4.le.top; have := hst5.top; omega, hside, hj6, hP', ⟨s, hcS, hoS⟩, hV6, by rw [List.length_append]; omega, ?_, ?_, ?_, ?_, ?_, ?_, ?_, ?_, ?_, ?_⟩
        all_goals (first | rfl | trivial | simp [f0, f1, f6, f7, f8, f11, f12, f13, f14, f15])
      · rw [hPo] at hj4
        obtain ⟨t3, x3, rfl⟩ := he.held
        simp -dsimp -implicitDefEqProofs (disch := first | omega | assumption | (simp only [Option.isSome_some,Qt0]; done) | (simp only [List.length_cons,List.length_nil,List.length_append,Int.toNat_natCast] <;> omega) | fail) only [Nat.reduceLT,Nat.reduceLeDiff,Nat.reduceEqDiff,↓reduceIte,Int.reduceLT,Int.reduceLE,Int.reduceToNat,Int.reduceEq,Int.reduceNe,Nat.reduceAdd,Int.reduceAdd,Int.reduceSub,Int.reduceMul,Nat.reduceMul,Qp0,Qp1,Ql0,Qe0,f0,f1,f6,f7,f8,f11,f12,f13,f14,f15,List.set_cons_zero,List.set_cons_succ,List.take_zero,List.drop_succ_cons,List.drop_zero,List.drop_nil,List.nil_append,List.append_nil,List.take_succ_cons,ite_true,PH.new_new,zAa,zAb,hm4]
        refine (zBa 3 he w).mono ?_
        rintro v h5 ⟨rfl, hz⟩
        obtain rfl := hz.symm
        simp -dsimp -implicitDefEqProofs (disch := first | omega | assumption | (simp only [Option.isSome_some,Qt0]; done) | (simp only [List.length_cons,List.length_nil,List.length_append,Int.toNat_natCast] <;> omega) | fail) only [Nat.reduceLT,Nat.reduceLeDiff,Nat.reduceEqDiff,↓reduceIte,Int.reduceLT,Int.reduceLE,Int.reduceToNat,Int.reduceEq,Int.reduceNe,Nat.reduceAdd,Int.reduceAdd,Int.reduceSub,Int.reduceMul,Nat.reduceMul,Qp0,Qp1,Ql0,Qe0,f0,f1,f6,f7,f8,f11,f12,f13,f14,f15,List.set_cons_zero,List.set_cons_succ,List.take_zero,List.drop_succ_cons,List.drop_zero,List.drop_nil,List.nil_append,List.append_nil,List.take_succ_cons,ite_true,PH.new_new,zAa,zAb,hm4]
        refine (zBa 5 he w).mono ?_
        rintro v h5 ⟨rfl, hz⟩
        obtain rfl := hz.symm
        simp -dsimp -implicitDefEqProofs (disch := first | omega | assumption | (simp only [Option.isSome_some,Qt0]; done) | (simp only [List.length_cons,List.length_nil,List.length_append,Int.toNat_natCast] <;> omega) | fail) only [Nat.reduceLT,Nat.reduceLeDiff,Nat.reduceEqDiff,↓reduceIte,Int.reduceLT,Int.reduceLE,Int.reduceToNat,Int.reduceEq,Int.reduceNe,Nat.reduceAdd,Int.reduceAdd,Int.reduceSub,Int.reduceMul,Nat.reduceMul,Qp0,Qp1,Ql0,Qe0,f0,f1,f6,f7,f8,f11,f12,f13,f14,f15,List.set_cons_zero,List.set_cons_succ,List.take_zero,List.drop_succ_cons,List.drop_zero,List.drop_nil,List.nil_append,List.append_nil,List.take_succ_cons,ite_true,PH.new_new,zAa,zAb,hm4]
        refine ⟨m - 1, _, by omega, PH.Le.refl _, k + 1, jj, p, q, dQ, dS, g, hv, ps, h2, V, by omega, by have := hj4.le.top; omega, hside, hj4, hP, ⟨s, hcS, hoS⟩, hV2, by omega, ?_, ?_, ?_, ?_, ?_, ?_, ?_, ?_, ?_, ?_⟩
        all_goals (first | rfl | trivial | simp [f0, f1, f6, f7, f8, f11, f12, f13, f14, f15])
      · obtain ⟨t3, x3, rfl⟩ := he.held
        simp -dsimp -implicitDefEqProofs (disch := first | omega | assumption | (simp only [Option.isSome_some,Qt0]; done) | (simp only [List.length_cons,List.length_nil,List.length_append,Int.toNat_natCast] <;> omega) | fail) only [Nat.reduceLT,Nat.reduceLeDiff,Nat.reduceEqDiff,↓reduceIte,Int.reduceLT,Int.reduceLE,Int.reduceToNat,Int.reduceEq,Int.reduceNe,Nat.reduceAdd,Int.reduceAdd,Int.reduceSub,Int.reduceMul,Nat.reduceMul,Qp0,Qp1,Ql0,Qe0,f0,f1,f6,f7,f8,f11,f12,f13,f14,f15,List.set_cons_zero,List.set_cons_succ,List.take_zero,List.drop_succ_cons,List.drop_zero,List.drop_nil,List.nil_append,List.append_nil,List.take_succ_cons,ite_true,PH.new_new,zAa,zAb,hm4]
        refine (zBa 3 he w).mono ?_
        rintro v h5 ⟨rfl, hz⟩
        obtain rfl := hz.symm
        simp -dsimp -implicitDefEqProofs (disch := first | omega | assumption | (simp only [Option.isSome_some,Qt0]; done) | (simp only [List.length_cons,List.length_nil,List.length_append,Int.toNat_natCast] <;> omega) | fail) only [Nat.reduceLT,Nat.reduceLeDiff,Nat.reduceEqDiff,↓reduceIte,Int.reduceLT,Int.reduceLE,Int.reduceToNat,Int.reduceEq,Int.reduceNe,Nat.reduceAdd,Int.reduceAdd,Int.reduceSub,Int.reduceMul,Nat.reduceMul,Qp0,Qp1,Ql0,Qe0,f0,f1,f6,f7,f8,f11,f12,f13,f14,f15,List.set_cons_zero,List.set_cons_succ,List.take_zero,List.drop_succ_cons,List.drop_zero,List.drop_nil,List.nil_append,List.append_nil,List.take_succ_cons,ite_true,PH.new_new,zAa,zAb,hm4]
        refine (zBa 5 he w).mono ?_
        rintro v h5 ⟨rfl, hz⟩
        obtain rfl := hz.symm
        simp -dsimp -implicitDefEqProofs (disch := first | omega | assumption | (simp only [Option.isSome_some,Qt0]; done) | (simp only [List.length_cons,List.length_nil,List.length_append,Int.toNat_natCast] <;> omega) | fail) only [Nat.reduceLT,Nat.reduceLeDiff,Nat.reduceEqDiff,↓reduceIte,Int.reduceLT,Int.reduceLE,Int.reduceToNat,Int.reduceEq,Int.reduceNe,Nat.reduceAdd,Int.reduceAdd,Int.reduceSub,Int.reduceMul,Nat.reduceMul,Qp0,Qp1,Ql0,Qe0,f0,f1,f6,f7,f8,f11,f12,f13,f14,f15,List.set_cons_zero,List.set_cons_succ,List.take_zero,List.drop_succ_cons,List.drop_zero,List.drop_nil,List.nil_append,List.append_nil,List.take_succ_cons,ite_true,PH.new_new,zAa,zAb,hm4]
        refine (zBa 4 he w).mono ?_
        rintro v h5 ⟨rfl, hz⟩
        obtain rfl := hz.symm
        simp -dsimp -implicitDefEqProofs (disch := first | omega | assumption | (simp only [Option.isSome_some,Qt0]; done) | (simp only [List.length_cons,List.length_nil,List.length_append,Int.toNat_natCast] <;> omega) | fail) only [Nat.reduceLT,Nat.reduceLeDiff,Nat.reduceEqDiff,↓reduceIte,Int.reduceLT,Int.reduceLE,Int.reduceToNat,Int.reduceEq,Int.reduceNe,Nat.reduceAdd,Int.reduceAdd,Int.reduceSub,Int.reduceMul,Nat.reduceMul,Qp0,Qp1,Ql0,Qe0,f0,f1,f6,f7,f8,f11,f12,f13,f14,f15,List.set_cons_zero,List.set_cons_succ,List.take_zero,List.drop_succ_cons,List.drop_zero,List.drop_nil,List.nil_append,List.append_nil,List.take_succ_cons,ite_true,PH.new_new,zAa,zAb,hm4]
        exact .inr ⟨by trivial, by simp⟩
      · obtain ⟨t3, x3, rfl⟩ := he.held
        simp -dsimp -implicitDefEqProofs (disch := first | omega | assumption | (simp only [Option.isSome_some,Qt0]; done) | (simp only [List.length_cons,List.length_nil,List.length_append,Int.toNat_natCast] <;> omega) | fail) only [Nat.reduceLT,Nat.reduceLeDiff,Nat.reduceEqDiff,↓reduceIte,Int.reduceLT,Int.reduceLE,Int.reduceToNat,Int.reduceEq,Int.reduceNe,Nat.reduceAdd,Int.reduceAdd,Int.reduceSub,Int.reduceMul,Nat.reduceMul,Qp0,Qp1,Ql0,Qe0,f0,f1,f6,f7,f8,f11,f12,f13,f14,f15,List.set_cons_zero,List.set_cons_succ,List.take_zero,List.drop_succ_cons,List.drop_zero,List.drop_nil,List.nil_append,List.append_nil,List.take_succ_cons,ite_true,PH.new_new,zAa,zAb,hm4]
        refine (zBa 3 he w).mono ?_
        rintro v h5 ⟨rfl, hz⟩
        obtain rfl := hz.symm
        simp -dsimp -implicitDefEqProofs (disch := first | omega | assumption | (simp only [Option.isSome_some,Qt0]; done) | (simp only [List.length_cons,List.length_nil,List.length_append,Int.toNat_natCast] <;> omega) | fail) only [Nat.reduceLT,Nat.reduceLeDiff,Nat.reduceEqDiff,↓reduceIte,Int.reduceLT,Int.reduceLE,Int.reduceToNat,Int.reduceEq,Int.reduceNe,Nat.reduceAdd,Int.reduceAdd,Int.reduceSub,Int.reduceMul,Nat.reduceMul,Qp0,Qp1,Ql0,Qe0,f0,f1,f6,f7,f8,f11,f12,f13,f14,f15,List.set_cons_zero,List.set_cons_succ,List.take_zero,List.drop_succ_cons,List.drop_zero,List.drop_nil,List.nil_append,List.append_nil,List.take_succ_cons,ite_true,PH.new_new,zAa,zAb,hm4]
        refine (zBa 5 he w).mono ?_
        rintro v h5 ⟨rfl, hz⟩
        obtain rfl := hz.symm
        simp -dsimp -implicitDefEqProofs (disch := first | omega | assumption | (simp only [Option.isSome_some,Qt0]; done) | (simp only [List.length_cons,List.length_nil,List.length_append,Int.toNat_natCast] <;> omega) | fail) only [Nat.reduceLT,Nat.reduceLeDiff,Nat.reduceEqDiff,↓reduceIte,Int.reduceLT,Int.reduceLE,Int.reduceToNat,Int.reduceEq,Int.reduceNe,Nat.reduceAdd,Int.reduceAdd,Int.reduceSub,Int.reduceMul,Nat.reduceMul,Qp0,Qp1,Ql0,Qe0,f0,f1,f6,f7,f8,f11,f12,f13,f14,f15,List.set_cons_zero,List.set_cons_succ,List.take_zero,List.drop_succ_cons,List.drop_zero,List.drop_nil,List.nil_append,List.append_nil,List.take_succ_cons,ite_true,PH.new_new,zAa,zAb,hm4]
        refine zA3 7 _ (by kernel_rfl) (by kernel_rfl) (by kernel_rfl) (by kernel_rfl) (by kernel_rfl) (fun c f h hq => by simp only [zAy, zAv, zAw, zAu, zAx] at hq; rcases hq with ⟨q, _⟩ | ⟨q, _⟩ <;> cases q) (PH.Le.refl _).sub ?_
        simp -dsimp -implicitDefEqProofs (disch := first | omega | assumption | (simp only [Option.isSome_some,Qt0]; done) | (simp only [List.length_cons,List.length_nil,List.length_append,Int.toNat_natCast] <;> omega) | fail) only [Nat.reduceLT,Nat.reduceLeDiff,Nat.reduceEqDiff,↓reduceIte,Int.reduceLT,Int.reduceLE,Int.reduceToNat,Int.reduceEq,Int.reduceNe,Nat.reduceAdd,Int.reduceAdd,Int.reduceSub,Int.reduceMul,Nat.reduceMul,Qp0,Qp1,Ql0,Qe0,f0,f1,f6,f7,f8,f11,f12,f13,f14,f15,List.set_cons_zero,List.set_cons_succ,List.take_zero,List.drop_succ_cons,List.drop_zero,List.drop_nil,List.nil_append,List.append_nil,List.take_succ_cons,ite_true,PH.new_new,zAa,zAb,hm4]
        refine (zBa 5 he w).mono ?_
        rintro v h5 ⟨rfl, hz⟩
        obtain rfl := hz.symm
        simp -dsimp -implicitDefEqProofs (disch := first | omega | assumption | (simp only [Option.isSome_some,Qt0]; done) | (simp only [List.length_cons,List.length_nil,List.length_append,Int.toNat_natCast] <;> omega) | fail) only [Nat.reduceLT,Nat.reduceLeDiff,Nat.reduceEqDiff,↓reduceIte,Int.reduceLT,Int.reduceLE,Int.reduceToNat,Int.reduceEq,Int.reduceNe,Nat.reduceAdd,Int.reduceAdd,Int.reduceSub,Int.reduceMul,Nat.reduceMul,Qp0,Qp1,Ql0,Qe0,f0,f1,f6,f7,f8,f11,f12,f13,f14,f15,List.set_cons_zero,List.set_cons_succ,List.take_zero,List.drop_succ_cons,List.drop_zero,List.drop_nil,List.nil_append,List.append_nil,List.take_succ_cons,ite_true,PH.new_new,zAa,zAb,hm4]
        obtain ⟨dA, dB, hd2, gA, gB, hcr⟩ := bef_side hside (hj4.d2.base (JS.low_le _ hj4.low _)) hg hcS.good hB
        refine .inl ⟨by trivial, k + 1, dA, dB, hv, L, false, B, cb, h2, V, hlow4, by have := hj4.le.top; omega, by omega, hd2, gA, gB, hcr, hV2, by omega, hgL, fun h => (hgo h).2, ?_, ?_, ?_, ?_, ?_, ?_, ?_, ?_, ?_⟩
        all_goals (first | rfl | trivial | simp [f0, f1, f6, f7, f8, f11, f12, f13, f14, f15])
    by_cases hK1' : K = 1
    rotate_left
    · simp -dsimp -implicitDefEqProofs (disch := first | omega | assumption | (simp only [Option.isSome_some,Qt0]; done) | (simp only [List.length_cons,List.length_nil,List.length_append,Int.toNat_natCast] <;> omega) | fail) only [Nat.reduceLT,Nat.reduceLeDiff,Nat.reduceEqDiff,↓reduceIte,Int.reduceLT,Int.reduceLE,Int.reduceToNat,Int.reduceEq,Int.reduceNe,Nat.reduceAdd,Int.reduceAdd,Int.reduceSub,Int.reduceMul,Nat.reduceMul,Qp0,Qp1,Ql0,Qe0,f0,f1,f6,f7,f8,f11,f12,f13,f14,f15,List.set_cons_zero,List.set_cons_succ,List.take_zero,List.drop_succ_cons,List.drop_zero,List.drop_nil,List.nil_append,List.append_nil,List.take_succ_cons,ite_true,PH.new_new,hh3,zAa,zAb,hm3,hK0,hK1']
      refine ⟨m - 1, _, by omega, PH.Le.refl _, k + 1, jj, p, q, dP, dS, g, hv, ps, h2, V, by omega, ht3, hside, hj2, hP, hS, hV2, by omega, ?_, ?_, ?_, ?_, ?_, ?_, ?_, ?_, ?_, ?_⟩
      all_goals (first | rfl | trivial | simp [f0, f1, f6, f7, f8, f11, f12, f13, f14, f15])
    · subst hK1'
      obtain ⟨s, hcS, hoS⟩ := hS
      simp -dsimp -implicitDefEqProofs (disch := first | omega | assumption | (simp only [Option.isSome_some,Qt0]; done) | (simp only [List.length_cons,List.length_nil,List.length_append,Int.toNat_natCast] <;> omega) | fail) only [Nat.reduceLT,Nat.reduceLeDiff,Nat.reduceEqDiff,↓reduceIte,Int.reduceLT,Int.reduceLE,Int.reduceToNat,Int.reduceEq,Int.reduceNe,Nat.reduceAdd,Int.reduceAdd,Int.reduceSub,Int.reduceMul,Nat.reduceMul,Qp0,Qp1,Ql0,Qe0,f0,f1,f6,f7,f8,f11,f12,f13,f14,f15,List.set_cons_zero,List.set_cons_succ,List.take_zero,List.drop_succ_cons,List.drop_zero,List.drop_nil,List.nil_append,List.append_nil,List.take_succ_cons,ite_true,PH.new_new,hh3,zAa,zAb,hm3]
      obtain ⟨hgL, hgr⟩ := hgo h2
      refine (jStart_any B cb L w h3 hj2 hcS.good hgr (by omega) (start_size hL450 hLt)).low.mono ?_
      rintro v h4 ⟨⟨he, hjb, hja⟩, hlow4⟩
      have hr := start_keep (l := L) hP hcS hoS hL450
      generalize StartM dS g false L = rr at *
      obtain ⟨dQ, e⟩ := rr
      simp only at he hja hjb hr
      rcases hr with ⟨rfl, hPo, ps', hP'⟩ | ⟨rfl, hPo, rfl⟩ | rfl | ⟨rfl, hB, hg⟩
      · obtain rfl : v = .nilIface := he
        have hj4 := hja rfl
        rw [hPo] at hj4
        have hm4 := hj4.le.m _ _ hm2
        simp -dsimp -implicitDefEqProofs (disch := first | omega | assumption | (simp only [Option.isSome_some,Qt0]; done) | (simp only [List.length_cons,List.length_nil,List.length_append,Int.toNat_natCast] <;> omega) | fail) only [Nat.reduceLT,Nat.reduceLeDiff,Nat.reduceEqDiff,↓reduceIte,Int.reduceLT,Int.reduceLE,Int.reduceToNat,Int.reduceEq,Int.reduceNe,Nat.reduceAdd,Int.reduceAdd,Int.reduceSub,Int.reduceMul,Nat.reduceMul,Qp0,Qp1,Ql0,Qe0,f0,f1,f6,f7,f8,f11,f12,f13,f14,f15,List.set_cons_zero,List.set_cons_succ,List.take_zero,List.drop_succ_cons,List.drop_zero,List.drop_nil,List.nil_append,List.append_nil,List.take_succ_cons,ite_true,PH.new_new,zAa,zAb,hm4]
        refine Does_low (Does_zero zC0 fun nb hnb hlow5 => ?_)
        obtain ⟨h5, hj5, hle5, hrow5, ht5⟩ := hj4.grow2 ((PH.Le.refl h4).new nb ⟨[], 0⟩ hnb)
        have hmn := hrow5 nb _ hnb (by rw [PH.new_m, if_pos rfl])
        generalize h4.new nb ⟨[], 0⟩ = h4' at *
        have hV5 : Own h5 1 (.slice (some ⟨nb, 0, none⟩) 0 0) 0 [] := ⟨rfl, .inr ⟨nb, 0, rfl, by omega, by unfold maxLen; omega, hmn⟩⟩
        have hm5 := hj5.le.m _ _ (hle5.m _ _ hm2)
        simp -dsimp -implicitDefEqProofs (disch := first | omega | assumption | (simp only [Option.isSome_some,Qt0]; done) | (simp only [List.length_cons,List.length_nil,List.length_append,Int.toNat_natCast] <;> omega) | fail) only [Nat.reduceLT,Nat.reduceLeDiff,Nat.reduceEqDiff,↓reduceIte,Int.reduceLT,Int.reduceLE,Int.reduceToNat,Int.reduceEq,Int.reduceNe,Nat.reduceAdd,Int.reduceAdd,Int.reduceSub,Int.reduceMul,Nat.reduceMul,Qp0,Qp1,Ql0,Qe0,f0,f1,f6,f7,f8,f11,f12,f13,f14,f15,List.set_cons_zero,List.set_cons_succ,List.take_zero,List.drop_succ_cons,List.drop_zero,List.drop_nil,List.nil_append,List.append_nil,List.take_succ_cons,ite_true,PH.new_new,zAa,zAb,hm5]
        refine zBk zC0 (hV5.more hj5.le) (((hgo h4').2).rs (sz := 1) hlow5 (by rw [List.length_map, Nat.mul_one]) (by omega)) (strs_one L) (by unfold maxLen; omega) (by omega) (fun v5 h6 ho5 hst5 => ?_)
        rw [List.nil_append, Nat.zero_add] at ho5
        obtain ⟨h7, hj6, hV6, hk6⟩ := hj5.stays hV5 hst5 ho5
        simp -dsimp -implicitDefEqProofs (disch := first | omega | assumption | (simp only [Option.isSome_some,Qt0]; done) | (simp only [List.length_cons,List.length_nil,List.length_append,Int.toNat_natCast] <;> omega) | fail) only [Nat.reduceLT,Nat.reduceLeDiff,Nat.reduceEqDiff,↓reduceIte,Int.reduceLT,Int.reduceLE,Int.reduceToNat,Int.reduceEq,Int.reduceNe,Nat.reduceAdd,Int.reduceAdd,Int.reduceSub,Int.reduceMul,Nat.reduceMul,Qp0,Qp1,Ql0,Qe0,f0,f1,f6,f7,f8,f11,f12,f13,f14,f15,List.set_cons_zero,List.set_cons_succ,List.take_zero,List.drop_succ_cons,List.drop_zero,List.drop_nil,List.nil_append,List.append_nil,List.take_succ_cons,ite_true,PH.new_new]
        refine ⟨m - 1, _, by omega, PH.Le.refl _, k + 1, jj, q, p, dQ, dP, g + 1, L, ps', h7, v5, by omega, by have := hj4.le.top; have := hle5.top; have := hst5.top; omega, hside.symm.imp (fun x => ⟨x.2, x.1⟩) (fun x => ⟨x.2, x.1⟩), hj6, hP', ⟨_, hP.clean, hP.gens.old (by omega)⟩, hV6, by omega, ?_, ?_, ?_, ?_, ?_, ?_, ?_, ?_, ?_, ?_⟩
        all_goals (first | rfl | trivial | simp [f0, f1, f6, f7, f8, f11, f12, f13, f14, f15])
      · have hj4 := hjb (by simp)
        rw [hPo] at hj4
        have hm4 := hj4.le.m _ _ hm2
        obtain ⟨t3, x3, rfl⟩ := he.held
        simp -dsimp -implicitDefEqProofs (disch := first | omega | assumption | (simp only [Option.isSome_some,Qt0]; done) | (simp only [List.length_cons,List.length_nil,List.length_append,Int.toNat_natCast] <;> omega) | fail) only [Nat.reduceLT,Nat.reduceLeDiff,Nat.reduceEqDiff,↓reduceIte,Int.reduceLT,Int.reduceLE,Int.reduceToNat,Int.reduceEq,Int.reduceNe,Nat.reduceAdd,Int.reduceAdd,Int.reduceSub,Int.reduceMul,Nat.reduceMul,Qp0,Qp1,Ql0,Qe0,f0,f1,f6,f7,f8,f11,f12,f13,f14,f15,List.set_cons_zero,List.set_cons_succ,List.take_zero,List.drop_succ_cons,List.drop_zero,List.drop_nil,List.nil_append,List.append_nil,List.take_succ_cons,ite_true,PH.new_new,zAa,zAb,hm4]
        refine (zBa 3 he w).mono ?_
        rintro v h5 ⟨rfl, hz⟩
        obtain rfl := hz.symm
        simp -dsimp -implicitDefEqProofs (disch := first | omega | assumption | (simp only [Option.isSome_some,Qt0]; done) | (simp only [List.length_cons,List.length_nil,List.length_append,Int.toNat_natCast] <;> omega) | fail) only [Nat.reduceLT,Nat.reduceLeDiff,Nat.reduceEqDiff,↓reduceIte,Int.reduceLT,Int.reduceLE,Int.reduceToNat,Int.reduceEq,Int.reduceNe,Nat.reduceAdd,Int.reduceAdd,Int.reduceSub,Int.reduceMul,Nat.reduceMul,Qp0,Qp1,Ql0,Qe0,f0,f1,f6,f7,f8,f11,f12,f13,f14,f15,List.set_cons_zero,List.set_cons_succ,List.take_zero,List.drop_succ_cons,List.drop_zero,List.drop_nil,List.nil_append,List.append_nil,List.take_succ_cons,ite_true,PH.new_new,zAa,zAb,hm4]
        refine (zBa 5 he w).mono ?_
        rintro v h5 ⟨rfl, hz⟩
        obtain rfl := hz.symm
        simp -dsimp -implicitDefEqProofs (disch := first | omega | assumption | (simp only [Option.isSome_some,Qt0]; done) | (simp only [List.length_cons,List.length_nil,List.length_append,Int.toNat_natCast] <;> omega) | fail) only [Nat.reduceLT,Nat.reduceLeDiff,Nat.reduceEqDiff,↓reduceIte,Int.reduceLT,Int.reduceLE,Int.reduceToNat,Int.reduceEq,Int.reduceNe,Nat.reduceAdd,Int.reduceAdd,Int.reduceSub,Int.reduceMul,Nat.reduceMul,Qp0,Qp1,Ql0,Qe0,f0,f1,f6,f7,f8,f11,f12,f13,f14,f15,List.set_cons_zero,List.set_cons_succ,List.take_zero,List.drop_succ_cons,List.drop_zero,List.drop_nil,List.nil_append,List.append_nil,List.take_succ_cons,ite_true,PH.new_new,zAa,zAb,hm4]
        refine ⟨m - 1, _, by omega, PH.Le.refl _, k + 1, jj, p, q, dP, dQ, g, hv, ps, h2, V, by omega, by have := hj4.le.top; omega, hside, hj4, hP, ⟨s, hcS, hoS⟩, hV2, by omega, ?_, ?_, ?_, ?_, ?_, ?_, ?_, ?_, ?_, ?_⟩
        all_goals (first | rfl | trivial | simp [f0, f1, f6, f7, f8, f11, f12, f13, f14, f15])
      · have hj4 := hjb (by simp)
        have hm4 := hj4.le.m _ _ hm2
        obtain ⟨t3, x3, rfl⟩ := he.held
        simp -dsimp -implicitDefEqProofs (disch := first | omega | assumption | (simp only [Option.isSome_some,Qt0]; done) | (simp only [List.length_cons,List.length_nil,List.length_append,Int.toNat_natCast] <;> omega) | fail) only [Nat.reduceLT,Nat.reduceLeDiff,Nat.reduceEqDiff,↓reduceIte,Int.reduceLT,Int.reduceLE,Int.reduceToNat,Int.reduceEq,Int.reduceNe,Nat.reduceAdd,Int.reduceAdd,Int.reduceSub,Int.reduceMul,Nat.reduceMul,Qp0,Qp1,Ql0,Qe0,f0,f1,f6,f7,f8,f11,f12,f13,f14,f15,List.set_cons_zero,List.set_cons_succ,List.take_zero,List.drop_succ_cons,List.drop_zero,List.drop_nil,List.nil_append,List.append_nil,List.take_succ_cons,ite_true,PH.new_new,zAa,zAb,hm4]
        refine (zBa 3 he w).mono ?_
        rintro v h5 ⟨rfl, hz⟩
        obtain rfl := hz.symm
        simp -dsimp -implicitDefEqProofs (disch := first | omega | assumption | (simp only [Option.isSome_some,Qt0]; done) | (simp only [List.length_cons,List.length_nil,List.length_append,Int.toNat_natCast] <;> omega) | fail) only [Nat.reduceLT,Nat.reduceLeDiff,Nat.reduceEqDiff,↓reduceIte,Int.reduceLT,Int.reduceLE,Int.reduceToNat,Int.reduceEq,Int.reduceNe,Nat.reduceAdd,Int.reduceAdd,Int.reduceSub,Int.reduceMul,Nat.reduceMul,Qp0,Qp1,Ql0,Qe0,f0,f1,f6,f7,f8,f11,f12,f13,f14,f15,List.set_cons_zero,List.set_cons_succ,List.take_zero,List.drop_succ_cons,List.drop_zero,List.drop_nil,List.nil_append,List.append_nil,List.take_succ_cons,ite_true,PH.new_new,zAa,zAb,hm4]
        refine (zBa 5 he w).mono ?_
        rintro v h5 ⟨rfl, hz⟩
        obtain rfl := hz.symm
        simp -dsimp -implicitDefEqProofs (disch := first | omega | assumption | (simp only [Option.isSome_some,Qt0]; done) | (simp only [List.length_cons,List.length_nil,List.length_append,Int.toNat_natCast] <;> omega) | fail) only [Nat.reduceLT,Nat.reduceLeDiff,Nat.reduceEqDiff,↓reduceIte,Int.reduceLT,Int.reduceLE,Int.reduceToNat,Int.reduceEq,Int.reduceNe,Nat.reduceAdd,Int.reduceAdd,Int.reduceSub,Int.reduceMul,Nat.reduceMul,Qp0,Qp1,Ql0,Qe0,f0,f1,f6,f7,f8,f11,f12,f13,f14,f15,List.set_cons_zero,List.set_cons_succ,List.take_zero,List.drop_succ_cons,List.drop_zero,List.drop_nil,List.nil_append,List.append_nil,List.take_succ_cons,ite_true,PH.new_new,zAa,zAb,hm4]
        refine (zBa 4 he w).mono ?_
        rintro v h5 ⟨rfl, hz⟩
        obtain rfl := hz.symm
        simp -dsimp -implicitDefEqProofs (disch := first | omega | assumption | (simp only [Option.isSome_some,Qt0]; done) | (simp only [List.length_cons,List.length_nil,List.length_append,Int.toNat_natCast] <;> omega) | fail) only [Nat.reduceLT,Nat.reduceLeDiff,Nat.reduceEqDiff,↓reduceIte,Int.reduceLT,Int.reduceLE,Int.reduceToNat,Int.reduceEq,Int.reduceNe,Nat.reduceAdd,Int.reduceAdd,Int.reduceSub,Int.reduceMul,Nat.reduceMul,Qp0,Qp1,Ql0,Qe0,f0,f1,f6,f7,f8,f11,f12,f13,f14,f15,List.set_cons_zero,List.set_cons_succ,List.take_zero,List.drop_succ_cons,List.drop_zero,List.drop_nil,List.nil_append,List.append_nil,List.take_succ_cons,ite_true,PH.new_new,zAa,zAb,hm4]
        exact .inr ⟨by trivial, by simp⟩
      · have hj4 := hjb (by simp)
        have hm4 := hj4.le.m _ _ hm2
        obtain ⟨t3, x3, rfl⟩ := he.held
        simp -dsimp -implicitDefEqProofs (disch := first | omega | assumption | (simp only [Option.isSome_some,Qt0]; done) | (simp only [List.length_cons,List.length_nil,List.length_append,Int.toNat_natCast] <;> omega) | fail) only [Nat.reduceLT,Nat.reduceLeDiff,Nat.reduceEqDiff,↓reduceIte,Int.reduceLT,Int.reduceLE,Int.reduceToNat,Int.reduceEq,Int.reduceNe,Nat.reduceAdd,Int.reduceAdd,Int.reduceSub,Int.reduceMul,Nat.reduceMul,Qp0,Qp1,Ql0,Qe0,f0,f1,f6,f7,f8,f11,f12,f13,f14,f15,List.set_cons_zero,List.set_cons_succ,List.take_zero,List.drop_succ_cons,List.drop_zero,List.drop_nil,List.nil_append,List.append_nil,List.take_succ_cons,ite_true,PH.new_new,zAa,zAb,hm4]
        refine (zBa 3 he w).mono ?_
        rintro v h5 ⟨rfl, hz⟩
        obtain rfl := hz.symm
        simp -dsimp -implicitDefEqProofs (disch := first | omega | assumption | (simp only [Option.isSome_some,Qt0]; done) | (simp only [List.length_cons,List.length_nil,List.length_append,Int.toNat_natCast] <;> omega) | fail) only [Nat.reduceLT,Nat.reduceLeDiff,Nat.reduceEqDiff,↓reduceIte,Int.reduceLT,Int.reduceLE,Int.reduceToNat,Int.reduceEq,Int.reduceNe,Nat.reduceAdd,Int.reduceAdd,Int.reduceSub,Int.reduceMul,Nat.reduceMul,Qp0,Qp1,Ql0,Qe0,f0,f1,f6,f7,f8,f11,f12,f13,f14,f15,List.set_cons_zero,List.set_cons_succ,List.take_zero,List.drop_succ_cons,List.drop_zero,List.drop_nil,List.nil_append,List.append_nil,List.take_succ_cons,ite_true,PH.new_new,zAa,zAb,hm4]
        refine (zBa 5 he w).mono ?_
        rintro v h5 ⟨rfl, hz⟩
        obtain rfl := hz.symm
        simp -dsimp -implicitDefEqProofs (disch := first | omega | assumption | (simp only [Option.isSome_some,Qt0]; done) | (simp only [List.length_cons,List.length_nil,List.length_append,Int.toNat_natCast] <;> omega) | fail) only [Nat.reduceLT,Nat.reduceLeDiff,Nat.reduceEqDiff,↓reduceIte,Int.reduceLT,Int.reduceLE,Int.reduceToNat,Int.reduceEq,Int.reduceNe,Nat.reduceAdd,Int.reduceAdd,Int.reduceSub,Int.reduceMul,Nat.reduceMul,Qp0,Qp1,Ql0,Qe0,f0,f1,f6,f7,f8,f11,f12,f13,f14,f15,List.set_cons_zero,List.set_cons_succ,List.take_zero,List.drop_succ_cons,List.drop_zero,List.drop_nil,List.nil_append,List.append_nil,List.take_succ_cons,ite_true,PH.new_new,zAa,zAb,hm4]
        refine zA3 7 _ (by kernel_rfl) (by kernel_rfl) (by kernel_rfl) (by kernel_rfl) (by kernel_rfl) (fun c f h hq => by simp only [zAy, zAv, zAw, zAu, zAx] at hq; rcases hq with ⟨q, _⟩ | ⟨q, _⟩ <;> cases q) (PH.Le.refl _).sub ?_
        simp -dsimp -implicitDefEqProofs (disch := first | omega | assumption | (simp only [Option.isSome_some,Qt0]; done) | (simp only [List.length_cons,List.length_nil,List.length_append,Int.toNat_natCast] <;> omega) | fail) only [Nat.reduceLT,Nat.reduceLeDiff,Nat.reduceEqDiff,↓reduceIte,Int.reduceLT,Int.reduceLE,Int.reduceToNat,Int.reduceEq,Int.reduceNe,Nat.reduceAdd,Int.reduceAdd,Int.reduceSub,Int.reduceMul,Nat.reduceMul,Qp0,Qp1,Ql0,Qe0,f0,f1,f6,f7,f8,f11,f12,f13,f14,f15,List.set_cons_zero,List.set_cons_succ,List.take_zero,List.drop_succ_cons,List.drop_zero,List.drop_nil,List.nil_append,List.append_nil,List.take_succ_cons,ite_true,PH.new_new,zAa,zAb,hm4]
        refine (zBa 5 he w).mono ?_
        rintro v h5 ⟨rfl, hz⟩
        obtain rfl := hz.symm
        simp -dsimp -implicitDefEqProofs (disch := first | omega | assumption | (simp only [Option.isSome_some,Qt0]; done) | (simp only [List.length_cons,List.length_nil,List.length_append,Int.toNat_natCast] <;> omega) | fail) only [Nat.reduceLT,Nat.reduceLeDiff,Nat.reduceEqDiff,↓reduceIte,Int.reduceLT,Int.reduceLE,Int.reduceToNat,Int.reduceEq,Int.reduceNe,Nat.reduceAdd,Int.reduceAdd,Int.reduceSub,Int.reduceMul,Nat.reduceMul,Qp0,Qp1,Ql0,Qe0,f0,f1,f6,f7,f8,f11,f12,f13,f14,f15,List.set_cons_zero,List.set_cons_succ,List.take_zero,List.drop_succ_cons,List.drop_zero,List.drop_nil,List.nil_append,List.append_nil,List.take_succ_cons,ite_true,PH.new_new,zAa,zAb,hm4]
        obtain ⟨dA, dB, hd2, gA, gB, hcr⟩ := bef_side hside (hj4.d2.base (JS.low_le _ hj4.low _)) hP.clean.good hg hB
        refine .inl ⟨by trivial, k + 1, dA, dB, hv, L, true, B, cb, h2, V, hlow4, by have := hj4.le.top; omega, by omega, hd2, gA, gB, hcr, hV2, by omega, hgL, fun h => (hgo h).2, ?_, ?_, ?_, ?_, ?_, ?_, ?_, ?_, ?_⟩
        all_goals (first | rfl | trivial | simp [f0, f1, f6, f7, f8, f11, f12, f13, f14, f15])
  · clear hat hside hj hP hS hV hhv f0 f1 f6 f7 f8 f11 f12 f13 f14 f15
    rcases hE with ⟨rfl, hE⟩ | ⟨rfl, f4⟩
    rotate_left
    · simp -dsimp -implicitDefEqProofs (disch := first | omega | assumption | (simp only [Option.isSome_some,Qt0]; done) | (simp only [List.length_cons,List.length_nil,List.length_append,Int.toNat_natCast] <;> omega) | fail) only [Nat.reduceLT,Nat.reduceLeDiff,Nat.reduceEqDiff,↓reduceIte,Int.reduceLT,Int.reduceLE,Int.reduceToNat,Int.reduceEq,Int.reduceNe,Nat.reduceAdd,Int.reduceAdd,Int.reduceSub,Int.reduceMul,Nat.reduceMul,Qp0,Qp1,Ql0,Qe0,f4]
      exact ⟨_, PH.Le.refl _, by trivial⟩
    rw [zEo, if_pos rfl, zE1]
    refine vcC_cut2 (fun f h2 => MidK w A_script c_script z_script.length A_l c_l z_l.length a b i f h2) ?_ ?_
    rotate_left
    · intro Y hY
      obtain ⟨k, dA, dB, hv, under, anew, U, cu, h1, V, hlow3, htop3, hk, hd, gA, gB, hcr, hV, hlen, hcu, hU, f0, f1, f6, f7, f11, f12, f13, f14, f15⟩ := hE
      by_cases hi2 : i < z_l.length
      rotate_left
      · have e3 : decide ((i : Int) < (z_l.length : Int)) = false := decide_eq_false (by omega)
        simp -dsimp -implicitDefEqProofs (disch := first | omega | assumption | (simp only [Option.isSome_some,Qt0]; done) | (simp only [List.length_cons,List.length_nil,List.length_append,Int.toNat_natCast] <;> omega) | fail) only [Nat.reduceLT,Nat.reduceLeDiff,Nat.reduceEqDiff,↓reduceIte,Int.reduceLT,Int.reduceLE,Int.reduceToNat,Int.reduceEq,Int.reduceNe,Nat.reduceAdd,Int.reduceAdd,Int.reduceSub,Int.reduceMul,Nat.reduceMul,Qp0,Qp1,Ql0,Qe0,f0,f1,f6,f7,f11,f12,f13,f14,f15,e3]
        refine fun xb hxb => ?_
        obtain ⟨h4, hd4, hle4, _, ht4, hrow4⟩ := hd.grow ((PH.Le.refl h3).new xb ⟨cjL ⟨0, false, 0, 0, [], []⟩, 6⟩ hxb)
        have hm4 := hrow4 xb _ hxb (by rw [PH.new_m, if_pos rfl])
        have ht4' : w.heap.size ≤ h4.top := by rw [ht4]; simp only [PH.new_top]; omega
        simp -dsimp -implicitDefEqProofs (disch := first | omega | assumption | (simp only [Option.isSome_some,Qt0]; done) | (simp only [List.length_cons,List.length_nil,List.length_append,Int.toNat_natCast] <;> omega) | fail) only [Nat.reduceLT,Nat.reduceLeDiff,Nat.reduceEqDiff,↓reduceIte,Int.reduceLT,Int.reduceLE,Int.reduceToNat,Int.reduceEq,Int.reduceNe,Nat.reduceAdd,Int.reduceAdd,Int.reduceSub,Int.reduceMul,Nat.reduceMul,Qp0,Qp1,Ql0,Qe0,f0,f1,f6,f7,f11,f12,f13,f14,f15,e3]
        refine hY _ _ ⟨k, dA, dB, hv, under, anew, U, cu, h4, V, xb, ⟨0, false, 0, 0, [], []⟩, ht4', hk, hd4, gA, gB, hcr, hV.more hle4, hlen, hcu, hU, hm4, by simp, by simp, ?_, ?_, ?_, ?_, ?_, ?_, ?_, ?_, ?_, ?_⟩
        all_goals (first | rfl | trivial | simp [f0, f1, f6, f7, f11, f12, f13, f14, f15])
      · have e3 : decide ((i : Int) < (z_l.length : Int)) = true := decide_eq_true (by omega)
        obtain ⟨y, hx⟩ : ∃ p, z_l[i]? = some p := ⟨_, List.getElem?_eq_getElem hi2⟩
        obtain ⟨bs', os, rfl⟩ := (hr_l h3).addr_ zCg (by omega) hx
        obtain ⟨hy0, hy1⟩ := hmask y (List.mem_of_getElem? hx)
        have hT : (i : Int).toNat = i := Int.toNat_natCast i
        simp -dsimp -implicitDefEqProofs (disch := first | omega | assumption | (simp only [Option.isSome_some,Qt0]; done) | (simp only [List.length_cons,List.length_nil,List.length_append,Int.toNat_natCast] <;> omega) | fail) only [Nat.reduceLT,Nat.reduceLeDiff,Nat.reduceEqDiff,↓reduceIte,Int.reduceLT,Int.reduceLE,Int.reduceToNat,Int.reduceEq,Int.reduceNe,Nat.reduceAdd,Int.reduceAdd,Int.reduceSub,Int.reduceMul,Nat.reduceMul,Qp0,Qp1,Ql0,Qe0,f0,f1,f6,f7,f11,f12,f13,f14,f15,e3]
        refine fun xb hxb => ?_
        obtain ⟨h4, hd4, hle4, _, ht4, hrow4⟩ := hd.grow ((PH.Le.refl h3).new xb ⟨cjL y, 6⟩ hxb)
        have hm4 := hrow4 xb _ hxb (by rw [PH.new_m, if_pos rfl])
        have ht4' : w.heap.size ≤ h4.top := by rw [ht4]; simp only [PH.new_top]; omega
        have hrd := fun k => (hr_l (h3.new xb k)).chunk zCg (by omega) (hlow3.new (by omega) k) hx
        have ha : allOne (cjL y) := zC7 _ rfl
        obtain ⟨F, D, K0, K1, M0, M1⟩ := y
        unfold cjL at hrd ha
        simp only at hrd ha
        simp -dsimp -implicitDefEqProofs (disch := first | omega | assumption | (simp only [Option.isSome_some,Qt0]; done) | (simp only [List.length_cons,List.length_nil,List.length_append,Int.toNat_natCast] <;> omega) | fail) only [Nat.reduceLT,Nat.reduceLeDiff,Nat.reduceEqDiff,↓reduceIte,Int.reduceLT,Int.reduceLE,Int.reduceToNat,Int.reduceEq,Int.reduceNe,Nat.reduceAdd,Int.reduceAdd,Int.reduceSub,Int.reduceMul,Nat.reduceMul,Qp0,Qp1,Ql0,Qe0,f0,f1,f6,f7,f11,f12,f13,f14,f15,e3,hT,hrd,List.set_cons_zero,List.set_cons_succ,List.take_zero,List.drop_succ_cons,List.drop_zero,List.drop_nil,List.nil_append,List.append_nil,List.take_succ_cons,ite_true,PH.new_new]
        refine hY _ _ ⟨k, dA, dB, hv, under, anew, U, cu, h4, V, xb, ⟨F, D, K0, K1, M0, M1⟩, ht4', hk, hd4, gA, gB, hcr, hV.more hle4, hlen, hcu, hU, hm4, hy0, hy1, ?_, ?_, ?_, ?_, ?_, ?_, ?_, ?_, ?_, ?_⟩
        all_goals (first | rfl | trivial | simp [f0, f1, f6, f7, f11, f12, f13, f14, f15])
    · rintro f h4 ⟨k, dA, dB, hv, under, anew, U, cu, h1, V, xb, c, htop, hk, hd, gA, gB, hcr, hV, hlen, hcu, hU, hmx, hM0, hM1, f19, f0, f1, f6, f7, f11, f12, f13, f14, f15⟩
      obtain ⟨F, D, K0, K1, M0, M1⟩ := c
      unfold cjL at hmx
      simp only at hmx hM0 hM1
      have hmx4 := hd.same _ _ hmx
      simp -dsimp -implicitDefEqProofs (disch := first | omega | assumption | (simp only [Option.isSome_some,Qt0]; done) | (simp only [List.length_cons,List.length_nil,List.length_append,Int.toNat_natCast] <;> omega) | fail) only [Nat.reduceLT,Nat.reduceLeDiff,Nat.reduceEqDiff,↓reduceIte,Int.reduceLT,Int.reduceLE,Int.reduceToNat,Int.reduceEq,Int.reduceNe,Nat.reduceAdd,Int.reduceAdd,Int.reduceSub,Int.reduceMul,Nat.reduceMul,Qp0,Qp1,Ql0,Qe0,f19,f0,f1,f6,f7,f11,f12,f13,f14,f15,zAa,zAb,hmx4]
      refine (zEc K0 M0 (by omega) w h4 hd gA).mono ?_
      intro v k1 hd1
      have hmx5 := hd1.same _ _ hmx
      simp -dsimp -implicitDefEqProofs (disch := first | omega | assumption | (simp only [Option.isSome_some,Qt0]; done) | (simp only [List.length_cons,List.length_nil,List.length_append,Int.toNat_natCast] <;> omega) | fail) only [Nat.reduceLT,Nat.reduceLeDiff,Nat.reduceEqDiff,↓reduceIte,Int.reduceLT,Int.reduceLE,Int.reduceToNat,Int.reduceEq,Int.reduceNe,Nat.reduceAdd,Int.reduceAdd,Int.reduceSub,Int.reduceMul,Nat.reduceMul,Qp0,Qp1,Ql0,Qe0,f19,f0,f1,f6,f7,f11,f12,f13,f14,f15,zAa,zAb,hmx5]
      refine (zEc K1 M1 (by omega) w k1 hd1.symm gB).mono ?_
      intro v k2 hd2
      obtain ⟨gg, hc⟩ := hcr K0 K1 M0 M1
      obtain ⟨gX, gY⟩ := tops_good hc
      generalize dA.crash K0 M0 = dX at *
      generalize dB.crash K1 M1 = dY at *
      simp -dsimp -implicitDefEqProofs (disch := first | omega | assumption | (simp only [Option.isSome_some,Qt0]; done) | (simp only [List.length_cons,List.length_nil,List.length_append,Int.toNat_natCast] <;> omega) | fail) only [Nat.reduceLT,Nat.reduceLeDiff,Nat.reduceEqDiff,↓reduceIte,Int.reduceLT,Int.reduceLE,Int.reduceToNat,Int.reduceEq,Int.reduceNe,Nat.reduceAdd,Int.reduceAdd,Int.reduceSub,Int.reduceMul,Nat.reduceMul,Qp0,Qp1,Ql0,Qe0,f19,f0,f1,f6,f7,f11,f12,f13,f14,f15]
      refine (zEt w k2 hd2.symm gX gY).mono ?_
      intro v k3 hop
      obtain ⟨jj, p, q, dP, dS, l, ps, h5, W, rfl, hle5, hside, hj, hP, hS, hW, hTK⟩ := open_told hop hc
      obtain ⟨AW, cW, rfl, hcW⟩ := hW.len
      obtain ⟨AV, cV, rfl, hcV⟩ := hV.len
      have hll := hTK.len
      have rW : Rv w k3 AW (l.map str) := (Rv.own hW).more hj.le
      have rV : Rv w k3 AV (hv.map str) := (Rv.own hV).more (hle5.trans hj.le)
      have rU := hU k3
      cases anew with
      | true =>
        by_cases hlh : l = hv
        · have dT : decide (l = hv) = true := decide_eq_true hlh
          simp -dsimp -implicitDefEqProofs (disch := first | omega | assumption | (simp only [Option.isSome_some,Qt0]; done) | (simp only [List.length_cons,List.length_nil,List.length_append,Int.toNat_natCast] <;> omega) | fail) only [Nat.reduceLT,Nat.reduceLeDiff,Nat.reduceEqDiff,↓reduceIte,Int.reduceLT,Int.reduceLE,Int.reduceToNat,Int.reduceEq,Int.reduceNe,Nat.reduceAdd,Int.reduceAdd,Int.reduceSub,Int.reduceMul,Nat.reduceMul,Qp0,Qp1,Ql0,Qe0,f0,f1,f6,f7,f11,f12,f13,f14,f15]
          refine (zDi w k3 AW AV cW cV l hv rW rV hcW hcV (by omega)).mono ?_
          rintro v hz ⟨rfl, hz'⟩
          obtain rfl := hz'.symm
          simp -dsimp -implicitDefEqProofs (disch := first | omega | assumption | (simp only [Option.isSome_some,Qt0]; done) | (simp only [List.length_cons,List.length_nil,List.length_append,Int.toNat_natCast] <;> omega) | fail) only [Nat.reduceLT,Nat.reduceLeDiff,Nat.reduceEqDiff,↓reduceIte,Int.reduceLT,Int.reduceLE,Int.reduceToNat,Int.reduceEq,Int.reduceNe,Nat.reduceAdd,Int.reduceAdd,Int.reduceSub,Int.reduceMul,Nat.reduceMul,Qp0,Qp1,Ql0,Qe0,f0,f1,f6,f7,f11,f12,f13,f14,f15,dT]
          refine ⟨n - 1, _, by omega, PH.Le.refl _, i + 1, k, jj, p, q, dP, dS, gg, l, ps, h5, .slice AW l.length cW, by omega, by have := hle5.top; omega, by omega, hside, hj, hP, hS, hW, by omega, ?_, ?_, ?_, ?_, ?_, ?_, ?_, ?_⟩
          all_goals (first | rfl | trivial | simp [f0, f1, f6, f7, f11, f12, f13, f14, f15])
        · have dF : decide (l = hv) = false := decide_eq_false hlh
          have dT : decide (l = under) = true := decide_eq_true (hTK.one.resolve_left hlh)
          simp -dsimp -implicitDefEqProofs (disch := first | omega | assumption | (simp only [Option.isSome_some,Qt0]; done) | (simp only [List.length_cons,List.length_nil,List.length_append,Int.toNat_natCast] <;> omega) | fail) only [Nat.reduceLT,Nat.reduceLeDiff,Nat.reduceEqDiff,↓reduceIte,Int.reduceLT,Int.reduceLE,Int.reduceToNat,Int.reduceEq,Int.reduceNe,Nat.reduceAdd,Int.reduceAdd,Int.reduceSub,Int.reduceMul,Nat.reduceMul,Qp0,Qp1,Ql0,Qe0,f0,f1,f6,f7,f11,f12,f13,f14,f15]
          refine (zDi w k3 AW AV cW cV l hv rW rV hcW hcV (by omega)).mono ?_
          rintro v hz ⟨rfl, hz'⟩
          obtain rfl := hz'.symm
          simp -dsimp -implicitDefEqProofs (disch := first | omega | assumption | (simp only [Option.isSome_some,Qt0]; done) | (simp only [List.length_cons,List.length_nil,List.length_append,Int.toNat_natCast] <;> omega) | fail) only [Nat.reduceLT,Nat.reduceLeDiff,Nat.reduceEqDiff,↓reduceIte,Int.reduceLT,Int.reduceLE,Int.reduceToNat,Int.reduceEq,Int.reduceNe,Nat.reduceAdd,Int.reduceAdd,Int.reduceSub,Int.reduceMul,Nat.reduceMul,Qp0,Qp1,Ql0,Qe0,f0,f1,f6,f7,f11,f12,f13,f14,f15,dF]
          refine (zDi w k3 AW U cW cu l under rW rU hcW hcu (by omega)).mono ?_
          rintro v hz ⟨rfl, hz'⟩
          obtain rfl := hz'.symm
          simp -dsimp -implicitDefEqProofs (disch := first | omega | assumption | (simp only [Option.isSome_some,Qt0]; done) | (simp only [List.length_cons,List.length_nil,List.length_append,Int.toNat_natCast] <;> omega) | fail) only [Nat.reduceLT,Nat.reduceLeDiff,Nat.reduceEqDiff,↓reduceIte,Int.reduceLT,Int.reduceLE,Int.reduceToNat,Int.reduceEq,Int.reduceNe,Nat.reduceAdd,Int.reduceAdd,Int.reduceSub,Int.reduceMul,Nat.reduceMul,Qp0,Qp1,Ql0,Qe0,f0,f1,f6,f7,f11,f12,f13,f14,f15,dT]
          refine ⟨n - 1, _, by omega, PH.Le.refl _, i + 1, k, jj, p, q, dP, dS, gg, l, ps, h5, .slice AW l.length cW, by omega, by have := hle5.top; omega, by omega, hside, hj, hP, hS, hW, by omega, ?_, ?_, ?_, ?_, ?_, ?_, ?_, ?_⟩
          all_goals (first | rfl | trivial | simp [f0, f1, f6, f7, f11, f12, f13, f14, f15])
      | false =>
        obtain ⟨nn, hl⟩ := hTK.cut
        have hb1 := zFg hl
        simp -dsimp -implicitDefEqProofs (disch := first | omega | assumption | (simp only [Option.isSome_some,Qt0]; done) | (simp only [List.length_cons,List.length_nil,List.length_append,Int.toNat_natCast] <;> omega) | fail) only [Nat.reduceLT,Nat.reduceLeDiff,Nat.reduceEqDiff,↓reduceIte,Int.reduceLT,Int.reduceLE,Int.reduceToNat,Int.reduceEq,Int.reduceNe,Nat.reduceAdd,Int.reduceAdd,Int.reduceSub,Int.reduceMul,Nat.reduceMul,Qp0,Qp1,Ql0,Qe0,f0,f1,f6,f7,f11,f12,f13,f14,f15]
        refine (zE9 w k3 AV AW cV cW hv l rV rW hcV hcW (by omega)).mono ?_
        rintro v hz ⟨rfl, hz'⟩
        obtain rfl := hz'.symm
        rw [hb1]
        have hlh : hv.length ≤ l.length := by rw [hl, List.length_append]; omega
        rcases hW.2 with ⟨hz0, _⟩ | ⟨bw, cw, hz0, _, _, _⟩
        · injection hz0 with z1 z2 z3
          have hl0 : l = [] := List.eq_nil_of_length_eq_zero z2
          have hv0 : hv = [] := List.eq_nil_of_length_eq_zero (by omega)
          subst z1 z3 hl0 hv0
          simp only [List.length_nil] at *
          simp -dsimp -implicitDefEqProofs (disch := first | omega | assumption | (simp only [Option.isSome_some,Qt0]; done) | (simp only [List.length_cons,List.length_nil,List.length_append,Int.toNat_natCast] <;> omega) | fail) only [Nat.reduceLT,Nat.reduceLeDiff,Nat.reduceEqDiff,↓reduceIte,Int.reduceLT,Int.reduceLE,Int.reduceToNat,Int.reduceEq,Int.reduceNe,Nat.reduceAdd,Int.reduceAdd,Int.reduceSub,Int.reduceMul,Nat.reduceMul,Qp0,Qp1,Ql0,Qe0,f0,f1,f6,f7,f11,f12,f13,f14,f15,y_fromNoneJ]
          refine (zE9 w k3 none U 0 cu [] under (Rv.nil _ _ _) rU (by simp) hcu (by simp)).mono ?_
          rintro v hz ⟨rfl, hz'⟩
          obtain rfl := hz'.symm
          rw [zFg (x := []) (y := under) (r := under) rfl]
          simp -dsimp -implicitDefEqProofs (disch := first | omega | assumption | (simp only [Option.isSome_some,Qt0]; done) | (simp only [List.length_cons,List.length_nil,List.length_append,Int.toNat_natCast] <;> omega) | fail) only [Nat.reduceLT,Nat.reduceLeDiff,Nat.reduceEqDiff,↓reduceIte,Int.reduceLT,Int.reduceLE,Int.reduceToNat,Int.reduceEq,Int.reduceNe,Nat.reduceAdd,Int.reduceAdd,Int.reduceSub,Int.reduceMul,Nat.reduceMul,Qp0,Qp1,Ql0,Qe0,f0,f1,f6,f7,f11,f12,f13,f14,f15]
          refine ⟨n - 1, _, by omega, PH.Le.refl _, i + 1, k, jj, p, q, dP, dS, gg, [], ps, h5, .slice none 0 0, by omega, by have := hle5.top; omega, by omega, hside, hj, hP, hS, hW, by simp, ?_, ?_, ?_, ?_, ?_, ?_, ?_, ?_⟩
          all_goals (first | rfl | trivial | simp [f0, f1, f6, f7, f11, f12, f13, f14, f15])
        · injection hz0 with z1 z2 z3
          subst z1
          have hB := zE9 w k3 (cutAt bw 0 hv.length (decide (cW = hv.length))) U (cW - hv.length) cu (l.drop hv.length) under (rW.from hcW) rU (by rw [List.length_drop]; omega) hcu (by rw [List.length_drop]; omega)
          have hb2 := zFg (x := l.drop hv.length) (y := under) (r := under.drop nn) (by rw [hl, List.drop_left, List.take_append_drop])
          rw [List.length_drop] at hB hb2
          simp -dsimp -implicitDefEqProofs (disch := first | omega | assumption | (simp only [Option.isSome_some,Qt0]; done) | (simp only [List.length_cons,List.length_nil,List.length_append,Int.toNat_natCast] <;> omega) | fail) only [Nat.reduceLT,Nat.reduceLeDiff,Nat.reduceEqDiff,↓reduceIte,Int.reduceLT,Int.reduceLE,Int.reduceToNat,Int.reduceEq,Int.reduceNe,Nat.reduceAdd,Int.reduceAdd,Int.reduceSub,Int.reduceMul,Nat.reduceMul,Qp0,Qp1,Ql0,Qe0,f0,f1,f6,f7,f11,f12,f13,f14,f15]
          refine hB.mono ?_
          rintro v hz ⟨rfl, hz'⟩
          obtain rfl := hz'.symm
          rw [hb2]
          simp -dsimp -implicitDefEqProofs (disch := first | omega | assumption | (simp only [Option.isSome_some,Qt0]; done) | (simp only [List.length_cons,List.length_nil,List.length_append,Int.toNat_natCast] <;> omega) | fail) only [Nat.reduceLT,Nat.reduceLeDiff,Nat.reduceEqDiff,↓reduceIte,Int.reduceLT,Int.reduceLE,Int.reduceToNat,Int.reduceEq,Int.reduceNe,Nat.reduceAdd,Int.reduceAdd,Int.reduceSub,Int.reduceMul,Nat.reduceMul,Qp0,Qp1,Ql0,Qe0,f0,f1,f6,f7,f11,f12,f13,f14,f15]
          refine ⟨n - 1, _, by omega, PH.Le.refl _, i + 1, k, jj, p, q, dP, dS, gg, l, ps, h5, .slice (some ⟨bw, 0, none⟩) l.length cW, by omega, by have := hle5.top; omega, by omega, hside, hj, hP, hS, hW, by omega, ?_, ?_, ?_, ?_, ?_, ?_, ?_, ?_⟩
          all_goals (first | rfl | trivial | simp [f0, f1, f6, f7, f11, f12, f13, f14, f15])
set_option maxRecDepth 100000 in
theorem liftedJournalKeeps (os : Os) (started : os.Started) (H : Type) (enc : TypeId × Value → H) :
    ReturnsInHanded {} Try.checked os 3 .any (Rows.journalKeepsSpec.pre6 enc Try.prog Try.f3 Rows.journalKeepsRow.domain false) (Rows.journalKeepsSpec.post enc Try.prog Try.f3 false true false false) := by
  refine returnsInHanded_of_change_sized (C := Try.checked) own started (by kernel_rfl) Try.func3
    (ChangeSpec.witness6 (enc := enc) (C := Try.checked) false ⟨#[], #[.slice none 0 0, .slice none 0 0], []⟩ 8 (by kernel_rfl) (by kernel_rfl) (by kernel_rfl) (by kernel_rfl)) ?_
  intro W base args ds gs before hval0 hW _ hsz0 _
  have hsz : (DataW.weightsEach Try.prog (Try.f3.params.toList ++ Rows.journalKeepsSpec.plain.varTypes Try.prog) (ds ++ gs)).all (· ≤ reachBytes) = true := hsz0
  have hval : ∀ (j : Nat) t v, Try.f3.params[j]? = some t → args[j]? = some v → Value.okWide Try.prog W .any base t v := hval0
  have hW' := hW
  obtain ⟨p, q, hA0, hV, rfl, _, _⟩ := hW
  have hA : DataW.TrodAll enc Try.prog W 0 (fun _ => true) true Try.f3.params.toList args.toList ds p := hA0
  rw [Try.params3] at hA hval hsz
  obtain ⟨v0, v1, d0, d1, p0, p1, rfl, rfl, rfl, h0, h1⟩ := trodAll_two hA
  obtain ⟨rfl, _⟩ := trodVars_none hV
  obtain ⟨A0, c0, z0, rfl, hc0, hr0⟩ := open_script (hval 0 _ v0 rfl rfl) h0
  obtain ⟨A1, c1, z1, rfl, hc1, hr1, hw1⟩ := open_crashes (hval 1 _ v1 rfl rfl) h1
  refine (walk_JournalKeeps A0 c0 z0 A1 c1 z1 W hc0 hr0 hc1 hr1 hw1).mono fun en W' ⟨he, hb⟩ => ?_
  subst he
  exact ⟨_, rfl, law_post (tb := 4) laidOut hW' rfl rfl rfl rfl Try.underlying4 (by intro t ht; revert t; exact of_decide_eq_true (by kernel_rfl)) (by kernel_rfl) hb⟩

theorem provedJournalKeeps : Rows.JournalKeepsSaid :=
  OpenClaim.holds_of_wide 3 Try.f3 rfl rfl rfl rfl rfl rfl rfl ⟨rfl, rfl, rfl, rfl, rfl⟩ rfl rfl rfl rfl rfl (by kernel_rfl) Try.func3 (by kernel_rfl)
    (of_decide_eq_true (by kernel_rfl)) (by unfold Func.isWrapper; first | (rw [if_pos (by decide +kernel)]; kernel_rfl) | (rw [if_neg (by decide +kernel)]; exact ⟨rfl, rfl⟩))
    (fun os started H enc _ => liftedJournalKeeps os started H enc)
#print axioms provedJournalKeeps


end Go.Proofs.Ytblikpbaeippaaa.JnK
