/- Parts Jk8, Jk9, Jl1, Pk, joined. No condition. -/
import Derived.Test.YtblikpbaeippaaaM10K
import Derived.Test.YtblikpbaeippaaaM4K
import Derived.LaidEql
namespace Go.Proofs.Ytblikpbaeippaaa
set_option linter.unusedVariables false
set_option linter.unusedSimpArgs false
open Go.RowKit Px Wr
def startM (db : Dk) (g : Nat) (l : List (List UInt8)) : Dk × Option Int := andK (db.cut 0) fun d1 => writeM d1 (g + 1) 0 (flatP (begP (g + 1) d1.safeV.toNat l))
def ST (h0 h : PH) (j a b : Nat) (da : Dk) (g : Nat) (o : Bool) (r : Dk × Option Int) (v : Value) : Prop :=
  EC h v r.2 ∧ (r.2 ≠ none → JS h0 h j a b da r.1 g o) ∧ (r.2 = none → JS h0 h j b a r.1 da (g + 1) o)
theorem zEx (g p : Nat) (l : List (List UInt8)) : flatP (begP g p l) = sealP ⟨1, g, 0, []⟩ ++ flatP (recP g p l) ++ sealP ⟨3, g, 0, []⟩ := by
  unfold begP
  rw [zBo, zBq, List.append_assoc]
  simp [flatP]
set_option maxRecDepth 20000 in
set_option maxHeartbeats 4000000 in
theorem zGc {h0 : PH} {j a b : Nat} {da db : Dk} {g : Nat} {o : Bool} (A : Option Addr) (c : Nat) (l : List (List UInt8)) (w0 : World) (h : PH) (hj : JS h0 h j a b da db g o) (gb : Good db) (hg : g < 1099511627776) (hr : Rv w0 h0 A (l.map str)) (hl : ∀ t ∈ l, t.length ≤ 4096) (hN : l.length ≤ 100000) (hsz : ∀ p, p ≤ 1048576 → (flatP (begP (g + 1) p l)).length ≤ 200000) :
    PCalls Try.prog w0 30 [.pointer (some ⟨j, 0, none⟩), .slice A l.length c] h fun v h' => ST h0 h' j a b da g o (startM db g l) v := by
  refine zAp Try.func30 (by kernel_rfl) rfl _ Try.ntmps30 (by kernel_rfl) (by kernel_rfl) _ Try.results30 ?_
  have hm := hj.cell
  unfold jL at hm
  obtain ⟨h1, hd, hle1, hback⟩ := hj.useB
  simp -dsimp -implicitDefEqProofs (disch := first | omega | assumption | (simp only [Option.isSome_some,Qt0]; done) | (simp only [List.length_cons,List.length_nil,List.length_append,Int.toNat_natCast] <;> omega) | fail) only [Nat.reduceLT,Nat.reduceLeDiff,Nat.reduceEqDiff,↓reduceIte,Int.reduceLT,Int.reduceLE,Int.reduceToNat,Int.reduceEq,Int.reduceNe,Nat.reduceAdd,Int.reduceAdd,Int.reduceSub,Int.reduceMul,Nat.reduceMul,Qp0,Qp1,Ql0,Qe0]
  refine zA3 11 _ (by kernel_rfl) (by kernel_rfl) (by kernel_rfl) (by kernel_rfl) (by kernel_rfl) (fun c f h hq => by simp only [zAy, zAv, zAw, zAu, zAx] at hq) (PH.Le.refl _).sub ?_
  simp -dsimp -implicitDefEqProofs (disch := first | omega | assumption | (simp only [Option.isSome_some,Qt0]; done) | (simp only [List.length_cons,List.length_nil,List.length_append,Int.toNat_natCast] <;> omega) | fail) only [Nat.reduceLT,Nat.reduceLeDiff,Nat.reduceEqDiff,↓reduceIte,Int.reduceLT,Int.reduceLE,Int.reduceToNat,Int.reduceEq,Int.reduceNe,Nat.reduceAdd,Int.reduceAdd,Int.reduceSub,Int.reduceMul,Nat.reduceMul,Qp0,Qp1,Ql0,Qe0,zAa,zAb,hm]
  refine (zDr h1 b db w0 h hd gb 0).mono ?_
  rintro v h2 ⟨hd2, he2⟩
  have hj2 := hback h2 _ hd2
  have g2 := gb.cut 0
  have hM : startM db g l = andK (db.cut 0) fun d1 => writeM d1 (g + 1) 0 (flatP (begP (g + 1) d1.safeV.toNat l)) := rfl
  rw [hM]
  unfold andK
  have hec := he2.ec
  cases hs : (db.cut 0).2 with
  | some k =>
    rw [hs] at hec
    obtain ⟨t, x, rfl⟩ := hec.held
    simp -dsimp -implicitDefEqProofs (disch := first | omega | assumption | (simp only [Option.isSome_some,Qt0]; done) | (simp only [List.length_cons,List.length_nil,List.length_append,Int.toNat_natCast] <;> omega) | fail) only [Nat.reduceLT,Nat.reduceLeDiff,Nat.reduceEqDiff,↓reduceIte,Int.reduceLT,Int.reduceLE,Int.reduceToNat,Int.reduceEq,Int.reduceNe,Nat.reduceAdd,Int.reduceAdd,Int.reduceSub,Int.reduceMul,Nat.reduceMul,Qp0,Qp1,Ql0,Qe0]
    exact ⟨_, PH.Le.refl _, hec, fun _ => hj2, fun q => by cases q⟩
  | none =>
    rw [hs] at hec
    obtain rfl : v = .nilIface := hec
    clear he2 hM
    generalize (db.cut 0).1 = d1 at *
    clear hd hback hle1 hm hd2
    obtain ⟨p, hp, hp', hpb⟩ := zD4 g2
    have hcast : ((g + 1 : Nat) : Int) = (g : Int) + 1 := by omega
    have hk1 : Pt.Ok ⟨1, g + 1, 0, []⟩ := zBh (by omega) (by omega) (by omega) 1 (.inl rfl)
    have hk3 : Pt.Ok ⟨3, g + 1, 0, []⟩ := zBh (by omega) (by omega) (by omega) 3 (.inr (.inl rfl))
    have hbeg := zEx (g + 1) p l
    have hsum := hsz p hpb
    rw [hbeg, List.length_append, List.length_append] at hsum
    have hE1 := zD0 ⟨1, g + 1, 0, []⟩ hk1 w0 h2
    unfold ptL at hE1
    rw [hcast] at hE1
    simp -dsimp -implicitDefEqProofs (disch := first | omega | assumption | (simp only [Option.isSome_some,Qt0]; done) | (simp only [List.length_cons,List.length_nil,List.length_append,Int.toNat_natCast] <;> omega) | fail) only [Nat.reduceLT,Nat.reduceLeDiff,Nat.reduceEqDiff,↓reduceIte,Int.reduceLT,Int.reduceLE,Int.reduceToNat,Int.reduceEq,Int.reduceNe,Nat.reduceAdd,Int.reduceAdd,Int.reduceSub,Int.reduceMul,Nat.reduceMul,Qp0,Qp1,Ql0,Qe0,zA5,zA6]
    refine hE1.mono ?_
    rintro v h3 ⟨rfl, hl3⟩
    have hj3 := hj2.mono hl3
    obtain ⟨q3, hd3, hq3, hb3⟩ := hj3.useB
    have hF := zHd (.pointer (some ⟨j, 0, none⟩)) (g + 1) ⟨by omega, by omega⟩ A c l w0 h3 hd3 g2 (hr.more hj3.le) hl hN
    rw [hcast, hp] at hF
    simp -dsimp -implicitDefEqProofs (disch := first | omega | assumption | (simp only [Option.isSome_some,Qt0]; done) | (simp only [List.length_cons,List.length_nil,List.length_append,Int.toNat_natCast] <;> omega) | fail) only [Nat.reduceLT,Nat.reduceLeDiff,Nat.reduceEqDiff,↓reduceIte,Int.reduceLT,Int.reduceLE,Int.reduceToNat,Int.reduceEq,Int.reduceNe,Nat.reduceAdd,Int.reduceAdd,Int.reduceSub,Int.reduceMul,Nat.reduceMul,Qp0,Qp1,Ql0,Qe0]
    refine hF.mono ?_
    rintro v h4 ⟨rfl, hl4⟩
    have hE3 := zD0 ⟨3, g + 1, 0, []⟩ hk3 w0 h4
    unfold ptL at hE3
    rw [hcast] at hE3
    simp -dsimp -implicitDefEqProofs (disch := first | omega | assumption | (simp only [Option.isSome_some,Qt0]; done) | (simp only [List.length_cons,List.length_nil,List.length_append,Int.toNat_natCast] <;> omega) | fail) only [Nat.reduceLT,Nat.reduceLeDiff,Nat.reduceEqDiff,↓reduceIte,Int.reduceLT,Int.reduceLE,Int.reduceToNat,Int.reduceEq,Int.reduceNe,Nat.reduceAdd,Int.reduceAdd,Int.reduceSub,Int.reduceMul,Nat.reduceMul,Qp0,Qp1,Ql0,Qe0,zA5,zA6]
    refine hE3.mono ?_
    rintro v h5 ⟨rfl, hl5⟩
    have hj5 := (hj3.mono hl4).mono hl5
    obtain ⟨q5, hd5, hq5, hb5⟩ := hj5.useB
    have hW : PCalls Try.prog w0 38 [.pointer (some ⟨j, 0, none⟩), .pointer (some ⟨b, 0, none⟩), .int .i64 ((g + 1 : Nat) : Int), .int .i64 0, str (flatP (begP (g + 1) p l))] h5 fun v h' => DS q5 h' b (writeM d1 (g + 1) 0 (flatP (begP (g + 1) p l))).1 ∧ EC h' v (writeM d1 (g + 1) 0 (flatP (begP (g + 1) p l))).2 :=
      zI2 (.pointer (some ⟨j, 0, none⟩)) (g + 1) ⟨by omega, by omega⟩ 0 _ (hsz p hpb) w0 h5 hd5 g2
    rw [hcast] at hW
    rw [hbeg] at hW
    simp -dsimp -implicitDefEqProofs (disch := first | omega | assumption | (simp only [Option.isSome_some,Qt0]; done) | (simp only [List.length_cons,List.length_nil,List.length_append,Int.toNat_natCast] <;> omega) | fail) only [Nat.reduceLT,Nat.reduceLeDiff,Nat.reduceEqDiff,↓reduceIte,Int.reduceLT,Int.reduceLE,Int.reduceToNat,Int.reduceEq,Int.reduceNe,Nat.reduceAdd,Int.reduceAdd,Int.reduceSub,Int.reduceMul,Nat.reduceMul,Qp0,Qp1,Ql0,Qe0]
    refine hW.mono ?_
    rintro v h6 ⟨hd6, he6⟩
    have hj6 := hb5 h6 _ hd6
    rw [← hbeg] at hj6 he6
    obtain ⟨r, hre⟩ : ∃ r, writeM d1 (g + 1) 0 (flatP (begP (g + 1) p l)) = r := ⟨_, rfl⟩
    rw [hre] at hj6 he6
    obtain ⟨d2, e2⟩ := r
    cases e2 with
    | some k =>
      obtain ⟨t, x, rfl⟩ := he6.held
      simp -dsimp -implicitDefEqProofs (disch := first | omega | assumption | (simp only [Option.isSome_some,Qt0]; done) | (simp only [List.length_cons,List.length_nil,List.length_append,Int.toNat_natCast] <;> omega) | fail) only [Nat.reduceLT,Nat.reduceLeDiff,Nat.reduceEqDiff,↓reduceIte,Int.reduceLT,Int.reduceLE,Int.reduceToNat,Int.reduceEq,Int.reduceNe,Nat.reduceAdd,Int.reduceAdd,Int.reduceSub,Int.reduceMul,Nat.reduceMul,Qp0,Qp1,Ql0,Qe0]
      refine ⟨_, PH.Le.refl _, ?_⟩
      rw [hp, hre]
      exact ⟨he6, fun _ => hj6, fun q => by cases q⟩
    | none =>
      obtain rfl : v = .nilIface := he6
      have hm6 := hj6.cell
      have hsw := hj6.swap (g + 1) o
      unfold jL at hm6 hsw
      rw [hcast] at hsw
      simp -dsimp -implicitDefEqProofs (disch := first | omega | assumption | (simp only [Option.isSome_some,Qt0]; done) | (simp only [List.length_cons,List.length_nil,List.length_append,Int.toNat_natCast] <;> omega) | fail) only [Nat.reduceLT,Nat.reduceLeDiff,Nat.reduceEqDiff,↓reduceIte,Int.reduceLT,Int.reduceLE,Int.reduceToNat,Int.reduceEq,Int.reduceNe,Nat.reduceAdd,Int.reduceAdd,Int.reduceSub,Int.reduceMul,Nat.reduceMul,Qp0,Qp1,Ql0,Qe0]
      refine zB0 (.take 0 (.take 1 (.take 2 (.take 3 (.take 4 (.take 5 (.take 6 (.take 7 (.take 8 (.take 9 (.take 10 (.take 11 (.take 12 (.take 13 (.cut [14, 15, 16, 17, 18, 19, 20]))))))))))))))) h6 (by kernel_rfl) (by decide +kernel) (by kernel_rfl) (by kernel_rfl) (by kernel_rfl) (fun c f h hq => by simp only [zAy, zAv, zAw, zAu, zAx] at hq) (PH.Le.refl _).sub ?_
      simp -dsimp -implicitDefEqProofs (disch := first | omega | assumption | (simp only [Option.isSome_some,Qt0]; done) | (simp only [List.length_cons,List.length_nil,List.length_append,Int.toNat_natCast] <;> omega) | fail) only [Nat.reduceLT,Nat.reduceLeDiff,Nat.reduceEqDiff,↓reduceIte,Int.reduceLT,Int.reduceLE,Int.reduceToNat,Int.reduceEq,Int.reduceNe,Nat.reduceAdd,Int.reduceAdd,Int.reduceSub,Int.reduceMul,Nat.reduceMul,Qp0,Qp1,Ql0,Qe0,zAo,zAg,zAm,zAj,zAh,zAk,zAl,zAi,zAn,zAf,zAa,zAb,hm6,List.set_cons_zero,List.set_cons_succ,List.take_zero,List.drop_succ_cons,List.drop_zero,List.drop_nil,List.nil_append,List.append_nil,List.take_succ_cons,ite_true,PH.new_new]
      refine ⟨_, PH.Le.refl _, ?_⟩
      rw [hp, hre]
      exact ⟨rfl, fun q => absurd rfl q, fun _ => hsw⟩
def StartM (db : Dk) (g : Nat) (o : Bool) (l : List (List UInt8)) : Dk × Option Int :=
  if o = true then (db, some 5) else if 1099511627776 ≤ g ∨ (l.any fun s => decide (4096 < s.length)) = true then (db, some 3) else startM db g l
def StartO (g : Nat) (o : Bool) (l : List (List UInt8)) (k : Option Int) : Bool := if o = true ∨ 1099511627776 ≤ g ∨ (l.any fun s => decide (4096 < s.length)) = true then o else overK o k
theorem zEa {l : List (List UInt8)} (h : (l.any fun s => decide (4096 < s.length)) = false) : ∀ t ∈ l, t.length ≤ 4096 := fun t ht => by
  have := List.any_eq_false.1 h t ht
  simp only [decide_eq_true_eq] at this
  omega
set_option maxRecDepth 20000 in
set_option maxHeartbeats 4000000 in
theorem jStart_any {h0 : PH} {j a b : Nat} {da db : Dk} {g : Nat} {o : Bool} (A : Option Addr) (c : Nat) (l : List (List UInt8)) (w0 : World) (h : PH) (hj : JS h0 h j a b da db g o) (gb : Good db) (hr : Rv w0 h0 A (l.map str)) (hN : l.length ≤ 100000) (hsz : (∀ t ∈ l, t.length ≤ 4096) → g < 1099511627776 → ∀ p, p ≤ 1048576 → (flatP (begP (g + 1) p l)).length ≤ 200000) :
    PCalls Try.prog w0 13 [.pointer (some ⟨j, 0, none⟩), .slice A l.length c] h fun v h' => ST h0 h' j a b da g (StartO g o l (StartM db g o l).2) (StartM db g o l) v := by
  refine zAp Try.func13 (by kernel_rfl) rfl _ Try.ntmps13 (by kernel_rfl) (by kernel_rfl) _ Try.results13 ?_
  have hm := hj.cell
  unfold jL at hm
  cases o with
  | true =>
    have hM : StartM db g true l = (db, some 5) := by unfold StartM; rw [if_pos rfl]
    have hO : StartO g true l (some 5) = true := by unfold StartO; rw [if_pos (.inl rfl)]
    rw [hM, hO]
    simp -dsimp -implicitDefEqProofs (disch := first | omega | assumption | (simp only [Option.isSome_some,Qt0]; done) | (simp only [List.length_cons,List.length_nil,List.length_append,Int.toNat_natCast] <;> omega) | fail) only [Nat.reduceLT,Nat.reduceLeDiff,Nat.reduceEqDiff,↓reduceIte,Int.reduceLT,Int.reduceLE,Int.reduceToNat,Int.reduceEq,Int.reduceNe,Nat.reduceAdd,Int.reduceAdd,Int.reduceSub,Int.reduceMul,Nat.reduceMul,Qp0,Qp1,Ql0,Qe0,zAa,zAb,hm]
    refine (zB4 j a b g true (some 5) (codeV 5) w0 h hj.cell ⟨.code 5, rfl, rfl⟩).mono ?_
    rintro v h2 ⟨he, hl2⟩
    simp -dsimp -implicitDefEqProofs (disch := first | omega | assumption | (simp only [Option.isSome_some,Qt0]; done) | (simp only [List.length_cons,List.length_nil,List.length_append,Int.toNat_natCast] <;> omega) | fail) only [Nat.reduceLT,Nat.reduceLeDiff,Nat.reduceEqDiff,↓reduceIte,Int.reduceLT,Int.reduceLE,Int.reduceToNat,Int.reduceEq,Int.reduceNe,Nat.reduceAdd,Int.reduceAdd,Int.reduceSub,Int.reduceMul,Nat.reduceMul,Qp0,Qp1,Ql0,Qe0]
    exact ⟨_, PH.Le.refl _, he, fun _ => hj.mono hl2, fun q => by cases q⟩
  | false =>
    by_cases hg : 1099511627776 ≤ g
    · have hM : StartM db g false l = (db, some 3) := by unfold StartM; rw [if_neg (by decide), if_pos (.inl hg)]
      have hO : StartO g false l (some 3) = false := by unfold StartO; rw [if_pos (.inr (.inl hg))]
      rw [hM, hO]
      have d1 : decide (1099511627776 ≤ (g : Int)) = true := decide_eq_true (by omega)
      simp -dsimp -implicitDefEqProofs (disch := first | omega | assumption | (simp only [Option.isSome_some,Qt0]; done) | (simp only [List.length_cons,List.length_nil,List.length_append,Int.toNat_natCast] <;> omega) | fail) only [Nat.reduceLT,Nat.reduceLeDiff,Nat.reduceEqDiff,↓reduceIte,Int.reduceLT,Int.reduceLE,Int.reduceToNat,Int.reduceEq,Int.reduceNe,Nat.reduceAdd,Int.reduceAdd,Int.reduceSub,Int.reduceMul,Nat.reduceMul,Qp0,Qp1,Ql0,Qe0,zAa,zAb,hm,ge_iff_le,d1]
      refine (zB4 j a b g false (some 3) (codeV 3) w0 h hj.cell ⟨.code 3, rfl, rfl⟩).mono ?_
      rintro v h2 ⟨he, hl2⟩
      simp -dsimp -implicitDefEqProofs (disch := first | omega | assumption | (simp only [Option.isSome_some,Qt0]; done) | (simp only [List.length_cons,List.length_nil,List.length_append,Int.toNat_natCast] <;> omega) | fail) only [Nat.reduceLT,Nat.reduceLeDiff,Nat.reduceEqDiff,↓reduceIte,Int.reduceLT,Int.reduceLE,Int.reduceToNat,Int.reduceEq,Int.reduceNe,Nat.reduceAdd,Int.reduceAdd,Int.reduceSub,Int.reduceMul,Nat.reduceMul,Qp0,Qp1,Ql0,Qe0]
      exact ⟨_, PH.Le.refl _, he, fun _ => hj.mono hl2, fun q => by cases q⟩
    have d1 : decide (1099511627776 ≤ (g : Int)) = false := decide_eq_false (by omega)
    have hL := jlong_any A c l w0 h (hr.more hj.le) (by omega)
    cases hb : (l.any fun s => decide (4096 < s.length)) with
    | true =>
      rw [hb] at hL
      have hM : StartM db g false l = (db, some 3) := by unfold StartM; rw [if_neg (by decide), if_pos (.inr hb)]
      have hO : StartO g false l (some 3) = false := by unfold StartO; rw [if_pos (.inr (.inr hb))]
      rw [hM, hO]
      simp -dsimp -implicitDefEqProofs (disch := first | omega | assumption | (simp only [Option.isSome_some,Qt0]; done) | (simp only [List.length_cons,List.length_nil,List.length_append,Int.toNat_natCast] <;> omega) | fail) only [Nat.reduceLT,Nat.reduceLeDiff,Nat.reduceEqDiff,↓reduceIte,Int.reduceLT,Int.reduceLE,Int.reduceToNat,Int.reduceEq,Int.reduceNe,Nat.reduceAdd,Int.reduceAdd,Int.reduceSub,Int.reduceMul,Nat.reduceMul,Qp0,Qp1,Ql0,Qe0,zAa,zAb,hm,ge_iff_le,d1]
      refine hL.mono ?_
      rintro v h2 ⟨rfl, hl2⟩
      have hj2 := hj.mono hl2
      simp -dsimp -implicitDefEqProofs (disch := first | omega | assumption | (simp only [Option.isSome_some,Qt0]; done) | (simp only [List.length_cons,List.length_nil,List.length_append,Int.toNat_natCast] <;> omega) | fail) only [Nat.reduceLT,Nat.reduceLeDiff,Nat.reduceEqDiff,↓reduceIte,Int.reduceLT,Int.reduceLE,Int.reduceToNat,Int.reduceEq,Int.reduceNe,Nat.reduceAdd,Int.reduceAdd,Int.reduceSub,Int.reduceMul,Nat.reduceMul,Qp0,Qp1,Ql0,Qe0]
      refine (zB4 j a b g false (some 3) (codeV 3) w0 h2 hj2.cell ⟨.code 3, rfl, rfl⟩).mono ?_
      rintro v h3 ⟨he, hl3⟩
      simp -dsimp -implicitDefEqProofs (disch := first | omega | assumption | (simp only [Option.isSome_some,Qt0]; done) | (simp only [List.length_cons,List.length_nil,List.length_append,Int.toNat_natCast] <;> omega) | fail) only [Nat.reduceLT,Nat.reduceLeDiff,Nat.reduceEqDiff,↓reduceIte,Int.reduceLT,Int.reduceLE,Int.reduceToNat,Int.reduceEq,Int.reduceNe,Nat.reduceAdd,Int.reduceAdd,Int.reduceSub,Int.reduceMul,Nat.reduceMul,Qp0,Qp1,Ql0,Qe0]
      exact ⟨_, PH.Le.refl _, he, fun _ => hj2.mono hl3, fun q => by cases q⟩
    | false =>
      rw [hb] at hL
      have hll := zEa hb
      have hM : StartM db g false l = startM db g l := by unfold StartM; rw [if_neg (by decide), if_neg (by rw [hb]; simp; omega)]
      have hO : ∀ k, StartO g false l k = overK false k := fun k => by unfold StartO; rw [if_neg (by rw [hb]; simp; omega)]
      rw [hM, hO]
      simp -dsimp -implicitDefEqProofs (disch := first | omega | assumption | (simp only [Option.isSome_some,Qt0]; done) | (simp only [List.length_cons,List.length_nil,List.length_append,Int.toNat_natCast] <;> omega) | fail) only [Nat.reduceLT,Nat.reduceLeDiff,Nat.reduceEqDiff,↓reduceIte,Int.reduceLT,Int.reduceLE,Int.reduceToNat,Int.reduceEq,Int.reduceNe,Nat.reduceAdd,Int.reduceAdd,Int.reduceSub,Int.reduceMul,Nat.reduceMul,Qp0,Qp1,Ql0,Qe0,zAa,zAb,hm,ge_iff_le,d1]
      refine hL.mono ?_
      rintro v h2 ⟨rfl, hl2⟩
      have hj2 := hj.mono hl2
      simp -dsimp -implicitDefEqProofs (disch := first | omega | assumption | (simp only [Option.isSome_some,Qt0]; done) | (simp only [List.length_cons,List.length_nil,List.length_append,Int.toNat_natCast] <;> omega) | fail) only [Nat.reduceLT,Nat.reduceLeDiff,Nat.reduceEqDiff,↓reduceIte,Int.reduceLT,Int.reduceLE,Int.reduceToNat,Int.reduceEq,Int.reduceNe,Nat.reduceAdd,Int.reduceAdd,Int.reduceSub,Int.reduceMul,Nat.reduceMul,Qp0,Qp1,Ql0,Qe0]
      refine (zGc A c l w0 h2 hj2 gb (by omega) hr hll hN (hsz hll (by omega))).mono ?_
      rintro v h3 ⟨he, hs1, hs2⟩
      generalize startM db g l = r at *
      obtain ⟨d3, e3⟩ := r
      cases e3 with
      | none =>
        have hj3 := hs2 rfl
        simp -dsimp -implicitDefEqProofs (disch := first | omega | assumption | (simp only [Option.isSome_some,Qt0]; done) | (simp only [List.length_cons,List.length_nil,List.length_append,Int.toNat_natCast] <;> omega) | fail) only [Nat.reduceLT,Nat.reduceLeDiff,Nat.reduceEqDiff,↓reduceIte,Int.reduceLT,Int.reduceLE,Int.reduceToNat,Int.reduceEq,Int.reduceNe,Nat.reduceAdd,Int.reduceAdd,Int.reduceSub,Int.reduceMul,Nat.reduceMul,Qp0,Qp1,Ql0,Qe0]
        refine (zFb none v w0 h3 hj3 he).mono ?_
        rintro v h4 ⟨he4, hj4⟩
        simp -dsimp -implicitDefEqProofs (disch := first | omega | assumption | (simp only [Option.isSome_some,Qt0]; done) | (simp only [List.length_cons,List.length_nil,List.length_append,Int.toNat_natCast] <;> omega) | fail) only [Nat.reduceLT,Nat.reduceLeDiff,Nat.reduceEqDiff,↓reduceIte,Int.reduceLT,Int.reduceLE,Int.reduceToNat,Int.reduceEq,Int.reduceNe,Nat.reduceAdd,Int.reduceAdd,Int.reduceSub,Int.reduceMul,Nat.reduceMul,Qp0,Qp1,Ql0,Qe0]
        exact ⟨_, PH.Le.refl _, he4, fun q => absurd rfl q, fun _ => hj4⟩
      | some k =>
        have hj3 := hs1 (by simp)
        simp -dsimp -implicitDefEqProofs (disch := first | omega | assumption | (simp only [Option.isSome_some,Qt0]; done) | (simp only [List.length_cons,List.length_nil,List.length_append,Int.toNat_natCast] <;> omega) | fail) only [Nat.reduceLT,Nat.reduceLeDiff,Nat.reduceEqDiff,↓reduceIte,Int.reduceLT,Int.reduceLE,Int.reduceToNat,Int.reduceEq,Int.reduceNe,Nat.reduceAdd,Int.reduceAdd,Int.reduceSub,Int.reduceMul,Nat.reduceMul,Qp0,Qp1,Ql0,Qe0]
        refine (zFb (some k) v w0 h3 hj3 he).mono ?_
        rintro v h4 ⟨he4, hj4⟩
        simp -dsimp -implicitDefEqProofs (disch := first | omega | assumption | (simp only [Option.isSome_some,Qt0]; done) | (simp only [List.length_cons,List.length_nil,List.length_append,Int.toNat_natCast] <;> omega) | fail) only [Nat.reduceLT,Nat.reduceLeDiff,Nat.reduceEqDiff,↓reduceIte,Int.reduceLT,Int.reduceLE,Int.reduceToNat,Int.reduceEq,Int.reduceNe,Nat.reduceAdd,Int.reduceAdd,Int.reduceSub,Int.reduceMul,Nat.reduceMul,Qp0,Qp1,Ql0,Qe0]
        exact ⟨_, PH.Le.refl _, he4, fun _ => hj4, fun q => by cases q⟩
def PutM (da : Dk) (g : Nat) (o : Bool) (l : List (List UInt8)) : Dk × Option Int :=
  if o = true then (da, some 5) else if l = [] then (da, none) else if 400 < l.length ∨ (l.any fun s => decide (4096 < s.length)) = true then (da, some 3) else writeM da g (if da.down = true then 0 else (da.l.length : Int)) (flatP (recP g da.safeV.toNat l))
def PutO (o : Bool) (l : List (List UInt8)) (k : Option Int) : Bool := if o = true ∨ l = [] ∨ 400 < l.length ∨ (l.any fun s => decide (4096 < s.length)) = true then o else overK o k
set_option maxRecDepth 20000 in
set_option maxHeartbeats 4000000 in
theorem jPut_any {h0 : PH} {j a b : Nat} {da db : Dk} {g : Nat} {o : Bool} (A : Option Addr) (c : Nat) (l : List (List UInt8)) (w0 : World) (h : PH) (hj : JS h0 h j a b da db g o) (ga : Good da) (hg : 1 ≤ g ∧ g ≤ 1099511627776) (hr : Rv w0 h0 A (l.map str)) (hN : l.length ≤ 100000) (hsz : (∀ t ∈ l, t.length ≤ 4096) → l.length ≤ 400 → ∀ p, p ≤ 1048576 → (flatP (recP g p l)).length ≤ 200000) :
    PCalls Try.prog w0 12 [.pointer (some ⟨j, 0, none⟩), .slice A l.length c] h fun v h' => EC h' v (PutM da g o l).2 ∧ JS h0 h' j a b (PutM da g o l).1 db g (PutO o l (PutM da g o l).2) := by
  refine zAp Try.func12 (by kernel_rfl) rfl _ Try.ntmps12 (by kernel_rfl) (by kernel_rfl) _ Try.results12 ?_
  have hm := hj.cell
  unfold jL at hm
  cases o with
  | true =>
    have hM : PutM da g true l = (da, some 5) := by unfold PutM; rw [if_pos rfl]
    have hO : PutO true l (some 5) = true := by unfold PutO; rw [if_pos (.inl rfl)]
    rw [hM, hO]
    simp -dsimp -implicitDefEqProofs (disch := first | omega | assumption | (simp only [Option.isSome_some,Qt0]; done) | (simp only [List.length_cons,List.length_nil,List.length_append,Int.toNat_natCast] <;> omega) | fail) only [Nat.reduceLT,Nat.reduceLeDiff,Nat.reduceEqDiff,↓reduceIte,Int.reduceLT,Int.reduceLE,Int.reduceToNat,Int.reduceEq,Int.reduceNe,Nat.reduceAdd,Int.reduceAdd,Int.reduceSub,Int.reduceMul,Nat.reduceMul,Qp0,Qp1,Ql0,Qe0,zAa,zAb,hm]
    refine (zB4 j a b g true (some 5) (codeV 5) w0 h hj.cell ⟨.code 5, rfl, rfl⟩).mono ?_
    rintro v h2 ⟨he, hl2⟩
    simp -dsimp -implicitDefEqProofs (disch := first | omega | assumption | (simp only [Option.isSome_some,Qt0]; done) | (simp only [List.length_cons,List.length_nil,List.length_append,Int.toNat_natCast] <;> omega) | fail) only [Nat.reduceLT,Nat.reduceLeDiff,Nat.reduceEqDiff,↓reduceIte,Int.reduceLT,Int.reduceLE,Int.reduceToNat,Int.reduceEq,Int.reduceNe,Nat.reduceAdd,Int.reduceAdd,Int.reduceSub,Int.reduceMul,Nat.reduceMul,Qp0,Qp1,Ql0,Qe0]
    exact ⟨_, PH.Le.refl _, he, hj.mono hl2⟩
  | false =>
    by_cases h0l : l = []
    · have hM : PutM da g false l = (da, none) := by unfold PutM; rw [if_neg (by decide), if_pos h0l]
      have hO : PutO false l none = false := by unfold PutO; rw [if_pos (.inr (.inl h0l))]
      rw [hM, hO]
      subst h0l
      have d0 : decide (((([] : List (List UInt8)).length : Nat) : Int) = 0) = true := decide_eq_true rfl
      simp only [List.length_nil] at d0 ⊢
      simp -dsimp -implicitDefEqProofs (disch := first | omega | assumption | (simp only [Option.isSome_some,Qt0]; done) | (simp only [List.length_cons,List.length_nil,List.length_append,Int.toNat_natCast] <;> omega) | fail) only [Nat.reduceLT,Nat.reduceLeDiff,Nat.reduceEqDiff,↓reduceIte,Int.reduceLT,Int.reduceLE,Int.reduceToNat,Int.reduceEq,Int.reduceNe,Nat.reduceAdd,Int.reduceAdd,Int.reduceSub,Int.reduceMul,Nat.reduceMul,Qp0,Qp1,Ql0,Qe0,zAa,zAb,hm,d0]
      exact ⟨_, PH.Le.refl _, by first | trivial | rfl, hj⟩
    have hlp : 0 < l.length := List.length_pos_iff.2 h0l
    have d0 : decide ((l.length : Int) = 0) = false := decide_eq_false (by omega)
    by_cases h400 : 400 < l.length
    · have hM : PutM da g false l = (da, some 3) := by unfold PutM; rw [if_neg (by decide), if_neg h0l, if_pos (.inl h400)]
      have hO : PutO false l (some 3) = false := by unfold PutO; rw [if_pos (.inr (.inr (.inl h400)))]
      rw [hM, hO]
      have d1 : decide (400 < (l.length : Int)) = true := decide_eq_true (by omega)
      simp -dsimp -implicitDefEqProofs (disch := first | omega | assumption | (simp only [Option.isSome_some,Qt0]; done) | (simp only [List.length_cons,List.length_nil,List.length_append,Int.toNat_natCast] <;> omega) | fail) only [Nat.reduceLT,Nat.reduceLeDiff,Nat.reduceEqDiff,↓reduceIte,Int.reduceLT,Int.reduceLE,Int.reduceToNat,Int.reduceEq,Int.reduceNe,Nat.reduceAdd,Int.reduceAdd,Int.reduceSub,Int.reduceMul,Nat.reduceMul,Qp0,Qp1,Ql0,Qe0,zAa,zAb,hm,d0,gt_iff_lt,d1]
      refine (zB4 j a b g false (some 3) (codeV 3) w0 h hj.cell ⟨.code 3, rfl, rfl⟩).mono ?_
      rintro v h2 ⟨he, hl2⟩
      simp -dsimp -implicitDefEqProofs (disch := first | omega | assumption | (simp only [Option.isSome_some,Qt0]; done) | (simp only [List.length_cons,List.length_nil,List.length_append,Int.toNat_natCast] <;> omega) | fail) only [Nat.reduceLT,Nat.reduceLeDiff,Nat.reduceEqDiff,↓reduceIte,Int.reduceLT,Int.reduceLE,Int.reduceToNat,Int.reduceEq,Int.reduceNe,Nat.reduceAdd,Int.reduceAdd,Int.reduceSub,Int.reduceMul,Nat.reduceMul,Qp0,Qp1,Ql0,Qe0]
      exact ⟨_, PH.Le.refl _, he, hj.mono hl2⟩
    have d1 : decide (400 < (l.length : Int)) = false := decide_eq_false (by omega)
    have hL := jlong_any A c l w0 h (hr.more hj.le) (by omega)
    cases hb : (l.any fun s => decide (4096 < s.length)) with
    | true =>
      rw [hb] at hL
      have hM : PutM da g false l = (da, some 3) := by unfold PutM; rw [if_neg (by decide), if_neg h0l, if_pos (.inr hb)]
      have hO : PutO false l (some 3) = false := by unfold PutO; rw [if_pos (.inr (.inr (.inr hb)))]
      rw [hM, hO]
      simp -dsimp -implicitDefEqProofs (disch := first | omega | assumption | (simp only [Option.isSome_some,Qt0]; done) | (simp only [List.length_cons,List.length_nil,List.length_append,Int.toNat_natCast] <;> omega) | fail) only [Nat.reduceLT,Nat.reduceLeDiff,Nat.reduceEqDiff,↓reduceIte,Int.reduceLT,Int.reduceLE,Int.reduceToNat,Int.reduceEq,Int.reduceNe,Nat.reduceAdd,Int.reduceAdd,Int.reduceSub,Int.reduceMul,Nat.reduceMul,Qp0,Qp1,Ql0,Qe0,zAa,zAb,hm,d0,gt_iff_lt,d1]
      refine hL.mono ?_
      rintro v h2 ⟨rfl, hl2⟩
      have hj2 := hj.mono hl2
      simp -dsimp -implicitDefEqProofs (disch := first | omega | assumption | (simp only [Option.isSome_some,Qt0]; done) | (simp only [List.length_cons,List.length_nil,List.length_append,Int.toNat_natCast] <;> omega) | fail) only [Nat.reduceLT,Nat.reduceLeDiff,Nat.reduceEqDiff,↓reduceIte,Int.reduceLT,Int.reduceLE,Int.reduceToNat,Int.reduceEq,Int.reduceNe,Nat.reduceAdd,Int.reduceAdd,Int.reduceSub,Int.reduceMul,Nat.reduceMul,Qp0,Qp1,Ql0,Qe0]
      refine (zB4 j a b g false (some 3) (codeV 3) w0 h2 hj2.cell ⟨.code 3, rfl, rfl⟩).mono ?_
      rintro v h3 ⟨he, hl3⟩
      simp -dsimp -implicitDefEqProofs (disch := first | omega | assumption | (simp only [Option.isSome_some,Qt0]; done) | (simp only [List.length_cons,List.length_nil,List.length_append,Int.toNat_natCast] <;> omega) | fail) only [Nat.reduceLT,Nat.reduceLeDiff,Nat.reduceEqDiff,↓reduceIte,Int.reduceLT,Int.reduceLE,Int.reduceToNat,Int.reduceEq,Int.reduceNe,Nat.reduceAdd,Int.reduceAdd,Int.reduceSub,Int.reduceMul,Nat.reduceMul,Qp0,Qp1,Ql0,Qe0]
      exact ⟨_, PH.Le.refl _, he, hj2.mono hl3⟩
    | false =>
      rw [hb] at hL
      have hll := zEa hb
      have hM : PutM da g false l = writeM da g (if da.down = true then 0 else (da.l.length : Int)) (flatP (recP g da.safeV.toNat l)) := by unfold PutM; rw [if_neg (by decide), if_neg h0l, if_neg (by rw [hb]; simp; omega)]
      have hO : ∀ k, PutO false l k = overK false k := fun k => by unfold PutO; rw [if_neg (by rw [hb]; simp [h0l]; omega)]
      rw [hM, hO]
      simp -dsimp -implicitDefEqProofs (disch := first | omega | assumption | (simp only [Option.isSome_some,Qt0]; done) | (simp only [List.length_cons,List.length_nil,List.length_append,Int.toNat_natCast] <;> omega) | fail) only [Nat.reduceLT,Nat.reduceLeDiff,Nat.reduceEqDiff,↓reduceIte,Int.reduceLT,Int.reduceLE,Int.reduceToNat,Int.reduceEq,Int.reduceNe,Nat.reduceAdd,Int.reduceAdd,Int.reduceSub,Int.reduceMul,Nat.reduceMul,Qp0,Qp1,Ql0,Qe0,zAa,zAb,hm,d0,gt_iff_lt,d1]
      refine hL.mono ?_
      rintro v h2 ⟨rfl, hl2⟩
      have hj2 := hj.mono hl2
      have hm2 := hj2.cell
      unfold jL at hm2
      obtain ⟨p, hp, hp', hpb⟩ := zD4 ga
      obtain ⟨q, hd, hq, hback⟩ := hj2.useA
      obtain ⟨n, hn⟩ : ∃ n : Nat, (if da.down = true then (0 : Int) else (da.l.length : Int)) = (n : Int) := by
        split
        · exact ⟨0, rfl⟩
        · exact ⟨_, rfl⟩
      have hLen := len_any q a da w0 h2 hd
      rw [hn] at hLen ⊢
      simp -dsimp -implicitDefEqProofs (disch := first | omega | assumption | (simp only [Option.isSome_some,Qt0]; done) | (simp only [List.length_cons,List.length_nil,List.length_append,Int.toNat_natCast] <;> omega) | fail) only [Nat.reduceLT,Nat.reduceLeDiff,Nat.reduceEqDiff,↓reduceIte,Int.reduceLT,Int.reduceLE,Int.reduceToNat,Int.reduceEq,Int.reduceNe,Nat.reduceAdd,Int.reduceAdd,Int.reduceSub,Int.reduceMul,Nat.reduceMul,Qp0,Qp1,Ql0,Qe0]
      refine zB0 (.take 0 (.take 1 (.take 2 (.take 3 (.take 4 (.take 5 (.take 6 (.take 7 (.take 8 (.take 9 (.take 10 (.take 11 (.take 12 (.take 13 (.take 15 (.take 16 (.take 17 (.take 18 (.take 19 (.take 20 (.take 21 (.take 22 (.take 23 (.take 24 (.take 14 (.take 25 (.cut [26, 27, 28]))))))))))))))))))))))))))) h2 (by kernel_rfl) (by decide +kernel) (by kernel_rfl) (by kernel_rfl) (by kernel_rfl) (fun c f h hq => by simp only [zAy, zAv, zAw, zAu, zAx] at hq) (PH.Le.refl _).sub ?_
      simp -dsimp -implicitDefEqProofs (disch := first | omega | assumption | (simp only [Option.isSome_some,Qt0]; done) | (simp only [List.length_cons,List.length_nil,List.length_append,Int.toNat_natCast] <;> omega) | fail) only [Nat.reduceLT,Nat.reduceLeDiff,Nat.reduceEqDiff,↓reduceIte,Int.reduceLT,Int.reduceLE,Int.reduceToNat,Int.reduceEq,Int.reduceNe,Nat.reduceAdd,Int.reduceAdd,Int.reduceSub,Int.reduceMul,Nat.reduceMul,Qp0,Qp1,Ql0,Qe0,zAo,zAg,zAm,zAj,zAh,zAk,zAl,zAi,zAn,zAf,zAa,zAb,hm2]
      refine hLen.mono ?_
      rintro v hz ⟨rfl, hz'⟩
      obtain rfl := hz'.symm
      simp -dsimp -implicitDefEqProofs (disch := first | omega | assumption | (simp only [Option.isSome_some,Qt0]; done) | (simp only [List.length_cons,List.length_nil,List.length_append,Int.toNat_natCast] <;> omega) | fail) only [Nat.reduceLT,Nat.reduceLeDiff,Nat.reduceEqDiff,↓reduceIte,Int.reduceLT,Int.reduceLE,Int.reduceToNat,Int.reduceEq,Int.reduceNe,Nat.reduceAdd,Int.reduceAdd,Int.reduceSub,Int.reduceMul,Nat.reduceMul,Qp0,Qp1,Ql0,Qe0,zAo,zAg,zAm,zAj,zAh,zAk,zAl,zAi,zAn,zAf,zAa,zAb,hm2]
      refine ⟨(PH.Le.refl _).sub, ?_⟩
      have hF := zHd (.pointer (some ⟨j, 0, none⟩)) g hg A c l w0 h2 hd ga (hr.more hj2.le) hll hN
      rw [hp] at hF
      simp -dsimp -implicitDefEqProofs (disch := first | omega | assumption | (simp only [Option.isSome_some,Qt0]; done) | (simp only [List.length_cons,List.length_nil,List.length_append,Int.toNat_natCast] <;> omega) | fail) only [Nat.reduceLT,Nat.reduceLeDiff,Nat.reduceEqDiff,↓reduceIte,Int.reduceLT,Int.reduceLE,Int.reduceToNat,Int.reduceEq,Int.reduceNe,Nat.reduceAdd,Int.reduceAdd,Int.reduceSub,Int.reduceMul,Nat.reduceMul,Qp0,Qp1,Ql0,Qe0,zAo,zAg,zAm,zAj,zAh,zAk,zAl,zAi,zAn,zAf,zAa,zAb,hm2]
      refine hF.mono ?_
      rintro v h3 ⟨rfl, hl3⟩
      have hj3 := hj2.mono hl3
      obtain ⟨q3, hd3, hq3, hb3⟩ := hj3.useA
      simp -dsimp -implicitDefEqProofs (disch := first | omega | assumption | (simp only [Option.isSome_some,Qt0]; done) | (simp only [List.length_cons,List.length_nil,List.length_append,Int.toNat_natCast] <;> omega) | fail) only [Nat.reduceLT,Nat.reduceLeDiff,Nat.reduceEqDiff,↓reduceIte,Int.reduceLT,Int.reduceLE,Int.reduceToNat,Int.reduceEq,Int.reduceNe,Nat.reduceAdd,Int.reduceAdd,Int.reduceSub,Int.reduceMul,Nat.reduceMul,Qp0,Qp1,Ql0,Qe0,zAo,zAg,zAm,zAj,zAh,zAk,zAl,zAi,zAn,zAf,zAa,zAb,hm2]
      refine ⟨hl3.sub, ?_⟩
      simp -dsimp -implicitDefEqProofs (disch := first | omega | assumption | (simp only [Option.isSome_some,Qt0]; done) | (simp only [List.length_cons,List.length_nil,List.length_append,Int.toNat_natCast] <;> omega) | fail) only [Nat.reduceLT,Nat.reduceLeDiff,Nat.reduceEqDiff,↓reduceIte,Int.reduceLT,Int.reduceLE,Int.reduceToNat,Int.reduceEq,Int.reduceNe,Nat.reduceAdd,Int.reduceAdd,Int.reduceSub,Int.reduceMul,Nat.reduceMul,Qp0,Qp1,Ql0,Qe0,zAo,zAg,zAm,zAj,zAh,zAk,zAl,zAi,zAn,zAf,zAa,zAb,hm2]
      refine (zI2 (.pointer (some ⟨j, 0, none⟩)) g hg n (flatP (recP g p l)) (hsz hll (by omega) p hpb) w0 h3 hd3 ga).mono ?_
      rintro v h4 ⟨hd4, he4⟩
      have hj4 := hb3 h4 _ hd4
      simp -dsimp -implicitDefEqProofs (disch := first | omega | assumption | (simp only [Option.isSome_some,Qt0]; done) | (simp only [List.length_cons,List.length_nil,List.length_append,Int.toNat_natCast] <;> omega) | fail) only [Nat.reduceLT,Nat.reduceLeDiff,Nat.reduceEqDiff,↓reduceIte,Int.reduceLT,Int.reduceLE,Int.reduceToNat,Int.reduceEq,Int.reduceNe,Nat.reduceAdd,Int.reduceAdd,Int.reduceSub,Int.reduceMul,Nat.reduceMul,Qp0,Qp1,Ql0,Qe0,zAo,zAg,zAm,zAj,zAh,zAk,zAl,zAi,zAn,zAf]
      refine (zFb _ v w0 h4 hj4 he4).mono ?_
      rintro v h5 ⟨he5, hj5⟩
      simp -dsimp -implicitDefEqProofs (disch := first | omega | assumption | (simp only [Option.isSome_some,Qt0]; done) | (simp only [List.length_cons,List.length_nil,List.length_append,Int.toNat_natCast] <;> omega) | fail) only [Nat.reduceLT,Nat.reduceLeDiff,Nat.reduceEqDiff,↓reduceIte,Int.reduceLT,Int.reduceLE,Int.reduceToNat,Int.reduceEq,Int.reduceNe,Nat.reduceAdd,Int.reduceAdd,Int.reduceSub,Int.reduceMul,Nat.reduceMul,Qp0,Qp1,Ql0,Qe0,zAo,zAg,zAm,zAj,zAh,zAk,zAl,zAi,zAn,zAf]
      refine ⟨_, PH.Le.refl _, ?_⟩
      rw [hp]
      exact ⟨he5, hj5⟩
end Go.Proofs.Ytblikpbaeippaaa


namespace Go.Proofs.Ytblikpbaeippaaa
set_option linter.unusedVariables false
set_option linter.unusedSimpArgs false
open Go.RowKit Px Wr

def ScanK (s : List UInt8) (ps : List Pt) (c : Bool) : Prop := Scan s ps ∧ (c = true ↔ Corrupt s (flatP ps).length)
def cutEnd (d : Dk) (ps : List Pt) : Dk × Option Int := if (flatP ps).length < d.l.length then endK (d.cut (flatP ps).length) else (d, none)
inductive TailR (d : Dk) (ps : List Pt) (g : Nat) : Dk → Option Int → List Pt → Prop where
  | cutErr {k : Int} (h : (cutEnd d ps).2 = some k) : TailR d ps g (cutEnd d ps).1 (some k) ps
  | marked (h : (cutEnd d ps).2 = none) (hl : ∃ x, ps.getLast? = some x ∧ x.k = 4) : TailR d ps g (cutEnd d ps).1 none ps
  | mark (h : (cutEnd d ps).2 = none) (hl : ∃ x, ps.getLast? = some x ∧ x.k ≠ 4) (hm : (markM (cutEnd d ps).1 g).2 ≠ some 4) : TailR d ps g (markM (cutEnd d ps).1 g).1 (markM (cutEnd d ps).1 g).2 ps
  | noMark (h : (cutEnd d ps).2 = none) (hl : ∃ x, ps.getLast? = some x ∧ x.k ≠ 4) (hm : (markM (cutEnd d ps).1 g).2 = some 4) (hn : ∀ x ∈ ps, x.k ≠ 4) : TailR d ps g (markM (cutEnd d ps).1 g).1 none ps
  | back {i : Nat} (h : (cutEnd d ps).2 = none) (hl : ∃ x, ps.getLast? = some x ∧ x.k ≠ 4) (hm : (markM (cutEnd d ps).1 g).2 = some 4) (hi : LastMark ps i) : TailR d ps g (((markM (cutEnd d ps).1 g).1.cut (flatP (ps.take (i + 1))).length)).1 ((((markM (cutEnd d ps).1 g).1.cut (flatP (ps.take (i + 1))).length)).2.map (·.1)) (ps.take (i + 1))
def wh (c : Bool) (ps : List Pt) : Bool := !c && ordB ps
def badX (cx cy : Bool) (ps qs : List Pt) : Bool := cx && !(decide (0 < genP ps) && wh cy qs && decide (genP ps < genP qs))
def badC (cx cy : Bool) (ps qs : List Pt) : Bool := badX cx cy ps qs || badX cy cx qs ps
def swB (cx cy : Bool) (ps qs : List Pt) : Bool := !(wh cx ps) || (wh cy qs && decide (genP ps < genP qs))
inductive OpenR (da db : Dk) : Dk → Dk → Option Int → Bool → Nat → List (List UInt8) → Prop where
  | down (h : da.down = true ∨ db.down = true) : OpenR da db da db (some 5) false 0 []
  | corrupt (ps qs : List Pt) (cx cy : Bool) (hu : da.down = false ∧ db.down = false) (hx : ScanK da.l ps cx) (hy : ScanK db.l qs cy) (hb : badC cx cy ps qs = true) : OpenR da db da db (some 6) false 0 []
  | anew (ps qs : List Pt) (cx cy : Bool) (hu : da.down = false ∧ db.down = false) (hx : ScanK da.l ps cx) (hy : ScanK db.l qs cy) (hb : badC cx cy ps qs = false) (h1 : wh cx ps = false) (h2 : wh cy qs = false) : OpenR da db da (startM db 0 []).1 (startM db 0 []).2 true 1 []
  | left (ps qs : List Pt) (cx cy : Bool) {d : Dk} {e : Option Int} {zs : List Pt} (hu : da.down = false ∧ db.down = false) (hx : ScanK da.l ps cx) (hy : ScanK db.l qs cy) (hb : badC cx cy ps qs = false) (hw : wh cx ps = true) (hs : swB cx cy ps qs = false) (ht : TailR da ps (genP ps) d e zs) : OpenR da db d db e false (genP ps) (recsP zs)
  | right (ps qs : List Pt) (cx cy : Bool) {d : Dk} {e : Option Int} {zs : List Pt} (hu : da.down = false ∧ db.down = false) (hx : ScanK da.l ps cx) (hy : ScanK db.l qs cy) (hb : badC cx cy ps qs = false) (hw : wh cy qs = true) (hs : swB cx cy ps qs = true) (ht : TailR db qs (genP qs) d e zs) : OpenR da db da d e true (genP qs) (recsP zs)
def OpenV (h0 h h' : PH) (a b : Nat) (v : Value) (da db : Dk) (e : Option Int) (sw : Bool) (g : Nat) (l : List (List UInt8)) : Prop := match e with
  | some k => ∃ e3, v = .tuple #[.pointer none, .slice none 0 0, e3] ∧ EC h' e3 (some k) ∧ D2 h0 h' a da b db
  | none => ∃ j V h1, v = .tuple #[.pointer (some ⟨j, 0, none⟩), V, .nilIface] ∧ PH.Le h0 h1 ∧ (if sw = true then JS h1 h' j b a db da g false else JS h1 h' j a b da db g false) ∧ Own h1 1 V l.length (l.map str) ∧ ∀ x, V.ownBlock = some x → h.top ≤ x
def OpenP (h0 h h' : PH) (a b : Nat) (v : Value) (da db : Dk) : Prop := ∃ da' db' e sw g l, OpenR da db da' db' e sw g l ∧ OpenV h0 h h' a b v da' db' e sw g l
set_option maxRecDepth 20000 in
theorem zB8 (k : Option Int) (v : Value) (w0 : World) (h : PH) (hv : EC h v k) : PCalls Try.prog w0 24 [v] h fun r h' => ∃ e, r = .tuple #[.pointer none, .slice none 0 0, e] ∧ EC h' e k ∧ PH.Le h h' := by
  refine zAp Try.func24 (by kernel_rfl) rfl _ Try.ntmps24 (by kernel_rfl) (by kernel_rfl) _ Try.results24 ?_
  simp -dsimp -implicitDefEqProofs (disch := first | omega | assumption | (simp only [Option.isSome_some,Qt0]; done) | (simp only [List.length_cons,List.length_nil,List.length_append,Int.toNat_natCast] <;> omega) | fail) only [Nat.reduceLT,Nat.reduceLeDiff,Nat.reduceEqDiff,↓reduceIte,Int.reduceLT,Int.reduceLE,Int.reduceToNat,Int.reduceEq,Int.reduceNe,Nat.reduceAdd,Int.reduceAdd,Int.reduceSub,Int.reduceMul,Nat.reduceMul,Qp0,Qp1,Ql0,Qe0]
  refine (fat_ec journalT 0 k v w0 h hv).mono ?_
  rintro r h' ⟨h1, h2⟩
  simp -dsimp -implicitDefEqProofs (disch := first | omega | assumption | (simp only [Option.isSome_some,Qt0]; done) | (simp only [List.length_cons,List.length_nil,List.length_append,Int.toNat_natCast] <;> omega) | fail) only [Nat.reduceLT,Nat.reduceLeDiff,Nat.reduceEqDiff,↓reduceIte,Int.reduceLT,Int.reduceLE,Int.reduceToNat,Int.reduceEq,Int.reduceNe,Nat.reduceAdd,Int.reduceAdd,Int.reduceSub,Int.reduceMul,Nat.reduceMul,Qp0,Qp1,Ql0,Qe0]
  exact ⟨_, PH.Le.refl _, r, rfl, h1, h2⟩
theorem Px.Rv.at {w0 : World} {h h' : PH} {A : Option Addr} {xs : List Value} (r : Rv w0 h A xs) (hk : ∀ a, A = some a → ∀ k, h.m a.block = some k → h'.m a.block = some k) : Rv w0 h' A xs := fun j u e => by
  obtain ⟨b, o, rfl, h1⟩ := r j u e
  refine ⟨b, o, rfl, ?_⟩
  rcases h1 with ⟨k, h1, h2⟩ | h1
  · exact .inl ⟨k, hk _ rfl k h1, h2⟩
  · exact .inr h1
theorem LK.at {w0 : World} {F : Nat} {h h' : PH} {s : List UInt8} {L : List Value} (l : LK w0 F h s L) (hk : ∀ x k, F ≤ x → h.m x = some k → h'.m x = some k) : LK w0 F h' s L := by
  obtain ⟨ps, A, c, B, c2, cor, q1, q2, q3, q4, q5, q6, q7, q8, q9⟩ := l
  exact ⟨ps, A, c, B, c2, cor, q1, q2, q3, q4, q5, q6.at fun a e k => hk _ k (q1 a e), q7.at fun a e k => hk _ k (q2 a e), q8, q9⟩
theorem LK.more {w0 : World} {F : Nat} {h h' : PH} {s : List UInt8} {L : List Value} (l : LK w0 F h s L) (hl : PH.Le h h') : LK w0 F h' s L := l.at fun x k _ e => hl.m x k e
theorem zIs {h0 : PH} {a b : Nat} {da db : Dk} (w0 : World) (h : PH) (hd : D2 h0 h a da b db) (g : Good da) (hup : da.down = false) : PCalls Try.prog w0 27 [.pointer (some ⟨a, 0, none⟩)] h fun v h' => ∃ L h1, v = .tuple #[.agg L.toArray, .nilIface] ∧ PH.Le h0 h1 ∧ h.top ≤ h1.top ∧ D2 h1 h' a da b db ∧ LK w0 h.top h1 da.l L := by
  obtain ⟨h1, q1, q2, q3, q4, q5, q6, q7⟩ := hd.use2
  refine (jscan_any w0 h q1 g hup).mono ?_
  rintro v h' ⟨L, h2, rfl, hl2, hd2, hlk⟩
  obtain ⟨h3, r1, r2, r3, r5, r4⟩ := q6 h2 h' da hl2 hd2
  exact ⟨L, h3, rfl, r1, by have := hl2.top; omega, r3, hlk.at r4⟩
theorem jback2_any {h0 : PH} {a b : Nat} {da db : Dk} (xb : Nat) (A B : Option Addr) (c c2 e : Nat) (cor wh : Bool) (ps : List Pt) (w0 : World) (h : PH) (hx : h0.m xb = some ⟨lkL A ps.length c B ps.length c2 e cor wh, 5⟩) (hd : D2 h0 h a da b db) (g : Good da) (hA : Rv w0 h0 A (ptsL ps)) (hB : Rv w0 h0 B (ints (endsP ps))) (hxB : ∀ a, B = some a → a.block ≠ xb) (hc : ps.length ≤ c) (hN : ps.length ≤ 2000000) :
    PCalls Try.prog w0 33 [.pointer (some ⟨xb, 0, none⟩), .pointer (some ⟨a, 0, none⟩)] h fun v h' => ((∀ x ∈ ps, x.k ≠ 4) ∧ v = .nilIface ∧ D2 h0 h' a da b db) ∨ ∃ i, LastMark ps i ∧ D2 (h0.new xb ⟨lkL A (i + 1) c B ps.length c2 e cor wh, 5⟩) h' a (da.cut (flatP (ps.take (i + 1))).length).1 b db ∧ EC h' v ((da.cut (flatP (ps.take (i + 1))).length).2.map (·.1)) := by
  obtain ⟨h1, q1, q2, q3, q4, q5, q6, q7⟩ := hd.use2
  refine (jback_any xb A B c c2 e cor wh ps w0 h (q3.m _ _ hx) q1 g (hA.more q3) (hB.more q3) hxB hc hN).mono ?_
  rintro v h' (⟨r1, r2, r3⟩ | ⟨i, r1, r2, r3⟩)
  · obtain ⟨h3, s1, s2, s3, _, s4⟩ := q6 h1 h' da (PH.Le.refl _) r3
    exact .inl ⟨r1, r2, s3.base s1⟩
  · exact .inr ⟨i, r1, q7 xb _ _ h' _ hx r2, r3⟩
theorem jcut2_any {h0 : PH} {a b : Nat} {da db : Dk} (n : Nat) (w0 : World) (h : PH) (hd : D2 h0 h a da b db) (g : Good da) : PCalls Try.prog w0 31 [.pointer (some ⟨a, 0, none⟩), .int .i64 n] h fun v h' => D2 h0 h' a (endK (da.cut n)).1 b db ∧ EC h' v (endK (da.cut n)).2 := by
  obtain ⟨h1, q1, q2, q3⟩ := hd.use
  refine (zDr h1 a da w0 h q1 g n).mono ?_
  rintro v h' ⟨r1, r2⟩
  exact ⟨q3 h' _ r1, r2.ec⟩
theorem jmark2_any {h0 : PH} {a b : Nat} {da db : Dk} (jv : Value) (gen : Nat) (hg : 1 ≤ gen ∧ gen ≤ 1099511627776) (w0 : World) (h : PH) (hd : D2 h0 h a da b db) (g : Good da) : PCalls Try.prog w0 32 [jv, .pointer (some ⟨a, 0, none⟩), .int .i64 gen] h fun v h' => D2 h0 h' a (markM da gen).1 b db ∧ EC h' v (markM da gen).2 := by
  obtain ⟨h1, q1, q2, q3⟩ := hd.use
  refine (jmark_any jv gen hg w0 h q1 g).mono ?_
  rintro v h' r
  exact ⟨q3 h' _ r.both.1, r.both.2⟩
theorem D2.js {hJ h : PH} {j a b : Nat} {da db : Dk} {g : Nat} {o : Bool} (hd : D2 hJ h a da b db) (hj : hJ.m j = some ⟨jL a b g o, 4⟩) : JS (hJ.del j) h j a b da db g o :=
  ⟨by rw [PH.del_m, if_pos rfl], hd.base ⟨by simp only [PH.new_top, PH.del_top]; have := hJ.lt _ _ hj; omega, fun x k e => by
    rw [PH.new_m] at e
    by_cases r : x = j
    · rw [if_pos r] at e; rw [r, hj]; exact e
    · rw [if_neg r, PH.del_m, if_neg r] at e; exact e⟩⟩
end Go.Proofs.Ytblikpbaeippaaa


namespace Go.Proofs.Ytblikpbaeippaaa
set_option linter.unusedVariables false
set_option linter.unusedSimpArgs false
open Go.RowKit Px Wr
theorem scan_nil : Scan [] [] := ⟨(fun x hx => by cases hx), [], rfl, fun x hx r e => by
  have := zB9 x
  have h2 := congrArg List.length e
  rw [List.length_append, List.length_nil] at h2
  omega⟩
theorem partAt_lt {s : List UInt8} {a : Nat} {q : Pt × Nat} (h : partAt s a = some q) : a < s.length := by
  unfold partAt openO at h
  by_cases hc : 0 ≤ (a : Int) ∧ (a : Int) < s.length ∧ s.getD (a : Int).toNat 0 = 1
  · omega
  · rw [if_neg hc] at h; cases h
theorem zC5 {s : List UInt8} : ¬ Corrupt s s.length := fun ⟨a, x, n, h1, h2, _⟩ => by
  have := partAt_lt h2; omega
theorem zCa {s : List UInt8} {ps qs : List Pt} {c : Bool} (k : ScanK s ps c) (h : Scan s qs) : ps = qs := k.1.one h
theorem zCm {s : List UInt8} {ps qs : List Pt} {c : Bool} (k : ScanK s ps c) (h : Scan s qs) (hn : ¬ Corrupt s (flatP qs).length) : c = false := by
  obtain rfl := zCa k h
  cases c with
  | false => rfl
  | true => exact absurd (k.2.1 rfl) hn
structure Pres (d : Dk) (g : Nat) (l : List (List UInt8)) (ps : List Pt) : Prop where
  clean : Clean d (flatP ps)
  ok : AllOk ps
  ord : ordB ps = true
  gen : genP ps = g
  recs : recsP ps = l
  last : ∃ ps0, ps = ps0 ++ [⟨4, g, (flatP ps0).length, []⟩]
def Old (s : List UInt8) (g : Nat) : Prop := ∃ qs, Scan s qs ∧ ¬ Corrupt s (flatP qs).length ∧ (ordB qs = true → genP qs < g)
theorem Old.nil (g : Nat) : Old [] g := ⟨[], scan_nil, zC5, fun h => by cases h⟩
theorem Pres.scan {d : Dk} {g : Nat} {l : List (List UInt8)} {ps : List Pt} (p : Pres d g l ps) : Scan (flatP ps) ps := Scan.full p.ok
theorem Pres.old {d : Dk} {g g' : Nat} {l : List (List UInt8)} {ps : List Pt} (p : Pres d g l ps) (h : g < g') : Old (flatP ps) g' := ⟨ps, p.scan, zC5, fun _ => by rw [p.gen]; exact h⟩
theorem Pres.g1 {d : Dk} {g : Nat} {l : List (List UInt8)} {ps : List Pt} (p : Pres d g l ps) : 1 ≤ g ∧ g ≤ 1099511627776 := by
  have hk := p.ok; have ho := p.ord; have hg := p.gen
  cases ps with
  | nil => cases ho
  | cons x l =>
    have hx := hk.cons.1
    have h1 : x.k = 1 := by
      unfold ordB at ho
      by_cases h : x.k = 1
      · exact h
      · simp [h] at ho
    have h2 : genP (x :: l) = x.g := by simp [genP, h1]
    rw [← hg, h2]
    exact ⟨hx.g0, hx.g1⟩
theorem last_mark (ps : List Pt) {g q : Nat} (hq : q = (flatP ps).length) : ∃ ps0, ps ++ [⟨4, g, q, []⟩] = ps0 ++ [⟨4, g, (flatP ps0).length, []⟩] := ⟨ps, by rw [hq]⟩
theorem zDz {d : Dk} {l : List UInt8} (c : Clean d l) : l.length ≤ 1048576 := by have := c.good.len; rw [c.txt] at this; exact this
theorem zFc {g p : Nat} {l : List (List UInt8)} (h0 : 1 ≤ g) (h1 : g ≤ 1099511627776) (hp : p ≤ 1099511627776) (hl : ∀ t ∈ l, t.length ≤ 4096) : (flatP (recP g p l)).length ≤ l.length * 8301 := by
  have := zEi (ps := recP g p l) (zCc h0 h1 hp hl)
  rwa [zB7] at this
structure Ext (ps ext : List Pt) (g : Nat) (l : List (List UInt8)) : Prop where
  ok : AllOk ext
  tl : Tl g ext
  eq : ∃ p q, ext = recP g p l ++ [⟨4, g, q, []⟩] ∧ q = (flatP ps ++ flatP (recP g p l)).length
theorem Pres.more {d : Dk} {g : Nat} {hv l : List (List UInt8)} {ps ext : List Pt} (ok : AllOk ps) (ord : ordB ps = true) (gen : genP ps = g) (recs : recsP ps = hv) (x : Ext ps ext g l) (c : Clean d (flatP ps ++ flatP ext)) : Pres d g (hv ++ l) (ps ++ ext) := by
  obtain ⟨p, q, he, hq⟩ := x.eq
  refine ⟨by rw [zBq]; exact c, ok.app x.ok, zEk ord (by rw [gen]; exact x.tl), by rw [zEj ord, gen], ?_, ?_⟩
  · rw [zBp, recs, he, zBp, zEe]
    simp [recsP]
  · rw [he, ← List.append_assoc]; exact last_mark _ (by rw [zBq]; exact hq)
theorem pres_put {d : Dk} {g : Nat} {hv l : List (List UInt8)} {ps : List Pt} (p : Pres d g hv ps) (hl : ∀ t ∈ l, t.length ≤ 4096) (h4 : l.length ≤ 400) (h0 : l ≠ []) :
    ∃ ext, Ext ps ext g l ∧ WOut d (PutM d g false l).1 (PutM d g false l).2 (flatP ps) ext := by
  have hlen := zDz p.clean
  obtain ⟨g1, g2⟩ := p.g1
  have hsf : d.safeV.toNat = (flatP ps).length := by rw [zCp p.clean.up, p.clean.safe, Int.toNat_natCast]
  have hM : PutM d g false l = writeM d g ((flatP ps).length : Nat) (flatP (recP g (flatP ps).length l)) := by
    unfold PutM
    have hb : (l.any fun s => decide (4096 < s.length)) = false := by
      rw [List.any_eq_false]
      intro t ht
      have := hl t ht
      simp only [decide_eq_true_eq]; omega
    rw [if_neg (by decide), if_neg h0, if_neg (by rw [hb]; simp; omega), if_neg (by rw [p.clean.up]; decide), hsf, p.clean.txt]
  rw [hM]
  have hrl := zFc (g := g) (p := (flatP ps).length) (l := l) g1 g2 (by omega) hl
  have hl4 : l.length * 8301 ≤ 400 * 8301 := Nat.mul_le_mul_right _ h4
  refine ⟨_, ⟨?_, ?_, _, _, rfl, rfl⟩, zFa p.clean g (recP g (flatP ps).length l) fun x hx => ?_⟩
  · refine (zCc g1 g2 (by omega) hl).app fun x hx => ?_
    rw [List.mem_singleton] at hx
    subst hx
    exact zBh g1 g2 (by rw [List.length_append]; omega) 4 (.inr (.inr rfl))
  · exact (Tl.recP g _ l).app (Tl.mark g _)
  · obtain ⟨t, _, rfl⟩ := List.mem_map.1 hx
    exact Nat.le_refl _
theorem zFn {d : Dk} {s : List UInt8} {g : Nat} {l : List (List UInt8)} (c : Clean d s) (hg : g < 1099511627776) (hl : ∀ t ∈ l, t.length ≤ 4096) (hN : l.length ≤ 100000) :
    ((startM d g l).2 = some 5 ∧ (startM d g l).1.down = true ∧ Good (startM d g l).1 ∧ (startM d g l).1.l = s ∧ (startM d g l).1.safe = (s.length : Nat) ∧ 0 ≤ d.fuse) ∨
    ∃ d1 ext, Clean d1 [] ∧ d1.room = d.room ∧ (d.fuse < 0 → d1.fuse < 0) ∧ AllOk ext ∧ (∃ q, q = (flatP (begP (g + 1) 0 l)).length ∧ ext = begP (g + 1) 0 l ++ [⟨4, g + 1, q, []⟩]) ∧ WOut d1 (startM d g l).1 (startM d g l).2 [] ext := by
  obtain ⟨cg, cf, hc⟩ := up_cut c.up c.good 0 (by omega)
  have hM : startM d g l = andK (d.cut 0) fun d1 => writeM d1 (g + 1) 0 (flatP (begP (g + 1) d1.safeV.toNat l)) := rfl
  rw [hM]
  have h0 : ((0 : Nat) : Int) = 0 := rfl
  rw [h0] at hc cg cf
  rcases hc with ⟨h1, h2, h3, h4, h5⟩ | ⟨a, h1, h2, h3, h4, h5⟩
  · right
    have hw : andK (d.cut 0) (fun d1 => writeM d1 (g + 1) 0 (flatP (begP (g + 1) d1.safeV.toNat l))) = writeM (d.cut 0).1 (g + 1) 0 (flatP (begP (g + 1) (d.cut 0).1.safeV.toNat l)) := by
      conv => lhs; unfold andK
      rw [h1]
    rw [hw]
    generalize (d.cut 0).1 = d1 at *
    have hs := c.safe
    have hsf : d1.safe = 0 := by rw [h4]; split <;> omega
    have hcl : Clean d1 [] := ⟨cg, h2, by rw [h3]; rfl, hsf⟩
    have hsv : d1.safeV.toNat = 0 := by rw [zCp h2, hsf]; rfl
    rw [hsv]
    have hb := begP_ok (g := g + 1) (p := 0) (l := l) (by omega) (by omega) (by omega) hl
    have hbl := zEi hb
    rw [zEr] at hbl
    have hbl2 : (l.length + 2) * 8301 ≤ 100002 * 8301 := Nat.mul_le_mul_right _ (by omega)
    refine ⟨d1, begP (g + 1) 0 l ++ [⟨4, g + 1, ([] ++ flatP (begP (g + 1) 0 l)).length, []⟩], hcl, h5, cf, ?_, ⟨([] ++ flatP (begP (g + 1) 0 l)).length, rfl, rfl⟩, ?_⟩
    · refine hb.app fun x hx => ?_
      rw [List.mem_singleton] at hx
      subst hx
      have hp40 : ([] ++ flatP (begP (g + 1) 0 l)).length ≤ 1099511627776 := by rw [List.nil_append]; omega
      exact zBh (g := g + 1) (p := ([] ++ flatP (begP (g + 1) 0 l)).length) (by omega) (by omega) hp40 4 (.inr (.inr rfl))
    · have := zFa hcl (g + 1) (begP (g + 1) 0 l) fun x hx => ?_
      · exact this
      · unfold begP at hx
        rcases List.mem_cons.1 hx with rfl | hx
        · exact Nat.le_refl _
        · rcases List.mem_append.1 hx with hx | hx
          · obtain ⟨t, _, rfl⟩ := List.mem_map.1 hx
            exact Nat.le_refl _
          · rw [List.mem_singleton] at hx; subst hx; exact Nat.le_refl _
  · left
    have hw : andK (d.cut 0) (fun d1 => writeM d1 (g + 1) 0 (flatP (begP (g + 1) d1.safeV.toNat l))) = ((d.cut 0).1, some 5) := by
      conv => lhs; unfold andK
      rw [h1]
    rw [hw]
    exact ⟨rfl, h2, cg, by rw [h3]; exact c.txt, by rw [h4]; exact c.safe, h5⟩
theorem Pres.begun {d : Dk} {g : Nat} {l : List (List UInt8)} {q : Nat} (hq : q = (flatP (begP g 0 l)).length) (hk : AllOk (begP g 0 l ++ [⟨4, g, q, []⟩])) (c : Clean d ([] ++ flatP (begP g 0 l ++ [⟨4, g, q, []⟩]))) : Pres d g l (begP g 0 l ++ [⟨4, g, q, []⟩]) :=
  ⟨by simpa using c, hk, ordB_beg g 0 l (Tl.mark g q), genP_beg g 0 l _, by rw [zBp, zEz]; simp [recsP], last_mark _ hq⟩
theorem tail_pres {d d' : Dk} {g : Nat} {l : List (List UInt8)} {ps zs : List Pt} {e : Option Int} (p : Pres d g l ps) (h : TailR d ps (genP ps) d' e zs) : d' = d ∧ e = none ∧ zs = ps := by
  have hce : cutEnd d ps = (d, none) := by unfold cutEnd; rw [if_neg (by rw [p.clean.txt]; omega)]
  obtain ⟨x, hx, hx4⟩ : ∃ x, ps.getLast? = some x ∧ x.k = 4 := by
    obtain ⟨ps0, rfl⟩ := p.last
    exact ⟨_, List.getLast?_concat .., rfl⟩
  cases h with
  | cutErr h => rw [hce] at h; cases h
  | marked h hl => exact ⟨by rw [hce], rfl, rfl⟩
  | mark h hl hm => obtain ⟨y, hy, hy4⟩ := hl; rw [hx] at hy; cases hy; exact absurd hx4 hy4
  | noMark h hl hm hn => obtain ⟨y, hy, hy4⟩ := hl; rw [hx] at hy; cases hy; exact absurd hx4 hy4
  | back h hl hm hi => obtain ⟨y, hy, hy4⟩ := hl; rw [hx] at hy; cases hy; exact absurd hx4 hy4
theorem open_right {da db da' db' : Dk} {g g' : Nat} {l l' : List (List UInt8)} {ps : List Pt} {e : Option Int} {sw : Bool} (p : Pres db g l ps) (hb : da.down = false) (ho : Old da.l g) (h : OpenR da db da' db' e sw g' l') : da' = da ∧ db' = db ∧ e = none ∧ sw = true ∧ g' = g ∧ l' = l := by
  obtain ⟨qs0, hq, hqn, hqg⟩ := ho
  have hs := p.scan
  rw [← p.clean.txt] at hs
  have hcn : ¬ Corrupt db.l (flatP ps).length := by rw [p.clean.txt]; exact zC5
  have key : ∀ {ps' qs cx cy}, ScanK da.l ps' cx → ScanK db.l qs cy → ps' = qs0 ∧ qs = ps ∧ cx = false ∧ cy = false := fun hx hy => ⟨zCa hx hq, zCa hy hs, zCm hx hq hqn, zCm hy hs hcn⟩
  have hwh : wh false ps = true := by unfold wh; rw [p.ord]; rfl
  cases h with
  | down h => rcases h with h | h
              · rw [hb] at h; cases h
              · rw [p.clean.up] at h; cases h
  | corrupt ps' qs cx cy hu hx hy hbc =>
    obtain ⟨rfl, rfl, rfl, rfl⟩ := key hx hy
    exact absurd hbc (by simp [badC, badX])
  | anew ps' qs cx cy hu hx hy hbc h1 h2 =>
    obtain ⟨rfl, rfl, rfl, rfl⟩ := key hx hy
    rw [hwh] at h2; cases h2
  | left ps' qs cx cy hu hx hy hbc hw hsw ht =>
    obtain ⟨rfl, rfl, rfl, rfl⟩ := key hx hy
    exfalso
    unfold swB at hsw
    rw [hwh, hw] at hsw
    have h1 : ¬ genP ps' < genP qs := by simpa using hsw
    have h2 := hqg (by unfold wh at hw; simpa using hw)
    have := p.gen
    omega
  | right ps' qs cx cy hu hx hy hbc hw hsw ht =>
    obtain ⟨rfl, rfl, rfl, rfl⟩ := key hx hy
    obtain ⟨rfl, rfl, rfl⟩ := tail_pres p ht
    exact ⟨rfl, rfl, rfl, rfl, p.gen, p.recs⟩
theorem zIe {da db da' db' : Dk} {g' : Nat} {l' : List (List UInt8)} {e : Option Int} {sw : Bool} (ca : Clean da []) (cb : Clean db []) (h : OpenR da db da' db' e sw g' l') : da' = da ∧ db' = (startM db 0 []).1 ∧ e = (startM db 0 []).2 ∧ sw = true ∧ g' = 1 ∧ l' = [] := by
  have key : ∀ {s ps c}, ScanK s ps c → s = [] → ps = [] ∧ c = false := fun hx e => by
    subst e
    exact ⟨zCa hx scan_nil, zCm hx scan_nil zC5⟩
  cases h with
  | down h => rcases h with h | h
              · rw [ca.up] at h; cases h
              · rw [cb.up] at h; cases h
  | corrupt ps' qs cx cy hu hx hy hbc =>
    obtain ⟨rfl, rfl⟩ := key hx ca.txt
    obtain ⟨rfl, rfl⟩ := key hy cb.txt
    exact absurd hbc (by simp [badC, badX])
  | anew ps' qs cx cy hu hx hy hbc h1 h2 => exact ⟨rfl, rfl, rfl, rfl, rfl, rfl⟩
  | left ps' qs cx cy hu hx hy hbc hw hsw ht =>
    obtain ⟨rfl, rfl⟩ := key hx ca.txt
    cases hw
  | right ps' qs cx cy hu hx hy hbc hw hsw ht =>
    obtain ⟨rfl, rfl⟩ := key hy cb.txt
    cases hw
theorem sync_ok {d : Dk} (hd : d.down = false) (hf : d.fuse < 0) : d.sync = ({ d with safe := d.l.length }, none) := by
  have ho : d.op = (d, true) := by unfold Dk.op; rw [if_neg (by rw [hd]; decide), if_pos hf]
  unfold Dk.sync
  rw [ho, if_pos rfl]
theorem cut_ok {d : Dk} (hd : d.down = false) (hf : d.fuse < 0) (n : Nat) (hn : n ≤ d.l.length) : d.cut n = ({ d with l := d.l.take n, safe := if (n : Int) < d.safe then (n : Int) else d.safe }, none) := by
  have ho : d.op = (d, true) := by unfold Dk.op; rw [if_neg (by rw [hd]; decide), if_pos hf]
  unfold Dk.cut
  rw [if_neg (by omega), ho, if_pos rfl]
  simp
theorem write_ok {d : Dk} {g : Nat} {cut : Int} {text : List UInt8} (hd : d.down = false) (hf : d.fuse < 0) (h : ((d.l.length + text.length + (sealP ⟨4, g, (d.l ++ text).length, []⟩).length : Nat) : Int) ≤ d.room) : (writeM d g cut text).2 = none := by
  have h1 := Dk.append_ok (s := text) hd hf (by omega)
  unfold writeM andK
  rw [h1]
  simp only
  unfold markM andK
  rw [sync_ok (by exact hd) (by exact hf)]
  simp only
  have hsv : (⟨d.l ++ text, ((d.l ++ text).length : Nat), d.room, d.fuse, d.down⟩ : Dk).safeV.toNat = (d.l ++ text).length := by
    rw [zCp (by exact hd)]; exact Int.toNat_natCast _
  rw [hsv, Dk.append_ok (by exact hd) (by exact hf) (by simp only [List.length_append] at h ⊢; omega)]
  simp only
  unfold endK
  rw [sync_ok (by exact hd) (by exact hf)]
  rfl
end Go.Proofs.Ytblikpbaeippaaa


namespace Go.Proofs.Ytblikpbaeippaaa.Px
set_option linter.unusedVariables false
set_option linter.unusedSimpArgs false
open Go.RowKit
def firstN : List Unit → Code → Code
  | _ :: l, .seq x y => .seq x (firstN l y)
  | _, _ => .skip
def restN : List Unit → Code → Code
  | [], c => c
  | _ :: l, .seq _ y => restN l y
  | _ :: _, c => c
theorem zDg (u : Unit) (l : List Unit) (x y : Code) : firstN (u :: l) (.seq x y) = .seq x (firstN l y) := rfl
theorem zDp (c : Code) : firstN [] c = .skip := rfl
theorem zDt (u : Unit) (l : List Unit) (x y : Code) : restN (u :: l) (.seq x y) = restN l y := rfl
theorem zDm (c : Code) : restN [] c = c := rfl
def isSeqs : List Unit → Code → Bool
  | [], _ => true
  | _ :: l, .seq _ y => isSeqs l y
  | _, _ => false
section
variable {P : Program} {w0 : World} {N : Nat}
theorem PW_of {c : Code} {f : Fr} {h : PH} {Q : Exit → Fr → PH → Prop} (hok : codeOk N c = true) (hv : vcC P w0 N c f h Q) : PW P w0 N c f h Q := zBv hok hv
theorem zC3 : ∀ (l : List Unit) {c : Code} {f : Fr} {h : PH} {Q : Exit → Fr → PH → Prop} (M : Fr → PH → Prop), isSeqs l c = true → codeOk N c = true → vcC P w0 N (firstN l c) f h (thenK M Q) → (∀ f' h', M f' h' → PW P w0 N (restN l c) f' h' Q) → PW P w0 N c f h Q
  | [], c, f, h, Q, M, _, hok, hv, hr => hr f h hv
  | u :: l, .seq x y, f, h, Q, M, hs, hok, hv, hr => by
    simp only [codeOk, Bool.and_eq_true] at hok
    intro a w fs s
    have hv' : vc P w0 N x f h (thenC P w0 N (firstN l y) (thenK M Q)) := hv
    refine wp_seq (wp_mono (zBv hok.1 hv' a w fs s) ?_)
    rintro e a' w' ⟨f', h', q, fs', s'⟩
    cases e
    case normal => exact zC3 l (c := y) M hs hok.2 q (fun f2 h2 m => hr f2 h2 m) a' w' fs' s'
    all_goals exact ⟨f', h', q, fs', s'⟩
  | _ :: _, .skip, _, _, _, _, hs, _, _, _ => by simp [isSeqs] at hs
  | _ :: _, .cond .., _, _, _, _, hs, _, _, _ => by simp [isSeqs] at hs
  | _ :: _, .region .., _, _, _, _, hs, _, _, _ => by simp [isSeqs] at hs
  | _ :: _, .loop .., _, _, _, _, hs, _, _, _ => by simp [isSeqs] at hs
  | _ :: _, .block .., _, _, _, _, hs, _, _, _ => by simp [isSeqs] at hs
  | _ :: _, .exit .., _, _, _, _, hs, _, _, _ => by simp [isSeqs] at hs
  | _ :: _, .ret, _, _, _, _, hs, _, _, _ => by simp [isSeqs] at hs
theorem PW_region3 {id : Nat} {o1 o2 o : Oper} {f : Fr} {h : PH} {Q : Exit → Fr → PH → Prop} (hok : opsOk N [o1, o2, o] = true) (hg : o.guard = none) (hv : vcM P w0 #[o1, o2, o] [o1, o2] f h (fun f' h' => OW P w0 N o f' h' (Q .normal))) : PW P w0 N (.region id #[o1, o2, o] false) f h Q := by
  intro a w fs s
  refine wp_region_list ?_
  simp only [opsOk, List.all_cons, Bool.and_eq_true, List.all_nil, and_true] at hok
  have key : ∀ (l : List Oper) (f : Fr) (h : PH), opsOk N l = true → vcL P w0 #[o1, o2, o] l f h (fun f' h' => OW P w0 N o f' h' (Q .normal)) → ∀ a w, FSat f a N → Sim w0 h w → wpList P #[o1, o2, o] (fun e a' w' => ∃ f' h', Q e f' h' ∧ FSat f' a' N ∧ Sim w0 h' w') (l ++ [o]) a w := by
    intro l
    induction l with
    | nil =>
      intro f h _ hv a w fs s
      refine wpList_step fun K' hK' => ?_
      rw [if_pos (by simp [Region.wanted, hg])]
      exact hv a w fs s K' _ fun f' h' a' w' q r t => hK' _ _ ⟨f', h', q, r, t⟩
    | cons p l ih =>
      intro f h hok hv a w fs s
      simp only [opsOk, List.all_cons, Bool.and_eq_true] at hok
      refine wpList_step fun K' hK' => ?_
      rcases zBr (N := N) hv with ⟨h1, h2⟩ | ⟨h1, h2⟩
      · rw [if_pos (h2 a fs)]
        exact zC8 hok.1 h1 a w fs s K' _ fun f' h' a' w' q r t => hK' _ _ (ih f' h' hok.2 q a' w' r t)
      · rw [if_neg (by rw [h2 a fs]; simp)]
        exact hK' _ _ (ih _ h hok.2 h1 _ w (fs.put hok.1 _) s)
  exact key [o1, o2] f h (by simp [opsOk, hok.1, hok.2.1]) hv a w fs s
theorem OW_ptrNe {d : Option Tmp} {ty t u : TypeId} {pos : String} {af : Array Edge} {x y : Tmp} {a b la lb n : Nat} {xa xb : List Value} {f : Fr} {h : PH} {K : Fr → PH → Prop} (hd : dstOk N d = true) (hu : ptrB P t = true) (hz : szOf P (P.pointee t) = some n) (hn : n ≠ 0) (hx : f x = some (.pointer (some ⟨a, 0, none⟩))) (hy : f y = some (.pointer (some ⟨b, 0, none⟩)))
    (ha : h.m a = some ⟨xa, la⟩) (hb : h.m b = some ⟨xb, lb⟩) (hla : 0 < la) (hlb : 0 < lb) (hab : a ≠ b) (hk : K (f.put d (.bool false)) h) : OW P w0 N ⟨d, .binOp .eql t (.tmp x) (.tmp y) u, ty, pos, af, none⟩ f h K := by
  refine zDy (v := .bool false) hd (fun ac w fs s => ?_) hk
  have e1 : ac.eval (.tmp x) = .pointer (some ⟨a, 0, none⟩) := zAr (x := .tmp x) fs hx
  have e2 : ac.eval (.tmp y) = .pointer (some ⟨b, 0, none⟩) := zAr (x := .tmp y) fs hy
  obtain ⟨ca, ta, lo, hi, hc, g1, g2, g3, g4⟩ : BCells w a ⟨xa, la⟩ := (s.sat _ _ ha).2
  obtain ⟨cb, tb, lo', hi', hc', g1', g2', g3', g4'⟩ : BCells w b ⟨xb, lb⟩ := (s.sat _ _ hb).2
  have hsz := run_sizeOf (P := P) hz w
  have hue := zFs hu
  have hne : (⟨a, 0, none⟩ : Addr) ≠ ⟨b, 0, none⟩ := fun e => hab (by injection e)
  simp only at g1 g1'
  have hsa : (sameAddr ⟨a, 0, none⟩ ⟨b, 0, none⟩).run P w = .ok false w := by
    have hfa : ∀ o, w.frozen? ⟨a, o, none⟩ = false := fun o => by simp [World.frozen?, hc]; omega
    have hfb : ∀ o, w.frozen? ⟨b, o, none⟩ = false := fun o => by simp [World.frozen?, hc']; omega
    simp [sameAddr, hab, hfa, hfb, hc, hc', noView, viewAt, World.shape?, mayBeOne, stringish]
  have hrun : (binS .eql t (.tmp x) (.tmp y) (.pointer (some ⟨a, 0, none⟩)) (.pointer (some ⟨b, 0, none⟩))).run P w = .ok (.bool false) w := by
    have h1 : ∀ d, (Op.equalIn (d + 1) t (.pointer (some ⟨a, 0, none⟩)) (.pointer (some ⟨b, 0, none⟩))).run P w = .ok false w := fun d => by
      simp [Op.equalIn, run_underlying hue, hsz, hn, hsa]
    unfold binS eqGuard
    simp only [binOp]
    simp [Op.equal, Op.maxDepth, h1 9999]
  have hex : execOp ac.eval ⟨d, .binOp .eql t (.tmp x) (.tmp y) u, ty, pos, af, none⟩ = (do pure (Next.value (← binS .eql t (.tmp x) (.tmp y) (ac.eval (.tmp x)) (ac.eval (.tmp y))))) := rfl
  rw [hex, e1, e2]
  simp only [Sem.run_bind, hrun, Result.andThen_ok, Sem.run_pure]
theorem Calls_bodyW {h : PH} {g : FuncId} {fn : Func} {c : Code} {args : List Value} {R : Value → PH → Prop} (hf : P.funcs[g]? = some fn) (hb : fn.body = some c) (N : Nat) (hN : fn.ntmps = N) (hn : Nat.ble args.length N = true)
    (rs : List ResultVar) (hrs : fn.results = rs.toArray) (hv : PW P w0 N c (Fr.args args N) h (vcRet P w0 rs (fun v h' => ∃ h2, PH.Le h2 h' ∧ R v h2))) : ∀ w, Sim w0 h w → Calls P g args.toArray w fun e w' => ∃ v h', e = .returned v ∧ R v h' ∧ Sim w0 h' w' := by
  subst hN
  have hrs' : rs = fn.results.toList := by rw [hrs]
  subst hrs'
  intro w s
  refine calls_of_wp hf hb (wp_mono (hv _ w (FSat.args (Nat.le_of_ble_eq_true hn)) s) ?_)
  rintro e a' w' ⟨f', h', q, fs, s'⟩
  have key : rvals P w0 f' h' fn.results.toList (fun vs => ∃ h2, PH.Le h2 h' ∧ R (asOne vs) h2) → a'.defers = [] ∧ ∃ v, (results fn a'.tmps).run P w' = .ok v w' ∧ ∃ v' h'', Ending.returned v = .returned v' ∧ R v' h'' ∧ Sim w0 h'' w' := by
    intro q
    obtain ⟨vs, ⟨h2, hl, hR⟩, h3⟩ := zE7 (N := fn.ntmps) q
    refine ⟨fs.defers, asOne vs, ?_, asOne vs, h2, rfl, hR, s'.weak hl⟩
    have h4 := h3 a' w' fs s'
    unfold results
    rw [Array.mapM_eq_mapM_toList]
    simp only [map_eq_pure_bind, bind_assoc, pure_bind, Sem.run_bind]
    erw [h4]
    simp only [Result.andThen_ok]
    unfold asOne
    rcases vs with _ | ⟨v, _ | ⟨u, vs⟩⟩ <;> simp [Sem.run_pure]
  cases e
  case normal => exact key q
  case ret => exact key q
  all_goals exact q.elim
theorem PCalls_bodyW {h : PH} {g : FuncId} {fn : Func} {c : Code} {args : List Value} {R : Value → PH → Prop} (hf : P.funcs[g]? = some fn) (he : entered P g = true) (hb : fn.body = some c) (N : Nat) (hN : fn.ntmps = N) (hn : Nat.ble args.length N = true)
    (rs : List ResultVar) (hrs : fn.results = rs.toArray) (hv : PW P w0 N c (Fr.args args N) h (vcRet P w0 rs (fun v h' => ∃ h2, PH.Le h2 h' ∧ R v h2))) : PCalls P w0 g args h R := fun w s => .inl ⟨zIx he _ w, Calls_bodyW hf hb N hN hn rs hrs hv w s⟩
end
end Go.Proofs.Ytblikpbaeippaaa.Px

